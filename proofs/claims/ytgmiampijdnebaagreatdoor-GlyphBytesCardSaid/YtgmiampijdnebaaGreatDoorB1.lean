/-
  Frames for a call that builds maps of slices of codes, and one law for a range over a function whose body only goes on. No conditions.
-/
import Derived.Test.YtgmiampijdnebaaGreatDoorRows
import Derived.RangeFuncNested
import Derived.RangeFuncBound
import Derived.RangeFuncCalls
import Derived.RangeFuncLeaves
import Derived.RangeFuncBox
import Derived.Shelf.Abstract
import Derived.WalkKit
import Derived.OwnWalkIn
import Derived.TacticsInMore
import Derived.LoopNIn
import Derived.LoopIn
namespace Go.Proofs.YtgmiampijdnebaaGreatDoor
open Go.RowKit Go.Shelf

/-- What no step of the building turns: all but maps and rows of codes. -/
def stillObj : Obj → Bool
  | .map .. => false
  | .cells _ t _ => t != 30
  | _ => true

/-- What may turn beside the building's own memory: what is no map and no cells, and boxes of strings. -/
def outObj : Obj → Bool
  | .map .. => false
  | .cells _ t _ => t == 9
  | _ => true

/-- The frame of the building: whatever is still lies as it lay. -/
structure Fr (W W' : World) : Prop where
  size : W.heap.size ≤ W'.heap.size
  same : ∀ (k : Nat) (o : Obj), W.heap[k]? = some o → stillObj o = true → W'.heap[k]? = some o

theorem Fr.refl (W : World) : Fr W W := ⟨Nat.le_refl _, fun _ _ h _ => h⟩
theorem Fr.trans {A B C : World} (h : Fr A B) (k : Fr B C) : Fr A C :=
  ⟨Nat.le_trans h.size k.size, fun i o hi ho => k.same i o (h.same i o hi ho) ho⟩
theorem Fr.grown {W W' : World} {row : Option Nat} (hg : W.grownBy W' row) (hr : ∀ r, row = some r → ∃ o, W.heap[r]? = some o ∧ stillObj o = false) : Fr W W' := by
  refine ⟨hg.size, fun k o hk ho => ?_⟩
  by_cases e : some k = row
  · obtain ⟨o', ho', hs⟩ := hr k e.symm
    rw [hk] at ho'; cases ho'; rw [ho] at hs; cases hs
  · exact (hg.block k (Array.getElem?_eq_some_iff.1 hk).1 e).trans hk
theorem Fr.alloc (W : World) (o : Obj) : Fr W (W.alloc o) := Fr.grown (World.grownBy_alloc W o none) (by simp)
theorem Fr.drew (W : World) : Fr W W.drew := ⟨Nat.le_refl _, fun _ _ h _ => h⟩
theorem Fr.below {W W' : World} (h : Below W.heap.size W W') : Fr W W' :=
  ⟨h.size, fun k _ hk _ => (h.block k (Array.getElem?_eq_some_iff.1 hk).1).trans hk⟩

/-- A relation that what turns beside the building does not touch. -/
def Abid {β : Type} (B : Nat) (I : β → World → Prop) : Prop :=
  ∀ s W W' row, I s W → W.grownBy W' row → (∀ r, row = some r → B ≤ r ∧ ∃ o, W.heap[r]? = some o ∧ outObj o = true) → I s W'

variable {B : Nat}
theorem Abid.alloc {β : Type} {I : β → World → Prop} (h : Abid B I) {s : β} {W : World} (o : Obj) (hs : I s W) : I s (W.alloc o) :=
  h s W _ none hs (World.grownBy_alloc W o none) (by simp)
theorem Abid.putObj {β : Type} {I : β → World → Prop} (h : Abid B I) {s : β} {W : World} {l : Nat} {o : Obj} (o' : Obj) (hs : I s W) (hB : B ≤ l) (hl : W.heap[l]? = some o) (ho : outObj o = true) : I s (W.putObj l o') :=
  h s W _ (some l) hs (grownBy_putObj' W l o') (fun r e => by cases e; exact ⟨hB, o, hl, ho⟩)
theorem Abid.and {β : Type} {I J : β → World → Prop} (h : Abid B I) (k : Abid B J) : Abid B (fun s W => I s W ∧ J s W) :=
  fun s W W' row hs hg hr => ⟨h s W W' row hs.1 hg hr, k s W W' row hs.2 hg hr⟩


/-- What the iterator may turn: boxes of strings alone. -/
def boxObj : Obj → Bool
  | .cells _ t _ => t == 9
  | _ => false
theorem outObj_of_box {o : Obj} (h : boxObj o = true) : outObj o = true := by
  cases o <;> simp [boxObj, outObj] at *
  exact h
def AbidB {β : Type} (B : Nat) (I : β → World → Prop) : Prop :=
  ∀ s W W' row, I s W → W.grownBy W' row → (∀ r, row = some r → B ≤ r ∧ ∃ o, W.heap[r]? = some o ∧ boxObj o = true) → I s W'
theorem Abid.box {β : Type} {I : β → World → Prop} (h : Abid B I) : AbidB B I :=
  fun s W W' row hs hg hr => h s W W' row hs hg (fun r e => by obtain ⟨hB, o, ho, hb⟩ := hr r e; exact ⟨hB, o, ho, outObj_of_box hb⟩)
theorem AbidB.alloc {β : Type} {I : β → World → Prop} (h : AbidB B I) {s : β} {W : World} (o : Obj) (hs : I s W) : I s (W.alloc o) :=
  h s W _ none hs (World.grownBy_alloc W o none) (by simp)

theorem Abid.fr {β : Type} {w : World} (hB : w.heap.size ≤ B) : Abid B (fun (_ : β) W => Fr w W) := fun _ W W' row hs hg hr =>
  ⟨Nat.le_trans hs.size hg.size, fun k o hk ho => (hg.block k (Nat.lt_of_lt_of_le (Array.getElem?_eq_some_iff.1 hk).1 hs.size) (fun e => by
    have := (hr k e.symm).1
    have := (Array.getElem?_eq_some_iff.1 hk).1
    omega)).trans (hs.same k o hk ho)⟩
theorem Abid.boxed {β : Type} {b : Nat} {t : TypeId} {v : Value} (ht : t ≠ 9) : Abid B (fun (_ : β) W => Boxed W b t v) := fun _ W W' row hs hg hr =>
  hs.kept hg (fun e => by
    obtain ⟨_, o, ho, hb⟩ := hr b e.symm
    rw [show W.heap[b]? = _ from hs] at ho
    cases ho
    simp [outObj] at hb
    exact ht hb)
theorem Abid.pure {β : Type} (p : β → Prop) : Abid B (fun s (_ : World) => p s) := fun _ _ _ _ hs _ _ => hs

variable {F : Fence} {n : Nat} {P : Program}

/-- A RANGE OVER A FUNCTION THAT HANDS OVER xs, ONE BEHIND THE OTHER, BY A BODY THAT ONLY GOES ON. The iterator may turn boxes of strings; the body keeps what is still. -/
theorem rangeFunc_pass {α : Type} {g : Operand} {ps : Array Tmp} {assign body : Code} {Q : Exit → Act → World → Prop} {a : Act} {w : World}
    (hro : F.round = none) (h1 : 1 ≤ n) {gf : Nat} {lb : Array Value} (hg : a.eval g = .func (.func gf) #[] lb) (hFg : F.fn gf) (eg : ∀ args w, (callFunc gf args).run P w = .ok (.enter gf args) w)
    {encs : α → Array Value} (xs : List α)
    (hseq : ∀ (l : Nat) (J : List α → World → Prop) (W : World), Below w.heap.size w W → AbidB B J →
      (∀ pre x W1, J pre W1 → pre ++ [x] <+: xs → YieldAt F (n - 1 - 1) P l (encs x) W1 fun e W' => e = .returned (.bool true) ∧ J (pre ++ [x]) W' ∧ Fr W1 W') →
      J [] W → CallsIn F (n - 1) P gf (#[.func (.yield l) #[] #[]] ++ lb) W fun e W' => (∃ v, e = .returned v) ∧ J xs W')
    (hps : ∀ x, (encs x).size = ps.size)
    (hB : B ≤ w.heap.size) (I : List α → World → Prop) (hI : Abid B I) (h0 : I [] w) (a₁ : α → Act)
    (hassign : ∀ (l : Nat) (x : α) (W : World) (K : Act → World → Prop), K (a₁ x) W →
      assign.wpIn (F.inRound l) (n - 1 - 1) P (Exit.then K (fun _ _ _ => False)) { tmps := (ps.zip (encs x)).foldl (fun t (p, v) => t.setIfInBounds p v) a.tmps, defers := [] } W)
    (hbody : ∀ (l : Nat) (pre : List α) (x : α) (W : World), I pre W → pre ++ [x] <+: xs → body.wpIn (F.inRound l) (n - 1 - 1) P (fun e _ W' => e = .normal ∧ Fr W W' ∧ I (pre ++ [x]) W') (a₁ x) W)
    (hdone : ∀ (D : Nat) (W : World), w.heap.size ≤ D → I xs W → W.heap[D]? = some (.deferred (some [])) → Q .normal { a with defers := { target := .collected D, args := #[] } :: a.defers } W) :
    (Code.rangeFunc g ps assign body).wpIn F n P Q a w := by
  refine wpIn_rangeFunc ?_
  intro fn hfn
  rw [hro]
  obtain ⟨rec, hrec⟩ : ∃ rec : LoopState → Option Code → Loop, rec = fun st pe => { state := st, pending := pe, fn, tmps := a.tmps, params := ps, assign, body, defers := w.heap.size } := ⟨_, rfl⟩
  obtain ⟨W1, hW1⟩ : ∃ W1, (w.alloc (.deferred (some []))).alloc (.loop (rec .ready none)) = W1 := ⟨_, rfl⟩
  have hL1 : W1.heap[w.heap.size + 1]? = some (.loop (rec .ready none)) := by
    rw [← hW1]; have := World.alloc_heap_new (w.alloc (.deferred (some []))) (.loop (rec .ready none)); rwa [World.size_alloc] at this
  have hK1 : W1.heap[w.heap.size]? = some (.deferred (some [])) := by
    rw [← hW1]; exact (Below.heap_alloc _ _ _ (by simp)).trans (World.alloc_heap_new w _)
  have hI1 : I [] W1 := by rw [← hW1]; exact hI.alloc _ (hI.alloc _ h0)
  have hb1 : Below w.heap.size w W1 := by
    rw [← hW1]; exact ((Below.refl _ w).alloc (Nat.le_refl _) _).alloc (by simp) _
  refine ⟨w.heap.size + 1, [{ target := .collected w.heap.size, args := #[] }], W1, { target := .fn (.func gf) lb, args := #[.func (.yield (w.heap.size + 1)) #[] #[]] }, W1, gf,
    #[.func (.yield (w.heap.size + 1)) #[] #[]] ++ lb, W1, ?_, ?_, ?_, ?_, fun _ => h1, ?_⟩
  · rw [← hW1, hrec]; exact run_enterLoop_outer _ _ _ _ _
  · simp only [resolve, hg]
    simp [go_sem]
  · intro f' hf'; simp [Target.leads] at hf'; subst hf'; exact hFg
  · simp [invoke, go_sem, eg]
  · refine (hseq (w.heap.size + 1)
      (fun pre W => I pre W ∧ W.heap[w.heap.size + 1]? = some (.loop (rec .ready none)) ∧ W.heap[w.heap.size]? = some (.deferred (some [])))
      W1 hb1 ?_ ?_ ⟨hI1, hL1, hK1⟩).mono ?_
    · -- the two records are no box of a string
      rintro s A B row ⟨hi, hl, hk⟩ hgr hr
      have other : ∀ {k : Nat} {o : Obj}, A.heap[k]? = some o → boxObj o = false → some k ≠ row := fun {k o} hk0 ho e => by
        obtain ⟨_, o', ho', hb⟩ := hr k e.symm
        rw [hk0] at ho'; cases ho'; rw [ho] at hb; cases hb
      exact ⟨hI.box s A B row hi hgr hr, (hgr.block _ (Array.getElem?_eq_some_iff.1 hl).1 (other hl rfl)).trans hl, (hgr.block _ (Array.getElem?_eq_some_iff.1 hk).1 (other hk rfl)).trans hk⟩
    · -- one round
      rintro pre x W ⟨hi, hl, hk⟩ hpre
      have hlt : w.heap.size + 1 < W.heap.size := (Array.getElem?_eq_some_iff.1 hl).1
      have hy := run_yield (P := P) (args := encs x) hl (by rw [hrec]; exact hps x)
      rw [hrec] at hy
      refine ⟨fn, _, assign, body, hy, roundIn_of_wpIn hfn (hassign _ x W _ ⟨_, run_beginRound hl (by rw [hrec]), ?_⟩)⟩
      have hl2 : (W.putObj (w.heap.size + 1) (.loop { rec .ready none with state := .busy })).heap[w.heap.size + 1]? = some (.loop { rec .ready none with state := .busy }) := World.putObj_heap_same hlt
      have hk2 : (W.putObj (w.heap.size + 1) (.loop { rec .ready none with state := .busy })).heap[w.heap.size]? = some (.deferred (some [])) := (World.putObj_heap_other (by omega)).trans hk
      refine wpIn_mono (hbody _ pre x _ (hI.putObj _ hi (by omega) hl rfl) hpre) ?_
      rintro e a3 W3 ⟨rfl, hf3, hi3⟩
      have hl3 := hf3.same _ _ hl2 rfl
      have hk3 := hf3.same _ _ hk2 rfl
      have hr3 := run_endRound (P := P) none hl3
      rw [hrec] at hr3
      refine ⟨_, _, hr3, rfl, ⟨hI.putObj _ hi3 (by omega) hl3 rfl, ?_, ?_⟩, ?_⟩
      · rw [hrec]; exact World.putObj_heap_same (Array.getElem?_eq_some_iff.1 hl3).1
      · exact (World.putObj_heap_other (by omega)).trans hk3
      · -- the round's own record is back as it was
        refine ⟨Nat.le_trans (by simpa using hf3.size) (by simp), fun k o hko ho => ?_⟩
        by_cases e : k = w.heap.size + 1
        · subst e
          rw [hl] at hko; cases hko
          rw [hrec]; exact World.putObj_heap_same (Array.getElem?_eq_some_iff.1 hl3).1
        · exact (World.putObj_heap_other e).trans (hf3.same k o ((World.putObj_heap_other e).trans hko) ho)
    · -- behind the iterator
      rintro e W2 ⟨⟨v, rfl⟩, hi, hl, hk⟩
      refine ⟨none, _, by have := run_endLoop (P := P) hl (by rw [hrec]; simp); rw [hrec] at this; exact this, hdone _ _ (Nat.le_refl _) (hI.putObj _ hi (by omega) hl rfl) ((World.putObj_heap_other (by omega)).trans hk)⟩

end Go.Proofs.YtgmiampijdnebaaGreatDoor
