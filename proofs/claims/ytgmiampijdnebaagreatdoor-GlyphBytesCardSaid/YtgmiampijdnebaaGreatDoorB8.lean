/-
  The closures of glyph.New, and what is done with each code of the texts. No conditions but on sizes.
-/
import Derived.Test.YtgmiampijdnebaaGreatDoorB5
import Derived.Test.YtgmiampijdnebaaGreatDoorB7
namespace Go.Proofs.YtgmiampijdnebaaGreatDoor
open Go.RowKit Go.Shelf

theorem State.abid {B : Nat} (E : Env) (hB : E.w0.heap.size ≤ B) : Abid B (State E) := by
  intro G W W' row h hg hr
  have hout : ∀ {k o}, W.heap[k]? = some o → outObj o = false → some k ≠ row := fun {k o} hk ho e => by
    obtain ⟨_, o', ho', hb'⟩ := hr k e.symm
    rw [hk] at ho'; cases ho'; rw [ho] at hb'; cases hb'
  obtain ⟨es, clock, hb⟩ := h.rm.map
  exact ⟨h.bel.grown hg h.bel.size (fun j e => Nat.le_trans hB (hr j e).1), h.ls, h.lm, h.lr, h.ne,
    (hg.block _ (Array.getElem?_eq_some_iff.1 h.str).1 (hout h.str (by simp [outObj]))).trans h.str,
    h.cm.kept hg (fun r e => (hr r e).2), h.rm.kept hg (hout hb rfl)⟩

/-- The closures' boxes: the index, and the set. -/
def Boxes (E : Env) (bx bset set : Nat) (W : World) : Prop :=
  Boxed W bx 33 (.pointer (some ⟨E.bs, 0, none⟩)) ∧ Boxed W bset 3 (.int .i64 set)

theorem Boxes.fr {E : Env} {bx bset set : Nat} {W W' : World} (h : Boxes E bx bset set W) (hf : Fr W W') : Boxes E bx bset set W' :=
  ⟨hf.boxed (by decide) h.1, hf.boxed (by decide) h.2⟩
theorem Boxes.abid {β : Type} {B : Nat} (E : Env) (bx bset set : Nat) : Abid B (fun (_ : β) W => Boxes E bx bset set W) :=
  Abid.and (Abid.boxed (by decide)) (Abid.boxed (by decide))

set_option maxHeartbeats 400000 in
theorem in_any (set bx : Nat) (w : World) :
    Calls Tryz.prog 12 #[.int .i64 set, .pointer (some ⟨bx, 0, none⟩)] w fun e w' =>
      e = .returned (.func (.func 13) #[] #[.pointer (some ⟨bx, 0, none⟩), .pointer (some ⟨w.heap.size, 0, none⟩)]) ∧ w' = w.alloc (.cells #[.int .i64 set] 3) := by
  go_enter Tryz.func12, Tryz.ntmps12
  go_wp2
  go_ret
  exact ⟨rfl, rfl⟩

set_option maxHeartbeats 400000 in
theorem do_any (E : Env) (G : List (Code × Nat)) (bx bset set n r : Nat) (hs : set < 1000) (hn : n < 1000000000) (hr : r ≤ 2147483647) (hG : G.length < 100000) (W : World) (h : State E G W) (hb : Boxes E bx bset set W) :
    Calls Tryz.prog 13 (#[.int .i64 n, .int .i32 r] ++ #[.pointer (some ⟨bx, 0, none⟩), .pointer (some ⟨bset, 0, none⟩)]) W fun e W' =>
      e = .returned (.tuple #[]) ∧ (State E (G ++ [((set, n), r)]) W' ∧ Boxes E bx bset set W') ∧ Fr W W' := by
  have hadd := add_any E G set n r (by omega) hn hr hG W h
  have c1 := hb.1.cell
  have c2 := hb.2.cell
  clear h
  show Calls _ _ #[.int .i64 n, .int .i32 r, .pointer (some ⟨bx, 0, none⟩), .pointer (some ⟨bset, 0, none⟩)] _ _
  go_enter Tryz.func13, Tryz.ntmps13
  go_wp2_with (go_at_call 14; refine hadd.mono ?_; rintro e w' ⟨rfl, hst, hf⟩)
  go_end0
  exact ⟨rfl, ⟨hst, hb.fr hf⟩, hf⟩

/-- The glyphs of a set's text. -/
def tag (set : Nat) (l : List (Nat × Nat)) : List (Code × Nat) := l.map fun x => ((set, x.1), x.2)
/-- Codes and characters that fit. -/
def okCodes (l : List (Nat × Nat)) : Bool := l.all fun x => decide (x.1 < 1000000000 ∧ x.2 ≤ 2147483647)

set_option maxHeartbeats 1000000 in
/-- latin.Each, with a closure of glyph.New. -/
theorem each_set (E : Env) (G : List (Code × Nat)) (bx bset set : Nat) (hs : set < 1000) (s : ByteArray) (hok : okText s = true) (hoc : okCodes (textCodes s) = true) (hG : G.length + (textCodes s).length < 100000)
    (hGl : Glob E.w0) (W : World) (h : State E G W) (hb : Boxes E bx bset set W) :
    Calls Tryz.prog 25 #[.string s, .func (.func 13) #[] #[.pointer (some ⟨bx, 0, none⟩), .pointer (some ⟨bset, 0, none⟩)]] W fun e W' =>
      e = .returned (.tuple #[]) ∧ State E (G ++ tag set (textCodes s)) W' ∧ Boxes E bx bset set W' ∧ Fr W W' := by
  have hel := h.bel.size
  refine (each_in s hok W (fun pre W => State E (G ++ tag set pre) W ∧ Boxes E bx bset set W) (fun B hB => ?_) (fun pre W hi => hGl.below hi.1.bel) 13 _ (enters_of Tryz.func13 (by kernel_rfl) rfl) ?_ ⟨by simpa [tag] using h, hb⟩).mono ?_
  · exact Abid.and (fun s W W' row hs hg hr => State.abid E (by omega) _ W W' row hs hg hr) (Abid.and (Abid.boxed (by decide)) (Abid.boxed (by decide)))
  · intro pre a r W' hi hp
    have hm : (a, r) ∈ textCodes s := hp.subset (by simp)
    have hx := List.all_eq_true.1 hoc _ hm
    simp only [decide_eq_true_eq] at hx
    have hl := hp.length_le
    simp at hl
    refine (do_any E (G ++ tag set pre) bx bset set a r hs hx.1 hx.2 (by simp [tag]; omega) W' hi.1 hi.2).mono ?_
    rintro e W2 ⟨rfl, ⟨h1, h2⟩, hf⟩
    exact ⟨rfl, ⟨by simpa [tag] using h1, h2⟩, hf⟩
  · rintro e W2 ⟨rfl, ⟨h1, h2⟩, hf⟩
    exact ⟨rfl, h1, h2, hf⟩
end Go.Proofs.YtgmiampijdnebaaGreatDoor
