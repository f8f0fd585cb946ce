/-
  A map from characters to rows of codes, told by the list of what was put in. No conditions.
-/
import Derived.Test.YtgmiampijdnebaaGreatDoorB1
import Derived.Maps.OwnRows
import Derived.Maps.Own
import Derived.Lib.Hide
namespace Go.Proofs.YtgmiampijdnebaaGreatDoor
open Go.RowKit Go.Shelf Go.ChangeMaps Go.MapKept
open Go.WideElems (Fit)

abbrev Code := Nat × Nat
/-- A code's cells. -/
def encC (c : Code) : List Value := [.int .i64 (c.1 : Nat), .int .i64 (c.2 : Nat)]
def cellsOf (l : List Code) : List Value := l.flatMap encC
theorem cellsOf_snoc (l : List Code) (c : Code) : cellsOf (l ++ [c]) = cellsOf l ++ encC c := by simp [cellsOf]
theorem cellsOf_length (l : List Code) : (cellsOf l).length = l.length * 2 := by
  induction l with
  | nil => rfl
  | cons x l ih => simp [cellsOf, encC] at ih ⊢; omega

/-- The codes of a character, among what was put in. -/
def codesOf (G : List (Code × Nat)) (r : Nat) : List Code := (G.filter fun x => x.2 == r).map (·.1)
theorem codesOf_snoc (G : List (Code × Nat)) (c : Code) (q r : Nat) : codesOf (G ++ [(c, q)]) r = if q = r then codesOf G r ++ [c] else codesOf G r := by
  unfold codesOf
  rw [List.filter_append]
  by_cases h : q = r <;> simp [h]

/-- Of an element nothing is read. -/
def Rt : Value → Option (DataW Unit × List MemPlace) := fun _ => some (.nil, [])

/-- Block bm is the map of G: at each character a row of its codes, no two in one block. -/
def CMap (W : World) (base bm : Nat) (G : List (Code × Nat)) : Prop :=
  ∃ es clock, W.heap[bm]? = some (.map es clock) ∧ Fit Tryz.prog 21 Rt es clock ∧ es.size ≤ G.length ∧
    (∀ x ∈ es.toList, ∃ r : Nat, x.key = .int .i32 r ∧ r ≤ 2147483647 ∧ codesOf G r ≠ [] ∧ W.ownsRow base 30 2 x.val (codesOf G r).length (cellsOf (codesOf G r))) ∧
    (∀ r, codesOf G r ≠ [] → ∃ x ∈ es.toList, x.key = .int .i32 (r : Nat)) ∧
    (∀ x ∈ es.toList, ∀ y ∈ es.toList, x.key ≠ y.key → x.val.ownBlock ≠ y.val.ownBlock)

theorem CMap.made (w : World) (base : Nat) : CMap (w.alloc (.map #[] 0)) base w.heap.size [] :=
  ⟨#[], 0, (MapKept.heap_alloc w _).1, ⟨by simp, stamped_empty 0, by simp⟩, Nat.le_refl _, by simp, by simp [codesOf], by simp⟩

theorem ownBlock_some {W : World} {base e size : Nat} {v : Value} {n : Nat} {xs : List Value} (h : W.ownsRow base e size v n xs) (hn : 0 < n) : ∃ g, v.ownBlock = some g ∧ ∃ cur, W.heap[g]? = some (.cells cur e (0, 0)) := by
  rcases h.2 with ⟨_, h0⟩ | ⟨g, cap, cur, rfl, _, hb, _⟩
  · omega
  · exact ⟨g, rfl, cur, hb⟩

theorem codes_pos {l : List Code} (h : l ≠ []) : 0 < l.length := List.length_pos_iff.2 h

/-- What turns beside the map and the rows of codes leaves it. -/
theorem CMap.abid {B base bm : Nat} : Abid B (fun (G : List (Code × Nat)) W => CMap W base bm G) := by
  rintro G W W' row ⟨es, clock, hb, F, hsz, hes, hall, hap⟩ hg hr
  have hout : ∀ {k o}, W.heap[k]? = some o → outObj o = false → some k ≠ row := fun {k o} hk ho e => by
    obtain ⟨_, o', ho', hb'⟩ := hr k e.symm
    rw [hk] at ho'; cases ho'; rw [ho] at hb'; cases hb'
  refine ⟨es, clock, (hg.block bm (Array.getElem?_eq_some_iff.1 hb).1 (hout hb rfl)).trans hb, F, hsz, fun x hx => ?_, hall, hap⟩
  obtain ⟨r, hk, hle, hne, ho⟩ := hes x hx
  obtain ⟨g, hgb, cur, hc⟩ := ownBlock_some ho (codes_pos hne)
  exact ⟨r, hk, hle, hne, ho.kept hg (.inr (by rw [hgb]; exact hout hc rfl))⟩

theorem CMap.lt {W : World} {base bm : Nat} {G : List (Code × Nat)} (h : CMap W base bm G) : bm < W.heap.size := by
  obtain ⟨es, clock, hb, _⟩ := h
  exact (Array.getElem?_eq_some_iff.1 hb).1

theorem CMap.kept {W W' : World} {row : Option Nat} {base bm : Nat} {G : List (Code × Nat)} (h : CMap W base bm G) (hg : W.grownBy W' row)
    (hr : ∀ r, row = some r → ∃ o, W.heap[r]? = some o ∧ outObj o = true) : CMap W' base bm G :=
  CMap.abid (B := 0) G W W' row h hg (fun r e => ⟨Nat.zero_le _, hr r e⟩)

/-- What turns another block, that is no row of codes, leaves it. -/
theorem CMap.other {W W' : World} {row : Option Nat} {base bm : Nat} {G : List (Code × Nat)} (h : CMap W base bm G) (hg : W.grownBy W' row) (hm : some bm ≠ row)
    (hr : ∀ r cur fr, row = some r → W.heap[r]? = some (.cells cur 30 fr) → False) : CMap W' base bm G := by
  obtain ⟨es, clock, hb, F, hsz, hes, hall, hap⟩ := h
  refine ⟨es, clock, (hg.block bm (Array.getElem?_eq_some_iff.1 hb).1 hm).trans hb, F, hsz, fun x hx => ?_, hall, hap⟩
  obtain ⟨r, hk, hle, hne, ho⟩ := hes x hx
  obtain ⟨g, hgb, cur, hc⟩ := ownBlock_some ho (codes_pos hne)
  exact ⟨r, hk, hle, hne, ho.kept hg (.inr (by rw [hgb]; intro e; exact hr g cur _ e.symm hc))⟩

theorem wf32 {r : Nat} (h : r ≤ 2147483647) : (Lit.int .i32 (r : Int)).wf = true := WalkArith.wf_i32 (by omega)

theorem keyOf32 {r : Nat} (h : r ≤ 2147483647) : keyOf Tryz.prog 21 (.int .i32 (r : Int)) = some (.int .i32 r) := Maps.keyOf_int_mk Tryz.underlying21 (wf32 h)
theorem rg32 {x : MapEntry} {r : Nat} (hx : x.key = .int .i32 r) (h : r ≤ 2147483647) : WideElems.rg Tryz.prog 21 Rt x = (.int .i32 r, .nil) := by
  simp [WideElems.rg, WideElems.rd, hx, keyOf32 h, Rt]

theorem pw_unique {α β : Type} {f : α → β} : ∀ {l : List α}, l.Pairwise (fun x y => f x ≠ f y) → ∀ x ∈ l, ∀ y ∈ l, f x = f y → x = y
  | [], _, x, hx, _, _, _ => by cases hx
  | a :: l, h, x, hx, y, hy, e => by
    rw [List.pairwise_cons] at h
    rcases List.mem_cons.1 hx with rfl | hx' <;> rcases List.mem_cons.1 hy with rfl | hy'
    · rfl
    · exact absurd e (h.1 y hy')
    · exact absurd e.symm (h.1 x hx')
    · exact pw_unique h.2 x hx' y hy' e

/-- The look-up, and the way back. -/
theorem CMap.look {W : World} {base bm : Nat} {G : List (Code × Nat)} (h : CMap W base bm G) {r : Nat} (hr : r ≤ 2147483647) (hG : G.length < 1000000) :
    ∃ v, (∀ W' : World, W'.heap[bm]? = W.heap[bm]? → (Instr.lookup 35 (.map (some bm)) (.int .i32 r) false).run Tryz.prog W' = .ok v W') ∧
      W.ownsRow base 30 2 v (codesOf G r).length (cellsOf (codesOf G r)) ∧ v.ownBlock ≠ some bm ∧
      ∀ (w1 : World) (v' : Value) (c : Code), W.grownBy w1 v.ownBlock → w1.ownsRow base 30 2 v' ((codesOf G r).length + 1) (cellsOf (codesOf G r) ++ encC c) →
        (v'.ownBlock = v.ownBlock ∨ ∃ g, v'.ownBlock = some g ∧ W.heap.size ≤ g) →
        ∃ w2, (Instr.mapUpdate 35 (.map (some bm)) (.int .i32 r) v').run Tryz.prog w1 = .ok () w2 ∧ CMap w2 base bm (G ++ [(c, r)]) ∧ w1.grownBy w2 (some bm) := by
  obtain ⟨es, clock, hb, F, hsz, hes, hall, hap⟩ := h
  have K := Maps.int_keyed Tryz.underlying21
  have hkey := Maps.keyOf_int_mk Tryz.underlying21 (wf32 hr)
  have hblt : bm < W.heap.size := (Array.getElem?_eq_some_iff.1 hb).1
  -- whatever v is: its row is no other key's
  have main : ∀ v, W.ownsRow base 30 2 v (codesOf G r).length (cellsOf (codesOf G r)) → (∀ x ∈ es.toList, x.key ≠ .int .i32 r → x.val.ownBlock ≠ v.ownBlock) →
      v.ownBlock ≠ some bm ∧
      ∀ (w1 : World) (v' : Value) (c : Code), W.grownBy w1 v.ownBlock → w1.ownsRow base 30 2 v' ((codesOf G r).length + 1) (cellsOf (codesOf G r) ++ encC c) →
        (v'.ownBlock = v.ownBlock ∨ ∃ g, v'.ownBlock = some g ∧ W.heap.size ≤ g) →
        ∃ w2, (Instr.mapUpdate 35 (.map (some bm)) (.int .i32 r) v').run Tryz.prog w1 = .ok () w2 ∧ CMap w2 base bm (G ++ [(c, r)]) ∧ w1.grownBy w2 (some bm) := by
    intro v hov hvap
    have hvb : v.ownBlock ≠ some bm := by
      intro e
      rcases hov.2 with ⟨rfl, _⟩ | ⟨g, cap, cur, rfl, _, hc, _⟩
      · cases e
      · simp only [Value.ownBlock, Option.some.injEq] at e
        subst e
        rw [hb] at hc; cases hc
    refine ⟨hvb, fun w1 v' c hg hown' hloc => ?_⟩
    have hb1 : w1.heap[bm]? = some (.map es clock) := (hg.block bm hblt (fun e => hvb e.symm)).trans hb
    obtain ⟨es', clock', hrun, F', hput, _, _, hwho⟩ := Maps.fit_store (R' := Rt) (val := v') (yv := (.nil, [])) K Tryz.underlying35 hb1 F (by unfold maxLen; omega) (fun x _ _ z hz => hz) hkey rfl
    have hg2 : w1.grownBy (setBlock w1 bm (.map es' clock')) (some bm) := ⟨rfl, rfl, rfl, by simp [setBlock], fun i _ hi => heap_setBlock_other hb1 _ (fun e1 => hi (by rw [e1]))⟩
    have hrow : ∀ {u : Value} {n : Nat} {xs : List Value}, w1.ownsRow base 30 2 u n xs → u.ownBlock = none ∨ u.ownBlock ≠ some bm := fun {u n xs} ho => by
      refine .inr (fun e => ?_)
      rcases ho.2 with ⟨rfl, _⟩ | ⟨g, cap, cur, rfl, _, hc, _⟩
      · cases e
      · simp only [Value.ownBlock, Option.some.injEq] at e
        subst e
        rw [hb1] at hc; cases hc
    have hmem : ∀ p, p ∈ (es'.toList.map (WideElems.rg Tryz.prog 21 Rt)) ↔ p ∈ putKey (.int .i32 (r : Int)) .nil ((es.toList.map (WideElems.rg Tryz.prog 21 Rt)).foldr DataW.insert []) := fun p => by
      rw [← hput]; exact (WideShapes.sorted_perm _).mem_iff.symm
    have hin : ∀ q : Nat, q ≤ 2147483647 → ((.int .i32 (q : Int), .nil) : Lit × DataW Unit) ∈ putKey (.int .i32 (r : Int)) .nil ((es.toList.map (WideElems.rg Tryz.prog 21 Rt)).foldr DataW.insert []) → ∃ x ∈ es'.toList, x.key = .int .i32 q := fun q hq hp => by
      obtain ⟨x, hx, he⟩ := List.mem_map.1 ((hmem _).2 hp)
      refine ⟨x, hx, ?_⟩
      rcases hwho x hx with ⟨hx0, _⟩ | ⟨hk, _⟩
      · obtain ⟨q', hk', hle', _⟩ := hes x hx0
        rw [rg32 hk' hle'] at he
        simp at he
        rw [hk', he]
      · rw [rg32 hk hr] at he
        simp at he
        rw [hk, he]
    refine ⟨_, hrun, ⟨es', clock', heap_setBlock_same hb1 _, F', ?_, ?_, ?_, ?_⟩, hg2⟩
    · have e1 : es'.size = ((es'.toList.map (WideElems.rg Tryz.prog 21 Rt)).foldr DataW.insert []).length := by rw [length_sorted]; simp
      rw [e1, hput]
      unfold putKey
      rw [length_insert]
      have e2 := List.length_filter_le (notKey (.int .i32 (r : Int))) ((es.toList.map (WideElems.rg Tryz.prog 21 Rt)).foldr DataW.insert [])
      rw [length_sorted] at e2
      simp at e2 ⊢
      omega
    · intro x hx
      rcases hwho x hx with ⟨hx0, hne⟩ | ⟨hk, hval⟩
      · obtain ⟨q, hk, hle, hq, ho⟩ := hes x hx0
        have hqr : ¬ r = q := fun e => hne (by rw [hk, e])
        refine ⟨q, hk, hle, ?_, ?_⟩
        · rw [codesOf_snoc, if_neg hqr]; exact hq
        · rw [codesOf_snoc, if_neg hqr]
          have h1 := ho.kept hg (.inr (hvap x hx0 hne))
          exact h1.kept hg2 (hrow h1)
      · refine ⟨r, hk, hr, ?_, ?_⟩
        · rw [codesOf_snoc, if_pos rfl]; simp
        · rw [codesOf_snoc, if_pos rfl, hval, cellsOf_snoc, List.length_append]
          exact hown'.kept hg2 (hrow hown')
    · intro q hq
      rw [codesOf_snoc] at hq
      by_cases hqr : r = q
      · subst hqr
        exact hin r hr (by unfold putKey; exact ChangeMaps.mem_insert_iff.2 (.inl rfl))
      · rw [if_neg hqr] at hq
        obtain ⟨x, hx, hk⟩ := hall q hq
        obtain ⟨q', hk', hle', _⟩ := hes x hx
        have e : q' = q := by rw [hk] at hk'; simp at hk'; omega
        subst e
        refine hin q' hle' ?_
        unfold putKey
        refine ChangeMaps.mem_insert_iff.2 (.inr (List.mem_filter.2 ⟨(WideShapes.sorted_perm _).mem_iff.2 (List.mem_map.2 ⟨x, hx, rg32 hk' hle'⟩), ?_⟩))
        simp [notKey, Lit.sameKey]
        omega
    · intro x hx y hy hne
      have old_new : ∀ x ∈ es.toList, x.key ≠ .int .i32 r → x.val.ownBlock ≠ v'.ownBlock := by
        intro x hx hne
        rcases hloc with h1 | ⟨g, h1, h2⟩
        · rw [h1]; exact hvap x hx hne
        · obtain ⟨q, _, _, hq, ho⟩ := hes x hx
          obtain ⟨gx, hgx, cur, hc⟩ := ownBlock_some ho (codes_pos hq)
          rw [hgx, h1]
          intro e
          have := (Array.getElem?_eq_some_iff.1 hc).1
          simp at e
          omega
      rcases hwho x hx with ⟨hx0, hnx⟩ | ⟨hkx, hvx⟩ <;> rcases hwho y hy with ⟨hy0, hny⟩ | ⟨hky, hvy⟩
      · exact hap x hx0 y hy0 hne
      · rw [hvy]; exact old_new x hx0 hnx
      · rw [hvx]; exact (old_new y hy0 hny).symm
      · exact absurd (hkx.trans hky.symm) hne
  have hzero : ∀ W' : World, (zeroValue 25).run Tryz.prog W' = .ok (.slice none 0 0) W' := fun _ => by kernel_rfl
  by_cases hc : codesOf G r = []
  · refine ⟨.slice none 0 0, fun W' hW' => ?_, ?_, ?_⟩
    · rcases Maps.fit_look false K Tryz.underlying35 (hzero W') (hW'.trans hb) F hkey with ⟨hrun, _⟩ | ⟨e0, y, he, hk, _⟩
      · exact hrun
      · obtain ⟨q, hk', hle', hq, _⟩ := hes e0 he
        rw [hk] at hk'
        have : q = r := by simp at hk'; omega
        subst this
        exact absurd hc hq
    · rw [hc]; exact World.ownsRow_nil _ _ _ _
    · rw [hc]
      have := main (.slice none 0 0) (by rw [hc]; exact World.ownsRow_nil _ _ _ _) (fun x hx _ => by
        obtain ⟨q, hk, hle, hq, ho⟩ := hes x hx
        obtain ⟨g, hg, _⟩ := ownBlock_some ho (codes_pos hq)
        rw [hg]; simp [Value.ownBlock])
      rw [hc] at this
      exact this
  · obtain ⟨x, hx, hk⟩ := hall r hc
    obtain ⟨q, hk', hle', hq, ho⟩ := hes x hx
    have e : q = r := by rw [hk] at hk'; simp at hk'; omega
    subst e
    refine ⟨x.val, fun W' hW' => ?_, ho, main x.val ho (fun y hy hne => hap y hy x hx (by rw [hk]; exact hne))⟩
    rcases Maps.fit_look false K Tryz.underlying35 (hzero W') (hW'.trans hb) F hkey with ⟨_, hno, _⟩ | ⟨e0, y, he, hk0, hrun, _⟩
    · exact absurd hk (hno x hx)
    · -- the entry that is found is x
      have ha := Maps.fit_apart K F
      rw [List.pairwise_map] at ha
      have := pw_unique ha e0 he x hx (by rw [rg32 hk0 hle', rg32 hk' hle'])
      subst this
      exact hrun
end Go.Proofs.YtgmiampijdnebaaGreatDoor
