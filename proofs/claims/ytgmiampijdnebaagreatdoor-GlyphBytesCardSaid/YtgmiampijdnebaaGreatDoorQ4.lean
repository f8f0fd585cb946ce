/-
  slices.SortedFunc, (*Index).Codes and Codes. Their conditions: the tables that the library reads; sizes.
-/
import Derived.Test.YtgmiampijdnebaaGreatDoorQ3
import Derived.Test.YtgmiampijdnebaaGreatDoorC5
namespace Go.Proofs.YtgmiampijdnebaaGreatDoor
open Go.RowKit Go.Shelf

set_option maxHeartbeats 1000000 in
theorem sortedFunc_any (Bs : Nat) (sv : Value) (L : List Code) (hreach : L.length < 1000000) (w : World) (hBs : Bs < w.heap.size) (hc : w.cell? ⟨Bs, 0, none⟩ = some sv) (hI : Src w.heap.size w sv L) :
    Calls Tryz.prog 20 #[.func (.func 37) #[] #[.pointer (some ⟨Bs, 0, none⟩)], .func (.func 22) #[] #[]] w fun e W' =>
      ∃ v, e = .returned v ∧ W'.ownsRow w.heap.size 30 2 v (sortedC L).length (cellsOf (sortedC L)) ∧ Below w.heap.size w W' := by
  have h := collect_any Bs sv L hreach w hBs hc hI
  clear hc hI
  go_enter Tryz.func20, Tryz.ntmps20
  go_wp2_with fail
  refine h.mono ?_
  rintro e W1 ⟨v, rfl, ho, hb⟩
  have hs := sortFunc_any w.heap.size v L hreach W1 ho
  go_wp2_with fail
  refine hs.mono ?_
  rintro e W2 ⟨rfl, ho2, hg⟩
  have hb2 := hb.grown hg hb.size (fun j e => (ho.lt j e).1)
  clear ho hs
  go_wp2_with fail
  go_ret
  exact ⟨v, rfl, ho2, hb2⟩

theorem ownsRow_low {W : World} {base base' e size : Nat} {v : Value} {n : Nat} {xs : List Value} (hb : base' ≤ base) (h : W.ownsRow base e size v n xs) : W.ownsRow base' e size v n xs :=
  ⟨h.1, h.2.imp id fun ⟨g, cap, cur, h1, h2, h3⟩ => ⟨g, cap, cur, h1, Nat.le_trans hb h2, h3⟩⟩
theorem Src.mono {n m : Nat} {W : World} {sv : Value} {L : List Code} (h : n ≤ m) : Src n W sv L → Src m W sv L
  | .inl e => .inl e
  | .inr ⟨b, cap, e, hb, hc⟩ => .inr ⟨b, cap, e, Nat.lt_of_lt_of_le hb h, hc⟩

/-- The codes of whatever character. -/
def codesZ (G : List (Code × Nat)) (r : Int) : List Code := if 0 ≤ r then codesOf G r.toNat else []

theorem CMap.read {W : World} {base bm : Nat} {G : List (Code × Nat)} (h : CMap W base bm G) {r : Int} (h0 : -2147483648 ≤ r) (hr : r ≤ 2147483647) (hG : G.length < 1000000) :
    ∃ v, (∀ W' : World, W'.heap[bm]? = W.heap[bm]? → (Instr.lookup 35 (.map (some bm)) (.int .i32 r) false).run Tryz.prog W' = .ok v W') ∧
      W.ownsRow base 30 2 v (codesZ G r).length (cellsOf (codesZ G r)) := by
  by_cases hz : 0 ≤ r
  · obtain ⟨n, rfl⟩ : ∃ n : Nat, r = n := ⟨r.toNat, by omega⟩
    obtain ⟨v, h1, h2, _⟩ := h.look (r := n) (by omega) hG
    refine ⟨v, h1, ?_⟩
    unfold codesZ
    rw [if_pos hz, Int.toNat_natCast]
    exact h2
  · obtain ⟨es, clock, hb, F, hsz, hes, hall, hap⟩ := h
    have K := Maps.int_keyed Tryz.underlying21
    have hkey := Maps.keyOf_int_mk Tryz.underlying21 (show (Lit.int .i32 r).wf = true from WalkArith.wf_i32 ⟨h0, hr⟩)
    have hzero : ∀ W' : World, (zeroValue 25).run Tryz.prog W' = .ok (.slice none 0 0) W' := fun _ => by kernel_rfl
    refine ⟨.slice none 0 0, fun W' hW' => ?_, ?_⟩
    · rcases Maps.fit_look false K Tryz.underlying35 (hzero W') (hW'.trans hb) F hkey with ⟨hrun, _⟩ | ⟨e0, y, he, hk, _⟩
      · exact hrun
      · obtain ⟨q, hk', hle', hq, _⟩ := hes e0 he
        rw [hk] at hk'
        have : (q : Int) = r := by simp at hk'; omega
        omega
    · unfold codesZ
      rw [if_neg hz]
      exact World.ownsRow_nil _ _ _ _

theorem codesZ_length (G : List (Code × Nat)) (r : Int) : (codesZ G r).length ≤ G.length := by
  unfold codesZ
  split
  · unfold codesOf; rw [List.length_map]; exact List.length_filter_le _ _
  · simp

set_option maxHeartbeats 1000000 in
theorem indexCodes_any (E : Env) (G : List (Code × Nat)) (hG : G.length < 100000) (r : Int) (h0 : -2147483648 ≤ r) (hr : r ≤ 2147483647) (W : World) (h : State E G W) :
    Calls Tryz.prog 11 #[.pointer (some ⟨E.bs, 0, none⟩), .int .i32 r] W fun e W' =>
      ∃ v, e = .returned v ∧ W'.ownsRow W.heap.size 30 2 v (sortedC (codesZ G r)).length (cellsOf (sortedC (codesZ G r))) ∧ Below W.heap.size W W' := by
  obtain ⟨v, hl, hov⟩ := h.cm.read h0 hr (by omega)
  have hL := codesZ_length G r
  have c0 := cell_heap (i := 0) h.str rfl
  have hI := Src.of_owns hov
  obtain ⟨p, k, cap, rfl⟩ := ownsRow_slice hov
  obtain ⟨w0, bs, bm, br⟩ := E
  dsimp only at c0
  have hlr := hl W rfl
  generalize codesZ G r = L at hL hI ⊢
  have HL := Lib.hid hL
  have hv := fun w => values_any p k cap w
  have hsf := fun (hI : Src (W.alloc (.cells #[.slice p k cap] 25)).heap.size (W.alloc (.cells #[.slice p k cap] 25)) (.slice p k cap) L) => sortedFunc_any W.heap.size (.slice p k cap) L (by omega) (W.alloc (.cells #[.slice p k cap] 25)) (by simp) (Boxed.new W 25 (.slice p k cap)).cell hI
  clear h hov hl hL
  go_enter Tryz.func11, Tryz.ntmps11
  go_wp2_with fail
  refine (hv W).mono ?_
  rintro e W1 ⟨rfl, rfl⟩
  have hb1 := (Below.refl W.heap.size W).alloc (Nat.le_refl _) (.cells #[.slice p k cap] 25)
  have hcon := hsf ((hI.below hb1).mono (by simp))
  clear hsf hv hI
  go_wp2_with fail
  refine hcon.mono ?_
  rintro e W2 ⟨v, rfl, ho, hb⟩
  clear hcon
  go_wp2_with fail
  go_ret
  exact ⟨v, rfl, ownsRow_low (by simp) ho, hb1.trans (hb.mono (by simp))⟩
end Go.Proofs.YtgmiampijdnebaaGreatDoor
