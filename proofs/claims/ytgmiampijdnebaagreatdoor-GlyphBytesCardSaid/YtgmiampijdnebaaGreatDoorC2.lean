/-
  eacc.Each, with a closure of glyph.New. No conditions but on sizes.
-/
import Derived.Test.YtgmiampijdnebaaGreatDoorC1
namespace Go.Proofs.YtgmiampijdnebaaGreatDoor
open Go.RowKit Go.Shelf

theorem grown_of_below {W W' : World} (h : Below W.heap.size W W') : W.grownBy W' none := ⟨h.os, h.tape, h.output, h.size, fun k hk _ => h.block k hk⟩

/-- Block g holds these codes. -/
def CellsE (W : World) (g : Nat) (L : List (Nat × Nat)) : Prop := ∃ cur fr, W.heap[g]? = some (.cells cur 59 fr) ∧ cur.toList.take (L.length * 2) = cellsE L
theorem CellsE.fr {W W' : World} {g : Nat} {L : List (Nat × Nat)} (h : CellsE W g L) (hf : Fr W W') : CellsE W' g L := by
  obtain ⟨cur, fr, hb, hc⟩ := h
  exact ⟨cur, fr, hf.same g _ hb rfl, hc⟩
theorem cellsE_get : ∀ (L : List (Nat × Nat)) (k : Nat) (hk : k < L.length), (cellsE L)[k * 2]? = some (.int .i64 (L[k].1 : Nat)) ∧ (cellsE L)[k * 2 + 1]? = some (.int .i32 (L[k].2 : Nat))
  | x :: L, 0, _ => by simp [cellsE, encE]
  | x :: L, k + 1, hk => by
    have := cellsE_get L k (by simpa using hk)
    have e : cellsE (x :: L) = .int .i64 (x.1 : Nat) :: .int .i32 (x.2 : Nat) :: cellsE L := by simp [cellsE, encE]
    rw [e, show (k + 1) * 2 = k * 2 + 1 + 1 by omega]
    simpa using this
theorem CellsE.cell {W : World} {g : Nat} {L : List (Nat × Nat)} (h : CellsE W g L) (k : Nat) (hk : k < L.length) :
    W.cell? ⟨g, k * 2, none⟩ = some (.int .i64 (L[k].1 : Nat)) ∧ W.cell? ⟨g, k * 2 + 1, none⟩ = some (.int .i32 (L[k].2 : Nat)) := by
  obtain ⟨cur, fr, hb, hc⟩ := h
  have h2 := cellsE_get L k hk
  rw [← hc] at h2
  have e : ∀ i, i < L.length * 2 → (cur.toList.take (L.length * 2))[i]? = cur[i]? := fun i hi => by
    rw [List.getElem?_take_of_lt hi]; simp
  rw [e _ (by omega), e _ (by omega)] at h2
  exact ⟨by simp [World.cell?, hb, h2.1], by simp [World.cell?, hb, h2.2]⟩
theorem OwnsE.cells {W : World} {base : Nat} {v : Value} {L : List (Nat × Nat)} (h : OwnsE W base v L) (hL : 0 < L.length) : ∃ g cap, v = .slice (some ⟨g, 0, none⟩) L.length cap ∧ CellsE W g L := by
  rcases h.2 with ⟨_, h0⟩ | ⟨g, cap, cur, rfl, _, hb, _, _, _, ht⟩
  · omega
  · exact ⟨g, cap, rfl, cur, _, hb, ht⟩

theorem eaccL_length : eaccL.length = 354 := by decide +kernel
theorem eaccL_ok : okCodes eaccL = true := by decide +kernel

set_option maxRecDepth 100000 in
set_option maxHeartbeats 2000000 in
theorem eaccEach_any (E : Env) (G : List (Code × Nat)) (bx bset : Nat) (hG : G.length < 90000) (W : World) (h : State E G W) (hb : Boxes E bx bset 9 W) :
    Calls Tryz.prog 16 #[.func (.func 13) #[] #[.pointer (some ⟨bx, 0, none⟩), .pointer (some ⟨bset, 0, none⟩)]] W fun e W' =>
      e = .returned (.tuple #[]) ∧ State E (G ++ tag 9 eaccL) W' ∧ Boxes E bx bset 9 W' ∧ Fr W W' := by
  have hab := State.abid E h.bel.size
  obtain ⟨L, hL⟩ : ∃ L, L = eaccL := ⟨_, rfl⟩
  have hlen : L.length = 354 := by rw [hL]; exact eaccL_length
  have hok : okCodes L = true := by rw [hL]; exact eaccL_ok
  rw [← hL]
  have hall := fun W => hL ▸ all_any W
  clear hL
  go_enter Tryz.func16, Tryz.ntmps16
  go_wp2_with fail
  refine (hall _).mono ?_
  rintro e W1 ⟨v, rfl, hO, hbel⟩
  obtain ⟨g, cap, rfl, hC⟩ := hO.cells (by omega)
  have h1 := hab _ W W1 none h (grown_of_below hbel) (by simp)
  have hf1 := Fr.below hbel
  have hb1 := hb.fr hf1
  clear hO hbel h hb hall
  obtain ⟨n, hn⟩ : ∃ n, L.length = n := ⟨_, rfl⟩
  rw [hn]
  have HN := Lib.hid hn
  have hn354 : n ≤ 354 := by omega
  clear hn hlen
  go_wp2
  go_loopw [6] (fun i wr => ∃ k : Nat, k ≤ n ∧ i = .int .i64 k ∧ State E (G ++ tag 9 (L.take k)) wr ∧ Boxes E bx bset 9 wr ∧ CellsE wr g L ∧ Fr W wr)
    (fun i _ => n - (intOf i).toNat)
  case atStart => exact ⟨0, by omega, rfl, by simpa [tag] using h1, hb1, hC, hf1⟩
  case round =>
    clear h1 hb1 hC hf1
    obtain ⟨k, hk, rfl, hst, hbx, hC, hf⟩ := hrel
    by_cases hlt : k < n
    · have hkL : k < L.length := by rw [HN.out]; exact hlt
      obtain ⟨c1, c2⟩ := hC.cell k hkL
      have hx := List.all_eq_true.1 hok _ (List.getElem_mem hkL)
      simp only [decide_eq_true_eq] at hx
      have htk : L.take (k + 1) = L.take k ++ [L[k]] := List.take_succ_eq_append_getElem hkL
      generalize L[k] = x at c1 c2 hx htk
      obtain ⟨a, r⟩ := x
      dsimp only at c1 c2 hx
      have hdo := do_any E (G ++ tag 9 (L.take k)) bx bset 9 a r (by omega) hx.1 hx.2 (by simp [tag]; omega) (wr.alloc (.cells #[.int .i64 a, .int .i32 r] 59)) (hab.alloc _ hst) (hbx.fr (Fr.alloc _ _))
      have HT := Lib.hid htk
      clear htk hx
      go_wp2_with fail
      refine hdo.mono ?_
      rintro e W2 ⟨rfl, ⟨hst2, hbx2⟩, hf2⟩
      have hf3 := (Fr.alloc wr (.cells #[.int .i64 a, .int .i32 r] 59)).trans hf2
      have hC2 := hC.fr hf3
      clear hdo c1 c2 hst hbx hC
      go_wp2_with fail
      go_roundw
      case rel => exact ⟨k + 1, by omega, by go_num, by rw [HT.out]; simpa [tag] using hst2, hbx2, hC2, hf.trans hf3⟩
      case measure => simp [intOf]; omega
    · obtain rfl : k = n := by omega
      have hst' : State E (G ++ tag 9 L) wr := by rwa [List.take_of_length_le (by rw [HN.out]; omega)] at hst
      clear hst hC
      go_wp2_with fail
      go_end0
      exact ⟨rfl, hst', hbx, hf⟩
end Go.Proofs.YtgmiampijdnebaaGreatDoor
