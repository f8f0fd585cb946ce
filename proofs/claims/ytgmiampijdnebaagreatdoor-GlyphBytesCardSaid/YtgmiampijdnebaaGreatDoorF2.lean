/-
  The law GlyphBytes returns true. Its condition: the tables that the library reads.
-/
import Derived.Test.YtgmiampijdnebaaGreatDoorF1
namespace Go.Proofs.YtgmiampijdnebaaGreatDoor
open Go.RowKit Go.Shelf

/-- A glyph that may be: its character, its set, its bytes. -/
def okGlyph (x : Code × Nat) : Bool :=
  decide (33 ≤ x.2 ∧ x.2 ≤ 1114111 ∧ 1 ≤ x.1.1 ∧ x.1.1 ≤ 12) && (List.range (sizeC x.1.1)).all (fun k => decide (33 ≤ x.1.2 / 256 ^ k % 256 ∧ x.1.2 / 256 ^ k % 256 ≤ 126)) && decide (x.1.2 / 256 ^ sizeC x.1.1 = 0) && decide (x.1.2 < 1000000000)
theorem glyphG_ok : glyphG.all okGlyph = true := by decide +kernel

theorem mem_codesG {r : Int} {c : Code} (h : c ∈ codesG r) : 0 ≤ r ∧ (c, r.toNat) ∈ glyphG := by
  have h1 : c ∈ codesZ glyphG r := (List.mergeSort_perm _ _).mem_iff.1 h
  unfold codesZ at h1
  split at h1
  · rename_i hr
    refine ⟨hr, ?_⟩
    unfold codesOf at h1
    obtain ⟨x, hx, rfl⟩ := List.mem_map.1 h1
    obtain ⟨h2, h3⟩ := List.mem_filter.1 hx
    have : x.2 = r.toNat := by simpa using h3
    rw [← this]
    exact h2
  · simp at h1
/-- What is known of each code of a character. -/
theorem codesG_ok {r : Int} {c : Code} (h : c ∈ codesG r) : (1 ≤ c.1 ∧ c.1 ≤ 12) ∧ (∀ k, k < sizeC c.1 → 33 ≤ c.2 / 256 ^ k % 256 ∧ c.2 / 256 ^ k % 256 ≤ 126) ∧ c.2 / 256 ^ sizeC c.1 = 0 ∧ c.2 < 1000000000 := by
  have := List.all_eq_true.1 glyphG_ok _ (mem_codesG h).2
  simp only [okGlyph, Bool.and_eq_true, decide_eq_true_eq, List.all_eq_true, List.mem_range] at this
  exact ⟨⟨this.1.1.1.2.2.1, this.1.1.1.2.2.2⟩, this.1.1.2, this.1.2, this.2⟩
theorem known_ok {K : List Int} (h : KnownL K) {r : Int} (hr : r ∈ K) : 33 ≤ r ∧ r ≤ 1114111 ∧ 0 < (codesG r).length := by
  have hp := (h.mem r).1 hr
  have hm := List.getElem_mem hp
  obtain ⟨h0, hg⟩ := mem_codesG hm
  have := List.all_eq_true.1 glyphG_ok _ hg
  simp only [okGlyph, Bool.and_eq_true, decide_eq_true_eq] at this
  have h1 := this.1.1.1
  exact ⟨by omega, by omega, hp⟩

/-- The row at block b holds these codes. -/
def CodesAt (W : World) (b : Nat) (L : List Code) : Prop := ∀ (k : Nat) (h : k < L.length), W.cell? ⟨b, k * 2, none⟩ = some (.int .i64 (L[k].1 : Int)) ∧ W.cell? ⟨b, k * 2 + 1, none⟩ = some (.int .i64 (L[k].2 : Int))

set_option maxRecDepth 100000 in
set_option maxHeartbeats 4000000 in
theorem lawBytes_any (w : World) (hGl : Glob w) (at_ : Nat) (hat : at_ ≤ 65535) :
    Calls Tryz.prog 4 #[.int .u16 at_] w fun e W' => e = .returned (.bool true) ∧ Below w.heap.size w W' := by
  have hk := glyphKnown_any w hGl
  have ha := fun W hW => answers_any W (Glob.below (w' := W) hGl hW)
  have hc := fun W hW r h0 hr => glyphCodes_any W (Glob.below (w' := W) hGl hW) r h0 hr
  clear hGl
  go_enter Tryz.func4, Tryz.ntmps4
  go_wp2_with fail
  refine hk.mono ?_
  rintro e W1 ⟨v, K, rfl, hK, ⟨g, cap, rfl, hcs⟩, hb1⟩
  clear hk
  go_wp2_with fail
  refine (ha W1 hb1).mono ?_
  rintro e W2 ⟨rfl, hb2⟩
  have hg : 0 < K.length := by have := KnownL.long hK; omega
  have hg1 : g < W1.heap.size := block_lt_of_cell (hcs 0 hg)
  have hcs2 : RowAt W2 g K := fun i h => (hb2.cell (p := ⟨g, i, none⟩) hg1).trans (hcs i h)
  have hB := hb1.trans (hb2.mono hb1.size)
  obtain ⟨n, hn⟩ : ∃ n, K.length = n := ⟨_, rfl⟩
  have hn63 : n < 100000 := by rw [← hn]; exact KnownL.short hK
  have hn700 : 700 < n := by rw [← hn]; exact KnownL.long hK
  have hj : at_ % n < K.length := by rw [hn]; exact Nat.mod_lt _ (by omega)
  have cr := hcs2 (at_ % n) hj
  have hr := known_ok hK (List.getElem_mem hj)
  generalize K[at_ % n] = r at cr hr
  rw [hn]
  have hcW := hc W2 hB r (by omega) (by omega)
  have HB := Lib.hid hB
  obtain ⟨hr1, hr2, hr3⟩ := hr
  have HR3 := Lib.hid hr3
  clear hcs hb1 hb2 hg1 hcs2 ha hc hn hK hg hj hB hr3
  have hn0 : ((n : Int) == 0) = false := beq_eq_false_iff_ne.2 (by omega)
  have hm0 : 0 ≤ (at_ : Int) % (n : Int) := Int.emod_nonneg _ (by omega)
  have hm1 : (at_ : Int) % (n : Int) < (n : Int) := Int.emod_lt_of_pos _ (by omega)
  go_wp2_with fail
  refine hcW.mono ?_
  rintro e W3 ⟨v, rfl, hS, hb3⟩
  rcases hS with ⟨rfl, h0⟩ | ⟨b, cap3, rfl, hblt, hcs3⟩
  · have := HR3.out
    rw [h0] at this
    exact absurd this (by simp)
  have hB3 := HB.out.trans (hb3.mono HB.out.size)
  have hokc := fun c (hc : c ∈ codesG r) => codesG_ok hc
  have hlenc := codesG_length r
  have hpos := HR3.out
  have hrow : CodesAt W3 b (codesG r) := hcs3
  clear hcW hb3 cr hcs3 HR3 HB hm0 hm1 hn0
  generalize codesG r = L at hrow hokc hlenc hpos ⊢
  obtain ⟨m, hm⟩ : ∃ m, L.length = m := ⟨_, rfl⟩
  have HM := Lib.hid hm
  have HOK := Lib.hid hokc
  rw [hm] at hlenc hpos ⊢
  have hm0 : ((m : Int) == 0) = false := beq_eq_false_iff_ne.2 (by omega)
  have h33 : decide (r < 33) = false := decide_eq_false (by omega)
  have h11 : decide (1114111 < r) = false := decide_eq_false (by omega)
  clear hm hokc
  go_wp2_with fail
  go_loopw [6] (fun i wr => ∃ k : Nat, k ≤ m ∧ i = .int .i64 k ∧ CodesAt wr b L ∧ Below w.heap.size w wr)
    (fun i _ => m - (intOf i).toNat)
  case atStart => exact ⟨0, by omega, rfl, hrow, hB3⟩
  case round =>
    clear hrow hB3
    obtain ⟨i, hi, rfl, hrow, hbl⟩ := hrel
    by_cases hlt : i < m
    · have hiL : i < L.length := by rw [HM.out]; exact hlt
      obtain ⟨c1, c2⟩ := hrow i hiL
      have hok := HOK.out _ (List.getElem_mem hiL)
      have HR := Lib.hid hrow
      have HBL := Lib.hid hbl
      generalize L[i] = c at c1 c2 hok
      obtain ⟨s, n0⟩ := c
      dsimp only at c1 c2 hok
      obtain ⟨hs, hby, hend, hn9⟩ := hok
      have hsz := fun w => size_any s hs w
      obtain ⟨z, hz⟩ : ∃ z, sizeC s = z := ⟨_, rfl⟩
      have hz3 : z ≤ 3 := by rw [← hz]; unfold sizeC; split <;> omega
      rw [hz] at hby hend hsz
      have HBY := Lib.hid hby
      have HE := Lib.hid hend
      clear hrow hbl hby hend hz
      obtain ⟨wo, rfl⟩ : ∃ wo : World, wo = wr := ⟨_, rfl⟩
      go_wp2_with fail
      try rw [show decide ((i : Int) < (m : Int)) = true from decide_eq_true (by omega)]
      try rw [show decide (i < m) = true from decide_eq_true (by omega)]
      go_loopw [7, 8] (fun x k wr => ∃ j y : Nat, j ≤ z ∧ k = .int .i64 j ∧ x = .int .i64 y ∧ Hid (y = n0 / 256 ^ j) ∧ y < 1000000000 ∧ wr = wo)
        (fun _ k _ => z - (intOf k).toNat)
      case atStart => exact ⟨0, n0, by omega, rfl, rfl, Lib.hid (by simp), hn9, rfl⟩
      case round =>
        obtain ⟨j, y, hj, rfl, rfl, hy, hy9, rfl⟩ := hrel
        go_wp2_with fail
        refine (hsz _).mono ?_
        rintro e W5 ⟨rfl, rfl⟩
        by_cases hjz : j < z
        · have hb := HBY.out j hjz
          rw [← hy.out] at hb
          obtain ⟨hb1, hb2⟩ := hb
          go_wp2_with fail
          go_roundw
          case rel =>
            refine ⟨j + 1, y / 256, by omega, by go_num, by go_num, Lib.hid ?_, by omega, trivial⟩
            rw [hy.out, Nat.pow_succ, Nat.div_div_eq_div_mul]
          case measure => simp [intOf]; omega
        · have hy0 : y = 0 := by
            rw [hy.out, show j = z by omega]
            exact HE.out
          subst hy0
          go_wp2_with fail
          go_roundw
          case rel => exact ⟨i + 1, by omega, by go_num, HR.out, HBL.out⟩
          case measure => simp [intOf]; omega
    · go_wp2_with fail
      go_ret
      exact ⟨rfl, hbl⟩
end Go.Proofs.YtgmiampijdnebaaGreatDoor
