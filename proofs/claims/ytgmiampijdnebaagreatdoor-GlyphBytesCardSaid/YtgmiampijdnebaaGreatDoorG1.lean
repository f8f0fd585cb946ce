/-
  glyph.Known and glyph.Codes: what they hand back. Their condition: the tables that the library reads.
-/
import Derived.Test.YtgmiampijdnebaaGreatDoorK1
import Derived.Test.YtgmiampijdnebaaGreatDoorQ4
namespace Go.Proofs.YtgmiampijdnebaaGreatDoor
open Go.RowKit Go.Shelf

theorem glyphG_length : glyphG.length < 100000 := by
  have h1 : (tag 2 anselL).length < 1000 := by simp [tag]; decide
  have h2 : (tag 9 eaccL).length < 1000 := by simp [tag, eaccL_length]
  have h3 := scriptsTo_length 9
  have h4 := plainsTo_length 4
  unfold glyphG
  simp only [List.length_append]
  omega

/-- A row of characters that a call has made. -/
def RunesAt (W : World) (v : Value) (K : List Int) : Prop := ∃ g cap, v = .slice (some ⟨g, 0, none⟩) K.length cap ∧ ∀ (i : Nat) (h : i < K.length), W.cell? ⟨g, i, none⟩ = some (.int .i32 K[i])
/-- Characters, rising, each once, and just those that have a code. -/
def KnownL (K : List Int) : Prop := K.Pairwise (· < ·) ∧ ∀ x : Int, x ∈ K ↔ ∃ r : Nat, x = r ∧ codesOf glyphG r ≠ []
theorem known_one : codesOf glyphG 769 ≠ [] := by decide +kernel

theorem RunesAt.of_owns {W : World} {base g cap : Nat} {K : List Int} (h : W.ownsRow base 21 1 (.slice (some ⟨g, 0, none⟩) K.length cap) K.length (K.map (Value.int .i32))) : RunesAt W (.slice (some ⟨g, 0, none⟩) K.length cap) K := by
  refine ⟨g, cap, rfl, fun i hi => ?_⟩
  rcases h.2 with ⟨h0, _⟩ | ⟨g', cap', cur, e, _, hg, _, _, _, ht⟩
  · cases h0
  · cases e
    have e : (cur.toList.take (K.length * 1))[i]? = (K.map (Value.int .i32))[i]? := by rw [ht]
    rw [List.getElem?_take_of_lt (by omega)] at e
    simp only [World.cell?, hg, Option.isSome_none, Bool.false_eq_true, if_false]
    rw [← Array.getElem?_toList, e]
    simp [hi]

set_option maxHeartbeats 1000000 in
theorem glyphKnown_any (w : World) (hGl : Glob w) :
    Calls Tryz.prog 5 #[] w fun e W' => ∃ v K, e = .returned v ∧ KnownL K ∧ RunesAt W' v K ∧ Below w.heap.size w W' := by
  have hn := new_any w hGl
  have hE : (startE w).w0 = w := rfl
  generalize startE w = E at hn hE
  subst hE
  go_enter Tryz.func5, Tryz.ntmps5
  go_wp2_with fail
  refine hn.mono ?_
  rintro e W1 ⟨rfl, hs, _⟩
  have hk := known_any E glyphG glyphG_length ⟨_, known_one⟩ W1 hs
  have hb := hs.bel
  clear hs hn hGl
  go_wp2_with fail
  refine hk.mono ?_
  rintro e W2 ⟨g, cap, ss, rfl, hnd, hmem, ho, hb2⟩
  obtain ⟨K, hK⟩ : ∃ K, K = ss.mergeSort (fun x y => decide (x ≤ y)) := ⟨_, rfl⟩
  have hperm : K.Perm ss := by rw [hK]; exact List.mergeSort_perm _ _
  have hle : K.Pairwise (· ≤ ·) := by
    have := List.pairwise_mergeSort (le := fun x y : Int => decide (x ≤ y)) (by intro a b c; simp; omega) (by intro a b; simp; omega) ss
    rw [hK]
    simpa using this
  have hlt : K.Pairwise (· < ·) := by
    have hn : K.Nodup := hperm.nodup_iff.2 hnd
    exact (hle.and hn).imp (fun h => by have := h.1; have := h.2; omega)
  have hlen : K.length = ss.length := hperm.length_eq
  rw [← hK, ← hlen] at ho
  have hR := RunesAt.of_owns ho
  have HKn : Hid (KnownL K) := Lib.hid ⟨hlt, fun x => (hperm.mem_iff).trans (hmem x)⟩
  have HB := hb.trans (hb2.mono hb.size)
  have hv : Value.slice (some ⟨g, 0, none⟩) ss.length cap = .slice (some ⟨g, 0, none⟩) K.length cap := by rw [hlen]
  rw [hv]
  clear hv hlen hperm hle hlt hK ho hnd hmem hk
  go_wp2_with fail
  go_ret
  exact ⟨_, K, rfl, HKn.out, hR, HB⟩

/-- The codes of a character, by sets, then numbers. -/
def codesG (r : Int) : List Code := sortedC (codesZ glyphG r)
theorem codesG_length (r : Int) : (codesG r).length < 100000 := by
  have := codesZ_length glyphG r
  have := glyphG_length
  simp only [codesG, sortedC, List.length_mergeSort]
  omega

set_option maxHeartbeats 1000000 in
theorem glyphCodes_any (w : World) (hGl : Glob w) (r : Int) (h0 : -2147483648 ≤ r) (hr : r ≤ 2147483647) :
    Calls Tryz.prog 7 #[.int .i32 r] w fun e W' => ∃ v, e = .returned v ∧ Src W'.heap.size W' v (codesG r) ∧ Below w.heap.size w W' := by
  have hn := new_any w hGl
  have hE : (startE w).w0 = w := rfl
  generalize startE w = E at hn hE
  subst hE
  go_enter Tryz.func7, Tryz.ntmps7
  go_wp2_with fail
  refine hn.mono ?_
  rintro e W1 ⟨rfl, hs, _⟩
  have hk := indexCodes_any E glyphG glyphG_length r h0 hr W1 hs
  have hb := hs.bel
  clear hs hn hGl
  go_wp2_with fail
  refine hk.mono ?_
  rintro e W2 ⟨v, rfl, ho, hb2⟩
  have HB := hb.trans (hb2.mono hb.size)
  have hS := Src.of_owns ho
  clear ho hk
  go_wp2_with fail
  go_ret
  exact ⟨_, rfl, hS, HB⟩
end Go.Proofs.YtgmiampijdnebaaGreatDoor
