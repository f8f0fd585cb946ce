/-
  glyph.Size, and the laws' first answer. Their conditions: the tables that the library reads; a set that is.
-/
import Derived.Test.YtgmiampijdnebaaGreatDoorG1
namespace Go.Proofs.YtgmiampijdnebaaGreatDoor
open Go.RowKit Go.Shelf

def sizeC (s : Nat) : Nat := if s = 9 then 3 else 1

set_option maxHeartbeats 1000000 in
theorem size_any (s : Nat) (h : 1 ≤ s ∧ s ≤ 12) (w : World) : Calls Tryz.prog 8 #[.int .i64 s] w fun e w' => e = .returned (.int .i64 (sizeC s : Nat)) ∧ w' = w := by
  by_cases h9 : s = 9
  · subst h9
    rw [show sizeC 9 = 3 from rfl]
    go_enter Tryz.func8, Tryz.ntmps8
    go_wp2
    go_ret
    exact ⟨rfl, rfl⟩
  · rw [show sizeC s = 1 from if_neg h9]
    have g : ((s : Int) == 9) = false := beq_eq_false_iff_ne.2 (by omega)
    go_enter Tryz.func8, Tryz.ntmps8
    go_wp2
    all_goals first | (exfalso; omega) | (go_ret; exact ⟨rfl, rfl⟩)

theorem codesG_301 : codesG 769 = [(2, 98), (3, 34)] := by
  have h : codesZ glyphG 769 = [(2, 98), (3, 34)] := by decide +kernel
  unfold codesG
  rw [h]
  exact List.mergeSort_of_pairwise (by decide)

set_option maxHeartbeats 1000000 in
theorem answers_any (w : World) (hGl : Glob w) :
    Calls Tryz.prog 6 #[] w fun e W' => e = .returned (.bool true) ∧ Below w.heap.size w W' := by
  have hc := glyphCodes_any w hGl 769 (by decide) (by decide)
  have hz := fun w => size_any 9 (by decide) w
  rw [codesG_301] at hc
  clear hGl
  go_enter Tryz.func6, Tryz.ntmps6
  go_wp2_with fail
  refine hc.mono ?_
  rintro e W1 ⟨v, rfl, hS, hb⟩
  rcases hS with ⟨rfl, h0⟩ | ⟨b, cap, rfl, hlt, hcs⟩
  · cases h0
  have c1 : W1.cell? ⟨b, 2, none⟩ = some (.int .i64 3) := (hcs 1 (by decide)).1
  have c2 : W1.cell? ⟨b, 3, none⟩ = some (.int .i64 34) := (hcs 1 (by decide)).2
  have HB := Lib.hid hb
  clear hcs hc hb
  go_wp2_with fail
  refine (hz _).mono ?_
  rintro e W2 ⟨rfl, rfl⟩
  rw [show ((sizeC 9 : Nat) : Int) = 3 from rfl]
  go_wp2_with fail
  go_ret
  exact ⟨rfl, HB.out⟩
end Go.Proofs.YtgmiampijdnebaaGreatDoor
