/-
  glyph.Rune at the sets that have no lines. Its condition: these sets, and a byte that may be.
-/
import Derived.Test.YtgmiampijdnebaaGreatDoorB7
import Derived.BigGuardPart
namespace Go.Proofs.YtgmiampijdnebaaGreatDoor
open Go.RowKit Go.Shelf

/-- Brackets, plus and minus. -/
def signV (n first : Nat) : Option Nat :=
  if n = 43 then some first else if n = 45 then some (first + 1) else if n = 40 then some (first + 3) else if n = 41 then some (first + 4) else none
/-- The character of a byte, in the sets that have no lines. -/
def plainV (set n : Nat) : Option Nat :=
  if set = 1 then some n
  else if set = 10 then (if 48 ≤ n ∧ n ≤ 57 then some (8320 + (n - 48)) else signV n 8330)
  else if set = 11 then (if 48 ≤ n ∧ n ≤ 57 then (if n = 49 then some 185 else if n = 50 ∨ n = 51 then some (178 + (n - 50)) else some (8304 + (n - 48))) else signV n 8314)
  else if 97 ≤ n ∧ n ≤ 99 then some (945 + (n - 97)) else none

theorem ret_i32b2 {a b : Int} {c d : Bool} (h : a = b) (h' : c = d) : Ending.returned (.tuple #[.int .i32 a, .bool c]) = .returned (.tuple #[.int .i32 b, .bool d]) := by rw [h, h']

set_option maxRecDepth 100000 in
set_option maxHeartbeats 2000000 in
theorem small_10 (n : Nat) (h0 : 33 ≤ n) (h1 : n ≤ 126) (w : World) :
    Calls Tryz.prog 31 #[.int .i64 10, .int .i64 n] w fun e w' => e = .returned (.tuple #[.int .i32 ((plainV 10 n).getD 0 : Nat), .bool (plainV 10 n).isSome]) ∧ w' = w := by
  by_cases c1 : n = 43
  · subst c1
    go_enter Tryz.func31, Tryz.ntmps31
    go_wp2
    go_ret2
    exact ⟨rfl, rfl⟩
  by_cases c2 : n = 45
  · subst c2
    go_enter Tryz.func31, Tryz.ntmps31
    go_wp2
    go_ret2
    exact ⟨rfl, rfl⟩
  by_cases c3 : n = 40
  · subst c3
    go_enter Tryz.func31, Tryz.ntmps31
    go_wp2
    go_ret2
    exact ⟨rfl, rfl⟩
  by_cases c4 : n = 41
  · subst c4
    go_enter Tryz.func31, Tryz.ntmps31
    go_wp2
    go_ret2
    exact ⟨rfl, rfl⟩
  have g1 : ((n : Int) == 43) = false := beq_eq_false_iff_ne.2 (by omega)
  have g2 : ((n : Int) == 45) = false := beq_eq_false_iff_ne.2 (by omega)
  have g3 : ((n : Int) == 40) = false := beq_eq_false_iff_ne.2 (by omega)
  have g4 : ((n : Int) == 41) = false := beq_eq_false_iff_ne.2 (by omega)
  rcases (show n < 48 ∨ 57 < n ∨ (48 ≤ n ∧ n ≤ 57) by omega) with hc | hc | ⟨hc, hc'⟩
  · have e : plainV 10 n = none := by unfold plainV signV; rw [if_neg (by omega), if_pos rfl, if_neg (by omega), if_neg c1, if_neg c2, if_neg c3, if_neg c4]
    rw [e]
    clear e c1 c2 c3 c4
    go_enter Tryz.func31, Tryz.ntmps31
    go_wp2
    all_goals first | (exfalso; omega) | (go_ret2; exact ⟨rfl, rfl⟩)
  · have e : plainV 10 n = none := by unfold plainV signV; rw [if_neg (by omega), if_pos rfl, if_neg (by omega), if_neg c1, if_neg c2, if_neg c3, if_neg c4]
    rw [e]
    clear e c1 c2 c3 c4
    go_enter Tryz.func31, Tryz.ntmps31
    go_wp2
    all_goals first | (exfalso; omega) | (go_ret2; exact ⟨rfl, rfl⟩)
  · have e : plainV 10 n = some (8320 + (n - 48)) := by unfold plainV; rw [if_neg (by omega), if_pos rfl, if_pos ⟨hc, hc'⟩]
    have HE : Hid ((((plainV 10 n).getD 0 : Nat) : Int) = 8320 + ((n : Int) - 48) ∧ (plainV 10 n).isSome = true) := Lib.hid (by rw [e]; simp; omega)
    clear e c1 c2 c3 c4 g1 g2 g3 g4
    go_enter Tryz.func31, Tryz.ntmps31
    go_wp2
    all_goals first | (exfalso; omega) | (go_ret2; exact ⟨ret_i32b2 HE.out.1.symm HE.out.2.symm, rfl⟩)

set_option maxRecDepth 100000 in
set_option maxHeartbeats 2000000 in
theorem small_11 (n : Nat) (h0 : 33 ≤ n) (h1 : n ≤ 126) (w : World) :
    Calls Tryz.prog 31 #[.int .i64 11, .int .i64 n] w fun e w' => e = .returned (.tuple #[.int .i32 ((plainV 11 n).getD 0 : Nat), .bool (plainV 11 n).isSome]) ∧ w' = w := by
  by_cases c1 : n = 43
  · subst c1
    go_enter Tryz.func31, Tryz.ntmps31
    go_wp2
    go_ret2
    exact ⟨rfl, rfl⟩
  by_cases c2 : n = 45
  · subst c2
    go_enter Tryz.func31, Tryz.ntmps31
    go_wp2
    go_ret2
    exact ⟨rfl, rfl⟩
  by_cases c3 : n = 40
  · subst c3
    go_enter Tryz.func31, Tryz.ntmps31
    go_wp2
    go_ret2
    exact ⟨rfl, rfl⟩
  by_cases c4 : n = 41
  · subst c4
    go_enter Tryz.func31, Tryz.ntmps31
    go_wp2
    go_ret2
    exact ⟨rfl, rfl⟩
  by_cases c5 : n = 49
  · subst c5
    go_enter Tryz.func31, Tryz.ntmps31
    go_wp2
    go_ret2
    exact ⟨rfl, rfl⟩
  by_cases c6 : n = 50
  · subst c6
    go_enter Tryz.func31, Tryz.ntmps31
    go_wp2
    go_ret2
    exact ⟨rfl, rfl⟩
  by_cases c7 : n = 51
  · subst c7
    go_enter Tryz.func31, Tryz.ntmps31
    go_wp2
    go_ret2
    exact ⟨rfl, rfl⟩
  have g1 : ((n : Int) == 43) = false := beq_eq_false_iff_ne.2 (by omega)
  have g2 : ((n : Int) == 45) = false := beq_eq_false_iff_ne.2 (by omega)
  have g3 : ((n : Int) == 40) = false := beq_eq_false_iff_ne.2 (by omega)
  have g4 : ((n : Int) == 41) = false := beq_eq_false_iff_ne.2 (by omega)
  have g5 : ((n : Int) == 49) = false := beq_eq_false_iff_ne.2 (by omega)
  have g6 : ((n : Int) == 50) = false := beq_eq_false_iff_ne.2 (by omega)
  have g7 : ((n : Int) == 51) = false := beq_eq_false_iff_ne.2 (by omega)
  rcases (show n < 48 ∨ 57 < n ∨ (48 ≤ n ∧ n ≤ 57) by omega) with hc | hc | ⟨hc, hc'⟩
  · have e : plainV 11 n = none := by unfold plainV signV; rw [if_neg (by omega), if_neg (by omega), if_pos rfl, if_neg (by omega), if_neg c1, if_neg c2, if_neg c3, if_neg c4]
    rw [e]
    clear e c1 c2 c3 c4 c5 c6 c7
    go_enter Tryz.func31, Tryz.ntmps31
    go_wp2
    all_goals first | (exfalso; omega) | (go_ret2; exact ⟨rfl, rfl⟩)
  · have e : plainV 11 n = none := by unfold plainV signV; rw [if_neg (by omega), if_neg (by omega), if_pos rfl, if_neg (by omega), if_neg c1, if_neg c2, if_neg c3, if_neg c4]
    rw [e]
    clear e c1 c2 c3 c4 c5 c6 c7
    go_enter Tryz.func31, Tryz.ntmps31
    go_wp2
    all_goals first | (exfalso; omega) | (go_ret2; exact ⟨rfl, rfl⟩)
  · have e : plainV 11 n = some (8304 + (n - 48)) := by unfold plainV; rw [if_neg (by omega), if_neg (by omega), if_pos rfl, if_pos ⟨hc, hc'⟩, if_neg c5, if_neg (by omega)]
    have HE : Hid ((((plainV 11 n).getD 0 : Nat) : Int) = 8304 + ((n : Int) - 48) ∧ (plainV 11 n).isSome = true) := Lib.hid (by rw [e]; simp; omega)
    clear e c1 c2 c3 c4 c5 c6 c7 g1 g2 g3 g4
    go_enter Tryz.func31, Tryz.ntmps31
    go_wp2
    all_goals first | (exfalso; omega) | (go_ret2; exact ⟨ret_i32b2 HE.out.1.symm HE.out.2.symm, rfl⟩)

set_option maxRecDepth 100000 in
set_option maxHeartbeats 2000000 in
theorem small_12 (n : Nat) (h0 : 33 ≤ n) (h1 : n ≤ 126) (w : World) :
    Calls Tryz.prog 31 #[.int .i64 12, .int .i64 n] w fun e w' => e = .returned (.tuple #[.int .i32 ((plainV 12 n).getD 0 : Nat), .bool (plainV 12 n).isSome]) ∧ w' = w := by
  rcases (show n < 97 ∨ 99 < n ∨ (97 ≤ n ∧ n ≤ 99) by omega) with hc | hc | ⟨hc, hc'⟩
  · have e : plainV 12 n = none := by unfold plainV; rw [if_neg (by omega), if_neg (by omega), if_neg (by omega), if_neg (by omega)]
    rw [e]
    clear e
    go_enter Tryz.func31, Tryz.ntmps31
    go_wp2
    all_goals first | (exfalso; omega) | (go_ret2; exact ⟨rfl, rfl⟩)
  · have e : plainV 12 n = none := by unfold plainV; rw [if_neg (by omega), if_neg (by omega), if_neg (by omega), if_neg (by omega)]
    rw [e]
    clear e
    go_enter Tryz.func31, Tryz.ntmps31
    go_wp2
    all_goals first | (exfalso; omega) | (go_ret2; exact ⟨rfl, rfl⟩)
  · have e : plainV 12 n = some (945 + (n - 97)) := by unfold plainV; rw [if_neg (by omega), if_neg (by omega), if_neg (by omega), if_pos ⟨hc, hc'⟩]
    have HE : Hid ((((plainV 12 n).getD 0 : Nat) : Int) = 945 + ((n : Int) - 97) ∧ (plainV 12 n).isSome = true) := Lib.hid (by rw [e]; simp; omega)
    clear e
    go_enter Tryz.func31, Tryz.ntmps31
    go_wp2
    all_goals first | (exfalso; omega) | (go_ret2; exact ⟨ret_i32b2 HE.out.1.symm HE.out.2.symm, rfl⟩)
end Go.Proofs.YtgmiampijdnebaaGreatDoor
