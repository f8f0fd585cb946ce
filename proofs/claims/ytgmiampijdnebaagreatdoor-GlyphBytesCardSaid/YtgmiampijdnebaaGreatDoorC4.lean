/-
  latin.Basic, and glyph.Rune at the sets that have no lines. Its condition: these sets, and a byte that may be.
-/
import Derived.Test.YtgmiampijdnebaaGreatDoorC3
namespace Go.Proofs.YtgmiampijdnebaaGreatDoor
open Go.RowKit Go.Shelf

set_option maxHeartbeats 1000000 in
theorem basic_any (n : Nat) (h0 : 33 ≤ n) (h1 : n ≤ 126) (w : World) :
    Calls Tryz.prog 28 #[.int .i64 n] w fun e w' => e = .returned (.tuple #[.int .i32 (n : Nat), .bool true]) ∧ w' = w := by
  go_enter Tryz.func28, Tryz.ntmps28
  go_wp2
  all_goals first | (exfalso; omega) | (go_ret2; exact ⟨rfl, rfl⟩)

set_option maxRecDepth 100000 in
set_option maxHeartbeats 1000000 in
theorem rune_1 (n : Nat) (h0 : 33 ≤ n) (h1 : n ≤ 126) (w : World) :
    Calls Tryz.prog 18 #[.agg #[.int .i64 1, .int .i64 n]] w fun e w' => e = .returned (.tuple #[.int .i32 ((plainV 1 n).getD 0 : Nat), .bool (plainV 1 n).isSome]) ∧ w' = w.alloc (.cells #[.int .i64 1, .int .i64 n] 30) := by
  rw [show plainV 1 n = some n from rfl]
  have hb := fun w => basic_any n h0 h1 w
  go_enter Tryz.func18, Tryz.ntmps18
  go_wp2_with fail
  refine (hb _).mono ?_
  rintro e w' ⟨rfl, rfl⟩
  go_wp2_with fail
  go_ret2
  exact ⟨rfl, rfl⟩

set_option maxRecDepth 100000 in
set_option maxHeartbeats 1000000 in
theorem rune_10 (n : Nat) (h0 : 33 ≤ n) (h1 : n ≤ 126) (w : World) :
    Calls Tryz.prog 18 #[.agg #[.int .i64 10, .int .i64 n]] w fun e w' => e = .returned (.tuple #[.int .i32 ((plainV 10 n).getD 0 : Nat), .bool (plainV 10 n).isSome]) ∧ w' = w.alloc (.cells #[.int .i64 10, .int .i64 n] 30) := by
  have hb := fun w => small_10 n h0 h1 w
  generalize plainV 10 n = pv at hb ⊢
  go_enter Tryz.func18, Tryz.ntmps18
  go_wp2_with fail
  refine (hb _).mono ?_
  rintro e w' ⟨rfl, rfl⟩
  go_wp2_with fail
  go_ret2
  exact ⟨rfl, rfl⟩

set_option maxRecDepth 100000 in
set_option maxHeartbeats 1000000 in
theorem rune_11 (n : Nat) (h0 : 33 ≤ n) (h1 : n ≤ 126) (w : World) :
    Calls Tryz.prog 18 #[.agg #[.int .i64 11, .int .i64 n]] w fun e w' => e = .returned (.tuple #[.int .i32 ((plainV 11 n).getD 0 : Nat), .bool (plainV 11 n).isSome]) ∧ w' = w.alloc (.cells #[.int .i64 11, .int .i64 n] 30) := by
  have hb := fun w => small_11 n h0 h1 w
  generalize plainV 11 n = pv at hb ⊢
  go_enter Tryz.func18, Tryz.ntmps18
  go_wp2_with fail
  refine (hb _).mono ?_
  rintro e w' ⟨rfl, rfl⟩
  go_wp2_with fail
  go_ret2
  exact ⟨rfl, rfl⟩

set_option maxRecDepth 100000 in
set_option maxHeartbeats 1000000 in
theorem rune_12 (n : Nat) (h0 : 33 ≤ n) (h1 : n ≤ 126) (w : World) :
    Calls Tryz.prog 18 #[.agg #[.int .i64 12, .int .i64 n]] w fun e w' => e = .returned (.tuple #[.int .i32 ((plainV 12 n).getD 0 : Nat), .bool (plainV 12 n).isSome]) ∧ w' = w.alloc (.cells #[.int .i64 12, .int .i64 n] 30) := by
  have hb := fun w => small_12 n h0 h1 w
  generalize plainV 12 n = pv at hb ⊢
  go_enter Tryz.func18, Tryz.ntmps18
  go_wp2_with fail
  refine (hb _).mono ?_
  rintro e w' ⟨rfl, rfl⟩
  go_wp2_with fail
  go_ret2
  exact ⟨rfl, rfl⟩

/-- The sets that have no lines. -/
def plainSet (set : Nat) : Prop := set = 1 ∨ set = 10 ∨ set = 11 ∨ set = 12
theorem glyphRune_any (set n : Nat) (hs : plainSet set) (h0 : 33 ≤ n) (h1 : n ≤ 126) (w : World) :
    Calls Tryz.prog 18 #[.agg #[.int .i64 set, .int .i64 n]] w fun e w' => e = .returned (.tuple #[.int .i32 ((plainV set n).getD 0 : Nat), .bool (plainV set n).isSome]) ∧ w' = w.alloc (.cells #[.int .i64 set, .int .i64 n] 30) := by
  obtain rfl | rfl | rfl | rfl := hs
  · exact rune_1 n h0 h1 w
  · exact rune_10 n h0 h1 w
  · exact rune_11 n h0 h1 w
  · exact rune_12 n h0 h1 w
theorem plainV_le (set n : Nat) (h1 : n ≤ 126) : (plainV set n).getD 0 ≤ 10000 := by
  unfold plainV signV
  repeat' split
  all_goals simp
  all_goals omega

/-- The glyph of a byte, if it has one. -/
def plainAt (set n : Nat) : List (Code × Nat) := match plainV set n with | some r => [((set, n), r)] | none => []
theorem plainAt_length (set n : Nat) : (plainAt set n).length ≤ 1 := by
  unfold plainAt
  split <;> simp
/-- Those below a byte. -/
def plainTo (set n : Nat) : List (Code × Nat) := (List.range (n - 33)).flatMap fun k => plainAt set (33 + k)
theorem plainTo_succ (set n : Nat) (h : 33 ≤ n) : plainTo set (n + 1) = plainTo set n ++ plainAt set n := by
  unfold plainTo
  rw [show n + 1 - 33 = (n - 33) + 1 by omega, List.range_succ, List.flatMap_append]
  simp [show 33 + (n - 33) = n by omega]
theorem plainTo_length (set n : Nat) : (plainTo set n).length ≤ n - 33 := by
  unfold plainTo
  generalize n - 33 = k
  induction k with
  | zero => simp
  | succ k ih =>
    rw [List.range_succ, List.flatMap_append, List.length_append]
    have : ([k].flatMap fun k => plainAt set (33 + k)).length ≤ 1 := by
      rw [List.flatMap_singleton]
      exact plainAt_length set _
    omega
end Go.Proofs.YtgmiampijdnebaaGreatDoor
