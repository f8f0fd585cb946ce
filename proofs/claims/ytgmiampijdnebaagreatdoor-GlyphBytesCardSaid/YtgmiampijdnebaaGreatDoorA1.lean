/-
  Small contracts: cmp.Compare, cmp.Or, and the order of codes. No conditions.
-/
import Derived.Test.YtgmiampijdnebaaGreatDoorRows
import Derived.WalkKit
import Derived.WalkSpells
import Derived.WalkLawsBesides
import Derived.Deep.QuietTactic
import Derived.BigQuiet
import Derived.Deep.RegionWith
import Derived.StillTailTactics
import Derived.Lib.Hide
import Derived.Sort.Grow
namespace Go.Proofs.YtgmiampijdnebaaGreatDoor
open Go.RowKit Go.Sort

theorem ret_int {k : IntKind} {a b : Int} (h : a = b) : Ending.returned (.int k a) = .returned (.int k b) := by rw [h]

/-- cmp.Compare at int. -/
def cmpI (a b : Int) : Int := if a < b then -1 else if b < a then 1 else 0

set_option maxHeartbeats 400000 in
theorem isNaN_any (a : Int) (w : World) :
    Calls Tryz.prog 38 #[.int .i64 a] w fun e w' => e = .returned (.bool false) ∧ w' = w := by
  go_enter Tryz.func38, Tryz.ntmps38
  go_wp2
  go_ret
  exact ⟨by simp, rfl⟩

set_option maxHeartbeats 400000 in
theorem compare_any (a b : Int) (w : World) :
    Calls Tryz.prog 24 #[.int .i64 a, .int .i64 b] w fun e w' => e = .returned (.int .i64 (cmpI a b)) ∧ w' = w := by
  go_enter Tryz.func24, Tryz.ntmps24
  go_wp2_with (go_at_call 38; refine (isNaN_any _ _).mono ?_; rintro e w' ⟨rfl, rfl⟩)
  all_goals go_ret
  · have h : a < b := by assumption
    exact ⟨ret_int (by unfold cmpI; rw [if_pos h]), rfl⟩
  · have h : b < a := by assumption
    exact ⟨ret_int (by unfold cmpI; rw [if_neg (by omega), if_pos h]), rfl⟩
  · have h : b ≤ a := by assumption
    have h' : a ≤ b := by assumption
    exact ⟨ret_int (by unfold cmpI; rw [if_neg (by omega), if_neg (by omega)]), rfl⟩

/-- The first that is not 0. -/
def or2 (a b : Int) : Int := if a = 0 then b else a

set_option maxHeartbeats 400000 in
theorem or_two (B c : Nat) (a b : Int) (w : World) (h0 : w.cell? ⟨B, 0, none⟩ = some (.int .i64 a)) (h1 : w.cell? ⟨B, 1, none⟩ = some (.int .i64 b)) :
    Calls Tryz.prog 23 #[.slice (some ⟨B, 0, none⟩) 2 c] w fun e w' => e = .returned (.int .i64 (or2 a b)) ∧ w' = w := by
  go_enter Tryz.func23, Tryz.ntmps23
  go_wp2
  go_loop [8] (fun i => ∃ k : Nat, k ≤ 2 ∧ i = .int .i64 k ∧ (0 < k → a = 0) ∧ (1 < k → b = 0)) (fun i => 2 - (intOf i).toNat)
  case atStart => exact ⟨0, by omega, rfl, by omega, by omega⟩
  case round =>
    obtain ⟨k, hk, rfl, ha, hb⟩ := hrel
    rcases (show k = 0 ∨ k = 1 ∨ k = 2 by omega) with rfl | rfl | rfl
    · clear ha hb
      by_cases hz : (a != 0) = true
      · go_wp2
        go_ret
        exact ⟨ret_int (by unfold or2; rw [if_neg (by simpa using hz)]), rfl⟩
      · have hz' : (a != 0) = false := by simpa using hz
        go_wp2
        go_round
        case rel => exact ⟨1, by omega, rfl, by simpa using hz', by omega⟩
        case measure => simp [intOf]
    · have ha0 := ha (by omega)
      clear ha hb
      have HA := Lib.hid ha0
      clear ha0
      by_cases hz : (b != 0) = true
      · go_wp2
        go_ret
        exact ⟨ret_int (by unfold or2; rw [if_pos HA.out]), rfl⟩
      · have hz' : (b != 0) = false := by simpa using hz
        go_wp2
        go_round
        case rel => exact ⟨2, by omega, rfl, fun _ => HA.out, fun _ => by simpa using hz'⟩
        case measure => simp [intOf]
    · have HA := Lib.hid (ha (by omega))
      have HB := Lib.hid (hb (by omega))
      clear ha hb
      go_wp2
      go_ret
      exact ⟨ret_int (by unfold or2; rw [if_pos HA.out, HB.out]), rfl⟩

/-- The order of two codes. -/
def cmpCode (x y : Int × Int) : Int := or2 (cmpI x.1 y.1) (cmpI x.2 y.2)

/-- The region whose head only reads, over the kit's own word for a draw. -/
theorem still_tail {P : Program} {id : Nat} {Q : Exit → Act → World → Prop} {a : Act} {w : World} {l : List Oper} (n : Nat) (hm : P.follows .mixedOrders = true) (hB : Region.lexTailB .any l.toArray n = true)
    (h : wpStill P l.toArray w.drew (fun a' => wpList P l.toArray Q (l.drop n) a' w.drew) (l.take n) a) : (Code.region id l.toArray true).wp P Q a w :=
  wp_region_still_tail n hm hB h

theorem three_grow (w : World) (a b c : Obj) : (((w.alloc a).alloc b).alloc c).drew = grow (w.drewN 1) #[a, b, c] := by
  rw [alloc_eq_grow, alloc_eq_grow, alloc_eq_grow, grow_grow, grow_grow]; rfl

set_option maxRecDepth 100000 in
set_option maxHeartbeats 400000 in
theorem codesCmp_any (x y : Int × Int) (w : World) :
    Calls Tryz.prog 22 #[.agg #[.int .i64 x.1, .int .i64 x.2], .agg #[.int .i64 y.1, .int .i64 y.2]] w
      fun e w' => e = .returned (.int .i64 (cmpCode x y)) ∧ ∃ q os, w' = grow (w.drewN q) os := by
  obtain ⟨x1, x2⟩ := x
  obtain ⟨y1, y2⟩ := y
  unfold cmpCode
  dsimp only
  generalize hc1 : cmpI x1 y1 = c1
  generalize hc2 : cmpI x2 y2 = c2
  have HC1 := fun W => hc1 ▸ compare_any x1 y1 W
  have HC2 := fun W => hc2 ▸ compare_any x2 y2 W
  clear hc1 hc2
  go_enter Tryz.func22, Tryz.ntmps22
  go_wp2
  refine still_tail 10 (by kernel_rfl) (by kernel_rfl) ?_
  simp only [List.take_succ_cons, List.take_zero, List.drop_succ_cons, List.drop_zero]
  have q0 : (((w.alloc (Obj.cells #[Value.int IntKind.i64 x1, Value.int IntKind.i64 x2] 30)).alloc (Obj.cells #[Value.int IntKind.i64 y1, Value.int IntKind.i64 y2] 30)).drew).cell? ⟨w.heap.size, 0, none⟩ = some (.int .i64 x1) := by go_simp
  still_step
  still_step
  still_step
  still_step
  still_call (HC1 _)
  still_step
  still_step
  still_step
  still_step
  still_call (HC2 _)
  refine wpStill_nil ?_
  go_wp2_with (go_at_call 23; refine (or_two _ _ c1 c2 _ (by go_simp) (by go_simp)).mono ?_; rintro e w' ⟨rfl, rfl⟩)
  go_ret
  exact ⟨rfl, 1, _, three_grow _ _ _ _⟩

end Go.Proofs.YtgmiampijdnebaaGreatDoor
