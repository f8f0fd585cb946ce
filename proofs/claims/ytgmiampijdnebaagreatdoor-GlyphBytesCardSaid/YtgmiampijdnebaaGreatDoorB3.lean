/-
  strconv.ParseUint of a few hexadecimal digits (0 .. 9, A .. F), base 16, 32 bits. Its condition: 1 to 7 such digits.
-/
import Derived.Test.YtgmiampijdnebaaGreatDoorRows
import Derived.Lib.Strings
import Derived.Lib.Walk
import Derived.Lib.ConvBytes
import Derived.Lib.Hide
import Derived.Laws.Strings3
import Derived.Laws.Closers25
import Derived.Laws.Closers25b
import Derived.WalkKit
import Derived.WalkSpells
import Derived.WalkLawsBesides
import Derived.BigCall
import Derived.BigGuard
namespace Go.Proofs.YtgmiampijdnebaaGreatDoor
open Go.RowKit

/-- A hexadecimal digit, of the great ones. -/
def hexD (c : UInt8) : Bool := (48 ≤ c.toNat && c.toNat ≤ 57) || (65 ≤ c.toNat && c.toNat ≤ 70)
/-- .. its value. -/
def hexVal (c : UInt8) : Nat := if c.toNat ≤ 57 then c.toNat - 48 else c.toNat - 55
/-- A number of such digits. -/
def hexN (a : Nat) : List UInt8 → Nat
  | [] => a
  | c :: l => hexN (a * 16 + hexVal c) l

theorem hexN_lt : ∀ (l : List UInt8) (a n : Nat), (∀ c ∈ l, hexD c = true) → a < 16 ^ n → hexN a l < 16 ^ (n + l.length)
  | [], a, n, _, h => by simpa [hexN] using h
  | c :: l, a, n, hl, h => by
    have hc := hl c (by simp)
    have hv : hexVal c < 16 := by
      unfold hexD at hc; unfold hexVal
      simp at hc
      split <;> omega
    have := hexN_lt l (a * 16 + hexVal c) (n + 1) (fun x hx => hl x (by simp [hx])) (by rw [Nat.pow_succ]; omega)
    simpa [hexN, Nat.add_assoc, Nat.add_comm 1] using this

theorem ret_int' {k : IntKind} {a b : Int} (h : a = b) : Ending.returned (.int k a) = .returned (.int k b) := by rw [h]

set_option maxHeartbeats 400000 in
theorem lower_big (c : Int) (h : 65 ≤ c ∧ c ≤ 70) (w : World) :
    Calls Tryz.prog 87 #[.int .u8 c] w fun e w' => e = .returned (.int .u8 (c + 32)) ∧ w' = w := by
  have hor : ∀ c : Int, 65 ≤ c ∧ c ≤ 70 → bits .or .u8 c 32 = c + 32 := by
    intro c hc
    obtain rfl | rfl | rfl | rfl | rfl | rfl : c = 65 ∨ c = 66 ∨ c = 67 ∨ c = 68 ∨ c = 69 ∨ c = 70 := by omega
    all_goals decide
  have := hor c h
  go_enter Tryz.func87, Tryz.ntmps87
  go_wp2
  go_ret
  exact ⟨by simp, rfl⟩

theorem ret_u64nil {a b : Int} (h : a = b) : Ending.returned (.tuple #[.int .u64 a, .nilIface]) = .returned (.tuple #[.int .u64 b, .nilIface]) := by rw [h]

set_option maxHeartbeats 4000000 in
set_option maxRecDepth 100000 in
theorem parseHex (t : ByteArray) (hne : t.size ≠ 0) (hmax : t.size ≤ 7) (hd : ∀ c ∈ t.data.toList, hexD c = true) (w : World) :
    Calls Tryz.prog 67 #[.string t, .int .i64 16, .int .i64 32] w
      fun e w' => e = .returned (.tuple #[.int .u64 (hexN 0 t.data.toList), .nilIface]) ∧ Below w.heap.size w w' := by
  have hemp : t.toList.isEmpty = false := by
    rw [← decide_eq_emptyBytes]
    exact decide_eq_false (fun h => hne (by rw [h]; rfl))
  have hcv := Lib.run_convert_string_bytes (P := Tryz.prog) w 9 125 5 t (u := .string) Tryz.underlying9 Tryz.underlying125 Tryz.underlying5
  have hB : ∀ j, j < t.size → (Lib.bytesWorld w 5 t).cell? ⟨w.heap.size, j, none⟩ = some (.int .u8 (t.data.toList.getD j 0).toNat) := fun j hj => Lib.bytesWorld_cell w 5 t j hj
  have hbel : Below w.heap.size w (Lib.bytesWorld w 5 t) := ⟨rfl, rfl, rfl, by rw [Lib.bytesWorld_size]; omega, fun k hk => Lib.bytesWorld_at_old w _ t k hk⟩
  obtain ⟨W1, hW1⟩ : ∃ W1, W1 = Lib.bytesWorld w 5 t := ⟨_, rfl⟩
  rw [← hW1] at hcv hB hbel
  clear hW1
  obtain ⟨bs, hL⟩ : ∃ bs, bs = t.data.toList := ⟨_, rfl⟩
  have hLn : bs.length = t.size := by rw [hL, Lib.size_eq]
  rw [← hL] at hB hd ⊢
  clear hL
  have hmv : IntKind.u64.wrap (IntKind.u64.wrap 4294967296 - 1) = 4294967295 := by
    rw [IntKind.wrap_u64, IntKind.wrap_u64]
    decide
  go_enter Tryz.func67, Tryz.ntmps67
  go_wp2
  go_loop [12, 13, 101] (fun vu vn vi => ∃ (k acc : Nat) (a : Int), vu = .bool false ∧ vn = .int .u64 a ∧ vi = .int .i64 k ∧ k ≤ t.size ∧ Hid (a = (acc : Int) ∧ acc < 16 ^ k ∧ hexN 0 bs = hexN acc (bs.drop k)))
    (fun _ _ vi => t.size - (intOf vi).toNat)
  case atStart => exact ⟨0, 0, 0, rfl, rfl, rfl, by omega, rfl, by omega, rfl⟩
  case round =>
    obtain ⟨k, acc, a, rfl, rfl, rfl, hk, hh⟩ := hrel
    obtain ⟨ha, hacc, hdec⟩ := hh.out
    clear hh
    have a0 : 0 ≤ a := by omega
    by_cases hkn : k < t.size
    · have hacc6 : acc < 16 ^ 6 := Nat.lt_of_lt_of_le hacc (Nat.pow_le_pow_right (by omega) (by omega))
      have a1 : a < 16777216 := by omega
      have hc := hB k hkn
      have hdrop : bs.drop k = bs[k]'(by omega) :: bs.drop (k + 1) := List.drop_eq_getElem_cons (by omega)
      have hget : bs.getD k 0 = bs[k]'(by omega) := by simp [List.getD, List.getElem?_eq_getElem (show k < bs.length by omega)]
      have hdig := hd (bs[k]'(by omega)) (List.getElem_mem _)
      rw [hdrop] at hdec
      rw [hget] at hc
      generalize bs[k]'(by omega) = c at hc hdec hdig
      have hv : hexVal c < 16 := by
        unfold hexD at hdig; unfold hexVal
        simp at hdig
        split <;> omega
      have HN : Hid (a * 16 + (hexVal c : Int) = ((acc * 16 + hexVal c : Nat) : Int) ∧ acc * 16 + hexVal c < 16 ^ (k + 1) ∧ hexN 0 bs = hexN (acc * 16 + hexVal c) (bs.drop (k + 1))) :=
        Lib.hid ⟨by omega, by rw [Nat.pow_succ]; omega, hdec⟩
      clear hB hdrop hget hdec hacc hacc6 ha hd
      by_cases h9 : c.toNat ≤ 57
      · have h48 : 48 ≤ c.toNat := by
          unfold hexD at hdig; simp at hdig; omega
        have HV : Hid ((c.toNat : Int) - 48 = hexVal c) := Lib.hid (by unfold hexVal; rw [if_pos h9]; omega)
        clear hv hdig
        go_wp2
        refine ⟨⟨k + 1, acc * 16 + hexVal c, a * 16 + ((c.toNat : Int) - 48), rfl, rfl, by go_num, by omega, ?_⟩, by simp [intOf]; omega⟩
        rw [HV.out]; exact HN
      · have h65 : 65 ≤ c.toNat ∧ c.toNat ≤ 70 := by
          unfold hexD at hdig; simp at hdig; omega
        obtain ⟨g1, g2⟩ := h65
        have HV : Hid ((c.toNat : Int) + 32 - 97 + 10 = hexVal c) := Lib.hid (by unfold hexVal; rw [if_neg h9]; omega)
        have g3 : 57 < c.toNat := by omega
        clear hv hdig h9
        go_wp2_with (go_at_call 87; refine (lower_big _ (by omega) _).mono ?_; rintro e w' ⟨rfl, rfl⟩)
        refine ⟨⟨k + 1, acc * 16 + hexVal c, a * 16 + ((c.toNat : Int) + 32 - 97 + 10), rfl, rfl, by go_num, by omega, ?_⟩, by simp [intOf]; omega⟩
        rw [HV.out]; exact HN
    · have hkk : k = t.size := by omega
      subst hkk
      have hF : hexN acc (bs.drop t.size) = acc := by rw [List.drop_eq_nil_of_le (by omega)]; rfl
      rw [hF] at hdec
      have HD := Lib.hid (hdec.trans (show acc = acc from rfl))
      have HA := Lib.hid ha
      clear hF hdec ha hacc hB hd
      go_wp2
      go_ret2
      exact ⟨ret_u64nil (by rw [HA.out, HD.out]), hbel⟩

set_option maxHeartbeats 400000 in
/-- .. the public one. -/
theorem parseHex_pub (t : ByteArray) (hne : t.size ≠ 0) (hmax : t.size ≤ 7) (hd : ∀ c ∈ t.data.toList, hexD c = true) (w : World) :
    Calls Tryz.prog 41 #[.string t, .int .i64 16, .int .i64 32] w
      fun e w' => e = .returned (.tuple #[.int .u64 (hexN 0 t.data.toList), .nilIface]) ∧ Below w.heap.size w w' := by
  have hcon := fun W => parseHex t hne hmax hd W
  obtain ⟨v, hv⟩ : ∃ v : Int, (hexN 0 t.data.toList : Int) = v := ⟨_, rfl⟩
  rw [hv] at hcon ⊢
  clear hv hd
  go_enter Tryz.func41, Tryz.ntmps41
  go_wp2_with (go_at_call 67; refine (hcon _).mono ?_; rintro e w' ⟨rfl, hb⟩)
  go_ret2
  exact ⟨rfl, hb⟩
end Go.Proofs.YtgmiampijdnebaaGreatDoor
