/-
  latin.EachAnsel and scripts.Each, with the closures of glyph.New. No conditions but on sizes.
-/
import Derived.Test.YtgmiampijdnebaaGreatDoorB8
import Derived.Test.YtgmiampijdnebaaGreatDoorD1
namespace Go.Proofs.YtgmiampijdnebaaGreatDoor
open Go.RowKit Go.Shelf

/-- A text that tells these codes. -/
def Tells (X : ByteArray) (L : List (Nat × Nat)) : Prop := okText X = true ∧ textCodes X = L ∧ okCodes L = true ∧ X.toList.isEmpty = false
theorem Tells.mk {X : ByteArray} {L : List (Nat × Nat)} (h : (okText X && decide (textCodes X = L) && okCodes L && !X.data.toList.isEmpty) = true) : Tells X L := by
  simp only [Bool.and_eq_true, decide_eq_true_eq] at h
  exact ⟨h.1.1.1, h.1.1.2, h.1.2, by rw [Lib.toList_data]; simpa using h.2⟩

set_option maxRecDepth 100000 in
set_option maxHeartbeats 1000000 in
theorem eachAnsel_any (E : Env) (G : List (Code × Nat)) (bx bset : Nat) (hG : G.length < 90000)
    (hGl : Glob E.w0) (W : World) (h : State E G W) (hb : Boxes E bx bset 2 W) :
    Calls Tryz.prog 15 #[.func (.func 13) #[] #[.pointer (some ⟨bx, 0, none⟩), .pointer (some ⟨bset, 0, none⟩)]] W fun e W' =>
      e = .returned (.tuple #[]) ∧ State E (G ++ tag 2 anselL) W' ∧ Boxes E bx bset 2 W' ∧ Fr W W' := by
  have hc : ∀ X, Tells X anselL → Calls Tryz.prog 25 #[.string X, .func (.func 13) #[] #[.pointer (some ⟨bx, 0, none⟩), .pointer (some ⟨bset, 0, none⟩)]] W fun e W' =>
      e = .returned (.tuple #[]) ∧ State E (G ++ tag 2 anselL) W' ∧ Boxes E bx bset 2 W' ∧ Fr W W' := fun X hX => by
    have hlen : anselL.length < 1000 := by decide
    have := each_set E G bx bset 2 (by omega) X hX.1 (by rw [hX.2.1]; exact hX.2.2.1) (by rw [hX.2.1]; omega) hGl W h hb
    rwa [hX.2.1] at this
  clear h hb hGl
  go_enter Tryz.func15, Tryz.ntmps15
  go_wp2_with fail
  refine (hc _ (Tells.mk ?_)).mono ?_
  · decide +kernel
  rintro e w' ⟨rfl, h1, h2, h3⟩
  go_wp2_with fail
  go_end0
  exact ⟨rfl, h1, h2, h3⟩

/-- The tables of the scripts. -/
def scriptL (set : Nat) : List (Nat × Nat) :=
  if set = 3 then greekL else if set = 4 then hebrewL else if set = 5 then arabicL else if set = 6 then moreArabicL else if set = 7 then cyrillicL else moreCyrillL

set_option maxRecDepth 100000 in
set_option maxHeartbeats 1000000 in
theorem text_3 (w : World) : Calls Tryz.prog 27 #[.int .i64 3] w fun e w' => (∃ X, e = .returned (.string X) ∧ Tells X (scriptL 3)) ∧ w' = w := by
  go_enter Tryz.func27, Tryz.ntmps27
  go_wp2
  go_ret
  refine ⟨⟨_, rfl, Tells.mk ?_⟩, rfl⟩
  decide +kernel

set_option maxRecDepth 100000 in
set_option maxHeartbeats 1000000 in
theorem text_4 (w : World) : Calls Tryz.prog 27 #[.int .i64 4] w fun e w' => (∃ X, e = .returned (.string X) ∧ Tells X (scriptL 4)) ∧ w' = w := by
  go_enter Tryz.func27, Tryz.ntmps27
  go_wp2
  go_ret
  refine ⟨⟨_, rfl, Tells.mk ?_⟩, rfl⟩
  decide +kernel

set_option maxRecDepth 100000 in
set_option maxHeartbeats 1000000 in
theorem text_5 (w : World) : Calls Tryz.prog 27 #[.int .i64 5] w fun e w' => (∃ X, e = .returned (.string X) ∧ Tells X (scriptL 5)) ∧ w' = w := by
  go_enter Tryz.func27, Tryz.ntmps27
  go_wp2
  go_ret
  refine ⟨⟨_, rfl, Tells.mk ?_⟩, rfl⟩
  decide +kernel

set_option maxRecDepth 100000 in
set_option maxHeartbeats 1000000 in
theorem text_6 (w : World) : Calls Tryz.prog 27 #[.int .i64 6] w fun e w' => (∃ X, e = .returned (.string X) ∧ Tells X (scriptL 6)) ∧ w' = w := by
  go_enter Tryz.func27, Tryz.ntmps27
  go_wp2
  go_ret
  refine ⟨⟨_, rfl, Tells.mk ?_⟩, rfl⟩
  decide +kernel

set_option maxRecDepth 100000 in
set_option maxHeartbeats 1000000 in
theorem text_7 (w : World) : Calls Tryz.prog 27 #[.int .i64 7] w fun e w' => (∃ X, e = .returned (.string X) ∧ Tells X (scriptL 7)) ∧ w' = w := by
  go_enter Tryz.func27, Tryz.ntmps27
  go_wp2
  go_ret
  refine ⟨⟨_, rfl, Tells.mk ?_⟩, rfl⟩
  decide +kernel

set_option maxRecDepth 100000 in
set_option maxHeartbeats 1000000 in
theorem text_8 (w : World) : Calls Tryz.prog 27 #[.int .i64 8] w fun e w' => (∃ X, e = .returned (.string X) ∧ Tells X (scriptL 8)) ∧ w' = w := by
  go_enter Tryz.func27, Tryz.ntmps27
  go_wp2
  go_ret
  refine ⟨⟨_, rfl, Tells.mk ?_⟩, rfl⟩
  decide +kernel

theorem text_any (set : Nat) (h : 3 ≤ set ∧ set ≤ 8) (w : World) : Calls Tryz.prog 27 #[.int .i64 set] w fun e w' => (∃ X, e = .returned (.string X) ∧ Tells X (scriptL set)) ∧ w' = w := by
  obtain rfl | rfl | rfl | rfl | rfl | rfl : set = 3 ∨ set = 4 ∨ set = 5 ∨ set = 6 ∨ set = 7 ∨ set = 8 := by omega
  · exact text_3 w
  · exact text_4 w
  · exact text_5 w
  · exact text_6 w
  · exact text_7 w
  · exact text_8 w

theorem scriptL_length (set : Nat) : (scriptL set).length < 1000 := by
  unfold scriptL
  repeat' split
  all_goals decide

set_option maxRecDepth 100000 in
set_option maxHeartbeats 1000000 in
theorem scriptsEach_any (E : Env) (G : List (Code × Nat)) (bx bset set : Nat) (hset : 3 ≤ set ∧ set ≤ 8) (hG : G.length < 90000)
    (hGl : Glob E.w0) (W : World) (h : State E G W) (hb : Boxes E bx bset set W) :
    Calls Tryz.prog 17 #[.int .i64 set, .func (.func 13) #[] #[.pointer (some ⟨bx, 0, none⟩), .pointer (some ⟨bset, 0, none⟩)]] W fun e W' =>
      e = .returned (.tuple #[]) ∧ State E (G ++ tag set (scriptL set)) W' ∧ Boxes E bx bset set W' ∧ Fr W W' := by
  have hc : ∀ X, Tells X (scriptL set) → Calls Tryz.prog 25 #[.string X, .func (.func 13) #[] #[.pointer (some ⟨bx, 0, none⟩), .pointer (some ⟨bset, 0, none⟩)]] W fun e W' =>
      e = .returned (.tuple #[]) ∧ State E (G ++ tag set (scriptL set)) W' ∧ Boxes E bx bset set W' ∧ Fr W W' := fun X hX => by
    have hlen := scriptL_length set
    have := each_set E G bx bset set (by omega) X hX.1 (by rw [hX.2.1]; exact hX.2.2.1) (by rw [hX.2.1]; omega) hGl W h hb
    rwa [hX.2.1] at this
  have ht := fun W => text_any set hset W
  generalize scriptL set = L at hc ht ⊢
  clear h hb hGl hset
  go_enter Tryz.func17, Tryz.ntmps17
  go_wp2_with fail
  refine (ht _).mono ?_
  rintro e w' ⟨⟨X, rfl, hX⟩, rfl⟩
  have hne := hX.2.2.2
  go_wp2_with fail
  refine (ht _).mono ?_
  rintro e w' ⟨⟨Y, rfl, hY⟩, rfl⟩
  go_wp2_with fail
  refine (hc _ hY).mono ?_
  rintro e w' ⟨rfl, h1, h2, h3⟩
  go_wp2_with fail
  go_end0
  exact ⟨rfl, h1, h2, h3⟩
end Go.Proofs.YtgmiampijdnebaaGreatDoor
