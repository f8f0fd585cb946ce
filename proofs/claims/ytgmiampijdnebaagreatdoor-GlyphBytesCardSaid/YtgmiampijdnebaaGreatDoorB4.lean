/-
  latin.Word at the words of the tables: a character, a number of hexadecimal digits, or none. Its condition: the word is one of these; the library's tables are as they are laid.
-/
import Derived.Test.YtgmiampijdnebaaGreatDoorB3
import Derived.Test.YtgmiampijdnebaaGreatDoorShelfA
namespace Go.Proofs.YtgmiampijdnebaaGreatDoor
open Go.RowKit

/-- The library's tables that the texts are read by. -/
def Glob (w : World) : Prop :=
  Lib.TabIs Tryz.prog w "strings.asciiSpace" .u8 Lib.asciiSpaceTab ∧ Lib.WhiteTab 1 w ∧ Lib.Utf8Tabs 4 5 w

theorem Glob.below {w w' : World} (h : Glob w) (hb : Below w.heap.size w w') : Glob w' :=
  have hlt : 4 < w.heap.size := World.block_lt_of_cell? w ⟨4, 0, none⟩ (h.2.2.1 0 (by omega))
  ⟨var?_below hb (g := 0) (by kernel_rfl) (by omega) h.1, WhiteTab_below h.2.1 hb, Utf8Tabs_below h.2.2 hb⟩

/-- A word's bytes, as a string. -/
def str (x : List UInt8) : ByteArray := ⟨x.toArray⟩

/-- What a word is. -/
def wordV (x : List UInt8) : Option Nat :=
  if x = [45] then none else if (Lib.decodeGo (str x)).2 = x.length then some (Lib.decodeGo (str x)).1 else some (hexN 0 x)
/-- Is it one? -/
def okWord (x : List UInt8) : Bool :=
  x == [45] || (Lib.decodeGo (str x)).2 == x.length || (x.length ≤ 7 && x != [] && x.all hexD)

set_option maxHeartbeats 1000000 in
theorem word_none (w : World) (hG : Glob w) :
    Calls Tryz.prog 42 #[.string ⟨#[45]⟩] w fun e w' => e = .returned (.tuple #[.int .i32 0, .bool false]) ∧ Below w.heap.size w w' := by
  have hcon := Tryz.utf8_DecodeRuneInString ⟨#[45]⟩ w hG.2.2
  generalize (Lib.decodeGo ⟨#[45]⟩).1 = a at hcon
  generalize (Lib.decodeGo ⟨#[45]⟩).2 = b at hcon
  clear hG
  go_enter Tryz.func42, Tryz.ntmps42
  go_wp2_with (go_at_call 69; refine hcon.mono ?_; rintro e w' ⟨rfl, hb⟩)
  go_ret2
  exact ⟨rfl, hb⟩

set_option maxHeartbeats 1000000 in
theorem word_rune (s : ByteArray) (hs : (s.toList == [45]) = false) (hd : (Lib.decodeGo s).2 = s.size) (w : World) (hG : Glob w) :
    Calls Tryz.prog 42 #[.string s] w fun e w' => e = .returned (.tuple #[.int .i32 (Lib.decodeGo s).1, .bool true]) ∧ Below w.heap.size w w' := by
  have hcon := Tryz.utf8_DecodeRuneInString s w hG.2.2
  rw [hd] at hcon
  generalize (Lib.decodeGo s).1 = a at hcon ⊢
  clear hG hd
  go_enter Tryz.func42, Tryz.ntmps42
  go_wp2_with (go_at_call 69; refine hcon.mono ?_; rintro e w' ⟨rfl, hb⟩)
  go_ret2
  exact ⟨rfl, hb⟩

theorem ret_i32b {a b : Int} {c : Bool} (h : a = b) : Ending.returned (.tuple #[.int .i32 a, .bool c]) = .returned (.tuple #[.int .i32 b, .bool c]) := by rw [h]

set_option maxRecDepth 100000 in
set_option maxHeartbeats 1000000 in
theorem word_hex (s : ByteArray) (hs : (s.toList == [45]) = false) (hd : ¬ (Lib.decodeGo s).2 = s.size) (hne : s.size ≠ 0) (hmax : s.size ≤ 7) (hx : ∀ c ∈ s.data.toList, hexD c = true) (w : World) (hG : Glob w) :
    Calls Tryz.prog 42 #[.string s] w fun e w' => e = .returned (.tuple #[.int .i32 (hexN 0 s.data.toList), .bool true]) ∧ Below w.heap.size w w' := by
  have hcon := Tryz.utf8_DecodeRuneInString s w hG.2.2
  have hp := fun W => parseHex_pub s hne hmax hx W
  have hlt : hexN 0 s.data.toList < 268435456 := by
    have h := hexN_lt s.data.toList 0 0 hx (by omega)
    have : 16 ^ (0 + s.data.toList.length) ≤ 16 ^ 7 := Nat.pow_le_pow_right (by omega) (by have := Lib.size_eq s; omega)
    omega
  generalize (Lib.decodeGo s).1 = a at hcon
  generalize (Lib.decodeGo s).2 = b at hcon hd
  generalize hexN 0 s.data.toList = v at hp hlt ⊢
  clear hG hx
  have h0 : (0 : Int) ≤ (v : Int) := by omega
  have h1 : (v : Int) ≤ 2147483647 := by omega
  clear hlt hne hmax
  obtain ⟨vi, hvi⟩ : ∃ vi : Int, (v : Int) = vi := ⟨_, rfl⟩
  rw [hvi] at hp h0 h1 ⊢
  clear hvi
  have hbs : (((b : Nat) : Int) == ((s.size : Nat) : Int)) = false := by simpa using (show ¬ ((b : Nat) : Int) = ((s.size : Nat) : Int) by omega)
  clear hd
  go_enter Tryz.func42, Tryz.ntmps42
  go_wp2_with fail
  refine hcon.mono ?_
  rintro e w' ⟨rfl, hb⟩
  go_wp2_with fail
  refine (hp _).mono ?_
  rintro e w2 ⟨rfl, hb2⟩
  go_wp2_with fail
  go_ret2
  exact ⟨rfl, hb.trans (hb2.mono hb.size)⟩

/-- latin.Word at a word of the tables. -/
theorem word_any (x : List UInt8) (hx : okWord x = true) (w : World) (hG : Glob w) :
    Calls Tryz.prog 42 #[.string (str x)] w fun e w' => e = .returned (.tuple #[.int .i32 ((wordV x).getD 0 : Nat), .bool (wordV x).isSome]) ∧ Below w.heap.size w w' := by
  by_cases h1 : x = [45]
  · subst h1
    exact word_none w hG
  · have hs : ((str x).toList == [45]) = false := by
      rw [Lib.toList_data]; simpa [str] using h1
    have hsz : (str x).size = x.length := by simp [str, ByteArray.size]
    by_cases h2 : (Lib.decodeGo (str x)).2 = x.length
    · have := word_rune (str x) hs (by rw [h2, hsz]) w hG
      have e : wordV x = some (Lib.decodeGo (str x)).1 := by unfold wordV; rw [if_neg h1, if_pos h2]
      rw [e]; exact this
    · have hh : (x.length ≤ 7 ∧ ¬ x = []) ∧ ∀ c ∈ x, hexD c = true := by
        unfold okWord at hx; simpa [h1, h2] using hx
      have := word_hex (str x) hs (by rw [hsz]; exact h2) (by rw [hsz]; intro h0; exact hh.1.2 (List.length_eq_zero_iff.1 h0)) (by rw [hsz]; exact hh.1.1) (by simpa [str] using hh.2) w hG
      have e : wordV x = some (hexN 0 x) := by unfold wordV; rw [if_neg h1, if_neg h2]
      rw [e]; simpa [str] using this

end Go.Proofs.YtgmiampijdnebaaGreatDoor
