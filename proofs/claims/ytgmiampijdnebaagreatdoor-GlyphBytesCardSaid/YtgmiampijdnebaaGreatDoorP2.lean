/-
  Plain lists: the codes that a text's lines tell. No conditions.
-/
import Derived.Test.YtgmiampijdnebaaGreatDoorP1
import Derived.Test.YtgmiampijdnebaaGreatDoorB4
namespace Go.Proofs.YtgmiampijdnebaaGreatDoor

/-- The codes of a line's words, from a number on. -/
def wordCodes (a : Nat) : List (List UInt8) → List (Nat × Nat)
  | [] => []
  | x :: l => (match wordV x with | none => [] | some r => [(a, r)]) ++ wordCodes (a + 1) l

/-- The codes of a line. -/
def lineCodes (l : List UInt8) : List (Nat × Nat) :=
  wordCodes (hexN 0 ((Lib.fieldsD l).headD [])) (Lib.fieldsD l).tail
/-- May it be read so? -/
def okLine (l : List UInt8) : Bool :=
  ((Lib.fieldsD l).headD []).length ≤ 3 && (Lib.fieldsD l).headD [] != [] && ((Lib.fieldsD l).headD []).all hexD && (Lib.fieldsD l).tail.all okWord && decide (2 ≤ (Lib.fieldsD l).length ∧ (Lib.fieldsD l).length ≤ 100 ∧ l.length ≤ 100000)

/-- The codes of a text. -/
def textCodes (s : ByteArray) : List (Nat × Nat) := (piecesS 10 s).flatMap fun x => lineCodes x.data.toList
def okText (s : ByteArray) : Bool := decide (s.size ≤ 100000) && (piecesS 10 s).all fun x => okLine x.data.toList

theorem wordCodes_snoc : ∀ (l : List (List UInt8)) (a : Nat) (x : List UInt8), wordCodes a (l ++ [x]) = wordCodes a l ++ (match wordV x with | none => [] | some r => [(a + l.length, r)])
  | [], a, x => by simp [wordCodes]
  | y :: l, a, x => by
    have := wordCodes_snoc l (a + 1) x
    simp only [List.cons_append, wordCodes, this, List.append_assoc, List.length_cons]
    rw [show a + 1 + l.length = a + (l.length + 1) by omega]

theorem wordCodes_take (l : List (List UInt8)) (a k : Nat) (hk : k < l.length) :
    wordCodes a (l.take (k + 1)) = wordCodes a (l.take k) ++ (match wordV l[k] with | none => [] | some r => [(a + k, r)]) := by
  rw [List.take_succ_eq_append_getElem hk, wordCodes_snoc, List.length_take_of_le (by omega)]

theorem wordCodes_prefix (l : List (List UInt8)) (a k : Nat) (hk : k ≤ l.length) : wordCodes a (l.take k) <+: wordCodes a l := by
  induction l generalizing a k with
  | nil => simp
  | cons x l ih =>
    cases k with
    | zero => exact ⟨wordCodes a (x :: l), by simp [wordCodes]⟩
    | succ k =>
      obtain ⟨r, hr⟩ := ih (a + 1) k (by simpa using hk)
      exact ⟨r, by simp only [List.take_succ_cons, wordCodes, List.append_assoc]; rw [hr]⟩

theorem flat_prefix {α β : Type} (f : α → List β) {pre xs : List α} {x : α} (h : pre ++ [x] <+: xs) {l : List β} (hl : l <+: f x) : pre.flatMap f ++ l <+: xs.flatMap f := by
  obtain ⟨r, rfl⟩ := h
  obtain ⟨q, hq⟩ := hl
  exact ⟨q ++ r.flatMap f, by simp [← hq]⟩

def sample : ByteArray := ⟨#[50, 49, 32, 197, 129, 32, 195, 152, 32, 48, 50, 66, 57, 32, 45, 10, 51, 48, 32, 48, 50, 66, 66]⟩
example : okText sample = true := by decide +kernel
example : textCodes sample = [(0x21, 0x141), (0x22, 0xd8), (0x23, 0x2b9), (0x30, 0x2bb)] := by decide +kernel
end Go.Proofs.YtgmiampijdnebaaGreatDoor
