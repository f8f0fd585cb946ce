/-
  Plain lists: a text's pieces between the bytes c. No conditions.
-/
import Derived.Lib.Bytealg
import Derived.Lib.IndexBytes
namespace Go.Proofs.YtgmiampijdnebaaGreatDoor

/-- What stands between the bytes c. -/
def pieces (c : UInt8) : List UInt8 → List (List UInt8)
  | [] => [[]]
  | b :: l => if b == c then [] :: pieces c l else (b :: (pieces c l).headD []) :: (pieces c l).tail

theorem pieces_ne (c : UInt8) (l : List UInt8) : pieces c l ≠ [] := by
  cases l with
  | nil => simp [pieces]
  | cons b l => unfold pieces; split <;> simp

theorem pieces_none (c : UInt8) : ∀ l : List UInt8, Lib.indexByte l c = -1 → pieces c l = [l]
  | [], _ => rfl
  | b :: l, h => by
    unfold Lib.indexByte at h
    by_cases hb : (b == c) = true
    · rw [if_pos hb] at h; omega
    · rw [if_neg hb] at h
      have h' : Lib.indexByte l c = -1 := by
        have := Lib.indexByte_ge l c
        by_cases h0 : (Lib.indexByte l c == -1) = true
        · simpa using h0
        · rw [if_neg h0] at h; omega
      have := pieces_none c l h'
      simp [pieces, hb, this]

theorem pieces_some (c : UInt8) : ∀ (l : List UInt8) (i : Nat), Lib.indexByte l c = i → pieces c l = l.take i :: pieces c (l.drop (i + 1))
  | [], i, h => by simp [Lib.indexByte] at h
  | b :: l, i, h => by
    unfold Lib.indexByte at h
    by_cases hb : (b == c) = true
    · rw [if_pos hb] at h
      obtain rfl : i = 0 := by omega
      simp [pieces, hb]
    · rw [if_neg hb] at h
      split at h
      · omega
      · obtain ⟨k, rfl⟩ : ∃ k, i = k + 1 := by
          have := Lib.indexByte_ge l c
          rename_i hn
          have hn' : ¬ Lib.indexByte l c = -1 := by simpa using hn
          exact ⟨(Lib.indexByte l c).toNat, by omega⟩
        have h' : Lib.indexByte l c = k := by omega
        have := pieces_some c l k h'
        simp [pieces, hb, this]

theorem indexByte_lt (c : UInt8) : ∀ (l : List UInt8) (i : Nat), Lib.indexByte l c = i → i < l.length
  | [], i, h => by simp [Lib.indexByte] at h
  | b :: l, i, h => by
    unfold Lib.indexByte at h
    by_cases hb : (b == c) = true
    · rw [if_pos hb] at h; simp; omega
    · rw [if_neg hb] at h
      split at h
      · omega
      · rename_i hn
        have hn' : ¬ Lib.indexByte l c = -1 := by simpa using hn
        have h0 := Lib.indexByte_ge l c
        have := indexByte_lt c l (Lib.indexByte l c).toNat (by omega)
        simp; omega

/-- .. as strings. -/
def piecesS (c : UInt8) (s : ByteArray) : List ByteArray := (pieces c s.data.toList).map fun l => ⟨l.toArray⟩

theorem piecesS_none {c : UInt8} {s : ByteArray} (h : Lib.indexByte s.data.toList c = -1) : piecesS c s = [s] := by
  simp [piecesS, pieces_none c _ h]

theorem piecesS_some {c : UInt8} {s : ByteArray} {i : Nat} (h : Lib.indexByte s.data.toList c = i) : piecesS c s = s.extract 0 i :: piecesS c (s.extract (i + 1) s.size) := by
  have hlt := indexByte_lt c _ i h
  have e1 : (s.extract 0 i).data.toList = s.data.toList.take i := by rw [Lib.extract_data]; rfl
  have e2 : (s.extract (i + 1) s.size).data.toList = s.data.toList.drop (i + 1) := Lib.extract_to_end _ _
  unfold piecesS
  rw [e2, pieces_some c _ i h, List.map_cons, ← e1]
end Go.Proofs.YtgmiampijdnebaaGreatDoor
