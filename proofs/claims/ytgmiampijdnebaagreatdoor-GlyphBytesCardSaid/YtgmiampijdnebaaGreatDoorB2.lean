/-
  strings.SplitSeq at the separator of one byte: the iterator hands over the pieces, one behind the other. No conditions.
-/
import Derived.Test.YtgmiampijdnebaaGreatDoorB1
import Derived.Test.YtgmiampijdnebaaGreatDoorP1
import Derived.Test.YtgmiampijdnebaaGreatDoorShelfA
import Derived.WalkSpells
import Derived.WalkLawsBesides
import Derived.Lib.Hide
namespace Go.Proofs.YtgmiampijdnebaaGreatDoor
open Go.RowKit Go.Shelf

attribute [local go_sem] Oper.semAt_some

theorem AbidB.set {β : Type} {B0 : Nat} {I : β → World → Prop} (h : AbidB B0 I) {s : β} {W : World} {B : Nat} {x : Value} (y : Value) (hs : I s W) (hB : B0 ≤ B) (hb : Boxed W B 9 x) : I s (W.setCell ⟨B, 0, none⟩ y) :=
  h s W _ (some B) hs (grownBy_setCell' W B y) (fun r e => by cases e; exact ⟨hB, _, hb, rfl⟩)

theorem Fr.boxed {W W' : World} {B : Nat} {t : TypeId} {v : Value} (h : Fr W W') (ht : t ≠ 30) (hb : Boxed W B t v) : Boxed W' B t v :=
  h.same B _ hb (by simp [stillObj, ht])

/-- How long the string in a box is. -/
def boxLen (B : Nat) (W : World) : Nat :=
  match W.cell? ⟨B, 0, none⟩ with
  | some (.string s) => s.size
  | _ => 0
theorem boxLen_eq {B : Nat} {W : World} {t : TypeId} {s : ByteArray} (h : Boxed W B t (.string s)) : boxLen B W = s.size := by
  unfold boxLen; rw [h.cell]

set_option maxRecDepth 100000 in
set_option maxHeartbeats 1000000 in
theorem splitSeq1_in (n : Nat) (hn : 1 ≤ n) (l Bs Bsep Bz : Nat) (s : ByteArray) (B0 : Nat) (hB0 : B0 ≤ Bs) (J : List ByteArray → World → Prop) (hJ : AbidB B0 J)
    (hne : Bsep ≠ Bs) (hY : ∀ pre x W, J pre W → pre ++ [x] <+: piecesS 10 s → YieldAt Fence.wide (n - 1) Tryz.prog l #[.string x] W fun e W' => e = .returned (.bool true) ∧ J (pre ++ [x]) W' ∧ Fr W W')
    (W : World) (hs : Boxed W Bs 9 (.string s)) (hsep : Boxed W Bsep 9 (.string ⟨#[10]⟩)) (hz : Boxed W Bz 3 (.int .i64 0)) (hsz : s.size ≤ 1000000) (h0 : J [] W) :
    CallsIn Fence.wide n Tryz.prog 84 #[.func (.yield l) #[] #[], .pointer (some ⟨Bsep, 0, none⟩), .pointer (some ⟨Bs, 0, none⟩), .pointer (some ⟨Bz, 0, none⟩)] W
      fun e W' => (∃ v, e = .returned v) ∧ J (piecesS 10 s) W' := by
  refine callsIn_of_wp Tryz.func84 rfl trivial ?_ rfl
  simp only [Tryz.ntmps84, List.size_toArray, List.length_cons, List.length_nil, Nat.reduceAdd, Nat.reduceSub, Array.replicate_succ, Array.replicate_zero, List.push_toArray, List.append_toArray, List.nil_append, List.cons_append]
  have c1 := hsep.cell
  have c2 := hs.cell
  have c3 := hz.cell
  gi_wp2
  gi_loopw [29] (fun _ wr => ∃ (pre : List ByteArray) (r : ByteArray), piecesS 10 s = pre ++ piecesS 10 r ∧ r.size ≤ 1000000 ∧ Boxed wr Bs 9 (.string r) ∧ Boxed wr Bsep 9 (.string ⟨#[10]⟩) ∧ Boxed wr Bz 3 (.int .i64 0) ∧ J pre wr)
    (fun _ wr => boxLen Bs wr)
  case atStart => exact ⟨[], s, rfl, hsz, hs, hsep, hz, h0⟩
  case round =>
    clear c1 c2 c3 hs hsep hz h0
    obtain ⟨pre, r, hp, hr, hs, hsep, hz, hj⟩ := hrel
    have HP := Lib.hid hp
    clear hp
    have c1 := hsep.cell
    have c2 := hs.cell
    have c3 := hz.cell
    obtain ⟨i, hi⟩ : ∃ i, Lib.indexByte r.data.toList 10 = i := ⟨_, rfl⟩
    have hcon := fun W' => Tryz.strings_Index_one r 10 W'
    rw [hi] at hcon
    by_cases hneg : i < 0
    · have hi1 : Lib.indexByte r.data.toList 10 = -1 := by have := Lib.indexByte_ge r.data.toList 10; omega
      have hall : piecesS 10 s = pre ++ [r] := by rw [HP.out, piecesS_none hi1]
      have HA := Lib.hid hall
      obtain ⟨fn, tmps, assign, body, hy, hR⟩ := hY pre r wr hj (by rw [hall]; exact List.prefix_refl _)
      clear hall hi hi1
      gi_wp2_with (refine ⟨trivial, ?_⟩; gi_at_call 85; refine (callsIn_wide.2 (hcon _)).mono ?_; rintro e w' ⟨rfl, rfl⟩)
      refine hR.mono ?_
      rintro e W3 ⟨rfl, hJ3, hk3⟩
      gi_wp2
      go_end0
      exact ⟨⟨_, rfl⟩, by rw [HA.out]; exact hJ3⟩
    · obtain ⟨k, rfl⟩ : ∃ k : Nat, i = k := ⟨i.toNat, by omega⟩
      have hlt := indexByte_lt 10 _ k hi
      have hsz' : r.data.toList.length = r.size := rfl
      have hps := piecesS_some hi
      have hle : k + 1 ≤ r.size := by omega
      have HA := Lib.hid hps
      obtain ⟨fn, tmps, assign, body, hy, hR⟩ := hY pre (r.extract 0 k) wr hj (by rw [HP.out, hps]; exact ⟨piecesS 10 (r.extract (k + 1) r.size), by simp⟩)
      have hs0 := hs
      clear hps hi hsz' hlt
      gi_wp2_with (refine ⟨trivial, ?_⟩; gi_at_call 85; refine (callsIn_wide.2 (hcon _)).mono ?_; rintro e w' ⟨rfl, rfl⟩)
      refine hR.mono ?_
      rintro e W3 ⟨rfl, hJ3, hk3⟩
      have hs3 := hk3.boxed (by decide) hs
      have hsep3 := hk3.boxed (by decide) hsep
      have hz3 := hk3.boxed (by decide) hz
      clear c1 c2 c3 hs hsep hz hk3
      have c1 := hsep3.cell
      have c2 := hs3.cell
      have c3 := hz3.cell
      have f2 := hs3.frozen
      gi_wp2
      have hb' := hs3.set (.string (r.extract (k + 1) r.size))
      have hle2 : (r.extract (k + 1) r.size).size ≤ r.size - (k + 1) := by simp [ByteArray.size_extract]
      go_roundw
      case rel => exact ⟨pre ++ [r.extract 0 k], r.extract (k + 1) r.size, by rw [HP.out, HA.out]; simp, by omega, hb', hsep3.other hne _, hz3.kept (grownBy_setCell' W3 Bs _) (fun e => by cases e; exact absurd (hs3.symm.trans hz3) (by simp)), hJ.set _ hJ3 hB0 hs3⟩
      case measure => rw [boxLen_eq hb', boxLen_eq hs0]; omega
end Go.Proofs.YtgmiampijdnebaaGreatDoor
