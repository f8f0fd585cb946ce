/-
  slices.Values at codes: what it hands back gives the codes of a slice, in order. No conditions but on sizes.
-/
import Derived.Test.YtgmiampijdnebaaGreatDoorB7
import Derived.RangeFuncBox
import Derived.RangeFuncLeaves
import Derived.RangeFuncNested
namespace Go.Proofs.YtgmiampijdnebaaGreatDoor
open Go.RowKit Go.Shelf
attribute [local go_sem] Oper.semAt_some

/-- A code, as a value. -/
def valC (c : Code) : Value := .agg #[.int .i64 (c.1 : Int), .int .i64 (c.2 : Int)]

/-- The slice value sv holds the codes L, in a block below n₀; or it is nil and there are none. -/
def Src (n₀ : Nat) (W : World) (sv : Value) (L : List Code) : Prop :=
  (sv = .slice none 0 0 ∧ L = []) ∨ ∃ b cap, sv = .slice (some ⟨b, 0, none⟩) L.length cap ∧ b < n₀ ∧ ∀ (k : Nat) (h : k < L.length), W.cell? ⟨b, k * 2, none⟩ = some (.int .i64 (L[k].1 : Int)) ∧ W.cell? ⟨b, k * 2 + 1, none⟩ = some (.int .i64 (L[k].2 : Int))
theorem Src.below {n₀ : Nat} {A B : World} (h : Below n₀ A B) {sv : Value} {L : List Code} : Src n₀ A sv L → Src n₀ B sv L
  | .inl e => .inl e
  | .inr ⟨b, cap, e, hb, hc⟩ => .inr ⟨b, cap, e, hb, fun k hk => ⟨(h.cell (p := ⟨b, k * 2, none⟩) hb).trans (hc k hk).1, (h.cell (p := ⟨b, k * 2 + 1, none⟩) hb).trans (hc k hk).2⟩⟩

theorem cellsOf_get (L : List Code) : ∀ (k : Nat) (h : k < L.length), (cellsOf L)[k * 2]? = some (.int .i64 (L[k].1 : Int)) ∧ (cellsOf L)[k * 2 + 1]? = some (.int .i64 (L[k].2 : Int)) := by
  induction L with
  | nil => intro k h; simp at h
  | cons c L ih =>
    intro k h
    cases k with
    | zero => simp [cellsOf, encC]
    | succ k =>
      have := ih k (by simpa using h)
      simpa [cellsOf, encC, Nat.succ_mul] using this

theorem Src.of_owns {W : World} {base : Nat} {v : Value} {L : List Code} (h : W.ownsRow base 30 2 v L.length (cellsOf L)) : Src W.heap.size W v L := by
  rcases h.2 with ⟨rfl, h0⟩ | ⟨g, cap, cur, rfl, hb, hg, _, _, _, ht⟩
  · exact .inl ⟨rfl, List.length_eq_zero_iff.1 h0⟩
  · refine .inr ⟨g, cap, rfl, (Array.getElem?_eq_some_iff.1 hg).1, fun k hk => ?_⟩
    have h2 := cellsOf_get L k hk
    rw [← ht] at h2
    have e : ∀ i, i < L.length * 2 → (cur.toList.take (L.length * 2))[i]? = cur[i]? := fun i hi => by
      rw [List.getElem?_take_of_lt hi]; simp
    rw [e _ (by omega), e _ (by omega)] at h2
    exact ⟨by simp [World.cell?, hg, h2.1], by simp [World.cell?, hg, h2.2]⟩

set_option maxRecDepth 100000 in
set_option maxHeartbeats 2000000 in
theorem values1_in (F : Fence) (n : Nat) (h7 : F.fn 37) (hro : F.round = none) (hn : 1 ≤ n) (l Bs n₀ b cap : Nat) (L : List Code) (W : World) (hreach : L.length < 1000000) (hb : b < n₀) (hn₀ : n₀ ≤ W.heap.size) (J Jx : List Code → World → Prop) (hJ : AbidesFrom W.heap.size J)
    (hY : ∀ pre x W, J pre W → pre.length < L.length → YieldAt F (n - 1) Tryz.prog l #[valC x] W fun e W' =>
      (e = .returned (.bool true) ∧ J (pre ++ [x]) W' ∧ Below n₀ W W') ∨ (e = .returned (.bool false) ∧ Jx (pre ++ [x]) W'))
    (hBs : W.cell? ⟨Bs, 0, none⟩ = some (.slice (some ⟨b, 0, none⟩) L.length cap))
    (hc : ∀ (k : Nat) (h : k < L.length), W.cell? ⟨b, k * 2, none⟩ = some (.int .i64 (L[k].1 : Int)) ∧ W.cell? ⟨b, k * 2 + 1, none⟩ = some (.int .i64 (L[k].2 : Int))) (h0 : J [] W) :
    CallsIn F n Tryz.prog 37 #[.func (.yield l) #[] #[], .pointer (some ⟨Bs, 0, none⟩)] W fun e W' => (∃ v, e = .returned v) ∧
      (J L W' ∨ (∃ pre, pre <+: L ∧ Jx pre W')) := by
  obtain ⟨len, hlen⟩ : ∃ len, L.length = len := ⟨_, rfl⟩
  have HL := Lib.hid hlen
  rw [hlen] at hBs hreach
  refine callsIn_of_wp Tryz.func37 rfl h7 ?_ hro
  simp only [Tryz.ntmps37, List.size_toArray, List.length_cons, List.length_nil, Nat.reduceAdd, Nat.reduceSub, Array.replicate_succ, Array.replicate_zero, List.push_toArray, List.append_toArray, List.nil_append, List.cons_append]
  clear hlen
  gi_wp2
  gi_loopw [7] (fun i wr => ∃ k : Nat, k ≤ len ∧ i = .int .i64 k ∧ J (L.take k) wr ∧ Below n₀ W wr)
    (fun i _ => len - (intOf i).toNat)
  case atStart => exact ⟨0, Nat.zero_le _, rfl, by simpa using h0, Below.refl _ _⟩
  case round =>
    obtain ⟨k, hk, rfl, hJs, hnx⟩ := hrel
    by_cases hlt : k < len
    · have hkL : k < L.length := by rw [HL.out]; exact hlt
      have c1 : wr.cell? ⟨b, k * 2, none⟩ = some (.int .i64 (L[k].1 : Int)) := (hnx.cell (p := ⟨b, k * 2, none⟩) hb).trans (hc k hkL).1
      have c2 : wr.cell? ⟨b, k * 2 + 1, none⟩ = some (.int .i64 (L[k].2 : Int)) := (hnx.cell (p := ⟨b, k * 2 + 1, none⟩) hb).trans (hc k hkL).2
      have HT := Lib.hid (List.take_succ_eq_append_getElem hkL)
      have hJ2 := hJ _ wr _ none hJs (World.grownBy_alloc wr (.cells #[.int .i64 (L[k].1 : Int), .int .i64 (L[k].2 : Int)] 30) none) (by simp)
      obtain ⟨fn, tmps, assign, body, hy, hR⟩ := hY _ L[k] _ hJ2 (by rw [List.length_take]; omega)
      have hnx2 := hnx.alloc (Nat.le_trans hn₀ hnx.size) (.cells #[.int .i64 (L[k].1 : Int), .int .i64 (L[k].2 : Int)] 30)
      unfold valC at hy
      clear hJ2 hY
      generalize L[k] = x at c1 c2 HT hy hR hnx2
      gi_wp2
      refine hR.mono ?_
      rintro e W3 (⟨rfl, hJ3, hk3⟩ | ⟨rfl, hJx3⟩)
      · gi_wp2
        go_roundw
        case rel => exact ⟨k + 1, by omega, by simp, by rw [HT.out]; exact hJ3, hnx2.trans hk3⟩
        case measure => simp [intOf]; omega
      · gi_wp2
        refine bodyPost_ret (results_none rfl _ _ _) rfl ?_
        exact ⟨⟨_, rfl⟩, .inr ⟨_, List.take_prefix (k + 1) L, by rw [HT.out]; exact hJx3⟩⟩
    · have hJL : J L wr := by rwa [List.take_of_length_le (by rw [HL.out]; omega)] at hJs
      gi_wp2
      go_end0
      exact ⟨⟨_, rfl⟩, .inl hJL⟩

set_option maxRecDepth 100000 in
set_option maxHeartbeats 1000000 in
theorem values1_nil_in (F : Fence) (n : Nat) (h7 : F.fn 37) (hro : F.round = none) (l Bs : Nat) (J : List Code → World → Prop) (W : World) (hBs : W.cell? ⟨Bs, 0, none⟩ = some (.slice none 0 0)) (h0 : J [] W) :
    CallsIn F n Tryz.prog 37 #[.func (.yield l) #[] #[], .pointer (some ⟨Bs, 0, none⟩)] W fun e W' => (∃ v, e = .returned v) ∧ J [] W' := by
  refine callsIn_of_wp Tryz.func37 rfl h7 ?_ hro
  simp only [Tryz.ntmps37, List.size_toArray, List.length_cons, List.length_nil, Nat.reduceAdd, Nat.reduceSub, Array.replicate_succ, Array.replicate_zero, List.push_toArray, List.append_toArray, List.nil_append, List.cons_append]
  gi_wp2
  gi_loopw [7] (fun i wr => i = .int .i64 0 ∧ J [] wr) (fun _ _ => 0)
  case atStart => exact ⟨rfl, h0⟩
  case round =>
    obtain ⟨rfl, hJs⟩ := hrel
    gi_wp2
    go_end0
    exact ⟨⟨_, rfl⟩, hJs⟩

set_option maxHeartbeats 1000000 in
theorem values_any (a : Option Addr) (len cap : Nat) (w : World) :
    Calls Tryz.prog 21 #[.slice a len cap] w fun e w' =>
      e = .returned (.func (.func 37) #[] #[.pointer (some ⟨w.heap.size, 0, none⟩)]) ∧ w' = w.alloc (.cells #[.slice a len cap] 25) := by
  go_enter Tryz.func21, Tryz.ntmps21
  go_wp2
  go_ret
  exact ⟨rfl, rfl⟩

theorem values_stops (F : Fence) (n : Nat) (h7 : F.fn 37) (hro : F.round = none) (hn : 1 ≤ n) (Bs n₀ : Nat) (sv : Value) (L : List Code) (hreach : L.length < 1000000) (w : World) (hBs : Bs < w.heap.size) (hn₀ : n₀ ≤ w.heap.size)
    (hc : w.cell? ⟨Bs, 0, none⟩ = some sv) (hI : Src n₀ w sv L) :
    SeqStopsK F n Tryz.prog 37 #[.pointer (some ⟨Bs, 0, none⟩)] (fun x : Code => #[valC x]) (Below n₀) (fun ys => ys = L) (fun pre => pre <+: L) L.length w := fun l J Jx W hW hJ _ hY h0 => by
  have hc' := (hW.cell (p := ⟨Bs, 0, none⟩) hBs).trans hc
  rcases hI.below (hW.mono hn₀) with ⟨rfl, rfl⟩ | ⟨b, cap, rfl, hb, hcs⟩
  · exact (values1_nil_in F n h7 hro l Bs J W hc' h0).mono fun e W' ⟨he, hj⟩ => ⟨he, .inl ⟨_, rfl, hj⟩⟩
  · refine (values1_in F n h7 hro hn l Bs n₀ b cap L W hreach hb (Nat.le_trans hn₀ hW.size) J Jx hJ hY hc' hcs h0).mono ?_
    rintro e W' ⟨he, hj | ⟨pre, hk, hj⟩⟩
    · exact ⟨he, .inl ⟨_, rfl, hj⟩⟩
    · exact ⟨he, .inr ⟨_, hk, hj⟩⟩
end Go.Proofs.YtgmiampijdnebaaGreatDoor
