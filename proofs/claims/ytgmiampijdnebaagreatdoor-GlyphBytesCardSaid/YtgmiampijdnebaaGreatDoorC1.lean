/-
  eacc.all: the codes of three bytes, and their characters, as they are made. No conditions.
-/
import Derived.Test.YtgmiampijdnebaaGreatDoorB8
import Derived.Test.YtgmiampijdnebaaGreatDoorD1
import Derived.Lib.OthersKept
import Derived.OwnWalk
import Derived.WalkSpells
namespace Go.Proofs.YtgmiampijdnebaaGreatDoor
open Go.RowKit Go.Shelf

/-- A number of three bytes, and its character: two cells. -/
def encE (x : Nat × Nat) : List Value := [.int .i64 (x.1 : Nat), .int .i32 (x.2 : Nat)]
def cellsE (l : List (Nat × Nat)) : List Value := l.flatMap encE
theorem cellsE_snoc (l : List (Nat × Nat)) (x : Nat × Nat) : cellsE (l ++ [x]) = cellsE l ++ encE x := by simp [cellsE]
theorem cellsE_append (l m : List (Nat × Nat)) : cellsE (l ++ m) = cellsE l ++ cellsE m := by simp [cellsE]
theorem cellsE_length (l : List (Nat × Nat)) : (cellsE l).length = l.length * 2 := by
  induction l with
  | nil => rfl
  | cons x l ih => simp [cellsE, encE] at ih ⊢; omega

def signsL : List (Nat × Nat) := [(2171681, 12288), (2171688, 12289), (2171689, 12290), (2171690, 12300), (2171691, 12301), (6891052, 12540)]
def othersL : List (Nat × Nat) := [(2568225, 19968), (2568228, 19976), (2568237, 19992), (3362337, 12300)]
def hiraL (k : Nat) : List (Nat × Nat) := (List.range k).map fun i => (6890529 + i, 12353 + i)
def kataL (k : Nat) : List (Nat × Nat) := (List.range k).map fun i => (6890785 + i, 12449 + i)

set_option maxHeartbeats 400000 in
theorem signs_any (w : World) : Calls Tryz.prog 43 #[] w fun e w' => e = .returned (.slice (some ⟨w.heap.size, 0, none⟩) 6 6) ∧ w' = w.alloc (.cells (cellsE signsL).toArray 59) := by
  go_enter Tryz.func43, Tryz.ntmps43
  go_wp2
  go_ret
  exact ⟨rfl, rfl⟩

set_option maxHeartbeats 400000 in
theorem others_any (w : World) : Calls Tryz.prog 44 #[] w fun e w' => e = .returned (.slice (some ⟨w.heap.size, 0, none⟩) 4 4) ∧ w' = w.alloc (.cells (cellsE othersL).toArray 59) := by
  go_enter Tryz.func44, Tryz.ntmps44
  go_wp2
  go_ret
  exact ⟨rfl, rfl⟩

theorem E.info : (Tryz.prog.info? 59).map (fun i => (i.zero, i.size, i.bytes)) = some (some (.agg #[.int .i64 0, .int .i32 0]), 2, 16) := by kernel_rfl

theorem hiraL_succ (k : Nat) : hiraL (k + 1) = hiraL k ++ [(6890529 + k, 12353 + k)] := by simp [hiraL, List.range_succ]
theorem kataL_succ (k : Nat) : kataL (k + 1) = kataL k ++ [(6890785 + k, 12449 + k)] := by simp [kataL, List.range_succ]
theorem hiraL_length (k : Nat) : (hiraL k).length = k := by simp [hiraL]
theorem kataL_length (k : Nat) : (kataL k).length = k := by simp [kataL]

/-- v owns these codes. -/
def OwnsE (W : World) (base : Nat) (v : Value) (L : List (Nat × Nat)) : Prop := W.ownsRow base 59 2 v L.length (cellsE L)

theorem encE_eq {x : Nat × Nat} {a b : Int} (ha : a = (x.1 : Nat)) (hb : b = (x.2 : Nat)) : [Value.int .i64 a, .int .i32 b] = encE x := by subst ha hb; rfl

/-- What an append of one leaves, told by the list. -/
theorem OwnsE.snoc {W : World} {base n : Nat} {v : Value} {L : List (Nat × Nat)} {xs : List Value} (hn : n = L.length) (hx : xs = cellsE L) {a b : Int} (x : Nat × Nat) (ha : a = (x.1 : Nat)) (hb : b = (x.2 : Nat))
    (h : W.ownsRow base 59 2 v (n + 1) (xs ++ [.int .i64 a, .int .i32 b])) : OwnsE W base v (L ++ [x]) := by
  subst hn hx ha hb
  unfold OwnsE
  rw [cellsE_snoc, List.length_append]
  exact h

theorem Below.grown' {B : Nat} {w W : World} {row : Option Nat} {W' : World} {a : Obj} (h : Below B w W) (hB : B ≤ W.heap.size) (hg : (W.alloc a).grownBy W' row) (hr : ∀ j, row = some j → B ≤ j) : Below B w W' :=
  (h.alloc hB a).grown hg (by simp; omega) hr

/-- The runes of a string, from a place on. -/
def runesD : Nat → ByteArray → Nat → List Nat
  | 0, _, _ => []
  | f + 1, s, pos => if pos < s.size then (Utf8.decode s pos).1 :: runesD f s (pos + (Utf8.decode s pos).2) else []

/-- The ideographs' codes. -/
def ideoC (j : Nat) : List (Nat × Nat) := (List.range j).map fun i => (2175009 + i / 94 * 256 + i % 94, ideoL.getD i 0)
theorem ideoC_succ (j : Nat) : ideoC (j + 1) = ideoC j ++ [(2175009 + j / 94 * 256 + j % 94, ideoL.getD j 0)] := by simp [ideoC, List.range_succ]
theorem ideoC_length (j : Nat) : (ideoC j).length = j := by simp [ideoC]
theorem ideoL_length : ideoL.length = 175 := by decide +kernel

/-- All of them. -/
def eaccL : List (Nat × Nat) := signsL ++ othersL ++ hiraL 83 ++ kataL 86 ++ ideoC 175

/-- Where the iterator stands: at the j-th ideograph. -/
def At (X : ByteArray) (pos j : Nat) : Prop := j ≤ 175 ∧ ∃ f, runesD f X pos = ideoL.drop j ∧ X.size ≤ pos + f
theorem At.done {X : ByteArray} {pos j : Nat} (h : At X pos j) (hp : ¬ pos < X.size) : 175 ≤ j := by
  obtain ⟨_, f, hf, _⟩ := h
  have : runesD f X pos = [] := by cases f <;> simp [runesD, hp]
  rw [this] at hf
  have := congrArg List.length hf
  rw [List.length_drop, ideoL_length] at this
  simp at this
  omega
theorem decode_pos (X : ByteArray) (pos : Nat) (h : pos < X.size) : 1 ≤ (Utf8.decode X pos).2 := by
  by_cases ha : (X[pos]'h).toNat < 128
  · rw [decode_ascii X pos h ha]
    exact Nat.le_refl _
  · exact (decode_high X pos h (by omega)).2
theorem At.step {X : ByteArray} {pos j : Nat} (h : At X pos j) (hp : pos < X.size) : j < 175 ∧ (Utf8.decode X pos).1 = ideoL.getD j 0 ∧ At X (pos + (Utf8.decode X pos).2) (j + 1) := by
  obtain ⟨_, f, hf, hs⟩ := h
  cases f with
  | zero => omega
  | succ f =>
    simp only [runesD, if_pos hp] at hf
    have hl := congrArg List.length hf
    rw [List.length_drop, ideoL_length] at hl
    simp at hl
    have hj : j < ideoL.length := by rw [ideoL_length]; omega
    rw [List.drop_eq_getElem_cons hj] at hf
    simp only [List.cons.injEq] at hf
    refine ⟨by omega, ?_, by omega, f, hf.2, ?_⟩
    · rw [hf.1]; simp [List.getD, List.getElem?_eq_getElem hj]
    · have := decode_pos X pos hp
      omega

theorem row_not_iter {W : World} {base n k pos : Nat} {v : Value} {xs : List Value} {X : ByteArray} (h : W.ownsRow base 59 2 v n xs) (hk : W.heap[k]? = some (.stringIter X pos)) : some k ≠ v.ownBlock := by
  intro e
  rcases h.2 with ⟨rfl, _⟩ | ⟨g, cap, cur, rfl, _, hc, _⟩
  · cases e
  · simp only [Value.ownBlock, Option.some.injEq] at e
    rw [← e, hk] at hc
    cases hc

theorem grownBy_iterAt (W : World) (k : Nat) (s : ByteArray) (pos : Nat) : W.grownBy (W.iterAt k s pos) (some k) :=
  ⟨rfl, rfl, rfl, by rw [Lib.iterAt_size]; exact Nat.le_refl _, fun j _ hj => Lib.iterAt_other W k j s pos (fun e => hj (by rw [e]))⟩

set_option maxRecDepth 100000 in
set_option maxHeartbeats 4000000 in
theorem all_any (w : World) : Calls Tryz.prog 26 #[] w fun e w' => ∃ v, e = .returned v ∧ OwnsE w' w.heap.size v eaccL ∧ Below w.heap.size w w' := by
  obtain ⟨i0, hi0, hz0, hz1, hz2⟩ := info_parts E.info
  have ho6 := World.ownsRow_lit (base := w.heap.size) (e := 59) (size := 2) w (cellsE signsL).toArray 6 (Nat.le_refl _) (by unfold maxLen; omega) (by rfl)
  have hnew4 : ∀ j u, (cellsE othersL)[j]? = some u → ((w.alloc (.cells (cellsE signsL).toArray 59)).alloc (.cells (cellsE othersL).toArray 59)).cell? ((⟨w.heap.size + 1, 0, none⟩ : Addr).add j) = some u := by
    have h := heap_alloc_new (w.alloc (.cells (cellsE signsL).toArray 59)) (.cells (cellsE othersL).toArray 59)
    rw [World.size_alloc] at h
    intro j u hu
    exact World.news_of_block (cs := (cellsE othersL).toArray) (t := 59) (fr := (0, 0)) h j u (by simpa using hu)
  have hone : ∀ u ∈ cellsE othersL, u.oneCell' = true := by decide
  have ho6' := ho6.alloc (.cells (cellsE othersL).toArray 59)
  have hl4 : (cellsE othersL).length = 4 * 2 := rfl
  have h63 : 6 + 4 ≤ maxLen := by unfold maxLen; omega
  generalize hA : cellsE signsL = cs at ho6' hnew4
  generalize hB : cellsE othersL = co at ho6' hnew4 hone hl4
  go_enter Tryz.func26, Tryz.ntmps26
  go_wp2_with (first
    | (go_at_call 43; refine (signs_any _).mono ?_; rintro e w' ⟨rfl, rfl⟩; rw [hA])
    | (go_at_call 44; refine (others_any _).mono ?_; rintro e w' ⟨rfl, rfl⟩; rw [hB])
    | (at_builtin; go_loud (refine wpList_append_own _ rfl _ _ 56 rfl w.heap.size 59 i0 _ 2 16 Tryz.underlying56 hi0 hz0 hz1 hz2 rfl (by decide) _ _ _ rfl ho6' ⟨w.heap.size + 1, 0, none⟩ 4 4 co rfl hl4 hnew4 hone h63 (by omega) (by simp; omega) ?_); intro v1 w1 hown1 hgrow1 _))
  have hb1 : Below w.heap.size w w1 := (((Below.refl _ w).alloc (Nat.le_refl _) _).alloc (by simp) _).grown hgrow1 (by simp; omega) (fun j e => by cases e; exact Nat.le_refl _)
  have hO1 : OwnsE w1 w.heap.size v1 (signsL ++ othersL ++ hiraL 0) := by
    unfold OwnsE; rw [show hiraL 0 = [] from rfl, List.append_nil, cellsE_append, hA, hB]; exact hown1
  clear hown1 hgrow1 hnew4 hone ho6' ho6 hA hB hl4 h63
  go_loopw [1, 2] (fun v i wr => ∃ k : Nat, k ≤ 83 ∧ i = .int .i64 (6890529 + (k : Int)) ∧ OwnsE wr w.heap.size v (signsL ++ othersL ++ hiraL k) ∧ Below w.heap.size w wr)
    (fun _ i _ => 6890612 - (intOf i).toNat)
  case atStart => exact ⟨0, by omega, rfl, hO1, hb1⟩
  case round =>
    clear hO1 hb1
    obtain ⟨k, hk, rfl, hO, hb⟩ := hrel
    have hlen : (signsL ++ othersL ++ hiraL k).length = 10 + k := by simp [hiraL_length, signsL, othersL]; omega
    by_cases hlt : k < 83
    · obtain ⟨n, hn⟩ : ∃ n, n = (signsL ++ othersL ++ hiraL k).length := ⟨_, rfl⟩
      obtain ⟨xs, hx⟩ : ∃ xs, xs = cellsE (signsL ++ othersL ++ hiraL k) := ⟨_, rfl⟩
      unfold OwnsE at hO
      rw [← hn, ← hx] at hO
      have hnb : n ≤ 100 := by omega
      have HN := Lib.hid hn
      have HX := Lib.hid hx
      clear hn hx hlen
      have h63 : n + 1 ≤ maxLen := by unfold maxLen; omega
      have hbW := hb.size
      go_wp2_with (at_builtin; go_loud (refine wpList_append_own _ rfl _ _ 56 rfl w.heap.size 59 i0 _ 2 16 Tryz.underlying56 hi0 hz0 hz1 hz2 rfl (by decide) _ n xs rfl (hO.alloc _) ⟨_, 0, none⟩ 1 1 [.int .i64 _, .int .i32 _] rfl rfl (World.news_of_block (fr := (0, 0)) (heap_alloc_new _ _)) (by simp [Value.oneCell']) h63 (by omega) (by simp; omega) ?_); intro v' w2 hown2 hgrow2 _)
      have hO2 := OwnsE.snoc HN.out HX.out (6890529 + k, 12353 + k) (by simp) (by simp; omega) hown2
      have hb2 := Below.grown' hb hbW hgrow2 (fun j e => (hO.lt j e).1)
      go_roundw
      case rel => exact ⟨k + 1, by omega, by simp; omega, by rw [hiraL_succ, ← List.append_assoc]; exact hO2, hb2⟩
      case measure => simp [intOf]; omega
    · have hO83 : Hid (OwnsE _ w.heap.size _ (signsL ++ othersL ++ hiraL 83)) := Lib.hid (by have e : k = 83 := by omega
                                                                                             rw [e] at hO; exact hO)
      clear hlen hO
      go_wp2
      go_loopw [1, 3] (fun v i wr => ∃ k : Nat, k ≤ 86 ∧ i = .int .i64 (6890785 + (k : Int)) ∧ OwnsE wr w.heap.size v (signsL ++ othersL ++ hiraL 83 ++ kataL k) ∧ Below w.heap.size w wr)
        (fun _ i _ => 6890871 - (intOf i).toNat)
      case atStart => exact ⟨0, by omega, rfl, by simpa [kataL] using hO83.out, hb⟩
      case round =>
        clear hO83 hb
        rename_i k0 _ _ _ _
        obtain ⟨k, hk', rfl, hO, hb⟩ := hrel
        have hlen : (signsL ++ othersL ++ hiraL 83 ++ kataL k).length = 93 + k := by simp [hiraL_length, kataL_length, signsL, othersL]; omega
        by_cases hlt : k < 86
        · obtain ⟨n, hn⟩ : ∃ n, n = (signsL ++ othersL ++ hiraL 83 ++ kataL k).length := ⟨_, rfl⟩
          obtain ⟨xs, hx⟩ : ∃ xs, xs = cellsE (signsL ++ othersL ++ hiraL 83 ++ kataL k) := ⟨_, rfl⟩
          unfold OwnsE at hO
          rw [← hn, ← hx] at hO
          have hnb : n ≤ 200 := by omega
          have HN := Lib.hid hn
          have HX := Lib.hid hx
          clear hn hx hlen
          have h63 : n + 1 ≤ maxLen := by unfold maxLen; omega
          have hbW := hb.size
          go_wp2_with (at_builtin; go_loud (refine wpList_append_own _ rfl _ _ 56 rfl w.heap.size 59 i0 _ 2 16 Tryz.underlying56 hi0 hz0 hz1 hz2 rfl (by decide) _ n xs rfl (hO.alloc _) ⟨_, 0, none⟩ 1 1 [.int .i64 _, .int .i32 _] rfl rfl (World.news_of_block (fr := (0, 0)) (heap_alloc_new _ _)) (by simp [Value.oneCell']) h63 (by omega) (by simp; omega) ?_); intro v' w2 hown2 hgrow2 _)
          have hO2 := OwnsE.snoc HN.out HX.out (6890785 + k, 12449 + k) (by simp) (by simp; omega) hown2
          have hb2 := Below.grown' hb hbW hgrow2 (fun j e => (hO.lt j e).1)
          go_roundw
          case rel => exact ⟨k + 1, by omega, by simp; omega, by rw [kataL_succ, ← List.append_assoc]; exact hO2, hb2⟩
          case measure => simp [intOf]; omega
        · have hO86 : Hid (OwnsE _ w.heap.size _ (signsL ++ othersL ++ hiraL 83 ++ kataL 86)) := Lib.hid (by have e : k = 86 := by omega
                                                                                                             rw [e] at hO; exact hO)
          clear hlen hO
          go_wp2
          obtain ⟨wo, rfl⟩ : ∃ wo : World, wo = wr := ⟨_, rfl⟩
          have hwo : w.heap.size ≤ wo.heap.size := hb.size
          go_loopw [1, 4] (fun v i wr => ∃ (j pos : Nat) (X : ByteArray), i = .int .i64 j ∧ wr.heap[wo.heap.size]? = some (.stringIter X pos) ∧ At X pos j ∧ OwnsE wr w.heap.size v (signsL ++ othersL ++ hiraL 83 ++ kataL 86 ++ ideoC j) ∧ Below w.heap.size w wr)
            (fun _ i _ => 176 - (intOf i).toNat)
          case atStart =>
            refine ⟨0, 0, _, rfl, World.alloc_heap_new _ _, ⟨Nat.zero_le _, _, ?_, Nat.le_of_eq (Nat.zero_add _).symm⟩, ?_, hb.alloc hb.size _⟩
            · decide +kernel
            · unfold OwnsE
              rw [show ideoC 0 = [] from rfl, List.append_nil]
              exact World.ownsRow.alloc hO86.out _
          case round =>
            clear hO86 hb
            obtain ⟨j, pos, X, rfl, hit, hat, hO, hb⟩ := hrel
            have hlen : (signsL ++ othersL ++ hiraL 83 ++ kataL 86 ++ ideoC j).length = 179 + j := by simp [hiraL_length, kataL_length, ideoC_length, signsL, othersL]; omega
            by_cases hp : pos < X.size
            · obtain ⟨hj, hr, hat'⟩ := hat.step hp
              have hnx := fun ty => Lib.run_next_any_at (P := Tryz.prog) wr wo.heap.size X pos ty hit hp
              have hitk : wo.heap.size < wr.heap.size := (Array.getElem?_eq_some_iff.1 hit).1
              have hgi := grownBy_iterAt wr wo.heap.size X (pos + (Utf8.decode X pos).2)
              have hit2 := Lib.iterAt_heap wr wo.heap.size X pos (pos + (Utf8.decode X pos).2) hit
              have hOi : OwnsE (wr.iterAt wo.heap.size X (pos + (Utf8.decode X pos).2)) w.heap.size _ (signsL ++ othersL ++ hiraL 83 ++ kataL 86 ++ ideoC j) := World.ownsRow.kept hO hgi (by
                rcases hO.2 with ⟨rfl, _⟩ | ⟨g, cap, cur, rfl, _, hc, _⟩
                · exact .inl rfl
                · refine .inr (fun e => ?_)
                  simp only [Value.ownBlock, Option.some.injEq] at e
                  rw [e] at hc
                  rw [hit] at hc; cases hc)
              have hbi : Below w.heap.size w (wr.iterAt wo.heap.size X (pos + (Utf8.decode X pos).2)) := Lib.below_iterAt hb hwo X _
              generalize hc : (Utf8.decode X pos).1 = c at hnx hr
              generalize wr.iterAt wo.heap.size X (pos + (Utf8.decode X pos).2) = wi at hnx hit2 hOi hbi
              generalize pos + (Utf8.decode X pos).2 = pos2 at hat' hit2
              obtain ⟨n, hn⟩ : ∃ n, n = (signsL ++ othersL ++ hiraL 83 ++ kataL 86 ++ ideoC j).length := ⟨_, rfl⟩
              obtain ⟨xs, hx⟩ : ∃ xs, xs = cellsE (signsL ++ othersL ++ hiraL 83 ++ kataL 86 ++ ideoC j) := ⟨_, rfl⟩
              unfold OwnsE at hOi
              rw [← hn, ← hx] at hOi
              have hnb : n ≤ 400 := by omega
              have HN := Lib.hid hn
              have HX := Lib.hid hx
              have HC := Lib.hid hc
              have HR := Lib.hid hr
              clear hn hx hlen hc hr hO hb hit hgi hitk
              have h63 : n + 1 ≤ maxLen := by unfold maxLen; omega
              have hbW := hbi.size
              go_wp2_with (at_builtin; go_loud (refine wpList_append_own _ rfl _ _ 56 rfl w.heap.size 59 i0 _ 2 16 Tryz.underlying56 hi0 hz0 hz1 hz2 rfl (by decide) _ n xs rfl (hOi.alloc _) ⟨_, 0, none⟩ 1 1 [.int .i64 _, .int .i32 _] rfl rfl (World.news_of_block (fr := (0, 0)) (heap_alloc_new _ _)) (by simp [Value.oneCell']) h63 (by omega) (by simp; omega) ?_); intro v' w2 hown2 hgrow2 _)
              have hO2 := OwnsE.snoc HN.out HX.out (2175009 + j / 94 * 256 + j % 94, c) (by simp) rfl hown2
              have hb2 := Below.grown' hbi hbW hgrow2 (fun q e => (hOi.lt q e).1)
              have hitlt : wo.heap.size < wi.heap.size := (Array.getElem?_eq_some_iff.1 hit2).1
              have hit3 : w2.heap[wo.heap.size]? = some (.stringIter X pos2) := by
                exact (hgrow2.block _ (by simp; omega) (fun e => row_not_iter hOi hit2 e)).trans ((Below.heap_alloc wi _ _ hitlt).trans hit2)
              go_roundw
              case rel => exact ⟨j + 1, pos2, X, by go_num, hit3, hat', by rw [ideoC_succ, ← HR.out, ← List.append_assoc]; exact hO2, hb2⟩
              case measure => simp [intOf]; omega
            · have hj : j = 175 := by
                have h1 := hat.done hp
                have h2 : j ≤ 175 := hat.1
                omega
              have hnx := fun ty => Lib.run_next_end_at (P := Tryz.prog) wr wo.heap.size X pos ty hit hp
              have HO : Hid (OwnsE wr w.heap.size _ eaccL) := Lib.hid (by subst hj; exact hO)
              clear hO hj hlen hat
              go_wp2
              go_ret
              exact ⟨_, rfl, HO.out, hb⟩
end Go.Proofs.YtgmiampijdnebaaGreatDoor
