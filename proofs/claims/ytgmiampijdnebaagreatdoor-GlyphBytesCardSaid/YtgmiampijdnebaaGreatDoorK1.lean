/-
  (*Index).Known: the characters of an index, rising. No conditions but on sizes.
-/
import Derived.Test.YtgmiampijdnebaaGreatDoorB7
import Derived.Test.YtgmiampijdnebaaGreatDoorS7
import Derived.Test.YtgmiampijdnebaaGreatDoorS8
import Derived.Sort.KeysCollected
namespace Go.Proofs.YtgmiampijdnebaaGreatDoor
open Go.RowKit Go.Shelf Go.Sort Go.Maps

theorem underK : Tryz.prog.underlying 21 = some (.int .i32) := Tryz.underlying21
theorem law32 : Maps.Keyed Tryz.prog 21 := Maps.int_keyed underK

/-- The keys that were met so far. -/
def ColK (D0 : DataW Unit) (left : Lit → Bool) (ss : List Int) : Prop := ss.Nodup ∧ ∀ x, x ∈ ss ↔ (has D0 (.int .i32 x) = true ∧ left (.int .i32 x) = false)
theorem ColK.start (D0 : DataW Unit) : ColK D0 (has D0) [] := ⟨List.nodup_nil, fun x => by cases has D0 (.int .i32 x) <;> simp⟩
theorem ColK.step {D0 : DataW Unit} {left : Lit → Bool} {ss : List Int} (h : ColK D0 left ss) {x : Int} {y : DataW Unit} (hlk : left (.int .i32 x) = true) (hat : ∀ zd, D0.atKey (.int .i32 x) zd = y) :
    ColK D0 (fun z => left z && !z.sameKey (.int .i32 x)) (ss ++ [x]) := by
  have hhas : has D0 (.int .i32 x) = true := has_true_of_atKey hat
  have hnew : x ∉ ss := fun hx => by have := ((h.2 x).1 hx).2; rw [hlk] at this; cases this
  refine ⟨List.nodup_append.2 ⟨h.1, by simp, fun a ha b hb => by simp at hb; subst hb; exact fun e => hnew (e ▸ ha)⟩, fun y => ?_⟩
  by_cases hy : y = x
  · subst hy; simp [hhas, Lit.sameKey]
  · simp [h.2 y, hy, Lit.sameKey]
theorem ColK.all {D0 : DataW Unit} {left : Lit → Bool} {ss : List Int} (h : ColK D0 left ss) (hl : ∀ kl, left kl = false) (x : Int) : x ∈ ss ↔ has D0 (.int .i32 x) = true := by
  rw [h.2 x, hl]; simp

/-- The map of an index, as the library's laws take it. -/
theorem CMap.owns {W : World} {base bm : Nat} {G : List (Code × Nat)} (h : CMap W base bm G) : ∃ D0, W.ownsMap Tryz.prog 21 Rt bm G.length D0 ∧ Maps.size D0 ≤ G.length ∧
    (∀ x : Int, has D0 (.int .i32 x) = true ↔ ∃ r : Nat, x = r ∧ codesOf G r ≠ []) := by
  obtain ⟨es, clock, hb, F, hsz, hes, hall, _⟩ := h
  refine ⟨_, ⟨es, clock, hb, F, hsz, rfl⟩, by rw [Maps.size_eq, length_sorted]; simpa using hsz, fun x => ?_⟩
  rw [Maps.has_eq, List.any_eq_true]
  constructor
  · rintro ⟨p, hp, he⟩
    obtain ⟨y, hy, rfl⟩ := List.mem_map.1 (mem_sorted.1 hp)
    obtain ⟨r, hk, hle, hne, _⟩ := hes y hy
    rw [rg32 hk hle] at he
    have := WideAt.sameKey_eq he
    injection this with _ e
    exact ⟨r, e.symm, hne⟩
  · rintro ⟨r, rfl, hne⟩
    obtain ⟨y, hy, hk⟩ := hall r hne
    obtain ⟨r', hk', hle, _⟩ := hes y hy
    rw [hk] at hk'
    injection hk' with _ e
    have e' : r = r' := by omega
    refine ⟨_, mem_sorted.2 (List.mem_map.2 ⟨y, hy, rfl⟩), ?_⟩
    rw [rg32 hk (by omega)]
    simp [Lit.sameKey]

theorem Rune.info : (Tryz.prog.info? 21).map (fun i => (i.zero, i.size, i.bytes)) = some (some (.int .i32 0), 1, 4) := by kernel_rfl

set_option maxRecDepth 100000 in
set_option maxHeartbeats 2000000 in
theorem known_any (E : Env) (G : List (Code × Nat)) (hG : G.length < 100000) (hne : ∃ r, codesOf G r ≠ []) (W : World) (h : State E G W) :
    Calls Tryz.prog 10 #[.pointer (some ⟨E.bs, 0, none⟩)] W fun e W' => ∃ (g cap : Nat) (ss : List Int), e = .returned (.slice (some ⟨g, 0, none⟩) ss.length cap) ∧
      ss.Nodup ∧ (∀ x : Int, x ∈ ss ↔ ∃ r : Nat, x = r ∧ codesOf G r ≠ []) ∧
      W'.ownsRow W.heap.size 21 1 (.slice (some ⟨g, 0, none⟩) ss.length cap) ss.length ((ss.mergeSort (fun x y => decide (x ≤ y))).map (Value.int .i32)) ∧ Below W.heap.size W W' := by
  obtain ⟨i0, hi0, hz0, hz1, hz2⟩ := info_parts Rune.info
  obtain ⟨D0, hown, hsz, hhas⟩ := h.cm.owns
  have c0 := cell_heap (i := 0) h.str rfl
  have hbl := h.cm.lt
  obtain ⟨w0, bs, bm, br⟩ := E
  dsimp only at hown c0 hbl
  clear h
  go_enter Tryz.func10, Tryz.ntmps10
  go_wp2_with (first
    | (at_range; refine wpList_range_own _ rfl _ 35 rfl 21 25 law32 Tryz.underlying35 _ bm _ _ rfl hown ?_; intro w1 hrg0 hg0 hs0)
    | go_in)
  go_frame
  go_loopw [3] (fun v wr => ∃ (left : Lit → Bool) (cnt : Nat) (ss : List Int), wr.ranges Tryz.prog 21 Rt bm W.heap.size G.length D0 left cnt ∧ ss.length + cnt ≤ Maps.size D0 ∧
      wr.ownsRow W.heap.size 21 1 v ss.length (ss.map (Value.int .i32)) ∧ ColK D0 left ss ∧ Below W.heap.size W wr)
    (fun _ wr => wr.rangeLeft bm W.heap.size)
  case atStart =>
    exact ⟨_, _, [], hrg0, by simp, ⟨rfl, .inl ⟨rfl, rfl⟩⟩, ColK.start D0, (Below.refl _ _).grown hg0 (Nat.le_refl _) (fun j hj => by cases hj)⟩
  case round =>
    obtain ⟨left, cnt, ss, hrg, hcs, hrow, hC, hnx⟩ := hrel
    go_wp2_with (first
      | (at_next; refine wpList_next_ranges _ rfl _ rfl 21 law32 Rt (Value.int .i32) id (fun key kl hk => by obtain ⟨x, rfl, _⟩ := Maps.keyOf_int_inv underK hk; exact ⟨x, rfl⟩) (fun v y hv => ⟨v, rfl⟩) bm W.heap.size _ _ _ _ rfl hrg ?_ ?_)
      | go_in)
    · intro hc0 hl0
      have hall := hC.all hl0
      have hpos : 0 < ss.length := by
        obtain ⟨r, hr⟩ := hne
        exact List.length_pos_of_mem ((hall r).2 ((hhas r).2 ⟨r, rfl, hr⟩))
      rcases hrow.2 with ⟨hnil, h0⟩ | ⟨g, cap, cur, rfl, hbase, hb, h1, h2, h3, h4⟩
      · omega
      have hH : Holds (Value.int .i32) wr g 0 ss.toArray := holds_of_blockR hb (by simpa using h4)
      have hgl : g < wr.heap.size := (Array.getElem?_eq_some_iff.1 hb).1
      have hc := Srt.slices_Sort_int g 0 cap ss wr hH hgl (by omega)
      have HR := Lib.hid (⟨hC.1, fun x => (hall x).trans (hhas x)⟩ : ss.Nodup ∧ (∀ x : Int, x ∈ ss ↔ ∃ r : Nat, x = r ∧ codesOf G r ≠ []))
      clear hhas hall hC hown hrg hrow hH hl0 hc0
      go_wp2_with (go_at_call 19; refine hc.mono ?_; rintro e w' ⟨rfl, nn, os, rfl⟩)
      go_ret
      exact ⟨g, cap, ss, rfl, HR.out.1, HR.out.2, ownsRow_sortedR (by simp) hbase hb h1 h2 h3, hnx.grown (grownBy_sortedR _) hnx.size (fun j hj => by cases hj; exact hbase)⟩
    · intro x c kl yd yp w2 cnt2 hkey hlk hv hat hrg2 hlt hg2 hs2 hen
      obtain ⟨x', ex, rfl, _⟩ := Maps.keyOf_int_inv underK hkey
      injection ex with _ ex
      subst ex
      have hrow2 := hrow.kept hg2 (Or.inr (row_ne_iter hrow hrg).symm)
      have HS := Lib.hid hsz
      clear hs2 hhas
      go_wp2_with (first
        | (at_builtin; go_loud (refine wpList_append_own _ rfl _ _ 22 rfl W.heap.size 21 i0 _ 1 4 Tryz.underlying22 hi0 hz0 hz1 hz2 rfl (by decide) _ _ _ rfl (hrow2.alloc _) ⟨w2.heap.size, 0, none⟩ 1 1 [.int .i32 x] rfl rfl (cell_one_new _ _ _) (by simp [Value.oneCell']) (by unfold maxLen at *; omega) (by omega) (by have := hnx.size; have := hg2.size; simp; omega) ?_); intro v' w3 hown' hg3 hnil3)
        | go_in)
      have hrg3 := (hrg2.alloc _).kept hg3 (row_ne_low hrow2 hbl) (row_ne_iter hrow2 hrg2)
      go_roundw
      case rel =>
        refine ⟨_, cnt2, ss ++ [x], hrg3, by simp; omega, by simpa using hown', hC.step hlk hat, ?_⟩
        exact ((hnx.grown hg2 hnx.size (fun j hj => by cases hj; exact Nat.le_refl _)).alloc (by have := hnx.size; have := hg2.size; omega) _).grown hg3 (by have := hnx.size; have := hg2.size; simp; omega) (fun j hj => (hrow2.lt j hj).1)
      case measure => rw [hrg3.left_eq, hrg.left_eq]; exact hlt
end Go.Proofs.YtgmiampijdnebaaGreatDoor
