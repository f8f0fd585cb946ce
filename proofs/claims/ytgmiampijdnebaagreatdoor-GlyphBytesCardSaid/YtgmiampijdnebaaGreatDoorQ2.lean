/-
  slices.AppendSeq and slices.Collect at codes, of what slices.Values hands back. No conditions but on sizes.
-/
import Derived.Test.YtgmiampijdnebaaGreatDoorQ1
namespace Go.Proofs.YtgmiampijdnebaaGreatDoor
open Go.RowKit Go.Shelf
attribute [local go_sem] Oper.semAt_some

theorem ownsRow_slice {W : World} {base e size : Nat} {v : Value} {n : Nat} {xs : List Value} (h : W.ownsRow base e size v n xs) : ∃ p k cap, v = .slice p k cap := by
  rcases h.2 with ⟨rfl, _⟩ | ⟨g, cap, cur, rfl, _⟩
  · exact ⟨_, _, _, rfl⟩
  · exact ⟨_, _, _, rfl⟩

set_option maxRecDepth 100000 in
set_option maxHeartbeats 4000000 in
theorem appendSeq_any (Bs : Nat) (sv : Value) (L : List Code) (hreach : L.length < 1000000) (w : World) (hBs : Bs < w.heap.size) (hc : w.cell? ⟨Bs, 0, none⟩ = some sv) (hI : Src w.heap.size w sv L) :
    Calls Tryz.prog 62 #[.slice none 0 0, .func (.func 37) #[] #[.pointer (some ⟨Bs, 0, none⟩)]] w fun e W' =>
      ∃ v, e = .returned v ∧ W'.ownsRow w.heap.size 30 2 v L.length (cellsOf L) ∧ Below w.heap.size w W' := by
  refine (callsIn_wide (n := 9)).1 ?_
  obtain ⟨n, hn9⟩ : ∃ n, n = 9 := ⟨_, rfl⟩
  rw [← hn9]
  have h1 : 1 ≤ n := by omega
  obtain ⟨i0, hi0, hz0, hz1, hz2⟩ := info_parts Code.info
  refine callsIn_of_wp_marks Tryz.func62 rfl trivial ?_ rfl
  simp only [Tryz.ntmps62, List.size_toArray, List.length_cons, List.length_nil, Nat.reduceAdd, Nat.reduceSub, Array.replicate_succ, Array.replicate_zero, List.push_toArray, List.append_toArray, List.nil_append, List.cons_append]
  gi_wp2_with fail
  have hB0 := (Below.refl w.heap.size w).alloc (Nat.le_refl _) (.cells #[.slice none 0 0] 25)
  have bS := Boxed.new w 25 (.slice none 0 0)
  have hsz : (w.alloc (.cells #[.slice none 0 0] 25)).heap.size = w.heap.size + 1 := by simp
  obtain ⟨W0, hW0⟩ : ∃ W0, w.alloc (.cells #[.slice none 0 0] 25) = W0 := ⟨_, rfl⟩
  rw [hW0] at bS hB0 hsz ⊢
  clear hW0
  have hc0 := (hB0.cell (p := ⟨Bs, 0, none⟩) hBs).trans hc
  refine wpIn_rangeFunc_ownH rfl h1 (gf := 37) (lb := #[.pointer (some ⟨Bs, 0, none⟩)]) rfl trivial (enters_of Tryz.func37 (by kernel_rfl) rfl)
    (values_stops Fence.wide (n - 1) trivial rfl (by omega) Bs w.heap.size sv L hreach W0 (by omega) (by omega) hc0 (hI.below hB0)) belowK_t (belowK_b (by omega)) (Below.refl _ _) (fun _ => rfl)
    (fun pre W => ∃ v, Boxed W w.heap.size 25 v ∧ W.ownsRow w.heap.size 30 2 v pre.length (cellsOf pre) ∧ Below w.heap.size w W)
    (fun _ _ _ => False)
    ?own
    (fun _ _ _ _ _ hs _ _ => hs)
    ⟨_, bS, ⟨rfl, .inl ⟨rfl, rfl⟩⟩, hB0⟩
    (fun x a' W => ∃ Bx v, Boxed W w.heap.size 25 v ∧ v.ownBlock ≠ some Bx ∧ w.heap.size < Bx ∧ W.heap[Bx]? = some (.cells #[.int .i64 (x.1 : Int), .int .i64 (x.2 : Int)] 30 (0, 0)) ∧
      a' = { tmps := #[.slice none 0 0, .func (.func 37) #[] #[.pointer (some ⟨Bs, 0, none⟩)], .pointer (some ⟨w.heap.size, 0, none⟩), undef, .slice none 0 0, .pointer (some ⟨Bx, 0, none⟩),
        .func (.func 37) #[] #[.pointer (some ⟨Bs, 0, none⟩)], valC x, undef, undef, undef, undef, undef], defers := [] })
    ?ax ?assign ?body ?done ?stop
  case own =>
    rintro pre W W' row ⟨v, b1, ho, hb⟩ hg hr
    have hne : ∀ {k : Nat} {cs : Array Value} {t : TypeId} {fr : Nat × Nat}, W.heap[k]? = some (.cells cs t fr) → some k ≠ row := fun {k cs t fr} hk e => by
      obtain ⟨_, o, ho, hc⟩ := hr k e.symm
      rw [hk] at ho; cases ho; cases hc
    refine ⟨v, b1.kept hg (hne b1), ho.kept hg ?_, hb.grown hg (by have := hb.size; omega) (fun k e => by have := (hr k e).1; omega)⟩
    rcases ho.2 with ⟨rfl, _⟩ | ⟨g, cap, cur, rfl, _, hgb, _⟩
    · exact .inl rfl
    · exact .inr (hne hgb)
  case ax =>
    rintro x a' _ W W' row ⟨Bx, v, b1, h2, h3, h4, h5⟩ hg hr
    have hne : ∀ {k : Nat} {cs : Array Value} {t : TypeId} {fr : Nat × Nat}, W.heap[k]? = some (.cells cs t fr) → some k ≠ row := fun {k cs t fr} hk e => by
      obtain ⟨_, o, ho, hc⟩ := hr k e.symm
      rw [hk] at ho; cases ho; cases hc
    exact ⟨Bx, v, b1.kept hg (hne b1), h2, h3, (hg.block _ (Array.getElem?_eq_some_iff.1 h4).1 (hne h4)).trans h4, h5⟩
  case assign =>
    rintro l pre x W K ⟨v, b1, ho, hb⟩ hK
    unfold valC
    gi_wp2
    refine hK _ _ ((KeepsOthers.alloc _ _).from _) ((Below.refl _ W).alloc hb.size _) ⟨v, b1.alloc _, ho.alloc _, hb.alloc hb.size _⟩ ⟨W.heap.size, v, b1.alloc _, ?_, b1.lt, World.alloc_heap_new W _, rfl⟩
    intro e
    have := (ho.lt _ e).2
    omega
  case body =>
    rintro l pre x a' W hl ⟨r, hr⟩ ⟨v, b1, ho, hb⟩ ⟨Bx, v', b2, h2, h3, h4, rfl⟩ hlt
    obtain rfl : v = v' := by
      have := b1.symm.trans b2
      simpa using this
    have c1 := b1.cell
    have f1 := b1.frozen
    have x1 : W.cell? ⟨Bx, 0, none⟩ = some (.int .i64 (x.1 : Int)) := cell_heap h4 rfl
    have x2 : W.cell? ⟨Bx, 1, none⟩ = some (.int .i64 (x.2 : Int)) := cell_heap h4 rfl
    have hn63 : pre.length + 1 ≤ maxLen := by unfold maxLen; omega
    have hsW := hb.size
    unfold valC
    gi_wp2_with (gi_at_builtin; go_loud (refine wpListIn_append_own _ rfl _ _ 25 rfl w.heap.size 30 i0 _ 2 16 Tryz.underlying25 hi0 hz0 hz1 hz2 rfl (by decide) v pre.length (cellsOf pre) rfl (ho.alloc _) ⟨W.heap.size, 0, none⟩ 1 1 [.int .i64 (x.1 : Int), .int .i64 (x.2 : Int)] rfl rfl (World.news_of_block (fr := (0, 0)) (World.alloc_heap_new _ _)) (by simp [Value.oneCell']) hn63 (by omega) (by simp; omega) ?_); intro v2 w2 hown2 hgrow2 hnil2; obtain ⟨p2, k2, cap2, rfl⟩ := ownsRow_slice hown2; clear hnil2; have hbx := Boxed.appended b1 (by decide) ho hsW (Nat.le_refl _) hown2 hgrow2; have cb := hbx.1.cell; have fb := hbx.1.frozen)
    obtain ⟨_, q1, q2, q3, q4⟩ := hbx
    exact ⟨q3.from _, q4, _, q1, by rw [cellsOf_snoc, List.length_append]; exact q2, hb.trans q4⟩
  case done =>
    rintro D zs W hD rfl ⟨v, b1, ho, hB1⟩ hK
    have cS := b1.cell
    gi_wp2
    refine ⟨by simp, .inl ⟨_, _, rfl, run_takeDeferred hK, ?_⟩⟩
    refine ⟨_, results_tmp rfl _ _ _, _, rfl, ?_, hB1.trans (belowK_b (w := w) (Nat.le_refl _) W D _ _ (by omega) hK rfl rfl)⟩
    refine ho.kept (grownBy_putObj' _ _ _) ?_
    rcases ho.2 with ⟨rfl, _⟩ | ⟨g, cap, cur, rfl, _, hgb, _⟩
    · exact .inl rfl
    · refine .inr (fun e => ?_)
      cases e
      rw [hK] at hgb
      cases hgb
  case stop =>
    rintro D c pre W _ _ h _
    exact h.elim

set_option maxHeartbeats 1000000 in
theorem collect_any (Bs : Nat) (sv : Value) (L : List Code) (hreach : L.length < 1000000) (w : World) (hBs : Bs < w.heap.size) (hc : w.cell? ⟨Bs, 0, none⟩ = some sv) (hI : Src w.heap.size w sv L) :
    Calls Tryz.prog 35 #[.func (.func 37) #[] #[.pointer (some ⟨Bs, 0, none⟩)]] w fun e W' =>
      ∃ v, e = .returned v ∧ W'.ownsRow w.heap.size 30 2 v L.length (cellsOf L) ∧ Below w.heap.size w W' := by
  have h := appendSeq_any Bs sv L hreach w hBs hc hI
  clear hc hI
  go_enter Tryz.func35, Tryz.ntmps35
  go_wp2_with (go_at_call 62; refine h.mono ?_; rintro e w' ⟨v, rfl, ho, hb⟩)
  go_ret
  exact ⟨_, rfl, ho, hb⟩
end Go.Proofs.YtgmiampijdnebaaGreatDoor
