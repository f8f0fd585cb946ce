/-
  (*Index).add: one code more. The state of an index that is being built. No conditions but on sizes.
-/
import Derived.Test.YtgmiampijdnebaaGreatDoorB6
import Derived.Test.YtgmiampijdnebaaGreatDoorA1
import Derived.WideKeyArgs2
import Derived.DeepKeys4
import Derived.MapViews
import Derived.Lib.SmallJoins
import Derived.StillTactics
import Derived.Laws.Pointers
import Derived.Deep.RegionHeld3
import Derived.Deep.AppendLies
import Derived.KernelRfl
import Derived.WalkSpells
namespace Go.Proofs.YtgmiampijdnebaaGreatDoor
open Go.RowKit Go.Shelf Go.ChangeMaps Go.MapKept Go.Joins
open Go.WideElems (Fit)

theorem laidOut : laidOutB Tryz.prog = true := by kernel_rfl
theorem deepCode : Tryz.prog.keyTypeAt (Tryz.prog.types.size + 1) 30 = true := by kernel_rfl
theorem wideCode : (match Tryz.prog.underlying 30 with | some (.array _ _) | some (.struct _) => true | _ => false) = true := by kernel_rfl
theorem rowCode : (30 : TypeId) < Tryz.prog.types.size := of_decide_eq_true (by kernel_rfl)
set_option maxRecDepth 100000 in
theorem lawCode : Maps.Keyed Tryz.prog 30 := Maps.Keyed.of_law (deep_law_laid laidOut (m := 3) (by omega) rowCode (by kernel_rfl) wideCode)
theorem cellsCode : Tryz.prog.cellsOf 30 = 2 := by kernel_rfl

set_option maxRecDepth 100000 in
theorem keyCode (s n : Nat) (hs : s < 9223372036854775808) (hn : n < 9223372036854775808) : ∃ kl, keyOf Tryz.prog 30 (.agg #[.int .i64 s, .int .i64 n]) = some kl := by
  have w1 : (Lit.int .i64 (s : Int)).wf = true := WalkArith.wf_i64 (by omega)
  have w2 : (Lit.int .i64 (n : Int)).wf = true := WalkArith.wf_i64 (by omega)
  have h := shut_agg2 (H := Unit) (enc := fun _ => ()) (P := Tryz.prog) (w := default) (base := 0) (spare := fun _ => true) (held := true) (v0 := .int .i64 s) (v1 := .int .i64 n)
    (y0 := (.lit (.int .i64 s), [])) (y1 := (.lit (.int .i64 n), [])) Tryz.underlying30 (by kernel_rfl) cellsCode ⟨1, by simp [DataW.trod, Tryz.underlying3, w1]⟩ ⟨1, by simp [DataW.trod, Tryz.underlying3, w2]⟩
  exact ⟨_, (keyOf_asKey deepCode wideCode (by simp [Value.formed, Tryz.underlying30, cellsCode]) h).1⟩

/-- Block br is some map from codes to characters, of at most n. -/
def RMap (W : World) (br n : Nat) : Prop := ∃ D : DataW Unit, W.ownsMap Tryz.prog 30 (plainElem Tryz.prog 21) br n D

theorem RMap.made (w : World) : RMap (w.alloc (.map #[] 0)) w.heap.size 0 := ⟨_, World.ownsMap_made _ _ _ _⟩
theorem RMap.kept {W W' : World} {row : Option Nat} {br n : Nat} (h : RMap W br n) (hg : W.grownBy W' row) (hne : some br ≠ row) : RMap W' br n := by
  obtain ⟨D, hD⟩ := h
  exact ⟨D, hD.kept hg hne⟩
theorem RMap.map {W : World} {br n : Nat} (h : RMap W br n) : ∃ es clock, W.heap[br]? = some (.map es clock) := by
  obtain ⟨D, es, clock, hb, _⟩ := h
  exact ⟨es, clock, hb⟩
theorem RMap.put {W : World} {br n : Nat} (h : RMap W br n) (hn : n < 1000000) (s c r : Nat) (hs : s < 9223372036854775808) (hc : c < 9223372036854775808) (hr : r ≤ 2147483647) :
    ∃ W', (Instr.mapUpdate 36 (.map (some br)) (.agg #[.int .i64 s, .int .i64 c]) (.int .i32 r)).run Tryz.prog W = .ok () W' ∧ RMap W' br (n + 1) ∧ W.grownBy W' (some br) := by
  obtain ⟨D, hD⟩ := h
  obtain ⟨kl, hk⟩ := keyCode s c hs hc
  obtain ⟨W', h1, h2, h3⟩ := hD.update lawCode Tryz.underlying36 (by unfold maxLen; omega) hk (plainElem_int Tryz.underlying21 (wf32 hr))
  exact ⟨W', h1, ⟨_, h2⟩, h3⟩

/-- Where an index that is being built lies. -/
structure Env where
  w0 : World
  bs : Nat
  bm : Nat
  br : Nat

/-- The state of an index that holds G. -/
structure State (E : Env) (G : List (Code × Nat)) (W : World) : Prop where
  bel : Below E.w0.heap.size E.w0 W
  ls : E.w0.heap.size ≤ E.bs
  lm : E.w0.heap.size ≤ E.bm
  lr : E.w0.heap.size ≤ E.br
  ne : E.bm ≠ E.br
  str : W.heap[E.bs]? = some (.cells #[.map (some E.bm), .map (some E.br)] 38 (0, 0))
  cm : CMap W E.w0.heap.size E.bm G
  rm : RMap W E.br G.length

theorem Code.info : (Tryz.prog.info? 30).map (fun i => (i.zero, i.size, i.bytes)) = some (some (.agg #[.int .i64 0, .int .i64 0]), 2, 16) := by kernel_rfl

theorem heap1 {W : World} {a : Obj} {k : Nat} (hk : k < W.heap.size) : (W.alloc a).drew.heap[k]? = W.heap[k]? := Below.heap_alloc W a k hk
theorem heap2 {W : World} {a b : Obj} {k : Nat} (hk : k < W.heap.size) : ((W.alloc a).alloc b).drew.heap[k]? = W.heap[k]? :=
  (Below.heap_alloc (W.alloc a) b k (by simp; omega)).trans (Below.heap_alloc W a k hk)
theorem grown2 {W w1 : World} {a b : Obj} {row : Option Nat} (h : ((W.alloc a).alloc b).drew.grownBy w1 row) : W.grownBy w1 row :=
  ⟨h.os, h.tape, h.output, Nat.le_trans (by simp [World.drew]; omega) h.size, fun k hk hne => (h.block k (by simp [World.drew]; omega) hne).trans (heap2 hk)⟩
theorem new1 {W : World} {a b : Obj} : ((W.alloc a).alloc b).drew.heap[W.heap.size]? = some a :=
  (Below.heap_alloc (W.alloc a) b W.heap.size (by simp)).trans (World.alloc_heap_new W a)
theorem cell_heap {W : World} {b i : Nat} {cs : Array Value} {t : TypeId} {fr : Nat × Nat} {v : Value} (h : W.heap[b]? = some (.cells cs t fr)) (hi : cs[i]? = some v) : W.cell? ⟨b, i, none⟩ = some v := by
  simp [World.cell?, h, hi]
theorem new2 {W : World} {a b : Obj} : ((W.alloc a).alloc b).drew.heap[W.heap.size + 1]? = some b := by
  have := World.alloc_heap_new (W.alloc a) b
  rwa [World.size_alloc] at this

set_option maxRecDepth 100000 in
set_option maxHeartbeats 3200000 in
theorem add_any (E : Env) (G : List (Code × Nat)) (s n r : Nat) (hs : s < 1000000000) (hn : n < 1000000000) (hr : r ≤ 2147483647) (hG : G.length < 100000) (W : World) (h : State E G W) :
    Calls Tryz.prog 14 #[.pointer (some ⟨E.bs, 0, none⟩), .agg #[.int .i64 s, .int .i64 n], .int .i32 r] W fun e W' => e = .returned (.tuple #[]) ∧ State E (G ++ [((s, n), r)]) W' ∧ Fr W W' := by
  obtain ⟨w0, bs, bm, br⟩ := E
  obtain ⟨hbel, ls, lm, lr, hne, hstr, hcm, hrm⟩ := h
  dsimp only at hbel ls lm lr hne hstr hcm hrm
  obtain ⟨v, hl, hov, hvb, hback⟩ := hcm.look hr (by omega)
  have c0 : W.cell? ⟨bs, 0, none⟩ = some (.map (some bm)) := by simp [World.cell?, hstr]
  have c1 : W.cell? ⟨bs, 1, none⟩ = some (.map (some br)) := by simp [World.cell?, hstr]
  have hbslt : bs < W.heap.size := (Array.getElem?_eq_some_iff.1 hstr).1
  have hbmlt := hcm.lt
  have hlen : (codesOf G r).length ≤ G.length := by unfold codesOf; rw [List.length_map]; exact List.length_filter_le _ _
  have hvs : v.ownBlock ≠ some bs := by
    intro e
    rcases hov.2 with ⟨rfl, _⟩ | ⟨g, cap, cur, rfl, _, hc, _⟩
    · cases e
    · simp only [Value.ownBlock, Option.some.injEq] at e
      subst e
      rw [hstr] at hc; cases hc
  have hvW : v.ownBlock ≠ some W.heap.size := by
    intro e
    have := (hov.lt _ e).2
    omega
  obtain ⟨i0, hi0, hz0, hz1, hz2⟩ := info_parts Code.info
  have hbytes : ((codesOf G r).length + 1) * 16 ≤ 140737488355328 := by omega
  have hn63 : (codesOf G r).length + 1 ≤ maxLen := by unfold maxLen; omega
  generalize hm : (codesOf G r).length = m at hov hback hlen hbytes hn63
  generalize hxs : cellsOf (codesOf G r) = xs at hov hback
  clear hm hxs
  have hbsm : bs ≠ bm := by
    intro e
    subst e
    obtain ⟨es, clock, hb, _⟩ := hcm
    rw [hstr] at hb; cases hb
  obtain ⟨hbsbr, hbr⟩ : bs ≠ br ∧ some br ≠ v.ownBlock := by
    obtain ⟨es, clock, hb⟩ := hrm.map
    refine ⟨fun e => (by subst e; rw [hstr] at hb; cases hb), fun e => ?_⟩
    rcases hov.2 with ⟨rfl, _⟩ | ⟨g, cap, cur, rfl, _, hc, _⟩
    · cases e
    · simp only [Value.ownBlock, Option.some.injEq] at e
      subst e
      rw [hb] at hc; cases hc
  have HS := Lib.hid hstr
  clear hstr
  go_enter Tryz.func14, Tryz.ntmps14
  go_wp2_with fail
  have hL1 := hl _ (heap1 (a := .cells #[.int .i64 s, .int .i64 n] 30) hbmlt)
  have hL2 := hl _ (heap2 (a := .cells #[.int .i64 s, .int .i64 n] 30) (b := .cells #[.int .i64 s, .int .i64 n] 30) hbmlt)
  have hbW := hbel.size
  go_region_held3 (fun w' => w'.cell? ⟨bs, 0, none⟩ = some (.map (some bm)) ∧ w'.cell? ⟨W.heap.size, 0, none⟩ = some (.int .i64 s) ∧ w'.cell? ⟨W.heap.size, 1, none⟩ = some (.int .i64 n))
    (first
      | go_keep
      | exact ⟨cell_heap k1 rfl, cell_heap k2 rfl, cell_heap k2 rfl⟩
      | exact ⟨cell_heap l1 rfl, cell_heap l2 rfl, cell_heap l2 rfl⟩)
    ((refine step_append_lies _ (by rfl) _ _ _ (by rfl) w0.heap.size 30 i0 _ 2 16 Tryz.underlying25 hi0 hz0 hz1 hz2 rfl (by omega) v m xs (by rfl) (((hov.alloc _).alloc _).drew)
        ⟨W.heap.size + 1, 0, none⟩ 1 1 [.int .i64 s, .int .i64 n] (by rfl) (by rfl) (World.news_of_block (cs := #[.int .i64 s, .int .i64 n]) (t := 30) (fr := (0, 0)) new2) (by simp [Value.oneCell'])
        (by omega) hn63 hbytes (by simp; omega) (W.heap.size + 1 + 1) (by simp) ?_; intro gg cap w1 hown1 hgrow hat hlt
      obtain ⟨w2, hrun, hcm2, hg2⟩ := hback w1 (.slice (some ⟨gg, 0, none⟩) (m + 1) cap) (s, n) (grown2 hgrow) hown1 (hat.imp (fun e => e.symm) (fun e => ⟨gg, rfl, by omega⟩))
      have hsz1 := (grown2 hgrow).size
      have k1 := ((grown2 hgrow).block bs hbslt (fun e => hvs e.symm)).trans HS.out
      have k2 := (hgrow.block W.heap.size (by simp; omega) (fun e => hvW e.symm)).trans new1
      have k3 : W.heap.size < w1.heap.size := (Array.getElem?_eq_some_iff.1 k2).1
      have l1 := (hg2.block bs (by omega) (by simp; omega)).trans k1
      have l2 := (hg2.block W.heap.size k3 (by simp; omega)).trans k2))
  all_goals
    go_wp2_with fail
    have d1 : w2.drew.cell? ⟨bs, 1, none⟩ = some (.map (some br)) := cell_heap (W := w2.drew) l1 rfl
    have d2 : w2.drew.cell? ⟨W.heap.size, 0, none⟩ = some (.int .i64 s) := cell_heap (W := w2.drew) l2 rfl
    have d3 : w2.drew.cell? ⟨W.heap.size, 1, none⟩ = some (.int .i64 n) := cell_heap (W := w2.drew) l2 rfl
    have hr1 : RMap w1 br G.length := hrm.kept (grown2 hgrow) hbr
    have hr2' : RMap w2 br G.length := hr1.kept hg2 (by simp; omega)
    have hr2 : RMap w2.drew br G.length := by obtain ⟨D, hD⟩ := hr2'; exact ⟨D, hD.drew⟩
    obtain ⟨w3, hrun3, hrm3, hg3⟩ := hr2.put (by omega) s n r (by omega) (by omega) hr
    have hg3' : w2.grownBy w3 (some br) := ⟨hg3.os, hg3.tape, hg3.output, hg3.size, hg3.block⟩
    have b1 := hbel.grown (grown2 hgrow) hbel.size (fun j e => (hov.lt j e).1)
    have b2 := b1.grown hg2 b1.size (fun j e => by cases e; exact lm)
    have b3 := b2.grown hg3' b2.size (fun j e => by cases e; exact lr)
    have hbslt2 : bs < w2.heap.size := (Array.getElem?_eq_some_iff.1 l1).1
    have l3 := (hg3'.block bs hbslt2 (fun e => hbsbr (by simpa using e))).trans l1
    have hcm3 := hcm2.other hg3' (by simp; omega) (fun q cur fr e hc => by
      cases e
      obtain ⟨es, clock, hb⟩ := hr2'.map
      rw [hb] at hc; cases hc)
    have f1 : Fr W w1 := Fr.grown (grown2 hgrow) (fun q e => by
      rcases hov.2 with ⟨rfl, _⟩ | ⟨g, cap', cur, rfl, _, hc, _⟩
      · cases e
      · simp only [Value.ownBlock, Option.some.injEq] at e
        subst e
        exact ⟨_, hc, by simp [stillObj]⟩)
    have f2 : Fr w1 w2 := Fr.grown hg2 (fun q e => by
      cases e
      obtain ⟨es, clock, hb, _⟩ := hcm
      exact ⟨_, ((grown2 hgrow).block bm hbmlt (fun e => hvb e.symm)).trans hb, rfl⟩)
    have f3 : Fr w2 w3 := Fr.grown hg3' (fun q e => by
      cases e
      obtain ⟨es, clock, hb⟩ := hr2'.map
      exact ⟨_, hb, rfl⟩)
    refine still_tail 6 (by kernel_rfl) (by kernel_rfl) ?_
    simp only [List.take_succ_cons, List.take_zero, List.drop_succ_cons, List.drop_zero]
    clear hr2 hr2' hr1 hrun hL1 hL2 hl hg3 hcm2 l1 l2 k1 k2
    generalize w2.drew = wd at d1 d2 d3 hrun3 ⊢
    still_step
    still_step
    still_step
    still_step
    still_step
    still_step
    refine wpStill_nil ?_
    go_wp2
    go_end0
    exact ⟨rfl, ⟨b3, ls, lm, lr, hne, l3, hcm3, by simpa using hrm3⟩, (f1.trans f2).trans f3⟩
end Go.Proofs.YtgmiampijdnebaaGreatDoor
