/-
  latin.Each: what is done with each number of lines, and its character, one behind the other. Its conditions: the text is one of the tables' form; the library's tables are as they are laid.
-/
import Derived.Test.YtgmiampijdnebaaGreatDoorB2
import Derived.Test.YtgmiampijdnebaaGreatDoorP2
import Derived.Lib.Hide
namespace Go.Proofs.YtgmiampijdnebaaGreatDoor
open Go.RowKit Go.Shelf

attribute [local go_sem] Oper.semAt_some

set_option maxHeartbeats 400000 in
theorem splitSeq_any (s : ByteArray) (w : World) :
    Calls Tryz.prog 39 #[.string s, .string ⟨#[10]⟩] w fun e w' =>
      e = .returned (.func (.func 84) #[] #[.pointer (some ⟨w.heap.size + 1, 0, none⟩), .pointer (some ⟨w.heap.size, 0, none⟩), .pointer (some ⟨w.heap.size + 1 + 1, 0, none⟩)]) ∧
      w' = ((w.alloc (.cells #[.string s] 9)).alloc (.cells #[.string ⟨#[10]⟩] 9)).alloc (.cells #[.int .i64 0] 3) := by

  go_enter Tryz.func39, Tryz.ntmps39
  go_wp2
  go_ret
  exact ⟨rfl, rfl⟩

/-- Block A holds these words. -/
def Words (W : World) (A : Nat) (ws : List (List UInt8)) : Prop :=
  ∃ cur fr, W.heap[A]? = some (.cells cur 9 fr) ∧ ∀ i (hi : i < ws.length), cur[i]? = some (.string (str ws[i]))
theorem Words.fr {W W' : World} {A : Nat} {ws : List (List UInt8)} (h : Words W A ws) (hf : Fr W W') : Words W' A ws := by
  obtain ⟨cur, fr, hb, hc⟩ := h
  exact ⟨cur, fr, hf.same A _ hb (by rfl), hc⟩
theorem Words.cell {W : World} {A : Nat} {ws : List (List UInt8)} (h : Words W A ws) (i : Nat) (hi : i < ws.length) : W.cell? ⟨A, i, none⟩ = some (.string (str ws[i])) := by
  obtain ⟨cur, fr, hb, hc⟩ := h
  simp [World.cell?, hb, hc i hi]
theorem Words.lt {W : World} {A : Nat} {ws : List (List UInt8)} (h : Words W A ws) : A < W.heap.size := by
  obtain ⟨cur, fr, hb, hc⟩ := h
  exact (Array.getElem?_eq_some_iff.1 hb).1

theorem Words.of_owns {W : World} {base A n c : Nat} {ws : List (List UInt8)} (h : W.ownsRow base 9 1 (.slice (some ⟨A, 0, none⟩) n c) ws.length (ws.map fun x => Value.string ⟨x.toArray⟩)) : Words W A ws := by
  have hr := h
  rcases h.2 with ⟨h1, _⟩ | ⟨g, cap, cur, hv, _, hb, _⟩
  · cases h1
  · cases hv
    refine ⟨cur, _, hb, fun i hi => ?_⟩
    have := hr.cellAt i (by simpa using hi)
    simp [World.cell?, hb] at this
    rw [this]
    simp [str]

set_option maxHeartbeats 400000 in
theorem fields_any (x : ByteArray) (h : List UInt8) (tl : List (List UInt8)) (hf : Lib.fieldsD x.data.toList = h :: tl) (hx : x.size ≤ 100000) (W : World) (hG : Glob W) :
    Calls Tryz.prog 40 #[.string x] W fun e W' => ∃ A, e = .returned (.slice (some ⟨A, 0, none⟩) (tl.length + 1) (tl.length + 1)) ∧ Words W' A (h :: tl) ∧ Below W.heap.size W W' := by
  refine (Tryz.strings_Fields_any x W (by omega) hG.1 hG.2.1).mono ?_
  rw [hf]
  rintro e W' ⟨A, rfl, hA, hown, hb⟩
  exact ⟨A, rfl, Words.of_owns hown, hb⟩

set_option maxRecDepth 100000 in
set_option maxHeartbeats 1000000 in
theorem each_in (s : ByteArray) (hok : okText s = true) (w : World) (I : List (Nat × Nat) → World → Prop) (hI : ∀ B, w.heap.size ≤ B → Abid B I) (hG : ∀ pre W, I pre W → Glob W)
    (gd : Nat) (lb : Array Value) (eg : ∀ args w, (callFunc gd args).run Tryz.prog w = .ok (.enter gd args) w)
    (hdo : ∀ (pre : List (Nat × Nat)) (a r : Nat) W, I pre W → pre ++ [(a, r)] <+: textCodes s → Calls Tryz.prog gd (#[.int .i64 a, .int .i32 r] ++ lb) W fun e W' => e = .returned (.tuple #[]) ∧ I (pre ++ [(a, r)]) W' ∧ Fr W W')
    (h0 : I [] w) :
    Calls Tryz.prog 25 #[.string s, .func (.func gd) #[] lb] w fun e W' => e = .returned (.tuple #[]) ∧ I (textCodes s) W' ∧ Fr w W' := by
  refine (callsIn_wide (n := 3)).1 ?_
  refine callsIn_of_wp_marks Tryz.func25 rfl trivial ?_ rfl
  simp only [Tryz.ntmps25, List.size_toArray, List.length_cons, List.length_nil, Nat.reduceAdd, Nat.reduceSub, Array.replicate_succ, Array.replicate_zero, List.push_toArray, List.append_toArray, List.nil_append, List.cons_append]
  gi_wp2_with (refine ⟨trivial, ?_⟩; gi_at_call 39; refine (callsIn_wide.2 (splitSeq_any _ _)).mono ?_; rintro e w' ⟨rfl, rfl⟩)
  have hb0 : Boxed ((((w.alloc (.cells #[.func (.func gd) #[] lb] 39)).alloc (.cells #[.string s] 9)).alloc (.cells #[.string ⟨#[10]⟩] 9)).alloc (.cells #[.int .i64 0] 3)) w.heap.size 39 (.func (.func gd) #[] lb) :=
    (((Boxed.new w _ _).alloc _).alloc _).alloc _
  have hb1 : Boxed ((((w.alloc (.cells #[.func (.func gd) #[] lb] 39)).alloc (.cells #[.string s] 9)).alloc (.cells #[.string ⟨#[10]⟩] 9)).alloc (.cells #[.int .i64 0] 3)) (w.heap.size + 1) 9 (.string s) := by
    have := (((Boxed.new (w.alloc (.cells #[.func (.func gd) #[] lb] 39)) 9 (.string s)).alloc (.cells #[.string ⟨#[10]⟩] 9)).alloc (.cells #[.int .i64 0] 3))
    rwa [World.size_alloc] at this
  have hb2 : Boxed ((((w.alloc (.cells #[.func (.func gd) #[] lb] 39)).alloc (.cells #[.string s] 9)).alloc (.cells #[.string ⟨#[10]⟩] 9)).alloc (.cells #[.int .i64 0] 3)) (w.heap.size + 1 + 1) 9 (.string ⟨#[10]⟩) := by
    have := ((Boxed.new ((w.alloc (.cells #[.func (.func gd) #[] lb] 39)).alloc (.cells #[.string s] 9)) 9 (.string ⟨#[10]⟩)).alloc (.cells #[.int .i64 0] 3))
    rwa [World.size_alloc, World.size_alloc] at this
  have hb3 : Boxed ((((w.alloc (.cells #[.func (.func gd) #[] lb] 39)).alloc (.cells #[.string s] 9)).alloc (.cells #[.string ⟨#[10]⟩] 9)).alloc (.cells #[.int .i64 0] 3)) (w.heap.size + 1 + 1 + 1) 3 (.int .i64 0) := by
    have := Boxed.new (((w.alloc (.cells #[.func (.func gd) #[] lb] 39)).alloc (.cells #[.string s] 9)).alloc (.cells #[.string ⟨#[10]⟩] 9)) 3 (.int .i64 0)
    rwa [World.size_alloc, World.size_alloc, World.size_alloc] at this
  have hI0 : I [] ((((w.alloc (.cells #[.func (.func gd) #[] lb] 39)).alloc (.cells #[.string s] 9)).alloc (.cells #[.string ⟨#[10]⟩] 9)).alloc (.cells #[.int .i64 0] 3)) :=
    (hI _ (Nat.le_refl _)).alloc _ ((hI _ (Nat.le_refl _)).alloc _ ((hI _ (Nat.le_refl _)).alloc _ ((hI _ (Nat.le_refl _)).alloc _ h0)))
  have hF0 : Fr w ((((w.alloc (.cells #[.func (.func gd) #[] lb] 39)).alloc (.cells #[.string s] 9)).alloc (.cells #[.string ⟨#[10]⟩] 9)).alloc (.cells #[.int .i64 0] 3)) :=
    (((Fr.alloc w _).trans (Fr.alloc _ _)).trans (Fr.alloc _ _)).trans (Fr.alloc _ _)
  have hz0 : w.heap.size ≤ ((((w.alloc (.cells #[.func (.func gd) #[] lb] 39)).alloc (.cells #[.string s] 9)).alloc (.cells #[.string ⟨#[10]⟩] 9)).alloc (.cells #[.int .i64 0] 3)).heap.size := hF0.size
  generalize ((((w.alloc (.cells #[.func (.func gd) #[] lb] 39)).alloc (.cells #[.string s] 9)).alloc (.cells #[.string ⟨#[10]⟩] 9)).alloc (.cells #[.int .i64 0] 3)) = w0 at hb0 hb1 hb2 hb3 hI0 hF0 hz0 ⊢
  have hsz : s.size ≤ 100000 := by
    unfold okText at hok; simp at hok; exact hok.1
  refine rangeFunc_pass (F := Fence.wide) (n := 3) rfl (by omega) (gf := 84) (lb := #[.pointer (some ⟨w.heap.size + 1 + 1, 0, none⟩), .pointer (some ⟨w.heap.size + 1, 0, none⟩), .pointer (some ⟨w.heap.size + 1 + 1 + 1, 0, none⟩)]) rfl trivial (enters_of Tryz.func84 (by kernel_rfl) rfl)
    (encs := fun x : ByteArray => #[Value.string x]) (piecesS 10 s) (B := w.heap.size)
    (fun l J W hW hJ hY hj0 => splitSeq1_in 2 (by omega) l (w.heap.size + 1) (w.heap.size + 1 + 1) (w.heap.size + 1 + 1 + 1) s w.heap.size (by omega) J hJ (by omega) hY W
      ((hW.block _ hb1.lt).trans hb1) ((hW.block _ hb2.lt).trans hb2) ((hW.block _ hb3.lt).trans hb3) (by omega) hj0)
    (fun _ => rfl) hz0
    (fun pre W => I (pre.flatMap fun x => lineCodes x.data.toList) W ∧ Boxed W w.heap.size 39 (.func (.func gd) #[] lb) ∧ Fr w W)
    ?hI ⟨hI0, hb0, hF0⟩
    (fun x => { tmps := #[.string s, .func (.func gd) #[] lb, undef, .pointer (some ⟨w.heap.size, 0, none⟩), .string x, undef, undef, undef, undef, undef, undef, undef, .string s, .func (.func 84) #[] #[.pointer (some ⟨w.heap.size + 1 + 1, 0, none⟩), .pointer (some ⟨w.heap.size + 1, 0, none⟩), .pointer (some ⟨w.heap.size + 1 + 1 + 1, 0, none⟩)], .string x, undef, undef, undef, undef, undef, undef, undef, undef, undef, undef, undef, undef, undef, undef, undef, undef, undef, undef, undef, undef, undef, undef, undef, undef, undef, undef, undef, undef, undef, undef, undef], defers := [] }) ?assign ?body ?done
  case hI =>
    have h1 := hI w.heap.size (Nat.le_refl _)
    refine Abid.and (fun s W W' row hs hg hr => h1 _ W W' row hs hg hr) (Abid.and (Abid.boxed (by decide)) (Abid.fr (Nat.le_refl _)))
  case assign =>
    intro l x W K hK
    gi_wp2
    exact hK
  case body =>
    rintro l pre x W ⟨hi, hbx, hfr⟩ hpre
    have hokx : okLine x.data.toList = true := by
      have hm : x ∈ piecesS 10 s := hpre.subset (by simp)
      unfold okText at hok
      simp only [Bool.and_eq_true, List.all_eq_true] at hok
      exact hok.2 x hm
    have hGW := hG _ W hi
    unfold okLine at hokx
    obtain ⟨h, tl, hf⟩ : ∃ h tl, Lib.fieldsD x.data.toList = h :: tl := by
      cases hf : Lib.fieldsD x.data.toList with
      | nil => rw [hf] at hokx; simp at hokx
      | cons h tl => exact ⟨h, tl, rfl⟩
    have hlc : lineCodes x.data.toList = wordCodes (hexN 0 h) tl := by unfold lineCodes; rw [hf]; rfl
    rw [hf] at hokx
    simp only [Bool.and_eq_true, decide_eq_true_eq, List.headD_cons, List.tail_cons, List.length_cons, List.all_eq_true] at hokx
    obtain ⟨⟨⟨⟨ho1, ho2⟩, ho3⟩, ho4⟩, ho5, ho6, ho7⟩ := hokx
    have ho1 : h.length ≤ 3 := of_decide_eq_true ho1
    have hcon := fields_any x h tl hf (by rw [Lib.size_eq]; omega) W hGW
    have hh0 : (str h).size ≠ 0 := by simpa [str, ByteArray.size] using ho2
    have hp := fun W => parseHex_pub (str h) hh0 (by simpa [str, ByteArray.size] using (show h.length ≤ 7 by omega)) (by simpa [str] using ho3) W
    have ha0 : hexN 0 h < 4096 := by
      have h1 := hexN_lt h 0 0 (by simpa using ho3) (by omega)
      have : 16 ^ (0 + h.length) ≤ 16 ^ 3 := Nat.pow_le_pow_right (by omega) (by omega)
      omega
    have hsh : hexN 0 (str h).data.toList = hexN 0 h := by simp [str]
    rw [hsh] at hp
    obtain ⟨a0, ha⟩ : ∃ a0, hexN 0 h = a0 := ⟨_, rfl⟩
    rw [ha] at hp ha0 hlc
    obtain ⟨m, hm⟩ : ∃ m, tl.length = m := ⟨_, rfl⟩
    rw [hm] at hcon ho5 ho6
    have HM := Lib.hid hm
    clear hf hsh ha hm ho1 ho2 ho3 ho7 hh0 hGW
    gi_wp2_with (refine ⟨trivial, ?_⟩; gi_at_call 40; refine (CallsIn.inRound l (callsIn_wide.2 hcon)).mono ?_; rintro e W1 ⟨A, rfl, hw1, hbel⟩; have c0 := hw1.cell 0 (by simp); simp only [List.getElem_cons_zero] at c0)
    refine ⟨trivial, ?_⟩
    refine (CallsIn.inRound l (callsIn_wide.2 (hp _))).mono ?_
    rintro e W2 ⟨rfl, hbel2⟩
    have hbW : Below W.heap.size W W2 := hbel.trans (hbel2.mono hbel.size)
    have hF2 : Fr W W2 := Fr.below hbW
    have hw2 := hw1.fr (Fr.below hbel2)
    have hbx2 := hF2.boxed (by decide) hbx
    have hi2 := hI _ (Nat.le_refl _) _ W W2 none hi ⟨hbW.os, hbW.tape, hbW.output, hbW.size, fun k hk _ => hbW.block k hk⟩ (by simp)
    clear c0 hw1 hcon hbel hbel2 hbW
    gi_wp2
    gi_loopw [27] (fun i wr => ∃ k : Nat, k ≤ m ∧ i = .int .i64 k ∧ I (pre.flatMap (fun x => lineCodes x.data.toList) ++ wordCodes a0 (tl.take k)) wr ∧ Words wr A (h :: tl) ∧ Boxed wr w.heap.size 39 (.func (.func gd) #[] lb) ∧ Fr W wr)
      (fun i _ => m - (intOf i).toNat)
    case atStart => exact ⟨0, by omega, rfl, by simpa [wordCodes] using hi2, hw2, hbx2, hF2⟩
    case round =>
      have HFR := Lib.hid hfr
      clear hi2 hw2 hbx2 hF2 hi hbx hfr
      obtain ⟨k, hk, rfl, hik, hwk, hbk, hfk⟩ := hrel
      by_cases hlt : k < m
      · have hlt' : k < tl.length := by rw [HM.out]; exact hlt
        have hGk := hG _ wr hik
        have c1 := hwk.cell (1 + k) (by simp; omega)
        have e1 : (h :: tl)[1 + k]'(by simp; omega) = tl[k] := by simp [Nat.add_comm 1 k]
        rw [e1] at c1
        have hcon := word_any tl[k] (ho4 _ (List.getElem_mem _)) wr hGk
        have hstep := wordCodes_take tl a0 k hlt'
        have hpk : pre.flatMap (fun x => lineCodes x.data.toList) ++ wordCodes a0 (tl.take (k + 1)) <+: textCodes s := flat_prefix _ hpre (by rw [hlc]; exact wordCodes_prefix _ _ _ (by omega))
        generalize hx : tl[k] = y at c1 hcon hstep
        clear e1 hx hGk
        cases hv : wordV y with
        | none =>
          rw [hv] at hcon hstep
          simp only [List.append_nil] at hstep
          have HS := Lib.hid hstep
          clear hstep hpk hv
          gi_wp2_with (refine ⟨trivial, ?_⟩; gi_at_call 42; refine (CallsIn.inRound l (callsIn_wide.2 hcon)).mono ?_; rintro e W3 ⟨rfl, hb3⟩)
          have hF3 := Fr.below hb3
          have hi3 := hI _ (Nat.le_refl _) _ wr W3 none hik ⟨hb3.os, hb3.tape, hb3.output, hb3.size, fun k hk _ => hb3.block k hk⟩ (by simp)
          go_roundw
          case rel => exact ⟨k + 1, by omega, by go_num, by rw [HS.out]; exact hi3, hwk.fr hF3, hF3.boxed (by decide) hbk, hfk.trans hF3⟩
          case measure => simp [intOf]; omega
        | some r =>
          rw [hv] at hcon hstep
          simp only [Option.getD_some, Option.isSome_some] at hcon
          have HS := Lib.hid hstep
          rw [hstep, ← List.append_assoc] at hpk
          clear hstep hv
          have hd := fun W hi => hdo _ _ _ W hi hpk
          gi_wp2_with fail
          refine ⟨trivial, ?_⟩
          refine (CallsIn.inRound l (callsIn_wide.2 hcon)).mono ?_
          rintro e W3 ⟨rfl, hb3⟩
          have hF3 := Fr.below hb3
          have hi3 := hI _ (Nat.le_refl _) _ wr W3 none hik ⟨hb3.os, hb3.tape, hb3.output, hb3.size, fun k hk _ => hb3.block k hk⟩ (by simp)
          have hbk3 := hF3.boxed (by decide) hbk
          have hwk3 := hwk.fr hF3
          have cb := hbk3.cell
          have hd3 := hd W3 hi3
          clear c1 hcon hik hwk hbk hb3 hi3 hd hpk
          rw [show (((a0 + k : Nat)) : Int) = (a0 : Int) + (k : Int) from by omega] at hd3
          gi_wp2_with fail
          refine ⟨trivial, ?_⟩
          refine (CallsIn.inRound l (callsIn_wide.2 hd3)).mono ?_
          rintro e W4 ⟨rfl, hi4, hF4⟩
          have hbk4 := hF4.boxed (by decide) hbk3
          have hwk4 := hwk3.fr hF4
          clear cb hd3 hbk3 hwk3
          gi_wp2
          go_roundw
          case rel => exact ⟨k + 1, by omega, by go_num, by rw [HS.out, ← List.append_assoc]; exact hi4, hwk4, hbk4, hfk.trans (hF3.trans hF4)⟩
          case measure => simp [intOf]; omega
      · obtain rfl : k = m := by omega
        have hik' : I (pre.flatMap (fun x => lineCodes x.data.toList) ++ wordCodes a0 tl) wr := by
          rwa [List.take_of_length_le (by rw [HM.out]; omega)] at hik
        clear hik
        gi_wp2
        exact ⟨hik', HFR.out.trans hfk⟩
  case done =>
    rintro D W hD ⟨hi, hbx, hfr⟩ hK
    gi_wp2
    refine ⟨by simp, .inl ⟨_, _, rfl, run_takeDeferred hK, ?_⟩⟩
    refine ⟨_, results_none rfl _ _ _, rfl, ?_, ?_⟩
    · exact (hI _ (Nat.le_refl _)).putObj _ hi (by omega) hK rfl
    · exact Abid.putObj (I := fun (_ : Unit) X => Fr w X) (s := ()) (Abid.fr (Nat.le_refl _)) _ hfr (by omega) hK rfl
end Go.Proofs.YtgmiampijdnebaaGreatDoor
