/-
  The law GlyphKnown returns true. Its condition: the tables that the library reads.
-/
import Derived.Test.YtgmiampijdnebaaGreatDoorG2
import Derived.BigQuiet
import Derived.Lib.AtoiErrMem
namespace Go.Proofs.YtgmiampijdnebaaGreatDoor
open Go.RowKit Go.Shelf

theorem length_le_of_nodup {α : Type} [DecidableEq α] : ∀ (D K : List α), D.Nodup → (∀ x ∈ D, x ∈ K) → D.length ≤ K.length
  | [], _, _, _ => Nat.zero_le _
  | x :: D, K, h, hs => by
    rw [List.nodup_cons] at h
    have hx := hs x (by simp)
    have := length_le_of_nodup D (K.erase x) h.2 (fun y hy => (List.mem_erase_of_ne (fun e : y = x => h.1 (e ▸ hy))).2 (hs y (by simp [hy])))
    rw [List.length_erase_of_mem hx] at this
    have := List.length_pos_of_mem hx
    simp only [List.length_cons]
    omega

/-- How many characters are met, each once: a number's bits tell which were met. -/
def meet : List Nat → Nat → Nat → Nat
  | [], _, c => c
  | r :: l, acc, c =>
    match (if acc.testBit r then acc else acc ||| (1 <<< r)) with
    | 0 => 0
    | a + 1 =>
      match (if acc.testBit r then c else c + 1) with
      | 0 => 0
      | d + 1 => meet l (a + 1) (d + 1)
theorem meet_ok : ∀ (l : List Nat) (acc c : Nat) (S : List Nat), S.Nodup → (∀ r ∈ S, acc.testBit r = true) → c ≤ S.length + 1 →
    ∃ S' : List Nat, S'.Nodup ∧ (∀ r ∈ S', r ∈ S ∨ r ∈ l) ∧ meet l acc c ≤ S'.length + 1
  | [], _, _, S, h, _, hc => ⟨S, h, fun r hr => .inl hr, hc⟩
  | x :: l, acc, c, S, h, hb, hc => by
    unfold meet
    split
    · exact ⟨S, h, fun r hr => .inl hr, Nat.zero_le _⟩
    · rename_i a ha
      split
      · exact ⟨S, h, fun r hr => .inl hr, Nat.zero_le _⟩
      · rename_i d hd
        by_cases hx : acc.testBit x = true
        · rw [if_pos hx] at ha hd
          obtain ⟨S', h1, h2, h3⟩ := meet_ok l (a + 1) (d + 1) S h (by rw [show a + 1 = acc from ha.symm]; exact hb) (by omega)
          exact ⟨S', h1, fun r hr => (h2 r hr).imp id (fun h => by simp [h]), h3⟩
        · rw [if_neg hx] at ha hd
          have hxn : x ∉ S := fun hm => hx (hb x hm)
          obtain ⟨S', h1, h2, h3⟩ := meet_ok l (a + 1) (d + 1) (x :: S) (by simp [hxn, h]) (fun r hr => by
            rw [show a + 1 = acc ||| 1 <<< x from ha.symm, Nat.testBit_or, Nat.one_shiftLeft, Nat.testBit_two_pow, Bool.or_eq_true, decide_eq_true_eq]
            rcases List.mem_cons.1 hr with rfl | hr
            · exact .inr rfl
            · exact .inl (hb r hr)) (by simp; omega)
          refine ⟨S', h1, fun r hr => ?_, h3⟩
          rcases h2 r hr with h | h
          · rcases List.mem_cons.1 h with rfl | h
            · exact .inr (by simp)
            · exact .inl h
          · exact .inr (by simp [h])
theorem meet_long : 702 < meet (glyphG.map (·.2)) 1 1 := by decide +kernel
theorem once_ok : ∃ S : List Nat, S.Nodup ∧ (∀ r ∈ S, codesOf glyphG r ≠ []) ∧ 700 < S.length := by
  obtain ⟨S, h1, h2, h3⟩ := meet_ok (glyphG.map (·.2)) 1 1 [] (by simp) (by simp) (by simp)
  have := meet_long
  refine ⟨S, h1, fun r hr => ?_, by omega⟩
  have hm : r ∈ glyphG.map (·.2) := by simpa using h2 r hr
  obtain ⟨x, hx, rfl⟩ := List.mem_map.1 hm
  have : x ∈ glyphG.filter (fun y => y.2 == x.2) := List.mem_filter.2 ⟨hx, by simp⟩
  intro e
  unfold codesOf at e
  rw [List.map_eq_nil_iff.1 e] at this
  cases this
theorem KnownL.long {K : List Int} (h : KnownL K) : 700 < K.length := by
  obtain ⟨S, h1, h2, h3⟩ := once_ok
  refine Nat.lt_of_lt_of_le h3 ?_
  have := length_le_of_nodup (S.map fun r : Nat => (r : Int)) K
    (List.Pairwise.map _ (fun a b h e => h (by omega)) h1)
    (fun x hx => by
      obtain ⟨r, hr, rfl⟩ := List.mem_map.1 hx
      exact (h.2 _).2 ⟨r, rfl, h2 r hr⟩)
  simpa using this

theorem mem_of_codesOf {G : List (Code × Nat)} {r : Nat} (h : codesOf G r ≠ []) : ∃ x ∈ G, x.2 = r := by
  obtain ⟨c, hc⟩ := List.exists_mem_of_ne_nil _ h
  unfold codesOf at hc
  obtain ⟨x, hx, _⟩ := List.mem_map.1 hc
  obtain ⟨h1, h2⟩ := List.mem_filter.1 hx
  exact ⟨x, h1, by simpa using h2⟩
theorem KnownL.short {K : List Int} (h : KnownL K) : K.length < 100000 := by
  have := length_le_of_nodup K (glyphG.map fun x => (x.2 : Int)) (h.1.imp fun hlt e => by omega) (fun x hx => by
    obtain ⟨r, rfl, hr⟩ := (h.2 x).1 hx
    obtain ⟨y, hy, e⟩ := mem_of_codesOf hr
    exact List.mem_map.2 ⟨y, hy, by rw [e]⟩)
  have := glyphG_length
  simp only [List.length_map] at *
  omega
theorem KnownL.mem {K : List Int} (h : KnownL K) (r : Int) : r ∈ K ↔ 0 < (codesG r).length := by
  rw [h.2 r]
  simp only [codesG, sortedC, List.length_mergeSort]
  unfold codesZ
  constructor
  · rintro ⟨m, rfl, hm⟩
    rw [if_pos (by omega), Int.toNat_natCast]
    exact List.length_pos_iff.2 hm
  · intro h
    split at h
    · exact ⟨r.toNat, by omega, List.length_pos_iff.1 h⟩
    · simp at h

/-- The row at block g holds the characters K. -/
def RowAt (W : World) (g : Nat) (K : List Int) : Prop := ∀ (i : Nat) (h : i < K.length), W.cell? ⟨g, i, none⟩ = some (.int .i32 K[i])

set_option maxRecDepth 100000 in
set_option maxHeartbeats 2000000 in
theorem lawKnown_any (w : World) (hGl : Glob w) (r : Int) (h0 : -2147483648 ≤ r) (hr : r ≤ 2147483647) :
    Calls Tryz.prog 3 #[.int .i32 r] w fun e W' => e = .returned (.bool true) ∧ Below w.heap.size w W' := by
  have hk := glyphKnown_any w hGl
  have ha := fun W hW => answers_any W (Glob.below (w' := W) hGl hW)
  have hc := fun W hW => glyphCodes_any W (Glob.below (w' := W) hGl hW) r h0 hr
  clear hGl
  go_enter Tryz.func3, Tryz.ntmps3
  go_wp2_with fail
  refine hk.mono ?_
  rintro e W1 ⟨v, K, rfl, hK, ⟨g, cap, rfl, hcs⟩, hb1⟩
  clear hk
  go_wp2_with fail
  refine (ha W1 hb1).mono ?_
  rintro e W2 ⟨rfl, hb2⟩
  have hg : 0 < K.length := by have := KnownL.long hK; omega
  have hg1 : g < W1.heap.size := block_lt_of_cell (hcs 0 hg)
  have hcs2 : ∀ (i : Nat) (h : i < K.length), W2.cell? ⟨g, i, none⟩ = some (.int .i32 K[i]) := fun i h => (hb2.cell (p := ⟨g, i, none⟩) hg1).trans (hcs i h)
  have HB := Lib.hid (hb1.trans (hb2.mono hb1.size))
  clear ha hcs hb1 hb2 hg1
  have HK := Lib.hid hK
  obtain ⟨n, hn⟩ : ∃ n, K.length = n := ⟨_, rfl⟩
  have HN := Lib.hid hn
  rw [hn]
  have hn63 : n < 100000 := by rw [← hn]; exact KnownL.short hK
  have hn700 : 700 < n := by rw [← hn]; exact KnownL.long hK
  clear hK hg hn
  go_wp2_with fail
  go_loopw [4, 5] (fun b i wr => ∃ (k : Nat) (bb : Bool), k ≤ n ∧ i = .int .i64 k ∧ b = .bool bb ∧ Hid (bb = decide (r ∈ K.take k)) ∧ RowAt wr g K ∧ Below w.heap.size w wr)
    (fun _ i _ => n - (intOf i).toNat)
  case atStart => exact ⟨0, false, by omega, rfl, rfl, Lib.hid (by simp), hcs2, HB.out⟩
  case round =>
    obtain ⟨k, bb, hk, rfl, rfl, hbb, hrow, hbl⟩ := hrel
    clear hcs2
    by_cases hlt : k < n
    · have hkL : k < K.length := by rw [HN.out]; exact hlt
      have ck := hrow k hkL
      have HM : Hid ((r ∈ K.take (k + 1)) ↔ (r ∈ K.take k ∨ K[k] = r)) := Lib.hid (by
        rw [List.take_succ_eq_append_getElem hkL]; simp only [List.mem_append, List.mem_singleton]; exact or_congr Iff.rfl eq_comm)
      have hblq : ∀ q, Below w.heap.size w (wr.drewN q) := fun q => ⟨hbl.os, hbl.tape, hbl.output, hbl.size, hbl.block⟩
      have HR := Lib.hid hrow
      have HQ := Lib.hid hblq
      clear hblq
      by_cases hk0 : k = 0
      · have hz : decide (0 < k) = false := decide_eq_false (by omega)
        have HZ := Lib.hid hk0
        clear hk0
        generalize K[k] = a at ck HM
        clear hrow
        go_wp2_with fail
        go_big_quiet (fail)
        go_wp2_with fail
        all_goals
          go_roundw
          case rel =>
            refine ⟨k + 1, _, by omega, by go_num, rfl, Lib.hid ?_, HR.out, HQ.out _⟩
            first
              | (have hb1 : bb = true := by assumption
                 have h1 : r ∈ K.take k := by simpa [hb1] using hbb.out.symm
                 exact (decide_eq_true (HM.out.2 (.inl h1))).symm)
              | (have hb1 : bb = false := by assumption
                 have h1 : r ∉ K.take k := by simpa [hb1] using hbb.out.symm
                 rw [Bool.eq_iff_iff]; simp [HM.out, h1])
          case measure => simp [intOf]; omega
      · have hk1 : k - 1 < K.length := by omega
        have cp := hrow (k - 1) hk1
        have hz : decide (0 < k) = true := decide_eq_true (by omega)
        have hup : K[k - 1] < K[k] := List.pairwise_iff_getElem.1 HK.out.1 (k - 1) k hk1 hkL (by omega)
        generalize K[k - 1] = p at cp hup
        generalize K[k] = a at ck hup HM
        clear hrow
        go_wp2_with fail
        go_big_quiet (fail)
        go_wp2_with fail
        all_goals
          go_roundw
          case rel =>
            refine ⟨k + 1, _, by omega, by go_num, rfl, Lib.hid ?_, HR.out, HQ.out _⟩
            first
              | (have hb1 : bb = true := by assumption
                 have h1 : r ∈ K.take k := by simpa [hb1] using hbb.out.symm
                 exact (decide_eq_true (HM.out.2 (.inl h1))).symm)
              | (have hb1 : bb = false := by assumption
                 have h1 : r ∉ K.take k := by simpa [hb1] using hbb.out.symm
                 rw [Bool.eq_iff_iff]; simp [HM.out, h1])
          case measure => simp [intOf]; omega
    · have hbK : bb = decide (0 < (codesG r).length) := by
        have e := hbb.out
        rw [List.take_of_length_le (by rw [HN.out]; omega)] at e
        rw [e]
        exact decide_eq_decide.2 (KnownL.mem HK.out r)
      have hcW := hc wr hbl
      clear hc hbb hrow
      obtain rfl := hbK
      go_wp2_with fail
      refine hcW.mono ?_
      rintro e W3 ⟨v, rfl, hS, hb3⟩
      obtain ⟨p, cap3, rfl⟩ : ∃ p cap, v = .slice p (codesG r).length cap := by
        rcases hS with ⟨rfl, h0⟩ | ⟨b, cap, rfl, _⟩
        · rw [h0]; exact ⟨_, _, rfl⟩
        · exact ⟨_, _, rfl⟩
      have HB3 := Lib.hid (hbl.trans (hb3.mono hbl.size))
      have hlen := codesG_length r
      clear hS hb3 hcW hbl
      generalize (codesG r).length = m at *
      go_wp2_with fail
      all_goals
        rw [show decide (700 < (n : Int)) = true from decide_eq_true (by omega)]
        go_ret
        exact ⟨rfl, HB3.out⟩
end Go.Proofs.YtgmiampijdnebaaGreatDoor
