/-
  glyph.New. Its conditions: the tables that the library reads.
-/
import Derived.Test.YtgmiampijdnebaaGreatDoorB9
import Derived.Test.YtgmiampijdnebaaGreatDoorC2
import Derived.Test.YtgmiampijdnebaaGreatDoorC4
import Derived.Carry
namespace Go.Proofs.YtgmiampijdnebaaGreatDoor
open Go.RowKit Go.Shelf

/-- The box of the index. -/
abbrev XBox (E : Env) (bx : Nat) (W : World) : Prop := Boxed W bx 33 (.pointer (some ⟨E.bs, 0, none⟩))
/-- The world at the start of the index. -/
def startW (w : World) : World := (((w.alloc (.map #[] 0)).alloc (.map #[] 0)).alloc (.cells #[.map (some w.heap.size), .map (some (w.heap.size + 1))] 38)).alloc
  (.cells #[.pointer (some ⟨w.heap.size + 1 + 1, 0, none⟩)] 33)
def startE (w : World) : Env := ⟨w, w.heap.size + 1 + 1, w.heap.size, w.heap.size + 1⟩

theorem start_state (w : World) : State (startE w) [] (startW w) ∧ XBox (startE w) (w.heap.size + 1 + 1 + 1) (startW w) ∧ Fr w (startW w) := by
  have b1 := (Below.refl w.heap.size w).alloc (Nat.le_refl _) (.map #[] 0)
  have b2 := b1.alloc (by simp) (.map #[] 0)
  have b3 := b2.alloc (by simp; omega) (.cells #[.map (some w.heap.size), .map (some (w.heap.size + 1))] 38)
  have b4 := b3.alloc (by simp; omega) (.cells #[.pointer (some ⟨w.heap.size + 1 + 1, 0, none⟩)] 33)
  refine ⟨⟨b4, by simp [startE]; omega, by simp [startE], by simp [startE], by simp [startE], ?_, ?_, ?_⟩, ?_, Fr.below b4⟩
  · refine (Below.heap_alloc _ _ _ (by simp [startE])).trans ?_
    have := World.alloc_heap_new ((w.alloc (.map #[] 0)).alloc (.map #[] 0)) (.cells #[.map (some w.heap.size), .map (some (w.heap.size + 1))] 38)
    simp only [World.size_alloc] at this
    exact this
  · have h := CMap.made w w.heap.size
    refine CMap.abid.alloc (B := 0) _ (CMap.abid.alloc (B := 0) _ (CMap.abid.alloc (B := 0) _ h))
  · have h := RMap.made (w.alloc (.map #[] 0))
    have h2 := h.kept (World.grownBy_alloc (((w.alloc (.map #[] 0)).alloc (.map #[] 0))) (.cells #[.map (some w.heap.size), .map (some (w.heap.size + 1))] 38) none) (by simp)
    have h3 := h2.kept (World.grownBy_alloc _ (.cells #[.pointer (some ⟨w.heap.size + 1 + 1, 0, none⟩)] 33) none) (by simp)
    simp only [World.size_alloc] at h3
    exact h3
  · have := World.alloc_heap_new (((w.alloc (.map #[] 0)).alloc (.map #[] 0)).alloc (.cells #[.map (some w.heap.size), .map (some (w.heap.size + 1))] 38))
      (.cells #[.pointer (some ⟨w.heap.size + 1 + 1, 0, none⟩)] 33)
    simp only [World.size_alloc] at this
    exact this

theorem XBox.fr {E : Env} {bx : Nat} {W W' : World} (h : XBox E bx W) (hf : Fr W W') : XBox E bx W' := hf.boxed (by decide) h

theorem in_state (E : Env) (G : List (Code × Nat)) (set bx : Nat) (W : World) (h : State E G W) (hx : XBox E bx W) :
    Calls Tryz.prog 12 #[.int .i64 set, .pointer (some ⟨bx, 0, none⟩)] W fun e W' => ∃ bset, e = .returned (.func (.func 13) #[] #[.pointer (some ⟨bx, 0, none⟩), .pointer (some ⟨bset, 0, none⟩)]) ∧
      State E G W' ∧ Boxes E bx bset set W' ∧ Fr W W' := by
  refine (in_any set bx W).mono ?_
  rintro e w' ⟨rfl, rfl⟩
  exact ⟨_, rfl, (State.abid E h.bel.size).alloc _ h, ⟨hx.fr (Fr.alloc _ _), World.alloc_heap_new W _⟩, Fr.alloc _ _⟩

/-- The scripts' glyphs, below a set. -/
def scriptsTo (k : Nat) : List (Code × Nat) := (List.range (k - 3)).flatMap fun j => tag (3 + j) (scriptL (3 + j))
theorem scriptsTo_succ (k : Nat) (h : 3 ≤ k) : scriptsTo (k + 1) = scriptsTo k ++ tag k (scriptL k) := by
  unfold scriptsTo
  rw [show k + 1 - 3 = (k - 3) + 1 by omega, List.range_succ, List.flatMap_append]
  simp [show 3 + (k - 3) = k by omega]
theorem scriptsTo_length (k : Nat) : (scriptsTo k).length ≤ 1000 * (k - 3) := by
  unfold scriptsTo
  generalize k - 3 = k
  induction k with
  | zero => simp
  | succ k ih =>
    rw [List.range_succ, List.flatMap_append, List.length_append, List.flatMap_singleton]
    have := scriptL_length (3 + k)
    simp [tag] at *
    omega
/-- The sets without lines, one behind the other. -/
def plainNo (i : Nat) : Nat := if i = 0 then 1 else if i = 1 then 10 else if i = 2 then 11 else 12
theorem plainNo_ok (i : Nat) : plainSet (plainNo i) := by
  unfold plainSet plainNo
  repeat' split
  all_goals simp
def plainsTo (j : Nat) : List (Code × Nat) := (List.range j).flatMap fun i => plainTo (plainNo i) 127
theorem plainsTo_succ (j : Nat) : plainsTo (j + 1) = plainsTo j ++ plainTo (plainNo j) 127 := by
  unfold plainsTo
  rw [List.range_succ, List.flatMap_append, List.flatMap_singleton]
theorem plainsTo_length (j : Nat) : (plainsTo j).length ≤ 94 * j := by
  induction j with
  | zero => simp [plainsTo]
  | succ j ih =>
    rw [plainsTo_succ, List.length_append]
    have := plainTo_length (plainNo j) 127
    omega
/-- All glyphs. -/
def glyphG : List (Code × Nat) := tag 2 anselL ++ tag 9 eaccL ++ scriptsTo 9 ++ plainsTo 4

set_option maxRecDepth 100000 in
theorem index_four (j : Nat) (hj : j < 4) (w : World) : (Instr.index 44 (.agg #[.int .i64 1, .int .i64 10, .int .i64 11, .int .i64 12]) (.int .i64 j)).run Tryz.prog w = .ok (.int .i64 (plainNo j)) w := by
  obtain rfl | rfl | rfl | rfl : j = 0 ∨ j = 1 ∨ j = 2 ∨ j = 3 := by omega
  all_goals simp [Instr.index, run_underlying Tryz.underlying44, asIntOf, go_sem, plainNo]

set_option maxRecDepth 100000 in
set_option maxHeartbeats 4000000 in
theorem new_any (w : World) (hGl : Glob w) :
    Calls Tryz.prog 9 #[] w fun e W' => 
      e = .returned (.pointer (some ⟨(startE w).bs, 0, none⟩)) ∧ State (startE w) glyphG W' ∧ Fr w W' := by
  have hmm := @run_makeMap Tryz.prog
  have hst := start_state w
  have hE : (startE w).w0 = w := rfl
  have hbs : (startE w).bs = w.heap.size + 1 + 1 := rfl
  generalize startE w = E at hst hE hbs ⊢
  obtain ⟨bx, hbx⟩ : ∃ b, b = w.heap.size + 1 + 1 + 1 := ⟨_, rfl⟩
  have HX := Lib.hid hbx
  rw [← hbx] at hst
  have hG1 : (tag 2 anselL).length < 1000 := by simp [tag]; decide
  have hG2 : (tag 9 eaccL).length < 1000 := by simp [tag, eaccL_length]
  have hansel := fun bset W => eachAnsel_any E [] bx bset (by simp) (hE ▸ hGl) W
  have heacc := fun bset W => eaccEach_any E (tag 2 anselL) bx bset (by omega) W
  have hscr := fun set hset bset W G hG => scriptsEach_any E G bx bset set hset hG (hE ▸ hGl) W
  unfold glyphG
  simp only [List.nil_append] at hansel
  have HL := Lib.hid (scriptsTo_length 9)
  obtain ⟨G3, hG3⟩ : ∃ G3, scriptsTo 9 = G3 := ⟨_, rfl⟩
  rw [hG3] at HL ⊢
  have HS9 := Lib.hid hG3
  clear hG3
  generalize tag 2 anselL = G1 at *
  generalize tag 9 eaccL = G2 at *
  clear hbx hE
  unfold startW at hst
  go_enter Tryz.func9, Tryz.ntmps9
  go_wp2_with fail
  rw [← HX.out]
  generalize (((w.alloc (.map #[] 0)).alloc (.map #[] 0)).alloc (.cells #[.map (some w.heap.size), .map (some (w.heap.size + 1))] 38)).alloc
    (.cells #[.pointer (some ⟨w.heap.size + 1 + 1, 0, none⟩)] 33) = W0 at hst ⊢
  obtain ⟨hs0, hx0, hf0⟩ := hst
  refine (in_state E _ 2 bx W0 hs0 hx0).mono ?_
  rintro e W1 ⟨bset, rfl, hs1, hx1, hf1⟩
  go_wp2_with fail
  refine (hansel bset W1 hs1 hx1).mono ?_
  rintro e W2 ⟨rfl, hs2, hx2, hf2⟩
  have hF2 := (hf0.trans hf1).trans hf2
  clear hs0 hx0 hf0 hs1 hx1 hf1 hf2 hansel
  go_wp2_with fail
  refine (in_state E _ 9 bx W2 hs2 hx2.1).mono ?_
  rintro e W3 ⟨bset3, rfl, hs3, hx3, hf3⟩
  go_wp2_with fail
  refine (heacc bset3 W3 hs3 hx3).mono ?_
  rintro e W4 ⟨rfl, hs4, hx4, hf4⟩
  have hF4 := (hF2.trans hf3).trans hf4
  have hX4 := hx4.1
  clear hs2 hx2 hs3 hx3 hf3 hf4 hx4 heacc hF2
  go_wp2_with fail
  go_loopw [3] (fun i wr => ∃ k : Nat, 3 ≤ k ∧ k ≤ 9 ∧ i = .int .i64 k ∧ State E (G1 ++ G2 ++ scriptsTo k) wr ∧ XBox E bx wr ∧ Fr w wr)
    (fun i _ => 9 - (intOf i).toNat)
  case atStart => exact ⟨3, by omega, by omega, rfl, by simpa [scriptsTo] using hs4, hX4, hF4⟩
  case round =>
    clear hs4 hX4 hF4
    obtain ⟨k, hk3, hk9, rfl, hst, hxb, hf⟩ := hrel
    by_cases hlt : k < 9
    · have hlen := scriptsTo_length k
      have hdo := fun bset W => hscr k ⟨hk3, by omega⟩ bset W (G1 ++ G2 ++ scriptsTo k) (by simp; omega)
      have HT := Lib.hid (scriptsTo_succ k hk3)
      clear hscr
      go_wp2_with fail
      refine (in_state E _ k bx wr hst hxb).mono ?_
      rintro e W5 ⟨bset5, rfl, hs5, hx5, hf5⟩
      go_wp2_with fail
      refine (hdo bset5 W5 hs5 hx5).mono ?_
      rintro e W6 ⟨rfl, hs6, hx6, hf6⟩
      have hX6 := hx6.1
      have hF6 := (hf.trans hf5).trans hf6
      clear hst hxb hdo hs5 hx5 hf5 hf6 hx6 hf hlen
      go_wp2_with fail
      go_roundw
      case rel => exact ⟨k + 1, by omega, by omega, by go_num, by rw [HT.out]; simpa using hs6, hX6, hF6⟩
      case measure => simp [intOf]; omega
    · have HK := Lib.hid (show k = 9 by omega)
      rw [show k = 9 by omega, HS9.out] at hst
      clear hscr
      obtain ⟨wo, rfl⟩ : ∃ wo : World, wo = wr := ⟨_, rfl⟩
      go_wp2_with fail
      go_loopw [30] (fun i wr => ∃ j : Nat, j ≤ 4 ∧ i = .int .i64 j ∧ State E (G1 ++ G2 ++ G3 ++ plainsTo j) wr ∧ XBox E bx wr ∧ Fr w wr)
        (fun i _ => 4 - (intOf i).toNat)
      case atStart => exact ⟨0, by omega, rfl, by simpa [plainsTo] using hst, hxb, hf⟩
      case round =>
        clear hst hxb hf
        obtain ⟨j, hj4, rfl, hst, hxb, hf⟩ := hrel
        by_cases hlt : j < 4
        · have hix := fun wr => index_four j hlt wr
          have hpo := plainNo_ok j
          have hlen := plainsTo_length j
          have HT := Lib.hid (plainsTo_succ j)
          generalize plainNo j = set at hix hpo HT
          have hrn := fun n h0 h1 W => glyphRune_any set n hpo h0 h1 W
          have hset : set < 1000 := by obtain rfl | rfl | rfl | rfl := hpo <;> omega
          have HLn := Lib.hid hlen
          clear hlen hpo hmm
          obtain ⟨wp, rfl⟩ : ∃ wp : World, wp = wr := ⟨_, rfl⟩
          go_wp2_with fail
          rw [show decide ((j : Int) < 4) = true from decide_eq_true (by omega)]
          go_loopw [6] (fun i wr => ∃ n : Nat, 33 ≤ n ∧ n ≤ 127 ∧ i = .int .i64 n ∧ State E (G1 ++ G2 ++ G3 ++ plainsTo j ++ plainTo set n) wr ∧ XBox E bx wr ∧ Fr w wr)
            (fun i _ => 127 - (intOf i).toNat)
          case atStart => exact ⟨33, by omega, by omega, rfl, by simpa [plainTo] using hst, hxb, hf⟩
          case round =>
            clear hst hxb hf
            obtain ⟨n, hn33, hn127, rfl, hst, hxb, hf⟩ := hrel
            by_cases hlt : n < 127
            · have hrune := fun W => hrn n hn33 (by omega) W
              have hpl := plainTo_length set n
              have hpv := plainV_le set n (by omega)
              have HP := Lib.hid (plainTo_succ set n hn33)
              rw [plainAt] at HP
              have hlen : (G1 ++ G2 ++ G3 ++ plainsTo j ++ plainTo set n).length < 100000 := by
                have := HL.out
                have := HLn.out
                simp only [List.length_append]
                omega
              clear hrn hpl
              generalize plainV set n = pv at hrune hpv HP
              go_wp2_with fail
              refine (hrune _).mono ?_
              rintro e W7 ⟨rfl, rfl⟩
              have hst7 := (State.abid E hst.bel.size).alloc (.cells #[.int .i64 set, .int .i64 n] 30) hst
              have hxb7 := hxb.fr (Fr.alloc wr (.cells #[.int .i64 set, .int .i64 n] 30))
              have hf7 := hf.trans (Fr.alloc wr (.cells #[.int .i64 set, .int .i64 n] 30))
              clear hst hxb hf hrune
              obtain rfl | ⟨r, rfl⟩ : pv = none ∨ ∃ r, pv = some r := by cases pv <;> simp
              · go_wp2_with fail
                go_roundw
                case rel => exact ⟨n + 1, by omega, by omega, by go_num, by rw [HP.out]; simpa using hst7, hxb7, hf7⟩
                case measure => simp [intOf]; omega
              · simp only [Option.getD_some] at hpv
                go_wp2_with fail
                refine (in_state E _ set bx _ hst7 hxb7).mono ?_
                rintro e W8 ⟨bset8, rfl, hs8, hx8, hf8⟩
                go_wp2_with fail
                refine (do_any E _ bx bset8 set n r hset (by omega) (by omega) hlen W8 hs8 hx8).mono ?_
                rintro e W9 ⟨rfl, ⟨hs9, hx9⟩, hf9⟩
                have hX9 := hx9.1
                have hF9 := (hf7.trans hf8).trans hf9
                clear hst7 hxb7 hf7 hs8 hx8 hf8 hf9 hx9
                go_wp2_with fail
                go_roundw
                case rel => exact ⟨n + 1, by omega, by omega, by go_num, by rw [HP.out]; simpa using hs9, hX9, hF9⟩
                case measure => simp [intOf]; omega
            · rw [show n = 127 by omega] at hst
              have hst' : State E (G1 ++ G2 ++ G3 ++ plainsTo (j + 1)) wr := by rw [HT.out]; simpa using hst
              clear hst hrn
              go_wp2_with fail
              go_roundw
              case rel => exact ⟨j + 1, by omega, by go_num, hst', hxb, hf⟩
              case measure => simp [intOf]; omega
        · rw [show j = 4 by omega] at hst
          have cx := hxb.cell
          clear hmm
          go_wp2_with fail
          go_ret
          exact ⟨by rw [hbs]; rfl, hst, hf⟩
end Go.Proofs.YtgmiampijdnebaaGreatDoor
