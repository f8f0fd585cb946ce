/-
  The row of GlyphKnown: true for every character; the input reads as it did. Its condition: what the row lists as laid.
-/
import Derived.Test.YtgmiampijdnebaaGreatDoorF1
import Derived.Test.YtgmiampijdnebaaGreatDoorTie
import Derived.Test.YtgmiampijdnebaaGreatDoorCards
import Derived.ProofKit
import Derived.Lay
import Derived.Lib.LaidU8
import Derived.SevenTiedAt
namespace Go.Proofs.YtgmiampijdnebaaGreatDoor
open Go.ChangeShapes Go.WideShapes Go.ChangeAt Go.RowKit Go.Lib Go.Shelf

theorem own : ownKnob Tryz.prog.godebug = none := by kernel_rfl

theorem tabIs_of_reads {P : Program} {W : World} {name : String} {k : IntKind} {zs : List Int} {g : Nat} {t e : TypeId} {n : Nat}
    (hg : P.globalNamed name = some g) (hty : (P.globals[g]?).map (·.type) = some t) (ht : P.underlying t = some (.array n e)) (he : P.underlying e = some (.int k)) (hce : P.cellsOf e = 1) (hct : P.cellsOf t = n)
    (h : VarReads P W name (tabData k zs)) : TabIs P W name k zs := by
  obtain ⟨g', t', cs, fuel, p, hg', ht', hvar, hd⟩ := h
  obtain rfl := Option.some.inj (hg.symm.trans hg')
  obtain rfl := Option.some.inj (hty.symm.trans ht')
  unfold TabIs
  rw [hvar, ← cells_of_tab ht he hce hct hd]

theorem first_eq : Rows.laid_unicode_utf8_first = firstData := by kernel_rfl
theorem white_eq : Rows.laid_unicode_White_Space = whiteData := by kernel_rfl
theorem accept_eq : Rows.laid_unicode_utf8_acceptRanges = acceptData := by kernel_rfl
theorem space_eq : Rows.laid_strings_asciiSpace (H := Unit) = tabData .u8 asciiSpaceTab := by kernel_rfl

/-- What the row's premise gives the walks. -/
theorem glob_of_laid {W : World} (h : laidMet Tryz.prog Rows.glyphKnownRow.laid W) : Glob W := by
  have hs : ("strings.asciiSpace", Rows.laid_strings_asciiSpace) ∈ Rows.glyphKnownRow.laid := by simp [Rows.glyphKnownRow]
  have hw : ("unicode.White_Space", Rows.laid_unicode_White_Space) ∈ Rows.glyphKnownRow.laid := by simp [Rows.glyphKnownRow]
  have hf : ("unicode/utf8.first", Rows.laid_unicode_utf8_first) ∈ Rows.glyphKnownRow.laid := by simp [Rows.glyphKnownRow]
  have ha : ("unicode/utf8.acceptRanges", Rows.laid_unicode_utf8_acceptRanges) ∈ Rows.glyphKnownRow.laid := by simp [Rows.glyphKnownRow]
  refine ⟨tabIs_of_reads (g := 0) (t := 100) (e := 5) (n := 256) (by kernel_rfl) (by kernel_rfl) (by kernel_rfl) (by kernel_rfl) (by kernel_rfl) (by kernel_rfl) (space_eq ▸ laidMet.reads h hs), ?_, ?_⟩
  · exact whiteTab_of_reads (ρ := Tryz.lays157_ren) { Tryz.lays157 with } ⟨by kernel_rfl, by kernel_rfl, by kernel_rfl, by kernel_rfl, by kernel_rfl, by kernel_rfl, by kernel_rfl, by kernel_rfl⟩ (white_eq ▸ laidMet.reads h hw)
  · exact utf8Tabs_of_reads (ρ := Tryz.lays197_ren) { Tryz.lays197 with } ⟨by kernel_rfl, by kernel_rfl, by kernel_rfl, by kernel_rfl, by kernel_rfl, by kernel_rfl, by kernel_rfl⟩ (first_eq ▸ laidMet.reads h hf) (accept_eq ▸ laidMet.reads h ha)

theorem laid_start (os : Os) (args : Array Value) : laidMet Tryz.prog Rows.glyphKnownRow.laid ((World.laidAll Tryz.prog os Rows.glyphKnownRow.laid).forCall (fun _ _ => 0) ⟨#[], args, []⟩).memory :=
  laidMet_laidAll _ (by kernel_rfl) (by kernel_rfl)

set_option maxRecDepth 100000 in
theorem glyphKnown_lifted (os : Os) (started : os.Started) (H : Type) (enc : TypeId × Value → H) :
    ReturnsInHanded {} Tryz.checked os 3 .any (fun w args => (Rows.glyphKnownSpec.pre enc Tryz.prog Tryz.f3 [] false w args ∧ laidMetH Tryz.prog Rows.glyphKnownRow.laid w) ∧ sizedMet enc Tryz.prog Tryz.f3 (OpenSpec.ofChange Rows.glyphKnownSpec) false w args)
      (Rows.glyphKnownSpec.post enc Tryz.prog Tryz.f3 false true false false) := by
  refine returnsInHanded_of_change_and (C := Tryz.checked) (X := fun w _ => laidMetH Tryz.prog Rows.glyphKnownRow.laid w) (fun _ _ _ hh h => h.of_heap hh) own started (by kernel_rfl) Tryz.func3
    (ChangeSpec.witness_shaped (enc := enc) (C := Tryz.checked) (os := os) (X := fun w _ => laidMetH Tryz.prog Rows.glyphKnownRow.laid w) false (World.laidAll Tryz.prog os Rows.glyphKnownRow.laid) #[.int .i32 0] 8 (World.laidAll_os _ _ _)
      (World.shaped_of_ZipB (by kernel_rfl) (by kernel_rfl)) (by kernel_rfl) (by kernel_rfl) (by kernel_rfl)
      (by rw [MakeChecks.laidMetH_plain _ _ _ (by kernel_rfl)]; exact laid_start os _)) ?_
  intro W base args ds gs before hval0 hW _ _ hL _
  have hval : ∀ (j : Nat) t v, Tryz.f3.params[j]? = some t → args[j]? = some v → Value.okWide Tryz.prog W .any base t v := hval0
  have hW' := hW
  obtain ⟨p, q, hA0, hV, rfl, _, _⟩ := hW
  have hA : DataW.TrodAll enc Tryz.prog W 0 (fun _ => true) true Tryz.f3.params.toList args.toList ds p := hA0
  rw [Tryz.params3] at hA hval
  obtain ⟨v0, d0, rfl, rfl, h0⟩ := trodAll_one hA
  obtain ⟨rfl, rfl⟩ := trodVars_none hV
  obtain ⟨x, rfl, rfl, rfl, wx⟩ := open_int Tryz.underlying21 (hval 0 21 v0 rfl rfl) h0
  simp only [List.append_nil] at hW'
  have hx : -2147483648 ≤ x ∧ x ≤ 2147483647 := by simpa [Lit.wf, IntKind.min, IntKind.max, IntKind.signed, IntKind.bits] using wx
  rw [MakeChecks.laidMetH_plain _ _ _ (by kernel_rfl)] at hL
  refine (lawKnown_any W (glob_of_laid hL) x hx.1 hx.2).mono fun e W' ⟨he, hb⟩ => ?_
  subst he
  exact ⟨_, rfl, _, _, _, [], [], [], hW', trodAll_mk1 (shut_bool Tryz.underlying4 _), trodAll_mk1 (shut_int Tryz.underlying21 wx), rfl, hb.frame _, fun h => by cases h⟩

theorem glyphKnown_holds : Rows.GlyphKnownSaid :=
  OpenClaim.holds_of_wide 3 Tryz.f3 rfl rfl rfl rfl rfl rfl rfl ⟨rfl, rfl, rfl, rfl, rfl⟩ rfl rfl rfl rfl rfl (by kernel_rfl) Tryz.func3 (by kernel_rfl)
    (of_decide_eq_true (by kernel_rfl)) (by unfold Func.isWrapper; first | (rw [if_pos (by decide +kernel)]; kernel_rfl) | (rw [if_neg (by decide +kernel)]; exact ⟨rfl, rfl⟩))
    (fun os started H enc _ => glyphKnown_lifted os started H enc)

theorem glyphKnown_card : Rows.GlyphKnownCardSaid :=
  Claim7.holds_tied_plain_at .later [] [.data, .data, .data, .data, .sentinel, .sentinel, .listed, .data, .pinned] true (true, "25d38420ff61fda8687ad84131d782d569dfc8d8b8d098c52156ff5daab7470c") true glyphKnown_holds (fun _ h => by cases h) (by kernel_rfl) (fun _ h => by cases h) glyphKnown_row_tie rfl ⟨rfl, rfl⟩ (by kernel_rfl) rfl
    (fun f fn hf hfn => by
      obtain rfl : f = 3 := Option.some.inj ((show Tryz.prog.funcNamed "amanuensis/amanuensislaw13.GlyphKnown" = some 3 by kernel_rfl).symm.trans hf) |>.symm
      obtain rfl : fn = Tryz.f3 := (Option.some.inj (Tryz.func3.symm.trans hfn)).symm
      exact ⟨by kernel_rfl, fun j t ht => by
        rw [Tryz.params3] at ht
        have hm : t ∈ [21] := by simpa using Array.mem_of_getElem? ht
        have hall : ([21].all fun u => !Tryz.prog.wantsStandIn u) = true := by kernel_rfl
        exact (show Tryz.prog.wantsStandIn t = false by simpa using List.all_eq_true.1 hall t hm)⟩)
    (by kernel_rfl)
#print axioms glyphKnown_card
end Go.Proofs.YtgmiampijdnebaaGreatDoor
