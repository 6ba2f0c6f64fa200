/-
  The row of CertificateChecks, proved.
-/
import Derived.Test.YtenpkgdnlogfiaaDoorChk3
import Derived.Test.YtenpkgdnlogfiaaDoorOpen1
import Derived.Test.YtenpkgdnlogfiaaDoorOpen3
import Derived.MakeChecks
import Derived.LaidLaws
import Derived.Stop.Joined
namespace Go.Proofs.YtenpkgdnlogfiaaDoor
open Go.ChangeShapes Go.WideShapes Go.ChangeAt Go.RowKit

theorem chk_laid_plain (W : World) (h : laidMetH Tryd.prog Rows.certificateChecksRow.laid W) : DTab W ∧ Tab W := by
  have h' : laidMetH Tryd.prog [("math/bits.deBruijn64tab", Rows.laid_math_bits_deBruijn64tab), ("arbac/keccak.rounds", Rows.laid_arbac_keccak_rounds), ("arbac/keccak.turns", Rows.laid_arbac_keccak_turns)] W := h
  rw [MakeChecks.laidMetH_plain _ _ _ (by kernel_rfl)] at h'
  exact tabs_of_reads (Lib.laidMet.reads h' (.head _)) (Lib.laidMet.reads h' (.tail _ (.head _))) (Lib.laidMet.reads h' (.tail _ (.tail _ (.head _))))
noncomputable def chkStart (os : Os) : World := World.laidAll Tryd.prog os Rows.certificateChecksRow.laid
theorem chk_start_met (os : Os) (args : Array Value) : laidMetH Tryd.prog Rows.certificateChecksRow.laid ((chkStart os).forCall (fun _ _ => 0) ⟨#[], args, []⟩).memory := by
  rw [MakeChecks.laidMetH_plain _ _ _ (by kernel_rfl)]
  exact laidMet_laidAll _ (by kernel_rfl) (by kernel_rfl)
theorem chk_own : ownKnob Tryd.prog.godebug = none := by kernel_rfl
theorem chk_laidOut : laidOutB Tryd.prog = true := by kernel_rfl

set_option maxRecDepth 100000 in
theorem chk_lifted (os : Os) (started : os.Started) (H : Type) (enc : TypeId × Value → H) :
    ReturnsInHanded {} Tryd.checked os 4 .any (fun w args => (Rows.certificateChecksSpec.pre enc Tryd.prog Tryd.f4 [] false w args ∧ laidMetH Tryd.prog Rows.certificateChecksRow.laid w) ∧ sizedMet enc Tryd.prog Tryd.f4 (OpenSpec.ofChange Rows.certificateChecksSpec) false w args)
      (Rows.certificateChecksSpec.post enc Tryd.prog Tryd.f4 false true false false) := by
  refine returnsInHanded_of_change_and (C := Tryd.checked) (X := fun w _ => laidMetH Tryd.prog Rows.certificateChecksRow.laid w) (fun _ _ _ hh h => h.of_heap hh) chk_own started (by kernel_rfl) Tryd.func4
    (ChangeSpec.witness_shaped (enc := enc) (C := Tryd.checked) (os := os) (X := fun w _ => laidMetH Tryd.prog Rows.certificateChecksRow.laid w) false (chkStart os) #[.agg #[.int .u8 0, .int .u8 0, .bool false, .slice none 0 0, .slice none 0 0]] 8 (World.laidAll_os _ _ _) (World.shaped_of_ZipB (by kernel_rfl) (by kernel_rfl)) (by kernel_rfl) (by kernel_rfl) (by kernel_rfl) (chk_start_met os _)) ?_
  intro W base args ds gs before hval0 hW _ _ hL _
  have hval : ∀ (j : Nat) t v, Tryd.f4.params[j]? = some t → args[j]? = some v → Value.okWide Tryd.prog W .any base t v := hval0
  have hW' := hW
  obtain ⟨p, q, hA0, hV, rfl, hfz, hnd⟩ := hW
  have hA : DataW.TrodAll enc Tryd.prog W 0 (fun _ => true) true Tryd.f4.params.toList args.toList ds p := hA0
  rw [Tryd.params4] at hA hval
  obtain ⟨v0, d0, rfl, rfl, h0⟩ := trodAll_one hA
  obtain ⟨rfl, rfl⟩ := trodVars_none hV
  obtain ⟨x, hx, hu⟩ := raw_open (hval 0 _ v0 rfl rfl) h0
  have hT := chk_laid_plain W hL
  have lt : ∀ z ∈ p, z.block < W.heap.size := fun z hz => by simpa using hW'.lt z (by simpa using hz)
  refine (certchecks_any v0 x hx W hT.2 hT.1 _ hu).mono fun E W' he => ?_
  obtain ⟨r, rfl, rfl, hb⟩ := he
  refine ⟨_, rfl, _, _, _, [], p, [], hW', ?_, ?_, ?_, hb.frame _, fun h => by cases h⟩
  · exact trodAll_mk1 (shut_bool Tryd.underlying4 true)
  · rw [Tryd.params4]
    exact trodAll_mk1 (Below.trod chk_laidOut (by kernel_rfl) (of_decide_eq_true (by kernel_rfl)) h0 hb fun z hz => lt z (hz))
  · rfl

theorem chk_holds : Rows.CertificateChecksSaid :=
  OpenClaim.holds_of_wide 4 Tryd.f4 rfl rfl rfl rfl rfl rfl rfl ⟨rfl, rfl, rfl, rfl, rfl⟩ rfl rfl rfl rfl rfl (by kernel_rfl) Tryd.func4 (by kernel_rfl)
    (of_decide_eq_true (by kernel_rfl)) (by unfold Func.isWrapper; rw [if_neg (by decide +kernel)]; exact ⟨rfl, rfl⟩)
    (fun os started H enc _ => chk_lifted os started H enc)
end Go.Proofs.YtenpkgdnlogfiaaDoor
