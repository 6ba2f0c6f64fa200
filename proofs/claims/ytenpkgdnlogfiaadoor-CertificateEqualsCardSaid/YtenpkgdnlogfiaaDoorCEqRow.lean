/-
  The row of CertificateEquals, proved.
-/
import Derived.Test.YtenpkgdnlogfiaaDoorCEq1
import Derived.Test.YtenpkgdnlogfiaaDoorOpen1
import Derived.Test.YtenpkgdnlogfiaaDoorOpen2
import Derived.MakeChecks
import Derived.LaidLaws
import Derived.Stop.Joined
namespace Go.Proofs.YtenpkgdnlogfiaaDoor
open Go.ChangeShapes Go.WideShapes Go.ChangeAt Go.RowKit

theorem certeq_laid_plain (W : World) (h : laidMetH Tryd.prog Rows.certificateEqualsRow.laid W) : Tab W := by
  have h' : laidMetH Tryd.prog [("arbac/keccak.rounds", Rows.laid_arbac_keccak_rounds), ("arbac/keccak.turns", Rows.laid_arbac_keccak_turns)] W := h
  rw [MakeChecks.laidMetH_plain _ _ _ (by kernel_rfl)] at h'
  exact tab_of_reads (Lib.laidMet.reads h' (.head _)) (Lib.laidMet.reads h' (.tail _ (.head _)))
noncomputable def certeqStart (os : Os) : World := World.laidAll Tryd.prog os Rows.certificateEqualsRow.laid
theorem certeq_start_met (os : Os) (args : Array Value) : laidMetH Tryd.prog Rows.certificateEqualsRow.laid ((certeqStart os).forCall (fun _ _ => 0) ⟨#[], args, []⟩).memory := by
  rw [MakeChecks.laidMetH_plain _ _ _ (by kernel_rfl)]
  exact laidMet_laidAll _ (by kernel_rfl) (by kernel_rfl)
theorem certeq_own : ownKnob Tryd.prog.godebug = none := by kernel_rfl
theorem certeq_laidOut : laidOutB Tryd.prog = true := by kernel_rfl

set_option maxRecDepth 100000 in
theorem certeq_lifted (os : Os) (started : os.Started) (H : Type) (enc : TypeId × Value → H) :
    ReturnsInHanded {} Tryd.checked os 3 .any (fun w args => (Rows.certificateEqualsSpec.pre enc Tryd.prog Tryd.f3 [] false w args ∧ laidMetH Tryd.prog Rows.certificateEqualsRow.laid w) ∧ sizedMet enc Tryd.prog Tryd.f3 (OpenSpec.ofChange Rows.certificateEqualsSpec) false w args)
      (Rows.certificateEqualsSpec.post enc Tryd.prog Tryd.f3 false true false false) := by
  refine returnsInHanded_of_change_and (C := Tryd.checked) (X := fun w _ => laidMetH Tryd.prog Rows.certificateEqualsRow.laid w) (fun _ _ _ hh h => h.of_heap hh) certeq_own started (by kernel_rfl) Tryd.func3
    (ChangeSpec.witness_shaped (enc := enc) (C := Tryd.checked) (os := os) (X := fun w _ => laidMetH Tryd.prog Rows.certificateEqualsRow.laid w) false (certeqStart os) #[.agg #[.int .u8 0, .int .u8 0, .bool false, .slice none 0 0, .slice none 0 0], .agg #[.int .u8 0, .int .u8 0, .bool false, .slice none 0 0, .slice none 0 0]] 8 (World.laidAll_os _ _ _) (World.shaped_of_ZipB (by kernel_rfl) (by kernel_rfl)) (by kernel_rfl) (by kernel_rfl) (by kernel_rfl) (certeq_start_met os _)) ?_
  intro W base args ds gs before hval0 hW _ _ hL _
  have hval : ∀ (j : Nat) t v, Tryd.f3.params[j]? = some t → args[j]? = some v → Value.okWide Tryd.prog W .any base t v := hval0
  have hW' := hW
  obtain ⟨p, q, hA0, hV, rfl, hfz, hnd⟩ := hW
  have hA : DataW.TrodAll enc Tryd.prog W 0 (fun _ => true) true Tryd.f3.params.toList args.toList ds p := hA0
  rw [Tryd.params3] at hA hval
  obtain ⟨v0, v1, d0, d1, p0, p1, rfl, rfl, rfl, h0, h1⟩ := trodAll_two hA
  obtain ⟨rfl, rfl⟩ := trodVars_none hV
  obtain ⟨x, hx, hu⟩ := raw_open (hval 0 _ v0 rfl rfl) h0
  obtain ⟨y, hy, hv⟩ := raw_open (hval 1 _ v1 rfl rfl) h1
  have hT := certeq_laid_plain W hL
  have lt : ∀ z ∈ p0 ++ p1, z.block < W.heap.size := fun z hz => by simpa using hW'.lt z (by simpa using hz)
  refine (certequals_any v0 v1 x y hx hy W hT _ _ hu hv).mono fun e W' he => ?_
  obtain ⟨r, rfl, rfl, hb⟩ := he
  refine ⟨_, rfl, _, _, _, [], p0 ++ p1, [], hW', ?_, ?_, ?_, hb.frame _, fun h => by cases h⟩
  · exact trodAll_mk1 (shut_bool Tryd.underlying4 true)
  · rw [Tryd.params3]
    exact trodAll_mk2 (Below.trod certeq_laidOut (by kernel_rfl) (of_decide_eq_true (by kernel_rfl)) h0 hb fun z hz => lt z (List.mem_append_left _ hz)) (Below.trod certeq_laidOut (by kernel_rfl) (of_decide_eq_true (by kernel_rfl)) h1 hb fun z hz => lt z (List.mem_append_right _ hz))
  · rfl

theorem certeq_holds : Rows.CertificateEqualsSaid :=
  OpenClaim.holds_of_wide 3 Tryd.f3 rfl rfl rfl rfl rfl rfl rfl ⟨rfl, rfl, rfl, rfl, rfl⟩ rfl rfl rfl rfl rfl (by kernel_rfl) Tryd.func3 (by kernel_rfl)
    (of_decide_eq_true (by kernel_rfl)) (by unfold Func.isWrapper; rw [if_neg (by decide +kernel)]; exact ⟨rfl, rfl⟩)
    (fun os started H enc _ => certeq_lifted os started H enc)
end Go.Proofs.YtenpkgdnlogfiaaDoor
