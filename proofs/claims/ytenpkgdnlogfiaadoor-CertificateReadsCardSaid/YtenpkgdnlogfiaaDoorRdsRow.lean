/-
  The row of CertificateReads, proved.
-/
import Derived.Test.YtenpkgdnlogfiaaDoorRd8
import Derived.Test.YtenpkgdnlogfiaaDoorOpen3
import Derived.Test.YtenpkgdnlogfiaaDoorOpen4
import Derived.MakeChecks
import Derived.LaidLaws
import Derived.Stop.Joined
namespace Go.Proofs.YtenpkgdnlogfiaaDoor
open Go.ChangeShapes Go.WideShapes Go.ChangeAt Go.RowKit

theorem rds_laid_plain (W : World) (h : laidMetH Tryd.prog Rows.certificateReadsRow.laid W) : DTab W ∧ Tab W := by
  have h' : laidMetH Tryd.prog [("math/bits.deBruijn64tab", Rows.laid_math_bits_deBruijn64tab), ("arbac/keccak.rounds", Rows.laid_arbac_keccak_rounds), ("arbac/keccak.turns", Rows.laid_arbac_keccak_turns)] W := h
  rw [MakeChecks.laidMetH_plain _ _ _ (by kernel_rfl)] at h'
  exact tabs_of_reads (Lib.laidMet.reads h' (.head _)) (Lib.laidMet.reads h' (.tail _ (.head _))) (Lib.laidMet.reads h' (.tail _ (.tail _ (.head _))))
noncomputable def rdsStart (os : Os) : World := World.laidAll Tryd.prog os Rows.certificateReadsRow.laid
theorem rds_start_met (os : Os) (args : Array Value) : laidMetH Tryd.prog Rows.certificateReadsRow.laid ((rdsStart os).forCall (fun _ _ => 0) ⟨#[], args, []⟩).memory := by
  rw [MakeChecks.laidMetH_plain _ _ _ (by kernel_rfl)]
  exact laidMet_laidAll _ (by kernel_rfl) (by kernel_rfl)
theorem rds_own : ownKnob Tryd.prog.godebug = none := by kernel_rfl
theorem rds_laidOut : laidOutB Tryd.prog = true := by kernel_rfl

set_option maxRecDepth 100000 in
theorem rds_lifted (os : Os) (started : os.Started) (H : Type) (enc : TypeId × Value → H) :
    ReturnsInHanded {} Tryd.checked os 6 .any (fun w args => (Rows.certificateReadsSpec.pre enc Tryd.prog Tryd.f6 [] false w args ∧ laidMetH Tryd.prog Rows.certificateReadsRow.laid w) ∧ sizedMet enc Tryd.prog Tryd.f6 (OpenSpec.ofChange Rows.certificateReadsSpec) false w args)
      (Rows.certificateReadsSpec.post enc Tryd.prog Tryd.f6 false true false false) := by
  refine returnsInHanded_of_change_and (C := Tryd.checked) (X := fun w _ => laidMetH Tryd.prog Rows.certificateReadsRow.laid w) (fun _ _ _ hh h => h.of_heap hh) rds_own started (by kernel_rfl) Tryd.func6
    (ChangeSpec.witness_shaped (enc := enc) (C := Tryd.checked) (os := os) (X := fun w _ => laidMetH Tryd.prog Rows.certificateReadsRow.laid w) false (rdsStart os) #[.agg #[.int .u8 0, .int .u8 0, .bool false, .slice none 0 0, .slice none 0 0], .int .u16 0, .int .u8 0] 8 (World.laidAll_os _ _ _) (World.shaped_of_ZipB (by kernel_rfl) (by kernel_rfl)) (by kernel_rfl) (by kernel_rfl) (by kernel_rfl) (rds_start_met os _)) ?_
  intro W base args ds gs before hval0 hW _ _ hL _
  have hval : ∀ (j : Nat) t v, Tryd.f6.params[j]? = some t → args[j]? = some v → Value.okWide Tryd.prog W .any base t v := hval0
  have hW' := hW
  obtain ⟨p, q, hA0, hV, rfl, hfz, hnd⟩ := hW
  have hA : DataW.TrodAll enc Tryd.prog W 0 (fun _ => true) true Tryd.f6.params.toList args.toList ds p := hA0
  rw [Tryd.params6] at hA hval
  obtain ⟨v0, v1, v2, d0, d1, d2, p0, p1, p2, rfl, rfl, rfl, h0, h1, h2⟩ := trodAll_three hA
  obtain ⟨rfl, rfl⟩ := trodVars_none hV
  obtain ⟨x, hx, hu⟩ := raw_open (hval 0 _ v0 rfl rfl) h0
  obtain ⟨a1, rfl, ha1⟩ := u16_open Tryd.underlying59 (hval 1 _ v1 rfl rfl) h1
  obtain ⟨a2, rfl, ha2⟩ := u8_open Tryd.underlying5 (hval 2 _ v2 rfl rfl) h2
  have hT := rds_laid_plain W hL
  have lt : ∀ z ∈ p0 ++ p1 ++ p2, z.block < W.heap.size := fun z hz => by simpa using hW'.lt z (by simpa using hz)
  refine (certreads_any v0 x hx a1 a2 ha1 ha2 W hT.2 hT.1 _ hu).mono fun E W' he => ?_
  obtain ⟨r, rfl, rfl, hb⟩ := he
  refine ⟨_, rfl, _, _, _, [], p0 ++ p1 ++ p2, [], hW', ?_, ?_, ?_, hb.frame _, fun h => by cases h⟩
  · exact trodAll_mk1 (shut_bool Tryd.underlying4 true)
  · rw [Tryd.params6]
    rw [List.append_assoc]
    exact trodAll_mk3 (Below.trod rds_laidOut (by kernel_rfl) (of_decide_eq_true (by kernel_rfl)) h0 hb fun z hz => lt z (List.mem_append_left _ (List.mem_append_left _ hz))) (Below.trod rds_laidOut (by kernel_rfl) (of_decide_eq_true (by kernel_rfl)) h1 hb fun z hz => lt z (List.mem_append_left _ (List.mem_append_right _ hz))) (Below.trod rds_laidOut (by kernel_rfl) (of_decide_eq_true (by kernel_rfl)) h2 hb fun z hz => lt z (List.mem_append_right _ hz))
  · rfl

theorem rds_holds : Rows.CertificateReadsSaid :=
  OpenClaim.holds_of_wide 6 Tryd.f6 rfl rfl rfl rfl rfl rfl rfl ⟨rfl, rfl, rfl, rfl, rfl⟩ rfl rfl rfl rfl rfl (by kernel_rfl) Tryd.func6 (by kernel_rfl)
    (of_decide_eq_true (by kernel_rfl)) (by unfold Func.isWrapper; rw [if_neg (by decide +kernel)]; exact ⟨rfl, rfl⟩)
    (fun os started H enc _ => rds_lifted os started H enc)
end Go.Proofs.YtenpkgdnlogfiaaDoor
