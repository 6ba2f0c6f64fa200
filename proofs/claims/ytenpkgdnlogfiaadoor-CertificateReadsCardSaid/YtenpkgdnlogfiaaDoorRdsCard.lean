/-
  The card of CertificateReads.
-/
import Derived.Test.YtenpkgdnlogfiaaDoorRdsRow
import Derived.Test.YtenpkgdnlogfiaaDoorCards
import Derived.Test.YtenpkgdnlogfiaaDoorTie
import Derived.SevenTiedAt
namespace Go.Proofs.YtenpkgdnlogfiaaDoor
open Go

theorem rds_card : Rows.CertificateReadsCardSaid :=
  Claim7.holds_tied_plain_at .later [] [.data, .data, .data] true (true, "3ec967828f7ee5e30e14dc5b7b336ce7ac71a1162fec72200ce2248004db0790") false
    rds_holds (fun _ h => by cases h) (by kernel_rfl) (fun _ h => by cases h) certificateReads_row_tie rfl ⟨rfl, rfl⟩ (by kernel_rfl) rfl
    (fun f fn hf hfn => by
      obtain rfl : f = 6 := Option.some.inj ((show Tryd.prog.funcNamed "arbac/arbaclaw36.CertificateReads" = some 6 by kernel_rfl).symm.trans hf) |>.symm
      obtain rfl : fn = Tryd.f6 := (Option.some.inj (Tryd.func6.symm.trans hfn)).symm
      exact ⟨by kernel_rfl, fun j t ht => by
        rw [Tryd.params6] at ht
        have h3 : t = 25 ∨ t = 59 ∨ t = 5 := by
          rcases j with _ | _ | _ | j
          · simp at ht; simp [← ht]
          · simp at ht; simp [← ht]
          · simp at ht; simp [← ht]
          · simp at ht
        rcases h3 with rfl | rfl | rfl
        · exact (show Tryd.prog.wantsStandIn 25 = false by kernel_rfl)
        · exact (show Tryd.prog.wantsStandIn 59 = false by kernel_rfl)
        · exact (show Tryd.prog.wantsStandIn 5 = false by kernel_rfl)⟩)
    (by kernel_rfl)
#print axioms rds_card
end Go.Proofs.YtenpkgdnlogfiaaDoor
