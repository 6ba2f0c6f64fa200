/-
  The card of CertificateEncodes.
-/
import Derived.Test.YtenpkgdnlogfiaaDoorEncRow
import Derived.Test.YtenpkgdnlogfiaaDoorCards
import Derived.Test.YtenpkgdnlogfiaaDoorTie
import Derived.SevenTiedAt
namespace Go.Proofs.YtenpkgdnlogfiaaDoor
open Go

theorem enc_card : Rows.CertificateEncodesCardSaid :=
  Claim7.holds_tied_plain_at .later [] [.data, .data] true (true, "3ec967828f7ee5e30e14dc5b7b336ce7ac71a1162fec72200ce2248004db0790") false
    enc_holds (fun _ h => by cases h) (by kernel_rfl) (fun _ h => by cases h) certificateEncodes_row_tie rfl ⟨rfl, rfl⟩ (by kernel_rfl) rfl
    (fun f fn hf hfn => by
      obtain rfl : f = 5 := Option.some.inj ((show Tryd.prog.funcNamed "arbac/arbaclaw36.CertificateEncodes" = some 5 by kernel_rfl).symm.trans hf) |>.symm
      obtain rfl : fn = Tryd.f5 := (Option.some.inj (Tryd.func5.symm.trans hfn)).symm
      exact ⟨by kernel_rfl, fun j t ht => by
        rw [Tryd.params5] at ht
        have h3 : t = 25 := by
          rcases j with _ | j
          · simp at ht; simp [← ht]
          · simp at ht
        rcases h3 with rfl
        · exact (show Tryd.prog.wantsStandIn 25 = false by kernel_rfl)⟩)
    (by kernel_rfl)
#print axioms enc_card
end Go.Proofs.YtenpkgdnlogfiaaDoor
