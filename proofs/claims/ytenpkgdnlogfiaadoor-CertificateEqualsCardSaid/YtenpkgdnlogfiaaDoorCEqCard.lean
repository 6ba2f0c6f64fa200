/-
  The card of CertificateEquals.
-/
import Derived.Test.YtenpkgdnlogfiaaDoorCEqRow
import Derived.Test.YtenpkgdnlogfiaaDoorCards
import Derived.Test.YtenpkgdnlogfiaaDoorTie
import Derived.SevenTiedAt
namespace Go.Proofs.YtenpkgdnlogfiaaDoor
open Go

theorem certeq_card : Rows.CertificateEqualsCardSaid :=
  Claim7.holds_tied_plain_at .later [] [.data, .data] true (true, "3ec967828f7ee5e30e14dc5b7b336ce7ac71a1162fec72200ce2248004db0790") false
    certeq_holds (fun _ h => by cases h) (by kernel_rfl) (fun _ h => by cases h) certificateEquals_row_tie rfl ⟨rfl, rfl⟩ (by kernel_rfl) rfl
    (fun f fn hf hfn => by
      obtain rfl : f = 3 := Option.some.inj ((show Tryd.prog.funcNamed "arbac/arbaclaw36.CertificateEquals" = some 3 by kernel_rfl).symm.trans hf) |>.symm
      obtain rfl : fn = Tryd.f3 := (Option.some.inj (Tryd.func3.symm.trans hfn)).symm
      exact ⟨by kernel_rfl, fun j t ht => by
        rw [Tryd.params3] at ht
        have h3 : t = 25 := by
          rcases j with _ | _ | j
          · simpa using ht.symm
          · simpa using ht.symm
          · simp at ht
        subst h3
        exact (show Tryd.prog.wantsStandIn 25 = false by kernel_rfl)⟩)
    (by kernel_rfl)
#print axioms certeq_card
end Go.Proofs.YtenpkgdnlogfiaaDoor
