/-
  The card of CertificateBytes.
-/
import Derived.Test.YtenpkgdnlogfiaaGreatDoorBytRow
import Derived.Test.YtenpkgdnlogfiaaGreatDoorCards
import Derived.Test.YtenpkgdnlogfiaaGreatDoorTie
import Derived.SevenTiedAt
namespace Go.Proofs.YtenpkgdnlogfiaaGreatDoor
open Go

theorem byt_card : Rows.CertificateBytesCardSaid :=
  Claim7.holds_tied_plain_at .later [] [.data, .data, .data] true (true, "c53ec25f4e9497bba17802e812df32ce82e2a00bfd7d2d980abfc1152d319789") false
    byt_holds (fun _ h => by cases h) (by kernel_rfl) (fun _ h => by cases h) certificateBytes_row_tie rfl ⟨rfl, rfl⟩ (by kernel_rfl) rfl
    (fun f fn hf hfn => by
      obtain rfl : f = 3 := Option.some.inj ((show Tryz.prog.funcNamed "arbac/arbaclaw36.CertificateBytes" = some 3 by kernel_rfl).symm.trans hf) |>.symm
      obtain rfl : fn = Tryz.f3 := (Option.some.inj (Tryz.func3.symm.trans hfn)).symm
      exact ⟨by kernel_rfl, fun j t ht => by
        rw [Tryz.params3] at ht
        have h3 : t = 25 := by
          rcases j with _ | j
          · simp at ht; simp [← ht]
          · simp at ht
        rcases h3 with rfl
        · exact (show Tryz.prog.wantsStandIn 25 = false by kernel_rfl)⟩)
    (by kernel_rfl)
#print axioms byt_card
end Go.Proofs.YtenpkgdnlogfiaaGreatDoor
