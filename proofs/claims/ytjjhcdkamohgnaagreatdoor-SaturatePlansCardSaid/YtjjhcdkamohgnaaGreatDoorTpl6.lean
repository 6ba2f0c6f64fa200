/-
  The card of SaturatePlans.
-/
import Derived.Test.YtjjhcdkamohgnaaGreatDoorRows
import Derived.ProofKit
import Derived.OpenShut
import Derived.Lib.LaidU8
import Derived.Lay
import Derived.MakeChecks
import Derived.LaidLaws
import Derived.Stop.Joined
import Derived.Test.YtjjhcdkamohgnaaGreatDoorCards
import Derived.Test.YtjjhcdkamohgnaaGreatDoorTie
import Derived.SevenTiedAt
import Derived.Test.YtjjhcdkamohgnaaGreatDoorTpl5
namespace Go.Proofs.YtjjhcdkamohgnaaGreatDoor
section
open Go.RowKit
attribute [local go_sem ↓] Go.wp_at_zero Go.wp_at_succ
set_option maxRecDepth 20000
set_option exponentiation.threshold 5000
theorem plan_hit {p : Af} {L : List (Nat × Nat)} {R : Nat} (hM : Cu p L R) (h : CD p = true) (hf : (srchM L p).2.2 = true) {n : Nat} (hn : n < (srchM L p).1.length) :
  ∃ k : Nat, (srchM L p).1[n]? = some (k : Int) /\ k < p.rules.length /\ (p.rules.getD k AL).revoke = false /\ Bn (satS L p n).1 (p.rules.getD k AL).target = false /\ (satS L p (n + 1)).1 = Bt (satS L p n).1 (p.rules.getD k AL).target /\ runTo p p.start 0 ((srchM L p).1.take n) = ((satS L p n).1, n, true) /\ reachB p (satS L p n).1 = false := by
 unfold srchM at *
 cases hh : hitN L p with
 | none => rw [hh] at hf; cases hf
 | some i =>
  rw [hh] at hn
  dsimp only at hn ⊢
  obtain ⟨h1, h2, h3⟩ := hit_is hh
  obtain ⟨h4, h5⟩ := (Dz (L := L) hM.targ).2 i h1
  rw [h5] at hn
  obtain ⟨h6, h7⟩ := (Dz (L := L) hM.targ).2 n (by omega)
  obtain ⟨h8, h9⟩ := (Dz (L := L) hM.targ).2 (n + 1) (by omega)
  have ht : (satS L p i).2.take n = (satS L p n).2 := by rw [h4, h6, List.take_take, Nat.min_eq_left (by omega)]
  cases hfc : firstC L p.rules (satS L p n).1 with
  | none => rw [C2 hfc] at h9; omega
  | some k =>
   obtain ⟨hk, hc, _⟩ := D4 hfc
   obtain ⟨c1, c2, _⟩ := CU hc
   have hs := BS hfc
   have hr := (Gv (L := L) hM.links h n).2
   refine ⟨k, ?_, hk, c1, c2, by rw [hs], by rw [ht, hr, h7], h3 n (by omega)⟩
   have h10 : (satS L p i).2.take (n + 1) = (satS L p n).2 ++ [(k : Int)] := by rw [h4, List.take_take, Nat.min_eq_left (by omega), <- h8, hs]
   have h11 : ((satS L p i).2.take (n + 1))[n]? = some (k : Int) := by rw [h10, List.getElem?_append_right (by omega), h7, Nat.sub_self]; rfl
   rwa [List.getElem?_take, if_pos (by omega)] at h11
theorem plan_end {p : Af} {L : List (Nat × Nat)} {R : Nat} (hM : Cu p L R) (h : CD p = true) (hf : (srchM L p).2.2 = true) :
  (srchM L p).1.length <= p.rules.length /\ runTo p p.start 0 (srchM L p).1 = ((satS L p (srchM L p).1.length).1, (srchM L p).1.length, true) /\ reachB p (satS L p (srchM L p).1.length).1 = true := by
 unfold srchM at *
 cases hh : hitN L p with
 | none => rw [hh] at hf; cases hf
 | some i =>
  dsimp only
  obtain ⟨h1, h2, h3⟩ := hit_is hh
  obtain ⟨h4, h5⟩ := (Dz (L := L) hM.targ).2 i h1
  have hr := (Gv (L := L) hM.links h i).2
  have := sat_short (L := L) hM.targ
  rw [h5] at hr ⊢
  exact ⟨by omega, hr, h2⟩
theorem plan_none {p : Af} {L : List (Nat × Nat)} (hf : (srchM L p).2.2 = false) : (srchM L p).1 = [] := by
 unfold srchM at *
 cases hh : hitN L p with
 | none => rfl
 | some i => rw [hh] at hf; cases hf
theorem sub_with {a b : Nat} {t : Int} (h : CK a b) : CK (Bt a t) (Bt b t) := by
 unfold Bt
 split
 ·intro i hi
  rw [Nat.testBit_or, Bool.or_eq_true] at hi ⊢
  exact hi.imp (h i) id
 ·exact h
theorem sub_has {a b : Nat} {t : Int} (h : CK a b) (hb : Bn b t = false) : Bn a t = false := by
 cases ha : Bn a t with
 | false => rfl
 | true =>
  unfold Bn at ha hb
  rw [Bool.and_eq_true] at ha
  rw [ha.1, h _ ha.2] at hb
  cases hb
set_option maxHeartbeats 8000000 in
theorem lplans35_any (v : Value) (l : List Nat) (W : World) (D : Nat -> Prop) (hl : ∀ x ∈ l, x < 256) (hv : Sl W D 1 v l.length (G1 l)) (hT : Bx W) : Calls Tryz.prog 11 #[v] W (AM (fun x _ => x = .bool true) W) := by
 obtain ⟨K, kt, k1, hS⟩ := start_bytesT hT hv
 clear hv hT
 have HL := Lib.hid hl
 clear hl
 go_enter Tryz.func11, Tryz.ntmps11
 go_wp2_with (first
  | (go_at_call 12; refine (lawake35_any hS kt).mono ?_; clear hS; rintro e w_ ⟨rfl, hS⟩)
  | (go_at_call 13; refine (lmade_any true HL.out hS k1 kt).mono ?_; clear hS; rintro e w_ ⟨x, u, rfl, p, ⟨L, R, hM⟩, hpl, hS⟩; replace hM := Lib.hid hM; replace hpl := Lib.hid (hpl rfl); obtain ⟨la, As, ns, cs, Ar, cr, An, cn, Ag, cg, rfl⟩ := hS.ro.2.1.shape6; obtain ⟨us, rfl, hu6, hu1⟩ := hS.ro.2.2.cells; replace hu6 := Lib.hid hu6)
  | ((with_reducible refine qA 3 ?_); refine qa hS #[.int .i64 0, .pointer none, .slice none 0 0, .slice none 0 0, .slice none 0 0, .slice none 0 0] ?_; clear hS; intro g3 w_ hS)
  | ((with_reducible refine qA 4 ?_); refine qa hS #[.int .i64 0, .slice none 0 0, .int .u64 0, .slice none 0 0, .slice none 0 0, .slice none 0 0] ?_; clear hS; intro g4 w_ hS)
  | ((with_reducible refine qm 37 ?_); refine AH hS 0 rfl _ _ _ rfl _ _ rfl rfl _ _ rfl (by rw [hu6.out]; kernel_rfl) (by rw [hu6.out]; rfl) hu1 ?_; clear hS; intro w_ hS; (try simp only [Act.put, Act.eval, zz, Value.cells] at hS))
  | ((with_reducible refine qm 31 ?_); refine qS hS ?_; clear hS; intro w_ hS; (try simp only [Act.put, Act.eval, zz, Value.cells] at hS))
  | ((with_reducible refine qA 30 ?_); refine BigFrame.wpList_want rfl fun _ hK => AQ rfl rfl (hS.box 1 rfl) Tryz.underlying31 rfl (by kernel_rfl) (hK _ _ ?_)))
 obtain ⟨PL, hPL⟩ : ∃ PL, (srchM L p).1 = PL := ⟨_, rfl⟩
 obtain ⟨fd, hfd⟩ : ∃ fd, (srchM L p).2.2 = fd := ⟨_, rfl⟩
 have HS0 : Hid (srchS p = (PL, (srchM L p).2.1, fd, 0)) := Lib.hid (by unfold srchS; rw [if_pos hM.out.check, hM.out.links]; dsimp only; rw [if_pos hpl.out, hPL, hfd])
 have HFD : Hid (rchB p = fd) := Lib.hid (by rw [<- hfd]; exact (srch_found hM.out hpl.out).symm)
 have HPL := Lib.hid hPL
 have HFQ := Lib.hid hfd
 clear hPL hfd
 refine (F5 hS.ro.2.1 hM.out.ok (kt _ _ hS.ro.1).1).mono ?_
 rw [HS0.out]
 rintro e w_ ⟨_, rfl, ⟨pa, ca, rfl, h1, h2⟩, hb_⟩
 replace hS := hS.ret hb_ ((Az (by decide)).and AV) ⟨h1, h2⟩
 obtain ⟨Aa, lc, rfl, hcap, -⟩ := id h1.shape
 obtain ⟨Ab, lb, rfl⟩ := CE h2
 clear h1 h2 hb_
 cases fd
 ·obtain rfl : PL = [] := HPL.out.symm.trans (plan_none HFQ.out)
  go_wp2_with (first
   | ((with_reducible refine qA 37 ?_); refine BigFrame.wpList_want rfl fun _ hK => AQ rfl rfl (hS.box 1 rfl) Tryz.underlying31 rfl (by kernel_rfl) (hK _ _ ?_))
   | (go_at_call 45; refine (Jk 5000 (fun _ => by decide) hM.out.ok (by have := hM.out.rlen; omega) hS (fun D w h => h.1.2.1) (fun D w h => (kt _ _ h.1.1).1)).mono ?_; clear hS; rintro e w_ ⟨nn, ff, pl, er, u, hF, rfl, hS⟩; obtain ⟨rfl, hF2⟩ := fwd_well hM.out hM.out.check (by decide) hF; clear hF; obtain ⟨Ap, cp, rfl, _, _⟩ := hS.ro.2.shape; obtain ⟨hf1, hf2, hf3⟩ := IE hF2; rw [HFD.out] at hf1; subst hf1; replace hf3 := Lib.hid hf3; clear hf2 hF2)
   | ((with_reducible refine qA 10 ?_); refine qa hS #[.int .i64 0, .bool false, .slice none 0 0] ?_; clear hS; intro g10 w_ hS)
   | ((with_reducible refine qm 79 ?_); refine qS hS ?_; clear hS; intro w_ hS; (try simp only [Act.put, Act.eval, zz, Value.cells] at hS))
   | ((with_reducible refine qK ?_); refine qC hS ?_))
  go_ret
  exact AM.mk rfl hS.below
 ·obtain ⟨hpe1, hpe2, hpe3⟩ := plan_end hM.out hpl.out HFQ.out
  have HPT := Lib.hid fun n => plan_hit (n := n) hM.out hpl.out HFQ.out
  rw [HPL.out] at hpe1 hpe2 hpe3 HPT
  replace hpe2 := Lib.hid hpe2
  replace hpe3 := Lib.hid hpe3
  have hr6 := hM.out.rlen
  go_wp2_with (first
   | ((with_reducible refine qA 37 ?_); refine BigFrame.wpList_want rfl fun _ hK => AQ rfl rfl (hS.box 1 rfl) Tryz.underlying31 rfl (by kernel_rfl) (hK _ _ ?_))
   | (go_at_call 45; refine (Jk 5000 (fun _ => by decide) hM.out.ok (by have := hM.out.rlen; omega) hS (fun D w h => h.1.2.1) (fun D w h => (kt _ _ h.1.1).1)).mono ?_; clear hS; rintro e w_ ⟨nn, ff, pl, er, u, hF, rfl, hS⟩; obtain ⟨rfl, hF2⟩ := fwd_well hM.out hM.out.check (by decide) hF; clear hF; obtain ⟨Ap, cp, rfl, _, _⟩ := hS.ro.2.shape; obtain ⟨hf1, hf2, hf3⟩ := IE hF2; rw [HFD.out] at hf1; subst hf1; replace hf3 := Lib.hid hf3; clear hf2 hF2)
   | ((with_reducible refine qA 10 ?_); refine qa hS #[.int .i64 0, .bool false, .slice none 0 0] ?_; clear hS; intro g10 w_ hS)
   | ((with_reducible refine qm 79 ?_); refine qS hS ?_; clear hS; intro w_ hS; (try simp only [Act.put, Act.eval, zz, Value.cells] at hS))
   | ((with_reducible refine qK ?_); refine qC hS ?_)
   | ((with_reducible refine qA 60 ?_); refine Aq rfl _ _ rfl #[.slice none 0 0] (by kernel_rfl) ?_; (try simp only [Act.put, List.setIfInBounds_toArray, List.set_cons_zero, List.set_cons_succ]))
   | ((with_reducible refine qA 12 ?_); refine qa hS #[.slice none 0 0] ?_; clear hS; intro g12 w_ hS)
   | ((with_reducible refine qm 27 ?_); refine qS hS ?_; clear hS; intro w_ hS; (try simp only [Act.put, Act.eval, zz, Value.cells] at hS)))
  have hle : pl.length <= PL.length := by
   obtain ⟨h1, _⟩ := hf3.out (by trivial)
   rcases Nat.lt_or_ge PL.length pl.length with h2 | h2
   ·have := h1.2 _ h2 _ ⟨PL, rfl, _, hpe2.out⟩
    rw [hpe3.out] at this; cases this
   ·exact h2
  obtain ⟨K8, k8, hS2⟩ : ∃ K8 : (Nat -> Prop) -> World -> Prop, Hid (∀ D w, K8 D w -> Bx w /\ B7 w D (.agg #[.int .i64 p.roles, .pointer la, .slice As ns cs, .slice Ar p.rules.length cr, .slice An p.never.length cn, .slice Ag p.goal.length cg]) p /\ Sl w D 1 (.slice Aa PL.length lc) PL.length (AX PL)) /\ St W w_ [.box g12 27 #[.slice none 0 0], .box g10 79 #[.int .i64 (nn : Nat), .bool true, .slice Ap pl.length cp], .box g4 37 us, .box g3 31 #[.int .i64 p.roles, .pointer la, .slice As ns cs, .slice Ar p.rules.length cr, .slice An p.never.length cn, .slice Ag p.goal.length cg]] K8 := ⟨_, Lib.hid fun D w h => ⟨(kt _ _ h.1.1.1).1, h.1.1.2.1, h.1.2.1⟩, hS⟩
  clear hS HPL HFQ HFD HS0 hf3
  have hS := hS2
  clear hS2
  have hK8 := Lib.hid hS.stable
  go_loopw [63] (fun iv wr => ∃ (j : Nat) (u : Value) (TS : Nat), iv = .int .i64 (j : Nat) /\ j <= PL.length /\ u.oneCell' = true /\ Hid (CK TS (satS L p j).1) /\ St W wr [.box g12 27 #[u], .box g10 79 #[.int .i64 (nn : Nat), .bool true, .slice Ap pl.length cp], .box g4 37 us, .box g3 31 #[.int .i64 p.roles, .pointer la, .slice As ns cs, .slice Ar p.rules.length cr, .slice An p.never.length cn, .slice Ag p.goal.length cg]] (fun D w => K8 D w /\ A6 w D (.agg #[u]) TS)) (fun iv _ => PL.length - (intOf iv).toNat)
  case atStart => exact ⟨0, .slice none 0 0, 0, rfl, by omega, rfl, Lib.hid (fun i hi => by rw [Nat.zero_testBit] at hi; cases hi), hS.mono (hK8.out.and A5) fun D w h => ⟨h, A6.empty⟩⟩
  case round =>
   clear hS
   obtain ⟨j, u, TS, rfl, hj, hu1, HSB, hS⟩ := hrel
   by_cases hjl : j < PL.length
   ·obtain ⟨k, hk, hkr, hrv, hht, hsn, hrun, hnr⟩ := HPT.out j hjl
    have HSN := Lib.hid hsn
    have HRUN := Lib.hid hrun
    have HNR := Lib.hid hnr
    have HHT := Lib.hid (sub_has HSB.out hht)
    have HY : Hid ((AX PL)[j]? = some (.int .i64 (k : Nat))) := Lib.hid (by simp [AX, hk])
    obtain ⟨bp, op, rfl⟩ := Hv (k8.out _ _ hS.ro.1).2.2 (by omega)
    obtain ⟨b1, o1, y0, m0, rfl, -⟩ := (k8.out _ _ hS.ro.1).2.1.parts.2.2.1.at_ hkr
    obtain ⟨tg, htg⟩ : ∃ tg, (p.rules.getD k AL).target = tg := ⟨_, rfl⟩
    have HTG := Lib.hid htg
    have HRV := Lib.hid hrv
    rw [htg] at HHT HSN
    clear hk hsn hrun hnr hht hrv htg
    obtain ⟨N, hN⟩ : ∃ N, (satS L p j).1 = N := ⟨_, rfl⟩
    rw [hN] at HSB HSN HRUN HNR
    clear hN
    have hlk : (PL.take j).length = j := by rw [List.length_take]; omega
    have HLK := Lib.hid hlk
    clear hlk
    have HSL : Hid (∀ D w, K8 D w -> Sl w D 1 (.slice (some ⟨bp, op, none⟩) j lc) (PL.take j).length (AX (PL.take j))) := Lib.hid fun D w h => by
     rw [HLK.out, show AX (PL.take j) = (AX PL).take j by simp [AX]]
     exact sl_take (k8.out _ _ h).2.2 hj
    obtain ⟨K9, k9, hS2⟩ := (⟨_, Lib.hid fun D w h => h, hS⟩ : ∃ K9 : (Nat -> Prop) -> World -> Prop, Hid (∀ D w, K9 D w -> K8 D w /\ A6 w D (.agg #[u]) TS) /\ St W wr [.box g12 27 #[u], .box g10 79 #[.int .i64 (nn : Nat), .bool true, .slice Ap pl.length cp], .box g4 37 us, .box g3 31 #[.int .i64 p.roles, .pointer la, .slice As ns cs, .slice (some ⟨b1, o1, none⟩) p.rules.length cr, .slice An p.never.length cn, .slice Ag p.goal.length cg]] K9)
    clear hS
    have hS := hS2
    clear hS2
    have hK9 := Lib.hid hS.stable
    go_wp2_with fail
    have hJ0 : GJ W [.box g12 27 #[u], .box g10 79 #[.int .i64 (nn : Nat), .bool true, .slice Ap pl.length cp], .box g4 37 us, .box g3 31 #[.int .i64 p.roles, .pointer la, .slice As ns cs, .slice (some ⟨b1, o1, none⟩) p.rules.length cr, .slice An p.never.length cn, .slice Ag p.goal.length cg]] 27 #[.slice none 0 0] (wr.drew, ⟨none, K9⟩) := hS.drew
    have hRr := @GR.refl W [.box g12 27 #[u], .box g10 79 #[.int .i64 (nn : Nat), .bool true, .slice Ap pl.length cp], .box g4 37 us, .box g3 31 #[.int .i64 p.roles, .pointer la, .slice As ns cs, .slice (some ⟨b1, o1, none⟩) p.rules.length cr, .slice An p.never.length cn, .slice Ag p.goal.length cg]] 27 #[.slice none 0 0]
    have hRt := @GR.trans W [.box g12 27 #[u], .box g10 79 #[.int .i64 (nn : Nat), .bool true, .slice Ap pl.length cp], .box g4 37 us, .box g3 31 #[.int .i64 p.roles, .pointer la, .slice As ns cs, .slice (some ⟨b1, o1, none⟩) p.rules.length cr, .slice An p.never.length cn, .slice Ag p.goal.length cg]] 27 #[.slice none 0 0]
    have hN0 := @GN.start 9 10 wr.drew K9
    clear hS
    refine EN (GR W [.box g12 27 #[u], .box g10 79 #[.int .i64 (nn : Nat), .bool true, .slice Ap pl.length cp], .box g4 37 us, .box g3 31 #[.int .i64 p.roles, .pointer la, .slice As ns cs, .slice (some ⟨b1, o1, none⟩) p.rules.length cr, .slice An p.never.length cn, .slice Ag p.goal.length cg]] 27 #[.slice none 0 0]) (GN 9 10) (⟨none, K9⟩) hRr hRt [.i (.agg #[.int .i64 p.roles, .pointer la, .slice As ns cs, .slice (some ⟨b1, o1, none⟩) p.rules.length cr, .slice An p.never.length cn, .slice Ag p.goal.length cg]), .i (.slice (some ⟨bp, op, none⟩) PL.length lc), .n (j : Nat), .i (.slice (some ⟨bp, op, none⟩) j lc), .s (fun v w => ∃ u, v = .tuple #[.agg #[u], .int .i64 (j : Nat), .bool true] /\ u.oneCell' = true /\ ∀ D w1, w.2.K D w1 -> A6 w1 D (.agg #[u]) N) fun v w w' h hb => by obtain ⟨u, e, e2, h⟩ := h; exact ⟨u, e, e2, fun D w1 h1 => h D w1 (hb.2.1 D w1 h1)⟩, .s (fun v w => ∃ u, v = .tuple #[.agg #[u], .int .i64 (j : Nat), .bool true] /\ u.oneCell' = true /\ ∀ D w1, w.2.K D w1 -> A6 w1 D (.agg #[u]) N) fun v w w' h hb => by obtain ⟨u, e, e2, h⟩ := h; exact ⟨u, e, e2, fun D w1 h1 => h D w1 (hb.2.1 D w1 h1)⟩, .s (fun v w => ∃ u, v = .agg #[u] /\ u.oneCell' = true /\ ∀ D w1, w.2.K D w1 -> A6 w1 D (.agg #[u]) N) fun v w w' h hb => by obtain ⟨u, e, e2, h⟩ := h; exact ⟨u, e, e2, fun D w1 h1 => h D w1 (hb.2.1 D w1 h1)⟩, .n (j : Nat), .b true, .s (fun v w => ∃ g o, v = .pointer (some ⟨g, 0, none⟩) /\ w.2.b = some (g, o)) fun v w w' h hb => hb.var h, .s (fun v w => ∃ g u, w.2.b = some (g, some #[u]) /\ u.oneCell' = true /\ ∀ D w1, w.2.K D w1 -> A6 w1 D (.agg #[u]) N) fun v w w' h hb => by obtain ⟨g, u, h1, h2, h3⟩ := h; exact ⟨g, u, hb.2.2.2 g _ h1, h2, fun D w1 k => h3 D w1 (hb.2.1 D w1 k)⟩, .n (j : Nat), .b true] ?_ ⟨uR (h := fun w hW hN => (hW.1 hJ0).box 3 rfl), uM, uM, ?_, ?_, uM, ?_, ?_, ?_, ?_, ?_, uA, uA, trivial⟩ ?_
    ·first | assumption | (intro i; (try dsimp only); split <;> first | trivial | assumption | (left; assumption))
    ·refine uG fun b__ w hW hN hE K hK => ?_
     have e68 := hE 68
     have e69 := hE 69
     exact Ix rfl Tryz.underlying45 ⟨1, by kernel_rfl⟩ e68 e69 (by omega) (hK _ _ rfl ⟨hRr _, fun _ _ h => h⟩)
    ·refine uG fun b__ w hW hN hE K hK => ?_
     have e67 := hE 67
     have e70 := hE 70
     refine Cc rfl (by kernel_rfl) (by simp only [List.map_cons, List.map_nil, e67, e70]) (srun_any hM.out.links hM.out.ok (by rw [HLK.out]; omega) (hW.1 hJ0) (fun D w1 h => (k8.out _ _ (k9.out _ _ (hW.2.1 D w1 h)).1).2.1) (fun D w1 h => HSL.out _ _ (k9.out _ _ (hW.2.1 D w1 h)).1) (fun D w1 h => (k8.out _ _ (k9.out _ _ (hW.2.1 D w1 h)).1).1)) fun e w' ⟨x, N1, n1, b1, he, hr1, hs⟩ => ⟨_, he, ?_⟩
     have hq := hr1.out.symm.trans HRUN.out
     simp only [Prod.mk.injEq] at hq
     obtain ⟨rfl, rfl, rfl⟩ := hq
     obtain ⟨u', rfl, h1⟩ := BC hs.ro.2
     exact hK _ (w', { w.2 with K := _ }) ⟨u', rfl, h1, fun D w1 h => h.2⟩ (GK.more hs fun D w1 h => h.1)
    ·refine uG fun b__ w hW hN hE K hK => ?_
     have e66 := hE 66
     obtain ⟨u, hu, hu1, h1⟩ := e66
     exact CA rfl hu rfl (hK _ _ ⟨u, rfl, hu1, h1⟩ ⟨hRr _, fun _ _ h => h⟩)
    ·refine uG fun b__ w hW hN hE K hK => ?_
     have e66 := hE 66
     obtain ⟨u, hu, hu1, h1⟩ := e66
     exact CA rfl hu rfl (hK _ _ rfl ⟨hRr _, fun _ _ h => h⟩)
    ·refine uG fun b__ w hW hN hE K hK => ?_
     have e66 := hE 66
     obtain ⟨u, hu, hu1, h1⟩ := e66
     exact CA rfl hu rfl (hK _ _ rfl ⟨hRr _, fun _ _ h => h⟩)
    ·refine uG fun b__ w hW hN hE K hK => ?_
     exact Jj rfl (by kernel_rfl) (by kernel_rfl) (hW.1 hJ0) (hN.1 rfl) fun g w' hs => hK _ (w', { w.2 with b := some (g, none) }) ⟨g, none, rfl, rfl⟩ (GK.made (hN.1 rfl) hs)
    ·refine uG fun b__ w hW hN hE K hK => ?_
     have e14 := hE 14
     have e72 := hE 72
     obtain ⟨g, o, hg, hgb⟩ := e14
     obtain ⟨u, hv, hu1, hset⟩ := e72
     obtain rfl : o = none := (by cases o with | none => rfl | some cs => exact absurd hgb (hN.2 rfl g cs))
     exact Ji rfl hg hv (hW.1 hJ0) hgb (by kernel_rfl) rfl (by simpa using hu1) fun w' hs => hK undef (w', { w.2 with b := some (g, some #[u]) }) ⟨g, u, rfl, hu1, hset⟩ (GK.put hgb hs)
    ·intro vs wz hW hT
     obtain ⟨e67, e68, e69, e70, e71, e66, e72, e73, e74, e14, z10, e15, e16, -⟩ := hT
     have bx : (fun _ : Nat => True) 0 := trivial
     simp only [AE, Act.put, zz, ze]
     obtain ⟨_, hst⟩ := z10
     obtain ⟨g14, o14, hg14, hgb⟩ := e14
     obtain ⟨g9, us2, hgb2, hus2, hset⟩ := hst
     obtain rfl : g14 = g9 := by rw [hgb] at hgb2; injection hgb2 with h; injection h with h1 h2
     have hS : St W wz.1 [.box g14 27 #[us2], .box g12 27 #[u], .box g10 79 #[.int .i64 (nn : Nat), .bool true, .slice Ap pl.length cp], .box g4 37 us, .box g3 31 #[.int .i64 p.roles, .pointer la, .slice As ns cs, .slice (some ⟨b1, o1, none⟩) p.rules.length cr, .slice An p.never.length cn, .slice Ag p.goal.length cg]] (fun D w => K9 D w /\ A6 w D (.agg #[us2]) N) := ((hW.1 hJ0).some hgb2).mono (hK9.out.and A5) fun D w h => ⟨hW.2.1 D w h, hset D w h⟩
     clear hW hJ0 hRr hRt hN0 hgb hgb2 hset e66 e67 e68 e69 e70 e71 e72 e73 e74
     generalize wz.1 = wf at *
     obtain ⟨b2, o2, y0, m0, e2, _, hb, c0, c1, c2, c3, c4, -, -⟩ := (k8.out _ _ (k9.out _ _ hS.ro.1).1).2.1.parts.2.2.1.at_ hkr
     injection e2 with e2
     injection e2 with eb eo _
     subst eb eo
     rw [HRV.out] at c0
     rw [HTG.out] at c3
     simp only [show vs (14 : Nat) = _ from hg14]
     rw [e15, e16]
     clear e15 e16
     generalize vs 66 = s66, vs 67 = s67, vs 68 = s68, vs 69 = s69, vs 70 = s70, vs 71 = s71, vs 72 = s72, vs 73 = s73, vs 74 = s74
     go_wp2_with fail
     refine Ci [.q g3 3, .i (.slice (some ⟨b1, o1, none⟩) p.rules.length cr), .i (.slice (some ⟨bp, op, none⟩) PL.length lc), .n (j : Nat), .q bp (op + (j) * 1), .n (k : Nat), .q b1 (o1 + (k) * 5), .q b1 (o1 + (k) * 5 + 3), .n tg, .n tg] ⟨uF, uC (h := fun w hW hN => (hS.ext hW).shut 4 rfl 3 rfl), uM, uM, uI (h := fun w hW hN => Ak (m := j) Tryz.underlying45 (by kernel_rfl) (by omega) (by omega)), uC (h := fun w hW hN => by rw [Nat.mul_one]; exact CH (k8.out _ _ (k9.out _ _ (hS.ext hW).ro.1).1).2.2 HY.out), uI (h := fun w hW hN => Ak (m := k) Tryz.underlying28 (by kernel_rfl) (by omega) (by omega)), uF, uC (h := fun w hW hN => (hW.cell hb).trans c3), uA, trivial⟩ ?_
     ·intro vs wz hW hT
      obtain ⟨e75, e76, e77, e78, e79, e80, e81, e82, e83, e17, -⟩ := hT
      simp only [AE, Act.put, zz, ze]
      rw [e17]
      have hb9 := Nat.lt_of_lt_of_le hb hW.size
      have c09 := (hW.cell hb).trans c0
      have hS := hS.ext hW
      clear hW e17 e75 e76 e77 e78 e79 e80 e81 e82 e83
      go_wp2_with fail
      refine Ci [.b true, .b false, .b false, .i (.agg #[.int .i64 p.roles, .pointer la, .slice As ns cs, .slice (some ⟨b1, o1, none⟩) p.rules.length cr, .slice An p.never.length cn, .slice Ag p.goal.length cg]), .i (.agg #[us2]), .b false, .b false, .b false, .i (.agg #[u]), .n tg, .b false, .b false, .b false, .q g3 3, .i (.slice (some ⟨b1, o1, none⟩) p.rules.length cr), .i (.slice (some ⟨bp, op, none⟩) PL.length lc), .n (j : Nat), .q bp (op + (j) * 1), .n (k : Nat), .q b1 (o1 + (k) * 5), .q b1 (o1 + (k) * 5), .b false, .b false] ⟨uM, uU, uM, uR (h := fun w hW hN => (hS.ext hW).box 4 rfl), uR (h := fun w hW hN => (hS.ext hW).box 0 rfl), ?_, uP, uM, uR (h := fun w hW hN => (hS.ext hW).box 1 rfl), uM, ?_, uP, uM, uF, uC (h := fun w hW hN => (hS.ext hW).shut 4 rfl 3 rfl), uM, uM, uI (h := fun w hW hN => Ak (m := j) Tryz.underlying45 (by kernel_rfl) (by omega) (by omega)), uC (h := fun w hW hN => by rw [Nat.mul_one]; exact CH (k8.out _ _ (k9.out _ _ (hS.ext hW).ro.1).1).2.2 HY.out), uI (h := fun w hW hN => Ak (m := k) Tryz.underlying28 (by kernel_rfl) (by omega) (by omega)), uF, uC (h := fun w hW hN => (hW.cell hb9).trans c09), uP, trivial⟩ ?_
      ·refine uT fun b__ w hW hE K hK => ?_
       have e87 := hE 87
       have e88 := hE 88
       exact AC rfl (by kernel_rfl) (by simp only [List.map_cons, List.map_nil, e87, e88]) (CZ (k8.out _ _ (k9.out _ _ (hS.ext hW).ro.1).1).2.1 hM.out.ok (k8.out _ _ (k9.out _ _ (hS.ext hW).ro.1).1).1 (hS.ext hW).ro.2) fun v w' h hb => hK v w' (h.trans (by rw [HNR.out])) hb
      ·refine uT fun b__ w hW hE K hK => ?_
       have e92 := hE 92
       have e93 := hE 93
       exact AC rfl (by kernel_rfl) (by simp only [List.map_cons, List.map_nil, e92, e93]) (Cb (.agg #[u]) TS tg _ _ (k9.out _ _ (hS.ext hW).ro.1).2) fun v w' h hb => hK v w' (h.trans (by rw [HHT.out])) hb
      ·intro vs wz hW hT
       obtain ⟨e84, e85, e86, e87, e88, e89, e90, e91, e92, e93, e94, e95, e96, e97, e98, e99, e100, e101, e102, e103, e104, e105, e106, -⟩ := hT
       simp only [AE, Act.put, zz, ze]
       rw [e106]
       have hS := hS.ext hW
       clear hW hb hb9 c0 c1 c2 c3 c4 c09 e84 e85 e86 e87 e88 e89 e90 e91 e92 e93 e94 e95 e96 e97 e98 e99 e100 e101 e102 e103 e104 e105 e106
       go_wp2_with (first
        | ((with_reducible refine qk 27 ?_); first | (refine A7 hS 0 rfl _ _ rfl _ _ rfl _ _ rfl _ (by first | rfl | assumption) Tryz.underlying27 rfl (by kernel_rfl) ?_) | (refine A7 hS 1 rfl _ _ rfl _ _ rfl _ _ rfl _ (by first | rfl | assumption) Tryz.underlying27 rfl (by kernel_rfl) ?_) | (refine A7 hS 2 rfl _ _ rfl _ _ rfl _ _ rfl _ (by first | rfl | assumption) Tryz.underlying27 rfl (by kernel_rfl) ?_) | (refine A7 hS 3 rfl _ _ rfl _ _ rfl _ _ rfl _ (by first | rfl | assumption) Tryz.underlying27 rfl (by kernel_rfl) ?_) | (refine A7 hS 4 rfl _ _ rfl _ _ rfl _ _ rfl _ (by first | rfl | assumption) Tryz.underlying27 rfl (by kernel_rfl) ?_) | (refine A7 hS 5 rfl _ _ rfl _ _ rfl _ _ rfl _ (by first | rfl | assumption) Tryz.underlying27 rfl (by kernel_rfl) ?_))
        | ((with_reducible refine qk 27 ?_); refine BigFrame.wpList_want rfl fun _ hK => AQ rfl rfl (hS.box 1 rfl) Tryz.underlying27 rfl (by kernel_rfl) (hK _ _ ?_))
        | (go_at_call 14; refine (D6 (.agg #[u]) TS tg _ _ (k9.out _ _ hS.ro.1).2).mono ?_; rintro r_ w_ ⟨x, rfl, h1, hb_⟩; obtain ⟨u3, rfl, hu3⟩ := BC h1; replace hS := (hS.ext hb_).add (A5 (v := .agg #[u3]) (N := Bt TS tg)) h1 (fun z hz _ => hz.elim id hS.fresh); clear hb_ h1)
        | ((with_reducible refine qm 27 ?_); refine AH hS 1 rfl _ _ _ rfl _ _ rfl rfl _ _ rfl (by kernel_rfl) (by kernel_rfl) (by simpa using hu3) ?_; clear hS; intro w_ hS; (try simp only [Act.put, Act.eval, zz, Value.cells] at hS)))
       refine ⟨⟨j + 1, u3, Bt TS tg, by go_num, hjl, hu3, Lib.hid (by rw [HSN.out]; exact sub_with HSB.out), ?_⟩, by simp [intOf]; omega⟩
       exact (hS.sub (List.sublist_cons_self _ _)).mono (hK8.out.and A5) fun D w h => ⟨(k9.out _ _ h.1.1).1, h.2⟩
   ·obtain rfl : j = PL.length := by omega
    go_wp2_with (first
     | ((with_reducible refine qB ?_); refine qc ?_ ?_ <;> intro h_ <;> go_prune)
     | ((with_reducible refine qA 112 ?_); refine BigFrame.wpList_want rfl fun _ hK => AQ rfl rfl (hS.box 3 rfl) Tryz.underlying31 rfl (by kernel_rfl) (hK _ _ ?_))
     | (go_at_call 46; refine (srun_any hM.out.links hM.out.ok (by omega) hS (fun D w h => (k8.out _ _ h.1).2.1) (fun D w h => (k8.out _ _ h.1).2.2) (fun D w h => (k8.out _ _ h.1).1)).mono ?_; clear hS; rintro e w_ ⟨x, N1, n1, b1, rfl, hr1, hS⟩; (have hq := hr1.out.symm.trans hpe2.out); simp only [Prod.mk.injEq] at hq; obtain ⟨hq1, rfl, rfl⟩ := hq; replace hq1 := Lib.hid hq1; clear hr1; obtain ⟨ux, rfl, hux⟩ := BC hS.ro.2)
     | ((with_reducible refine qA 18 ?_); refine qa hS #[.slice none 0 0] ?_; clear hS; intro g18 w_ hS)
     | ((with_reducible refine qm 27 ?_); refine AH hS 0 rfl _ _ _ rfl _ _ rfl rfl _ _ rfl (by kernel_rfl) (by kernel_rfl) (by simpa using hux) ?_; clear hS; intro w_ hS; (try simp only [Act.put, Act.eval, zz, Value.cells] at hS))
     | ((with_reducible refine qA 120 ?_); refine BigFrame.wpList_want rfl fun _ hK => AQ rfl rfl (hS.box 4 rfl) Tryz.underlying31 rfl (by kernel_rfl) (hK _ _ ?_))
     | ((with_reducible refine qA 121 ?_); refine BigFrame.wpList_want rfl fun _ hK => AQ rfl rfl (hS.box 0 rfl) Tryz.underlying27 rfl (by kernel_rfl) (hK _ _ ?_))
     | (go_at_call 25; refine (CZ (k8.out _ _ hS.ro.1.1).2.1 hM.out.ok (k8.out _ _ hS.ro.1.1).1 hS.ro.2).mono ?_; rw [hq1.out, hpe3.out]; rintro r_ w_ ⟨_, rfl, rfl, hb_⟩; replace hS := hS.ext hb_; clear hb_)
     | ((with_reducible refine qA 126 ?_); refine st_cell hS 2 rfl _ _ rfl _ 2 rfl _ _ rfl (by decide +kernel) _ rfl ?_))
    go_ret
    exact AM.mk rfl hS.below
end
section
open Go.RowKit Go.ChangeShapes Go.WideShapes
section
variable {H : Type} {enc : TypeId × Value -> H} {P : Program} {w : World} {base : Nat} {sp : Nat -> Bool} {held : Bool}
theorem sl_of_trod {t e : TypeId} {size fuel : Nat} {cs : List Value} {x : DataW H × List MemPlace} (ht : P.underlying t = some (.slice e)) (hc : P.cellsOf e = size) (hsz : 0 < size) (h : DataW.trod enc P w base sp held fuel t cs = some x) :
  ∃ v n xs, cs = [v] /\ Sl w (fun _ => True) size v n xs /\ ∀ k, k < n -> ∃ f' y, DataW.trod enc P w base sp held f' e ((xs.drop (k * size)).take size) = some y := by
 rcases DataW.trod_slice ht h with ⟨rfl, _⟩ | ⟨a, len, cap, elems, rest, n, _, rfl, _, hb, hl, hm, hlen, hel, _⟩
 ·exact ⟨_, 0, [], rfl, ⟨by simp, none, 0, rfl, Nat.le_refl _, Nat.zero_le _, fun h => by omega⟩, fun k hk => by omega⟩
 ·rw [hc] at hel
  have each : ∀ k, k < len -> ∃ ck y, w.cells? base (a.add (k * size)) size = some ck /\ DataW.trod enc P w base sp held n e ck = some y := by
   intro k hk
   have h1 := hel k hk
   rw [List.getElem?_eq_getElem (by omega)] at h1
   obtain ⟨ck, h2, h3⟩ := Option.bind_eq_some_iff.1 h1
   exact ⟨ck, _, h2, h3⟩
  have hadd : ∀ i j, (a.add i).add j = a.add (i + j) := by
   intro i j
   unfold Addr.add
   by_cases h1 : i = 0 <;> by_cases h2 : j = 0 <;> simp [h1, h2, Nat.add_assoc]
  have cell : ∀ j, j < len * size -> ∃ x, w.cell? (a.add j) = some x := by
   intro j hj
   have hk : j / size < len := (Nat.div_lt_iff_lt_mul hsz).2 hj
   obtain ⟨ck, y, h1, h2⟩ := each _ hk
   obtain ⟨_, h3, h4⟩ := World.cells?_some h1
   have h5 := h4 (j % size) (Nat.mod_lt _ hsz)
   rw [hadd, Nat.mul_comm, Nat.div_add_mod] at h5
   rw [h5, List.getElem?_eq_getElem (by rw [h3]; exact Nat.mod_lt _ hsz)]
   exact ⟨_, rfl⟩
  refine ⟨.slice (some a) len cap, len, (List.range (len * size)).map fun j => (w.cell? (a.add j)).getD undef, rfl, ⟨by simp, some a, cap, rfl, hl, hm, fun h0 => ?_⟩, fun k hk => ?_⟩
  ·obtain ⟨x0, hx0⟩ := cell 0 (Nat.mul_pos h0 hsz)
   obtain ⟨b, o, s⟩ := a
   have hs : s = none := cell_spot hx0
   subst hs
   refine ⟨b, o, rfl, trivial, ?_, fun j x hx => ?_⟩
   ·have := hx0
    unfold World.cell? at this
    simp only [Addr.add] at this
    rcases Nat.lt_or_ge b w.heap.size with hlt | hge
    ·exact hlt
    ·simp [Array.getElem?_eq_none hge] at this
   ·simp only [List.getElem?_map, Option.map_eq_some_iff] at hx
    obtain ⟨j', hj', rfl⟩ := hx
    have hjl := (List.getElem?_eq_some_iff.1 hj').1
    rw [List.getElem?_range (by simpa using hjl)] at hj'
    obtain rfl := Option.some.inj hj'
    obtain ⟨y, hy⟩ := cell j (by simpa using hjl)
    rw [hy]
    have e : (⟨b, o, none⟩ : Addr).add j = ⟨b, o + j, none⟩ := by
     unfold Addr.add; split <;> simp [*]
    rw [e] at hy
    exact hy
  ·obtain ⟨ck, y, h1, h2⟩ := each k hk
   obtain ⟨_, h3, h4⟩ := World.cells?_some h1
   refine ⟨n, y, ?_⟩
   rw [<- h2]
   congr 1
   have hle : k * size + size <= len * size := by
    rw [<- Nat.succ_mul]; exact Nat.mul_le_mul_right _ hk
   apply List.ext_getElem?
   intro i
   rcases Nat.lt_or_ge i size with hi | hi
   ·rw [List.getElem?_take_of_lt hi, List.getElem?_drop, List.getElem?_map, List.getElem?_range (by omega)]
    have h5 := h4 i hi
    rw [hadd] at h5
    simp only [Option.map_some]
    rw [h5, List.getElem?_eq_getElem (by omega)]
    simp
   ·rw [List.getElem?_eq_none (by simp; omega), List.getElem?_eq_none (by omega)]
end
theorem u8_nat {n : Int} (h : (Lit.int .u8 n).wf = true) : ∃ m : Nat, n = (m : Int) /\ m < 256 := by
 have := bounds_u8 h
 exact ⟨n.toNat, by omega, by omega⟩
end
section
open Go.ChangeShapes Go.WideShapes Go.ChangeAt Go.RowKit
set_option maxRecDepth 20000 in
theorem bytes_open {H : Type} {enc : TypeId × Value -> H} {W : World} {r : Reach} {b0 base : Nat} {sp : Nat -> Bool} {held : Bool} {v : Value} {d : DataW H} {p : List MemPlace} (hv : Value.okWide Tryz.prog W r b0 22 v) (h : DataW.Trod enc Tryz.prog W base sp held 22 v d p) :
  ∃ l : List Nat, (∀ x ∈ l, x < 256) /\ Sl W (fun _ => True) 1 v l.length (G1 l) := by
 obtain ⟨a0, len0, cap0, rfl⟩ := okWide_slice Tryz.underlying22 hv
 obtain ⟨fuel, hf⟩ := h
 obtain ⟨v, n, xs, e, hs, he⟩ := sl_of_trod Tryz.underlying22 (size := 1) (by kernel_rfl) (by decide) hf
 have hl := hs.1
 have : ∃ zs : List Nat, (∀ x ∈ zs, x < 256) /\ xs = G1 zs := by
  have : ∀ v ∈ xs, ∃ z : Nat, z < 256 /\ v = .int .u8 (z : Nat) := by
   intro v hv
   obtain ⟨k, hk, hkv⟩ := List.mem_iff_getElem.1 hv
   obtain ⟨f', y, hy⟩ := he k (by omega)
   obtain ⟨z, hz, _, hw⟩ := DataW.trod_int Tryz.underlying5 hy
   obtain ⟨m, rfl, hm⟩ := u8_nat hw
   have h0 := congrArg (·[0]?) hz
   simp only [Nat.mul_one, List.getElem?_take_of_lt Nat.zero_lt_one, List.getElem?_drop, Nat.add_zero] at h0
   rw [List.getElem?_eq_getElem hk, hkv] at h0
   exact ⟨m, hm, by simpa using h0⟩
  clear hs he hl
  induction xs with
  | nil => exact ⟨[], fun x hx => by simp at hx, rfl⟩
  | cons a r ih =>
   obtain ⟨zs, hzs, rfl⟩ := ih fun v hv => this v (List.mem_cons_of_mem _ hv)
   obtain ⟨z, hz, rfl⟩ := this a List.mem_cons_self
   exact ⟨z :: zs, fun x hx => by rcases List.mem_cons.1 hx with rfl | hx; exact hz; exact hzs x hx, rfl⟩
 obtain ⟨zs, hzs, rfl⟩ := this
 have hz : zs.length = n := by simpa [G1] using hl
 obtain rfl : v = .slice a0 len0 cap0 := by simpa [Value.cells] using e.symm
 exact ⟨zs, hzs, hz ▸ hs⟩
end
section
open Go.RowKit Go.ChangeShapes Go.WideShapes
theorem boxF_of_reads {w : World} {n : String} {g : Nat} {t e : TypeId} {m : Nat} {k : IntKind} {zs : List Int} (hg : Tryz.prog.globalNamed n = some g) (hty : (Tryz.prog.globals[g]?).map (·.type) = some t)
  (ht : Tryz.prog.underlying t = some (.array m e)) (he : Tryz.prog.underlying e = some (.int k)) (hce : Tryz.prog.cellsOf e = 1) (hct : Tryz.prog.cellsOf t = m) (h : Lib.VarReads Tryz.prog w n (Lib.tabData k zs)) :
  ∃ t, BoxF w g t (zs.map fun z => Value.int k z).toArray := by
 obtain ⟨g', t', cs, fuel, p, hg', hty', hvar, hd⟩ := h
 obtain rfl := Option.some.inj (hg.symm.trans hg')
 obtain rfl := Option.some.inj (hty.symm.trans hty')
 have hcs := Lib.cells_of_tab ht he hce hct hd
 simp only [World.var?, hg, Option.bind_some] at hvar
 split at hvar
 ·rename_i cs' t'' f heq
  obtain rfl := Option.some.inj hvar
  refine ⟨(t'', f), ?_⟩
  rw [<- hcs]
  exact heq
 ·cases hvar
end
section
open Go.RowKit Go.ChangeShapes Go.WideShapes
theorem dtab_of_reads {w : World} (h1 : Lib.VarReads Tryz.prog w "math/bits.deBruijn64tab" Rows.laid_math_bits_deBruijn64tab) : Bx w := by
 have e1 : (Rows.laid_math_bits_deBruijn64tab : DataW Unit) = Lib.tabData .u8 (dbL.map fun x : Nat => (x : Int)) := by kernel_rfl
 rw [e1] at h1
 obtain ⟨t, b1⟩ := boxF_of_reads (g := 0) (by kernel_rfl) (t := 175) (by kernel_rfl) Tryz.underlying175 Tryz.underlying5 (by kernel_rfl) (by kernel_rfl) h1
 have e : (List.map (fun z => Value.int .u8 z) (dbL.map fun x : Nat => (x : Int))) = G1 dbL := by simp [G1]
 rw [e] at b1
 intro q hq
 rw [b1.cell, List.getElem?_toArray]
 exact u8s_at _ _ hq
end
section
open Go.ChangeShapes Go.WideShapes Go.ChangeAt Go.RowKit
theorem Ho (W : World) (h : laidMetH Tryz.prog Rows.saturatePlansRow.laid W) : Bx W := by
 have h' : laidMetH Tryz.prog [("math/bits.deBruijn64tab", Rows.laid_math_bits_deBruijn64tab)] W := h
 rw [MakeChecks.laidMetH_plain _ _ _ (by kernel_rfl)] at h'
 exact dtab_of_reads (Lib.laidMet.reads h' (.head _))
noncomputable def tplanStart (os : Os) : World := World.laidAll Tryz.prog os Rows.saturatePlansRow.laid
theorem Iq (os : Os) (args : Array Value) : laidMetH Tryz.prog Rows.saturatePlansRow.laid ((tplanStart os).forCall (fun _ _ => 0) ⟨#[], args, []⟩).memory := by
 rw [MakeChecks.laidMetH_plain _ _ _ (by kernel_rfl)]
 exact laidMet_laidAll _ (by kernel_rfl) (by kernel_rfl)
theorem tplan_own : ownKnob Tryz.prog.godebug = none := by kernel_rfl
theorem tplan_laidOut : laidOutB Tryz.prog = true := by kernel_rfl
set_option maxRecDepth 100000 in
theorem tplan_lifted (os : Os) (started : os.Started) (H : Type) (enc : TypeId × Value -> H) :
  ReturnsInHanded {} Tryz.checked os 11 .any (fun w args => (Rows.saturatePlansSpec.pre enc Tryz.prog Tryz.f11 [] false w args /\ laidMetH Tryz.prog Rows.saturatePlansRow.laid w) /\ sizedMet enc Tryz.prog Tryz.f11 (OpenSpec.ofChange Rows.saturatePlansSpec) false w args)
   (Rows.saturatePlansSpec.post enc Tryz.prog Tryz.f11 false true false false) := by
 refine returnsInHanded_of_change_and (C := Tryz.checked) (X := fun w _ => laidMetH Tryz.prog Rows.saturatePlansRow.laid w) (fun _ _ _ hh h => h.of_heap hh) tplan_own started (by kernel_rfl) Tryz.func11
  (ChangeSpec.witness_shaped (enc := enc) (C := Tryz.checked) (os := os) (X := fun w _ => laidMetH Tryz.prog Rows.saturatePlansRow.laid w) false (tplanStart os) #[.slice none 0 0] 8 (World.laidAll_os _ _ _) (World.shaped_of_ZipB (by kernel_rfl) (by kernel_rfl)) (by kernel_rfl) (by kernel_rfl) (by kernel_rfl) (Iq os _)) ?_
 intro W base args ds gs before hval0 hW _ _ hL _
 have hval : ∀ (j : Nat) t v, Tryz.f11.params[j]? = some t -> args[j]? = some v -> Value.okWide Tryz.prog W .any base t v := hval0
 have hW' := hW
 obtain ⟨p, q, hA0, hV, rfl, hfz, hnd⟩ := hW
 have hA : DataW.TrodAll enc Tryz.prog W 0 (fun _ => true) true Tryz.f11.params.toList args.toList ds p := hA0
 rw [Tryz.params11] at hA hval
 obtain ⟨v0, d0, rfl, rfl, h0⟩ := trodAll_one hA
 obtain ⟨rfl, rfl⟩ := trodVars_none hV
 obtain ⟨l, hl, hs⟩ := bytes_open (hval 0 _ v0 rfl rfl) h0
 have hT := Ho W hL
 have lt : ∀ z ∈ p, z.block < W.heap.size := fun z hz => by simpa using hW'.lt z (by simpa using hz)
 refine (lplans35_any v0 l W _ hl hs hT).mono fun E W' he => ?_
 obtain ⟨r, rfl, rfl, hb⟩ := he
 refine ⟨_, rfl, _, _, _, [], p, [], hW', ?_, ?_, ?_, hb.frame _, fun h => by cases h⟩
 ·exact trodAll_mk1 (shut_bool Tryz.underlying4 true)
 ·rw [Tryz.params11]
  exact trodAll_mk1 (Below.trod tplan_laidOut (by kernel_rfl) (of_decide_eq_true (by kernel_rfl)) h0 hb fun z hz => lt z (hz))
 ·rfl
theorem tplan_holds : Rows.SaturatePlansSaid :=
 OpenClaim.holds_of_wide 11 Tryz.f11 rfl rfl rfl rfl rfl rfl rfl ⟨rfl, rfl, rfl, rfl, rfl⟩ rfl rfl rfl rfl rfl (by kernel_rfl) Tryz.func11 (by kernel_rfl)
  (of_decide_eq_true (by kernel_rfl)) (by unfold Func.isWrapper; rw [if_neg (by decide +kernel)]; exact ⟨rfl, rfl⟩)
  (fun os started H enc _ => tplan_lifted os started H enc)
end
section
open Go
theorem tplan_card : Rows.SaturatePlansCardSaid :=
 Claim7.holds_tied_plain_at .later [] [.data] true (true, "c3149becd198d29015449e0d705ae27b5a03ac5ddd59b56b3bc98e4a229c6d98") false
  tplan_holds (fun _ h => by cases h) (by kernel_rfl) (fun _ h => by cases h) saturatePlans_row_tie rfl ⟨rfl, rfl⟩ (by kernel_rfl) rfl
  (fun f fn hf hfn => by
   obtain rfl : f = 11 := Option.some.inj ((show Tryz.prog.funcNamed "arbac/arbaclaw35.SaturatePlans" = some 11 by kernel_rfl).symm.trans hf) |>.symm
   obtain rfl : fn = Tryz.f11 := (Option.some.inj (Tryz.func11.symm.trans hfn)).symm
   exact ⟨by kernel_rfl, fun j t ht => by
    rw [Tryz.params11] at ht
    have h3 : t = 22 := by
     rcases j with _ | j
     ·simp at ht; simp [<- ht]
     ·simp at ht
    rcases h3 with rfl
    ·exact (show Tryz.prog.wantsStandIn 22 = false by kernel_rfl)⟩)
  (by kernel_rfl)
end
end Go.Proofs.YtjjhcdkamohgnaaGreatDoor
namespace Go.Proofs.YtjjhcdkamohgnaaGreatDoor
#print axioms tplan_card
end Go.Proofs.YtjjhcdkamohgnaaGreatDoor
