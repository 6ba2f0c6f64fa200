/-
  What CertificateEquals computes: true, on all raw certificates.
-/
import Derived.Test.YtenpkgdnlogfiaaDoorRef8
import Derived.Test.YtenpkgdnlogfiaaDoorTyp4
import Derived.Test.YtenpkgdnlogfiaaDoorAwake2
namespace Go.Proofs.YtenpkgdnlogfiaaDoor
open Go.RowKit
attribute [local go_sem ↓] Go.wp_at_zero Go.wp_at_succ
set_option maxRecDepth 20000

theorem IsRaw.keep {w w' : World} {D : Nat → Prop} {v : Value} {x : RawCert} (h : IsRaw w D v x) (hsz : w.heap.size ≤ w'.heap.size) (hk : ∀ p : Addr, D p.block → p.block < w.heap.size → w'.cell? p = w.cell? p) : IsRaw w' D v x := by
  obtain ⟨pv, qv, h1, h2, h3⟩ := h
  exact ⟨pv, qv, h1, h2.keep hsz hk, h3.keep hsz hk⟩
theorem IsRaw.imp {w : World} {D D' : Nat → Prop} {v : Value} {x : RawCert} (h : IsRaw w D v x) (hD : ∀ b, D b → b < w.heap.size → D' b) : IsRaw w D' v x := by
  obtain ⟨pv, qv, h1, h2, h3⟩ := h
  exact ⟨pv, qv, h1, h2.imp hD, h3.imp hD⟩
theorem IsRaw.ext {w w' : World} {D : Nat → Prop} {v : Value} {x : RawCert} (h : IsRaw w D v x) (hb : Below w.heap.size w w') : IsRaw w' D v x := h.keep hb.size fun _ _ hp => hb.cell hp
theorem IsRaw.drew {w : World} {D : Nat → Prop} {v : Value} {x : RawCert} (h : IsRaw w D v x) : IsRaw w.drew D v x := h.keep (Nat.le_refl _) fun _ _ _ => rfl
theorem IsRaw.alloc {w : World} {D : Nat → Prop} {v : Value} {x : RawCert} (h : IsRaw w D v x) (o : Obj) : IsRaw (w.alloc o) D v x := h.keep (by simp) fun p _ hp => World.cell?_alloc_lt w o p hp
theorem IsRaw.upd {g : Nat} {w w' : World} {D : Nat → Prop} {v : Value} {x : RawCert} (h : IsRaw w D v x) (hU : Upd g w w') (hD : ∀ b, D b → b < w.heap.size → b ≠ g) : IsRaw w' D v x := h.keep (Nat.le_of_eq hU.size.symm) fun _ h1 h2 => hU.cell (hD _ h1 h2)
theorem IsRaw.app {w w' : World} {base : Nat} {v0 v1 : Value} {v : Value} {x : RawCert} (h : IsRaw w (notOwn base v0) v x) (hg : w.grownBy w' v0.ownBlock) (hat : ∀ k, v1.ownBlock = some k → v0.ownBlock = some k ∨ w.heap.size ≤ k) : IsRaw w' (notOwn base v1) v x :=
  ((h.imp (D' := fun b => (base ≤ b ∧ v0.ownBlock ≠ some b) ∧ b < w.heap.size) fun _ h1 h2 => ⟨h1, h2⟩).keep hg.size fun _ h1 h2 => grown_cell hg h2 h1.1.2).imp fun b h1 _ => ⟨h1.1.1, fun e => by
    rcases hat b e with h | h
    · exact h1.1.2 h
    · have := h1.2; omega⟩
theorem makeC_small {x : RawCert} (hx : x.ok) : Small (makeC x).cubes := by
  have h0 : Small (cubesM x) := cubesM_small hx
  have hz : Small (List.replicate 2001 (0, 0)) := by
    intro z hz
    obtain ⟨_, rfl⟩ := List.mem_replicate.1 hz
    exact ⟨by decide, by decide⟩
  unfold makeC
  dsimp only
  generalize List.replicate 2001 ((0 : Nat), (0 : Nat)) = L at *
  split
  · intro z hz
    revert h0 hz
    have h1 : ∀ z ∈ cubesM x, z.1 < 256 := by
      intro z hz
      obtain ⟨c, hc, rfl⟩ := List.mem_map.1 hz
      exact (fit_small (c := ⟨c.a, c.b, c.odd && decide (0 < x.odd)⟩) (hx.2.2 c (List.mem_of_mem_take hc))).1
    revert h1
    cases cubesM x with
    | nil => intro _ _ h; simp [headOdd] at h
    | cons a r =>
      intro h1 h0 h
      obtain ⟨y, n⟩ := a
      rcases List.mem_cons.1 h with rfl | h
      · refine ⟨?_, (h0 _ List.mem_cons_self).2⟩
        have := h1 _ List.mem_cons_self
        have h2 : y ||| 1 < 2 ^ 8 := Nat.or_lt_two_pow (by simpa using this) (by decide)
        dsimp only
        unfold T64; omega
      · exact h0 _ (List.mem_cons_of_mem _ h)
  · split
    · exact hz
    · split
      · intro z hz; simp at hz
      · exact h0
theorem makeC_len (x : RawCert) : (makeC x).plan.length ≤ 1000000 ∧ (makeC x).cubes.length ≤ 1000000 := by
  have h1 : (planM x).length ≤ 12 := by simp [planM]; omega
  have h2 : (cubesM x).length ≤ 8 := by simp [cubesM]; omega
  have h3 : (headOdd (cubesM x)).length = (cubesM x).length := by cases cubesM x <;> rfl
  have h4 : (List.replicate 10001 (0 : Int)).length = 10001 := List.length_replicate
  have h5 : (List.replicate 2001 ((0 : Nat), (0 : Nat))).length = 2001 := List.length_replicate
  unfold makeC
  dsimp only
  generalize List.replicate 10001 (0 : Int) = M at *
  generalize List.replicate 2001 ((0 : Nat), (0 : Nat)) = L at *
  constructor
  · split
    · omega
    · split
      · simp
      · omega
  · split
    · omega
    · split
      · omega
      · split
        · simp
        · omega
theorem makeC_prob {x : RawCert} (hx : x.ok) : (makeC x).prob.length = 32 ∧ Bytes (makeC x).prob := by
  unfold makeC
  dsimp only
  refine ⟨by simp, fun z hz => ?_⟩
  rcases List.mem_or_eq_of_mem_set hz with h | rfl
  · simp at h; omega
  · exact hx.1
theorem rc_of {x : RawCert} (hx : x.ok) {w w' : World} {v : Value} (h : ∃ pv qv, v = .agg (cc (makeC x).prob (makeC x).reach pv qv) ∧ Sl w' (w.heap.size ≤ ·) 1 pv (makeC x).plan.length (ints (makeC x).plan) ∧ RCubes w' (w.heap.size ≤ ·) qv (makeC x).cubes) :
    IsRCert w' (fun b => w.heap.size ≤ b ∧ b < w'.heap.size) v (makeC x) := by
  obtain ⟨pv, qv, h1, h2, h3⟩ := h
  exact ⟨pv, qv, h1, (makeC_prob hx).1, (makeC_prob hx).2, h2.imp fun b h1 h2 => ⟨h1, h2⟩, h3.imp fun b h1 h2 => ⟨h1, h2⟩⟩
theorem IsRCert.row {w : World} {D : Nat → Prop} {v : Value} {c : CertD} (h : IsRCert w D v c) : ∃ cs : Array Value, v = .agg cs ∧ cs.size = 35 ∧ cs.all (·.oneCell') = true := by
  obtain ⟨pv, qv, rfl, h32, _, hp, hq⟩ := h
  obtain ⟨A, c1, rfl, _, _⟩ := hp.shape
  obtain ⟨B, c2, rfl, _, _⟩ := hq.shape
  exact ⟨_, rfl, cc_size _ _ _ _ h32, cc_one _ _ _ _ _ _ _ _⟩
theorem IsCert.upd {g : Nat} {w w' : World} {D : Nat → Prop} {v : Value} {c : CertD} (h : IsCert w D v c) (hU : Upd g w w') (hD : ∀ b, D b → b < w.heap.size → b ≠ g) : IsCert w' D v c := h.keep (Nat.le_of_eq hU.size.symm) fun _ h1 h2 => hU.cell (hD _ h1 h2)
theorem IsCert.row {w : World} {D : Nat → Prop} {v : Value} {c : CertD} (h : IsCert w D v c) : ∃ cs : Array Value, v = .agg cs ∧ cs.size = 35 ∧ cs.all (·.oneCell') = true := by
  obtain ⟨pv, qv, rfl, h32, _, hp, hq⟩ := h.cc
  obtain ⟨A, c1, rfl, _, _⟩ := hp.shape
  obtain ⟨B, c2, rfl, _, _⟩ := hq.shape
  exact ⟨_, rfl, cc_size _ _ _ _ h32, cc_one _ _ _ _ _ _ _ _⟩
theorem eqC_comm (a b : CertD) : eqC a b = eqC b a := by
  rw [Bool.eq_iff_iff]
  simp only [eqC, Bool.and_eq_true, beq_iff_eq]
  constructor <;> (rintro ⟨h1, h2, h3, h4⟩; exact ⟨h1.symm, h2.symm, h3.symm, h4.symm⟩)
theorem eqC_self (a : CertD) : eqC a a = true := by simp [eqC]
theorem beq_self_bool (b : Bool) : (b == b) = true := by cases b <;> rfl
theorem run_eqb (b : Bool) (w : World) : (binOp .eql 4 (.bool b) (.bool b)).run Tryd.prog w = .ok (.bool true) w := by cases b <;> go_simp

set_option maxHeartbeats 4000000 in
theorem certequals_any (u v : Value) (x y : RawCert) (hx : x.ok) (hy : y.ok) (w : World) (hT : Tab w) (D E : Nat → Prop) (hu : IsRaw w D u x) (hv : IsRaw w E v y) :
    Calls Tryd.prog 3 #[u, v] w (Ret (fun r _ => r = .bool true) w) := by
  obtain ⟨us, rfl, hus⟩ : ∃ us : Array Value, u = .agg us ∧ us.size = 5 := by obtain ⟨_, _, rfl, _⟩ := hu; exact ⟨_, rfl, rfl⟩
  obtain ⟨vs', rfl, hvs'⟩ : ∃ us : Array Value, v = .agg us ∧ us.size = 5 := by obtain ⟨_, _, rfl, _⟩ := hv; exact ⟨_, rfl, rfl⟩
  have hi1 : (Tryd.prog.info? 25).map (·.size) = some us.size := by rw [hus]; kernel_rfl
  have hi2 : (Tryd.prog.info? 25).map (·.size) = some vs'.size := by rw [hvs']; kernel_rfl
  have HI1 := Lib.hid hi1
  have HI2 := Lib.hid hi2
  clear hus hvs' hi1 hi2
  go_enter Tryd.func3, Tryd.ntmps3
  go_wp2_with (first
    | ((with_reducible show wpList _ _ _ (⟨some 2, _, _, _, _, _⟩ :: _) _ _); refine wpList_box_op rfl _ _ rfl (.agg us) us rfl rfl ?_; intro w1 hX1 hB1)
    | ((with_reducible show wpList _ _ _ (⟨some 3, _, _, _, _, _⟩ :: _) _ _); refine wpList_box_op rfl _ _ rfl (.agg vs') vs' rfl rfl ?_; intro w2 hY2 hB2; have HX2 := Lib.hid (hX1.ext hB2); have HY2 := Lib.hid hY2; have HB2 := Lib.hid (hB1.trans (hB2.mono hB1.size)); have hT2 := (hT.ext hB1).ext hB2; have l2 := hX1.lt; clear hX1 hB1 hY2 hB2)
    | (go_at_call 7; refine (awake_any _ hT2).mono ?_; rintro e w3 ⟨_, rfl, rfl, hb3⟩))
  have HX := Lib.hid (HX2.out.ext hb3)
  have HY := Lib.hid (HY2.out.ext hb3)
  have hB3 := HB2.out.trans (hb3.mono HB2.out.size)
  replace hu := IsRaw.ext hu hB3
  replace hv := IsRaw.ext hv hB3
  have HMX := Lib.hid (show ∃ c, c = makeC x from ⟨_, rfl⟩)
  obtain ⟨c, hc⟩ := HMX.out
  obtain ⟨d, hd⟩ : ∃ d, d = makeC y := ⟨_, rfl⟩
  have HCx : ∀ (v : Value) (wa w' : World), (∃ pv qv, v = .agg (cc (makeC x).prob (makeC x).reach pv qv) ∧ Sl w' (wa.heap.size ≤ ·) 1 pv (makeC x).plan.length (ints (makeC x).plan) ∧ RCubes w' (wa.heap.size ≤ ·) qv (makeC x).cubes) → IsRCert w' (fun b => wa.heap.size ≤ b ∧ b < w'.heap.size) v c := fun v wa w' h => by rw [hc]; exact rc_of hx h
  have HDx : ∀ (v : Value) (wa w' : World), (∃ pv qv, v = .agg (cc (makeC y).prob (makeC y).reach pv qv) ∧ Sl w' (wa.heap.size ≤ ·) 1 pv (makeC y).plan.length (ints (makeC y).plan) ∧ RCubes w' (wa.heap.size ≤ ·) qv (makeC y).cubes) → IsRCert w' (fun b => wa.heap.size ≤ b ∧ b < w'.heap.size) v d := fun v wa w' h => by rw [hd]; exact rc_of hy h
  have HSc := Lib.hid (show Small c.cubes ∧ c.plan.length ≤ 1000000 ∧ c.cubes.length ≤ 1000000 by rw [hc]; exact ⟨makeC_small hx, makeC_len x⟩)
  have HSd := Lib.hid (show Small d.cubes ∧ d.plan.length ≤ 1000000 ∧ d.cubes.length ≤ 1000000 by rw [hd]; exact ⟨makeC_small hy, makeC_len y⟩)
  replace HCx := Lib.hid HCx
  replace HDx := Lib.hid HDx
  clear HX2 HY2 hT2 HB2 hb3 hT hc hd HMX
  have HB3 := Lib.hid hB3
  clear hB3
  generalize hgx : w.heap.size = gx at *
  have HGX := Lib.hid hgx
  clear hgx
  generalize w1.heap.size = gy at *
  refine wp_region_tail2 (fun i lo hi v w => match i with
    | 0 => v = .agg us
    | 1 => IsRCert w (fun b => lo ≤ b ∧ b < hi) v c
    | 2 => v = .agg vs'
    | 3 => IsRCert w (fun b => lo ≤ b ∧ b < hi) v d
    | 4 => ∃ g, v = .pointer (some ⟨g, 0, none⟩) ∧ Box w g 30 (zeroCells Tryd.prog 30) ∧ lo ≤ g ∧ g < hi
    | 5 => ∃ g, v = .pointer (some ⟨g, 0, none⟩) ∧ Box w g 30 (zeroCells Tryd.prog 30) ∧ lo ≤ g ∧ g < hi
    | 6 => True
    | 7 => True
    | _ => True) 6 [7] (by kernel_rfl) (by kernel_rfl) (by kernel_rfl) (by kernel_rfl) (by kernel_rfl) ?mono ⟨.inr ?r0, .inr ?r1, .inr ?r2, .inr ?r3, .inr ?r4, .inr ?r5, .inl (by decide), .inl (by decide), trivial⟩ ?post
  case mono =>
    intro i lo hi v w w' h hb
    match i, h with
    | 0, h => exact h
    | 1, h => exact IsRCert.ext h hb
    | 2, h => exact h
    | 3, h => exact IsRCert.ext h hb
    | 4, h => exact by obtain ⟨g, e, hb2, h1⟩ := h; exact ⟨g, e, hb2.ext hb, h1⟩
    | 5, h => exact by obtain ⟨g, e, hb2, h1⟩ := h; exact ⟨g, e, hb2.ext hb, h1⟩
    | 6, h => exact h
    | 7, h => exact h
    | _ + 8, h => trivial
  case r0 =>
    refine truleG fun b w hW hold hpre => ⟨fun hwant K hK => ?_, fun hwant => ?_⟩
    · clear hwant
      have e2 : b.eval (.tmp 2) = .pointer (some ⟨gx, 0, none⟩) := (hold 2 (by kernel_rfl)).trans rfl
      exact opw_row rfl e2 (HX.out.ext (undrew hW)) Tryd.underlying25 rfl HI1.out (hK _ _ rfl (Below.refl _ _))
    · rw [want_none rfl] at hwant; cases hwant
  case r1 =>
    refine truleG fun b w hW hold hpre => ⟨fun hwant K hK => ?_, fun hwant => ?_⟩
    · clear hwant
      have e11 : b.eval (.tmp 11) = .agg us := by obtain ⟨_, _, h⟩ := hpre ⟨0, _⟩ (Array.mem_of_getElem? (i := 0) rfl) rfl _ _ rfl rfl; exact h
      exact opw_call rfl (by kernel_rfl) (by simp [e11]) (rmake_any (.agg us) x hx w D (IsRaw.ext hu (undrew hW))) fun v w' h hb => hK v w' (HCx.out _ _ _ h) hb
    · rw [want_none rfl] at hwant; cases hwant
  case r2 =>
    refine truleG fun b w hW hold hpre => ⟨fun hwant K hK => ?_, fun hwant => ?_⟩
    · clear hwant
      have e3 : b.eval (.tmp 3) = .pointer (some ⟨gy, 0, none⟩) := (hold 3 (by kernel_rfl)).trans rfl
      exact opw_row rfl e3 (HY.out.ext (undrew hW)) Tryd.underlying25 rfl HI2.out (hK _ _ rfl (Below.refl _ _))
    · rw [want_none rfl] at hwant; cases hwant
  case r3 =>
    refine truleG fun b w hW hold hpre => ⟨fun hwant K hK => ?_, fun hwant => ?_⟩
    · clear hwant
      have e13 : b.eval (.tmp 13) = .agg vs' := by obtain ⟨_, _, h⟩ := hpre ⟨2, _⟩ (Array.mem_of_getElem? (i := 0) rfl) rfl _ _ rfl rfl; exact h
      exact opw_call rfl (by kernel_rfl) (by simp [e13]) (rmake_any (.agg vs') y hy w E (IsRaw.ext hv (undrew hW))) fun v w' h hb => hK v w' (HDx.out _ _ _ h) hb
    · rw [want_none rfl] at hwant; cases hwant
  case r4 =>
    refine truleG fun b w hW hold hpre => ⟨fun hwant K hK => opw_alloc rfl (by kernel_rfl) fun w' hb hbel => hK _ _ ⟨_, rfl, hb, Nat.le_refl _, hb.lt⟩ hbel, fun hwant => ?_⟩
    rw [want_none rfl] at hwant; cases hwant
  case r5 =>
    refine truleG fun b w hW hold hpre => ⟨fun hwant K hK => opw_alloc rfl (by kernel_rfl) fun w' hb hbel => hK _ _ ⟨_, rfl, hb, Nat.le_refl _, hb.lt⟩ hbel, fun hwant => ?_⟩
    rw [want_none rfl] at hwant; cases hwant
  case post =>
    intro b wz lo hi hW hdf hsz hold hT hap hlim
    have e5 : (fun (v : Value) (w : World) => ∃ g, v = .pointer (some ⟨g, 0, none⟩) ∧ Box w g 30 (zeroCells Tryd.prog 30) ∧ lo 4 ≤ g ∧ g < hi 4) (b.eval (.tmp 5)) wz := hT 4 _ 5 (by decide) rfl rfl
    have e12 : (fun (v : Value) (w : World) => IsRCert w (fun b => lo 1 ≤ b ∧ b < hi 1) v c) (b.eval (.tmp 12)) wz := hT 1 _ 12 (by decide) rfl rfl
    have e6 : (fun (v : Value) (w : World) => ∃ g, v = .pointer (some ⟨g, 0, none⟩) ∧ Box w g 30 (zeroCells Tryd.prog 30) ∧ lo 5 ≤ g ∧ g < hi 5) (b.eval (.tmp 6)) wz := hT 5 _ 6 (by decide) rfl rfl
    have e14 : (fun (v : Value) (w : World) => IsRCert w (fun b => lo 3 ≤ b ∧ b < hi 3) v d) (b.eval (.tmp 14)) wz := hT 3 _ 14 (by decide) rfl rfl
    have e11 : b.eval (.tmp 11) = .agg us := hT 0 _ 11 (by decide) rfl rfl
    have e13 : b.eval (.tmp 13) = .agg vs' := hT 2 _ 13 (by decide) rfl rfl
    obtain ⟨vs, hvs, hb⟩ := frame_of hdf hsz hold
    replace e5 := (hvs 5) ▸ e5
    replace e12 := (hvs 12) ▸ e12
    replace e6 := (hvs 6) ▸ e6
    replace e14 := (hvs 14) ▸ e14
    replace e11 : vs 11 = .agg us := (hvs 11).symm.trans e11
    replace e13 : vs 13 = .agg vs' := (hvs 13).symm.trans e13
    subst hb
    clear hvs hold hT hdf hsz
    simp only [setAll, Act.put, List.setIfInBounds_toArray, List.set_cons_zero, List.set_cons_succ, List.getElem_toArray, List.getElem_cons_succ, List.getElem_cons_zero]
    obtain ⟨g5, e5, hb5, l5, u5⟩ := e5
    obtain ⟨g6, e6, hb6, l6, u6⟩ := e6
    replace e12 : IsRCert wz (fun b => lo 1 ≤ b ∧ b < hi 1) (vs 12) c := e12
    replace e14 : IsRCert wz (fun b => lo 3 ≤ b ∧ b < hi 3) (vs 14) d := e14
    obtain ⟨A, hA, sA, oA⟩ := IsRCert.row e12
    obtain ⟨B, hB, sB, oB⟩ := IsRCert.row e14
    rw [hA] at e12
    rw [hB] at e14
    have a45 := hap 4 5 (by decide) (by decide) (by decide) (by decide) (by decide)
    have a41 := hap 4 1 (by decide) (by decide) (by decide) (by decide) (by decide)
    have a43 := hap 4 3 (by decide) (by decide) (by decide) (by decide) (by decide)
    have a51 := hap 5 1 (by decide) (by decide) (by decide) (by decide) (by decide)
    have a53 := hap 5 3 (by decide) (by decide) (by decide) (by decide) (by decide)
    have L4 := (hlim 4 (by decide) (by decide)).1
    have L5 := (hlim 5 (by decide) (by decide)).1
    have n56 : g5 ≠ g6 := by omega
    have hz35 : (zeroCells Tryd.prog 30).size = 35 := by kernel_rfl
    have hi35 : (Tryd.prog.info? 30).map (·.size) = some 35 := by kernel_rfl
    have r1 : IsRCert wz (fun b => b ≠ g5 ∧ b ≠ g6) (.agg A) c := e12.imp fun b h _ => by omega
    have r2 : IsRCert wz (fun b => b ≠ g5 ∧ b ≠ g6) (.agg B) d := e14.imp fun b h _ => by omega
    have b5 : gx ≤ w3.heap.size := by rw [← HGX.out]; exact HB3.out.size
    have hBz := HB3.out.trans (hW.mono b5)
    have l5' : gx ≤ g5 := by omega
    have l6' : gx ≤ g6 := by omega
    clear hap hlim a45 a41 a43 a51 a53 L4 L5 l5 u5 l6 u6 e12 e14
    simp only [show vs (5 : Nat) = _ from e5, show vs (6 : Nat) = _ from e6, hA, hB]
    (intro o_ ho_; simp only [List.getElem?_toArray, List.getElem?_cons_succ, List.getElem?_cons_zero, Option.some.injEq] at ho_; subst ho_)
    refine opw_store rfl rfl rfl hb5 (by rw [sA]; exact hi35) (by rw [sA, hz35]) oA fun w4 hA4 hU4 => ?_
    (intro o_ ho_; simp only [List.getElem?_toArray, List.getElem?_cons_succ, List.getElem?_cons_zero, Option.some.injEq] at ho_; subst ho_)
    simp only [Act.put, List.setIfInBounds_toArray, List.set_cons_zero, List.set_cons_succ]
    refine opw_store rfl rfl rfl (hb6.upd hU4 (Ne.symm n56)) (by rw [sB]; exact hi35) (by rw [sB, hz35]) oB fun w5 hB5 hU5 => ?_
    replace r1 := Lib.hid (((r1.upd hU4 fun b h _ => h.1).upd hU5 fun b h _ => h.2).imp (D' := fun _ => True) fun _ _ _ => trivial)
    replace r2 := Lib.hid (((r2.upd hU4 fun b h _ => h.1).upd hU5 fun b h _ => h.2).imp (D' := fun _ => True) fun _ _ _ => trivial)
    have HA := Lib.hid (hA4.upd hU5 n56)
    have HBB := Lib.hid hB5
    replace HB3 := Lib.hid (hU5.below (hU4.below hBz l5') l6')
    have HIA := Lib.hid (show (Tryd.prog.info? 30).map (·.size) = some A.size by rw [sA]; exact hi35)
    have HIB := Lib.hid (show (Tryd.prog.info? 30).map (·.size) = some B.size by rw [sB]; exact hi35)
    clear hb5 hb6 hU4 hU5 hB5 hA4 hBz hi35 hz35 sA sB oA oB hW hA hB e5 e6 HX HY HI1 HI2 HCx HDx hu hv n56 b5 l5' l6'
    simp only [TailWp]
    simp only [Act.put, List.setIfInBounds_toArray, List.set_cons_zero, List.set_cons_succ]
    go_wp2_with fail
    generalize hg4 : w5.heap.size = z4 at *
    have HZ4 := Lib.hid hg4
    clear hg4
    refine wp_region_tail2 (fun i lo hi v w => match i with
      | 0 => v = .agg A
      | 1 => IsCert w (fun b => lo ≤ b ∧ b < hi) v c
      | 2 => v = .agg B
      | 3 => IsCert w (fun b => lo ≤ b ∧ b < hi) v d
      | 4 => ∃ g, v = .pointer (some ⟨g, 0, none⟩) ∧ Box w g 35 (zeroCells Tryd.prog 35) ∧ lo ≤ g ∧ g < hi
      | 5 => ∃ g, v = .pointer (some ⟨g, 0, none⟩) ∧ Box w g 35 (zeroCells Tryd.prog 35) ∧ lo ≤ g ∧ g < hi
      | 6 => True
      | 7 => True
      | _ => True) 6 [7] (by kernel_rfl) (by kernel_rfl) (by kernel_rfl) (by kernel_rfl) (by kernel_rfl) ?mono ⟨.inr ?r0, .inr ?r1, .inr ?r2, .inr ?r3, .inr ?r4, .inr ?r5, .inl (by decide), .inl (by decide), trivial⟩ ?post
    case mono =>
      intro i lo hi v w w' h hb
      match i, h with
      | 0, h => exact h
      | 1, h => exact IsCert.ext h hb
      | 2, h => exact h
      | 3, h => exact IsCert.ext h hb
      | 4, h => exact by obtain ⟨g, e, hb2, h1⟩ := h; exact ⟨g, e, hb2.ext hb, h1⟩
      | 5, h => exact by obtain ⟨g, e, hb2, h1⟩ := h; exact ⟨g, e, hb2.ext hb, h1⟩
      | 6, h => exact h
      | 7, h => exact h
      | _ + 8, h => trivial
    case r0 =>
      refine truleG fun b w hW hold hpre => ⟨fun hwant K hK => ?_, fun hwant => ?_⟩
      · clear hwant
        have e5 : b.eval (.tmp 5) = .pointer (some ⟨g5, 0, none⟩) := (hold 5 (by kernel_rfl)).trans rfl
        exact opw_row rfl e5 (HA.out.ext (undrew hW)) Tryd.underlying30 rfl HIA.out (hK _ _ rfl (Below.refl _ _))
      · rw [want_none rfl] at hwant; cases hwant
    case r1 =>
      refine truleG fun b w hW hold hpre => ⟨fun hwant K hK => ?_, fun hwant => ?_⟩
      · clear hwant
        have e15 : b.eval (.tmp 15) = .agg A := by obtain ⟨_, _, h⟩ := hpre ⟨0, _⟩ (Array.mem_of_getElem? (i := 0) rfl) rfl _ _ rfl rfl; exact h
        exact opw_call rfl (by kernel_rfl) (by simp [e15]) (lcert_any (.agg A) c w (fun _ => True) (r1.out.ext (undrew hW)) HSc.out.1 HSc.out.2.1 HSc.out.2.2) fun v w' h hb => hK v w' (h.imp fun b h1 h2 => ⟨h1, h2⟩) hb
      · rw [want_none rfl] at hwant; cases hwant
    case r2 =>
      refine truleG fun b w hW hold hpre => ⟨fun hwant K hK => ?_, fun hwant => ?_⟩
      · clear hwant
        have e6 : b.eval (.tmp 6) = .pointer (some ⟨g6, 0, none⟩) := (hold 6 (by kernel_rfl)).trans rfl
        exact opw_row rfl e6 (HBB.out.ext (undrew hW)) Tryd.underlying30 rfl HIB.out (hK _ _ rfl (Below.refl _ _))
      · rw [want_none rfl] at hwant; cases hwant
    case r3 =>
      refine truleG fun b w hW hold hpre => ⟨fun hwant K hK => ?_, fun hwant => ?_⟩
      · clear hwant
        have e17 : b.eval (.tmp 17) = .agg B := by obtain ⟨_, _, h⟩ := hpre ⟨2, _⟩ (Array.mem_of_getElem? (i := 0) rfl) rfl _ _ rfl rfl; exact h
        exact opw_call rfl (by kernel_rfl) (by simp [e17]) (lcert_any (.agg B) d w (fun _ => True) (r2.out.ext (undrew hW)) HSd.out.1 HSd.out.2.1 HSd.out.2.2) fun v w' h hb => hK v w' (h.imp fun b h1 h2 => ⟨h1, h2⟩) hb
      · rw [want_none rfl] at hwant; cases hwant
    case r4 =>
      refine truleG fun b w hW hold hpre => ⟨fun hwant K hK => opw_alloc rfl (by kernel_rfl) fun w' hb hbel => hK _ _ ⟨_, rfl, hb, Nat.le_refl _, hb.lt⟩ hbel, fun hwant => ?_⟩
      rw [want_none rfl] at hwant; cases hwant
    case r5 =>
      refine truleG fun b w hW hold hpre => ⟨fun hwant K hK => opw_alloc rfl (by kernel_rfl) fun w' hb hbel => hK _ _ ⟨_, rfl, hb, Nat.le_refl _, hb.lt⟩ hbel, fun hwant => ?_⟩
      rw [want_none rfl] at hwant; cases hwant
    case post =>
      intro b wz lo hi hW hdf hsz hold hT hap hlim
      have e7 : (fun (v : Value) (w : World) => ∃ g, v = .pointer (some ⟨g, 0, none⟩) ∧ Box w g 35 (zeroCells Tryd.prog 35) ∧ lo 4 ≤ g ∧ g < hi 4) (b.eval (.tmp 7)) wz := hT 4 _ 7 (by decide) rfl rfl
      have e16 : (fun (v : Value) (w : World) => IsCert w (fun b => lo 1 ≤ b ∧ b < hi 1) v c) (b.eval (.tmp 16)) wz := hT 1 _ 16 (by decide) rfl rfl
      have e8 : (fun (v : Value) (w : World) => ∃ g, v = .pointer (some ⟨g, 0, none⟩) ∧ Box w g 35 (zeroCells Tryd.prog 35) ∧ lo 5 ≤ g ∧ g < hi 5) (b.eval (.tmp 8)) wz := hT 5 _ 8 (by decide) rfl rfl
      have e18 : (fun (v : Value) (w : World) => IsCert w (fun b => lo 3 ≤ b ∧ b < hi 3) v d) (b.eval (.tmp 18)) wz := hT 3 _ 18 (by decide) rfl rfl
      have e15 : b.eval (.tmp 15) = .agg A := hT 0 _ 15 (by decide) rfl rfl
      have e17 : b.eval (.tmp 17) = .agg B := hT 2 _ 17 (by decide) rfl rfl
      obtain ⟨vs, hvs, hb⟩ := frame_of hdf hsz hold
      replace e7 := (hvs 7) ▸ e7
      replace e16 := (hvs 16) ▸ e16
      replace e8 := (hvs 8) ▸ e8
      replace e18 := (hvs 18) ▸ e18
      replace e15 : vs 15 = .agg A := (hvs 15).symm.trans e15
      replace e17 : vs 17 = .agg B := (hvs 17).symm.trans e17
      subst hb
      clear hvs hold hT hdf hsz
      simp only [setAll, Act.put, List.setIfInBounds_toArray, List.set_cons_zero, List.set_cons_succ, List.getElem_toArray, List.getElem_cons_succ, List.getElem_cons_zero]
      obtain ⟨g7, e7, hb7, l7, u7⟩ := e7
      obtain ⟨g8, e8, hb8, l8, u8⟩ := e8
      replace e16 : IsCert wz (fun b => lo 1 ≤ b ∧ b < hi 1) (vs 16) c := e16
      replace e18 : IsCert wz (fun b => lo 3 ≤ b ∧ b < hi 3) (vs 18) d := e18
      obtain ⟨U, hU, sU, oU⟩ := IsCert.row e16
      obtain ⟨V, hV, sV, oV⟩ := IsCert.row e18
      rw [hU] at e16
      rw [hV] at e18
      have a45 := hap 4 5 (by decide) (by decide) (by decide) (by decide) (by decide)
      have a41 := hap 4 1 (by decide) (by decide) (by decide) (by decide) (by decide)
      have a43 := hap 4 3 (by decide) (by decide) (by decide) (by decide) (by decide)
      have a51 := hap 5 1 (by decide) (by decide) (by decide) (by decide) (by decide)
      have a53 := hap 5 3 (by decide) (by decide) (by decide) (by decide) (by decide)
      have L4 := (hlim 4 (by decide) (by decide)).1
      have L5 := (hlim 5 (by decide) (by decide)).1
      have n78 : g7 ≠ g8 := by omega
      have hz35 : (zeroCells Tryd.prog 35).size = 35 := by kernel_rfl
      have hi35 : (Tryd.prog.info? 35).map (·.size) = some 35 := by kernel_rfl
      have s1 : IsCert wz (fun b => b ≠ g7 ∧ b ≠ g8) (.agg U) c := e16.imp fun b h _ => by omega
      have s2 : IsCert wz (fun b => b ≠ g7 ∧ b ≠ g8) (.agg V) d := e18.imp fun b h _ => by omega
      have b5 : gx ≤ w5.heap.size := by rw [← HGX.out]; exact HB3.out.size
      have la := HA.out.lt
      have lb := HBB.out.lt
      have hBzz := HB3.out.trans (hW.mono b5)
      have h7 : w5.heap.size ≤ g7 := by omega
      have h8 : w5.heap.size ≤ g8 := by omega
      have q1 := ((r1.out.imp (D' := fun b => b < w5.heap.size) fun _ _ h => h).ext hW).imp (D' := fun b => b ≠ g7 ∧ b ≠ g8) fun b h _ => by omega
      have q2 := ((r2.out.imp (D' := fun b => b < w5.heap.size) fun _ _ h => h).ext hW).imp (D' := fun b => b ≠ g7 ∧ b ≠ g8) fun b h _ => by omega
      have HAz := HA.out.ext hW
      have HBz := HBB.out.ext hW
      have n1 : g5 ≠ g7 := by omega
      have n2 : g5 ≠ g8 := by omega
      have n3 : g6 ≠ g7 := by omega
      have n4 : g6 ≠ g8 := by omega
      have l7' : gx ≤ g7 := by omega
      have l8' : gx ≤ g8 := by omega
      clear hap hlim a45 a41 a43 a51 a53 L4 L5 l7 u7 l8 u8 e16 e18
      simp only [show vs (7 : Nat) = _ from e7, show vs (8 : Nat) = _ from e8, hU, hV]
      (intro o_ ho_; simp only [List.getElem?_toArray, List.getElem?_cons_succ, List.getElem?_cons_zero, Option.some.injEq] at ho_; subst ho_)
      refine opw_store rfl rfl rfl hb7 (by rw [sU]; exact hi35) (by rw [sU, hz35]) oU fun w6 hX6 hU6 => ?_
      (intro o_ ho_; simp only [List.getElem?_toArray, List.getElem?_cons_succ, List.getElem?_cons_zero, Option.some.injEq] at ho_; subst ho_)
      simp only [Act.put, List.setIfInBounds_toArray, List.set_cons_zero, List.set_cons_succ]
      refine opw_store rfl rfl rfl (hb8.upd hU6 (Ne.symm n78)) (by rw [sV]; exact hi35) (by rw [sV, hz35]) oV fun w7 hX7 hU7 => ?_
      have S1 := Lib.hid ((IsCert.upd (IsCert.upd s1 hU6 fun b h _ => h.1) hU7 fun b h _ => h.2).imp (D' := fun _ => True) fun _ _ _ => trivial)
      have S2 := Lib.hid ((IsCert.upd (IsCert.upd s2 hU6 fun b h _ => h.1) hU7 fun b h _ => h.2).imp (D' := fun _ => True) fun _ _ _ => trivial)
      have Q1 := Lib.hid ((IsRCert.upd (IsRCert.upd q1 hU6 fun b h _ => h.1) hU7 fun b h _ => h.2).imp (D' := fun _ => True) fun _ _ _ => trivial)
      have Q2 := Lib.hid ((IsRCert.upd (IsRCert.upd q2 hU6 fun b h _ => h.1) hU7 fun b h _ => h.2).imp (D' := fun _ => True) fun _ _ _ => trivial)
      have XU := Lib.hid (hX6.upd hU7 n78)
      have XV := Lib.hid hX7
      have XA := Lib.hid ((HAz.upd hU6 n1).upd hU7 n2)
      have XB := Lib.hid ((HBz.upd hU6 n3).upd hU7 n4)
      have HB4 := Lib.hid (hU7.below (hU6.below hBzz l7') l8')
      have HIU := Lib.hid (show (Tryd.prog.info? 35).map (·.size) = some U.size by rw [sU]; exact hi35)
      have HIV := Lib.hid (show (Tryd.prog.info? 35).map (·.size) = some V.size by rw [sV]; exact hi35)
      clear hb7 hb8 hU6 hU7 hX6 hX7 hi35 hz35 sU sV oU oV hW hU hV e7 e8 s1 s2 q1 q2 HAz HBz HA HBB r1 r2 n78 n1 n2 n3 n4 h7 h8 l7' l8' la lb b5 hBzz HB3
      simp only [TailWp]
      simp only [Act.put, List.setIfInBounds_toArray, List.set_cons_zero, List.set_cons_succ]
      go_wp2_with fail
      generalize hg5 : w7.heap.size = z5 at *
      have HZ5 := Lib.hid hg5
      clear hg5
      have hcm : ∀ a b : CertD, (eqC a b == eqC a b) = true := fun a b => beq_self_bool _
      refine wp_region_typed (fun i v w => match i with
        | 0 => v = .agg U
        | 1 => v = .agg V
        | 2 => v = .bool (eqC c d)
        | 3 => v = .agg A
        | 4 => v = .agg B
        | 5 => v = .bool (eqC c d)
        | 6 => v = .bool true
        | 7 => v = .bool true
        | 8 => v = .agg V
        | 9 => v = .agg U
        | 10 => v = .bool (eqC c d)
        | 11 => v = .agg A
        | 12 => v = .agg B
        | 13 => v = .bool (eqC c d)
        | 14 => v = .bool true
        | 15 => v = .bool true
        | 16 => v = .bool true
        | 17 => v = .agg U
        | 18 => v = .agg A
        | 19 => IsCert w (fun _ => True) v c
        | 20 => v = .bool true
        | 21 => v = .bool true
        | 22 => v = .bool true
        | _ => True) (by kernel_rfl) (by kernel_rfl) ?mono ⟨?r0, ?r1, ?r2, ?r3, ?r4, ?r5, ?r6, ?r7, ?r8, ?r9, ?r10, ?r11, ?r12, ?r13, ?r14, ?r15, ?r16, ?r17, ?r18, ?r19, ?r20, ?r21, ?r22, trivial⟩ ?post
      case mono =>
        intro i v w w' h hb
        match i, h with
        | 0, h => exact h
        | 1, h => exact h
        | 2, h => exact h
        | 3, h => exact h
        | 4, h => exact h
        | 5, h => exact h
        | 6, h => exact h
        | 7, h => exact h
        | 8, h => exact h
        | 9, h => exact h
        | 10, h => exact h
        | 11, h => exact h
        | 12, h => exact h
        | 13, h => exact h
        | 14, h => exact h
        | 15, h => exact h
        | 16, h => exact h
        | 17, h => exact h
        | 18, h => exact h
        | 19, h => exact IsCert.ext h hb
        | 20, h => exact h
        | 21, h => exact h
        | 22, h => exact h
        | _ + 23, h => trivial
      case r0 =>
        refine trule fun b w hW hold hpre => ⟨fun hwant K hK => ?_, fun hwant => ?_⟩
        · clear hwant
          have e7 : b.eval (.tmp 7) = .pointer (some ⟨g7, 0, none⟩) := (hold 7 (by kernel_rfl)).trans rfl
          exact opw_row rfl e7 (XU.out.ext (undrew hW)) Tryd.underlying35 rfl HIU.out (hK _ _ rfl (Below.refl _ _))
        · rw [want_none rfl] at hwant; cases hwant
      case r1 =>
        refine trule fun b w hW hold hpre => ⟨fun hwant K hK => ?_, fun hwant => ?_⟩
        · clear hwant
          have e8 : b.eval (.tmp 8) = .pointer (some ⟨g8, 0, none⟩) := (hold 8 (by kernel_rfl)).trans rfl
          exact opw_row rfl e8 (XV.out.ext (undrew hW)) Tryd.underlying35 rfl HIV.out (hK _ _ rfl (Below.refl _ _))
        · rw [want_none rfl] at hwant; cases hwant
      case r2 =>
        refine trule fun b w hW hold hpre => ⟨fun hwant K hK => ?_, fun hwant => ?_⟩
        · clear hwant
          have e19 : b.eval (.tmp 19) = .agg U := hpre ⟨0, _⟩ (Array.mem_of_getElem? (i := 0) rfl) rfl _ _ rfl rfl
          have e20 : b.eval (.tmp 20) = .agg V := hpre ⟨1, _⟩ (Array.mem_of_getElem? (i := 1) rfl) rfl _ _ rfl rfl
          exact opw_call rfl (by kernel_rfl) (by simp [e19, e20]) (certeq_any (.agg U) (.agg V) c d w (fun _ => True) (fun _ => True) (S1.out.ext (undrew hW)) (S2.out.ext (undrew hW))) fun v w' h hb => hK v w' h hb
        · rw [want_none rfl] at hwant; cases hwant
      case r3 =>
        refine trule fun b w hW hold hpre => ⟨fun hwant K hK => ?_, fun hwant => ?_⟩
        · clear hwant
          have e5 : b.eval (.tmp 5) = .pointer (some ⟨g5, 0, none⟩) := (hold 5 (by kernel_rfl)).trans rfl
          exact opw_row rfl e5 (XA.out.ext (undrew hW)) Tryd.underlying30 rfl HIA.out (hK _ _ rfl (Below.refl _ _))
        · rw [want_none rfl] at hwant; cases hwant
      case r4 =>
        refine trule fun b w hW hold hpre => ⟨fun hwant K hK => ?_, fun hwant => ?_⟩
        · clear hwant
          have e6 : b.eval (.tmp 6) = .pointer (some ⟨g6, 0, none⟩) := (hold 6 (by kernel_rfl)).trans rfl
          exact opw_row rfl e6 (XB.out.ext (undrew hW)) Tryd.underlying30 rfl HIB.out (hK _ _ rfl (Below.refl _ _))
        · rw [want_none rfl] at hwant; cases hwant
      case r5 =>
        refine trule fun b w hW hold hpre => ⟨fun hwant K hK => ?_, fun hwant => ?_⟩
        · clear hwant
          have e22 : b.eval (.tmp 22) = .agg A := hpre ⟨3, _⟩ (Array.mem_of_getElem? (i := 0) rfl) rfl _ _ rfl rfl
          have e23 : b.eval (.tmp 23) = .agg B := hpre ⟨4, _⟩ (Array.mem_of_getElem? (i := 1) rfl) rfl _ _ rfl rfl
          exact opw_call rfl (by kernel_rfl) (by simp [e22, e23]) (rsame_any (.agg A) (.agg B) c d w (fun _ => True) (fun _ => True) (Q1.out.ext (undrew hW)) (Q2.out.ext (undrew hW))) fun v w' h hb => hK v w' h hb
        · rw [want_none rfl] at hwant; cases hwant
      case r6 =>
        refine trule fun b w hW hold hpre => ⟨fun hwant K hK => ?_, fun hwant => ?_⟩
        · clear hwant
          have e21 : b.eval (.tmp 21) = .bool (eqC c d) := hpre ⟨2, _⟩ (Array.mem_of_getElem? (i := 0) rfl) rfl _ _ rfl rfl
          have e24 : b.eval (.tmp 24) = .bool (eqC c d) := hpre ⟨5, _⟩ (Array.mem_of_getElem? (i := 1) rfl) rfl _ _ rfl rfl
          exact opw_bin rfl e21 e24 (by kernel_rfl) (run_eqb _ _) (hK _ _ rfl (Below.refl _ _))
        · rw [want_none rfl] at hwant; cases hwant
      case r7 =>
        refine trule fun b w hW hold hpre => ⟨fun hwant K hK => ?_, fun hwant => ?_⟩
        · clear hwant
          have e25 : b.eval (.tmp 25) = .bool true := hpre ⟨6, _⟩ (Array.mem_of_getElem? (i := 0) rfl) rfl _ _ rfl rfl
          exact opw_move rfl e25 (hK _ _ rfl (Below.refl _ _))
        · rw [want_none rfl] at hwant; cases hwant
      case r8 =>
        refine trule fun b w hW hold hpre => ⟨fun hwant K hK => ?_, fun hwant => ?_⟩
        · clear hwant
          have e8 : b.eval (.tmp 8) = .pointer (some ⟨g8, 0, none⟩) := (hold 8 (by kernel_rfl)).trans rfl
          exact opw_row rfl e8 (XV.out.ext (undrew hW)) Tryd.underlying35 rfl HIV.out (hK _ _ rfl (Below.refl _ _))
        · rw [want_some rfl rfl rfl (show b.eval (.tmp 26) = .bool true from (hpre ⟨7, _⟩ (Array.mem_of_getElem? (i := 0) rfl) rfl _ _ rfl rfl))] at hwant; cases hwant
      case r9 =>
        refine trule fun b w hW hold hpre => ⟨fun hwant K hK => ?_, fun hwant => ?_⟩
        · clear hwant
          have e7 : b.eval (.tmp 7) = .pointer (some ⟨g7, 0, none⟩) := (hold 7 (by kernel_rfl)).trans rfl
          exact opw_row rfl e7 (XU.out.ext (undrew hW)) Tryd.underlying35 rfl HIU.out (hK _ _ rfl (Below.refl _ _))
        · rw [want_some rfl rfl rfl (show b.eval (.tmp 26) = .bool true from (hpre ⟨7, _⟩ (Array.mem_of_getElem? (i := 0) rfl) rfl _ _ rfl rfl))] at hwant; cases hwant
      case r10 =>
        refine trule fun b w hW hold hpre => ⟨fun hwant K hK => ?_, fun hwant => ?_⟩
        · clear hwant
          have e27 : b.eval (.tmp 27) = .agg V := hpre ⟨8, _⟩ (Array.mem_of_getElem? (i := 0) rfl) rfl _ _ rfl rfl
          have e28 : b.eval (.tmp 28) = .agg U := hpre ⟨9, _⟩ (Array.mem_of_getElem? (i := 1) rfl) rfl _ _ rfl rfl
          exact opw_call rfl (by kernel_rfl) (by simp [e27, e28]) (certeq_any (.agg V) (.agg U) d c w (fun _ => True) (fun _ => True) (S2.out.ext (undrew hW)) (S1.out.ext (undrew hW))) fun v w' h hb => hK v w' (show v = _ from h.trans (by rw [eqC_comm])) hb
        · rw [want_some rfl rfl rfl (show b.eval (.tmp 26) = .bool true from (hpre ⟨7, _⟩ (Array.mem_of_getElem? (i := 2) rfl) rfl _ _ rfl rfl))] at hwant; cases hwant
      case r11 =>
        refine trule fun b w hW hold hpre => ⟨fun hwant K hK => ?_, fun hwant => ?_⟩
        · clear hwant
          have e5 : b.eval (.tmp 5) = .pointer (some ⟨g5, 0, none⟩) := (hold 5 (by kernel_rfl)).trans rfl
          exact opw_row rfl e5 (XA.out.ext (undrew hW)) Tryd.underlying30 rfl HIA.out (hK _ _ rfl (Below.refl _ _))
        · rw [want_some rfl rfl rfl (show b.eval (.tmp 26) = .bool true from (hpre ⟨7, _⟩ (Array.mem_of_getElem? (i := 0) rfl) rfl _ _ rfl rfl))] at hwant; cases hwant
      case r12 =>
        refine trule fun b w hW hold hpre => ⟨fun hwant K hK => ?_, fun hwant => ?_⟩
        · clear hwant
          have e6 : b.eval (.tmp 6) = .pointer (some ⟨g6, 0, none⟩) := (hold 6 (by kernel_rfl)).trans rfl
          exact opw_row rfl e6 (XB.out.ext (undrew hW)) Tryd.underlying30 rfl HIB.out (hK _ _ rfl (Below.refl _ _))
        · rw [want_some rfl rfl rfl (show b.eval (.tmp 26) = .bool true from (hpre ⟨7, _⟩ (Array.mem_of_getElem? (i := 0) rfl) rfl _ _ rfl rfl))] at hwant; cases hwant
      case r13 =>
        refine trule fun b w hW hold hpre => ⟨fun hwant K hK => ?_, fun hwant => ?_⟩
        · clear hwant
          have e30 : b.eval (.tmp 30) = .agg A := hpre ⟨11, _⟩ (Array.mem_of_getElem? (i := 0) rfl) rfl _ _ rfl rfl
          have e31 : b.eval (.tmp 31) = .agg B := hpre ⟨12, _⟩ (Array.mem_of_getElem? (i := 1) rfl) rfl _ _ rfl rfl
          exact opw_call rfl (by kernel_rfl) (by simp [e30, e31]) (rsame_any (.agg A) (.agg B) c d w (fun _ => True) (fun _ => True) (Q1.out.ext (undrew hW)) (Q2.out.ext (undrew hW))) fun v w' h hb => hK v w' h hb
        · rw [want_some rfl rfl rfl (show b.eval (.tmp 26) = .bool true from (hpre ⟨7, _⟩ (Array.mem_of_getElem? (i := 3) rfl) rfl _ _ rfl rfl))] at hwant; cases hwant
      case r14 =>
        refine trule fun b w hW hold hpre => ⟨fun hwant K hK => ?_, fun hwant => ?_⟩
        · clear hwant
          have e29 : b.eval (.tmp 29) = .bool (eqC c d) := hpre ⟨10, _⟩ (Array.mem_of_getElem? (i := 0) rfl) rfl _ _ rfl rfl
          have e32 : b.eval (.tmp 32) = .bool (eqC c d) := hpre ⟨13, _⟩ (Array.mem_of_getElem? (i := 1) rfl) rfl _ _ rfl rfl
          exact opw_bin rfl e29 e32 (by kernel_rfl) (run_eqb _ _) (hK _ _ rfl (Below.refl _ _))
        · rw [want_some rfl rfl rfl (show b.eval (.tmp 26) = .bool true from (hpre ⟨7, _⟩ (Array.mem_of_getElem? (i := 2) rfl) rfl _ _ rfl rfl))] at hwant; cases hwant
      case r15 =>
        refine trule fun b w hW hold hpre => ⟨fun hwant K hK => ?_, fun hwant => ?_⟩
        · clear hwant
          have e26 : b.eval (.tmp 26) = .bool true := hpre ⟨7, _⟩ (Array.mem_of_getElem? (i := 0) rfl) rfl _ _ rfl rfl
          have e33 : b.eval (.tmp 33) = .bool true := hpre ⟨14, _⟩ (Array.mem_of_getElem? (i := 1) rfl) rfl _ _ rfl rfl
          exact opw_pick rfl e26 (if_pos rfl) (hK _ _ e33 (Below.refl _ _))
        · rw [want_none rfl] at hwant; cases hwant
      case r16 =>
        refine trule fun b w hW hold hpre => ⟨fun hwant K hK => ?_, fun hwant => ?_⟩
        · clear hwant
          have e34 : b.eval (.tmp 34) = .bool true := hpre ⟨15, _⟩ (Array.mem_of_getElem? (i := 0) rfl) rfl _ _ rfl rfl
          exact opw_move rfl e34 (hK _ _ rfl (Below.refl _ _))
        · rw [want_none rfl] at hwant; cases hwant
      case r17 =>
        refine trule fun b w hW hold hpre => ⟨fun hwant K hK => ?_, fun hwant => ?_⟩
        · clear hwant
          have e7 : b.eval (.tmp 7) = .pointer (some ⟨g7, 0, none⟩) := (hold 7 (by kernel_rfl)).trans rfl
          exact opw_row rfl e7 (XU.out.ext (undrew hW)) Tryd.underlying35 rfl HIU.out (hK _ _ rfl (Below.refl _ _))
        · rw [want_some rfl rfl rfl (show b.eval (.tmp 35) = .bool true from (hpre ⟨16, _⟩ (Array.mem_of_getElem? (i := 0) rfl) rfl _ _ rfl rfl))] at hwant; cases hwant
      case r18 =>
        refine trule fun b w hW hold hpre => ⟨fun hwant K hK => ?_, fun hwant => ?_⟩
        · clear hwant
          have e5 : b.eval (.tmp 5) = .pointer (some ⟨g5, 0, none⟩) := (hold 5 (by kernel_rfl)).trans rfl
          exact opw_row rfl e5 (XA.out.ext (undrew hW)) Tryd.underlying30 rfl HIA.out (hK _ _ rfl (Below.refl _ _))
        · rw [want_some rfl rfl rfl (show b.eval (.tmp 35) = .bool true from (hpre ⟨16, _⟩ (Array.mem_of_getElem? (i := 0) rfl) rfl _ _ rfl rfl))] at hwant; cases hwant
      case r19 =>
        refine trule fun b w hW hold hpre => ⟨fun hwant K hK => ?_, fun hwant => ?_⟩
        · clear hwant
          have e37 : b.eval (.tmp 37) = .agg A := hpre ⟨18, _⟩ (Array.mem_of_getElem? (i := 0) rfl) rfl _ _ rfl rfl
          exact opw_call rfl (by kernel_rfl) (by simp [e37]) (lcert_any (.agg A) c w (fun _ => True) (Q1.out.ext (undrew hW)) HSc.out.1 HSc.out.2.1 HSc.out.2.2) fun v w' h hb => hK v w' (h.imp fun b h1 h2 => trivial) hb
        · rw [want_some rfl rfl rfl (show b.eval (.tmp 35) = .bool true from (hpre ⟨16, _⟩ (Array.mem_of_getElem? (i := 1) rfl) rfl _ _ rfl rfl))] at hwant; cases hwant
      case r20 =>
        refine trule fun b w hW hold hpre => ⟨fun hwant K hK => ?_, fun hwant => ?_⟩
        · clear hwant
          have e36 : b.eval (.tmp 36) = .agg U := hpre ⟨17, _⟩ (Array.mem_of_getElem? (i := 0) rfl) rfl _ _ rfl rfl
          have e38 : (fun (v : Value) (w : World) => IsCert w (fun _ => True) v c) (b.eval (.tmp 38)) w := hpre ⟨19, _⟩ (Array.mem_of_getElem? (i := 1) rfl) rfl _ _ rfl rfl
          exact opw_call rfl (by kernel_rfl) (by simp [e36]) (certeq_any (.agg U) _ c c w (fun _ => True) (fun _ => True) (S1.out.ext (undrew hW)) e38) fun v w' h hb => hK v w' (show v = _ from h.trans (by rw [eqC_self])) hb
        · rw [want_some rfl rfl rfl (show b.eval (.tmp 35) = .bool true from (hpre ⟨16, _⟩ (Array.mem_of_getElem? (i := 3) rfl) rfl _ _ rfl rfl))] at hwant; cases hwant
      case r21 =>
        refine trule fun b w hW hold hpre => ⟨fun hwant K hK => ?_, fun hwant => ?_⟩
        · clear hwant
          have e35 : b.eval (.tmp 35) = .bool true := hpre ⟨16, _⟩ (Array.mem_of_getElem? (i := 0) rfl) rfl _ _ rfl rfl
          have e39 : b.eval (.tmp 39) = .bool true := hpre ⟨20, _⟩ (Array.mem_of_getElem? (i := 1) rfl) rfl _ _ rfl rfl
          exact opw_pick rfl e35 (if_pos rfl) (hK _ _ e39 (Below.refl _ _))
        · rw [want_none rfl] at hwant; cases hwant
      case r22 =>
        refine trule fun b w hW hold hpre => ⟨fun hwant K hK => ?_, fun hwant => ?_⟩
        · clear hwant
          have e40 : b.eval (.tmp 40) = .bool true := hpre ⟨21, _⟩ (Array.mem_of_getElem? (i := 0) rfl) rfl _ _ rfl rfl
          exact opw_assign rfl e40 (hK _ _ rfl (Below.refl _ _))
        · rw [want_none rfl] at hwant; cases hwant
      case post =>
        intro b wz hW hdf hsz hold hT
        have e19 : b.eval (.tmp 19) = .agg U := hT 0 _ 19 rfl rfl
        have e20 : b.eval (.tmp 20) = .agg V := hT 1 _ 20 rfl rfl
        have e21 : b.eval (.tmp 21) = .bool (eqC c d) := hT 2 _ 21 rfl rfl
        have e22 : b.eval (.tmp 22) = .agg A := hT 3 _ 22 rfl rfl
        have e23 : b.eval (.tmp 23) = .agg B := hT 4 _ 23 rfl rfl
        have e24 : b.eval (.tmp 24) = .bool (eqC c d) := hT 5 _ 24 rfl rfl
        have e25 : b.eval (.tmp 25) = .bool true := hT 6 _ 25 rfl rfl
        have e26 : b.eval (.tmp 26) = .bool true := hT 7 _ 26 rfl rfl
        have e27 : b.eval (.tmp 27) = .agg V := hT 8 _ 27 rfl rfl
        have e28 : b.eval (.tmp 28) = .agg U := hT 9 _ 28 rfl rfl
        have e29 : b.eval (.tmp 29) = .bool (eqC c d) := hT 10 _ 29 rfl rfl
        have e30 : b.eval (.tmp 30) = .agg A := hT 11 _ 30 rfl rfl
        have e31 : b.eval (.tmp 31) = .agg B := hT 12 _ 31 rfl rfl
        have e32 : b.eval (.tmp 32) = .bool (eqC c d) := hT 13 _ 32 rfl rfl
        have e33 : b.eval (.tmp 33) = .bool true := hT 14 _ 33 rfl rfl
        have e34 : b.eval (.tmp 34) = .bool true := hT 15 _ 34 rfl rfl
        have e35 : b.eval (.tmp 35) = .bool true := hT 16 _ 35 rfl rfl
        have e36 : b.eval (.tmp 36) = .agg U := hT 17 _ 36 rfl rfl
        have e37 : b.eval (.tmp 37) = .agg A := hT 18 _ 37 rfl rfl
        have e38 : (fun (v : Value) (w : World) => IsCert w (fun _ => True) v c) (b.eval (.tmp 38)) wz := hT 19 _ 38 rfl rfl
        have e39 : b.eval (.tmp 39) = .bool true := hT 20 _ 39 rfl rfl
        have e40 : b.eval (.tmp 40) = .bool true := hT 21 _ 40 rfl rfl
        have e4 : b.eval (.tmp 4) = .bool true := hT 22 _ 4 rfl rfl
        obtain ⟨vs, hvs, hb⟩ := frame_of hdf hsz hold
        replace e19 : vs 19 = .agg U := (hvs 19).symm.trans e19
        replace e20 : vs 20 = .agg V := (hvs 20).symm.trans e20
        replace e21 : vs 21 = .bool (eqC c d) := (hvs 21).symm.trans e21
        replace e22 : vs 22 = .agg A := (hvs 22).symm.trans e22
        replace e23 : vs 23 = .agg B := (hvs 23).symm.trans e23
        replace e24 : vs 24 = .bool (eqC c d) := (hvs 24).symm.trans e24
        replace e25 : vs 25 = .bool true := (hvs 25).symm.trans e25
        replace e26 : vs 26 = .bool true := (hvs 26).symm.trans e26
        replace e27 : vs 27 = .agg V := (hvs 27).symm.trans e27
        replace e28 : vs 28 = .agg U := (hvs 28).symm.trans e28
        replace e29 : vs 29 = .bool (eqC c d) := (hvs 29).symm.trans e29
        replace e30 : vs 30 = .agg A := (hvs 30).symm.trans e30
        replace e31 : vs 31 = .agg B := (hvs 31).symm.trans e31
        replace e32 : vs 32 = .bool (eqC c d) := (hvs 32).symm.trans e32
        replace e33 : vs 33 = .bool true := (hvs 33).symm.trans e33
        replace e34 : vs 34 = .bool true := (hvs 34).symm.trans e34
        replace e35 : vs 35 = .bool true := (hvs 35).symm.trans e35
        replace e36 : vs 36 = .agg U := (hvs 36).symm.trans e36
        replace e37 : vs 37 = .agg A := (hvs 37).symm.trans e37
        replace e38 := (hvs 38) ▸ e38
        replace e39 : vs 39 = .bool true := (hvs 39).symm.trans e39
        replace e40 : vs 40 = .bool true := (hvs 40).symm.trans e40
        replace e4 : vs 4 = .bool true := (hvs 4).symm.trans e4
        subst hb
        clear hvs hold hT hdf hsz
        simp only [setAll, Act.put, List.setIfInBounds_toArray, List.set_cons_zero, List.set_cons_succ, List.getElem_toArray, List.getElem_cons_succ, List.getElem_cons_zero]
        go_wp2_with fail
        go_ret
        exact Ret.mk rfl (by rw [HGX.out]; exact HB4.out.trans (hW.mono (by rw [← HGX.out]; exact HB4.out.size)))
end Go.Proofs.YtenpkgdnlogfiaaDoor
