/-
  What CertificateChecks computes: true, on all raw certificates.
-/
import Derived.Test.YtenpkgdnlogfiaaDoorChk2
import Derived.Test.YtenpkgdnlogfiaaDoorCEq1
namespace Go.Proofs.YtenpkgdnlogfiaaDoor
open Go.RowKit
attribute [local go_sem ↓] Go.wp_at_zero Go.wp_at_succ
set_option maxRecDepth 20000

theorem stable_rcert {v : Value} {c : CertD} : Stable fun D w => IsRCert w D v c := fun D D' w w' h a b k => by
  obtain ⟨pv, qv, h1, h2, h3, h4, h5⟩ := h
  exact ⟨pv, qv, h1, h2, h3, stable_sl (by decide) D D' w w' h4 a b k, stable_sl (by decide) D D' w w' h5 a b k⟩

set_option maxHeartbeats 4000000 in
theorem certchecks_any (u : Value) (x : RawCert) (hx : x.ok) (w0 : World) (hT : Tab w0) (hDT : DTab w0) (D : Nat → Prop) (hu : IsRaw w0 D u x) :
    Calls Tryd.prog 4 #[u] w0 (Ret (fun r _ => r = .bool true) w0) := by
  obtain ⟨us, rfl, hus⟩ : ∃ us : Array Value, u = .agg us ∧ us.size = 5 := by obtain ⟨_, _, rfl, _⟩ := hu; exact ⟨_, rfl, rfl⟩
  have HI1 := Lib.hid (show (Tryd.prog.info? 25).map (·.size) = some us.size by rw [hus]; kernel_rfl)
  have hS := St.start0 (w := w0)
  obtain ⟨c, hc⟩ : ∃ c, c = makeC x := ⟨_, rfl⟩
  have HSc := Lib.hid (show Small c.cubes ∧ c.plan.length ≤ 1000000 ∧ c.cubes.length ≤ 1000000 by rw [hc]; exact ⟨makeC_small hx, makeC_len x⟩)
  have HCx : ∀ (v : Value) (wa w' : World), (∃ pv qv, v = .agg (cc (makeC x).prob (makeC x).reach pv qv) ∧ Sl w' (wa.heap.size ≤ ·) 1 pv (makeC x).plan.length (ints (makeC x).plan) ∧ RCubes w' (wa.heap.size ≤ ·) qv (makeC x).cubes) → IsRCert w' (fun b => wa.heap.size ≤ b ∧ b < w'.heap.size) v c := fun v wa w' h => by rw [hc]; exact rc_of hx h
  clear hc
  have HU := Lib.hid hu
  have HT := Lib.hid hT
  have HDT := Lib.hid hDT
  have HX := Lib.hid hx
  replace HCx := Lib.hid HCx
  clear hus hu hT hDT hx
  go_enter Tryd.func4, Tryd.ntmps4
  go_wp2_with (first
    | ((with_reducible show wpList _ _ _ (⟨some 1, _, _, _, _, _⟩ :: _) _ _); refine st_box hS rfl _ _ rfl (.agg us) _ rfl rfl ?_; clear hS; intro g1 w_ hS; (try simp only [Act.put, Act.eval, List.set_cons_zero, List.set_cons_succ, List.setIfInBounds_toArray, Array.getD_eq_getD_getElem?, List.getElem?_toArray, List.getElem?_cons_succ, List.getElem?_cons_zero, Option.getD_some, Value.cells] at hS))
    | ((with_reducible show wpList _ _ _ (⟨some 7, _, _, _, _, _⟩ :: _) _ _); refine st_load hS 0 rfl _ _ rfl g1 rfl _ us rfl _ Tryd.underlying25 rfl HI1.out ?_)
    | (go_at_call 7; refine (awake_any _ (HT.out.ext hS.below)).mono ?_; rintro e w3 ⟨_, rfl, rfl, hb3⟩; replace hS := hS.ext hb3)
    | (go_at_call 8; refine (rmake_any (.agg us) x HX.out _ D (IsRaw.ext HU.out hS.below)).mono ?_; rintro e w4 ⟨v4, rfl, h4, hb4⟩; replace h4 := HCx.out _ _ _ h4; obtain ⟨A, rfl, sA, oA⟩ := IsRCert.row h4; replace hS := hS.ret hb4 stable_rcert (h4.imp fun b h _ => h.1); have SA := Lib.hid sA; have OA := Lib.hid oA; clear h4 hb4 sA oA)
    | ((with_reducible show wpList _ _ _ (⟨some 3, _, _, _, _, _⟩ :: _) _ _); refine st_alloc hS rfl _ rfl (by kernel_rfl) ?_; clear hS; intro g3 w_ hS)
    | ((with_reducible show wpList _ _ _ (⟨_, .store 30 _ _, _, _, _, _⟩ :: _) _ _); refine st_store hS 0 rfl _ _ _ rfl g3 A rfl rfl _ _ rfl (by rw [SA.out]; kernel_rfl) (by rw [SA.out]; kernel_rfl) OA.out ?_; clear hS; intro w_ hS; simp only [List.set_cons_zero] at hS)
    | ((with_reducible show wpList _ _ _ (⟨some 9, _, _, _, _, _⟩ :: _) _ _); refine st_load hS 0 rfl _ _ rfl g3 rfl _ A rfl _ Tryd.underlying30 rfl (by rw [SA.out]; kernel_rfl) ?_)
    | (go_at_call 9; refine (lcert_any (.agg A) c _ _ hS.ro.2 HSc.out.1 HSc.out.2.1 HSc.out.2.2).mono ?_; rintro e w5 ⟨v5, rfl, h5, hb5⟩; obtain ⟨B, rfl, sB, oB⟩ := IsCert.row h5; replace hS := hS.ret hb5 stable_cert h5; have SB := Lib.hid sB; have OB := Lib.hid oB; clear h5 hb5 sB oB)
    | ((with_reducible show wpList _ _ _ (⟨some 4, _, _, _, _, _⟩ :: _) _ _); refine st_alloc hS rfl _ rfl (by kernel_rfl) ?_; clear hS; intro g4 w_ hS)
    | ((with_reducible show wpList _ _ _ (⟨_, .store 35 _ _, _, _, _, _⟩ :: _) _ _); refine st_store hS 0 rfl _ _ _ rfl g4 B rfl rfl _ _ rfl (by rw [SB.out]; kernel_rfl) (by rw [SB.out]; kernel_rfl) OB.out ?_; clear hS; intro w_ hS; simp only [List.set_cons_zero] at hS))
  have HIA := Lib.hid (show (Tryd.prog.info? 30).map (·.size) = some A.size by rw [SA.out]; kernel_rfl)
  have HIB := Lib.hid (show (Tryd.prog.info? 35).map (·.size) = some B.size by rw [SB.out]; kernel_rfl)
  refine wp_region_typed (fun i v w => match i with
    | 0 => v = .agg B
    | 1 => v = .int .i64 (checkC c)
    | 2 => v = .agg A
    | 3 => v = .int .i64 (checkC c)
    | 4 => v = .bool true
    | 5 => v = .bool true
    | 6 => v = .agg B
    | 7 => v = .agg A
    | 8 => v = .bool true
    | 9 => v = .bool true
    | 10 => v = .bool true
    | _ => True) (by kernel_rfl) (by kernel_rfl) ?mono ⟨?r0, ?r1, ?r2, ?r3, ?r4, ?r5, ?r6, ?r7, ?r8, ?r9, ?r10, trivial⟩ ?post
  case mono =>
    intro i v w w' h hb
    match i, h with
    | 0, h => exact h
    | 1, h => exact h
    | 2, h => exact h
    | 3, h => exact h
    | 4, h => exact h
    | 5, h => exact h
    | 6, h => exact h
    | 7, h => exact h
    | 8, h => exact h
    | 9, h => exact h
    | 10, h => exact h
    | _ + 11, h => trivial
  case r0 =>
    refine trule fun b w hW hold hpre => ⟨fun hwant K hK => ?_, fun hwant => ?_⟩
    · clear hwant
      have e4 : b.eval (.tmp 4) = .pointer (some ⟨g4, 0, none⟩) := (hold 4 (by kernel_rfl)).trans rfl
      exact opw_row rfl e4 ((hS.ext (undrew hW)).box 0 rfl) Tryd.underlying35 rfl HIB.out (hK _ _ rfl (Below.refl _ _))
    · rw [want_none rfl] at hwant; cases hwant
  case r1 =>
    refine trule fun b w hW hold hpre => ⟨fun hwant K hK => ?_, fun hwant => ?_⟩
    · clear hwant
      have e11 : b.eval (.tmp 11) = .agg B := hpre ⟨0, _⟩ (Array.mem_of_getElem? (i := 0) rfl) rfl _ _ rfl rfl
      exact opw_call rfl (by kernel_rfl) (by simp [e11]) (check_any (.agg B) c w _ (hS.ext (undrew hW)).ro.2) fun v w' h hb => hK v w' h hb
    · rw [want_none rfl] at hwant; cases hwant
  case r2 =>
    refine trule fun b w hW hold hpre => ⟨fun hwant K hK => ?_, fun hwant => ?_⟩
    · clear hwant
      have e3 : b.eval (.tmp 3) = .pointer (some ⟨g3, 0, none⟩) := (hold 3 (by kernel_rfl)).trans rfl
      exact opw_row rfl e3 ((hS.ext (undrew hW)).box 1 rfl) Tryd.underlying30 rfl HIA.out (hK _ _ rfl (Below.refl _ _))
    · rw [want_none rfl] at hwant; cases hwant
  case r3 =>
    refine trule fun b w hW hold hpre => ⟨fun hwant K hK => ?_, fun hwant => ?_⟩
    · clear hwant
      have e13 : b.eval (.tmp 13) = .agg A := hpre ⟨2, _⟩ (Array.mem_of_getElem? (i := 0) rfl) rfl _ _ rfl rfl
      exact opw_call rfl (by kernel_rfl) (by simp [e13]) (rcheck_any (.agg A) c w _ (hS.ext (undrew hW)).ro.1.2 HSc.out.1) fun v w' h hb => hK v w' h hb
    · rw [want_none rfl] at hwant; cases hwant
  case r4 =>
    refine trule fun b w hW hold hpre => ⟨fun hwant K hK => ?_, fun hwant => ?_⟩
    · clear hwant
      have e12 : b.eval (.tmp 12) = .int .i64 (checkC c) := hpre ⟨1, _⟩ (Array.mem_of_getElem? (i := 0) rfl) rfl _ _ rfl rfl
      have e14 : b.eval (.tmp 14) = .int .i64 (checkC c) := hpre ⟨3, _⟩ (Array.mem_of_getElem? (i := 1) rfl) rfl _ _ rfl rfl
      exact opw_bin (v := .bool true) rfl e12 e14 rfl (by rw [binOp_eql]; simp) (hK _ _ rfl (Below.refl _ _))
    · rw [want_none rfl] at hwant; cases hwant
  case r5 =>
    refine trule fun b w hW hold hpre => ⟨fun hwant K hK => ?_, fun hwant => ?_⟩
    · clear hwant
      have e15 : b.eval (.tmp 15) = .bool true := hpre ⟨4, _⟩ (Array.mem_of_getElem? (i := 0) rfl) rfl _ _ rfl rfl
      exact opw_move rfl e15 (hK _ _ rfl (Below.refl _ _))
    · rw [want_none rfl] at hwant; cases hwant
  case r6 =>
    refine trule fun b w hW hold hpre => ⟨fun hwant K hK => ?_, fun hwant => ?_⟩
    · clear hwant
      have e4 : b.eval (.tmp 4) = .pointer (some ⟨g4, 0, none⟩) := (hold 4 (by kernel_rfl)).trans rfl
      exact opw_row rfl e4 ((hS.ext (undrew hW)).box 0 rfl) Tryd.underlying35 rfl HIB.out (hK _ _ rfl (Below.refl _ _))
    · rw [want_some rfl rfl rfl (show b.eval (.tmp 16) = .bool true from (hpre ⟨5, _⟩ (Array.mem_of_getElem? (i := 0) rfl) rfl _ _ rfl rfl))] at hwant; cases hwant
  case r7 =>
    refine trule fun b w hW hold hpre => ⟨fun hwant K hK => ?_, fun hwant => ?_⟩
    · clear hwant
      have e3 : b.eval (.tmp 3) = .pointer (some ⟨g3, 0, none⟩) := (hold 3 (by kernel_rfl)).trans rfl
      exact opw_row rfl e3 ((hS.ext (undrew hW)).box 1 rfl) Tryd.underlying30 rfl HIA.out (hK _ _ rfl (Below.refl _ _))
    · rw [want_some rfl rfl rfl (show b.eval (.tmp 16) = .bool true from (hpre ⟨5, _⟩ (Array.mem_of_getElem? (i := 0) rfl) rfl _ _ rfl rfl))] at hwant; cases hwant
  case r8 =>
    refine trule fun b w hW hold hpre => ⟨fun hwant K hK => ?_, fun hwant => ?_⟩
    · clear hwant
      have e17 : b.eval (.tmp 17) = .agg B := hpre ⟨6, _⟩ (Array.mem_of_getElem? (i := 0) rfl) rfl _ _ rfl rfl
      have e18 : b.eval (.tmp 18) = .agg A := hpre ⟨7, _⟩ (Array.mem_of_getElem? (i := 1) rfl) rfl _ _ rfl rfl
      exact opw_call rfl (by kernel_rfl) (by simp [e17, e18]) (csame_any (.agg B) (.agg A) c c w _ _ (hS.ext (undrew hW)).ro.2 (hS.ext (undrew hW)).ro.1.2 HSc.out.1 HSc.out.1 (HDT.out.ext (hS.ext (undrew hW)).below)) fun v w' h hb => hK v w' (h.trans (by rw [eqC_self])) hb
    · rw [want_some rfl rfl rfl (show b.eval (.tmp 16) = .bool true from (hpre ⟨5, _⟩ (Array.mem_of_getElem? (i := 2) rfl) rfl _ _ rfl rfl))] at hwant; cases hwant
  case r9 =>
    refine trule fun b w hW hold hpre => ⟨fun hwant K hK => ?_, fun hwant => ?_⟩
    · clear hwant
      have e16 : b.eval (.tmp 16) = .bool true := hpre ⟨5, _⟩ (Array.mem_of_getElem? (i := 0) rfl) rfl _ _ rfl rfl
      have e19 : b.eval (.tmp 19) = .bool true := hpre ⟨8, _⟩ (Array.mem_of_getElem? (i := 1) rfl) rfl _ _ rfl rfl
      exact opw_pick rfl e16 (if_pos rfl) (hK _ _ e19 (Below.refl _ _))
    · rw [want_none rfl] at hwant; cases hwant
  case r10 =>
    refine trule fun b w hW hold hpre => ⟨fun hwant K hK => ?_, fun hwant => ?_⟩
    · clear hwant
      have e20 : b.eval (.tmp 20) = .bool true := hpre ⟨9, _⟩ (Array.mem_of_getElem? (i := 0) rfl) rfl _ _ rfl rfl
      exact opw_assign rfl e20 (hK _ _ rfl (Below.refl _ _))
    · rw [want_none rfl] at hwant; cases hwant
  case post =>
    intro b wz hW hdf hsz hold hT
    have e11 : b.eval (.tmp 11) = .agg B := hT 0 _ 11 rfl rfl
    have e12 : b.eval (.tmp 12) = .int .i64 (checkC c) := hT 1 _ 12 rfl rfl
    have e13 : b.eval (.tmp 13) = .agg A := hT 2 _ 13 rfl rfl
    have e14 : b.eval (.tmp 14) = .int .i64 (checkC c) := hT 3 _ 14 rfl rfl
    have e15 : b.eval (.tmp 15) = .bool true := hT 4 _ 15 rfl rfl
    have e16 : b.eval (.tmp 16) = .bool true := hT 5 _ 16 rfl rfl
    have e17 : b.eval (.tmp 17) = .agg B := hT 6 _ 17 rfl rfl
    have e18 : b.eval (.tmp 18) = .agg A := hT 7 _ 18 rfl rfl
    have e19 : b.eval (.tmp 19) = .bool true := hT 8 _ 19 rfl rfl
    have e20 : b.eval (.tmp 20) = .bool true := hT 9 _ 20 rfl rfl
    have e2 : b.eval (.tmp 2) = .bool true := hT 10 _ 2 rfl rfl
    obtain ⟨vs, hvs, hb⟩ := frame_of hdf hsz hold
    replace e11 : vs 11 = .agg B := (hvs 11).symm.trans e11
    replace e12 : vs 12 = .int .i64 (checkC c) := (hvs 12).symm.trans e12
    replace e13 : vs 13 = .agg A := (hvs 13).symm.trans e13
    replace e14 : vs 14 = .int .i64 (checkC c) := (hvs 14).symm.trans e14
    replace e15 : vs 15 = .bool true := (hvs 15).symm.trans e15
    replace e16 : vs 16 = .bool true := (hvs 16).symm.trans e16
    replace e17 : vs 17 = .agg B := (hvs 17).symm.trans e17
    replace e18 : vs 18 = .agg A := (hvs 18).symm.trans e18
    replace e19 : vs 19 = .bool true := (hvs 19).symm.trans e19
    replace e20 : vs 20 = .bool true := (hvs 20).symm.trans e20
    replace e2 : vs 2 = .bool true := (hvs 2).symm.trans e2
    subst hb
    clear hvs hold hT hdf hsz
    simp only [setAll, Act.put, List.setIfInBounds_toArray, List.set_cons_zero, List.set_cons_succ, List.getElem_toArray, List.getElem_cons_succ, List.getElem_cons_zero]
    go_wp2_with fail
    go_ret
    exact Ret.mk e2 (bel_tr hS.below hW)
end Go.Proofs.YtenpkgdnlogfiaaDoor
