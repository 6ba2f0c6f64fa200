/-
  The card of SliceShortest.
-/
import Derived.Test.YtpcioefppjljoaaGreatDoorRows
import Derived.ProofKit
import Derived.OpenShut
import Derived.Lib.LaidU8
import Derived.Lay
import Derived.MakeChecks
import Derived.LaidLaws
import Derived.Stop.Joined
import Derived.Test.YtpcioefppjljoaaGreatDoorCards
import Derived.Test.YtpcioefppjljoaaGreatDoorTie
import Derived.SevenTiedAt
import Derived.Test.YtpcioefppjljoaaGreatDoorSsh5
namespace Go.Proofs.YtpcioefppjljoaaGreatDoor
section
open Go.RowKit
attribute [local go_sem ↓] Go.wp_at_zero Go.wp_at_succ
set_option maxRecDepth 20000
set_option exponentiation.threshold 5000
theorem Jz (p : Ac) (d : Nat) : (endsN p d).length = d + 1 := by simp [endsN]
theorem ends_at (p : Ac) {d e : Nat} (h : e <= d) : (endsN p d)[e]? = some (srchN p e).1.length := by
 unfold endsN; rw [List.getElem?_map, List.getElem?_range (by omega)]; rfl
theorem ends_succ (p : Ac) (d : Nat) : endsN p (d + 1) = endsN p d ++ [(srchN p (d + 1)).1.length] := by
 unfold endsN; rw [List.range_succ, List.map_append]; rfl
theorem ends_last (p : Ac) (d : Nat) : (endsN p d)[(endsN p d).length - 1]? = some (srchN p d).1.length := by
 rw [Jz, Nat.add_sub_cancel]; exact ends_at p (Nat.le_refl _)
theorem ends_prev (p : Ac) (d : Nat) : ((endsN p d).length <= 1 /\ (srchN p d).2 = 0) \/ (1 < (endsN p d).length /\ (endsN p d)[(endsN p d).length - 2]? = some (srchN p d).2) := by
 rw [Jz]
 cases d with
 | zero => exact .inl ⟨by omega, rfl⟩
 | succ d => exact .inr ⟨by omega, ends_at p (by omega)⟩
theorem cmpL_swap : ∀ {a b : List Nat}, DF a b = -1 -> DF b a = 1
 | [], [], h => absurd h (by decide)
 | [], _ :: _, _ => rfl
 | _ :: _, [], h => by simp [DF] at h
 | x :: a, y :: b, h => by
  rw [DF] at h ⊢
  split at h
  ·rename_i h0
   have : x = y := by unfold EP at h0; split at h0 <;> first | omega | (split at h0 <;> omega)
   subst this
   rw [if_pos (by simp [EP])]
   exact cmpL_swap h
  ·have h1 : x < y := by unfold EP at h; split at h <;> first | omega | (split at h <;> omega)
   have h2 : EP y x = 1 := by unfold EP; rw [if_neg (by omega), if_pos h1]
   rw [if_neg (by rw [h2]; decide), h2]
def ReachR (w0 : World) (p : Ac) (lim : Int) (F : List Aj) (K : (Nat -> Prop) -> World -> Prop) (e : Ending) (w' : World) : Prop :=
 ∃ n f pl er u, FwdOut p lim n f pl er /\ e = .returned (.tuple #[.agg #[.int .i64 (n : Nat), .bool f, u], .int .i64 er]) /\ St w0 w' F fun D w => K D w /\ Sl w D 1 u pl.length (Bw pl)
set_option maxHeartbeats 8000000 in
theorem Jv {w0 w : World} {F : List Aj} {K : (Nat -> Prop) -> World -> Prop} {v : Value} {p : Ac} (lim : Int) (hlim : checkE p = 0 -> lim <= 10000) (hP : p.Ok) (hrl : p.rules.length <= 1000) (hS : St w0 w F K) (kp : ∀ D w, K D w -> Ba w D v p) (kt : ∀ D w, K D w -> BH w) :
  Calls Tryz.prog 15 #[v, .int .i64 lim] w (ReachR w0 p lim F K) := by
 obtain ⟨la, Cs, ns, cs, Ar, cr, An, cn, Ag, cg, rfl⟩ := Ba.shape6 (kp _ _ hS.ro)
 have HP := Lib.hid hP
 have HK := Lib.hid kp
 have HT := Lib.hid kt
 have KS := Lib.hid hS.stable
 have HST : Hid ((B0 p.start).length <= 512) := Lib.hid (by obtain ⟨_, _, _, _, _, _, _, h2, _⟩ := kp _ _ hS.ro; exact GG h2.bound)
 have HLI := Lib.hid hlim
 clear hP kp kt hlim
 go_enter Tryz.func15, Tryz.ntmps15
 go_wp2_with (first
  | ((with_reducible refine qA 2 ?_); refine AE hS rfl _ _ rfl (.agg #[.int .i64 p.roles, .pointer la, .slice Cs ns cs, .slice Ar p.rules.length cr, .slice An p.never.length cn, .slice Ag p.goal.length cg]) _ rfl rfl ?_; clear hS; intro g2 w_ hS; (try simp only [Act.put, Act.eval, zz, Value.cells] at hS))
  | ((with_reducible refine qA 4 ?_); refine qa hS #[.int .i64 0, .bool false, .slice none 0 0] ?_; clear hS; intro g4 w_ hS)
  | ((with_reducible refine qk 31 ?_); refine BigFrame.wpList_want rfl fun _ hK => AZ rfl rfl (hS.box 1 rfl) Tryz.underlying31 rfl (by kernel_rfl) (hK _ _ ?_))
  | (go_at_call 47; refine (begin_any lim HP.out HST.out hS HK.out HT.out).mono ?_; clear hS; rintro e w_ hB; rcases hB with ⟨h1, rfl, hS⟩ | ⟨h1, h2, rfl, hS⟩ | ⟨h1, h2, g, rfl, hS0⟩)
  | ((with_reducible refine qB ?_); refine qc ?_ ?_ <;> intro h_ <;> go_prune)
  | ((with_reducible refine qA 23 ?_); refine Av rfl _ _ rfl #[.int .i64 0, .bool false, .slice none 0 0] (by kernel_rfl) ?_; (try simp only [Act.put, List.setIfInBounds_toArray, List.set_cons_zero, List.set_cons_succ]))
  | ((with_reducible refine qm 42 ?_); refine qS hS ?_; clear hS; intro w_ hS; (try simp only [Act.put, Act.eval, zz, Value.cells] at hS)))
 ·refine BL Tryz.results15 rfl (hS.box 0 rfl) Tryz.underlying42 rfl (by kernel_rfl) rfl rfl ?_
  exact ⟨0, false, [], 1, _, .inl ⟨h1, rfl, rfl, rfl, rfl⟩, rfl, (((hS.nil 3 1).freeze 0 (by decide) rfl).sub ((List.sublist_cons_self _ _).trans (List.sublist_cons_self _ _)))⟩
 ·refine BL Tryz.results15 rfl (hS.box 0 rfl) Tryz.underlying42 rfl (by kernel_rfl) rfl rfl ?_
  exact ⟨0, false, [], checkE p, _, .inr (.inl ⟨by omega, h2, rfl, rfl, rfl, rfl⟩), rfl, (((hS.nil 3 1).freeze 0 (by decide) rfl).sub ((List.sublist_cons_self _ _).trans (List.sublist_cons_self _ _)))⟩
 ·have HC := Lib.hid h2
  have hlm := HLI.out h2
  have HL1 := Lib.hid h1
  clear h1 h2
  have hS1 : Hid (EQ w0 w_ g #[.int .i64 p.roles, .pointer la, .slice Cs ns cs, .slice Ar p.rules.length cr, .slice An p.never.length cn, .slice Ag p.goal.length cg] lim (srchN p 0).1 (endsN p 0) (.box g4 42 #[.int .i64 0, .bool false, .slice none 0 0] :: .box g2 31 #[.int .i64 p.roles, .pointer la, .slice Cs ns cs, .slice Ar p.rules.length cr, .slice An p.never.length cn, .slice Ag p.goal.length cg] :: F) K) := Lib.hid hS0
  clear hS0
  have HL0 : Hid (((srchN p 0).1.length : Int) <= lim) := Lib.hid (by show ((1 : Nat) : Int) <= lim; have := HL1.out; omega)
  go_loopg [8] lim.toNat (fun k fv wr => ∃ d : Nat, fv = .int .i64 ((srchN p d).2 : Nat) /\ lim.toNat - (srchN p d).1.length <= k /\ Hid (d < (srchN p d).1.length /\ ((srchN p d).1.length : Int) <= lim /\ ∀ i, i < d -> Fi p (srchN p i).1 (srchN p i).2) /\ Hid (EQ w0 wr g #[.int .i64 p.roles, .pointer la, .slice Cs ns cs, .slice Ar p.rules.length cr, .slice An p.never.length cn, .slice Ag p.goal.length cg] lim (srchN p d).1 (endsN p d) (.box g4 42 #[.int .i64 0, .bool false, .slice none 0 0] :: .box g2 31 #[.int .i64 p.roles, .pointer la, .slice Cs ns cs, .slice Ar p.rules.length cr, .slice An p.never.length cn, .slice Ag p.goal.length cg] :: F) K))
  case atStart => exact ⟨0, rfl, by omega, Lib.hid ⟨by show 0 < 1; omega, HL0.out, fun i h => by omega⟩, hS1⟩
  case round =>
   clear hS1 HL0 HLI
   obtain ⟨d, rfl, hmk, HI, HS⟩ := hrel
   have hv := BU p d
   have HNX := Lib.hid (show (srchN p (d + 1)).1 = lvlR p (srchN p d).1 (srchN p d).2 ((srchN p d).1.length - (srchN p d).2) from rfl)
   have HNA := Lib.hid (show (srchN p (d + 1)).2 = (srchN p d).1.length from rfl)
   have HES := Lib.hid (ends_succ p d)
   have HEL := Lib.hid (ends_last p d)
   have HEP := Lib.hid (ends_prev p d)
   have HEN := Lib.hid (Jz p d)
   obtain ⟨l, hl⟩ : ∃ l, (srchN p d).1 = l := ⟨_, rfl⟩
   obtain ⟨a, ha⟩ : ∃ a, (srchN p d).2 = a := ⟨_, rfl⟩
   obtain ⟨es, he⟩ : ∃ es, endsN p d = es := ⟨_, rfl⟩
   have HLQ := Lib.hid hl
   have HAQ := Lib.hid ha
   have HEQ := Lib.hid he
   rw [hl, ha] at hv HNX
   rw [he] at HS HES HEL HEP HEN
   rw [hl] at HI HS HEL hmk HNA
   rw [ha] at HEP ⊢
   clear hl ha he
   have hlp := hv.wf.pos
   have hal := hv.le
   have hll := HI.out.2.1
   have HV := Lib.hid hv
   clear hv
   have HK0 : Hid (∃ K', Hid (∀ D w, K' D w -> K D w) /\ Hid (AF K') /\ Hid (EQ w0 wr g #[.int .i64 p.roles, .pointer la, .slice Cs ns cs, .slice Ar p.rules.length cr, .slice An p.never.length cn, .slice Ag p.goal.length cg] lim l es (.box g4 42 #[.int .i64 0, .bool false, .slice none 0 0] :: .box g2 31 #[.int .i64 p.roles, .pointer la, .slice Cs ns cs, .slice Ar p.rules.length cr, .slice An p.never.length cn, .slice Ag p.goal.length cg] :: F) K')) := Lib.hid ⟨K, Lib.hid fun _ _ h => h, KS, HS⟩
   clear HS
   go_wp2_with fail
   go_loopw [9, 10, 11] (fun bv fv iv wr => ∃ i : Nat, iv = .int .i64 (i : Nat) /\ a <= i /\ i <= l.length /\ ∃ K', Hid (∀ D w, K' D w -> K D w) /\ Hid (AF K') /\ Hid (EQ w0 wr g #[.int .i64 p.roles, .pointer la, .slice Cs ns cs, .slice Ar p.rules.length cr, .slice An p.never.length cn, .slice Ag p.goal.length cg] lim l es (.box g4 42 #[.int .i64 0, .bool false, .slice none 0 0] :: .box g2 31 #[.int .i64 p.roles, .pointer la, .slice Cs ns cs, .slice Ar p.rules.length cr, .slice An p.never.length cn, .slice Ag p.goal.length cg] :: F) K') /\ ((bv = .slice none 0 0 /\ fv = .bool false /\ Hid (∀ m, a <= m -> m < i -> reachB p (l.getD m Bf).1 = false)) \/ ∃ j A c, bv = .slice A (BI l j).length c /\ fv = .bool true /\ j < i /\ Hid (HitR p l a j) /\ Hid (∀ D w, K' D w -> Sl w D 1 (.slice A (BI l j).length c) (BI l j).length (Bw (BI l j))))) (fun _ _ iv _ => l.length - (intOf iv).toNat)
   case atStart =>
    obtain ⟨K', h1, h2, h3⟩ := HK0.out
    exact ⟨a, rfl, Nat.le_refl _, hal, K', h1, h2, h3, .inl ⟨rfl, rfl, Lib.hid fun m h1 h2 => by omega⟩⟩
   case round =>
    clear HK0
    obtain ⟨i, rfl, hai, hil, K', HKK, KS', HS, hcase⟩ := hrel
    by_cases hi : i < l.length
    ·have hS0 := HS.out
     clear HS
     obtain ⟨lv, ev, cells, b, clock, n, ents, hm, hn, hS⟩ := hS0; obtain ⟨EL, cl, rfl, hcl, _⟩ := BE (hS.own 0 rfl) (by omega); obtain ⟨Ae, ce, rfl, _, _⟩ := B7 (hS.own 1 rfl); have HSC := Lib.hid (show ∀ lv mv ev, Dk #[.int .i64 p.roles, .pointer la, .slice Cs ns cs, .slice Ar p.rules.length cr, .slice An p.never.length cn, .slice Ag p.goal.length cg] lim lv mv ev = #[.int .i64 p.roles, .pointer la, .slice Cs ns cs, .slice Ar p.rules.length cr, .slice An p.never.length cn, .slice Ag p.goal.length cg, .int .i64 lim, lv, mv, ev] from fun lv mv ev => rfl); rw [HSC.out] at hS; replace hm := Lib.hid hm; replace hn := Lib.hid hn
     have HRX := Lib.hid (FK (l := l) hi)
     obtain ⟨z, hz⟩ : ∃ z, l.getD i Bf = z := ⟨_, rfl⟩
     have HZQ := Lib.hid hz
     rw [hz] at HRX
     clear hz
     obtain ⟨s, zf, zr⟩ := z
     obtain ⟨ca, hc0, -, -, -⟩ := hS.ro.2 _ _ HRX.out
     have HC0 := Lib.hid hc0
     have HSI : Hid (∀ D w, BJ w D cells l -> A7 w D (.agg #[ca]) s) := Lib.hid fun D w h => by
      obtain ⟨c2, h1, _, _, h2⟩ := h _ _ HRX.out
      rw [HC0.out] at h1
      obtain rfl := Option.some.inj h1
      exact h2
     clear hc0
     obtain ⟨rb, hrb⟩ : ∃ rb, reachB p s = rb := ⟨_, rfl⟩
     have HRB := Lib.hid hrb
     clear hrb
     go_wp2_with (first | ((with_reducible refine qB ?_); refine qc ?_ ?_ <;> intro h_ <;> go_prune) | ((with_reducible refine qK ?_); refine qC hS ?_))
     refine BF [.i (.agg #[.int .i64 p.roles, .pointer la, .slice Cs ns cs, .slice Ar p.rules.length cr, .slice An p.never.length cn, .slice Ag p.goal.length cg]), .q g 0, .q g 0, .q g 7, .i (.slice (some ⟨EL, 0, none⟩) l.length cl), .n (i : Nat), .q EL (0 + (i) * 3), .q EL (0 + (i) * 3), .i (.agg #[ca]), .i (.bool rb), .i (.bool (!rb))] ⟨uR (h := fun w hW hN => (hS.ext hW).box 5 rfl), uM, uN, uF, uC (h := fun w hW hN => (hS.ext hW).shut 3 rfl 7 rfl), uM, uI (h := fun w hW hN => AA (m := i) Tryz.underlying98 (by kernel_rfl) (by omega) (by omega)), uF, uD (h := fun w hW hN => Je (by rw [Nat.zero_add]; exact Bj ((hS.ext hW).own 0 rfl) _ _ HC0.out)), ?_, uU, trivial⟩ ?_
     ·refine uT fun b__ w hW hE K hK => ?_
      have e35 := hE 35
      have e43 := hE 43
      exact Az rfl (by kernel_rfl) (by simp only [List.map_cons, List.map_nil, e35, e43]) (F7 (HK.out _ _ (HKK.out _ _ (hS.ext hW).ro.1)) HP.out (HT.out _ _ (HKK.out _ _ (hS.ext hW).ro.1)) (HSI.out _ _ (hS.ext hW).ro.2)) fun v w' h hb => hK v w' (h.trans (by rw [HRB.out])) hb
     ·intro vs wz hW hT
      obtain ⟨e35, e36, e37, e38, e39, e40, e41, e42, e43, e44, e45, -⟩ := hT
      simp only [AC, Act.put, zz, ze]
      rw [e45]
      replace hS := hS.ext hW
      clear hW e35 e36 e37 e38 e39 e40 e41 e42 e43 e44 e45
      have HSR : Hid (EQ w0 wz g #[.int .i64 p.roles, .pointer la, .slice Cs ns cs, .slice Ar p.rules.length cr, .slice An p.never.length cn, .slice Ag p.goal.length cg] lim l es (.box g4 42 #[.int .i64 0, .bool false, .slice none 0 0] :: .box g2 31 #[.int .i64 p.roles, .pointer la, .slice Cs ns cs, .slice Ar p.rules.length cr, .slice An p.never.length cn, .slice Ag p.goal.length cg] :: F) K') := Lib.hid ⟨_, _, _, _, _, _, _, hm.out, hn.out, hS⟩
      clear hS hm hn hcl
      cases rb
      ·go_wp2_with fail
       refine ⟨⟨i + 1, by go_num, by omega, hi, K', HKK, KS', HSR, ?_⟩, by simp [intOf]; omega⟩
       rcases hcase with ⟨rfl, rfl, HN⟩ | ⟨j, A, c, rfl, rfl, hj, HH, HSl⟩
       ·refine .inl ⟨rfl, rfl, Lib.hid fun m h1 h2 => ?_⟩
        rcases Nat.lt_or_ge m i with h3 | h3
        ·exact HN.out m h1 h3
        ·obtain rfl : m = i := by omega
         rw [HZQ.out]; exact HRB.out
       ·exact .inr ⟨j, A, c, rfl, rfl, by omega, HH, HSl⟩
      ·rcases hcase with ⟨rfl, rfl, HN⟩ | ⟨j, A, c, rfl, rfl, hj, HH, HSl⟩
       ·go_wp2_with (first
         | (go_at_call 48; refine (fplan_any HV.out.wf hi (by omega) HSR.out KS'.out).mono ?_; rintro e w_ ⟨u, rfl, hS2⟩; obtain ⟨_, _, _, _, _, _, _, _, _, hS3⟩ := id hS2; obtain ⟨A, c, rfl, _, _⟩ := hS3.ro.1.2.shape; clear hS3; replace hS2 := Lib.hid hS2))
        refine ⟨⟨i + 1, by go_num, by omega, hi, _, Lib.hid fun D w h => HKK.out _ _ h.1, Lib.hid (KS'.out.and (At (by decide))), hS2, .inr ⟨i, A, c, rfl, rfl, by omega, Lib.hid ⟨hai, hi, by rw [HZQ.out]; exact HRB.out, HN.out⟩, Lib.hid fun D w h => h.2⟩⟩, by simp [intOf]; omega⟩
       ·have HCM : Hid (DF (BI l i) (BI l j) = 1) := Lib.hid (cmpL_swap (HV.out.asc j i HH.out.1 hj hi))
        have hlj := GX HV.out.wf (j + 1) j (by omega) (by omega)
        have hli := GX HV.out.wf (i + 1) i (by omega) (by omega)
        have HLJ := Lib.hid hlj
        have HLI := Lib.hid hli
        obtain ⟨pj, hpj⟩ : ∃ pj, BI l j = pj := ⟨_, rfl⟩
        obtain ⟨pi, hpi⟩ : ∃ pi, BI l i = pi := ⟨_, rfl⟩
        have HPJ := Lib.hid hpj
        have HPI := Lib.hid hpi
        rw [hpj] at HSl HCM hlj ⊢
        rw [hpi] at HCM hli
        clear hpj hpi
        go_wp2_with (first
         | (go_at_call 48; refine (fplan_any HV.out.wf hi (by omega) HSR.out KS'.out).mono ?_; rintro e w_ ⟨u, rfl, hS2⟩; rw [HPI.out] at hS2; obtain ⟨lv, ev, cells, b, clock, n, ents, hm, hn, hS⟩ := hS2; replace hm := Lib.hid hm; replace hn := Lib.hid hn; obtain ⟨Ai, ci, rfl, _, _⟩ := hS.ro.1.2.shape)
         | (go_at_call 49; refine (scmp_any hS.ro.1.2 (HSl.out _ _ hS.ro.1.1) (by omega) (by omega)).mono ?_; rw [HCM.out]; rintro r_ w_ ⟨_, rfl, rfl, hb_⟩; replace hS := hS.ext hb_; clear hb_)
         | ((with_reducible refine qB ?_); refine qc ?_ ?_ <;> intro h_ <;> go_prune))
        refine ⟨⟨i + 1, by go_num, by omega, hi, _, Lib.hid fun D w h => HKK.out _ _ h.1, Lib.hid (KS'.out.and (At (v := .slice Ai pi.length ci) (n := pi.length) (xs := Bw pi) (by decide))), Lib.hid ⟨_, _, _, _, _, _, _, hm.out, hn.out, hS⟩, .inr ⟨j, A, c, by rw [HPJ.out], rfl, by omega, HH, Lib.hid fun D w h => by rw [HPJ.out]; exact HSl.out _ _ h.1⟩⟩, by simp [intOf]; omega⟩
    ·obtain rfl : i = l.length := by omega
     have hS0 := HS.out
     clear HS
     rcases hcase with ⟨rfl, rfl, HN⟩ | ⟨j, A, c, rfl, rfl, hj, HH, HSl⟩
     ·have HNH : Hid (Fi p l a) := Lib.hid HN.out
      obtain ⟨lv, ev, cells, b, clock, n, ents, hm, hn, hS⟩ := hS0; obtain ⟨EL, cl, rfl, hcl, _⟩ := BE (hS.own 0 rfl) (by omega); obtain ⟨Ae, ce, rfl, _, _⟩ := B7 (hS.own 1 rfl); have HSC := Lib.hid (show ∀ lv mv ev, Dk #[.int .i64 p.roles, .pointer la, .slice Cs ns cs, .slice Ar p.rules.length cr, .slice An p.never.length cn, .slice Ag p.goal.length cg] lim lv mv ev = #[.int .i64 p.roles, .pointer la, .slice Cs ns cs, .slice Ar p.rules.length cr, .slice An p.never.length cn, .slice Ag p.goal.length cg, .int .i64 lim, lv, mv, ev] from fun lv mv ev => rfl); rw [HSC.out] at hS; replace hm := Lib.hid hm; replace hn := Lib.hid hn
      go_wp2_with (first
       | ((with_reducible refine qB ?_); refine qc ?_ ?_ <;> intro h_ <;> go_prune)
       | (go_at_call 50; have HSR := Lib.hid (show EQ w0 _ g #[.int .i64 p.roles, .pointer la, .slice Cs ns cs, .slice Ar p.rules.length cr, .slice An p.never.length cn, .slice Ag p.goal.length cg] lim l es (.box g4 42 #[.int .i64 0, .bool false, .slice none 0 0] :: .box g2 31 #[.int .i64 p.roles, .pointer la, .slice Cs ns cs, .slice Ar p.rules.length cr, .slice An p.never.length cn, .slice Ag p.goal.length cg] :: F) K' from ⟨_, _, _, _, _, _, _, hm.out, hn.out, hS⟩); clear hS hm hn hcl; refine (deepen_any HV.out.wf HP.out hrl (fun D w h => HK.out _ _ (HKK.out _ _ h)) (fun D w h => HT.out _ _ (HKK.out _ _ h)) KS'.out HEL.out HEP.out hal hll hlm (by have := HEN.out; have := HI.out.1; omega) HSR.out).mono ?_; rintro e w_ hD; rw [DeepR, <- HNX.out] at hD; clear HSR; obtain ⟨mb, hmb⟩ : ∃ mb : Bool, decide (l.length < (srchN p (d + 1)).1.length) = mb := ⟨_, rfl⟩; rw [hmb] at hD; replace hmb := Lib.hid hmb; have HL2 := Lib.hid (BU p (d + 1)).wf.pos; have HPR := Lib.hid (GA p d).length_le; rw [HLQ.out] at HPR; obtain ⟨l2, hl2⟩ : ∃ l2, (srchN p (d + 1)).1 = l2 := ⟨_, rfl⟩; have HLQ2 := Lib.hid hl2; rw [hl2] at hmb HL2 HPR hD; rcases hD with ⟨h1, rfl, hS0⟩ | ⟨h1, rfl, hS⟩; cases mb; (obtain ⟨lv, ev, cells, b, clock, n, ents, hm, hn, hS⟩ := hS0; obtain ⟨EL, cl, rfl, hcl, _⟩ := BE (hS.own 0 rfl) HL2.out; obtain ⟨Ae, ce, rfl, _, _⟩ := B7 (hS.own 1 rfl); rw [show ∀ lv mv ev, Dk #[.int .i64 p.roles, .pointer la, .slice Cs ns cs, .slice Ar p.rules.length cr, .slice An p.never.length cn, .slice Ag p.goal.length cg] lim lv mv ev = #[.int .i64 p.roles, .pointer la, .slice Cs ns cs, .slice Ar p.rules.length cr, .slice An p.never.length cn, .slice Ag p.goal.length cg, .int .i64 lim, lv, mv, ev] from fun lv mv ev => rfl] at hS; clear hm hn hcl hl2))
       | ((with_reducible refine qA 87 ?_); refine Av rfl _ _ rfl #[.int .i64 (l2.length : Nat), .bool false, .slice none 0 0] (by kernel_rfl) ?_; (try simp only [Act.put, List.setIfInBounds_toArray, List.set_cons_zero, List.set_cons_succ]))
       | ((with_reducible refine qA 78 ?_); refine Av rfl _ _ rfl #[.int .i64 0, .bool false, .slice none 0 0] (by kernel_rfl) ?_; (try simp only [Act.put, List.setIfInBounds_toArray, List.set_cons_zero, List.set_cons_succ]))
       | ((with_reducible refine qm 42 ?_); refine qS hS ?_; clear hS; intro w_ hS; (try simp only [Act.put, Act.eval, zz, Value.cells] at hS))
       | ((with_reducible refine qm 42 ?_); refine qS hS ?_; clear hS; intro w_ hS; (try simp only [Act.put, Act.eval, zz, Value.cells] at hS))
       | ((with_reducible refine qK ?_); refine qC hS ?_))
      ·refine BL Tryz.results15 rfl (hS.box 4 rfl) Tryz.underlying42 rfl (by kernel_rfl) rfl rfl ?_
       have h2 : l2.length = l.length := by have := of_decide_eq_false hmb.out; have := HPR.out; omega
       refine ⟨l2.length, false, [], 0, _, .inr (.inr ⟨by have := HL1.out; omega, HC.out, d, HI.out.2.2, by rw [HLQ.out]; exact HI.out.2.1, .inr (.inl ⟨by rw [HLQ.out, HAQ.out]; exact HNH.out, by rw [HLQ.out, HLQ2.out, h2], by rw [HLQ.out, h2], rfl, rfl, rfl⟩)⟩), rfl, ?_⟩
       have hS2 := (hS.nil 3 1).freeze 0 (by decide) rfl
       exact (hS2.sub (by repeat (first | exact List.Sublist.refl _ | apply List.Sublist.cons))).mono (KS.out.and (At (by decide))) fun D w h => ⟨HKK.out _ _ h.1.1, h.2⟩
      ·have h2 : l.length < l2.length := of_decide_eq_true hmb.out
       go_roundg (lim.toNat - l2.length)
       case measure => omega
       case rel =>
        refine ⟨d + 1, by rw [HNA.out], by rw [HLQ2.out]; omega, Lib.hid ⟨by rw [HLQ2.out]; have := HI.out.1; omega, by rw [HLQ2.out]; exact h1, fun i hi => ?_⟩, Lib.hid ?_⟩
        ·rcases Nat.lt_or_ge i d with h3 | h3
         ·exact HI.out.2.2 i h3
         ·obtain rfl : i = d := by omega
          rw [HLQ.out, HAQ.out]; exact HNH.out
        ·rw [HLQ2.out, HES.out, HLQ2.out]
         obtain ⟨lv, ev, cells, b, clock, n, ents, hm, hn, hS⟩ := hS0
         rw [if_pos h2] at hS
         exact ⟨lv, ev, cells, b, clock, n, ents, hm, hn, hS.mono (KS.out.and Br) fun D w h => ⟨HKK.out _ _ h.1, h.2⟩⟩
      ·refine BL Tryz.results15 rfl (hS.box 0 rfl) Tryz.underlying42 rfl (by kernel_rfl) rfl rfl ?_
       refine ⟨0, false, [], 3, _, .inr (.inr ⟨by have := HL1.out; omega, HC.out, d, HI.out.2.2, by rw [HLQ.out]; exact HI.out.2.1, .inr (.inr ⟨by rw [HLQ.out, HAQ.out]; exact HNH.out, by rw [HLQ2.out]; exact h1, rfl, rfl, rfl, rfl⟩)⟩), rfl, ?_⟩
       have hS2 := (hS.nil 3 1).freeze 0 (by decide) rfl
       exact (hS2.sub ((List.sublist_cons_self _ _).trans (List.sublist_cons_self _ _))).mono (KS.out.and (At (by decide))) fun D w h => ⟨HKK.out _ _ h.1, h.2⟩
     ·obtain ⟨lv, ev, cells, b, clock, n, ents, hm, hn, hS⟩ := hS0; obtain ⟨EL, cl, rfl, hcl, _⟩ := BE (hS.own 0 rfl) (by omega); obtain ⟨Ae, ce, rfl, _, _⟩ := B7 (hS.own 1 rfl); have HSC := Lib.hid (show ∀ lv mv ev, Dk #[.int .i64 p.roles, .pointer la, .slice Cs ns cs, .slice Ar p.rules.length cr, .slice An p.never.length cn, .slice Ag p.goal.length cg] lim lv mv ev = #[.int .i64 p.roles, .pointer la, .slice Cs ns cs, .slice Ar p.rules.length cr, .slice An p.never.length cn, .slice Ag p.goal.length cg, .int .i64 lim, lv, mv, ev] from fun lv mv ev => rfl); rw [HSC.out] at hS; replace hm := Lib.hid hm; replace hn := Lib.hid hn
      go_wp2_with (first
       | ((with_reducible refine qA 65 ?_); refine Av rfl _ _ rfl #[.int .i64 (l.length : Nat), .bool true, .slice A (BI l j).length c] (by kernel_rfl) ?_; (try simp only [Act.put, List.setIfInBounds_toArray, List.set_cons_zero, List.set_cons_succ]))
       | ((with_reducible refine qm 42 ?_); refine qS hS ?_; clear hS; intro w_ hS; (try simp only [Act.put, Act.eval, zz, Value.cells] at hS))
       | ((with_reducible refine qK ?_); refine qC hS ?_))
      refine BL Tryz.results15 rfl (hS.box 4 rfl) Tryz.underlying42 rfl (by kernel_rfl) rfl rfl ?_
      refine ⟨l.length, true, BI l j, 0, _, .inr (.inr ⟨by have := HL1.out; omega, HC.out, d, HI.out.2.2, by rw [HLQ.out]; exact HI.out.2.1, .inl ⟨j, by rw [HLQ.out, HAQ.out]; exact HH.out, by rw [HLQ.out], rfl, by rw [HLQ.out], rfl⟩⟩), rfl, ?_⟩
      exact (hS.sub (by repeat (first | exact List.Sublist.refl _ | apply List.Sublist.cons))).mono (KS.out.and (At (by decide))) fun D w h => ⟨HKK.out _ _ h.1, HSl.out _ _ h.1⟩
end
section
open Go.RowKit
attribute [local go_sem ↓] Go.wp_at_zero Go.wp_at_succ
set_option maxRecDepth 20000
set_option exponentiation.threshold 5000
theorem sl_intsL {w : World} {D : Nat -> Prop} {v : Value} {l : List Nat} (h : Sl w D 1 v l.length (Bw l)) : Sl w D 1 v (CB l).length (AX (CB l)) := by
 rw [show AX (CB l) = Bw l by simp [AX, CB, Bw], show (CB l).length = l.length by simp [CB]]; exact h
set_option maxHeartbeats 8000000 in
theorem lshortest_any (v : Value) (l : List Nat) (W : World) (D : Nat -> Prop) (hl : ∀ x ∈ l, x < 256) (hv : Sl W D 1 v l.length (G1 l)) (hT : BH W) : Calls Tryz.prog 12 #[v] W (AO (fun x _ => x = .bool true) W) := by
 obtain ⟨K, kt, k1, hS⟩ := start_bytes1 hT hv
 clear hv hT
 have HL := Lib.hid hl
 clear hl
 go_enter Tryz.func12, Tryz.ntmps12
 go_wp2_with (first
  | (go_at_call 40; refine (lawake33_any hS kt).mono ?_; clear hS; rintro e w_ ⟨rfl, hS⟩)
  | (go_at_call 14; refine (lmake31_any HL.out hS k1 kt).mono ?_; clear hS; rintro e w_ ⟨x, u, rfl, p, ⟨L, R, hM⟩, hS⟩; replace hM := Lib.hid hM; obtain ⟨xs, rfl, hx6, hx1⟩ := hS.ro.2.1.cells; replace hx6 := Lib.hid hx6; obtain ⟨us, rfl, hu6, hu1⟩ := hS.ro.2.2.cells; replace hu6 := Lib.hid hu6; have HC0 := Lib.hid hM.out.check)
  | ((with_reducible refine qA 3 ?_); refine qa hS #[.int .i64 0, .pointer none, .slice none 0 0, .slice none 0 0, .slice none 0 0, .slice none 0 0] ?_; clear hS; intro g3 w_ hS)
  | ((with_reducible refine qA 4 ?_); refine qa hS #[.int .i64 0, .slice none 0 0, .int .u64 0, .slice none 0 0, .slice none 0 0, .slice none 0 0] ?_; clear hS; intro g4 w_ hS)
  | ((with_reducible refine qA 6 ?_); refine qa hS #[.int .i64 0, .pointer none, .slice none 0 0, .slice none 0 0, .slice none 0 0, .slice none 0 0] ?_; clear hS; intro g6 w_ hS)
  | ((with_reducible refine qA 28 ?_); refine BigFrame.wpList_want rfl fun _ hK => AZ rfl rfl (hS.box 1 rfl) Tryz.underlying31 rfl (by rw [hx6.out]; kernel_rfl) (hK _ _ ?_))
  | (go_at_call 41; refine (H5 hM.out.ok hS (fun D w h => h.2.1) (fun D w h => (kt D w h.1).1)).mono ?_; rw [HC0.out]; clear hS; rintro e w_ ⟨y, kk, rfl, hS⟩; obtain ⟨ys, rfl, hy6, hy1⟩ := hS.ro.1.2.cells; replace hy6 := Lib.hid hy6; obtain ⟨Ak, ck, rfl, _, _⟩ := hS.ro.2.shape)
  | ((with_reducible refine qm 37 ?_); (refine Bt hS 0 rfl _ _ _ rfl _ _ rfl rfl _ _ rfl (by rw [hu6.out]; kernel_rfl) (by rw [hu6.out]; rfl) hu1 ?_; clear hS; intro w_ hS; (try simp only [Act.put, Act.eval, zz, Value.cells] at hS)))
  | ((with_reducible refine qm 31 ?_); (first | (refine Bt hS 0 rfl _ _ _ rfl _ _ rfl rfl _ _ rfl (by rw [hy6.out]; kernel_rfl) (by rw [hy6.out]; rfl) hy1 ?_) | (refine Bt hS 1 rfl _ _ _ rfl _ _ rfl rfl _ _ rfl (by rw [hx6.out]; kernel_rfl) (by rw [hx6.out]; rfl) hx1 ?_)); clear hS; intro w_ hS; (try simp only [Act.put, Act.eval, zz, Value.cells] at hS))
  | ((with_reducible refine qA 40 ?_); refine BigFrame.wpList_want rfl fun _ hK => AZ rfl rfl (hS.box 2 rfl) Tryz.underlying31 rfl (by rw [hx6.out]; kernel_rfl) (hK _ _ ?_))
  | ((with_reducible show Calls _ _ #[.agg xs, _] _ _); go_at_call 15; refine (Jv 5000 (fun _ => by decide) hM.out.ok (by have := hM.out.rlen; omega) hS (fun D w h => h.1.1.2.1) (fun D w h => (kt _ _ h.1.1.1).1)).mono ?_; clear hS; rintro e w_ ⟨na, fa, pa, er, u, hF, rfl, hS⟩; obtain ⟨rfl, hF2⟩ := fwd_well hM.out HC0.out (by decide) hF; clear hF; obtain ⟨Ap, cp, rfl, _, _⟩ := hS.ro.2.shape; have hFa := Lib.hid hF2; clear hF2)
  | ((with_reducible refine qA 9 ?_); refine qa hS #[.int .i64 0, .bool false, .slice none 0 0] ?_; clear hS; intro g9 w_ hS)
  | ((with_reducible refine qm 42 ?_); refine qS hS ?_; clear hS; intro w_ hS; (try simp only [Act.put, Act.eval, zz, Value.cells] at hS))
  | ((with_reducible refine qA 45 ?_); refine BigFrame.wpList_want rfl fun _ hK => AZ rfl rfl (hS.box 1 rfl) Tryz.underlying31 rfl (by rw [hy6.out]; kernel_rfl) (hK _ _ ?_)))
 have hr6 := hM.out.slice.rlen
 refine (Jv 5000 (fun _ => by decide) hM.out.slice.ok (by omega) hS (fun D w h => h.1.1.2) (fun D w h => (kt _ _ h.1.1.1.1).1)).mono ?_
 clear hS
 rintro e w_ ⟨nb, fb, pb, er, u, hF, rfl, hS⟩
 obtain ⟨rfl, hF2⟩ := fwd_well hM.out.slice hM.out.slice.check (by decide) hF
 clear hF
 obtain ⟨Aq, cq, rfl, _, _⟩ := hS.ro.2.shape
 obtain ⟨hfe, hle, hnn⟩ := well_slice hM.out hFa.out hF2
 obtain ⟨A, mm, hb1, hb2, hb3⟩ := well_back hM.out hF2
 have hBR := Lib.hid hb1
 have hBE := Lib.hid hb2
 have hBG := Lib.hid hb3
 clear hb1 hb2 hb3 hF2
 have hpb : pb.length <= 1000000 := by
  have h1 := hS.ro.2
  obtain ⟨_, _, _, e, _, h2, _⟩ := h1
  rw [<- hle]
  obtain ⟨d, h1, ⟨j, q1, _, _, rfl⟩ | ⟨_, _, _, _, rfl⟩⟩ := hFa.out
  ·have := GX (BU p d).wf (j + 1) j (by omega) q1.2.1
   have h3 := DS hM.out d
   have h4 := q1.2.1
   omega
  ·simp
 subst hfe
 cases fa
 ·go_wp2_with (first
   | ((with_reducible refine qA 11 ?_); refine qa hS #[.int .i64 0, .bool false, .slice none 0 0] ?_; clear hS; intro g11 w_ hS)
   | ((with_reducible refine qm 42 ?_); refine qS hS ?_; clear hS; intro w_ hS; (try simp only [Act.put, Act.eval, zz, Value.cells] at hS))
   | ((with_reducible refine qB ?_); refine qc ?_ ?_ <;> intro h_ <;> go_prune)
   | ((with_reducible refine qK ?_); refine qC hS ?_)
   | ((with_reducible refine qA 76 ?_); refine BigFrame.wpList_want rfl fun _ hK => AZ rfl rfl (hS.box 3 rfl) Tryz.underlying37 rfl (by rw [hu6.out]; kernel_rfl) (hK _ _ ?_)))
  refine (Ja hM.out hS (fun D w h => h.1.1.1.1.2.2)).mono ?_
  clear hS
  rintro e w_ ⟨z, rfl, hz, hS⟩
  obtain rfl : z = -1 := by
   rcases J2 hFa.out hz with ⟨h, h2⟩ | ⟨h, h2⟩
   ·cases h
   ·exact h2
  clear hz
  go_wp2_with (first | ((with_reducible refine qB ?_); refine qc ?_ ?_ <;> intro h_ <;> go_prune) | (go_at_call 43; refine (back_any (sl_intsL hS.ro.2) hS.ro.1.1.2 (by rw [show (CB pb).length = pb.length by simp [CB]]; omega)).mono ?_; intro e w_ hB; obtain ⟨x, rfl, hs_⟩ := hB.good hBG.out; obtain ⟨wl, hwl⟩ : ∃ wl, (CB pb).map (Gc (ofKept p)) = wl := ⟨_, rfl⟩; have hwlen : wl.length <= 1000000 := (by rw [<- hwl, List.length_map, show (CB pb).length = pb.length by simp [CB]]; exact hpb); rw [hwl] at hs_ hBR; replace hS := hS.new hs_.below (.own x 3 1 wl.length (AX wl)) (hs_.own 0 rfl); clear hs_ hB hwl; replace hS := hS.freeze 0 (by decide) rfl; obtain ⟨Aw, cw, rfl, _, _⟩ := hS.ro.2.shape) | ((with_reducible refine qA 102 ?_); refine BigFrame.wpList_want rfl fun _ hK => AZ rfl rfl (hS.box 4 rfl) Tryz.underlying31 rfl (by rw [hx6.out]; kernel_rfl) (hK _ _ ?_)) | (go_at_call 18; refine (srun_any hM.out.links hM.out.ok hwlen hS (fun D w h => h.1.1.1.1.1.2.1) (fun D w h => h.2) (fun D w h => (kt D w h.1.1.1.1.1.1).1)).mono ?_; clear hS; rintro e w_ ⟨x, N1, n1, b1, rfl, hr1, hS⟩; obtain ⟨rfl, rfl⟩ := run_uniq hr1 hBR.out; clear hr1; obtain ⟨ua, rfl, hua⟩ := Cr hS.ro.2) | ((with_reducible refine qA 16 ?_); refine qa hS #[.slice none 0 0] ?_; clear hS; intro g16 w_ hS) | ((with_reducible refine qm 27 ?_); refine Bt hS 0 rfl _ _ _ rfl _ _ rfl rfl _ _ rfl (by kernel_rfl) (by kernel_rfl) (by simpa using hua) ?_; clear hS; intro w_ hS; (try simp only [Act.put, Act.eval, zz, Value.cells] at hS)) | ((with_reducible refine qK ?_); refine qC hS ?_))
  refine BF [.n 0, .b true, .b true, .b true, .b true, .b true, .i (.agg xs), .i (.agg #[ua]), .b false, .q g9 1, .b false, .b true, .b true, .b true] ⟨uM, uB (h := fun w hW hN => GL rfl), uM, uM, uP, uM, ?_, uR (h := fun w hW hN => (hS.ext hW).box 0 rfl), ?_, uF, uC (h := fun w hW hN => (hS.ext hW).shut 2 rfl 1 rfl), uB (h := fun w hW hN => by rfl), uP, uA, trivial⟩ ?_
  ·refine uT fun b__ w hW hE K hK => ?_
   have e3 : b__.eval (.tmp 3) = .pointer (some ⟨g3, 0, none⟩) := hE 3
   exact AZ rfl e3 ((hS.ext hW).box 5 rfl) Tryz.underlying31 rfl (by rw [hx6.out]; kernel_rfl) (hK _ _ rfl (Below.refl _ _))
  ·refine uT fun b__ w hW hE K hK => ?_
   have e114 := hE 114
   have e115 := hE 115
   exact Az rfl (by kernel_rfl) (by simp only [List.map_cons, List.map_nil, e114, e115]) (F7 (hS.ext hW).ro.1.1.1.1.1.1.2.1 hM.out.ok (kt _ _ (hS.ext hW).ro.1.1.1.1.1.1.1).1 (hS.ext hW).ro.2) fun v w' h hb => hK v w' (h.trans (by rw [hBE.out])) hb
  ·intro vs wz hW hT
   obtain ⟨e108, e109, e110, e111, e112, e113, e114, e115, e116, e117, e118, e119, e120, e2, -⟩ := hT
   simp only [AC, Act.put, zz, ze]
   replace hS := hS.ext hW
   go_wp2_with fail
   go_ret
   first
    | exact AO.mk rfl hS.below
    | exact AO.mk e2 hS.below
 ·go_wp2_with (first
   | ((with_reducible refine qA 11 ?_); refine qa hS #[.int .i64 0, .bool false, .slice none 0 0] ?_; clear hS; intro g11 w_ hS)
   | ((with_reducible refine qm 42 ?_); refine qS hS ?_; clear hS; intro w_ hS; (try simp only [Act.put, Act.eval, zz, Value.cells] at hS))
   | ((with_reducible refine qB ?_); refine qc ?_ ?_ <;> intro h_ <;> go_prune)
   | ((with_reducible refine qK ?_); refine qC hS ?_)
   | ((with_reducible refine qA 76 ?_); refine BigFrame.wpList_want rfl fun _ hK => AZ rfl rfl (hS.box 3 rfl) Tryz.underlying37 rfl (by rw [hu6.out]; kernel_rfl) (hK _ _ ?_)))
  refine (Ja hM.out hS (fun D w h => h.1.1.1.1.2.2)).mono ?_
  clear hS
  rintro e w_ ⟨z, rfl, hz, hS⟩
  obtain rfl : z = ((pa.length : Nat) : Int) := by
   rcases J2 hFa.out hz with ⟨h, h2⟩ | ⟨h, h2⟩
   ·exact h2
   ·cases h
  clear hz
  go_wp2_with (first | ((with_reducible refine qB ?_); refine qc ?_ ?_ <;> intro h_ <;> go_prune) | (go_at_call 43; refine (back_any (sl_intsL hS.ro.2) hS.ro.1.1.2 (by rw [show (CB pb).length = pb.length by simp [CB]]; omega)).mono ?_; intro e w_ hB; obtain ⟨x, rfl, hs_⟩ := hB.good hBG.out; obtain ⟨wl, hwl⟩ : ∃ wl, (CB pb).map (Gc (ofKept p)) = wl := ⟨_, rfl⟩; have hwlen : wl.length <= 1000000 := (by rw [<- hwl, List.length_map, show (CB pb).length = pb.length by simp [CB]]; exact hpb); rw [hwl] at hs_ hBR; replace hS := hS.new hs_.below (.own x 3 1 wl.length (AX wl)) (hs_.own 0 rfl); clear hs_ hB hwl; replace hS := hS.freeze 0 (by decide) rfl; obtain ⟨Aw, cw, rfl, _, _⟩ := hS.ro.2.shape) | ((with_reducible refine qA 102 ?_); refine BigFrame.wpList_want rfl fun _ hK => AZ rfl rfl (hS.box 4 rfl) Tryz.underlying31 rfl (by rw [hx6.out]; kernel_rfl) (hK _ _ ?_)) | (go_at_call 18; refine (srun_any hM.out.links hM.out.ok hwlen hS (fun D w h => h.1.1.1.1.1.2.1) (fun D w h => h.2) (fun D w h => (kt D w h.1.1.1.1.1.1).1)).mono ?_; clear hS; rintro e w_ ⟨x, N1, n1, b1, rfl, hr1, hS⟩; obtain ⟨rfl, rfl⟩ := run_uniq hr1 hBR.out; clear hr1; obtain ⟨ua, rfl, hua⟩ := Cr hS.ro.2) | ((with_reducible refine qA 16 ?_); refine qa hS #[.slice none 0 0] ?_; clear hS; intro g16 w_ hS) | ((with_reducible refine qm 27 ?_); refine Bt hS 0 rfl _ _ _ rfl _ _ rfl rfl _ _ rfl (by kernel_rfl) (by kernel_rfl) (by simpa using hua) ?_; clear hS; intro w_ hS; (try simp only [Act.put, Act.eval, zz, Value.cells] at hS)) | ((with_reducible refine qK ?_); refine qC hS ?_))
  refine BF [.n 0, .b true, .b true, .b true, .b true, .b true, .i (.agg xs), .i (.agg #[ua]), .b true, .q g9 1, .b true, .b true, .b true, .b true] ⟨uM, uB (h := fun w hW hN => GL rfl), uM, uM, uP, uM, ?_, uR (h := fun w hW hN => (hS.ext hW).box 0 rfl), ?_, uF, uC (h := fun w hW hN => (hS.ext hW).shut 2 rfl 1 rfl), uB (h := fun w hW hN => by rfl), uP, uA, trivial⟩ ?_
  ·refine uT fun b__ w hW hE K hK => ?_
   have e3 : b__.eval (.tmp 3) = .pointer (some ⟨g3, 0, none⟩) := hE 3
   exact AZ rfl e3 ((hS.ext hW).box 5 rfl) Tryz.underlying31 rfl (by rw [hx6.out]; kernel_rfl) (hK _ _ rfl (Below.refl _ _))
  ·refine uT fun b__ w hW hE K hK => ?_
   have e114 := hE 114
   have e115 := hE 115
   exact Az rfl (by kernel_rfl) (by simp only [List.map_cons, List.map_nil, e114, e115]) (F7 (hS.ext hW).ro.1.1.1.1.1.1.2.1 hM.out.ok (kt _ _ (hS.ext hW).ro.1.1.1.1.1.1.1).1 (hS.ext hW).ro.2) fun v w' h hb => hK v w' (h.trans (by rw [hBE.out])) hb
  ·intro vs wz hW hT
   obtain ⟨e108, e109, e110, e111, e112, e113, e114, e115, e116, e117, e118, e119, e120, e2, -⟩ := hT
   simp only [AC, Act.put, zz, ze]
   replace hS := hS.ext hW
   go_wp2_with fail
   go_ret
   first
    | exact AO.mk rfl hS.below
    | exact AO.mk e2 hS.below
end
section
open Go.RowKit Go.ChangeShapes Go.WideShapes
section
variable {H : Type} {enc : TypeId × Value -> H} {P : Program} {w : World} {base : Nat} {sp : Nat -> Bool} {held : Bool}
theorem sl_of_trod {t e : TypeId} {size fuel : Nat} {cs : List Value} {x : DataW H × List MemPlace} (ht : P.underlying t = some (.slice e)) (hc : P.cellsOf e = size) (hsz : 0 < size) (h : DataW.trod enc P w base sp held fuel t cs = some x) :
  ∃ v n xs, cs = [v] /\ Sl w (fun _ => True) size v n xs /\ ∀ k, k < n -> ∃ f' y, DataW.trod enc P w base sp held f' e ((xs.drop (k * size)).take size) = some y := by
 rcases DataW.trod_slice ht h with ⟨rfl, _⟩ | ⟨a, len, cap, elems, rest, n, _, rfl, _, hb, hl, hm, hlen, hel, _⟩
 ·exact ⟨_, 0, [], rfl, ⟨by simp, none, 0, rfl, Nat.le_refl _, Nat.zero_le _, fun h => by omega⟩, fun k hk => by omega⟩
 ·rw [hc] at hel
  have each : ∀ k, k < len -> ∃ ck y, w.cells? base (a.add (k * size)) size = some ck /\ DataW.trod enc P w base sp held n e ck = some y := by
   intro k hk
   have h1 := hel k hk
   rw [List.getElem?_eq_getElem (by omega)] at h1
   obtain ⟨ck, h2, h3⟩ := Option.bind_eq_some_iff.1 h1
   exact ⟨ck, _, h2, h3⟩
  have hadd : ∀ i j, (a.add i).add j = a.add (i + j) := by
   intro i j
   unfold Addr.add
   by_cases h1 : i = 0 <;> by_cases h2 : j = 0 <;> simp [h1, h2, Nat.add_assoc]
  have cell : ∀ j, j < len * size -> ∃ x, w.cell? (a.add j) = some x := by
   intro j hj
   have hk : j / size < len := (Nat.div_lt_iff_lt_mul hsz).2 hj
   obtain ⟨ck, y, h1, h2⟩ := each _ hk
   obtain ⟨_, h3, h4⟩ := World.cells?_some h1
   have h5 := h4 (j % size) (Nat.mod_lt _ hsz)
   rw [hadd, Nat.mul_comm, Nat.div_add_mod] at h5
   rw [h5, List.getElem?_eq_getElem (by rw [h3]; exact Nat.mod_lt _ hsz)]
   exact ⟨_, rfl⟩
  refine ⟨.slice (some a) len cap, len, (List.range (len * size)).map fun j => (w.cell? (a.add j)).getD undef, rfl, ⟨by simp, some a, cap, rfl, hl, hm, fun h0 => ?_⟩, fun k hk => ?_⟩
  ·obtain ⟨x0, hx0⟩ := cell 0 (Nat.mul_pos h0 hsz)
   obtain ⟨b, o, s⟩ := a
   have hs : s = none := cell_spot hx0
   subst hs
   refine ⟨b, o, rfl, trivial, ?_, fun j x hx => ?_⟩
   ·have := hx0
    unfold World.cell? at this
    simp only [Addr.add] at this
    rcases Nat.lt_or_ge b w.heap.size with hlt | hge
    ·exact hlt
    ·simp [Array.getElem?_eq_none hge] at this
   ·simp only [List.getElem?_map, Option.map_eq_some_iff] at hx
    obtain ⟨j', hj', rfl⟩ := hx
    have hjl := (List.getElem?_eq_some_iff.1 hj').1
    rw [List.getElem?_range (by simpa using hjl)] at hj'
    obtain rfl := Option.some.inj hj'
    obtain ⟨y, hy⟩ := cell j (by simpa using hjl)
    rw [hy]
    have e : (⟨b, o, none⟩ : Addr).add j = ⟨b, o + j, none⟩ := by
     unfold Addr.add; split <;> simp [*]
    rw [e] at hy
    exact hy
  ·obtain ⟨ck, y, h1, h2⟩ := each k hk
   obtain ⟨_, h3, h4⟩ := World.cells?_some h1
   refine ⟨n, y, ?_⟩
   rw [<- h2]
   congr 1
   have hle : k * size + size <= len * size := by
    rw [<- Nat.succ_mul]; exact Nat.mul_le_mul_right _ hk
   apply List.ext_getElem?
   intro i
   rcases Nat.lt_or_ge i size with hi | hi
   ·rw [List.getElem?_take_of_lt hi, List.getElem?_drop, List.getElem?_map, List.getElem?_range (by omega)]
    have h5 := h4 i hi
    rw [hadd] at h5
    simp only [Option.map_some]
    rw [h5, List.getElem?_eq_getElem (by omega)]
    simp
   ·rw [List.getElem?_eq_none (by simp; omega), List.getElem?_eq_none (by omega)]
end
theorem u8_nat {n : Int} (h : (Lit.int .u8 n).wf = true) : ∃ m : Nat, n = (m : Int) /\ m < 256 := by
 have := bounds_u8 h
 exact ⟨n.toNat, by omega, by omega⟩
end
section
open Go.ChangeShapes Go.WideShapes Go.ChangeAt Go.RowKit
set_option maxRecDepth 20000 in
theorem bytes_open {H : Type} {enc : TypeId × Value -> H} {W : World} {r : Reach} {b0 base : Nat} {sp : Nat -> Bool} {held : Bool} {v : Value} {d : DataW H} {p : List MemPlace} (hv : Value.okWide Tryz.prog W r b0 22 v) (h : DataW.Trod enc Tryz.prog W base sp held 22 v d p) :
  ∃ l : List Nat, (∀ x ∈ l, x < 256) /\ Sl W (fun _ => True) 1 v l.length (G1 l) := by
 obtain ⟨a0, len0, cap0, rfl⟩ := okWide_slice Tryz.underlying22 hv
 obtain ⟨fuel, hf⟩ := h
 obtain ⟨v, n, xs, e, hs, he⟩ := sl_of_trod Tryz.underlying22 (size := 1) (by kernel_rfl) (by decide) hf
 have hl := hs.1
 have : ∃ zs : List Nat, (∀ x ∈ zs, x < 256) /\ xs = G1 zs := by
  have : ∀ v ∈ xs, ∃ z : Nat, z < 256 /\ v = .int .u8 (z : Nat) := by
   intro v hv
   obtain ⟨k, hk, hkv⟩ := List.mem_iff_getElem.1 hv
   obtain ⟨f', y, hy⟩ := he k (by omega)
   obtain ⟨z, hz, _, hw⟩ := DataW.trod_int Tryz.underlying5 hy
   obtain ⟨m, rfl, hm⟩ := u8_nat hw
   have h0 := congrArg (·[0]?) hz
   simp only [Nat.mul_one, List.getElem?_take_of_lt Nat.zero_lt_one, List.getElem?_drop, Nat.add_zero] at h0
   rw [List.getElem?_eq_getElem hk, hkv] at h0
   exact ⟨m, hm, by simpa using h0⟩
  clear hs he hl
  induction xs with
  | nil => exact ⟨[], fun x hx => by simp at hx, rfl⟩
  | cons a r ih =>
   obtain ⟨zs, hzs, rfl⟩ := ih fun v hv => this v (List.mem_cons_of_mem _ hv)
   obtain ⟨z, hz, rfl⟩ := this a List.mem_cons_self
   exact ⟨z :: zs, fun x hx => by rcases List.mem_cons.1 hx with rfl | hx; exact hz; exact hzs x hx, rfl⟩
 obtain ⟨zs, hzs, rfl⟩ := this
 have hz : zs.length = n := by simpa [G1] using hl
 obtain rfl : v = .slice a0 len0 cap0 := by simpa [Value.cells] using e.symm
 exact ⟨zs, hzs, hz ▸ hs⟩
end
section
open Go.RowKit Go.ChangeShapes Go.WideShapes
theorem boxF_of_reads {w : World} {n : String} {g : Nat} {t e : TypeId} {m : Nat} {k : IntKind} {zs : List Int} (hg : Tryz.prog.globalNamed n = some g) (hty : (Tryz.prog.globals[g]?).map (·.type) = some t)
  (ht : Tryz.prog.underlying t = some (.array m e)) (he : Tryz.prog.underlying e = some (.int k)) (hce : Tryz.prog.cellsOf e = 1) (hct : Tryz.prog.cellsOf t = m) (h : Lib.VarReads Tryz.prog w n (Lib.tabData k zs)) :
  ∃ t, BoxF w g t (zs.map fun z => Value.int k z).toArray := by
 obtain ⟨g', t', cs, fuel, p, hg', hty', hvar, hd⟩ := h
 obtain rfl := Option.some.inj (hg.symm.trans hg')
 obtain rfl := Option.some.inj (hty.symm.trans hty')
 have hcs := Lib.cells_of_tab ht he hce hct hd
 simp only [World.var?, hg, Option.bind_some] at hvar
 split at hvar
 ·rename_i cs' t'' f heq
  obtain rfl := Option.some.inj hvar
  refine ⟨(t'', f), ?_⟩
  rw [<- hcs]
  exact heq
 ·cases hvar
end
section
open Go.RowKit Go.ChangeShapes Go.WideShapes
theorem dtab_of_reads {w : World} (h1 : Lib.VarReads Tryz.prog w "math/bits.deBruijn64tab" Rows.laid_math_bits_deBruijn64tab) : BH w := by
 have e1 : (Rows.laid_math_bits_deBruijn64tab : DataW Unit) = Lib.tabData .u8 (dbL.map fun x : Nat => (x : Int)) := by kernel_rfl
 rw [e1] at h1
 obtain ⟨t, b1⟩ := boxF_of_reads (g := 0) (by kernel_rfl) (t := 170) (by kernel_rfl) Tryz.underlying170 Tryz.underlying5 (by kernel_rfl) (by kernel_rfl) h1
 have e : (List.map (fun z => Value.int .u8 z) (dbL.map fun x : Nat => (x : Int))) = G1 dbL := by simp [G1]
 rw [e] at b1
 intro q hq
 rw [b1.cell, List.getElem?_toArray]
 exact u8s_at _ _ hq
end
section
open Go.ChangeShapes Go.WideShapes Go.ChangeAt Go.RowKit
theorem Ix (W : World) (h : laidMetH Tryz.prog Rows.sliceShortestRow.laid W) : BH W := by
 have h' : laidMetH Tryz.prog [("math/bits.deBruijn64tab", Rows.laid_math_bits_deBruijn64tab)] W := h
 rw [MakeChecks.laidMetH_plain _ _ _ (by kernel_rfl)] at h'
 exact dtab_of_reads (Lib.laidMet.reads h' (.head _))
noncomputable def sshoStart (os : Os) : World := World.laidAll Tryz.prog os Rows.sliceShortestRow.laid
theorem IV (os : Os) (args : Array Value) : laidMetH Tryz.prog Rows.sliceShortestRow.laid ((sshoStart os).forCall (fun _ _ => 0) ⟨#[], args, []⟩).memory := by
 rw [MakeChecks.laidMetH_plain _ _ _ (by kernel_rfl)]
 exact laidMet_laidAll _ (by kernel_rfl) (by kernel_rfl)
theorem ssho_own : ownKnob Tryz.prog.godebug = none := by kernel_rfl
theorem ssho_laidOut : laidOutB Tryz.prog = true := by kernel_rfl
set_option maxRecDepth 100000 in
theorem ssho_lifted (os : Os) (started : os.Started) (H : Type) (enc : TypeId × Value -> H) :
  ReturnsInHanded {} Tryz.checked os 12 .any (fun w args => (Rows.sliceShortestSpec.pre enc Tryz.prog Tryz.f12 [] false w args /\ laidMetH Tryz.prog Rows.sliceShortestRow.laid w) /\ sizedMet enc Tryz.prog Tryz.f12 (OpenSpec.ofChange Rows.sliceShortestSpec) false w args)
   (Rows.sliceShortestSpec.post enc Tryz.prog Tryz.f12 false true false false) := by
 refine returnsInHanded_of_change_and (C := Tryz.checked) (X := fun w _ => laidMetH Tryz.prog Rows.sliceShortestRow.laid w) (fun _ _ _ hh h => h.of_heap hh) ssho_own started (by kernel_rfl) Tryz.func12
  (ChangeSpec.witness_shaped (enc := enc) (C := Tryz.checked) (os := os) (X := fun w _ => laidMetH Tryz.prog Rows.sliceShortestRow.laid w) false (sshoStart os) #[.slice none 0 0] 8 (World.laidAll_os _ _ _) (World.shaped_of_ZipB (by kernel_rfl) (by kernel_rfl)) (by kernel_rfl) (by kernel_rfl) (by kernel_rfl) (IV os _)) ?_
 intro W base args ds gs before hval0 hW _ _ hL _
 have hval : ∀ (j : Nat) t v, Tryz.f12.params[j]? = some t -> args[j]? = some v -> Value.okWide Tryz.prog W .any base t v := hval0
 have hW' := hW
 obtain ⟨p, q, hA0, hV, rfl, hfz, hnd⟩ := hW
 have hA : DataW.TrodAll enc Tryz.prog W 0 (fun _ => true) true Tryz.f12.params.toList args.toList ds p := hA0
 rw [Tryz.params12] at hA hval
 obtain ⟨v0, d0, rfl, rfl, h0⟩ := trodAll_one hA
 obtain ⟨rfl, rfl⟩ := trodVars_none hV
 obtain ⟨l, hl, hs⟩ := bytes_open (hval 0 _ v0 rfl rfl) h0
 have hT := Ix W hL
 have lt : ∀ z ∈ p, z.block < W.heap.size := fun z hz => by simpa using hW'.lt z (by simpa using hz)
 refine (lshortest_any v0 l W _ hl hs hT).mono fun E W' he => ?_
 obtain ⟨r, rfl, rfl, hb⟩ := he
 refine ⟨_, rfl, _, _, _, [], p, [], hW', ?_, ?_, ?_, hb.frame _, fun h => by cases h⟩
 ·exact trodAll_mk1 (shut_bool Tryz.underlying4 true)
 ·rw [Tryz.params12]
  exact trodAll_mk1 (Below.trod ssho_laidOut (by kernel_rfl) (of_decide_eq_true (by kernel_rfl)) h0 hb fun z hz => lt z (hz))
 ·rfl
theorem ssho_holds : Rows.SliceShortestSaid :=
 OpenClaim.holds_of_wide 12 Tryz.f12 rfl rfl rfl rfl rfl rfl rfl ⟨rfl, rfl, rfl, rfl, rfl⟩ rfl rfl rfl rfl rfl (by kernel_rfl) Tryz.func12 (by kernel_rfl)
  (of_decide_eq_true (by kernel_rfl)) (by unfold Func.isWrapper; rw [if_neg (by decide +kernel)]; exact ⟨rfl, rfl⟩)
  (fun os started H enc _ => ssho_lifted os started H enc)
end
section
open Go
theorem ssho_card : Rows.SliceShortestCardSaid :=
 Claim7.holds_tied_plain_at .later [] [.data] true (true, "02775d1a799b58bb7332b1d57ac71e2e43109816e55cef64a44d674fc24bfe71") false
  ssho_holds (fun _ h => by cases h) (by kernel_rfl) (fun _ h => by cases h) sliceShortest_row_tie rfl ⟨rfl, rfl⟩ (by kernel_rfl) rfl
  (fun f fn hf hfn => by
   obtain rfl : f = 12 := Option.some.inj ((show Tryz.prog.funcNamed "arbac/arbaclaw33.SliceShortest" = some 12 by kernel_rfl).symm.trans hf) |>.symm
   obtain rfl : fn = Tryz.f12 := (Option.some.inj (Tryz.func12.symm.trans hfn)).symm
   exact ⟨by kernel_rfl, fun j t ht => by
    rw [Tryz.params12] at ht
    have h3 : t = 22 := by
     rcases j with _ | j
     ·simp at ht; simp [<- ht]
     ·simp at ht
    rcases h3 with rfl
    ·exact (show Tryz.prog.wantsStandIn 22 = false by kernel_rfl)⟩)
  (by kernel_rfl)
end
end Go.Proofs.YtpcioefppjljoaaGreatDoor
namespace Go.Proofs.YtpcioefppjljoaaGreatDoor
#print axioms ssho_card
end Go.Proofs.YtpcioefppjljoaaGreatDoor
