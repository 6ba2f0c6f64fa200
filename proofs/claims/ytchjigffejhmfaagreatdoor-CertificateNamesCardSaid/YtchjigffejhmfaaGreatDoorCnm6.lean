/-
  The card of CertificateNames.
-/
import Derived.Test.YtchjigffejhmfaaGreatDoorRows
import Derived.ProofKit
import Derived.OpenShut
import Derived.Lib.LaidU8
import Derived.Lay
import Derived.MakeChecks
import Derived.LaidLaws
import Derived.Stop.Joined
import Derived.Test.YtchjigffejhmfaaGreatDoorCards
import Derived.Test.YtchjigffejhmfaaGreatDoorTie
import Derived.SevenTiedAt
import Derived.Test.YtchjigffejhmfaaGreatDoorCnm5
namespace Go.Proofs.YtchjigffejhmfaaGreatDoor
section
open Go.RowKit
attribute [local go_sem ↓] Go.wp_at_zero Go.wp_at_succ
set_option maxRecDepth 20000
set_option exponentiation.threshold 5000
def Cr (r : B3) : B3 := ⟨r.revoke, r.yes, r.no, r.target, 0⟩
theorem strip_flat (l : List B3) : Bh (l.map Cr) = Bh l := by
 unfold Bh
 rw [List.flatMap_map]
 rfl
theorem strip_all (f : B3 -> Bool) (hf : ∀ r, f (Cr r) = f r) (l : List B3) : (l.map Cr).all f = l.all f := by
 rw [List.all_map]
 congr 1
 funext r
 exact hf r
theorem strip_cubes (p : AP) : AP.cubes ⟨p.roles, p.links, p.start, p.rules.map Cr, p.never, p.goal⟩ = p.cubes := by
 unfold AP.cubes
 rw [List.map_map]
 rfl
theorem strip_pid (p : AP) : pidC ⟨p.roles, p.links, p.start, p.rules.map Cr, p.never, p.goal⟩ = pidC p := by
 have h1 : checkE ⟨p.roles, p.links, p.start, p.rules.map Cr, p.never, p.goal⟩ = checkE p := by
  unfold checkE CN goodB
  rw [strip_cubes]
  dsimp only
  simp only [List.length_map]
  rw [strip_all Jh (fun _ => rfl)]
  cases p.links with
  | none => rfl
  | some L =>
   dsimp only
   rw [strip_all (fun z => Cj (AZ p.roles.toNat) z.target) (fun _ => rfl)]
 have h2 : D3 ⟨p.roles, p.links, p.start, p.rules.map Cr, p.never, p.goal⟩ = D3 p := by
  unfold D3 FH
  dsimp only
  rw [strip_flat, List.length_map]
 unfold pidC
 rw [h1, h2]
theorem origin_pid {p : AP} {l : List B3} (h : l.map Cr = p.rules.map Cr) : pidC ⟨p.roles, p.links, p.start, l, p.never, p.goal⟩ = pidC p := by
 rw [<- strip_pid ⟨p.roles, p.links, p.start, l, p.never, p.goal⟩]
 dsimp only
 rw [h, strip_pid]
theorem AB.setO {w : World} {D : Nat -> Prop} {xs : List Value} {l : List B3} {j : Nat} {z : B3} {v : Int} (hx : xs.length = l.length * 5) (h : AB w D xs l) (hz : l[j]? = some z) : AB w D (xs.set (j * 5 + 4) (.int .i64 v)) (l.set j ⟨z.revoke, z.yes, z.no, z.target, v⟩) := fun i y hi => by
 have hjl := (List.getElem?_eq_some_iff.1 hz).1
 by_cases e : i = j
 ·subst e
  rw [List.getElem?_set_self (by omega)] at hi
  obtain rfl := Option.some.inj hi
  obtain ⟨a, b, q0, q1, q2, q3, q4, q5, q6⟩ := h i z hz
  exact ⟨a, b, by rw [List.getElem?_set_ne (by omega)]; exact q0, by rw [List.getElem?_set_ne (by omega)]; exact q1, by rw [List.getElem?_set_ne (by omega)]; exact q2, by rw [List.getElem?_set_ne (by omega)]; exact q3, by rw [List.getElem?_set_self (by omega)], q5, q6⟩
 ·rw [List.getElem?_set_ne (by omega)] at hi
  obtain ⟨a, b, q0, q1, q2, q3, q4, q5, q6⟩ := h i y hi
  exact ⟨a, b, by rw [List.getElem?_set_ne (by omega)]; exact q0, by rw [List.getElem?_set_ne (by omega)]; exact q1, by rw [List.getElem?_set_ne (by omega)]; exact q2, by rw [List.getElem?_set_ne (by omega)]; exact q3, by rw [List.getElem?_set_ne (by omega)]; exact q4, q5, q6⟩
theorem strip_set {l : List B3} {j : Nat} {z : B3} {v : Int} (hz : l[j]? = some z) : (l.set j ⟨z.revoke, z.yes, z.no, z.target, v⟩).map Cr = l.map Cr := by
 rw [List.map_set]
 refine List.ext_getElem? fun i => ?_
 by_cases e : i = j
 ·subst e
  have hl := (List.getElem?_eq_some_iff.1 hz).1
  rw [List.getElem?_set_self (by simpa using hl), List.getElem?_map, hz]; rfl
 ·rw [List.getElem?_set_ne (by omega)]
theorem probX_any {w : World} {D : Nat -> Prop} {p : AP} {lp s nv gv : Value} (h : Eo w D p lp s nv gv) : Eo w (fun _ => True) p lp s nv gv := EV D _ w w h (Nat.le_refl _) (fun _ _ _ _ h => h) fun _ _ _ _ => trivial
theorem JX {w : World} {D : Nat -> Prop} {xs : List Value} {l : List B3} (h : AB w D xs l) : AB w (fun _ => True) xs l := BT D _ w w h (Nat.le_refl _) (fun _ _ _ _ h => h) fun _ _ _ _ => trivial
theorem Eo.probL {w : World} {p : AP} {lp s rv nv gv : Value} {l : List B3} {ys : List Value} (h : Eo w (fun _ => True) p lp s nv gv) (hr : Sl w (fun _ => True) 5 rv l.length ys) (hc : AB w (fun _ => True) ys l) : BR w (fun _ => True) (.agg #[.int .i64 p.roles, lp, s, rv, nv, gv]) ⟨p.roles, p.links, p.start, l, p.never, p.goal⟩ :=
 ⟨_, _, _, _, _, rfl, h.1, h.2.1, ⟨ys, hr, hc⟩, h.2.2.1, h.2.2.2⟩
theorem eql_arr (w : World) (a b : List Nat) (hx : a.length = 32) (hy : b.length = 32) : (binOp .eql 86 (.agg (Aa a).toArray) (.agg (Aa b).toArray)).run Tryz.prog w = .ok (.bool (a == b)) w := by
 obtain ⟨i, hi⟩ : ∃ i, Tryz.prog.info? 5 = some i := Option.isSome_iff_exists.1 (show (Tryz.prog.info? 5).isSome = true by kernel_rfl)
 exact IQ w _ 5 32 Tryz.underlying86 i hi Tryz.underlying5 (by kernel_rfl) a b hx hy
theorem guard_arr {w : World} {x y : Operand} {a b : Array Value} : (eqGuard .eql 86 x y (.agg a) (.agg b)).run Tryz.prog w = .ok () w := by kernel_rfl
theorem run_eqbb (b : Bool) (w : World) : (binOp .eql 4 (.bool b) (.bool b)).run Tryz.prog w = .ok (.bool true) w := by cases b <;> go_simp
set_option maxHeartbeats 4000000 in
theorem lnames_any (v u : Value) (l m : List Nat) (q0 : Nat) (W : World) (D E : Nat -> Prop) (hl : ∀ x ∈ l, x < 256) (hm : ∀ x ∈ m, x < 256) (hq0 : q0 < 256) (hv : Sl W D 1 v l.length (Aa l)) (hu : Sl W E 1 u m.length (Aa m)) (hT : Cw W) (hTB : GM W) : Calls Tryz.prog 9 #[v, u, .int .u8 (q0 : Nat)] W (Ax (fun x _ => x = .bool true) W) := by
 obtain ⟨K, kt, k1, k2, hS⟩ := start_bytesP2 hT hv hu
 clear hv hu
 have HL := Lib.hid hl
 have HM2 := Lib.hid hm
 have HDT := Lib.hid hT
 have HTB := Lib.hid hTB
 clear hl hT hTB hm
 go_enter Tryz.func9, Tryz.ntmps9
 go_upto_region 7 with (first
  | (go_at_call 39; refine (awake_any _ (HTB.out.ext hS.below)).mono ?_; rintro e w3 ⟨_, rfl, rfl, hb3⟩; replace hS := hS.ext hb3; clear hb3)
  | ((with_reducible show Calls _ _ #[v] _ _); go_at_call 18; refine (lmake31_own HL.out hS k1 kt).mono ?_; clear hS; rintro e w_ ⟨p, la, A, As, ns, cs, c, nv, gv, u1, ys, rfl, ⟨L, R, hM⟩, hS⟩; replace hM := Lib.hid hM; obtain ⟨⟨An, cn, rfl⟩, Ag, cg, rfl⟩ := hS.ro.1.2.shape; obtain ⟨Al1, cl1, Ar1, cr1, An1, cn1, Ag1, cg1, rfl, -⟩ := Db hM.out.links hS.ro.1.1.2)
  | (go_at_call 18; refine (lmake31_any HM2.out hS (fun D w h => k2 _ _ h.1.1.1) (fun D w h => kt _ _ h.1.1.1)).mono ?_; clear hS; rintro e w_ ⟨x, u, rfl, p2, ⟨L2, R2, hM2⟩, hS⟩; replace hM2 := Lib.hid hM2; obtain ⟨xs, rfl, hx6, hx1⟩ := hS.ro.2.1.cells; replace hx6 := Lib.hid hx6; obtain ⟨Al, cl, Ar, cr, An2, cn2, Ag2, cg2, rfl, -⟩ := Db hM2.out.links hS.ro.2.2)
  | ((with_reducible refine qA 7 ?_); refine qa hS #[.int .i64 0, .pointer none, .slice none 0 0, .slice none 0 0, .slice none 0 0, .slice none 0 0] ?_; clear hS; intro g7 w_ hS)
  | ((with_reducible refine qA 8 ?_); refine qa hS #[.int .i64 0, .slice none 0 0, .int .u64 0, .slice none 0 0, .slice none 0 0, .slice none 0 0] ?_; clear hS; intro g8 w_ hS)
  | ((with_reducible refine qA 10 ?_); refine qa hS #[.int .i64 0, .pointer none, .slice none 0 0, .slice none 0 0, .slice none 0 0, .slice none 0 0] ?_; clear hS; intro g10 w_ hS)
  | ((with_reducible refine qA 11 ?_); refine qa hS #[.int .i64 0, .slice none 0 0, .int .u64 0, .slice none 0 0, .slice none 0 0, .slice none 0 0] ?_; clear hS; intro g11 w_ hS)
  | ((with_reducible refine qm 30 ?_); refine BV hS 0 rfl _ _ _ rfl _ _ rfl rfl _ _ rfl (by kernel_rfl) rfl (by kernel_rfl) ?_; clear hS; intro w_ hS; (try simp only [Act.put, Act.eval, zz, Value.cells] at hS))
  | ((with_reducible refine qm 43 ?_); refine BV hS 1 rfl _ _ _ rfl _ _ rfl rfl _ _ rfl (by kernel_rfl) rfl (by kernel_rfl) ?_; clear hS; intro w_ hS; (try simp only [Act.put, Act.eval, zz, Value.cells] at hS))
  | ((with_reducible refine qm 43 ?_); refine BV hS 1 rfl _ _ _ rfl _ _ rfl rfl _ _ rfl (by rw [hx6.out]; kernel_rfl) (by rw [hx6.out]; rfl) hx1 ?_; clear hS; intro w_ hS; (try simp only [Act.put, Act.eval, zz, Value.cells] at hS)))
 obtain ⟨us1, hus1⟩ : ∃ us : Array Value, us = #[.int .i64 p.roles, .slice Al1 L.length cl1, .int .u64 (p.start : Nat), .slice Ar1 p.rules.length cr1, .slice An1 p.never.length cn1, .slice Ag1 p.goal.length cg1] := ⟨_, rfl⟩
 obtain ⟨us2, hus2⟩ : ∃ us : Array Value, us = #[.int .i64 p2.roles, .slice Al L2.length cl, .int .u64 (p2.start : Nat), .slice Ar p2.rules.length cr, .slice An2 p2.never.length cn2, .slice Ag2 p2.goal.length cg2] := ⟨_, rfl⟩
 rw [<- hus1, <- hus2] at hS
 obtain ⟨K2, kr1, kx, kc, kp2, kr2, hS2⟩ : ∃ K2 : (Nat -> Prop) -> World -> Prop, (∀ D w, K2 D w -> B5 w D (.agg us1) p) /\ (∀ D w, K2 D w -> Eo w D p (.pointer la) (.slice As ns cs) (.slice An p.never.length cn) (.slice Ag p.goal.length cg)) /\ (∀ D w, K2 D w -> AB w D ys p.rules) /\ (∀ D w, K2 D w -> BR w D (.agg xs) p2) /\ (∀ D w, K2 D w -> B5 w D (.agg us2) p2) /\ St W w_ [.box g11 30 us2, .box g10 43 xs, .box g8 30 us1, .box g7 43 #[.int .i64 p.roles, .pointer la, .slice As ns cs, .slice A p.rules.length c, .slice An p.never.length cn, .slice Ag p.goal.length cg], .own (.slice A p.rules.length c) 84 5 p.rules.length ys] K2 := ⟨_, fun _ _ h => h.1.1.1.2, fun _ _ h => h.1.1.2, fun _ _ h => h.1.2, fun _ _ h => h.2.1, fun _ _ h => h.2.2, hS⟩
 have HI1 : Hid ((Tryz.prog.info? 30).map (·.size) = some us1.size) := Lib.hid (by rw [hus1]; kernel_rfl)
 have HI2 : Hid ((Tryz.prog.info? 30).map (·.size) = some us2.size) := Lib.hid (by rw [hus2]; kernel_rfl)
 clear hS
 have hS := hS2
 clear hS2
 rw [<- hus1, <- hus2]
 clear hus1 hus2
 have KS2 := Lib.hid hS.stable
 obtain ⟨q1, hq1⟩ : ∃ q, pidC p = q := ⟨_, rfl⟩
 obtain ⟨q2, hq2⟩ : ∃ q, pidC p2 = q := ⟨_, rfl⟩
 have H32 : Hid (q1.length = 32) := Lib.hid (by rw [<- hq1]; exact Hr p)
 have H322 : Hid (q2.length = 32) := Lib.hid (by rw [<- hq2]; exact Hr p2)
 have HPA : Hid (∀ (w : World) (rl : List B3) (zs : List Value) (rv : Value), rl.map Cr = p.rules.map Cr -> Eo w (fun _ => True) p (.pointer la) (.slice As ns cs) (.slice An p.never.length cn) (.slice Ag p.goal.length cg) -> Sl w (fun _ => True) 5 rv rl.length zs -> AB w (fun _ => True) zs rl -> Cw w -> GM w -> Calls Tryz.prog 40 #[.agg #[.int .i64 p.roles, .pointer la, .slice As ns cs, rv, .slice An p.never.length cn, .slice Ag p.goal.length cg]] w (Ax (fun x _ => x = .agg (Aa q1).toArray) w)) := Lib.hid fun w rl zs rv h0 h1 h2 h3 h4 h5 => by
  have hln : rl.length = p.rules.length := by have := congrArg List.length h0; simpa using this
  have := pid_any (h1.probL h2 h3) ⟨by rw [hln]; exact hM.out.ok.rules, hM.out.ok.never, hM.out.ok.goal, hM.out.ok.links⟩ h4 h5
  rwa [origin_pid h0, hq1] at this
 have HPB : Hid (∀ (w : World) (D : Nat -> Prop), BR w D (.agg xs) p2 -> Cw w -> GM w -> Calls Tryz.prog 40 #[.agg xs] w (Ax (fun x _ => x = .agg (Aa q2).toArray) w)) := Lib.hid fun w D h1 h2 h3 => by rw [<- hq2]; exact pid_any h1 hM2.out.ok h2 h3
 have HR1 : Hid (∀ (w : World) (D : Nat -> Prop), B5 w D (.agg us1) p -> Calls Tryz.prog 41 #[.agg us1] w (Ax (fun x _ => x = .agg (Aa q1).toArray) w)) := Lib.hid fun w D h1 => by rw [<- hq1]; exact rpid_any h1 hM.out.rfit
 have HR2 : Hid (∀ (w : World) (D : Nat -> Prop), B5 w D (.agg us2) p2 -> Calls Tryz.prog 41 #[.agg us2] w (Ax (fun x _ => x = .agg (Aa q2).toArray) w)) := Lib.hid fun w D h1 => by rw [<- hq2]; exact rpid_any h1 hM2.out.rfit
 have HOR : Hid (∀ z ∈ p.rules, 0 <= z.origin /\ z.origin < 7) := Lib.hid fun z hz => (hM.out.rules z hz).2.1
 have hn6 := hM.out.rlen
 clear hq1 hq2
 have HI32 : Hid ((Tryz.prog.info? 87).map (·.size) = some (Aa q1).toArray.size) := Lib.hid (by rw [List.size_toArray, Ae, H32.out]; kernel_rfl)
 have HON : Hid ((Aa q1).toArray.all (·.oneCell') = true) := Lib.hid (all_oneCell_toArray (B6 _))
 have HOL : Hid ((Aa (List.replicate 32 0)).toArray.size = (Aa q1).toArray.size) := Lib.hid (by simp [Ae, H32.out])
 go_wp2_with (first
  | ((with_reducible refine qA 35 ?_); refine Hb hS 3 rfl _ _ rfl g7 rfl _ _ rfl _ Tryz.underlying43 rfl (by kernel_rfl) ?_)
  | (go_at_call 40; refine (HPA.out _ p.rules ys _ rfl (probX_any (kx _ _ hS.ro)) ((Sl.of_own (hS.own 4 rfl)).imp fun _ _ _ => trivial) (JX (kc _ _ hS.ro)) (HDT.out.ext hS.below) (HTB.out.ext hS.below)).mono ?_; rintro e w5 ⟨_, rfl, rfl, hb5⟩; replace hS := hS.ext hb5; clear hb5)
  | ((with_reducible refine qA 13 ?_); refine CT hS rfl _ rfl (by kernel_rfl) (Aa (List.replicate 32 0)).toArray (by kernel_rfl) ?_; clear hS; intro g13 w_ hS; (try simp only [Act.put, Act.eval, zz, Value.cells] at hS))
  | ((with_reducible refine qm 87 ?_); refine BV hS 0 rfl _ _ _ rfl g13 (Aa q1).toArray rfl rfl _ _ rfl HI32.out HOL.out HON.out ?_; clear hS; intro w_ hS; (try simp only [Act.put, Act.eval, zz, Value.cells] at hS))
  | ((with_reducible refine qA 38 ?_); refine st_cell hS 4 rfl _ _ rfl _ _ rfl _ _ rfl (by decide +kernel) _ rfl ?_))
 have hzl : ys.length = p.rules.length * 5 := (hS.own 5 rfl).1
 have HC0 : Hid (p.rules.length = p.rules.length /\ p.rules.map Cr = p.rules.map Cr /\ (∀ i, 0 <= i -> p.rules[i]? = p.rules[i]?) /\ ys.length = p.rules.length * 5 /\ ∀ D w, K2 D w -> AB w D ys p.rules) := Lib.hid ⟨rfl, rfl, fun _ _ => rfl, hzl, kc⟩
 clear hzl kc
 obtain ⟨rl0, hrl0⟩ : ∃ rl0, p.rules = rl0 := ⟨_, rfl⟩
 rw [hrl0] at HC0 HPA HOR hS hn6 ⊢
 clear hrl0
 obtain ⟨n, hn⟩ : ∃ n, rl0.length = n := ⟨_, rfl⟩
 have HN := Lib.hid hn
 rw [hn] at HC0 hS hn6 ⊢
 clear hn
 go_loopw [40] (fun i wr => ∃ (j : Nat) (rl : List B3) (zs : List Value), i = .int .i64 (j : Nat) /\ j <= n /\ Hid (rl.length = n /\ rl.map Cr = rl0.map Cr /\ (∀ i, j <= i -> rl[i]? = rl0[i]?) /\ zs.length = n * 5 /\ ∀ D w, K2 D w -> AB w D zs rl) /\ St W wr (.box g13 87 (Aa q1).toArray :: .box g11 30 us2 :: .box g10 43 xs :: .box g8 30 us1 :: .box g7 43 #[.int .i64 p.roles, .pointer la, .slice As ns cs, .slice A n c, .slice An p.never.length cn, .slice Ag p.goal.length cg] :: .own (.slice A n c) 84 5 n zs :: []) K2) (fun i _ => n - (intOf i).toNat)
 case atStart => exact ⟨0, rl0, ys, rfl, by omega, Lib.hid ⟨HN.out, HC0.out.2⟩, hS⟩
 case round =>
  clear hS HC0
  obtain ⟨j, rl, zs, rfl, hj, HC, hS⟩ := hrel
  by_cases hlj : j < n
  ·obtain ⟨gv, cv, hev, hcv, _⟩ := DK (hS.own 5 rfl) (by omega)
   obtain ⟨rfl, rfl⟩ : A = some ⟨gv, 0, none⟩ /\ c = cv := by injection hev with h1 _ h3; exact ⟨h1, h3⟩
   clear hev
   obtain ⟨z, hz⟩ : ∃ z, rl0[j]? = some z := ⟨_, List.getElem?_eq_getElem (by rw [HN.out]; exact hlj)⟩
   have hzl : rl[j]? = some z := by rw [HC.out.2.2.1 j (Nat.le_refl _)]; exact hz
   obtain ⟨hz1, hz2⟩ := HOR.out z (List.mem_of_getElem? hz)
   obtain ⟨_, _, _, _, _, _, hc4, _, _⟩ := HC.out.2.2.2.2 _ _ hS.ro j z hzl
   have HZL := Lib.hid hzl
   have HC4 := Lib.hid hc4
   clear hz hzl hc4
   obtain ⟨zr, zy, zn, zt, zo⟩ := z
   dsimp only at hz1 hz2 HC4
   obtain ⟨o, rfl⟩ := Int.eq_ofNat_of_zero_le hz1
   have hb5 : j * 5 + 4 < n * 5 := by omega
   have HIX : Hid (∀ w : World, (Instr.indexAt 40 (.slice (some ⟨gv, 0, none⟩) n c) (.int .i64 (j : Nat))).run Tryz.prog w = .ok (.pointer (some ⟨gv, j * 5, none⟩)) w) := Lib.hid fun w => by
    have h := Af (P := Tryz.prog) (b := gv) (o := 0) (c := c) (k := .i64) (w := w) Tryz.underlying40 (size := 5) (by kernel_rfl) rfl hlj
    rw [Nat.zero_add] at h; exact h
   have HC2 : Hid ((rl.set j ⟨zr, zy, zn, zt, ((o + q0 : Nat) : Int)⟩).length = n /\ (rl.set j ⟨zr, zy, zn, zt, ((o + q0 : Nat) : Int)⟩).map Cr = rl0.map Cr /\ (∀ i, j + 1 <= i -> (rl.set j ⟨zr, zy, zn, zt, ((o + q0 : Nat) : Int)⟩)[i]? = rl0[i]?) /\ (zs.set (j * 5 + 4) (.int .i64 ((o + q0 : Nat) : Int))).length = n * 5 /\ ∀ D w, K2 D w -> AB w D (zs.set (j * 5 + 4) (.int .i64 ((o + q0 : Nat) : Int))) (rl.set j ⟨zr, zy, zn, zt, ((o + q0 : Nat) : Int)⟩)) := Lib.hid ⟨by rw [List.length_set]; exact HC.out.1, by rw [strip_set (z := ⟨zr, zy, zn, zt, (o : Int)⟩) HZL.out]; exact HC.out.2.1, fun i hi => by rw [List.getElem?_set_ne (by omega)]; exact HC.out.2.2.1 i (by omega), by rw [List.length_set]; exact HC.out.2.2.2.1, fun D w h => (HC.out.2.2.2.2 D w h).setO (z := ⟨zr, zy, zn, zt, (o : Int)⟩) (by rw [HC.out.1]; exact HC.out.2.2.2.1) HZL.out⟩
   go_wp2_with (first
    | ((with_reducible refine qB ?_); refine qc ?_ ?_ <;> intro h_ <;> go_prune)
    | ((with_reducible refine qA 44 ?_); refine st_cell hS 4 rfl _ _ rfl _ _ rfl _ _ rfl (by decide +kernel) _ rfl ?_)
    | ((with_reducible refine qA 46 ?_); refine BigFrame.wpList_want rfl fun _ hK => Br (v := .pointer (some ⟨gv, j * 5, none⟩)) rfl rfl rfl (HIX.out _) (hK _ _ ?_))
    | ((with_reducible refine qA 52 ?_); refine BigFrame.wpList_want rfl fun _ hK => Br (v := .pointer (some ⟨gv, j * 5, none⟩)) rfl rfl rfl (HIX.out _) (hK _ _ ?_))
    | ((with_reducible refine qA 48 ?_); refine BigFrame.wpList_want rfl fun _ hK => Ad rfl rfl (by kernel_rfl) (BO (hS.own 5 rfl) _ _ HC4.out) (hK _ _ ?_))
    | ((with_reducible refine qA 50 ?_); refine BigFrame.wpList_want rfl fun _ hK => BW (vx := .int .u8 (q0 : Nat)) (v := .int .i64 (q0 : Nat)) rfl rfl (run_conv8x hq0) (hK _ _ ?_))
    | ((with_reducible refine qA 51 ?_); refine Js (n := o) (m := q0) rfl _ _ _ _ rfl (fun z => z = o + q0) rfl rfl (by omega) rfl ?_; rintro z51 rfl)
    | ((with_reducible refine qm 3 ?_); refine Dp hS 5 rfl _ _ _ rfl gv (j * 5 + 4) (.int .i64 ((o + q0 : Nat) : Int)) rfl rfl rfl (by omega) rfl rfl (by kernel_rfl) ?_; clear hS; intro w_ hS; (try simp only [Act.put, Act.eval, zz, Value.cells] at hS)))
   exact ⟨⟨j + 1, _, _, by go_num, hlj, HC2, hS⟩, by simp [intOf]; omega⟩
  ·obtain rfl : n = j := by omega
   have HPA2 : Hid (∀ (w : World) (D : Nat -> Prop) (rv : Value), K2 D w -> Sl w (fun _ => True) 5 rv n zs -> Cw w -> GM w -> Calls Tryz.prog 40 #[.agg #[.int .i64 p.roles, .pointer la, .slice As ns cs, rv, .slice An p.never.length cn, .slice Ag p.goal.length cg]] w (Ax (fun x _ => x = .agg (Aa q1).toArray) w)) := Lib.hid fun w D rv hk h2 h4 h5 => HPA.out w rl zs rv HC.out.2.1 (probX_any (kx _ _ hk)) (by rw [HC.out.1]; exact h2) (JX (HC.out.2.2.2.2 _ _ hk)) h4 h5
   obtain ⟨b, hb⟩ : ∃ b, (q1 == q2) = b := ⟨_, rfl⟩
   have HB1 : Hid (∀ w : World, (binOp .eql 87 (.agg (Aa q1).toArray) (.agg (Aa q2).toArray)).run Tryz.prog w = .ok (.bool b) w) := Lib.hid fun w => by rw [<- hb]; exact eql_id w q1 q2 H32.out H322.out
   have HB2 : Hid (∀ w : World, (binOp .eql 86 (.agg (Aa q1).toArray) (.agg (Aa q2).toArray)).run Tryz.prog w = .ok (.bool b) w) := Lib.hid fun w => by rw [<- hb]; exact eql_arr w q1 q2 H32.out H322.out
   clear hb HPA HC
   go_wp2_with (first | ((with_reducible refine qB ?_); refine qc ?_ ?_ <;> intro h_ <;> go_prune))
   refine EB [.i (.agg (Aa q1).toArray), .i (.agg xs), .i (.agg (Aa q2).toArray), .i (.bool b), .i (.agg us1), .i (.agg (Aa q1).toArray), .i (.agg us2), .i (.agg (Aa q2).toArray), .i (.bool b), .b true, .b true, .i (.agg #[.int .i64 p.roles, .pointer la, .slice As ns cs, .slice A n c, .slice An p.never.length cn, .slice Ag p.goal.length cg]), .i (.agg (Aa q1).toArray), .i (.agg (Aa q1).toArray), .b true, .b true, .b true] ⟨?_, ?_, ?_, ?_, ?_, ?_, ?_, ?_, ?_, uB (h := fun w hW hN => run_eqbb b _), uM, uR (h := fun w hW hN => (hS.ext hW).box 4 rfl), ?_, ?_, ?_, uP, uA, trivial⟩ ?_
   ·refine uT fun b__ w hW hE K hK => ?_
    have e13 : b__.eval (.tmp 13) = .pointer (some ⟨g13, 0, none⟩) := hE 13
    exact C2 rfl e13 ((hS.ext hW).box 0 rfl) Tryz.underlying87 rfl HI32.out (hK _ _ rfl (Below.refl _ _))
   ·refine uT fun b__ w hW hE K hK => ?_
    have e10 : b__.eval (.tmp 10) = .pointer (some ⟨g10, 0, none⟩) := hE 10
    exact C2 rfl e10 ((hS.ext hW).box 2 rfl) Tryz.underlying43 rfl (by rw [hx6.out]; kernel_rfl) (hK _ _ rfl (Below.refl _ _))
   ·refine uT fun b__ w hW hE K hK => ?_
    have e56 := hE 56
    exact AV rfl (by kernel_rfl) (by simp only [List.map_cons, List.map_nil, e56]) (HPB.out _ _ (kp2 _ _ (hS.ext hW).ro) (HDT.out.ext (hS.ext hW).below) (HTB.out.ext (hS.ext hW).below)) fun v w' h hb => hK v w' h hb
   ·refine uT fun b__ w hW hE K hK => ?_
    have e55 := hE 55
    have e57 := hE 57
    exact Az rfl e55 e57 guard_ide (HB1.out _) (hK _ _ rfl (Below.refl _ _))
   ·refine uT fun b__ w hW hE K hK => ?_
    have e8 : b__.eval (.tmp 8) = .pointer (some ⟨g8, 0, none⟩) := hE 8
    exact C2 rfl e8 ((hS.ext hW).box 3 rfl) Tryz.underlying30 rfl HI1.out (hK _ _ rfl (Below.refl _ _))
   ·refine uT fun b__ w hW hE K hK => ?_
    have e59 := hE 59
    exact AV rfl (by kernel_rfl) (by simp only [List.map_cons, List.map_nil, e59]) (HR1.out _ _ (kr1 _ _ (hS.ext hW).ro)) fun v w' h hb => hK v w' h hb
   ·refine uT fun b__ w hW hE K hK => ?_
    have e11 : b__.eval (.tmp 11) = .pointer (some ⟨g11, 0, none⟩) := hE 11
    exact C2 rfl e11 ((hS.ext hW).box 1 rfl) Tryz.underlying30 rfl HI2.out (hK _ _ rfl (Below.refl _ _))
   ·refine uT fun b__ w hW hE K hK => ?_
    have e61 := hE 61
    exact AV rfl (by kernel_rfl) (by simp only [List.map_cons, List.map_nil, e61]) (HR2.out _ _ (kr2 _ _ (hS.ext hW).ro)) fun v w' h hb => hK v w' h hb
   ·refine uT fun b__ w hW hE K hK => ?_
    have e60 := hE 60
    have e62 := hE 62
    exact Az rfl e60 e62 guard_arr (HB2.out _) (hK _ _ rfl (Below.refl _ _))
   ·refine uT fun b__ w hW hE K hK => ?_
    have e66 := hE 66
    exact AV rfl (by kernel_rfl) (by simp only [List.map_cons, List.map_nil, e66]) (HPA2.out _ _ _ (hS.ext hW).ro ((Sl.of_own ((hS.ext hW).own 5 rfl)).imp fun _ _ _ => trivial) (HDT.out.ext (hS.ext hW).below) (HTB.out.ext (hS.ext hW).below)) fun v w' h hb => hK v w' h hb
   ·refine uT fun b__ w hW hE K hK => ?_
    have e13 : b__.eval (.tmp 13) = .pointer (some ⟨g13, 0, none⟩) := hE 13
    exact C2 rfl e13 ((hS.ext hW).box 0 rfl) Tryz.underlying87 rfl HI32.out (hK _ _ rfl (Below.refl _ _))
   ·refine uT fun b__ w hW hE K hK => ?_
    have e67 := hE 67
    have e68 := hE 68
    exact Az rfl e67 e68 guard_ide (by rw [eql_id _ _ _ H32.out H32.out]; simp) (hK _ _ rfl (Below.refl _ _))
   ·intro vs wz hW hT
    obtain ⟨e55, e56, e57, e58, e59, e60, e61, e62, e63, e64, e65, e66, e67, e68, e69, e70, e6, -⟩ := hT
    simp only [AL, Act.put, zz, ze]
    replace hS := hS.ext hW
    go_wp2_with fail
    go_ret
    exact Ax.mk e6 hS.below
end
section
open Go.RowKit Go.ChangeShapes Go.WideShapes
section
variable {H : Type} {enc : TypeId × Value -> H} {P : Program} {w : World} {base : Nat} {sp : Nat -> Bool} {held : Bool}
theorem sl_of_trod {t e : TypeId} {size fuel : Nat} {cs : List Value} {x : DataW H × List MemPlace} (ht : P.underlying t = some (.slice e)) (hc : P.cellsOf e = size) (hsz : 0 < size) (h : DataW.trod enc P w base sp held fuel t cs = some x) :
  ∃ v n xs, cs = [v] /\ Sl w (fun _ => True) size v n xs /\ ∀ k, k < n -> ∃ f' y, DataW.trod enc P w base sp held f' e ((xs.drop (k * size)).take size) = some y := by
 rcases DataW.trod_slice ht h with ⟨rfl, _⟩ | ⟨a, len, cap, elems, rest, n, _, rfl, _, hb, hl, hm, hlen, hel, _⟩
 ·exact ⟨_, 0, [], rfl, ⟨by simp, none, 0, rfl, Nat.le_refl _, Nat.zero_le _, fun h => by omega⟩, fun k hk => by omega⟩
 ·rw [hc] at hel
  have each : ∀ k, k < len -> ∃ ck y, w.cells? base (a.add (k * size)) size = some ck /\ DataW.trod enc P w base sp held n e ck = some y := by
   intro k hk
   have h1 := hel k hk
   rw [List.getElem?_eq_getElem (by omega)] at h1
   obtain ⟨ck, h2, h3⟩ := Option.bind_eq_some_iff.1 h1
   exact ⟨ck, _, h2, h3⟩
  have hadd : ∀ i j, (a.add i).add j = a.add (i + j) := by
   intro i j
   unfold Addr.add
   by_cases h1 : i = 0 <;> by_cases h2 : j = 0 <;> simp [h1, h2, Nat.add_assoc]
  have cell : ∀ j, j < len * size -> ∃ x, w.cell? (a.add j) = some x := by
   intro j hj
   have hk : j / size < len := (Nat.div_lt_iff_lt_mul hsz).2 hj
   obtain ⟨ck, y, h1, h2⟩ := each _ hk
   obtain ⟨_, h3, h4⟩ := World.cells?_some h1
   have h5 := h4 (j % size) (Nat.mod_lt _ hsz)
   rw [hadd, Nat.mul_comm, Nat.div_add_mod] at h5
   rw [h5, List.getElem?_eq_getElem (by rw [h3]; exact Nat.mod_lt _ hsz)]
   exact ⟨_, rfl⟩
  refine ⟨.slice (some a) len cap, len, (List.range (len * size)).map fun j => (w.cell? (a.add j)).getD undef, rfl, ⟨by simp, some a, cap, rfl, hl, hm, fun h0 => ?_⟩, fun k hk => ?_⟩
  ·obtain ⟨x0, hx0⟩ := cell 0 (Nat.mul_pos h0 hsz)
   obtain ⟨b, o, s⟩ := a
   have hs : s = none := cell_spot hx0
   subst hs
   refine ⟨b, o, rfl, trivial, ?_, fun j x hx => ?_⟩
   ·have := hx0
    unfold World.cell? at this
    simp only [Addr.add] at this
    rcases Nat.lt_or_ge b w.heap.size with hlt | hge
    ·exact hlt
    ·simp [Array.getElem?_eq_none hge] at this
   ·simp only [List.getElem?_map, Option.map_eq_some_iff] at hx
    obtain ⟨j', hj', rfl⟩ := hx
    have hjl := (List.getElem?_eq_some_iff.1 hj').1
    rw [List.getElem?_range (by simpa using hjl)] at hj'
    obtain rfl := Option.some.inj hj'
    obtain ⟨y, hy⟩ := cell j (by simpa using hjl)
    rw [hy]
    have e : (⟨b, o, none⟩ : Addr).add j = ⟨b, o + j, none⟩ := by
     unfold Addr.add; split <;> simp [*]
    rw [e] at hy
    exact hy
  ·obtain ⟨ck, y, h1, h2⟩ := each k hk
   obtain ⟨_, h3, h4⟩ := World.cells?_some h1
   refine ⟨n, y, ?_⟩
   rw [<- h2]
   congr 1
   have hle : k * size + size <= len * size := by
    rw [<- Nat.succ_mul]; exact Nat.mul_le_mul_right _ hk
   apply List.ext_getElem?
   intro i
   rcases Nat.lt_or_ge i size with hi | hi
   ·rw [List.getElem?_take_of_lt hi, List.getElem?_drop, List.getElem?_map, List.getElem?_range (by omega)]
    have h5 := h4 i hi
    rw [hadd] at h5
    simp only [Option.map_some]
    rw [h5, List.getElem?_eq_getElem (by omega)]
    simp
   ·rw [List.getElem?_eq_none (by simp; omega), List.getElem?_eq_none (by omega)]
end
theorem u8_nat {n : Int} (h : (Lit.int .u8 n).wf = true) : ∃ m : Nat, n = (m : Int) /\ m < 256 := by
 have := bounds_u8 h
 exact ⟨n.toNat, by omega, by omega⟩
end
section
open Go.ChangeShapes Go.WideShapes Go.ChangeAt Go.RowKit
set_option maxRecDepth 20000 in
theorem Ku {H : Type} {enc : TypeId × Value -> H} {W : World} {r : Reach} {b0 base : Nat} {sp : Nat -> Bool} {held : Bool} {v : Value} {d : DataW H} {p : List MemPlace} (hv : Value.okWide Tryz.prog W r b0 22 v) (h : DataW.Trod enc Tryz.prog W base sp held 22 v d p) :
  ∃ l : List Nat, (∀ x ∈ l, x < 256) /\ Sl W (fun _ => True) 1 v l.length (Aa l) := by
 obtain ⟨a0, len0, cap0, rfl⟩ := okWide_slice Tryz.underlying22 hv
 obtain ⟨fuel, hf⟩ := h
 obtain ⟨v, n, xs, e, hs, he⟩ := sl_of_trod Tryz.underlying22 (size := 1) (by kernel_rfl) (by decide) hf
 have hl := hs.1
 have : ∃ zs : List Nat, (∀ x ∈ zs, x < 256) /\ xs = Aa zs := by
  have : ∀ v ∈ xs, ∃ z : Nat, z < 256 /\ v = .int .u8 (z : Nat) := by
   intro v hv
   obtain ⟨k, hk, hkv⟩ := List.mem_iff_getElem.1 hv
   obtain ⟨f', y, hy⟩ := he k (by omega)
   obtain ⟨z, hz, _, hw⟩ := DataW.trod_int Tryz.underlying5 hy
   obtain ⟨m, rfl, hm⟩ := u8_nat hw
   have h0 := congrArg (·[0]?) hz
   simp only [Nat.mul_one, List.getElem?_take_of_lt Nat.zero_lt_one, List.getElem?_drop, Nat.add_zero] at h0
   rw [List.getElem?_eq_getElem hk, hkv] at h0
   exact ⟨m, hm, by simpa using h0⟩
  clear hs he hl
  induction xs with
  | nil => exact ⟨[], fun x hx => by simp at hx, rfl⟩
  | cons a r ih =>
   obtain ⟨zs, hzs, rfl⟩ := ih fun v hv => this v (List.mem_cons_of_mem _ hv)
   obtain ⟨z, hz, rfl⟩ := this a List.mem_cons_self
   exact ⟨z :: zs, fun x hx => by rcases List.mem_cons.1 hx with rfl | hx; exact hz; exact hzs x hx, rfl⟩
 obtain ⟨zs, hzs, rfl⟩ := this
 have hz : zs.length = n := by simpa [Aa] using hl
 obtain rfl : v = .slice a0 len0 cap0 := by simpa [Value.cells] using e.symm
 exact ⟨zs, hzs, hz ▸ hs⟩
end
section
open Go.RowKit Go.ChangeShapes Go.WideShapes
theorem Ez {w : World} {n : String} {g : Nat} {t e : TypeId} {m : Nat} {k : IntKind} {zs : List Int} (hg : Tryz.prog.globalNamed n = some g) (hty : (Tryz.prog.globals[g]?).map (·.type) = some t)
  (ht : Tryz.prog.underlying t = some (.array m e)) (he : Tryz.prog.underlying e = some (.int k)) (hce : Tryz.prog.cellsOf e = 1) (hct : Tryz.prog.cellsOf t = m) (h : Lib.VarReads Tryz.prog w n (Lib.tabData k zs)) :
  ∃ t, BoxF w g t (zs.map fun z => Value.int k z).toArray := by
 obtain ⟨g', t', cs, fuel, p, hg', hty', hvar, hd⟩ := h
 obtain rfl := Option.some.inj (hg.symm.trans hg')
 obtain rfl := Option.some.inj (hty.symm.trans hty')
 have hcs := Lib.cells_of_tab ht he hce hct hd
 simp only [World.var?, hg, Option.bind_some] at hvar
 split at hvar
 ·rename_i cs' t'' f heq
  obtain rfl := Option.some.inj hvar
  refine ⟨(t'', f), ?_⟩
  rw [<- hcs]
  exact heq
 ·cases hvar
theorem tab_of_reads {w : World} (h1 : Lib.VarReads Tryz.prog w "arbac/keccak.rounds" Rows.laid_arbac_keccak_rounds) (h2 : Lib.VarReads Tryz.prog w "arbac/keccak.turns" Rows.laid_arbac_keccak_turns) : GM w := by
 have e1 : (Rows.laid_arbac_keccak_rounds : DataW Unit) = Lib.tabData .u64 (Bk.map fun x : Nat => (x : Int)) := by kernel_rfl
 have e2 : (Rows.laid_arbac_keccak_turns : DataW Unit) = Lib.tabData .i64 (Cg.map fun x : Nat => (x : Int)) := by kernel_rfl
 rw [e1] at h1
 rw [e2] at h2
 obtain ⟨t, b1⟩ := Ez (g := 1) (by kernel_rfl) (t := 273) (by kernel_rfl) Tryz.underlying273 Tryz.underlying26 (by kernel_rfl) (by kernel_rfl) h1
 obtain ⟨u, b2⟩ := Ez (g := 2) (by kernel_rfl) (t := 275) (by kernel_rfl) Tryz.underlying275 Tryz.underlying3 (by kernel_rfl) (by kernel_rfl) h2
 refine ⟨⟨t, ?_⟩, u, ?_⟩
 ·have : (List.map (fun z => Value.int .u64 z) (Bk.map fun x : Nat => (x : Int))) = Ai Bk := by simp [Ai]
  rw [<- this]; exact b1
 ·have : (List.map (fun z => Value.int .i64 z) (Cg.map fun x : Nat => (x : Int))) = i64s Cg := by simp [i64s]
  rw [<- this]; exact b2
end
section
open Go.RowKit Go.ChangeShapes Go.WideShapes
theorem dtab_of_reads {w : World} (h1 : Lib.VarReads Tryz.prog w "math/bits.deBruijn64tab" Rows.laid_math_bits_deBruijn64tab) : Cw w := by
 have e1 : (Rows.laid_math_bits_deBruijn64tab : DataW Unit) = Lib.tabData .u8 (dbL.map fun x : Nat => (x : Int)) := by kernel_rfl
 rw [e1] at h1
 obtain ⟨t, b1⟩ := Ez (g := 0) (by kernel_rfl) (t := 225) (by kernel_rfl) Tryz.underlying225 Tryz.underlying5 (by kernel_rfl) (by kernel_rfl) h1
 have e : (List.map (fun z => Value.int .u8 z) (dbL.map fun x : Nat => (x : Int))) = Aa dbL := by simp [Aa]
 rw [e] at b1
 intro q hq
 rw [b1.cell, List.getElem?_toArray]
 exact CZ _ _ hq
theorem tabs_of_reads {w : World} (h0 : Lib.VarReads Tryz.prog w "math/bits.deBruijn64tab" Rows.laid_math_bits_deBruijn64tab) (h1 : Lib.VarReads Tryz.prog w "arbac/keccak.rounds" Rows.laid_arbac_keccak_rounds) (h2 : Lib.VarReads Tryz.prog w "arbac/keccak.turns" Rows.laid_arbac_keccak_turns) : Cw w /\ GM w :=
 ⟨dtab_of_reads h0, tab_of_reads h1 h2⟩
end
section
open Go.ChangeShapes Go.WideShapes Go.ChangeAt Go.RowKit
section
variable {P : Program} {H : Type} {enc : TypeId × Value -> H} {W : World} {r : Reach} {b0 base : Nat} {sp : Nat -> Bool} {held : Bool} {v : Value} {d : DataW H} {p : List MemPlace} {t : TypeId}
theorem int_open {k : IntKind} (ht : P.underlying t = some (.int k)) (hv : Value.okWide P W r b0 t v) (h : DataW.Trod enc P W base sp held t v d p) : ∃ n, v = .int k n /\ (Lit.int k n).wf = true := by
 obtain ⟨n, rfl⟩ := okWide_int ht hv
 obtain ⟨fuel, hf⟩ := h
 obtain ⟨m, e, _, w⟩ := DataW.trod_int ht hf
 simp [Value.cells] at e
 subst e
 exact ⟨_, rfl, w⟩
theorem u8_open (ht : P.underlying t = some (.int .u8)) (hv : Value.okWide P W r b0 t v) (h : DataW.Trod enc P W base sp held t v d p) : ∃ n : Nat, v = .int .u8 n /\ n < 256 := by
 obtain ⟨n, rfl, w⟩ := int_open ht hv h
 have := bounds_u8 w
 obtain ⟨m, rfl⟩ := Int.eq_ofNat_of_zero_le (by omega : 0 <= n)
 exact ⟨m, rfl, by omega⟩
end
end
section
open Go.ChangeShapes Go.WideShapes Go.ChangeAt Go.RowKit
theorem Ji (W : World) (h : laidMetH Tryz.prog Rows.certificateNamesRow.laid W) : Cw W /\ GM W := by
 have h' : laidMetH Tryz.prog [("math/bits.deBruijn64tab", Rows.laid_math_bits_deBruijn64tab), ("arbac/keccak.rounds", Rows.laid_arbac_keccak_rounds), ("arbac/keccak.turns", Rows.laid_arbac_keccak_turns)] W := h
 rw [MakeChecks.laidMetH_plain _ _ _ (by kernel_rfl)] at h'
 exact tabs_of_reads (Lib.laidMet.reads h' (.head _)) (Lib.laidMet.reads h' (.tail _ (.head _))) (Lib.laidMet.reads h' (.tail _ (.tail _ (.head _))))
noncomputable def cnamStart (os : Os) : World := World.laidAll Tryz.prog os Rows.certificateNamesRow.laid
theorem Kq (os : Os) (args : Array Value) : laidMetH Tryz.prog Rows.certificateNamesRow.laid ((cnamStart os).forCall (fun _ _ => 0) ⟨#[], args, []⟩).memory := by
 rw [MakeChecks.laidMetH_plain _ _ _ (by kernel_rfl)]
 exact laidMet_laidAll _ (by kernel_rfl) (by kernel_rfl)
theorem cnam_own : ownKnob Tryz.prog.godebug = none := by kernel_rfl
theorem Fd : laidOutB Tryz.prog = true := by kernel_rfl
set_option maxRecDepth 100000 in
theorem cnam_lifted (os : Os) (started : os.Started) (H : Type) (enc : TypeId × Value -> H) :
  ReturnsInHanded {} Tryz.checked os 9 .any (fun w args => (Rows.certificateNamesSpec.pre enc Tryz.prog Tryz.f9 [] false w args /\ laidMetH Tryz.prog Rows.certificateNamesRow.laid w) /\ sizedMet enc Tryz.prog Tryz.f9 (OpenSpec.ofChange Rows.certificateNamesSpec) false w args)
   (Rows.certificateNamesSpec.post enc Tryz.prog Tryz.f9 false true false false) := by
 refine returnsInHanded_of_change_and (C := Tryz.checked) (X := fun w _ => laidMetH Tryz.prog Rows.certificateNamesRow.laid w) (fun _ _ _ hh h => h.of_heap hh) cnam_own started (by kernel_rfl) Tryz.func9
  (ChangeSpec.witness_shaped (enc := enc) (C := Tryz.checked) (os := os) (X := fun w _ => laidMetH Tryz.prog Rows.certificateNamesRow.laid w) false (cnamStart os) #[.slice none 0 0, .slice none 0 0, .int .u8 0] 8 (World.laidAll_os _ _ _) (World.shaped_of_ZipB (by kernel_rfl) (by kernel_rfl)) (by kernel_rfl) (by kernel_rfl) (by kernel_rfl) (Kq os _)) ?_
 intro W base args ds gs before hval0 hW _ _ hL _
 have hval : ∀ (j : Nat) t v, Tryz.f9.params[j]? = some t -> args[j]? = some v -> Value.okWide Tryz.prog W .any base t v := hval0
 have hW' := hW
 obtain ⟨p, q, hA0, hV, rfl, hfz, hnd⟩ := hW
 have hA : DataW.TrodAll enc Tryz.prog W 0 (fun _ => true) true Tryz.f9.params.toList args.toList ds p := hA0
 rw [Tryz.params9] at hA hval
 obtain ⟨v0, v1, v2, d0, d1, d2, p0, p1, p2, rfl, rfl, rfl, h0, h1, h2⟩ := trodAll_three hA
 obtain ⟨rfl, rfl⟩ := trodVars_none hV
 obtain ⟨l, hl, hs⟩ := Ku (hval 0 _ v0 rfl rfl) h0
 obtain ⟨m, hm, hs2⟩ := Ku (hval 1 _ v1 rfl rfl) h1
 obtain ⟨a2, rfl, ha2⟩ := u8_open Tryz.underlying5 (hval 2 _ v2 rfl rfl) h2
 have hT := Ji W hL
 have lt : ∀ z ∈ p0 ++ p1 ++ p2, z.block < W.heap.size := fun z hz => by simpa using hW'.lt z (by simpa using hz)
 refine (lnames_any v0 v1 l m a2 W _ _ hl hm ha2 hs hs2 hT.1 hT.2).mono fun E W' he => ?_
 obtain ⟨r, rfl, rfl, hb⟩ := he
 refine ⟨_, rfl, _, _, _, [], p0 ++ p1 ++ p2, [], hW', ?_, ?_, ?_, hb.frame _, fun h => by cases h⟩
 ·exact trodAll_mk1 (shut_bool Tryz.underlying4 true)
 ·rw [Tryz.params9]
  rw [List.append_assoc]
  exact trodAll_mk3 (Below.trod Fd (by kernel_rfl) (of_decide_eq_true (by kernel_rfl)) h0 hb fun z hz => lt z (List.mem_append_left _ (List.mem_append_left _ hz))) (Below.trod Fd (by kernel_rfl) (of_decide_eq_true (by kernel_rfl)) h1 hb fun z hz => lt z (List.mem_append_left _ (List.mem_append_right _ hz))) (Below.trod Fd (by kernel_rfl) (of_decide_eq_true (by kernel_rfl)) h2 hb fun z hz => lt z (List.mem_append_right _ hz))
 ·rfl
theorem cnam_holds : Rows.CertificateNamesSaid :=
 OpenClaim.holds_of_wide 9 Tryz.f9 rfl rfl rfl rfl rfl rfl rfl ⟨rfl, rfl, rfl, rfl, rfl⟩ rfl rfl rfl rfl rfl (by kernel_rfl) Tryz.func9 (by kernel_rfl)
  (of_decide_eq_true (by kernel_rfl)) (by unfold Func.isWrapper; rw [if_neg (by decide +kernel)]; exact ⟨rfl, rfl⟩)
  (fun os started H enc _ => cnam_lifted os started H enc)
end
section
open Go
theorem cnam_card : Rows.CertificateNamesCardSaid :=
 Claim7.holds_tied_plain_at .later [] [.data, .data, .data] true (true, "2f541ff0f2b150b94377df4c904e54df060b1cc989d168e7cdafb17d6c9b7b94") false
  cnam_holds (fun _ h => by cases h) (by kernel_rfl) (fun _ h => by cases h) certificateNames_row_tie rfl ⟨rfl, rfl⟩ (by kernel_rfl) rfl
  (fun f fn hf hfn => by
   obtain rfl : f = 9 := Option.some.inj ((show Tryz.prog.funcNamed "arbac/arbaclaw36.CertificateNames" = some 9 by kernel_rfl).symm.trans hf) |>.symm
   obtain rfl : fn = Tryz.f9 := (Option.some.inj (Tryz.func9.symm.trans hfn)).symm
   exact ⟨by kernel_rfl, fun j t ht => by
    rw [Tryz.params9] at ht
    have h3 : t = 22 \/ t = 5 := by
     rcases j with _ | _ | _ | j
     ·simp at ht; simp [<- ht]
     ·simp at ht; simp [<- ht]
     ·simp at ht; simp [<- ht]
     ·simp at ht
    rcases h3 with rfl | rfl
    ·exact (show Tryz.prog.wantsStandIn 22 = false by kernel_rfl)
    ·exact (show Tryz.prog.wantsStandIn 5 = false by kernel_rfl)⟩)
  (by kernel_rfl)
end
end Go.Proofs.YtchjigffejhmfaaGreatDoor
namespace Go.Proofs.YtchjigffejhmfaaGreatDoor
#print axioms cnam_card
end Go.Proofs.YtchjigffejhmfaaGreatDoor
