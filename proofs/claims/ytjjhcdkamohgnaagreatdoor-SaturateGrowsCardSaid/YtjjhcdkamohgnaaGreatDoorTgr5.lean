/-
  The card of SaturateGrows.
-/
import Derived.Test.YtjjhcdkamohgnaaGreatDoorRows
import Derived.ProofKit
import Derived.OpenShut
import Derived.Lib.LaidU8
import Derived.Lay
import Derived.MakeChecks
import Derived.LaidLaws
import Derived.Stop.Joined
import Derived.Test.YtjjhcdkamohgnaaGreatDoorCards
import Derived.Test.YtjjhcdkamohgnaaGreatDoorTie
import Derived.SevenTiedAt
import Derived.Test.YtjjhcdkamohgnaaGreatDoorTgr4
namespace Go.Proofs.YtjjhcdkamohgnaaGreatDoor
section
open Go.RowKit
attribute [local go_sem ↓] Go.wp_at_zero Go.wp_at_succ
set_option maxRecDepth 20000
set_option exponentiation.threshold 5000
noncomputable def srchS (p : Aj) : List Int × List (Nat × Nat) × Bool × Int := if checkE p = 0 then (match p.links with
 | none => ([], [], false, 0)
 | some L => if Cw p = true then ((srchM L p).1, (srchM L p).2.1, (srchM L p).2.2, 0) else ([], [], false, 15)) else ([], [], false, checkE p)
def SrchR (w0 : World) (r : List Int × List (Nat × Nat) × Bool × Int) : Ending -> World -> Prop :=
 AK (fun x w' => ∃ a c, x = .tuple #[a, c, .bool r.2.2.1, .int .i64 r.2.2.2] /\ Sl w' (w0.heap.size <= ·) 1 a r.1.length (AW r.1) /\ Ai w' (w0.heap.size <= ·) c r.2.1) w0
theorem FR {P : Program} {fn : Func} {p2 p p4 p5 : Tmp} {ty : TypeId} {a : Act} {w : World} {g : Nat} {x v2 v4 v5 : Value} (h : fn.results = #[.tmp p2, .cell p ty, .tmp p4, .tmp p5]) (hp : a.eval (.tmp p) = .pointer (some ⟨g, 0, none⟩)) (hc : w.cell? ⟨g, 0, none⟩ = some x) (hu : EN P ty = true)
  (hv2 : a.eval (.tmp p2) = v2) (hv4 : a.eval (.tmp p4) = v4) (hv5 : a.eval (.tmp p5) = v5) : (results fn a.tmps).run P w = .ok (.tuple #[v2, x, v4, v5]) w := by
 have hp' : a.tmps[p]?.getD undef = .pointer (some ⟨g, 0, none⟩) := by simpa [Act.eval] using hp
 have h2 : a.tmps[p2]?.getD undef = v2 := by simpa [Act.eval] using hv2
 have h4 : a.tmps[p4]?.getD undef = v4 := by simpa [Act.eval] using hv4
 have h5 : a.tmps[p5]?.getD undef = v5 := by simpa [Act.eval] using hv5
 have hl : (loadVar ty ⟨g, 0, none⟩).run P w = .ok x w := by
  have := Ff (P := P) (w := w) hu hc
  simpa [Instr.loadAt, Instr.sureAddr] using this
 simp [results, h, hp', h2, h4, h5, asAddr, hl]
theorem opw_sl3 {P : Program} {o : Oper} {a : Act} {w : World} {Kt : Act -> World -> Prop} {Q : Exit -> Act -> World -> Prop} {t e : TypeId} {x h m : Operand} {A : Option Addr} {n c k : Nat} (ho : o.op = .slice t x none (some h) (some m)) (ht : P.underlying t = some (.slice e)) (hi : ∃ size, (P.info? e).map (·.size) = some size) (hx : a.eval x = .slice A n c) (hh : a.eval h = .int .i64 (k : Nat)) (hm : a.eval m = .int .i64 (k : Nat)) (hk : k <= c)
  (hK : Kt (a.put o.dst (.slice A k k)) w) : o.wp P a w Kt Q := by
 obtain ⟨size, hi⟩ := hi
 refine Cb (v := .slice A k k) ?_ hK
 cases hz : P.info? e with
 | none => rw [hz] at hi; cases hi
 | some z =>
  have hke : ((k : Nat) : Int) <= c := by omega
  have : A.map (·.add (0 * z.size)) = A := by cases A <;> simp [Addr.add]
  simp [execOp, ho, hx, hh, hm, Instr.sliceAt, Instr.slice, run_underlying ht, Instr.sliceBounds, run_sliceBound, sizeOf, typeInfo, hz, hke, Addr.add]
theorem Fn {p : Prop} {K : (Nat -> Prop) -> World -> Prop} (h : AA K) : AA fun D w => p -> K D w := fun D D' w w' hh a b c hp => h D D' w w' (hh hp) a b c
theorem sl_cap {w : World} {D : Nat -> Prop} {A : Option Addr} {k c size : Nat} {xs : List Value} (h : Sl w D size (.slice A k c) k xs) : Sl w D size (.slice A k k) k xs := by
 obtain ⟨h1, A', c', e, h2, h3, h4⟩ := h
 injection e with e1 _ e3
 subst e1 e3
 exact ⟨h1, A, k, rfl, Nat.le_refl _, Nat.le_trans h2 h3, h4⟩
theorem F6 {w : World} {D : Nat -> Prop} {a b : Value} {z : Nat × Nat} (h1 : A6 w D (.agg #[a]) z.1) (h2 : A6 w D (.agg #[b]) z.2) : Ah w D [a, b] [z] := fun i y n hi => by
 cases i with
 | zero => obtain rfl := Option.some.inj (show some z = some (y, n) from hi); exact ⟨a, b, rfl, rfl, h1, h2⟩
 | succ i => simp at hi
theorem DX {w : World} {D : Nat -> Prop} : Ai w D (.slice none 0 0) [] := ⟨[], Sl.none_, fun i y n hi => by simp at hi⟩
theorem St.good2 {w0 w w' : World} {F : List Ae} {K : (Nat -> Prop) -> World -> Prop} (h : St w0 w F K) (hb : Below w.heap.size w w') {Bs cap : Nat} {A : Option Addr} {ws : List Nat} (hs : Sl w' (w.heap.size <= ·) 1 (.slice A ws.length cap) ws.length (Bl ws)) (hT : Bt w) (hF : CT F 0)
  (hB : w.heap.size <= Bs) (hX : C4 w' Bs 27 #[.slice A ws.length cap]) : St w0 w' F fun D w => K D w /\ GoodK Bs A cap ws D w := by
 refine (h.ext hb).add (D := CT F) GL ⟨⟨(hX.cell 0).trans rfl, fun h0 => ?_, hT.ext hb⟩, h.fresh hB, fun b off e h0 => ?_, hF⟩ fun _ h _ => h
 ·obtain ⟨_, A', c', e, _, _, h2⟩ := hs
  obtain ⟨b, o, h3, h4, h6, h5⟩ := h2 h0
  injection e with e
  exact ⟨b, o, e.trans h3, fun j hj => h5 j _ (Cx _ _ hj)⟩
 ·obtain ⟨_, A', c', e', _, _, h2⟩ := hs
  obtain ⟨b', o', h3, h4, h6, h5⟩ := h2 h0
  injection e' with e'
  rw [e, h3] at e'; injection e' with e'; injection e' with e1; subst e1; exact h.fresh h4
theorem ofN_one {k : Nat} (h : k <= 4095) : ofN [(k : Int)] = 2 ^ k := by
 show Fa 0 (k : Int) = _
 unfold Fa
 rw [if_pos (by omega)]; simp
theorem memL_one {ws : List Nat} (hc : BQ ws) (hN : Bg ws < Bv) : (BH ws).map (fun x => (2 ^ x.toNat, 0)) = oneC (Bg ws) := by
 rw [memL_eq hc hN]
 unfold At oneC
 rw [List.map_map]
 rfl
set_option maxHeartbeats 8000000 in
theorem GM {w0 : World} {D : Nat -> Prop} {v : Value} {p : Aj} (hp : B6 w0 D v p) (hP : p.Ok) (hT : Bt w0) :
  Calls Tryz.prog 30 #[v] w0 (SrchR w0 (srchS p)) := by
 obtain ⟨xs, rfl, hx6, hx1⟩ := hp.cells
 replace hx6 := Lib.hid hx6
 obtain ⟨K, HK, HT, HTB, hS⟩ : ∃ K : (Nat -> Prop) -> World -> Prop, Hid (∀ D w, K D w -> B6 w D (.agg xs) p) /\ Hid (∀ D w, K D w -> Bt w) /\ Hid (∀ D w, K D w -> D 0) /\ St w0 w0 [] K :=
  ⟨fun D w => B6 w D (.agg xs) p /\ Bt w /\ D 0, Lib.hid fun _ _ h => h.1, Lib.hid fun _ _ h => h.2.1, Lib.hid fun _ _ h => h.2.2, St.start (D := fun _ => True) (BN.and BD) ⟨BN D _ w0 w0 hp (Nat.le_refl _) (fun _ _ _ _ h => h) fun _ _ _ _ => trivial, hT, trivial⟩⟩
 have HP := Lib.hid hP
 have KS := Lib.hid hS.stable
 clear hP hp hT
 obtain ⟨e, he⟩ : ∃ e, checkE p = e := ⟨_, rfl⟩
 have HE := Lib.hid he
 clear he
 obtain ⟨RES, hR⟩ : ∃ RES, srchS p = RES := ⟨_, rfl⟩
 rw [hR]
 by_cases h0 : e = 0
 ·subst h0
  obtain ⟨L, hl⟩ : ∃ L, p.links = some L := by
   cases h : p.links with
   | none => have := HE.out; unfold checkE at this; rw [h] at this; cases this
   | some L => exact ⟨L, rfl⟩
  cases hf : Cw p with
  | false =>
   have HR := Lib.hid (show RES = ([], [], false, 15) by rw [<- hR]; unfold srchS; rw [if_pos HE.out, hl, hf]; rfl)
   have HF : Hid (fragM p = false) := Lib.hid (by unfold fragM; rw [if_pos HE.out, hf])
   clear hR hl hf
   refine (callsIn_wide (n := 6)).1 (callsIn_of_wp_marks Tryz.func30 rfl trivial ?_ rfl)
   simp only [Tryz.ntmps30, List.size_toArray, List.length_cons, List.length_nil, Nat.reduceAdd, Nat.reduceSub, Array.replicate_succ, Array.replicate_zero, List.push_toArray, List.append_toArray, List.nil_append, List.cons_append]
   refine wpIn_wide.2 ?_
   go_wp2_with (first
    | ((with_reducible refine qA 1 ?_); refine Az hS rfl _ _ rfl (.agg xs) xs rfl rfl ?_; clear hS; intro g1 w_ hS; (try simp only [Act.put, Act.eval, zz, Value.cells] at hS))
    | ((with_reducible refine qA 3 ?_); refine qa hS #[.slice none 0 0] ?_; clear hS; intro g3 w_ hS)
    | ((with_reducible refine qB ?_); refine qc ?_ ?_ <;> intro h_ <;> go_prune)
    | ((with_reducible refine qk 31 ?_); refine BigFrame.wpList_want rfl fun _ hK => AY rfl rfl (hS.box 1 rfl) Tryz.underlying31 rfl (by rw [hx6.out]; kernel_rfl) (hK _ _ ?_))
    | (go_at_call 31; refine (Cu (HK.out _ _ hS.ro) HP.out (HT.out _ _ hS.ro)).mono ?_; rw [HE.out]; rintro r_ w_ ⟨_, rfl, rfl, hb_⟩; replace hS := hS.ext hb_; clear hb_)
    | (go_at_call 15; refine (Df (HK.out _ _ hS.ro) HP.out (HT.out _ _ hS.ro)).mono ?_; rw [HF.out]; rintro r_ w_ ⟨_, rfl, rfl, hb_⟩; replace hS := hS.ext hb_; clear hb_)
    | ((with_reducible refine qM ?_); (first | refine qS hS ?_ | refine qT hS ?_); clear hS; intro w_ hS; (try simp only [Act.put, Act.eval, zz, Value.cells] at hS)))
   refine BP (F := [.box g3 29 #[.slice none 0 0], .box g1 31 xs]) ?_ [] _ (by simpa [BW] using hS)
   intro w' h
   refine ⟨_, FR rfl rfl (h.shut 0 rfl 0 rfl) (by kernel_rfl) rfl rfl rfl, ?_⟩
   rw [HR.out]
   exact AK.mk ⟨_, _, rfl, Sl.none_, DX⟩ h.below
  | true =>
   have HTG := Lib.hid (EL HE.out hl)
   have HF : Hid (fragM p = true) := Lib.hid (by unfold fragM; rw [if_pos HE.out, hf])
   have HRS := Lib.hid (show RES = ((srchM L p).1, (srchM L p).2.1, (srchM L p).2.2, 0) by rw [<- hR]; unfold srchS; rw [if_pos HE.out, hl]; dsimp only; rw [if_pos hf])
   have HSTP := Lib.hid (sat_steps (L := L) HTG.out)
   have hsl := sat_short (L := L) HTG.out
   have hrl := HP.out.rules
   have HREL : Hid (relS p = relM L p) := Lib.hid (by unfold relS; rw [if_pos HE.out, hl])
   have HL := Lib.hid hl
   obtain ⟨SM, hSM⟩ : ∃ SM, satM L p = SM := ⟨_, rfl⟩
   rw [hSM] at hsl HSTP
   replace hSM := Lib.hid hSM
   clear hR hl hf
   obtain ⟨R, lk, st, rl, nl, gl⟩ := p
   dsimp only at hsl hrl
   obtain rfl : lk = some L := HL.out
   obtain ⟨lp, s, rv, nv, gv, e, h1, h2, h3, h4, h5⟩ := HK.out _ _ hS.ro
   dsimp only at h1 h2 h3 h4 h5
   obtain ⟨q, o, rfl, -⟩ := id h1
   obtain ⟨Cs, ns, cs, rfl⟩ := h2.shape
   obtain ⟨Ar, cr, rfl, _, _⟩ := h3.shape
   obtain ⟨An, cn, rfl, _, _⟩ := h4.shape
   obtain ⟨Ag, cg, rfl, _, _⟩ := h5.shape
   injection e with e
   subst e
   obtain ⟨KC, kc, hS2⟩ : ∃ KC : (Nat -> Prop) -> World -> Prop, Hid (∀ D w, KC D w -> K D w /\ A6 w D (.agg #[.slice Cs ns cs]) st /\ Bb w D (.slice Ar rl.length cr) rl) /\ St w0 w0 [] KC := ⟨_, Lib.hid fun D w h => ⟨h.1, h.2.1, h.2.2⟩, hS.add (D := CT []) (A5.and B0) ⟨h2, h3⟩ fun _ h _ => h⟩
   clear hS h1 h2 h3 h4 h5 hx1 hx6
   have hS := hS2
   clear hS2
   have k0 := Lib.hid fun D w h => (kc.out D w h).1
   have KSC := Lib.hid hS.stable
   obtain ⟨U, us⟩ := SM
   dsimp only at hsl HSTP
   refine (callsIn_wide (n := 6)).1 (callsIn_of_wp_marks Tryz.func30 rfl trivial ?_ rfl)
   simp only [Tryz.ntmps30, List.size_toArray, List.length_cons, List.length_nil, Nat.reduceAdd, Nat.reduceSub, Array.replicate_succ, Array.replicate_zero, List.push_toArray, List.append_toArray, List.nil_append, List.cons_append]
   refine wpIn_wide.2 ?_
   go_wp2_with (first
    | ((with_reducible refine qA 1 ?_); refine Az hS rfl _ _ rfl (.agg #[.int .i64 R, .pointer (some ⟨q, 0, none⟩), .slice Cs ns cs, .slice Ar rl.length cr, .slice An nl.length cn, .slice Ag gl.length cg]) _ rfl rfl ?_; clear hS; intro g1 w_ hS; (try simp only [Act.put, Act.eval, zz, Value.cells] at hS))
    | ((with_reducible refine qA 3 ?_); refine qa hS #[.slice none 0 0] ?_; clear hS; intro g3 w_ hS)
    | ((with_reducible refine qB ?_); refine qc ?_ ?_ <;> intro h_ <;> go_prune)
    | ((with_reducible refine qK ?_); refine qL hS Tryz.underlying31 ?_)
    | (go_at_call 31; refine (Cu (HK.out _ _ (k0.out _ _ hS.ro)) HP.out (HT.out _ _ (k0.out _ _ hS.ro))).mono ?_; rw [HE.out]; rintro r_ w_ ⟨_, rfl, rfl, hb_⟩; replace hS := hS.ext hb_; clear hb_)
    | (go_at_call 15; refine (Df (HK.out _ _ (k0.out _ _ hS.ro)) HP.out (HT.out _ _ (k0.out _ _ hS.ro))).mono ?_; rw [HF.out]; rintro r_ w_ ⟨_, rfl, rfl, hb_⟩; replace hS := hS.ext hb_; clear hb_)
    | (go_at_call 55; refine (Ey rfl HP.out HTG.out hS (fun D w h => HK.out _ _ (k0.out _ _ h)) (fun D w h => HT.out _ _ (k0.out _ _ h))).mono ?_; rw [hSM.out]; clear hS; rintro e w_ ⟨y, u, rfl, hS⟩; obtain ⟨x7, rfl, hu1⟩ := Bx hS.ro.2; obtain ⟨Au, cu, rfl, hcu, _⟩ := Bk (hS.own 0 rfl))
    | ((with_reducible refine qA 7 ?_); refine qa hS #[.slice none 0 0] ?_; clear hS; intro g7 w_ hS)
    | ((with_reducible refine qA 9 ?_); refine qa hS #[.slice none 0 0] ?_; clear hS; intro g9 w_ hS)
    | ((with_reducible refine qk 27 ?_); first | (refine A7 hS 0 rfl _ _ rfl _ _ rfl _ _ rfl _ (by first | rfl | assumption) Tryz.underlying27 rfl (by kernel_rfl) ?_) | (refine A7 hS 1 rfl _ _ rfl _ _ rfl _ _ rfl _ (by first | rfl | assumption) Tryz.underlying27 rfl (by kernel_rfl) ?_) | (refine A7 hS 2 rfl _ _ rfl _ _ rfl _ _ rfl _ (by first | rfl | assumption) Tryz.underlying27 rfl (by kernel_rfl) ?_) | (refine A7 hS 3 rfl _ _ rfl _ _ rfl _ _ rfl _ (by first | rfl | assumption) Tryz.underlying27 rfl (by kernel_rfl) ?_) | (refine A7 hS 4 rfl _ _ rfl _ _ rfl _ _ rfl _ (by first | rfl | assumption) Tryz.underlying27 rfl (by kernel_rfl) ?_) | (refine A7 hS 5 rfl _ _ rfl _ _ rfl _ _ rfl _ (by first | rfl | assumption) Tryz.underlying27 rfl (by kernel_rfl) ?_))
    | ((with_reducible refine qm 27 ?_); (first | refine AV hS 0 rfl _ _ _ rfl _ _ rfl rfl _ _ rfl (by kernel_rfl) (by kernel_rfl) (by simpa using hu1) ?_ | refine AV hS 1 rfl _ _ _ rfl _ _ rfl rfl _ _ rfl (by kernel_rfl) (by kernel_rfl) (by simpa using hu1) ?_ | refine AV hS 2 rfl _ _ _ rfl _ _ rfl rfl _ _ rfl (by kernel_rfl) (by kernel_rfl) (by simpa using hu1) ?_ | refine AV hS 3 rfl _ _ _ rfl _ _ rfl rfl _ _ rfl (by kernel_rfl) (by kernel_rfl) (by simpa using hu1) ?_); clear hS; intro w_ hS; (try simp only [Act.put, Act.eval, zz, Value.cells] at hS))
    | ((with_reducible refine qM ?_); (first | refine qS hS ?_ | refine qT hS ?_); clear hS; intro w_ hS; (try simp only [Act.put, Act.eval, zz, Value.cells] at hS)))
   obtain ⟨KX, kx, hS2⟩ : ∃ KX : (Nat -> Prop) -> World -> Prop, Hid (∀ D w, KX D w -> KC D w /\ A6 w D (.agg #[x7]) U) /\ St w0 w_ [.box g9 27 #[.slice Cs ns cs], .box g7 27 #[x7], .own (.slice Au us.length cu) 3 1 us.length (AW us), .box g3 29 #[.slice none 0 0], .box g1 31 #[.int .i64 R, .pointer (some ⟨q, 0, none⟩), .slice Cs ns cs, .slice Ar rl.length cr, .slice An nl.length cn, .slice Ag gl.length cg]] KX := ⟨_, Lib.hid fun D w h => h, hS⟩
   clear hS
   have hS := hS2
   clear hS2
   have KSX := Lib.hid hS.stable
   go_loopw [10] (fun iv wr => ∃ (j : Nat) (x9 : Value), iv = .int .i64 (j : Nat) /\ j <= us.length + 1 /\ x9.oneCell' = true /\ Hid (∀ i, i < j -> reachB ⟨R, some L, st, rl, nl, gl⟩ (satS L ⟨R, some L, st, rl, nl, gl⟩ i).1 = false) /\ St w0 wr [.box g9 27 #[x9], .box g7 27 #[x7], .own (.slice Au us.length cu) 3 1 us.length (AW us), .box g3 29 #[.slice none 0 0], .box g1 31 #[.int .i64 R, .pointer (some ⟨q, 0, none⟩), .slice Cs ns cs, .slice Ar rl.length cr, .slice An nl.length cn, .slice Ag gl.length cg]] (fun D w => KX D w /\ (j <= us.length -> A6 w D (.agg #[x9]) (satS L ⟨R, some L, st, rl, nl, gl⟩ j).1))) (fun i _ => us.length + 1 - (intOf i).toNat)
   case atStart => exact ⟨0, _, rfl, by omega, rfl, Lib.hid (fun i h => by omega), hS.mono (KSX.out.and (Fn A5)) fun D w h => ⟨h, fun _ => (kc.out _ _ (kx.out _ _ h).1).2.1⟩⟩
   case round =>
    clear hS
    obtain ⟨j, x9, rfl, hj, hx9, HN, hS⟩ := hrel
    by_cases hju : j <= us.length
    ·have HTK := Lib.hid ((HSTP.out.2 j hju).1)
     have HY : Hid (reachB ⟨R, some L, st, rl, nl, gl⟩ (satS L ⟨R, some L, st, rl, nl, gl⟩ j).1 = true -> RES = (us.take j, [], true, 0)) := Lib.hid fun h => by
      rw [HRS.out]
      unfold srchM
      rw [hit_some (by rw [hSM.out]; exact hju) h HN.out]
      dsimp only
      rw [HTK.out]
     have HN2 : Hid (reachB ⟨R, some L, st, rl, nl, gl⟩ (satS L ⟨R, some L, st, rl, nl, gl⟩ j).1 = false -> ∀ i, i < j + 1 -> reachB ⟨R, some L, st, rl, nl, gl⟩ (satS L ⟨R, some L, st, rl, nl, gl⟩ i).1 = false) := Lib.hid fun h i hi => by
      rcases Nat.lt_or_ge i j with h1 | h1
      ·exact HN.out i h1
      ·obtain rfl : i = j := by omega
       exact h
     obtain ⟨N, hN⟩ : ∃ N, (satS L ⟨R, some L, st, rl, nl, gl⟩ j).1 = N := ⟨_, rfl⟩
     rw [hN] at HY HN2
     replace hS : St w0 wr [.box g9 27 #[x9], .box g7 27 #[x7], .own (.slice Au us.length cu) 3 1 us.length (AW us), .box g3 29 #[.slice none 0 0], .box g1 31 #[.int .i64 R, .pointer (some ⟨q, 0, none⟩), .slice Cs ns cs, .slice Ar rl.length cr, .slice An nl.length cn, .slice Ag gl.length cg]] (fun D w => KX D w /\ A6 w D (.agg #[x9]) N) := hS.mono (KSX.out.and A5) fun D w h => ⟨h.1, by rw [<- hN]; exact h.2 hju⟩
     obtain ⟨rb, hrb⟩ : ∃ rb, reachB ⟨R, some L, st, rl, nl, gl⟩ N = rb := ⟨_, rfl⟩
     have HRB := Lib.hid hrb
     rw [hrb] at HY HN2
     have HNN := Lib.hid hN
     clear hrb hN HN
     cases rb
     ·by_cases hlt : j < us.length
      ·obtain ⟨k, hk, hkl, HNX⟩ : ∃ k : Nat, us[j]? = some (k : Int) /\ k < rl.length /\ Hid ((satS L ⟨R, some L, st, rl, nl, gl⟩ (j + 1)).1 = BM N (rl.getD k AP).target) := by
        have h1 := HSTP.out.2 (j + 1) hlt
        have h2 := HSTP.out.2 j hju
        cases hfc : firstC L rl (satS L ⟨R, some L, st, rl, nl, gl⟩ j).1 with
        | none =>
         rw [C8 (p := ⟨R, some L, st, rl, nl, gl⟩) hfc] at h1
         omega
        | some k =>
         have h3 := BU (p := ⟨R, some L, st, rl, nl, gl⟩) hfc
         rw [h3] at h1
         refine ⟨k, ?_, (Dy hfc).1, Lib.hid (by rw [h3, HNN.out])⟩
         have h4 := h1.1
         dsimp only at h4
         rw [h2.1] at h4
         have h5 : (us.take (j + 1))[j]? = some (k : Int) := by
          rw [<- h4, List.getElem?_append_right (by rw [List.length_take]; omega), List.length_take, Nat.min_eq_left hju]; simp
         rwa [List.getElem?_take, if_pos (by omega)] at h5
       obtain ⟨bu, ou, rfl⟩ := sl_pos (Sl.of_own (hS.own 2 rfl)) (by omega)
       have HY0 : Hid ((AW us)[j]? = some (.int .i64 (k : Nat))) := Lib.hid (by simp [AW, hk])
       obtain ⟨b, o2, y0, m0, rfl, _, hbl, c0, c1, c2, c3, c4, -, -⟩ := (kc.out _ _ (kx.out _ _ hS.ro.1).1).2.2.at_ hkl
       obtain ⟨t, ht, h64⟩ := HTG.out _ (List.mem_of_getElem? (Bq AP hkl))
       rw [ht] at HNX c3
       clear ht hk HY HNN c0 c1 c2 c4
       go_wp2_with (first
        | ((with_reducible refine qB ?_); refine qc ?_ ?_ <;> intro h_ <;> go_prune)
        | ((with_reducible refine qA 33 ?_); refine BigFrame.wpList_want rfl fun _ hK => AY rfl rfl (hS.box 4 rfl) Tryz.underlying31 rfl (by kernel_rfl) (hK _ _ ?_))
        | ((with_reducible refine qA 34 ?_); refine BigFrame.wpList_want rfl fun _ hK => AY rfl rfl (hS.box 0 rfl) Tryz.underlying27 rfl (by kernel_rfl) (hK _ _ ?_))
        | (go_at_call 25; refine (EC (HK.out _ _ (k0.out _ _ (kx.out _ _ hS.ro.1).1)) HP.out (HT.out _ _ (k0.out _ _ (kx.out _ _ hS.ro.1).1)) hS.ro.2).mono ?_; rw [HRB.out]; rintro r_ w_ ⟨_, rfl, rfl, hb_⟩; replace hS := hS.ext hb_; replace c3 := (hb_.cell hbl).trans c3; replace hbl := Nat.lt_of_lt_of_le hbl hb_.size; clear hb_))
       refine Em 11 [] [.i (.agg #[x9]), .q g1 3, .i (.slice (some ⟨b, o2, none⟩) rl.length cr), .i (.slice (some ⟨bu, ou, none⟩) us.length cu), .n (j : Nat), .q bu (ou + (j) * 1), .n (k : Nat), .q b (o2 + (k) * 5), .q b (o2 + (k) * 5 + 3), .n (t : Nat), .s (fun v w => ∃ u, v = .agg #[u] /\ u.oneCell' = true /\ A6 w (fun z => CT [.box g9 27 #[x9], .box g7 27 #[x7], .own (.slice (some ⟨bu, ou, none⟩) us.length cu) 3 1 us.length (AW us), .box g3 29 #[.slice none 0 0], .box g1 31 #[.int .i64 R, .pointer (some ⟨q, 0, none⟩), .slice Cs ns cs, .slice (some ⟨b, o2, none⟩) rl.length cr, .slice An nl.length cn, .slice Ag gl.length cg]] z \/ w_.heap.size <= z) (.agg #[u]) (BM N (t : Nat))) fun v w w' h hb => ⟨_, h.choose_spec.1, h.choose_spec.2.1, h.choose_spec.2.2.ext hb⟩, .t] ⟨uR (h := fun w hW hN => (hS.ext hW).box 0 rfl), uF, uC (h := fun w hW hN => (hS.ext hW).shut 4 rfl 3 rfl), uM, uM, uI (h := fun w hW hN => Af (m := j) Tryz.underlying45 (by kernel_rfl) (by omega) (by omega)), uC (h := fun w hW hN => by rw [Nat.mul_one]; exact E7 (Sl.of_own ((hS.ext hW).own 2 rfl)) HY0.out), uI (h := fun w hW hN => Af (m := k) Tryz.underlying28 (by kernel_rfl) (by omega) (by omega)), uF, uC (h := fun w hW hN => (hW.cell hbl).trans c3), ?_, trivial⟩ ?_
       ·refine uT fun b__ w hW hE K hK => ?_
        have e44 := hE 44
        have e53 := hE 53
        refine Aq rfl (by kernel_rfl) (by simp only [List.map_cons, List.map_nil, e44, e53]) (DJ (.agg #[x9]) N (t : Nat) w _ (hS.ext hW).ro.2) fun v w' h hb => ?_
        obtain ⟨u, rfl, h1⟩ := Bx h
        exact hK _ w' ⟨u, rfl, h1, h.imp fun z hz _ => hz.imp id fun hz => Nat.le_trans hW.size hz⟩ hb
       ·intro vs wz hW hT
        obtain ⟨e44, e45, e46, e47, e48, e49, e50, e51, e52, e53, e54, -⟩ := hT
        have bx : (fun _ : Nat => True) 0 := trivial
        simp only [AB, Act.put, zz, ze]
        obtain ⟨u9, e54, hu9, hset⟩ := e54
        have hS1 := (hS.ext hW).add (A5 (v := .agg #[u9]) (N := BM N (t : Nat))) hset fun z hz _ => hz.elim id hS.fresh
        (intro o_ ho_; simp only [List.getElem?_toArray, List.getElem?_cons_succ, List.getElem?_cons_zero, Option.some.injEq] at ho_; subst ho_)
        refine BG rfl rfl e54 (hS1.box 0 rfl) (by kernel_rfl) rfl (by simpa using hu9) fun w10 h10 hU10 => ?_
        replace hS1 := hS1.upd 0 rfl (.box g9 27 #[u9]) (B5 hU10) ⟨(hS1.holds (.box g9 27 #[x9]) (by simp)).1, h10⟩ fun _ e => .inl e
        simp only [BJ]
        simp only [Act.put, List.setIfInBounds_toArray, List.set_cons_zero, List.set_cons_succ]
        clear e44 e45 e46 e47 e48 e49 e50 e51 e52 e53 e54 hset hW hS
        go_wp2_with fail
        exact ⟨⟨j + 1, u9, by go_num, by omega, hu9, Lib.hid (HN2.out (by trivial)), hS1.mono (KSX.out.and (Fn A5)) fun D w h => ⟨h.1.1, fun _ => by rw [HNX.out]; exact h.2⟩⟩, by simp [intOf]; omega⟩
      ·obtain rfl : j = us.length := by omega
       clear HY HNN
       go_wp2_with (first
        | ((with_reducible refine qB ?_); refine qc ?_ ?_ <;> intro h_ <;> go_prune)
        | ((with_reducible refine qA 33 ?_); refine BigFrame.wpList_want rfl fun _ hK => AY rfl rfl (hS.box 4 rfl) Tryz.underlying31 rfl (by kernel_rfl) (hK _ _ ?_))
        | ((with_reducible refine qA 34 ?_); refine BigFrame.wpList_want rfl fun _ hK => AY rfl rfl (hS.box 0 rfl) Tryz.underlying27 rfl (by kernel_rfl) (hK _ _ ?_))
        | (go_at_call 25; refine (EC (HK.out _ _ (k0.out _ _ (kx.out _ _ hS.ro.1).1)) HP.out (HT.out _ _ (k0.out _ _ (kx.out _ _ hS.ro.1).1)) hS.ro.2).mono ?_; rw [HRB.out]; rintro r_ w_ ⟨_, rfl, rfl, hb_⟩; replace hS := hS.ext hb_; clear hb_))
       exact ⟨⟨us.length + 1, x9, by go_num, by omega, hx9, Lib.hid (HN2.out (by trivial)), hS.mono (KSX.out.and (Fn A5)) fun D w h => ⟨h.1, fun h => by omega⟩⟩, by simp [intOf]⟩
     ·have HY2 := Lib.hid (HY.out (by trivial))
      clear HY HN2 HNN
      go_wp2_with (first
       | ((with_reducible refine qB ?_); refine qc ?_ ?_ <;> intro h_ <;> go_prune)
       | ((with_reducible refine qA 33 ?_); refine BigFrame.wpList_want rfl fun _ hK => AY rfl rfl (hS.box 4 rfl) Tryz.underlying31 rfl (by kernel_rfl) (hK _ _ ?_))
       | ((with_reducible refine qA 34 ?_); refine BigFrame.wpList_want rfl fun _ hK => AY rfl rfl (hS.box 0 rfl) Tryz.underlying27 rfl (by kernel_rfl) (hK _ _ ?_))
       | (go_at_call 25; refine (EC (HK.out _ _ (k0.out _ _ (kx.out _ _ hS.ro.1).1)) HP.out (HT.out _ _ (k0.out _ _ (kx.out _ _ hS.ro.1).1)) hS.ro.2).mono ?_; rw [HRB.out]; rintro r_ w_ ⟨_, rfl, rfl, hb_⟩; replace hS := hS.ext hb_; clear hb_)
       | ((with_reducible refine qA 39 ?_); refine BigFrame.wpList_want rfl fun _ hK => opw_sl3 (k := j) rfl Tryz.underlying45 ⟨1, by kernel_rfl⟩ rfl rfl rfl (by omega) (hK _ _ ?_))
       | ((with_reducible refine qM ?_); (first | refine qS hS ?_ | refine qT hS ?_); clear hS; intro w_ hS; (try simp only [Act.put, Act.eval, zz, Value.cells] at hS)))
      refine BP (F := [.box g9 27 #[x9], .box g7 27 #[x7], .own (.slice Au us.length cu) 3 1 us.length (AW us), .box g3 29 #[.slice none 0 0], .box g1 31 #[.int .i64 R, .pointer (some ⟨q, 0, none⟩), .slice Cs ns cs, .slice Ar rl.length cr, .slice An nl.length cn, .slice Ag gl.length cg]]) ?_ [] _ (by simpa [BW] using hS)
      intro w' h
      refine ⟨_, FR rfl rfl (h.shut 3 rfl 0 rfl) (by kernel_rfl) rfl rfl rfl, ?_⟩
      rw [HY2.out]
      refine AK.mk ⟨_, _, rfl, ?_, DX⟩ h.below
      have h3 := (Sl.of_own (h.own 2 rfl)).take (k := j) hju
      have h4 : (us.take j).length = j := by rw [List.length_take]; omega
      have h5 : (AW us).take j = AW (us.take j) := by unfold AW; rw [List.map_take]
      rw [h5] at h3
      dsimp only
      rw [h4]
      exact sl_cap h3
    ·obtain rfl : j = us.length + 1 := by omega
     obtain ⟨RL, hRL⟩ : ∃ RL, relM L ⟨R, some L, st, rl, nl, gl⟩ = RL := ⟨_, rfl⟩
     obtain ⟨N, hN⟩ : ∃ N, EG RL U = N := ⟨_, rfl⟩
     have HN64 : Hid (N < Bv) := Lib.hid (by
      rw [<- hN, <- hRL, C3]
      exact minus_lt (by have := relM_lt L ⟨R, some L, st, rl, nl, gl⟩; rwa [C3] at this))
     have HZ : Hid (RES = ([], oneC N, false, 0)) := Lib.hid (by
      rw [HRS.out]
      unfold srchM
      rw [hit_none (fun i hi => HN.out i (by rw [hSM.out] at hi; dsimp only at hi; omega)), hSM.out, hRL, hN])
     have HRL : Hid (relS ⟨R, some L, st, rl, nl, gl⟩ = RL) := Lib.hid (by rw [HREL.out, hRL])
     have HNN := Lib.hid hN
     clear hN hRL HN HRS HSTP
     replace hS : St w0 wr [.box g9 27 #[x9], .box g7 27 #[x7], .own (.slice Au us.length cu) 3 1 us.length (AW us), .box g3 29 #[.slice none 0 0], .box g1 31 #[.int .i64 R, .pointer (some ⟨q, 0, none⟩), .slice Cs ns cs, .slice Ar rl.length cr, .slice An nl.length cn, .slice Ag gl.length cg]] KX := hS.mono KSX.out fun D w h => h.1
     go_wp2_with (first | ((with_reducible refine qB ?_); refine qc ?_ ?_ <;> intro h_ <;> go_prune))
     refine Db [.i (.agg #[.int .i64 R, .pointer (some ⟨q, 0, none⟩), .slice Cs ns cs, .slice Ar rl.length cr, .slice An nl.length cn, .slice Ag gl.length cg]), .s (fun v w => A6 w (fun _ => True) v RL) fun v w w' h hb => h.ext hb, .i (.agg #[x7]), .s (fun v w => A6 w (fun z => wr.heap.size <= z) v N) fun v w w' h hb => h.ext hb, .s (fun v w => ∃ Bs A cap ws, v = .func (.func 102) #[] #[.pointer (some ⟨Bs, 0, none⟩)] /\ BQ ws /\ Bg ws = N /\ Sl w (fun z => wr.heap.size <= z) 1 (.slice A ws.length cap) ws.length (Bl ws) /\ wr.heap.size <= Bs /\ C4 w Bs 27 #[.slice A ws.length cap]) fun v w w' h hb => by obtain ⟨Bs, A, cap, ws, h1, h2, h3, h4, h5, h6⟩ := h; exact ⟨Bs, A, cap, ws, h1, h2, h3, h4.ext hb, h5, h6.ext hb⟩] ⟨uR (h := fun w hW hN => (hS.ext hW).box 4 rfl), ?_, uR (h := fun w hW hN => (hS.ext hW).box 1 rfl), ?_, ?_, trivial⟩ ?_
     ·refine uT fun b__ w hW hE K hK => ?_
      have e55 := hE 55
      exact Aq rfl (by kernel_rfl) (by simp only [List.map_cons, List.map_nil, e55]) (relevant_any (HK.out _ _ (k0.out _ _ (kx.out _ _ (hS.ext hW).ro).1)) HP.out (HT.out _ _ (k0.out _ _ (kx.out _ _ (hS.ext hW).ro).1))) fun v w' h hb => hK v w' (by rw [<- HRL.out]; exact h.imp fun _ _ _ => trivial) hb
     ·refine uT fun b__ w hW hE K hK => ?_
      have e56 := hE 56
      have e57 := hE 57
      exact Aq rfl (by kernel_rfl) (by simp only [List.map_cons, List.map_nil, e57]) (minus_any e56 (kx.out _ _ (hS.ext hW).ro).2) fun v w' h hb => hK v w' (by rw [<- HNN.out]; exact h.imp fun z hz _ => Nat.le_trans hW.size hz) hb
     ·refine uT fun b__ w hW hE K hK => ?_
      have e58 := hE 58
      refine Aq rfl (by kernel_rfl) (by simp only [List.map_cons, List.map_nil]) (FL _ N _ _ e58) fun v w' h hb => ?_
      obtain ⟨Bs, A, cap, ws, h1, -, h3, h4, h5, h6, h7⟩ := h
      exact hK v w' ⟨Bs, A, cap, ws, h1, h3, h4, h5.ext hb, Nat.le_trans hW.size h6, h7⟩ hb
     ·intro vs wz hW hT
      obtain ⟨e55, e56, e57, e58, e59, -⟩ := hT
      have bx : (fun _ : Nat => True) 0 := trivial
      simp only [AB, Act.put, zz, ze]
      obtain ⟨Bs, A, cap, ws, hfv, hcn, hvN, hsl, hBs, hX⟩ := e59
      rw [hfv]
      replace hS := hS.good2 hW hsl (HT.out _ _ (k0.out _ _ (kx.out _ _ hS.ro).1)) (HTB.out _ _ (k0.out _ _ (kx.out _ _ hS.ro).1)) hBs hX
      replace hS := hS.nil 54 2
      obtain ⟨KK, kG, KKS, hS2⟩ : ∃ KK : (Nat -> Prop) -> World -> Prop, (∀ D w, KK D w -> Gi Bs A cap ws w) /\ AA KK /\ St w0 wz [.own (.slice none 0 0) 54 2 0 [], .box g9 27 #[x9], .box g7 27 #[x7], .own (.slice Au us.length cu) 3 1 us.length (AW us), .box g3 29 #[.slice none 0 0], .box g1 31 #[.int .i64 R, .pointer (some ⟨q, 0, none⟩), .slice Cs ns cs, .slice Ar rl.length cr, .slice An nl.length cn, .slice Ag gl.length cg]] KK := ⟨_, fun D w h => h.2.1, hS.stable, hS⟩
      clear hS
      have hS := hS2
      clear hS2
      have HCN := Lib.hid hcn
      have HMEM : Hid ((BH ws).map (fun x => (2 ^ x.toNat, 0)) = oneC N) := Lib.hid (by rw [<- hvN]; exact memL_one hcn (by rw [hvN]; exact HN64.out))
      have HML : Hid ((BH ws).length <= 4096) := Lib.hid (by
       have := memTo_len (Bg ws) (64 * ws.length)
       have := hcn.2.2
       simp [BH, At]; omega)
      have HVB : Hid (∀ k, (Bg ws).testBit k = true -> k <= 4095) := Lib.hid fun k hk => by
       rcases Nat.lt_or_ge k 64 with h | h
       ·omega
       ·rw [hvN, Et HN64.out h] at hk; cases hk
      clear hsl hX hBs hW hfv e55 e56 e57 e58 hcn hvN hju hj
      go_wp2_with fail
      have hsz := hS.size
      refine (wpIn_wide (n := 6)).1 ?_
      refine FA fun act hact => ?_
      refine E8 hS HCN.out.1 HCN.out.2.2 kG (by rw [hact]; rfl) rfl
       (fun pre F' K' => ∃ cv xs', F' = [.own cv 54 2 pre.length xs', .box g9 27 #[x9], .box g7 27 #[x7], .own (.slice Au us.length cu) 3 1 us.length (AW us), .box g3 29 #[cv], .box g1 31 #[.int .i64 R, .pointer (some ⟨q, 0, none⟩), .slice Cs ns cs, .slice Ar rl.length cr, .slice An nl.length cn, .slice Ag gl.length cg]] /\ AA K' /\ ∀ D w, K' D w -> KK D w /\ Ah w (fun z => D z /\ w0.heap.size <= z) xs' (pre.map fun x => (2 ^ x.toNat, 0)))
       (fun _ _ _ _ => False) (fun s F K' h D w hk => by obtain ⟨_, _, _, _, h4⟩ := h; exact (h4 D w hk).1) ?hr (fun _ _ _ _ h => h.elim) ⟨_, _, rfl, KKS, fun D w h => ⟨h, fun i y n hi => by simp at hi⟩⟩
       (fun x => { tmps := (act.tmps.setIfInBounds 60 (.int .i64 x)).setIfInBounds 11 (.int .i64 x), defers := [] }) ?assign ?body ?done (fun _ _ _ _ _ _ _ _ h _ _ => h.elim)
      case hr =>
       rintro s F K' ⟨cv, xs', rfl, _⟩ f hf
       simp only [List.mem_cons, List.not_mem_nil, or_false] at hf
       rcases hf with rfl | rfl | rfl | rfl | rfl | rfl <;> exact .inl rfl
      case assign =>
       intro l x W K hK
       subst hact
       rw [Hf]
       refine wpIn_region_lit ?_
       refine EZ (by intro _ _ h; exact h) _ _ _ (by rfl) _ _ ?_
       refine wpList_plain rfl fun _ hK' => Ci (v := .int .i64 x) rfl (by rfl) (hK' _ _ ?_)
       exact wpList_nil hK
      case body =>
       rintro l pre x hx W F' Xo K' ⟨cv, xs', rfl, hKs, hk'⟩ hS hlt
       subst hact
       obtain ⟨k, rfl⟩ := G1 hx
       have hk4 : k <= 4095 := HVB.out k ((Dp HCN.out.1).1 hx)
       have hml := HML.out
       have HOF := Lib.hid (ofN_one hk4)
       have HKP := Lib.hid hk'
       obtain ⟨Ac, cc, rfl, _, _⟩ := Bk (hS.own 0 rfl)
       have HXL : Hid (xs'.length = pre.length * 2) := Lib.hid (hS.own 0 rfl).1
       clear hx hk'
       simp only [Act.put, List.setIfInBounds_toArray, List.set_cons_zero, List.set_cons_succ]
       refine wpIn_block ?_
       refine CM (by kernel_rfl) (by intro _ _ h; exact h) (by rfl) ?_
       refine Iu 6 [7] [.i (.slice Ac pre.length cc), .n (k : Nat), .s (fun v w => Sl w (fun _ => True) 1 v ([(k : Int)] : List Int).length (AW [(k : Int)])) fun v w w' h hb => h.ext hb, .s (fun v w => ∃ A n c, v = .agg #[.slice A n c] /\ A6 w (fun z => W.heap.size <= z) (.agg #[.slice A n c]) (2 ^ k)) fun v w w' h hb => by obtain ⟨A, n, c, h1, h2⟩ := h; exact ⟨A, n, c, h1, h2.ext hb⟩, .s (fun v w => ∃ A n c, v = .agg #[.slice A n c, .slice none 0 0] /\ A6 w (fun z => W.heap.size <= z) (.agg #[.slice A n c]) (2 ^ k)) fun v w w' h hb => by obtain ⟨A, n, c, h1, h2⟩ := h; exact ⟨A, n, c, h1, h2.ext hb⟩, .s (fun v w => ∃ A n c, Sl w (fun _ => True) 2 v 1 [.slice A n c, .slice none 0 0] /\ A6 w (fun z => W.heap.size <= z) (.agg #[.slice A n c]) (2 ^ k)) fun v w w' h hb => by obtain ⟨A, n, c, h1, h2⟩ := h; exact ⟨A, n, c, h1.ext hb, h2.ext hb⟩, .t, .t] ⟨uC (h := fun w hW hN => (hS.ext hW).shut 4 rfl 0 rfl), uM, ?_, ?_, ?_, ?_, trivial⟩ ?_
       ·refine uT fun b__ w hW hE K hK => ?_
        have e62 := hE 62
        refine Bc rfl Tryz.underlying45 (ps := [(0, .int .i64 (k : Nat))]) (by simp [e62]) (cells := #[.int .i64 (k : Nat)]) (by kernel_rfl) fun w' hX hb => hK _ _ ((Sl.of_box (n := 1) (size := 1) hX rfl (by omega)).imp fun _ _ _ => trivial) hb
       ·refine uT fun b__ w hW hE K hK => ?_
        have e63 := hE 63
        refine Aq rfl (by kernel_rfl) (by simp only [List.map_cons, List.map_nil]) (GC _ [(k : Int)] _ _ e63) fun v w' h hb => ?_
        obtain ⟨A, c, l, rfl, -⟩ := id h.parts
        exact hK _ w' ⟨A, _, c, rfl, by rw [<- HOF.out]; exact h.imp fun z hz _ => Nat.le_trans hW.size hz⟩ hb
       ·refine uT fun b__ w hW hE K hK => ?_
        have e64 := hE 64
        obtain ⟨A, n, c, h1, h2⟩ := e64
        exact Ca rfl (ps := [(0, .agg #[.slice A n c])]) (by simp [h1]) (cells := #[.slice A n c, .slice none 0 0]) (by kernel_rfl) (hK _ _ ⟨A, n, c, rfl, h2⟩ (Below.refl _ _))
       ·refine uT fun b__ w hW hE K hK => ?_
        have e65 := hE 65
        obtain ⟨A, n, c, h1, h2⟩ := e65
        refine Bc rfl Tryz.underlying29 (ps := [(0, .agg #[.slice A n c, .slice none 0 0])]) (by simp [h1]) (cells := #[.slice A n c, .slice none 0 0]) (by kernel_rfl) fun w' hX hb => hK _ _ ⟨A, n, c, (Sl.of_box (n := 1) (size := 2) hX rfl (by omega)).imp fun _ _ _ => trivial, h2.ext hb⟩ hb
       ·intro vs wz hW hT
        obtain ⟨e61, e62, e63, e64, e65, e66, -⟩ := hT
        have bx : (fun _ : Nat => True) 0 := trivial
        simp only [AB, Act.put, zz, ze]
        obtain ⟨A2, n2, c2, hsl, hset⟩ := e66
        have hsW := hS.size
        have hS1 := hS.ret hW (AE (A5 (v := .agg #[.slice A2 n2 c2]) (N := 2 ^ k)) fun z => w0.heap.size <= z) (hset.imp fun z hz _ => ⟨hz, Nat.le_trans hsW hz⟩)
        (intro o_ ho_; simp only [List.getElem?_toArray, List.getElem?_cons_succ, List.getElem?_cons_zero, Option.some.injEq] at ho_; subst ho_)
        refine Dx rfl Eq e61 (hS1.own 0 rfl) rfl hsl (by intro u hu; simp at hu; rcases hu with rfl | rfl <;> rfl) (by omega) (by omega) hS1.size fun v9 w9 ho9 hg9 hat9 => ?_
        replace hS1 := hS1.upd 0 rfl (.own v9 54 2 (pre.length + 1) (xs' ++ [Value.slice A2 n2 c2, Value.slice none 0 0])) hg9 ho9 hat9
        (intro o_ ho_; simp only [List.getElem?_toArray, List.getElem?_cons_succ, List.getElem?_cons_zero, Option.some.injEq] at ho_; subst ho_)
        simp only [Act.put, List.setIfInBounds_toArray, List.set_cons_zero, List.set_cons_succ]
        refine CE (v := v9) rfl rfl rfl (hS1.box 4 rfl) (by simp) (GA ho9) (own_one ho9) (by kernel_rfl) fun w10 h10 hU10 => ?_
        replace hS1 := hS1.upd 4 rfl (.box g3 29 #[v9]) (B5 hU10) ⟨(hS1.holds (.box g3 29 #[.slice Ac pre.length cc]) (by simp)).1, h10⟩ fun _ e => .inl e
        refine ⟨_, _, ⟨v9, xs' ++ [.slice A2 n2 c2, .slice none 0 0], rfl, hS1.stable, fun D w h => ⟨(HKP.out D w h.1.1).1, ?_⟩⟩, by rw [hU10.size]; exact Nat.le_trans hW.size hg9.size, by rw [List.length_append, List.length_singleton]; exact hS1⟩
        rw [List.map_append]
        exact Ah.append (by rw [HXL.out, List.length_map]) (HKP.out D w h.1.1).2 (F6 (by simpa using h.2) A6.empty)
      case done =>
       rintro D W F' K' hD ⟨cv, xs', rfl, hKs, hk'⟩ hS hK
       subst hact
       have hM := hS.mark hsz hD (by
        intro f hf
        simp only [List.mem_cons, List.not_mem_nil, or_false] at hf
        rcases hf with rfl | rfl | rfl | rfl | rfl | rfl <;> exact .inl rfl) hK rfl
       have HKP := Lib.hid hk'
       obtain ⟨Ac, cc, rfl, _, _⟩ := Bk (hS.own 0 rfl)
       clear hk' hS hK
       have hS := hM
       clear hM
       simp only [List.cons_append, List.nil_append] at hS
       go_wp2_with fail
       refine Em 2 [3, 4] [.i (.slice Ac (BH ws).length cc), .i (.slice none 0 0), .t, .t, .t] ⟨uC (h := fun w hW hN => (hS.ext hW).shut 4 rfl 0 rfl), uA, trivial⟩ ?_
       ·intro vs wz hW hT
        obtain ⟨e68, e2, -⟩ := hT
        simp only [AB, Act.put, zz, ze]
        replace hS := hS.ext hW
        (intro o_ ho_; simp only [List.getElem?_toArray, List.getElem?_cons_succ, List.getElem?_cons_zero, Option.some.injEq] at ho_; subst ho_)
        refine CE (v := .slice Ac (BH ws).length cc) rfl rfl e68 (hS.box 4 rfl) (by simp) rfl rfl (by kernel_rfl) fun w10 h10 hU10 => ?_
        replace hS := hS.upd 4 rfl (.box g3 29 #[.slice Ac (BH ws).length cc]) (B5 hU10) ⟨(hS.holds (.box g3 29 #[.slice Ac (BH ws).length cc]) (by simp)).1, h10⟩ fun _ e => .inl e
        simp only [BJ]
        simp only [Act.put, List.setIfInBounds_toArray, List.set_cons_zero, List.set_cons_succ]
        (intro o_ ho_; simp only [List.getElem?_toArray, List.getElem?_cons_succ, List.getElem?_cons_zero, Option.some.injEq] at ho_; subst ho_)
        refine Ci (v := .bool false) rfl rfl ?_
        simp only [BJ]
        simp only [Act.put, List.setIfInBounds_toArray, List.set_cons_zero, List.set_cons_succ]
        (intro o_ ho_; simp only [List.getElem?_toArray, List.getElem?_cons_succ, List.getElem?_cons_zero, Option.some.injEq] at ho_; subst ho_)
        refine Ci (v := .int .i64 0) rfl rfl ?_
        simp only [BJ]
        simp only [Act.put, List.setIfInBounds_toArray, List.set_cons_zero, List.set_cons_succ]
        rw [e2]
        go_wp2_with fail
        refine BP (F := [.own (.slice Ac (BH ws).length cc) 54 2 (BH ws).length xs', .box g9 27 #[x9], .box g7 27 #[x7], .own (.slice Au us.length cu) 3 1 us.length (AW us), .box g3 29 #[.slice Ac (BH ws).length cc], .box g1 31 #[.int .i64 R, .pointer (some ⟨q, 0, none⟩), .slice Cs ns cs, .slice Ar rl.length cr, .slice An nl.length cn, .slice Ag gl.length cg]]) ?_ [D] _ hS
        intro w' h
        refine ⟨_, FR rfl rfl (h.shut 4 rfl 0 rfl) (by kernel_rfl) rfl rfl rfl, ?_⟩
        rw [HZ.out]
        refine AK.mk ⟨_, _, rfl, Sl.none_, xs', ?_, ?_⟩ h.below
        ·have := Sl.of_own (h.own 0 rfl)
         rw [<- HMEM.out]
         simpa using this
        ·have := (HKP.out _ _ h.ro).2
         rw [HMEM.out] at this
         exact this.imp fun z hz _ => hz.2
 ·have HR := Lib.hid (show RES = ([], [], false, e) by rw [<- hR]; unfold srchS; rw [HE.out, if_neg h0])
  clear hR
  refine (callsIn_wide (n := 6)).1 (callsIn_of_wp_marks Tryz.func30 rfl trivial ?_ rfl)
  simp only [Tryz.ntmps30, List.size_toArray, List.length_cons, List.length_nil, Nat.reduceAdd, Nat.reduceSub, Array.replicate_succ, Array.replicate_zero, List.push_toArray, List.append_toArray, List.nil_append, List.cons_append]
  refine wpIn_wide.2 ?_
  go_wp2_with (first
   | ((with_reducible refine qA 1 ?_); refine Az hS rfl _ _ rfl (.agg xs) xs rfl rfl ?_; clear hS; intro g1 w_ hS; (try simp only [Act.put, Act.eval, zz, Value.cells] at hS))
   | ((with_reducible refine qA 3 ?_); refine qa hS #[.slice none 0 0] ?_; clear hS; intro g3 w_ hS)
   | ((with_reducible refine qB ?_); refine qc ?_ ?_ <;> intro h_ <;> go_prune)
   | ((with_reducible refine qk 31 ?_); refine BigFrame.wpList_want rfl fun _ hK => AY rfl rfl (hS.box 1 rfl) Tryz.underlying31 rfl (by rw [hx6.out]; kernel_rfl) (hK _ _ ?_))
   | (go_at_call 31; refine (Cu (HK.out _ _ hS.ro) HP.out (HT.out _ _ hS.ro)).mono ?_; rw [HE.out]; rintro r_ w_ ⟨_, rfl, rfl, hb_⟩; replace hS := hS.ext hb_; clear hb_)
   | ((with_reducible refine qM ?_); (first | refine qS hS ?_ | refine qT hS ?_); clear hS; intro w_ hS; (try simp only [Act.put, Act.eval, zz, Value.cells] at hS)))
  refine BP (F := [.box g3 29 #[.slice none 0 0], .box g1 31 xs]) ?_ [] _ (by simpa [BW] using hS)
  intro w' h
  refine ⟨_, FR rfl rfl (h.shut 0 rfl 0 rfl) (by kernel_rfl) rfl rfl rfl, ?_⟩
  rw [HR.out]
  exact AK.mk ⟨_, _, rfl, Sl.none_, DX⟩ h.below
end
section
open Go.RowKit
attribute [local go_sem ↓] Go.wp_at_zero Go.wp_at_succ
set_option maxRecDepth 20000
set_option exponentiation.threshold 5000
set_option maxHeartbeats 2000000 in
theorem lmade_any {w0 w : World} {F : List Ae} {K : (Nat -> Prop) -> World -> Prop} {v : Value} {l : List Nat} (b : Bool) (hl : ∀ x ∈ l, x < 256) (hS : St w0 w F K) (kp : ∀ D w, K D w -> Sl w D 1 v l.length (Gj l)) (kt : ∀ D w, K D w -> Bt w /\ D 0) :
  Calls Tryz.prog 13 #[v, .bool b] w fun e w' => ∃ x u, e = .returned (.tuple #[x, u, .bool true]) /\ ∃ p, (∃ L R, Cd p L R) /\ (b = true -> Cw p = true) /\ St w0 w' F fun D w => K D w /\ B6 w D x p /\ Cy w D u p := by
 have HL := Lib.hid hl
 have KS := Lib.hid hS.stable
 cases b
 ·go_enter Tryz.func13, Tryz.ntmps13
  go_wp2_with (first
   | ((with_reducible refine qA 4 ?_); refine qa hS #[.int .i64 0, .pointer none, .slice none 0 0, .slice none 0 0, .slice none 0 0, .slice none 0 0] ?_; clear hS; intro g4 w_ hS)
   | ((with_reducible refine qA 5 ?_); refine qa hS #[.int .i64 0, .slice none 0 0, .int .u64 0, .slice none 0 0, .slice none 0 0, .slice none 0 0] ?_; clear hS; intro g5 w_ hS)
   | ((with_reducible refine qA 7 ?_); refine qa hS #[.int .i64 0, .slice none 0 0, .int .u64 0, .slice none 0 0, .slice none 0 0, .slice none 0 0] ?_; clear hS; intro g7 w_ hS)
   | ((with_reducible refine qA 8 ?_); refine qa hS #[.int .i64 0, .pointer none, .slice none 0 0, .slice none 0 0, .slice none 0 0, .slice none 0 0] ?_; clear hS; intro g8 w_ hS)
   | (go_at_call 50; refine (GP HL.out hS kp).mono ?_; clear hS; rintro e w_ ⟨u, p, L, R, rfl, hM, hS⟩; replace hM := Lib.hid hM; obtain ⟨us0, rfl, hv6, hv1⟩ := hS.ro.2.cells; replace hv6 := Lib.hid hv6)
   | (go_at_call 52; refine (G3 hM.out.links hM.out.hok (by have := hM.out.len; omega) hM.out.fits hS (fun D w h => h.2) (fun D w h => kt D w h.1)).mono ?_; clear hS; rintro e w_ ⟨x, rfl, hS⟩; obtain ⟨xs, rfl, hx6, hx1⟩ := hS.ro.2.cells; replace hx6 := Lib.hid hx6)
   | ((with_reducible refine qm 37 ?_); (refine AV hS 0 rfl _ _ _ rfl _ _ rfl rfl _ _ rfl (by rw [hv6.out]; kernel_rfl) (by rw [hv6.out]; rfl) hv1 ?_; clear hS; intro w_ hS; (try simp only [Act.put, Act.eval, zz, Value.cells] at hS)))
   | ((with_reducible refine qm 31 ?_); (refine AV hS 0 rfl _ _ _ rfl _ _ rfl rfl _ _ rfl (by rw [hx6.out]; kernel_rfl) (by rw [hx6.out]; rfl) hx1 ?_; clear hS; intro w_ hS; (try simp only [Act.put, Act.eval, zz, Value.cells] at hS)))
   | ((with_reducible refine qA 16 ?_); refine BigFrame.wpList_want rfl fun _ hK => AY rfl rfl (hS.box 0 rfl) Tryz.underlying37 rfl (by rw [hv6.out]; kernel_rfl) (hK _ _ ?_)))
  obtain ⟨us, hus⟩ : ∃ us, us = us0 := ⟨_, rfl⟩
  subst hus
  have hu6 := hv6
  have hu1 := hv1
  obtain ⟨K7, k7, hJ0⟩ : ∃ K7 : (Nat -> Prop) -> World -> Prop, Hid (∀ D w, K7 D w -> (K D w /\ Cy w D (.agg us) p) /\ B6 w D (.agg xs) p) /\ St w0 w_.drew (.box g8 31 xs :: .box g7 37 us :: .box g5 37 (cond (false, false).2 us #[.int .i64 0, .slice none 0 0, .int .u64 0, .slice none 0 0, .slice none 0 0, .slice none 0 0]) :: .box g4 31 (cond (false, false).1 xs #[.int .i64 0, .pointer none, .slice none 0 0, .slice none 0 0, .slice none 0 0, .slice none 0 0]) :: F) K7 := ⟨_, Lib.hid fun _ _ h => h, hS.drew⟩
  have hRr := @SR.refl w0 (fun s => .box g8 31 xs :: .box g7 37 us :: .box g5 37 (cond s.2 us #[.int .i64 0, .slice none 0 0, .int .u64 0, .slice none 0 0, .slice none 0 0, .slice none 0 0]) :: .box g4 31 (cond s.1 xs #[.int .i64 0, .pointer none, .slice none 0 0, .slice none 0 0, .slice none 0 0, .slice none 0 0]) :: F) K7
  have hRt := @SR.trans w0 (fun s => .box g8 31 xs :: .box g7 37 us :: .box g5 37 (cond s.2 us #[.int .i64 0, .slice none 0 0, .int .u64 0, .slice none 0 0, .slice none 0 0, .slice none 0 0]) :: .box g4 31 (cond s.1 xs #[.int .i64 0, .pointer none, .slice none 0 0, .slice none 0 0, .slice none 0 0, .slice none 0 0]) :: F) K7
  have hN0 : ∀ _ : Nat, True := fun _ => trivial
  clear hS
  refine Fb (SR w0 (fun s => .box g8 31 xs :: .box g7 37 us :: .box g5 37 (cond s.2 us #[.int .i64 0, .slice none 0 0, .int .u64 0, .slice none 0 0, .slice none 0 0, .slice none 0 0]) :: .box g4 31 (cond s.1 xs #[.int .i64 0, .pointer none, .slice none 0 0, .slice none 0 0, .slice none 0 0, .slice none 0 0]) :: F) K7) (fun _ _ => True) ((false, false)) hRr hRt [.i (.agg xs), .i (.agg us), .b true, .s (fun v w => w.2.1 = true) fun v w w' h hb => hb.2.1 h, .s (fun v w => w.2.2 = true) fun v w w' h hb => hb.2.2 h, .b true] ?_ ⟨?_, ?_, uM, ?_, ?_, uA, trivial⟩ ?_
  ·first | assumption | (intro i; (try dsimp only); split <;> first | trivial | assumption | (left; assumption))
  ·refine uG fun b__ w hW hN hE K hK => ?_
   have e8 : b__.eval (.tmp 8) = .pointer (some ⟨g8, 0, none⟩) := hE 8
   exact AY rfl e8 ((hW.1 hJ0).box 0 rfl) Tryz.underlying31 rfl (by rw [hx6.out]; kernel_rfl) (hK _ _ rfl ⟨hRr _, fun _ _ h => h⟩)
  ·refine uG fun b__ w hW hN hE K hK => ?_
   have e7 : b__.eval (.tmp 7) = .pointer (some ⟨g7, 0, none⟩) := hE 7
   exact AY rfl e7 ((hW.1 hJ0).box 1 rfl) Tryz.underlying37 rfl (by rw [hu6.out]; kernel_rfl) (hK _ _ rfl ⟨hRr _, fun _ _ h => h⟩)
  ·refine uG fun b__ w hW hN hE K hK => ?_
   have e4 : b__.eval (.tmp 4) = .pointer (some ⟨g4, 0, none⟩) := hE 4
   have e20 := hE 20
   have hS := hW.1 hJ0
   exact BG rfl e4 e20 (hS.box 3 rfl) (by rw [hx6.out]; kernel_rfl) (by cases w.2.1; exact hx6.out.symm; rfl) hx1 fun w4 h1 hU => hK undef (w4, (true, w.2.2)) rfl ⟨⟨fun _ => hS.upd 3 rfl (.box g4 31 xs) (B5 hU) ⟨(hS.holds _ (List.mem_of_getElem? (i := 3) rfl)).1, h1⟩ fun _ e => .inl e, fun _ => rfl, id⟩, fun _ _ h => h⟩
  ·refine uG fun b__ w hW hN hE K hK => ?_
   have e5 : b__.eval (.tmp 5) = .pointer (some ⟨g5, 0, none⟩) := hE 5
   have e21 := hE 21
   have hS := hW.1 hJ0
   exact BG rfl e5 e21 (hS.box 2 rfl) (by rw [hu6.out]; kernel_rfl) (by cases w.2.2; exact hu6.out.symm; rfl) hu1 fun w4 h1 hU => hK undef (w4, (w.2.1, true)) rfl ⟨⟨fun _ => hS.upd 2 rfl (.box g5 37 us) (B5 hU) ⟨(hS.holds _ (List.mem_of_getElem? (i := 2) rfl)).1, h1⟩ fun _ e => .inl e, id, fun _ => rfl⟩, fun _ _ h => h⟩
  ·intro vs wz hW hT
   obtain ⟨e20, e21, e22, z3, z4, e6, -⟩ := hT
   have bx : (fun _ : Nat => True) 0 := trivial
   simp only [AB, Act.put, zz, ze]
   obtain ⟨_, hst⟩ := z3
   obtain ⟨_, hst2⟩ := z4
   have hS : St w0 wz.1 (.box g8 31 xs :: .box g7 37 us :: .box g5 37 (cond wz.2.2 us #[.int .i64 0, .slice none 0 0, .int .u64 0, .slice none 0 0, .slice none 0 0, .slice none 0 0]) :: .box g4 31 (cond wz.2.1 xs #[.int .i64 0, .pointer none, .slice none 0 0, .slice none 0 0, .slice none 0 0, .slice none 0 0]) :: F) K7 := hW.1 hJ0
   rw [show wz.2.1 = true from hst, show wz.2.2 = true from hst2] at hS
   dsimp only [cond] at hS
   clear hW hJ0 hRr hRt hN0 hst hst2
   generalize wz.1 = wf at *
   simp only [show vs (6 : Nat) = _ from e6]
   go_wp2_with fail
   refine ret_cct Tryz.results13 rfl (hS.box 3 rfl) Tryz.underlying31 rfl (by rw [hx6.out]; kernel_rfl) rfl (hS.box 2 rfl) Tryz.underlying37 rfl (by rw [hu6.out]; kernel_rfl) rfl rfl ?_
   exact ⟨_, _, rfl, p, ⟨L, R, hM.out⟩, (hS.sub (F' := F) ((((List.sublist_cons_self _ _).trans (List.sublist_cons_self _ _)).trans (List.sublist_cons_self _ _)).trans (List.sublist_cons_self _ _))).mono (KS.out.and (BN.and De)) fun D w h => ⟨(k7.out _ _ h).1.1, (k7.out _ _ h).2, (k7.out _ _ h).1.2⟩⟩
 ·go_enter Tryz.func13, Tryz.ntmps13
  go_wp2_with (first
   | ((with_reducible refine qA 4 ?_); refine qa hS #[.int .i64 0, .pointer none, .slice none 0 0, .slice none 0 0, .slice none 0 0, .slice none 0 0] ?_; clear hS; intro g4 w_ hS)
   | ((with_reducible refine qA 5 ?_); refine qa hS #[.int .i64 0, .slice none 0 0, .int .u64 0, .slice none 0 0, .slice none 0 0, .slice none 0 0] ?_; clear hS; intro g5 w_ hS)
   | ((with_reducible refine qA 7 ?_); refine qa hS #[.int .i64 0, .slice none 0 0, .int .u64 0, .slice none 0 0, .slice none 0 0, .slice none 0 0] ?_; clear hS; intro g7 w_ hS)
   | ((with_reducible refine qA 8 ?_); refine qa hS #[.int .i64 0, .pointer none, .slice none 0 0, .slice none 0 0, .slice none 0 0, .slice none 0 0] ?_; clear hS; intro g8 w_ hS)
   | (go_at_call 50; refine (GP HL.out hS kp).mono ?_; clear hS; rintro e w_ ⟨u, p, L, R, rfl, hM, hS⟩; replace hM := Lib.hid hM; obtain ⟨us0, rfl, hv6, hv1⟩ := hS.ro.2.cells; replace hv6 := Lib.hid hv6)
   | (go_at_call 51; refine (rplain_any hM.out hS (fun D w h => h.2)).mono ?_; clear hS; rintro e w_ ⟨u, rfl, hS⟩; obtain ⟨us, rfl, hu6, hu1⟩ := hS.ro.2.cells; replace hu6 := Lib.hid hu6)
   | (go_at_call 52; refine (G3 hM.out.plain.links hM.out.plain.hok (by have := hM.out.plain.len; omega) hM.out.plain.fits hS (fun D w h => h.2) (fun D w h => kt D w h.1.1)).mono ?_; clear hS; rintro e w_ ⟨x, rfl, hS⟩; obtain ⟨xs, rfl, hx6, hx1⟩ := hS.ro.2.cells; replace hx6 := Lib.hid hx6)
   | ((with_reducible refine qm 37 ?_); (first | (refine AV hS 0 rfl _ _ _ rfl _ _ rfl rfl _ _ rfl (by rw [hu6.out]; kernel_rfl) (by rw [hu6.out, hv6.out]) hu1 ?_) | (refine AV hS 0 rfl _ _ _ rfl _ _ rfl rfl _ _ rfl (by rw [hv6.out]; kernel_rfl) (by rw [hv6.out]; rfl) hv1 ?_)); clear hS; intro w_ hS; (try simp only [Act.put, Act.eval, zz, Value.cells] at hS))
   | ((with_reducible refine qm 31 ?_); (refine AV hS 0 rfl _ _ _ rfl _ _ rfl rfl _ _ rfl (by rw [hx6.out]; kernel_rfl) (by rw [hx6.out]; rfl) hx1 ?_; clear hS; intro w_ hS; (try simp only [Act.put, Act.eval, zz, Value.cells] at hS)))
   | ((with_reducible refine qA 13 ?_); refine BigFrame.wpList_want rfl fun _ hK => AY rfl rfl (hS.box 0 rfl) Tryz.underlying37 rfl (by rw [hv6.out]; kernel_rfl) (hK _ _ ?_))
   | ((with_reducible refine qA 16 ?_); refine BigFrame.wpList_want rfl fun _ hK => AY rfl rfl (hS.box 0 rfl) Tryz.underlying37 rfl (by rw [hu6.out]; kernel_rfl) (hK _ _ ?_)))
  obtain ⟨K7, k7, hJ0⟩ : ∃ K7 : (Nat -> Prop) -> World -> Prop, Hid (∀ D w, K7 D w -> (K D w /\ Cy w D (.agg us) (E9 p)) /\ B6 w D (.agg xs) (E9 p)) /\ St w0 w_.drew (.box g8 31 xs :: .box g7 37 us :: .box g5 37 (cond (false, false).2 us #[.int .i64 0, .slice none 0 0, .int .u64 0, .slice none 0 0, .slice none 0 0, .slice none 0 0]) :: .box g4 31 (cond (false, false).1 xs #[.int .i64 0, .pointer none, .slice none 0 0, .slice none 0 0, .slice none 0 0, .slice none 0 0]) :: F) K7 := ⟨_, Lib.hid fun _ _ h => ⟨⟨h.1.1.1, h.1.2⟩, h.2⟩, hS.drew⟩
  have hRr := @SR.refl w0 (fun s => .box g8 31 xs :: .box g7 37 us :: .box g5 37 (cond s.2 us #[.int .i64 0, .slice none 0 0, .int .u64 0, .slice none 0 0, .slice none 0 0, .slice none 0 0]) :: .box g4 31 (cond s.1 xs #[.int .i64 0, .pointer none, .slice none 0 0, .slice none 0 0, .slice none 0 0, .slice none 0 0]) :: F) K7
  have hRt := @SR.trans w0 (fun s => .box g8 31 xs :: .box g7 37 us :: .box g5 37 (cond s.2 us #[.int .i64 0, .slice none 0 0, .int .u64 0, .slice none 0 0, .slice none 0 0, .slice none 0 0]) :: .box g4 31 (cond s.1 xs #[.int .i64 0, .pointer none, .slice none 0 0, .slice none 0 0, .slice none 0 0, .slice none 0 0]) :: F) K7
  have hN0 : ∀ _ : Nat, True := fun _ => trivial
  clear hS
  refine Fb (SR w0 (fun s => .box g8 31 xs :: .box g7 37 us :: .box g5 37 (cond s.2 us #[.int .i64 0, .slice none 0 0, .int .u64 0, .slice none 0 0, .slice none 0 0, .slice none 0 0]) :: .box g4 31 (cond s.1 xs #[.int .i64 0, .pointer none, .slice none 0 0, .slice none 0 0, .slice none 0 0, .slice none 0 0]) :: F) K7) (fun _ _ => True) ((false, false)) hRr hRt [.i (.agg xs), .i (.agg us), .b true, .s (fun v w => w.2.1 = true) fun v w w' h hb => hb.2.1 h, .s (fun v w => w.2.2 = true) fun v w w' h hb => hb.2.2 h, .b true] ?_ ⟨?_, ?_, uM, ?_, ?_, uA, trivial⟩ ?_
  ·first | assumption | (intro i; (try dsimp only); split <;> first | trivial | assumption | (left; assumption))
  ·refine uG fun b__ w hW hN hE K hK => ?_
   have e8 : b__.eval (.tmp 8) = .pointer (some ⟨g8, 0, none⟩) := hE 8
   exact AY rfl e8 ((hW.1 hJ0).box 0 rfl) Tryz.underlying31 rfl (by rw [hx6.out]; kernel_rfl) (hK _ _ rfl ⟨hRr _, fun _ _ h => h⟩)
  ·refine uG fun b__ w hW hN hE K hK => ?_
   have e7 : b__.eval (.tmp 7) = .pointer (some ⟨g7, 0, none⟩) := hE 7
   exact AY rfl e7 ((hW.1 hJ0).box 1 rfl) Tryz.underlying37 rfl (by rw [hu6.out]; kernel_rfl) (hK _ _ rfl ⟨hRr _, fun _ _ h => h⟩)
  ·refine uG fun b__ w hW hN hE K hK => ?_
   have e4 : b__.eval (.tmp 4) = .pointer (some ⟨g4, 0, none⟩) := hE 4
   have e20 := hE 20
   have hS := hW.1 hJ0
   exact BG rfl e4 e20 (hS.box 3 rfl) (by rw [hx6.out]; kernel_rfl) (by cases w.2.1; exact hx6.out.symm; rfl) hx1 fun w4 h1 hU => hK undef (w4, (true, w.2.2)) rfl ⟨⟨fun _ => hS.upd 3 rfl (.box g4 31 xs) (B5 hU) ⟨(hS.holds _ (List.mem_of_getElem? (i := 3) rfl)).1, h1⟩ fun _ e => .inl e, fun _ => rfl, id⟩, fun _ _ h => h⟩
  ·refine uG fun b__ w hW hN hE K hK => ?_
   have e5 : b__.eval (.tmp 5) = .pointer (some ⟨g5, 0, none⟩) := hE 5
   have e21 := hE 21
   have hS := hW.1 hJ0
   exact BG rfl e5 e21 (hS.box 2 rfl) (by rw [hu6.out]; kernel_rfl) (by cases w.2.2; exact hu6.out.symm; rfl) hu1 fun w4 h1 hU => hK undef (w4, (w.2.1, true)) rfl ⟨⟨fun _ => hS.upd 2 rfl (.box g5 37 us) (B5 hU) ⟨(hS.holds _ (List.mem_of_getElem? (i := 2) rfl)).1, h1⟩ fun _ e => .inl e, id, fun _ => rfl⟩, fun _ _ h => h⟩
  ·intro vs wz hW hT
   obtain ⟨e20, e21, e22, z3, z4, e6, -⟩ := hT
   have bx : (fun _ : Nat => True) 0 := trivial
   simp only [AB, Act.put, zz, ze]
   obtain ⟨_, hst⟩ := z3
   obtain ⟨_, hst2⟩ := z4
   have hS : St w0 wz.1 (.box g8 31 xs :: .box g7 37 us :: .box g5 37 (cond wz.2.2 us #[.int .i64 0, .slice none 0 0, .int .u64 0, .slice none 0 0, .slice none 0 0, .slice none 0 0]) :: .box g4 31 (cond wz.2.1 xs #[.int .i64 0, .pointer none, .slice none 0 0, .slice none 0 0, .slice none 0 0, .slice none 0 0]) :: F) K7 := hW.1 hJ0
   rw [show wz.2.1 = true from hst, show wz.2.2 = true from hst2] at hS
   dsimp only [cond] at hS
   clear hW hJ0 hRr hRt hN0 hst hst2
   generalize wz.1 = wf at *
   simp only [show vs (6 : Nat) = _ from e6]
   go_wp2_with fail
   refine ret_cct Tryz.results13 rfl (hS.box 3 rfl) Tryz.underlying31 rfl (by rw [hx6.out]; kernel_rfl) rfl (hS.box 2 rfl) Tryz.underlying37 rfl (by rw [hu6.out]; kernel_rfl) rfl rfl ?_
   exact ⟨_, _, rfl, E9 p, ⟨L, R, hM.out.plain⟩, plain_frag p, (hS.sub (F' := F) ((((List.sublist_cons_self _ _).trans (List.sublist_cons_self _ _)).trans (List.sublist_cons_self _ _)).trans (List.sublist_cons_self _ _))).mono (KS.out.and (BN.and De)) fun D w h => ⟨(k7.out _ _ h).1.1, (k7.out _ _ h).2, (k7.out _ _ h).1.2⟩⟩
end
section
open Go.RowKit
set_option exponentiation.threshold 5000
def InR (N : Nat) : Prop := ∀ i, N.testBit i = true -> 1 <= i /\ i < 64
theorem tc_nil {a b : Nat} : ¬ TC [] a b := fun h => by obtain ⟨y, h, _⟩ := h.first; simp at h
theorem closM_nil {N : Nat} (h : InR N) : closM [] N = N := Be fun i => by
 rw [Hy]
 constructor
 ·rintro ⟨r, h1, h2, h3, h4⟩
  rcases (Gu (by intro x hx; simp at hx) h1).1 h4 with rfl | h5
  ·exact h3
  ·exact absurd h5 tc_nil
 ·intro hi
  exact ⟨i, (h i hi).2, (h i hi).1, hi, (Gu (by intro x hx; simp at hx) (h i hi).2).2 (.inl rfl)⟩
theorem depM_nil {N : Nat} (h : InR N) : depM [] N = N := Be fun i => by
 rw [tb_dep (by intro x hx; simp at hx)]
 constructor
 ·rintro ⟨r, h1, h2, h3, h4⟩
  rcases (tb_sen (by intro x hx; simp at hx)).1 h4 with rfl | h5
  ·exact h3
  ·exact absurd h5 tc_nil
 ·intro hi
  exact ⟨i, (h i hi).1, (h i hi).2, hi, (tb_sen (by intro x hx; simp at hx)).2 (.inl rfl)⟩
theorem Dq {N : Nat} (h : N < 2 ^ 7) (h0 : N.testBit 0 = false) : InR N := fun i hi => by
 have : i < 7 := by
  rcases Nat.lt_or_ge i 7 with h1 | h1
  ·exact h1
  ·rw [Nat.testBit_lt_two_pow (Nat.lt_of_lt_of_le h (Nat.pow_le_pow_right (by decide) h1))] at hi; cases hi
 refine ⟨?_, by omega⟩
 rcases Nat.eq_zero_or_pos i with rfl | h1
 ·rw [h0] at hi; cases hi
 ·exact h1
end
section
open Go.RowKit
set_option exponentiation.threshold 5000
set_option maxRecDepth 20000
def QA : Aj := ⟨4, some [], 2, [⟨false, 2, 0, 2, 0⟩, ⟨false, 8, 0, 4, 0⟩, ⟨false, 6, 0, 3, 0⟩], [], [(16, 0)]⟩
def QB : Aj := ⟨4, some [], 2, [⟨false, 8, 0, 4, 0⟩, ⟨false, 6, 0, 3, 0⟩], [], [(16, 0)]⟩
theorem okQA : QA.Ok := ⟨by decide, by decide, by decide, fun L h => by cases h; exact ⟨Gk.nil, by decide⟩⟩
theorem okQB : QB.Ok := ⟨by decide, by decide, by decide, fun L h => by cases h; exact ⟨Gk.nil, by decide⟩⟩
theorem Hp : checkE QA = 0 := by
 have hg : goodB QA 2 = true := rfl
 show (if (4 : Int) < 1 \/ 63 < (4 : Int) then (1 : Int) else if 64 < QA.rules.length \/ 2000 < QA.never.length \/ 2000 < QA.goal.length then 3
  else if CZ QA [] (CO 4) = false then 4 else if (QA.cubes.any fun z => z.1 &&& z.2 != 0) = true \/ QA.rules.all Hc = false then 6
  else if goodB QA 2 = false then 7 else 0) = 0
 rw [if_neg (by decide), if_neg (by decide), if_neg (by decide), if_neg (by decide), if_neg (by rw [hg]; decide)]
theorem checkQB : checkE QB = 0 := by
 have hg : goodB QB 2 = true := rfl
 show (if (4 : Int) < 1 \/ 63 < (4 : Int) then (1 : Int) else if 64 < QB.rules.length \/ 2000 < QB.never.length \/ 2000 < QB.goal.length then 3
  else if CZ QB [] (CO 4) = false then 4 else if (QB.cubes.any fun z => z.1 &&& z.2 != 0) = true \/ QB.rules.all Hc = false then 6
  else if goodB QB 2 = false then 7 else 0) = 0
 rw [if_neg (by decide), if_neg (by decide), if_neg (by decide), if_neg (by decide), if_neg (by rw [hg]; decide)]
def candN (N : Nat) (r : AL) : Bool := (!r.revoke && !Bo N r.target) && (r.yes &&& N == r.yes)
theorem DV {l : List AL} {N : Nat} (h : InR N) : firstC [] l N = l.findIdx? (candN N) := by
 unfold firstC
 congr 1
 funext r
 unfold candB candN
 rw [closM_nil h]
theorem DT {p : Aj} {N : Nat} (hl : p.links = some []) (h : InR N) : reachB p N = p.goal.any fun z => Cj z N := by
 unfold reachB
 rw [hl]
 dsimp only
 rw [closM_nil h]
theorem satA0 : satS [] QA 0 = (2, []) := rfl
theorem satA1 : satS [] QA 1 = (6, [0]) := by
 rw [BU (k := 0) (by rw [satA0, DV (Dq (by decide) (by decide))]; decide), satA0]; decide
theorem satA2 : satS [] QA 2 = (14, [0, 2]) := by
 rw [BU (k := 2) (by rw [satA1, DV (Dq (by decide) (by decide))]; decide), satA1]; decide
theorem satA3 : satS [] QA 3 = (30, [0, 2, 1]) := by
 rw [BU (k := 1) (by rw [satA2, DV (Dq (by decide) (by decide))]; decide), satA2]; decide
theorem satA : satM [] QA = (30, [0, 2, 1]) := satA3
theorem satB0 : satS [] QB 0 = (2, []) := rfl
theorem satB1 : satS [] QB 1 = (2, []) := by
 rw [C8 (by rw [satB0, DV (Dq (by decide) (by decide))]; decide), satB0]
theorem satB : satM [] QB = (2, []) := by
 show satS [] QB 2 = _
 rw [C8 (by rw [satB1, DV (Dq (by decide) (by decide))]; decide), satB1]
theorem fragQA : Cw QA = true := by decide
theorem srchA : srchS QA = ([0, 2, 1], [], true, 0) := by
 have e : srchS QA = ((srchM [] QA).1, (srchM [] QA).2.1, (srchM [] QA).2.2, 0) := by
  unfold srchS; rw [if_pos Hp]; rfl
 have h : hitN [] QA = some 3 := hit_some (by rw [satA]; decide) (by rw [satA3, DT rfl (Dq (by decide) (by decide))]; decide) fun j hj => by
  rcases (by omega : j = 0 \/ j = 1 \/ j = 2) with rfl | rfl | rfl
  ·rw [satA0, DT rfl (Dq (by decide) (by decide))]; decide
  ·rw [satA1, DT rfl (Dq (by decide) (by decide))]; decide
  ·rw [satA2, DT rfl (Dq (by decide) (by decide))]; decide
 rw [e]
 unfold srchM
 rw [h]
 dsimp only
 rw [satA3]
theorem obtA : obtS QA = 30 := by
 have e : obtS QA = uppM [] QA := by
  unfold obtS fragM upS
  rw [if_pos Hp, if_pos fragQA, if_pos Hp]; rfl
 rw [e, <- sat_upp (EL Hp rfl), satA]
theorem depQ {a b : Nat} (h : a < 2 ^ 7) (h0 : a.testBit 0 = false) (e : a = b) : depM [] a = b := by rw [depM_nil (Dq h h0), e]
theorem relB : relM [] QB = 30 := by
 refine (Iy.eq ⟨fun T hT => ?_, by decide⟩ ⟨fun c hc => ?_, fun r hr h1 h2 => ?_, fun c hc _ => ?_⟩).symm
 ·have a1 : CL 16 T := by
   have := hT.goal (16, 0) (by simp [QB])
   rw [show depC [] (16, 0) = depM [] 16 from rfl, depQ (by decide) (by decide) rfl] at this; exact this
  have a2 : CL 8 T := by
   have := hT.rules ⟨false, 8, 0, 4, 0⟩ (by simp [QB]) rfl (a1.has (by decide))
   rw [show depR [] ⟨false, 8, 0, 4, 0⟩ = depM [] 8 from rfl, depQ (by decide) (by decide) rfl] at this; exact this
  have a3 : CL 6 T := by
   have := hT.rules ⟨false, 6, 0, 3, 0⟩ (by simp [QB]) rfl (a2.has (by decide))
   rw [show depR [] ⟨false, 6, 0, 3, 0⟩ = depM [] 6 from rfl, depQ (by decide) (by decide) rfl] at this; exact this
  have e : (30 : Nat) = 16 ||| (8 ||| 6) := by decide
  rw [e]; exact a1.or (a2.or a3)
 ·obtain rfl : c = (16, 0) := by simpa [QB] using hc
  rw [show depC [] (16, 0) = depM [] 16 from rfl, depQ (by decide) (by decide) rfl]; exact C1.1 (by decide)
 ·simp only [QB, List.mem_cons, List.not_mem_nil, or_false] at hr
  rcases hr with rfl | rfl
  ·rw [show depR [] ⟨false, 8, 0, 4, 0⟩ = depM [] 8 from rfl, depQ (by decide) (by decide) rfl]; exact C1.1 (by decide)
  ·rw [show depR [] ⟨false, 6, 0, 3, 0⟩ = depM [] 6 from rfl, depQ (by decide) (by decide) rfl]; exact C1.1 (by decide)
 ·simp [QB] at hc
theorem srchB : srchS QB = ([], [(4, 0), (8, 0), (16, 0)], false, 0) := by
 have e : srchS QB = ((srchM [] QB).1, (srchM [] QB).2.1, (srchM [] QB).2.2, 0) := by
  unfold srchS; rw [if_pos checkQB]; rfl
 have h : hitN [] QB = none := hit_none fun j hj => by
  rw [satB] at hj
  obtain rfl : j = 0 := by simpa using hj
  rw [satB0, DT rfl (Dq (by decide) (by decide))]; decide
 rw [e]
 unfold srchM
 rw [h]
 dsimp only
 rw [satB, relB]
 decide
end
section
open Go.RowKit
theorem st_litpS {P : Program} {ops : Array Oper} {rest : List Oper} {o : Oper} {a : Act} {Q : Exit -> Act -> World -> Prop} {w0 w : World} {F : List Ae} {K : (Nat -> Prop) -> World -> Prop} (h : St w0 w F K) (hg : Region.wanted o (yielded ops a.tmps) = true) (t e : TypeId) (len : Nat) (parts : Array (Nat × Operand)) (ho : o.op = .buildSlice t len parts) (ht : P.underlying t = some (.slice e)) (ps : List (Nat × Value)) (hp : (parts.map fun (i, x) => (i, a.eval x)).toList = ps) (cells : Array Value)
  (hb : BI P e len ps = some cells) (size : Nat) (hs : cells.size = len * size) (hm : len <= 1000000000000)
  (hk : ∀ g w', St w0 w' (.own (.slice (some ⟨g, 0, none⟩) len len) e size len cells.toList :: F) K -> wpList P ops Q rest (a.put o.dst (.slice (some ⟨g, 0, none⟩) len len)) w') : wpList P ops Q (o :: rest) a w :=
 BigFrame.wpList_want hg fun _ hK => Bc ho ht hp hb fun w' hX hB => hK _ _ (hk _ w' (h.new hB _ ⟨by simpa using hs, .inr ⟨w.heap.size, len, cells, rfl, Nat.le_refl _, hX, Nat.le_refl _, by unfold maxLen; omega, hs, by rw [<- hs, show cells.size = cells.toList.length by simp, List.take_length]⟩⟩))
end
section
open Go.RowKit
attribute [local go_sem ↓] Go.wp_at_zero Go.wp_at_succ
set_option maxRecDepth 20000
set_option exponentiation.threshold 5000
theorem CY {w0 : World} {D : Nat -> Prop} {v : Value} {l : List Int} {N : Nat} (hs : Sl w0 D 1 v l.length (AW l)) (hN : ofN l = N) : Calls Tryz.prog 48 #[v] w0 (AK (fun x w' => AH w' (w0.heap.size <= ·) x (N, 0)) w0) := by
 obtain ⟨K, k1, hS⟩ : ∃ K : (Nat -> Prop) -> World -> Prop, (∀ D w, K D w -> Sl w D 1 v l.length (AW l)) /\ St w0 w0 [] K := ⟨_, fun _ _ h => h, St.start (Ax (by decide)) hs⟩
 clear hs
 go_enter Tryz.func48, Tryz.ntmps48
 go_wp2_with (first
  | ((with_reducible refine qA 2 ?_); refine qa hS #[.slice none 0 0, .slice none 0 0] ?_; clear hS; intro g2 w_ hS)
  | (go_at_call 28; have hsW := hS.size; refine (GC _ l _ _ (k1 _ _ hS.ro)).mono ?_; rw [hN]; rintro r_ w_ ⟨_, rfl, h1, hb_⟩; obtain ⟨A, c, lw, rfl, -⟩ := h1.parts; replace hS := hS.ret hb_ (AE A5 fun z => w0.heap.size <= z) (h1.imp fun z hz _ => ⟨hz, Nat.le_trans hsW hz⟩); clear h1 hb_ hsW)
  | ((with_reducible show wpList _ _ _ (⟨_, .build _ _, _, _, _, _⟩ :: _) _ _); refine AC rfl _ _ rfl #[.slice A lw.length c, .slice none 0 0] (by kernel_rfl) ?_)
  | ((with_reducible refine qM ?_); (first | refine qS hS ?_ | refine qT hS ?_); clear hS; intro w_ hS; (try simp only [Act.put, Act.eval, zz, Value.cells] at hS)))
 refine Ba Tryz.results48 rfl (hS.box 0 rfl) Tryz.underlying54 rfl (by kernel_rfl) rfl ?_
 exact AK.mk ⟨_, _, rfl, hS.ro.2.imp fun z hz _ => hz.2, A6.empty⟩ hS.below
theorem Bj {w : World} {D : Nat -> Prop} {a b : Value} {z : Nat × Nat} (h : AH w D (.agg #[a, b]) z) : A6 w D (.agg #[a]) z.1 /\ A6 w D (.agg #[b]) z.2 := by
 obtain ⟨x, y, he, h1, h2⟩ := h
 have e : a = x /\ b = y := by simpa using he
 obtain ⟨rfl, rfl⟩ := e
 exact ⟨h1, h2⟩
theorem cells3 {w : World} {D : Nat -> Prop} {a1 b1 a2 b2 a3 b3 : Value} (h1 : AH w D (.agg #[a1, b1]) (2, 0)) (h2 : AH w D (.agg #[a2, b2]) (8, 0)) (h3 : AH w D (.agg #[a3, b3]) (6, 0)) :
  AF w D [.bool false, a1, b1, .int .i64 2, .int .i64 0, .bool false, a2, b2, .int .i64 4, .int .i64 0, .bool false, a3, b3, .int .i64 3, .int .i64 0] QA.rules :=
 AF.append (l := [⟨false, 2, 0, 2, 0⟩]) (xs := [.bool false, a1, b1, .int .i64 2, .int .i64 0]) rfl (AF.single (Bj h1).1 (Bj h1).2)
  (AF.append (l := [⟨false, 8, 0, 4, 0⟩]) (xs := [.bool false, a2, b2, .int .i64 4, .int .i64 0]) rfl (AF.single (Bj h2).1 (Bj h2).2) (AF.single (z := ⟨false, 6, 0, 3, 0⟩) (Bj h3).1 (Bj h3).2))
theorem cells2 {w : World} {D : Nat -> Prop} {a2 b2 a3 b3 : Value} (h2 : AH w D (.agg #[a2, b2]) (8, 0)) (h3 : AH w D (.agg #[a3, b3]) (6, 0)) :
  AF w D [.bool false, a2, b2, .int .i64 4, .int .i64 0, .bool false, a3, b3, .int .i64 3, .int .i64 0] QB.rules :=
 AF.append (l := [⟨false, 8, 0, 4, 0⟩]) (xs := [.bool false, a2, b2, .int .i64 4, .int .i64 0]) rfl (AF.single (Bj h2).1 (Bj h2).2) (AF.single (z := ⟨false, 6, 0, 3, 0⟩) (Bj h3).1 (Bj h3).2)
theorem Io {w : World} {D : Nat -> Prop} {v : Value} {z : Nat × Nat} (h : AH w D v z) : AH w (fun _ => True) v z := by
 obtain ⟨a, b, e, h1, h2⟩ := h
 exact ⟨a, b, e, h1.imp fun _ _ _ => trivial, h2.imp fun _ _ _ => trivial⟩
theorem three_cc {w : World} {D : Nat -> Prop} {a1 b1 a2 b2 a3 b3 : Value} {x y z : Nat × Nat} (h1 : AH w D (.agg #[a1, b1]) x) (h2 : AH w D (.agg #[a2, b2]) y) (h3 : AH w D (.agg #[a3, b3]) z) : Ah w D [a1, b1, a2, b2, a3, b3] [x, y, z] :=
 Ah.append (xs := [a1, b1]) (l := [x]) rfl (F6 (Bj h1).1 (Bj h1).2) (Ah.append (xs := [a2, b2]) (l := [y]) rfl (F6 (Bj h2).1 (Bj h2).2) (F6 (Bj h3).1 (Bj h3).2))
theorem sl_tail {w : World} {D : Nat -> Prop} {b : Nat} {x0 x1 x2 x3 x4 : Value} {xs : List Value} (h : Sl w D 5 (.slice (some ⟨b, 0, none⟩) 3 3) 3 (x0 :: x1 :: x2 :: x3 :: x4 :: xs)) : Sl w D 5 (.slice (some ⟨b, 5, none⟩) 2 2) 2 xs := by
 obtain ⟨h1, A', c', e, h2, h3, h4⟩ := h
 injection e with e1 _ e3
 subst e1 e3
 obtain ⟨b', o', e, h5, h6, h7⟩ := h4 (by decide)
 injection e with e
 injection e with e1 e2
 subst e1 e2
 refine ⟨by simp at h1; omega, _, 2, rfl, Nat.le_refl _, by decide, fun _ => ⟨b, 5, rfl, h5, h6, fun j x hj => ?_⟩⟩
 have := h7 (j + 5) x (by simpa using hj)
 rw [show 0 + (j + 5) = 5 + j by omega] at this
 exact this
set_option maxHeartbeats 4000000 in
theorem lawake35_any {w0 w : World} {F : List Ae} {K : (Nat -> Prop) -> World -> Prop} (hS : St w0 w F K) (kt : ∀ D w, K D w -> Bt w /\ D 0) : Calls Tryz.prog 12 #[] w fun e w' => e = .returned (.bool true) /\ St w0 w' F K := by
 have KS := Lib.hid hS.stable
 go_enter Tryz.func12, Tryz.ntmps12
 go_wp2_with (first
  | (go_at_call 49; refine (hnew_any hS kt).mono ?_; clear hS; rintro e w_ ⟨p, rfl, hS⟩; obtain ⟨q, o, rfl, -⟩ := id hS.ro.2)
  | ((with_reducible refine qA 13 ?_); refine DO hS rfl _ 3 1 _ rfl Tryz.underlying45 #[.int .i64 1] (by kernel_rfl) 1 rfl (by decide) ?_; clear hS; intro g13 w_ hS; (try simp only [Act.put, List.setIfInBounds_toArray, List.set_cons_zero, List.set_cons_succ]))
  | (go_at_call 28; refine (GC _ [1] _ _ (Sl.of_own (hS.own 0 rfl))).mono ?_; rw [show ofN [1] = 2 from by decide]; rintro r_ w_ ⟨_, rfl, h1, hb_⟩; replace hS := hS.ret hb_ A5 h1; clear h1 hb_; obtain ⟨A14, c14, l14, rfl, -⟩ := hS.ro.2.parts; obtain ⟨n14, hn14⟩ : ∃ n, n = l14.length := ⟨_, rfl⟩; rw [<- hn14] at hS ⊢; clear hn14)
  | ((with_reducible refine qA 16 ?_); refine DO hS rfl _ 3 1 _ rfl Tryz.underlying45 #[.int .i64 1] (by kernel_rfl) 1 rfl (by decide) ?_; clear hS; intro g16 w_ hS; (try simp only [Act.put, List.setIfInBounds_toArray, List.set_cons_zero, List.set_cons_succ]))
  | ((with_reducible refine qA 17 ?_); refine BigFrame.wpList_want rfl fun _ hK => Bz (f := 48) (first := #[]) (caps := #[]) (vs := [.slice (some ⟨g16, 0, none⟩) 1 1]) rfl rfl (by kernel_rfl) (by simp [Act.eval, Act.put]) (CY (l := [1]) (N := 2) (Sl.of_own (hS.own 0 rfl)) (by decide)) fun e w' ⟨x_, he_, hx_, hb_⟩ => ⟨x_, he_, hK _ _ ?_⟩; clear hK; obtain ⟨ya_, na_, rfl, hy_, hn_⟩ := id hx_; obtain ⟨A17, m17, c17, rfl⟩ := hy_.shape; obtain ⟨B17, k17, d17, rfl⟩ := hn_.shape; replace hS := hS.ret hb_ Bu hx_; clear hx_ hb_ hy_ hn_ he_; (try simp only [Act.put, List.setIfInBounds_toArray, List.set_cons_zero, List.set_cons_succ]))
  | ((with_reducible refine qA 18 ?_); refine AC rfl _ _ rfl #[.bool false, .slice A17 m17 c17, .slice B17 k17 d17, .int .i64 2, .int .i64 0] (by kernel_rfl) ?_; (try simp only [Act.put, List.setIfInBounds_toArray, List.set_cons_zero, List.set_cons_succ]))
  | ((with_reducible refine qA 20 ?_); refine DO hS rfl _ 3 1 _ rfl Tryz.underlying45 #[.int .i64 3] (by kernel_rfl) 1 rfl (by decide) ?_; clear hS; intro g20 w_ hS; (try simp only [Act.put, List.setIfInBounds_toArray, List.set_cons_zero, List.set_cons_succ]))
  | ((with_reducible refine qA 21 ?_); refine BigFrame.wpList_want rfl fun _ hK => Bz (f := 48) (first := #[]) (caps := #[]) (vs := [.slice (some ⟨g20, 0, none⟩) 1 1]) rfl rfl (by kernel_rfl) (by simp [Act.eval, Act.put]) (CY (l := [3]) (N := 8) (Sl.of_own (hS.own 0 rfl)) (by decide)) fun e w' ⟨x_, he_, hx_, hb_⟩ => ⟨x_, he_, hK _ _ ?_⟩; clear hK; obtain ⟨ya_, na_, rfl, hy_, hn_⟩ := id hx_; obtain ⟨A21, m21, c21, rfl⟩ := hy_.shape; obtain ⟨B21, k21, d21, rfl⟩ := hn_.shape; replace hS := hS.ret hb_ Bu hx_; clear hx_ hb_ hy_ hn_ he_; (try simp only [Act.put, List.setIfInBounds_toArray, List.set_cons_zero, List.set_cons_succ]))
  | ((with_reducible refine qA 22 ?_); refine AC rfl _ _ rfl #[.bool false, .slice A21 m21 c21, .slice B21 k21 d21, .int .i64 4, .int .i64 0] (by kernel_rfl) ?_; (try simp only [Act.put, List.setIfInBounds_toArray, List.set_cons_zero, List.set_cons_succ]))
  | ((with_reducible refine qA 24 ?_); refine DO hS rfl _ 3 2 _ rfl Tryz.underlying45 #[.int .i64 1, .int .i64 2] (by kernel_rfl) 1 rfl (by decide) ?_; clear hS; intro g24 w_ hS; (try simp only [Act.put, List.setIfInBounds_toArray, List.set_cons_zero, List.set_cons_succ]))
  | ((with_reducible refine qA 25 ?_); refine BigFrame.wpList_want rfl fun _ hK => Bz (f := 48) (first := #[]) (caps := #[]) (vs := [.slice (some ⟨g24, 0, none⟩) 2 2]) rfl rfl (by kernel_rfl) (by simp [Act.eval, Act.put]) (CY (l := [1, 2]) (N := 6) (Sl.of_own (hS.own 0 rfl)) (by decide)) fun e w' ⟨x_, he_, hx_, hb_⟩ => ⟨x_, he_, hK _ _ ?_⟩; clear hK; obtain ⟨ya_, na_, rfl, hy_, hn_⟩ := id hx_; obtain ⟨A25, m25, c25, rfl⟩ := hy_.shape; obtain ⟨B25, k25, d25, rfl⟩ := hn_.shape; replace hS := hS.ret hb_ Bu hx_; clear hx_ hb_ hy_ hn_ he_; (try simp only [Act.put, List.setIfInBounds_toArray, List.set_cons_zero, List.set_cons_succ]))
  | ((with_reducible refine qA 26 ?_); refine AC rfl _ _ rfl #[.bool false, .slice A25 m25 c25, .slice B25 k25 d25, .int .i64 3, .int .i64 0] (by kernel_rfl) ?_; (try simp only [Act.put, List.setIfInBounds_toArray, List.set_cons_zero, List.set_cons_succ]))
  | ((with_reducible refine qA 27 ?_); refine st_litpS hS rfl _ 58 3 _ rfl Tryz.underlying28 [(0, .agg #[.bool false, .slice A17 m17 c17, .slice B17 k17 d17, .int .i64 2, .int .i64 0]), (1, .agg #[.bool false, .slice A21 m21 c21, .slice B21 k21 d21, .int .i64 4, .int .i64 0]), (2, .agg #[.bool false, .slice A25 m25 c25, .slice B25 k25 d25, .int .i64 3, .int .i64 0])] (by simp [Act.eval]) #[.bool false, .slice A17 m17 c17, .slice B17 k17 d17, .int .i64 2, .int .i64 0, .bool false, .slice A21 m21 c21, .slice B21 k21 d21, .int .i64 4, .int .i64 0, .bool false, .slice A25 m25 c25, .slice B25 k25 d25, .int .i64 3, .int .i64 0] (by kernel_rfl) 5 rfl (by decide) ?_; clear hS; intro g27 w_ hS; (try simp only [Act.put, List.setIfInBounds_toArray, List.set_cons_zero, List.set_cons_succ]))
  | ((with_reducible refine qA 29 ?_); refine DO hS rfl _ 3 1 _ rfl Tryz.underlying45 #[.int .i64 4] (by kernel_rfl) 1 rfl (by decide) ?_; clear hS; intro g29 w_ hS; (try simp only [Act.put, List.setIfInBounds_toArray, List.set_cons_zero, List.set_cons_succ]))
  | ((with_reducible refine qA 30 ?_); refine BigFrame.wpList_want rfl fun _ hK => Bz (f := 48) (first := #[]) (caps := #[]) (vs := [.slice (some ⟨g29, 0, none⟩) 1 1]) rfl rfl (by kernel_rfl) (by simp [Act.eval, Act.put]) (CY (l := [4]) (N := 16) (Sl.of_own (hS.own 0 rfl)) (by decide)) fun e w' ⟨x_, he_, hx_, hb_⟩ => ⟨x_, he_, hK _ _ ?_⟩; clear hK; obtain ⟨ya_, na_, rfl, hy_, hn_⟩ := id hx_; obtain ⟨A30, m30, c30, rfl⟩ := hy_.shape; obtain ⟨B30, k30, d30, rfl⟩ := hn_.shape; replace hS := hS.ret hb_ Bu hx_; clear hx_ hb_ hy_ hn_ he_; (try simp only [Act.put, List.setIfInBounds_toArray, List.set_cons_zero, List.set_cons_succ]))
  | ((with_reducible refine qA 31 ?_); refine st_litpS hS rfl _ 54 1 _ rfl Tryz.underlying29 [(0, .agg #[.slice A30 m30 c30, .slice B30 k30 d30])] (by simp [Act.eval]) #[.slice A30 m30 c30, .slice B30 k30 d30] (by kernel_rfl) 2 rfl (by decide) ?_; clear hS; intro g31 w_ hS; (try simp only [Act.put, List.setIfInBounds_toArray, List.set_cons_zero, List.set_cons_succ]))
  | ((with_reducible refine qA 32 ?_); refine AC rfl _ _ rfl #[.int .i64 4, .pointer (some ⟨q, 0, none⟩), .slice A14 n14 c14, .slice (some ⟨g27, 0, none⟩) 3 3, .slice none 0 0, .slice (some ⟨g31, 0, none⟩) 1 1] (by kernel_rfl) ?_; (try simp only [Act.put, List.setIfInBounds_toArray, List.set_cons_zero, List.set_cons_succ]))
  | ((with_reducible refine qA 2 ?_); refine qa hS #[.int .i64 0, .pointer none, .slice none 0 0, .slice none 0 0, .slice none 0 0, .slice none 0 0] ?_; clear hS; intro g2 w_ hS)
  | ((with_reducible refine qM ?_); (first | refine qS hS ?_ | refine qT hS ?_); clear hS; intro w_ hS; (try simp only [Act.put, Act.eval, zz, Value.cells] at hS))
  | ((with_reducible refine qA 34 ?_)
     replace hS := (hS.freeze 1 (by decide) rfl).freeze 2 (by decide) rfl
     obtain ⟨K1, k0, kpA, kpB, hS2⟩ : ∃ K1 : (Nat -> Prop) -> World -> Prop, Hid (∀ D w, K1 D w -> K D w) /\ Hid (∀ D w, K1 D w -> B6 w D (.agg #[.int .i64 4, .pointer (some ⟨q, 0, none⟩), .slice A14 n14 c14, .slice (some ⟨g27, 0, none⟩) 3 3, .slice none 0 0, .slice (some ⟨g31, 0, none⟩) 1 1]) QA) /\ Hid (∀ D w, K1 D w -> B6 w D (.agg #[.int .i64 4, .pointer (some ⟨q, 0, none⟩), .slice A14 n14 c14, .slice (some ⟨g27, 5, none⟩) 2 2, .slice none 0 0, .slice (some ⟨g31, 0, none⟩) 1 1]) QB) /\ St w0 w_ (.box g2 31 #[.int .i64 4, .pointer (some ⟨q, 0, none⟩), .slice A14 n14 c14, .slice (some ⟨g27, 0, none⟩) 3 3, .slice none 0 0, .slice (some ⟨g31, 0, none⟩) 1 1] :: F) K1 := ⟨_, Lib.hid fun D w h => h.1.1.1.1.1.1.1.1, Lib.hid fun D w h => ⟨_, _, _, _, _, rfl, h.1.1.1.1.1.1.1.2, h.1.1.1.1.1.1.2, ⟨_, h.2, cells3 h.1.1.1.1.1.2 h.1.1.1.1.2 h.1.1.1.2⟩, DX, _, h.1.2, F6 (Bj h.1.1.2).1 (Bj h.1.1.2).2⟩, Lib.hid fun D w h => ⟨_, _, _, _, _, rfl, h.1.1.1.1.1.1.1.2, h.1.1.1.1.1.1.2, ⟨_, sl_tail h.2, cells2 h.1.1.1.1.2 h.1.1.1.2⟩, DX, _, h.1.2, F6 (Bj h.1.1.2).1 (Bj h.1.1.2).2⟩, hS.sub (.cons_cons _ (.cons _ (.cons _ (.cons _ (.cons _ (.cons _ (List.Sublist.refl _)))))))⟩
     clear hS
     have hS := hS2
     clear hS2
     refine BigFrame.wpList_want rfl fun _ hK => AY rfl rfl (hS.box 0 rfl) Tryz.underlying31 rfl (by kernel_rfl) (hK _ _ ?_)))
 have kt1 := Lib.hid fun D w h => (kt _ _ (k0.out D w h)).1
 refine (GM (kpA.out _ _ hS.ro) okQA (kt1.out _ _ hS.ro)).mono ?_
 rw [srchA]
 rintro e w_ ⟨_, rfl, ⟨pa, ca, rfl, h1, h2⟩, hb_⟩
 obtain ⟨Aa, la, rfl, -⟩ := id h1.shape
 obtain ⟨Ab, lb, rfl⟩ := CK h2
 replace hS := hS.ret hb_ (Ax (by decide)) h1
 clear h1 h2 hb_
 go_wp2_with (first
  | ((with_reducible refine qA 40 ?_); refine BigFrame.wpList_want rfl fun _ hK => AY rfl rfl (hS.box 0 rfl) Tryz.underlying31 rfl (by kernel_rfl) (hK _ _ ?_))
  | (go_at_call 23; refine (CQ okQA hS (fun D w h => kpA.out _ _ h.1) (fun D w h => kt1.out _ _ h.1)).mono ?_; rw [obtA]; clear hS; rintro e w_ ⟨y, rfl, hS⟩; obtain ⟨u7, rfl, hu7⟩ := Bx hS.ro.2)
  | ((with_reducible refine qA 7 ?_); refine qa hS #[.slice none 0 0] ?_; clear hS; intro g7 w_ hS)
  | ((with_reducible refine qm 27 ?_); refine AV hS 0 rfl _ _ _ rfl _ _ rfl rfl _ _ rfl (by kernel_rfl) (by kernel_rfl) (by simpa using hu7) ?_; clear hS; intro w_ hS; (try simp only [Act.put, Act.eval, zz, Value.cells] at hS))
  | ((with_reducible refine qA 47 ?_); refine BigFrame.wpList_want rfl fun _ hK => AY rfl rfl (hS.box 1 rfl) Tryz.underlying31 rfl (by kernel_rfl) (hK _ _ ?_))
  | ((with_reducible refine qM ?_); (first | refine qS hS ?_ | refine qT hS ?_); clear hS; intro w_ hS; (try simp only [Act.put, Act.eval, zz, Value.cells] at hS))
  | ((with_reducible refine qK ?_); refine qC hS ?_))
 refine (GM (kpB.out _ _ hS.ro.1.1) okQB (kt1.out _ _ hS.ro.1.1)).mono ?_
 rw [srchB]
 rintro e w_ ⟨_, rfl, ⟨pb, cb, rfl, h1, h2⟩, hb_⟩
 obtain ⟨Ac, lc, rfl, -⟩ := id h1.shape
 obtain ⟨Ad, ld, rfl⟩ := CK h2
 replace hS := hS.ret hb_ AO h2
 clear h1 h2 hb_
 obtain ⟨K2, k1, k2, k3, k4, hS2⟩ : ∃ K2 : (Nat -> Prop) -> World -> Prop, Hid (∀ D w, K2 D w -> K1 D w) /\ Hid (∀ D w, K2 D w -> Sl w D 1 (.slice Aa 3 la) ([0, 2, 1] : List Int).length (AW [0, 2, 1])) /\ Hid (∀ D w, K2 D w -> A6 w D (.agg #[u7]) 30) /\ Hid (∀ D w, K2 D w -> Ai w D (.slice Ad 3 ld) [(4, 0), (8, 0), (16, 0)]) /\ St w0 w_ _ K2 := ⟨_, Lib.hid fun D w h => h.1.1.1, Lib.hid fun D w h => h.1.1.2, Lib.hid fun D w h => h.1.2, Lib.hid fun D w h => h.2, hS⟩
 clear hS
 have hS := hS2
 clear hS2
 go_wp2_with fail
 refine Db [.n 0, .b true, .b true, .b true, .b true, .b true, .i (.slice Aa 3 la), .s (fun v w => Sl w (fun _ => True) 1 v ([0, 2, 1] : List Int).length (AW [0, 2, 1])) fun v w w' h hb => h.ext hb, .b true, .b true, .b true, .i (.agg #[u7]), .s (fun v w => Sl w (fun _ => True) 1 v ([1, 2, 3, 4] : List Int).length (AW [1, 2, 3, 4])) fun v w w' h hb => h.ext hb, .s (fun v w => A6 w (fun _ => True) v 30) fun v w w' h hb => h.ext hb, .b true, .b true, .b true, .n 0, .b true, .b true, .b true, .b false, .b true, .b true, .b true, .i (.slice Ad 3 ld), .i (.func (.func 48) #[] #[]), .s (fun v w => Sl w (fun _ => True) 1 v ([2] : List Int).length (AW [2])) fun v w w' h hb => h.ext hb, .s (fun v w => ∃ A n c B k d, v = .agg #[.slice A n c, .slice B k d] /\ AH w (fun _ => True) (.agg #[.slice A n c, .slice B k d]) (4, 0)) fun v w w' h hb => by obtain ⟨A, n, c, B, k, d, h1, h2⟩ := h; exact ⟨A, n, c, B, k, d, h1, h2.ext hb⟩, .i (.func (.func 48) #[] #[]), .s (fun v w => Sl w (fun _ => True) 1 v ([3] : List Int).length (AW [3])) fun v w w' h hb => h.ext hb, .s (fun v w => ∃ A n c B k d, v = .agg #[.slice A n c, .slice B k d] /\ AH w (fun _ => True) (.agg #[.slice A n c, .slice B k d]) (8, 0)) fun v w w' h hb => by obtain ⟨A, n, c, B, k, d, h1, h2⟩ := h; exact ⟨A, n, c, B, k, d, h1, h2.ext hb⟩, .i (.func (.func 48) #[] #[]), .s (fun v w => Sl w (fun _ => True) 1 v ([4] : List Int).length (AW [4])) fun v w w' h hb => h.ext hb, .s (fun v w => ∃ A n c B k d, v = .agg #[.slice A n c, .slice B k d] /\ AH w (fun _ => True) (.agg #[.slice A n c, .slice B k d]) (16, 0)) fun v w w' h hb => by obtain ⟨A, n, c, B, k, d, h1, h2⟩ := h; exact ⟨A, n, c, B, k, d, h1, h2.ext hb⟩, .s (fun v w => Ai w (fun _ => True) v [(4, 0), (8, 0), (16, 0)]) fun v w w' h hb => h.ext hb, .b true, .b true, .b true] ⟨uM, uB (h := fun w hW hN => run_eqB rfl), uM, uM, uP, uM, uM, ?_, ?_, uP, uM, uR (h := fun w hW hN => (hS.ext hW).box 0 rfl), ?_, ?_, ?_, uP, uM, uM, uB (h := fun w hW hN => run_eqB rfl), uP, uM, uM, uU, uP, uM, uM, uM, ?_, ?_, uM, ?_, ?_, uM, ?_, ?_, ?_, ?_, uP, uA, trivial⟩ ?_
 ·refine uT fun b__ w hW hE K hK => ?_
  refine Bc rfl Tryz.underlying45 (ps := [(0, .int .i64 0), (1, .int .i64 2), (2, .int .i64 1)]) (by simp [Act.eval]) (cells := #[.int .i64 0, .int .i64 2, .int .i64 1]) (by kernel_rfl) fun w' hX hb => hK _ _ ((Sl.of_box (n := 3) (size := 1) hX rfl (by omega)).imp fun _ _ _ => trivial) hb
 ·refine uT fun b__ w hW hE K hK => ?_
  have e59 := hE 59
  have e60 := hE 60
  exact Aq rfl (by kernel_rfl) (by simp only [List.map_cons, List.map_nil, e59]) (sleq_any _ _ [0, 2, 1] [0, 2, 1] _ _ _ (k2.out _ _ (hS.ext hW).ro) e60) fun v w' h hb => hK v w' h hb
 ·refine uT fun b__ w hW hE K hK => ?_
  refine Bc rfl Tryz.underlying45 (ps := [(0, .int .i64 1), (1, .int .i64 2), (2, .int .i64 3), (3, .int .i64 4)]) (by simp [Act.eval]) (cells := #[.int .i64 1, .int .i64 2, .int .i64 3, .int .i64 4]) (by kernel_rfl) fun w' hX hb => hK _ _ ((Sl.of_box (n := 4) (size := 1) hX rfl (by omega)).imp fun _ _ _ => trivial) hb
 ·refine uT fun b__ w hW hE K hK => ?_
  have e65 := hE 65
  exact Aq rfl (by kernel_rfl) (by simp only [List.map_cons, List.map_nil]) (GC _ [1, 2, 3, 4] _ _ e65) fun v w' h hb => hK v w' (by rw [show ofN [1, 2, 3, 4] = 30 from by decide] at h; exact h.imp fun _ _ _ => trivial) hb
 ·refine uT fun b__ w hW hE K hK => ?_
  have e64 := hE 64
  have e66 := hE 66
  exact Aq rfl (by kernel_rfl) (by simp only [List.map_cons, List.map_nil, e64]) (Dh _ _ 30 30 _ _ _ (k3.out _ _ (hS.ext hW).ro) e66) fun v w' h hb => hK v w' h hb
 ·refine uT fun b__ w hW hE K hK => ?_
  refine Bc rfl Tryz.underlying45 (ps := [(0, .int .i64 2)]) (by simp [Act.eval]) (cells := #[.int .i64 2]) (by kernel_rfl) fun w' hX hb => hK _ _ ((Sl.of_box (n := 1) (size := 1) hX rfl (by omega)).imp fun _ _ _ => trivial) hb
 ·refine uT fun b__ w hW hE K hK => ?_
  have e79 := hE 79
  have e80 := hE 80
  refine Bz (f := 48) (first := #[]) (caps := #[]) (vs := [b__.eval (.tmp 80)]) rfl e79 (by kernel_rfl) (by simp) (CY (l := [2]) (N := 4) e80 (by decide)) fun e w' ⟨x_, he_, hx_, hb_⟩ => ⟨x_, he_, ?_⟩
  obtain ⟨ya_, na_, rfl, hy_, hn_⟩ := id hx_
  obtain ⟨A, m, c, rfl⟩ := hy_.shape
  obtain ⟨B, k, d, rfl⟩ := hn_.shape
  exact hK _ _ ⟨_, _, _, _, _, _, rfl, Io hx_⟩ hb_
 ·refine uT fun b__ w hW hE K hK => ?_
  refine Bc rfl Tryz.underlying45 (ps := [(0, .int .i64 3)]) (by simp [Act.eval]) (cells := #[.int .i64 3]) (by kernel_rfl) fun w' hX hb => hK _ _ ((Sl.of_box (n := 1) (size := 1) hX rfl (by omega)).imp fun _ _ _ => trivial) hb
 ·refine uT fun b__ w hW hE K hK => ?_
  have e82 := hE 82
  have e83 := hE 83
  refine Bz (f := 48) (first := #[]) (caps := #[]) (vs := [b__.eval (.tmp 83)]) rfl e82 (by kernel_rfl) (by simp) (CY (l := [3]) (N := 8) e83 (by decide)) fun e w' ⟨x_, he_, hx_, hb_⟩ => ⟨x_, he_, ?_⟩
  obtain ⟨ya_, na_, rfl, hy_, hn_⟩ := id hx_
  obtain ⟨A, m, c, rfl⟩ := hy_.shape
  obtain ⟨B, k, d, rfl⟩ := hn_.shape
  exact hK _ _ ⟨_, _, _, _, _, _, rfl, Io hx_⟩ hb_
 ·refine uT fun b__ w hW hE K hK => ?_
  refine Bc rfl Tryz.underlying45 (ps := [(0, .int .i64 4)]) (by simp [Act.eval]) (cells := #[.int .i64 4]) (by kernel_rfl) fun w' hX hb => hK _ _ ((Sl.of_box (n := 1) (size := 1) hX rfl (by omega)).imp fun _ _ _ => trivial) hb
 ·refine uT fun b__ w hW hE K hK => ?_
  have e85 := hE 85
  have e86 := hE 86
  refine Bz (f := 48) (first := #[]) (caps := #[]) (vs := [b__.eval (.tmp 86)]) rfl e85 (by kernel_rfl) (by simp) (CY (l := [4]) (N := 16) e86 (by decide)) fun e w' ⟨x_, he_, hx_, hb_⟩ => ⟨x_, he_, ?_⟩
  obtain ⟨ya_, na_, rfl, hy_, hn_⟩ := id hx_
  obtain ⟨A, m, c, rfl⟩ := hy_.shape
  obtain ⟨B, k, d, rfl⟩ := hn_.shape
  exact hK _ _ ⟨_, _, _, _, _, _, rfl, Io hx_⟩ hb_
 ·refine uT fun b__ w hW hE K hK => ?_
  have e81 := hE 81
  have e84 := hE 84
  have e87 := hE 87
  obtain ⟨A1, n1, c1, B1, k1, d1, f1, f2⟩ := e81
  obtain ⟨A2, n2, c2, B2, k2, d2, f3, f4⟩ := e84
  obtain ⟨A3, n3, c3, B3, k3, d3, f5, f6⟩ := e87
  refine Bc rfl Tryz.underlying29 (ps := [(0, .agg #[.slice A1 n1 c1, .slice B1 k1 d1]), (1, .agg #[.slice A2 n2 c2, .slice B2 k2 d2]), (2, .agg #[.slice A3 n3 c3, .slice B3 k3 d3])]) (by simp [f1, f3, f5]) (cells := #[.slice A1 n1 c1, .slice B1 k1 d1, .slice A2 n2 c2, .slice B2 k2 d2, .slice A3 n3 c3, .slice B3 k3 d3]) (by kernel_rfl) fun w' hX hb => hK _ _ ⟨_, (Sl.of_box (n := 3) (size := 2) hX rfl (by omega)).imp fun _ _ _ => trivial, three_cc (f2.ext hb) (f4.ext hb) (f6.ext hb)⟩ hb
 ·refine uT fun b__ w hW hE K hK => ?_
  have e78 := hE 78
  have e88 := hE 88
  exact Aq rfl (by kernel_rfl) (by simp only [List.map_cons, List.map_nil, e78]; rfl) (eqcubes_any _ _ [(4, 0), (8, 0), (16, 0)] [(4, 0), (8, 0), (16, 0)] _ _ _ (k4.out _ _ (hS.ext hW).ro) e88) fun v w' h hb => hK v w' h hb
 ·intro vs wz hW hT
  obtain ⟨e53, e54, e55, e56, e57, e58, e59, e60, e61, e62, e63, e64, e65, e66, e67, e68, e69, e70, e71, e72, e73, e74, e75, e76, e77, e78, e79, e80, e81, e82, e83, e84, e85, e86, e87, e88, e89, e90, e0, -⟩ := hT
  have bx : (fun _ : Nat => True) 0 := trivial
  simp only [AB, Act.put, zz, ze]
  rw [e0]
  replace hS := hS.ext hW
  clear hW
  go_wp2_with fail
  go_ret
  exact ⟨rfl, (hS.sub (List.sublist_append_right [_, _] F)).mono KS.out fun D w h => k0.out _ _ (k1.out _ _ h)⟩
end
section
open Go.RowKit
set_option exponentiation.threshold 5000
theorem frag_eq {p : Aj} {L : List (Nat × Nat)} {R : Nat} (h : Cd p L R) : fragM p = Cw p := by
 unfold fragM; rw [if_pos h.check]
theorem upS_eq {p : Aj} {L : List (Nat × Nat)} {R : Nat} (h : Cd p L R) : upS p = uppM L p := by
 unfold upS; rw [if_pos h.check, h.links]
end
section
open Go.RowKit
set_option exponentiation.threshold 5000
theorem Hd {w0 : World} {D : Nat -> Prop} {v : Value} {p : Aj} (hp : B6 w0 D v p) (hP : p.Ok) (hT : Bt w0) : Calls Tryz.prog 23 #[v] w0 (AK (fun x w' => A6 w' (fun _ => True) x (obtS p)) w0) := by
 have hS : St w0 w0 [] (fun D w => B6 w D v p /\ Bt w /\ D 0) := St.start (D := fun _ => True) (BN.and BD) ⟨BN D _ w0 w0 hp (Nat.le_refl _) (fun _ _ _ _ h => h) fun _ _ _ _ => trivial, hT, trivial⟩
 refine (CQ hP hS (fun _ _ h => h.1) (fun _ _ h => h.2.1)).mono ?_
 rintro e w' ⟨x, rfl, h⟩
 exact AK.mk (h.ro.2.imp fun _ _ _ => trivial) h.below
end
section
open Go.RowKit
attribute [local go_sem ↓] Go.wp_at_zero Go.wp_at_succ
set_option maxRecDepth 20000
set_option exponentiation.threshold 5000
theorem I8 {w : World} {n : Nat} (h : n < 256) : (convert 5 3 (.int .u8 (n : Nat))).run Tryz.prog w = .ok (.int .i64 (n : Nat)) w := by
 go_simp
 exact Fy (by omega)
end
section
open Go.RowKit
attribute [local go_sem ↓] Go.wp_at_zero Go.wp_at_succ
set_option maxRecDepth 20000
set_option exponentiation.threshold 5000
theorem start_bytes2 {W : World} {D E : Nat -> Prop} {u v : Value} {l m : List Nat} (h : Bt W) (hu : Sl W D 1 u l.length (Gj l)) (hv : Sl W E 1 v m.length (Gj m)) : ∃ K : (Nat -> Prop) -> World -> Prop, (∀ D w, K D w -> Bt w /\ D 0) /\ (∀ D w, K D w -> Sl w D 1 u l.length (Gj l)) /\ (∀ D w, K D w -> Sl w D 1 v m.length (Gj m)) /\ St W W [] K :=
 ⟨fun D w => (Bt w /\ D 0) /\ Sl w D 1 u l.length (Gj l) /\ Sl w D 1 v m.length (Gj m), fun _ _ h => h.1, fun _ _ h => h.2.1, fun _ _ h => h.2.2, St.start (D := fun _ => True) (BD.and ((Ax (by decide)).and (Ax (by decide)))) ⟨⟨h, trivial⟩, hu.imp fun _ _ _ => trivial, hv.imp fun _ _ _ => trivial⟩⟩
end
section
open Go.RowKit
attribute [local go_sem ↓] Go.wp_at_zero Go.wp_at_succ
set_option maxRecDepth 20000
set_option exponentiation.threshold 5000
theorem st_gstoreS {P : Program} {ops : Array Oper} {rest : List Oper} {o : Oper} {a : Act} {w0 w : World} {F : List Ae} {K : (Nat -> Prop) -> World -> Prop} {Q : Exit -> Act -> World -> Prop} (h : St w0 w F K) (i : Nat) (hg : o.guard = none) (ty : TypeId) (x y : Operand) (ho : o.op = .store ty x y) (g j : Nat) (u : Value) (hx : a.eval x = .pointer (some ⟨g, j, none⟩)) (hy : a.eval y = .agg #[u]) {t : TypeId} {cs : Array Value} (hb : F[i]? = some (.box g t cs)) (hi : j < cs.size)
  (h1 : u.oneCell' = true) (hs : (P.info? ty).map (·.size) = some 1) (hk : ∀ w', St w0 w' (F.set i (.box g t (cs.setIfInBounds j u))) K -> wpList P ops Q rest (a.put o.dst undef) w') : wpList P ops Q (o :: rest) a w := by
 have hB := h.box i hb
 refine wpList_store_mid hg ty x y ho g j #[u] hx hy (fun k hk => ?_) hs (by simpa using h1) ?_
 ·obtain rfl : k = 0 := by simpa using hk
  exact ⟨by rw [hB.cell]; simp [hi], hB.free _⟩
 ·refine hk _ (h.upd i hb (.box g t (cs.setIfInBounds j u)) (B5 (Bm w g j u)) ⟨(h.holds _ (List.mem_of_getElem? hb)).1, hB.setC u⟩ fun _ e => .inl e)
end
section
open Go.RowKit
set_option exponentiation.threshold 5000
def Ee (R k : Nat) : AL := ⟨false, 2 ^ (1 + k / 16 % R), 0, ((1 + k % R : Nat) : Int), 0⟩
def CJ (p : Aj) (s : Nat) (nw : List AL) : Aj := ⟨p.roles, p.links, s, p.rules ++ nw, p.never, p.goal⟩
section
variable {L : List (Nat × Nat)} {p : Aj} {R s : Nat} {nw : List AL}
theorem bit_mask : ∀ R, R < 6 -> ∀ z, z < 6 -> 1 <= z -> z <= R -> 2 ^ z &&& Bi R = 2 ^ z /\ 2 ^ z < 256 := by decide
theorem newR_ok {k : Nat} (h2 : 2 <= R) (h5 : R <= 5) : ROk R (Bi R) (Ee R k) := by
 have h1 : k / 16 % R < R := Nat.mod_lt _ (by omega)
 have h3 : k % R < R := Nat.mod_lt _ (by omega)
 obtain ⟨a, b⟩ := bit_mask R (by omega) (1 + k / 16 % R) (by omega) (by omega) (by omega)
 exact ⟨⟨by show (1 : Int) <= ((1 + k % R : Nat) : Int); omega, by show ((1 + k % R : Nat) : Int) <= (R : Int); omega⟩, ⟨by show (0 : Int) <= 0; omega, by show (0 : Int) < 7; omega⟩, a, Nat.zero_and _, Nat.and_zero _, b, by show (0 : Nat) < 256; decide, fun h => by cases h⟩
theorem grow_start {x : Nat} (h : Cd p L R) : (p.start ||| (x &&& Bi R)) &&& Bi R = p.start ||| (x &&& Bi R) := by
 refine Be fun i => ?_
 have h2 : (p.start &&& Bi R).testBit i = p.start.testBit i := by rw [h.start]
 rw [Nat.testBit_and] at h2
 rw [Nat.testBit_and, Nat.testBit_or, Nat.testBit_and]
 generalize p.start.testBit i = a at *
 generalize x.testBit i = b at *
 generalize (Bi R).testBit i = m at *
 cases a <;> cases b <;> cases m <;> first | rfl | (simp at h2)
theorem Fq (hM : Cd p L R) (hn : ∀ z ∈ nw, ROk R (Bi R) z) : ∀ z ∈ p.rules ++ nw, ROk R (Bi R) z := fun z hz => by
 rcases List.mem_append.1 hz with h | h
 ·exact hM.rules z h
 ·exact hn z h
theorem grow_frag (h : Cw p = true) (hn : ∀ z ∈ nw, z.no = 0) : Cw (CJ p s nw) = true := by
 obtain ⟨h1, h2, h3⟩ := Fr h
 unfold Cw CJ
 simp only [Bool.and_eq_true, List.isEmpty_iff, List.all_eq_true, beq_iff_eq, Bool.not_eq_true', List.any_eq_false]
 refine ⟨h1, fun r hr => ?_, fun z hz => by rw [h3 z hz]; decide⟩
 rcases List.mem_append.1 hr with h | h
 ·exact h2 r h
 ·exact hn r h
theorem grow_check (h : Cd p L R) (hf : Cw p = true) (hs : s &&& Bi R = s) (hn : ∀ z ∈ nw, ROk R (Bi R) z) (hl : nw.length <= 3) : checkE (CJ p s nw) = 0 := by
 have hR := h.r5
 have hm := EB R (by omega)
 have hru := Fq h hn
 have hnv := (Fr hf).1
 have hc : ∀ z ∈ (CJ p s nw).cubes, z.1 &&& Bi R = z.1 /\ z.2 &&& Bi R = z.2 /\ z.1 &&& z.2 = 0 := fun z hz => by
  unfold Aj.cubes CJ at hz
  rcases List.mem_append.1 hz with hz | hz
  ·rcases List.mem_append.1 hz with hz | hz
   ·obtain ⟨r, hr, rfl⟩ := List.mem_map.1 hz
    have := hru r hr
    exact ⟨this.2.2.1, this.2.2.2.1, this.2.2.2.2.1⟩
   ·have := (h.never z hz).1; exact ⟨this.1, this.2.1, this.2.2.1⟩
  ·have := h.goal z hz; exact ⟨this.1, this.2.1, this.2.2.1⟩
 have hln : (p.rules ++ nw).length <= 9 := by rw [List.length_append]; have := h.rlen; omega
 unfold checkE CJ
 rw [h.links]
 dsimp only
 rw [h.roles, Int.toNat_natCast, hm, if_neg (by have := h.r2; omega), if_neg (by have := h.nlen; have := h.glen; omega), if_neg, if_neg, if_neg]
 ·unfold goodB
  dsimp only
  rw [hnv]
  simp
 ·rintro (e | e)
  ·obtain ⟨z, hz, e⟩ := List.any_eq_true.1 e
   rw [(hc z (by unfold CJ; rw [h.roles, h.links]; exact hz)).2.2] at e; cases e
  ·have : (p.rules ++ nw).all Hc = true := List.all_eq_true.2 fun r hr => by
    unfold Hc
    cases hr' : r.revoke with
    | false => rfl
    | true =>
     have := (hru r hr).2.2.2.2.2.2.2 hr'
     simp [this]
   rw [this] at e; cases e
 ·have : CZ ⟨(R : Int), some L, s, p.rules ++ nw, p.never, p.goal⟩ L (Bi R) = true := by
   unfold CZ
   rw [Bool.and_eq_true, Bool.and_eq_true, Bool.and_eq_true]
   refine ⟨by rw [hs]; simp, List.all_eq_true.2 fun z hz => ?_, List.all_eq_true.2 fun r hr => ?_, List.all_eq_true.2 fun z hz => ?_⟩
   ·have := h.inr z hz
    rw [Bool.and_eq_true]
    exact ⟨CV hR (by omega) (by omega), CV hR (by omega) (by omega)⟩
   ·have := (hru r hr).1
    exact CV hR (by omega) (by omega)
   ·have := hc z (by unfold CJ; rw [h.roles, h.links]; exact hz)
    exact over_of this.1 this.2.1
  rw [this]; decide
theorem grow_ok (h : Cd p L R) (hl : nw.length <= 3) : (CJ p s nw).Ok := by
 have h1 := h.ok
 have h2 := h.rlen
 exact ⟨by show (p.rules ++ nw).length <= 100000; rw [List.length_append]; omega, h1.never, h1.goal, h1.links⟩
theorem GF (h : Cd p L R) (hn : ∀ z ∈ nw, ROk R (Bi R) z) : Cq (CJ p s nw).rules := fun r hr => by
 have h5 := h.r5
 obtain ⟨h1, h2⟩ := (Fq h hn r hr).1
 exact ⟨r.target.toNat, by omega, by omega⟩
theorem grow_upp (h : Cd p L R) (hs : s &&& Bi R = s) (hn : ∀ z ∈ nw, ROk R (Bi R) z) : uppM L (CJ p s nw) &&& Bi R = uppM L (CJ p s nw) := by
 have hU := CU (L := L) (p := CJ p s nw) (GF h hn)
 refine beq_iff_eq.1 (C1.2 (hU.2 _ ⟨C1.1 (by show (s &&& Bi R == s) = true; rw [hs]; simp), fun r hr _ _ => ?_⟩))
 have := (Fq h hn r hr).1
 exact CV h.r5 this.1 this.2
theorem grow_obt (h : Cd p L R) (hf : Cw p = true) (hs : s &&& Bi R = s) (hn : ∀ z ∈ nw, ROk R (Bi R) z) (hno : ∀ z ∈ nw, z.no = 0) (hl : nw.length <= 3) : obtS (CJ p s nw) = uppM L (CJ p s nw) := by
 have hc := grow_check h hf hs hn hl
 have hg : Cw (CJ p s nw) = true := grow_frag hf hno
 unfold obtS fragM
 rw [if_pos hc, hg, if_pos rfl]
 unfold upS
 rw [if_pos hc]
 show (match p.links with | none => 0 | some L => uppM L (CJ p s nw)) = _
 rw [h.links]
theorem news_ok {l : List Nat} (h2 : 2 <= R) (h5 : R <= 5) : (∀ z ∈ l.map (Ee R), ROk R (Bi R) z) /\ ∀ z ∈ l.map (Ee R), z.no = 0 := by
 constructor
 ·intro z hz
  obtain ⟨k, _, rfl⟩ := List.mem_map.1 hz
  exact newR_ok h2 h5
 ·intro z hz
  obtain ⟨k, _, rfl⟩ := List.mem_map.1 hz
  rfl
end
end
section
open Go.RowKit
attribute [local go_sem ↓] Go.wp_at_zero Go.wp_at_succ
set_option maxRecDepth 20000
set_option exponentiation.threshold 5000
theorem opw_gstoreS {P : Program} {o : Oper} {a : Act} {w : World} {K : Act -> World -> Prop} {Q : Exit -> Act -> World -> Prop} {ty : TypeId} {x y : Operand} {g j : Nat} {u : Value} {t : TypeId} {cs : Array Value} (ho : o.op = .store ty x y) (hx : a.eval x = .pointer (some ⟨g, j, none⟩)) (hy : a.eval y = .agg #[u]) (hb : C4 w g t cs) (hi : j < cs.size)
  (h1 : u.oneCell' = true) (hs : (P.info? ty).map (·.size) = some 1) (hk : ∀ w', C4 w' g t (cs.setIfInBounds j u) -> H7 g w w' -> K (a.put o.dst undef) w') : o.wp P a w K Q := by
 refine wp_store_mid ty x y ho g j #[u] hx hy (fun k hk => ?_) hs (by simpa using h1) (hk _ (hb.setC u) (Bm w g j u))
 obtain rfl : k = 0 := by simpa using hk
 exact ⟨by rw [hb.cell]; simp [hi], hb.free _⟩
theorem sl_take3 {w : World} {D : Nat -> Prop} {A : Option Addr} {m c : Nat} {l : List Nat} (h : Sl w D 1 (.slice A m c) m (Gj l)) (hm : m = l.length) : Sl w D 1 (.slice A (min m 3) c) (min m 3) (Gj (l.take 3)) := by
 have := h.take (k := min m 3) (Nat.min_le_left ..)
 rwa [show (Gj l).take (min m 3) = Gj (l.take 3) by
  unfold Gj
  rw [<- List.map_take]
  congr 1
  rw [hm, List.take_eq_take_iff]
  omega] at this
theorem run_shr8 {n : Nat} {w : World} : (binOp .shr 5 (.int .u8 (n : Nat)) (.int .u64 4)).run Tryz.prog w = .ok (.int .u8 ((n / 16 : Nat) : Int)) w := by
 go_simp
set_option maxHeartbeats 8000000 in
theorem lgrows_any (v bv : Value) (l lb : List Nat) (x : Nat) (hx : x < 256) (W : World) (D E : Nat -> Prop) (hl : ∀ x ∈ l, x < 256) (hlb : ∀ x ∈ lb, x < 256) (hv : Sl W D 1 v l.length (Gj l)) (hbv : Sl W E 1 bv lb.length (Gj lb)) (hT : Bt W) : Calls Tryz.prog 7 #[v, .int .u8 (x : Nat), bv] W (AK (fun x _ => x = .bool true) W) := by
 obtain ⟨K, kt, k1, k2, hS⟩ := start_bytes2 hT hv hbv
 obtain ⟨Ab, cb, rfl, hcb, _⟩ := hbv.shape
 clear hv hbv hT
 have HL := Lib.hid hl
 have HLB := Lib.hid hlb
 clear hl hlb
 go_enter Tryz.func7, Tryz.ntmps7
 go_wp2_with (first
  | (go_at_call 12; refine (lawake35_any hS kt).mono ?_; clear hS; rintro e w_ ⟨rfl, hS⟩)
  | (go_at_call 13; refine (lmade_any true HL.out hS k1 kt).mono ?_; clear hS; rintro e w_ ⟨x, u, rfl, p, ⟨L, R0, hM⟩, hpl, hS⟩; replace hpl := Lib.hid (hpl rfl); obtain ⟨us, rfl, hu6, hu1⟩ := hS.ro.2.2.cells; replace hu6 := Lib.hid hu6; obtain ⟨R, lk, st, rl, nl, gl⟩ := p; have HM := Lib.hid hM; obtain ⟨lp, s, rv, nv, gv, rfl, hh, hs, hr, hn, hg⟩ := hS.ro.2.1; obtain ⟨hP1, hP2, hP3, -⟩ := hM.ok; dsimp only at hP1 hP2 hP3 hh hs hr hn hg; obtain rfl : lk = some L := hM.links; obtain rfl : R = (R0 : Int) := hM.roles; obtain ⟨q, rfl⟩ : ∃ q, lp = .pointer (some ⟨q, 0, none⟩) := (by obtain ⟨q, o, e, -⟩ := hh; exact ⟨q, e⟩); obtain ⟨Cs, ns, cs, rfl⟩ := hs.shape; obtain ⟨Ar, cr, rfl, _, _⟩ := hr.shape; obtain ⟨An, cn, rfl, _, _⟩ := hn.shape; obtain ⟨Ag, cg, rfl, _, _⟩ := hg.shape; obtain ⟨xr, hr1, hr2⟩ := hr; obtain ⟨xg, hg1, hg2⟩ := hg; have OR : Hid (∀ u ∈ xr, u.oneCell' = true) := Lib.hid (hr2.one hr1.1); have OG : Hid (∀ u ∈ xg, u.oneCell' = true) := Lib.hid (Ah.one hg1.1 hg2); obtain ⟨K1, kt1, kb, kpx, kh, ks, kr, kn, kg, kr2, kg2, hS2⟩ : ∃ K1 : (Nat -> Prop) -> World -> Prop, Hid (∀ D w, K1 D w -> Bt w) /\ Hid (∀ D w, K1 D w -> Sl w D 1 (.slice Ab lb.length cb) lb.length (Gj lb)) /\ Hid (∀ D w, K1 D w -> B6 w D (.agg #[.int .i64 (R0 : Nat), .pointer (some ⟨q, 0, none⟩), .slice Cs ns cs, .slice Ar rl.length cr, .slice An nl.length cn, .slice Ag gl.length cg]) ⟨(R0 : Nat), some L, st, rl, nl, gl⟩) /\ Hid (∀ D w, K1 D w -> Fw w D (.pointer (some ⟨q, 0, none⟩)) (some L)) /\ Hid (∀ D w, K1 D w -> A6 w D (.agg #[.slice Cs ns cs]) st) /\ Hid (∀ D w, K1 D w -> Sl w D 5 (.slice Ar rl.length cr) rl.length xr) /\ Hid (∀ D w, K1 D w -> Ai w D (.slice An nl.length cn) nl) /\ Hid (∀ D w, K1 D w -> Sl w D 2 (.slice Ag gl.length cg) gl.length xg) /\ Hid (∀ D w, K1 D w -> AF w D xr rl) /\ Hid (∀ D w, K1 D w -> Ah w D xg gl) /\ St W w_ [] K1 := ⟨_, Lib.hid fun D w h => (kt D w h.1.1).1, Lib.hid fun D w h => k2 D w h.1.1, Lib.hid fun D w h => h.1.2.1, Lib.hid fun _ _ h => h.2.1.1, Lib.hid fun _ _ h => h.2.1.2, Lib.hid fun _ _ h => h.2.2.1.1, Lib.hid fun _ _ h => h.2.2.2.1, Lib.hid fun _ _ h => h.2.2.2.2.1, Lib.hid fun _ _ h => h.2.2.1.2, Lib.hid fun _ _ h => h.2.2.2.2.2, hS.add (D := CT []) ((BF.and A5).and (((Ax (by decide)).and C7).and (AO.and ((Ax (by decide)).and DL)))) ⟨⟨hh, hs⟩, ⟨hr1, hr2⟩, hn, hg1, hg2⟩ fun _ h _ => h⟩; clear hS hh hs hr1 hr2 hn hg1 hg2; have hS := hS2; clear hS2; have HPL := Lib.hid HM.out.ok.links; have hR5 := HM.out.r5; have hR2 := HM.out.r2; have hl6 : rl.length <= 6 := HM.out.rlen; have hl3 : nl.length <= 3 := HM.out.nlen; have hg3 : gl.length <= 3 := HM.out.glen; clear hM)
  | ((with_reducible refine qA 7 ?_); refine qa hS #[.int .i64 0, .pointer none, .slice none 0 0, .slice none 0 0, .slice none 0 0, .slice none 0 0] ?_; clear hS; intro g7 w_ hS)
  | ((with_reducible refine qA 8 ?_); refine qa hS #[.int .i64 0, .slice none 0 0, .int .u64 0, .slice none 0 0, .slice none 0 0, .slice none 0 0] ?_; clear hS; intro g8 w_ hS)
  | ((with_reducible refine qA 10 ?_); refine qa hS #[.slice none 0 0] ?_; clear hS; intro g10 w_ hS)
  | ((with_reducible refine qA 11 ?_); refine qa hS #[.int .i64 0, .pointer none, .slice none 0 0, .slice none 0 0, .slice none 0 0, .slice none 0 0] ?_; clear hS; intro g11 w_ hS)
  | ((with_reducible refine qB ?_); refine qc ?_ ?_ <;> intro h_ <;> go_prune)
  | ((with_reducible refine qm 37 ?_); refine AV hS 0 rfl _ _ _ rfl _ _ rfl rfl _ _ rfl (by rw [hu6.out]; kernel_rfl) (by rw [hu6.out]; rfl) hu1 ?_; clear hS; intro w_ hS; (try simp only [Act.put, Act.eval, zz, Value.cells] at hS))
  | ((with_reducible refine qk 31 ?_); refine BigFrame.wpList_want rfl fun _ hK => ?_; first | refine AY rfl rfl (hS.box 1 rfl) Tryz.underlying31 rfl (by kernel_rfl) (hK _ _ ?_) | refine AY rfl rfl (hS.box 2 rfl) Tryz.underlying31 rfl (by kernel_rfl) (hK _ _ ?_))
  | (go_at_call 23; refine (CQ HM.out.ok hS (fun D w h => kpx.out _ _ h) (fun D w h => kt1.out _ _ h)).mono ?_; clear hS; rintro e w_ ⟨xa, rfl, hS⟩; obtain ⟨A10, c10, l10, rfl, -⟩ := hS.ro.2.parts; obtain ⟨n10, hn10⟩ : ∃ n, n = l10.length := ⟨_, rfl⟩; rw [<- hn10] at hS ⊢; clear hn10)
  | ((with_reducible refine qM ?_); (first | refine qS hS ?_ | refine qT hS ?_); clear hS; intro w_ hS; (try simp only [Act.put, Act.eval, zz, Value.cells] at hS))
  | ((with_reducible refine qK ?_); refine qC hS ?_))
 have hx64 : x < Bv := by unfold Bv; omega
 refine Em 12 [13] [.q g7 2, .i (.agg #[.slice Cs ns cs]), .i (.int .u8 (x : Nat)), .i (.int .u64 (x : Nat)), .s (fun v w => ∃ u, v = .agg #[u] /\ u.oneCell' = true /\ A6 w (fun z => w_.heap.size <= z) (.agg #[u]) (x)) fun v w w' h hb => by obtain ⟨u, h1, h2, h3⟩ := h; exact ⟨u, h1, h2, h3.ext hb⟩, .q g7 0, .n (R0 : Nat), .n ((R0 + 1 : Nat) : Int), .s (fun v w => ∃ u, v = .agg #[u] /\ u.oneCell' = true /\ A6 w (fun z => w_.heap.size <= z) (.agg #[u]) (2 ^ (R0 + 1) - 1)) fun v w w' h hb => by obtain ⟨u, h1, h2, h3⟩ := h; exact ⟨u, h1, h2, h3.ext hb⟩, .s (fun v w => ∃ u, v = .agg #[u] /\ u.oneCell' = true /\ A6 w (fun z => w_.heap.size <= z) (.agg #[u]) (del (2 ^ (R0 + 1) - 1) 0)) fun v w w' h hb => by obtain ⟨u, h1, h2, h3⟩ := h; exact ⟨u, h1, h2, h3.ext hb⟩, .s (fun v w => ∃ u, v = .agg #[u] /\ u.oneCell' = true /\ A6 w (fun z => w_.heap.size <= z) (.agg #[u]) (x &&& del (2 ^ (R0 + 1) - 1) 0)) fun v w w' h hb => by obtain ⟨u, h1, h2, h3⟩ := h; exact ⟨u, h1, h2, h3.ext hb⟩, .s (fun v w => ∃ u, v = .agg #[u] /\ u.oneCell' = true /\ A6 w (fun z => w_.heap.size <= z) (.agg #[u]) (st ||| (x &&& del (2 ^ (R0 + 1) - 1) 0))) fun v w w' h hb => by obtain ⟨u, h1, h2, h3⟩ := h; exact ⟨u, h1, h2, h3.ext hb⟩, .t, .t] ⟨uF, ?_, uM, uE (h := fun w hW hN => by go_simp; exact wrap_u64_nat hx64), ?_, uF, uC (h := fun w hW hN => (hS.ext hW).shut 3 rfl 0 rfl), uB (h := fun w hW hN => EU (by omega) (by omega)), ?_, ?_, ?_, ?_, trivial⟩ ?_
 ·refine uT fun b__ w hW hE K hK => ?_
  have e33 := hE 33
  exact DU rfl e33 ((hS.ext hW).box 3 rfl) rfl Tryz.underlying27 rfl (by kernel_rfl) (hK _ _ rfl (Below.refl _ _))
 ·refine uT fun b__ w hW hE K hK => ?_
  have e36 := hE 36
  refine Aq rfl (by kernel_rfl) (by simp only [List.map_cons, List.map_nil, e36]) (G2 x hx64 w) fun v w' h hb => ?_
  obtain ⟨u, rfl, h1⟩ := Bx h
  exact hK _ w' ⟨u, rfl, h1, h.imp (fun z hz _ => Nat.le_trans hW.size hz)⟩ hb
 ·refine uT fun b__ w hW hE K hK => ?_
  have e40 := hE 40
  refine Aq rfl (by kernel_rfl) (by simp only [List.map_cons, List.map_nil, e40]) (below_any (R0 + 1) w (by omega)) fun v w' h hb => ?_
  obtain ⟨u, rfl, h1⟩ := Bx h
  exact hK _ w' ⟨u, rfl, h1, h.imp (fun z hz _ => Nat.le_trans hW.size hz)⟩ hb
 ·refine uT fun b__ w hW hE K hK => ?_
  have e41 := hE 41
  obtain ⟨ua, hua, _, ha⟩ := e41
  refine Aq rfl (by kernel_rfl) (by simp only [List.map_cons, List.map_nil, hua]; rfl) (GH _ _ 0 w _ ha) fun v w' h hb => ?_
  obtain ⟨u, rfl, h1⟩ := Bx h
  exact hK _ w' ⟨u, rfl, h1, h.imp (fun z hz _ => hz.elim id fun hz => Nat.le_trans hW.size hz)⟩ hb
 ·refine uT fun b__ w hW hE K hK => ?_
  have e37 := hE 37
  have e42 := hE 42
  obtain ⟨ua, hua, _, ha⟩ := e37
  obtain ⟨uc, huc, _, hc⟩ := e42
  refine Aq rfl (by kernel_rfl) (by simp only [List.map_cons, List.map_nil, hua, huc]) (and_any ha hc) fun v w' h hb => ?_
  obtain ⟨u, rfl, h1⟩ := Bx h
  exact hK _ w' ⟨u, rfl, h1, h.imp (fun z hz _ => Nat.le_trans hW.size hz)⟩ hb
 ·refine uT fun b__ w hW hE K hK => ?_
  have e34 := hE 34
  have e43 := hE 43
  obtain ⟨ua, hua, _, ha⟩ := e43
  refine Aq rfl (by kernel_rfl) (by simp only [List.map_cons, List.map_nil, e34, hua]) (Ec _ _ st (x &&& del (2 ^ (R0 + 1) - 1) 0) w _ _ (ks.out _ _ (hS.ext hW).ro.1) ha) fun v w' h hb => ?_
  obtain ⟨u, rfl, h1⟩ := Bx h
  exact hK _ w' ⟨u, rfl, h1, h.imp (fun z hz _ => Nat.le_trans hW.size hz)⟩ hb
 ·intro vs wz hW hT
  obtain ⟨e33, e34, e35, e36, e37, e38, e39, e40, e41, e42, e43, e44, -⟩ := hT
  have bx : (fun _ : Nat => True) 0 := trivial
  simp only [AB, Act.put, zz, ze]
  obtain ⟨u44, e44, hu44, hset⟩ := e44
  have hS1 := hS.ret hW (A5 (v := .agg #[u44]) (N := st ||| (x &&& del (2 ^ (R0 + 1) - 1) 0))) hset
  (intro o_ ho_; simp only [List.getElem?_toArray, List.getElem?_cons_succ, List.getElem?_cons_zero, Option.some.injEq] at ho_; subst ho_)
  refine CI rfl rfl (v := .pointer (some ⟨g11, 2, none⟩)) (by kernel_rfl) ?_
  (intro o_ ho_; simp only [List.getElem?_toArray, List.getElem?_cons_succ, List.getElem?_cons_zero, Option.some.injEq] at ho_; subst ho_)
  simp only [Act.put, List.setIfInBounds_toArray, List.set_cons_zero, List.set_cons_succ]
  refine opw_gstoreS rfl rfl e44 (hS1.box 0 rfl) (by simp) hu44 (by kernel_rfl) fun w10 h10 hU10 => ?_
  replace hS1 := hS1.upd 0 rfl (.box g11 31 #[.int .i64 (R0 : Nat), .pointer (some ⟨q, 0, none⟩), u44, .slice Ar rl.length cr, .slice An nl.length cn, .slice Ag gl.length cg]) (B5 hU10) ⟨(hS1.holds (.box g11 31 #[.int .i64 (R0 : Nat), .pointer (some ⟨q, 0, none⟩), .slice Cs ns cs, .slice Ar rl.length cr, .slice An nl.length cn, .slice Ag gl.length cg]) (by simp)).1, h10⟩ fun _ e => .inl e
  simp only [BJ]
  simp only [Act.put, List.setIfInBounds_toArray, List.set_cons_zero, List.set_cons_succ]
  obtain ⟨C44, c44, l44, hv44, -⟩ := hset.parts
  obtain rfl : u44 = .slice C44 l44.length c44 := by injection hv44 with hvu; simpa using hvu
  clear hv44 hset hu44 hS hW h10 hU10 e33 e34 e35 e36 e37 e38 e39 e40 e41 e42 e43 e44
  generalize l44.length = n44 at *
  obtain ⟨A, hA⟩ : ∃ A, A = uppM L ⟨(R0 : Nat), some L, st, rl, nl, gl⟩ := ⟨_, rfl⟩
  have HOA : Hid (obtS ⟨(R0 : Nat), some L, st, rl, nl, gl⟩ = A) := Lib.hid (by unfold obtS; rw [frag_eq HM.out, hpl.out, if_pos rfl, upS_eq HM.out, hA])
  obtain ⟨s0, hs0⟩ : ∃ s0, s0 = st ||| (x &&& del (2 ^ (R0 + 1) - 1) 0) := ⟨_, rfl⟩
  rw [<- hs0, HOA.out] at hS1
  obtain ⟨KB, kbK, kA, kU, hS⟩ : ∃ KB : (Nat -> Prop) -> World -> Prop, Hid (∀ D w, KB D w -> K1 D w) /\ Hid (∀ D w, KB D w -> A6 w D (.agg #[.slice A10 n10 c10]) A) /\ Hid (∀ D w, KB D w -> A6 w D (.agg #[.slice C44 n44 c44]) s0) /\ St W w10 (.box g11 31 #[.int .i64 (R0 : Nat), .pointer (some ⟨q, 0, none⟩), .slice C44 n44 c44, .slice Ar rl.length cr, .slice An nl.length cn, .slice Ag gl.length cg] :: .box g10 27 #[.slice A10 n10 c10] :: .box g8 37 us :: .box g7 31 #[.int .i64 (R0 : Nat), .pointer (some ⟨q, 0, none⟩), .slice Cs ns cs, .slice Ar rl.length cr, .slice An nl.length cn, .slice Ag gl.length cg] :: []) KB := ⟨_, Lib.hid fun D w h => h.1.1, Lib.hid fun D w h => h.1.2, Lib.hid fun D w h => h.2, hS1⟩
  have KBS := Lib.hid hS.stable
  have HA := Lib.hid hA
  have HS0 := Lib.hid hs0
  clear hS1 hA hs0
  generalize vs 33 = s33, vs 34 = s34, vs 35 = s35, vs 36 = s36, vs 37 = s37, vs 38 = s38, vs 39 = s39, vs 40 = s40, vs 41 = s41, vs 42 = s42, vs 43 = s43
  have HV := Lib.hid fun D w (h : KB D w) => sl_take3 (kb.out D w (kbK.out D w h)) rfl
  obtain ⟨l2, hl2⟩ : ∃ l2, lb.take 3 = l2 := ⟨_, rfl⟩
  rw [hl2] at HV
  have HL2 := Lib.hid fun x (hx : x ∈ l2) => HLB.out x (List.mem_of_mem_take (by rw [hl2]; exact hx))
  have hlen2 : min lb.length 3 = l2.length := by rw [<- hl2, List.length_take]; omega
  have h12 : l2.length <= 3 := by omega
  rw [hlen2] at HV
  clear hl2
  go_wp2_with (first
   | (go_at_call 29; refine (rclone_any (kr.out _ _ (kbK.out _ _ hS.ro)) OR.out (by omega)).mono ?_; rintro e w_ ⟨cv, rfl, hs⟩; replace hS := hS.new hs.below (.own cv 58 5 rl.length xr) (hs.own 0 rfl); clear hs; obtain ⟨A48, c48, rfl, _, _⟩ := Bk (hS.own 0 rfl))
   | ((with_reducible refine qm 28 ?_); refine st_cstore hS 1 rfl _ _ _ rfl _ _ _ rfl rfl rfl (by simp) rfl rfl (by kernel_rfl) ?_; clear hS; intro w_ hS; (try simp only [Act.put, Act.eval, zz, Value.cells] at hS))
   | ((with_reducible refine qA 53 ?_); refine BigFrame.wpList_want rfl fun _ hK => opw_min (m := 3) rfl rfl rfl (hK _ _ ?_))
   | ((with_reducible refine qA 54 ?_); refine BigFrame.wpList_want rfl fun _ hK => Hl (k := min lb.length 3) rfl Tryz.underlying22 ⟨1, by kernel_rfl⟩ rfl rfl (by omega) (hK _ _ ?_))
   | ((with_reducible refine qK ?_); refine qC hS ?_))
  go_loopw [56] (fun iv wr => ∃ (j : Nat) (A' : Option Addr) (c' : Nat) (xs' : List Value), iv = .int .i64 (j : Nat) /\ j <= l2.length /\ St W wr [.own (.slice A' (rl.length + j) c') 58 5 (rl.length + j) xs', .box g11 31 #[.int .i64 (R0 : Nat), .pointer (some ⟨q, 0, none⟩), .slice C44 n44 c44, .slice A' (rl.length + j) c', .slice An nl.length cn, .slice Ag gl.length cg], .box g10 27 #[.slice A10 n10 c10], .box g8 37 us, .box g7 31 #[.int .i64 (R0 : Nat), .pointer (some ⟨q, 0, none⟩), .slice Cs ns cs, .slice Ar rl.length cr, .slice An nl.length cn, .slice Ag gl.length cg]] (fun D w => KB D w /\ AF w D xs' (rl ++ (l2.take j).map (Ee R0)))) (fun i _ => l2.length - (intOf i).toNat)
  case atStart => exact ⟨0, _, _, _, rfl, by omega, hS.add (D := fun D => CT _ D) C7 (by simpa using kr2.out _ _ (kbK.out _ _ hS.ro)) fun _ h _ => h⟩
  case round =>
   clear hS
   obtain ⟨j, A', c', xs', rfl, hj, hS⟩ := hrel
   by_cases hjl : j < l2.length
   ·obtain ⟨bp, op, rfl⟩ := sl_pos (HV.out _ _ hS.ro.1) (by omega)
    have HY := Lib.hid (u8s_at l2 j hjl)
    have HBB : Hid (l2.getD j 0 < 256) := Lib.hid (HL2.out _ (by rw [List.getD_eq_getElem?_getD, List.getElem?_eq_getElem hjl]; exact List.getElem_mem hjl))
    have HTK : Hid ((l2.take (j + 1)).map (Ee R0) = (l2.take j).map (Ee R0) ++ [Ee R0 (l2.getD j 0)]) := Lib.hid (by rw [List.take_add_one, List.map_append, List.getD_eq_getElem?_getD, List.getElem?_eq_getElem hjl]; rfl)
    generalize l2.getD j 0 = b at *
    have hb256 : b < 256 := HBB.out
    have hm1 : b / 16 % R0 < R0 := Nat.mod_lt _ (by omega)
    have hm2 : b % R0 < R0 := Nat.mod_lt _ (by omega)
    have HXL : Hid (xs'.length = (rl.length + j) * 5) := Lib.hid (hS.own 0 rfl).1
    have HOF := Lib.hid (ofN_one (k := 1 + b / 16 % R0) (by omega))
    go_wp2_with (first
     | ((with_reducible refine qB ?_); refine qc ?_ ?_ <;> intro h_ <;> go_prune)
     | ((with_reducible refine qk 5 ?_); refine BigFrame.wpList_want rfl fun _ hK => Ak rfl rfl (by kernel_rfl) (E7 (HV.out _ _ hS.ro.1) HY.out) (hK _ _ ?_))
     | ((with_reducible refine qK ?_); refine qC hS ?_))
    refine Em 20 [21, 22] [.q g11 3, .i (.slice A' (rl.length + j) c'), .i (.int .u8 (b : Nat)), .i (.int .u8 ((b / 16 : Nat) : Int)), .n ((b / 16 : Nat) : Int), .q g7 0, .n (R0 : Nat), .n ((b / 16 % R0 : Nat) : Int), .n ((1 + b / 16 % R0 : Nat) : Int), .s (fun v w => Sl w (fun _ => True) 1 v ([((1 + b / 16 % R0 : Nat) : Int)] : List Int).length (AW [((1 + b / 16 % R0 : Nat) : Int)])) fun v w w' h hb => h.ext hb, .s (fun v w => ∃ A n c, v = .agg #[.slice A n c] /\ A6 w (fun z => wr.heap.size <= z) (.agg #[.slice A n c]) (2 ^ (1 + b / 16 % R0))) fun v w w' h hb => by obtain ⟨A, n, c, h1, h2⟩ := h; exact ⟨A, n, c, h1, h2.ext hb⟩, .s (fun v w => ∃ A n c, v = .agg #[.slice A n c, .slice none 0 0] /\ A6 w (fun z => wr.heap.size <= z) (.agg #[.slice A n c]) (2 ^ (1 + b / 16 % R0))) fun v w w' h hb => by obtain ⟨A, n, c, h1, h2⟩ := h; exact ⟨A, n, c, h1, h2.ext hb⟩, .i (.int .u8 (b : Nat)), .n (b : Nat), .q g7 0, .n (R0 : Nat), .n ((b % R0 : Nat) : Int), .n ((1 + b % R0 : Nat) : Int), .s (fun v w => ∃ A n c, v = .agg #[.bool false, .slice A n c, .slice none 0 0, .int .i64 ((1 + b % R0 : Nat) : Int), .int .i64 0] /\ A6 w (fun z => wr.heap.size <= z) (.agg #[.slice A n c]) (2 ^ (1 + b / 16 % R0))) fun v w w' h hb => by obtain ⟨A, n, c, h1, h2⟩ := h; exact ⟨A, n, c, h1, h2.ext hb⟩, .s (fun v w => ∃ A n c, Sl w (fun _ => True) 5 v 1 [.bool false, .slice A n c, .slice none 0 0, .int .i64 ((1 + b % R0 : Nat) : Int), .int .i64 0] /\ A6 w (fun z => wr.heap.size <= z) (.agg #[.slice A n c]) (2 ^ (1 + b / 16 % R0))) fun v w w' h hb => by obtain ⟨A, n, c, h1, h2⟩ := h; exact ⟨A, n, c, h1.ext hb, h2.ext hb⟩, .t, .t, .t] ⟨uF, uC (h := fun w hW hN => (hS.ext hW).shut 1 rfl 3 rfl), uM, uB (h := fun w hW hN => run_shr8), uE (h := fun w hW hN => I8 (by omega)), uF, uC (h := fun w hW hN => (hS.ext hW).shut 4 rfl 0 rfl), uB (h := fun w hW hN => by rw [DR (by omega) (by omega)]; rfl), uB (h := fun w hW hN => by rw [EU (by omega) (by omega)]; rfl), ?_, ?_, ?_, uM, uE (h := fun w hW hN => I8 hb256), uF, uC (h := fun w hW hN => (hS.ext hW).shut 4 rfl 0 rfl), uB (h := fun w hW hN => by rw [DR (by omega) (by omega)]; rfl), uB (h := fun w hW hN => by rw [EU (by omega) (by omega)]; rfl), ?_, ?_, trivial⟩ ?_
    ·refine uT fun b__ w hW hE K hK => ?_
     have e68 := hE 68
     refine Bc rfl Tryz.underlying45 (ps := [(0, .int .i64 ((1 + b / 16 % R0 : Nat) : Int))]) (by simp [e68]) (cells := #[.int .i64 ((1 + b / 16 % R0 : Nat) : Int)]) (by kernel_rfl) fun w' hX hb => hK _ _ ((Sl.of_box (n := 1) (size := 1) hX rfl (by omega)).imp fun _ _ _ => trivial) hb
    ·refine uT fun b__ w hW hE K hK => ?_
     have e69 := hE 69
     refine Aq rfl (by kernel_rfl) (by simp only [List.map_cons, List.map_nil]) (GC _ [((1 + b / 16 % R0 : Nat) : Int)] _ _ e69) fun v w' h hb => ?_
     obtain ⟨A, c, l, rfl, -⟩ := id h.parts
     exact hK _ w' ⟨A, _, c, rfl, by rw [<- HOF.out]; exact h.imp fun z hz _ => Nat.le_trans hW.size hz⟩ hb
    ·refine uT fun b__ w hW hE K hK => ?_
     have e70 := hE 70
     obtain ⟨A, n, c, h1, h2⟩ := e70
     exact Ca rfl (ps := [(0, .agg #[.slice A n c])]) (by simp [h1]) (cells := #[.slice A n c, .slice none 0 0]) (by kernel_rfl) (hK _ _ ⟨A, n, c, rfl, h2⟩ (Below.refl _ _))
    ·refine uT fun b__ w hW hE K hK => ?_
     have e71 := hE 71
     have e77 := hE 77
     obtain ⟨A, n, c, h1, h2⟩ := e71
     exact Ca rfl (ps := [(1, .agg #[.slice A n c, .slice none 0 0]), (2, .int .i64 ((1 + b % R0 : Nat) : Int))]) (by simp [h1, e77]) (cells := #[.bool false, .slice A n c, .slice none 0 0, .int .i64 ((1 + b % R0 : Nat) : Int), .int .i64 0]) (by kernel_rfl) (hK _ _ ⟨A, n, c, rfl, h2⟩ (Below.refl _ _))
    ·refine uT fun b__ w hW hE K hK => ?_
     have e78 := hE 78
     obtain ⟨A, n, c, h1, h2⟩ := e78
     refine Bc rfl Tryz.underlying28 (ps := [(0, .agg #[.bool false, .slice A n c, .slice none 0 0, .int .i64 ((1 + b % R0 : Nat) : Int), .int .i64 0])]) (by simp [h1]) (cells := #[.bool false, .slice A n c, .slice none 0 0, .int .i64 ((1 + b % R0 : Nat) : Int), .int .i64 0]) (by kernel_rfl) fun w' hX hb => hK _ _ ⟨A, n, c, (Sl.of_box (n := 1) (size := 5) hX rfl (by omega)).imp fun _ _ _ => trivial, h2.ext hb⟩ hb
    ·intro vs wz hW hT
     obtain ⟨e60, e61, e62, e63, e64, e65, e66, e67, e68, e69, e70, e71, e72, e73, e74, e75, e76, e77, e78, e79, -⟩ := hT
     have bx : (fun _ : Nat => True) 0 := trivial
     simp only [AB, Act.put, zz, ze]
     obtain ⟨A, n, c, hsl, hset⟩ := e79
     have hS1 := hS.ret hW (A5 (v := .agg #[.slice A n c]) (N := 2 ^ (1 + b / 16 % R0))) hset
     (intro o_ ho_; simp only [List.getElem?_toArray, List.getElem?_cons_succ, List.getElem?_cons_zero, Option.some.injEq] at ho_; subst ho_)
     refine Dx rfl Hu e61 (hS1.own 0 rfl) rfl hsl (by intro u hu; simp at hu; rcases hu with rfl | rfl | rfl | rfl | rfl <;> rfl) (by omega) (by omega) hS1.size fun v9 w9 ho9 hg9 hat9 => ?_
     replace hS1 := hS1.upd 0 rfl (.own v9 58 5 (rl.length + j + 1) (xs' ++ [Value.bool false, Value.slice A n c, Value.slice none 0 0, Value.int .i64 ((1 + b % R0 : Nat) : Int), Value.int .i64 0])) hg9 ho9 hat9
     obtain ⟨A80, c80, rfl, _, _⟩ := Bk (hS1.own 0 rfl)
     (intro o_ ho_; simp only [List.getElem?_toArray, List.getElem?_cons_succ, List.getElem?_cons_zero, Option.some.injEq] at ho_; subst ho_)
     simp only [Act.put, List.setIfInBounds_toArray, List.set_cons_zero, List.set_cons_succ]
     refine CI rfl rfl (v := .pointer (some ⟨g11, 3, none⟩)) (by kernel_rfl) ?_
     (intro o_ ho_; simp only [List.getElem?_toArray, List.getElem?_cons_succ, List.getElem?_cons_zero, Option.some.injEq] at ho_; subst ho_)
     simp only [Act.put, List.setIfInBounds_toArray, List.set_cons_zero, List.set_cons_succ]
     refine CE (v := .slice A80 (rl.length + j + 1) c80) rfl rfl rfl (hS1.box 1 rfl) (by simp) rfl rfl (by kernel_rfl) fun w10 h10 hU10 => ?_
     replace hS1 := hS1.upd 1 rfl (.box g11 31 #[.int .i64 (R0 : Nat), .pointer (some ⟨q, 0, none⟩), .slice C44 n44 c44, .slice A80 (rl.length + j + 1) c80, .slice An nl.length cn, .slice Ag gl.length cg]) (B5 hU10) ⟨(hS1.holds (.box g11 31 #[.int .i64 (R0 : Nat), .pointer (some ⟨q, 0, none⟩), .slice C44 n44 c44, .slice A' (rl.length + j) c', .slice An nl.length cn, .slice Ag gl.length cg]) (by simp)).1, h10⟩ fun _ e => .inl e
     simp only [BJ]
     simp only [Act.put, List.setIfInBounds_toArray, List.set_cons_zero, List.set_cons_succ]
     clear hS hW hset hsl h10 hU10 hg9 hat9 ho9
     go_wp2_with fail
     refine ⟨⟨j + 1, _, _, _, by go_num, hjl, hS1.mono (KBS.out.and C7) fun D w h => ⟨h.1.1, ?_⟩⟩, by simp [intOf]; omega⟩
     rw [HTK.out, <- List.append_assoc]
     have hxl : xs'.length = (rl ++ (l2.take j).map (Ee R0)).length * 5 := by
      rw [HXL.out, List.length_append, List.length_map, List.length_take, Nat.min_eq_left (by omega)]
     exact AF.append hxl h.1.2 (AF.single (z := Ee R0 b) h.2 A6.empty)
   ·obtain rfl : j = l2.length := by omega
    rw [List.take_length] at hS
    have hok := news_ok (R := R0) (l := l2) hR2 hR5
    have hln : (l2.map (Ee R0)).length <= 3 := by rw [List.length_map]; exact h12
    have hsm : s0 &&& Bi R0 = s0 := by
     rw [HS0.out, show del (2 ^ (R0 + 1) - 1) 0 = Bi R0 from EB R0 (by omega)]
     exact grow_start HM.out
    obtain ⟨B, hB⟩ : ∃ B, B = uppM L (CJ ⟨(R0 : Nat), some L, st, rl, nl, gl⟩ s0 (l2.map (Ee R0))) := ⟨_, rfl⟩
    have HOB : Hid (obtS ⟨(R0 : Nat), some L, s0, rl ++ l2.map (Ee R0), nl, gl⟩ = B) := Lib.hid (by rw [hB]; exact grow_obt HM.out hpl.out hsm hok.1 hok.2 hln)
    have hBm : B &&& Bi R0 = B := by rw [hB]; exact grow_upp HM.out hsm hok.1
    have HOC : Hid (obtS ⟨(R0 : Nat), some L, B, rl ++ l2.map (Ee R0), nl, gl⟩ = B) := Lib.hid (by
     refine (grow_obt (s := B) HM.out hpl.out hBm hok.1 hok.2 hln).trans ?_
     have h1 := upp_fix (L := L) (p := CJ ⟨(R0 : Nat), some L, st, rl, nl, gl⟩ B (l2.map (Ee R0))) (q := CJ ⟨(R0 : Nat), some L, st, rl, nl, gl⟩ s0 (l2.map (Ee R0))) (GF HM.out hok.1) hB rfl
     rw [h1, <- hB])
    have HQ : Hid (Aj.Ok ⟨(R0 : Nat), some L, s0, rl ++ l2.map (Ee R0), nl, gl⟩) := Lib.hid (grow_ok HM.out hln)
    have HQ2 : Hid (Aj.Ok ⟨(R0 : Nat), some L, B, rl ++ l2.map (Ee R0), nl, gl⟩) := Lib.hid (grow_ok HM.out hln)
    have HW1 : Hid ((st &&& A == st) = true) := Lib.hid (C1.2 (by rw [HA.out]; exact (CU (L := L) HM.out.targ).1.start))
    have HW2 : Hid ((A &&& B == A) = true) := Lib.hid (C1.2 (by
     rw [HA.out, hB]
     refine upp_mono HM.out.targ (GF HM.out hok.1) (fun i hi => ?_) fun r hr => List.mem_append_left _ hr
     show s0.testBit i = true
     rw [HS0.out]; exact Dk.2 (.inl hi)))
    have HW3 : Hid ((B &&& B == B) = true) := Lib.hid (by simp)
    have HLQ : Hid ((rl ++ l2.map (Ee R0)).length = rl.length + l2.length) := Lib.hid (by simp)
    clear hok hln hsm hBm hB
    obtain ⟨nw, hnw⟩ : ∃ nw, rl ++ l2.map (Ee R0) = nw := ⟨_, rfl⟩
    rw [hnw] at hS HOB HOC HQ HQ2 HLQ
    clear hnw
    replace hS := hS.freeze 0 (by decide) rfl
    obtain ⟨KC, kcB, kq, kqs, hS2⟩ : ∃ KC : (Nat -> Prop) -> World -> Prop, Hid (∀ D w, KC D w -> KB D w) /\ Hid (∀ D w, KC D w -> B6 w D (.agg #[.int .i64 (R0 : Nat), .pointer (some ⟨q, 0, none⟩), .slice C44 n44 c44, .slice A' (rl.length + l2.length) c', .slice An nl.length cn, .slice Ag gl.length cg]) ⟨(R0 : Nat), some L, s0, nw, nl, gl⟩) /\ Hid (∀ D w, KC D w -> Bb w D (.slice A' (rl.length + l2.length) c') nw) /\ St W wr (.box g11 31 #[.int .i64 (R0 : Nat), .pointer (some ⟨q, 0, none⟩), .slice C44 n44 c44, .slice A' (rl.length + l2.length) c', .slice An nl.length cn, .slice Ag gl.length cg] :: .box g10 27 #[.slice A10 n10 c10] :: .box g8 37 us :: .box g7 31 #[.int .i64 (R0 : Nat), .pointer (some ⟨q, 0, none⟩), .slice Cs ns cs, .slice Ar rl.length cr, .slice An nl.length cn, .slice Ag gl.length cg] :: []) KC := ⟨_, Lib.hid fun D w h => h.1.1, Lib.hid fun D w h => ⟨_, _, _, _, _, rfl, kh.out _ _ (kbK.out _ _ h.1.1), kU.out _ _ h.1.1, ⟨xs', by rw [HLQ.out]; exact h.2, h.1.2⟩, kn.out _ _ (kbK.out _ _ h.1.1), ⟨xg, kg.out _ _ (kbK.out _ _ h.1.1), kg2.out _ _ (kbK.out _ _ h.1.1)⟩⟩, Lib.hid fun D w h => ⟨xs', by rw [HLQ.out]; exact h.2, h.1.2⟩, hS⟩
    clear hS
    have hS := hS2
    clear hS2
    go_wp2_with (first
     | ((with_reducible refine qB ?_); refine qc ?_ ?_ <;> intro h_ <;> go_prune)
     | ((with_reducible refine qk 31 ?_); refine BigFrame.wpList_want rfl fun _ hK => AY rfl rfl (hS.box 0 rfl) Tryz.underlying31 rfl (by kernel_rfl) (hK _ _ ?_))
     | (go_at_call 23; refine (CQ HQ.out hS (fun D w h => kq.out _ _ h) (fun D w h => kt1.out _ _ (kbK.out _ _ (kcB.out _ _ h)))).mono ?_; rw [HOB.out]; clear hS; rintro e w_ ⟨xa, rfl, hS⟩; obtain ⟨A14, c14, l14, rfl, -⟩ := hS.ro.2.parts; obtain ⟨n14, hn14⟩ : ∃ n, n = l14.length := ⟨_, rfl⟩; rw [<- hn14] at hS ⊢; clear hn14)
     | ((with_reducible refine qA 14 ?_); refine qa hS #[.slice none 0 0] ?_; clear hS; intro g14 w_ hS)
     | ((with_reducible refine qk 27 ?_); refine BigFrame.wpList_want rfl fun _ hK => AY rfl rfl (hS.box 0 rfl) Tryz.underlying27 rfl (by kernel_rfl) (hK _ _ ?_))
     | ((with_reducible refine qm 27 ?_); first | (refine qS hS ?_; clear hS; intro w_ hS; (try simp only [Act.put, Act.eval, zz, Value.cells] at hS)) | (refine st_gstoreS hS 1 rfl _ _ _ rfl _ _ _ rfl rfl rfl (by simp) rfl (by kernel_rfl) ?_; clear hS; intro w_ hS; (try simp only [Act.put, Act.eval, zz, Value.cells] at hS)))
     | ((with_reducible refine qM ?_); (first | refine qS hS ?_ | refine qT hS ?_); clear hS; intro w_ hS; (try simp only [Act.put, Act.eval, zz, Value.cells] at hS))
     | ((with_reducible refine qK ?_); refine qC hS ?_))
    obtain ⟨KD, kd, kdA, kdB, kdP, hS2⟩ : ∃ KD : (Nat -> Prop) -> World -> Prop, Hid (∀ D w, KD D w -> K1 D w) /\ Hid (∀ D w, KD D w -> A6 w D (.agg #[.slice A10 n10 c10]) A) /\ Hid (∀ D w, KD D w -> A6 w D (.agg #[.slice A14 n14 c14]) B) /\ Hid (∀ D w, KD D w -> B6 w D (.agg #[.int .i64 (R0 : Nat), .pointer (some ⟨q, 0, none⟩), .slice A14 n14 c14, .slice A' (rl.length + l2.length) c', .slice An nl.length cn, .slice Ag gl.length cg]) ⟨(R0 : Nat), some L, B, nw, nl, gl⟩) /\ St W w_ (.box g14 27 #[.slice A14 n14 c14] :: .box g11 31 #[.int .i64 (R0 : Nat), .pointer (some ⟨q, 0, none⟩), .slice A14 n14 c14, .slice A' (rl.length + l2.length) c', .slice An nl.length cn, .slice Ag gl.length cg] :: .box g10 27 #[.slice A10 n10 c10] :: .box g8 37 us :: .box g7 31 #[.int .i64 (R0 : Nat), .pointer (some ⟨q, 0, none⟩), .slice Cs ns cs, .slice Ar rl.length cr, .slice An nl.length cn, .slice Ag gl.length cg] :: []) KD := ⟨_, Lib.hid fun D w h => kbK.out _ _ (kcB.out _ _ h.1), Lib.hid fun D w h => kA.out _ _ (kcB.out _ _ h.1), Lib.hid fun D w h => h.2, Lib.hid fun D w h => ⟨_, _, _, _, _, rfl, kh.out _ _ (kbK.out _ _ (kcB.out _ _ h.1)), h.2, kqs.out _ _ h.1, kn.out _ _ (kbK.out _ _ (kcB.out _ _ h.1)), ⟨xg, kg.out _ _ (kbK.out _ _ (kcB.out _ _ h.1)), kg2.out _ _ (kbK.out _ _ (kcB.out _ _ h.1))⟩⟩, hS⟩
    clear hS
    have hS := hS2
    clear hS2
    refine Db [.q g7 2, .i (.agg #[.slice Cs ns cs]), .i (.agg #[.slice A10 n10 c10]), .b true, .b true, .i (.agg #[.slice A10 n10 c10]), .i (.agg #[.slice A14 n14 c14]), .b true, .b true, .b true, .q g11 2, .i (.agg #[.slice A14 n14 c14]), .i (.agg #[.slice A14 n14 c14]), .b true, .b true, .b true, .i (.agg #[.int .i64 (R0 : Nat), .pointer (some ⟨q, 0, none⟩), .slice A14 n14 c14, .slice A' (rl.length + l2.length) c', .slice An nl.length cn, .slice Ag gl.length cg]), .s (fun v w => A6 w (fun _ => True) v B) fun v w w' h hb => h.ext hb, .i (.agg #[.slice A14 n14 c14]), .b true, .b true, .b true] ⟨uF, ?_, uR (h := fun w hW hN => (hS.ext hW).box 2 rfl), ?_, uM, uR (h := fun w hW hN => (hS.ext hW).box 2 rfl), uR (h := fun w hW hN => (hS.ext hW).box 0 rfl), ?_, uP, uM, uF, ?_, uR (h := fun w hW hN => (hS.ext hW).box 0 rfl), ?_, uP, uM, uR (h := fun w hW hN => (hS.ext hW).box 1 rfl), ?_, uR (h := fun w hW hN => (hS.ext hW).box 0 rfl), ?_, uP, uA, trivial⟩ ?_
    ·refine uT fun b__ w hW hE K hK => ?_
     have e87 := hE 87
     exact DU rfl e87 ((hS.ext hW).box 4 rfl) rfl Tryz.underlying27 rfl (by kernel_rfl) (hK _ _ rfl (Below.refl _ _))
    ·refine uT fun b__ w hW hE K hK => ?_
     have e88 := hE 88
     have e89 := hE 89
     exact Aq rfl (by kernel_rfl) (by simp only [List.map_cons, List.map_nil, e88, e89]) (CA _ _ st A w _ _ (ks.out _ _ (kd.out _ _ (hS.ext hW).ro)) (kdA.out _ _ (hS.ext hW).ro)) fun v w' h hb => hK v w' (h.trans (by rw [HW1.out])) hb
    ·refine uT fun b__ w hW hE K hK => ?_
     have e92 := hE 92
     have e93 := hE 93
     exact Aq rfl (by kernel_rfl) (by simp only [List.map_cons, List.map_nil, e92, e93]) (CA _ _ A B w _ _ (kdA.out _ _ (hS.ext hW).ro) (kdB.out _ _ (hS.ext hW).ro)) fun v w' h hb => hK v w' (h.trans (by rw [HW2.out])) hb
    ·refine uT fun b__ w hW hE K hK => ?_
     have e97 := hE 97
     exact DU rfl e97 ((hS.ext hW).box 1 rfl) rfl Tryz.underlying27 rfl (by kernel_rfl) (hK _ _ rfl (Below.refl _ _))
    ·refine uT fun b__ w hW hE K hK => ?_
     have e98 := hE 98
     have e99 := hE 99
     exact Aq rfl (by kernel_rfl) (by simp only [List.map_cons, List.map_nil, e98, e99]) (CA _ _ B B w _ _ (kdB.out _ _ (hS.ext hW).ro) (kdB.out _ _ (hS.ext hW).ro)) fun v w' h hb => hK v w' (h.trans (by rw [HW3.out])) hb
    ·refine uT fun b__ w hW hE K hK => ?_
     have e103 := hE 103
     exact Aq rfl (by kernel_rfl) (by simp only [List.map_cons, List.map_nil, e103]) (Hd (kdP.out _ _ (hS.ext hW).ro) HQ2.out (kt1.out _ _ (kd.out _ _ (hS.ext hW).ro))) fun v w' h hb => hK v w' (by rw [<- HOC.out]; exact h) hb
    ·refine uT fun b__ w hW hE K hK => ?_
     have e104 := hE 104
     have e105 := hE 105
     exact Aq rfl (by kernel_rfl) (by simp only [List.map_cons, List.map_nil, e105]) (Dh _ _ B B w _ _ e104 (kdB.out _ _ (hS.ext hW).ro)) fun v w' h hb => hK v w' (h.trans (by simp)) hb
    ·intro vs wz hW hT
     obtain ⟨e87, e88, e89, e90, e91, e92, e93, e94, e95, e96, e97, e98, e99, e100, e101, e102, e103, e104, e105, e106, e107, e6, -⟩ := hT
     have bx : (fun _ : Nat => True) 0 := trivial
     simp only [AB, Act.put, zz, ze]
     rw [e6]
     replace hS := hS.ext hW
     go_wp2_with fail
     go_ret
     exact AK.mk rfl hS.below
end
section
open Go.RowKit Go.ChangeShapes Go.WideShapes
section
variable {H : Type} {enc : TypeId × Value -> H} {P : Program} {w : World} {base : Nat} {sp : Nat -> Bool} {held : Bool}
theorem sl_of_trod {t e : TypeId} {size fuel : Nat} {cs : List Value} {x : DataW H × List MemPlace} (ht : P.underlying t = some (.slice e)) (hc : P.cellsOf e = size) (hsz : 0 < size) (h : DataW.trod enc P w base sp held fuel t cs = some x) :
  ∃ v n xs, cs = [v] /\ Sl w (fun _ => True) size v n xs /\ ∀ k, k < n -> ∃ f' y, DataW.trod enc P w base sp held f' e ((xs.drop (k * size)).take size) = some y := by
 rcases DataW.trod_slice ht h with ⟨rfl, _⟩ | ⟨a, len, cap, elems, rest, n, _, rfl, _, hb, hl, hm, hlen, hel, _⟩
 ·exact ⟨_, 0, [], rfl, ⟨by simp, none, 0, rfl, Nat.le_refl _, Nat.zero_le _, fun h => by omega⟩, fun k hk => by omega⟩
 ·rw [hc] at hel
  have each : ∀ k, k < len -> ∃ ck y, w.cells? base (a.add (k * size)) size = some ck /\ DataW.trod enc P w base sp held n e ck = some y := by
   intro k hk
   have h1 := hel k hk
   rw [List.getElem?_eq_getElem (by omega)] at h1
   obtain ⟨ck, h2, h3⟩ := Option.bind_eq_some_iff.1 h1
   exact ⟨ck, _, h2, h3⟩
  have hadd : ∀ i j, (a.add i).add j = a.add (i + j) := by
   intro i j
   unfold Addr.add
   by_cases h1 : i = 0 <;> by_cases h2 : j = 0 <;> simp [h1, h2, Nat.add_assoc]
  have cell : ∀ j, j < len * size -> ∃ x, w.cell? (a.add j) = some x := by
   intro j hj
   have hk : j / size < len := (Nat.div_lt_iff_lt_mul hsz).2 hj
   obtain ⟨ck, y, h1, h2⟩ := each _ hk
   obtain ⟨_, h3, h4⟩ := World.cells?_some h1
   have h5 := h4 (j % size) (Nat.mod_lt _ hsz)
   rw [hadd, Nat.mul_comm, Nat.div_add_mod] at h5
   rw [h5, List.getElem?_eq_getElem (by rw [h3]; exact Nat.mod_lt _ hsz)]
   exact ⟨_, rfl⟩
  refine ⟨.slice (some a) len cap, len, (List.range (len * size)).map fun j => (w.cell? (a.add j)).getD undef, rfl, ⟨by simp, some a, cap, rfl, hl, hm, fun h0 => ?_⟩, fun k hk => ?_⟩
  ·obtain ⟨x0, hx0⟩ := cell 0 (Nat.mul_pos h0 hsz)
   obtain ⟨b, o, s⟩ := a
   have hs : s = none := cell_spot hx0
   subst hs
   refine ⟨b, o, rfl, trivial, ?_, fun j x hx => ?_⟩
   ·have := hx0
    unfold World.cell? at this
    simp only [Addr.add] at this
    rcases Nat.lt_or_ge b w.heap.size with hlt | hge
    ·exact hlt
    ·simp [Array.getElem?_eq_none hge] at this
   ·simp only [List.getElem?_map, Option.map_eq_some_iff] at hx
    obtain ⟨j', hj', rfl⟩ := hx
    have hjl := (List.getElem?_eq_some_iff.1 hj').1
    rw [List.getElem?_range (by simpa using hjl)] at hj'
    obtain rfl := Option.some.inj hj'
    obtain ⟨y, hy⟩ := cell j (by simpa using hjl)
    rw [hy]
    have e : (⟨b, o, none⟩ : Addr).add j = ⟨b, o + j, none⟩ := by
     unfold Addr.add; split <;> simp [*]
    rw [e] at hy
    exact hy
  ·obtain ⟨ck, y, h1, h2⟩ := each k hk
   obtain ⟨_, h3, h4⟩ := World.cells?_some h1
   refine ⟨n, y, ?_⟩
   rw [<- h2]
   congr 1
   have hle : k * size + size <= len * size := by
    rw [<- Nat.succ_mul]; exact Nat.mul_le_mul_right _ hk
   apply List.ext_getElem?
   intro i
   rcases Nat.lt_or_ge i size with hi | hi
   ·rw [List.getElem?_take_of_lt hi, List.getElem?_drop, List.getElem?_map, List.getElem?_range (by omega)]
    have h5 := h4 i hi
    rw [hadd] at h5
    simp only [Option.map_some]
    rw [h5, List.getElem?_eq_getElem (by omega)]
    simp
   ·rw [List.getElem?_eq_none (by simp; omega), List.getElem?_eq_none (by omega)]
end
theorem u8_nat {n : Int} (h : (Lit.int .u8 n).wf = true) : ∃ m : Nat, n = (m : Int) /\ m < 256 := by
 have := bounds_u8 h
 exact ⟨n.toNat, by omega, by omega⟩
end
section
open Go.ChangeShapes Go.WideShapes Go.ChangeAt Go.RowKit
section
variable {P : Program} {H : Type} {enc : TypeId × Value -> H} {W : World} {r : Reach} {b0 base : Nat} {sp : Nat -> Bool} {held : Bool} {v : Value} {d : DataW H} {p : List MemPlace} {t : TypeId}
theorem int_open {k : IntKind} (ht : P.underlying t = some (.int k)) (hv : Value.okWide P W r b0 t v) (h : DataW.Trod enc P W base sp held t v d p) : ∃ n, v = .int k n /\ (Lit.int k n).wf = true := by
 obtain ⟨n, rfl⟩ := okWide_int ht hv
 obtain ⟨fuel, hf⟩ := h
 obtain ⟨m, e, _, w⟩ := DataW.trod_int ht hf
 simp [Value.cells] at e
 subst e
 exact ⟨_, rfl, w⟩
theorem u8_open (ht : P.underlying t = some (.int .u8)) (hv : Value.okWide P W r b0 t v) (h : DataW.Trod enc P W base sp held t v d p) : ∃ n : Nat, v = .int .u8 n /\ n < 256 := by
 obtain ⟨n, rfl, w⟩ := int_open ht hv h
 have := bounds_u8 w
 obtain ⟨m, rfl⟩ := Int.eq_ofNat_of_zero_le (by omega : 0 <= n)
 exact ⟨m, rfl, by omega⟩
end
end
section
open Go.ChangeShapes Go.WideShapes Go.ChangeAt Go.RowKit
set_option maxRecDepth 20000 in
theorem Is {H : Type} {enc : TypeId × Value -> H} {W : World} {r : Reach} {b0 base : Nat} {sp : Nat -> Bool} {held : Bool} {v : Value} {d : DataW H} {p : List MemPlace} (hv : Value.okWide Tryz.prog W r b0 22 v) (h : DataW.Trod enc Tryz.prog W base sp held 22 v d p) :
  ∃ l : List Nat, (∀ x ∈ l, x < 256) /\ Sl W (fun _ => True) 1 v l.length (Gj l) := by
 obtain ⟨a0, len0, cap0, rfl⟩ := okWide_slice Tryz.underlying22 hv
 obtain ⟨fuel, hf⟩ := h
 obtain ⟨v, n, xs, e, hs, he⟩ := sl_of_trod Tryz.underlying22 (size := 1) (by kernel_rfl) (by decide) hf
 have hl := hs.1
 have : ∃ zs : List Nat, (∀ x ∈ zs, x < 256) /\ xs = Gj zs := by
  have : ∀ v ∈ xs, ∃ z : Nat, z < 256 /\ v = .int .u8 (z : Nat) := by
   intro v hv
   obtain ⟨k, hk, hkv⟩ := List.mem_iff_getElem.1 hv
   obtain ⟨f', y, hy⟩ := he k (by omega)
   obtain ⟨z, hz, _, hw⟩ := DataW.trod_int Tryz.underlying5 hy
   obtain ⟨m, rfl, hm⟩ := u8_nat hw
   have h0 := congrArg (·[0]?) hz
   simp only [Nat.mul_one, List.getElem?_take_of_lt Nat.zero_lt_one, List.getElem?_drop, Nat.add_zero] at h0
   rw [List.getElem?_eq_getElem hk, hkv] at h0
   exact ⟨m, hm, by simpa using h0⟩
  clear hs he hl
  induction xs with
  | nil => exact ⟨[], fun x hx => by simp at hx, rfl⟩
  | cons a r ih =>
   obtain ⟨zs, hzs, rfl⟩ := ih fun v hv => this v (List.mem_cons_of_mem _ hv)
   obtain ⟨z, hz, rfl⟩ := this a List.mem_cons_self
   exact ⟨z :: zs, fun x hx => by rcases List.mem_cons.1 hx with rfl | hx; exact hz; exact hzs x hx, rfl⟩
 obtain ⟨zs, hzs, rfl⟩ := this
 have hz : zs.length = n := by simpa [Gj] using hl
 obtain rfl : v = .slice a0 len0 cap0 := by simpa [Value.cells] using e.symm
 exact ⟨zs, hzs, hz ▸ hs⟩
end
section
open Go.RowKit Go.ChangeShapes Go.WideShapes
theorem boxF_of_reads {w : World} {n : String} {g : Nat} {t e : TypeId} {m : Nat} {k : IntKind} {zs : List Int} (hg : Tryz.prog.globalNamed n = some g) (hty : (Tryz.prog.globals[g]?).map (·.type) = some t)
  (ht : Tryz.prog.underlying t = some (.array m e)) (he : Tryz.prog.underlying e = some (.int k)) (hce : Tryz.prog.cellsOf e = 1) (hct : Tryz.prog.cellsOf t = m) (h : Lib.VarReads Tryz.prog w n (Lib.tabData k zs)) :
  ∃ t, BoxF w g t (zs.map fun z => Value.int k z).toArray := by
 obtain ⟨g', t', cs, fuel, p, hg', hty', hvar, hd⟩ := h
 obtain rfl := Option.some.inj (hg.symm.trans hg')
 obtain rfl := Option.some.inj (hty.symm.trans hty')
 have hcs := Lib.cells_of_tab ht he hce hct hd
 simp only [World.var?, hg, Option.bind_some] at hvar
 split at hvar
 ·rename_i cs' t'' f heq
  obtain rfl := Option.some.inj hvar
  refine ⟨(t'', f), ?_⟩
  rw [<- hcs]
  exact heq
 ·cases hvar
end
section
open Go.RowKit Go.ChangeShapes Go.WideShapes
theorem dtab_of_reads {w : World} (h1 : Lib.VarReads Tryz.prog w "math/bits.deBruijn64tab" Rows.laid_math_bits_deBruijn64tab) : Bt w := by
 have e1 : (Rows.laid_math_bits_deBruijn64tab : DataW Unit) = Lib.tabData .u8 (dbL.map fun x : Nat => (x : Int)) := by kernel_rfl
 rw [e1] at h1
 obtain ⟨t, b1⟩ := boxF_of_reads (g := 0) (by kernel_rfl) (t := 175) (by kernel_rfl) Tryz.underlying175 Tryz.underlying5 (by kernel_rfl) (by kernel_rfl) h1
 have e : (List.map (fun z => Value.int .u8 z) (dbL.map fun x : Nat => (x : Int))) = Gj dbL := by simp [Gj]
 rw [e] at b1
 intro q hq
 rw [b1.cell, List.getElem?_toArray]
 exact u8s_at _ _ hq
end
section
open Go.ChangeShapes Go.WideShapes Go.ChangeAt Go.RowKit
theorem Hb (W : World) (h : laidMetH Tryz.prog Rows.saturateGrowsRow.laid W) : Bt W := by
 have h' : laidMetH Tryz.prog [("math/bits.deBruijn64tab", Rows.laid_math_bits_deBruijn64tab)] W := h
 rw [MakeChecks.laidMetH_plain _ _ _ (by kernel_rfl)] at h'
 exact dtab_of_reads (Lib.laidMet.reads h' (.head _))
noncomputable def tgrwStart (os : Os) : World := World.laidAll Tryz.prog os Rows.saturateGrowsRow.laid
theorem Hw (os : Os) (args : Array Value) : laidMetH Tryz.prog Rows.saturateGrowsRow.laid ((tgrwStart os).forCall (fun _ _ => 0) ⟨#[], args, []⟩).memory := by
 rw [MakeChecks.laidMetH_plain _ _ _ (by kernel_rfl)]
 exact laidMet_laidAll _ (by kernel_rfl) (by kernel_rfl)
theorem tgrw_own : ownKnob Tryz.prog.godebug = none := by kernel_rfl
theorem DY : laidOutB Tryz.prog = true := by kernel_rfl
set_option maxRecDepth 100000 in
theorem tgrw_lifted (os : Os) (started : os.Started) (H : Type) (enc : TypeId × Value -> H) :
  ReturnsInHanded {} Tryz.checked os 7 .any (fun w args => (Rows.saturateGrowsSpec.pre enc Tryz.prog Tryz.f7 [] false w args /\ laidMetH Tryz.prog Rows.saturateGrowsRow.laid w) /\ sizedMet enc Tryz.prog Tryz.f7 (OpenSpec.ofChange Rows.saturateGrowsSpec) false w args)
   (Rows.saturateGrowsSpec.post enc Tryz.prog Tryz.f7 false true false false) := by
 refine returnsInHanded_of_change_and (C := Tryz.checked) (X := fun w _ => laidMetH Tryz.prog Rows.saturateGrowsRow.laid w) (fun _ _ _ hh h => h.of_heap hh) tgrw_own started (by kernel_rfl) Tryz.func7
  (ChangeSpec.witness_shaped (enc := enc) (C := Tryz.checked) (os := os) (X := fun w _ => laidMetH Tryz.prog Rows.saturateGrowsRow.laid w) false (tgrwStart os) #[.slice none 0 0, .int .u8 0, .slice none 0 0] 8 (World.laidAll_os _ _ _) (World.shaped_of_ZipB (by kernel_rfl) (by kernel_rfl)) (by kernel_rfl) (by kernel_rfl) (by kernel_rfl) (Hw os _)) ?_
 intro W base args ds gs before hval0 hW _ _ hL _
 have hval : ∀ (j : Nat) t v, Tryz.f7.params[j]? = some t -> args[j]? = some v -> Value.okWide Tryz.prog W .any base t v := hval0
 have hW' := hW
 obtain ⟨p, q, hA0, hV, rfl, hfz, hnd⟩ := hW
 have hA : DataW.TrodAll enc Tryz.prog W 0 (fun _ => true) true Tryz.f7.params.toList args.toList ds p := hA0
 rw [Tryz.params7] at hA hval
 obtain ⟨v0, v1, v2, d0, d1, d2, p0, p1, p2, rfl, rfl, rfl, h0, h1, h2⟩ := trodAll_three hA
 obtain ⟨rfl, rfl⟩ := trodVars_none hV
 obtain ⟨l, hl, hs⟩ := Is (hval 0 _ v0 rfl rfl) h0
 obtain ⟨a1, rfl, ha1⟩ := u8_open Tryz.underlying5 (hval 1 _ v1 rfl rfl) h1
 obtain ⟨m, hm, hs2⟩ := Is (hval 2 _ v2 rfl rfl) h2
 have hT := Hb W hL
 have lt : ∀ z ∈ p0 ++ p1 ++ p2, z.block < W.heap.size := fun z hz => by simpa using hW'.lt z (by simpa using hz)
 refine (lgrows_any v0 v2 l m a1 ha1 W _ _ hl hm hs hs2 hT).mono fun E W' he => ?_
 obtain ⟨r, rfl, rfl, hb⟩ := he
 refine ⟨_, rfl, _, _, _, [], p0 ++ p1 ++ p2, [], hW', ?_, ?_, ?_, hb.frame _, fun h => by cases h⟩
 ·exact trodAll_mk1 (shut_bool Tryz.underlying4 true)
 ·rw [Tryz.params7]
  rw [List.append_assoc]
  exact trodAll_mk3 (Below.trod DY (by kernel_rfl) (of_decide_eq_true (by kernel_rfl)) h0 hb fun z hz => lt z (List.mem_append_left _ (List.mem_append_left _ hz))) (Below.trod DY (by kernel_rfl) (of_decide_eq_true (by kernel_rfl)) h1 hb fun z hz => lt z (List.mem_append_left _ (List.mem_append_right _ hz))) (Below.trod DY (by kernel_rfl) (of_decide_eq_true (by kernel_rfl)) h2 hb fun z hz => lt z (List.mem_append_right _ hz))
 ·rfl
theorem tgrw_holds : Rows.SaturateGrowsSaid :=
 OpenClaim.holds_of_wide 7 Tryz.f7 rfl rfl rfl rfl rfl rfl rfl ⟨rfl, rfl, rfl, rfl, rfl⟩ rfl rfl rfl rfl rfl (by kernel_rfl) Tryz.func7 (by kernel_rfl)
  (of_decide_eq_true (by kernel_rfl)) (by unfold Func.isWrapper; rw [if_neg (by decide +kernel)]; exact ⟨rfl, rfl⟩)
  (fun os started H enc _ => tgrw_lifted os started H enc)
end
section
open Go
theorem tgrw_card : Rows.SaturateGrowsCardSaid :=
 Claim7.holds_tied_plain_at .later [] [.data] true (true, "c3149becd198d29015449e0d705ae27b5a03ac5ddd59b56b3bc98e4a229c6d98") false
  tgrw_holds (fun _ h => by cases h) (by kernel_rfl) (fun _ h => by cases h) saturateGrows_row_tie rfl ⟨rfl, rfl⟩ (by kernel_rfl) rfl
  (fun f fn hf hfn => by
   obtain rfl : f = 7 := Option.some.inj ((show Tryz.prog.funcNamed "arbac/arbaclaw35.SaturateGrows" = some 7 by kernel_rfl).symm.trans hf) |>.symm
   obtain rfl : fn = Tryz.f7 := (Option.some.inj (Tryz.func7.symm.trans hfn)).symm
   exact ⟨by kernel_rfl, fun j t ht => by
    rw [Tryz.params7] at ht
    have h3 : t = 22 \/ t = 5 := by
     rcases j with _ | _ | _ | j
     ·simp at ht; simp [<- ht]
     ·simp at ht; simp [<- ht]
     ·simp at ht; simp [<- ht]
     ·simp at ht
    rcases h3 with rfl | rfl
    ·exact (show Tryz.prog.wantsStandIn 22 = false by kernel_rfl)
    ·exact (show Tryz.prog.wantsStandIn 5 = false by kernel_rfl)⟩)
  (by kernel_rfl)
end
end Go.Proofs.YtjjhcdkamohgnaaGreatDoor
namespace Go.Proofs.YtjjhcdkamohgnaaGreatDoor
#print axioms tgrw_card
end Go.Proofs.YtjjhcdkamohgnaaGreatDoor
