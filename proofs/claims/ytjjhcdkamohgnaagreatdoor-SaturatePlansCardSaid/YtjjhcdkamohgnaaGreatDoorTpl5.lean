/-
  What the statement needs, part 5.
-/
import Derived.Maps.Views
import Derived.Laws.BytesArg
import Derived.StringKeys
import Derived.Test.YtjjhcdkamohgnaaGreatDoorTpl4
namespace Go.Proofs.YtjjhcdkamohgnaaGreatDoor
section
open Go.RowKit
attribute [local go_sem ↓] Go.wp_at_zero Go.wp_at_succ
set_option maxRecDepth 20000
set_option exponentiation.threshold 5000
noncomputable def srchS (p : Af) : List Int × List (Nat × Nat) × Bool × Int := if checkE p = 0 then (match p.links with
 | none => ([], [], false, 0)
 | some L => if CD p = true then ((srchM L p).1, (srchM L p).2.1, (srchM L p).2.2, 0) else ([], [], false, 15)) else ([], [], false, checkE p)
def SrchR (w0 : World) (r : List Int × List (Nat × Nat) × Bool × Int) : Ending -> World -> Prop :=
 AM (fun x w' => ∃ a c, x = .tuple #[a, c, .bool r.2.2.1, .int .i64 r.2.2.2] /\ Sl w' (w0.heap.size <= ·) 1 a r.1.length (AX r.1) /\ AB w' (w0.heap.size <= ·) c r.2.1) w0
theorem GD {P : Program} {fn : Func} {p2 p p4 p5 : Tmp} {ty : TypeId} {a : Act} {w : World} {g : Nat} {x v2 v4 v5 : Value} (h : fn.results = #[.tmp p2, .cell p ty, .tmp p4, .tmp p5]) (hp : a.eval (.tmp p) = .pointer (some ⟨g, 0, none⟩)) (hc : w.cell? ⟨g, 0, none⟩ = some x) (hu : Fl P ty = true)
  (hv2 : a.eval (.tmp p2) = v2) (hv4 : a.eval (.tmp p4) = v4) (hv5 : a.eval (.tmp p5) = v5) : (results fn a.tmps).run P w = .ok (.tuple #[v2, x, v4, v5]) w := by
 have hp' : a.tmps[p]?.getD undef = .pointer (some ⟨g, 0, none⟩) := by simpa [Act.eval] using hp
 have h2 : a.tmps[p2]?.getD undef = v2 := by simpa [Act.eval] using hv2
 have h4 : a.tmps[p4]?.getD undef = v4 := by simpa [Act.eval] using hv4
 have h5 : a.tmps[p5]?.getD undef = v5 := by simpa [Act.eval] using hv5
 have hl : (loadVar ty ⟨g, 0, none⟩).run P w = .ok x w := by
  have := FO (P := P) (w := w) hu hc
  simpa [Instr.loadAt, Instr.sureAddr] using this
 simp [results, h, hp', h2, h4, h5, asAddr, hl]
theorem opw_sl3 {P : Program} {o : Oper} {a : Act} {w : World} {Kt : Act -> World -> Prop} {Q : Exit -> Act -> World -> Prop} {t e : TypeId} {x h m : Operand} {A : Option Addr} {n c k : Nat} (ho : o.op = .slice t x none (some h) (some m)) (ht : P.underlying t = some (.slice e)) (hi : ∃ size, (P.info? e).map (·.size) = some size) (hx : a.eval x = .slice A n c) (hh : a.eval h = .int .i64 (k : Nat)) (hm : a.eval m = .int .i64 (k : Nat)) (hk : k <= c)
  (hK : Kt (a.put o.dst (.slice A k k)) w) : o.wp P a w Kt Q := by
 obtain ⟨size, hi⟩ := hi
 refine Cl (v := .slice A k k) ?_ hK
 cases hz : P.info? e with
 | none => rw [hz] at hi; cases hi
 | some z =>
  have hke : ((k : Nat) : Int) <= c := by omega
  have : A.map (·.add (0 * z.size)) = A := by cases A <;> simp [Addr.add]
  simp [execOp, ho, hx, hh, hm, Instr.sliceAt, Instr.slice, run_underlying ht, Instr.sliceBounds, run_sliceBound, sizeOf, typeInfo, hz, hke, Addr.add]
theorem G3 {p : Prop} {K : (Nat -> Prop) -> World -> Prop} (h : AK K) : AK fun D w => p -> K D w := fun D D' w w' hh a b c hp => h D D' w w' (hh hp) a b c
theorem sl_cap {w : World} {D : Nat -> Prop} {A : Option Addr} {k c size : Nat} {xs : List Value} (h : Sl w D size (.slice A k c) k xs) : Sl w D size (.slice A k k) k xs := by
 obtain ⟨h1, A', c', e, h2, h3, h4⟩ := h
 injection e with e1 _ e3
 subst e1 e3
 exact ⟨h1, A, k, rfl, Nat.le_refl _, Nat.le_trans h2 h3, h4⟩
theorem FF {w : World} {D : Nat -> Prop} {a b : Value} {z : Nat × Nat} (h1 : A6 w D (.agg #[a]) z.1) (h2 : A6 w D (.agg #[b]) z.2) : Ax w D [a, b] [z] := fun i y n hi => by
 cases i with
 | zero => obtain rfl := Option.some.inj (show some z = some (y, n) from hi); exact ⟨a, b, rfl, rfl, h1, h2⟩
 | succ i => simp at hi
theorem Et {w : World} {D : Nat -> Prop} : AB w D (.slice none 0 0) [] := ⟨[], Sl.none_, fun i y n hi => by simp at hi⟩
theorem St.good2 {w0 w w' : World} {F : List Aj} {K : (Nat -> Prop) -> World -> Prop} (h : St w0 w F K) (hb : Below w.heap.size w w') {Bs cap : Nat} {A : Option Addr} {ws : List Nat} (hs : Sl w' (w.heap.size <= ·) 1 (.slice A ws.length cap) ws.length (BE ws)) (hT : Bx w) (hF : CW F 0)
  (hB : w.heap.size <= Bs) (hX : Co w' Bs 27 #[.slice A ws.length cap]) : St w0 w' F fun D w => K D w /\ GoodK Bs A cap ws D w := by
 refine (h.ext hb).add (D := CW F) I6 ⟨⟨(hX.cell 0).trans rfl, fun h0 => ?_, hT.ext hb⟩, h.fresh hB, fun b off e h0 => ?_, hF⟩ fun _ h _ => h
 ·obtain ⟨_, A', c', e, _, _, h2⟩ := hs
  obtain ⟨b, o, h3, h4, h6, h5⟩ := h2 h0
  injection e with e
  exact ⟨b, o, e.trans h3, fun j hj => h5 j _ (Dh _ _ hj)⟩
 ·obtain ⟨_, A', c', e', _, _, h2⟩ := hs
  obtain ⟨b', o', h3, h4, h6, h5⟩ := h2 h0
  injection e' with e'
  rw [e, h3] at e'; injection e' with e'; injection e' with e1; subst e1; exact h.fresh h4
theorem ofN_one {k : Nat} (h : k <= 4095) : ofN [(k : Int)] = 2 ^ k := by
 show FJ 0 (k : Int) = _
 unfold FJ
 rw [if_pos (by omega)]; simp
theorem memL_one {ws : List Nat} (hc : C0 ws) (hN : Bp ws < BK) : (BU ws).map (fun x => (2 ^ x.toNat, 0)) = oneC (Bp ws) := by
 rw [memL_eq hc hN]
 unfold AF oneC
 rw [List.map_map]
 rfl
set_option maxHeartbeats 8000000 in
theorem F5 {w0 : World} {D : Nat -> Prop} {v : Value} {p : Af} (hp : B7 w0 D v p) (hP : p.Ok) (hT : Bx w0) :
  Calls Tryz.prog 30 #[v] w0 (SrchR w0 (srchS p)) := by
 obtain ⟨xs, rfl, hx6, hx1⟩ := hp.cells
 replace hx6 := Lib.hid hx6
 obtain ⟨K, HK, HT, HTB, hS⟩ : ∃ K : (Nat -> Prop) -> World -> Prop, Hid (∀ D w, K D w -> B7 w D (.agg xs) p) /\ Hid (∀ D w, K D w -> Bx w) /\ Hid (∀ D w, K D w -> D 0) /\ St w0 w0 [] K :=
  ⟨fun D w => B7 w D (.agg xs) p /\ Bx w /\ D 0, Lib.hid fun _ _ h => h.1, Lib.hid fun _ _ h => h.2.1, Lib.hid fun _ _ h => h.2.2, St.start (D := fun _ => True) (Cx.and C5) ⟨Cx D _ w0 w0 hp (Nat.le_refl _) (fun _ _ _ _ h => h) fun _ _ _ _ => trivial, hT, trivial⟩⟩
 have HP := Lib.hid hP
 have KS := Lib.hid hS.stable
 clear hP hp hT
 obtain ⟨e, he⟩ : ∃ e, checkE p = e := ⟨_, rfl⟩
 have HE := Lib.hid he
 clear he
 obtain ⟨RES, hR⟩ : ∃ RES, srchS p = RES := ⟨_, rfl⟩
 rw [hR]
 by_cases h0 : e = 0
 ·subst h0
  obtain ⟨L, hl⟩ : ∃ L, p.links = some L := by
   cases h : p.links with
   | none => have := HE.out; unfold checkE at this; rw [h] at this; cases this
   | some L => exact ⟨L, rfl⟩
  cases hf : CD p with
  | false =>
   have HR := Lib.hid (show RES = ([], [], false, 15) by rw [<- hR]; unfold srchS; rw [if_pos HE.out, hl, hf]; rfl)
   have HF : Hid (fragM p = false) := Lib.hid (by unfold fragM; rw [if_pos HE.out, hf])
   clear hR hl hf
   refine (callsIn_wide (n := 6)).1 (callsIn_of_wp_marks Tryz.func30 rfl trivial ?_ rfl)
   simp only [Tryz.ntmps30, List.size_toArray, List.length_cons, List.length_nil, Nat.reduceAdd, Nat.reduceSub, Array.replicate_succ, Array.replicate_zero, List.push_toArray, List.append_toArray, List.nil_append, List.cons_append]
   refine wpIn_wide.2 ?_
   go_wp2_with (first
    | ((with_reducible refine qA 1 ?_); refine AA hS rfl _ _ rfl (.agg xs) xs rfl rfl ?_; clear hS; intro g1 w_ hS; (try simp only [Act.put, Act.eval, zz, Value.cells] at hS))
    | ((with_reducible refine qA 3 ?_); refine qa hS #[.slice none 0 0] ?_; clear hS; intro g3 w_ hS)
    | ((with_reducible refine qB ?_); refine qc ?_ ?_ <;> intro h_ <;> go_prune)
    | ((with_reducible refine qk 31 ?_); refine BigFrame.wpList_want rfl fun _ hK => AQ rfl rfl (hS.box 1 rfl) Tryz.underlying31 rfl (by rw [hx6.out]; kernel_rfl) (hK _ _ ?_))
    | (go_at_call 31; refine (Cq (HK.out _ _ hS.ro) HP.out (HT.out _ _ hS.ro)).mono ?_; rw [HE.out]; rintro r_ w_ ⟨_, rfl, rfl, hb_⟩; replace hS := hS.ext hb_; clear hb_)
    | (go_at_call 15; refine (Dv (HK.out _ _ hS.ro) HP.out (HT.out _ _ hS.ro)).mono ?_; rw [HF.out]; rintro r_ w_ ⟨_, rfl, rfl, hb_⟩; replace hS := hS.ext hb_; clear hb_)
    | ((with_reducible refine qM ?_); (first | refine qS hS ?_ | refine qT hS ?_); clear hS; intro w_ hS; (try simp only [Act.put, Act.eval, zz, Value.cells] at hS)))
   refine C4 (F := [.box g3 29 #[.slice none 0 0], .box g1 31 xs]) ?_ [] _ (by simpa [Ce] using hS)
   intro w' h
   refine ⟨_, GD rfl rfl (h.shut 0 rfl 0 rfl) (by kernel_rfl) rfl rfl rfl, ?_⟩
   rw [HR.out]
   exact AM.mk ⟨_, _, rfl, Sl.none_, Et⟩ h.below
  | true =>
   have HTG := Lib.hid (Fj HE.out hl)
   have HF : Hid (fragM p = true) := Lib.hid (by unfold fragM; rw [if_pos HE.out, hf])
   have HRS := Lib.hid (show RES = ((srchM L p).1, (srchM L p).2.1, (srchM L p).2.2, 0) by rw [<- hR]; unfold srchS; rw [if_pos HE.out, hl]; dsimp only; rw [if_pos hf])
   have HSTP := Lib.hid (Dz (L := L) HTG.out)
   have hsl := sat_short (L := L) HTG.out
   have hrl := HP.out.rules
   have HREL : Hid (relS p = relM L p) := Lib.hid (by unfold relS; rw [if_pos HE.out, hl])
   have HL := Lib.hid hl
   obtain ⟨SM, hSM⟩ : ∃ SM, satM L p = SM := ⟨_, rfl⟩
   rw [hSM] at hsl HSTP
   replace hSM := Lib.hid hSM
   clear hR hl hf
   obtain ⟨R, lk, st, rl, nl, gl⟩ := p
   dsimp only at hsl hrl
   obtain rfl : lk = some L := HL.out
   obtain ⟨lp, s, rv, nv, gv, e, h1, h2, h3, h4, h5⟩ := HK.out _ _ hS.ro
   dsimp only at h1 h2 h3 h4 h5
   obtain ⟨q, o, rfl, -⟩ := id h1
   obtain ⟨Cs, ns, cs, rfl⟩ := h2.shape
   obtain ⟨Ar, cr, rfl, _, _⟩ := h3.shape
   obtain ⟨An, cn, rfl, _, _⟩ := h4.shape
   obtain ⟨Ag, cg, rfl, _, _⟩ := h5.shape
   injection e with e
   subst e
   obtain ⟨KC, kc, hS2⟩ : ∃ KC : (Nat -> Prop) -> World -> Prop, Hid (∀ D w, KC D w -> K D w /\ A6 w D (.agg #[.slice Cs ns cs]) st /\ Bi w D (.slice Ar rl.length cr) rl) /\ St w0 w0 [] KC := ⟨_, Lib.hid fun D w h => ⟨h.1, h.2.1, h.2.2⟩, hS.add (D := CW []) (A5.and B9) ⟨h2, h3⟩ fun _ h _ => h⟩
   clear hS h1 h2 h3 h4 h5 hx1 hx6
   have hS := hS2
   clear hS2
   have k0 := Lib.hid fun D w h => (kc.out D w h).1
   have KSC := Lib.hid hS.stable
   obtain ⟨U, us⟩ := SM
   dsimp only at hsl HSTP
   refine (callsIn_wide (n := 6)).1 (callsIn_of_wp_marks Tryz.func30 rfl trivial ?_ rfl)
   simp only [Tryz.ntmps30, List.size_toArray, List.length_cons, List.length_nil, Nat.reduceAdd, Nat.reduceSub, Array.replicate_succ, Array.replicate_zero, List.push_toArray, List.append_toArray, List.nil_append, List.cons_append]
   refine wpIn_wide.2 ?_
   go_wp2_with (first
    | ((with_reducible refine qA 1 ?_); refine AA hS rfl _ _ rfl (.agg #[.int .i64 R, .pointer (some ⟨q, 0, none⟩), .slice Cs ns cs, .slice Ar rl.length cr, .slice An nl.length cn, .slice Ag gl.length cg]) _ rfl rfl ?_; clear hS; intro g1 w_ hS; (try simp only [Act.put, Act.eval, zz, Value.cells] at hS))
    | ((with_reducible refine qA 3 ?_); refine qa hS #[.slice none 0 0] ?_; clear hS; intro g3 w_ hS)
    | ((with_reducible refine qB ?_); refine qc ?_ ?_ <;> intro h_ <;> go_prune)
    | ((with_reducible refine qK ?_); refine qL hS Tryz.underlying31 ?_)
    | (go_at_call 31; refine (Cq (HK.out _ _ (k0.out _ _ hS.ro)) HP.out (HT.out _ _ (k0.out _ _ hS.ro))).mono ?_; rw [HE.out]; rintro r_ w_ ⟨_, rfl, rfl, hb_⟩; replace hS := hS.ext hb_; clear hb_)
    | (go_at_call 15; refine (Dv (HK.out _ _ (k0.out _ _ hS.ro)) HP.out (HT.out _ _ (k0.out _ _ hS.ro))).mono ?_; rw [HF.out]; rintro r_ w_ ⟨_, rfl, rfl, hb_⟩; replace hS := hS.ext hb_; clear hb_)
    | (go_at_call 55; refine (F6 rfl HP.out HTG.out hS (fun D w h => HK.out _ _ (k0.out _ _ h)) (fun D w h => HT.out _ _ (k0.out _ _ h))).mono ?_; rw [hSM.out]; clear hS; rintro e w_ ⟨y, u, rfl, hS⟩; obtain ⟨x7, rfl, hu1⟩ := BC hS.ro.2; obtain ⟨Au, cu, rfl, hcu, _⟩ := Be (hS.own 0 rfl))
    | ((with_reducible refine qA 7 ?_); refine qa hS #[.slice none 0 0] ?_; clear hS; intro g7 w_ hS)
    | ((with_reducible refine qA 9 ?_); refine qa hS #[.slice none 0 0] ?_; clear hS; intro g9 w_ hS)
    | ((with_reducible refine qk 27 ?_); first | (refine A7 hS 0 rfl _ _ rfl _ _ rfl _ _ rfl _ (by first | rfl | assumption) Tryz.underlying27 rfl (by kernel_rfl) ?_) | (refine A7 hS 1 rfl _ _ rfl _ _ rfl _ _ rfl _ (by first | rfl | assumption) Tryz.underlying27 rfl (by kernel_rfl) ?_) | (refine A7 hS 2 rfl _ _ rfl _ _ rfl _ _ rfl _ (by first | rfl | assumption) Tryz.underlying27 rfl (by kernel_rfl) ?_) | (refine A7 hS 3 rfl _ _ rfl _ _ rfl _ _ rfl _ (by first | rfl | assumption) Tryz.underlying27 rfl (by kernel_rfl) ?_) | (refine A7 hS 4 rfl _ _ rfl _ _ rfl _ _ rfl _ (by first | rfl | assumption) Tryz.underlying27 rfl (by kernel_rfl) ?_) | (refine A7 hS 5 rfl _ _ rfl _ _ rfl _ _ rfl _ (by first | rfl | assumption) Tryz.underlying27 rfl (by kernel_rfl) ?_))
    | ((with_reducible refine qm 27 ?_); (first | refine AH hS 0 rfl _ _ _ rfl _ _ rfl rfl _ _ rfl (by kernel_rfl) (by kernel_rfl) (by simpa using hu1) ?_ | refine AH hS 1 rfl _ _ _ rfl _ _ rfl rfl _ _ rfl (by kernel_rfl) (by kernel_rfl) (by simpa using hu1) ?_ | refine AH hS 2 rfl _ _ _ rfl _ _ rfl rfl _ _ rfl (by kernel_rfl) (by kernel_rfl) (by simpa using hu1) ?_ | refine AH hS 3 rfl _ _ _ rfl _ _ rfl rfl _ _ rfl (by kernel_rfl) (by kernel_rfl) (by simpa using hu1) ?_); clear hS; intro w_ hS; (try simp only [Act.put, Act.eval, zz, Value.cells] at hS))
    | ((with_reducible refine qM ?_); (first | refine qS hS ?_ | refine qT hS ?_); clear hS; intro w_ hS; (try simp only [Act.put, Act.eval, zz, Value.cells] at hS)))
   obtain ⟨KX, kx, hS2⟩ : ∃ KX : (Nat -> Prop) -> World -> Prop, Hid (∀ D w, KX D w -> KC D w /\ A6 w D (.agg #[x7]) U) /\ St w0 w_ [.box g9 27 #[.slice Cs ns cs], .box g7 27 #[x7], .own (.slice Au us.length cu) 3 1 us.length (AX us), .box g3 29 #[.slice none 0 0], .box g1 31 #[.int .i64 R, .pointer (some ⟨q, 0, none⟩), .slice Cs ns cs, .slice Ar rl.length cr, .slice An nl.length cn, .slice Ag gl.length cg]] KX := ⟨_, Lib.hid fun D w h => h, hS⟩
   clear hS
   have hS := hS2
   clear hS2
   have KSX := Lib.hid hS.stable
   go_loopw [10] (fun iv wr => ∃ (j : Nat) (x9 : Value), iv = .int .i64 (j : Nat) /\ j <= us.length + 1 /\ x9.oneCell' = true /\ Hid (∀ i, i < j -> reachB ⟨R, some L, st, rl, nl, gl⟩ (satS L ⟨R, some L, st, rl, nl, gl⟩ i).1 = false) /\ St w0 wr [.box g9 27 #[x9], .box g7 27 #[x7], .own (.slice Au us.length cu) 3 1 us.length (AX us), .box g3 29 #[.slice none 0 0], .box g1 31 #[.int .i64 R, .pointer (some ⟨q, 0, none⟩), .slice Cs ns cs, .slice Ar rl.length cr, .slice An nl.length cn, .slice Ag gl.length cg]] (fun D w => KX D w /\ (j <= us.length -> A6 w D (.agg #[x9]) (satS L ⟨R, some L, st, rl, nl, gl⟩ j).1))) (fun i _ => us.length + 1 - (intOf i).toNat)
   case atStart => exact ⟨0, _, rfl, by omega, rfl, Lib.hid (fun i h => by omega), hS.mono (KSX.out.and (G3 A5)) fun D w h => ⟨h, fun _ => (kc.out _ _ (kx.out _ _ h).1).2.1⟩⟩
   case round =>
    clear hS
    obtain ⟨j, x9, rfl, hj, hx9, HN, hS⟩ := hrel
    by_cases hju : j <= us.length
    ·have HTK := Lib.hid ((HSTP.out.2 j hju).1)
     have HY : Hid (reachB ⟨R, some L, st, rl, nl, gl⟩ (satS L ⟨R, some L, st, rl, nl, gl⟩ j).1 = true -> RES = (us.take j, [], true, 0)) := Lib.hid fun h => by
      rw [HRS.out]
      unfold srchM
      rw [hit_some (by rw [hSM.out]; exact hju) h HN.out]
      dsimp only
      rw [HTK.out]
     have HN2 : Hid (reachB ⟨R, some L, st, rl, nl, gl⟩ (satS L ⟨R, some L, st, rl, nl, gl⟩ j).1 = false -> ∀ i, i < j + 1 -> reachB ⟨R, some L, st, rl, nl, gl⟩ (satS L ⟨R, some L, st, rl, nl, gl⟩ i).1 = false) := Lib.hid fun h i hi => by
      rcases Nat.lt_or_ge i j with h1 | h1
      ·exact HN.out i h1
      ·obtain rfl : i = j := by omega
       exact h
     obtain ⟨N, hN⟩ : ∃ N, (satS L ⟨R, some L, st, rl, nl, gl⟩ j).1 = N := ⟨_, rfl⟩
     rw [hN] at HY HN2
     replace hS : St w0 wr [.box g9 27 #[x9], .box g7 27 #[x7], .own (.slice Au us.length cu) 3 1 us.length (AX us), .box g3 29 #[.slice none 0 0], .box g1 31 #[.int .i64 R, .pointer (some ⟨q, 0, none⟩), .slice Cs ns cs, .slice Ar rl.length cr, .slice An nl.length cn, .slice Ag gl.length cg]] (fun D w => KX D w /\ A6 w D (.agg #[x9]) N) := hS.mono (KSX.out.and A5) fun D w h => ⟨h.1, by rw [<- hN]; exact h.2 hju⟩
     obtain ⟨rb, hrb⟩ : ∃ rb, reachB ⟨R, some L, st, rl, nl, gl⟩ N = rb := ⟨_, rfl⟩
     have HRB := Lib.hid hrb
     rw [hrb] at HY HN2
     have HNN := Lib.hid hN
     clear hrb hN HN
     cases rb
     ·by_cases hlt : j < us.length
      ·obtain ⟨k, hk, hkl, HNX⟩ : ∃ k : Nat, us[j]? = some (k : Int) /\ k < rl.length /\ Hid ((satS L ⟨R, some L, st, rl, nl, gl⟩ (j + 1)).1 = Bt N (rl.getD k AL).target) := by
        have h1 := HSTP.out.2 (j + 1) hlt
        have h2 := HSTP.out.2 j hju
        cases hfc : firstC L rl (satS L ⟨R, some L, st, rl, nl, gl⟩ j).1 with
        | none =>
         rw [C2 (p := ⟨R, some L, st, rl, nl, gl⟩) hfc] at h1
         omega
        | some k =>
         have h3 := BS (p := ⟨R, some L, st, rl, nl, gl⟩) hfc
         rw [h3] at h1
         refine ⟨k, ?_, (D4 hfc).1, Lib.hid (by rw [h3, HNN.out])⟩
         have h4 := h1.1
         dsimp only at h4
         rw [h2.1] at h4
         have h5 : (us.take (j + 1))[j]? = some (k : Int) := by
          rw [<- h4, List.getElem?_append_right (by rw [List.length_take]; omega), List.length_take, Nat.min_eq_left hju]; simp
         rwa [List.getElem?_take, if_pos (by omega)] at h5
       obtain ⟨bu, ou, rfl⟩ := Hv (Sl.of_own (hS.own 2 rfl)) (by omega)
       have HY0 : Hid ((AX us)[j]? = some (.int .i64 (k : Nat))) := Lib.hid (by simp [AX, hk])
       obtain ⟨b, o2, y0, m0, rfl, _, hbl, c0, c1, c2, c3, c4, -, -⟩ := (kc.out _ _ (kx.out _ _ hS.ro.1).1).2.2.at_ hkl
       obtain ⟨t, ht, h64⟩ := HTG.out _ (List.mem_of_getElem? (Br AL hkl))
       rw [ht] at HNX c3
       clear ht hk HY HNN c0 c1 c2 c4
       go_wp2_with (first
        | ((with_reducible refine qB ?_); refine qc ?_ ?_ <;> intro h_ <;> go_prune)
        | ((with_reducible refine qA 33 ?_); refine BigFrame.wpList_want rfl fun _ hK => AQ rfl rfl (hS.box 4 rfl) Tryz.underlying31 rfl (by kernel_rfl) (hK _ _ ?_))
        | ((with_reducible refine qA 34 ?_); refine BigFrame.wpList_want rfl fun _ hK => AQ rfl rfl (hS.box 0 rfl) Tryz.underlying27 rfl (by kernel_rfl) (hK _ _ ?_))
        | (go_at_call 25; refine (CZ (HK.out _ _ (k0.out _ _ (kx.out _ _ hS.ro.1).1)) HP.out (HT.out _ _ (k0.out _ _ (kx.out _ _ hS.ro.1).1)) hS.ro.2).mono ?_; rw [HRB.out]; rintro r_ w_ ⟨_, rfl, rfl, hb_⟩; replace hS := hS.ext hb_; replace c3 := (hb_.cell hbl).trans c3; replace hbl := Nat.lt_of_lt_of_le hbl hb_.size; clear hb_))
       refine Ge 11 [] [.i (.agg #[x9]), .q g1 3, .i (.slice (some ⟨b, o2, none⟩) rl.length cr), .i (.slice (some ⟨bu, ou, none⟩) us.length cu), .n (j : Nat), .q bu (ou + (j) * 1), .n (k : Nat), .q b (o2 + (k) * 5), .q b (o2 + (k) * 5 + 3), .n (t : Nat), .s (fun v w => ∃ u, v = .agg #[u] /\ u.oneCell' = true /\ A6 w (fun z => CW [.box g9 27 #[x9], .box g7 27 #[x7], .own (.slice (some ⟨bu, ou, none⟩) us.length cu) 3 1 us.length (AX us), .box g3 29 #[.slice none 0 0], .box g1 31 #[.int .i64 R, .pointer (some ⟨q, 0, none⟩), .slice Cs ns cs, .slice (some ⟨b, o2, none⟩) rl.length cr, .slice An nl.length cn, .slice Ag gl.length cg]] z \/ w_.heap.size <= z) (.agg #[u]) (Bt N (t : Nat))) fun v w w' h hb => ⟨_, h.choose_spec.1, h.choose_spec.2.1, h.choose_spec.2.2.ext hb⟩, .t] ⟨uR (h := fun w hW hN => (hS.ext hW).box 0 rfl), uF, uC (h := fun w hW hN => (hS.ext hW).shut 4 rfl 3 rfl), uM, uM, uI (h := fun w hW hN => Ak (m := j) Tryz.underlying45 (by kernel_rfl) (by omega) (by omega)), uC (h := fun w hW hN => by rw [Nat.mul_one]; exact CH (Sl.of_own ((hS.ext hW).own 2 rfl)) HY0.out), uI (h := fun w hW hN => Ak (m := k) Tryz.underlying28 (by kernel_rfl) (by omega) (by omega)), uF, uC (h := fun w hW hN => (hW.cell hbl).trans c3), ?_, trivial⟩ ?_
       ·refine uT fun b__ w hW hE K hK => ?_
        have e44 := hE 44
        have e53 := hE 53
        refine AC rfl (by kernel_rfl) (by simp only [List.map_cons, List.map_nil, e44, e53]) (D6 (.agg #[x9]) N (t : Nat) w _ (hS.ext hW).ro.2) fun v w' h hb => ?_
        obtain ⟨u, rfl, h1⟩ := BC h
        exact hK _ w' ⟨u, rfl, h1, h.imp fun z hz _ => hz.imp id fun hz => Nat.le_trans hW.size hz⟩ hb
       ·intro vs wz hW hT
        obtain ⟨e44, e45, e46, e47, e48, e49, e50, e51, e52, e53, e54, -⟩ := hT
        have bx : (fun _ : Nat => True) 0 := trivial
        simp only [AE, Act.put, zz, ze]
        obtain ⟨u9, e54, hu9, hset⟩ := e54
        have hS1 := (hS.ext hW).add (A5 (v := .agg #[u9]) (N := Bt N (t : Nat))) hset fun z hz _ => hz.elim id hS.fresh
        (intro o_ ho_; simp only [List.getElem?_toArray, List.getElem?_cons_succ, List.getElem?_cons_zero, Option.some.injEq] at ho_; subst ho_)
        refine BT rfl rfl e54 (hS1.box 0 rfl) (by kernel_rfl) rfl (by simpa using hu9) fun w10 h10 hU10 => ?_
        replace hS1 := hS1.upd 0 rfl (.box g9 27 #[u9]) (Bg hU10) ⟨(hS1.holds (.box g9 27 #[x9]) (by simp)).1, h10⟩ fun _ e => .inl e
        simp only [Ca]
        simp only [Act.put, List.setIfInBounds_toArray, List.set_cons_zero, List.set_cons_succ]
        clear e44 e45 e46 e47 e48 e49 e50 e51 e52 e53 e54 hset hW hS
        go_wp2_with fail
        exact ⟨⟨j + 1, u9, by go_num, by omega, hu9, Lib.hid (HN2.out (by trivial)), hS1.mono (KSX.out.and (G3 A5)) fun D w h => ⟨h.1.1, fun _ => by rw [HNX.out]; exact h.2⟩⟩, by simp [intOf]; omega⟩
      ·obtain rfl : j = us.length := by omega
       clear HY HNN
       go_wp2_with (first
        | ((with_reducible refine qB ?_); refine qc ?_ ?_ <;> intro h_ <;> go_prune)
        | ((with_reducible refine qA 33 ?_); refine BigFrame.wpList_want rfl fun _ hK => AQ rfl rfl (hS.box 4 rfl) Tryz.underlying31 rfl (by kernel_rfl) (hK _ _ ?_))
        | ((with_reducible refine qA 34 ?_); refine BigFrame.wpList_want rfl fun _ hK => AQ rfl rfl (hS.box 0 rfl) Tryz.underlying27 rfl (by kernel_rfl) (hK _ _ ?_))
        | (go_at_call 25; refine (CZ (HK.out _ _ (k0.out _ _ (kx.out _ _ hS.ro.1).1)) HP.out (HT.out _ _ (k0.out _ _ (kx.out _ _ hS.ro.1).1)) hS.ro.2).mono ?_; rw [HRB.out]; rintro r_ w_ ⟨_, rfl, rfl, hb_⟩; replace hS := hS.ext hb_; clear hb_))
       exact ⟨⟨us.length + 1, x9, by go_num, by omega, hx9, Lib.hid (HN2.out (by trivial)), hS.mono (KSX.out.and (G3 A5)) fun D w h => ⟨h.1, fun h => by omega⟩⟩, by simp [intOf]⟩
     ·have HY2 := Lib.hid (HY.out (by trivial))
      clear HY HN2 HNN
      go_wp2_with (first
       | ((with_reducible refine qB ?_); refine qc ?_ ?_ <;> intro h_ <;> go_prune)
       | ((with_reducible refine qA 33 ?_); refine BigFrame.wpList_want rfl fun _ hK => AQ rfl rfl (hS.box 4 rfl) Tryz.underlying31 rfl (by kernel_rfl) (hK _ _ ?_))
       | ((with_reducible refine qA 34 ?_); refine BigFrame.wpList_want rfl fun _ hK => AQ rfl rfl (hS.box 0 rfl) Tryz.underlying27 rfl (by kernel_rfl) (hK _ _ ?_))
       | (go_at_call 25; refine (CZ (HK.out _ _ (k0.out _ _ (kx.out _ _ hS.ro.1).1)) HP.out (HT.out _ _ (k0.out _ _ (kx.out _ _ hS.ro.1).1)) hS.ro.2).mono ?_; rw [HRB.out]; rintro r_ w_ ⟨_, rfl, rfl, hb_⟩; replace hS := hS.ext hb_; clear hb_)
       | ((with_reducible refine qA 39 ?_); refine BigFrame.wpList_want rfl fun _ hK => opw_sl3 (k := j) rfl Tryz.underlying45 ⟨1, by kernel_rfl⟩ rfl rfl rfl (by omega) (hK _ _ ?_))
       | ((with_reducible refine qM ?_); (first | refine qS hS ?_ | refine qT hS ?_); clear hS; intro w_ hS; (try simp only [Act.put, Act.eval, zz, Value.cells] at hS)))
      refine C4 (F := [.box g9 27 #[x9], .box g7 27 #[x7], .own (.slice Au us.length cu) 3 1 us.length (AX us), .box g3 29 #[.slice none 0 0], .box g1 31 #[.int .i64 R, .pointer (some ⟨q, 0, none⟩), .slice Cs ns cs, .slice Ar rl.length cr, .slice An nl.length cn, .slice Ag gl.length cg]]) ?_ [] _ (by simpa [Ce] using hS)
      intro w' h
      refine ⟨_, GD rfl rfl (h.shut 3 rfl 0 rfl) (by kernel_rfl) rfl rfl rfl, ?_⟩
      rw [HY2.out]
      refine AM.mk ⟨_, _, rfl, ?_, Et⟩ h.below
      have h3 := (Sl.of_own (h.own 2 rfl)).take (k := j) hju
      have h4 : (us.take j).length = j := by rw [List.length_take]; omega
      have h5 : (AX us).take j = AX (us.take j) := by unfold AX; rw [List.map_take]
      rw [h5] at h3
      dsimp only
      rw [h4]
      exact sl_cap h3
    ·obtain rfl : j = us.length + 1 := by omega
     obtain ⟨RL, hRL⟩ : ∃ RL, relM L ⟨R, some L, st, rl, nl, gl⟩ = RL := ⟨_, rfl⟩
     obtain ⟨N, hN⟩ : ∃ N, Fe RL U = N := ⟨_, rfl⟩
     have HN64 : Hid (N < BK) := Lib.hid (by
      rw [<- hN, <- hRL, Cn]
      exact minus_lt (by have := relM_lt L ⟨R, some L, st, rl, nl, gl⟩; rwa [Cn] at this))
     have HZ : Hid (RES = ([], oneC N, false, 0)) := Lib.hid (by
      rw [HRS.out]
      unfold srchM
      rw [hit_none (fun i hi => HN.out i (by rw [hSM.out] at hi; dsimp only at hi; omega)), hSM.out, hRL, hN])
     have HRL : Hid (relS ⟨R, some L, st, rl, nl, gl⟩ = RL) := Lib.hid (by rw [HREL.out, hRL])
     have HNN := Lib.hid hN
     clear hN hRL HN HRS HSTP
     replace hS : St w0 wr [.box g9 27 #[x9], .box g7 27 #[x7], .own (.slice Au us.length cu) 3 1 us.length (AX us), .box g3 29 #[.slice none 0 0], .box g1 31 #[.int .i64 R, .pointer (some ⟨q, 0, none⟩), .slice Cs ns cs, .slice Ar rl.length cr, .slice An nl.length cn, .slice Ag gl.length cg]] KX := hS.mono KSX.out fun D w h => h.1
     go_wp2_with (first | ((with_reducible refine qB ?_); refine qc ?_ ?_ <;> intro h_ <;> go_prune))
     refine Ci [.i (.agg #[.int .i64 R, .pointer (some ⟨q, 0, none⟩), .slice Cs ns cs, .slice Ar rl.length cr, .slice An nl.length cn, .slice Ag gl.length cg]), .s (fun v w => A6 w (fun _ => True) v RL) fun v w w' h hb => h.ext hb, .i (.agg #[x7]), .s (fun v w => A6 w (fun z => wr.heap.size <= z) v N) fun v w w' h hb => h.ext hb, .s (fun v w => ∃ Bs A cap ws, v = .func (.func 102) #[] #[.pointer (some ⟨Bs, 0, none⟩)] /\ C0 ws /\ Bp ws = N /\ Sl w (fun z => wr.heap.size <= z) 1 (.slice A ws.length cap) ws.length (BE ws) /\ wr.heap.size <= Bs /\ Co w Bs 27 #[.slice A ws.length cap]) fun v w w' h hb => by obtain ⟨Bs, A, cap, ws, h1, h2, h3, h4, h5, h6⟩ := h; exact ⟨Bs, A, cap, ws, h1, h2, h3, h4.ext hb, h5, h6.ext hb⟩] ⟨uR (h := fun w hW hN => (hS.ext hW).box 4 rfl), ?_, uR (h := fun w hW hN => (hS.ext hW).box 1 rfl), ?_, ?_, trivial⟩ ?_
     ·refine uT fun b__ w hW hE K hK => ?_
      have e55 := hE 55
      exact AC rfl (by kernel_rfl) (by simp only [List.map_cons, List.map_nil, e55]) (relevant_any (HK.out _ _ (k0.out _ _ (kx.out _ _ (hS.ext hW).ro).1)) HP.out (HT.out _ _ (k0.out _ _ (kx.out _ _ (hS.ext hW).ro).1))) fun v w' h hb => hK v w' (by rw [<- HRL.out]; exact h.imp fun _ _ _ => trivial) hb
     ·refine uT fun b__ w hW hE K hK => ?_
      have e56 := hE 56
      have e57 := hE 57
      exact AC rfl (by kernel_rfl) (by simp only [List.map_cons, List.map_nil, e57]) (minus_any e56 (kx.out _ _ (hS.ext hW).ro).2) fun v w' h hb => hK v w' (by rw [<- HNN.out]; exact h.imp fun z hz _ => Nat.le_trans hW.size hz) hb
     ·refine uT fun b__ w hW hE K hK => ?_
      have e58 := hE 58
      refine AC rfl (by kernel_rfl) (by simp only [List.map_cons, List.map_nil]) (Gw _ N _ _ e58) fun v w' h hb => ?_
      obtain ⟨Bs, A, cap, ws, h1, -, h3, h4, h5, h6, h7⟩ := h
      exact hK v w' ⟨Bs, A, cap, ws, h1, h3, h4, h5.ext hb, Nat.le_trans hW.size h6, h7⟩ hb
     ·intro vs wz hW hT
      obtain ⟨e55, e56, e57, e58, e59, -⟩ := hT
      have bx : (fun _ : Nat => True) 0 := trivial
      simp only [AE, Act.put, zz, ze]
      obtain ⟨Bs, A, cap, ws, hfv, hcn, hvN, hsl, hBs, hX⟩ := e59
      rw [hfv]
      replace hS := hS.good2 hW hsl (HT.out _ _ (k0.out _ _ (kx.out _ _ hS.ro).1)) (HTB.out _ _ (k0.out _ _ (kx.out _ _ hS.ro).1)) hBs hX
      replace hS := hS.nil 54 2
      obtain ⟨KK, kG, KKS, hS2⟩ : ∃ KK : (Nat -> Prop) -> World -> Prop, (∀ D w, KK D w -> He Bs A cap ws w) /\ AK KK /\ St w0 wz [.own (.slice none 0 0) 54 2 0 [], .box g9 27 #[x9], .box g7 27 #[x7], .own (.slice Au us.length cu) 3 1 us.length (AX us), .box g3 29 #[.slice none 0 0], .box g1 31 #[.int .i64 R, .pointer (some ⟨q, 0, none⟩), .slice Cs ns cs, .slice Ar rl.length cr, .slice An nl.length cn, .slice Ag gl.length cg]] KK := ⟨_, fun D w h => h.2.1, hS.stable, hS⟩
      clear hS
      have hS := hS2
      clear hS2
      have HCN := Lib.hid hcn
      have HMEM : Hid ((BU ws).map (fun x => (2 ^ x.toNat, 0)) = oneC N) := Lib.hid (by rw [<- hvN]; exact memL_one hcn (by rw [hvN]; exact HN64.out))
      have HML : Hid ((BU ws).length <= 4096) := Lib.hid (by
       have := memTo_len (Bp ws) (64 * ws.length)
       have := hcn.2.2
       simp [BU, AF]; omega)
      have HVB : Hid (∀ k, (Bp ws).testBit k = true -> k <= 4095) := Lib.hid fun k hk => by
       rcases Nat.lt_or_ge k 64 with h | h
       ·omega
       ·rw [hvN, EY HN64.out h] at hk; cases hk
      clear hsl hX hBs hW hfv e55 e56 e57 e58 hcn hvN hju hj
      go_wp2_with fail
      have hsz := hS.size
      refine (wpIn_wide (n := 6)).1 ?_
      refine Gg fun act hact => ?_
      refine EB hS HCN.out.1 HCN.out.2.2 kG (by rw [hact]; rfl) rfl
       (fun pre F' K' => ∃ cv xs', F' = [.own cv 54 2 pre.length xs', .box g9 27 #[x9], .box g7 27 #[x7], .own (.slice Au us.length cu) 3 1 us.length (AX us), .box g3 29 #[cv], .box g1 31 #[.int .i64 R, .pointer (some ⟨q, 0, none⟩), .slice Cs ns cs, .slice Ar rl.length cr, .slice An nl.length cn, .slice Ag gl.length cg]] /\ AK K' /\ ∀ D w, K' D w -> KK D w /\ Ax w (fun z => D z /\ w0.heap.size <= z) xs' (pre.map fun x => (2 ^ x.toNat, 0)))
       (fun _ _ _ _ => False) (fun s F K' h D w hk => by obtain ⟨_, _, _, _, h4⟩ := h; exact (h4 D w hk).1) ?hr (fun _ _ _ _ h => h.elim) ⟨_, _, rfl, KKS, fun D w h => ⟨h, fun i y n hi => by simp at hi⟩⟩
       (fun x => { tmps := (act.tmps.setIfInBounds 60 (.int .i64 x)).setIfInBounds 11 (.int .i64 x), defers := [] }) ?assign ?body ?done (fun _ _ _ _ _ _ _ _ h _ _ => h.elim)
      case hr =>
       rintro s F K' ⟨cv, xs', rfl, _⟩ f hf
       simp only [List.mem_cons, List.not_mem_nil, or_false] at hf
       rcases hf with rfl | rfl | rfl | rfl | rfl | rfl <;> exact .inl rfl
      case assign =>
       intro l x W K hK
       subst hact
       rw [It]
       refine wpIn_region_lit ?_
       refine FC (by intro _ _ h; exact h) _ _ _ (by rfl) _ _ ?_
       refine wpList_plain rfl fun _ hK' => CC (v := .int .i64 x) rfl (by rfl) (hK' _ _ ?_)
       exact wpList_nil hK
      case body =>
       rintro l pre x hx W F' Xo K' ⟨cv, xs', rfl, hKs, hk'⟩ hS hlt
       subst hact
       obtain ⟨k, rfl⟩ := GU hx
       have hk4 : k <= 4095 := HVB.out k ((DN HCN.out.1).1 hx)
       have hml := HML.out
       have HOF := Lib.hid (ofN_one hk4)
       have HKP := Lib.hid hk'
       obtain ⟨Ac, cc, rfl, _, _⟩ := Be (hS.own 0 rfl)
       have HXL : Hid (xs'.length = pre.length * 2) := Lib.hid (hS.own 0 rfl).1
       clear hx hk'
       simp only [Act.put, List.setIfInBounds_toArray, List.set_cons_zero, List.set_cons_succ]
       refine wpIn_block ?_
       refine D5 (by kernel_rfl) (by intro _ _ h; exact h) (by rfl) ?_
       refine Jt 6 [7] [.i (.slice Ac pre.length cc), .n (k : Nat), .s (fun v w => Sl w (fun _ => True) 1 v ([(k : Int)] : List Int).length (AX [(k : Int)])) fun v w w' h hb => h.ext hb, .s (fun v w => ∃ A n c, v = .agg #[.slice A n c] /\ A6 w (fun z => W.heap.size <= z) (.agg #[.slice A n c]) (2 ^ k)) fun v w w' h hb => by obtain ⟨A, n, c, h1, h2⟩ := h; exact ⟨A, n, c, h1, h2.ext hb⟩, .s (fun v w => ∃ A n c, v = .agg #[.slice A n c, .slice none 0 0] /\ A6 w (fun z => W.heap.size <= z) (.agg #[.slice A n c]) (2 ^ k)) fun v w w' h hb => by obtain ⟨A, n, c, h1, h2⟩ := h; exact ⟨A, n, c, h1, h2.ext hb⟩, .s (fun v w => ∃ A n c, Sl w (fun _ => True) 2 v 1 [.slice A n c, .slice none 0 0] /\ A6 w (fun z => W.heap.size <= z) (.agg #[.slice A n c]) (2 ^ k)) fun v w w' h hb => by obtain ⟨A, n, c, h1, h2⟩ := h; exact ⟨A, n, c, h1.ext hb, h2.ext hb⟩, .t, .t] ⟨uC (h := fun w hW hN => (hS.ext hW).shut 4 rfl 0 rfl), uM, ?_, ?_, ?_, ?_, trivial⟩ ?_
       ·refine uT fun b__ w hW hE K hK => ?_
        have e62 := hE 62
        refine Bj rfl Tryz.underlying45 (ps := [(0, .int .i64 (k : Nat))]) (by simp [e62]) (cells := #[.int .i64 (k : Nat)]) (by kernel_rfl) fun w' hX hb => hK _ _ ((Sl.of_box (n := 1) (size := 1) hX rfl (by omega)).imp fun _ _ _ => trivial) hb
       ·refine uT fun b__ w hW hE K hK => ?_
        have e63 := hE 63
        refine AC rfl (by kernel_rfl) (by simp only [List.map_cons, List.map_nil]) (J9 _ [(k : Int)] _ _ e63) fun v w' h hb => ?_
        obtain ⟨A, c, l, rfl, -⟩ := id h.parts
        exact hK _ w' ⟨A, _, c, rfl, by rw [<- HOF.out]; exact h.imp fun z hz _ => Nat.le_trans hW.size hz⟩ hb
       ·refine uT fun b__ w hW hE K hK => ?_
        have e64 := hE 64
        obtain ⟨A, n, c, h1, h2⟩ := e64
        exact CJ rfl (ps := [(0, .agg #[.slice A n c])]) (by simp [h1]) (cells := #[.slice A n c, .slice none 0 0]) (by kernel_rfl) (hK _ _ ⟨A, n, c, rfl, h2⟩ (Below.refl _ _))
       ·refine uT fun b__ w hW hE K hK => ?_
        have e65 := hE 65
        obtain ⟨A, n, c, h1, h2⟩ := e65
        refine Bj rfl Tryz.underlying29 (ps := [(0, .agg #[.slice A n c, .slice none 0 0])]) (by simp [h1]) (cells := #[.slice A n c, .slice none 0 0]) (by kernel_rfl) fun w' hX hb => hK _ _ ⟨A, n, c, (Sl.of_box (n := 1) (size := 2) hX rfl (by omega)).imp fun _ _ _ => trivial, h2.ext hb⟩ hb
       ·intro vs wz hW hT
        obtain ⟨e61, e62, e63, e64, e65, e66, -⟩ := hT
        have bx : (fun _ : Nat => True) 0 := trivial
        simp only [AE, Act.put, zz, ze]
        obtain ⟨A2, n2, c2, hsl, hset⟩ := e66
        have hsW := hS.size
        have hS1 := hS.ret hW (AP (A5 (v := .agg #[.slice A2 n2 c2]) (N := 2 ^ k)) fun z => w0.heap.size <= z) (hset.imp fun z hz _ => ⟨hz, Nat.le_trans hsW hz⟩)
        (intro o_ ho_; simp only [List.getElem?_toArray, List.getElem?_cons_succ, List.getElem?_cons_zero, Option.some.injEq] at ho_; subst ho_)
        refine Du rfl EW e61 (hS1.own 0 rfl) rfl hsl (by intro u hu; simp at hu; rcases hu with rfl | rfl <;> rfl) (by omega) (by omega) hS1.size fun v9 w9 ho9 hg9 hat9 => ?_
        replace hS1 := hS1.upd 0 rfl (.own v9 54 2 (pre.length + 1) (xs' ++ [Value.slice A2 n2 c2, Value.slice none 0 0])) hg9 ho9 hat9
        (intro o_ ho_; simp only [List.getElem?_toArray, List.getElem?_cons_succ, List.getElem?_cons_zero, Option.some.injEq] at ho_; subst ho_)
        simp only [Act.put, List.setIfInBounds_toArray, List.set_cons_zero, List.set_cons_succ]
        refine CB (v := v9) rfl rfl rfl (hS1.box 4 rfl) (by simp) (Em ho9) (GI ho9) (by kernel_rfl) fun w10 h10 hU10 => ?_
        replace hS1 := hS1.upd 4 rfl (.box g3 29 #[v9]) (Bg hU10) ⟨(hS1.holds (.box g3 29 #[.slice Ac pre.length cc]) (by simp)).1, h10⟩ fun _ e => .inl e
        refine ⟨_, _, ⟨v9, xs' ++ [.slice A2 n2 c2, .slice none 0 0], rfl, hS1.stable, fun D w h => ⟨(HKP.out D w h.1.1).1, ?_⟩⟩, by rw [hU10.size]; exact Nat.le_trans hW.size hg9.size, by rw [List.length_append, List.length_singleton]; exact hS1⟩
        rw [List.map_append]
        exact Ax.append (by rw [HXL.out, List.length_map]) (HKP.out D w h.1.1).2 (FF (by simpa using h.2) A6.empty)
      case done =>
       rintro D W F' K' hD ⟨cv, xs', rfl, hKs, hk'⟩ hS hK
       subst hact
       have hM := hS.mark hsz hD (by
        intro f hf
        simp only [List.mem_cons, List.not_mem_nil, or_false] at hf
        rcases hf with rfl | rfl | rfl | rfl | rfl | rfl <;> exact .inl rfl) hK rfl
       have HKP := Lib.hid hk'
       obtain ⟨Ac, cc, rfl, _, _⟩ := Be (hS.own 0 rfl)
       clear hk' hS hK
       have hS := hM
       clear hM
       simp only [List.cons_append, List.nil_append] at hS
       go_wp2_with fail
       refine Ge 2 [3, 4] [.i (.slice Ac (BU ws).length cc), .i (.slice none 0 0), .t, .t, .t] ⟨uC (h := fun w hW hN => (hS.ext hW).shut 4 rfl 0 rfl), uA, trivial⟩ ?_
       ·intro vs wz hW hT
        obtain ⟨e68, e2, -⟩ := hT
        simp only [AE, Act.put, zz, ze]
        replace hS := hS.ext hW
        (intro o_ ho_; simp only [List.getElem?_toArray, List.getElem?_cons_succ, List.getElem?_cons_zero, Option.some.injEq] at ho_; subst ho_)
        refine CB (v := .slice Ac (BU ws).length cc) rfl rfl e68 (hS.box 4 rfl) (by simp) rfl rfl (by kernel_rfl) fun w10 h10 hU10 => ?_
        replace hS := hS.upd 4 rfl (.box g3 29 #[.slice Ac (BU ws).length cc]) (Bg hU10) ⟨(hS.holds (.box g3 29 #[.slice Ac (BU ws).length cc]) (by simp)).1, h10⟩ fun _ e => .inl e
        simp only [Ca]
        simp only [Act.put, List.setIfInBounds_toArray, List.set_cons_zero, List.set_cons_succ]
        (intro o_ ho_; simp only [List.getElem?_toArray, List.getElem?_cons_succ, List.getElem?_cons_zero, Option.some.injEq] at ho_; subst ho_)
        refine CC (v := .bool false) rfl rfl ?_
        simp only [Ca]
        simp only [Act.put, List.setIfInBounds_toArray, List.set_cons_zero, List.set_cons_succ]
        (intro o_ ho_; simp only [List.getElem?_toArray, List.getElem?_cons_succ, List.getElem?_cons_zero, Option.some.injEq] at ho_; subst ho_)
        refine CC (v := .int .i64 0) rfl rfl ?_
        simp only [Ca]
        simp only [Act.put, List.setIfInBounds_toArray, List.set_cons_zero, List.set_cons_succ]
        rw [e2]
        go_wp2_with fail
        refine C4 (F := [.own (.slice Ac (BU ws).length cc) 54 2 (BU ws).length xs', .box g9 27 #[x9], .box g7 27 #[x7], .own (.slice Au us.length cu) 3 1 us.length (AX us), .box g3 29 #[.slice Ac (BU ws).length cc], .box g1 31 #[.int .i64 R, .pointer (some ⟨q, 0, none⟩), .slice Cs ns cs, .slice Ar rl.length cr, .slice An nl.length cn, .slice Ag gl.length cg]]) ?_ [D] _ hS
        intro w' h
        refine ⟨_, GD rfl rfl (h.shut 4 rfl 0 rfl) (by kernel_rfl) rfl rfl rfl, ?_⟩
        rw [HZ.out]
        refine AM.mk ⟨_, _, rfl, Sl.none_, xs', ?_, ?_⟩ h.below
        ·have := Sl.of_own (h.own 0 rfl)
         rw [<- HMEM.out]
         simpa using this
        ·have := (HKP.out _ _ h.ro).2
         rw [HMEM.out] at this
         exact this.imp fun z hz _ => hz.2
 ·have HR := Lib.hid (show RES = ([], [], false, e) by rw [<- hR]; unfold srchS; rw [HE.out, if_neg h0])
  clear hR
  refine (callsIn_wide (n := 6)).1 (callsIn_of_wp_marks Tryz.func30 rfl trivial ?_ rfl)
  simp only [Tryz.ntmps30, List.size_toArray, List.length_cons, List.length_nil, Nat.reduceAdd, Nat.reduceSub, Array.replicate_succ, Array.replicate_zero, List.push_toArray, List.append_toArray, List.nil_append, List.cons_append]
  refine wpIn_wide.2 ?_
  go_wp2_with (first
   | ((with_reducible refine qA 1 ?_); refine AA hS rfl _ _ rfl (.agg xs) xs rfl rfl ?_; clear hS; intro g1 w_ hS; (try simp only [Act.put, Act.eval, zz, Value.cells] at hS))
   | ((with_reducible refine qA 3 ?_); refine qa hS #[.slice none 0 0] ?_; clear hS; intro g3 w_ hS)
   | ((with_reducible refine qB ?_); refine qc ?_ ?_ <;> intro h_ <;> go_prune)
   | ((with_reducible refine qk 31 ?_); refine BigFrame.wpList_want rfl fun _ hK => AQ rfl rfl (hS.box 1 rfl) Tryz.underlying31 rfl (by rw [hx6.out]; kernel_rfl) (hK _ _ ?_))
   | (go_at_call 31; refine (Cq (HK.out _ _ hS.ro) HP.out (HT.out _ _ hS.ro)).mono ?_; rw [HE.out]; rintro r_ w_ ⟨_, rfl, rfl, hb_⟩; replace hS := hS.ext hb_; clear hb_)
   | ((with_reducible refine qM ?_); (first | refine qS hS ?_ | refine qT hS ?_); clear hS; intro w_ hS; (try simp only [Act.put, Act.eval, zz, Value.cells] at hS)))
  refine C4 (F := [.box g3 29 #[.slice none 0 0], .box g1 31 xs]) ?_ [] _ (by simpa [Ce] using hS)
  intro w' h
  refine ⟨_, GD rfl rfl (h.shut 0 rfl 0 rfl) (by kernel_rfl) rfl rfl rfl, ?_⟩
  rw [HR.out]
  exact AM.mk ⟨_, _, rfl, Sl.none_, Et⟩ h.below
end
section
open Go.RowKit
attribute [local go_sem ↓] Go.wp_at_zero Go.wp_at_succ
set_option maxRecDepth 20000
set_option exponentiation.threshold 5000
set_option maxHeartbeats 2000000 in
theorem lmade_any {w0 w : World} {F : List Aj} {K : (Nat -> Prop) -> World -> Prop} {v : Value} {l : List Nat} (b : Bool) (hl : ∀ x ∈ l, x < 256) (hS : St w0 w F K) (kp : ∀ D w, K D w -> Sl w D 1 v l.length (G1 l)) (kt : ∀ D w, K D w -> Bx w /\ D 0) :
  Calls Tryz.prog 13 #[v, .bool b] w fun e w' => ∃ x u, e = .returned (.tuple #[x, u, .bool true]) /\ ∃ p, (∃ L R, Cu p L R) /\ (b = true -> CD p = true) /\ St w0 w' F fun D w => K D w /\ B7 w D x p /\ CO w D u p := by
 have HL := Lib.hid hl
 have KS := Lib.hid hS.stable
 cases b
 ·go_enter Tryz.func13, Tryz.ntmps13
  go_wp2_with (first
   | ((with_reducible refine qA 4 ?_); refine qa hS #[.int .i64 0, .pointer none, .slice none 0 0, .slice none 0 0, .slice none 0 0, .slice none 0 0] ?_; clear hS; intro g4 w_ hS)
   | ((with_reducible refine qA 5 ?_); refine qa hS #[.int .i64 0, .slice none 0 0, .int .u64 0, .slice none 0 0, .slice none 0 0, .slice none 0 0] ?_; clear hS; intro g5 w_ hS)
   | ((with_reducible refine qA 7 ?_); refine qa hS #[.int .i64 0, .slice none 0 0, .int .u64 0, .slice none 0 0, .slice none 0 0, .slice none 0 0] ?_; clear hS; intro g7 w_ hS)
   | ((with_reducible refine qA 8 ?_); refine qa hS #[.int .i64 0, .pointer none, .slice none 0 0, .slice none 0 0, .slice none 0 0, .slice none 0 0] ?_; clear hS; intro g8 w_ hS)
   | (go_at_call 50; refine (I7 HL.out hS kp).mono ?_; clear hS; rintro e w_ ⟨u, p, L, R, rfl, hM, hS⟩; replace hM := Lib.hid hM; obtain ⟨us0, rfl, hv6, hv1⟩ := hS.ro.2.cells; replace hv6 := Lib.hid hv6)
   | (go_at_call 52; refine (GV hM.out.links hM.out.hok (by have := hM.out.len; omega) hM.out.fits hS (fun D w h => h.2) (fun D w h => kt D w h.1)).mono ?_; clear hS; rintro e w_ ⟨x, rfl, hS⟩; obtain ⟨xs, rfl, hx6, hx1⟩ := hS.ro.2.cells; replace hx6 := Lib.hid hx6)
   | ((with_reducible refine qm 37 ?_); (refine AH hS 0 rfl _ _ _ rfl _ _ rfl rfl _ _ rfl (by rw [hv6.out]; kernel_rfl) (by rw [hv6.out]; rfl) hv1 ?_; clear hS; intro w_ hS; (try simp only [Act.put, Act.eval, zz, Value.cells] at hS)))
   | ((with_reducible refine qm 31 ?_); (refine AH hS 0 rfl _ _ _ rfl _ _ rfl rfl _ _ rfl (by rw [hx6.out]; kernel_rfl) (by rw [hx6.out]; rfl) hx1 ?_; clear hS; intro w_ hS; (try simp only [Act.put, Act.eval, zz, Value.cells] at hS)))
   | ((with_reducible refine qA 16 ?_); refine BigFrame.wpList_want rfl fun _ hK => AQ rfl rfl (hS.box 0 rfl) Tryz.underlying37 rfl (by rw [hv6.out]; kernel_rfl) (hK _ _ ?_)))
  obtain ⟨us, hus⟩ : ∃ us, us = us0 := ⟨_, rfl⟩
  subst hus
  have hu6 := hv6
  have hu1 := hv1
  obtain ⟨K7, k7, hJ0⟩ : ∃ K7 : (Nat -> Prop) -> World -> Prop, Hid (∀ D w, K7 D w -> (K D w /\ CO w D (.agg us) p) /\ B7 w D (.agg xs) p) /\ St w0 w_.drew (.box g8 31 xs :: .box g7 37 us :: .box g5 37 (cond (false, false).2 us #[.int .i64 0, .slice none 0 0, .int .u64 0, .slice none 0 0, .slice none 0 0, .slice none 0 0]) :: .box g4 31 (cond (false, false).1 xs #[.int .i64 0, .pointer none, .slice none 0 0, .slice none 0 0, .slice none 0 0, .slice none 0 0]) :: F) K7 := ⟨_, Lib.hid fun _ _ h => h, hS.drew⟩
  have hRr := @SR.refl w0 (fun s => .box g8 31 xs :: .box g7 37 us :: .box g5 37 (cond s.2 us #[.int .i64 0, .slice none 0 0, .int .u64 0, .slice none 0 0, .slice none 0 0, .slice none 0 0]) :: .box g4 31 (cond s.1 xs #[.int .i64 0, .pointer none, .slice none 0 0, .slice none 0 0, .slice none 0 0, .slice none 0 0]) :: F) K7
  have hRt := @SR.trans w0 (fun s => .box g8 31 xs :: .box g7 37 us :: .box g5 37 (cond s.2 us #[.int .i64 0, .slice none 0 0, .int .u64 0, .slice none 0 0, .slice none 0 0, .slice none 0 0]) :: .box g4 31 (cond s.1 xs #[.int .i64 0, .pointer none, .slice none 0 0, .slice none 0 0, .slice none 0 0, .slice none 0 0]) :: F) K7
  have hN0 : ∀ _ : Nat, True := fun _ => trivial
  clear hS
  refine EN (SR w0 (fun s => .box g8 31 xs :: .box g7 37 us :: .box g5 37 (cond s.2 us #[.int .i64 0, .slice none 0 0, .int .u64 0, .slice none 0 0, .slice none 0 0, .slice none 0 0]) :: .box g4 31 (cond s.1 xs #[.int .i64 0, .pointer none, .slice none 0 0, .slice none 0 0, .slice none 0 0, .slice none 0 0]) :: F) K7) (fun _ _ => True) ((false, false)) hRr hRt [.i (.agg xs), .i (.agg us), .b true, .s (fun v w => w.2.1 = true) fun v w w' h hb => hb.2.1 h, .s (fun v w => w.2.2 = true) fun v w w' h hb => hb.2.2 h, .b true] ?_ ⟨?_, ?_, uM, ?_, ?_, uA, trivial⟩ ?_
  ·first | assumption | (intro i; (try dsimp only); split <;> first | trivial | assumption | (left; assumption))
  ·refine uG fun b__ w hW hN hE K hK => ?_
   have e8 : b__.eval (.tmp 8) = .pointer (some ⟨g8, 0, none⟩) := hE 8
   exact AQ rfl e8 ((hW.1 hJ0).box 0 rfl) Tryz.underlying31 rfl (by rw [hx6.out]; kernel_rfl) (hK _ _ rfl ⟨hRr _, fun _ _ h => h⟩)
  ·refine uG fun b__ w hW hN hE K hK => ?_
   have e7 : b__.eval (.tmp 7) = .pointer (some ⟨g7, 0, none⟩) := hE 7
   exact AQ rfl e7 ((hW.1 hJ0).box 1 rfl) Tryz.underlying37 rfl (by rw [hu6.out]; kernel_rfl) (hK _ _ rfl ⟨hRr _, fun _ _ h => h⟩)
  ·refine uG fun b__ w hW hN hE K hK => ?_
   have e4 : b__.eval (.tmp 4) = .pointer (some ⟨g4, 0, none⟩) := hE 4
   have e20 := hE 20
   have hS := hW.1 hJ0
   exact BT rfl e4 e20 (hS.box 3 rfl) (by rw [hx6.out]; kernel_rfl) (by cases w.2.1; exact hx6.out.symm; rfl) hx1 fun w4 h1 hU => hK undef (w4, (true, w.2.2)) rfl ⟨⟨fun _ => hS.upd 3 rfl (.box g4 31 xs) (Bg hU) ⟨(hS.holds _ (List.mem_of_getElem? (i := 3) rfl)).1, h1⟩ fun _ e => .inl e, fun _ => rfl, id⟩, fun _ _ h => h⟩
  ·refine uG fun b__ w hW hN hE K hK => ?_
   have e5 : b__.eval (.tmp 5) = .pointer (some ⟨g5, 0, none⟩) := hE 5
   have e21 := hE 21
   have hS := hW.1 hJ0
   exact BT rfl e5 e21 (hS.box 2 rfl) (by rw [hu6.out]; kernel_rfl) (by cases w.2.2; exact hu6.out.symm; rfl) hu1 fun w4 h1 hU => hK undef (w4, (w.2.1, true)) rfl ⟨⟨fun _ => hS.upd 2 rfl (.box g5 37 us) (Bg hU) ⟨(hS.holds _ (List.mem_of_getElem? (i := 2) rfl)).1, h1⟩ fun _ e => .inl e, id, fun _ => rfl⟩, fun _ _ h => h⟩
  ·intro vs wz hW hT
   obtain ⟨e20, e21, e22, z3, z4, e6, -⟩ := hT
   have bx : (fun _ : Nat => True) 0 := trivial
   simp only [AE, Act.put, zz, ze]
   obtain ⟨_, hst⟩ := z3
   obtain ⟨_, hst2⟩ := z4
   have hS : St w0 wz.1 (.box g8 31 xs :: .box g7 37 us :: .box g5 37 (cond wz.2.2 us #[.int .i64 0, .slice none 0 0, .int .u64 0, .slice none 0 0, .slice none 0 0, .slice none 0 0]) :: .box g4 31 (cond wz.2.1 xs #[.int .i64 0, .pointer none, .slice none 0 0, .slice none 0 0, .slice none 0 0, .slice none 0 0]) :: F) K7 := hW.1 hJ0
   rw [show wz.2.1 = true from hst, show wz.2.2 = true from hst2] at hS
   dsimp only [cond] at hS
   clear hW hJ0 hRr hRt hN0 hst hst2
   generalize wz.1 = wf at *
   simp only [show vs (6 : Nat) = _ from e6]
   go_wp2_with fail
   refine ret_cct Tryz.results13 rfl (hS.box 3 rfl) Tryz.underlying31 rfl (by rw [hx6.out]; kernel_rfl) rfl (hS.box 2 rfl) Tryz.underlying37 rfl (by rw [hu6.out]; kernel_rfl) rfl rfl ?_
   exact ⟨_, _, rfl, p, ⟨L, R, hM.out⟩, (hS.sub (F' := F) ((((List.sublist_cons_self _ _).trans (List.sublist_cons_self _ _)).trans (List.sublist_cons_self _ _)).trans (List.sublist_cons_self _ _))).mono (KS.out.and (Cx.and Dt)) fun D w h => ⟨(k7.out _ _ h).1.1, (k7.out _ _ h).2, (k7.out _ _ h).1.2⟩⟩
 ·go_enter Tryz.func13, Tryz.ntmps13
  go_wp2_with (first
   | ((with_reducible refine qA 4 ?_); refine qa hS #[.int .i64 0, .pointer none, .slice none 0 0, .slice none 0 0, .slice none 0 0, .slice none 0 0] ?_; clear hS; intro g4 w_ hS)
   | ((with_reducible refine qA 5 ?_); refine qa hS #[.int .i64 0, .slice none 0 0, .int .u64 0, .slice none 0 0, .slice none 0 0, .slice none 0 0] ?_; clear hS; intro g5 w_ hS)
   | ((with_reducible refine qA 7 ?_); refine qa hS #[.int .i64 0, .slice none 0 0, .int .u64 0, .slice none 0 0, .slice none 0 0, .slice none 0 0] ?_; clear hS; intro g7 w_ hS)
   | ((with_reducible refine qA 8 ?_); refine qa hS #[.int .i64 0, .pointer none, .slice none 0 0, .slice none 0 0, .slice none 0 0, .slice none 0 0] ?_; clear hS; intro g8 w_ hS)
   | (go_at_call 50; refine (I7 HL.out hS kp).mono ?_; clear hS; rintro e w_ ⟨u, p, L, R, rfl, hM, hS⟩; replace hM := Lib.hid hM; obtain ⟨us0, rfl, hv6, hv1⟩ := hS.ro.2.cells; replace hv6 := Lib.hid hv6)
   | (go_at_call 51; refine (rplain_any hM.out hS (fun D w h => h.2)).mono ?_; clear hS; rintro e w_ ⟨u, rfl, hS⟩; obtain ⟨us, rfl, hu6, hu1⟩ := hS.ro.2.cells; replace hu6 := Lib.hid hu6)
   | (go_at_call 52; refine (GV hM.out.plain.links hM.out.plain.hok (by have := hM.out.plain.len; omega) hM.out.plain.fits hS (fun D w h => h.2) (fun D w h => kt D w h.1.1)).mono ?_; clear hS; rintro e w_ ⟨x, rfl, hS⟩; obtain ⟨xs, rfl, hx6, hx1⟩ := hS.ro.2.cells; replace hx6 := Lib.hid hx6)
   | ((with_reducible refine qm 37 ?_); (first | (refine AH hS 0 rfl _ _ _ rfl _ _ rfl rfl _ _ rfl (by rw [hu6.out]; kernel_rfl) (by rw [hu6.out, hv6.out]) hu1 ?_) | (refine AH hS 0 rfl _ _ _ rfl _ _ rfl rfl _ _ rfl (by rw [hv6.out]; kernel_rfl) (by rw [hv6.out]; rfl) hv1 ?_)); clear hS; intro w_ hS; (try simp only [Act.put, Act.eval, zz, Value.cells] at hS))
   | ((with_reducible refine qm 31 ?_); (refine AH hS 0 rfl _ _ _ rfl _ _ rfl rfl _ _ rfl (by rw [hx6.out]; kernel_rfl) (by rw [hx6.out]; rfl) hx1 ?_; clear hS; intro w_ hS; (try simp only [Act.put, Act.eval, zz, Value.cells] at hS)))
   | ((with_reducible refine qA 13 ?_); refine BigFrame.wpList_want rfl fun _ hK => AQ rfl rfl (hS.box 0 rfl) Tryz.underlying37 rfl (by rw [hv6.out]; kernel_rfl) (hK _ _ ?_))
   | ((with_reducible refine qA 16 ?_); refine BigFrame.wpList_want rfl fun _ hK => AQ rfl rfl (hS.box 0 rfl) Tryz.underlying37 rfl (by rw [hu6.out]; kernel_rfl) (hK _ _ ?_)))
  obtain ⟨K7, k7, hJ0⟩ : ∃ K7 : (Nat -> Prop) -> World -> Prop, Hid (∀ D w, K7 D w -> (K D w /\ CO w D (.agg us) (EC p)) /\ B7 w D (.agg xs) (EC p)) /\ St w0 w_.drew (.box g8 31 xs :: .box g7 37 us :: .box g5 37 (cond (false, false).2 us #[.int .i64 0, .slice none 0 0, .int .u64 0, .slice none 0 0, .slice none 0 0, .slice none 0 0]) :: .box g4 31 (cond (false, false).1 xs #[.int .i64 0, .pointer none, .slice none 0 0, .slice none 0 0, .slice none 0 0, .slice none 0 0]) :: F) K7 := ⟨_, Lib.hid fun _ _ h => ⟨⟨h.1.1.1, h.1.2⟩, h.2⟩, hS.drew⟩
  have hRr := @SR.refl w0 (fun s => .box g8 31 xs :: .box g7 37 us :: .box g5 37 (cond s.2 us #[.int .i64 0, .slice none 0 0, .int .u64 0, .slice none 0 0, .slice none 0 0, .slice none 0 0]) :: .box g4 31 (cond s.1 xs #[.int .i64 0, .pointer none, .slice none 0 0, .slice none 0 0, .slice none 0 0, .slice none 0 0]) :: F) K7
  have hRt := @SR.trans w0 (fun s => .box g8 31 xs :: .box g7 37 us :: .box g5 37 (cond s.2 us #[.int .i64 0, .slice none 0 0, .int .u64 0, .slice none 0 0, .slice none 0 0, .slice none 0 0]) :: .box g4 31 (cond s.1 xs #[.int .i64 0, .pointer none, .slice none 0 0, .slice none 0 0, .slice none 0 0, .slice none 0 0]) :: F) K7
  have hN0 : ∀ _ : Nat, True := fun _ => trivial
  clear hS
  refine EN (SR w0 (fun s => .box g8 31 xs :: .box g7 37 us :: .box g5 37 (cond s.2 us #[.int .i64 0, .slice none 0 0, .int .u64 0, .slice none 0 0, .slice none 0 0, .slice none 0 0]) :: .box g4 31 (cond s.1 xs #[.int .i64 0, .pointer none, .slice none 0 0, .slice none 0 0, .slice none 0 0, .slice none 0 0]) :: F) K7) (fun _ _ => True) ((false, false)) hRr hRt [.i (.agg xs), .i (.agg us), .b true, .s (fun v w => w.2.1 = true) fun v w w' h hb => hb.2.1 h, .s (fun v w => w.2.2 = true) fun v w w' h hb => hb.2.2 h, .b true] ?_ ⟨?_, ?_, uM, ?_, ?_, uA, trivial⟩ ?_
  ·first | assumption | (intro i; (try dsimp only); split <;> first | trivial | assumption | (left; assumption))
  ·refine uG fun b__ w hW hN hE K hK => ?_
   have e8 : b__.eval (.tmp 8) = .pointer (some ⟨g8, 0, none⟩) := hE 8
   exact AQ rfl e8 ((hW.1 hJ0).box 0 rfl) Tryz.underlying31 rfl (by rw [hx6.out]; kernel_rfl) (hK _ _ rfl ⟨hRr _, fun _ _ h => h⟩)
  ·refine uG fun b__ w hW hN hE K hK => ?_
   have e7 : b__.eval (.tmp 7) = .pointer (some ⟨g7, 0, none⟩) := hE 7
   exact AQ rfl e7 ((hW.1 hJ0).box 1 rfl) Tryz.underlying37 rfl (by rw [hu6.out]; kernel_rfl) (hK _ _ rfl ⟨hRr _, fun _ _ h => h⟩)
  ·refine uG fun b__ w hW hN hE K hK => ?_
   have e4 : b__.eval (.tmp 4) = .pointer (some ⟨g4, 0, none⟩) := hE 4
   have e20 := hE 20
   have hS := hW.1 hJ0
   exact BT rfl e4 e20 (hS.box 3 rfl) (by rw [hx6.out]; kernel_rfl) (by cases w.2.1; exact hx6.out.symm; rfl) hx1 fun w4 h1 hU => hK undef (w4, (true, w.2.2)) rfl ⟨⟨fun _ => hS.upd 3 rfl (.box g4 31 xs) (Bg hU) ⟨(hS.holds _ (List.mem_of_getElem? (i := 3) rfl)).1, h1⟩ fun _ e => .inl e, fun _ => rfl, id⟩, fun _ _ h => h⟩
  ·refine uG fun b__ w hW hN hE K hK => ?_
   have e5 : b__.eval (.tmp 5) = .pointer (some ⟨g5, 0, none⟩) := hE 5
   have e21 := hE 21
   have hS := hW.1 hJ0
   exact BT rfl e5 e21 (hS.box 2 rfl) (by rw [hu6.out]; kernel_rfl) (by cases w.2.2; exact hu6.out.symm; rfl) hu1 fun w4 h1 hU => hK undef (w4, (w.2.1, true)) rfl ⟨⟨fun _ => hS.upd 2 rfl (.box g5 37 us) (Bg hU) ⟨(hS.holds _ (List.mem_of_getElem? (i := 2) rfl)).1, h1⟩ fun _ e => .inl e, id, fun _ => rfl⟩, fun _ _ h => h⟩
  ·intro vs wz hW hT
   obtain ⟨e20, e21, e22, z3, z4, e6, -⟩ := hT
   have bx : (fun _ : Nat => True) 0 := trivial
   simp only [AE, Act.put, zz, ze]
   obtain ⟨_, hst⟩ := z3
   obtain ⟨_, hst2⟩ := z4
   have hS : St w0 wz.1 (.box g8 31 xs :: .box g7 37 us :: .box g5 37 (cond wz.2.2 us #[.int .i64 0, .slice none 0 0, .int .u64 0, .slice none 0 0, .slice none 0 0, .slice none 0 0]) :: .box g4 31 (cond wz.2.1 xs #[.int .i64 0, .pointer none, .slice none 0 0, .slice none 0 0, .slice none 0 0, .slice none 0 0]) :: F) K7 := hW.1 hJ0
   rw [show wz.2.1 = true from hst, show wz.2.2 = true from hst2] at hS
   dsimp only [cond] at hS
   clear hW hJ0 hRr hRt hN0 hst hst2
   generalize wz.1 = wf at *
   simp only [show vs (6 : Nat) = _ from e6]
   go_wp2_with fail
   refine ret_cct Tryz.results13 rfl (hS.box 3 rfl) Tryz.underlying31 rfl (by rw [hx6.out]; kernel_rfl) rfl (hS.box 2 rfl) Tryz.underlying37 rfl (by rw [hu6.out]; kernel_rfl) rfl rfl ?_
   exact ⟨_, _, rfl, EC p, ⟨L, R, hM.out.plain⟩, plain_frag p, (hS.sub (F' := F) ((((List.sublist_cons_self _ _).trans (List.sublist_cons_self _ _)).trans (List.sublist_cons_self _ _)).trans (List.sublist_cons_self _ _))).mono (KS.out.and (Cx.and Dt)) fun D w h => ⟨(k7.out _ _ h).1.1, (k7.out _ _ h).2, (k7.out _ _ h).1.2⟩⟩
end
section
open Go.RowKit
set_option exponentiation.threshold 5000
def InR (N : Nat) : Prop := ∀ i, N.testBit i = true -> 1 <= i /\ i < 64
theorem tc_nil {a b : Nat} : ¬ TC [] a b := fun h => by obtain ⟨y, h, _⟩ := h.first; simp at h
theorem closM_nil {N : Nat} (h : InR N) : closM [] N = N := Bf fun i => by
 rw [IK]
 constructor
 ·rintro ⟨r, h1, h2, h3, h4⟩
  rcases (Hp (by intro x hx; simp at hx) h1).1 h4 with rfl | h5
  ·exact h3
  ·exact absurd h5 tc_nil
 ·intro hi
  exact ⟨i, (h i hi).2, (h i hi).1, hi, (Hp (by intro x hx; simp at hx) (h i hi).2).2 (.inl rfl)⟩
theorem depM_nil {N : Nat} (h : InR N) : depM [] N = N := Bf fun i => by
 rw [tb_dep (by intro x hx; simp at hx)]
 constructor
 ·rintro ⟨r, h1, h2, h3, h4⟩
  rcases (tb_sen (by intro x hx; simp at hx)).1 h4 with rfl | h5
  ·exact h3
  ·exact absurd h5 tc_nil
 ·intro hi
  exact ⟨i, (h i hi).1, (h i hi).2, hi, (tb_sen (by intro x hx; simp at hx)).2 (.inl rfl)⟩
theorem DP {N : Nat} (h : N < 2 ^ 7) (h0 : N.testBit 0 = false) : InR N := fun i hi => by
 have : i < 7 := by
  rcases Nat.lt_or_ge i 7 with h1 | h1
  ·exact h1
  ·rw [Nat.testBit_lt_two_pow (Nat.lt_of_lt_of_le h (Nat.pow_le_pow_right (by decide) h1))] at hi; cases hi
 refine ⟨?_, by omega⟩
 rcases Nat.eq_zero_or_pos i with rfl | h1
 ·rw [h0] at hi; cases hi
 ·exact h1
end
section
open Go.RowKit
set_option exponentiation.threshold 5000
set_option maxRecDepth 20000
def QA : Af := ⟨4, some [], 2, [⟨false, 2, 0, 2, 0⟩, ⟨false, 8, 0, 4, 0⟩, ⟨false, 6, 0, 3, 0⟩], [], [(16, 0)]⟩
def QB : Af := ⟨4, some [], 2, [⟨false, 8, 0, 4, 0⟩, ⟨false, 6, 0, 3, 0⟩], [], [(16, 0)]⟩
theorem okQA : QA.Ok := ⟨by decide, by decide, by decide, fun L h => by cases h; exact ⟨Hf.nil, by decide⟩⟩
theorem okQB : QB.Ok := ⟨by decide, by decide, by decide, fun L h => by cases h; exact ⟨Hf.nil, by decide⟩⟩
theorem Iz : checkE QA = 0 := by
 have hg : goodB QA 2 = true := rfl
 show (if (4 : Int) < 1 \/ 63 < (4 : Int) then (1 : Int) else if 64 < QA.rules.length \/ 2000 < QA.never.length \/ 2000 < QA.goal.length then 3
  else if DO QA [] (D9 4) = false then 4 else if (QA.cubes.any fun z => z.1 &&& z.2 != 0) = true \/ QA.rules.all revB = false then 6
  else if goodB QA 2 = false then 7 else 0) = 0
 rw [if_neg (by decide), if_neg (by decide), if_neg (by decide), if_neg (by decide), if_neg (by rw [hg]; decide)]
theorem checkQB : checkE QB = 0 := by
 have hg : goodB QB 2 = true := rfl
 show (if (4 : Int) < 1 \/ 63 < (4 : Int) then (1 : Int) else if 64 < QB.rules.length \/ 2000 < QB.never.length \/ 2000 < QB.goal.length then 3
  else if DO QB [] (D9 4) = false then 4 else if (QB.cubes.any fun z => z.1 &&& z.2 != 0) = true \/ QB.rules.all revB = false then 6
  else if goodB QB 2 = false then 7 else 0) = 0
 rw [if_neg (by decide), if_neg (by decide), if_neg (by decide), if_neg (by decide), if_neg (by rw [hg]; decide)]
def candN (N : Nat) (r : AW) : Bool := (!r.revoke && !Bn N r.target) && (r.yes &&& N == r.yes)
theorem Ep {l : List AW} {N : Nat} (h : InR N) : firstC [] l N = l.findIdx? (candN N) := by
 unfold firstC
 congr 1
 funext r
 unfold candB candN
 rw [closM_nil h]
theorem El {p : Af} {N : Nat} (hl : p.links = some []) (h : InR N) : reachB p N = p.goal.any fun z => Bv z N := by
 unfold reachB
 rw [hl]
 dsimp only
 rw [closM_nil h]
theorem satA0 : satS [] QA 0 = (2, []) := rfl
theorem satA1 : satS [] QA 1 = (6, [0]) := by
 rw [BS (k := 0) (by rw [satA0, Ep (DP (by decide) (by decide))]; decide), satA0]; decide
theorem satA2 : satS [] QA 2 = (14, [0, 2]) := by
 rw [BS (k := 2) (by rw [satA1, Ep (DP (by decide) (by decide))]; decide), satA1]; decide
theorem satA3 : satS [] QA 3 = (30, [0, 2, 1]) := by
 rw [BS (k := 1) (by rw [satA2, Ep (DP (by decide) (by decide))]; decide), satA2]; decide
theorem satA : satM [] QA = (30, [0, 2, 1]) := satA3
theorem satB0 : satS [] QB 0 = (2, []) := rfl
theorem satB1 : satS [] QB 1 = (2, []) := by
 rw [C2 (by rw [satB0, Ep (DP (by decide) (by decide))]; decide), satB0]
theorem satB : satM [] QB = (2, []) := by
 show satS [] QB 2 = _
 rw [C2 (by rw [satB1, Ep (DP (by decide) (by decide))]; decide), satB1]
theorem fragQA : CD QA = true := by decide
theorem srchA : srchS QA = ([0, 2, 1], [], true, 0) := by
 have e : srchS QA = ((srchM [] QA).1, (srchM [] QA).2.1, (srchM [] QA).2.2, 0) := by
  unfold srchS; rw [if_pos Iz]; rfl
 have h : hitN [] QA = some 3 := hit_some (by rw [satA]; decide) (by rw [satA3, El rfl (DP (by decide) (by decide))]; decide) fun j hj => by
  rcases (by omega : j = 0 \/ j = 1 \/ j = 2) with rfl | rfl | rfl
  ·rw [satA0, El rfl (DP (by decide) (by decide))]; decide
  ·rw [satA1, El rfl (DP (by decide) (by decide))]; decide
  ·rw [satA2, El rfl (DP (by decide) (by decide))]; decide
 rw [e]
 unfold srchM
 rw [h]
 dsimp only
 rw [satA3]
theorem obtA : obtS QA = 30 := by
 have e : obtS QA = uppM [] QA := by
  unfold obtS fragM upS
  rw [if_pos Iz, if_pos fragQA, if_pos Iz]; rfl
 rw [e, <- Gu (Fj Iz rfl), satA]
theorem depQ {a b : Nat} (h : a < 2 ^ 7) (h0 : a.testBit 0 = false) (e : a = b) : depM [] a = b := by rw [depM_nil (DP h h0), e]
theorem relB : relM [] QB = 30 := by
 refine (Jy.eq ⟨fun T hT => ?_, by decide⟩ ⟨fun c hc => ?_, fun r hr h1 h2 => ?_, fun c hc _ => ?_⟩).symm
 ·have a1 : CK 16 T := by
   have := hT.goal (16, 0) (by simp [QB])
   rw [show depC [] (16, 0) = depM [] 16 from rfl, depQ (by decide) (by decide) rfl] at this; exact this
  have a2 : CK 8 T := by
   have := hT.rules ⟨false, 8, 0, 4, 0⟩ (by simp [QB]) rfl (a1.has (by decide))
   rw [show depR [] ⟨false, 8, 0, 4, 0⟩ = depM [] 8 from rfl, depQ (by decide) (by decide) rfl] at this; exact this
  have a3 : CK 6 T := by
   have := hT.rules ⟨false, 6, 0, 3, 0⟩ (by simp [QB]) rfl (a2.has (by decide))
   rw [show depR [] ⟨false, 6, 0, 3, 0⟩ = depM [] 6 from rfl, depQ (by decide) (by decide) rfl] at this; exact this
  have e : (30 : Nat) = 16 ||| (8 ||| 6) := by decide
  rw [e]; exact a1.or (a2.or a3)
 ·obtain rfl : c = (16, 0) := by simpa [QB] using hc
  rw [show depC [] (16, 0) = depM [] 16 from rfl, depQ (by decide) (by decide) rfl]; exact Ck.1 (by decide)
 ·simp only [QB, List.mem_cons, List.not_mem_nil, or_false] at hr
  rcases hr with rfl | rfl
  ·rw [show depR [] ⟨false, 8, 0, 4, 0⟩ = depM [] 8 from rfl, depQ (by decide) (by decide) rfl]; exact Ck.1 (by decide)
  ·rw [show depR [] ⟨false, 6, 0, 3, 0⟩ = depM [] 6 from rfl, depQ (by decide) (by decide) rfl]; exact Ck.1 (by decide)
 ·simp [QB] at hc
theorem srchB : srchS QB = ([], [(4, 0), (8, 0), (16, 0)], false, 0) := by
 have e : srchS QB = ((srchM [] QB).1, (srchM [] QB).2.1, (srchM [] QB).2.2, 0) := by
  unfold srchS; rw [if_pos checkQB]; rfl
 have h : hitN [] QB = none := hit_none fun j hj => by
  rw [satB] at hj
  obtain rfl : j = 0 := by simpa using hj
  rw [satB0, El rfl (DP (by decide) (by decide))]; decide
 rw [e]
 unfold srchM
 rw [h]
 dsimp only
 rw [satB, relB]
 decide
end
section
open Go.RowKit
theorem IL {P : Program} {ops : Array Oper} {rest : List Oper} {o : Oper} {a : Act} {Q : Exit -> Act -> World -> Prop} {w0 w : World} {F : List Aj} {K : (Nat -> Prop) -> World -> Prop} (h : St w0 w F K) (hg : Region.wanted o (yielded ops a.tmps) = true) (t e : TypeId) (len : Nat) (parts : Array (Nat × Operand)) (ho : o.op = .buildSlice t len parts) (ht : P.underlying t = some (.slice e)) (ps : List (Nat × Value)) (hp : (parts.map fun (i, x) => (i, a.eval x)).toList = ps) (cells : Array Value)
  (hb : BW P e len ps = some cells) (size : Nat) (hs : cells.size = len * size) (hm : len <= 1000000000000)
  (hk : ∀ g w', St w0 w' (.own (.slice (some ⟨g, 0, none⟩) len len) e size len cells.toList :: F) K -> wpList P ops Q rest (a.put o.dst (.slice (some ⟨g, 0, none⟩) len len)) w') : wpList P ops Q (o :: rest) a w :=
 BigFrame.wpList_want hg fun _ hK => Bj ho ht hp hb fun w' hX hB => hK _ _ (hk _ w' (h.new hB _ ⟨by simpa using hs, .inr ⟨w.heap.size, len, cells, rfl, Nat.le_refl _, hX, Nat.le_refl _, by unfold maxLen; omega, hs, by rw [<- hs, show cells.size = cells.toList.length by simp, List.take_length]⟩⟩))
end
section
open Go.RowKit
attribute [local go_sem ↓] Go.wp_at_zero Go.wp_at_succ
set_option maxRecDepth 20000
set_option exponentiation.threshold 5000
theorem Df {w0 : World} {D : Nat -> Prop} {v : Value} {l : List Int} {N : Nat} (hs : Sl w0 D 1 v l.length (AX l)) (hN : ofN l = N) : Calls Tryz.prog 48 #[v] w0 (AM (fun x w' => AO w' (w0.heap.size <= ·) x (N, 0)) w0) := by
 obtain ⟨K, k1, hS⟩ : ∃ K : (Nat -> Prop) -> World -> Prop, (∀ D w, K D w -> Sl w D 1 v l.length (AX l)) /\ St w0 w0 [] K := ⟨_, fun _ _ h => h, St.start (Az (by decide)) hs⟩
 clear hs
 go_enter Tryz.func48, Tryz.ntmps48
 go_wp2_with (first
  | ((with_reducible refine qA 2 ?_); refine qa hS #[.slice none 0 0, .slice none 0 0] ?_; clear hS; intro g2 w_ hS)
  | (go_at_call 28; have hsW := hS.size; refine (J9 _ l _ _ (k1 _ _ hS.ro)).mono ?_; rw [hN]; rintro r_ w_ ⟨_, rfl, h1, hb_⟩; obtain ⟨A, c, lw, rfl, -⟩ := h1.parts; replace hS := hS.ret hb_ (AP A5 fun z => w0.heap.size <= z) (h1.imp fun z hz _ => ⟨hz, Nat.le_trans hsW hz⟩); clear h1 hb_ hsW)
  | ((with_reducible show wpList _ _ _ (⟨_, .build _ _, _, _, _, _⟩ :: _) _ _); refine Aq rfl _ _ rfl #[.slice A lw.length c, .slice none 0 0] (by kernel_rfl) ?_)
  | ((with_reducible refine qM ?_); (first | refine qS hS ?_ | refine qT hS ?_); clear hS; intro w_ hS; (try simp only [Act.put, Act.eval, zz, Value.cells] at hS)))
 refine Bl Tryz.results48 rfl (hS.box 0 rfl) Tryz.underlying54 rfl (by kernel_rfl) rfl ?_
 exact AM.mk ⟨_, _, rfl, hS.ro.2.imp fun z hz _ => hz.2, A6.empty⟩ hS.below
theorem Bq {w : World} {D : Nat -> Prop} {a b : Value} {z : Nat × Nat} (h : AO w D (.agg #[a, b]) z) : A6 w D (.agg #[a]) z.1 /\ A6 w D (.agg #[b]) z.2 := by
 obtain ⟨x, y, he, h1, h2⟩ := h
 have e : a = x /\ b = y := by simpa using he
 obtain ⟨rfl, rfl⟩ := e
 exact ⟨h1, h2⟩
theorem cells3 {w : World} {D : Nat -> Prop} {a1 b1 a2 b2 a3 b3 : Value} (h1 : AO w D (.agg #[a1, b1]) (2, 0)) (h2 : AO w D (.agg #[a2, b2]) (8, 0)) (h3 : AO w D (.agg #[a3, b3]) (6, 0)) :
  B6 w D [.bool false, a1, b1, .int .i64 2, .int .i64 0, .bool false, a2, b2, .int .i64 4, .int .i64 0, .bool false, a3, b3, .int .i64 3, .int .i64 0] QA.rules :=
 B6.append (l := [⟨false, 2, 0, 2, 0⟩]) (xs := [.bool false, a1, b1, .int .i64 2, .int .i64 0]) rfl (B6.single (Bq h1).1 (Bq h1).2)
  (B6.append (l := [⟨false, 8, 0, 4, 0⟩]) (xs := [.bool false, a2, b2, .int .i64 4, .int .i64 0]) rfl (B6.single (Bq h2).1 (Bq h2).2) (B6.single (z := ⟨false, 6, 0, 3, 0⟩) (Bq h3).1 (Bq h3).2))
theorem cells2 {w : World} {D : Nat -> Prop} {a2 b2 a3 b3 : Value} (h2 : AO w D (.agg #[a2, b2]) (8, 0)) (h3 : AO w D (.agg #[a3, b3]) (6, 0)) :
  B6 w D [.bool false, a2, b2, .int .i64 4, .int .i64 0, .bool false, a3, b3, .int .i64 3, .int .i64 0] QB.rules :=
 B6.append (l := [⟨false, 8, 0, 4, 0⟩]) (xs := [.bool false, a2, b2, .int .i64 4, .int .i64 0]) rfl (B6.single (Bq h2).1 (Bq h2).2) (B6.single (z := ⟨false, 6, 0, 3, 0⟩) (Bq h3).1 (Bq h3).2)
theorem Jn {w : World} {D : Nat -> Prop} {v : Value} {z : Nat × Nat} (h : AO w D v z) : AO w (fun _ => True) v z := by
 obtain ⟨a, b, e, h1, h2⟩ := h
 exact ⟨a, b, e, h1.imp fun _ _ _ => trivial, h2.imp fun _ _ _ => trivial⟩
theorem three_cc {w : World} {D : Nat -> Prop} {a1 b1 a2 b2 a3 b3 : Value} {x y z : Nat × Nat} (h1 : AO w D (.agg #[a1, b1]) x) (h2 : AO w D (.agg #[a2, b2]) y) (h3 : AO w D (.agg #[a3, b3]) z) : Ax w D [a1, b1, a2, b2, a3, b3] [x, y, z] :=
 Ax.append (xs := [a1, b1]) (l := [x]) rfl (FF (Bq h1).1 (Bq h1).2) (Ax.append (xs := [a2, b2]) (l := [y]) rfl (FF (Bq h2).1 (Bq h2).2) (FF (Bq h3).1 (Bq h3).2))
theorem sl_tail {w : World} {D : Nat -> Prop} {b : Nat} {x0 x1 x2 x3 x4 : Value} {xs : List Value} (h : Sl w D 5 (.slice (some ⟨b, 0, none⟩) 3 3) 3 (x0 :: x1 :: x2 :: x3 :: x4 :: xs)) : Sl w D 5 (.slice (some ⟨b, 5, none⟩) 2 2) 2 xs := by
 obtain ⟨h1, A', c', e, h2, h3, h4⟩ := h
 injection e with e1 _ e3
 subst e1 e3
 obtain ⟨b', o', e, h5, h6, h7⟩ := h4 (by decide)
 injection e with e
 injection e with e1 e2
 subst e1 e2
 refine ⟨by simp at h1; omega, _, 2, rfl, Nat.le_refl _, by decide, fun _ => ⟨b, 5, rfl, h5, h6, fun j x hj => ?_⟩⟩
 have := h7 (j + 5) x (by simpa using hj)
 rw [show 0 + (j + 5) = 5 + j by omega] at this
 exact this
set_option maxHeartbeats 4000000 in
theorem lawake35_any {w0 w : World} {F : List Aj} {K : (Nat -> Prop) -> World -> Prop} (hS : St w0 w F K) (kt : ∀ D w, K D w -> Bx w /\ D 0) : Calls Tryz.prog 12 #[] w fun e w' => e = .returned (.bool true) /\ St w0 w' F K := by
 have KS := Lib.hid hS.stable
 go_enter Tryz.func12, Tryz.ntmps12
 go_wp2_with (first
  | (go_at_call 49; refine (hnew_any hS kt).mono ?_; clear hS; rintro e w_ ⟨p, rfl, hS⟩; obtain ⟨q, o, rfl, -⟩ := id hS.ro.2)
  | ((with_reducible refine qA 13 ?_); refine Dy hS rfl _ 3 1 _ rfl Tryz.underlying45 #[.int .i64 1] (by kernel_rfl) 1 rfl (by decide) ?_; clear hS; intro g13 w_ hS; (try simp only [Act.put, List.setIfInBounds_toArray, List.set_cons_zero, List.set_cons_succ]))
  | (go_at_call 28; refine (J9 _ [1] _ _ (Sl.of_own (hS.own 0 rfl))).mono ?_; rw [show ofN [1] = 2 from by decide]; rintro r_ w_ ⟨_, rfl, h1, hb_⟩; replace hS := hS.ret hb_ A5 h1; clear h1 hb_; obtain ⟨A14, c14, l14, rfl, -⟩ := hS.ro.2.parts; obtain ⟨n14, hn14⟩ : ∃ n, n = l14.length := ⟨_, rfl⟩; rw [<- hn14] at hS ⊢; clear hn14)
  | ((with_reducible refine qA 16 ?_); refine Dy hS rfl _ 3 1 _ rfl Tryz.underlying45 #[.int .i64 1] (by kernel_rfl) 1 rfl (by decide) ?_; clear hS; intro g16 w_ hS; (try simp only [Act.put, List.setIfInBounds_toArray, List.set_cons_zero, List.set_cons_succ]))
  | ((with_reducible refine qA 17 ?_); refine BigFrame.wpList_want rfl fun _ hK => BJ (f := 48) (first := #[]) (caps := #[]) (vs := [.slice (some ⟨g16, 0, none⟩) 1 1]) rfl rfl (by kernel_rfl) (by simp [Act.eval, Act.put]) (Df (l := [1]) (N := 2) (Sl.of_own (hS.own 0 rfl)) (by decide)) fun e w' ⟨x_, he_, hx_, hb_⟩ => ⟨x_, he_, hK _ _ ?_⟩; clear hK; obtain ⟨ya_, na_, rfl, hy_, hn_⟩ := id hx_; obtain ⟨A17, m17, c17, rfl⟩ := hy_.shape; obtain ⟨B17, k17, d17, rfl⟩ := hn_.shape; replace hS := hS.ret hb_ BF hx_; clear hx_ hb_ hy_ hn_ he_; (try simp only [Act.put, List.setIfInBounds_toArray, List.set_cons_zero, List.set_cons_succ]))
  | ((with_reducible refine qA 18 ?_); refine Aq rfl _ _ rfl #[.bool false, .slice A17 m17 c17, .slice B17 k17 d17, .int .i64 2, .int .i64 0] (by kernel_rfl) ?_; (try simp only [Act.put, List.setIfInBounds_toArray, List.set_cons_zero, List.set_cons_succ]))
  | ((with_reducible refine qA 20 ?_); refine Dy hS rfl _ 3 1 _ rfl Tryz.underlying45 #[.int .i64 3] (by kernel_rfl) 1 rfl (by decide) ?_; clear hS; intro g20 w_ hS; (try simp only [Act.put, List.setIfInBounds_toArray, List.set_cons_zero, List.set_cons_succ]))
  | ((with_reducible refine qA 21 ?_); refine BigFrame.wpList_want rfl fun _ hK => BJ (f := 48) (first := #[]) (caps := #[]) (vs := [.slice (some ⟨g20, 0, none⟩) 1 1]) rfl rfl (by kernel_rfl) (by simp [Act.eval, Act.put]) (Df (l := [3]) (N := 8) (Sl.of_own (hS.own 0 rfl)) (by decide)) fun e w' ⟨x_, he_, hx_, hb_⟩ => ⟨x_, he_, hK _ _ ?_⟩; clear hK; obtain ⟨ya_, na_, rfl, hy_, hn_⟩ := id hx_; obtain ⟨A21, m21, c21, rfl⟩ := hy_.shape; obtain ⟨B21, k21, d21, rfl⟩ := hn_.shape; replace hS := hS.ret hb_ BF hx_; clear hx_ hb_ hy_ hn_ he_; (try simp only [Act.put, List.setIfInBounds_toArray, List.set_cons_zero, List.set_cons_succ]))
  | ((with_reducible refine qA 22 ?_); refine Aq rfl _ _ rfl #[.bool false, .slice A21 m21 c21, .slice B21 k21 d21, .int .i64 4, .int .i64 0] (by kernel_rfl) ?_; (try simp only [Act.put, List.setIfInBounds_toArray, List.set_cons_zero, List.set_cons_succ]))
  | ((with_reducible refine qA 24 ?_); refine Dy hS rfl _ 3 2 _ rfl Tryz.underlying45 #[.int .i64 1, .int .i64 2] (by kernel_rfl) 1 rfl (by decide) ?_; clear hS; intro g24 w_ hS; (try simp only [Act.put, List.setIfInBounds_toArray, List.set_cons_zero, List.set_cons_succ]))
  | ((with_reducible refine qA 25 ?_); refine BigFrame.wpList_want rfl fun _ hK => BJ (f := 48) (first := #[]) (caps := #[]) (vs := [.slice (some ⟨g24, 0, none⟩) 2 2]) rfl rfl (by kernel_rfl) (by simp [Act.eval, Act.put]) (Df (l := [1, 2]) (N := 6) (Sl.of_own (hS.own 0 rfl)) (by decide)) fun e w' ⟨x_, he_, hx_, hb_⟩ => ⟨x_, he_, hK _ _ ?_⟩; clear hK; obtain ⟨ya_, na_, rfl, hy_, hn_⟩ := id hx_; obtain ⟨A25, m25, c25, rfl⟩ := hy_.shape; obtain ⟨B25, k25, d25, rfl⟩ := hn_.shape; replace hS := hS.ret hb_ BF hx_; clear hx_ hb_ hy_ hn_ he_; (try simp only [Act.put, List.setIfInBounds_toArray, List.set_cons_zero, List.set_cons_succ]))
  | ((with_reducible refine qA 26 ?_); refine Aq rfl _ _ rfl #[.bool false, .slice A25 m25 c25, .slice B25 k25 d25, .int .i64 3, .int .i64 0] (by kernel_rfl) ?_; (try simp only [Act.put, List.setIfInBounds_toArray, List.set_cons_zero, List.set_cons_succ]))
  | ((with_reducible refine qA 27 ?_); refine IL hS rfl _ 58 3 _ rfl Tryz.underlying28 [(0, .agg #[.bool false, .slice A17 m17 c17, .slice B17 k17 d17, .int .i64 2, .int .i64 0]), (1, .agg #[.bool false, .slice A21 m21 c21, .slice B21 k21 d21, .int .i64 4, .int .i64 0]), (2, .agg #[.bool false, .slice A25 m25 c25, .slice B25 k25 d25, .int .i64 3, .int .i64 0])] (by simp [Act.eval]) #[.bool false, .slice A17 m17 c17, .slice B17 k17 d17, .int .i64 2, .int .i64 0, .bool false, .slice A21 m21 c21, .slice B21 k21 d21, .int .i64 4, .int .i64 0, .bool false, .slice A25 m25 c25, .slice B25 k25 d25, .int .i64 3, .int .i64 0] (by kernel_rfl) 5 rfl (by decide) ?_; clear hS; intro g27 w_ hS; (try simp only [Act.put, List.setIfInBounds_toArray, List.set_cons_zero, List.set_cons_succ]))
  | ((with_reducible refine qA 29 ?_); refine Dy hS rfl _ 3 1 _ rfl Tryz.underlying45 #[.int .i64 4] (by kernel_rfl) 1 rfl (by decide) ?_; clear hS; intro g29 w_ hS; (try simp only [Act.put, List.setIfInBounds_toArray, List.set_cons_zero, List.set_cons_succ]))
  | ((with_reducible refine qA 30 ?_); refine BigFrame.wpList_want rfl fun _ hK => BJ (f := 48) (first := #[]) (caps := #[]) (vs := [.slice (some ⟨g29, 0, none⟩) 1 1]) rfl rfl (by kernel_rfl) (by simp [Act.eval, Act.put]) (Df (l := [4]) (N := 16) (Sl.of_own (hS.own 0 rfl)) (by decide)) fun e w' ⟨x_, he_, hx_, hb_⟩ => ⟨x_, he_, hK _ _ ?_⟩; clear hK; obtain ⟨ya_, na_, rfl, hy_, hn_⟩ := id hx_; obtain ⟨A30, m30, c30, rfl⟩ := hy_.shape; obtain ⟨B30, k30, d30, rfl⟩ := hn_.shape; replace hS := hS.ret hb_ BF hx_; clear hx_ hb_ hy_ hn_ he_; (try simp only [Act.put, List.setIfInBounds_toArray, List.set_cons_zero, List.set_cons_succ]))
  | ((with_reducible refine qA 31 ?_); refine IL hS rfl _ 54 1 _ rfl Tryz.underlying29 [(0, .agg #[.slice A30 m30 c30, .slice B30 k30 d30])] (by simp [Act.eval]) #[.slice A30 m30 c30, .slice B30 k30 d30] (by kernel_rfl) 2 rfl (by decide) ?_; clear hS; intro g31 w_ hS; (try simp only [Act.put, List.setIfInBounds_toArray, List.set_cons_zero, List.set_cons_succ]))
  | ((with_reducible refine qA 32 ?_); refine Aq rfl _ _ rfl #[.int .i64 4, .pointer (some ⟨q, 0, none⟩), .slice A14 n14 c14, .slice (some ⟨g27, 0, none⟩) 3 3, .slice none 0 0, .slice (some ⟨g31, 0, none⟩) 1 1] (by kernel_rfl) ?_; (try simp only [Act.put, List.setIfInBounds_toArray, List.set_cons_zero, List.set_cons_succ]))
  | ((with_reducible refine qA 2 ?_); refine qa hS #[.int .i64 0, .pointer none, .slice none 0 0, .slice none 0 0, .slice none 0 0, .slice none 0 0] ?_; clear hS; intro g2 w_ hS)
  | ((with_reducible refine qM ?_); (first | refine qS hS ?_ | refine qT hS ?_); clear hS; intro w_ hS; (try simp only [Act.put, Act.eval, zz, Value.cells] at hS))
  | ((with_reducible refine qA 34 ?_)
     replace hS := (hS.freeze 1 (by decide) rfl).freeze 2 (by decide) rfl
     obtain ⟨K1, k0, kpA, kpB, hS2⟩ : ∃ K1 : (Nat -> Prop) -> World -> Prop, Hid (∀ D w, K1 D w -> K D w) /\ Hid (∀ D w, K1 D w -> B7 w D (.agg #[.int .i64 4, .pointer (some ⟨q, 0, none⟩), .slice A14 n14 c14, .slice (some ⟨g27, 0, none⟩) 3 3, .slice none 0 0, .slice (some ⟨g31, 0, none⟩) 1 1]) QA) /\ Hid (∀ D w, K1 D w -> B7 w D (.agg #[.int .i64 4, .pointer (some ⟨q, 0, none⟩), .slice A14 n14 c14, .slice (some ⟨g27, 5, none⟩) 2 2, .slice none 0 0, .slice (some ⟨g31, 0, none⟩) 1 1]) QB) /\ St w0 w_ (.box g2 31 #[.int .i64 4, .pointer (some ⟨q, 0, none⟩), .slice A14 n14 c14, .slice (some ⟨g27, 0, none⟩) 3 3, .slice none 0 0, .slice (some ⟨g31, 0, none⟩) 1 1] :: F) K1 := ⟨_, Lib.hid fun D w h => h.1.1.1.1.1.1.1.1, Lib.hid fun D w h => ⟨_, _, _, _, _, rfl, h.1.1.1.1.1.1.1.2, h.1.1.1.1.1.1.2, ⟨_, h.2, cells3 h.1.1.1.1.1.2 h.1.1.1.1.2 h.1.1.1.2⟩, Et, _, h.1.2, FF (Bq h.1.1.2).1 (Bq h.1.1.2).2⟩, Lib.hid fun D w h => ⟨_, _, _, _, _, rfl, h.1.1.1.1.1.1.1.2, h.1.1.1.1.1.1.2, ⟨_, sl_tail h.2, cells2 h.1.1.1.1.2 h.1.1.1.2⟩, Et, _, h.1.2, FF (Bq h.1.1.2).1 (Bq h.1.1.2).2⟩, hS.sub (.cons_cons _ (.cons _ (.cons _ (.cons _ (.cons _ (.cons _ (List.Sublist.refl _)))))))⟩
     clear hS
     have hS := hS2
     clear hS2
     refine BigFrame.wpList_want rfl fun _ hK => AQ rfl rfl (hS.box 0 rfl) Tryz.underlying31 rfl (by kernel_rfl) (hK _ _ ?_)))
 have kt1 := Lib.hid fun D w h => (kt _ _ (k0.out D w h)).1
 refine (F5 (kpA.out _ _ hS.ro) okQA (kt1.out _ _ hS.ro)).mono ?_
 rw [srchA]
 rintro e w_ ⟨_, rfl, ⟨pa, ca, rfl, h1, h2⟩, hb_⟩
 obtain ⟨Aa, la, rfl, -⟩ := id h1.shape
 obtain ⟨Ab, lb, rfl⟩ := CE h2
 replace hS := hS.ret hb_ (Az (by decide)) h1
 clear h1 h2 hb_
 go_wp2_with (first
  | ((with_reducible refine qA 40 ?_); refine BigFrame.wpList_want rfl fun _ hK => AQ rfl rfl (hS.box 0 rfl) Tryz.underlying31 rfl (by kernel_rfl) (hK _ _ ?_))
  | (go_at_call 23; refine (Ja okQA hS (fun D w h => kpA.out _ _ h.1) (fun D w h => kt1.out _ _ h.1)).mono ?_; rw [obtA]; clear hS; rintro e w_ ⟨y, rfl, hS⟩; obtain ⟨u7, rfl, hu7⟩ := BC hS.ro.2)
  | ((with_reducible refine qA 7 ?_); refine qa hS #[.slice none 0 0] ?_; clear hS; intro g7 w_ hS)
  | ((with_reducible refine qm 27 ?_); refine AH hS 0 rfl _ _ _ rfl _ _ rfl rfl _ _ rfl (by kernel_rfl) (by kernel_rfl) (by simpa using hu7) ?_; clear hS; intro w_ hS; (try simp only [Act.put, Act.eval, zz, Value.cells] at hS))
  | ((with_reducible refine qA 47 ?_); refine BigFrame.wpList_want rfl fun _ hK => AQ rfl rfl (hS.box 1 rfl) Tryz.underlying31 rfl (by kernel_rfl) (hK _ _ ?_))
  | ((with_reducible refine qM ?_); (first | refine qS hS ?_ | refine qT hS ?_); clear hS; intro w_ hS; (try simp only [Act.put, Act.eval, zz, Value.cells] at hS))
  | ((with_reducible refine qK ?_); refine qC hS ?_))
 refine (F5 (kpB.out _ _ hS.ro.1.1) okQB (kt1.out _ _ hS.ro.1.1)).mono ?_
 rw [srchB]
 rintro e w_ ⟨_, rfl, ⟨pb, cb, rfl, h1, h2⟩, hb_⟩
 obtain ⟨Ac, lc, rfl, -⟩ := id h1.shape
 obtain ⟨Ad, ld, rfl⟩ := CE h2
 replace hS := hS.ret hb_ AV h2
 clear h1 h2 hb_
 obtain ⟨K2, k1, k2, k3, k4, hS2⟩ : ∃ K2 : (Nat -> Prop) -> World -> Prop, Hid (∀ D w, K2 D w -> K1 D w) /\ Hid (∀ D w, K2 D w -> Sl w D 1 (.slice Aa 3 la) ([0, 2, 1] : List Int).length (AX [0, 2, 1])) /\ Hid (∀ D w, K2 D w -> A6 w D (.agg #[u7]) 30) /\ Hid (∀ D w, K2 D w -> AB w D (.slice Ad 3 ld) [(4, 0), (8, 0), (16, 0)]) /\ St w0 w_ _ K2 := ⟨_, Lib.hid fun D w h => h.1.1.1, Lib.hid fun D w h => h.1.1.2, Lib.hid fun D w h => h.1.2, Lib.hid fun D w h => h.2, hS⟩
 clear hS
 have hS := hS2
 clear hS2
 go_wp2_with fail
 refine Ci [.n 0, .b true, .b true, .b true, .b true, .b true, .i (.slice Aa 3 la), .s (fun v w => Sl w (fun _ => True) 1 v ([0, 2, 1] : List Int).length (AX [0, 2, 1])) fun v w w' h hb => h.ext hb, .b true, .b true, .b true, .i (.agg #[u7]), .s (fun v w => Sl w (fun _ => True) 1 v ([1, 2, 3, 4] : List Int).length (AX [1, 2, 3, 4])) fun v w w' h hb => h.ext hb, .s (fun v w => A6 w (fun _ => True) v 30) fun v w w' h hb => h.ext hb, .b true, .b true, .b true, .n 0, .b true, .b true, .b true, .b false, .b true, .b true, .b true, .i (.slice Ad 3 ld), .i (.func (.func 48) #[] #[]), .s (fun v w => Sl w (fun _ => True) 1 v ([2] : List Int).length (AX [2])) fun v w w' h hb => h.ext hb, .s (fun v w => ∃ A n c B k d, v = .agg #[.slice A n c, .slice B k d] /\ AO w (fun _ => True) (.agg #[.slice A n c, .slice B k d]) (4, 0)) fun v w w' h hb => by obtain ⟨A, n, c, B, k, d, h1, h2⟩ := h; exact ⟨A, n, c, B, k, d, h1, h2.ext hb⟩, .i (.func (.func 48) #[] #[]), .s (fun v w => Sl w (fun _ => True) 1 v ([3] : List Int).length (AX [3])) fun v w w' h hb => h.ext hb, .s (fun v w => ∃ A n c B k d, v = .agg #[.slice A n c, .slice B k d] /\ AO w (fun _ => True) (.agg #[.slice A n c, .slice B k d]) (8, 0)) fun v w w' h hb => by obtain ⟨A, n, c, B, k, d, h1, h2⟩ := h; exact ⟨A, n, c, B, k, d, h1, h2.ext hb⟩, .i (.func (.func 48) #[] #[]), .s (fun v w => Sl w (fun _ => True) 1 v ([4] : List Int).length (AX [4])) fun v w w' h hb => h.ext hb, .s (fun v w => ∃ A n c B k d, v = .agg #[.slice A n c, .slice B k d] /\ AO w (fun _ => True) (.agg #[.slice A n c, .slice B k d]) (16, 0)) fun v w w' h hb => by obtain ⟨A, n, c, B, k, d, h1, h2⟩ := h; exact ⟨A, n, c, B, k, d, h1, h2.ext hb⟩, .s (fun v w => AB w (fun _ => True) v [(4, 0), (8, 0), (16, 0)]) fun v w w' h hb => h.ext hb, .b true, .b true, .b true] ⟨uM, uB (h := fun w hW hN => Iv rfl), uM, uM, uP, uM, uM, ?_, ?_, uP, uM, uR (h := fun w hW hN => (hS.ext hW).box 0 rfl), ?_, ?_, ?_, uP, uM, uM, uB (h := fun w hW hN => Iv rfl), uP, uM, uM, uU, uP, uM, uM, uM, ?_, ?_, uM, ?_, ?_, uM, ?_, ?_, ?_, ?_, uP, uA, trivial⟩ ?_
 ·refine uT fun b__ w hW hE K hK => ?_
  refine Bj rfl Tryz.underlying45 (ps := [(0, .int .i64 0), (1, .int .i64 2), (2, .int .i64 1)]) (by simp [Act.eval]) (cells := #[.int .i64 0, .int .i64 2, .int .i64 1]) (by kernel_rfl) fun w' hX hb => hK _ _ ((Sl.of_box (n := 3) (size := 1) hX rfl (by omega)).imp fun _ _ _ => trivial) hb
 ·refine uT fun b__ w hW hE K hK => ?_
  have e59 := hE 59
  have e60 := hE 60
  exact AC rfl (by kernel_rfl) (by simp only [List.map_cons, List.map_nil, e59]) (sleq_any _ _ [0, 2, 1] [0, 2, 1] _ _ _ (k2.out _ _ (hS.ext hW).ro) e60) fun v w' h hb => hK v w' h hb
 ·refine uT fun b__ w hW hE K hK => ?_
  refine Bj rfl Tryz.underlying45 (ps := [(0, .int .i64 1), (1, .int .i64 2), (2, .int .i64 3), (3, .int .i64 4)]) (by simp [Act.eval]) (cells := #[.int .i64 1, .int .i64 2, .int .i64 3, .int .i64 4]) (by kernel_rfl) fun w' hX hb => hK _ _ ((Sl.of_box (n := 4) (size := 1) hX rfl (by omega)).imp fun _ _ _ => trivial) hb
 ·refine uT fun b__ w hW hE K hK => ?_
  have e65 := hE 65
  exact AC rfl (by kernel_rfl) (by simp only [List.map_cons, List.map_nil]) (J9 _ [1, 2, 3, 4] _ _ e65) fun v w' h hb => hK v w' (by rw [show ofN [1, 2, 3, 4] = 30 from by decide] at h; exact h.imp fun _ _ _ => trivial) hb
 ·refine uT fun b__ w hW hE K hK => ?_
  have e64 := hE 64
  have e66 := hE 66
  exact AC rfl (by kernel_rfl) (by simp only [List.map_cons, List.map_nil, e64]) (Er _ _ 30 30 _ _ _ (k3.out _ _ (hS.ext hW).ro) e66) fun v w' h hb => hK v w' h hb
 ·refine uT fun b__ w hW hE K hK => ?_
  refine Bj rfl Tryz.underlying45 (ps := [(0, .int .i64 2)]) (by simp [Act.eval]) (cells := #[.int .i64 2]) (by kernel_rfl) fun w' hX hb => hK _ _ ((Sl.of_box (n := 1) (size := 1) hX rfl (by omega)).imp fun _ _ _ => trivial) hb
 ·refine uT fun b__ w hW hE K hK => ?_
  have e79 := hE 79
  have e80 := hE 80
  refine BJ (f := 48) (first := #[]) (caps := #[]) (vs := [b__.eval (.tmp 80)]) rfl e79 (by kernel_rfl) (by simp) (Df (l := [2]) (N := 4) e80 (by decide)) fun e w' ⟨x_, he_, hx_, hb_⟩ => ⟨x_, he_, ?_⟩
  obtain ⟨ya_, na_, rfl, hy_, hn_⟩ := id hx_
  obtain ⟨A, m, c, rfl⟩ := hy_.shape
  obtain ⟨B, k, d, rfl⟩ := hn_.shape
  exact hK _ _ ⟨_, _, _, _, _, _, rfl, Jn hx_⟩ hb_
 ·refine uT fun b__ w hW hE K hK => ?_
  refine Bj rfl Tryz.underlying45 (ps := [(0, .int .i64 3)]) (by simp [Act.eval]) (cells := #[.int .i64 3]) (by kernel_rfl) fun w' hX hb => hK _ _ ((Sl.of_box (n := 1) (size := 1) hX rfl (by omega)).imp fun _ _ _ => trivial) hb
 ·refine uT fun b__ w hW hE K hK => ?_
  have e82 := hE 82
  have e83 := hE 83
  refine BJ (f := 48) (first := #[]) (caps := #[]) (vs := [b__.eval (.tmp 83)]) rfl e82 (by kernel_rfl) (by simp) (Df (l := [3]) (N := 8) e83 (by decide)) fun e w' ⟨x_, he_, hx_, hb_⟩ => ⟨x_, he_, ?_⟩
  obtain ⟨ya_, na_, rfl, hy_, hn_⟩ := id hx_
  obtain ⟨A, m, c, rfl⟩ := hy_.shape
  obtain ⟨B, k, d, rfl⟩ := hn_.shape
  exact hK _ _ ⟨_, _, _, _, _, _, rfl, Jn hx_⟩ hb_
 ·refine uT fun b__ w hW hE K hK => ?_
  refine Bj rfl Tryz.underlying45 (ps := [(0, .int .i64 4)]) (by simp [Act.eval]) (cells := #[.int .i64 4]) (by kernel_rfl) fun w' hX hb => hK _ _ ((Sl.of_box (n := 1) (size := 1) hX rfl (by omega)).imp fun _ _ _ => trivial) hb
 ·refine uT fun b__ w hW hE K hK => ?_
  have e85 := hE 85
  have e86 := hE 86
  refine BJ (f := 48) (first := #[]) (caps := #[]) (vs := [b__.eval (.tmp 86)]) rfl e85 (by kernel_rfl) (by simp) (Df (l := [4]) (N := 16) e86 (by decide)) fun e w' ⟨x_, he_, hx_, hb_⟩ => ⟨x_, he_, ?_⟩
  obtain ⟨ya_, na_, rfl, hy_, hn_⟩ := id hx_
  obtain ⟨A, m, c, rfl⟩ := hy_.shape
  obtain ⟨B, k, d, rfl⟩ := hn_.shape
  exact hK _ _ ⟨_, _, _, _, _, _, rfl, Jn hx_⟩ hb_
 ·refine uT fun b__ w hW hE K hK => ?_
  have e81 := hE 81
  have e84 := hE 84
  have e87 := hE 87
  obtain ⟨A1, n1, c1, B1, k1, d1, f1, f2⟩ := e81
  obtain ⟨A2, n2, c2, B2, k2, d2, f3, f4⟩ := e84
  obtain ⟨A3, n3, c3, B3, k3, d3, f5, f6⟩ := e87
  refine Bj rfl Tryz.underlying29 (ps := [(0, .agg #[.slice A1 n1 c1, .slice B1 k1 d1]), (1, .agg #[.slice A2 n2 c2, .slice B2 k2 d2]), (2, .agg #[.slice A3 n3 c3, .slice B3 k3 d3])]) (by simp [f1, f3, f5]) (cells := #[.slice A1 n1 c1, .slice B1 k1 d1, .slice A2 n2 c2, .slice B2 k2 d2, .slice A3 n3 c3, .slice B3 k3 d3]) (by kernel_rfl) fun w' hX hb => hK _ _ ⟨_, (Sl.of_box (n := 3) (size := 2) hX rfl (by omega)).imp fun _ _ _ => trivial, three_cc (f2.ext hb) (f4.ext hb) (f6.ext hb)⟩ hb
 ·refine uT fun b__ w hW hE K hK => ?_
  have e78 := hE 78
  have e88 := hE 88
  exact AC rfl (by kernel_rfl) (by simp only [List.map_cons, List.map_nil, e78]; rfl) (eqcubes_any _ _ [(4, 0), (8, 0), (16, 0)] [(4, 0), (8, 0), (16, 0)] _ _ _ (k4.out _ _ (hS.ext hW).ro) e88) fun v w' h hb => hK v w' h hb
 ·intro vs wz hW hT
  obtain ⟨e53, e54, e55, e56, e57, e58, e59, e60, e61, e62, e63, e64, e65, e66, e67, e68, e69, e70, e71, e72, e73, e74, e75, e76, e77, e78, e79, e80, e81, e82, e83, e84, e85, e86, e87, e88, e89, e90, e0, -⟩ := hT
  have bx : (fun _ : Nat => True) 0 := trivial
  simp only [AE, Act.put, zz, ze]
  rw [e0]
  replace hS := hS.ext hW
  clear hW
  go_wp2_with fail
  go_ret
  exact ⟨rfl, (hS.sub (List.sublist_append_right [_, _] F)).mono KS.out fun D w h => k0.out _ _ (k1.out _ _ h)⟩
end
section
open Go.RowKit
set_option exponentiation.threshold 5000
theorem start_bytesT {W : World} {D : Nat -> Prop} {v : Value} {l : List Nat} (h : Bx W) (hv : Sl W D 1 v l.length (G1 l)) : ∃ K : (Nat -> Prop) -> World -> Prop, (∀ D w, K D w -> Bx w /\ D 0) /\ (∀ D w, K D w -> Sl w D 1 v l.length (G1 l)) /\ St W W [] K :=
 ⟨fun D w => (Bx w /\ D 0) /\ Sl w D 1 v l.length (G1 l), fun _ _ h => h.1, fun _ _ h => h.2, St.start (D := fun _ => True) (C5.and (Az (by decide))) ⟨⟨h, trivial⟩, hv.imp fun _ _ _ => trivial⟩⟩
end
section
open Go.RowKit
attribute [local go_sem ↓] Go.wp_at_zero Go.wp_at_succ
set_option maxRecDepth 20000
section
variable {w0 w : World} {X : List Aj} {K : (Nat -> Prop) -> World -> Prop} {q : Nat} {left : List Nat} {err : Int}
end
theorem sl_take {w : World} {D : Nat -> Prop} {A : Option Addr} {m c n : Nat} {xs : List Value} (h : Sl w D 1 (.slice A m c) m xs) (hn : n <= m) : Sl w D 1 (.slice A n c) n (xs.take n) := by
 obtain ⟨h1, A', c', e, h2, h3, h4⟩ := h
 injection e with e1 _ e2
 subst e1 e2
 refine ⟨by rw [List.length_take, h1]; omega, A, c, rfl, by omega, h3, fun h0 => ?_⟩
 obtain ⟨b, o, h5, h6, h7, h8⟩ := h4 (by omega)
 refine ⟨b, o, h5, h6, h7, fun j x hj => h8 j x ?_⟩
 rw [List.getElem?_take] at hj
 split at hj
 ·exact hj
 ·cases hj
end
section
open Go.RowKit
attribute [local go_sem ↓] Go.wp_at_zero Go.wp_at_succ
set_option maxRecDepth 20000
end
section
open Go.RowKit
attribute [local go_sem ↓] Go.wp_at_zero Go.wp_at_succ
set_option maxRecDepth 20000
end
section
open Go.RowKit
attribute [local go_sem ↓] Go.wp_at_zero Go.wp_at_succ
set_option maxRecDepth 20000
def valB : List Nat -> Nat
 | [] => 0
 | x :: r => x + 256 * valB r
theorem valB_take {l : List Nat} : ∀ {k : Nat}, k < l.length -> valB (l.take (k + 1)) = valB (l.take k) + l.getD k 0 * 2 ^ (8 * k) := by
 induction l with
 | nil => intro k h; simp at h
 | cons x r ih =>
  intro k h
  cases k with
  | zero => simp [valB]
  | succ k =>
   have := ih (k := k) (by simpa using h)
   simp only [List.take_succ_cons, valB, List.getD_cons_succ] at this ⊢
   rw [this, show 8 * (k + 1) = 8 * k + 8 by omega, Nat.pow_add, Nat.mul_add]
   generalize 2 ^ (8 * k) = P
   rw [show (2 : Nat) ^ 8 = 256 from rfl, <- Nat.add_assoc]
   congr 1
   rw [Nat.mul_left_comm, Nat.mul_comm P 256]
end
section
open Go.RowKit
attribute [local go_sem ↓] Go.wp_at_zero Go.wp_at_succ
set_option maxRecDepth 20000
end
section
open Go.RowKit
set_option maxRecDepth 20000
theorem valB_append (l : List Nat) (x : Nat) : valB (l ++ [x]) = valB l + x * 2 ^ (8 * l.length) := by
 have h := valB_take (l := l ++ [x]) (k := l.length) (by simp)
 rw [List.take_of_length_le (by simp)] at h
 simpa using h
theorem IF (N : Nat) : ∀ m, valB ((List.range m).map fun k => (N >>> (8 * k)) % 256) = N % 2 ^ (8 * m)
 | 0 => by simp [valB, Nat.mod_one]
 | m + 1 => by
  rw [List.range_succ, List.map_append, List.map_cons, List.map_nil, valB_append, IF N m]
  rw [List.length_map, List.length_range, show 8 * (m + 1) = 8 * m + 8 by omega, Nat.pow_add, Nat.mod_mul, Nat.shiftRight_eq_div_pow]
  rw [Nat.mul_comm (2 ^ (8 * m))]
theorem Gs (N : Nat) : valB (B0 N) = N := by
 unfold B0
 split
 ·rename_i h; rw [h]; rfl
 ·rw [IF, Nat.mod_eq_of_lt]
  exact Nat.lt_of_lt_of_le Nat.lt_log2_self (Nat.pow_le_pow_right (by decide) (by omega))
end
section
open Go.RowKit Go.Maps
open Go.WideElems (Fit rd rg pl rd_val elemAt)
set_option exponentiation.threshold 5000
set_option maxRecDepth 20000
def G2 (N : Nat) : ByteArray := strOfNums ((B0 N).map Int.ofNat)
def Jf (N : Nat) : List UInt8 := (B0 N).map UInt8.ofNat
theorem strN_data (N : Nat) : (G2 N).data.toList = Jf N := by
 unfold G2 Jf
 rw [strOfNums_data, List.map_map]
 rfl
theorem strN_size (N : Nat) : (G2 N).size = (B0 N).length := by
 unfold G2
 rw [strOfNums_size, List.length_map]
theorem keyT_inj {M N : Nat} (h : Jf M = Jf N) : M = N := by
 have hb : ∀ {l m : List Nat}, Bytes l -> Bytes m -> l.map UInt8.ofNat = m.map UInt8.ofNat -> l = m := fun {l m} hl hm e => by
  have h1 := congrArg (List.map UInt8.toNat) e
  rw [List.map_map, List.map_map] at h1
  have key : ∀ {k : List Nat}, Bytes k -> k.map (UInt8.toNat ∘ UInt8.ofNat) = k := fun {k} hk => by
   conv => rhs; rw [<- List.map_id k]
   refine List.map_congr_left fun x hx => ?_
   have := hk x hx
   simp [Nat.mod_eq_of_lt this]
  rwa [key hl, key hm] at h1
 have := hb (FM M) (FM N) h
 rw [<- Gs M, <- Gs N, this]
theorem key_mem {N : Nat} {l : List Nat} : Jf N ∈ l.map Jf ↔ N ∈ l := by
 constructor
 ·intro h
  obtain ⟨M, hM, e⟩ := List.mem_map.1 h
  rwa [<- keyT_inj e]
 ·intro h
  exact List.mem_map.2 ⟨N, h, rfl⟩
def FW (es : Array MapEntry) (clock n : Nat) (l : List Nat) : Prop :=
 Fit Tryz.prog 9 (plainElem (H := Unit) Tryz.prog 4) es clock /\ es.size <= n /\ ∀ t : List UInt8, (DataW.map ((es.toList.map (rg Tryz.prog 9 (plainElem (H := Unit) Tryz.prog 4))).foldr DataW.insert [])).atKey (.string t) (.lit (.bool false)) = .lit (.bool (decide (t ∈ l.map Jf)))
theorem elem_bool_inv {P : Program} {e : TypeId} (he : P.underlying e = some .bool) {v : Value} {z : DataW Unit × List MemPlace} (h : plainElem P e v = some z) : ∃ x, v = .bool x /\ z = (.lit (.bool x), []) := by
 unfold plainElem at h
 rw [he] at h
 cases v <;> simp at h
 exact ⟨_, rfl, h.symm⟩
theorem map_own {w : World} {b n clock : Nat} {es : Array MapEntry} {l : List Nat} (h : FW es clock n l) (hb : w.heap[b]? = some (.map es clock)) :
  w.ownsMap Tryz.prog 9 (plainElem (H := Unit) Tryz.prog 4) b n (DataW.map ((es.toList.map (rg Tryz.prog 9 (plainElem (H := Unit) Tryz.prog 4))).foldr DataW.insert [])) := ⟨es, clock, hb, h.1, h.2.1, rfl⟩
theorem map_made : FW #[] 0 0 [] := by
 obtain ⟨es, clock, h1, h2, h3, h4⟩ := World.ownsMap_made default Tryz.prog 9 (plainElem (H := Unit) Tryz.prog 4)
 have e : es = #[] /\ clock = 0 := by
  rw [(MapKept.heap_alloc default _).1] at h1
  injection h1 with h1
  injection h1 with a b
  exact ⟨a.symm, b.symm⟩
 obtain ⟨rfl, rfl⟩ := e
 exact ⟨h2, h3, fun t => by simp [DataW.atKey]⟩
theorem run_seen {w : World} {b n clock : Nat} {es : Array MapEntry} {l : List Nat} (h : FW es clock n l) (hb : w.heap[b]? = some (.map es clock)) {N : Nat} (hN : (B0 N).length <= 512) :
  (Instr.lookup 126 (.map (some b)) (.string (G2 N)) false).run Tryz.prog w = .ok (.bool (decide (N ∈ l))) w := by
 obtain ⟨v, ps, hrun, hv⟩ := (map_own h hb).lookup (string_keyed Tryz.underlying9) Tryz.underlying126 (z := .bool false) (by kernel_rfl) (plainElem_bool Tryz.underlying4 false) (Go.WideMaps.keyOf_string_mk Tryz.underlying9 (s := G2 N) (by rw [strN_size]; unfold maxLen; omega))
 rw [strN_data, h.2.2] at hv
 have e : v = .bool (decide (Jf N ∈ l.map Jf)) := by
  obtain ⟨x, rfl, hx⟩ := elem_bool_inv Tryz.underlying4 hv
  injection hx with hx _
  injection hx with hx
  injection hx with hx
  rw [hx]
 rw [hrun, e]
 simp only [key_mem]
theorem run_enter {w : World} {b n clock : Nat} {es : Array MapEntry} {l : List Nat} (h : FW es clock n l) (hb : w.heap[b]? = some (.map es clock)) {N : Nat} (hN : (B0 N).length <= 512) (hn : n <= 1000000) :
  ∃ w' es' clock', (Instr.mapUpdate 126 (.map (some b)) (.string (G2 N)) (.bool true)).run Tryz.prog w = .ok () w' /\ w'.heap[b]? = some (.map es' clock') /\ FW es' clock' (n + 1) (l ++ [N]) /\ w.grownBy w' (some b) := by
 obtain ⟨w', hrun, hown, hg⟩ := (map_own h hb).update (string_keyed Tryz.underlying9) Tryz.underlying126 (by unfold maxLen; omega) (Go.WideMaps.keyOf_string_mk Tryz.underlying9 (s := G2 N) (by rw [strN_size]; unfold maxLen; omega)) (plainElem_bool (H := Unit) Tryz.underlying4 true)
 obtain ⟨es', clock', h1, h2, h3, h4⟩ := hown
 refine ⟨w', es', clock', hrun, h1, ⟨h2, h3, fun t => ?_⟩, hg⟩
 rw [<- h4, strN_data]
 by_cases e : t = Jf N
 ·subst e
  rw [atKey_put_same (k := .string (Jf N)) ⟨_, rfl⟩ trivial]
  simp
 ·rw [atKey_put_other (by simpa using e), h.2.2]
  simp [e]
theorem IQ {w : World} {D : Nat -> Prop} {v : Value} {N : Nat} (h : Sl w D 1 v (B0 N).length (G1 (B0 N))) : (convert 22 9 v).run Tryz.prog w = .ok (.string (G2 N)) w := by
 obtain ⟨h1, A, c, rfl, hc1, hc2, h3⟩ := h
 have hs : G2 N = strOfNums ((B0 N).map Int.ofNat) := rfl
 rw [hs]
 clear hs
 generalize B0 N = l at *
 by_cases h0 : l.length = 0
 ·obtain rfl : l = [] := List.length_eq_zero_iff.1 h0
  cases A with
  | none => exact run_convert_bytes_nil w _ _ Tryz.underlying22 Tryz.underlying5 _ _ _ Tryz.underlying9
  | some a =>
   rw [run_convert_bytes_string w _ _ _ (some a) _ _ Tryz.underlying22 Tryz.underlying5 Tryz.underlying9, run_bytesToString w a _ _ [] (by simp [loadCells, loadCellsFrom])]
   rfl
 ·obtain ⟨b, o, rfl, -, -, h4⟩ := h3 (by omega)
  refine run_convert_bytes_arg w _ _ Tryz.underlying22 Tryz.underlying5 b o _ _ (l.map Int.ofNat) (by simp) (fun i hi => ?_) _ Tryz.underlying9
  have := h4 i _ (u8s_at l i hi)
  rw [this]
  simp [List.getD_eq_getElem?_getD, List.getElem?_eq_getElem hi]
end
section
open Go.RowKit
attribute [local go_sem ↓] Go.wp_at_zero Go.wp_at_succ
set_option maxRecDepth 20000
def EQ (a b : Nat) : Int := if a < b then -1 else if b < a then 1 else 0
def Dw : List Nat -> List Nat -> Int
 | [], [] => 0
 | [], _ :: _ => -1
 | _ :: _, [] => 1
 | a :: r, b :: s => if EQ a b = 0 then Dw r s else EQ a b
theorem cmpL_at {l m : List Nat} {i a b : Nat} (h1 : l[i]? = some a) (h2 : m[i]? = some b) : Dw (l.drop i) (m.drop i) = if EQ a b = 0 then Dw (l.drop (i + 1)) (m.drop (i + 1)) else EQ a b := by
 obtain ⟨h3, rfl⟩ := List.getElem?_eq_some_iff.1 h1
 obtain ⟨h4, rfl⟩ := List.getElem?_eq_some_iff.1 h2
 rw [List.drop_eq_getElem_cons h3, List.drop_eq_getElem_cons h4]
 rfl
theorem cmpL_end1 {l m : List Nat} {i : Nat} (h1 : i < l.length) (h2 : m.length <= i) : Dw (l.drop i) (m.drop i) = 1 := by
 rw [List.drop_eq_getElem_cons h1, List.drop_eq_nil_of_le h2]; rfl
theorem cmpL_end2 {l m : List Nat} (h2 : l.length < m.length) : Dw (l.drop l.length) (m.drop l.length) = -1 := by
 rw [List.drop_eq_getElem_cons h2, List.drop_eq_nil_of_le (Nat.le_refl _)]; rfl
theorem cmpL_end3 {l m : List Nat} (h2 : l.length = m.length) : Dw (l.drop l.length) (m.drop l.length) = 0 := by
 rw [List.drop_eq_nil_of_le (Nat.le_refl _), List.drop_eq_nil_of_le (Nat.le_of_eq h2.symm)]; rfl
theorem nan_any (a : Int) (w0 : World) : Calls Tryz.prog 140 #[.int .i64 a] w0 (AM (fun x _ => x = .bool false) w0) := by
 go_enter Tryz.func140, Tryz.ntmps140
 go_wp2_with (first | ((with_reducible refine qB ?_); refine qc ?_ ?_ <;> intro h_ <;> go_prune))
 go_ret
 exact AM.mk rfl (Below.refl _ _)
theorem ccmp_any (a b : Nat) (w0 : World) : Calls Tryz.prog 120 #[.int .i64 (a : Nat), .int .i64 (b : Nat)] w0 (AM (fun x _ => x = .int .i64 (EQ a b)) w0) := by
 obtain ⟨hS⟩ : Nonempty (St w0 w0 [] fun _ _ => True) := ⟨St.start (D := fun _ => True) (fun _ _ _ _ _ _ _ _ => trivial) trivial⟩
 obtain ⟨z, hz⟩ : ∃ z, EQ a b = z := ⟨_, rfl⟩
 rw [hz]
 go_enter Tryz.func120, Tryz.ntmps120
 rcases Nat.lt_trichotomy a b with h | h | h
 ·obtain rfl : z = -1 := by rw [<- hz]; unfold EQ; rw [if_pos h]
  clear hz
  go_wp2_with (first
   | ((with_reducible refine qB ?_); refine qc ?_ ?_ <;> intro h_ <;> go_prune)
   | (go_at_call 140; refine (nan_any _ _).mono ?_; rintro r_ w_ ⟨_, rfl, rfl, hb_⟩; replace hS := hS.ext hb_; clear hb_))
  go_ret
  exact AM.mk rfl hS.below
 ·obtain rfl : z = 0 := by rw [<- hz]; unfold EQ; rw [if_neg (by omega), if_neg (by omega)]
  clear hz
  go_wp2_with (first
   | ((with_reducible refine qB ?_); refine qc ?_ ?_ <;> intro h_ <;> go_prune)
   | (go_at_call 140; refine (nan_any _ _).mono ?_; rintro r_ w_ ⟨_, rfl, rfl, hb_⟩; replace hS := hS.ext hb_; clear hb_))
  go_ret
  exact AM.mk rfl hS.below
 ·obtain rfl : z = 1 := by rw [<- hz]; unfold EQ; rw [if_neg (by omega), if_pos h]
  clear hz
  go_wp2_with (first
   | ((with_reducible refine qB ?_); refine qc ?_ ?_ <;> intro h_ <;> go_prune)
   | (go_at_call 140; refine (nan_any _ _).mono ?_; rintro r_ w_ ⟨_, rfl, rfl, hb_⟩; replace hS := hS.ext hb_; clear hb_))
  go_ret
  exact AM.mk rfl hS.below
set_option maxHeartbeats 1000000 in
theorem scmp_any {w0 : World} {D E : Nat -> Prop} {u v : Value} {l m : List Nat} (hu : Sl w0 D 1 u l.length (BD l)) (hv : Sl w0 E 1 v m.length (BD m)) (hl : l.length <= 1000000) (hm : m.length <= 1000000) :
  Calls Tryz.prog 85 #[u, v] w0 (AM (fun x _ => x = .int .i64 (Dw l m)) w0) := by
 obtain ⟨A, c, rfl, _, _⟩ := hu.shape
 obtain ⟨B, d, rfl, _, _⟩ := hv.shape
 obtain ⟨K, k1, k2, hS⟩ : ∃ K : (Nat -> Prop) -> World -> Prop, (∀ D w, K D w -> Sl w D 1 (.slice A l.length c) l.length (BD l)) /\ (∀ D w, K D w -> Sl w D 1 (.slice B m.length d) m.length (BD m)) /\ St w0 w0 [] K := ⟨fun D w => Sl w D 1 (.slice A l.length c) l.length (BD l) /\ Sl w D 1 (.slice B m.length d) m.length (BD m), fun _ _ h => h.1, fun _ _ h => h.2, St.start (D := fun _ => True) ((Az (by decide)).and (Az (by decide))) ⟨hu.imp fun _ _ _ => trivial, hv.imp fun _ _ _ => trivial⟩⟩
 clear hu hv
 obtain ⟨z, hz⟩ : ∃ z, Dw l m = z := ⟨_, rfl⟩
 rw [hz]
 go_enter Tryz.func85, Tryz.ntmps85
 go_wp2_with fail
 go_loopw [11] (fun iv wr => ∃ i : Nat, iv = .int .i64 (i : Nat) /\ i <= l.length /\ i <= m.length /\ Hid (Dw (l.drop i) (m.drop i) = z) /\ St w0 wr [] K) (fun i _ => l.length - (intOf i).toNat)
 case atStart => exact ⟨0, rfl, by omega, by omega, Lib.hid hz, hS⟩
 case round =>
  clear hS hz
  obtain ⟨i, rfl, hi, hj, HZ, hS⟩ := hrel
  by_cases hil : i < l.length
  ·obtain ⟨b, o, rfl⟩ := Hv (k1 _ _ hS.ro) (by omega)
   obtain ⟨y, hy⟩ : ∃ y, l[i]? = some y := ⟨_, List.getElem?_eq_getElem hil⟩
   have HX : Hid ((BD l)[i]? = some (.int .i64 (y : Nat))) := Lib.hid (by unfold BD; rw [List.getElem?_map, hy]; rfl)
   have HY := Lib.hid hy
   clear hy
   by_cases him : i < m.length
   ·obtain ⟨b2, o2, rfl⟩ := Hv (k2 _ _ hS.ro) (by omega)
    obtain ⟨x, hx⟩ : ∃ x, m[i]? = some x := ⟨_, List.getElem?_eq_getElem him⟩
    have HX2 : Hid ((BD m)[i]? = some (.int .i64 (x : Nat))) := Lib.hid (by unfold BD; rw [List.getElem?_map, hx]; rfl)
    have HE := Lib.hid (cmpL_at HY.out hx)
    rw [HZ.out] at HE
    clear hx HZ
    by_cases e : EQ y x = 0
    ·have HC := Lib.hid e
     have HE2 : Hid (Dw (l.drop (i + 1)) (m.drop (i + 1)) = z) := Lib.hid (by rw [HE.out, if_pos e])
     clear e HE
     go_wp2_with (first
      | ((with_reducible refine qB ?_); refine qc ?_ ?_ <;> intro h_ <;> go_prune)
      | ((with_reducible refine qA 15 ?_); refine BigFrame.wpList_want rfl fun _ hK => At rfl rfl (by kernel_rfl) (CH (k1 _ _ hS.ro) HX.out) (hK _ _ ?_))
      | ((with_reducible refine qA 23 ?_); refine BigFrame.wpList_want rfl fun _ hK => At rfl rfl (by kernel_rfl) (CH (k2 _ _ hS.ro) HX2.out) (hK _ _ ?_))
      | (go_at_call 120; refine (ccmp_any _ _ _).mono ?_; rw [HC.out]; rintro r_ w_ ⟨_, rfl, rfl, hb_⟩; replace hS := hS.ext hb_; clear hb_))
     exact ⟨⟨i + 1, by go_num, hil, him, HE2, hS⟩, by simp [intOf]; omega⟩
    ·have HE2 : Hid (EQ y x = z) := Lib.hid (by rw [HE.out, if_neg e])
     have hz0 : z ≠ 0 := by rw [<- HE2.out]; exact e
     clear e HE
     go_wp2_with (first
      | ((with_reducible refine qB ?_); refine qc ?_ ?_ <;> intro h_ <;> go_prune)
      | ((with_reducible refine qA 15 ?_); refine BigFrame.wpList_want rfl fun _ hK => At rfl rfl (by kernel_rfl) (CH (k1 _ _ hS.ro) HX.out) (hK _ _ ?_))
      | ((with_reducible refine qA 23 ?_); refine BigFrame.wpList_want rfl fun _ hK => At rfl rfl (by kernel_rfl) (CH (k2 _ _ hS.ro) HX2.out) (hK _ _ ?_))
      | (go_at_call 120; refine (ccmp_any _ _ _).mono ?_; rw [HE2.out]; rintro r_ w_ ⟨_, rfl, rfl, hb_⟩; replace hS := hS.ext hb_; clear hb_))
     go_ret
     exact AM.mk rfl hS.below
   ·have HE : Hid (z = 1) := Lib.hid (by rw [<- HZ.out]; exact cmpL_end1 hil (by omega))
    go_wp2_with (first
     | ((with_reducible refine qB ?_); refine qc ?_ ?_ <;> intro h_ <;> go_prune)
     | ((with_reducible refine qA 15 ?_); refine BigFrame.wpList_want rfl fun _ hK => At rfl rfl (by kernel_rfl) (CH (k1 _ _ hS.ro) HX.out) (hK _ _ ?_)))
    go_ret
    exact AM.mk (by rw [HE.out]; rfl) hS.below
  ·obtain rfl : i = l.length := by omega
   by_cases e : l.length < m.length
   ·have HE : Hid (z = -1) := Lib.hid (by rw [<- HZ.out]; exact cmpL_end2 e)
    go_wp2_with (first | ((with_reducible refine qB ?_); refine qc ?_ ?_ <;> intro h_ <;> go_prune))
    go_ret
    exact AM.mk (by rw [HE.out]; rfl) hS.below
   ·have HE : Hid (z = 0) := Lib.hid (by rw [<- HZ.out]; exact cmpL_end3 (by omega))
    go_wp2_with (first | ((with_reducible refine qB ?_); refine qc ?_ ?_ <;> intro h_ <;> go_prune))
    go_ret
    exact AM.mk (by rw [HE.out]; rfl) hS.below
end
section
open Go.RowKit
set_option exponentiation.threshold 5000
def AtD (p : Af) (n s : Nat) : Prop := ∃ l : List Int, l.length = n /\ ∃ m, runTo p p.start 0 l = (s, m, true)
def GoalD (p : Af) (d : Nat) : Prop := (∃ s, AtD p d s /\ reachB p s = true) /\ ∀ n, n < d -> ∀ s, AtD p n s -> reachB p s = false
def Dc (p : Af) (d s : Nat) : Prop := ∃ n, n <= d /\ AtD p n s
section
variable {p : Af}
theorem at_zero : AtD p 0 p.start := ⟨[], rfl, 0, by rw [runTo]⟩
theorem IA {n s t : Nat} {k : Int} (h : AtD p n s) (hk : stepM p s k = some t) : AtD p (n + 1) t := by
 obtain ⟨l, rfl, m, hr⟩ := h
 exact ⟨l ++ [k], by simp, _, EA hr hk⟩
theorem run_rch : ∀ {l : List Int} {N n s m : Nat}, Rch p N -> runTo p N n l = (s, m, true) -> Rch p s
 | [], N, n, s, m, h, hr => by
  rw [runTo] at hr
  obtain rfl : N = s := by injection hr
  exact h
 | k :: r, N, n, s, m, h, hr => by
  cases hk : stepM p N k with
  | none => rw [DJ hk] at hr; simp at hr
  | some M => rw [Cz hk] at hr; exact run_rch (.step h hk) hr
theorem at_rch {n s : Nat} (h : AtD p n s) : Rch p s := by
 obtain ⟨l, _, m, hr⟩ := h
 exact run_rch .start hr
theorem Gx {k : Int} : ∀ {l : List Int} {N n t m : Nat}, runTo p N n (l ++ [k]) = (t, m, true) -> ∃ s m', runTo p N n l = (s, m', true) /\ stepM p s k = some t
 | [], N, n, t, m, hr => by
  rw [List.nil_append] at hr
  cases hk : stepM p N k with
  | none => rw [DJ hk] at hr; simp at hr
  | some M =>
   rw [Cz hk, runTo] at hr
   obtain rfl : M = t := by injection hr
   exact ⟨N, n, by rw [runTo], hk⟩
 | j :: r, N, n, t, m, hr => by
  rw [List.cons_append] at hr
  cases hk : stepM p N j with
  | none => rw [DJ hk] at hr; simp at hr
  | some M =>
   rw [Cz hk] at hr
   obtain ⟨s, m', h1, h2⟩ := Gx hr
   exact ⟨s, m', by rw [Cz hk]; exact h1, h2⟩
theorem at_pred {n t : Nat} (h : AtD p (n + 1) t) : ∃ s k, AtD p n s /\ stepM p s k = some t := by
 obtain ⟨l, hl, m, hr⟩ := h
 obtain ⟨r, k, rfl⟩ : ∃ r k, l = r ++ [k] := ⟨l.dropLast, l.getLast (by intro e; simp [e] at hl), (List.dropLast_concat_getLast _).symm⟩
 obtain ⟨s, m', h1, h2⟩ := Gx hr
 exact ⟨s, k, ⟨r, by simpa using hl, m', h1⟩, h2⟩
theorem near_all {d : Nat} (h : ∀ s, Dc p (d + 1) s -> Dc p d s) {s : Nat} (hs : Rch p s) : Dc p d s := by
 induction hs with
 | start => exact ⟨0, Nat.zero_le _, at_zero⟩
 | step _ hk ih => obtain ⟨n, hn, h1⟩ := ih; exact h _ ⟨n + 1, by omega, IA h1 hk⟩
theorem near_mono {d e s : Nat} (h : Dc p d s) (hd : d <= e) : Dc p e s := by obtain ⟨n, hn, h⟩ := h; exact ⟨n, by omega, h⟩
theorem near_zero {s : Nat} : Dc p 0 s ↔ s = p.start := by
 constructor
 ·rintro ⟨n, hn, l, hl, m, hr⟩
  obtain rfl := List.length_eq_zero_iff.1 (by omega : l.length = 0)
  rw [runTo] at hr
  injection hr with h1 _
  exact h1.symm
 ·rintro rfl
  exact ⟨0, Nat.le_refl _, at_zero⟩
theorem near_succ {d t : Nat} : Dc p (d + 1) t ↔ Dc p d t \/ ∃ s k, Dc p d s /\ (∀ e, e < d -> ¬ Dc p e s) /\ stepM p s k = some t := by
 constructor
 ·rintro ⟨n, hn, h⟩
  rcases Nat.lt_or_ge d n with h1 | h1
  ·obtain rfl : n = d + 1 := by omega
   obtain ⟨s, k, h2, h3⟩ := at_pred h
   by_cases h4 : ∃ e, e < d /\ Dc p e s
   ·obtain ⟨e, he, i, hi, h4⟩ := h4
    exact .inl ⟨i + 1, by omega, IA h4 h3⟩
   ·exact .inr ⟨s, k, ⟨d, Nat.le_refl _, h2⟩, fun e he h5 => h4 ⟨e, he, h5⟩, h3⟩
  ·exact .inl ⟨n, h1, h⟩
 ·rintro (h | ⟨s, k, ⟨n, hn, h⟩, _, hk⟩)
  ·exact near_mono h (by omega)
  ·exact ⟨n + 1, by omega, IA h hk⟩
theorem goal_near {d : Nat} : GoalD p d ↔ (∃ s, Dc p d s /\ reachB p s = true) /\ ∀ n, n < d -> ∀ s, Dc p n s -> reachB p s = false := by
 constructor
 ·rintro ⟨⟨s, h1, h2⟩, h3⟩
  exact ⟨⟨s, ⟨d, Nat.le_refl _, h1⟩, h2⟩, fun n hn s ⟨i, hi, hs⟩ => h3 i (by omega) s hs⟩
 ·rintro ⟨⟨s, ⟨i, hi, h1⟩, h2⟩, h3⟩
  obtain rfl : i = d := by
   rcases Nat.lt_or_ge i d with h | h
   ·have := h3 i h s ⟨i, Nat.le_refl _, h1⟩
    rw [h2] at this; cases this
   ·omega
  exact ⟨⟨s, h1, h2⟩, fun n hn s hs => h3 n hn s ⟨n, Nat.le_refl _, hs⟩⟩
end
abbrev Eu := Nat × Int × Int
def Bh : Eu := (0, -1, -1)
noncomputable def addR (p : Af) (l : List Eu) (i k : Nat) : List Eu := match stepM p (l.getD i Bh).1 (k : Nat) with
 | none => l
 | some t => if t ∈ l.map (·.1) then l else l ++ [(t, (i : Int), (k : Int))]
noncomputable def rowR (p : Af) (l : List Eu) (i m : Nat) : List Eu := (List.range m).foldl (fun l k => addR p l i k) l
noncomputable def lvlR (p : Af) (l : List Eu) (a n : Nat) : List Eu := (List.range n).foldl (fun l j => rowR p l (a + j) p.rules.length) l
theorem DA (p : Af) (l : List Eu) (i m : Nat) : rowR p l i (m + 1) = addR p (rowR p l i m) i m := by
 unfold rowR; rw [List.range_succ, List.foldl_append]; rfl
theorem DC (p : Af) (l : List Eu) (a n : Nat) : lvlR p l a (n + 1) = rowR p (lvlR p l a n) (a + n) p.rules.length := by
 unfold lvlR; rw [List.range_succ, List.foldl_append]; rfl
theorem DQ (p : Af) (l : List Eu) (i k : Nat) : (addR p l i k = l /\ ∀ t, stepM p (l.getD i Bh).1 (k : Nat) = some t -> t ∈ l.map (·.1)) \/ ∃ t, stepM p (l.getD i Bh).1 (k : Nat) = some t /\ ¬ t ∈ l.map (·.1) /\ addR p l i k = l ++ [(t, (i : Int), (k : Int))] := by
 unfold addR
 cases h : stepM p (l.getD i Bh).1 (k : Nat) with
 | none => exact .inl ⟨rfl, fun t ht => by cases ht⟩
 | some t =>
  by_cases h2 : t ∈ l.map (·.1)
  ·exact .inl ⟨by dsimp only; rw [if_pos h2], fun t' ht => by obtain rfl := Option.some.inj ht; exact h2⟩
  ·exact .inr ⟨t, rfl, h2, by dsimp only; rw [if_neg h2]⟩
theorem addR_pre (p : Af) (l : List Eu) (i k : Nat) : l <+: addR p l i k := by
 rcases DQ p l i k with ⟨h, _⟩ | ⟨t, _, _, h⟩
 ·rw [h]; exact List.prefix_refl _
 ·rw [h]; exact List.prefix_append _ _
theorem Ek (p : Af) (l : List Eu) (i : Nat) : ∀ m, l <+: rowR p l i m
 | 0 => List.prefix_refl _
 | m + 1 => by rw [DA]; exact (Ek p l i m).trans (addR_pre _ _ _ _)
theorem En (p : Af) (l : List Eu) (a : Nat) : ∀ n, l <+: lvlR p l a n
 | 0 => List.prefix_refl _
 | n + 1 => by rw [DC]; exact (En p l a n).trans (Ek _ _ _ _)
theorem rowR_mono (p : Af) (l : List Eu) (i : Nat) {m n : Nat} (h : m <= n) : rowR p l i m <+: rowR p l i n := by
 induction h with
 | refl => exact List.prefix_refl _
 | step _ ih => rw [DA]; exact ih.trans (addR_pre _ _ _ _)
theorem lvlR_mono (p : Af) (l : List Eu) (a : Nat) {m n : Nat} (h : m <= n) : lvlR p l a m <+: lvlR p l a n := by
 induction h with
 | refl => exact List.prefix_refl _
 | step _ ih => rw [DC]; exact ih.trans (Ek _ _ _ _)
theorem pre_get {l m : List Eu} (h : l <+: m) {i : Nat} (hi : i < l.length) : m.getD i Bh = l.getD i Bh := by
 obtain ⟨t, rfl⟩ := h
 rw [List.getD_eq_getElem?_getD, List.getD_eq_getElem?_getD, List.getElem?_append_left hi]
theorem mem_addR {p : Af} {l : List Eu} {i k s : Nat} : s ∈ (addR p l i k).map (·.1) ↔ s ∈ l.map (·.1) \/ stepM p (l.getD i Bh).1 (k : Nat) = some s := by
 rcases DQ p l i k with ⟨h, h2⟩ | ⟨t, h1, _, h⟩
 ·rw [h]; exact ⟨.inl, fun h => h.elim id (h2 s)⟩
 ·rw [h, h1, List.map_append, List.mem_append]
  constructor
  ·rintro (h | h)
   ·exact .inl h
   ·right; rw [List.map_cons, List.map_nil, List.mem_singleton] at h; rw [h]
  ·rintro (h | h)
   ·exact .inl h
   ·right; obtain rfl := Option.some.inj h; simp
theorem mem_rowR {p : Af} {l : List Eu} {i s : Nat} (hi : i < l.length) : ∀ {m : Nat}, s ∈ (rowR p l i m).map (·.1) ↔ s ∈ l.map (·.1) \/ ∃ k, k < m /\ stepM p (l.getD i Bh).1 (k : Nat) = some s
 | 0 => by
  constructor
  ·exact .inl
  ·rintro (h | ⟨k, hk, _⟩)
   ·exact h
   ·omega
 | m + 1 => by
  rw [DA, mem_addR, mem_rowR hi, pre_get (Ek p l i m) hi]
  constructor
  ·rintro ((h | ⟨k, hk, h⟩) | h)
   ·exact .inl h
   ·exact .inr ⟨k, by omega, h⟩
   ·exact .inr ⟨m, by omega, h⟩
  ·rintro (h | ⟨k, hk, h⟩)
   ·exact .inl (.inl h)
   ·rcases Nat.lt_or_ge k m with h1 | h1
    ·exact .inl (.inr ⟨k, h1, h⟩)
    ·obtain rfl : k = m := by omega
     exact .inr h
theorem mem_lvlR {p : Af} {l : List Eu} {a s : Nat} : ∀ {n : Nat}, a + n <= l.length -> (s ∈ (lvlR p l a n).map (·.1) ↔ s ∈ l.map (·.1) \/ ∃ j, a <= j /\ j < a + n /\ ∃ k, k < p.rules.length /\ stepM p (l.getD j Bh).1 (k : Nat) = some s)
 | 0, _ => by
  constructor
  ·exact .inl
  ·rintro (h | ⟨k, hk, h, _⟩)
   ·exact h
   ·omega
 | n + 1, hn => by
  have hp := En p l a n
  rw [DC, mem_rowR (by have := hp.length_le; omega), mem_lvlR (by omega), pre_get hp (by omega)]
  constructor
  ·rintro ((h | ⟨j, h1, h2, h⟩) | h)
   ·exact .inl h
   ·exact .inr ⟨j, h1, by omega, h⟩
   ·exact .inr ⟨a + n, by omega, by omega, h⟩
  ·rintro (h | ⟨j, h1, h2, h⟩)
   ·exact .inl (.inl h)
   ·rcases Nat.lt_or_ge j (a + n) with h3 | h3
    ·exact .inl (.inr ⟨j, h1, h3, h⟩)
    ·obtain rfl : j = a + n := by omega
     exact .inr h
structure WfR (p : Af) (l : List Eu) : Prop where
 head : l[0]? = some (p.start, -1, -1)
 nodup : (l.map (·.1)).Nodup
 link : ∀ (j : Nat) (z : Eu), l[j]? = some z -> 0 < j -> ∃ (i k : Nat) (y : Eu), z.2.1 = (i : Int) /\ z.2.2 = (k : Int) /\ i < j /\ k < p.rules.length /\ l[i]? = some y /\ stepM p y.1 (k : Nat) = some z.1
def Dq (l : List Eu) : Nat -> Nat -> List Nat
 | 0, _ => []
 | n + 1, i => if 0 <= (l.getD i Bh).2.1 then (l.getD i Bh).2.2.toNat :: Dq l n (l.getD i Bh).2.1.toNat else []
def BH (l : List Eu) (i : Nat) : List Nat := (Dq l (i + 1) i).reverse
section
variable {p : Af} {l m : List Eu}
theorem WfR.pos (h : WfR p l) : 0 < l.length := (List.getElem?_eq_some_iff.1 h.head).1
theorem G8 {i : Nat} (hi : i < l.length) : l[i]? = some (l.getD i Bh) := by rw [List.getD_eq_getElem?_getD, List.getElem?_eq_getElem hi]; rfl
theorem GY {i : Nat} {z : Eu} (h : l[i]? = some z) : l.getD i Bh = z := by rw [List.getD_eq_getElem?_getD, h]; rfl
theorem WfR.from0 (h : WfR p l) {i : Nat} (hi : i < l.length) : (0 <= (l.getD i Bh).2.1 ↔ 0 < i) /\ ((l.getD i Bh).2.1.toNat < i \/ i = 0) := by
 rcases Nat.eq_zero_or_pos i with h0 | h0
 ·subst h0
  have e : l.getD 0 Bh = (p.start, -1, -1) := GY h.head
  rw [e]; exact ⟨by simp, .inr rfl⟩
 ·obtain ⟨j, k, y, h1, -, h3, -⟩ := h.link i _ (G8 hi) h0
  rw [h1]; exact ⟨by simp; omega, .inl (by omega)⟩
theorem Gb (h : WfR p l) : ∀ (m i n : Nat), i < m -> i < l.length -> i < n -> Dq l n i = Dq l (i + 1) i
 | 0, _, _, h1, _, _ => by omega
 | m + 1, i, n, h1, hi, hn => by
  obtain ⟨n, rfl⟩ : ∃ k, n = k + 1 := ⟨n - 1, by omega⟩
  unfold Dq
  obtain ⟨h2, h3⟩ := h.from0 hi
  split
  ·rename_i h4
   have h5 := h2.1 h4
   have h6 : (l.getD i Bh).2.1.toNat < i := by omega
   rw [Gb h m _ n (by omega) (by omega) (by omega)]
   obtain ⟨i, rfl⟩ : ∃ k, i = k + 1 := ⟨i - 1, by omega⟩
   rw [Gb h m _ (i + 1) (by omega) (by omega) (by omega)]
  ·rfl
theorem Js (h : WfR p l) {i : Nat} (hi : i < l.length) (h0 : 0 <= (l.getD i Bh).2.1) : Dq l (i + 1) i = (l.getD i Bh).2.2.toNat :: Dq l ((l.getD i Bh).2.1.toNat + 1) (l.getD i Bh).2.1.toNat := by
 obtain ⟨h2, h3⟩ := h.from0 hi
 have h5 := h2.1 h0
 have h6 : (l.getD i Bh).2.1.toNat < i := by omega
 conv => lhs; unfold Dq
 rw [if_pos h0, Gb h (i + 1) _ i (by omega) (by omega) h6]
theorem backR_end {i : Nat} (h0 : ¬ 0 <= (l.getD i Bh).2.1) : Dq l (i + 1) i = [] := by
 unfold Dq
 rw [if_neg h0]
theorem backR_len : ∀ (n i : Nat), (Dq l n i).length <= n
 | 0, _ => Nat.le_refl _
 | n + 1, i => by
  unfold Dq
  split
  ·have := backR_len n (l.getD i Bh).2.1.toNat
   rw [List.length_cons]; omega
  ·simp
theorem backR_pre (h : l <+: m) (hw : WfR p l) : ∀ (n i : Nat), i < l.length -> Dq m n i = Dq l n i
 | 0, _, _ => rfl
 | n + 1, i, hi => by
  unfold Dq
  rw [pre_get h hi]
  split
  ·rename_i h0
   obtain ⟨h2, h3⟩ := hw.from0 hi
   have := h2.1 h0
   rw [backR_pre h hw n _ (by omega)]
  ·rfl
theorem planR_pre (h : l <+: m) (hw : WfR p l) {i : Nat} (hi : i < l.length) : BH m i = BH l i := by
 unfold BH
 rw [backR_pre h hw _ _ hi]
theorem G6 (hw : WfR p l) {j i k : Nat} (hj : j < l.length) (h1 : (l.getD j Bh).2.1 = (i : Int)) (h2 : (l.getD j Bh).2.2 = (k : Int)) : BH l j = BH l i ++ [k] := by
 unfold BH
 rw [Js hw hj (by rw [h1]; omega), h1, h2, Int.toNat_natCast, Int.toNat_natCast, List.reverse_cons]
theorem G5 (hw : WfR p l) : BH l 0 = [] := by
 unfold BH
 rw [backR_end (by rw [GY hw.head]; exact of_decide_eq_true rfl)]; rfl
def intsL (l : List Nat) : List Int := l.map fun k : Nat => (k : Int)
theorem planR_run (hw : WfR p l) : ∀ (n i : Nat), i < n -> i < l.length -> runTo p p.start 0 (intsL (BH l i)) = ((l.getD i Bh).1, (BH l i).length, true)
 | 0, _, h, _ => by omega
 | n + 1, i, hn, hi => by
  rcases Nat.eq_zero_or_pos i with h0 | h0
  ·subst h0
   rw [G5 hw, GY hw.head]; rfl
  ·obtain ⟨j, k, y, h1, h2, h3, _, h5, h6⟩ := hw.link i _ (G8 hi) h0
   rw [G6 hw hi h1 h2]
   have ih := planR_run hw n j (by omega) (by omega)
   rw [GY h5] at ih
   have := EA ih h6
   simpa [intsL] using this
theorem J3 (hw : WfR p l) : ∀ (n i : Nat), i < n -> i < l.length -> (BH l i).length <= i
 | 0, _, h, _ => by omega
 | n + 1, i, hn, hi => by
  rcases Nat.eq_zero_or_pos i with h0 | h0
  ·subst h0
   rw [G5 hw]; exact Nat.le_refl _
  ·obtain ⟨j, k, y, h1, h2, h3, h4, h5, h6⟩ := hw.link i _ (G8 hi) h0
   rw [G6 hw hi h1 h2, List.length_append]
   have := J3 hw n j (by omega) (by omega)
   simp; omega
theorem wf_one : WfR p [(p.start, -1, -1)] := ⟨rfl, by simp, fun j z h h0 => by
 obtain ⟨j, rfl⟩ : ∃ k, j = k + 1 := ⟨j - 1, by omega⟩
 simp at h⟩
theorem wf_addR (hw : WfR p l) {i k : Nat} (hi : i < l.length) (hk : k < p.rules.length) : WfR p (addR p l i k) := by
 rcases DQ p l i k with ⟨h, _⟩ | ⟨t, h1, h2, h⟩
 ·rw [h]; exact hw
 rw [h]
 have hp := hw.pos
 refine ⟨by rw [List.getElem?_append_left hp]; exact hw.head, ?_, fun j z hz h0 => ?_⟩
 ·rw [List.map_append, List.nodup_append]
  refine ⟨hw.nodup, by simp, fun x hx y hy => ?_⟩
  simp only [List.map_cons, List.map_nil, List.mem_singleton] at hy
  subst hy
  rintro rfl
  exact h2 hx
 ·rcases Nat.lt_or_ge j l.length with h3 | h3
  ·rw [List.getElem?_append_left h3] at hz
   obtain ⟨i', k', y, q1, q2, q3, q4, q5, q6⟩ := hw.link j z hz h0
   exact ⟨i', k', y, q1, q2, q3, q4, by rw [List.getElem?_append_left (by omega)]; exact q5, q6⟩
  ·have h4 := (List.getElem?_eq_some_iff.1 hz).1
   rw [List.length_append, List.length_singleton] at h4
   obtain rfl : j = l.length := by omega
   rw [List.getElem?_append_right (Nat.le_refl _), Nat.sub_self] at hz
   obtain rfl := Option.some.inj hz
   exact ⟨i, k, _, rfl, rfl, hi, hk, by rw [List.getElem?_append_left hi]; exact G8 hi, h1⟩
theorem wf_rowR (hw : WfR p l) {i : Nat} (hi : i < l.length) : ∀ {m : Nat}, m <= p.rules.length -> WfR p (rowR p l i m)
 | 0, _ => hw
 | m + 1, hm => by
  rw [DA]
  exact wf_addR (wf_rowR hw hi (by omega)) (by have := (Ek p l i m).length_le; omega) (by omega)
theorem wf_lvlR (hw : WfR p l) {a : Nat} : ∀ {n : Nat}, a + n <= l.length -> WfR p (lvlR p l a n)
 | 0, _ => hw
 | n + 1, hn => by
  rw [DC]
  exact wf_rowR (wf_lvlR hw (by omega)) (by have := (En p l a n).length_le; omega) (Nat.le_refl _)
def AscR (l : List Eu) (b : Nat) : Prop := ∀ i j y z, b <= i -> i < j -> l[i]? = some y -> l[j]? = some z -> y.2.1 < z.2.1 \/ y.2.1 = z.2.1 /\ y.2.2 < z.2.2
def BndR (l : List Eu) (b a i k : Nat) : Prop := ∀ j z, b <= j -> l[j]? = some z -> (a : Int) <= z.2.1 /\ (z.2.1 < i \/ z.2.1 = i /\ z.2.2 < k)
theorem asc_addR {b a i k : Nat} (ha : a <= i) (h1 : AscR l b) (h2 : BndR l b a i k) : AscR (addR p l i k) b /\ BndR (addR p l i k) b a i (k + 1) := by
 have up : ∀ {z : Eu}, ((a : Int) <= z.2.1 /\ (z.2.1 < (i : Int) \/ z.2.1 = (i : Int) /\ z.2.2 < (k : Int))) -> ((a : Int) <= z.2.1 /\ (z.2.1 < (i : Int) \/ z.2.1 = (i : Int) /\ z.2.2 < ((k + 1 : Nat) : Int))) := fun h => by omega
 rcases DQ p l i k with ⟨h, _⟩ | ⟨t, _, _, h⟩
 ·rw [h]; exact ⟨h1, fun j z hj hz => up (h2 j z hj hz)⟩
 rw [h]
 have last : ∀ j z, (l ++ [(t, (i : Int), (k : Int))])[j]? = some z -> l[j]? = some z \/ z = (t, (i : Int), (k : Int)) /\ j = l.length := fun j z hz => by
  rcases Nat.lt_or_ge j l.length with h3 | h3
  ·rw [List.getElem?_append_left h3] at hz; exact .inl hz
  ·have h4 := (List.getElem?_eq_some_iff.1 hz).1
   rw [List.length_append, List.length_singleton] at h4
   obtain rfl : j = l.length := by omega
   rw [List.getElem?_append_right (Nat.le_refl _), Nat.sub_self] at hz
   exact .inr ⟨(Option.some.inj hz).symm, rfl⟩
 constructor
 ·intro i' j y z hb hij hy hz
  rcases last _ _ hy with hy | ⟨rfl, rfl⟩
  ·rcases last _ _ hz with hz | ⟨rfl, rfl⟩
   ·exact h1 i' j y z hb hij hy hz
   ·have := (h2 i' y hb hy).2
    exact this
  ·rcases last _ _ hz with hz | ⟨rfl, rfl⟩
   ·have := (List.getElem?_eq_some_iff.1 hz).1; omega
   ·omega
 ·intro j z hj hz
  rcases last _ _ hz with hz | ⟨rfl, rfl⟩
  ·exact up (h2 j z hj hz)
  ·exact ⟨by dsimp only; omega, .inr ⟨rfl, by dsimp only; omega⟩⟩
theorem asc_rowR {b a i : Nat} (ha : a <= i) (h1 : AscR l b) (h2 : BndR l b a i 0) : ∀ m, AscR (rowR p l i m) b /\ BndR (rowR p l i m) b a i m
 | 0 => ⟨h1, h2⟩
 | m + 1 => by
  rw [DA]
  obtain ⟨h3, h4⟩ := asc_rowR ha h1 h2 m
  exact asc_addR ha h3 h4
theorem asc_lvlR {a : Nat} : ∀ n, AscR (lvlR p l a n) l.length /\ BndR (lvlR p l a n) l.length a (a + n) 0
 | 0 => ⟨fun i j y z hb hij hy _ => by have := (List.getElem?_eq_some_iff.1 hy).1; change i < l.length at this; omega, fun j z hj hz => by have := (List.getElem?_eq_some_iff.1 hz).1; change j < l.length at this; omega⟩
 | n + 1 => by
  obtain ⟨h1, h2⟩ := asc_lvlR n
  rw [DC]
  obtain ⟨h3, h4⟩ := asc_rowR (p := p) (by omega) h1 h2 p.rules.length
  exact ⟨h3, fun j z hj hz => by have := h4 j z hj hz; omega⟩
theorem FT : ∀ (P : List Nat) {A B : List Nat}, Dw (P ++ A) (P ++ B) = Dw A B
 | [], _, _ => rfl
 | x :: P, A, B => by
  rw [List.cons_append, List.cons_append, Dw, if_pos (by simp [EQ])]
  exact FT P
theorem Ij : ∀ {P Q A B : List Nat}, P.length = Q.length -> Dw P Q = -1 -> Dw (P ++ A) (Q ++ B) = -1
 | [], [], _, _, _, h => by exact absurd h (by decide)
 | x :: P, y :: Q, A, B, e, h => by
  rw [List.cons_append, List.cons_append, Dw]
  rw [Dw] at h
  split at h
  ·rename_i h0
   rw [if_pos h0]; exact Ij (by simpa using e) h
  ·rename_i h0
   rw [if_neg h0]; exact h
structure LvR (p : Af) (d : Nat) (l : List Eu) (a : Nat) : Prop where
 wf : WfR p l
 mem : ∀ s, s ∈ l.map (·.1) ↔ Dc p d s
 old : ∀ s, s ∈ (l.take a).map (·.1) ↔ ∃ e, e < d /\ Dc p e s
 le : a <= l.length
 len : ∀ j, a <= j -> j < l.length -> (BH l j).length = d
 asc : ∀ i j, a <= i -> i < j -> j < l.length -> Dw (BH l i) (BH l j) = -1
theorem lv_zero : LvR p 0 [(p.start, -1, -1)] 0 where
 wf := wf_one
 mem s := by simp [near_zero]
 old s := by simp
 le := by simp
 len j _ h := by
  obtain rfl : j = 0 := by simp at h; exact h
  rw [G5 (p := p) wf_one]; rfl
 asc i j _ h1 h2 := by simp at h2; omega
theorem mem_at {s : Nat} (h : s ∈ l.map (·.1)) : ∃ j, j < l.length /\ (l.getD j Bh).1 = s := by
 obtain ⟨z, hz, rfl⟩ := List.mem_map.1 h
 obtain ⟨j, hj⟩ := List.mem_iff_getElem?.1 hz
 exact ⟨j, (List.getElem?_eq_some_iff.1 hj).1, by rw [GY hj]⟩
theorem at_mem {j : Nat} (h : j < l.length) : (l.getD j Bh).1 ∈ l.map (·.1) := List.mem_map.2 ⟨_, List.mem_of_getElem? (G8 h), rfl⟩
theorem lv_succ {d a : Nat} (h : LvR p d l a) : LvR p (d + 1) (lvlR p l a (l.length - a)) l.length := by
 have hle := h.le
 have hn : a + (l.length - a) <= l.length := by omega
 have hpre := En p l a (l.length - a)
 have hwf := wf_lvlR h.wf hn
 obtain ⟨hasc, hbnd⟩ := asc_lvlR (p := p) (l := l) (a := a) (l.length - a)
 have hmem : ∀ s, s ∈ (lvlR p l a (l.length - a)).map (·.1) ↔ Dc p (d + 1) s := fun s => by
  rw [mem_lvlR hn, near_succ, h.mem]
  constructor
  ·rintro (h1 | ⟨j, h1, h2, k, h3, h4⟩)
   ·exact .inl h1
   ·obtain ⟨n, hn, h5⟩ := (h.mem _).1 (at_mem (l := l) (j := j) (by omega))
    exact near_succ.1 ⟨n + 1, by omega, IA h5 h4⟩
  ·rintro (h1 | ⟨t, k, h1, h2, h3⟩)
   ·exact .inl h1
   ·obtain ⟨j, hj, rfl⟩ := mem_at ((h.mem _).2 h1)
    obtain ⟨k', rfl, hk⟩ := stepM_range h3
    refine .inr ⟨j, Nat.le_of_not_lt fun hja => ?_, by omega, k', hk, h3⟩
    obtain ⟨e, he, h4⟩ := (h.old (l.getD j Bh).1).1 (by
     refine List.mem_map.2 ⟨l.getD j Bh, ?_, rfl⟩
     refine List.mem_of_getElem? (i := j) ?_
     rw [List.getElem?_take, if_pos hja]
     exact G8 hj)
    exact h2 e he h4
 have new : ∀ j, l.length <= j -> j < (lvlR p l a (l.length - a)).length -> ∃ i k : Nat, a <= i /\ i < l.length /\ ((lvlR p l a (l.length - a)).getD j Bh).2.1 = (i : Int) /\ ((lvlR p l a (l.length - a)).getD j Bh).2.2 = (k : Int) /\ BH (lvlR p l a (l.length - a)) j = BH l i ++ [k] := fun j hj hj2 => by
  have hb := hbnd j _ hj (G8 hj2)
  obtain ⟨i, k, y, q1, q2, q3, -⟩ := hwf.link j _ (G8 hj2) (by have := h.wf.pos; omega)
  rw [q1] at hb
  exact ⟨i, k, by omega, by omega, q1, q2, by rw [G6 hwf hj2 q1 q2, planR_pre hpre h.wf (by omega)]⟩
 refine ⟨hwf, hmem, fun s => ?_, hpre.length_le, fun j h1 h2 => ?_, fun i j h1 h2 h3 => ?_⟩
 ·obtain ⟨t, ht⟩ := hpre
  rw [<- ht, List.take_left, h.mem]
  constructor
  ·intro h1; exact ⟨d, by omega, h1⟩
  ·rintro ⟨e, he, h1⟩; exact near_mono h1 (by omega)
 ·obtain ⟨i, k, q1, q2, -, -, q3⟩ := new j h1 h2
  rw [q3, List.length_append, h.len i q1 q2]; rfl
 ·obtain ⟨i1, k1, q1, q2, e1, f1, q3⟩ := new i h1 (by omega)
  obtain ⟨i2, k2, r1, r2, e2, f2, r3⟩ := new j (by omega) h3
  have := hasc i j _ _ h1 h2 (G8 (by omega)) (G8 h3)
  rw [e1, e2, f1, f2] at this
  rw [q3, r3]
  rcases Nat.lt_trichotomy i1 i2 with h4 | h4 | h4
  ·exact Ij (by rw [h.len _ q1 q2, h.len _ r1 r2]) (h.asc i1 i2 q1 h4 r2)
  ·subst h4
   rw [FT]
   have : k1 < k2 := by omega
   simp [Dw, EQ, this]
  ·omega
end
noncomputable def srchN (p : Af) : Nat -> List Eu × Nat
 | 0 => ([(p.start, -1, -1)], 0)
 | d + 1 => (lvlR p (srchN p d).1 (srchN p d).2 ((srchN p d).1.length - (srchN p d).2), (srchN p d).1.length)
theorem D8 (p : Af) : ∀ d, LvR p d (srchN p d).1 (srchN p d).2
 | 0 => lv_zero
 | d + 1 => lv_succ (D8 p d)
theorem srch_pre (p : Af) (d : Nat) : (srchN p d).1 <+: (srchN p (d + 1)).1 := En _ _ _ _
theorem srch_rch {p : Af} {d j : Nat} (h : j < (srchN p d).1.length) : Rch p ((srchN p d).1.getD j Bh).1 := by
 obtain ⟨n, _, h1⟩ := ((D8 p d).mem _).1 (at_mem h)
 exact at_rch h1
theorem srch_all {p : Af} {d : Nat} (h : (srchN p (d + 1)).1.length = (srchN p d).1.length) {s : Nat} (hs : Rch p s) : s ∈ (srchN p d).1.map (·.1) := by
 refine ((D8 p d).mem s).2 (near_all (fun t ht => ?_) hs)
 rw [<- (D8 p (d + 1)).mem] at ht
 rw [<- (D8 p d).mem, (srch_pre p d).eq_of_length h.symm]
 exact ht
noncomputable def endsN (p : Af) (d : Nat) : List Nat := (List.range (d + 1)).map fun e => (srchN p e).1.length
def HitR (p : Af) (l : List Eu) (a j : Nat) : Prop := a <= j /\ j < l.length /\ reachB p (l.getD j Bh).1 = true /\ ∀ i, a <= i -> i < j -> reachB p (l.getD i Bh).1 = false
def Hd (p : Af) (l : List Eu) (a : Nat) : Prop := ∀ i, a <= i -> i < l.length -> reachB p (l.getD i Bh).1 = false
def FwdOut (p : Af) (lim : Int) (n : Nat) (f : Bool) (pl : List Nat) (e : Int) : Prop :=
 (lim < 1 /\ n = 0 /\ f = false /\ pl = [] /\ e = 1) \/ (¬ lim < 1 /\ ¬ checkE p = 0 /\ n = 0 /\ f = false /\ pl = [] /\ e = checkE p) \/
 (¬ lim < 1 /\ checkE p = 0 /\ ∃ d, (∀ i, i < d -> Hd p (srchN p i).1 (srchN p i).2) /\ ((srchN p d).1.length : Int) <= lim /\
  ((∃ j, HitR p (srchN p d).1 (srchN p d).2 j /\ n = (srchN p d).1.length /\ f = true /\ pl = BH (srchN p d).1 j /\ e = 0) \/
   (Hd p (srchN p d).1 (srchN p d).2 /\ (srchN p (d + 1)).1.length = (srchN p d).1.length /\ n = (srchN p d).1.length /\ f = false /\ pl = [] /\ e = 0) \/
   (Hd p (srchN p d).1 (srchN p d).2 /\ lim < ((srchN p (d + 1)).1.length : Int) /\ n = 0 /\ f = false /\ pl = [] /\ e = 3)))
end
section
open Go.RowKit
attribute [local go_sem ↓] Go.wp_at_zero Go.wp_at_succ
set_option maxRecDepth 20000
set_option exponentiation.threshold 5000
def BL (w : World) (D : Nat -> Prop) (xs : List Value) (l : List Eu) : Prop :=
 ∀ i z, l[i]? = some z -> ∃ a, xs[i * 3]? = some a /\ xs[i * 3 + 1]? = some (.int .i64 z.2.1) /\ xs[i * 3 + 2]? = some (.int .i64 z.2.2) /\ A6 w D (.agg #[a]) z.1
theorem Bu {xs : List Value} {l : List Eu} : AK fun D w => BL w D xs l := fun D D' w w' h a b c i z hi => by
 obtain ⟨x, h1, h2, h3, h4⟩ := h i z hi
 exact ⟨x, h1, h2, h3, A5 D D' w w' h4 a b c⟩
theorem BL.append {w : World} {D : Nat -> Prop} {xs ys : List Value} {l m : List Eu} (hx : xs.length = l.length * 3) (h : BL w D xs l) (k : BL w D ys m) : BL w D (xs ++ ys) (l ++ m) := fun i z hi => by
 rcases Nat.lt_or_ge i l.length with h1 | h1
 ·rw [List.getElem?_append_left h1] at hi
  obtain ⟨a, q0, q1, q2, q3⟩ := h i z hi
  refine ⟨a, ?_, ?_, ?_, q3⟩
  all_goals rw [List.getElem?_append_left (by omega)]; assumption
 ·rw [List.getElem?_append_right h1] at hi
  obtain ⟨a, q0, q1, q2, q3⟩ := k _ z hi
  refine ⟨a, ?_, ?_, ?_, q3⟩
  ·rw [List.getElem?_append_right (by omega), <- q0]; congr 1; omega
  ·rw [List.getElem?_append_right (by omega), <- q1]; congr 1; omega
  ·rw [List.getElem?_append_right (by omega), <- q2]; congr 1; omega
theorem BL.single {w : World} {D : Nat -> Prop} {a : Value} {z : Eu} (ha : A6 w D (.agg #[a]) z.1) : BL w D [a, .int .i64 z.2.1, .int .i64 z.2.2] [z] := fun i x hi => by
 cases i with
 | zero => obtain rfl := Option.some.inj (show some z = some x from hi); exact ⟨a, rfl, rfl, rfl, ha⟩
 | succ i => simp at hi
section
variable {P : Program} {ops : Array Oper} {rest : List Oper} {o : Oper} {a : Act} {w0 w : World} {F : List Aj} {K : (Nat -> Prop) -> World -> Prop} {Q : Exit -> Act -> World -> Prop}
theorem st_makeMap (h : St w0 w F K) (hg : Region.wanted o (yielded ops a.tmps) = true) (t : TypeId) (ho : o.op = .makeMap t none)
  (hk : ∀ g w', St w0 w' (.obj g (.map #[] 0) :: F) K -> wpList P ops Q rest (a.put o.dst (.map (some g))) w') : wpList P ops Q (o :: rest) a w := by
 refine BigFrame.wpList_want hg fun _ hK => ?_
 unfold Oper.wp execOp
 simp only [ho, Option.map_none]
 refine hK _ _ (hk _ _ (h.new ((Below.refl _ _).alloc (Nat.le_refl _) _) (.obj w.heap.size (.map #[] 0)) ⟨Nat.le_refl _, (MapKept.heap_alloc w _).1⟩))
theorem St.enter (h : St w0 w F K) (i : Nat) {b clock n N : Nat} {es : Array MapEntry} {l : List Nat} (hi : F[i]? = some (.obj b (.map es clock))) (hm : FW es clock n l) (hN : (B0 N).length <= 512) (hn : n <= 1000000) :
  ∃ w' es' clock', (Instr.mapUpdate 126 (.map (some b)) (.string (G2 N)) (.bool true)).run Tryz.prog w = .ok () w' /\ FW es' clock' (n + 1) (l ++ [N]) /\ St w0 w' (F.set i (.obj b (.map es' clock'))) K /\ w.grownBy w' (some b) /\ w'.heap[b]? = some (.map es' clock') := by
 obtain ⟨w', es', clock', hrun, hb, hm', hg⟩ := run_enter hm (h.holds _ (List.mem_of_getElem? hi)).2 hN hn
 exact ⟨w', es', clock', hrun, hm', h.upd i hi (.obj b (.map es' clock')) hg ⟨(h.holds _ (List.mem_of_getElem? hi)).1, hb⟩ fun _ e => .inl e, hg, hb⟩
end
theorem st_insert {ops : Array Oper} {rest : List Oper} {o : Oper} {a : Act} {w0 w : World} {F : List Aj} {K : (Nat -> Prop) -> World -> Prop} {Q : Exit -> Act -> World -> Prop} (h : St w0 w F K) (i : Nat) (hg : Region.wanted o (yielded ops a.tmps) = true) (m x v : Operand) (ho : o.op = .insert 126 m x v) {b clock n N : Nat} {es : Array MapEntry} {l : List Nat} (hi : F[i]? = some (.obj b (.map es clock))) (hm : FW es clock n l) (hN : (B0 N).length <= 512) (hn : n <= 1000000)
  (hem : a.eval m = .map (some b)) (hex : a.eval x = .string (G2 N)) (hev : a.eval v = .bool true) (hk : ∀ es' clock' w', FW es' clock' (n + 1) (l ++ [N]) -> St w0 w' (F.set i (.obj b (.map es' clock'))) K -> wpList Tryz.prog ops Q rest (a.put o.dst undef) w') : wpList Tryz.prog ops Q (o :: rest) a w := by
 obtain ⟨w', es', clock', hrun, hm', hS, -⟩ := h.enter i hi hm hN hn
 refine BigFrame.wpList_want hg fun _ hK => ?_
 unfold Oper.wp execOp
 simp only [ho, hem, hex, hev, Sem.run_bind, hrun, Result.andThen_ok]
 exact hK _ _ (hk _ _ _ hm' hS)
def Dk (xs : Array Value) (lim : Int) (lv mv ev : Value) : Array Value := #[xs.getD 0 undef, xs.getD 1 undef, xs.getD 2 undef, xs.getD 3 undef, xs.getD 4 undef, xs.getD 5 undef, .int .i64 lim, lv, mv, ev]
def ER (w0 w : World) (g : Nat) (xs : Array Value) (lim : Int) (l : List Eu) (es : List Nat) (F : List Aj) (K : (Nat -> Prop) -> World -> Prop) : Prop :=
 ∃ (lv ev : Value) (cells : List Value) (b clock n : Nat) (ents : Array MapEntry), FW ents clock n (l.map (·.1)) /\ n <= l.length /\
  St w0 w (.own lv 130 3 l.length cells :: .own ev 3 1 es.length (BD es) :: .obj b (.map ents clock) :: .box g 128 (Dk xs lim lv (.map (some b)) ev) :: F) (fun D w => K D w /\ BL w D cells l)
theorem perm4 {α : Type} (a b c d : α) (X : List α) : (a :: b :: c :: d :: X).Perm (c :: d :: b :: a :: X) :=
 (List.perm_middle (l₁ := [a, b]) (l₂ := d :: X)).trans (((List.perm_middle (l₁ := [a, b]) (l₂ := X)).trans ((List.Perm.swap b a X).cons d)).cons c)
def BegR (w0 : World) (xs : Array Value) (p : Af) (lim : Int) (F : List Aj) (K : (Nat -> Prop) -> World -> Prop) (e : Ending) (w' : World) : Prop :=
   (lim < 1 /\ e = .returned (.tuple #[.pointer none, .int .i64 1]) /\ St w0 w' F K) \/
   (¬ lim < 1 /\ ¬ checkE p = 0 /\ e = .returned (.tuple #[.pointer none, .int .i64 (checkE p)]) /\ St w0 w' F K) \/
   (¬ lim < 1 /\ checkE p = 0 /\ ∃ g, e = .returned (.tuple #[.pointer (some ⟨g, 0, none⟩), .int .i64 0]) /\ ER w0 w' g xs lim [(p.start, -1, -1)] [1] F K)
set_option maxHeartbeats 4000000 in
theorem begin_any {w0 w : World} {F : List Aj} {K : (Nat -> Prop) -> World -> Prop} {xs : Array Value} {p : Af} (lim : Int) (hP : p.Ok) (hst : (B0 p.start).length <= 512) (hS : St w0 w F K) (kp : ∀ D w, K D w -> B7 w D (.agg xs) p) (kt : ∀ D w, K D w -> Bx w) :
  Calls Tryz.prog 83 #[.agg xs, .int .i64 lim] w (BegR w0 xs p lim F K) := by
 have HST := Lib.hid hst
 have HP := Lib.hid hP
 have HK := Lib.hid kp
 have HT := Lib.hid kt
 have KS := Lib.hid hS.stable
 obtain ⟨st, hst0⟩ : ∃ st, p.start = st := ⟨_, rfl⟩
 obtain ⟨la, Cs, ns, cs, Ar, cr, An, cn, Ag, cg, e6⟩ := B7.shape6 (kp _ _ hS.ro)
 injection e6 with e6
 subst e6
 have HSET := Lib.hid fun D w (h : K D w) => (show A6 w D (.agg #[.slice Cs ns cs]) st by
  obtain ⟨lp, s, rv, nv, gv, e, _, h2, _⟩ := HK.out D w h
  injection e with e
  have e2 : Value.slice Cs ns cs = s := by have := congrArg (fun x : Array Value => x[2]?) e; simpa using this
  rw [<- hst0, e2]; exact h2)
 rw [hst0] at HST
 obtain ⟨E, hE⟩ : ∃ E, checkE p = E := ⟨_, rfl⟩
 have HE := Lib.hid hE
 have HR0 := Lib.hid hst0
 clear hst0 hE kp kt hst hP
 by_cases hlim : lim < 1
 ·go_enter Tryz.func83, Tryz.ntmps83
  go_wp2_with (first
   | ((with_reducible refine qA 2 ?_); refine AA hS rfl _ _ rfl (.agg #[.int .i64 p.roles, .pointer la, .slice Cs ns cs, .slice Ar p.rules.length cr, .slice An p.never.length cn, .slice Ag p.goal.length cg]) _ rfl rfl ?_; clear hS; intro g2 w_ hS; (try simp only [Act.put, Act.eval, zz, Value.cells] at hS))
   | ((with_reducible refine qB ?_); refine qc ?_ ?_ <;> intro h_ <;> go_prune)
   | ((with_reducible refine qK ?_); refine qC hS ?_))
  go_ret2
  exact .inl ⟨hlim, rfl, hS.sub (List.sublist_cons_self _ _)⟩
 by_cases hE0 : E = 0
 ·subst hE0
  go_enter Tryz.func83, Tryz.ntmps83
  go_wp2_with (first
   | ((with_reducible refine qA 2 ?_); refine AA hS rfl _ _ rfl (.agg #[.int .i64 p.roles, .pointer la, .slice Cs ns cs, .slice Ar p.rules.length cr, .slice An p.never.length cn, .slice Ag p.goal.length cg]) _ rfl rfl ?_; clear hS; intro g2 w_ hS; (try simp only [Act.put, Act.eval, zz, Value.cells] at hS))
   | ((with_reducible refine qB ?_); refine qc ?_ ?_ <;> intro h_ <;> go_prune)
   | ((with_reducible refine qk 31 ?_); refine BigFrame.wpList_want rfl fun _ hK => AQ rfl rfl (hS.box 0 rfl) Tryz.underlying31 rfl (by kernel_rfl) (hK _ _ ?_))
   | (go_at_call 31; refine (Cq (HK.out _ _ hS.ro) HP.out (HT.out _ _ hS.ro)).mono ?_; rw [HE.out]; rintro r_ w_ ⟨_, rfl, rfl, hb_⟩; replace hS := hS.ext hb_; clear hb_)
   | ((with_reducible refine qA 19 ?_); refine Aq rfl _ _ rfl #[.slice Cs ns cs, .int .i64 (-1), .int .i64 (-1)] (by kernel_rfl) ?_; (try simp only [Act.put, List.setIfInBounds_toArray, List.set_cons_zero, List.set_cons_succ]))
   | ((with_reducible refine qA 20 ?_); refine IL hS rfl _ 130 1 _ rfl Tryz.underlying125 [(0, .agg #[.slice Cs ns cs, .int .i64 (-1), .int .i64 (-1)])] (by simp [Act.eval]) #[.slice Cs ns cs, .int .i64 (-1), .int .i64 (-1)] (by kernel_rfl) 3 rfl (by decide) ?_; clear hS; intro g20 w_ hS; (try simp only [Act.put, List.setIfInBounds_toArray, List.set_cons_zero, List.set_cons_succ]))
   | ((with_reducible refine qA 21 ?_); refine Dy hS rfl _ 3 1 _ rfl Tryz.underlying45 #[.int .i64 1] (by kernel_rfl) 1 rfl (by decide) ?_; clear hS; intro g21 w_ hS; (try simp only [Act.put, List.setIfInBounds_toArray, List.set_cons_zero, List.set_cons_succ]))
   | ((with_reducible refine qA 22 ?_); refine Aq rfl _ _ rfl #[.int .i64 p.roles, .pointer la, .slice Cs ns cs, .slice Ar p.rules.length cr, .slice An p.never.length cn, .slice Ag p.goal.length cg, .int .i64 lim, .slice (some ⟨g20, 0, none⟩) 1 1, .map none, .slice (some ⟨g21, 0, none⟩) 1 1] (by kernel_rfl) ?_; (try simp only [Act.put, List.setIfInBounds_toArray, List.set_cons_zero, List.set_cons_succ]))
   | ((with_reducible refine qA 23 ?_); refine AA hS rfl _ _ rfl (.agg #[.int .i64 p.roles, .pointer la, .slice Cs ns cs, .slice Ar p.rules.length cr, .slice An p.never.length cn, .slice Ag p.goal.length cg, .int .i64 lim, .slice (some ⟨g20, 0, none⟩) 1 1, .map none, .slice (some ⟨g21, 0, none⟩) 1 1]) #[.int .i64 p.roles, .pointer la, .slice Cs ns cs, .slice Ar p.rules.length cr, .slice An p.never.length cn, .slice Ag p.goal.length cg, .int .i64 lim, .slice (some ⟨g20, 0, none⟩) 1 1, .map none, .slice (some ⟨g21, 0, none⟩) 1 1] rfl rfl ?_; clear hS; intro g23 w_ hS; (try simp only [Act.put, List.setIfInBounds_toArray, List.set_cons_zero, List.set_cons_succ]))
   | ((with_reducible refine qA 25 ?_); refine st_makeMap hS rfl _ rfl ?_; clear hS; intro g25 w_ hS; (try simp only [Act.put, List.setIfInBounds_toArray, List.set_cons_zero, List.set_cons_succ]))
   | (go_at_call 118; refine (Eb _ st _ _ (HSET.out _ _ hS.ro)).mono ?_; rintro r_ w_ ⟨_, rfl, h1, hb_⟩; replace hS := hS.ext hb_; clear hb_)
   | ((with_reducible refine qA 29 ?_); refine BigFrame.wpList_want rfl fun _ hK => GP (v := .string (G2 st)) rfl rfl (IQ h1) (hK _ _ ?_); clear h1)
   | ((with_reducible show wpList _ _ _ (⟨_, .insert _ _ _ _, _, _, _, _⟩ :: _) _ _); refine st_insert hS 0 rfl _ _ _ rfl rfl map_made HST.out (by decide) rfl rfl rfl ?_; clear hS; intro es' clock' w_ hm hS; (try simp only [Act.put, Act.eval, zz, Value.cells] at hS))
   | ((with_reducible refine qm 126 ?_); refine st_cstore hS 1 rfl _ _ _ rfl _ _ _ rfl rfl rfl (by simp) rfl rfl (by kernel_rfl) ?_; clear hS; intro w_ hS; (try simp only [Act.put, Act.eval, zz, Value.cells] at hS))
   | ((with_reducible refine qk 27 ?_); first | (refine A7 hS 0 rfl _ _ rfl _ _ rfl _ _ rfl _ (by first | rfl | assumption) Tryz.underlying27 rfl (by kernel_rfl) ?_) | (refine A7 hS 1 rfl _ _ rfl _ _ rfl _ _ rfl _ (by first | rfl | assumption) Tryz.underlying27 rfl (by kernel_rfl) ?_) | (refine A7 hS 2 rfl _ _ rfl _ _ rfl _ _ rfl _ (by first | rfl | assumption) Tryz.underlying27 rfl (by kernel_rfl) ?_) | (refine A7 hS 3 rfl _ _ rfl _ _ rfl _ _ rfl _ (by first | rfl | assumption) Tryz.underlying27 rfl (by kernel_rfl) ?_) | (refine A7 hS 4 rfl _ _ rfl _ _ rfl _ _ rfl _ (by first | rfl | assumption) Tryz.underlying27 rfl (by kernel_rfl) ?_) | (refine A7 hS 5 rfl _ _ rfl _ _ rfl _ _ rfl _ (by first | rfl | assumption) Tryz.underlying27 rfl (by kernel_rfl) ?_))
   | ((with_reducible refine qK ?_); refine qC hS ?_))
  go_ret2
  have hS2 := hS.perm (F' := .own (.slice (some ⟨g20, 0, none⟩) 1 1) 130 3 1 #[.slice Cs ns cs, .int .i64 (-1), .int .i64 (-1)].toList :: .own (.slice (some ⟨g21, 0, none⟩) 1 1) 3 1 1 [.int .i64 1] :: .obj g25 (.map es' clock') :: .box g23 128 (Dk #[.int .i64 p.roles, .pointer la, .slice Cs ns cs, .slice Ar p.rules.length cr, .slice An p.never.length cn, .slice Ag p.goal.length cg] lim (.slice (some ⟨g20, 0, none⟩) 1 1) (.map (some g25)) (.slice (some ⟨g21, 0, none⟩) 1 1)) :: .box g2 31 #[.int .i64 p.roles, .pointer la, .slice Cs ns cs, .slice Ar p.rules.length cr, .slice An p.never.length cn, .slice Ag p.goal.length cg] :: F) (perm4 _ _ _ _ _)
  rw [BegR, HE.out, HR0.out]
  refine .inr (.inr ⟨by omega, rfl, g23, rfl, _, _, _, _, _, _, _, hm, by simp, (hS2.sub (by repeat (first | exact List.Sublist.refl _ | apply List.Sublist.cons_cons | apply List.Sublist.cons))).mono (KS.out.and Bu) fun D w h => ⟨h, BL.single (z := (st, -1, -1)) (HSET.out _ _ h)⟩⟩)
 ·go_enter Tryz.func83, Tryz.ntmps83
  go_wp2_with (first
   | ((with_reducible refine qA 2 ?_); refine AA hS rfl _ _ rfl (.agg #[.int .i64 p.roles, .pointer la, .slice Cs ns cs, .slice Ar p.rules.length cr, .slice An p.never.length cn, .slice Ag p.goal.length cg]) _ rfl rfl ?_; clear hS; intro g2 w_ hS; (try simp only [Act.put, Act.eval, zz, Value.cells] at hS))
   | ((with_reducible refine qB ?_); refine qc ?_ ?_ <;> intro h_ <;> go_prune)
   | ((with_reducible refine qk 31 ?_); refine BigFrame.wpList_want rfl fun _ hK => AQ rfl rfl (hS.box 0 rfl) Tryz.underlying31 rfl (by kernel_rfl) (hK _ _ ?_))
   | (go_at_call 31; refine (Cq (HK.out _ _ hS.ro) HP.out (HT.out _ _ hS.ro)).mono ?_; rw [HE.out]; rintro r_ w_ ⟨_, rfl, rfl, hb_⟩; replace hS := hS.ext hb_; clear hb_)
   | ((with_reducible refine qK ?_); refine qC hS ?_))
  go_ret2
  rw [BegR, HE.out]
  exact   .inr (.inl ⟨by omega, hE0, rfl, hS.sub (List.sublist_cons_self _ _)⟩)
end
section
open Go.RowKit
attribute [local go_sem ↓] Go.wp_at_zero Go.wp_at_succ
set_option maxRecDepth 20000
theorem i64s_at (l : List Nat) (k : Nat) (h : k < l.length) : (BD l)[k]? = some (.int .i64 (l.getD k 0 : Nat)) := by simp [BD, List.getElem?_eq_getElem h]
theorem i64s_set (l : List Nat) (k x : Nat) : BD (l.set k x) = (BD l).set k (.int .i64 (x : Nat)) := by simp [BD, List.map_set]
theorem own_seti {w x : World} {base : Nat} {e : TypeId} {g n cap k y : Nat} {l : List Nat} (h : w.ownsRow base e 1 (.slice (some ⟨g, 0, none⟩) n cap) n (BD l)) (hb : Below w.heap.size w x) :
  (x.setCell ⟨g, k, none⟩ (.int .i64 (y : Nat))).ownsRow base e 1 (.slice (some ⟨g, 0, none⟩) n cap) n (BD (l.set k y)) := by
 have h2 := ((Iw h hb).stored k (.int .i64 (y : Nat))).1
 rw [<- i64s_set] at h2
 exact h2
set_option maxHeartbeats 1000000 in
theorem srev_any (g cap : Nat) (l : List Nat) (w : World) (base : Nat) (hown : w.ownsRow base 3 1 (.slice (some ⟨g, 0, none⟩) l.length cap) l.length (BD l)) (hl : l.length <= 1000000000000) :
  Calls Tryz.prog 119 #[.slice (some ⟨g, 0, none⟩) l.length cap] w fun e w' => e = .returned (.tuple #[]) /\ w'.ownsRow base 3 1 (.slice (some ⟨g, 0, none⟩) l.length cap) l.length (BD l.reverse) /\ w.grownBy w' (some g) := by
 go_enter Tryz.func119, Tryz.ntmps119
 go_wp2
 go_loopw [2, 3] (fun i j wr => ∃ k : Nat, i = .int .i64 k /\ j = .int .i64 ((l.length : Int) - 1 - k) /\ k <= l.length /\ wr.ownsRow base 3 1 (.slice (some ⟨g, 0, none⟩) l.length cap) l.length (BD (swp l k)) /\ w.grownBy wr (some g)) (fun i _ _ => l.length - (intOf i).toNat)
 case atStart => exact ⟨0, rfl, by simp, by omega, by rw [swp_zero]; exact hown, World.grownBy.refl w _⟩
 case round =>
  clear hown
  obtain ⟨k, rfl, rfl, hk, hown, hg⟩ := hrel
  by_cases hlt : k < l.length - 1 - k
  ·obtain ⟨m, hm⟩ : ∃ m, m = l.length - 1 - k := ⟨_, rfl⟩
   have hmi : (l.length : Int) - 1 - k = m := by omega
   have hml : m < l.length := by omega
   have hkm : k < m := by omega
   have HM := Lib.hid hm
   have c1 := hown.cellAt k (by omega)
   have c2 := hown.cellAt m (by omega)
   rw [i64s_at _ _ (by rw [swp_len]; omega)] at c1 c2
   have f1 := hown.frozenAt k
   have f2 := hown.frozenAt m
   have HS := Lib.hid (swp_step l k hlt)
   rw [<- hm] at HS
   have H1 := own_seti (k := k) (y := (swp l k).getD m 0) hown (Below.refl _ _)
   have H2 := Lib.hid (own_seti (k := m) (y := (swp l k).getD k 0) H1 (Below.refl _ _))
   rw [HS.out] at H2
   have HG := Lib.hid hg
   rw [hmi]
   clear hown H1 hm hmi hg hlt
   generalize (swp l k).getD k 0 = x at *
   generalize (swp l k).getD m 0 = y at *
   go_wp2
   go_region
   all_goals
    go_wp2
    exact ⟨⟨k + 1, by go_num, by have := HM.out; congr 1; omega, by omega, H2.out, grown_drew (grown_set (grown_set HG.out _ _) _ _)⟩, by simp [intOf]; omega⟩
  ·have HS := Lib.hid (swp_end l k (by omega))
   have HO := Lib.hid hown
   clear hown
   go_wp2
   refine bodyPost_end (results_none rfl _ _ _) rfl ⟨rfl, ?_, hg⟩
   rw [<- HS.out]
   exact HO.out
end
section
open Go.RowKit
attribute [local go_sem ↓] Go.wp_at_zero Go.wp_at_succ
set_option maxRecDepth 20000
set_option exponentiation.threshold 5000
theorem srev_nil (w : World) : Calls Tryz.prog 119 #[.slice none 0 0] w fun e w' => e = .returned (.tuple #[]) /\ Below w.heap.size w w' := by
 go_enter Tryz.func119, Tryz.ntmps119
 go_wp2
 go_loopw [2, 3] (fun i j wr => i = .int .i64 0 /\ j = .int .i64 (-1) /\ Below w.heap.size w wr) (fun i _ _ => 0)
 case atStart => exact ⟨rfl, rfl, Below.refl _ _⟩
 case round =>
  obtain ⟨rfl, rfl, hb⟩ := hrel
  go_wp2
  exact bodyPost_end (results_none rfl _ _ _) rfl ⟨rfl, hb⟩
set_option maxHeartbeats 4000000 in
theorem fplan_any {w0 w : World} {g : Nat} {xs : Array Value} {lim : Int} {p : Af} {l : List Eu} {es : List Nat} {F : List Aj} {K : (Nat -> Prop) -> World -> Prop} {i : Nat} (hw : WfR p l) (hi : i < l.length) (hln : l.length <= 1000000) (hS0 : ER w0 w g xs lim l es F K) (hKs : AK K) :
  Calls Tryz.prog 84 #[.pointer (some ⟨g, 0, none⟩), .int .i64 (i : Nat)] w fun e w' => ∃ u, e = .returned u /\ ER w0 w' g xs lim l es F fun D w => K D w /\ Sl w D 1 u (BH l i).length (BD (BH l i)) := by
 obtain ⟨lv, ev, cells, b, clock, n, ents, hm, hn, hS⟩ := hS0
 have HW := Lib.hid hw
 have HMP := Lib.hid hm
 have HN := Lib.hid hn
 have KS := Lib.hid hKs
 obtain ⟨EL, cl, rfl, hcl, _⟩ := BI (hS.own 0 rfl) hw.pos
 obtain ⟨Ae, ce, rfl, _, _⟩ := Be (hS.own 1 rfl)
 unfold Dk at hS
 obtain ⟨xx0, hxx0⟩ : ∃ xx0, xs.getD 0 undef = xx0 := ⟨_, rfl⟩
 obtain ⟨xx1, hxx1⟩ : ∃ xx1, xs.getD 1 undef = xx1 := ⟨_, rfl⟩
 obtain ⟨xx2, hxx2⟩ : ∃ xx2, xs.getD 2 undef = xx2 := ⟨_, rfl⟩
 obtain ⟨xx3, hxx3⟩ : ∃ xx3, xs.getD 3 undef = xx3 := ⟨_, rfl⟩
 obtain ⟨xx4, hxx4⟩ : ∃ xx4, xs.getD 4 undef = xx4 := ⟨_, rfl⟩
 obtain ⟨xx5, hxx5⟩ : ∃ xx5, xs.getD 5 undef = xx5 := ⟨_, rfl⟩
 have HSC := Lib.hid (show ∀ lv mv ev, Dk xs lim lv mv ev = #[xx0, xx1, xx2, xx3, xx4, xx5, .int .i64 lim, lv, mv, ev] from fun lv mv ev => by unfold Dk; rw [hxx0, hxx1, hxx2, hxx3, hxx4, hxx5])
 rw [hxx0, hxx1, hxx2, hxx3, hxx4, hxx5] at hS
 clear hxx0 hxx1 hxx2 hxx3 hxx4 hxx5 hw hm hn hKs
 have HI := Lib.hid hi
 go_enter Tryz.func84, Tryz.ntmps84
 go_wp2_with fail
 replace hS := hS.nil 3 1
 go_loopw [1, 5] (fun iv ov wr => ∃ (j : Nat) (kv : Value) (out : List Nat), iv = .int .i64 (j : Nat) /\ kv = ov /\ j < l.length /\ out ++ Dq l (j + 1) j = Dq l (i + 1) i /\ out.length <= 1000000 /\ Hid (out = [] -> kv = .slice none 0 0) /\ St w0 wr (.own kv 3 1 out.length (BD out) :: .own (.slice (some ⟨EL, 0, none⟩) l.length cl) 130 3 l.length cells :: .own (.slice Ae es.length ce) 3 1 es.length (BD es) :: .obj b (.map ents clock) :: .box g 128 #[xx0, xx1, xx2, xx3, xx4, xx5, .int .i64 lim, .slice (some ⟨EL, 0, none⟩) l.length cl, .map (some b), .slice Ae es.length ce] :: F) (fun D w => K D w /\ BL w D cells l)) (fun iv _ _ => (intOf iv).toNat)
 case atStart => exact ⟨i, _, [], rfl, rfl, hi, rfl, by simp, Lib.hid fun _ => rfl, hS⟩
 case round =>
  clear hS
  obtain ⟨j, kv, out, rfl, rfl, hj, ho, hol, HNIL, hS⟩ := hrel
  obtain ⟨ca, hc0, hc1, hc2, -⟩ := hS.ro.2 j _ (G8 hj)
  have HZ := Lib.hid (HW.out.from0 hj)
  have HLK := Lib.hid (HW.out.link j _ (G8 hj))
  have HO := Lib.hid ho
  have HST := Lib.hid (Js HW.out hj)
  have HEN := Lib.hid (backR_end (l := l) (i := j))
  generalize l.getD j Bh = z at *
  obtain ⟨zs, zf, zr⟩ := z
  dsimp only at hc1 hc2 HZ HLK HST HEN
  by_cases hz : 0 <= zf
  ·obtain ⟨i2, k2, y2, hf2, hr2, hlt, hkl, -, -⟩ := HLK.out (HZ.out.1.1 hz)
   subst hf2 hr2
   have hs2 := HST.out hz
   rw [Int.toNat_natCast, Int.toNat_natCast] at hs2
   have HS2 := Lib.hid hs2
   have HC1 := Lib.hid hc1
   have HC2 := Lib.hid hc2
   have hbl := backR_len (l := l) (i + 1) i
   rw [<- ho, hs2] at hbl
   have hol2 : out.length + 1 <= i + 1 := by rw [List.length_append, List.length_cons] at hbl; omega
   clear hc0 hc1 hc2 hs2 hbl ho
   go_wp2_with (first
    | ((with_reducible refine qB ?_); refine qc ?_ ?_ <;> intro h_ <;> go_prune)
    | ((with_reducible refine qk 3 ?_); refine BigFrame.wpList_want rfl fun _ hK => ?_; first | refine At rfl rfl (by kernel_rfl) (Bm (hS.own 1 rfl) _ _ HC1.out) (hK _ _ ?_) | refine At rfl rfl (by kernel_rfl) (Bm (hS.own 1 rfl) _ _ HC2.out) (hK _ _ ?_))
    | ((with_reducible refine qA 32 ?_); refine DV hS 0 rfl rfl _ _ _ _ rfl rfl Ex kv out.length (BD out) (.int .i64 (k2 : Nat)) #[.int .i64 (k2 : Nat)] rfl (by kernel_rfl) rfl rfl rfl rfl (by intro u hu; simp at hu; subst hu; rfl) (by omega) (by omega) ?_; clear hS; intro z_ kv' w_ hS; (try simp only [Act.put, Act.eval, zz, Value.cells] at hS))
    | ((with_reducible refine qK ?_); refine qC hS ?_))
   refine ⟨⟨i2, _, out ++ [k2], rfl, rfl, by omega, ?_, by rw [List.length_append, List.length_singleton]; omega, Lib.hid (by simp), ?_⟩, by simp [intOf]; omega⟩
   ·rw [List.append_assoc, List.singleton_append, <- HS2.out]; exact HO.out
   ·rw [show (out ++ [k2]).length = out.length + 1 by simp, show BD (out ++ [k2]) = BD out ++ [.int .i64 (k2 : Nat)] by simp [BD]]
    exact hS
  ·have he2 := HEN.out hz
   have HC1 := Lib.hid hc1
   rw [he2, List.append_nil] at ho
   have hpl : (BH l i) = out.reverse := by unfold BH; rw [<- ho]
   have HPL := Lib.hid hpl
   clear hc0 hc1 hc2 he2 hpl HO HEN HST ho
   rcases Nat.eq_zero_or_pos out.length with h0 | h0
   ·obtain rfl : out = [] := List.length_eq_zero_iff.1 h0
    obtain rfl := HNIL.out rfl
    go_wp2_with (first
     | ((with_reducible refine qB ?_); refine qc ?_ ?_ <;> intro h_ <;> go_prune)
     | ((with_reducible refine qk 3 ?_); refine BigFrame.wpList_want rfl fun _ hK => At rfl rfl (by kernel_rfl) (Bm (hS.own 1 rfl) _ _ HC1.out) (hK _ _ ?_))
     | (go_at_call 119; refine (srev_nil _).mono ?_; rintro e w_ ⟨rfl, hb_⟩; replace hS := hS.ext hb_; clear hb_)
     | ((with_reducible refine qK ?_); refine qC hS ?_))
    go_ret
    refine ⟨_, rfl, ?_⟩
    rw [ER, HPL.out, List.length_reverse]
    have hS2 := hS.freeze 0 (by decide) rfl
    exact ⟨_, _, _, _, _, _, _, HMP.out, HN.out, by rw [HSC.out]; exact hS2.mono ((KS.out.and (Az (by decide))).and Bu) fun D w h => ⟨⟨h.1.1, h.2⟩, h.1.2⟩⟩
   ·obtain ⟨go, co, rfl, hco, _⟩ := BI (hS.own 0 rfl) h0
    go_wp2_with (first
     | ((with_reducible refine qB ?_); refine qc ?_ ?_ <;> intro h_ <;> go_prune)
     | ((with_reducible refine qk 3 ?_); refine BigFrame.wpList_want rfl fun _ hK => At rfl rfl (by kernel_rfl) (Bm (hS.own 1 rfl) _ _ HC1.out) (hK _ _ ?_))
     | (go_at_call 119; refine (srev_any go co out _ _ (hS.own 0 rfl) (by omega)).mono ?_; rintro e w_ ⟨rfl, hown, hg⟩; replace hS := hS.upd 0 rfl (.own (.slice (some ⟨go, 0, none⟩) out.length co) 3 1 out.length (BD out.reverse)) hg hown fun _ e => .inl e)
     | ((with_reducible refine qK ?_); refine qC hS ?_))
    go_ret
    refine ⟨_, rfl, ?_⟩
    rw [ER, HPL.out, List.length_reverse]
    have hS2 := hS.freeze 0 (by decide) rfl
    exact ⟨_, _, _, _, _, _, _, HMP.out, HN.out, by rw [HSC.out]; exact hS2.mono ((KS.out.and (Az (by decide))).and Bu) fun D w h => ⟨⟨h.1.1, h.2⟩, h.1.2⟩⟩
end
section
open Go.RowKit
attribute [local go_sem ↓] Go.wp_at_zero Go.wp_at_succ
set_option maxRecDepth 20000
set_option exponentiation.threshold 5000
set_option maxHeartbeats 4000000 in
theorem Ht {w0 w : World} {F : List Aj} {K : (Nat -> Prop) -> World -> Prop} {v z : Value} {p : Af} {N : Nat} (k : Int) (hP : p.Ok) (hS : St w0 w F K) (kp : ∀ D w, K D w -> B7 w D v p) (ku : ∀ D w, K D w -> A6 w D z N) (kt : ∀ D w, K D w -> Bx w) :
  Calls Tryz.prog 87 #[v, z, .int .i64 k] w fun e w' => ∃ x, e = .returned (.tuple #[x, .bool (stepM p N k).isSome]) /\ St w0 w' F fun D w => K D w /\ A6 w D x ((stepM p N k).getD 0) := by
 obtain ⟨R, lk, st, rl, nl, gl⟩ := p
 obtain ⟨lp, s, rv, nv, gv, rfl, h1, h2, h3, h4, h5⟩ := kp _ _ hS.ro
 dsimp only at h1 h2 h3 h4 h5
 obtain ⟨la, rfl⟩ : ∃ la, lp = .pointer la := by
  cases lk with
  | none => exact ⟨none, h1⟩
  | some L => obtain ⟨q, o, rfl, -⟩ := h1; exact ⟨_, rfl⟩
 obtain ⟨Cs, ns, cs, rfl⟩ := h2.shape
 obtain ⟨Ar, cr, rfl, _, _⟩ := h3.shape
 obtain ⟨An, cn, rfl, _, _⟩ := h4.shape
 obtain ⟨Ag, cg, rfl, _, _⟩ := h5.shape
 obtain ⟨u, rfl⟩ : ∃ u, z = .agg #[u] := by
  obtain ⟨A, c, l, rfl, -⟩ := (ku _ _ hS.ro).parts
  exact ⟨_, rfl⟩
 obtain ⟨KC, kc, hS2⟩ : ∃ KC : (Nat -> Prop) -> World -> Prop, Hid (∀ D w, KC D w -> K D w /\ Fp w D (.pointer la) lk /\ Bi w D (.slice Ar rl.length cr) rl) /\ St w0 w F KC := ⟨_, Lib.hid fun D w h => ⟨h.1, h.2.1, h.2.2⟩, hS.add (D := CW F) (BR.and B9) ⟨h1, h3⟩ fun _ h _ => h⟩
 have KS := Lib.hid hS.stable
 clear hS h1 h2 h3 h4 h5
 have hS := hS2
 clear hS2
 have HP := Lib.hid hP
 have hrl : rl.length <= 100000 := hP.rules
 clear hP
 have HK := Lib.hid kp
 have HU := Lib.hid ku
 have HT := Lib.hid kt
 clear kp ku kt
 by_cases hk : 0 <= k /\ k < rl.length /\ lk.isSome = true
 ·obtain ⟨hk0, hk1, hk2⟩ := hk
  cases lk with
  | none => cases hk2
  | some L =>
   clear hk2
   obtain ⟨j, rfl⟩ : ∃ j : Nat, k = (j : Int) := ⟨k.toNat, by omega⟩
   have hlj : j < rl.length := by omega
   clear hk0 hk1
   obtain ⟨q, o, e, -⟩ := id (kc.out _ _ hS.ro).2.1
   injection e with e
   subst e
   obtain ⟨b, o2, _, _, rfl, -⟩ := (kc.out _ _ hS.ro).2.2.at_ hlj
   rw [stepM_at (p := ⟨R, some L, st, rl, nl, gl⟩) (N := N) rfl hlj]
   dsimp only
   obtain ⟨z, hz⟩ : ∃ z, rl.getD j AL = z := ⟨_, rfl⟩
   rw [hz]
   have HZ := Lib.hid hz
   clear hz
   obtain ⟨zr, ry, rn, rt, ro⟩ := z
   obtain ⟨V, hV⟩ : ∃ V, V = if stepB ⟨R, some L, st, rl, nl, gl⟩ N ⟨zr, ry, rn, rt, ro⟩ = true then some (Fd N ⟨zr, ry, rn, rt, ro⟩) else none := ⟨_, rfl⟩
   rw [<- hV]
   have HV := Lib.hid hV
   clear hV
   cases zr
   ·go_enter Tryz.func87, Tryz.ntmps87
    go_wp2_with (first | ((with_reducible refine qA 3 ?_); refine AA hS rfl _ _ rfl (.agg #[.int .i64 R, .pointer (some ⟨q, 0, none⟩), .slice Cs ns cs, .slice (some ⟨b, o2, none⟩) rl.length cr, .slice An nl.length cn, .slice Ag gl.length cg]) _ rfl rfl ?_; clear hS; intro g3 w_ hS; (try simp only [Act.put, Act.eval, zz, Value.cells] at hS)) | ((with_reducible refine qA 4 ?_); refine AA hS rfl _ _ rfl (.agg #[u]) _ rfl rfl ?_; clear hS; intro g4 w_ hS; (try simp only [Act.put, Act.eval, zz, Value.cells] at hS)) | ((with_reducible refine qA 6 ?_); refine qa hS #[.slice none 0 0] ?_; clear hS; intro g6 w_ hS) | ((with_reducible refine qA 12 ?_); refine BigFrame.wpList_want rfl fun _ hK => Bb (v := .bool false) rfl rfl rfl rfl rfl (hK _ _ ?_)) | ((with_reducible refine qB ?_); refine qc ?_ ?_ <;> intro h_ <;> go_prune) | ((with_reducible refine qA 29 ?_); obtain ⟨b', o', y, n, e', _, _, c0, c1, c2, c3, c4, hy, hn⟩ := (kc.out _ _ hS.ro).2.2.at_ hlj; injection e' with e'; injection e' with e1 e2; subst e1 e2; rw [HZ.out] at c0 c3 c4 hy hn; dsimp only at c0 c3 c4 hy hn; obtain ⟨Ay, my, cy, rfl⟩ := hy.shape; obtain ⟨Am, mn, cm, rfl⟩ := hn.shape; replace hS := hS.add (D := CW _) (A5.and A5) ⟨hy, hn⟩ (fun _ h _ => h); refine BigFrame.wpList_want rfl fun _ hK => B5 (cs := [.bool false, .slice Ay my cy, .slice Am mn cm, .int .i64 rt, .int .i64 ro]) rfl rfl (J0 c0 c1 c2 c3 c4) Tryz.underlying58 rfl (by kernel_rfl) (hK _ _ ?_)) | ((with_reducible refine qA 8 ?_); refine qa hS #[.bool false, .slice none 0 0, .slice none 0 0, .int .i64 0, .int .i64 0] ?_; clear hS; intro g8 w_ hS) | ((with_reducible refine qA 9 ?_); refine qa hS #[.slice none 0 0] ?_; clear hS; intro g9 w_ hS) | ((with_reducible refine qK ?_); refine qL hS Tryz.underlying27 ?_) | ((with_reducible refine qM ?_); (first | refine qS hS ?_ | refine qT hS ?_); clear hS; intro w_ hS; (try simp only [Act.put, Act.eval, zz, Value.cells] at hS)) | (go_at_call 14; refine (D6 _ N rt _ _ (HU.out _ _ (kc.out _ _ hS.ro.1).1)).mono ?_; rintro r_ w_ ⟨_, rfl, hM, hb_⟩; obtain ⟨A9, n9, l9, rfl, -⟩ := hM.parts; replace hS := hS.ret2 hb_ A5 hM; clear hb_ hM) | (go_at_call 35; refine (EV _ N rt _ _ (HU.out _ _ (kc.out _ _ hS.ro.1.1).1)).mono ?_; rintro r_ w_ ⟨_, rfl, hM, hb_⟩; obtain ⟨A10, n10, l10, rfl, -⟩ := hM.parts; replace hS := hS.ret2 hb_ A5 hM; clear hb_ hM) | ((with_reducible refine qK ?_); refine qC hS ?_))
    simp only [Act.put, List.setIfInBounds_toArray, List.set_cons_zero, List.set_cons_succ, List.getElem_toArray, List.getElem_cons_zero]
    have HH := Lib.hid (HP.out.links L rfl).1
    obtain ⟨K7, x9, k7, hS2⟩ : ∃ (K7 : (Nat -> Prop) -> World -> Prop) (x9 : Value), Hid (∀ D w, K7 D w -> K D w /\ Fp w D (.pointer (some ⟨q, 0, none⟩)) (some L) /\ A6 w D (.agg #[.slice Ay my cy]) ry /\ A6 w D (.agg #[.slice Am mn cm]) rn /\ A6 w D (.agg #[x9]) (Fd N ⟨false, ry, rn, rt, ro⟩)) /\ St w0 w_ (.box g9 27 #[x9] :: .box g8 58 #[.bool false, .slice Ay my cy, .slice Am mn cm, .int .i64 rt, .int .i64 ro] :: .box g6 27 #[.slice none 0 0] :: .box g4 27 #[u] :: .box g3 31 #[.int .i64 R, .pointer (some ⟨q, 0, none⟩), .slice Cs ns cs, .slice (some ⟨b, o2, none⟩) rl.length cr, .slice An nl.length cn, .slice Ag gl.length cg] :: F) K7 := ⟨_, _, Lib.hid fun D w h => ⟨(kc.out _ _ h.1.1).1, (kc.out _ _ h.1.1).2.1, h.1.2.1, h.1.2.2, h.2⟩, hS⟩
    have hx9 : x9.oneCell' = true := by
     obtain ⟨A, c, l, e, -⟩ := (k7.out _ _ hS2.ro).2.2.2.2.parts
     injection e with e; injection e with e; injection e with e
     subst e; rfl
    clear hS
    have hS := hS2
    clear hS2
    obtain ⟨rb, hrb⟩ : ∃ rb, rb = false := ⟨_, rfl⟩
    have HRB := Lib.hid hrb
    rw [<- hrb] at k7
    clear hrb
    obtain ⟨hb, hhb⟩ : ∃ hb, Bn N rt = hb := ⟨_, rfl⟩
    obtain ⟨ho, hho⟩ : ∃ ho, Bv (ry, rn) (closM L N) = ho := ⟨_, rfl⟩
    obtain ⟨M, hM⟩ : ∃ M, Fd N ⟨rb, ry, rn, rt, ro⟩ = M := ⟨_, rfl⟩
    obtain ⟨gd, hgd⟩ : ∃ gd, goodB ⟨R, some L, st, rl, nl, gl⟩ M = gd := ⟨_, rfl⟩
    have HSB : Hid (stepB ⟨R, some L, st, rl, nl, gl⟩ N ⟨rb, ry, rn, rt, ro⟩ = !(((hb != rb) || (!rb && !ho)) || !gd)) := Lib.hid (by rw [<- hhb, <- hho, <- hgd, <- hM]; rfl)
    have HHB := Lib.hid hhb
    have HHO := Lib.hid hho
    have HGD := Lib.hid hgd
    have HNM := Lib.hid hM
    rw [HNM.out] at k7
    have HVV : Hid (V = if (!(((hb != rb) || (!rb && !ho)) || !gd)) = true then some M else none) := Lib.hid (by rw [HV.out, <- HRB.out, HNM.out, HSB.out])
    clear hhb hho hgd hM HV HSB HNM
    refine Ci [.i (.agg #[u]), .q g8 3, .n rt, .i (.bool hb), .q g8 0, .i (.bool rb), .i (.bool (hb != rb)), .i (.bool (hb != rb)), .g (!(hb != rb)) (.pointer (some ⟨g8, 0, none⟩)), .g (!(hb != rb)) (.bool rb), .g (!(hb != rb)) (.bool (!rb)), .g (!(hb != rb)) (.bool (!rb)), .g ((!(hb != rb)) && (!rb)) (.pointer (some ⟨g8, 1, none⟩)), .g ((!(hb != rb)) && (!rb)) (.agg #[.slice Ay my cy, .slice Am mn cm]), .g ((!(hb != rb)) && (!rb)) (.pointer (some ⟨g3, 1, none⟩)), .g ((!(hb != rb)) && (!rb)) (.pointer (some ⟨q, 0, none⟩)), .g ((!(hb != rb)) && (!rb)) (.agg #[u]), (.s (fun v w => ((!(hb != rb)) && (!rb)) = true -> A6 w (fun _ => True) v (closM L N)) fun v w w' h hb hc => by replace h := h hc; exact h.ext hb), .g ((!(hb != rb)) && (!rb)) (.bool ho), .g ((!(hb != rb)) && (!rb)) (.bool (!ho)), .g (!(hb != rb)) (.bool ((!rb) && (!ho))), .i (.bool ((hb != rb) || ((!rb) && (!ho)))), .i (.bool ((hb != rb) || ((!rb) && (!ho)))), .g (!((hb != rb) || ((!rb) && (!ho)))) (.agg #[.int .i64 R, .pointer (some ⟨q, 0, none⟩), .slice Cs ns cs, .slice (some ⟨b, o2, none⟩) rl.length cr, .slice An nl.length cn, .slice Ag gl.length cg]), .g (!((hb != rb) || ((!rb) && (!ho)))) (.agg #[x9]), .g (!((hb != rb) || ((!rb) && (!ho)))) (.bool gd), .g (!((hb != rb) || ((!rb) && (!ho)))) (.bool (!gd)), .i (.bool (((hb != rb) || ((!rb) && (!ho))) || (!gd)))] ⟨uR (h := fun w hW hN => (hS.ext hW).box 3 rfl), uF, uC (h := fun w hW hN => (hS.ext hW).shut 1 rfl 3 rfl), ?_, uF, uC (h := fun w hW hN => by rw [HRB.out]; exact (hS.ext hW).shut 1 rfl 0 rfl), uB (h := fun w hW hN => by cases hb <;> cases rb <;> rfl), uM, (by cases hb <;> cases rb <;> first | exact uY | exact uX | exact uF), (by cases hb <;> cases rb <;> first | exact uY | exact uX | exact uC (h := fun w hW hN => by first | (rw [HRB.out]; exact (hS.ext hW).shut 1 rfl 0 rfl) | (rw [<- HRB.out]; exact (hS.ext hW).shut 1 rfl 0 rfl) | exact (hS.ext hW).shut 1 rfl 0 rfl)), (by cases hb <;> cases rb <;> first | exact uY | exact uX | exact uU), (by cases hb <;> cases rb <;> first | exact uY | exact uX | exact uM), (by cases hb <;> cases rb <;> first | exact uY | exact uX | exact uF), (by cases hb <;> cases rb <;> first | exact uY | exact uX | exact uD (h := fun w hW hN => rng2 ((hS.ext hW).shut 1 rfl 1 rfl) ((hS.ext hW).shut 1 rfl 2 rfl))), (by cases hb <;> cases rb <;> first | exact uY | exact uX | exact uF), (by cases hb <;> cases rb <;> first | exact uY | exact uX | exact uC (h := fun w hW hN => (hS.ext hW).shut 4 rfl 1 rfl)), (by cases hb <;> cases rb <;> first | exact uY | exact uX | exact uR (h := fun w hW hN => (hS.ext hW).box 3 rfl)), ?_, ?_, (by cases hb <;> cases rb <;> first | exact uY | exact uX | exact uU), (by cases hb <;> cases rb <;> first | exact uY | exact uX | exact uP), (by cases hb <;> cases rb <;> exact uP), uM, (by cases hb <;> cases rb <;> cases ho <;> first | exact uY | exact uX | exact uR (h := fun w hW hN => (hS.ext hW).box 4 rfl)), (by cases hb <;> cases rb <;> cases ho <;> first | exact uY | exact uX | exact uR (h := fun w hW hN => (hS.ext hW).box 0 rfl)), ?_, (by cases hb <;> cases rb <;> cases ho <;> first | exact uY | exact uX | exact uU), (by cases hb <;> cases rb <;> cases ho <;> exact uP), trivial⟩ ?_
    ·refine uT fun b__ w hW hE K hK => ?_
     have e40 := hE 40
     have e42 := hE 42
     exact AC rfl (by kernel_rfl) (by simp only [List.map_cons, List.map_nil, e40, e42]) (Cb _ N rt w _ (HU.out _ _ (k7.out _ _ (hS.ext hW).ro).1)) fun v w' h hb_ => hK v w' (h.trans (by rw [HHB.out])) hb_
    ·cases hb <;> cases rb <;> first | exact uY | exact uX | (refine uT fun b__ w hW hE K hK => ?_; have e55 : b__.eval (.tmp 55) = .pointer (some ⟨q, 0, none⟩) := hE 55; have e56 : b__.eval (.tmp 56) = .agg #[u] := hE 56; (exact AC rfl (by kernel_rfl) (by simp only [List.map_cons, List.map_nil, e55, e56]) (Eo (show IsH _ _ _ L from (k7.out _ _ (hS.ext hW).ro).2.1) (HT.out _ _ (k7.out _ _ (hS.ext hW).ro).1) HH.out (HU.out _ _ (k7.out _ _ (hS.ext hW).ro).1)) fun v w' h hb => hK v w' (fun _ => h.imp fun _ _ _ => trivial) hb))
    ·cases hb <;> cases rb <;> first | exact uY | exact uX | (refine uT fun b__ w hW hE K hK => ?_; have e53 : b__.eval (.tmp 53) = .agg #[.slice Ay my cy, .slice Am mn cm] := hE 53; have e57 := hE 57; have e57 := e57 rfl; (exact AC rfl (by kernel_rfl) (by simp only [List.map_cons, List.map_nil, e53]) (I3 (z := (ry, rn)) ⟨_, _, rfl, (k7.out _ _ (hS.ext hW).ro).2.2.1, (k7.out _ _ (hS.ext hW).ro).2.2.2.1⟩ e57) fun v w' h hb => hK v w' (h.trans (by rw [HHO.out]; rfl)) hb))
    ·cases hb <;> cases rb <;> cases ho <;> first | exact uY | exact uX | (refine uT fun b__ w hW hE K hK => ?_; have e63 : b__.eval (.tmp 63) = .agg #[.int .i64 R, .pointer (some ⟨q, 0, none⟩), .slice Cs ns cs, .slice (some ⟨b, o2, none⟩) rl.length cr, .slice An nl.length cn, .slice Ag gl.length cg] := hE 63; have e64 : b__.eval (.tmp 64) = .agg #[x9] := hE 64; (exact AC rfl (by kernel_rfl) (by simp only [List.map_cons, List.map_nil, e63, e64]) (Jh (HK.out _ _ (k7.out _ _ (hS.ext hW).ro).1) HP.out (HT.out _ _ (k7.out _ _ (hS.ext hW).ro).1) (k7.out _ _ (hS.ext hW).ro).2.2.2.2) fun v w' h hb => hK v w' (h.trans (by rw [HGD.out]; rfl)) hb))
    ·intro vs wz hW hT
     obtain ⟨e40, e41, e42, e43, e44, e45, e46, e47, -, -, -, -, -, -, -, -, -, -, -, -, -, e61, e62, -, -, -, -, e67, -⟩ := hT
     have bx : (fun _ : Nat => True) 0 := trivial
     simp only [AE, Act.put, zz, ze]
     rw [e67]
     replace hS := hS.ext hW
     clear hW e67
     obtain ⟨E, hE⟩ : ∃ E : Bool, (((hb != rb) || (!rb && !ho)) || !gd) = E := ⟨_, rfl⟩
     rw [hE] at HVV ⊢
     clear hE HHB HHO HGD
     cases E
     ·go_wp2_with (first
       | ((with_reducible refine qK ?_); refine qL hS Tryz.underlying27 ?_)
       | ((with_reducible refine qm 27 ?_); refine AH hS 2 rfl _ _ _ rfl _ _ rfl rfl _ _ rfl (by kernel_rfl) (by kernel_rfl) (by simpa using hx9) ?_; clear hS; intro w_ hS; (try simp only [Act.put, Act.eval, zz, Value.cells] at hS)))
      refine BA Tryz.results87 rfl (hS.box 2 rfl) Tryz.underlying27 rfl (by kernel_rfl) rfl rfl ?_
      rw [show V = some M from HVV.out]
      exact ⟨_, rfl, (hS.sub (List.sublist_append_right [_, _, _, _, _] F)).mono (KS.out.and A5) fun D w h => ⟨(k7.out _ _ h).1, (k7.out _ _ h).2.2.2.2⟩⟩
     ·go_wp2_with (first
       | ((with_reducible refine qA 68 ?_); refine Aq rfl _ _ rfl #[.slice none 0 0] (by kernel_rfl) ?_; (try simp only [Act.put, List.setIfInBounds_toArray, List.set_cons_zero, List.set_cons_succ]))
       | ((with_reducible refine qM ?_); (first | refine qS hS ?_ | refine qT hS ?_); clear hS; intro w_ hS; (try simp only [Act.put, Act.eval, zz, Value.cells] at hS)))
      refine BA Tryz.results87 rfl (hS.box 2 rfl) Tryz.underlying27 rfl (by kernel_rfl) rfl rfl ?_
      rw [show V = none from HVV.out]
      exact ⟨_, rfl, (hS.sub (List.sublist_append_right [_, _, _, _, _] F)).mono (KS.out.and A5) fun D w h => ⟨(k7.out _ _ h).1, A6.empty⟩⟩
   ·go_enter Tryz.func87, Tryz.ntmps87
    go_wp2_with (first | ((with_reducible refine qA 3 ?_); refine AA hS rfl _ _ rfl (.agg #[.int .i64 R, .pointer (some ⟨q, 0, none⟩), .slice Cs ns cs, .slice (some ⟨b, o2, none⟩) rl.length cr, .slice An nl.length cn, .slice Ag gl.length cg]) _ rfl rfl ?_; clear hS; intro g3 w_ hS; (try simp only [Act.put, Act.eval, zz, Value.cells] at hS)) | ((with_reducible refine qA 4 ?_); refine AA hS rfl _ _ rfl (.agg #[u]) _ rfl rfl ?_; clear hS; intro g4 w_ hS; (try simp only [Act.put, Act.eval, zz, Value.cells] at hS)) | ((with_reducible refine qA 6 ?_); refine qa hS #[.slice none 0 0] ?_; clear hS; intro g6 w_ hS) | ((with_reducible refine qA 12 ?_); refine BigFrame.wpList_want rfl fun _ hK => Bb (v := .bool false) rfl rfl rfl rfl rfl (hK _ _ ?_)) | ((with_reducible refine qB ?_); refine qc ?_ ?_ <;> intro h_ <;> go_prune) | ((with_reducible refine qA 29 ?_); obtain ⟨b', o', y, n, e', _, _, c0, c1, c2, c3, c4, hy, hn⟩ := (kc.out _ _ hS.ro).2.2.at_ hlj; injection e' with e'; injection e' with e1 e2; subst e1 e2; rw [HZ.out] at c0 c3 c4 hy hn; dsimp only at c0 c3 c4 hy hn; obtain ⟨Ay, my, cy, rfl⟩ := hy.shape; obtain ⟨Am, mn, cm, rfl⟩ := hn.shape; replace hS := hS.add (D := CW _) (A5.and A5) ⟨hy, hn⟩ (fun _ h _ => h); refine BigFrame.wpList_want rfl fun _ hK => B5 (cs := [.bool true, .slice Ay my cy, .slice Am mn cm, .int .i64 rt, .int .i64 ro]) rfl rfl (J0 c0 c1 c2 c3 c4) Tryz.underlying58 rfl (by kernel_rfl) (hK _ _ ?_)) | ((with_reducible refine qA 8 ?_); refine qa hS #[.bool false, .slice none 0 0, .slice none 0 0, .int .i64 0, .int .i64 0] ?_; clear hS; intro g8 w_ hS) | ((with_reducible refine qA 9 ?_); refine qa hS #[.slice none 0 0] ?_; clear hS; intro g9 w_ hS) | ((with_reducible refine qK ?_); refine qL hS Tryz.underlying27 ?_) | ((with_reducible refine qM ?_); (first | refine qS hS ?_ | refine qT hS ?_); clear hS; intro w_ hS; (try simp only [Act.put, Act.eval, zz, Value.cells] at hS)) | (go_at_call 14; refine (D6 _ N rt _ _ (HU.out _ _ (kc.out _ _ hS.ro.1).1)).mono ?_; rintro r_ w_ ⟨_, rfl, hM, hb_⟩; obtain ⟨A9, n9, l9, rfl, -⟩ := hM.parts; replace hS := hS.ret2 hb_ A5 hM; clear hb_ hM) | (go_at_call 35; refine (EV _ N rt _ _ (HU.out _ _ (kc.out _ _ hS.ro.1.1).1)).mono ?_; rintro r_ w_ ⟨_, rfl, hM, hb_⟩; obtain ⟨A10, n10, l10, rfl, -⟩ := hM.parts; replace hS := hS.ret2 hb_ A5 hM; clear hb_ hM) | ((with_reducible refine qK ?_); refine qC hS ?_))
    simp only [Act.put, List.setIfInBounds_toArray, List.set_cons_zero, List.set_cons_succ, List.getElem_toArray, List.getElem_cons_zero]
    have HH := Lib.hid (HP.out.links L rfl).1
    obtain ⟨K7, x9, k7, hS2⟩ : ∃ (K7 : (Nat -> Prop) -> World -> Prop) (x9 : Value), Hid (∀ D w, K7 D w -> K D w /\ Fp w D (.pointer (some ⟨q, 0, none⟩)) (some L) /\ A6 w D (.agg #[.slice Ay my cy]) ry /\ A6 w D (.agg #[.slice Am mn cm]) rn /\ A6 w D (.agg #[x9]) (Fd N ⟨true, ry, rn, rt, ro⟩)) /\ St w0 w_ (.box g9 27 #[x9] :: .box g8 58 #[.bool true, .slice Ay my cy, .slice Am mn cm, .int .i64 rt, .int .i64 ro] :: .box g6 27 #[.slice none 0 0] :: .box g4 27 #[u] :: .box g3 31 #[.int .i64 R, .pointer (some ⟨q, 0, none⟩), .slice Cs ns cs, .slice (some ⟨b, o2, none⟩) rl.length cr, .slice An nl.length cn, .slice Ag gl.length cg] :: F) K7 := ⟨_, _, Lib.hid fun D w h => ⟨(kc.out _ _ h.1.1.1).1, (kc.out _ _ h.1.1.1).2.1, h.1.1.2.1, h.1.1.2.2, h.2⟩, hS⟩
    have hx9 : x9.oneCell' = true := by
     obtain ⟨A, c, l, e, -⟩ := (k7.out _ _ hS2.ro).2.2.2.2.parts
     injection e with e; injection e with e; injection e with e
     subst e; rfl
    clear hS
    have hS := hS2
    clear hS2
    obtain ⟨rb, hrb⟩ : ∃ rb, rb = true := ⟨_, rfl⟩
    have HRB := Lib.hid hrb
    rw [<- hrb] at k7
    clear hrb
    obtain ⟨hb, hhb⟩ : ∃ hb, Bn N rt = hb := ⟨_, rfl⟩
    obtain ⟨ho, hho⟩ : ∃ ho, Bv (ry, rn) (closM L N) = ho := ⟨_, rfl⟩
    obtain ⟨M, hM⟩ : ∃ M, Fd N ⟨rb, ry, rn, rt, ro⟩ = M := ⟨_, rfl⟩
    obtain ⟨gd, hgd⟩ : ∃ gd, goodB ⟨R, some L, st, rl, nl, gl⟩ M = gd := ⟨_, rfl⟩
    have HSB : Hid (stepB ⟨R, some L, st, rl, nl, gl⟩ N ⟨rb, ry, rn, rt, ro⟩ = !(((hb != rb) || (!rb && !ho)) || !gd)) := Lib.hid (by rw [<- hhb, <- hho, <- hgd, <- hM]; rfl)
    have HHB := Lib.hid hhb
    have HHO := Lib.hid hho
    have HGD := Lib.hid hgd
    have HNM := Lib.hid hM
    rw [HNM.out] at k7
    have HVV : Hid (V = if (!(((hb != rb) || (!rb && !ho)) || !gd)) = true then some M else none) := Lib.hid (by rw [HV.out, <- HRB.out, HNM.out, HSB.out])
    clear hhb hho hgd hM HV HSB HNM
    refine Ci [.i (.agg #[u]), .q g8 3, .n rt, .i (.bool hb), .q g8 0, .i (.bool rb), .i (.bool (hb != rb)), .i (.bool (hb != rb)), .g (!(hb != rb)) (.pointer (some ⟨g8, 0, none⟩)), .g (!(hb != rb)) (.bool rb), .g (!(hb != rb)) (.bool (!rb)), .g (!(hb != rb)) (.bool (!rb)), .g ((!(hb != rb)) && (!rb)) (.pointer (some ⟨g8, 1, none⟩)), .g ((!(hb != rb)) && (!rb)) (.agg #[.slice Ay my cy, .slice Am mn cm]), .g ((!(hb != rb)) && (!rb)) (.pointer (some ⟨g3, 1, none⟩)), .g ((!(hb != rb)) && (!rb)) (.pointer (some ⟨q, 0, none⟩)), .g ((!(hb != rb)) && (!rb)) (.agg #[u]), (.s (fun v w => ((!(hb != rb)) && (!rb)) = true -> A6 w (fun _ => True) v (closM L N)) fun v w w' h hb hc => by replace h := h hc; exact h.ext hb), .g ((!(hb != rb)) && (!rb)) (.bool ho), .g ((!(hb != rb)) && (!rb)) (.bool (!ho)), .g (!(hb != rb)) (.bool ((!rb) && (!ho))), .i (.bool ((hb != rb) || ((!rb) && (!ho)))), .i (.bool ((hb != rb) || ((!rb) && (!ho)))), .g (!((hb != rb) || ((!rb) && (!ho)))) (.agg #[.int .i64 R, .pointer (some ⟨q, 0, none⟩), .slice Cs ns cs, .slice (some ⟨b, o2, none⟩) rl.length cr, .slice An nl.length cn, .slice Ag gl.length cg]), .g (!((hb != rb) || ((!rb) && (!ho)))) (.agg #[x9]), .g (!((hb != rb) || ((!rb) && (!ho)))) (.bool gd), .g (!((hb != rb) || ((!rb) && (!ho)))) (.bool (!gd)), .i (.bool (((hb != rb) || ((!rb) && (!ho))) || (!gd)))] ⟨uR (h := fun w hW hN => (hS.ext hW).box 3 rfl), uF, uC (h := fun w hW hN => (hS.ext hW).shut 1 rfl 3 rfl), ?_, uF, uC (h := fun w hW hN => by rw [HRB.out]; exact (hS.ext hW).shut 1 rfl 0 rfl), uB (h := fun w hW hN => by cases hb <;> cases rb <;> rfl), uM, (by cases hb <;> cases rb <;> first | exact uY | exact uX | exact uF), (by cases hb <;> cases rb <;> first | exact uY | exact uX | exact uC (h := fun w hW hN => by first | (rw [HRB.out]; exact (hS.ext hW).shut 1 rfl 0 rfl) | (rw [<- HRB.out]; exact (hS.ext hW).shut 1 rfl 0 rfl) | exact (hS.ext hW).shut 1 rfl 0 rfl)), (by cases hb <;> cases rb <;> first | exact uY | exact uX | exact uU), (by cases hb <;> cases rb <;> first | exact uY | exact uX | exact uM), (by cases hb <;> cases rb <;> first | exact uY | exact uX | exact uF), (by cases hb <;> cases rb <;> first | exact uY | exact uX | exact uD (h := fun w hW hN => rng2 ((hS.ext hW).shut 1 rfl 1 rfl) ((hS.ext hW).shut 1 rfl 2 rfl))), (by cases hb <;> cases rb <;> first | exact uY | exact uX | exact uF), (by cases hb <;> cases rb <;> first | exact uY | exact uX | exact uC (h := fun w hW hN => (hS.ext hW).shut 4 rfl 1 rfl)), (by cases hb <;> cases rb <;> first | exact uY | exact uX | exact uR (h := fun w hW hN => (hS.ext hW).box 3 rfl)), ?_, ?_, (by cases hb <;> cases rb <;> first | exact uY | exact uX | exact uU), (by cases hb <;> cases rb <;> first | exact uY | exact uX | exact uP), (by cases hb <;> cases rb <;> exact uP), uM, (by cases hb <;> cases rb <;> cases ho <;> first | exact uY | exact uX | exact uR (h := fun w hW hN => (hS.ext hW).box 4 rfl)), (by cases hb <;> cases rb <;> cases ho <;> first | exact uY | exact uX | exact uR (h := fun w hW hN => (hS.ext hW).box 0 rfl)), ?_, (by cases hb <;> cases rb <;> cases ho <;> first | exact uY | exact uX | exact uU), (by cases hb <;> cases rb <;> cases ho <;> exact uP), trivial⟩ ?_
    ·refine uT fun b__ w hW hE K hK => ?_
     have e40 := hE 40
     have e42 := hE 42
     exact AC rfl (by kernel_rfl) (by simp only [List.map_cons, List.map_nil, e40, e42]) (Cb _ N rt w _ (HU.out _ _ (k7.out _ _ (hS.ext hW).ro).1)) fun v w' h hb_ => hK v w' (h.trans (by rw [HHB.out])) hb_
    ·cases hb <;> cases rb <;> first | exact uY | exact uX | (refine uT fun b__ w hW hE K hK => ?_; have e55 : b__.eval (.tmp 55) = .pointer (some ⟨q, 0, none⟩) := hE 55; have e56 : b__.eval (.tmp 56) = .agg #[u] := hE 56; (exact AC rfl (by kernel_rfl) (by simp only [List.map_cons, List.map_nil, e55, e56]) (Eo (show IsH _ _ _ L from (k7.out _ _ (hS.ext hW).ro).2.1) (HT.out _ _ (k7.out _ _ (hS.ext hW).ro).1) HH.out (HU.out _ _ (k7.out _ _ (hS.ext hW).ro).1)) fun v w' h hb => hK v w' (fun _ => h.imp fun _ _ _ => trivial) hb))
    ·cases hb <;> cases rb <;> first | exact uY | exact uX | (refine uT fun b__ w hW hE K hK => ?_; have e53 : b__.eval (.tmp 53) = .agg #[.slice Ay my cy, .slice Am mn cm] := hE 53; have e57 := hE 57; have e57 := e57 rfl; (exact AC rfl (by kernel_rfl) (by simp only [List.map_cons, List.map_nil, e53]) (I3 (z := (ry, rn)) ⟨_, _, rfl, (k7.out _ _ (hS.ext hW).ro).2.2.1, (k7.out _ _ (hS.ext hW).ro).2.2.2.1⟩ e57) fun v w' h hb => hK v w' (h.trans (by rw [HHO.out]; rfl)) hb))
    ·cases hb <;> cases rb <;> cases ho <;> first | exact uY | exact uX | (refine uT fun b__ w hW hE K hK => ?_; have e63 : b__.eval (.tmp 63) = .agg #[.int .i64 R, .pointer (some ⟨q, 0, none⟩), .slice Cs ns cs, .slice (some ⟨b, o2, none⟩) rl.length cr, .slice An nl.length cn, .slice Ag gl.length cg] := hE 63; have e64 : b__.eval (.tmp 64) = .agg #[x9] := hE 64; (exact AC rfl (by kernel_rfl) (by simp only [List.map_cons, List.map_nil, e63, e64]) (Jh (HK.out _ _ (k7.out _ _ (hS.ext hW).ro).1) HP.out (HT.out _ _ (k7.out _ _ (hS.ext hW).ro).1) (k7.out _ _ (hS.ext hW).ro).2.2.2.2) fun v w' h hb => hK v w' (h.trans (by rw [HGD.out]; rfl)) hb))
    ·intro vs wz hW hT
     obtain ⟨e40, e41, e42, e43, e44, e45, e46, e47, -, -, -, -, -, -, -, -, -, -, -, -, -, e61, e62, -, -, -, -, e67, -⟩ := hT
     have bx : (fun _ : Nat => True) 0 := trivial
     simp only [AE, Act.put, zz, ze]
     rw [e67]
     replace hS := hS.ext hW
     clear hW e67
     obtain ⟨E, hE⟩ : ∃ E : Bool, (((hb != rb) || (!rb && !ho)) || !gd) = E := ⟨_, rfl⟩
     rw [hE] at HVV ⊢
     clear hE HHB HHO HGD
     cases E
     ·go_wp2_with (first
       | ((with_reducible refine qK ?_); refine qL hS Tryz.underlying27 ?_)
       | ((with_reducible refine qm 27 ?_); refine AH hS 2 rfl _ _ _ rfl _ _ rfl rfl _ _ rfl (by kernel_rfl) (by kernel_rfl) (by simpa using hx9) ?_; clear hS; intro w_ hS; (try simp only [Act.put, Act.eval, zz, Value.cells] at hS)))
      refine BA Tryz.results87 rfl (hS.box 2 rfl) Tryz.underlying27 rfl (by kernel_rfl) rfl rfl ?_
      rw [show V = some M from HVV.out]
      exact ⟨_, rfl, (hS.sub (List.sublist_append_right [_, _, _, _, _] F)).mono (KS.out.and A5) fun D w h => ⟨(k7.out _ _ h).1, (k7.out _ _ h).2.2.2.2⟩⟩
     ·go_wp2_with (first
       | ((with_reducible refine qA 68 ?_); refine Aq rfl _ _ rfl #[.slice none 0 0] (by kernel_rfl) ?_; (try simp only [Act.put, List.setIfInBounds_toArray, List.set_cons_zero, List.set_cons_succ]))
       | ((with_reducible refine qM ?_); (first | refine qS hS ?_ | refine qT hS ?_); clear hS; intro w_ hS; (try simp only [Act.put, Act.eval, zz, Value.cells] at hS)))
      refine BA Tryz.results87 rfl (hS.box 2 rfl) Tryz.underlying27 rfl (by kernel_rfl) rfl rfl ?_
      rw [show V = none from HVV.out]
      exact ⟨_, rfl, (hS.sub (List.sublist_append_right [_, _, _, _, _] F)).mono (KS.out.and A5) fun D w h => ⟨(k7.out _ _ h).1, A6.empty⟩⟩
 ·rw [stepM_none (p := ⟨R, lk, st, rl, nl, gl⟩) hk]
  cases lk with
  | none =>
   obtain rfl : la = none := by have := (kc.out _ _ hS.ro).2.1; injection this
   go_enter Tryz.func87, Tryz.ntmps87
   go_wp2_with (first | ((with_reducible refine qA 3 ?_); refine AA hS rfl _ _ rfl (.agg #[.int .i64 R, .pointer none, .slice Cs ns cs, .slice Ar rl.length cr, .slice An nl.length cn, .slice Ag gl.length cg]) _ rfl rfl ?_; clear hS; intro g3 w_ hS; (try simp only [Act.put, Act.eval, zz, Value.cells] at hS)) | ((with_reducible refine qA 4 ?_); refine AA hS rfl _ _ rfl (.agg #[u]) _ rfl rfl ?_; clear hS; intro g4 w_ hS; (try simp only [Act.put, Act.eval, zz, Value.cells] at hS)) | ((with_reducible refine qA 6 ?_); refine qa hS #[.slice none 0 0] ?_; clear hS; intro g6 w_ hS) | ((with_reducible refine qA 12 ?_); refine BigFrame.wpList_want rfl fun _ hK => Bb (v := .bool true) rfl rfl rfl rfl rfl (hK _ _ ?_)) | ((with_reducible refine qA 24 ?_); refine Aq rfl _ _ rfl #[.slice none 0 0] (by kernel_rfl) ?_; (try simp only [Act.put, List.setIfInBounds_toArray, List.set_cons_zero, List.set_cons_succ])) | ((with_reducible refine qB ?_); refine qc ?_ ?_ <;> intro h_ <;> go_prune) | ((with_reducible refine qM ?_); (first | refine qS hS ?_ | refine qT hS ?_); clear hS; intro w_ hS; (try simp only [Act.put, Act.eval, zz, Value.cells] at hS)) | ((with_reducible refine qK ?_); refine qC hS ?_))
   refine BA Tryz.results87 rfl (hS.box 0 rfl) Tryz.underlying27 rfl (by kernel_rfl) rfl rfl ?_; exact ⟨_, rfl, (hS.sub (List.sublist_append_right [_, _, _] F)).mono (KS.out.and A5) fun D w h => ⟨(kc.out _ _ h).1, A6.empty⟩⟩
  | some L =>
   obtain ⟨q, o, e, -⟩ := id (kc.out _ _ hS.ro).2.1
   injection e with e
   subst e
   have hk' : k < 0 \/ rl.length <= k := by
    rcases Int.lt_or_le k 0 with h | h
    ·exact .inl h
    ·exact .inr (by rcases Int.lt_or_le k rl.length with h2 | h2; exact absurd ⟨h, h2, rfl⟩ hk; exact h2)
   clear hk
   go_enter Tryz.func87, Tryz.ntmps87
   go_wp2_with (first | ((with_reducible refine qA 3 ?_); refine AA hS rfl _ _ rfl (.agg #[.int .i64 R, .pointer (some ⟨q, 0, none⟩), .slice Cs ns cs, .slice Ar rl.length cr, .slice An nl.length cn, .slice Ag gl.length cg]) _ rfl rfl ?_; clear hS; intro g3 w_ hS; (try simp only [Act.put, Act.eval, zz, Value.cells] at hS)) | ((with_reducible refine qA 4 ?_); refine AA hS rfl _ _ rfl (.agg #[u]) _ rfl rfl ?_; clear hS; intro g4 w_ hS; (try simp only [Act.put, Act.eval, zz, Value.cells] at hS)) | ((with_reducible refine qA 6 ?_); refine qa hS #[.slice none 0 0] ?_; clear hS; intro g6 w_ hS) | ((with_reducible refine qA 12 ?_); refine BigFrame.wpList_want rfl fun _ hK => Bb (v := .bool false) rfl rfl rfl rfl rfl (hK _ _ ?_)) | ((with_reducible refine qA 24 ?_); refine Aq rfl _ _ rfl #[.slice none 0 0] (by kernel_rfl) ?_; (try simp only [Act.put, List.setIfInBounds_toArray, List.set_cons_zero, List.set_cons_succ])) | ((with_reducible refine qB ?_); refine qc ?_ ?_ <;> intro h_ <;> go_prune) | ((with_reducible refine qM ?_); (first | refine qS hS ?_ | refine qT hS ?_); clear hS; intro w_ hS; (try simp only [Act.put, Act.eval, zz, Value.cells] at hS)) | ((with_reducible refine qK ?_); refine qC hS ?_))
   all_goals
    refine BA Tryz.results87 rfl (hS.box 0 rfl) Tryz.underlying27 rfl (by kernel_rfl) rfl rfl ?_; exact ⟨_, rfl, (hS.sub (List.sublist_append_right [_, _, _] F)).mono (KS.out.and A5) fun D w h => ⟨(kc.out _ _ h).1, A6.empty⟩⟩
end
section
open Go.RowKit
attribute [local go_sem ↓] Go.wp_at_zero Go.wp_at_succ
set_option maxRecDepth 20000
set_option exponentiation.threshold 5000
theorem ty_reached : Bz Tryz.prog 125 130 3 40 := ⟨Tryz.underlying125, by kernel_rfl⟩
theorem rng6 {w : World} {g i : Nat} {a b c d e f : Value} (h0 : w.cell? ⟨g, i, none⟩ = some a) (h1 : w.cell? ⟨g, i + 1, none⟩ = some b) (h2 : w.cell? ⟨g, i + 2, none⟩ = some c) (h3 : w.cell? ⟨g, i + 3, none⟩ = some d) (h4 : w.cell? ⟨g, i + 4, none⟩ = some e) (h5 : w.cell? ⟨g, i + 5, none⟩ = some f) : w.rangeAt g i [a, b, c, d, e, f] := fun j v hj => by
 match j, hj with
 | 0, hj => obtain rfl := Option.some.inj (show some _ = some v from hj); exact h0
 | 1, hj => obtain rfl := Option.some.inj (show some _ = some v from hj); exact h1
 | 2, hj => obtain rfl := Option.some.inj (show some _ = some v from hj); exact h2
 | 3, hj => obtain rfl := Option.some.inj (show some _ = some v from hj); exact h3
 | 4, hj => obtain rfl := Option.some.inj (show some _ = some v from hj); exact h4
 | 5, hj => obtain rfl := Option.some.inj (show some _ = some v from hj); exact h5
 | j + 6, hj => simp at hj
theorem opw_lookup {P : Program} {o : Oper} {a : Act} {w : World} {K : Act -> World -> Prop} {Q : Exit -> Act -> World -> Prop} {t : TypeId} {m x : Operand} {vm vx v : Value} (ho : o.op = .lookup t m x false) (hm : a.eval m = vm) (hx : a.eval x = vx) (hr : (Instr.lookup t vm vx false).run P w = .ok v w) (hk : K (a.put o.dst v) w) : o.wp P a w K Q := Cl (by simp [execOp, ho, hm, hx, hr]) hk
theorem opw_insert {P : Program} {o : Oper} {a : Act} {w w' : World} {K : Act -> World -> Prop} {Q : Exit -> Act -> World -> Prop} {t : TypeId} {m x v : Operand} {vm vx vv : Value} (ho : o.op = .mapUpdate t m x v) (hm : a.eval m = vm) (hx : a.eval x = vx) (hv : a.eval v = vv) (hr : (Instr.mapUpdate t vm vx vv).run P w = .ok () w') (hk : K (a.put o.dst undef) w') : o.wp P a w K Q := by
 unfold Oper.wp execOp
 simp only [ho, hm, hx, hv, Sem.run_bind, hr, Result.andThen_ok]
 exact hk
theorem GJ.own {w : World × GK} {w0 : World} {F : List Aj} {ty : TypeId} {zs : Array Value} (hJ : GJ w0 F ty zs w) {v : Value} {e : TypeId} {size n : Nat} {xs : List Value} (i : Nat) (hi : F[i]? = Option.some (Aj.own v e size n xs)) : w.1.ownsRow w0.heap.size e size v n xs := (show St w0 w.1 (w.2.F ty zs ++ F) w.2.K from hJ).holds (.own v e size n xs) (List.mem_append_right _ (List.mem_of_getElem? hi))
theorem getE {l : List Nat} {i x : Nat} (h : l[i]? = some x) : (BD l)[i]? = some (.int .i64 (x : Nat)) := by unfold BD; rw [List.getElem?_map, h]; rfl
def DeepR (w0 : World) (g : Nat) (xs : Array Value) (p : Af) (lim : Int) (l : List Eu) (es : List Nat) (a : Nat) (F : List Aj) (K : (Nat -> Prop) -> World -> Prop) (e : Ending) (w' : World) : Prop :=
 (((lvlR p l a (l.length - a)).length : Int) <= lim /\ e = .returned (.tuple #[.bool (decide (l.length < (lvlR p l a (l.length - a)).length)), .int .i64 0]) /\ ER w0 w' g xs lim (lvlR p l a (l.length - a)) (if l.length < (lvlR p l a (l.length - a)).length then es ++ [(lvlR p l a (l.length - a)).length] else es) F K) \/
 (lim < ((lvlR p l a (l.length - a)).length : Int) /\ e = .returned (.tuple #[.bool false, .int .i64 3]) /\ St w0 w' F K)
set_option maxHeartbeats 8000000 in
theorem deepen_any {w0 w : World} {g : Nat} {xs : Array Value} {lim : Int} {p : Af} {l : List Eu} {es : List Nat} {F : List Aj} {K : (Nat -> Prop) -> World -> Prop} {a : Nat} (hw : WfR p l) (hP : p.Ok) (hrl : p.rules.length <= 1000) (kp : ∀ D w, K D w -> B7 w D (.agg xs) p) (kt : ∀ D w, K D w -> Bx w) (hKs : AK K)
  (he : es[es.length - 1]? = some l.length) (ha : (es.length <= 1 /\ a = 0) \/ (1 < es.length /\ es[es.length - 2]? = some a)) (hal : a <= l.length) (hln : (l.length : Int) <= lim) (hlim : lim <= 10000) (hel : es.length <= 20000) (hS0 : ER w0 w g xs lim l es F K) :
  Calls Tryz.prog 86 #[.pointer (some ⟨g, 0, none⟩)] w (DeepR w0 g xs p lim l es a F K) := by
 have hlp := hw.pos
 have hes : 0 < es.length := by have := (List.getElem?_eq_some_iff.1 he).1; omega
 have HE0 := Lib.hid hes
 have HW := Lib.hid hw
 have HP := Lib.hid hP
 have HK := Lib.hid kp
 have HT := Lib.hid kt
 have KS := Lib.hid hKs
 have HEE := Lib.hid (getE he)
 have HAE := Lib.hid ha
 obtain ⟨D0, hp0⟩ : ∃ D, B7 w D (.agg xs) p := by obtain ⟨_, _, _, _, _, _, _, _, _, hS⟩ := hS0; exact ⟨_, kp _ _ hS.ro.1⟩
 obtain ⟨la, Cs, ns, cs, Ar, cr, An, cn, Ag, cg, e6⟩ := hp0.shape6
 clear hp0
 injection e6 with e6
 subst e6
 have HSC := Lib.hid (show ∀ lv mv ev, Dk #[.int .i64 p.roles, .pointer la, .slice Cs ns cs, .slice Ar p.rules.length cr, .slice An p.never.length cn, .slice Ag p.goal.length cg] lim lv mv ev = #[.int .i64 p.roles, .pointer la, .slice Cs ns cs, .slice Ar p.rules.length cr, .slice An p.never.length cn, .slice Ag p.goal.length cg, .int .i64 lim, lv, mv, ev] from fun lv mv ev => rfl)
 clear hw hP kp kt hKs he
 have HLE1 : Hid (((es.length : Nat) : Int) - 1 = ((es.length - 1 : Nat) : Int)) := Lib.hid (by omega)
 obtain ⟨lv, ev, cells, b, clock, n, ents, hm, hn, hS⟩ := hS0; obtain ⟨EL, cl, rfl, hcl, _⟩ := BI (hS.own 0 rfl) (by omega); obtain ⟨Ae, ce, rfl, _, _⟩ := BI (hS.own 1 rfl) HE0.out; have HCL0 := Lib.hid (hS.own 0 rfl).1; rw [HSC.out] at hS; replace hm := Lib.hid hm; replace hn := Lib.hid hn
 go_enter Tryz.func86, Tryz.ntmps86
 go_upto_if 16 with (first | ((with_reducible refine qK ?_); refine qC hS ?_))
 go_cut [4] from 5 (fun c w' => c = .int .i64 (a : Nat) /\ ER w0 w' g #[.int .i64 p.roles, .pointer la, .slice Cs ns cs, .slice Ar p.rules.length cr, .slice An p.never.length cn, .slice Ag p.goal.length cg] lim l es F K)
 case first =>
  rcases HAE.out with ⟨h1, rfl⟩ | ⟨h1, h2⟩
  ·go_wp2_with (first | ((with_reducible refine qB ?_); refine qc ?_ ?_ <;> intro h_ <;> go_prune))
   go_meet
   case rel => exact ⟨rfl, _, _, _, _, _, _, _, hm.out, hn.out, hS⟩
  ·have HA2 := Lib.hid (getE h2)
   clear h2
   have HLE2 : Hid (((es.length : Nat) : Int) - 2 = ((es.length - 2 : Nat) : Int)) := Lib.hid (by omega)
   go_wp2_with (first
    | ((with_reducible refine qB ?_); refine qc ?_ ?_ <;> intro h_ <;> go_prune)
    | ((with_reducible refine qk 3 ?_); refine BigFrame.wpList_want rfl fun _ hK => At rfl rfl (by kernel_rfl) (Bm (hS.own 1 rfl) _ _ HA2.out) (hK _ _ ?_))
    | ((with_reducible refine qK ?_); refine qC hS ?_))
   go_meet
   case rel => exact ⟨rfl, _, _, _, _, _, _, _, hm.out, hn.out, hS⟩
 case rest =>
  clear hS hm hn
  obtain ⟨rfl, hS0⟩ := hcut
  go_wp2_with fail
  go_loopw [6] (fun iv wr => ∃ j : Nat, iv = .int .i64 ((a + j : Nat) : Int) /\ a + j <= l.length /\ Hid (((lvlR p l a j).length : Int) <= lim) /\ Hid (ER w0 wr g #[.int .i64 p.roles, .pointer la, .slice Cs ns cs, .slice Ar p.rules.length cr, .slice An p.never.length cn, .slice Ag p.goal.length cg] lim (lvlR p l a j) es F K)) (fun iv _ => l.length - (intOf iv).toNat)
  case atStart => exact ⟨0, rfl, hal, Lib.hid hln, Lib.hid hS0⟩
  case round =>
   clear hS0
   obtain ⟨j, rfl, hj, HLN, HS⟩ := hrel
   have hwl := wf_lvlR HW.out (p := p) (l := l) (a := a) (n := j) hj
   have hpl := (En p l a j).length_le
   by_cases hjl : a + j < l.length
   ·have HD : Hid (decide (((a + j : Nat) : Int) < ((l.length : Nat) : Int)) = true) := Lib.hid (decide_eq_true (by omega))
    have HLV := Lib.hid (DC p l a j)
    have HMN := Lib.hid (lvlR_mono p l a (m := j + 1) (n := l.length - a) (by omega))
    obtain ⟨l2, hl2⟩ : ∃ l2, lvlR p l a j = l2 := ⟨_, rfl⟩
    rw [hl2] at HLN HS hwl hpl HLV
    clear hl2
    have HWL := Lib.hid hwl
    clear hwl
    have hS0 := HS.out
    clear HS
    have hln2 := HLN.out
    obtain ⟨lv, ev, cells, b, clock, n, ents, hm, hn, hS⟩ := hS0; obtain ⟨EL, cl, rfl, hcl, _⟩ := BI (hS.own 0 rfl) (by omega); obtain ⟨Ae, ce, rfl, _, _⟩ := BI (hS.own 1 rfl) HE0.out; have HCL0 := Lib.hid (hS.own 0 rfl).1; rw [HSC.out] at hS; replace hm := Lib.hid hm; replace hn := Lib.hid hn
    go_wp2_with fail
    refine Ci [.n ((a + j : Nat) : Int), .q g 0, .q g 0, .q g 9, .i (.slice (some ⟨Ae, 0, none⟩) es.length ce), .q g 0, .q g 0, .q g 9, .i (.slice (some ⟨Ae, 0, none⟩) es.length ce), .n (es.length : Nat), .n ((es.length - 1 : Nat) : Int), .q Ae (0 + (es.length - 1) * 1), .n (l.length : Nat), .b true] ⟨uM, uM, uN, uF, uC (h := fun w hW hN => (hS.ext hW).shut 3 rfl 9 rfl), uM, uN, uF, uC (h := fun w hW hN => (hS.ext hW).shut 3 rfl 9 rfl), ?_, uB (h := fun w hW hN => by rw [CY (by omega) (by omega), HLE1.out]), uI (h := fun w hW hN => Ak (m := es.length - 1) Tryz.underlying45 (by kernel_rfl) (by omega) (by omega)), uC (h := fun w hW hN => by rw [Nat.mul_one, Nat.zero_add]; exact Bm ((hS.ext hW).own 1 rfl) _ _ HEE.out), uB (h := fun w hW hN => run_ltB HD.out), trivial⟩ ?_
    ·refine uT fun b__ w hW hE K hK => ?_
     have e34 := hE 34
     exact DL rfl e34 Tryz.underlying45 (hK _ _ rfl (Below.refl _ _))
    ·intro vs wz hW hT
     obtain ⟨e26, e27, e28, e29, e30, e31, e32, e33, e34, e35, e36, e37, e38, e39, -⟩ := hT
     simp only [AE, Act.put, zz, ze]
     rw [e39]
     clear e26 e27 e28 e29 e30 e31 e32 e33 e34 e35 e36 e37 e38 e39
     replace hS := hS.ext hW
     clear hW
     have hSr : Hid (ER w0 wz g #[.int .i64 p.roles, .pointer la, .slice Cs ns cs, .slice Ar p.rules.length cr, .slice An p.never.length cn, .slice Ag p.goal.length cg] lim l2 es F K) := Lib.hid ⟨_, _, _, _, _, _, _, hm.out, hn.out, hS⟩
     go_wp2_with (first | ((with_reducible refine qK ?_); refine qC hS ?_))
     go_loopw [48] (fun kv wr => ∃ k : Nat, kv = .int .i64 (k : Nat) /\ k <= p.rules.length /\ Hid (((rowR p l2 (a + j) k).length : Int) <= lim) /\ Hid (ER w0 wr g #[.int .i64 p.roles, .pointer la, .slice Cs ns cs, .slice Ar p.rules.length cr, .slice An p.never.length cn, .slice Ag p.goal.length cg] lim (rowR p l2 (a + j) k) es F K)) (fun kv _ => p.rules.length - (intOf kv).toNat)
     case atStart => exact ⟨0, rfl, Nat.zero_le _, HLN, hSr⟩
     case round =>
      clear hS hm hn hcl hSr
      obtain ⟨k, rfl, hk, HLM, HS⟩ := hrel
      by_cases hkr : k < p.rules.length
      ·have hp3 := (Ek p l2 (a + j) k).length_le
       have HRS := Lib.hid (DA p l2 (a + j) k)
       have HRM := Lib.hid (rowR_mono p l2 (a + j) (m := k + 1) (n := p.rules.length) (by omega))
       have HAD := Lib.hid (DQ p (rowR p l2 (a + j) k) (a + j) k)
       obtain ⟨l3, hl3⟩ : ∃ l3, rowR p l2 (a + j) k = l3 := ⟨_, rfl⟩
       rw [hl3] at HLM HS hp3 HRS HAD
       clear hl3
       have hS0 := HS.out
       clear HS
       have hln3 := HLM.out
       have hi3 : a + j < l3.length := by omega
       obtain ⟨lv, ev, cells, b, clock, n, ents, hm, hn, hS⟩ := hS0; obtain ⟨EL, cl, rfl, hcl, _⟩ := BI (hS.own 0 rfl) (by omega); obtain ⟨Ae, ce, rfl, _, _⟩ := BI (hS.own 1 rfl) HE0.out; have HCL0 := Lib.hid (hS.own 0 rfl).1; rw [HSC.out] at hS; replace hm := Lib.hid hm; replace hn := Lib.hid hn
       have HRX := Lib.hid (G8 (l := l3) hi3)
       obtain ⟨z, hz⟩ : ∃ z, l3.getD (a + j) Bh = z := ⟨_, rfl⟩
       rw [hz] at HRX HAD
       clear hz
       obtain ⟨s, zf, zr⟩ := z
       dsimp only at HAD
       obtain ⟨ca, hc0, -, -, -⟩ := hS.ro.2 _ _ HRX.out
       have HC0 := Lib.hid hc0
       have HSI : Hid (∀ D w, BL w D cells l3 -> A6 w D (.agg #[ca]) s) := Lib.hid fun D w h => by
        obtain ⟨c2, h1, _, _, h2⟩ := h _ _ HRX.out
        rw [HC0.out] at h1
        obtain rfl := Option.some.inj h1
        exact h2
       clear hc0
       obtain ⟨V, hV⟩ : ∃ V, stepM p s (k : Nat) = V := ⟨_, rfl⟩
       rw [hV] at HAD
       have HV := Lib.hid hV
       clear hV
       go_wp2_with (first | ((with_reducible refine qB ?_); refine qc ?_ ?_ <;> intro h_ <;> go_prune))
       obtain ⟨K8, k8, hS2⟩ : ∃ K8 : (Nat -> Prop) -> World -> Prop, Hid (∀ D w, K8 D w -> K D w /\ BL w D cells l3) /\ St w0 wr (.own (.slice (some ⟨EL, 0, none⟩) (l3).length cl) 130 3 (l3).length cells :: .own (.slice (some ⟨Ae, 0, none⟩) es.length ce) 3 1 es.length (BD es) :: .obj b (.map ents clock) :: .box g 128 #[.int .i64 p.roles, .pointer la, .slice Cs ns cs, .slice Ar p.rules.length cr, .slice An p.never.length cn, .slice Ag p.goal.length cg, .int .i64 lim, .slice (some ⟨EL, 0, none⟩) (l3).length cl, .map (some b), .slice (some ⟨Ae, 0, none⟩) es.length ce] :: F) K8 := ⟨_, Lib.hid fun D w h => h, hS⟩
       clear hS
       have hS := hS2
       clear hS2
       have hK8 := Lib.hid hS.stable
       have hJ0 : GJ w0 (.own (.slice (some ⟨EL, 0, none⟩) (l3).length cl) 130 3 (l3).length cells :: .own (.slice (some ⟨Ae, 0, none⟩) es.length ce) 3 1 es.length (BD es) :: .obj b (.map ents clock) :: .box g 128 #[.int .i64 p.roles, .pointer la, .slice Cs ns cs, .slice Ar p.rules.length cr, .slice An p.never.length cn, .slice Ag p.goal.length cg, .int .i64 lim, .slice (some ⟨EL, 0, none⟩) (l3).length cl, .map (some b), .slice (some ⟨Ae, 0, none⟩) es.length ce] :: F) 27 #[.slice none 0 0] (wr.drew, ⟨none, K8⟩) := hS.drew
       have hRr := @GR.refl w0 (.own (.slice (some ⟨EL, 0, none⟩) (l3).length cl) 130 3 (l3).length cells :: .own (.slice (some ⟨Ae, 0, none⟩) es.length ce) 3 1 es.length (BD es) :: .obj b (.map ents clock) :: .box g 128 #[.int .i64 p.roles, .pointer la, .slice Cs ns cs, .slice Ar p.rules.length cr, .slice An p.never.length cn, .slice Ag p.goal.length cg, .int .i64 lim, .slice (some ⟨EL, 0, none⟩) (l3).length cl, .map (some b), .slice (some ⟨Ae, 0, none⟩) es.length ce] :: F) 27 #[.slice none 0 0]
       have hRt := @GR.trans w0 (.own (.slice (some ⟨EL, 0, none⟩) (l3).length cl) 130 3 (l3).length cells :: .own (.slice (some ⟨Ae, 0, none⟩) es.length ce) 3 1 es.length (BD es) :: .obj b (.map ents clock) :: .box g 128 #[.int .i64 p.roles, .pointer la, .slice Cs ns cs, .slice Ar p.rules.length cr, .slice An p.never.length cn, .slice Ag p.goal.length cg, .int .i64 lim, .slice (some ⟨EL, 0, none⟩) (l3).length cl, .map (some b), .slice (some ⟨Ae, 0, none⟩) es.length ce] :: F) 27 #[.slice none 0 0]
       have hN0 := @GN.start 17 18 wr.drew K8
       clear hS
       refine EN (GR w0 (.own (.slice (some ⟨EL, 0, none⟩) (l3).length cl) 130 3 (l3).length cells :: .own (.slice (some ⟨Ae, 0, none⟩) es.length ce) 3 1 es.length (BD es) :: .obj b (.map ents clock) :: .box g 128 #[.int .i64 p.roles, .pointer la, .slice Cs ns cs, .slice Ar p.rules.length cr, .slice An p.never.length cn, .slice Ag p.goal.length cg, .int .i64 lim, .slice (some ⟨EL, 0, none⟩) (l3).length cl, .map (some b), .slice (some ⟨Ae, 0, none⟩) es.length ce] :: F) 27 #[.slice none 0 0]) (GN 17 18) (⟨none, K8⟩) hRr hRt [.q g 0, .q g 0, .q g 0, .i (.agg #[.int .i64 p.roles, .pointer la, .slice Cs ns cs, .slice Ar p.rules.length cr, .slice An p.never.length cn, .slice Ag p.goal.length cg]), .q g 0, .q g 0, .q g 7, .i (.slice (some ⟨EL, 0, none⟩) l3.length cl), .n ((a + j : Nat) : Int), .q EL (0 + (a + j) * 3), .q EL (0 + (a + j) * 3), .i (.agg #[ca]), .n (k : Nat), .s (fun v w => ∃ u, v = .tuple #[.agg #[u], .bool V.isSome] /\ u.oneCell' = true /\ ∀ D w1, w.2.K D w1 -> A6 w1 D (.agg #[u]) (V.getD 0)) fun v w w' h hb => by obtain ⟨u, e, e2, h⟩ := h; exact ⟨u, e, e2, fun D w1 h1 => h D w1 (hb.2.1 D w1 h1)⟩, .s (fun v w => ∃ u, v = .tuple #[.agg #[u], .bool V.isSome] /\ u.oneCell' = true /\ ∀ D w1, w.2.K D w1 -> A6 w1 D (.agg #[u]) (V.getD 0)) fun v w w' h hb => by obtain ⟨u, e, e2, h⟩ := h; exact ⟨u, e, e2, fun D w1 h1 => h D w1 (hb.2.1 D w1 h1)⟩, .s (fun v w => ∃ u, v = .agg #[u] /\ u.oneCell' = true /\ ∀ D w1, w.2.K D w1 -> A6 w1 D (.agg #[u]) (V.getD 0)) fun v w w' h hb => by obtain ⟨u, e, e2, h⟩ := h; exact ⟨u, e, e2, fun D w1 h1 => h D w1 (hb.2.1 D w1 h1)⟩, .i (.bool V.isSome), .s (fun v w => ∃ g o, v = .pointer (some ⟨g, 0, none⟩) /\ w.2.b = some (g, o)) fun v w w' h hb => hb.var h, .s (fun v w => ∃ g u, w.2.b = some (g, some #[u]) /\ u.oneCell' = true /\ ∀ D w1, w.2.K D w1 -> A6 w1 D (.agg #[u]) (V.getD 0)) fun v w w' h hb => by obtain ⟨g, u, h1, h2, h3⟩ := h; exact ⟨g, u, hb.2.2.2 g _ h1, h2, fun D w1 k => h3 D w1 (hb.2.1 D w1 k)⟩, .i (.bool V.isSome)] ?_ ⟨uM, uN, uF, uD (h := fun w hW hN => rng6 ((hW.1 hJ0).cell 3 rfl 0 rfl) ((hW.1 hJ0).cell 3 rfl 1 rfl) ((hW.1 hJ0).cell 3 rfl 2 rfl) ((hW.1 hJ0).cell 3 rfl 3 rfl) ((hW.1 hJ0).cell 3 rfl 4 rfl) ((hW.1 hJ0).cell 3 rfl 5 rfl)), uM, uN, uF, uC (h := fun w hW hN => (hW.1 hJ0).cell 3 rfl 7 rfl), uM, uI (h := fun w hW hN => Ak (m := a + j) Tryz.underlying125 (by kernel_rfl) (by omega) (by omega)), uF, uD (h := fun w hW hN => Hz (by rw [Nat.zero_add]; exact Bm ((hW.1 hJ0).own 0 rfl) _ _ HC0.out)), uM, ?_, uM, ?_, ?_, ?_, ?_, uA, trivial⟩ ?_
       ·first | assumption | (intro i; (try dsimp only); split <;> first | trivial | assumption | (left; assumption))
       ·refine uG fun b__ w hW hN hE K hK => ?_
        have e55 := hE 55
        have e63 := hE 63
        have e64 := hE 64
        refine Cc rfl (by kernel_rfl) (by simp only [List.map_cons, List.map_nil, e55, e63, e64]) (Ht (k : Nat) HP.out (hW.1 hJ0) (fun D w1 h => HK.out _ _ (k8.out _ _ (hW.2.1 D w1 h)).1) (fun D w1 h => HSI.out _ _ (k8.out _ _ (hW.2.1 D w1 h)).2) (fun D w1 h => HT.out _ _ (k8.out _ _ (hW.2.1 D w1 h)).1)) fun e w' ⟨x, he, hs⟩ => ⟨_, he, ?_⟩
        obtain ⟨u, rfl, h1⟩ := BC hs.ro.2
        exact hK _ (w', { w.2 with K := _ }) ⟨u, by rw [HV.out], h1, fun D w1 h => by rw [<- HV.out]; exact h.2⟩ (GK.more hs fun D w1 h => h.1)
       ·refine uG fun b__ w hW hN hE K hK => ?_
        have e51 := hE 51
        obtain ⟨u, hu, hu1, h1⟩ := e51
        exact CA rfl hu rfl (hK _ _ ⟨u, rfl, hu1, h1⟩ ⟨hRr _, fun _ _ h => h⟩)
       ·refine uG fun b__ w hW hN hE K hK => ?_
        have e51 := hE 51
        obtain ⟨u, hu, hu1, h1⟩ := e51
        exact CA rfl hu rfl (hK _ _ rfl ⟨hRr _, fun _ _ h => h⟩)
       ·refine uG fun b__ w hW hN hE K hK => ?_
        exact Jj rfl (by kernel_rfl) (by kernel_rfl) (hW.1 hJ0) (hN.1 rfl) fun g w' hs => hK _ (w', { w.2 with b := some (g, none) }) ⟨g, none, rfl, rfl⟩ (GK.made (hN.1 rfl) hs)
       ·refine uG fun b__ w hW hN hE K hK => ?_
        have e8 := hE 8
        have e66 := hE 66
        obtain ⟨g, o, hg, hgb⟩ := e8
        obtain ⟨u, hv, hu1, hset⟩ := e66
        obtain rfl : o = none := (by cases o with | none => rfl | some cs => exact absurd hgb (hN.2 rfl g cs))
        exact Ji rfl hg hv (hW.1 hJ0) hgb (by kernel_rfl) rfl (by simpa using hu1) fun w' hs => hK undef (w', { w.2 with b := some (g, some #[u]) }) ⟨g, u, rfl, hu1, hset⟩ (GK.put hgb hs)
       ·intro vs wz hW hT
        obtain ⟨e52, e53, e54, e55, e56, e57, e58, e59, e60, e61, e62, e63, e64, e65, e51, e66, e67, e8, z18, e9, -⟩ := hT
        have bx : (fun _ : Nat => True) 0 := trivial
        simp only [AE, Act.put, zz, ze]
        obtain ⟨_, hst⟩ := z18
        obtain ⟨g8, o8, hg8, hgb⟩ := e8
        obtain ⟨g9, u, hgb2, hu1, hset⟩ := hst
        obtain rfl : g8 = g9 := by rw [hgb] at hgb2; injection hgb2 with h; injection h with h1 h2
        obtain ⟨A8, n8, c8, rfl⟩ := (hset _ _ (hW.1 hJ0).ro).shape
        have hS : St w0 wz.1 (.box g8 27 #[.slice A8 n8 c8] :: .own (.slice (some ⟨EL, 0, none⟩) (l3).length cl) 130 3 (l3).length cells :: .own (.slice (some ⟨Ae, 0, none⟩) es.length ce) 3 1 es.length (BD es) :: .obj b (.map ents clock) :: .box g 128 #[.int .i64 p.roles, .pointer la, .slice Cs ns cs, .slice Ar p.rules.length cr, .slice An p.never.length cn, .slice Ag p.goal.length cg, .int .i64 lim, .slice (some ⟨EL, 0, none⟩) (l3).length cl, .map (some b), .slice (some ⟨Ae, 0, none⟩) es.length ce] :: F) (fun D w => K8 D w /\ A6 w D (.agg #[.slice A8 n8 c8]) (V.getD 0)) := ((hW.1 hJ0).some hgb2).mono (hK8.out.and A5) fun D w h => ⟨hW.2.1 D w h, hset D w h⟩
        clear hW hJ0 hRr hRt hN0 hgb hgb2 hset hu1 e51 e52 e53 e54 e55 e56 e57 e58 e59 e60 e61 e62 e63 e64 e65 e66 e67
        generalize wz.1 = wf at *
        generalize vs 51 = s51, vs 52 = s52, vs 53 = s53, vs 54 = s54, vs 55 = s55, vs 56 = s56, vs 57 = s57, vs 58 = s58, vs 59 = s59, vs 60 = s60, vs 61 = s61, vs 62 = s62, vs 63 = s63, vs 64 = s64, vs 65 = s65, vs 66 = s66, vs 67 = s67
        simp only [show vs (8 : Nat) = _ from hg8]
        rw [e9]
        clear e9
        have hSr : Hid (¬ V.isSome = true -> ER w0 wf g #[.int .i64 p.roles, .pointer la, .slice Cs ns cs, .slice Ar p.rules.length cr, .slice An p.never.length cn, .slice Ag p.goal.length cg] lim l3 es F K) := Lib.hid fun _ => ⟨_, _, _, _, _, _, _, hm.out, hn.out, (hS.sub (List.sublist_cons_self _ _)).mono (KS.out.and Bu) fun D w h => k8.out D w h.1⟩
        cases V with
        | none =>
         have HAE2 : Hid (addR p l3 (a + j) k = l3) := Lib.hid (by rcases HAD.out with ⟨h, _⟩ | ⟨t, h, _⟩; exact h; cases h)
         simp only [Option.isSome_none, Option.getD_none]
         go_wp2_with fail
         refine Ci [.b false, .b true, .b true, .t, .t, .t, .t, .t, .t, .t, .t, .b true] ⟨uM, uU, uM, uW, uW, uW, uW, uW, uW, uW, uW, uP, trivial⟩ ?_
         ·intro vs wz hW hT
          obtain ⟨e68, e69, e70, e79, -⟩ := hT
          simp only [AE, Act.put, zz, ze]
          rw [e79]
          replace hS := hS.ext hW
          clear e68 e69 e70 e79
          go_wp2_with fail
          refine ⟨⟨k + 1, by go_num, hkr, ?_, ?_⟩, by simp [intOf]; omega⟩
          ·rw [HRS.out, HAE2.out]; exact HLM
          ·rw [HRS.out, HAE2.out]
           exact Lib.hid ⟨_, _, _, _, _, _, _, hm.out, hn.out, (hS.sub (List.sublist_cons_self _ _)).mono (KS.out.and Bu) fun D w h => k8.out D w h.1⟩
        | some t =>
         have HSB : Hid ((B0 t).length <= 512) := Lib.hid (Gt hS.ro.2.bound)
         simp only [Option.isSome_some, Option.getD_some] at hS ⊢
         obtain ⟨sb, hsb⟩ : ∃ sb, decide (t ∈ l3.map (·.1)) = sb := ⟨_, rfl⟩
         have HSN := Lib.hid hsb
         clear hsb
         go_wp2_with fail
         refine Ci [.b true, .b false, .b false, .q g 0, .q g 0, .q g 8, .i (.map (some b)), .i (.agg #[.slice A8 n8 c8]), .s (fun v w => Sl w (fun _ => True) 1 v (B0 t).length (G1 (B0 t))) fun v w w' h hb => h.ext hb, .i (.string (G2 t)), .i (.bool sb), .i (.bool sb)] ⟨uM, uU, uM, uM, uN, uF, uC (h := fun w hW hN => (hS.ext hW).shut 4 rfl 8 rfl), uR (h := fun w hW hN => (hS.ext hW).box 0 rfl), ?_, ?_, ?_, uP, trivial⟩ ?_
         ·refine uT fun b__ w hW hE K hK => ?_
          have e75 := hE 75
          exact AC rfl (by kernel_rfl) (by simp only [List.map_cons, List.map_nil, e75]) (Eb _ t _ _ (hS.ext hW).ro.2) fun v w' h hb => hK v w' (h.imp fun _ _ _ => trivial) hb
         ·refine uT fun b__ w hW hE K hK => ?_
          have e76 := hE 76
          exact GP rfl rfl (IQ e76) (hK _ _ rfl (Below.refl _ _))
         ·refine uT fun b__ w hW hE K hK => ?_
          have e74 := hE 74
          have e77 := hE 77
          exact opw_lookup rfl e74 e77 (by rw [<- HSN.out]; exact run_seen hm.out ((hS.ext hW).holds _ (List.mem_of_getElem? (i := 3) rfl)).2 HSB.out) (hK _ _ rfl (Below.refl _ _))
         ·intro vs wz hW hT
          obtain ⟨e68, e69, e70, e71, e72, e73, e74, e75, e76, e77, e78, e79, -⟩ := hT
          have bx : (fun _ : Nat => True) 0 := trivial
          simp only [AE, Act.put, zz, ze]
          rw [e79]
          replace hS := hS.ext hW
          clear e68 e69 e70 e71 e72 e73 e74 e75 e76 e77 e78 e79 hW
          cases sb
          ·have HTN : Hid (¬ t ∈ l3.map (·.1)) := Lib.hid (of_decide_eq_false HSN.out)
           have HAE2 : Hid (addR p l3 (a + j) k = l3 ++ [(t, ((a + j : Nat) : Int), (k : Int))]) := Lib.hid (by
            rcases HAD.out with ⟨_, h⟩ | ⟨t', h, _, h2⟩
            ·exact absurd (h t rfl) HTN.out
            ·obtain rfl := Option.some.inj h; exact h2)
           rw [HAE2.out] at HRS
           go_wp2_with fail
           refine Ge 7 [] [.q g 0, .q g 0, .q g 8, .i (.map (some b)), .i (.agg #[.slice A8 n8 c8]), .s (fun v w => Sl w (fun _ => True) 1 v (B0 t).length (G1 (B0 t))) fun v w w' h hb => h.ext hb, .i (.string (G2 t)), .t] ⟨uM, uN, uF, uC (h := fun w hW hN => (hS.ext hW).shut 4 rfl 8 rfl), uR (h := fun w hW hN => (hS.ext hW).box 0 rfl), ?_, ?_, trivial⟩ ?_
           ·refine uT fun b__ w hW hE K hK => ?_
            have e84 := hE 84
            exact AC rfl (by kernel_rfl) (by simp only [List.map_cons, List.map_nil, e84]) (Eb _ t _ _ (hS.ext hW).ro.2) fun v w' h hb => hK v w' (h.imp fun _ _ _ => trivial) hb
           ·refine uT fun b__ w hW hE K hK => ?_
            have e85 := hE 85
            exact GP rfl rfl (IQ e85) (hK _ _ rfl (Below.refl _ _))
           ·intro vs wz hW hT
            obtain ⟨e80, e81, e82, e83, e84, e85, e86, -⟩ := hT
            have bx : (fun _ : Nat => True) 0 := trivial
            simp only [AE, Act.put, zz, ze]
            have hS1 := hS.ext hW
            have hn2 := hn.out
            obtain ⟨wn, es2, ck2, hrun, hm2, hS2, -, -⟩ := hS1.enter 3 rfl hm.out HSB.out (by omega)
            (intro o_ ho_; simp only [List.getElem?_toArray, List.getElem?_cons_succ, List.getElem?_cons_zero, Option.some.injEq] at ho_; subst ho_)
            refine opw_insert rfl e83 e86 rfl hrun ?_
            simp only [Ca]
            simp only [Act.put, List.setIfInBounds_toArray, List.set_cons_zero, List.set_cons_succ]
            clear hS hS1 hW e80 e81 e82 e83 e84 e85 e86 hrun
            have hS := hS2
            clear hS2 hSr hm
            have hm := Lib.hid hm2
            clear hm2
            simp only [List.set_cons_zero, List.set_cons_succ] at hS
            go_wp2_with fail
            have hSd := hS.drew
            clear hS
            refine wp_zS [9, 10, 13] [some (.pointer (some ⟨g, 0, none⟩)), some (.pointer (some ⟨g, 0, none⟩)), some (.pointer (some ⟨g, 0, none⟩)), some (.pointer (some ⟨g, 7, none⟩)), some (.slice (some ⟨EL, 0, none⟩) l3.length cl), some (.agg #[.slice A8 n8 c8]), some (.int .i64 ((a + j : Nat) : Int)), some (.int .i64 (k : Nat)), some (.agg #[.slice A8 n8 c8, .int .i64 ((a + j : Nat) : Int), .int .i64 (k : Nat)]), none, none, some (.pointer (some ⟨g, 0, none⟩)), some (.pointer (some ⟨g, 7, none⟩)), none] (fun vs w => match vs with | [] => St w0 w (.box g8 27 #[.slice A8 n8 c8] :: .own (.slice (some ⟨EL, 0, none⟩) l3.length cl) 130 3 l3.length cells :: .own (.slice (some ⟨Ae, 0, none⟩) es.length ce) 3 1 es.length (BD es) :: .obj b (.map es2 ck2) :: .box g 128 #[.int .i64 p.roles, .pointer la, .slice Cs ns cs, .slice Ar p.rules.length cr, .slice An p.never.length cn, .slice Ag p.goal.length cg, .int .i64 lim, .slice (some ⟨EL, 0, none⟩) l3.length cl, .map (some b), .slice (some ⟨Ae, 0, none⟩) es.length ce] :: F) (fun D w => K8 D w /\ A6 w D (.agg #[.slice A8 n8 c8]) t) | [u] => St w0 w (.box g8 27 #[.slice A8 n8 c8] :: .own (.slice (some ⟨EL, 0, none⟩) l3.length cl) 130 3 l3.length cells :: .own (.slice (some ⟨Ae, 0, none⟩) es.length ce) 3 1 es.length (BD es) :: .obj b (.map es2 ck2) :: .box g 128 #[.int .i64 p.roles, .pointer la, .slice Cs ns cs, .slice Ar p.rules.length cr, .slice An p.never.length cn, .slice Ag p.goal.length cg, .int .i64 lim, .slice (some ⟨EL, 0, none⟩) l3.length cl, .map (some b), .slice (some ⟨Ae, 0, none⟩) es.length ce] :: F) (fun D w => (fun D w => K8 D w /\ A6 w D (.agg #[.slice A8 n8 c8]) t) D w /\ Sl w D 3 u 1 [Value.slice A8 n8 c8, Value.int .i64 ((a + j : Nat) : Int), Value.int .i64 (k : Nat)]) | [_, p'] => St w0 w (.box g8 27 #[.slice A8 n8 c8] :: .own p' 130 3 (l3.length + 1) (cells ++ [Value.slice A8 n8 c8, Value.int .i64 ((a + j : Nat) : Int), Value.int .i64 (k : Nat)]) :: .own (.slice (some ⟨Ae, 0, none⟩) es.length ce) 3 1 es.length (BD es) :: .obj b (.map es2 ck2) :: .box g 128 #[.int .i64 p.roles, .pointer la, .slice Cs ns cs, .slice Ar p.rules.length cr, .slice An p.never.length cn, .slice Ag p.goal.length cg, .int .i64 lim, .slice (some ⟨EL, 0, none⟩) l3.length cl, .map (some b), .slice (some ⟨Ae, 0, none⟩) es.length ce] :: F) (fun D w => K8 D w /\ A6 w D (.agg #[.slice A8 n8 c8]) t) | [_, p', _] => St w0 w (.box g8 27 #[.slice A8 n8 c8] :: .own p' 130 3 (l3.length + 1) (cells ++ [Value.slice A8 n8 c8, Value.int .i64 ((a + j : Nat) : Int), Value.int .i64 (k : Nat)]) :: .own (.slice (some ⟨Ae, 0, none⟩) es.length ce) 3 1 es.length (BD es) :: .obj b (.map es2 ck2) :: .box g 128 #[.int .i64 p.roles, .pointer la, .slice Cs ns cs, .slice Ar p.rules.length cr, .slice An p.never.length cn, .slice Ag p.goal.length cg, .int .i64 lim, p', .map (some b), .slice (some ⟨Ae, 0, none⟩) es.length ce] :: F) (fun D w => K8 D w /\ A6 w D (.agg #[.slice A8 n8 c8]) t) | _ => False) ?_ ⟨vM, vM, vN, vF, ?_, ?_, vM, vM, ?_, ?_, ?_, vN, vF, ?_, trivial⟩ ?_
            ·first | assumption | (dsimp only; assumption)
            ·refine vR 0 1 fun b__ w vs hS h1 h2 hE K hK => ?_
             rcases vs with _ | ⟨x0, _ | ⟨x1, vs⟩⟩ <;> first | (exfalso; first | exact hS | (revert h1 h2; simp <;> omega); done) | ((have e90 := hE 90); (exact At rfl e90 (by kernel_rfl) (hS.shut 4 rfl 7 rfl) (hK _ rfl)))
            ·refine vR 0 0 fun b__ w vs hS h1 h2 hE K hK => ?_
             rcases vs with _ | ⟨x0, vs⟩ <;> first | (exfalso; first | exact hS | (revert h1 h2; simp <;> omega); done) | ((have e8 : b__.eval (.tmp 8) = .pointer (some ⟨g8, 0, none⟩) := hE 8); (exact AQ rfl e8 (hS.box 0 rfl) Tryz.underlying27 rfl (by kernel_rfl) (hK _ rfl)))
            ·refine vR 0 0 fun b__ w vs hS h1 h2 hE K hK => ?_
             rcases vs with _ | ⟨x0, vs⟩ <;> first | (exfalso; first | exact hS | (revert h1 h2; simp <;> omega); done) | ((have e92 := hE 92); (have e93 := hE 93); (have e94 := hE 94); (exact CJ rfl (ps := [(0, .agg #[.slice A8 n8 c8]), (1, .int .i64 ((a + j : Nat) : Int)), (2, .int .i64 (k : Nat))]) (by simp [e92, e93, e94]) (cells := #[.slice A8 n8 c8, .int .i64 ((a + j : Nat) : Int), .int .i64 (k : Nat)]) (by kernel_rfl) (hK _ rfl)))
            ·refine vX 0 fun b__ w vs hS hl hE K hK => ?_
             obtain rfl := Gi hl
             have e95 := hE 95
             refine Bj rfl Tryz.underlying125 (ps := [(0, .agg #[.slice A8 n8 c8, .int .i64 ((a + j : Nat) : Int), .int .i64 (k : Nat)])]) (by simp [e95]) (cells := #[.slice A8 n8 c8, .int .i64 ((a + j : Nat) : Int), .int .i64 (k : Nat)]) (by kernel_rfl) fun w' hX hb => hK _ w' (hS.ret hb (Az (by decide)) ((Sl.of_box (n := 1) (size := 3) hX rfl (by omega)).imp fun z hz _ => Nat.le_of_eq hz.symm))
            ·refine vX 1 fun b__ w vs hS hl hE K hK => ?_
             obtain ⟨x0, rfl⟩ := Fu hl
             have e91 := hE 91
             have e96 := hE 96
             refine Du rfl ty_reached e91 (hS.own 1 rfl) e96 hS.ro.2 (by intro u hu; simp at hu; rcases hu with rfl | rfl | rfl <;> rfl) (by omega) (by omega) hS.size ?_
             intro v' w' ho hg hat
             exact hK v' w' ((hS.upd 1 rfl (.own v' 130 3 (l3.length + 1) (cells ++ [Value.slice A8 n8 c8, Value.int .i64 ((a + j : Nat) : Int), Value.int .i64 (k : Nat)])) hg ho hat).mono (hK8.out.and A5) fun D w h => h.1)
            ·refine vX 2 fun b__ w vs hS hl hE K hK => ?_
             obtain ⟨x0, x1, rfl⟩ := Ft hl
             have e99 := hE 99
             have e97 := hE 97
             refine CB rfl e99 e97 (hS.box 4 rfl) (by simp) (Em (hS.own 1 rfl)) (GI (hS.own 1 rfl)) (by kernel_rfl) ?_
             intro w' hbx hup
             exact hK _ w' (hS.upd 4 rfl (.box g 128 #[.int .i64 p.roles, .pointer la, .slice Cs ns cs, .slice Ar p.rules.length cr, .slice An p.never.length cn, .slice Ag p.goal.length cg, .int .i64 lim, x1, .map (some b), .slice (some ⟨Ae, 0, none⟩) es.length ce]) (Bg hup) ⟨(hS.holds _ (List.mem_of_getElem? (i := 4) rfl)).1, hbx⟩ fun _ e => .inl e)
            ·intro us wz vs hS hl hT
             obtain ⟨x0, x1, x2, rfl⟩ := Fr hl
             obtain ⟨e87, e88, e89, e90, e91, e92, e93, e94, e95, e96, e97, e98, e99, -⟩ := hT
             clear hl
             simp only [AE, Act.put, zz, ze]
             have hS1 : St w0 wz (.box g8 27 #[.slice A8 n8 c8] :: .own x1 130 3 (l3.length + 1) (cells ++ [Value.slice A8 n8 c8, Value.int .i64 ((a + j : Nat) : Int), Value.int .i64 (k : Nat)]) :: .own (.slice (some ⟨Ae, 0, none⟩) es.length ce) 3 1 es.length (BD es) :: .obj b (.map es2 ck2) :: .box g 128 #[.int .i64 p.roles, .pointer la, .slice Cs ns cs, .slice Ar p.rules.length cr, .slice An p.never.length cn, .slice Ag p.goal.length cg, .int .i64 lim, x1, .map (some b), .slice (some ⟨Ae, 0, none⟩) es.length ce] :: F) (fun D w => K8 D w /\ A6 w D (.agg #[.slice A8 n8 c8]) t) := hS
             clear hS
             obtain ⟨A80, c80, rfl, _, _⟩ := BI (hS1.own 1 rfl) (by omega)
             generalize us 87 = s87, us 88 = s88, us 89 = s89, us 90 = s90, us 91 = s91, us 92 = s92, us 93 = s93, us 94 = s94, us 95 = s95, us 96 = s96, us 98 = s98, us 99 = s99
             have HCL : Hid (cells.length = l3.length * 3) := Lib.hid HCL0.out
             have hS := hS1.mono (KS.out.and Bu) fun D w h => ⟨(k8.out _ _ h.1).1, BL.append HCL.out (k8.out _ _ h.1).2 (BL.single (z := (t, ((a + j : Nat) : Int), (k : Int))) h.2)⟩
             clear hS1
             obtain ⟨ov, hov⟩ : ∃ ov, decide (((l3.length + 1 : Nat) : Int) > lim) = ov := ⟨_, rfl⟩
             have HOV := Lib.hid hov
             clear hov
             go_wp2_with fail
             refine Ci [.q g 0, .q g 0, .q g 7, .i (.slice (some ⟨A80, 0, none⟩) (l3.length + 1) c80), .n ((l3.length + 1 : Nat) : Int), .q g 0, .q g 0, .q g 6, .n lim, .i (.bool ov)] ⟨uM, uN, uF, uC (h := fun w hW hN => (hS.ext hW).shut 4 rfl 7 rfl), ?_, uM, uN, uF, uC (h := fun w hW hN => (hS.ext hW).shut 4 rfl 6 rfl), uB (h := fun w hW hN => run_gtB HOV.out), trivial⟩ ?_
             ·refine uT fun b__ w hW hE K hK => ?_
              have e103 := hE 103
              exact DL rfl e103 Tryz.underlying125 (hK _ _ rfl (Below.refl _ _))
             ·intro vs wz hW hT
              obtain ⟨e100, e101, e102, e103, e104, e105, e106, e107, e108, e109, -⟩ := hT
              simp only [AE, Act.put, zz, ze]
              rw [e109]
              replace hS := hS.ext hW
              clear hW e100 e101 e102 e103 e104 e105 e106 e107 e108 e109
              cases ov
              ·go_wp2_with fail
               have hnl := of_decide_eq_false HOV.out
               refine ⟨⟨k + 1, by go_num, hkr, ?_, ?_⟩, by simp [intOf]; omega⟩
               ·rw [HRS.out]; exact Lib.hid (by rw [List.length_append, List.length_singleton]; omega)
               ·rw [HRS.out]
                refine Lib.hid ?_
                refine ⟨.slice (some ⟨A80, 0, none⟩) (l3.length + 1) c80, .slice (some ⟨Ae, 0, none⟩) es.length ce, cells ++ [.slice A8 n8 c8, .int .i64 ((a + j : Nat) : Int), .int .i64 (k : Nat)], b, ck2, n + 1, es2, by rw [List.map_append]; exact hm.out, by rw [List.length_append, List.length_singleton]; omega, ?_⟩
                rw [HSC.out, List.length_append, List.length_singleton]
                exact hS.sub (List.sublist_cons_self _ _)
              ·go_wp2_with fail
               go_ret2
               have hnl := of_decide_eq_true HOV.out
               refine .inr ⟨?_, rfl, (hS.sub (((((List.sublist_cons_self _ _).trans (List.sublist_cons_self _ _)).trans (List.sublist_cons_self _ _)).trans (List.sublist_cons_self _ _)).trans (List.sublist_cons_self _ _))).mono KS.out fun D w h => h.1⟩
               have h1 := HRM.out.length_le
               rw [HRS.out, List.length_append, List.length_singleton, <- HLV.out] at h1
               have h2 := HMN.out.length_le
               omega
          ·have HAE2 : Hid (addR p l3 (a + j) k = l3) := Lib.hid (by
            rcases HAD.out with ⟨h, _⟩ | ⟨t', h, h2, _⟩
            ·exact h
            ·obtain rfl := Option.some.inj h; exact absurd (of_decide_eq_true HSN.out) h2)
           go_wp2_with fail
           refine ⟨⟨k + 1, by go_num, hkr, ?_, ?_⟩, by simp [intOf]; omega⟩
           ·rw [HRS.out, HAE2.out]; exact HLM
           ·rw [HRS.out, HAE2.out]
            exact Lib.hid ⟨_, _, _, _, _, _, _, hm.out, hn.out, (hS.sub (List.sublist_cons_self _ _)).mono (KS.out.and Bu) fun D w h => k8.out D w h.1⟩
      ·obtain rfl : k = p.rules.length := by omega
       have hS0 := HS.out
       clear HS
       go_wp2_with (first | ((with_reducible refine qB ?_); refine qc ?_ ?_ <;> intro h_ <;> go_prune))
       refine ⟨⟨j + 1, by go_num, by omega, ?_, ?_⟩, by simp [intOf]; omega⟩
       ·rw [HLV.out]; exact HLM
       ·rw [HLV.out]; exact Lib.hid hS0
   ·have hje : a + j = l.length := by omega
    obtain rfl : j = l.length - a := by omega
    have HD : Hid (decide (((a + (l.length - a) : Nat) : Int) < ((l.length : Nat) : Int)) = false) := Lib.hid (decide_eq_false (by omega))
    obtain ⟨l2, hl2⟩ : ∃ l2, lvlR p l a (l.length - a) = l2 := ⟨_, rfl⟩
    rw [hl2] at HLN HS hwl hpl
    have HL2 := Lib.hid hl2
    clear hl2
    have HWL := Lib.hid hwl
    clear hwl
    have hS0 := HS.out
    clear HS
    have hln2 := HLN.out
    obtain ⟨lv, ev, cells, b, clock, n, ents, hm, hn, hS⟩ := hS0; obtain ⟨EL, cl, rfl, hcl, _⟩ := BI (hS.own 0 rfl) (by omega); obtain ⟨Ae, ce, rfl, _, _⟩ := BI (hS.own 1 rfl) HE0.out; have HCL0 := Lib.hid (hS.own 0 rfl).1; rw [HSC.out] at hS; replace hm := Lib.hid hm; replace hn := Lib.hid hn
    go_wp2_with fail
    refine Ci [.n ((a + (l.length - a) : Nat) : Int), .q g 0, .q g 0, .q g 9, .i (.slice (some ⟨Ae, 0, none⟩) es.length ce), .q g 0, .q g 0, .q g 9, .i (.slice (some ⟨Ae, 0, none⟩) es.length ce), .n (es.length : Nat), .n ((es.length - 1 : Nat) : Int), .q Ae (0 + (es.length - 1) * 1), .n (l.length : Nat), .b false] ⟨uM, uM, uN, uF, uC (h := fun w hW hN => (hS.ext hW).shut 3 rfl 9 rfl), uM, uN, uF, uC (h := fun w hW hN => (hS.ext hW).shut 3 rfl 9 rfl), ?_, uB (h := fun w hW hN => by rw [CY (by omega) (by omega), HLE1.out]), uI (h := fun w hW hN => Ak (m := es.length - 1) Tryz.underlying45 (by kernel_rfl) (by omega) (by omega)), uC (h := fun w hW hN => by rw [Nat.mul_one, Nat.zero_add]; exact Bm ((hS.ext hW).own 1 rfl) _ _ HEE.out), uB (h := fun w hW hN => run_ltB HD.out), trivial⟩ ?_
    ·refine uT fun b__ w hW hE K hK => ?_
     have e34 := hE 34
     exact DL rfl e34 Tryz.underlying45 (hK _ _ rfl (Below.refl _ _))
    ·intro vs wz hW hT
     obtain ⟨e26, e27, e28, e29, e30, e31, e32, e33, e34, e35, e36, e37, e38, e39, -⟩ := hT
     simp only [AE, Act.put, zz, ze]
     rw [e39]
     clear e26 e27 e28 e29 e30 e31 e32 e33 e34 e35 e36 e37 e38 e39
     replace hS := hS.ext hW
     clear hW
     obtain ⟨eq, heq⟩ : ∃ eq, decide (((l2.length : Nat) : Int) = ((l.length : Nat) : Int)) = eq := ⟨_, rfl⟩
     have HQ := Lib.hid heq
     clear heq
     go_wp2_with fail
     refine Ci [.q g 0, .q g 0, .q g 7, .i (.slice (some ⟨EL, 0, none⟩) l2.length cl), .n (l2.length : Nat), .q g 0, .q g 0, .q g 9, .i (.slice (some ⟨Ae, 0, none⟩) es.length ce), .q g 0, .q g 0, .q g 9, .i (.slice (some ⟨Ae, 0, none⟩) es.length ce), .n (es.length : Nat), .n ((es.length - 1 : Nat) : Int), .q Ae (0 + (es.length - 1) * 1), .n (l.length : Nat), .i (.bool eq)] ⟨uM, uN, uF, uC (h := fun w hW hN => (hS.ext hW).shut 3 rfl 7 rfl), ?_, uM, uN, uF, uC (h := fun w hW hN => (hS.ext hW).shut 3 rfl 9 rfl), uM, uN, uF, uC (h := fun w hW hN => (hS.ext hW).shut 3 rfl 9 rfl), ?_, uB (h := fun w hW hN => by rw [CY (by omega) (by omega), HLE1.out]), uI (h := fun w hW hN => Ak (m := es.length - 1) Tryz.underlying45 (by kernel_rfl) (by omega) (by omega)), uC (h := fun w hW hN => by rw [Nat.mul_one, Nat.zero_add]; exact Bm ((hS.ext hW).own 1 rfl) _ _ HEE.out), uB (h := fun w hW hN => Iv HQ.out), trivial⟩ ?_
     ·refine uT fun b__ w hW hE K hK => ?_
      have e114 := hE 114
      exact DL rfl e114 Tryz.underlying125 (hK _ _ rfl (Below.refl _ _))
     ·refine uT fun b__ w hW hE K hK => ?_
      have e123 := hE 123
      exact DL rfl e123 Tryz.underlying45 (hK _ _ rfl (Below.refl _ _))
     ·intro vs wz hW hT
      obtain ⟨e111, e112, e113, e114, e115, e116, e117, e118, e119, e120, e121, e122, e123, e124, e125, e126, e127, e128, -⟩ := hT
      simp only [AE, Act.put, zz, ze]
      rw [e128]
      clear e111 e112 e113 e114 e115 e116 e117 e118 e119 e120 e121 e122 e123 e124 e125 e126 e127 e128
      replace hS := hS.ext hW
      clear hW
      cases eq
      ·have hlt : l.length < l2.length := by have := of_decide_eq_false HQ.out; omega
       go_wp2_with fail
       have hSd := hS.drew
       clear hS
       refine wp_zS [10, 11, 14] [some (.pointer (some ⟨g, 0, none⟩)), some (.pointer (some ⟨g, 0, none⟩)), some (.pointer (some ⟨g, 0, none⟩)), some (.pointer (some ⟨g, 9, none⟩)), some (.slice (some ⟨Ae, 0, none⟩) es.length ce), some (.pointer (some ⟨g, 0, none⟩)), some (.pointer (some ⟨g, 0, none⟩)), some (.pointer (some ⟨g, 7, none⟩)), some (.slice (some ⟨EL, 0, none⟩) l2.length cl), some (.int .i64 (l2.length : Nat)), none, none, some (.pointer (some ⟨g, 0, none⟩)), some (.pointer (some ⟨g, 9, none⟩)), none] (fun vs w => match vs with | [] => St w0 w (.own (.slice (some ⟨EL, 0, none⟩) l2.length cl) 130 3 l2.length cells :: .own (.slice (some ⟨Ae, 0, none⟩) es.length ce) 3 1 es.length (BD es) :: .obj b (.map ents clock) :: .box g 128 #[.int .i64 p.roles, .pointer la, .slice Cs ns cs, .slice Ar p.rules.length cr, .slice An p.never.length cn, .slice Ag p.goal.length cg, .int .i64 lim, .slice (some ⟨EL, 0, none⟩) l2.length cl, .map (some b), .slice (some ⟨Ae, 0, none⟩) es.length ce] :: F) (fun D w => K D w /\ BL w D cells l2) | [u] => St w0 w (.own (.slice (some ⟨EL, 0, none⟩) l2.length cl) 130 3 l2.length cells :: .own (.slice (some ⟨Ae, 0, none⟩) es.length ce) 3 1 es.length (BD es) :: .obj b (.map ents clock) :: .box g 128 #[.int .i64 p.roles, .pointer la, .slice Cs ns cs, .slice Ar p.rules.length cr, .slice An p.never.length cn, .slice Ag p.goal.length cg, .int .i64 lim, .slice (some ⟨EL, 0, none⟩) l2.length cl, .map (some b), .slice (some ⟨Ae, 0, none⟩) es.length ce] :: F) (fun D w => (fun D w => K D w /\ BL w D cells l2) D w /\ Sl w D 1 u 1 [Value.int .i64 (l2.length : Nat)]) | [_, p'] => St w0 w (.own (.slice (some ⟨EL, 0, none⟩) l2.length cl) 130 3 l2.length cells :: .own p' 3 1 (es.length + 1) (BD es ++ [Value.int .i64 (l2.length : Nat)]) :: .obj b (.map ents clock) :: .box g 128 #[.int .i64 p.roles, .pointer la, .slice Cs ns cs, .slice Ar p.rules.length cr, .slice An p.never.length cn, .slice Ag p.goal.length cg, .int .i64 lim, .slice (some ⟨EL, 0, none⟩) l2.length cl, .map (some b), .slice (some ⟨Ae, 0, none⟩) es.length ce] :: F) (fun D w => K D w /\ BL w D cells l2) | [_, p', _] => St w0 w (.own (.slice (some ⟨EL, 0, none⟩) l2.length cl) 130 3 l2.length cells :: .own p' 3 1 (es.length + 1) (BD es ++ [Value.int .i64 (l2.length : Nat)]) :: .obj b (.map ents clock) :: .box g 128 #[.int .i64 p.roles, .pointer la, .slice Cs ns cs, .slice Ar p.rules.length cr, .slice An p.never.length cn, .slice Ag p.goal.length cg, .int .i64 lim, .slice (some ⟨EL, 0, none⟩) l2.length cl, .map (some b), p'] :: F) (fun D w => K D w /\ BL w D cells l2) | _ => False) ?_ ⟨vM, vM, vN, vF, ?_, vM, vN, vF, ?_, ?_, ?_, ?_, vN, vF, ?_, trivial⟩ ?_
       ·first | assumption | (dsimp only; assumption)
       ·refine vR 0 1 fun b__ w vs hS h1 h2 hE K hK => ?_
        rcases vs with _ | ⟨x0, _ | ⟨x1, vs⟩⟩ <;> first | (exfalso; first | exact hS | (revert h1 h2; simp <;> omega); done) | ((have e132 := hE 132); (exact At rfl e132 (by kernel_rfl) (hS.shut 3 rfl 9 rfl) (hK _ rfl)))
       ·refine vR 0 0 fun b__ w vs hS h1 h2 hE K hK => ?_
        rcases vs with _ | ⟨x0, vs⟩ <;> first | (exfalso; first | exact hS | (revert h1 h2; simp <;> omega); done) | ((have e136 := hE 136); (exact At rfl e136 (by kernel_rfl) (hS.shut 3 rfl 7 rfl) (hK _ rfl)))
       ·refine vR 0 0 fun b__ w vs hS h1 h2 hE K hK => ?_
        rcases vs with _ | ⟨x0, vs⟩ <;> first | (exfalso; first | exact hS | (revert h1 h2; simp <;> omega); done) | ((have e137 := hE 137); (exact DL rfl e137 Tryz.underlying125 (hK _ rfl)))
       ·refine vX 0 fun b__ w vs hS hl hE K hK => ?_
        obtain rfl := Gi hl
        have e138 := hE 138
        refine Bj rfl Tryz.underlying45 (ps := [(0, .int .i64 (l2.length : Nat))]) (by simp [e138]) (cells := #[.int .i64 (l2.length : Nat)]) (by kernel_rfl) fun w' hX hb => hK _ w' (hS.ret hb (Az (by decide)) ((Sl.of_box (n := 1) (size := 1) hX rfl (by omega)).imp fun z hz _ => Nat.le_of_eq hz.symm))
       ·refine vX 1 fun b__ w vs hS hl hE K hK => ?_
        obtain ⟨x0, rfl⟩ := Fu hl
        have e133 := hE 133
        have e139 := hE 139
        refine Du rfl Ex e133 (hS.own 1 rfl) e139 hS.ro.2 (by intro u hu; simp at hu; subst hu; rfl) (by omega) (by omega) hS.size ?_
        intro v' w' ho hg hat
        exact hK v' w' ((hS.upd 1 rfl (.own v' 3 1 (es.length + 1) (BD es ++ [Value.int .i64 (l2.length : Nat)])) hg ho hat).mono (KS.out.and Bu) fun D w h => h.1)
       ·refine vX 2 fun b__ w vs hS hl hE K hK => ?_
        obtain ⟨x0, x1, rfl⟩ := Ft hl
        have e142 := hE 142
        have e140 := hE 140
        refine CB rfl e142 e140 (hS.box 3 rfl) (by simp) (Em (hS.own 1 rfl)) (GI (hS.own 1 rfl)) (by kernel_rfl) ?_
        intro w' hbx hup
        exact hK _ w' (hS.upd 3 rfl (.box g 128 #[.int .i64 p.roles, .pointer la, .slice Cs ns cs, .slice Ar p.rules.length cr, .slice An p.never.length cn, .slice Ag p.goal.length cg, .int .i64 lim, .slice (some ⟨EL, 0, none⟩) l2.length cl, .map (some b), x1]) (Bg hup) ⟨(hS.holds _ (List.mem_of_getElem? (i := 3) rfl)).1, hbx⟩ fun _ e => .inl e)
       ·intro us wz vs hS hl hT
        obtain ⟨x0, x1, x2, rfl⟩ := Fr hl
        obtain ⟨e129, e130, e131, e132, e133, e134, e135, e136, e137, e138, e139, e140, e141, e142, -⟩ := hT
        clear hl
        simp only [AE, Act.put, zz, ze]
        have hS1 : St w0 wz (.own (.slice (some ⟨EL, 0, none⟩) l2.length cl) 130 3 l2.length cells :: .own x1 3 1 (es.length + 1) (BD es ++ [Value.int .i64 (l2.length : Nat)]) :: .obj b (.map ents clock) :: .box g 128 #[.int .i64 p.roles, .pointer la, .slice Cs ns cs, .slice Ar p.rules.length cr, .slice An p.never.length cn, .slice Ag p.goal.length cg, .int .i64 lim, .slice (some ⟨EL, 0, none⟩) l2.length cl, .map (some b), x1] :: F) (fun D w => K D w /\ BL w D cells l2) := hS
        clear hS
        obtain ⟨A80, c80, rfl, _, _⟩ := BI (hS1.own 1 rfl) (by omega)
        go_wp2_with fail
        go_ret2
        rw [DeepR, HL2.out]
        refine .inl ⟨HLN.out, by rw [decide_eq_true hlt]; rfl, ?_⟩
        rw [if_pos hlt]
        refine ⟨.slice (some ⟨EL, 0, none⟩) l2.length cl, .slice (some ⟨A80, 0, none⟩) (es.length + 1) c80, cells, b, clock, n, ents, hm.out, hn.out, ?_⟩
        rw [HSC.out, show (es ++ [l2.length]).length = es.length + 1 by simp, show BD (es ++ [l2.length]) = BD es ++ [.int .i64 (l2.length : Nat)] by simp [BD]]
        exact hS1
      ·have hnl : ¬ l.length < l2.length := by have := of_decide_eq_true HQ.out; omega
       go_wp2_with fail
       go_ret2
       rw [DeepR, HL2.out]
       refine .inl ⟨HLN.out, by rw [decide_eq_false hnl]; rfl, ?_⟩
       rw [if_neg hnl]
       exact ⟨.slice (some ⟨EL, 0, none⟩) l2.length cl, .slice (some ⟨Ae, 0, none⟩) es.length ce, cells, b, clock, n, ents, hm.out, hn.out, by rw [HSC.out]; exact hS⟩
end
section
open Go.RowKit
attribute [local go_sem ↓] Go.wp_at_zero Go.wp_at_succ
set_option maxRecDepth 20000
set_option exponentiation.threshold 5000
theorem Jm (p : Af) (d : Nat) : (endsN p d).length = d + 1 := by simp [endsN]
theorem ends_at (p : Af) {d e : Nat} (h : e <= d) : (endsN p d)[e]? = some (srchN p e).1.length := by
 unfold endsN; rw [List.getElem?_map, List.getElem?_range (by omega)]; rfl
theorem ends_succ (p : Af) (d : Nat) : endsN p (d + 1) = endsN p d ++ [(srchN p (d + 1)).1.length] := by
 unfold endsN; rw [List.range_succ, List.map_append]; rfl
theorem ends_last (p : Af) (d : Nat) : (endsN p d)[(endsN p d).length - 1]? = some (srchN p d).1.length := by
 rw [Jm, Nat.add_sub_cancel]; exact ends_at p (Nat.le_refl _)
theorem ends_prev (p : Af) (d : Nat) : ((endsN p d).length <= 1 /\ (srchN p d).2 = 0) \/ (1 < (endsN p d).length /\ (endsN p d)[(endsN p d).length - 2]? = some (srchN p d).2) := by
 rw [Jm]
 cases d with
 | zero => exact .inl ⟨by omega, rfl⟩
 | succ d => exact .inr ⟨by omega, ends_at p (by omega)⟩
theorem cmpL_swap : ∀ {a b : List Nat}, Dw a b = -1 -> Dw b a = 1
 | [], [], h => absurd h (by decide)
 | [], _ :: _, _ => rfl
 | _ :: _, [], h => by simp [Dw] at h
 | x :: a, y :: b, h => by
  rw [Dw] at h ⊢
  split at h
  ·rename_i h0
   have : x = y := by unfold EQ at h0; split at h0 <;> first | omega | (split at h0 <;> omega)
   subst this
   rw [if_pos (by simp [EQ])]
   exact cmpL_swap h
  ·have h1 : x < y := by unfold EQ at h; split at h <;> first | omega | (split at h <;> omega)
   have h2 : EQ y x = 1 := by unfold EQ; rw [if_neg (by omega), if_pos h1]
   rw [if_neg (by rw [h2]; decide), h2]
def ReachR (w0 : World) (p : Af) (lim : Int) (F : List Aj) (K : (Nat -> Prop) -> World -> Prop) (e : Ending) (w' : World) : Prop :=
 ∃ n f pl er u, FwdOut p lim n f pl er /\ e = .returned (.tuple #[.agg #[.int .i64 (n : Nat), .bool f, u], .int .i64 er]) /\ St w0 w' F fun D w => K D w /\ Sl w D 1 u pl.length (BD pl)
set_option maxHeartbeats 8000000 in
theorem Jk {w0 w : World} {F : List Aj} {K : (Nat -> Prop) -> World -> Prop} {v : Value} {p : Af} (lim : Int) (hlim : checkE p = 0 -> lim <= 10000) (hP : p.Ok) (hrl : p.rules.length <= 1000) (hS : St w0 w F K) (kp : ∀ D w, K D w -> B7 w D v p) (kt : ∀ D w, K D w -> Bx w) :
  Calls Tryz.prog 45 #[v, .int .i64 lim] w (ReachR w0 p lim F K) := by
 obtain ⟨la, Cs, ns, cs, Ar, cr, An, cn, Ag, cg, rfl⟩ := B7.shape6 (kp _ _ hS.ro)
 have HP := Lib.hid hP
 have HK := Lib.hid kp
 have HT := Lib.hid kt
 have KS := Lib.hid hS.stable
 have HST : Hid ((B0 p.start).length <= 512) := Lib.hid (by obtain ⟨_, _, _, _, _, _, _, h2, _⟩ := kp _ _ hS.ro; exact Gt h2.bound)
 have HLI := Lib.hid hlim
 clear hP kp kt hlim
 go_enter Tryz.func45, Tryz.ntmps45
 go_wp2_with (first
  | ((with_reducible refine qA 2 ?_); refine AA hS rfl _ _ rfl (.agg #[.int .i64 p.roles, .pointer la, .slice Cs ns cs, .slice Ar p.rules.length cr, .slice An p.never.length cn, .slice Ag p.goal.length cg]) _ rfl rfl ?_; clear hS; intro g2 w_ hS; (try simp only [Act.put, Act.eval, zz, Value.cells] at hS))
  | ((with_reducible refine qA 4 ?_); refine qa hS #[.int .i64 0, .bool false, .slice none 0 0] ?_; clear hS; intro g4 w_ hS)
  | ((with_reducible refine qk 31 ?_); refine BigFrame.wpList_want rfl fun _ hK => AQ rfl rfl (hS.box 1 rfl) Tryz.underlying31 rfl (by kernel_rfl) (hK _ _ ?_))
  | (go_at_call 83; refine (begin_any lim HP.out HST.out hS HK.out HT.out).mono ?_; clear hS; rintro e w_ hB; rcases hB with ⟨h1, rfl, hS⟩ | ⟨h1, h2, rfl, hS⟩ | ⟨h1, h2, g, rfl, hS0⟩)
  | ((with_reducible refine qB ?_); refine qc ?_ ?_ <;> intro h_ <;> go_prune)
  | ((with_reducible refine qA 23 ?_); refine Aq rfl _ _ rfl #[.int .i64 0, .bool false, .slice none 0 0] (by kernel_rfl) ?_; (try simp only [Act.put, List.setIfInBounds_toArray, List.set_cons_zero, List.set_cons_succ]))
  | ((with_reducible refine qm 79 ?_); refine qS hS ?_; clear hS; intro w_ hS; (try simp only [Act.put, Act.eval, zz, Value.cells] at hS)))
 ·refine BA Tryz.results45 rfl (hS.box 0 rfl) Tryz.underlying79 rfl (by kernel_rfl) rfl rfl ?_
  exact ⟨0, false, [], 1, _, .inl ⟨h1, rfl, rfl, rfl, rfl⟩, rfl, (((hS.nil 3 1).freeze 0 (by decide) rfl).sub ((List.sublist_cons_self _ _).trans (List.sublist_cons_self _ _)))⟩
 ·refine BA Tryz.results45 rfl (hS.box 0 rfl) Tryz.underlying79 rfl (by kernel_rfl) rfl rfl ?_
  exact ⟨0, false, [], checkE p, _, .inr (.inl ⟨by omega, h2, rfl, rfl, rfl, rfl⟩), rfl, (((hS.nil 3 1).freeze 0 (by decide) rfl).sub ((List.sublist_cons_self _ _).trans (List.sublist_cons_self _ _)))⟩
 ·have HC := Lib.hid h2
  have hlm := HLI.out h2
  have HL1 := Lib.hid h1
  clear h1 h2
  have hS1 : Hid (ER w0 w_ g #[.int .i64 p.roles, .pointer la, .slice Cs ns cs, .slice Ar p.rules.length cr, .slice An p.never.length cn, .slice Ag p.goal.length cg] lim (srchN p 0).1 (endsN p 0) (.box g4 79 #[.int .i64 0, .bool false, .slice none 0 0] :: .box g2 31 #[.int .i64 p.roles, .pointer la, .slice Cs ns cs, .slice Ar p.rules.length cr, .slice An p.never.length cn, .slice Ag p.goal.length cg] :: F) K) := Lib.hid hS0
  clear hS0
  have HL0 : Hid (((srchN p 0).1.length : Int) <= lim) := Lib.hid (by show ((1 : Nat) : Int) <= lim; have := HL1.out; omega)
  go_loopg [8] lim.toNat (fun k fv wr => ∃ d : Nat, fv = .int .i64 ((srchN p d).2 : Nat) /\ lim.toNat - (srchN p d).1.length <= k /\ Hid (d < (srchN p d).1.length /\ ((srchN p d).1.length : Int) <= lim /\ ∀ i, i < d -> Hd p (srchN p i).1 (srchN p i).2) /\ Hid (ER w0 wr g #[.int .i64 p.roles, .pointer la, .slice Cs ns cs, .slice Ar p.rules.length cr, .slice An p.never.length cn, .slice Ag p.goal.length cg] lim (srchN p d).1 (endsN p d) (.box g4 79 #[.int .i64 0, .bool false, .slice none 0 0] :: .box g2 31 #[.int .i64 p.roles, .pointer la, .slice Cs ns cs, .slice Ar p.rules.length cr, .slice An p.never.length cn, .slice Ag p.goal.length cg] :: F) K))
  case atStart => exact ⟨0, rfl, by omega, Lib.hid ⟨by show 0 < 1; omega, HL0.out, fun i h => by omega⟩, hS1⟩
  case round =>
   clear hS1 HL0 HLI
   obtain ⟨d, rfl, hmk, HI, HS⟩ := hrel
   have hv := D8 p d
   have HNX := Lib.hid (show (srchN p (d + 1)).1 = lvlR p (srchN p d).1 (srchN p d).2 ((srchN p d).1.length - (srchN p d).2) from rfl)
   have HNA := Lib.hid (show (srchN p (d + 1)).2 = (srchN p d).1.length from rfl)
   have HES := Lib.hid (ends_succ p d)
   have HEL := Lib.hid (ends_last p d)
   have HEP := Lib.hid (ends_prev p d)
   have HEN := Lib.hid (Jm p d)
   obtain ⟨l, hl⟩ : ∃ l, (srchN p d).1 = l := ⟨_, rfl⟩
   obtain ⟨a, ha⟩ : ∃ a, (srchN p d).2 = a := ⟨_, rfl⟩
   obtain ⟨es, he⟩ : ∃ es, endsN p d = es := ⟨_, rfl⟩
   have HLQ := Lib.hid hl
   have HAQ := Lib.hid ha
   have HEQ := Lib.hid he
   rw [hl, ha] at hv HNX
   rw [he] at HS HES HEL HEP HEN
   rw [hl] at HI HS HEL hmk HNA
   rw [ha] at HEP ⊢
   clear hl ha he
   have hlp := hv.wf.pos
   have hal := hv.le
   have hll := HI.out.2.1
   have HV := Lib.hid hv
   clear hv
   have HK0 : Hid (∃ K', Hid (∀ D w, K' D w -> K D w) /\ Hid (AK K') /\ Hid (ER w0 wr g #[.int .i64 p.roles, .pointer la, .slice Cs ns cs, .slice Ar p.rules.length cr, .slice An p.never.length cn, .slice Ag p.goal.length cg] lim l es (.box g4 79 #[.int .i64 0, .bool false, .slice none 0 0] :: .box g2 31 #[.int .i64 p.roles, .pointer la, .slice Cs ns cs, .slice Ar p.rules.length cr, .slice An p.never.length cn, .slice Ag p.goal.length cg] :: F) K')) := Lib.hid ⟨K, Lib.hid fun _ _ h => h, KS, HS⟩
   clear HS
   go_wp2_with fail
   go_loopw [9, 10, 11] (fun bv fv iv wr => ∃ i : Nat, iv = .int .i64 (i : Nat) /\ a <= i /\ i <= l.length /\ ∃ K', Hid (∀ D w, K' D w -> K D w) /\ Hid (AK K') /\ Hid (ER w0 wr g #[.int .i64 p.roles, .pointer la, .slice Cs ns cs, .slice Ar p.rules.length cr, .slice An p.never.length cn, .slice Ag p.goal.length cg] lim l es (.box g4 79 #[.int .i64 0, .bool false, .slice none 0 0] :: .box g2 31 #[.int .i64 p.roles, .pointer la, .slice Cs ns cs, .slice Ar p.rules.length cr, .slice An p.never.length cn, .slice Ag p.goal.length cg] :: F) K') /\ ((bv = .slice none 0 0 /\ fv = .bool false /\ Hid (∀ m, a <= m -> m < i -> reachB p (l.getD m Bh).1 = false)) \/ ∃ j A c, bv = .slice A (BH l j).length c /\ fv = .bool true /\ j < i /\ Hid (HitR p l a j) /\ Hid (∀ D w, K' D w -> Sl w D 1 (.slice A (BH l j).length c) (BH l j).length (BD (BH l j))))) (fun _ _ iv _ => l.length - (intOf iv).toNat)
   case atStart =>
    obtain ⟨K', h1, h2, h3⟩ := HK0.out
    exact ⟨a, rfl, Nat.le_refl _, hal, K', h1, h2, h3, .inl ⟨rfl, rfl, Lib.hid fun m h1 h2 => by omega⟩⟩
   case round =>
    clear HK0
    obtain ⟨i, rfl, hai, hil, K', HKK, KS', HS, hcase⟩ := hrel
    by_cases hi : i < l.length
    ·have hS0 := HS.out
     clear HS
     obtain ⟨lv, ev, cells, b, clock, n, ents, hm, hn, hS⟩ := hS0; obtain ⟨EL, cl, rfl, hcl, _⟩ := BI (hS.own 0 rfl) (by omega); obtain ⟨Ae, ce, rfl, _, _⟩ := Be (hS.own 1 rfl); have HSC := Lib.hid (show ∀ lv mv ev, Dk #[.int .i64 p.roles, .pointer la, .slice Cs ns cs, .slice Ar p.rules.length cr, .slice An p.never.length cn, .slice Ag p.goal.length cg] lim lv mv ev = #[.int .i64 p.roles, .pointer la, .slice Cs ns cs, .slice Ar p.rules.length cr, .slice An p.never.length cn, .slice Ag p.goal.length cg, .int .i64 lim, lv, mv, ev] from fun lv mv ev => rfl); rw [HSC.out] at hS; replace hm := Lib.hid hm; replace hn := Lib.hid hn
     have HRX := Lib.hid (G8 (l := l) hi)
     obtain ⟨z, hz⟩ : ∃ z, l.getD i Bh = z := ⟨_, rfl⟩
     have HZQ := Lib.hid hz
     rw [hz] at HRX
     clear hz
     obtain ⟨s, zf, zr⟩ := z
     obtain ⟨ca, hc0, -, -, -⟩ := hS.ro.2 _ _ HRX.out
     have HC0 := Lib.hid hc0
     have HSI : Hid (∀ D w, BL w D cells l -> A6 w D (.agg #[ca]) s) := Lib.hid fun D w h => by
      obtain ⟨c2, h1, _, _, h2⟩ := h _ _ HRX.out
      rw [HC0.out] at h1
      obtain rfl := Option.some.inj h1
      exact h2
     clear hc0
     obtain ⟨rb, hrb⟩ : ∃ rb, reachB p s = rb := ⟨_, rfl⟩
     have HRB := Lib.hid hrb
     clear hrb
     go_wp2_with (first | ((with_reducible refine qB ?_); refine qc ?_ ?_ <;> intro h_ <;> go_prune) | ((with_reducible refine qK ?_); refine qC hS ?_))
     refine Ci [.i (.agg #[.int .i64 p.roles, .pointer la, .slice Cs ns cs, .slice Ar p.rules.length cr, .slice An p.never.length cn, .slice Ag p.goal.length cg]), .q g 0, .q g 0, .q g 7, .i (.slice (some ⟨EL, 0, none⟩) l.length cl), .n (i : Nat), .q EL (0 + (i) * 3), .q EL (0 + (i) * 3), .i (.agg #[ca]), .i (.bool rb), .i (.bool (!rb))] ⟨uR (h := fun w hW hN => (hS.ext hW).box 5 rfl), uM, uN, uF, uC (h := fun w hW hN => (hS.ext hW).shut 3 rfl 7 rfl), uM, uI (h := fun w hW hN => Ak (m := i) Tryz.underlying125 (by kernel_rfl) (by omega) (by omega)), uF, uD (h := fun w hW hN => Hz (by rw [Nat.zero_add]; exact Bm ((hS.ext hW).own 0 rfl) _ _ HC0.out)), ?_, uU, trivial⟩ ?_
     ·refine uT fun b__ w hW hE K hK => ?_
      have e35 := hE 35
      have e43 := hE 43
      exact AC rfl (by kernel_rfl) (by simp only [List.map_cons, List.map_nil, e35, e43]) (CZ (HK.out _ _ (HKK.out _ _ (hS.ext hW).ro.1)) HP.out (HT.out _ _ (HKK.out _ _ (hS.ext hW).ro.1)) (HSI.out _ _ (hS.ext hW).ro.2)) fun v w' h hb => hK v w' (h.trans (by rw [HRB.out])) hb
     ·intro vs wz hW hT
      obtain ⟨e35, e36, e37, e38, e39, e40, e41, e42, e43, e44, e45, -⟩ := hT
      simp only [AE, Act.put, zz, ze]
      rw [e45]
      replace hS := hS.ext hW
      clear hW e35 e36 e37 e38 e39 e40 e41 e42 e43 e44 e45
      have HSR : Hid (ER w0 wz g #[.int .i64 p.roles, .pointer la, .slice Cs ns cs, .slice Ar p.rules.length cr, .slice An p.never.length cn, .slice Ag p.goal.length cg] lim l es (.box g4 79 #[.int .i64 0, .bool false, .slice none 0 0] :: .box g2 31 #[.int .i64 p.roles, .pointer la, .slice Cs ns cs, .slice Ar p.rules.length cr, .slice An p.never.length cn, .slice Ag p.goal.length cg] :: F) K') := Lib.hid ⟨_, _, _, _, _, _, _, hm.out, hn.out, hS⟩
      clear hS hm hn hcl
      cases rb
      ·go_wp2_with fail
       refine ⟨⟨i + 1, by go_num, by omega, hi, K', HKK, KS', HSR, ?_⟩, by simp [intOf]; omega⟩
       rcases hcase with ⟨rfl, rfl, HN⟩ | ⟨j, A, c, rfl, rfl, hj, HH, HSl⟩
       ·refine .inl ⟨rfl, rfl, Lib.hid fun m h1 h2 => ?_⟩
        rcases Nat.lt_or_ge m i with h3 | h3
        ·exact HN.out m h1 h3
        ·obtain rfl : m = i := by omega
         rw [HZQ.out]; exact HRB.out
       ·exact .inr ⟨j, A, c, rfl, rfl, by omega, HH, HSl⟩
      ·rcases hcase with ⟨rfl, rfl, HN⟩ | ⟨j, A, c, rfl, rfl, hj, HH, HSl⟩
       ·go_wp2_with (first
         | (go_at_call 84; refine (fplan_any HV.out.wf hi (by omega) HSR.out KS'.out).mono ?_; rintro e w_ ⟨u, rfl, hS2⟩; obtain ⟨_, _, _, _, _, _, _, _, _, hS3⟩ := id hS2; obtain ⟨A, c, rfl, _, _⟩ := hS3.ro.1.2.shape; clear hS3; replace hS2 := Lib.hid hS2))
        refine ⟨⟨i + 1, by go_num, by omega, hi, _, Lib.hid fun D w h => HKK.out _ _ h.1, Lib.hid (KS'.out.and (Az (by decide))), hS2, .inr ⟨i, A, c, rfl, rfl, by omega, Lib.hid ⟨hai, hi, by rw [HZQ.out]; exact HRB.out, HN.out⟩, Lib.hid fun D w h => h.2⟩⟩, by simp [intOf]; omega⟩
       ·have HCM : Hid (Dw (BH l i) (BH l j) = 1) := Lib.hid (cmpL_swap (HV.out.asc j i HH.out.1 hj hi))
        have hlj := J3 HV.out.wf (j + 1) j (by omega) (by omega)
        have hli := J3 HV.out.wf (i + 1) i (by omega) (by omega)
        have HLJ := Lib.hid hlj
        have HLI := Lib.hid hli
        obtain ⟨pj, hpj⟩ : ∃ pj, BH l j = pj := ⟨_, rfl⟩
        obtain ⟨pi, hpi⟩ : ∃ pi, BH l i = pi := ⟨_, rfl⟩
        have HPJ := Lib.hid hpj
        have HPI := Lib.hid hpi
        rw [hpj] at HSl HCM hlj ⊢
        rw [hpi] at HCM hli
        clear hpj hpi
        go_wp2_with (first
         | (go_at_call 84; refine (fplan_any HV.out.wf hi (by omega) HSR.out KS'.out).mono ?_; rintro e w_ ⟨u, rfl, hS2⟩; rw [HPI.out] at hS2; obtain ⟨lv, ev, cells, b, clock, n, ents, hm, hn, hS⟩ := hS2; replace hm := Lib.hid hm; replace hn := Lib.hid hn; obtain ⟨Ai, ci, rfl, _, _⟩ := hS.ro.1.2.shape)
         | (go_at_call 85; refine (scmp_any hS.ro.1.2 (HSl.out _ _ hS.ro.1.1) (by omega) (by omega)).mono ?_; rw [HCM.out]; rintro r_ w_ ⟨_, rfl, rfl, hb_⟩; replace hS := hS.ext hb_; clear hb_)
         | ((with_reducible refine qB ?_); refine qc ?_ ?_ <;> intro h_ <;> go_prune))
        refine ⟨⟨i + 1, by go_num, by omega, hi, _, Lib.hid fun D w h => HKK.out _ _ h.1, Lib.hid (KS'.out.and (Az (v := .slice Ai pi.length ci) (n := pi.length) (xs := BD pi) (by decide))), Lib.hid ⟨_, _, _, _, _, _, _, hm.out, hn.out, hS⟩, .inr ⟨j, A, c, by rw [HPJ.out], rfl, by omega, HH, Lib.hid fun D w h => by rw [HPJ.out]; exact HSl.out _ _ h.1⟩⟩, by simp [intOf]; omega⟩
    ·obtain rfl : i = l.length := by omega
     have hS0 := HS.out
     clear HS
     rcases hcase with ⟨rfl, rfl, HN⟩ | ⟨j, A, c, rfl, rfl, hj, HH, HSl⟩
     ·have HNH : Hid (Hd p l a) := Lib.hid HN.out
      obtain ⟨lv, ev, cells, b, clock, n, ents, hm, hn, hS⟩ := hS0; obtain ⟨EL, cl, rfl, hcl, _⟩ := BI (hS.own 0 rfl) (by omega); obtain ⟨Ae, ce, rfl, _, _⟩ := Be (hS.own 1 rfl); have HSC := Lib.hid (show ∀ lv mv ev, Dk #[.int .i64 p.roles, .pointer la, .slice Cs ns cs, .slice Ar p.rules.length cr, .slice An p.never.length cn, .slice Ag p.goal.length cg] lim lv mv ev = #[.int .i64 p.roles, .pointer la, .slice Cs ns cs, .slice Ar p.rules.length cr, .slice An p.never.length cn, .slice Ag p.goal.length cg, .int .i64 lim, lv, mv, ev] from fun lv mv ev => rfl); rw [HSC.out] at hS; replace hm := Lib.hid hm; replace hn := Lib.hid hn
      go_wp2_with (first
       | ((with_reducible refine qB ?_); refine qc ?_ ?_ <;> intro h_ <;> go_prune)
       | (go_at_call 86; have HSR := Lib.hid (show ER w0 _ g #[.int .i64 p.roles, .pointer la, .slice Cs ns cs, .slice Ar p.rules.length cr, .slice An p.never.length cn, .slice Ag p.goal.length cg] lim l es (.box g4 79 #[.int .i64 0, .bool false, .slice none 0 0] :: .box g2 31 #[.int .i64 p.roles, .pointer la, .slice Cs ns cs, .slice Ar p.rules.length cr, .slice An p.never.length cn, .slice Ag p.goal.length cg] :: F) K' from ⟨_, _, _, _, _, _, _, hm.out, hn.out, hS⟩); clear hS hm hn hcl; refine (deepen_any HV.out.wf HP.out hrl (fun D w h => HK.out _ _ (HKK.out _ _ h)) (fun D w h => HT.out _ _ (HKK.out _ _ h)) KS'.out HEL.out HEP.out hal hll hlm (by have := HEN.out; have := HI.out.1; omega) HSR.out).mono ?_; rintro e w_ hD; rw [DeepR, <- HNX.out] at hD; clear HSR; obtain ⟨mb, hmb⟩ : ∃ mb : Bool, decide (l.length < (srchN p (d + 1)).1.length) = mb := ⟨_, rfl⟩; rw [hmb] at hD; replace hmb := Lib.hid hmb; have HL2 := Lib.hid (D8 p (d + 1)).wf.pos; have HPR := Lib.hid (srch_pre p d).length_le; rw [HLQ.out] at HPR; obtain ⟨l2, hl2⟩ : ∃ l2, (srchN p (d + 1)).1 = l2 := ⟨_, rfl⟩; have HLQ2 := Lib.hid hl2; rw [hl2] at hmb HL2 HPR hD; rcases hD with ⟨h1, rfl, hS0⟩ | ⟨h1, rfl, hS⟩; cases mb; (obtain ⟨lv, ev, cells, b, clock, n, ents, hm, hn, hS⟩ := hS0; obtain ⟨EL, cl, rfl, hcl, _⟩ := BI (hS.own 0 rfl) HL2.out; obtain ⟨Ae, ce, rfl, _, _⟩ := Be (hS.own 1 rfl); rw [show ∀ lv mv ev, Dk #[.int .i64 p.roles, .pointer la, .slice Cs ns cs, .slice Ar p.rules.length cr, .slice An p.never.length cn, .slice Ag p.goal.length cg] lim lv mv ev = #[.int .i64 p.roles, .pointer la, .slice Cs ns cs, .slice Ar p.rules.length cr, .slice An p.never.length cn, .slice Ag p.goal.length cg, .int .i64 lim, lv, mv, ev] from fun lv mv ev => rfl] at hS; clear hm hn hcl hl2))
       | ((with_reducible refine qA 87 ?_); refine Aq rfl _ _ rfl #[.int .i64 (l2.length : Nat), .bool false, .slice none 0 0] (by kernel_rfl) ?_; (try simp only [Act.put, List.setIfInBounds_toArray, List.set_cons_zero, List.set_cons_succ]))
       | ((with_reducible refine qA 78 ?_); refine Aq rfl _ _ rfl #[.int .i64 0, .bool false, .slice none 0 0] (by kernel_rfl) ?_; (try simp only [Act.put, List.setIfInBounds_toArray, List.set_cons_zero, List.set_cons_succ]))
       | ((with_reducible refine qm 79 ?_); refine qS hS ?_; clear hS; intro w_ hS; (try simp only [Act.put, Act.eval, zz, Value.cells] at hS))
       | ((with_reducible refine qm 79 ?_); refine qS hS ?_; clear hS; intro w_ hS; (try simp only [Act.put, Act.eval, zz, Value.cells] at hS))
       | ((with_reducible refine qK ?_); refine qC hS ?_))
      ·refine BA Tryz.results45 rfl (hS.box 4 rfl) Tryz.underlying79 rfl (by kernel_rfl) rfl rfl ?_
       have h2 : l2.length = l.length := by have := of_decide_eq_false hmb.out; have := HPR.out; omega
       refine ⟨l2.length, false, [], 0, _, .inr (.inr ⟨by have := HL1.out; omega, HC.out, d, HI.out.2.2, by rw [HLQ.out]; exact HI.out.2.1, .inr (.inl ⟨by rw [HLQ.out, HAQ.out]; exact HNH.out, by rw [HLQ.out, HLQ2.out, h2], by rw [HLQ.out, h2], rfl, rfl, rfl⟩)⟩), rfl, ?_⟩
       have hS2 := (hS.nil 3 1).freeze 0 (by decide) rfl
       exact (hS2.sub (by repeat (first | exact List.Sublist.refl _ | apply List.Sublist.cons))).mono (KS.out.and (Az (by decide))) fun D w h => ⟨HKK.out _ _ h.1.1, h.2⟩
      ·have h2 : l.length < l2.length := of_decide_eq_true hmb.out
       go_roundg (lim.toNat - l2.length)
       case measure => omega
       case rel =>
        refine ⟨d + 1, by rw [HNA.out], by rw [HLQ2.out]; omega, Lib.hid ⟨by rw [HLQ2.out]; have := HI.out.1; omega, by rw [HLQ2.out]; exact h1, fun i hi => ?_⟩, Lib.hid ?_⟩
        ·rcases Nat.lt_or_ge i d with h3 | h3
         ·exact HI.out.2.2 i h3
         ·obtain rfl : i = d := by omega
          rw [HLQ.out, HAQ.out]; exact HNH.out
        ·rw [HLQ2.out, HES.out, HLQ2.out]
         obtain ⟨lv, ev, cells, b, clock, n, ents, hm, hn, hS⟩ := hS0
         rw [if_pos h2] at hS
         exact ⟨lv, ev, cells, b, clock, n, ents, hm, hn, hS.mono (KS.out.and Bu) fun D w h => ⟨HKK.out _ _ h.1, h.2⟩⟩
      ·refine BA Tryz.results45 rfl (hS.box 0 rfl) Tryz.underlying79 rfl (by kernel_rfl) rfl rfl ?_
       refine ⟨0, false, [], 3, _, .inr (.inr ⟨by have := HL1.out; omega, HC.out, d, HI.out.2.2, by rw [HLQ.out]; exact HI.out.2.1, .inr (.inr ⟨by rw [HLQ.out, HAQ.out]; exact HNH.out, by rw [HLQ2.out]; exact h1, rfl, rfl, rfl, rfl⟩)⟩), rfl, ?_⟩
       have hS2 := (hS.nil 3 1).freeze 0 (by decide) rfl
       exact (hS2.sub ((List.sublist_cons_self _ _).trans (List.sublist_cons_self _ _))).mono (KS.out.and (Az (by decide))) fun D w h => ⟨HKK.out _ _ h.1, h.2⟩
     ·obtain ⟨lv, ev, cells, b, clock, n, ents, hm, hn, hS⟩ := hS0; obtain ⟨EL, cl, rfl, hcl, _⟩ := BI (hS.own 0 rfl) (by omega); obtain ⟨Ae, ce, rfl, _, _⟩ := Be (hS.own 1 rfl); have HSC := Lib.hid (show ∀ lv mv ev, Dk #[.int .i64 p.roles, .pointer la, .slice Cs ns cs, .slice Ar p.rules.length cr, .slice An p.never.length cn, .slice Ag p.goal.length cg] lim lv mv ev = #[.int .i64 p.roles, .pointer la, .slice Cs ns cs, .slice Ar p.rules.length cr, .slice An p.never.length cn, .slice Ag p.goal.length cg, .int .i64 lim, lv, mv, ev] from fun lv mv ev => rfl); rw [HSC.out] at hS; replace hm := Lib.hid hm; replace hn := Lib.hid hn
      go_wp2_with (first
       | ((with_reducible refine qA 65 ?_); refine Aq rfl _ _ rfl #[.int .i64 (l.length : Nat), .bool true, .slice A (BH l j).length c] (by kernel_rfl) ?_; (try simp only [Act.put, List.setIfInBounds_toArray, List.set_cons_zero, List.set_cons_succ]))
       | ((with_reducible refine qm 79 ?_); refine qS hS ?_; clear hS; intro w_ hS; (try simp only [Act.put, Act.eval, zz, Value.cells] at hS))
       | ((with_reducible refine qK ?_); refine qC hS ?_))
      refine BA Tryz.results45 rfl (hS.box 4 rfl) Tryz.underlying79 rfl (by kernel_rfl) rfl rfl ?_
      refine ⟨l.length, true, BH l j, 0, _, .inr (.inr ⟨by have := HL1.out; omega, HC.out, d, HI.out.2.2, by rw [HLQ.out]; exact HI.out.2.1, .inl ⟨j, by rw [HLQ.out, HAQ.out]; exact HH.out, by rw [HLQ.out], rfl, by rw [HLQ.out], rfl⟩⟩), rfl, ?_⟩
      exact (hS.sub (by repeat (first | exact List.Sublist.refl _ | apply List.Sublist.cons))).mono (KS.out.and (Az (by decide))) fun D w h => ⟨HKK.out _ _ h.1, HSl.out _ _ h.1⟩
end
section
open Go.RowKit
set_option exponentiation.threshold 5000
section
variable {p : Af} {L : List (Nat × Nat)} {R : Nat}
theorem srchN_small (hM : Cu p L R) (d : Nat) : (srchN p d).1.length <= 64 := by
 have h := I2 64 ((srchN p d).1.map (·.1)) (D8 p d).wf.nodup fun x hx => by
  obtain ⟨j, hj, rfl⟩ := mem_at hx
  exact mask_lt hM.r5 ((srch_rch hj).mask hM)
 rwa [List.length_map] at h
theorem no_hit {d : Nat} (h : ∀ i, i < d -> Hd p (srchN p i).1 (srchN p i).2) : ∀ n, n < d -> ∀ s, Dc p n s -> reachB p s = false
 | n, hn, s, hs => by
  by_cases ho : ∃ e, e < n /\ Dc p e s
  ·obtain ⟨e, he, h2⟩ := ho
   exact no_hit h e (by omega) s h2
  ·have hv := D8 p n
   obtain ⟨j, hj, rfl⟩ := mem_at ((hv.mem s).2 hs)
   refine h n hn j (Nat.le_of_not_lt fun hja => ho ((hv.old _).1 ?_)) hj
   refine List.mem_map.2 ⟨(srchN p n).1.getD j Bh, List.mem_of_getElem? (i := j) ?_, rfl⟩
   rw [List.getElem?_take, if_pos hja]
   exact G8 hj
termination_by n => n
def FwdWell (p : Af) (n : Nat) (f : Bool) (pl : List Nat) : Prop := ∃ d, (∀ i, i < d -> Hd p (srchN p i).1 (srchN p i).2) /\
 ((∃ j, HitR p (srchN p d).1 (srchN p d).2 j /\ n = (srchN p d).1.length /\ f = true /\ pl = BH (srchN p d).1 j) \/
  (Hd p (srchN p d).1 (srchN p d).2 /\ (srchN p (d + 1)).1.length = (srchN p d).1.length /\ n = (srchN p d).1.length /\ f = false /\ pl = []))
theorem fwd_well (hM : Cu p L R) (hc : checkE p = 0) {lim : Int} (hl : 64 <= lim) {n : Nat} {f : Bool} {pl : List Nat} {e : Int} (h : FwdOut p lim n f pl e) : e = 0 /\ FwdWell p n f pl := by
 rcases h with ⟨h, _⟩ | ⟨_, h, _⟩ | ⟨_, _, d, h1, h2, h3⟩
 ·omega
 ·exact absurd hc h
 ·rcases h3 with ⟨j, q1, q2, q3, q4, q5⟩ | ⟨q1, q2, q3, q4, q5, q6⟩ | ⟨_, q2, _⟩
  ·exact ⟨q5, d, h1, .inl ⟨j, q1, q2, q3, q4⟩⟩
  ·exact ⟨q6, d, h1, .inr ⟨q1, q2, q3, q4, q5⟩⟩
  ·have := srchN_small hM (d + 1); omega
theorem hit_goal {d j : Nat} (h : ∀ i, i < d -> Hd p (srchN p i).1 (srchN p i).2) (hj : HitR p (srchN p d).1 (srchN p d).2 j) :
  GoalD p d /\ (BH (srchN p d).1 j).length = d /\ (∃ s, runTo p p.start 0 (intsL (BH (srchN p d).1 j)) = (s, d, true) /\ reachB p s = true) /\ Rch p ((srchN p d).1.getD j Bh).1 := by
 obtain ⟨h1, h2, h3, h4⟩ := hj
 have hv := D8 p d
 have hlen := hv.len j h1 h2
 have hrun := planR_run hv.wf (j + 1) j (by omega) h2
 rw [hlen] at hrun
 refine ⟨goal_near.2 ⟨⟨_, (hv.mem _).1 (at_mem h2), h3⟩, no_hit h⟩, hlen, ⟨_, hrun, h3⟩, srch_rch h2⟩
theorem IE {n : Nat} {f : Bool} {pl : List Nat} (h : FwdWell p n f pl) : f = rchB p /\ (f = false -> pl = [] /\ (∀ s, Rch p s -> ∃ d, s ∈ (srchN p d).1.map (·.1) /\ n = (srchN p d).1.length) /\ ∀ d, ¬ GoalD p d) /\ (f = true -> GoalD p pl.length /\ ∃ s, runTo p p.start 0 (intsL pl) = (s, pl.length, true) /\ reachB p s = true) := by
 obtain ⟨d, h1, ⟨j, q1, q2, rfl, rfl⟩ | ⟨q1, q2, q3, rfl, rfl⟩⟩ := h
 ·obtain ⟨g1, g2, g3, g4⟩ := hit_goal h1 q1
  refine ⟨(I0 ⟨_, g4, q1.2.2.1⟩).symm, fun h => (by cases h), fun _ => ?_⟩
  rw [g2]
  exact ⟨g1, g3⟩
 ·have hno : ∀ s, Rch p s -> reachB p s = false := fun s hs => by
   have hm := (D8 p d).mem s
   refine no_hit (d := d + 1) (fun i hi => ?_) d (by omega) s (hm.1 (srch_all q2 hs))
   rcases Nat.lt_or_ge i d with h | h
   ·exact h1 i h
   ·obtain rfl : i = d := by omega
    exact q1
  refine ⟨(J1 hno).symm, fun _ => ⟨rfl, fun s hs => ⟨d, srch_all q2 hs, q3⟩, fun e ⟨⟨s, h2, h3⟩, _⟩ => ?_⟩, fun h => by cases h⟩
  rw [hno s (at_rch h2)] at h3; cases h3
end
end
section
open Go.RowKit
attribute [local go_sem ↓] Go.wp_at_zero Go.wp_at_succ
set_option maxRecDepth 20000
set_option exponentiation.threshold 5000
def RunR (w0 : World) (F : List Aj) (K : (Nat -> Prop) -> World -> Prop) (p : Af) (l : List Int) (e : Ending) (w' : World) : Prop :=
 ∃ (x : Value) (N n : Nat) (b : Bool), e = .returned (.tuple #[x, .int .i64 (n : Nat), .bool b]) /\ Hid (runTo p p.start 0 l = (N, n, b)) /\ St w0 w' F fun D w => K D w /\ A6 w D x N
set_option maxHeartbeats 4000000 in
theorem srun_any {w0 w : World} {F : List Aj} {K : (Nat -> Prop) -> World -> Prop} {v pv : Value} {p : Af} {L : List (Nat × Nat)} {l : List Int} (hl : p.links = some L) (hP : p.Ok) (hlen : l.length <= 1000000) (hS : St w0 w F K) (kp : ∀ D w, K D w -> B7 w D v p) (kv : ∀ D w, K D w -> Sl w D 1 pv l.length (AX l)) (kt : ∀ D w, K D w -> Bx w) :
  Calls Tryz.prog 46 #[v, pv] w (RunR w0 F K p l) := by
 obtain ⟨Ap, cp, rfl, _, _⟩ := (kv _ _ hS.ro).shape
 obtain ⟨R, lk, st, rl, nl, gl⟩ := p
 obtain rfl : lk = some L := hl
 obtain ⟨lp, s, rv, nv, gv, rfl, h1, h2, h3, h4, h5⟩ := kp _ _ hS.ro
 dsimp only at h1 h2 h3 h4 h5
 obtain ⟨q, o, rfl, -⟩ := id h1
 obtain ⟨Cs, ns, cs, rfl⟩ := h2.shape
 obtain ⟨Ar, cr, rfl, _, _⟩ := h3.shape
 obtain ⟨An, cn, rfl, _, _⟩ := h4.shape
 obtain ⟨Ag, cg, rfl, _, _⟩ := h5.shape
 obtain ⟨KC, kc, hS2⟩ : ∃ KC : (Nat -> Prop) -> World -> Prop, Hid (∀ D w, KC D w -> K D w /\ A6 w D (.agg #[.slice Cs ns cs]) st) /\ St w0 w F KC := ⟨_, Lib.hid fun D w h => ⟨h.1, h.2⟩, hS.add (D := CW F) A5 h2 fun _ h _ => h⟩
 have KS := Lib.hid hS.stable
 clear hS h1 h2 h3 h4 h5
 have hS := hS2
 clear hS2
 have HP := Lib.hid hP
 have HK := Lib.hid kp
 have HT := Lib.hid kt
 clear hP kp kt
 have HV := Lib.hid kv
 clear kv
 go_enter Tryz.func46, Tryz.ntmps46
 go_wp2_with (first
  | ((with_reducible refine qA 2 ?_); refine AA hS rfl _ _ rfl (.agg #[.int .i64 R, .pointer (some ⟨q, 0, none⟩), .slice Cs ns cs, .slice Ar rl.length cr, .slice An nl.length cn, .slice Ag gl.length cg]) _ rfl rfl ?_; clear hS; intro g2 w_ hS; (try simp only [Act.put, Act.eval, zz, Value.cells] at hS))
  | ((with_reducible refine qA 4 ?_); refine qa hS #[.slice none 0 0] ?_; clear hS; intro g4 w_ hS)
  | ((with_reducible refine qA 14 ?_); refine BigFrame.wpList_want rfl fun _ hK => Bb (v := .bool false) rfl rfl rfl rfl rfl (hK _ _ ?_))
  | ((with_reducible refine qA 7 ?_); refine qa hS #[.slice none 0 0] ?_; clear hS; intro g7 w_ hS)
  | ((with_reducible refine qk 27 ?_); first | (refine A7 hS 0 rfl _ _ rfl _ _ rfl _ _ rfl _ (by first | rfl | assumption) Tryz.underlying27 rfl (by kernel_rfl) ?_) | (refine A7 hS 1 rfl _ _ rfl _ _ rfl _ _ rfl _ (by first | rfl | assumption) Tryz.underlying27 rfl (by kernel_rfl) ?_) | (refine A7 hS 2 rfl _ _ rfl _ _ rfl _ _ rfl _ (by first | rfl | assumption) Tryz.underlying27 rfl (by kernel_rfl) ?_) | (refine A7 hS 3 rfl _ _ rfl _ _ rfl _ _ rfl _ (by first | rfl | assumption) Tryz.underlying27 rfl (by kernel_rfl) ?_) | (refine A7 hS 4 rfl _ _ rfl _ _ rfl _ _ rfl _ (by first | rfl | assumption) Tryz.underlying27 rfl (by kernel_rfl) ?_) | (refine A7 hS 5 rfl _ _ rfl _ _ rfl _ _ rfl _ (by first | rfl | assumption) Tryz.underlying27 rfl (by kernel_rfl) ?_))
  | ((with_reducible refine qM ?_); (first | refine qS hS ?_ | refine qT hS ?_); clear hS; intro w_ hS; (try simp only [Act.put, Act.eval, zz, Value.cells] at hS))
  | ((with_reducible refine qK ?_); refine qC hS ?_))
 go_loopw [20] (fun iv wr => ∃ (j N : Nat) (u : Value), iv = .int .i64 (j : Nat) /\ j <= l.length /\ u.oneCell' = true /\ Hid (runTo ⟨R, some L, st, rl, nl, gl⟩ st 0 l = runTo ⟨R, some L, st, rl, nl, gl⟩ N j (l.drop j)) /\ St w0 wr (.box g7 27 #[u] :: .box g4 27 #[.slice none 0 0] :: .box g2 31 #[.int .i64 R, .pointer (some ⟨q, 0, none⟩), .slice Cs ns cs, .slice Ar rl.length cr, .slice An nl.length cn, .slice Ag gl.length cg] :: F) (fun D w => K D w /\ A6 w D (.agg #[u]) N)) (fun i _ => l.length - (intOf i).toNat)
 case atStart => exact ⟨0, st, _, rfl, by omega, rfl, Lib.hid rfl, hS.mono (KS.out.and A5) fun D w h => kc.out D w h⟩
 case round =>
  clear hS
  obtain ⟨j, N, u, rfl, hj, hu, HR, hS⟩ := hrel
  by_cases hjl : j < l.length
  ·obtain ⟨bp, op, rfl⟩ := Hv (HV.out _ _ hS.ro.1) (by omega)
   obtain ⟨k, hk⟩ : ∃ k, l[j]? = some k := ⟨_, List.getElem?_eq_getElem hjl⟩
   have HY : Hid ((AX l)[j]? = some (.int .i64 k)) := Lib.hid (by simp [AX, hk])
   have hd : l.drop j = k :: l.drop (j + 1) := by
    rw [List.drop_eq_getElem_cons hjl]
    congr 1
    rw [List.getElem?_eq_getElem hjl] at hk
    exact Option.some.inj hk
   rw [hd] at HR
   obtain ⟨V, hV⟩ : ∃ V, stepM ⟨R, some L, st, rl, nl, gl⟩ N k = V := ⟨_, rfl⟩
   have HVV := Lib.hid hV
   clear hk hd hV
   cases V with
   | none =>
    go_wp2_with (first
     | ((with_reducible refine qB ?_); refine qc ?_ ?_ <;> intro h_ <;> go_prune)
     | ((with_reducible refine qk 3 ?_); refine BigFrame.wpList_want rfl fun _ hK => At rfl rfl (by kernel_rfl) (CH (HV.out _ _ hS.ro.1) HY.out) (hK _ _ ?_))
     | ((with_reducible refine qK ?_); refine qL hS Tryz.underlying31 ?_)
     | ((with_reducible refine qK ?_); refine qL hS Tryz.underlying27 ?_)
     | (go_at_call 87; refine (Ht (N := N) k HP.out hS (fun D w h => HK.out _ _ h.1) (fun D w h => h.2) (fun D w h => HT.out _ _ h.1)).mono ?_; clear hS; rw [HVV.out]; rintro e w_ ⟨x, rfl, hS⟩; obtain ⟨u', rfl, hu'⟩ := BC hS.ro.2)
     | ((with_reducible refine qA 10 ?_); refine qa hS #[.slice none 0 0] ?_; clear hS; intro g10 w_ hS)
     | ((with_reducible refine qm 27 ?_); (first | refine AH hS 0 rfl _ _ _ rfl _ _ rfl rfl _ _ rfl (by kernel_rfl) (by kernel_rfl) (by first | (simpa using hu') | (simpa using hu)) ?_ | refine AH hS 1 rfl _ _ _ rfl _ _ rfl rfl _ _ rfl (by kernel_rfl) (by kernel_rfl) (by first | (simpa using hu') | (simpa using hu)) ?_ | refine AH hS 2 rfl _ _ _ rfl _ _ rfl rfl _ _ rfl (by kernel_rfl) (by kernel_rfl) (by first | (simpa using hu') | (simpa using hu)) ?_); clear hS; intro w_ hS; (try simp only [Act.put, Act.eval, zz, Value.cells] at hS)))
    refine ret3_cell Tryz.results46 rfl (hS.box 2 rfl) Tryz.underlying27 rfl (by kernel_rfl) rfl rfl rfl ?_
    exact ⟨_, N, j, false, rfl, Lib.hid (by rw [HR.out]; exact DJ HVV.out), (hS.sub (List.sublist_append_right [_, _, _, _] F)).mono (KS.out.and A5) fun D w h => ⟨h.1.1, h.1.2⟩⟩
   | some M =>
    go_wp2_with (first
     | ((with_reducible refine qB ?_); refine qc ?_ ?_ <;> intro h_ <;> go_prune)
     | ((with_reducible refine qk 3 ?_); refine BigFrame.wpList_want rfl fun _ hK => At rfl rfl (by kernel_rfl) (CH (HV.out _ _ hS.ro.1) HY.out) (hK _ _ ?_))
     | ((with_reducible refine qK ?_); refine qL hS Tryz.underlying31 ?_)
     | ((with_reducible refine qK ?_); refine qL hS Tryz.underlying27 ?_)
     | (go_at_call 87; refine (Ht (N := N) k HP.out hS (fun D w h => HK.out _ _ h.1) (fun D w h => h.2) (fun D w h => HT.out _ _ h.1)).mono ?_; clear hS; rw [HVV.out]; rintro e w_ ⟨x, rfl, hS⟩; obtain ⟨u', rfl, hu'⟩ := BC hS.ro.2)
     | ((with_reducible refine qA 10 ?_); refine qa hS #[.slice none 0 0] ?_; clear hS; intro g10 w_ hS)
     | ((with_reducible refine qm 27 ?_); (first | refine AH hS 0 rfl _ _ _ rfl _ _ rfl rfl _ _ rfl (by kernel_rfl) (by kernel_rfl) (by first | (simpa using hu') | (simpa using hu)) ?_ | refine AH hS 1 rfl _ _ _ rfl _ _ rfl rfl _ _ rfl (by kernel_rfl) (by kernel_rfl) (by first | (simpa using hu') | (simpa using hu)) ?_ | refine AH hS 2 rfl _ _ _ rfl _ _ rfl rfl _ _ rfl (by kernel_rfl) (by kernel_rfl) (by first | (simpa using hu') | (simpa using hu)) ?_); clear hS; intro w_ hS; (try simp only [Act.put, Act.eval, zz, Value.cells] at hS)))
    exact ⟨⟨j + 1, M, u', by go_num, hjl, hu', Lib.hid (by rw [HR.out]; exact Cz HVV.out), (hS.sub (List.sublist_cons_self _ _)).mono (KS.out.and A5) fun D w h => ⟨h.1.1, h.2⟩⟩, by simp [intOf]; omega⟩
  ·obtain rfl : j = l.length := by omega
   rw [List.drop_length] at HR
   go_wp2_with (first
    | ((with_reducible refine qB ?_); refine qc ?_ ?_ <;> intro h_ <;> go_prune)
    | ((with_reducible refine qK ?_); refine qL hS Tryz.underlying27 ?_)
    | ((with_reducible refine qm 27 ?_); (first | refine AH hS 0 rfl _ _ _ rfl _ _ rfl rfl _ _ rfl (by kernel_rfl) (by kernel_rfl) (by simpa using hu) ?_ | refine AH hS 1 rfl _ _ _ rfl _ _ rfl rfl _ _ rfl (by kernel_rfl) (by kernel_rfl) (by simpa using hu) ?_ | refine AH hS 2 rfl _ _ _ rfl _ _ rfl rfl _ _ rfl (by kernel_rfl) (by kernel_rfl) (by simpa using hu) ?_); clear hS; intro w_ hS; (try simp only [Act.put, Act.eval, zz, Value.cells] at hS)))
   refine ret3_cell Tryz.results46 rfl (hS.box 1 rfl) Tryz.underlying27 rfl (by kernel_rfl) rfl rfl rfl ?_
   exact ⟨_, N, l.length, true, rfl, Lib.hid HR.out, (hS.sub (List.sublist_append_right [_, _, _] F)).mono (KS.out.and A5) fun D w h => h⟩
end
end Go.Proofs.YtjjhcdkamohgnaaGreatDoor
