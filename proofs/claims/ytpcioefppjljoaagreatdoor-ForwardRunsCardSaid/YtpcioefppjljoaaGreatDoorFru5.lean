/-
  The card of ForwardRuns.
-/
import Derived.Test.YtpcioefppjljoaaGreatDoorRows
import Derived.ProofKit
import Derived.OpenShut
import Derived.Lib.LaidU8
import Derived.Lay
import Derived.MakeChecks
import Derived.LaidLaws
import Derived.Stop.Joined
import Derived.Test.YtpcioefppjljoaaGreatDoorCards
import Derived.Test.YtpcioefppjljoaaGreatDoorTie
import Derived.SevenTiedAt
import Derived.Test.YtpcioefppjljoaaGreatDoorFru4
namespace Go.Proofs.YtpcioefppjljoaaGreatDoor
section
open Go.RowKit
attribute [local go_sem ↓] Go.wp_at_zero Go.wp_at_succ
set_option maxRecDepth 20000
set_option exponentiation.threshold 5000
def RunR (w0 : World) (F : List Aa) (K : (Nat -> Prop) -> World -> Prop) (p : Ad) (l : List Int) (e : Ending) (w' : World) : Prop :=
 ∃ (x : Value) (N n : Nat) (b : Bool), e = .returned (.tuple #[x, .int .i64 (n : Nat), .bool b]) /\ Hid (runTo p p.start 0 l = (N, n, b)) /\ St w0 w' F fun D w => K D w /\ A5 w D x N
set_option maxHeartbeats 4000000 in
theorem srun_any {w0 w : World} {F : List Aa} {K : (Nat -> Prop) -> World -> Prop} {v pv : Value} {p : Ad} {L : List (Nat × Nat)} {l : List Int} (hl : p.links = some L) (hP : p.Ok) (hlen : l.length <= 1000000) (hS : St w0 w F K) (kp : ∀ D w, K D w -> Ba w D v p) (kv : ∀ D w, K D w -> Sl w D 1 pv l.length (AZ l)) (kt : ∀ D w, K D w -> BI w) :
  Calls Tryz.prog 18 #[v, pv] w (RunR w0 F K p l) := by
 obtain ⟨Ap, cp, rfl, _, _⟩ := (kv _ _ hS.ro).shape
 obtain ⟨R, lk, st, rl, nl, gl⟩ := p
 obtain rfl : lk = some L := hl
 obtain ⟨lp, s, rv, nv, gv, rfl, h1, h2, h3, h4, h5⟩ := kp _ _ hS.ro
 dsimp only at h1 h2 h3 h4 h5
 obtain ⟨q, o, rfl, -⟩ := id h1
 obtain ⟨Cs, ns, cs, rfl⟩ := h2.shape
 obtain ⟨Ar, cr, rfl, _, _⟩ := h3.shape
 obtain ⟨An, cn, rfl, _, _⟩ := h4.shape
 obtain ⟨Ag, cg, rfl, _, _⟩ := h5.shape
 obtain ⟨KC, kc, hS2⟩ : ∃ KC : (Nat -> Prop) -> World -> Prop, Hid (∀ D w, KC D w -> K D w /\ A5 w D (.agg #[.slice Cs ns cs]) st) /\ St w0 w F KC := ⟨_, Lib.hid fun D w h => ⟨h.1, h.2⟩, hS.add (D := DH F) A6 h2 fun _ h _ => h⟩
 have KS := Lib.hid hS.stable
 clear hS h1 h2 h3 h4 h5
 have hS := hS2
 clear hS2
 have HP := Lib.hid hP
 have HK := Lib.hid kp
 have HT := Lib.hid kt
 clear hP kp kt
 have HV := Lib.hid kv
 clear kv
 go_enter Tryz.func18, Tryz.ntmps18
 go_wp2_with (first
  | ((with_reducible refine qA 2 ?_); refine At hS rfl _ _ rfl (.agg #[.int .i64 R, .pointer (some ⟨q, 0, none⟩), .slice Cs ns cs, .slice Ar rl.length cr, .slice An nl.length cn, .slice Ag gl.length cg]) _ rfl rfl ?_; clear hS; intro g2 w_ hS; (try simp only [Act.put, Act.eval, zz, Value.cells] at hS))
  | ((with_reducible refine qA 4 ?_); refine qa hS #[.slice none 0 0] ?_; clear hS; intro g4 w_ hS)
  | ((with_reducible refine qA 14 ?_); refine BigFrame.wpList_want rfl fun _ hK => AE (v := .bool false) rfl rfl rfl rfl rfl (hK _ _ ?_))
  | ((with_reducible refine qA 7 ?_); refine qa hS #[.slice none 0 0] ?_; clear hS; intro g7 w_ hS)
  | ((with_reducible refine qk 27 ?_); first | (refine Az hS 0 rfl _ _ rfl _ _ rfl _ _ rfl _ (by first | rfl | assumption) Tryz.underlying27 rfl (by kernel_rfl) ?_) | (refine Az hS 1 rfl _ _ rfl _ _ rfl _ _ rfl _ (by first | rfl | assumption) Tryz.underlying27 rfl (by kernel_rfl) ?_) | (refine Az hS 2 rfl _ _ rfl _ _ rfl _ _ rfl _ (by first | rfl | assumption) Tryz.underlying27 rfl (by kernel_rfl) ?_) | (refine Az hS 3 rfl _ _ rfl _ _ rfl _ _ rfl _ (by first | rfl | assumption) Tryz.underlying27 rfl (by kernel_rfl) ?_) | (refine Az hS 4 rfl _ _ rfl _ _ rfl _ _ rfl _ (by first | rfl | assumption) Tryz.underlying27 rfl (by kernel_rfl) ?_) | (refine Az hS 5 rfl _ _ rfl _ _ rfl _ _ rfl _ (by first | rfl | assumption) Tryz.underlying27 rfl (by kernel_rfl) ?_))
  | ((with_reducible refine qM ?_); (first | refine qS hS ?_ | refine qT hS ?_); clear hS; intro w_ hS; (try simp only [Act.put, Act.eval, zz, Value.cells] at hS))
  | ((with_reducible refine qK ?_); refine qC hS ?_))
 go_loopw [20] (fun iv wr => ∃ (j N : Nat) (u : Value), iv = .int .i64 (j : Nat) /\ j <= l.length /\ u.oneCell' = true /\ Hid (runTo ⟨R, some L, st, rl, nl, gl⟩ st 0 l = runTo ⟨R, some L, st, rl, nl, gl⟩ N j (l.drop j)) /\ St w0 wr (.box g7 27 #[u] :: .box g4 27 #[.slice none 0 0] :: .box g2 31 #[.int .i64 R, .pointer (some ⟨q, 0, none⟩), .slice Cs ns cs, .slice Ar rl.length cr, .slice An nl.length cn, .slice Ag gl.length cg] :: F) (fun D w => K D w /\ A5 w D (.agg #[u]) N)) (fun i _ => l.length - (intOf i).toNat)
 case atStart => exact ⟨0, st, _, rfl, by omega, rfl, Lib.hid rfl, hS.mono (KS.out.and A6) fun D w h => kc.out D w h⟩
 case round =>
  clear hS
  obtain ⟨j, N, u, rfl, hj, hu, HR, hS⟩ := hrel
  by_cases hjl : j < l.length
  ·obtain ⟨bp, op, rfl⟩ := sl_pos (HV.out _ _ hS.ro.1) (by omega)
   obtain ⟨k, hk⟩ : ∃ k, l[j]? = some k := ⟨_, List.getElem?_eq_getElem hjl⟩
   have HY : Hid ((AZ l)[j]? = some (.int .i64 k)) := Lib.hid (by simp [AZ, hk])
   have hd : l.drop j = k :: l.drop (j + 1) := by
    rw [List.drop_eq_getElem_cons hjl]
    congr 1
    rw [List.getElem?_eq_getElem hjl] at hk
    exact Option.some.inj hk
   rw [hd] at HR
   obtain ⟨V, hV⟩ : ∃ V, stepM ⟨R, some L, st, rl, nl, gl⟩ N k = V := ⟨_, rfl⟩
   have HVV := Lib.hid hV
   clear hk hd hV
   cases V with
   | none =>
    go_wp2_with (first
     | ((with_reducible refine qB ?_); refine qc ?_ ?_ <;> intro h_ <;> go_prune)
     | ((with_reducible refine qk 3 ?_); refine BigFrame.wpList_want rfl fun _ hK => Ab rfl rfl (by kernel_rfl) (Du (HV.out _ _ hS.ro.1) HY.out) (hK _ _ ?_))
     | ((with_reducible refine qK ?_); refine qL hS Tryz.underlying31 ?_)
     | ((with_reducible refine qK ?_); refine qL hS Tryz.underlying27 ?_)
     | (go_at_call 29; refine (G1 (N := N) k HP.out hS (fun D w h => HK.out _ _ h.1) (fun D w h => h.2) (fun D w h => HT.out _ _ h.1)).mono ?_; clear hS; rw [HVV.out]; rintro e w_ ⟨x, rfl, hS⟩; obtain ⟨u', rfl, hu'⟩ := Cw hS.ro.2)
     | ((with_reducible refine qA 10 ?_); refine qa hS #[.slice none 0 0] ?_; clear hS; intro g10 w_ hS)
     | ((with_reducible refine qm 27 ?_); (first | refine B7 hS 0 rfl _ _ _ rfl _ _ rfl rfl _ _ rfl (by kernel_rfl) (by kernel_rfl) (by first | (simpa using hu') | (simpa using hu)) ?_ | refine B7 hS 1 rfl _ _ _ rfl _ _ rfl rfl _ _ rfl (by kernel_rfl) (by kernel_rfl) (by first | (simpa using hu') | (simpa using hu)) ?_ | refine B7 hS 2 rfl _ _ _ rfl _ _ rfl rfl _ _ rfl (by kernel_rfl) (by kernel_rfl) (by first | (simpa using hu') | (simpa using hu)) ?_); clear hS; intro w_ hS; (try simp only [Act.put, Act.eval, zz, Value.cells] at hS)))
    refine ret3_cell Tryz.results18 rfl (hS.box 2 rfl) Tryz.underlying27 rfl (by kernel_rfl) rfl rfl rfl ?_
    exact ⟨_, N, j, false, rfl, Lib.hid (by rw [HR.out]; exact Cp HVV.out), (hS.sub (List.sublist_append_right [_, _, _, _] F)).mono (KS.out.and A6) fun D w h => ⟨h.1.1, h.1.2⟩⟩
   | some M =>
    go_wp2_with (first
     | ((with_reducible refine qB ?_); refine qc ?_ ?_ <;> intro h_ <;> go_prune)
     | ((with_reducible refine qk 3 ?_); refine BigFrame.wpList_want rfl fun _ hK => Ab rfl rfl (by kernel_rfl) (Du (HV.out _ _ hS.ro.1) HY.out) (hK _ _ ?_))
     | ((with_reducible refine qK ?_); refine qL hS Tryz.underlying31 ?_)
     | ((with_reducible refine qK ?_); refine qL hS Tryz.underlying27 ?_)
     | (go_at_call 29; refine (G1 (N := N) k HP.out hS (fun D w h => HK.out _ _ h.1) (fun D w h => h.2) (fun D w h => HT.out _ _ h.1)).mono ?_; clear hS; rw [HVV.out]; rintro e w_ ⟨x, rfl, hS⟩; obtain ⟨u', rfl, hu'⟩ := Cw hS.ro.2)
     | ((with_reducible refine qA 10 ?_); refine qa hS #[.slice none 0 0] ?_; clear hS; intro g10 w_ hS)
     | ((with_reducible refine qm 27 ?_); (first | refine B7 hS 0 rfl _ _ _ rfl _ _ rfl rfl _ _ rfl (by kernel_rfl) (by kernel_rfl) (by first | (simpa using hu') | (simpa using hu)) ?_ | refine B7 hS 1 rfl _ _ _ rfl _ _ rfl rfl _ _ rfl (by kernel_rfl) (by kernel_rfl) (by first | (simpa using hu') | (simpa using hu)) ?_ | refine B7 hS 2 rfl _ _ _ rfl _ _ rfl rfl _ _ rfl (by kernel_rfl) (by kernel_rfl) (by first | (simpa using hu') | (simpa using hu)) ?_); clear hS; intro w_ hS; (try simp only [Act.put, Act.eval, zz, Value.cells] at hS)))
    exact ⟨⟨j + 1, M, u', by go_num, hjl, hu', Lib.hid (by rw [HR.out]; exact Bx HVV.out), (hS.sub (List.sublist_cons_self _ _)).mono (KS.out.and A6) fun D w h => ⟨h.1.1, h.2⟩⟩, by simp [intOf]; omega⟩
  ·obtain rfl : j = l.length := by omega
   rw [List.drop_length] at HR
   go_wp2_with (first
    | ((with_reducible refine qB ?_); refine qc ?_ ?_ <;> intro h_ <;> go_prune)
    | ((with_reducible refine qK ?_); refine qL hS Tryz.underlying27 ?_)
    | ((with_reducible refine qm 27 ?_); (first | refine B7 hS 0 rfl _ _ _ rfl _ _ rfl rfl _ _ rfl (by kernel_rfl) (by kernel_rfl) (by simpa using hu) ?_ | refine B7 hS 1 rfl _ _ _ rfl _ _ rfl rfl _ _ rfl (by kernel_rfl) (by kernel_rfl) (by simpa using hu) ?_ | refine B7 hS 2 rfl _ _ _ rfl _ _ rfl rfl _ _ rfl (by kernel_rfl) (by kernel_rfl) (by simpa using hu) ?_); clear hS; intro w_ hS; (try simp only [Act.put, Act.eval, zz, Value.cells] at hS)))
   refine ret3_cell Tryz.results18 rfl (hS.box 1 rfl) Tryz.underlying27 rfl (by kernel_rfl) rfl rfl rfl ?_
   exact ⟨_, N, l.length, true, rfl, Lib.hid HR.out, (hS.sub (List.sublist_append_right [_, _, _] F)).mono (KS.out.and A6) fun D w h => h⟩
end
section
open Go.RowKit
attribute [local go_sem ↓] Go.wp_at_zero Go.wp_at_succ
set_option maxRecDepth 20000
set_option exponentiation.threshold 5000
theorem start_bytesF {W : World} {D : Nat -> Prop} {v : Value} {l : List Nat} (h : BI W) (hv : Sl W D 1 v l.length (F3 l)) : ∃ K : (Nat -> Prop) -> World -> Prop, (∀ D w, K D w -> BI w /\ D 0) /\ (∀ D w, K D w -> Sl w D 1 v l.length (F3 l)) /\ St W W [] K :=
 ⟨fun D w => (BI w /\ D 0) /\ Sl w D 1 v l.length (F3 l), fun _ _ h => h.1, fun _ _ h => h.2, St.start (D := fun _ => True) (CC.and (Aj (by decide))) ⟨⟨h, trivial⟩, hv.imp fun _ _ _ => trivial⟩⟩
theorem Hu (l : List Nat) : AZ (CG l) = B0 l := by simp [AZ, CG, B0]
theorem G8 (l : List Nat) : (CG l).length = l.length := by simp [CG]
set_option maxHeartbeats 8000000 in
theorem lfruns_any (v : Value) (l : List Nat) (W : World) (D : Nat -> Prop) (hl : ∀ x ∈ l, x < 256) (hv : Sl W D 1 v l.length (F3 l)) (hT : BI W) : Calls Tryz.prog 4 #[v] W (AB (fun x _ => x = .bool true) W) := by
 obtain ⟨K, kt, k1, hS⟩ := start_bytesF hT hv
 clear hv hT
 have HL := Lib.hid hl
 clear hl
 go_enter Tryz.func4, Tryz.ntmps4
 go_wp2_with (first
  | (go_at_call 13; refine (lawake32_any hS kt).mono ?_; clear hS; rintro e w_ ⟨rfl, hS⟩)
  | (go_at_call 14; refine (lmake31_any HL.out hS k1 kt).mono ?_; clear hS; rintro e w_ ⟨x, u, rfl, p, ⟨L, R, hM⟩, hS⟩; replace hM := Lib.hid hM; obtain ⟨xs, rfl, hx6, hx1⟩ := hS.ro.2.1.cells; replace hx6 := Lib.hid hx6; obtain ⟨us, rfl, hu6, hu1⟩ := hS.ro.2.2.cells; replace hu6 := Lib.hid hu6)
  | ((with_reducible refine qA 3 ?_); refine qa hS #[.int .i64 0, .pointer none, .slice none 0 0, .slice none 0 0, .slice none 0 0, .slice none 0 0] ?_; clear hS; intro g3 w_ hS)
  | ((with_reducible refine qA 4 ?_); refine qa hS #[.int .i64 0, .slice none 0 0, .int .u64 0, .slice none 0 0, .slice none 0 0, .slice none 0 0] ?_; clear hS; intro g4 w_ hS)
  | ((with_reducible refine qm 37 ?_); refine B7 hS 0 rfl _ _ _ rfl _ _ rfl rfl _ _ rfl (by rw [hu6.out]; kernel_rfl) (by rw [hu6.out]; rfl) hu1 ?_; clear hS; intro w_ hS; (try simp only [Act.put, Act.eval, zz, Value.cells] at hS))
  | ((with_reducible refine qm 31 ?_); refine B7 hS 1 rfl _ _ _ rfl _ _ rfl rfl _ _ rfl (by rw [hx6.out]; kernel_rfl) (by rw [hx6.out]; rfl) hx1 ?_; clear hS; intro w_ hS; (try simp only [Act.put, Act.eval, zz, Value.cells] at hS))
  | ((with_reducible refine qA 26 ?_); refine BigFrame.wpList_want rfl fun _ hK => Bd rfl rfl (hS.box 1 rfl) Tryz.underlying31 rfl (by rw [hx6.out]; kernel_rfl) (hK _ _ ?_)))
 refine (DC 64 (fun _ => by decide) hM.out.ok (by have := hM.out.rlen; omega) hS (fun D w h => h.2.1) (fun D w h => (kt _ _ h.1).1)).mono ?_
 clear hS
 rintro e w_ ⟨nn, f, pl, er, u, hF, rfl, hS⟩
 obtain ⟨rfl, hF2⟩ := fwd_well hM.out hM.out.check (by decide) hF
 clear hF
 obtain ⟨Ap, cp, rfl, hcap, _⟩ := hS.ro.2.shape
 cases f
 ·obtain ⟨rfl, -⟩ := (EN hF2).2.1 rfl
  go_wp2_with (first
   | ((with_reducible refine qA 6 ?_); refine qa hS #[.int .i64 0, .bool false, .slice none 0 0] ?_; clear hS; intro g6 w_ hS)
   | ((with_reducible refine qm 42 ?_); refine qS hS ?_; clear hS; intro w_ hS; (try simp only [Act.put, Act.eval, zz, Value.cells] at hS))
   | ((with_reducible refine qK ?_); refine qC hS ?_))
  go_ret
  exact AB.mk rfl hS.below
 ·obtain ⟨hg, s1, hr1, hrs1⟩ := (EN hF2).2.2 rfl
  have HRUN1 := Lib.hid hr1
  have HRS1 := Lib.hid hrs1
  have HPT := Lib.hid fun k => well_steps hF2 (k := k)
  have hpl : pl.length <= 64 := by
   obtain ⟨d, h1, ⟨j, q1, _, _, rfl⟩ | ⟨_, _, _, h, _⟩⟩ := hF2
   ·have := Fp (C3 p d).wf (j + 1) j (by omega) q1.2.1
    have h3 := Gg hM.out d
    have h4 := q1.2.1
    omega
   ·cases h
  clear hg hr1 hrs1 hF2
  go_wp2_with (first
   | ((with_reducible refine qA 6 ?_); refine qa hS #[.int .i64 0, .bool false, .slice none 0 0] ?_; clear hS; intro g6 w_ hS)
   | ((with_reducible refine qm 42 ?_); refine qS hS ?_; clear hS; intro w_ hS; (try simp only [Act.put, Act.eval, zz, Value.cells] at hS))
   | ((with_reducible refine qK ?_); refine qC hS ?_))
  obtain ⟨K8, k8, hS2⟩ : ∃ K8 : (Nat -> Prop) -> World -> Prop, Hid (∀ D w, K8 D w -> BI w /\ Ba w D (.agg xs) p /\ Sl w D 1 (.slice Ap pl.length cp) pl.length (B0 pl)) /\ St W w_ [.box g6 42 #[.int .i64 (nn : Nat), .bool true, .slice Ap pl.length cp], .box g4 37 us, .box g3 31 xs] K8 := ⟨_, Lib.hid fun D w h => ⟨(kt _ _ h.1.1).1, h.1.2.1, h.2⟩, hS⟩
  clear hS
  have hS := hS2
  clear hS2
  have hK8 := Lib.hid hS.stable
  go_loopw [48] (fun iv wr => ∃ j : Nat, iv = .int .i64 (j : Nat) /\ j <= pl.length /\ St W wr [.box g6 42 #[.int .i64 (nn : Nat), .bool true, .slice Ap pl.length cp], .box g4 37 us, .box g3 31 xs] K8) (fun iv _ => pl.length - (intOf iv).toNat)
  case atStart => exact ⟨0, rfl, by omega, hS⟩
  case round =>
   clear hS
   obtain ⟨j, rfl, hj, hS⟩ := hrel
   by_cases hjl : j < pl.length
   ·obtain ⟨N, hrun, hnr⟩ := HPT.out j hjl
    have HRUN := Lib.hid hrun
    have HNR := Lib.hid hnr
    clear hrun hnr
    have HLK : Hid (((CG pl).take j).length = j) := Lib.hid (by rw [List.length_take, G8]; omega)
    have HSL : Hid (∀ D w, K8 D w -> Sl w D 1 (.slice Ap j cp) ((CG pl).take j).length (AZ ((CG pl).take j))) := Lib.hid fun D w h => by
     rw [HLK.out, show AZ ((CG pl).take j) = (B0 pl).take j by rw [<- Hu]; simp [AZ]]
     exact sl_take (k8.out _ _ h).2.2 hj
    go_wp2_with (first | ((with_reducible refine qB ?_); refine qc ?_ ?_ <;> intro h_ <;> go_prune))
    have hJ0 : GJ W [.box g6 42 #[.int .i64 (nn : Nat), .bool true, .slice Ap pl.length cp], .box g4 37 us, .box g3 31 xs] 27 #[.slice none 0 0] (wr.drew, ⟨none, K8⟩) := hS.drew
    have hRr := @GR.refl W [.box g6 42 #[.int .i64 (nn : Nat), .bool true, .slice Ap pl.length cp], .box g4 37 us, .box g3 31 xs] 27 #[.slice none 0 0]
    have hRt := @GR.trans W [.box g6 42 #[.int .i64 (nn : Nat), .bool true, .slice Ap pl.length cp], .box g4 37 us, .box g3 31 xs] 27 #[.slice none 0 0]
    have hN0 := @GN.start 10 11 wr.drew K8
    clear hS
    refine DO (GR W [.box g6 42 #[.int .i64 (nn : Nat), .bool true, .slice Ap pl.length cp], .box g4 37 us, .box g3 31 xs] 27 #[.slice none 0 0]) (GN 10 11) (⟨none, K8⟩) hRr hRt [.i (.agg xs), .q g6 2, .i (.slice Ap pl.length cp), .n (j : Nat), .i (.slice Ap j cp), .s (fun v w => ∃ u, v = .tuple #[.agg #[u], .int .i64 (j : Nat), .bool true] /\ u.oneCell' = true /\ ∀ D w1, w.2.K D w1 -> A5 w1 D (.agg #[u]) N) fun v w w' h hb => by obtain ⟨u, e, e2, h⟩ := h; exact ⟨u, e, e2, fun D w1 h1 => h D w1 (hb.2.1 D w1 h1)⟩, .s (fun v w => ∃ u, v = .tuple #[.agg #[u], .int .i64 (j : Nat), .bool true] /\ u.oneCell' = true /\ ∀ D w1, w.2.K D w1 -> A5 w1 D (.agg #[u]) N) fun v w w' h hb => by obtain ⟨u, e, e2, h⟩ := h; exact ⟨u, e, e2, fun D w1 h1 => h D w1 (hb.2.1 D w1 h1)⟩, .s (fun v w => ∃ u, v = .agg #[u] /\ u.oneCell' = true /\ ∀ D w1, w.2.K D w1 -> A5 w1 D (.agg #[u]) N) fun v w w' h hb => by obtain ⟨u, e, e2, h⟩ := h; exact ⟨u, e, e2, fun D w1 h1 => h D w1 (hb.2.1 D w1 h1)⟩, .n (j : Nat), .b true, .s (fun v w => ∃ g o, v = .pointer (some ⟨g, 0, none⟩) /\ w.2.b = some (g, o)) fun v w w' h hb => hb.var h, .s (fun v w => ∃ g u, w.2.b = some (g, some #[u]) /\ u.oneCell' = true /\ ∀ D w1, w.2.K D w1 -> A5 w1 D (.agg #[u]) N) fun v w w' h hb => by obtain ⟨g, u, h1, h2, h3⟩ := h; exact ⟨g, u, hb.2.2.2 g _ h1, h2, fun D w1 k => h3 D w1 (hb.2.1 D w1 k)⟩, .n (j : Nat), .b true] ?_ ⟨?_, uF, uC (h := fun w hW hN => (hW.1 hJ0).cell 0 rfl 2 rfl), uM, ?_, ?_, uM, ?_, ?_, ?_, ?_, ?_, uA, uA, trivial⟩ ?_
    ·first | assumption | (intro i; (try dsimp only); split <;> first | trivial | assumption | (left; assumption))
    ·refine uG fun b__ w hW hN hE K hK => ?_
     have e3 : b__.eval (.tmp 3) = .pointer (some ⟨g3, 0, none⟩) := hE 3
     exact Bd rfl e3 ((hW.1 hJ0).box 2 rfl) Tryz.underlying31 rfl (by rw [hx6.out]; kernel_rfl) (hK _ _ rfl ⟨hRr _, fun _ _ h => h⟩)
    ·refine uG fun b__ w hW hN hE K hK => ?_
     have e54 := hE 54
     have e55 := hE 55
     exact Fu rfl Tryz.underlying40 ⟨1, by kernel_rfl⟩ e54 e55 (by omega) (hK _ _ rfl ⟨hRr _, fun _ _ h => h⟩)
    ·refine uG fun b__ w hW hN hE K hK => ?_
     have e52 := hE 52
     have e56 := hE 56
     refine BE rfl (by kernel_rfl) (by simp only [List.map_cons, List.map_nil, e52, e56]) (srun_any hM.out.links hM.out.ok (by rw [HLK.out]; omega) (hW.1 hJ0) (fun D w1 h => (k8.out _ _ (hW.2.1 D w1 h)).2.1) (fun D w1 h => HSL.out _ _ (hW.2.1 D w1 h)) (fun D w1 h => (k8.out _ _ (hW.2.1 D w1 h)).1)) fun e w' ⟨x, N1, n1, b1, he, hr1, hs⟩ => ⟨_, he, ?_⟩
     have hq := hr1.out.symm.trans HRUN.out
     simp only [Prod.mk.injEq] at hq
     obtain ⟨rfl, rfl, rfl⟩ := hq
     obtain ⟨u', rfl, h1⟩ := Cw hs.ro.2
     exact hK _ (w', { w.2 with K := _ }) ⟨u', rfl, h1, fun D w1 h => h.2⟩ (GK.more hs fun D w1 h => h.1)
    ·refine uG fun b__ w hW hN hE K hK => ?_
     have e51 := hE 51
     obtain ⟨u, hu, hu1, h1⟩ := e51
     exact C0 rfl hu rfl (hK _ _ ⟨u, rfl, hu1, h1⟩ ⟨hRr _, fun _ _ h => h⟩)
    ·refine uG fun b__ w hW hN hE K hK => ?_
     have e51 := hE 51
     obtain ⟨u, hu, hu1, h1⟩ := e51
     exact C0 rfl hu rfl (hK _ _ rfl ⟨hRr _, fun _ _ h => h⟩)
    ·refine uG fun b__ w hW hN hE K hK => ?_
     have e51 := hE 51
     obtain ⟨u, hu, hu1, h1⟩ := e51
     exact C0 rfl hu rfl (hK _ _ rfl ⟨hRr _, fun _ _ h => h⟩)
    ·refine uG fun b__ w hW hN hE K hK => ?_
     exact Hy rfl (by kernel_rfl) (by kernel_rfl) (hW.1 hJ0) (hN.1 rfl) fun g w' hs => hK _ (w', { w.2 with b := some (g, none) }) ⟨g, none, rfl, rfl⟩ (GK.made (hN.1 rfl) hs)
    ·refine uG fun b__ w hW hN hE K hK => ?_
     have e9 := hE 9
     have e58 := hE 58
     obtain ⟨g, o, hg, hgb⟩ := e9
     obtain ⟨u, hv, hu1, hset⟩ := e58
     obtain rfl : o = none := (by cases o with | none => rfl | some cs => exact absurd hgb (hN.2 rfl g cs))
     exact Hx rfl hg hv (hW.1 hJ0) hgb (by kernel_rfl) rfl (by simpa using hu1) fun w' hs => hK undef (w', { w.2 with b := some (g, some #[u]) }) ⟨g, u, rfl, hu1, hset⟩ (GK.put hgb hs)
    ·intro vs wz hW hT
     obtain ⟨e52, e53, e54, e55, e56, e57, e51, e58, e59, e60, e9, z11, e10, e11, -⟩ := hT
     have bx : (fun _ : Nat => True) 0 := trivial
     simp only [Ao, Act.put, zz, ze]
     obtain ⟨_, hst⟩ := z11
     obtain ⟨g9, o9, hg9, hgb⟩ := e9
     obtain ⟨gz, us2, hgb2, hus2, hset⟩ := hst
     obtain rfl : g9 = gz := by rw [hgb] at hgb2; injection hgb2 with h; injection h with h1 h2
     have hS : St W wz.1 [.box g9 27 #[us2], .box g6 42 #[.int .i64 (nn : Nat), .bool true, .slice Ap pl.length cp], .box g4 37 us, .box g3 31 xs] (fun D w => K8 D w /\ A5 w D (.agg #[us2]) N) := ((hW.1 hJ0).some hgb2).mono (hK8.out.and A6) fun D w h => ⟨hW.2.1 D w h, hset D w h⟩
     clear hW hJ0 hRr hRt hN0 hgb hgb2 hset e51 e52 e53 e54 e55 e56 e57 e58 e59 e60
     generalize wz.1 = wf at *
     simp only [show vs (9 : Nat) = _ from hg9]
     rw [e10, e11]
     clear e10 e11
     go_wp2_with (first
      | ((with_reducible refine qB ?_); refine qc ?_ ?_ <;> intro h_ <;> go_prune)
      | ((with_reducible refine qA 69 ?_); refine BigFrame.wpList_want rfl fun _ hK => Bd rfl rfl (hS.box 3 rfl) Tryz.underlying31 rfl (by rw [hx6.out]; kernel_rfl) (hK _ _ ?_))
      | ((with_reducible refine qA 70 ?_); refine BigFrame.wpList_want rfl fun _ hK => Bd rfl rfl (hS.box 0 rfl) Tryz.underlying27 rfl (by kernel_rfl) (hK _ _ ?_))
      | (go_at_call 19; refine (DY (k8.out _ _ hS.ro.1).2.1 hM.out.ok (k8.out _ _ hS.ro.1).1 hS.ro.2).mono ?_; rw [HNR.out]; rintro r_ w_ ⟨_, rfl, rfl, hb_⟩; replace hS := hS.ext hb_; clear hb_))
     exact ⟨⟨j + 1, by go_num, hjl, (hS.sub (List.sublist_cons_self _ _)).mono hK8.out fun D w h => h.1⟩, by simp [intOf]; omega⟩
   ·obtain rfl : j = pl.length := by omega
    go_wp2_with (first
     | ((with_reducible refine qB ?_); refine qc ?_ ?_ <;> intro h_ <;> go_prune)
     | ((with_reducible refine qA 75 ?_); refine BigFrame.wpList_want rfl fun _ hK => Bd rfl rfl (hS.box 2 rfl) Tryz.underlying31 rfl (by rw [hx6.out]; kernel_rfl) (hK _ _ ?_))
     | (go_at_call 18; refine (srun_any (l := CG pl) hM.out.links hM.out.ok (by rw [G8]; omega) hS (fun D w h => (k8.out _ _ h).2.1) (fun D w h => by rw [Hu, G8]; exact (k8.out _ _ h).2.2) (fun D w h => (k8.out _ _ h).1)).mono ?_; clear hS; rintro e w_ ⟨x, N1, n1, b1, rfl, hr1, hS⟩; (have hq := hr1.out.symm.trans HRUN1.out); simp only [Prod.mk.injEq] at hq; obtain ⟨hq1, rfl, rfl⟩ := hq; replace hq1 := Lib.hid hq1; clear hr1; obtain ⟨ux, rfl, hux⟩ := Cw hS.ro.2)
     | ((with_reducible refine qA 12 ?_); refine qa hS #[.slice none 0 0] ?_; clear hS; intro g12 w_ hS)
     | ((with_reducible refine qm 27 ?_); refine B7 hS 0 rfl _ _ _ rfl _ _ rfl rfl _ _ rfl (by kernel_rfl) (by kernel_rfl) (by simpa using hux) ?_; clear hS; intro w_ hS; (try simp only [Act.put, Act.eval, zz, Value.cells] at hS))
     | ((with_reducible refine qA 84 ?_); refine BigFrame.wpList_want rfl fun _ hK => Bd rfl rfl (hS.box 3 rfl) Tryz.underlying31 rfl (by rw [hx6.out]; kernel_rfl) (hK _ _ ?_))
     | ((with_reducible refine qA 85 ?_); refine BigFrame.wpList_want rfl fun _ hK => Bd rfl rfl (hS.box 0 rfl) Tryz.underlying27 rfl (by kernel_rfl) (hK _ _ ?_))
     | (go_at_call 19; refine (DY (k8.out _ _ hS.ro.1).2.1 hM.out.ok (k8.out _ _ hS.ro.1).1 hS.ro.2).mono ?_; rw [hq1.out, HRS1.out]; rintro r_ w_ ⟨_, rfl, rfl, hb_⟩; replace hS := hS.ext hb_; clear hb_)
     | ((with_reducible refine qK ?_); refine qC hS ?_))
    go_ret
    exact AB.mk rfl hS.below
end
section
open Go.RowKit Go.ChangeShapes Go.WideShapes
section
variable {H : Type} {enc : TypeId × Value -> H} {P : Program} {w : World} {base : Nat} {sp : Nat -> Bool} {held : Bool}
theorem sl_of_trod {t e : TypeId} {size fuel : Nat} {cs : List Value} {x : DataW H × List MemPlace} (ht : P.underlying t = some (.slice e)) (hc : P.cellsOf e = size) (hsz : 0 < size) (h : DataW.trod enc P w base sp held fuel t cs = some x) :
  ∃ v n xs, cs = [v] /\ Sl w (fun _ => True) size v n xs /\ ∀ k, k < n -> ∃ f' y, DataW.trod enc P w base sp held f' e ((xs.drop (k * size)).take size) = some y := by
 rcases DataW.trod_slice ht h with ⟨rfl, _⟩ | ⟨a, len, cap, elems, rest, n, _, rfl, _, hb, hl, hm, hlen, hel, _⟩
 ·exact ⟨_, 0, [], rfl, ⟨by simp, none, 0, rfl, Nat.le_refl _, Nat.zero_le _, fun h => by omega⟩, fun k hk => by omega⟩
 ·rw [hc] at hel
  have each : ∀ k, k < len -> ∃ ck y, w.cells? base (a.add (k * size)) size = some ck /\ DataW.trod enc P w base sp held n e ck = some y := by
   intro k hk
   have h1 := hel k hk
   rw [List.getElem?_eq_getElem (by omega)] at h1
   obtain ⟨ck, h2, h3⟩ := Option.bind_eq_some_iff.1 h1
   exact ⟨ck, _, h2, h3⟩
  have hadd : ∀ i j, (a.add i).add j = a.add (i + j) := by
   intro i j
   unfold Addr.add
   by_cases h1 : i = 0 <;> by_cases h2 : j = 0 <;> simp [h1, h2, Nat.add_assoc]
  have cell : ∀ j, j < len * size -> ∃ x, w.cell? (a.add j) = some x := by
   intro j hj
   have hk : j / size < len := (Nat.div_lt_iff_lt_mul hsz).2 hj
   obtain ⟨ck, y, h1, h2⟩ := each _ hk
   obtain ⟨_, h3, h4⟩ := World.cells?_some h1
   have h5 := h4 (j % size) (Nat.mod_lt _ hsz)
   rw [hadd, Nat.mul_comm, Nat.div_add_mod] at h5
   rw [h5, List.getElem?_eq_getElem (by rw [h3]; exact Nat.mod_lt _ hsz)]
   exact ⟨_, rfl⟩
  refine ⟨.slice (some a) len cap, len, (List.range (len * size)).map fun j => (w.cell? (a.add j)).getD undef, rfl, ⟨by simp, some a, cap, rfl, hl, hm, fun h0 => ?_⟩, fun k hk => ?_⟩
  ·obtain ⟨x0, hx0⟩ := cell 0 (Nat.mul_pos h0 hsz)
   obtain ⟨b, o, s⟩ := a
   have hs : s = none := cell_spot hx0
   subst hs
   refine ⟨b, o, rfl, trivial, ?_, fun j x hx => ?_⟩
   ·have := hx0
    unfold World.cell? at this
    simp only [Addr.add] at this
    rcases Nat.lt_or_ge b w.heap.size with hlt | hge
    ·exact hlt
    ·simp [Array.getElem?_eq_none hge] at this
   ·simp only [List.getElem?_map, Option.map_eq_some_iff] at hx
    obtain ⟨j', hj', rfl⟩ := hx
    have hjl := (List.getElem?_eq_some_iff.1 hj').1
    rw [List.getElem?_range (by simpa using hjl)] at hj'
    obtain rfl := Option.some.inj hj'
    obtain ⟨y, hy⟩ := cell j (by simpa using hjl)
    rw [hy]
    have e : (⟨b, o, none⟩ : Addr).add j = ⟨b, o + j, none⟩ := by
     unfold Addr.add; split <;> simp [*]
    rw [e] at hy
    exact hy
  ·obtain ⟨ck, y, h1, h2⟩ := each k hk
   obtain ⟨_, h3, h4⟩ := World.cells?_some h1
   refine ⟨n, y, ?_⟩
   rw [<- h2]
   congr 1
   have hle : k * size + size <= len * size := by
    rw [<- Nat.succ_mul]; exact Nat.mul_le_mul_right _ hk
   apply List.ext_getElem?
   intro i
   rcases Nat.lt_or_ge i size with hi | hi
   ·rw [List.getElem?_take_of_lt hi, List.getElem?_drop, List.getElem?_map, List.getElem?_range (by omega)]
    have h5 := h4 i hi
    rw [hadd] at h5
    simp only [Option.map_some]
    rw [h5, List.getElem?_eq_getElem (by omega)]
    simp
   ·rw [List.getElem?_eq_none (by simp; omega), List.getElem?_eq_none (by omega)]
end
theorem u8_nat {n : Int} (h : (Lit.int .u8 n).wf = true) : ∃ m : Nat, n = (m : Int) /\ m < 256 := by
 have := bounds_u8 h
 exact ⟨n.toNat, by omega, by omega⟩
end
section
open Go.ChangeShapes Go.WideShapes Go.ChangeAt Go.RowKit
set_option maxRecDepth 20000 in
theorem bytes_open {H : Type} {enc : TypeId × Value -> H} {W : World} {r : Reach} {b0 base : Nat} {sp : Nat -> Bool} {held : Bool} {v : Value} {d : DataW H} {p : List MemPlace} (hv : Value.okWide Tryz.prog W r b0 22 v) (h : DataW.Trod enc Tryz.prog W base sp held 22 v d p) :
  ∃ l : List Nat, (∀ x ∈ l, x < 256) /\ Sl W (fun _ => True) 1 v l.length (F3 l) := by
 obtain ⟨a0, len0, cap0, rfl⟩ := okWide_slice Tryz.underlying22 hv
 obtain ⟨fuel, hf⟩ := h
 obtain ⟨v, n, xs, e, hs, he⟩ := sl_of_trod Tryz.underlying22 (size := 1) (by kernel_rfl) (by decide) hf
 have hl := hs.1
 have : ∃ zs : List Nat, (∀ x ∈ zs, x < 256) /\ xs = F3 zs := by
  have : ∀ v ∈ xs, ∃ z : Nat, z < 256 /\ v = .int .u8 (z : Nat) := by
   intro v hv
   obtain ⟨k, hk, hkv⟩ := List.mem_iff_getElem.1 hv
   obtain ⟨f', y, hy⟩ := he k (by omega)
   obtain ⟨z, hz, _, hw⟩ := DataW.trod_int Tryz.underlying5 hy
   obtain ⟨m, rfl, hm⟩ := u8_nat hw
   have h0 := congrArg (·[0]?) hz
   simp only [Nat.mul_one, List.getElem?_take_of_lt Nat.zero_lt_one, List.getElem?_drop, Nat.add_zero] at h0
   rw [List.getElem?_eq_getElem hk, hkv] at h0
   exact ⟨m, hm, by simpa using h0⟩
  clear hs he hl
  induction xs with
  | nil => exact ⟨[], fun x hx => by simp at hx, rfl⟩
  | cons a r ih =>
   obtain ⟨zs, hzs, rfl⟩ := ih fun v hv => this v (List.mem_cons_of_mem _ hv)
   obtain ⟨z, hz, rfl⟩ := this a List.mem_cons_self
   exact ⟨z :: zs, fun x hx => by rcases List.mem_cons.1 hx with rfl | hx; exact hz; exact hzs x hx, rfl⟩
 obtain ⟨zs, hzs, rfl⟩ := this
 have hz : zs.length = n := by simpa [F3] using hl
 obtain rfl : v = .slice a0 len0 cap0 := by simpa [Value.cells] using e.symm
 exact ⟨zs, hzs, hz ▸ hs⟩
end
section
open Go.RowKit Go.ChangeShapes Go.WideShapes
theorem boxF_of_reads {w : World} {n : String} {g : Nat} {t e : TypeId} {m : Nat} {k : IntKind} {zs : List Int} (hg : Tryz.prog.globalNamed n = some g) (hty : (Tryz.prog.globals[g]?).map (·.type) = some t)
  (ht : Tryz.prog.underlying t = some (.array m e)) (he : Tryz.prog.underlying e = some (.int k)) (hce : Tryz.prog.cellsOf e = 1) (hct : Tryz.prog.cellsOf t = m) (h : Lib.VarReads Tryz.prog w n (Lib.tabData k zs)) :
  ∃ t, BoxF w g t (zs.map fun z => Value.int k z).toArray := by
 obtain ⟨g', t', cs, fuel, p, hg', hty', hvar, hd⟩ := h
 obtain rfl := Option.some.inj (hg.symm.trans hg')
 obtain rfl := Option.some.inj (hty.symm.trans hty')
 have hcs := Lib.cells_of_tab ht he hce hct hd
 simp only [World.var?, hg, Option.bind_some] at hvar
 split at hvar
 ·rename_i cs' t'' f heq
  obtain rfl := Option.some.inj hvar
  refine ⟨(t'', f), ?_⟩
  rw [<- hcs]
  exact heq
 ·cases hvar
end
section
open Go.RowKit Go.ChangeShapes Go.WideShapes
theorem dtab_of_reads {w : World} (h1 : Lib.VarReads Tryz.prog w "math/bits.deBruijn64tab" Rows.laid_math_bits_deBruijn64tab) : BI w := by
 have e1 : (Rows.laid_math_bits_deBruijn64tab : DataW Unit) = Lib.tabData .u8 (dbL.map fun x : Nat => (x : Int)) := by kernel_rfl
 rw [e1] at h1
 obtain ⟨t, b1⟩ := boxF_of_reads (g := 0) (by kernel_rfl) (t := 170) (by kernel_rfl) Tryz.underlying170 Tryz.underlying5 (by kernel_rfl) (by kernel_rfl) h1
 have e : (List.map (fun z => Value.int .u8 z) (dbL.map fun x : Nat => (x : Int))) = F3 dbL := by simp [F3]
 rw [e] at b1
 intro q hq
 rw [b1.cell, List.getElem?_toArray]
 exact u8s_at _ _ hq
end
section
open Go.ChangeShapes Go.WideShapes Go.ChangeAt Go.RowKit
theorem Ga (W : World) (h : laidMetH Tryz.prog Rows.forwardRunsRow.laid W) : BI W := by
 have h' : laidMetH Tryz.prog [("math/bits.deBruijn64tab", Rows.laid_math_bits_deBruijn64tab)] W := h
 rw [MakeChecks.laidMetH_plain _ _ _ (by kernel_rfl)] at h'
 exact dtab_of_reads (Lib.laidMet.reads h' (.head _))
noncomputable def frunsStart (os : Os) : World := World.laidAll Tryz.prog os Rows.forwardRunsRow.laid
theorem Gy (os : Os) (args : Array Value) : laidMetH Tryz.prog Rows.forwardRunsRow.laid ((frunsStart os).forCall (fun _ _ => 0) ⟨#[], args, []⟩).memory := by
 rw [MakeChecks.laidMetH_plain _ _ _ (by kernel_rfl)]
 exact laidMet_laidAll _ (by kernel_rfl) (by kernel_rfl)
theorem fruns_own : ownKnob Tryz.prog.godebug = none := by kernel_rfl
theorem fruns_laidOut : laidOutB Tryz.prog = true := by kernel_rfl
set_option maxRecDepth 100000 in
theorem fruns_lifted (os : Os) (started : os.Started) (H : Type) (enc : TypeId × Value -> H) :
  ReturnsInHanded {} Tryz.checked os 4 .any (fun w args => (Rows.forwardRunsSpec.pre enc Tryz.prog Tryz.f4 [] false w args /\ laidMetH Tryz.prog Rows.forwardRunsRow.laid w) /\ sizedMet enc Tryz.prog Tryz.f4 (OpenSpec.ofChange Rows.forwardRunsSpec) false w args)
   (Rows.forwardRunsSpec.post enc Tryz.prog Tryz.f4 false true false false) := by
 refine returnsInHanded_of_change_and (C := Tryz.checked) (X := fun w _ => laidMetH Tryz.prog Rows.forwardRunsRow.laid w) (fun _ _ _ hh h => h.of_heap hh) fruns_own started (by kernel_rfl) Tryz.func4
  (ChangeSpec.witness_shaped (enc := enc) (C := Tryz.checked) (os := os) (X := fun w _ => laidMetH Tryz.prog Rows.forwardRunsRow.laid w) false (frunsStart os) #[.slice none 0 0] 8 (World.laidAll_os _ _ _) (World.shaped_of_ZipB (by kernel_rfl) (by kernel_rfl)) (by kernel_rfl) (by kernel_rfl) (by kernel_rfl) (Gy os _)) ?_
 intro W base args ds gs before hval0 hW _ _ hL _
 have hval : ∀ (j : Nat) t v, Tryz.f4.params[j]? = some t -> args[j]? = some v -> Value.okWide Tryz.prog W .any base t v := hval0
 have hW' := hW
 obtain ⟨p, q, hA0, hV, rfl, hfz, hnd⟩ := hW
 have hA : DataW.TrodAll enc Tryz.prog W 0 (fun _ => true) true Tryz.f4.params.toList args.toList ds p := hA0
 rw [Tryz.params4] at hA hval
 obtain ⟨v0, d0, rfl, rfl, h0⟩ := trodAll_one hA
 obtain ⟨rfl, rfl⟩ := trodVars_none hV
 obtain ⟨l, hl, hs⟩ := bytes_open (hval 0 _ v0 rfl rfl) h0
 have hT := Ga W hL
 have lt : ∀ z ∈ p, z.block < W.heap.size := fun z hz => by simpa using hW'.lt z (by simpa using hz)
 refine (lfruns_any v0 l W _ hl hs hT).mono fun E W' he => ?_
 obtain ⟨r, rfl, rfl, hb⟩ := he
 refine ⟨_, rfl, _, _, _, [], p, [], hW', ?_, ?_, ?_, hb.frame _, fun h => by cases h⟩
 ·exact trodAll_mk1 (shut_bool Tryz.underlying4 true)
 ·rw [Tryz.params4]
  exact trodAll_mk1 (Below.trod fruns_laidOut (by kernel_rfl) (of_decide_eq_true (by kernel_rfl)) h0 hb fun z hz => lt z (hz))
 ·rfl
theorem fruns_holds : Rows.ForwardRunsSaid :=
 OpenClaim.holds_of_wide 4 Tryz.f4 rfl rfl rfl rfl rfl rfl rfl ⟨rfl, rfl, rfl, rfl, rfl⟩ rfl rfl rfl rfl rfl (by kernel_rfl) Tryz.func4 (by kernel_rfl)
  (of_decide_eq_true (by kernel_rfl)) (by unfold Func.isWrapper; rw [if_neg (by decide +kernel)]; exact ⟨rfl, rfl⟩)
  (fun os started H enc _ => fruns_lifted os started H enc)
end
section
open Go
theorem fruns_card : Rows.ForwardRunsCardSaid :=
 Claim7.holds_tied_plain_at .later [] [.data] true (true, "02775d1a799b58bb7332b1d57ac71e2e43109816e55cef64a44d674fc24bfe71") false
  fruns_holds (fun _ h => by cases h) (by kernel_rfl) (fun _ h => by cases h) forwardRuns_row_tie rfl ⟨rfl, rfl⟩ (by kernel_rfl) rfl
  (fun f fn hf hfn => by
   obtain rfl : f = 4 := Option.some.inj ((show Tryz.prog.funcNamed "arbac/arbaclaw32.ForwardRuns" = some 4 by kernel_rfl).symm.trans hf) |>.symm
   obtain rfl : fn = Tryz.f4 := (Option.some.inj (Tryz.func4.symm.trans hfn)).symm
   exact ⟨by kernel_rfl, fun j t ht => by
    rw [Tryz.params4] at ht
    have h3 : t = 22 := by
     rcases j with _ | j
     ·simp at ht; simp [<- ht]
     ·simp at ht
    rcases h3 with rfl
    ·exact (show Tryz.prog.wantsStandIn 22 = false by kernel_rfl)⟩)
  (by kernel_rfl)
end
end Go.Proofs.YtpcioefppjljoaaGreatDoor
namespace Go.Proofs.YtpcioefppjljoaaGreatDoor
#print axioms fruns_card
end Go.Proofs.YtpcioefppjljoaaGreatDoor
