/-
  The card of SaturateSearches.
-/
import Derived.Deep.LoopGhost
import Derived.Test.YtjjhcdkamohgnaaGreatDoorRows
import Derived.ProofKit
import Derived.OpenShut
import Derived.Lib.LaidU8
import Derived.Lay
import Derived.MakeChecks
import Derived.LaidLaws
import Derived.Stop.Joined
import Derived.Test.YtjjhcdkamohgnaaGreatDoorCards
import Derived.Test.YtjjhcdkamohgnaaGreatDoorTie
import Derived.SevenTiedAt
import Derived.Test.YtjjhcdkamohgnaaGreatDoorTse4
namespace Go.Proofs.YtjjhcdkamohgnaaGreatDoor
section
open Go.RowKit
attribute [local go_sem ↓] Go.wp_at_zero Go.wp_at_succ
set_option maxRecDepth 20000
set_option exponentiation.threshold 5000
theorem box_is {w : World} {g : Nat} {t : TypeId} {cs : Array Value} (h : Ch w g t cs) (h0 : 0 < cs.size) : BQ w (fun _ => True) g cs := ⟨trivial, h.lt, h0, fun j x hx => (h.cell j).trans hx⟩
set_option maxHeartbeats 1000000 in
theorem sat1_any {w : World} {E E2 : Nat -> Prop} {D1 D2 D3 : Nat -> Prop} {x sv cv : Value} {z : AK} {N C g h : Nat} (hx : ED w D1 x z) (hb : BQ w E g #[sv]) (hs : A6 w D2 (.agg #[sv]) N) (hb2 : BQ w E2 h #[cv]) (hc : A6 w D3 (.agg #[cv]) C) :
  Calls Tryz.prog 98 #[x, .pointer (some ⟨g, 0, none⟩), .pointer (some ⟨h, 0, none⟩)] w (AC (fun r _ => r = .bool ((!z.revoke && !Bo N z.target) && (z.yes &&& C == z.yes))) w) := by
 obtain ⟨a, b, rfl, ha, hb1⟩ := hx
 obtain ⟨zr, y, n, rt, ro⟩ := z
 dsimp only at ha hb1 ⊢
 obtain ⟨S1, l1, d1, rfl⟩ := hs.shape
 obtain ⟨S2, l2, d2, rfl⟩ := hc.shape
 obtain ⟨A, m, c, rfl⟩ := ha.shape
 obtain ⟨B, k, d, rfl⟩ := hb1.shape
 clear hb1
 obtain ⟨K, ka, kb, kc, kb2, kc2, hS⟩ : ∃ K : (Nat -> Prop) -> World -> Prop, (∀ D w, K D w -> A6 w D (.agg #[.slice A m c]) y) /\ (∀ D w, K D w -> BQ w D g #[.slice S1 l1 d1]) /\ (∀ D w, K D w -> A6 w D (.agg #[.slice S1 l1 d1]) N) /\ (∀ D w, K D w -> BQ w D h #[.slice S2 l2 d2]) /\ (∀ D w, K D w -> A6 w D (.agg #[.slice S2 l2 d2]) C) /\ St w w [] K :=
  ⟨fun D w => A6 w D (.agg #[.slice A m c]) y /\ (BQ w D g #[.slice S1 l1 d1] /\ A6 w D (.agg #[.slice S1 l1 d1]) N) /\ BQ w D h #[.slice S2 l2 d2] /\ A6 w D (.agg #[.slice S2 l2 d2]) C, fun _ _ h => h.1, fun _ _ h => h.2.1.1, fun _ _ h => h.2.1.2, fun _ _ h => h.2.2.1, fun _ _ h => h.2.2.2, St.start (D := fun _ => True) (A5.and ((AU.and A5).and (AU.and A5))) ⟨ha.imp fun _ _ _ => trivial, ⟨AU E _ w w hb (Nat.le_refl _) (fun _ _ _ _ h => h) fun _ _ _ _ => trivial, hs.imp fun _ _ _ => trivial⟩, AU E2 _ w w hb2 (Nat.le_refl _) (fun _ _ _ _ h => h) fun _ _ _ _ => trivial, hc.imp fun _ _ _ => trivial⟩⟩
 clear ha hb hs hb2 hc
 obtain ⟨q1, hq1⟩ : ∃ q1, Bo N rt = q1 := ⟨_, rfl⟩
 obtain ⟨q2, hq2⟩ : ∃ q2, (y &&& C == y) = q2 := ⟨_, rfl⟩
 rw [hq1, hq2]
 have HQ1 := Lib.hid hq1
 have HQ2 := Lib.hid hq2
 clear hq1 hq2
 go_enter Tryz.func98, Tryz.ntmps98
 cases zr <;> cases q1
 all_goals
  go_wp2_with (first
   | ((with_reducible refine qA 3 ?_); refine Ak hS rfl _ _ rfl (.agg #[.bool _, .slice A m c, .slice B k d, .int .i64 rt, .int .i64 ro]) _ rfl rfl ?_; clear hS; intro g3 w_ hS; (try simp only [Act.put, Act.eval, zz, Value.cells] at hS))
   | ((with_reducible refine qk 27 ?_); first
      | (refine BigFrame.wpList_want rfl fun _ hK => AM (cs := [.slice S1 l1 d1]) rfl rfl (IR ((kb _ _ hS.ro).cell 0 rfl)) Tryz.underlying27 rfl (by kernel_rfl) (hK _ _ ?_))
      | (refine BigFrame.wpList_want rfl fun _ hK => AM (cs := [.slice S2 l2 d2]) rfl rfl (IR ((kb2 _ _ hS.ro).cell 0 rfl)) Tryz.underlying27 rfl (by kernel_rfl) (hK _ _ ?_)))
   | ((with_reducible refine qk 27 ?_); first | (refine A7 hS 0 rfl _ _ rfl _ _ rfl _ _ rfl _ (by first | rfl | assumption) Tryz.underlying27 rfl (by kernel_rfl) ?_) | (refine A7 hS 1 rfl _ _ rfl _ _ rfl _ _ rfl _ (by first | rfl | assumption) Tryz.underlying27 rfl (by kernel_rfl) ?_) | (refine A7 hS 2 rfl _ _ rfl _ _ rfl _ _ rfl _ (by first | rfl | assumption) Tryz.underlying27 rfl (by kernel_rfl) ?_) | (refine A7 hS 3 rfl _ _ rfl _ _ rfl _ _ rfl _ (by first | rfl | assumption) Tryz.underlying27 rfl (by kernel_rfl) ?_) | (refine A7 hS 4 rfl _ _ rfl _ _ rfl _ _ rfl _ (by first | rfl | assumption) Tryz.underlying27 rfl (by kernel_rfl) ?_) | (refine A7 hS 5 rfl _ _ rfl _ _ rfl _ _ rfl _ (by first | rfl | assumption) Tryz.underlying27 rfl (by kernel_rfl) ?_))
   | ((with_reducible refine qK ?_); refine qC hS ?_)
   | (go_at_call 47; refine (CE _ N rt _ _ (kc _ _ hS.ro)).mono ?_; rw [HQ1.out]; rintro r_ w_ ⟨_, rfl, rfl, hb_⟩; replace hS := hS.ext hb_; clear hb_)
   | (go_at_call 22; refine (En _ _ y C _ _ _ (ka _ _ hS.ro) (kc2 _ _ hS.ro)).mono ?_; rw [HQ2.out]; rintro r_ w_ ⟨_, rfl, rfl, hb_⟩; replace hS := hS.ext hb_; clear hb_))
  go_ret
  exact AC.mk rfl hS.below
set_option maxHeartbeats 4000000 in
theorem ER {w0 w : World} {F : List Af} {K : (Nat -> Prop) -> World -> Prop} {v : Value} {p : Ae} {L : List (Nat × Nat)} (hl : p.links = some L) (hP : p.Ok) (hTG : Df p.rules) (hS : St w0 w F K) (kp : ∀ D w, K D w -> Bt w D v p) (kt : ∀ D w, K D w -> Bp w) :
  Calls Tryz.prog 55 #[v] w fun e w' => ∃ x u, e = .returned (.tuple #[x, u]) /\ St w0 w' (.own u 3 1 (satM L p).2.length (AF (satM L p).2) :: F) fun D w => K D w /\ A6 w D x (satM L p).1 := by
 obtain ⟨R, lk, st, rl, nl, gl⟩ := p
 obtain rfl : lk = some L := hl
 obtain ⟨lp, s, rv, nv, gv, rfl, h1, h2, h3, h4, h5⟩ := kp _ _ hS.ro
 dsimp only at h1 h2 h3 h4 h5
 obtain ⟨q, o, rfl, -⟩ := id h1
 obtain ⟨Cs, ns, cs, rfl⟩ := h2.shape
 obtain ⟨Ar, cr, rfl, _, _⟩ := h3.shape
 obtain ⟨An, cn, rfl, _, _⟩ := h4.shape
 obtain ⟨Ag, cg, rfl, _, _⟩ := h5.shape
 obtain ⟨KC, kc, hS2⟩ : ∃ KC : (Nat -> Prop) -> World -> Prop, Hid (∀ D w, KC D w -> K D w /\ GU w D (.pointer (some ⟨q, 0, none⟩)) (some L) /\ A6 w D (.agg #[.slice Cs ns cs]) st /\ Bm w D (.slice Ar rl.length cr) rl) /\ St w0 w F KC := ⟨_, Lib.hid fun D w h => ⟨h.1, h.2.1, h.2.2.1, h.2.2.2⟩, hS.add (D := D8 F) (BZ.and (A5.and Be)) ⟨h1, h2, h3⟩ fun _ h _ => h⟩
 have KS := Lib.hid hS.stable
 clear hS h1 h2 h3 h4 h5
 have hS := hS2
 clear hS2
 have KSC := Lib.hid hS.stable
 have HP := Lib.hid hP
 have HK := Lib.hid kp
 have HT := Lib.hid kt
 clear hP kp kt
 have hrl : rl.length <= 100000 := HP.out.rules
 have HTG := Lib.hid hTG
 clear hTG
 have HH := Lib.hid (HP.out.links L rfl).1
 have k0 := Lib.hid fun D w h => (kc.out D w h).1
 have kh := Lib.hid fun D w h => (kc.out D w h).2.1
 have kr := Lib.hid fun D w h => (kc.out D w h).2.2.2
 obtain ⟨SM, hSM⟩ : ∃ SM, satM L ⟨R, some L, st, rl, nl, gl⟩ = SM := ⟨_, rfl⟩
 rw [hSM]
 replace hSM := Lib.hid hSM
 go_enter Tryz.func55, Tryz.ntmps55
 go_wp2_with (first
  | ((with_reducible refine qA 1 ?_); refine Ak hS rfl _ _ rfl (.agg #[.int .i64 R, .pointer (some ⟨q, 0, none⟩), .slice Cs ns cs, .slice Ar rl.length cr, .slice An nl.length cn, .slice Ag gl.length cg]) _ rfl rfl ?_; clear hS; intro g1 w_ hS; (try simp only [Act.put, Act.eval, zz, Value.cells] at hS))
  | ((with_reducible refine qA 2 ?_); refine qa hS #[.slice none 0 0] ?_; clear hS; intro g2 w_ hS)
  | ((with_reducible refine qA 4 ?_); refine qa hS #[.slice none 0 0] ?_; clear hS; intro g4 w_ hS)
  | ((with_reducible refine qk 27 ?_); first | (refine A7 hS 0 rfl _ _ rfl _ _ rfl _ _ rfl _ (by first | rfl | assumption) Tryz.underlying27 rfl (by kernel_rfl) ?_) | (refine A7 hS 1 rfl _ _ rfl _ _ rfl _ _ rfl _ (by first | rfl | assumption) Tryz.underlying27 rfl (by kernel_rfl) ?_) | (refine A7 hS 2 rfl _ _ rfl _ _ rfl _ _ rfl _ (by first | rfl | assumption) Tryz.underlying27 rfl (by kernel_rfl) ?_) | (refine A7 hS 3 rfl _ _ rfl _ _ rfl _ _ rfl _ (by first | rfl | assumption) Tryz.underlying27 rfl (by kernel_rfl) ?_) | (refine A7 hS 4 rfl _ _ rfl _ _ rfl _ _ rfl _ (by first | rfl | assumption) Tryz.underlying27 rfl (by kernel_rfl) ?_) | (refine A7 hS 5 rfl _ _ rfl _ _ rfl _ _ rfl _ (by first | rfl | assumption) Tryz.underlying27 rfl (by kernel_rfl) ?_))
  | ((with_reducible refine qM ?_); (first | refine qS hS ?_ | refine qT hS ?_); clear hS; intro w_ hS; (try simp only [Act.put, Act.eval, zz, Value.cells] at hS)))
 replace hS := hS.nil 3 1
 go_loopg [5] (Dr st rl) (fun k uw wr => ∃ (n : Nat) (u x : Value) (N : Nat) (us : List Int), u = uw /\ Dr N rl <= k /\ us.length <= rl.length /\ x.oneCell' = true /\ Hid (satS L ⟨R, some L, st, rl, nl, gl⟩ n = (N, us) /\ us.length = n) /\ St w0 wr (.own u 3 1 us.length (AF us) :: .box g4 27 #[x] :: .box g2 27 #[.slice none 0 0] :: .box g1 31 #[.int .i64 R, .pointer (some ⟨q, 0, none⟩), .slice Cs ns cs, .slice Ar rl.length cr, .slice An nl.length cn, .slice Ag gl.length cg] :: F) (fun D w => KC D w /\ A6 w D (.agg #[x]) N))
 case atStart => exact ⟨0, _, _, st, [], rfl, Nat.le_refl _, by simp, rfl, Lib.hid ⟨rfl, rfl⟩, hS.mono (KSC.out.and A5) fun D w h => ⟨h, (kc.out _ _ h).2.2.1⟩⟩
 case round =>
  clear hS
  obtain ⟨n, u, x, N, us, rfl, hgk, hul, hx1, HI, hS⟩ := hrel
  have HGK := Lib.hid hgk
  clear hgk
  obtain ⟨Au, cu, rfl, _, _⟩ := Bl (hS.own 0 rfl)
  go_wp2_with (first
   | ((with_reducible refine qk 27 ?_); first | (refine A7 hS 0 rfl _ _ rfl _ _ rfl _ _ rfl _ (by first | rfl | assumption) Tryz.underlying27 rfl (by kernel_rfl) ?_) | (refine A7 hS 1 rfl _ _ rfl _ _ rfl _ _ rfl _ (by first | rfl | assumption) Tryz.underlying27 rfl (by kernel_rfl) ?_) | (refine A7 hS 2 rfl _ _ rfl _ _ rfl _ _ rfl _ (by first | rfl | assumption) Tryz.underlying27 rfl (by kernel_rfl) ?_) | (refine A7 hS 3 rfl _ _ rfl _ _ rfl _ _ rfl _ (by first | rfl | assumption) Tryz.underlying27 rfl (by kernel_rfl) ?_) | (refine A7 hS 4 rfl _ _ rfl _ _ rfl _ _ rfl _ (by first | rfl | assumption) Tryz.underlying27 rfl (by kernel_rfl) ?_) | (refine A7 hS 5 rfl _ _ rfl _ _ rfl _ _ rfl _ (by first | rfl | assumption) Tryz.underlying27 rfl (by kernel_rfl) ?_))
   | ((with_reducible refine qK ?_); refine qC hS ?_)
   | (go_at_call 36; refine (Hk (kh.out _ _ hS.ro.1) (HT.out _ _ (k0.out _ _ hS.ro.1)) HH.out hS.ro.2).mono ?_; rintro r_ w_ ⟨_, rfl, h1, hb_⟩; replace hS := hS.ret hb_ A5 h1; clear h1 hb_; obtain ⟨y, rfl, hy1⟩ := Cg hS.ro.2)
   | ((with_reducible refine qA 6 ?_); refine qa hS #[.slice none 0 0] ?_; clear hS; intro g6 w_ hS)
   | ((with_reducible refine qm 27 ?_); (first | refine AX hS 0 rfl _ _ _ rfl _ _ rfl rfl _ _ rfl (by kernel_rfl) (by kernel_rfl) (by simpa using hy1) ?_ | refine AX hS 1 rfl _ _ _ rfl _ _ rfl rfl _ _ rfl (by kernel_rfl) (by kernel_rfl) (by simpa using hy1) ?_ | refine AX hS 2 rfl _ _ _ rfl _ _ rfl rfl _ _ rfl (by kernel_rfl) (by kernel_rfl) (by simpa using hy1) ?_ | refine AX hS 3 rfl _ _ _ rfl _ _ rfl rfl _ _ rfl (by kernel_rfl) (by kernel_rfl) (by simpa using hy1) ?_); clear hS; intro w_ hS; (try simp only [Act.put, Act.eval, zz, Value.cells] at hS)))
  refine (idxrk_any _ rl 98 #[] #[.pointer (some ⟨g4, 0, none⟩), .pointer (some ⟨g6, 0, none⟩)] (candB L N) (by kernel_rfl) hS (fun D w h => kr.out _ _ h.1.1) fun x' z w' _ ⟨F', h⟩ => sat1_any h.ro.2 (box_is (h.holds (.box g4 27 #[x]) (by simp)).2 (by simp)) h.ro.1.1.2 (box_is (h.holds (.box g6 27 #[y]) (by simp)).2 (by simp)) h.ro.1.2).mono ?_
  clear hS
  rintro r_ w_ ⟨rfl, hS⟩
  replace hS := hS.sub (List.sublist_cons_self _ _)
  obtain ⟨KX, kx, hS2⟩ : ∃ KX : (Nat -> Prop) -> World -> Prop, Hid (∀ D w, KX D w -> KC D w /\ A6 w D (.agg #[x]) N) /\ St w0 w_ (.own (.slice Au us.length cu) 3 1 us.length (AF us) :: .box g4 27 #[x] :: .box g2 27 #[.slice none 0 0] :: .box g1 31 #[.int .i64 R, .pointer (some ⟨q, 0, none⟩), .slice Cs ns cs, .slice Ar rl.length cr, .slice An nl.length cn, .slice Ag gl.length cg] :: F) KX := ⟨_, Lib.hid fun D w h => h.1, hS⟩
  clear hS
  have hS := hS2
  clear hS2
  cases hfc : firstC L rl N with
  | none =>
   have hidx : idxQ rl (candB L N) = -1 := idxQ_no (Dn.1 hfc)
   have HE := Lib.hid (sat_end (p := ⟨R, some L, st, rl, nl, gl⟩) (L := L) HTG.out (n := n) (by rw [HI.out.1]; exact hfc) (by rw [HI.out.1]; exact HI.out.2))
   rw [HI.out.1, hSM.out] at HE
   obtain rfl := HE.out
   generalize idxQ rl (candB L N) = ix at *
   subst hidx
   clear hfc HE
   go_wp2_with (first
    | ((with_reducible refine qB ?_); refine qc ?_ ?_ <;> intro h_ <;> go_prune)
    | ((with_reducible refine qk 27 ?_); first | (refine A7 hS 0 rfl _ _ rfl _ _ rfl _ _ rfl _ (by first | rfl | assumption) Tryz.underlying27 rfl (by kernel_rfl) ?_) | (refine A7 hS 1 rfl _ _ rfl _ _ rfl _ _ rfl _ (by first | rfl | assumption) Tryz.underlying27 rfl (by kernel_rfl) ?_) | (refine A7 hS 2 rfl _ _ rfl _ _ rfl _ _ rfl _ (by first | rfl | assumption) Tryz.underlying27 rfl (by kernel_rfl) ?_) | (refine A7 hS 3 rfl _ _ rfl _ _ rfl _ _ rfl _ (by first | rfl | assumption) Tryz.underlying27 rfl (by kernel_rfl) ?_) | (refine A7 hS 4 rfl _ _ rfl _ _ rfl _ _ rfl _ (by first | rfl | assumption) Tryz.underlying27 rfl (by kernel_rfl) ?_) | (refine A7 hS 5 rfl _ _ rfl _ _ rfl _ _ rfl _ (by first | rfl | assumption) Tryz.underlying27 rfl (by kernel_rfl) ?_))
    | ((with_reducible refine qK ?_); refine qL hS Tryz.underlying27 ?_)
    | ((with_reducible refine qm 27 ?_); (first | refine AX hS 0 rfl _ _ _ rfl _ _ rfl rfl _ _ rfl (by kernel_rfl) (by kernel_rfl) (by simpa using hx1) ?_ | refine AX hS 1 rfl _ _ _ rfl _ _ rfl rfl _ _ rfl (by kernel_rfl) (by kernel_rfl) (by simpa using hx1) ?_ | refine AX hS 2 rfl _ _ _ rfl _ _ rfl rfl _ _ rfl (by kernel_rfl) (by kernel_rfl) (by simpa using hx1) ?_ | refine AX hS 3 rfl _ _ _ rfl _ _ rfl rfl _ _ rfl (by kernel_rfl) (by kernel_rfl) (by simpa using hx1) ?_); clear hS; intro w_ hS; (try simp only [Act.put, Act.eval, zz, Value.cells] at hS)))
   refine IU Tryz.results55 rfl (hS.box 2 rfl) Tryz.underlying27 rfl (by kernel_rfl) rfl rfl ?_
   exact ⟨_, _, rfl, ((hS.sub (.cons_cons _ (.cons _ (.cons _ (List.sublist_cons_self _ _)))))).mono (KS.out.and A5) fun D w h => ⟨k0.out _ _ (kx.out _ _ h).1, (kx.out _ _ h).2⟩⟩
  | some j =>
   obtain ⟨hjl, hc, hc2⟩ := CY hfc
   have hidx : idxQ rl (candB L N) = (j : Nat) := idxQ_at (AZ Az hjl) hc hc2
   obtain ⟨b, o2, y0, m0, rfl, _, hbl, c0, c1, c2, c3, c4, -, -⟩ := (kr.out _ _ (kx.out _ _ hS.ro).1).at_ hjl
   obtain ⟨t, ht, h64⟩ := HTG.out _ (List.mem_of_getElem? (AZ Az hjl))
   have HNX := Lib.hid (BR (p := ⟨R, some L, st, rl, nl, gl⟩) (L := L) (n := n) (k := j) (by rw [HI.out.1]; exact hfc))
   rw [HI.out.1] at HNX
   have HLK : Hid (Dr (Bw N (t : Int)) rl < Dr N rl) := Lib.hid (by
    have := J9 (List.mem_of_getElem? (AZ Az hjl)) ht (CT hc).2.1
    rwa [Du h64] at this)
   have HUL : Hid ((us ++ [(j : Int)]).length <= rl.length) := Lib.hid (by
    have h1 := Dx (p := ⟨R, some L, st, rl, nl, gl⟩) (L := L) HTG.out (n + 1)
    rw [HNX.out] at h1
    dsimp only at h1 ⊢
    omega)
   dsimp only at HNX
   generalize (rl.getD j Az).revoke = zr at *
   generalize (rl.getD j Az).origin = zo at *
   generalize (rl.getD j Az).target = zt at *
   subst ht
   generalize idxQ rl (candB L N) = ix at *
   subst hidx
   clear hc hc2 hfc
   go_wp2_with (first | ((with_reducible refine qB ?_); refine qc ?_ ?_ <;> intro h_ <;> go_prune))
   refine I9 (fun i__ v w => match i__ with
    | 0 => v = .agg #[x]
    | 1 => v = .pointer (some ⟨g1, 3, none⟩)
    | 2 => v = .slice (some ⟨b, o2, none⟩) rl.length cr
    | 3 => v = .int .i64 (j : Nat)
    | 4 => v = .pointer (some ⟨b, o2 + (j) * 5, none⟩)
    | 5 => v = .pointer (some ⟨b, o2 + (j) * 5 + 3, none⟩)
    | 6 => v = .int .i64 (t : Nat)
    | 7 => ∃ u, v = .agg #[u] /\ u.oneCell' = true /\ A6 w (fun z => D8 (.own (.slice Au us.length cu) 3 1 us.length (AF us) :: .box g4 27 #[x] :: .box g2 27 #[.slice none 0 0] :: .box g1 31 #[.int .i64 R, .pointer (some ⟨q, 0, none⟩), .slice Cs ns cs, .slice (some ⟨b, o2, none⟩) rl.length cr, .slice An nl.length cn, .slice Ag gl.length cg] :: F) z \/ w_.heap.size <= z) (.agg #[u]) (Bw N (t : Nat))
    | 8 => v = .slice Au us.length cu
    | 9 => v = .int .i64 (j : Nat)
    | 10 => Sl w (fun _ => True) 1 v 1 [.int .i64 (j : Nat)]
    | 11 => True
    | 12 => True
    | 13 => True
    | _ => True) 11 [12, 13] (by kernel_rfl) (by kernel_rfl) (by kernel_rfl) (by kernel_rfl) (by kernel_rfl) ?mono ⟨.inr ?r0, .inr ?r1, .inr ?r2, .inr ?r3, .inr ?r4, .inr ?r5, .inr ?r6, .inr ?r7, .inr ?r8, .inr ?r9, .inr ?r10, .inl (by decide), .inl (by decide), .inl (by decide), trivial⟩ ?post
   case mono =>
    intro i v w w' h hb
    match i, h with
    | 0, h | 1, h | 2, h | 3, h | 4, h | 5, h | 6, h => exact h
    | 7, h => exact ⟨_, h.choose_spec.1, h.choose_spec.2.1, h.choose_spec.2.2.ext hb⟩
    | 8, h | 9, h => exact h
    | 10, h => exact h.ext hb
    | 11, h | 12, h | 13, h => exact h
    | _ + 14, h => trivial
   case r0 =>
    refine DC fun b__ w hW hold hpre => wU rfl fun K hK => ?_
    have e4 : b__.eval (.tmp 4) = .pointer (some ⟨g4, 0, none⟩) := (hold 4 (by kernel_rfl)).trans rfl
    exact AV rfl e4 ((hS.ext (CN hW)).box 1 rfl) Tryz.underlying27 rfl (by kernel_rfl) (hK _ _ rfl (Below.refl _ _))
   case r1 =>
    refine DC fun b__ w hW hold hpre => wU rfl fun K hK => ?_
    have e1 : b__.eval (.tmp 1) = .pointer (some ⟨g1, 0, none⟩) := (hold 1 (by kernel_rfl)).trans rfl
    exact Dy rfl e1 (by kernel_rfl) (hK _ _ rfl (Below.refl _ _))
   case r2 =>
    refine DC fun b__ w hW hold hpre => wU rfl fun K hK => ?_
    have e23 := pq hpre 0 1 23
    exact Ax rfl e23 (by kernel_rfl) ((hS.ext (CN hW)).shut 3 rfl 3 rfl) (hK _ _ rfl (Below.refl _ _))
   case r3 =>
    refine DC fun b__ w hW hold hpre => wU rfl fun K hK => ?_
    have e7 : b__.eval (.tmp 7) = .int .i64 (j : Nat) := (hold 7 (by kernel_rfl)).trans rfl
    exact EZ rfl e7 (hK _ _ rfl (Below.refl _ _))
   case r4 =>
    refine DC fun b__ w hW hold hpre => wU rfl fun K hK => ?_
    have e24 := pq hpre 0 2 24
    have e25 := pq hpre 1 3 25
    exact CC rfl e24 e25 (At (m := j) Tryz.underlying28 (by kernel_rfl) (by omega) (by omega)) (hK _ _ rfl (Below.refl _ _))
   case r5 =>
    refine DC fun b__ w hW hold hpre => wU rfl fun K hK => ?_
    have e26 := pq hpre 0 4 26
    exact Dy rfl e26 (by kernel_rfl) (hK _ _ rfl (Below.refl _ _))
   case r6 =>
    refine DC fun b__ w hW hold hpre => wU rfl fun K hK => ?_
    have e27 := pq hpre 0 5 27
    exact Ax rfl e27 (by kernel_rfl) (((CN hW).cell hbl).trans c3) (hK _ _ rfl (Below.refl _ _))
   case r7 =>
    refine DC fun b__ w hW hold hpre => wU rfl fun K hK => ?_
    have e22 : b__.eval (.tmp 22) = .agg #[x] := pq hpre 0 0 22
    have e28 : b__.eval (.tmp 28) = .int .i64 (t : Nat) := pq hpre 1 6 28
    refine Aq rfl (by kernel_rfl) (by simp only [List.map_cons, List.map_nil, e22, e28]) (E9 (.agg #[x]) N (t : Nat) w _ (kx.out _ _ (hS.ext (CN hW)).ro).2) fun v w' h hb => ?_
    obtain ⟨u, rfl, h1⟩ := Cg h
    exact hK _ w' ⟨u, rfl, h1, h.imp fun z hz _ => hz.imp id fun hz => Nat.le_trans (CN hW).size hz⟩ hb
   case r8 =>
    refine DC fun b__ w hW hold hpre => wU rfl fun K hK => ?_
    have e5 : b__.eval (.tmp 5) = .slice Au us.length cu := (hold 5 (by kernel_rfl)).trans rfl
    exact EZ rfl e5 (hK _ _ rfl (Below.refl _ _))
   case r9 =>
    refine DC fun b__ w hW hold hpre => wU rfl fun K hK => ?_
    have e7 : b__.eval (.tmp 7) = .int .i64 (j : Nat) := (hold 7 (by kernel_rfl)).trans rfl
    exact EZ rfl e7 (hK _ _ rfl (Below.refl _ _))
   case r10 =>
    refine DC fun b__ w hW hold hpre => wU rfl fun K hK => ?_
    have e31 : b__.eval (.tmp 31) = .int .i64 (j : Nat) := pq hpre 0 9 31
    refine Bv rfl Tryz.underlying45 (ps := [(0, .int .i64 (j : Nat))]) (by simp [e31]) (cells := #[.int .i64 (j : Nat)]) (by kernel_rfl) fun w' hX hb => hK _ _ ((Sl.of_box (n := 1) (size := 1) hX rfl (by omega)).imp fun _ _ _ => trivial) hb
   case post =>
    intro b__ wz hW hdf hsz hold hT
    have e32 : (fun (v : Value) (w : World) => Sl w (fun _ => True) 1 v 1 [.int .i64 (j : Nat)]) (b__.eval (.tmp 32)) wz := hT 10 _ 32 (by decide) rfl rfl
    have e4 : b__.eval (.tmp 4) = .pointer (some ⟨g4, 0, none⟩) := (hold 4 (by kernel_rfl)).trans rfl
    have e29 : (fun (v : Value) (w : World) => ∃ u, v = .agg #[u] /\ u.oneCell' = true /\ A6 w (fun z => D8 (.own (.slice Au us.length cu) 3 1 us.length (AF us) :: .box g4 27 #[x] :: .box g2 27 #[.slice none 0 0] :: .box g1 31 #[.int .i64 R, .pointer (some ⟨q, 0, none⟩), .slice Cs ns cs, .slice (some ⟨b, o2, none⟩) rl.length cr, .slice An nl.length cn, .slice Ag gl.length cg] :: F) z \/ w_.heap.size <= z) (.agg #[u]) (Bw N (t : Nat))) (b__.eval (.tmp 29)) wz := hT 7 _ 29 (by decide) rfl rfl
    obtain ⟨vs, hvs, hb⟩ := F4 hdf hsz (fun s hs => hold s (noDstS_of hs))
    have e30 : vs 30 = .slice Au us.length cu := (hvs 30).symm.trans (hT 8 _ 30 (by decide) rfl rfl)
    replace e32 := (hvs 32) ▸ e32
    clear e4
    replace e29 := (hvs 29) ▸ e29
    have e22 : vs 22 = .agg #[x] := (hvs 22).symm.trans (hT 0 _ 22 (by decide) rfl rfl)
    have e23 : vs 23 = .pointer (some ⟨g1, 3, none⟩) := (hvs 23).symm.trans (hT 1 _ 23 (by decide) rfl rfl)
    have e24 : vs 24 = .slice (some ⟨b, o2, none⟩) rl.length cr := (hvs 24).symm.trans (hT 2 _ 24 (by decide) rfl rfl)
    have e25 : vs 25 = .int .i64 (j : Nat) := (hvs 25).symm.trans (hT 3 _ 25 (by decide) rfl rfl)
    have e26 : vs 26 = .pointer (some ⟨b, o2 + (j) * 5, none⟩) := (hvs 26).symm.trans (hT 4 _ 26 (by decide) rfl rfl)
    have e27 : vs 27 = .pointer (some ⟨b, o2 + (j) * 5 + 3, none⟩) := (hvs 27).symm.trans (hT 5 _ 27 (by decide) rfl rfl)
    have e28 : vs 28 = .int .i64 (t : Nat) := (hvs 28).symm.trans (hT 6 _ 28 (by decide) rfl rfl)
    have e31 : vs 31 = .int .i64 (j : Nat) := (hvs 31).symm.trans (hT 9 _ 31 (by decide) rfl rfl)
    subst hb
    clear hvs hold hT hdf hsz
    simp only [AB, Act.put, zz, ze]
    obtain ⟨u9, e29, hu9, hset⟩ := e29
    have hS1 := (hS.ext hW).add (A5 (v := .agg #[u9]) (N := Bw N (t : Nat))) hset fun z hz _ => hz.elim id hS.fresh
    (intro o_ ho_; simp only [List.getElem?_toArray, List.getElem?_cons_succ, List.getElem?_cons_zero, Option.some.injEq] at ho_; subst ho_)
    refine Ez rfl DR e30 (hS1.own 0 rfl) rfl e32 (by intro u hu; simp at hu; subst hu; rfl) (by omega) (by omega) hS1.size fun v9 w9 ho9 hg9 hat9 => ?_
    replace hS1 := hS1.upd 0 rfl (.own v9 3 1 (us.length + 1) (AF us ++ [Value.int .i64 (j : Nat)])) hg9 ho9 hat9
    (intro o_ ho_; simp only [List.getElem?_toArray, List.getElem?_cons_succ, List.getElem?_cons_zero, Option.some.injEq] at ho_; subst ho_)
    simp only [Act.put, List.setIfInBounds_toArray, List.set_cons_zero, List.set_cons_succ]
    refine BS rfl rfl e29 (hS1.box 1 rfl) (by kernel_rfl) rfl (by simpa using hu9) fun w10 h10 hU10 => ?_
    replace hS1 := hS1.upd 1 rfl (.box g4 27 #[u9]) (Bn hU10) ⟨(hS1.holds (.box g4 27 #[x]) (by simp)).1, h10⟩ fun _ e => .inl e
    simp only [Cc]
    simp only [Act.put, List.setIfInBounds_toArray, List.set_cons_zero, List.set_cons_succ]
    (intro o_ ho_; simp only [List.getElem?_toArray, List.getElem?_cons_succ, List.getElem?_cons_zero, Option.some.injEq] at ho_; subst ho_)
    refine Cx rfl rfl ?_
    simp only [Cc]
    simp only [Act.put, List.setIfInBounds_toArray, List.set_cons_zero, List.set_cons_succ]
    simp only [Act.eval, Array.getD_eq_getD_getElem?, List.getElem?_toArray, List.getElem?_cons_succ, List.getElem?_cons_zero, Option.getD_some]
    clear e22 e23 e24 e25 e26 e27 e28 e29 e30 e31 e32 hset hW
    clear hS
    go_wp2_with fail
    go_roundg (Dr (Bw N (t : Nat)) rl)
    case measure => exact Nat.lt_of_lt_of_le HLK.out HGK.out
    case rel =>
     refine ⟨n + 1, v9, u9, Bw N (t : Nat), us ++ [(j : Int)], rfl, Nat.le_refl _, HUL.out, hu9, Lib.hid ⟨HNX.out, by simp [HI.out.2]⟩, ?_⟩
     rw [show (us ++ [(j : Int)]).length = us.length + 1 by simp, show AF (us ++ [(j : Int)]) = AF us ++ [.int .i64 (j : Nat)] by simp [AF]]
     exact hS1.mono (KSC.out.and A5) fun D w h => ⟨(kx.out _ _ h.1).1, h.2⟩
end
section
open Go.RowKit
attribute [local go_sem ↓] Go.wp_at_zero Go.wp_at_succ
set_option maxRecDepth 20000
set_option exponentiation.threshold 5000
noncomputable def fragM (p : Ae) : Bool := if checkE p = 0 then C1 p else false
noncomputable def upS (p : Ae) : Nat := if checkE p = 0 then (match p.links with
 | none => 0
 | some L => uppM L p) else 0
noncomputable def obtS (p : Ae) : Nat := if fragM p = true then upS p else 0
theorem frag1_any {w : World} {D : Nat -> Prop} {x : Value} {z : Nat × Nat} (hx : AL w D x z) : Calls Tryz.prog 54 #[x] w (AC (fun r _ => r = .bool (!(z.2 == 0))) w) := by
 obtain ⟨a, b, rfl, ha, hb⟩ := hx
 obtain ⟨y, n⟩ := z
 dsimp only at ha hb ⊢
 obtain ⟨A, m, c, rfl⟩ := ha.shape
 obtain ⟨B, k, d, rfl⟩ := hb.shape
 obtain ⟨K, kb, hS⟩ : ∃ K : (Nat -> Prop) -> World -> Prop, (∀ D w, K D w -> A6 w D (.agg #[.slice B k d]) n) /\ St w w [] K := ⟨_, fun _ _ h => h, St.start A5 hb⟩
 clear ha hb
 go_enter Tryz.func54, Tryz.ntmps54
 go_wp2_with (first
  | ((with_reducible refine qA 1 ?_); refine Ak hS rfl _ _ rfl (.agg #[.slice A m c, .slice B k d]) _ rfl rfl ?_; clear hS; intro g1 w_ hS; (try simp only [Act.put, Act.eval, zz, Value.cells] at hS))
  | ((with_reducible refine qk 27 ?_); first | (refine A7 hS 0 rfl _ _ rfl _ _ rfl _ _ rfl _ (by first | rfl | assumption) Tryz.underlying27 rfl (by kernel_rfl) ?_) | (refine A7 hS 1 rfl _ _ rfl _ _ rfl _ _ rfl _ (by first | rfl | assumption) Tryz.underlying27 rfl (by kernel_rfl) ?_) | (refine A7 hS 2 rfl _ _ rfl _ _ rfl _ _ rfl _ (by first | rfl | assumption) Tryz.underlying27 rfl (by kernel_rfl) ?_) | (refine A7 hS 3 rfl _ _ rfl _ _ rfl _ _ rfl _ (by first | rfl | assumption) Tryz.underlying27 rfl (by kernel_rfl) ?_) | (refine A7 hS 4 rfl _ _ rfl _ _ rfl _ _ rfl _ (by first | rfl | assumption) Tryz.underlying27 rfl (by kernel_rfl) ?_) | (refine A7 hS 5 rfl _ _ rfl _ _ rfl _ _ rfl _ (by first | rfl | assumption) Tryz.underlying27 rfl (by kernel_rfl) ?_))
  | (go_at_call 24; refine (Fu _ n _ _ (kb _ _ hS.ro)).mono ?_; rintro r_ w_ ⟨_, rfl, rfl, hb_⟩; replace hS := hS.ext hb_; clear hb_))
 go_ret
 exact AC.mk rfl hS.below
set_option maxHeartbeats 2000000 in
theorem Dv {w0 : World} {D : Nat -> Prop} {v : Value} {p : Ae} (hp : Bt w0 D v p) (hP : p.Ok) (hT : Bp w0) : Calls Tryz.prog 15 #[v] w0 (AC (fun r _ => r = .bool (fragM p)) w0) := by
 obtain ⟨R, lk, st, rl, nl, gl⟩ := p
 have HP := Lib.hid hP
 have hrl : rl.length <= 100000 := hP.rules
 have hnl : nl.length <= 100000 := hP.never
 clear hP
 obtain ⟨lp, s, rv, nv, gv, rfl, h1, h2, h3, h4, h5⟩ := id hp
 dsimp only at h1 h2 h3 h4 h5
 obtain ⟨la, rfl⟩ : ∃ la, lp = .pointer la := by
  cases lk with
  | none => exact ⟨none, h1⟩
  | some L => obtain ⟨q, o, rfl, -⟩ := h1; exact ⟨_, rfl⟩
 obtain ⟨Cs, ns, cs, rfl⟩ := h2.shape
 obtain ⟨Ar, cr, rfl, _, _⟩ := h3.shape
 obtain ⟨An, cn, rfl, _, _⟩ := h4.shape
 obtain ⟨Ag, cg, rfl, _, _⟩ := h5.shape
 clear h1 h2 h3 h4 h5
 obtain ⟨K, kp, kr, kg, kt, hS⟩ : ∃ K : (Nat -> Prop) -> World -> Prop, (∀ D w, K D w -> Bt w D (.agg #[.int .i64 R, .pointer la, .slice Cs ns cs, .slice Ar rl.length cr, .slice An nl.length cn, .slice Ag gl.length cg]) ⟨R, lk, st, rl, nl, gl⟩) /\ (∀ D w, K D w -> Bm w D (.slice Ar rl.length cr) rl) /\ (∀ D w, K D w -> Ai w D (.slice Ag gl.length cg) gl) /\ (∀ D w, K D w -> Bp w) /\ St w0 w0 [] K :=
  ⟨fun D w => Bt w D (.agg #[.int .i64 R, .pointer la, .slice Cs ns cs, .slice Ar rl.length cr, .slice An nl.length cn, .slice Ag gl.length cg]) ⟨R, lk, st, rl, nl, gl⟩ /\ Bp w /\ D 0, fun _ _ h => h.1, fun _ _ h => h.1.parts.2.2.1, fun _ _ h => h.1.parts.2.2.2.2, fun _ _ h => h.2.1, St.start (D := fun _ => True) (Cv.and BA) ⟨Cv D _ w0 w0 hp (Nat.le_refl _) (fun _ _ _ _ h => h) fun _ _ _ _ => trivial, hT, trivial⟩⟩
 clear hp hT
 have KS := Lib.hid hS.stable
 obtain ⟨e, he⟩ : ∃ e, checkE ⟨R, lk, st, rl, nl, gl⟩ = e := ⟨_, rfl⟩
 have HFR : Hid (fragM ⟨R, lk, st, rl, nl, gl⟩ = if e = 0 then C1 ⟨R, lk, st, rl, nl, gl⟩ else false) := Lib.hid (by unfold fragM; rw [he])
 have HE := Lib.hid he
 clear he
 generalize fragM ⟨R, lk, st, rl, nl, gl⟩ = RES at *
 by_cases h0 : e = 0
 ·subst h0
  replace HFR : Hid (RES = C1 ⟨R, lk, st, rl, nl, gl⟩) := Lib.hid (HFR.out.trans (if_pos rfl))
  have HFR0 := HFR
  by_cases hn : 0 < nl.length
  ·have HR2 : Hid (RES = false) := Lib.hid (HFR.out.trans (by
    unfold C1
    cases nl with
    | nil => simp at hn
    | cons => rfl))
   go_enter Tryz.func15, Tryz.ntmps15
   go_wp2_with (first
    | ((with_reducible refine qA 1 ?_); refine Ak hS rfl _ _ rfl (.agg #[.int .i64 R, .pointer la, .slice Cs ns cs, .slice Ar rl.length cr, .slice An nl.length cn, .slice Ag gl.length cg]) _ rfl rfl ?_; clear hS; intro g1 w_ hS; (try simp only [Act.put, Act.eval, zz, Value.cells] at hS))
    | ((with_reducible refine qB ?_); refine qc ?_ ?_ <;> intro h_ <;> go_prune)
    | ((with_reducible refine qK ?_); refine qL hS Tryz.underlying31 ?_)
    | ((with_reducible refine qK ?_); refine qC hS ?_)
    | (go_at_call 31; refine (CI (kp _ _ hS.ro) HP.out (kt _ _ hS.ro)).mono ?_; rw [HE.out]; rintro r_ w_ ⟨_, rfl, rfl, hb_⟩; replace hS := hS.ext hb_; clear hb_))
   go_ret
   exact AC.mk (by rw [HR2.out]; rfl) hS.below
  ·have hn0 : nl = [] := List.eq_nil_of_length_eq_zero (by omega)
   subst hn0
   clear hn hnl
   replace HFR : Hid (RES = ((rl.all fun r => r.no == 0) && !(gl.any fun z => !(z.2 == 0)))) := Lib.hid HFR.out
   go_enter Tryz.func15, Tryz.ntmps15
   go_wp2_with (first
    | ((with_reducible refine qA 1 ?_); refine Ak hS rfl _ _ rfl (.agg #[.int .i64 R, .pointer la, .slice Cs ns cs, .slice Ar rl.length cr, .slice An ([] : List (Nat × Nat)).length cn, .slice Ag gl.length cg]) _ rfl rfl ?_; clear hS; intro g1 w_ hS; (try simp only [Act.put, Act.eval, zz, Value.cells] at hS))
    | ((with_reducible refine qB ?_); refine qc ?_ ?_ <;> intro h_ <;> go_prune)
    | ((with_reducible refine qK ?_); refine qL hS Tryz.underlying31 ?_)
    | ((with_reducible refine qK ?_); refine qC hS ?_)
    | (go_at_call 31; refine (CI (kp _ _ hS.ro) HP.out (kt _ _ hS.ro)).mono ?_; rw [HE.out]; rintro r_ w_ ⟨_, rfl, rfl, hb_⟩; replace hS := hS.ext hb_; clear hb_))
   go_loopw [17] (fun iv wr => ∃ j : Nat, iv = .int .i64 (j : Nat) /\ j <= rl.length /\ Hid (∀ r ∈ rl.take j, r.no = 0) /\ St w0 wr [.box g1 31 #[.int .i64 R, .pointer la, .slice Cs ns cs, .slice Ar rl.length cr, .slice An 0 cn, .slice Ag gl.length cg]] K) (fun i _ => rl.length - (intOf i).toNat)
   case atStart => exact ⟨0, rfl, by omega, Lib.hid (by simp), hS⟩
   case round =>
    clear hS
    obtain ⟨j, rfl, hj, HN, hS⟩ := hrel
    by_cases hlj : j < rl.length
    ·obtain ⟨b, o2, y0, m0, rfl, _, hbl, c0, c1, c2, c3, c4, hy, hm⟩ := (kr _ _ hS.ro).at_ hlj
     have HG := Lib.hid (AZ Az hlj)
     have HM2 := Lib.hid hm
     obtain ⟨Ay, my, cy, rfl⟩ := hy.shape
     obtain ⟨Am, mn, cm, rfl⟩ := hm.shape
     clear hy hm
     generalize rl.getD j Az = z at *
     obtain ⟨zr, y, n, rt, ro⟩ := z
     dsimp only at c0 c1 c2 c3 c4 HM2
     replace hS := hS.add (D := D8 [.box g1 31 #[.int .i64 R, .pointer la, .slice Cs ns cs, .slice (some ⟨b, o2, none⟩) rl.length cr, .slice An 0 cn, .slice Ag gl.length cg]]) (A5 (v := .agg #[.slice Am mn cm]) (N := n)) HM2.out fun _ h _ => h
     clear HM2
     go_wp2_with (first
      | ((with_reducible refine qB ?_); refine qc ?_ ?_ <;> intro h_ <;> go_prune)
      | ((with_reducible refine qA 20 ?_); refine BigFrame.wpList_want rfl fun _ hK => AM (cs := [.bool zr, .slice Ay my cy, .slice Am mn cm, .int .i64 rt, .int .i64 ro]) rfl rfl (FC c0 c1 c2 c3 c4) Tryz.underlying58 rfl (by kernel_rfl) (hK _ _ ?_))
      | ((with_reducible refine qA 4 ?_); refine qa hS #[.bool false, .slice none 0 0, .slice none 0 0, .int .i64 0, .int .i64 0] ?_; clear hS; intro g4 w_ hS)
      | ((with_reducible refine qk 27 ?_); first | (refine A7 hS 0 rfl _ _ rfl _ _ rfl _ _ rfl _ (by first | rfl | assumption) Tryz.underlying27 rfl (by kernel_rfl) ?_) | (refine A7 hS 1 rfl _ _ rfl _ _ rfl _ _ rfl _ (by first | rfl | assumption) Tryz.underlying27 rfl (by kernel_rfl) ?_) | (refine A7 hS 2 rfl _ _ rfl _ _ rfl _ _ rfl _ (by first | rfl | assumption) Tryz.underlying27 rfl (by kernel_rfl) ?_) | (refine A7 hS 3 rfl _ _ rfl _ _ rfl _ _ rfl _ (by first | rfl | assumption) Tryz.underlying27 rfl (by kernel_rfl) ?_) | (refine A7 hS 4 rfl _ _ rfl _ _ rfl _ _ rfl _ (by first | rfl | assumption) Tryz.underlying27 rfl (by kernel_rfl) ?_) | (refine A7 hS 5 rfl _ _ rfl _ _ rfl _ _ rfl _ (by first | rfl | assumption) Tryz.underlying27 rfl (by kernel_rfl) ?_))
      | ((with_reducible refine qM ?_); (first | refine qS hS ?_ | refine qT hS ?_); clear hS; intro w_ hS; (try simp only [Act.put, Act.eval, zz, Value.cells] at hS))
      | ((with_reducible refine qK ?_); refine qC hS ?_))
     refine (Fu _ n _ _ hS.ro.2).mono ?_
     rintro r_ w_ ⟨_, rfl, rfl, hb_⟩
     replace hS := hS.ext hb_
     clear hb_
     by_cases hn0 : n = 0
     ·subst hn0
      rw [show ((0 : Nat) == 0) = true from rfl]
      go_wp2_with fail
      exact ⟨⟨j + 1, by go_num, hlj, Lib.hid (fun r hr => (Cu HG.out hr).elim (HN.out r) fun e => by rw [e]), (hS.sub (List.sublist_cons_self _ _)).mono KS.out fun D w h => h.1⟩, by simp [intOf]; omega⟩
     ·rw [show (n == 0) = false from by simpa using hn0]
      go_wp2_with fail
      go_ret
      exact AC.mk (by rw [HFR0.out, GD (p := ⟨R, lk, st, rl, [], gl⟩) (List.mem_of_getElem? HG.out) hn0]; rfl) hS.below
    ·obtain rfl : j = rl.length := by omega
     rw [List.take_length] at HN
     go_wp2_with (first
      | ((with_reducible refine qB ?_); refine qc ?_ ?_ <;> intro h_ <;> go_prune)
      | ((with_reducible refine qK ?_); refine qC hS ?_))
     refine (GH _ gl 54 #[] #[] (fun z => !(z.2 == 0)) (by kernel_rfl) hS kg fun x z w _ ⟨F', h⟩ => frag1_any h.ro.2).mono ?_
     clear hS
     rintro r_ w2 ⟨rfl, hS⟩
     go_wp2_with fail
     go_ret
     refine AC.mk ?_ hS.below
     rw [HFR.out, List.all_eq_true.2 fun r hr => by rw [HN.out r hr]; rfl]
     rfl
 ·have HR2 : Hid (RES = false) := Lib.hid (HFR.out.trans (if_neg h0))
  go_enter Tryz.func15, Tryz.ntmps15
  go_wp2_with (first
   | ((with_reducible refine qA 1 ?_); refine Ak hS rfl _ _ rfl (.agg #[.int .i64 R, .pointer la, .slice Cs ns cs, .slice Ar rl.length cr, .slice An nl.length cn, .slice Ag gl.length cg]) _ rfl rfl ?_; clear hS; intro g1 w_ hS; (try simp only [Act.put, Act.eval, zz, Value.cells] at hS))
   | ((with_reducible refine qB ?_); refine qc ?_ ?_ <;> intro h_ <;> go_prune)
   | ((with_reducible refine qK ?_); refine qL hS Tryz.underlying31 ?_)
   | ((with_reducible refine qK ?_); refine qC hS ?_)
   | (go_at_call 31; refine (CI (kp _ _ hS.ro) HP.out (kt _ _ hS.ro)).mono ?_; rw [HE.out]; rintro r_ w_ ⟨_, rfl, rfl, hb_⟩; replace hS := hS.ext hb_; clear hb_))
  go_ret
  exact AC.mk (by rw [HR2.out]; rfl) hS.below
set_option maxHeartbeats 2000000 in
theorem upper_any {w0 w : World} {F : List Af} {K : (Nat -> Prop) -> World -> Prop} {v : Value} {p : Ae} (hP : p.Ok) (hS : St w0 w F K) (kp : ∀ D w, K D w -> Bt w D v p) (kt : ∀ D w, K D w -> Bp w) :
  Calls Tryz.prog 17 #[v] w fun e w' => ∃ x, e = .returned x /\ St w0 w' F fun D w => K D w /\ A6 w D x (upS p) := by
 have HP := Lib.hid hP
 have HK := Lib.hid kp
 have HT := Lib.hid kt
 have KS := Lib.hid hS.stable
 obtain ⟨xs, rfl, hx6, hx1⟩ := (kp _ _ hS.ro).cells
 replace hx6 := Lib.hid hx6
 clear hP kp kt
 obtain ⟨e, he⟩ : ∃ e, checkE p = e := ⟨_, rfl⟩
 have HE := Lib.hid he
 clear he
 obtain ⟨U, hU⟩ : ∃ U, upS p = U := ⟨_, rfl⟩
 rw [hU]
 have HU := Lib.hid hU
 clear hU
 by_cases h0 : e = 0
 ·subst h0
  cases hlk : p.links with
  | none => have := HE.out; unfold checkE at this; rw [hlk] at this; cases this
  | some L =>
   have HL := Lib.hid hlk
   have HTG := Lib.hid (F9 HE.out hlk)
   have HSU : Hid ((satM L p).1 = U) := Lib.hid (by rw [Ge HTG.out, <- HU.out]; unfold upS; rw [if_pos HE.out, HL.out])
   clear hlk
   go_enter Tryz.func17, Tryz.ntmps17
   go_wp2_with (first
    | ((with_reducible refine qA 1 ?_); refine Ak hS rfl _ _ rfl (.agg xs) xs rfl rfl ?_; clear hS; intro g1 w_ hS; (try simp only [Act.put, Act.eval, zz, Value.cells] at hS))
    | ((with_reducible refine qA 2 ?_); refine qa hS #[.slice none 0 0] ?_; clear hS; intro g2 w_ hS)
    | ((with_reducible refine qA 3 ?_); refine qa hS #[.slice none 0 0] ?_; clear hS; intro g3 w_ hS)
    | ((with_reducible refine qB ?_); refine qc ?_ ?_ <;> intro h_ <;> go_prune)
    | ((with_reducible refine qk 31 ?_); refine BigFrame.wpList_want rfl fun _ hK => AV rfl rfl (hS.box 1 rfl) Tryz.underlying31 rfl (by rw [hx6.out]; kernel_rfl) (hK _ _ ?_))
    | (go_at_call 31; refine (CI (HK.out _ _ hS.ro) HP.out (HT.out _ _ hS.ro)).mono ?_; rw [HE.out]; rintro r_ w_ ⟨_, rfl, rfl, hb_⟩; replace hS := hS.ext hb_; clear hb_)
    | (go_at_call 55; refine (ER HL.out HP.out HTG.out hS HK.out HT.out).mono ?_; rw [HSU.out]; clear hS; rintro e w_ ⟨y, us, rfl, hS⟩; obtain ⟨u, rfl, hu1⟩ := Cg hS.ro.2)
    | ((with_reducible refine qK ?_); refine qL hS Tryz.underlying27 ?_)
    | ((with_reducible refine qm 27 ?_); (first | refine AX hS 0 rfl _ _ _ rfl _ _ rfl rfl _ _ rfl (by kernel_rfl) (by kernel_rfl) (by simpa using hu1) ?_ | refine AX hS 1 rfl _ _ _ rfl _ _ rfl rfl _ _ rfl (by kernel_rfl) (by kernel_rfl) (by simpa using hu1) ?_ | refine AX hS 2 rfl _ _ _ rfl _ _ rfl rfl _ _ rfl (by kernel_rfl) (by kernel_rfl) (by simpa using hu1) ?_ | refine AX hS 3 rfl _ _ _ rfl _ _ rfl rfl _ _ rfl (by kernel_rfl) (by kernel_rfl) (by simpa using hu1) ?_); clear hS; intro w_ hS; (try simp only [Act.put, Act.eval, zz, Value.cells] at hS)))
   refine Bj Tryz.results17 rfl (hS.box 2 rfl) Tryz.underlying27 rfl (by kernel_rfl) rfl ?_
   exact ⟨_, rfl, (hS.sub (List.sublist_append_right [_, _, _, _] F)).mono (KS.out.and A5) fun D w h => h⟩
 ·have HU0 : Hid (U = 0) := Lib.hid (by rw [<- HU.out]; unfold upS; rw [HE.out, if_neg h0])
  go_enter Tryz.func17, Tryz.ntmps17
  go_wp2_with (first
   | ((with_reducible refine qA 1 ?_); refine Ak hS rfl _ _ rfl (.agg xs) xs rfl rfl ?_; clear hS; intro g1 w_ hS; (try simp only [Act.put, Act.eval, zz, Value.cells] at hS))
   | ((with_reducible refine qA 2 ?_); refine qa hS #[.slice none 0 0] ?_; clear hS; intro g2 w_ hS)
   | ((with_reducible refine qB ?_); refine qc ?_ ?_ <;> intro h_ <;> go_prune)
   | ((with_reducible refine qk 31 ?_); refine BigFrame.wpList_want rfl fun _ hK => AV rfl rfl (hS.box 1 rfl) Tryz.underlying31 rfl (by rw [hx6.out]; kernel_rfl) (hK _ _ ?_))
   | (go_at_call 31; refine (CI (HK.out _ _ hS.ro) HP.out (HT.out _ _ hS.ro)).mono ?_; rw [HE.out]; rintro r_ w_ ⟨_, rfl, rfl, hb_⟩; replace hS := hS.ext hb_; clear hb_)
   | ((with_reducible refine qA 8 ?_); refine AE rfl _ _ rfl #[.slice none 0 0] (by kernel_rfl) ?_; (try simp only [Act.put, List.setIfInBounds_toArray, List.set_cons_zero, List.set_cons_succ]))
   | ((with_reducible refine qM ?_); (first | refine qS hS ?_ | refine qT hS ?_); clear hS; intro w_ hS; (try simp only [Act.put, Act.eval, zz, Value.cells] at hS)))
  refine Bj Tryz.results17 rfl (hS.box 0 rfl) Tryz.underlying27 rfl (by kernel_rfl) rfl ?_
  exact ⟨_, rfl, (hS.sub (List.sublist_append_right [_, _] F)).mono (KS.out.and A5) fun D w h => ⟨h, by rw [HU0.out]; exact A6.empty⟩⟩
set_option maxHeartbeats 2000000 in
theorem J4 {w0 w : World} {F : List Af} {K : (Nat -> Prop) -> World -> Prop} {v : Value} {p : Ae} (hP : p.Ok) (hS : St w0 w F K) (kp : ∀ D w, K D w -> Bt w D v p) (kt : ∀ D w, K D w -> Bp w) :
  Calls Tryz.prog 23 #[v] w fun e w' => ∃ x, e = .returned x /\ St w0 w' F fun D w => K D w /\ A6 w D x (obtS p) := by
 have HP := Lib.hid hP
 have HK := Lib.hid kp
 have HT := Lib.hid kt
 have KS := Lib.hid hS.stable
 obtain ⟨xs, rfl, hx6, hx1⟩ := (kp _ _ hS.ro).cells
 replace hx6 := Lib.hid hx6
 clear hP kp kt
 obtain ⟨b, hb⟩ : ∃ b, fragM p = b := ⟨_, rfl⟩
 have HB := Lib.hid hb
 clear hb
 obtain ⟨U, hU⟩ : ∃ U, obtS p = U := ⟨_, rfl⟩
 rw [hU]
 have HU := Lib.hid hU
 clear hU
 cases b
 ·have HU0 : Hid (U = 0) := Lib.hid (by rw [<- HU.out]; unfold obtS; rw [HB.out, if_neg (by decide)])
  go_enter Tryz.func23, Tryz.ntmps23
  go_wp2_with (first
   | ((with_reducible refine qA 1 ?_); refine Ak hS rfl _ _ rfl (.agg xs) xs rfl rfl ?_; clear hS; intro g1 w_ hS; (try simp only [Act.put, Act.eval, zz, Value.cells] at hS))
   | ((with_reducible refine qA 2 ?_); refine qa hS #[.slice none 0 0] ?_; clear hS; intro g2 w_ hS)
   | ((with_reducible refine qk 31 ?_); refine BigFrame.wpList_want rfl fun _ hK => AV rfl rfl (hS.box 1 rfl) Tryz.underlying31 rfl (by rw [hx6.out]; kernel_rfl) (hK _ _ ?_))
   | (go_at_call 15; refine (Dv (HK.out _ _ hS.ro) HP.out (HT.out _ _ hS.ro)).mono ?_; rw [HB.out]; rintro r_ w_ ⟨_, rfl, rfl, hb_⟩; replace hS := hS.ext hb_; clear hb_)
   | ((with_reducible refine qA 6 ?_); refine AE rfl _ _ rfl #[.slice none 0 0] (by kernel_rfl) ?_; (try simp only [Act.put, List.setIfInBounds_toArray, List.set_cons_zero, List.set_cons_succ]))
   | ((with_reducible refine qM ?_); (first | refine qS hS ?_ | refine qT hS ?_); clear hS; intro w_ hS; (try simp only [Act.put, Act.eval, zz, Value.cells] at hS)))
  refine Bj Tryz.results23 rfl (hS.box 0 rfl) Tryz.underlying27 rfl (by kernel_rfl) rfl ?_
  exact ⟨_, rfl, (hS.sub (List.sublist_append_right [_, _] F)).mono (KS.out.and A5) fun D w h => ⟨h, by rw [HU0.out]; exact A6.empty⟩⟩
 ·have HU0 : Hid (upS p = U) := Lib.hid (by rw [<- HU.out]; unfold obtS; rw [HB.out, if_pos rfl])
  go_enter Tryz.func23, Tryz.ntmps23
  go_wp2_with (first
   | ((with_reducible refine qA 1 ?_); refine Ak hS rfl _ _ rfl (.agg xs) xs rfl rfl ?_; clear hS; intro g1 w_ hS; (try simp only [Act.put, Act.eval, zz, Value.cells] at hS))
   | ((with_reducible refine qA 2 ?_); refine qa hS #[.slice none 0 0] ?_; clear hS; intro g2 w_ hS)
   | ((with_reducible refine qk 31 ?_); refine BigFrame.wpList_want rfl fun _ hK => AV rfl rfl (hS.box 1 rfl) Tryz.underlying31 rfl (by rw [hx6.out]; kernel_rfl) (hK _ _ ?_))
   | (go_at_call 15; refine (Dv (HK.out _ _ hS.ro) HP.out (HT.out _ _ hS.ro)).mono ?_; rw [HB.out]; rintro r_ w_ ⟨_, rfl, rfl, hb_⟩; replace hS := hS.ext hb_; clear hb_)
   | (go_at_call 17; refine (upper_any HP.out hS HK.out HT.out).mono ?_; rw [HU0.out]; clear hS; rintro e w_ ⟨y, rfl, hS⟩; obtain ⟨u, rfl, hu1⟩ := Cg hS.ro.2)
   | ((with_reducible refine qm 27 ?_); (first | refine AX hS 0 rfl _ _ _ rfl _ _ rfl rfl _ _ rfl (by kernel_rfl) (by kernel_rfl) (by simpa using hu1) ?_ | refine AX hS 1 rfl _ _ _ rfl _ _ rfl rfl _ _ rfl (by kernel_rfl) (by kernel_rfl) (by simpa using hu1) ?_ | refine AX hS 2 rfl _ _ _ rfl _ _ rfl rfl _ _ rfl (by kernel_rfl) (by kernel_rfl) (by simpa using hu1) ?_ | refine AX hS 3 rfl _ _ _ rfl _ _ rfl rfl _ _ rfl (by kernel_rfl) (by kernel_rfl) (by simpa using hu1) ?_); clear hS; intro w_ hS; (try simp only [Act.put, Act.eval, zz, Value.cells] at hS)))
  refine Bj Tryz.results23 rfl (hS.box 0 rfl) Tryz.underlying27 rfl (by kernel_rfl) rfl ?_
  exact ⟨_, rfl, (hS.sub (List.sublist_append_right [_, _] F)).mono (KS.out.and A5) fun D w h => h⟩
end
section
open Go.RowKit
attribute [local go_sem ↓] Go.wp_at_zero Go.wp_at_succ
set_option maxRecDepth 20000
set_option exponentiation.threshold 5000
def Db (r : AK) : AK := ⟨r.revoke, r.yes, 0, r.target, r.origin⟩
def Eu (p : Ae) : Ae := ⟨p.roles, p.links, p.start, p.rules.map Db, [], p.goal.map fun z => (z.1, 0)⟩
theorem plain_frag (p : Ae) : C1 (Eu p) = true := by
 unfold C1 Eu
 simp [Db]
theorem BJ.plain {p : Ae} {L : List (Nat × Nat)} {R : Nat} (h : BJ p L R) : BJ (Eu p) L R where
 links := h.links
 roles := h.roles
 r2 := h.r2
 r5 := h.r5
 hok := h.hok
 inr := h.inr
 len := h.len
 start := h.start
 rlen := by show (p.rules.map Db).length <= 6; rw [List.length_map]; exact h.rlen
 rules := fun z hz => by
  obtain ⟨r, hr, rfl⟩ := List.mem_map.1 hz
  obtain ⟨h1, h2, h3, h4, h5, h6, h7, h8⟩ := h.rules r hr
  exact ⟨h1, h2, h3, by simp [Db], by simp [Db], h6, by simp [Db], fun e => ⟨(h8 e).1, rfl⟩⟩
 nlen := by simp [Eu]
 never := fun z hz => by simp [Eu] at hz
 glen := by show (p.goal.map _).length <= 3; rw [List.length_map]; exact h.glen
 gpos := by show 1 <= (p.goal.map _).length; rw [List.length_map]; exact h.gpos
 goal := fun z hz => by
  obtain ⟨r, hr, rfl⟩ := List.mem_map.1 hz
  obtain ⟨h1, h2, h3, h4, h5⟩ := h.goal r hr
  exact ⟨h1, by simp, by simp, h4, by simp⟩
set_option maxHeartbeats 4000000 in
theorem rplain_any {w0 w : World} {F : List Af} {K : (Nat -> Prop) -> World -> Prop} {v : Value} {p : Ae} {L : List (Nat × Nat)} {R : Nat} (hM : BJ p L R) (hS : St w0 w F K) (kp : ∀ D w, K D w -> Bb w D v p) :
  Calls Tryz.prog 51 #[v] w fun e w' => ∃ u, e = .returned u /\ St w0 w' F fun D w => K D w /\ Bb w D u (Eu p) := by
 obtain ⟨R', lk, st, rl, nl, gl⟩ := p
 obtain rfl : lk = some L := hM.links
 obtain rfl : R' = (R : Int) := hM.roles
 obtain ⟨Al, cl, Ar, cr, An, cn, Ag, cg, rfl⟩ := Bz (kp _ _ hS.ro)
 have kl : ∀ D w, K D w -> Sl w D 2 (.slice Al L.length cl) L.length (A9 L) := fun D w h => (BH (kp D w h)).1
 have kr : ∀ D w, K D w -> Sl w D 5 (.slice Ar rl.length cr) rl.length (AQ rl) := fun D w h => (BH (kp D w h)).2.1
 have kg : ∀ D w, K D w -> Sl w D 2 (.slice Ag gl.length cg) gl.length (B0 gl) := fun D w h => (BH (kp D w h)).2.2.2
 have hr6 : rl.length <= 6 := hM.rlen
 have hg3 : gl.length <= 3 := hM.glen
 have KS := Lib.hid hS.stable
 clear hM kp
 go_enter Tryz.func51, Tryz.ntmps51
 go_wp2_with (first
  | ((with_reducible refine qA 1 ?_); refine Ak hS rfl _ _ rfl (.agg #[.int .i64 (R : Nat), .slice Al L.length cl, .int .u64 (st : Nat), .slice Ar rl.length cr, .slice An nl.length cn, .slice Ag gl.length cg]) _ rfl rfl ?_; clear hS; intro g1 w_ hS; (try simp only [Act.put, Act.eval, zz, Value.cells] at hS))
  | ((with_reducible refine qA 2 ?_); refine qa hS #[.int .i64 0, .slice none 0 0, .int .u64 0, .slice none 0 0, .slice none 0 0, .slice none 0 0] ?_; clear hS; intro g2 w_ hS)
  | ((with_reducible refine qA 3 ?_); refine qa hS #[.int .i64 0, .slice none 0 0, .int .u64 0, .slice none 0 0, .slice none 0 0, .slice none 0 0] ?_; clear hS; intro g3 w_ hS)
  | ((with_reducible refine qA 14 ?_); refine AE rfl _ _ rfl #[.int .i64 (R : Nat), .slice Al L.length cl, .int .u64 (st : Nat), .slice none 0 0, .slice none 0 0, .slice none 0 0] (by kernel_rfl) ?_; (try simp only [Act.put, List.setIfInBounds_toArray, List.set_cons_zero, List.set_cons_succ]))
  | ((with_reducible refine qM ?_); (first | refine qS hS ?_ | refine qT hS ?_); clear hS; intro w_ hS; (try simp only [Act.put, Act.eval, zz, Value.cells] at hS))
  | ((with_reducible refine qK ?_); refine qC hS ?_))
 replace hS := hS.nil 96 5
 go_loopw [18] (fun iv wr => ∃ (j : Nat) (rv : Value), iv = .int .i64 (j : Nat) /\ j <= rl.length /\ St w0 wr (.own rv 96 5 j (AQ ((rl.take j).map Db)) :: .box g3 37 #[.int .i64 (R : Nat), .slice Al L.length cl, .int .u64 (st : Nat), rv, .slice none 0 0, .slice none 0 0] :: .box g2 37 #[.int .i64 0, .slice none 0 0, .int .u64 0, .slice none 0 0, .slice none 0 0, .slice none 0 0] :: .box g1 37 #[.int .i64 (R : Nat), .slice Al L.length cl, .int .u64 (st : Nat), .slice Ar rl.length cr, .slice An nl.length cn, .slice Ag gl.length cg] :: F) K) (fun i _ => rl.length - (intOf i).toNat)
 case atStart => exact ⟨0, _, rfl, by omega, hS⟩
 case round =>
  clear hS
  obtain ⟨j, rv, rfl, hj, hS⟩ := hrel
  by_cases hlj : j < rl.length
  ·obtain ⟨b, o, rfl, c0, c1, c2, c3, c4⟩ := Gj (kr _ _ hS.ro) hlj
   have HT : Hid (AQ ((rl.take (j + 1)).map Db) = AQ ((rl.take j).map Db) ++ [.bool (rl.getD j Az).revoke, .int .u64 ((rl.getD j Az).yes : Nat), .int .u64 0, .int .i64 (rl.getD j Az).target, .int .i64 (rl.getD j Az).origin]) := Lib.hid (by
    rw [List.take_add_one, List.getElem?_eq_getElem hlj, List.getD_eq_getElem?_getD, List.getElem?_eq_getElem hlj, List.map_append, EV]; rfl)
   generalize AQ ((rl.take j).map Db) = X at *
   generalize rl.getD j Az = z at *
   obtain ⟨zr, y, n, rt, ro⟩ := z
   dsimp only at c0 c1 c2 c3 c4 HT
   go_wp2_with (first
    | ((with_reducible refine qB ?_); refine qc ?_ ?_ <;> intro h_ <;> go_prune)
    | ((with_reducible refine qA 21 ?_); refine BigFrame.wpList_want rfl fun _ hK => AM (cs := [.bool zr, .int .u64 (y : Nat), .int .u64 (n : Nat), .int .i64 rt, .int .i64 ro]) rfl rfl (FC c0 c1 c2 c3 c4) Tryz.underlying96 rfl (by kernel_rfl) (hK _ _ ?_))
    | ((with_reducible refine qA 5 ?_); refine qa hS #[.bool false, .int .u64 0, .int .u64 0, .int .i64 0, .int .i64 0] ?_; clear hS; intro g5 w_ hS)
    | ((with_reducible refine qK ?_); refine qL hS Tryz.underlying96 ?_)
    | ((with_reducible refine qA 27 ?_); refine D0 hS 1 rfl rfl _ _ _ _ rfl rfl H4 rv j X (.agg #[.bool zr, .int .u64 (y : Nat), .int .u64 0, .int .i64 rt, .int .i64 ro]) #[.bool zr, .int .u64 (y : Nat), .int .u64 0, .int .i64 rt, .int .i64 ro] rfl (by kernel_rfl) rfl rfl rfl rfl (by intro u hu; simp at hu; rcases hu with rfl | rfl | rfl | rfl | rfl <;> rfl) (by omega) (by omega) ?_; clear hS; intro z_ rv' w_ hS; (try simp only [Act.put, Act.eval, zz, Value.cells] at hS); obtain ⟨Av, cv, rfl, _, _⟩ := Bl (hS.own 1 rfl))
    | ((with_reducible refine qM ?_); (first | refine qS hS ?_ | refine qT hS ?_); clear hS; intro w_ hS; (try simp only [Act.put, Act.eval, zz, Value.cells] at hS))
    | ((with_reducible refine qK ?_); refine qC hS ?_))
   exact ⟨⟨j + 1, _, by go_num, hlj, by rw [HT.out]; exact hS.sub (List.sublist_cons_self _ _)⟩, by simp [intOf]; omega⟩
  ·obtain rfl : j = rl.length := by omega
   rw [List.take_length] at hS
   obtain ⟨X, hX⟩ : ∃ X, AQ (rl.map Db) = X := ⟨_, rfl⟩
   rw [hX] at hS
   have HX := Lib.hid hX
   clear hX
   obtain ⟨Av, cv, rfl, _, _⟩ := Bl (hS.own 0 rfl)
   replace hS := hS.freeze 0 (by decide) rfl
   go_wp2_with (first
    | ((with_reducible refine qB ?_); refine qc ?_ ?_ <;> intro h_ <;> go_prune)
    | ((with_reducible refine qK ?_); refine qC hS ?_))
   replace hS := hS.nil 94 2
   go_loopw [34] (fun iv wr => ∃ (k : Nat) (gv : Value), iv = .int .i64 (k : Nat) /\ k <= gl.length /\ St w0 wr (.own gv 94 2 k (B0 ((gl.take k).map fun z => (z.1, 0))) :: .box g3 37 #[.int .i64 (R : Nat), .slice Al L.length cl, .int .u64 (st : Nat), .slice Av rl.length cv, .slice none 0 0, gv] :: .box g2 37 #[.int .i64 0, .slice none 0 0, .int .u64 0, .slice none 0 0, .slice none 0 0, .slice none 0 0] :: .box g1 37 #[.int .i64 (R : Nat), .slice Al L.length cl, .int .u64 (st : Nat), .slice Ar rl.length cr, .slice An nl.length cn, .slice Ag gl.length cg] :: F) (fun D w => K D w /\ Sl w D 5 (.slice Av rl.length cv) rl.length X)) (fun i _ => gl.length - (intOf i).toNat)
   case atStart => exact ⟨0, _, rfl, by omega, hS⟩
   case round =>
    clear hS
    obtain ⟨k, gv, rfl, hk, hS⟩ := hrel
    by_cases hlk : k < gl.length
    ·obtain ⟨bp, op, rfl⟩ := sl_pos (kg _ _ hS.ro.1) (by omega)
     obtain ⟨f0, f1⟩ := Da gl k hlk
     have c0 := Di (kg _ _ hS.ro.1) f0
     have c1 := Di (kg _ _ hS.ro.1) f1
     have HT : Hid (B0 ((gl.take (k + 1)).map fun z => (z.1, 0)) = B0 ((gl.take k).map fun z => (z.1, 0)) ++ [.int .u64 ((gl.getD k (0, 0)).1 : Nat), .int .u64 0]) := Lib.hid (by
      rw [Fk gl k (0, 0) hlk, List.map_append, E7]; rfl)
     generalize B0 ((gl.take k).map fun z => (z.1, 0)) = X2 at *
     generalize gl.getD k (0, 0) = z at *
     obtain ⟨y, n⟩ := z
     dsimp only at c0 c1 f0 f1 HT
     clear f0 f1
     go_wp2_with (first
      | ((with_reducible refine qB ?_); refine qc ?_ ?_ <;> intro h_ <;> go_prune)
      | ((with_reducible refine qA 37 ?_); refine BigFrame.wpList_want rfl fun _ hK => AM (cs := [.int .u64 (y : Nat), .int .u64 (n : Nat)]) rfl rfl (Id c0 c1) Tryz.underlying94 rfl (by kernel_rfl) (hK _ _ ?_))
      | ((with_reducible refine qA 7 ?_); refine qa hS #[.int .u64 0, .int .u64 0] ?_; clear hS; intro g7 w_ hS)
      | ((with_reducible refine qA 42 ?_); refine AE rfl _ _ rfl #[.int .u64 (y : Nat), .int .u64 0] (by kernel_rfl) ?_; (try simp only [Act.put, List.setIfInBounds_toArray, List.set_cons_zero, List.set_cons_succ]))
      | ((with_reducible refine qA 43 ?_); refine D0 hS 1 rfl rfl _ _ _ _ rfl rfl ty_mkc gv k X2 (.agg #[.int .u64 (y : Nat), .int .u64 0]) #[.int .u64 (y : Nat), .int .u64 0] rfl (by kernel_rfl) rfl rfl rfl rfl (by intro u hu; simp at hu; rcases hu with rfl | rfl <;> rfl) (by omega) (by omega) ?_; clear hS; intro z_ gv' w_ hS; (try simp only [Act.put, Act.eval, zz, Value.cells] at hS); obtain ⟨Aw, cw, rfl, _, _⟩ := Bl (hS.own 1 rfl))
      | ((with_reducible refine qM ?_); (first | refine qS hS ?_ | refine qT hS ?_); clear hS; intro w_ hS; (try simp only [Act.put, Act.eval, zz, Value.cells] at hS))
      | ((with_reducible refine qK ?_); refine qC hS ?_))
     exact ⟨⟨k + 1, _, by go_num, hlk, by rw [HT.out]; exact hS.sub (List.sublist_cons_self _ _)⟩, by simp [intOf]; omega⟩
    ·obtain rfl : k = gl.length := by omega
     rw [List.take_length] at hS
     obtain ⟨X2, hX2⟩ : ∃ X, B0 (gl.map fun z => (z.1, 0)) = X := ⟨_, rfl⟩
     rw [hX2] at hS
     have HX2 := Lib.hid hX2
     clear hX2
     obtain ⟨Aw, cw, rfl, _, _⟩ := Bl (hS.own 0 rfl)
     replace hS := hS.freeze 0 (by decide) rfl
     go_wp2_with (first
      | ((with_reducible refine qB ?_); refine qc ?_ ?_ <;> intro h_ <;> go_prune)
      | ((with_reducible refine qK ?_); refine qL hS Tryz.underlying37 ?_)
      | ((with_reducible refine qM ?_); (first | refine qS hS ?_ | refine qT hS ?_); clear hS; intro w_ hS; (try simp only [Act.put, Act.eval, zz, Value.cells] at hS)))
     refine Bj Tryz.results51 rfl (hS.box 1 rfl) Tryz.underlying37 rfl (by kernel_rfl) rfl ?_
     refine ⟨_, rfl, (hS.sub (List.sublist_append_right [_, _, _] F)).mono (KS.out.and Bg) fun D w h => ⟨h.1.1, ?_⟩⟩
     refine ⟨_, _, _, _, L, rfl, rfl, kl _ _ h.1.1, ?_, Sl.none_, ?_⟩
     ·show Sl w D 5 _ (rl.map Db).length (AQ (rl.map Db)); rw [List.length_map, HX.out]; exact h.1.2
     ·show Sl w D 2 _ (gl.map fun z => (z.1, 0)).length (B0 (gl.map fun z => (z.1, 0))); rw [List.length_map, HX2.out]; exact h.2
set_option maxHeartbeats 4000000 in
theorem Ht {w0 : World} {D : Nat -> Prop} {v : Value} {p : Ae} {L : List (Nat × Nat)} {R : Nat} (hp : Bb w0 D v p) (hM : BJ p L R) :
  Calls Tryz.prog 16 #[v] w0 (AC (fun x _ => x = .bool (C1 p)) w0) := by
 obtain ⟨R', lk, st, rl, nl, gl⟩ := p
 obtain rfl : lk = some L := hM.links
 obtain rfl : R' = (R : Int) := hM.roles
 obtain ⟨Al, cl, Ar, cr, An, cn, Ag, cg, rfl⟩ := Bz hp
 obtain ⟨K, kp, hS⟩ : ∃ K : (Nat -> Prop) -> World -> Prop, (∀ D w, K D w -> Bb w D (.agg #[.int .i64 (R : Nat), .slice Al L.length cl, .int .u64 (st : Nat), .slice Ar rl.length cr, .slice An nl.length cn, .slice Ag gl.length cg]) ⟨(R : Int), some L, st, rl, nl, gl⟩) /\ St w0 w0 [] K := ⟨_, fun _ _ h => h, St.start Bg hp⟩
 have kr : ∀ D w, K D w -> Sl w D 5 (.slice Ar rl.length cr) rl.length (AQ rl) := fun D w h => (BH (kp D w h)).2.1
 have kg : ∀ D w, K D w -> Sl w D 2 (.slice Ag gl.length cg) gl.length (B0 gl) := fun D w h => (BH (kp D w h)).2.2.2
 have hr6 : rl.length <= 6 := hM.rlen
 have hg3 : gl.length <= 3 := hM.glen
 have hn3 : nl.length <= 3 := hM.nlen
 obtain ⟨RES, hR⟩ : ∃ RES, C1 ⟨(R : Int), some L, st, rl, nl, gl⟩ = RES := ⟨_, rfl⟩
 rw [hR]
 have HR := Lib.hid hR
 clear hp hM hR
 go_enter Tryz.func16, Tryz.ntmps16
 go_wp2_with (first
  | ((with_reducible refine qA 1 ?_); refine Ak hS rfl _ _ rfl (.agg #[.int .i64 (R : Nat), .slice Al L.length cl, .int .u64 (st : Nat), .slice Ar rl.length cr, .slice An nl.length cn, .slice Ag gl.length cg]) _ rfl rfl ?_; clear hS; intro g1 w_ hS; (try simp only [Act.put, Act.eval, zz, Value.cells] at hS))
  | ((with_reducible refine qK ?_); refine qC hS ?_))
 go_loopw [10] (fun iv wr => ∃ j : Nat, iv = .int .i64 (j : Nat) /\ j <= rl.length /\ Hid (∀ r ∈ rl.take j, r.no = 0) /\ St w0 wr [.box g1 37 #[.int .i64 (R : Nat), .slice Al L.length cl, .int .u64 (st : Nat), .slice Ar rl.length cr, .slice An nl.length cn, .slice Ag gl.length cg]] K) (fun i _ => rl.length - (intOf i).toNat)
 case atStart => exact ⟨0, rfl, by omega, Lib.hid (by simp), hS⟩
 case round =>
  clear hS
  obtain ⟨j, rfl, hj, HN, hS⟩ := hrel
  by_cases hlj : j < rl.length
  ·obtain ⟨b, o, rfl, c0, c1, c2, c3, c4⟩ := Gj (kr _ _ hS.ro) hlj
   have HG := Lib.hid (AZ Az hlj)
   generalize rl.getD j Az = z at *
   obtain ⟨zr, y, n, rt, ro⟩ := z
   dsimp only at c0 c1 c2 c3 c4
   by_cases hn0 : n = 0
   ·subst hn0
    go_wp2_with (first
     | ((with_reducible refine qB ?_); refine qc ?_ ?_ <;> intro h_ <;> go_prune)
     | ((with_reducible refine qA 13 ?_); refine BigFrame.wpList_want rfl fun _ hK => AM (cs := [.bool zr, .int .u64 (y : Nat), .int .u64 ((0 : Nat) : Int), .int .i64 rt, .int .i64 ro]) rfl rfl (FC c0 c1 c2 c3 c4) Tryz.underlying96 rfl (by kernel_rfl) (hK _ _ ?_))
     | ((with_reducible refine qA 4 ?_); refine qa hS #[.bool false, .int .u64 0, .int .u64 0, .int .i64 0, .int .i64 0] ?_; clear hS; intro g4 w_ hS)
     | ((with_reducible refine qM ?_); (first | refine qS hS ?_ | refine qT hS ?_); clear hS; intro w_ hS; (try simp only [Act.put, Act.eval, zz, Value.cells] at hS))
     | ((with_reducible refine qK ?_); refine qC hS ?_))
    exact ⟨⟨j + 1, by go_num, hlj, Lib.hid (fun r hr => (Cu HG.out hr).elim (HN.out r) fun e => by rw [e]), hS.sub (List.sublist_cons_self _ _)⟩, by simp [intOf]; omega⟩
   ·have hn1 : ¬ (n : Int) = 0 := by omega
    go_wp2_with (first
     | ((with_reducible refine qB ?_); refine qc ?_ ?_ <;> intro h_ <;> go_prune)
     | ((with_reducible refine qA 13 ?_); refine BigFrame.wpList_want rfl fun _ hK => AM (cs := [.bool zr, .int .u64 (y : Nat), .int .u64 (n : Nat), .int .i64 rt, .int .i64 ro]) rfl rfl (FC c0 c1 c2 c3 c4) Tryz.underlying96 rfl (by kernel_rfl) (hK _ _ ?_))
     | ((with_reducible refine qA 4 ?_); refine qa hS #[.bool false, .int .u64 0, .int .u64 0, .int .i64 0, .int .i64 0] ?_; clear hS; intro g4 w_ hS)
     | ((with_reducible refine qM ?_); (first | refine qS hS ?_ | refine qT hS ?_); clear hS; intro w_ hS; (try simp only [Act.put, Act.eval, zz, Value.cells] at hS))
     | ((with_reducible refine qK ?_); refine qC hS ?_))
    go_ret
    exact AC.mk (by rw [<- HR.out, GD (p := ⟨(R : Int), some L, st, rl, nl, gl⟩) (List.mem_of_getElem? HG.out) hn0]; rfl) hS.below
  ·obtain rfl : j = rl.length := by omega
   rw [List.take_length] at HN
   go_wp2_with (first
    | ((with_reducible refine qB ?_); refine qc ?_ ?_ <;> intro h_ <;> go_prune)
    | ((with_reducible refine qK ?_); refine qC hS ?_))
   go_loopw [22] (fun iv wr => ∃ k : Nat, iv = .int .i64 (k : Nat) /\ k <= gl.length /\ Hid (∀ z ∈ gl.take k, z.2 = 0) /\ St w0 wr [.box g1 37 #[.int .i64 (R : Nat), .slice Al L.length cl, .int .u64 (st : Nat), .slice Ar rl.length cr, .slice An nl.length cn, .slice Ag gl.length cg]] K) (fun i _ => gl.length - (intOf i).toNat)
   case atStart => exact ⟨0, rfl, by omega, Lib.hid (by simp), hS⟩
   case round =>
    clear hS
    obtain ⟨k, rfl, hk, HN2, hS⟩ := hrel
    by_cases hlk : k < gl.length
    ·obtain ⟨bp, op, rfl⟩ := sl_pos (kg _ _ hS.ro) (by omega)
     obtain ⟨f0, f1⟩ := Da gl k hlk
     have c0 := Di (kg _ _ hS.ro) f0
     have c1 := Di (kg _ _ hS.ro) f1
     have HG := Lib.hid (AZ (0, 0) hlk)
     generalize gl.getD k (0, 0) = z at *
     obtain ⟨y, n⟩ := z
     dsimp only at c0 c1
     clear f0 f1
     by_cases hn0 : n = 0
     ·subst hn0
      go_wp2_with (first
       | ((with_reducible refine qB ?_); refine qc ?_ ?_ <;> intro h_ <;> go_prune)
       | ((with_reducible refine qA 25 ?_); refine BigFrame.wpList_want rfl fun _ hK => AM (cs := [.int .u64 (y : Nat), .int .u64 ((0 : Nat) : Int)]) rfl rfl (Id c0 c1) Tryz.underlying94 rfl (by kernel_rfl) (hK _ _ ?_))
       | ((with_reducible refine qA 6 ?_); refine qa hS #[.int .u64 0, .int .u64 0] ?_; clear hS; intro g6 w_ hS)
       | ((with_reducible refine qM ?_); (first | refine qS hS ?_ | refine qT hS ?_); clear hS; intro w_ hS; (try simp only [Act.put, Act.eval, zz, Value.cells] at hS))
       | ((with_reducible refine qK ?_); refine qC hS ?_))
      exact ⟨⟨k + 1, by go_num, hlk, Lib.hid (fun r hr => (Cu HG.out hr).elim (HN2.out r) fun e => by rw [e]), hS.sub (List.sublist_cons_self _ _)⟩, by simp [intOf]; omega⟩
     ·have hn1 : ¬ (n : Int) = 0 := by omega
      go_wp2_with (first
       | ((with_reducible refine qB ?_); refine qc ?_ ?_ <;> intro h_ <;> go_prune)
       | ((with_reducible refine qA 25 ?_); refine BigFrame.wpList_want rfl fun _ hK => AM (cs := [.int .u64 (y : Nat), .int .u64 (n : Nat)]) rfl rfl (Id c0 c1) Tryz.underlying94 rfl (by kernel_rfl) (hK _ _ ?_))
       | ((with_reducible refine qA 6 ?_); refine qa hS #[.int .u64 0, .int .u64 0] ?_; clear hS; intro g6 w_ hS)
       | ((with_reducible refine qM ?_); (first | refine qS hS ?_ | refine qT hS ?_); clear hS; intro w_ hS; (try simp only [Act.put, Act.eval, zz, Value.cells] at hS))
       | ((with_reducible refine qK ?_); refine qC hS ?_))
      go_ret
      exact AC.mk (by rw [<- HR.out, frag_no_goal (p := ⟨(R : Int), some L, st, rl, nl, gl⟩) (List.mem_of_getElem? HG.out) hn0]; rfl) hS.below
    ·obtain rfl : k = gl.length := by omega
     rw [List.take_length] at HN2
     have HE := Lib.hid (frag_end (p := ⟨(R : Int), some L, st, rl, nl, gl⟩) HN.out HN2.out)
     by_cases hn0 : nl.length = 0
     ·have h0 : (nl.length : Int) = 0 := by omega
      have HE2 : Hid (RES = true) := Lib.hid (by rw [<- HR.out, HE.out, List.eq_nil_of_length_eq_zero hn0]; rfl)
      go_wp2_with (first | ((with_reducible refine qB ?_); refine qc ?_ ?_ <;> intro h_ <;> go_prune) | ((with_reducible refine qK ?_); refine qC hS ?_))
      go_ret
      exact AC.mk (by rw [HE2.out]; rfl) hS.below
     ·have h0 : ¬ (nl.length : Int) = 0 := by omega
      have HE2 : Hid (RES = false) := Lib.hid (by
       rw [<- HR.out, HE.out]
       cases nl with
       | nil => exact absurd rfl hn0
       | cons => rfl)
      go_wp2_with (first | ((with_reducible refine qB ?_); refine qc ?_ ?_ <;> intro h_ <;> go_prune) | ((with_reducible refine qK ?_); refine qC hS ?_))
      go_ret
      exact AC.mk (by rw [HE2.out]; rfl) hS.below
end
section
open Go.RowKit
attribute [local go_sem ↓] Go.wp_at_zero Go.wp_at_succ
set_option maxRecDepth 20000
set_option exponentiation.threshold 5000
section
variable {P : Program} {w : World} {t : TypeId}
theorem run_shrW {s r : Nat} (hr : r <= 64) : (binOp .shr t (.int .u64 (s : Nat)) (.int .i64 (r : Nat))).run P w = .ok (.int .u64 (IE s r : Nat)) w := by
 rw [binOp_shr, shift_shr _ _ _ _ (by omega) (by show (r : Int) <= 64; omega)]
 simp [IE]
theorem run_rem2W {m : Nat} : (binOp .rem t (.int .u64 (m : Nat)) (.int .u64 2)).run P w = .ok (.int .u64 (rem2 m : Nat)) w := by
 go_simp
 exact tmod_nat m 2
theorem He {s r : Nat} {b : Bool} (hb : s.testBit r = b) : (binOp .eql t (.int .u64 (rem2 (IE s r) : Nat)) (.int .u64 0)).run P w = .ok (.bool (!b)) w := by
 rw [binOp_eql, bit_of, hb]
 cases b <;> simp
end
def BK (L : List (Nat × Nat)) (l : List AK) (N m : Nat) (f : Int) : Prop :=
 (f = -1 /\ ∀ i, m <= i -> i < l.length -> candB L N (l.getD i Az) = false) \/ ∃ j : Nat, f = (j : Int) /\ m <= j /\ j < l.length /\ candB L N (l.getD j Az) = true /\ ∀ i, m <= i -> i < j -> candB L N (l.getD i Az) = false
theorem BK.zero (L : List (Nat × Nat)) (l : List AK) (N : Nat) : BK L l N l.length (-1) := .inl ⟨rfl, fun i h1 h2 => by omega⟩
theorem BK.skip {L : List (Nat × Nat)} {l : List AK} {N m : Nat} {f : Int} (h : BK L l N (m + 1) f) (h1 : candB L N (l.getD m Az) = false) : BK L l N m f := by
 have key : ∀ i, m <= i -> i = m \/ m + 1 <= i := fun i hi => by omega
 rcases h with ⟨rfl, h⟩ | ⟨j, rfl, h2, h3, h4, h5⟩
 ·exact .inl ⟨rfl, fun i hi hl => (key i hi).elim (fun e => by rw [e]; exact h1) fun e => h i e hl⟩
 ·exact .inr ⟨j, rfl, by omega, h3, h4, fun i hi hl => (key i hi).elim (fun e => by rw [e]; exact h1) fun e => h5 i e hl⟩
theorem BK.hit {L : List (Nat × Nat)} {l : List AK} {N m : Nat} (hm : m < l.length) (h1 : candB L N (l.getD m Az) = true) : BK L l N m (m : Nat) := .inr ⟨m, rfl, Nat.le_refl _, hm, h1, fun i h2 h3 => by omega⟩
theorem BK.done {L : List (Nat × Nat)} {l : List AK} {N : Nat} {f : Int} (h : BK L l N 0 f) : (f = -1 /\ firstC L l N = none) \/ ∃ j : Nat, f = (j : Int) /\ j < l.length /\ firstC L l N = some j := by
 rcases h with ⟨rfl, h⟩ | ⟨j, rfl, h2, h3, h4, h5⟩
 ·refine .inl ⟨rfl, Dn.2 fun z hz => ?_⟩
  obtain ⟨i, hi⟩ := List.mem_iff_getElem?.1 hz
  have := h i (Nat.zero_le _) (List.getElem?_eq_some_iff.1 hi).1
  rwa [List.getD_eq_getElem?_getD, hi] at this
 ·refine .inr ⟨j, rfl, h3, firstC_of (AZ Az h3) h4 fun z hz => ?_⟩
  obtain ⟨i, hi⟩ := List.mem_iff_getElem?.1 hz
  rw [List.getElem?_take] at hi
  split at hi
  ·rename_i hij
   have := h5 i (Nat.zero_le _) hij
   rwa [List.getD_eq_getElem?_getD, hi] at this
  ·cases hi
set_option maxHeartbeats 4000000 in
theorem rsat_any {w0 w : World} {F : List Af} {K : (Nat -> Prop) -> World -> Prop} {v : Value} {p : Ae} {L : List (Nat × Nat)} {R : Nat} (hM : BJ p L R) (hS : St w0 w F K) (kp : ∀ D w, K D w -> Bb w D v p) :
  Calls Tryz.prog 18 #[v] w fun e w' => ∃ u, e = .returned (.tuple #[u, .int .u64 ((satM L p).1 : Nat)]) /\ St w0 w' (.own u 3 1 (satM L p).2.length (AF (satM L p).2) :: F) K := by
 obtain ⟨R', lk, st, rl, nl, gl⟩ := p
 obtain rfl : lk = some L := hM.links
 obtain rfl : R' = (R : Int) := hM.roles
 obtain ⟨Al, cl, Ar, cr, An, cn, Ag, cg, rfl⟩ := Bz (kp _ _ hS.ro)
 have kl : ∀ D w, K D w -> Sl w D 2 (.slice Al L.length cl) L.length (A9 L) := fun D w h => (BH (kp D w h)).1
 have kr : ∀ D w, K D w -> Sl w D 5 (.slice Ar rl.length cr) rl.length (AQ rl) := fun D w h => (BH (kp D w h)).2.1
 have HM := Lib.hid hM
 have HL := Lib.hid (show Em 64 L from hM.hok.inr)
 have hlen := hM.len
 have hr6 : rl.length <= 6 := hM.rlen
 have hst : st < B7 := hM.fits.start
 clear hM kp
 obtain ⟨SM, hSM⟩ : ∃ SM, satM L ⟨(R : Int), some L, st, rl, nl, gl⟩ = SM := ⟨_, rfl⟩
 rw [hSM]
 replace hSM := Lib.hid hSM
 go_enter Tryz.func18, Tryz.ntmps18
 go_wp2_with (first
  | ((with_reducible refine qA 1 ?_); refine Ak hS rfl _ _ rfl (.agg #[.int .i64 (R : Nat), .slice Al L.length cl, .int .u64 (st : Nat), .slice Ar rl.length cr, .slice An nl.length cn, .slice Ag gl.length cg]) _ rfl rfl ?_; clear hS; intro g1 w_ hS; (try simp only [Act.put, Act.eval, zz, Value.cells] at hS))
  | ((with_reducible refine qK ?_); refine qC hS ?_))
 replace hS := hS.nil 3 1
 go_loopg [4, 5] (Dr st rl) (fun k uw sw wr => ∃ (n : Nat) (u : Value) (N : Nat) (us : List Int), u = uw /\ sw = .int .u64 (N : Nat) /\ N < B7 /\ Dr N rl <= k /\ us.length <= rl.length /\ Hid (satS L ⟨(R : Int), some L, st, rl, nl, gl⟩ n = (N, us) /\ us.length = n) /\ St w0 wr (.own u 3 1 us.length (AF us) :: .box g1 37 #[.int .i64 (R : Nat), .slice Al L.length cl, .int .u64 (st : Nat), .slice Ar rl.length cr, .slice An nl.length cn, .slice Ag gl.length cg] :: F) K)
 case atStart => exact ⟨0, _, st, [], rfl, rfl, hst, Nat.le_refl _, by simp, Lib.hid ⟨rfl, rfl⟩, hS⟩
 case round =>
  clear hS hst
  obtain ⟨n, u, N, us, rfl, rfl, hN, hgk, hul, HI0, hS⟩ := hrel
  have HGK := Lib.hid hgk
  clear hgk
  go_wp2_with (first | ((with_reducible refine qK ?_); refine qC hS ?_))
  go_loopw [6, 7] (fun fv kv wr => ∃ (f x : Int) (m : Nat), fv = .int .i64 f /\ kv = .int .i64 x /\ x + 1 = (m : Int) /\ m <= rl.length /\ Hid (BK L rl N m f) /\ St w0 wr (.own u 3 1 us.length (AF us) :: .box g1 37 #[.int .i64 (R : Nat), .slice Al L.length cl, .int .u64 (st : Nat), .slice Ar rl.length cr, .slice An nl.length cn, .slice Ag gl.length cg] :: F) K) (fun _ i _ => (intOf i + 1).toNat)
  case atStart => exact ⟨-1, _, rl.length, rfl, rfl, by omega, Nat.le_refl _, Lib.hid (BK.zero _ _ _), hS⟩
  case round =>
   clear hS
   obtain ⟨f, x, m, rfl, rfl, hx, hm, HI, hS⟩ := hrel
   by_cases h0 : 0 <= x
   ·obtain ⟨j, rfl⟩ : ∃ j : Nat, x = (j : Int) := ⟨x.toNat, by omega⟩
    obtain rfl : m = j + 1 := by omega
    have hlj : j < rl.length := by omega
    clear hx
    obtain ⟨b, o, rfl, c0, c1, c2, c3, c4⟩ := Gj (kr _ _ hS.ro) hlj
    have HG := Lib.hid (AZ Az hlj)
    have hz := HM.out.rules _ (List.mem_of_getElem? HG.out)
    have HHIT : Hid (candB L N (rl.getD j Az) = true -> BK L rl N j (j : Nat)) := Lib.hid fun h => BK.hit hlj h
    have HSKIP : Hid (candB L N (rl.getD j Az) = false -> BK L rl N j f) := Lib.hid fun h => HI.out.skip h
    clear HI
    generalize rl.getD j Az = z at *
    obtain ⟨zr, y, n, rt, ro⟩ := z
    obtain ⟨t, rfl, ht⟩ : ∃ t : Nat, rt = (t : Int) /\ t < 64 := ⟨rt.toNat, by have h := hz.1; have h5 := HM.out.r5; dsimp only at h h5; omega, by have h := hz.1; have h5 := HM.out.r5; dsimp only at h h5; omega⟩
    have hy64 : y < B7 := by have := hz.2.2.2.2.2.1; dsimp only at this; unfold B7; omega
    clear hz
    dsimp only at c0 c1 c2 c3 c4
    obtain ⟨q1, hq1⟩ : ∃ q1, N.testBit t = q1 := ⟨_, rfl⟩
    obtain ⟨q2, hq2⟩ : ∃ q2, (y &&& closM L N == y) = q2 := ⟨_, rfl⟩
    have HC : Hid (candB L N ⟨zr, y, n, (t : Int), ro⟩ = ((!zr && !q1) && q2)) := Lib.hid (by
     unfold candB
     dsimp only
     rw [Dm, hq1, hq2])
    have HE0 : Hid (∀ w : World, (binOp .eql 33 (.int .u64 ((y &&& BG (closM L N) : Nat) : Int)) (.int .u64 0)).run Tryz.prog w = .ok (.bool q2) w) := Lib.hid fun w => Gg (by
     rw [<- hq2, Bool.eq_iff_iff, <- andnot_zero hy64 (Dz L N), decide_eq_true_eq]; omega)
    have HQ1 := Lib.hid hq1
    clear hq1 hq2
    obtain ⟨rb, hrb⟩ : ∃ rb, rb = zr := ⟨_, rfl⟩
    have HRB := Lib.hid hrb
    clear hrb
    go_wp2_with (first
     | ((with_reducible refine qB ?_); refine qc ?_ ?_ <;> intro h_ <;> go_prune)
     | ((with_reducible refine qA 23 ?_); refine BigFrame.wpList_want rfl fun _ hK => AM (cs := [.bool zr, .int .u64 (y : Nat), .int .u64 (n : Nat), .int .i64 (t : Nat), .int .i64 ro]) rfl rfl (FC c0 c1 c2 c3 c4) Tryz.underlying96 rfl (by kernel_rfl) (hK _ _ ?_))
     | ((with_reducible refine qA 8 ?_); refine qa hS #[.bool false, .int .u64 0, .int .u64 0, .int .i64 0, .int .i64 0] ?_; clear hS; intro g8 w_ hS)
     | ((with_reducible refine qM ?_); (first | refine qS hS ?_ | refine qT hS ?_); clear hS; intro w_ hS; (try simp only [Act.put, Act.eval, zz, Value.cells] at hS))
     | ((with_reducible refine qK ?_); refine qC hS ?_))
    refine Cr [.q g8 0, .i (.bool zr), .i (.bool (!zr)), .i (.bool (!zr)), .g ((!zr)) (.int .u64 (N : Nat)), .g ((!zr)) (.pointer (some ⟨g8, 3, none⟩)), .g ((!zr)) (.int .i64 (t : Nat)), .g ((!zr)) (.int .u64 (IE N t : Nat)), .g ((!zr)) (.int .u64 (rem2 (IE N t) : Nat)), .g ((!zr)) (.bool (!q1)), .i (.bool ((!zr) && (!q1))), .i (.bool ((!zr) && (!q1))), .g (((!zr) && (!q1))) (.pointer (some ⟨g8, 1, none⟩)), .g (((!zr) && (!q1))) (.pointer (some ⟨g8, 1, none⟩)), .g (((!zr) && (!q1))) (.int .u64 (y : Nat)), .g (((!zr) && (!q1))) (.pointer (some ⟨g1, 1, none⟩)), .g (((!zr) && (!q1))) (.slice Al L.length cl), .g (((!zr) && (!q1))) (.int .u64 (N : Nat)), .g (((!zr) && (!q1))) (.int .u64 (closM L N : Nat)), .g (((!zr) && (!q1))) (.int .u64 ((y &&& BG (closM L N) : Nat) : Int)), .g (((!zr) && (!q1))) (.bool q2), .i (.bool (((!zr) && (!q1)) && q2))] ⟨uF, uC (h := fun w hW hN => (hS.ext hW).shut 0 rfl 0 rfl), uU, uM, (by cases zr <;> first | exact uY | exact uX | exact uM), (by cases zr <;> first | exact uY | exact uX | exact uF), (by cases zr <;> first | exact uY | exact uX | exact uC (h := fun w hW hN => (hS.ext hW).shut 0 rfl 3 rfl)), (by cases zr <;> first | exact uY | exact uX | exact uB (h := fun w hW hN => run_shrW (by omega))), (by cases zr <;> first | exact uY | exact uX | exact uB (h := fun w hW hN => run_rem2W)), (by cases zr <;> first | exact uY | exact uX | exact uB (h := fun w hW hN => He HQ1.out)), (by cases zr <;> exact uP), uM, (by cases zr <;> cases q1 <;> first | exact uY | exact uX | exact uF), (by cases zr <;> cases q1 <;> first | exact uY | exact uX | exact uF), (by cases zr <;> cases q1 <;> first | exact uY | exact uX | exact uC (h := fun w hW hN => (hS.ext hW).shut 0 rfl 1 rfl)), (by cases zr <;> cases q1 <;> first | exact uY | exact uX | exact uF), (by cases zr <;> cases q1 <;> first | exact uY | exact uX | exact uC (h := fun w hW hN => (hS.ext hW).shut 2 rfl 1 rfl)), (by cases zr <;> cases q1 <;> first | exact uY | exact uX | exact uM), ?_, (by cases zr <;> cases q1 <;> first | exact uY | exact uX | exact uB (h := fun w hW hN => Eq hy64 (Dz L N))), (by cases zr <;> cases q1 <;> first | exact uY | exact uX | exact uB (h := fun w hW hN => HE0.out _)), (by cases zr <;> cases q1 <;> exact uP), trivial⟩ ?_
    ·cases zr <;> cases q1 <;> first | exact uY | exact uX | (refine uT fun b__ w hW hE K hK => ?_; have e40 : b__.eval (.tmp 40) = .slice Al L.length cl := hE 40; have e41 : b__.eval (.tmp 41) = .int .u64 (N : Nat) := hE 41; (exact Aq rfl (by kernel_rfl) (by simp only [List.map_cons, List.map_nil, e40, e41]) (Ef (kl _ _ (hS.ext hW).ro) HL.out (by omega) N) fun v w' h hb => hK v w' h hb))
    ·intro vs wz hW hT
     obtain ⟨e24, e25, e26, e27, -, -, -, -, -, -, e34, e35, -, -, -, -, -, -, -, -, -, e45, -⟩ := hT
     simp only [AB, Act.put, zz, ze]
     rw [e45]
     replace hS := hS.ext hW
     clear hW e24 e25 e26 e27 e45
     obtain ⟨c, hc⟩ : ∃ c, ((!zr && !q1) && q2) = c := ⟨_, rfl⟩
     rw [hc] at HC ⊢
     clear hc
     cases c
     ·go_wp2_with fail
      exact ⟨⟨f, (j : Int) - 1, j, rfl, by go_num, by omega, by omega, Lib.hid (HSKIP.out HC.out), hS.sub (List.sublist_cons_self _ _)⟩, by simp [intOf]⟩
     ·go_wp2_with fail
      exact ⟨⟨(j : Int), (j : Int) - 1, j, rfl, by go_num, by omega, by omega, Lib.hid (HHIT.out HC.out), hS.sub (List.sublist_cons_self _ _)⟩, by simp [intOf]⟩
   ·obtain rfl : m = 0 := by omega
    obtain rfl : x = -1 := by omega
    clear hx h0
    have HD := Lib.hid HI.out.done
    clear HI
    cases hfc : firstC L rl N with
    | none =>
     rw [hfc] at HD
     have hf : f = -1 := by
      rcases HD.out with ⟨h, _⟩ | ⟨_, _, _, h⟩
      ·exact h
      ·cases h
     subst hf
     have HE := Lib.hid (sat_end (p := ⟨(R : Int), some L, st, rl, nl, gl⟩) (L := L) HM.out.targ (n := n) (by rw [HI0.out.1]; exact hfc) (by rw [HI0.out.1]; exact HI0.out.2))
     rw [HI0.out.1, hSM.out] at HE
     obtain rfl := HE.out
     clear hfc HE HD
     go_wp2_with (first | ((with_reducible refine qB ?_); refine qc ?_ ?_ <;> intro h_ <;> go_prune))
     go_ret2
     exact ⟨_, rfl, hS.sub (.cons_cons _ (List.sublist_cons_self _ _))⟩
    | some j =>
     rw [hfc] at HD
     obtain ⟨rfl, hjl⟩ : f = (j : Int) /\ j < rl.length := by
      rcases HD.out with ⟨_, h⟩ | ⟨i, rfl, h1, h2⟩
      ·cases h
      ·injection h2 with h2; subst h2; exact ⟨rfl, h1⟩
     have HNX := Lib.hid (BR (p := ⟨(R : Int), some L, st, rl, nl, gl⟩) (L := L) (n := n) (k := j) (by rw [HI0.out.1]; exact hfc))
     rw [HI0.out.1] at HNX
     obtain ⟨-, hc, -⟩ := CY hfc
     have HLK : Hid (Dr (Bw N (rl.getD j Az).target) rl < Dr N rl) := Lib.hid (by
      obtain ⟨t, ht, h64⟩ := HM.out.targ _ (List.mem_of_getElem? (AZ Az hjl))
      have := J9 (List.mem_of_getElem? (AZ Az hjl)) ht (CT hc).2.1
      rwa [Du h64, <- ht] at this)
     have HUL : Hid ((us ++ [(j : Int)]).length <= rl.length) := Lib.hid (by
      have h1 := Dx (p := ⟨(R : Int), some L, st, rl, nl, gl⟩) (L := L) HM.out.targ (n + 1)
      rw [HNX.out] at h1
      dsimp only at h1 ⊢
      omega)
     have hz := HM.out.targ _ (List.mem_of_getElem? (AZ Az hjl))
     dsimp only at HNX
     obtain ⟨b, o, rfl, -⟩ := Gj (kr _ _ hS.ro) hjl
     obtain ⟨z, hzz⟩ : ∃ z, rl.getD j Az = z := ⟨_, rfl⟩
     rw [hzz] at hz HNX HLK
     have HZ := Lib.hid hzz
     clear hzz hc hfc HD
     obtain ⟨zr, y, nn, rt, ro⟩ := z
     obtain ⟨t, ht, h64⟩ := hz
     dsimp only at ht HNX HLK
     subst ht
     have h2t : 2 ^ t < B7 := Eg h64
     have HW := Lib.hid (Du (N := N) h64)
     go_wp2_with (first
      | ((with_reducible refine qB ?_); refine qc ?_ ?_ <;> intro h_ <;> go_prune)
      | ((with_reducible refine qA 53 ?_); refine D0 hS 0 rfl rfl _ _ _ _ rfl rfl DR u us.length (AF us) (.int .i64 (j : Nat)) #[.int .i64 (j : Nat)] rfl (by kernel_rfl) rfl rfl rfl rfl (by intro u hu; simp at hu; subst hu; rfl) (by omega) (by omega) ?_; clear hS; intro z_ u' w_ hS; (try simp only [Act.put, Act.eval, zz, Value.cells] at hS))
      | ((with_reducible refine qA 61 ?_); obtain ⟨b', o', e', c0, c1, c2, c3, c4⟩ := Gj (kr _ _ hS.ro) hjl; injection e' with e'; injection e' with e1 e2; subst e1 e2; rw [HZ.out] at c3; dsimp only at c3; refine BigFrame.wpList_want rfl fun _ hK => Ax rfl rfl (by kernel_rfl) c3 (hK _ _ ?_); clear c0 c1 c2 c3 c4)
      | ((with_reducible refine qA 62 ?_); refine G9 rfl _ _ _ _ rfl _ rfl rfl h64 ?_)
      | ((with_reducible refine qA 63 ?_); refine DG rfl _ _ _ _ rfl _ _ rfl rfl hN h2t ?_)
      | ((with_reducible refine qK ?_); refine qC hS ?_))
     rw [HW.out]
     go_roundg (Dr (Bw N (t : Nat)) rl)
     case measure => exact Nat.lt_of_lt_of_le HLK.out HGK.out
     case rel =>
      refine ⟨n + 1, u', Bw N (t : Nat), us ++ [(j : Int)], rfl, rfl, by rw [<- HW.out]; rw [BD] at *; exact Nat.or_lt_two_pow hN h2t, Nat.le_refl _, HUL.out, Lib.hid ⟨HNX.out, by simp [HI0.out.2]⟩, ?_⟩
      rw [show (us ++ [(j : Int)]).length = us.length + 1 by simp, show AF (us ++ [(j : Int)]) = AF us ++ [.int .i64 (j : Nat)] by simp [AF]]
      exact hS
end
section
open Go.RowKit
set_option exponentiation.threshold 5000
section
variable {L : List (Nat × Nat)} {p q : Ae} {R : Nat}
theorem minus_lt {a b : Nat} (h : a < 2 ^ 64) : C7 a b < 2 ^ 64 := by
 refine Nat.lt_pow_two_of_testBit _ fun i hi => ?_
 rw [G8, Nat.testBit_lt_two_pow (Nat.lt_of_lt_of_le h (Nat.pow_le_pow_right (by decide) hi))]; rfl
end
end
section
open Go.RowKit
attribute [local go_sem ↓] Go.wp_at_zero Go.wp_at_succ
set_option maxRecDepth 20000
set_option exponentiation.threshold 5000
set_option maxHeartbeats 4000000 in
theorem rrun31_any {w0 : World} {D E : Nat -> Prop} {v pv : Value} {p : Ae} {L : List (Nat × Nat)} {R : Nat} {l : List Int} (hp : Bb w0 D v p) (hM : BJ p L R) (hv : Sl w0 E 1 pv l.length (AF l)) (hlen : l.length <= 1000000) :
  Calls Tryz.prog 73 #[v, pv] w0 (AC (fun x _ => x = .tuple #[.int .u64 ((runTo p p.start 0 l).1 : Nat), .int .i64 ((runTo p p.start 0 l).2.1 : Nat)]) w0) := by
 obtain ⟨Ap, cp, rfl, _, _⟩ := hv.shape
 obtain ⟨R', lk, st, rl, nl, gl⟩ := p
 obtain rfl : lk = some L := hM.links
 obtain rfl : R' = (R : Int) := hM.roles
 obtain ⟨Al, cl, Ar, cr, An, cn, Ag, cg, rfl⟩ := Bz hp
 obtain ⟨K, kp, kv, hS⟩ : ∃ K : (Nat -> Prop) -> World -> Prop, (∀ D w, K D w -> Bb w D (.agg #[.int .i64 (R : Nat), .slice Al L.length cl, .int .u64 (st : Nat), .slice Ar rl.length cr, .slice An nl.length cn, .slice Ag gl.length cg]) ⟨(R : Int), some L, st, rl, nl, gl⟩) /\ (∀ D w, K D w -> Sl w D 1 (.slice Ap l.length cp) l.length (AF l)) /\ St w0 w0 [] K := ⟨fun D w => Bb w D (.agg #[.int .i64 (R : Nat), .slice Al L.length cl, .int .u64 (st : Nat), .slice Ar rl.length cr, .slice An nl.length cn, .slice Ag gl.length cg]) ⟨(R : Int), some L, st, rl, nl, gl⟩ /\ Sl w D 1 (.slice Ap l.length cp) l.length (AF l), fun _ _ h => h.1, fun _ _ h => h.2, St.start (D := fun _ => True) (Bg.and (AA (by decide))) ⟨Bg D _ w0 w0 hp (Nat.le_refl _) (fun _ _ _ _ h => h) fun _ _ _ _ => trivial, hv.imp fun _ _ _ => trivial⟩⟩
 have HM := Lib.hid hM
 have HST := Lib.hid (show st &&& Bc R = st from hM.start)
 have hst : st < B7 := hM.fits.start
 clear hp hv hM
 obtain ⟨RES, hR⟩ : ∃ RES, runTo ⟨(R : Int), some L, st, rl, nl, gl⟩ st 0 l = RES := ⟨_, rfl⟩
 dsimp only
 rw [hR]
 replace hR := Lib.hid hR
 go_enter Tryz.func73, Tryz.ntmps73
 go_wp2_with (first
  | ((with_reducible refine qA 2 ?_); refine Ak hS rfl _ _ rfl (.agg #[.int .i64 (R : Nat), .slice Al L.length cl, .int .u64 (st : Nat), .slice Ar rl.length cr, .slice An nl.length cn, .slice Ag gl.length cg]) _ rfl rfl ?_; clear hS; intro g1 w_ hS; (try simp only [Act.put, Act.eval, zz, Value.cells] at hS))
  | ((with_reducible refine qK ?_); refine qC hS ?_))
 go_loopw [6, 15] (fun sv iv wr => ∃ (j N : Nat), sv = .int .u64 (N : Nat) /\ iv = .int .i64 (j : Nat) /\ j <= l.length /\ N < B7 /\ Hid (N &&& Bc R = N) /\ Hid (RES = runTo ⟨(R : Int), some L, st, rl, nl, gl⟩ N j (l.drop j)) /\ St w0 wr [.box g1 37 #[.int .i64 (R : Nat), .slice Al L.length cl, .int .u64 (st : Nat), .slice Ar rl.length cr, .slice An nl.length cn, .slice Ag gl.length cg]] K) (fun _ i _ => l.length - (intOf i).toNat)
 case atStart => exact ⟨0, st, rfl, rfl, by omega, hst, HST, Lib.hid (by rw [<- hR.out]; rfl), hS⟩
 case round =>
  clear hS
  obtain ⟨j, N, rfl, rfl, hj, hN, HN, HR, hS⟩ := hrel
  by_cases hjl : j < l.length
  ·obtain ⟨bp, op, rfl⟩ := sl_pos (kv _ _ hS.ro) (by omega)
   obtain ⟨k, hk⟩ : ∃ k, l[j]? = some k := ⟨_, List.getElem?_eq_getElem hjl⟩
   have HY : Hid ((AF l)[j]? = some (.int .i64 k)) := Lib.hid (by simp [AF, hk])
   have hd : l.drop j = k :: l.drop (j + 1) := by
    rw [List.drop_eq_getElem_cons hjl]
    congr 1
    rw [List.getElem?_eq_getElem hjl] at hk
    exact Option.some.inj hk
   rw [hd] at HR
   obtain ⟨V, hV⟩ : ∃ V, stepM ⟨(R : Int), some L, st, rl, nl, gl⟩ N k = V := ⟨_, rfl⟩
   have HVV := Lib.hid hV
   clear hk hd hV
   cases V with
   | none =>
    go_wp2_with (first
     | ((with_reducible refine qB ?_); refine qc ?_ ?_ <;> intro h_ <;> go_prune)
     | ((with_reducible refine qk 3 ?_); refine BigFrame.wpList_want rfl fun _ hK => Ax rfl rfl (by kernel_rfl) (Di (kv _ _ hS.ro) HY.out) (hK _ _ ?_))
     | ((with_reducible refine qK ?_); refine qL hS Tryz.underlying37 ?_)
     | (go_at_call 58; refine (EU (N := N) k (kp _ _ hS.ro) HM.out hN).mono ?_; rw [HVV.out]; rintro e w_ ⟨_, rfl, rfl, hb_⟩; replace hS := hS.ext hb_; clear hb_)
     | ((with_reducible refine qK ?_); refine qC hS ?_))
    go_ret2
    exact AC.mk (by rw [HR.out, IL HVV.out]; rfl) hS.below
   | some M =>
    have HMM := Lib.hid (FR HM.out HN.out HVV.out)
    have hM64 : M < B7 := by have := Iq HM.out.r5 HMM.out; unfold B7; omega
    go_wp2_with (first
     | ((with_reducible refine qB ?_); refine qc ?_ ?_ <;> intro h_ <;> go_prune)
     | ((with_reducible refine qk 3 ?_); refine BigFrame.wpList_want rfl fun _ hK => Ax rfl rfl (by kernel_rfl) (Di (kv _ _ hS.ro) HY.out) (hK _ _ ?_))
     | ((with_reducible refine qK ?_); refine qL hS Tryz.underlying37 ?_)
     | (go_at_call 58; refine (EU (N := N) k (kp _ _ hS.ro) HM.out hN).mono ?_; rw [HVV.out]; rintro e w_ ⟨_, rfl, rfl, hb_⟩; replace hS := hS.ext hb_; clear hb_)
     | ((with_reducible refine qK ?_); refine qC hS ?_))
    exact ⟨⟨j + 1, M, rfl, by go_num, hjl, hM64, HMM, Lib.hid (by rw [HR.out, Er HVV.out]), hS⟩, by simp [intOf]; omega⟩
  ·obtain rfl : j = l.length := by omega
   rw [List.drop_length] at HR
   go_wp2_with (first | ((with_reducible refine qB ?_); refine qc ?_ ?_ <;> intro h_ <;> go_prune) | ((with_reducible refine qK ?_); refine qC hS ?_))
   go_ret2
   exact AC.mk (by rw [HR.out]; rfl) hS.below
theorem tc_roles {R : Nat} {L : List (Nat × Nat)} (h : Jn R L) {a b : Nat} (k : TC L a b) : 1 <= a /\ a <= R := by
 obtain ⟨y, hy, _⟩ := k.first
 have := h _ hy
 dsimp only at this
 omega
theorem Je {p : Ae} {L : List (Nat × Nat)} {R : Nat} (hM : BJ p L R) {z : Nat × Nat} (h1 : z.1 &&& Bc R = z.1) (h2 : z.2 &&& Bc R = z.2) : Cp (depC L z) (Bc R) := fun i hi => by
 obtain ⟨r, a1, a2, a3, a4⟩ := (tb_dep hM.hok.inr).1 hi
 have h3 := or_le h1 h2 r a3
 have h5 := hM.r5
 rcases (H6 hM.hok.inr).1 a4 with rfl | h
 ·exact Io R (by omega) i (by omega) a1 h3
 ·have := tc_roles hM.inr h
  exact Io R (by omega) i (by omega) this.1 this.2
theorem rel_mask {p : Ae} {L : List (Nat × Nat)} {R : Nat} (hM : BJ p L R) : Cp (relM L p) (Bc R) :=
 Hm.sub ⟨fun c hc => Je hM (hM.goal c hc).1 (hM.goal c hc).2.1, fun r hr _ _ => Je hM (z := (r.yes, r.no)) (hM.rules r hr).2.2.1 (hM.rules r hr).2.2.2.1, fun c hc _ => Je hM (hM.never c hc).1.1 (hM.never c hc).1.2.1⟩
theorem mask_bits : ∀ R, R < 6 -> ∀ i, i < 6 -> (Bc R).testBit i = true -> 1 <= i /\ i <= R := by decide
theorem rel_bits {p : Ae} {L : List (Nat × Nat)} {R : Nat} (hM : BJ p L R) {i : Nat} (h : (relM L p).testBit i = true) : 1 <= i /\ i <= R := by
 have h1 := rel_mask hM i h
 have h5 := hM.r5
 have h6 : i < 6 := by
  rcases Nat.lt_or_ge i 6 with h2 | h2
  ·exact h2
  ·have hl : Bc R < 64 := by
    have : ∀ R, R < 6 -> Bc R < 64 := by decide
    exact this R (by omega)
   rw [Nat.testBit_lt_two_pow (Nat.lt_of_lt_of_le (by omega : Bc R < 2 ^ 6) (Nat.pow_le_pow_right (by decide) h2))] at h1; cases h1
 exact mask_bits R (by omega) i h6 h1
theorem memTo_cut {N k : Nat} (h : ∀ i, N.testBit i = true -> i < k) : ∀ m, k <= m -> BP N m = BP N k := fun m hm => by
 obtain ⟨d, rfl⟩ : ∃ d, m = k + d := ⟨m - k, by omega⟩
 clear hm
 induction d with
 | zero => rfl
 | succ d ih =>
  rw [<- Nat.add_assoc, FW, if_neg, ih]
  intro hb
  have := h _ hb
  omega
def DJ (N r : Nat) : List (Nat × Nat) := (BP N r).map fun i => (2 ^ i, 0)
theorem J2 (N r : Nat) : DJ N (r + 1) = if N.testBit r then DJ N r ++ [(2 ^ r, 0)] else DJ N r := by
 unfold DJ
 rw [FW]
 split <;> simp
theorem oneTo_one {N : Nat} (h : N.testBit 0 = false) : DJ N 1 = [] := by
 rw [show (1 : Nat) = 0 + 1 from rfl, J2, h]; rfl
theorem oneTo_full {N k : Nat} (h : ∀ i, N.testBit i = true -> i < k) (hk : k <= 64) : DJ N k = oneC N := by
 unfold DJ oneC Ba
 rw [memTo_cut h 64 hk]
theorem oneTo_len (N r : Nat) : (DJ N r).length <= r := by
 unfold DJ; rw [List.length_map]; exact Fq N r
set_option maxHeartbeats 4000000 in
theorem rsrch_any {w0 w : World} {F : List Af} {K : (Nat -> Prop) -> World -> Prop} {v : Value} {p : Ae} {L : List (Nat × Nat)} {R : Nat} (hM : BJ p L R) (hF : C1 p = true) (hS : St w0 w F K) (kp : ∀ D w, K D w -> Bb w D v p) :
  Calls Tryz.prog 39 #[v] w fun e w' => ∃ a c, e = .returned (.tuple #[a, c, .bool (srchM L p).2.2]) /\ St w0 w' F fun D w => K D w /\ Sl w D 1 a (srchM L p).1.length (AF (srchM L p).1) /\ BX w D c (srchM L p).2.1 := by
 have HT := Lib.hid hM.targ
 have HRUN := Lib.hid (Im hM.links hF)
 have HSTP := Lib.hid (Hc (L := L) hM.targ)
 have hsl := sat_short (L := L) hM.targ
 have hsrl := hM.rlen
 obtain ⟨R', lk, st, rl, nl, gl⟩ := p
 obtain rfl : lk = some L := hM.links
 obtain rfl : R' = (R : Int) := hM.roles
 dsimp only at hsl hsrl
 obtain ⟨Al, cl, Ar, cr, An, cn, Ag, cg, rfl⟩ := Bz (kp _ _ hS.ro)
 have KS := Lib.hid hS.stable
 have HM := Lib.hid hM
 have HK := Lib.hid kp
 obtain ⟨SM, hSM⟩ : ∃ SM, satM L ⟨(R : Int), some L, st, rl, nl, gl⟩ = SM := ⟨_, rfl⟩
 rw [hSM] at hsl HSTP
 obtain ⟨RES, hR⟩ : ∃ RES, srchM L ⟨(R : Int), some L, st, rl, nl, gl⟩ = RES := ⟨_, rfl⟩
 rw [hR]
 obtain ⟨U, us⟩ := SM
 dsimp only at hsl HSTP
 have hus6 : us.length <= 6 := by omega
 replace hR := Lib.hid hR
 replace hSM := Lib.hid hSM
 clear hM kp hF hsl hsrl
 go_enter Tryz.func39, Tryz.ntmps39
 go_wp2_with (first
  | ((with_reducible refine qA 1 ?_); refine Ak hS rfl _ _ rfl (.agg #[.int .i64 (R : Nat), .slice Al L.length cl, .int .u64 (st : Nat), .slice Ar rl.length cr, .slice An nl.length cn, .slice Ag gl.length cg]) _ rfl rfl ?_; clear hS; intro g1 w_ hS; (try simp only [Act.put, Act.eval, zz, Value.cells] at hS))
  | ((with_reducible refine qK ?_); refine qL hS Tryz.underlying37 ?_)
  | (go_at_call 18; refine (rsat_any HM.out hS HK.out).mono ?_; rw [hSM.out]; clear hS; rintro e w_ ⟨u, rfl, hS⟩; obtain ⟨Au, cu, rfl, hcu, _⟩ := Bl (hS.own 0 rfl); replace hS := hS.freeze 0 (by decide) rfl)
  | ((with_reducible refine qK ?_); refine qC hS ?_))
 go_loopw [7] (fun nv wr => ∃ j : Nat, nv = .int .i64 (j : Nat) /\ j <= us.length + 1 /\ Hid (∀ i, i < j -> reachB ⟨(R : Int), some L, st, rl, nl, gl⟩ (satS L ⟨(R : Int), some L, st, rl, nl, gl⟩ i).1 = false) /\ St w0 wr (.box g1 37 #[.int .i64 (R : Nat), .slice Al L.length cl, .int .u64 (st : Nat), .slice Ar rl.length cr, .slice An nl.length cn, .slice Ag gl.length cg] :: F) (fun D w => K D w /\ Sl w D 1 (.slice Au us.length cu) us.length (AF us))) (fun i _ => us.length + 1 - (intOf i).toNat)
 case atStart => exact ⟨0, rfl, by omega, Lib.hid (fun i h => by omega), hS⟩
 case round =>
  clear hS
  obtain ⟨j, rfl, hj, HN, hS⟩ := hrel
  by_cases hju : j <= us.length
  ·have HTK := Lib.hid ((HSTP.out.2 j hju).1)
   have HTL := Lib.hid ((HSTP.out.2 j hju).2)
   have HRJ : Hid (∀ D w, K D w -> Sl w D 1 (.slice Au us.length cu) us.length (AF us) -> Calls Tryz.prog 73 #[.agg #[.int .i64 (R : Nat), .slice Al L.length cl, .int .u64 (st : Nat), .slice Ar rl.length cr, .slice An nl.length cn, .slice Ag gl.length cg], .slice Au j cu] w (AC (fun x _ => x = .tuple #[.int .u64 ((satS L ⟨(R : Int), some L, st, rl, nl, gl⟩ j).1 : Nat), .int .i64 (j : Nat)]) w)) := Lib.hid fun D w h1 h2 => by
    have h3 := h2.take (k := j) hju
    have h4 : (us.take j).length = j := by rw [List.length_take]; omega
    have h5 : (AF us).take j = AF (us.take j) := by unfold AF; rw [List.map_take]
    have h6 := rrun31_any (l := us.take j) (HK.out D w h1) HM.out (pv := .slice Au j cu) (E := D) (by rw [h4, <- h5]; simpa using h3) (by omega)
    have h7 := (HRUN.out j).2
    rw [HTK.out] at h7
    dsimp only at h6 h7
    rw [h7, h4] at h6
    exact h6
   have HY : Hid (reachB ⟨(R : Int), some L, st, rl, nl, gl⟩ (satS L ⟨(R : Int), some L, st, rl, nl, gl⟩ j).1 = true -> RES = (us.take j, [], true)) := Lib.hid fun h => by
    rw [<- hR.out]
    unfold srchM
    rw [Ja (by rw [hSM.out]; exact hju) h HN.out]
    dsimp only
    rw [HTK.out]
   have HN2 : Hid (reachB ⟨(R : Int), some L, st, rl, nl, gl⟩ (satS L ⟨(R : Int), some L, st, rl, nl, gl⟩ j).1 = false -> ∀ i, i < j + 1 -> reachB ⟨(R : Int), some L, st, rl, nl, gl⟩ (satS L ⟨(R : Int), some L, st, rl, nl, gl⟩ i).1 = false) := Lib.hid fun h i hi => by
    rcases Nat.lt_or_ge i j with h1 | h1
    ·exact HN.out i h1
    ·obtain rfl : i = j := by omega
     exact h
   generalize (satS L ⟨(R : Int), some L, st, rl, nl, gl⟩ j).1 = N at *
   clear HTK HTL HN
   go_wp2_with (first | ((with_reducible refine qB ?_); refine qc ?_ ?_ <;> intro h_ <;> go_prune))
   refine Cr [.i (.agg #[.int .i64 (R : Nat), .slice Al L.length cl, .int .u64 (st : Nat), .slice Ar rl.length cr, .slice An nl.length cn, .slice Ag gl.length cg]), .i (.slice Au us.length cu), .n (j : Nat), .i (.slice Au j cu), .i (.tuple #[.int .u64 (N : Nat), .int .i64 (j : Nat)]), .i (.tuple #[.int .u64 (N : Nat), .int .i64 (j : Nat)]), .i (.int .u64 (N : Nat)), .n (j : Nat), .i (.int .u64 (N : Nat)), .n (j : Nat)] ⟨uR (h := fun w hW hN => (hS.ext hW).box 0 rfl), uM, uM, ?_, ?_, uM, ?_, ?_, uA, uA, trivial⟩ ?_
   ·refine uT fun b__ w hW hE K hK => ?_
    have e25 := hE 25
    have e26 := hE 26
    exact Gu rfl Tryz.underlying45 ⟨1, by kernel_rfl⟩ e25 e26 (by omega) (hK _ _ rfl (Below.refl _ _))
   ·refine uT fun b__ w hW hE K hK => ?_
    have e24 := hE 24
    have e27 := hE 27
    exact Aq rfl (by kernel_rfl) (by simp only [List.map_cons, List.map_nil, e24, e27]) (HRJ.out _ _ (hS.ext hW).ro.1 (hS.ext hW).ro.2) fun v w' h hb => hK v w' h hb
   ·refine uT fun b__ w hW hE K hK => ?_
    have e23 := hE 23
    exact CW rfl e23 rfl (hK _ _ rfl (Below.refl _ _))
   ·refine uT fun b__ w hW hE K hK => ?_
    have e23 := hE 23
    exact CW rfl e23 rfl (hK _ _ rfl (Below.refl _ _))
   ·intro vs wz hW hT
    obtain ⟨e24, e25, e26, e27, e28, e23, e29, e30, e8, e9, -⟩ := hT
    simp only [AB, Act.put, zz, ze]
    rw [e8]
    replace hS := hS.ext hW
    clear hW HRJ
    obtain ⟨rb, hrb⟩ : ∃ rb, reachB ⟨(R : Int), some L, st, rl, nl, gl⟩ N = rb := ⟨_, rfl⟩
    have HRB := Lib.hid hrb
    rw [hrb] at HY HN2
    clear hrb
    cases rb
    ·go_wp2_with (first
      | ((with_reducible refine qK ?_); refine qL hS Tryz.underlying37 ?_)
      | (go_at_call 61; refine (Dt (s := N) (HK.out _ _ hS.ro.1) HM.out).mono ?_; rw [HRB.out]; rintro r_ w_ ⟨_, rfl, rfl, hb_⟩; replace hS := hS.ext hb_; clear hb_)
      | ((with_reducible refine qK ?_); refine qC hS ?_))
     exact ⟨⟨j + 1, by go_num, by omega, Lib.hid (HN2.out (by trivial)), hS⟩, by simp [intOf]; omega⟩
    ·have HY2 := Lib.hid (HY.out (by trivial))
     clear HY HN2
     go_wp2_with (first
      | ((with_reducible refine qK ?_); refine qL hS Tryz.underlying37 ?_)
      | (go_at_call 61; refine (Dt (s := N) (HK.out _ _ hS.ro.1) HM.out).mono ?_; rw [HRB.out]; rintro r_ w_ ⟨_, rfl, rfl, hb_⟩; replace hS := hS.ext hb_; clear hb_)
      | ((with_reducible refine qA 36 ?_); refine BigFrame.wpList_want rfl fun _ hK => Gu (k := j) rfl Tryz.underlying45 ⟨1, by kernel_rfl⟩ rfl rfl (by omega) (hK _ _ ?_))
      | ((with_reducible refine qK ?_); refine qC hS ?_))
     go_ret3
     obtain ⟨R1, R2, R3⟩ := RES
     have HY3 := HY2.out
     injection HY3 with h1 h2
     injection h2 with h2 h3
     subst h1 h2 h3
     refine ⟨_, _, rfl, (hS.sub (List.sublist_cons_self _ _)).mono (KS.out.and ((AA (by decide)).and Dg)) fun D w h => ⟨h.1, ?_, Sl.none_⟩⟩
     have h3 := h.2.take (k := j) hju
     have h4 : (us.take j).length = j := by rw [List.length_take]; omega
     have h5 : (AF us).take j = AF (us.take j) := by unfold AF; rw [List.map_take]
     rw [h5] at h3
     dsimp only
     rw [h4]
     exact h3
  ·obtain rfl : j = us.length + 1 := by omega
   obtain ⟨RL, hRL⟩ : ∃ RL, relM L ⟨(R : Int), some L, st, rl, nl, gl⟩ = RL := ⟨_, rfl⟩
   have hbits : ∀ i, (C7 RL U).testBit i = true -> 1 <= i /\ i <= R := fun i hi => by
    rw [G8, Bool.and_eq_true, <- hRL] at hi
    exact rel_bits HM.out hi.1
   have HZ : Hid (RES = ([], oneC (C7 RL U), false)) := Lib.hid (by
    rw [<- hR.out]
    unfold srchM
    rw [Jb (fun i hi => HN.out i (by rw [hSM.out] at hi; dsimp only at hi; omega)), hSM.out, hRL])
   have h25 : 2 <= R /\ R <= 5 := ⟨HM.out.r2, HM.out.r5⟩
   have HO1 : Hid (DJ (C7 RL U) 1 = []) := Lib.hid (oneTo_one (by
    cases h : (C7 RL U).testBit 0 with
    | false => rfl
    | true => exact absurd (hbits 0 h).1 (by decide)))
   have HOF : Hid (DJ (C7 RL U) (R + 1) = oneC (C7 RL U)) := Lib.hid (oneTo_full (fun i hi => by have := (hbits i hi).2; omega) (by omega))
   have HRL := Lib.hid hRL
   clear HN hbits hRL
   go_wp2_with (first | ((with_reducible refine qB ?_); refine qc ?_ ?_ <;> intro h_ <;> go_prune))
   replace hS := hS.nil 94 2
   go_loopw [10, 11] (fun ow rv wr => ∃ (r : Nat) (gv : Value), gv = ow /\ rv = .int .i64 (r : Nat) /\ 1 <= r /\ r <= R + 1 /\ St w0 wr (.own gv 94 2 (DJ (C7 RL U) r).length (B0 (DJ (C7 RL U) r)) :: .box g1 37 #[.int .i64 (R : Nat), .slice Al L.length cl, .int .u64 (st : Nat), .slice Ar rl.length cr, .slice An nl.length cn, .slice Ag gl.length cg] :: F) K) (fun _ i _ => R + 1 - (intOf i).toNat)
   case atStart => exact ⟨1, _, rfl, rfl, by omega, by omega, by rw [HO1.out]; exact hS.mono KS.out fun D w h => h.1⟩
   case round =>
    clear hS
    obtain ⟨r, gv, rfl, rfl, hr1, hr, hS⟩ := hrel
    by_cases hrR : r <= R
    ·have HST := Lib.hid (J2 (C7 RL U) r)
     have hol : (DJ (C7 RL U) r).length <= r := oneTo_len _ _
     obtain ⟨b1, hb1⟩ : ∃ b, RL.testBit r = b := ⟨_, rfl⟩
     obtain ⟨b2, hb2⟩ : ∃ b, U.testBit r = b := ⟨_, rfl⟩
     have HBB : Hid ((C7 RL U).testBit r = (b1 && !b2)) := Lib.hid (by rw [G8, hb1, hb2])
     rw [HBB.out] at HST
     generalize DJ (C7 RL U) r = OL at *
     cases b1
     ·go_wp2_with (first
       | ((with_reducible refine qK ?_); refine qL hS Tryz.underlying37 ?_)
       | (go_at_call 74; refine (IO (HK.out _ _ hS.ro) HM.out).mono ?_; rw [HRL.out]; rintro r_ w_ ⟨_, rfl, rfl, hb_⟩; replace hS := hS.ext hb_; clear hb_)
       | ((with_reducible refine qb .shr ?_); refine CK rfl _ _ _ _ rfl _ _ rfl rfl (by omega) ?_)
       | ((with_reducible refine qb .rem ?_); refine CL rfl _ _ _ _ rfl _ rfl rfl ?_)
       | ((with_reducible refine qA 48 ?_); refine Cj rfl _ _ _ _ rfl _ _ rfl rfl hb1 ?_)
       | ((with_reducible refine qB ?_); refine qc ?_ ?_ <;> intro h_ <;> go_prune)
       | ((with_reducible refine qK ?_); refine qC hS ?_))
      exact ⟨⟨r + 1, gv, rfl, by go_num, by omega, by omega, by rw [HST.out]; exact hS⟩, by simp [intOf]; omega⟩
     ·cases b2
      ·go_upto_region 13 with (first
        | ((with_reducible refine qK ?_); refine qL hS Tryz.underlying37 ?_)
        | (go_at_call 74; refine (IO (HK.out _ _ hS.ro) HM.out).mono ?_; rw [HRL.out]; rintro r_ w_ ⟨_, rfl, rfl, hb_⟩; replace hS := hS.ext hb_; clear hb_)
        | ((with_reducible refine qb .shr ?_); refine CK rfl _ _ _ _ rfl _ _ rfl rfl (by omega) ?_)
        | ((with_reducible refine qb .rem ?_); refine CL rfl _ _ _ _ rfl _ rfl rfl ?_)
        | ((with_reducible refine qA 48 ?_); refine Cj rfl _ _ _ _ rfl _ _ rfl rfl hb1 ?_)
        | ((with_reducible refine qA 54 ?_); refine BigFrame.wpList_want rfl fun _ hK => B5 (v := .bool true) rfl rfl rfl rfl (He (b := false) hb2) (hK _ _ ?_))
        | ((with_reducible refine qK ?_); refine qC hS ?_))
       go_wp2_with (first
        | ((with_reducible refine qA 58 ?_); refine G9 rfl _ _ _ _ rfl _ rfl rfl (by omega) ?_)
        | ((with_reducible refine qA 59 ?_); refine AE rfl _ _ rfl #[.int .u64 ((2 ^ r : Nat) : Int), .int .u64 0] (by kernel_rfl) ?_; (try simp only [Act.put, List.setIfInBounds_toArray, List.set_cons_zero, List.set_cons_succ]))
        | ((with_reducible refine qA 60 ?_); refine D0 hS 0 rfl rfl _ _ _ _ rfl rfl ty_mkc gv OL.length (B0 OL) (.agg #[.int .u64 ((2 ^ r : Nat) : Int), .int .u64 0]) #[.int .u64 ((2 ^ r : Nat) : Int), .int .u64 0] rfl (by kernel_rfl) rfl rfl rfl rfl (by intro u hu; simp at hu; rcases hu with rfl | rfl <;> rfl) (by omega) (by omega) ?_; clear hS; intro z_ gv' w_ hS; (try simp only [Act.put, Act.eval, zz, Value.cells] at hS))
        | ((with_reducible refine qB ?_); refine qc ?_ ?_ <;> intro h_ <;> go_prune)
        | ((with_reducible refine qK ?_); refine qC hS ?_))
       refine ⟨⟨r + 1, gv', rfl, by go_num, by omega, by omega, ?_⟩, by simp [intOf]; omega⟩
       rw [HST.out.trans (if_pos rfl), List.length_append, List.length_singleton, E7]
       exact hS
      ·go_wp2_with (first
        | ((with_reducible refine qK ?_); refine qL hS Tryz.underlying37 ?_)
        | (go_at_call 74; refine (IO (HK.out _ _ hS.ro) HM.out).mono ?_; rw [HRL.out]; rintro r_ w_ ⟨_, rfl, rfl, hb_⟩; replace hS := hS.ext hb_; clear hb_)
        | ((with_reducible refine qb .shr ?_); refine CK rfl _ _ _ _ rfl _ _ rfl rfl (by omega) ?_)
        | ((with_reducible refine qb .rem ?_); refine CL rfl _ _ _ _ rfl _ rfl rfl ?_)
        | ((with_reducible refine qA 48 ?_); refine Cj rfl _ _ _ _ rfl _ _ rfl rfl hb1 ?_)
        | ((with_reducible refine qA 54 ?_); refine BigFrame.wpList_want rfl fun _ hK => B5 (v := .bool false) rfl rfl rfl rfl (He (b := true) hb2) (hK _ _ ?_))
        | ((with_reducible refine qB ?_); refine qc ?_ ?_ <;> intro h_ <;> go_prune)
        | ((with_reducible refine qK ?_); refine qC hS ?_))
       exact ⟨⟨r + 1, gv, rfl, by go_num, by omega, by omega, by rw [HST.out]; exact hS⟩, by simp [intOf]; omega⟩
    ·obtain rfl : r = R + 1 := by omega
     rw [HOF.out] at hS
     go_wp2_with (first | ((with_reducible refine qB ?_); refine qc ?_ ?_ <;> intro h_ <;> go_prune) | ((with_reducible refine qK ?_); refine qC hS ?_))
     go_ret3
     rw [HZ.out]
     exact ⟨_, _, rfl, ((hS.freeze 0 (by decide) rfl).sub (List.sublist_cons_self _ _)).mono (KS.out.and ((AA (by decide)).and Dg)) fun D w h => ⟨h.1, Sl.none_, h.2⟩⟩
end
section
open Go.RowKit
attribute [local go_sem ↓] Go.wp_at_zero Go.wp_at_succ
set_option maxRecDepth 20000
set_option exponentiation.threshold 5000
noncomputable def srchS (p : Ae) : List Int × List (Nat × Nat) × Bool × Int := if checkE p = 0 then (match p.links with
 | none => ([], [], false, 0)
 | some L => if C1 p = true then ((srchM L p).1, (srchM L p).2.1, (srchM L p).2.2, 0) else ([], [], false, 15)) else ([], [], false, checkE p)
def SrchR (w0 : World) (r : List Int × List (Nat × Nat) × Bool × Int) : Ending -> World -> Prop :=
 AC (fun x w' => ∃ a c, x = .tuple #[a, c, .bool r.2.2.1, .int .i64 r.2.2.2] /\ Sl w' (w0.heap.size <= ·) 1 a r.1.length (AF r.1) /\ Ai w' (w0.heap.size <= ·) c r.2.1) w0
theorem Gl {P : Program} {fn : Func} {p2 p p4 p5 : Tmp} {ty : TypeId} {a : Act} {w : World} {g : Nat} {x v2 v4 v5 : Value} (h : fn.results = #[.tmp p2, .cell p ty, .tmp p4, .tmp p5]) (hp : a.eval (.tmp p) = .pointer (some ⟨g, 0, none⟩)) (hc : w.cell? ⟨g, 0, none⟩ = some x) (hu : Fc P ty = true)
  (hv2 : a.eval (.tmp p2) = v2) (hv4 : a.eval (.tmp p4) = v4) (hv5 : a.eval (.tmp p5) = v5) : (results fn a.tmps).run P w = .ok (.tuple #[v2, x, v4, v5]) w := by
 have hp' : a.tmps[p]?.getD undef = .pointer (some ⟨g, 0, none⟩) := by simpa [Act.eval] using hp
 have h2 : a.tmps[p2]?.getD undef = v2 := by simpa [Act.eval] using hv2
 have h4 : a.tmps[p4]?.getD undef = v4 := by simpa [Act.eval] using hv4
 have h5 : a.tmps[p5]?.getD undef = v5 := by simpa [Act.eval] using hv5
 have hl : (loadVar ty ⟨g, 0, none⟩).run P w = .ok x w := by
  have := FI (P := P) (w := w) hu hc
  simpa [Instr.loadAt, Instr.sureAddr] using this
 simp [results, h, hp', h2, h4, h5, asAddr, hl]
theorem opw_sl3 {P : Program} {o : Oper} {a : Act} {w : World} {Kt : Act -> World -> Prop} {Q : Exit -> Act -> World -> Prop} {t e : TypeId} {x h m : Operand} {A : Option Addr} {n c k : Nat} (ho : o.op = .slice t x none (some h) (some m)) (ht : P.underlying t = some (.slice e)) (hi : ∃ size, (P.info? e).map (·.size) = some size) (hx : a.eval x = .slice A n c) (hh : a.eval h = .int .i64 (k : Nat)) (hm : a.eval m = .int .i64 (k : Nat)) (hk : k <= c)
  (hK : Kt (a.put o.dst (.slice A k k)) w) : o.wp P a w Kt Q := by
 obtain ⟨size, hi⟩ := hi
 refine Cn (v := .slice A k k) ?_ hK
 cases hz : P.info? e with
 | none => rw [hz] at hi; cases hi
 | some z =>
  have hke : ((k : Nat) : Int) <= c := by omega
  have : A.map (·.add (0 * z.size)) = A := by cases A <;> simp [Addr.add]
  simp [execOp, ho, hx, hh, hm, Instr.sliceAt, Instr.slice, run_underlying ht, Instr.sliceBounds, run_sliceBound, sizeOf, typeInfo, hz, hke, Addr.add]
theorem FS {p : Prop} {K : (Nat -> Prop) -> World -> Prop} (h : AH K) : AH fun D w => p -> K D w := fun D D' w w' hh a b c hp => h D D' w w' (hh hp) a b c
theorem sl_cap {w : World} {D : Nat -> Prop} {A : Option Addr} {k c size : Nat} {xs : List Value} (h : Sl w D size (.slice A k c) k xs) : Sl w D size (.slice A k k) k xs := by
 obtain ⟨h1, A', c', e, h2, h3, h4⟩ := h
 injection e with e1 _ e3
 subst e1 e3
 exact ⟨h1, A, k, rfl, Nat.le_refl _, Nat.le_trans h2 h3, h4⟩
theorem Fy {w : World} {D : Nat -> Prop} {a b : Value} {z : Nat × Nat} (h1 : A6 w D (.agg #[a]) z.1) (h2 : A6 w D (.agg #[b]) z.2) : Aj w D [a, b] [z] := fun i y n hi => by
 cases i with
 | zero => obtain rfl := Option.some.inj (show some z = some (y, n) from hi); exact ⟨a, b, rfl, rfl, h1, h2⟩
 | succ i => simp at hi
theorem El {w : World} {D : Nat -> Prop} : Ai w D (.slice none 0 0) [] := ⟨[], Sl.none_, fun i y n hi => by simp at hi⟩
theorem St.good2 {w0 w w' : World} {F : List Af} {K : (Nat -> Prop) -> World -> Prop} (h : St w0 w F K) (hb : Below w.heap.size w w') {Bs cap : Nat} {A : Option Addr} {ws : List Nat} (hs : Sl w' (w.heap.size <= ·) 1 (.slice A ws.length cap) ws.length (Bi ws)) (hT : Bp w) (hF : D8 F 0)
  (hB : w.heap.size <= Bs) (hX : Ch w' Bs 27 #[.slice A ws.length cap]) : St w0 w' F fun D w => K D w /\ GoodK Bs A cap ws D w := by
 refine (h.ext hb).add (D := D8 F) Hr ⟨⟨(hX.cell 0).trans rfl, fun h0 => ?_, hT.ext hb⟩, h.fresh hB, fun b off e h0 => ?_, hF⟩ fun _ h _ => h
 ·obtain ⟨_, A', c', e, _, _, h2⟩ := hs
  obtain ⟨b, o, h3, h4, h6, h5⟩ := h2 h0
  injection e with e
  exact ⟨b, o, e.trans h3, fun j hj => h5 j _ (Cl _ _ hj)⟩
 ·obtain ⟨_, A', c', e', _, _, h2⟩ := hs
  obtain ⟨b', o', h3, h4, h6, h5⟩ := h2 h0
  injection e' with e'
  rw [e, h3] at e'; injection e' with e'; injection e' with e1; subst e1; exact h.fresh h4
theorem ofN_one {k : Nat} (h : k <= 4095) : ofN [(k : Int)] = 2 ^ k := by
 show FD 0 (k : Int) = _
 unfold FD
 rw [if_pos (by omega)]; simp
theorem memL_one {ws : List Nat} (hc : BW ws) (hN : BE ws < B7) : (BB ws).map (fun x => (2 ^ x.toNat, 0)) = oneC (BE ws) := by
 rw [memL_eq hc hN]
 unfold Ah oneC
 rw [List.map_map]
 rfl
set_option maxHeartbeats 8000000 in
theorem EP {w0 : World} {D : Nat -> Prop} {v : Value} {p : Ae} (hp : Bt w0 D v p) (hP : p.Ok) (hT : Bp w0) :
  Calls Tryz.prog 30 #[v] w0 (SrchR w0 (srchS p)) := by
 obtain ⟨xs, rfl, hx6, hx1⟩ := hp.cells
 replace hx6 := Lib.hid hx6
 obtain ⟨K, HK, HT, HTB, hS⟩ : ∃ K : (Nat -> Prop) -> World -> Prop, Hid (∀ D w, K D w -> Bt w D (.agg xs) p) /\ Hid (∀ D w, K D w -> Bp w) /\ Hid (∀ D w, K D w -> D 0) /\ St w0 w0 [] K :=
  ⟨fun D w => Bt w D (.agg xs) p /\ Bp w /\ D 0, Lib.hid fun _ _ h => h.1, Lib.hid fun _ _ h => h.2.1, Lib.hid fun _ _ h => h.2.2, St.start (D := fun _ => True) (Cv.and BA) ⟨Cv D _ w0 w0 hp (Nat.le_refl _) (fun _ _ _ _ h => h) fun _ _ _ _ => trivial, hT, trivial⟩⟩
 have HP := Lib.hid hP
 have KS := Lib.hid hS.stable
 clear hP hp hT
 obtain ⟨e, he⟩ : ∃ e, checkE p = e := ⟨_, rfl⟩
 have HE := Lib.hid he
 clear he
 obtain ⟨RES, hR⟩ : ∃ RES, srchS p = RES := ⟨_, rfl⟩
 rw [hR]
 by_cases h0 : e = 0
 ·subst h0
  obtain ⟨L, hl⟩ : ∃ L, p.links = some L := by
   cases h : p.links with
   | none => have := HE.out; unfold checkE at this; rw [h] at this; cases this
   | some L => exact ⟨L, rfl⟩
  cases hf : C1 p with
  | false =>
   have HR := Lib.hid (show RES = ([], [], false, 15) by rw [<- hR]; unfold srchS; rw [if_pos HE.out, hl, hf]; rfl)
   have HF : Hid (fragM p = false) := Lib.hid (by unfold fragM; rw [if_pos HE.out, hf])
   clear hR hl hf
   refine (callsIn_wide (n := 6)).1 (callsIn_of_wp_marks Tryz.func30 rfl trivial ?_ rfl)
   simp only [Tryz.ntmps30, List.size_toArray, List.length_cons, List.length_nil, Nat.reduceAdd, Nat.reduceSub, Array.replicate_succ, Array.replicate_zero, List.push_toArray, List.append_toArray, List.nil_append, List.cons_append]
   refine wpIn_wide.2 ?_
   go_wp2_with (first
    | ((with_reducible refine qA 1 ?_); refine Ak hS rfl _ _ rfl (.agg xs) xs rfl rfl ?_; clear hS; intro g1 w_ hS; (try simp only [Act.put, Act.eval, zz, Value.cells] at hS))
    | ((with_reducible refine qA 3 ?_); refine qa hS #[.slice none 0 0] ?_; clear hS; intro g3 w_ hS)
    | ((with_reducible refine qB ?_); refine qc ?_ ?_ <;> intro h_ <;> go_prune)
    | ((with_reducible refine qk 31 ?_); refine BigFrame.wpList_want rfl fun _ hK => AV rfl rfl (hS.box 1 rfl) Tryz.underlying31 rfl (by rw [hx6.out]; kernel_rfl) (hK _ _ ?_))
    | (go_at_call 31; refine (CI (HK.out _ _ hS.ro) HP.out (HT.out _ _ hS.ro)).mono ?_; rw [HE.out]; rintro r_ w_ ⟨_, rfl, rfl, hb_⟩; replace hS := hS.ext hb_; clear hb_)
    | (go_at_call 15; refine (Dv (HK.out _ _ hS.ro) HP.out (HT.out _ _ hS.ro)).mono ?_; rw [HF.out]; rintro r_ w_ ⟨_, rfl, rfl, hb_⟩; replace hS := hS.ext hb_; clear hb_)
    | ((with_reducible refine qM ?_); (first | refine qS hS ?_ | refine qT hS ?_); clear hS; intro w_ hS; (try simp only [Act.put, Act.eval, zz, Value.cells] at hS)))
   refine C0 (F := [.box g3 29 #[.slice none 0 0], .box g1 31 xs]) ?_ [] _ (by simpa [C8] using hS)
   intro w' h
   refine ⟨_, Gl rfl rfl (h.shut 0 rfl 0 rfl) (by kernel_rfl) rfl rfl rfl, ?_⟩
   rw [HR.out]
   exact AC.mk ⟨_, _, rfl, Sl.none_, El⟩ h.below
  | true =>
   have HTG := Lib.hid (F9 HE.out hl)
   have HF : Hid (fragM p = true) := Lib.hid (by unfold fragM; rw [if_pos HE.out, hf])
   have HRS := Lib.hid (show RES = ((srchM L p).1, (srchM L p).2.1, (srchM L p).2.2, 0) by rw [<- hR]; unfold srchS; rw [if_pos HE.out, hl]; dsimp only; rw [if_pos hf])
   have HSTP := Lib.hid (Hc (L := L) HTG.out)
   have hsl := sat_short (L := L) HTG.out
   have hrl := HP.out.rules
   have HREL : Hid (relS p = relM L p) := Lib.hid (by unfold relS; rw [if_pos HE.out, hl])
   have HL := Lib.hid hl
   obtain ⟨SM, hSM⟩ : ∃ SM, satM L p = SM := ⟨_, rfl⟩
   rw [hSM] at hsl HSTP
   replace hSM := Lib.hid hSM
   clear hR hl hf
   obtain ⟨R, lk, st, rl, nl, gl⟩ := p
   dsimp only at hsl hrl
   obtain rfl : lk = some L := HL.out
   obtain ⟨lp, s, rv, nv, gv, e, h1, h2, h3, h4, h5⟩ := HK.out _ _ hS.ro
   dsimp only at h1 h2 h3 h4 h5
   obtain ⟨q, o, rfl, -⟩ := id h1
   obtain ⟨Cs, ns, cs, rfl⟩ := h2.shape
   obtain ⟨Ar, cr, rfl, _, _⟩ := h3.shape
   obtain ⟨An, cn, rfl, _, _⟩ := h4.shape
   obtain ⟨Ag, cg, rfl, _, _⟩ := h5.shape
   injection e with e
   subst e
   obtain ⟨KC, kc, hS2⟩ : ∃ KC : (Nat -> Prop) -> World -> Prop, Hid (∀ D w, KC D w -> K D w /\ A6 w D (.agg #[.slice Cs ns cs]) st /\ Bm w D (.slice Ar rl.length cr) rl) /\ St w0 w0 [] KC := ⟨_, Lib.hid fun D w h => ⟨h.1, h.2.1, h.2.2⟩, hS.add (D := D8 []) (A5.and Be) ⟨h2, h3⟩ fun _ h _ => h⟩
   clear hS h1 h2 h3 h4 h5 hx1 hx6
   have hS := hS2
   clear hS2
   have k0 := Lib.hid fun D w h => (kc.out D w h).1
   have KSC := Lib.hid hS.stable
   obtain ⟨U, us⟩ := SM
   dsimp only at hsl HSTP
   refine (callsIn_wide (n := 6)).1 (callsIn_of_wp_marks Tryz.func30 rfl trivial ?_ rfl)
   simp only [Tryz.ntmps30, List.size_toArray, List.length_cons, List.length_nil, Nat.reduceAdd, Nat.reduceSub, Array.replicate_succ, Array.replicate_zero, List.push_toArray, List.append_toArray, List.nil_append, List.cons_append]
   refine wpIn_wide.2 ?_
   go_wp2_with (first
    | ((with_reducible refine qA 1 ?_); refine Ak hS rfl _ _ rfl (.agg #[.int .i64 R, .pointer (some ⟨q, 0, none⟩), .slice Cs ns cs, .slice Ar rl.length cr, .slice An nl.length cn, .slice Ag gl.length cg]) _ rfl rfl ?_; clear hS; intro g1 w_ hS; (try simp only [Act.put, Act.eval, zz, Value.cells] at hS))
    | ((with_reducible refine qA 3 ?_); refine qa hS #[.slice none 0 0] ?_; clear hS; intro g3 w_ hS)
    | ((with_reducible refine qB ?_); refine qc ?_ ?_ <;> intro h_ <;> go_prune)
    | ((with_reducible refine qK ?_); refine qL hS Tryz.underlying31 ?_)
    | (go_at_call 31; refine (CI (HK.out _ _ (k0.out _ _ hS.ro)) HP.out (HT.out _ _ (k0.out _ _ hS.ro))).mono ?_; rw [HE.out]; rintro r_ w_ ⟨_, rfl, rfl, hb_⟩; replace hS := hS.ext hb_; clear hb_)
    | (go_at_call 15; refine (Dv (HK.out _ _ (k0.out _ _ hS.ro)) HP.out (HT.out _ _ (k0.out _ _ hS.ro))).mono ?_; rw [HF.out]; rintro r_ w_ ⟨_, rfl, rfl, hb_⟩; replace hS := hS.ext hb_; clear hb_)
    | (go_at_call 55; refine (ER rfl HP.out HTG.out hS (fun D w h => HK.out _ _ (k0.out _ _ h)) (fun D w h => HT.out _ _ (k0.out _ _ h))).mono ?_; rw [hSM.out]; clear hS; rintro e w_ ⟨y, u, rfl, hS⟩; obtain ⟨x7, rfl, hu1⟩ := Cg hS.ro.2; obtain ⟨Au, cu, rfl, hcu, _⟩ := Bl (hS.own 0 rfl))
    | ((with_reducible refine qA 7 ?_); refine qa hS #[.slice none 0 0] ?_; clear hS; intro g7 w_ hS)
    | ((with_reducible refine qA 9 ?_); refine qa hS #[.slice none 0 0] ?_; clear hS; intro g9 w_ hS)
    | ((with_reducible refine qk 27 ?_); first | (refine A7 hS 0 rfl _ _ rfl _ _ rfl _ _ rfl _ (by first | rfl | assumption) Tryz.underlying27 rfl (by kernel_rfl) ?_) | (refine A7 hS 1 rfl _ _ rfl _ _ rfl _ _ rfl _ (by first | rfl | assumption) Tryz.underlying27 rfl (by kernel_rfl) ?_) | (refine A7 hS 2 rfl _ _ rfl _ _ rfl _ _ rfl _ (by first | rfl | assumption) Tryz.underlying27 rfl (by kernel_rfl) ?_) | (refine A7 hS 3 rfl _ _ rfl _ _ rfl _ _ rfl _ (by first | rfl | assumption) Tryz.underlying27 rfl (by kernel_rfl) ?_) | (refine A7 hS 4 rfl _ _ rfl _ _ rfl _ _ rfl _ (by first | rfl | assumption) Tryz.underlying27 rfl (by kernel_rfl) ?_) | (refine A7 hS 5 rfl _ _ rfl _ _ rfl _ _ rfl _ (by first | rfl | assumption) Tryz.underlying27 rfl (by kernel_rfl) ?_))
    | ((with_reducible refine qm 27 ?_); (first | refine AX hS 0 rfl _ _ _ rfl _ _ rfl rfl _ _ rfl (by kernel_rfl) (by kernel_rfl) (by simpa using hu1) ?_ | refine AX hS 1 rfl _ _ _ rfl _ _ rfl rfl _ _ rfl (by kernel_rfl) (by kernel_rfl) (by simpa using hu1) ?_ | refine AX hS 2 rfl _ _ _ rfl _ _ rfl rfl _ _ rfl (by kernel_rfl) (by kernel_rfl) (by simpa using hu1) ?_ | refine AX hS 3 rfl _ _ _ rfl _ _ rfl rfl _ _ rfl (by kernel_rfl) (by kernel_rfl) (by simpa using hu1) ?_); clear hS; intro w_ hS; (try simp only [Act.put, Act.eval, zz, Value.cells] at hS))
    | ((with_reducible refine qM ?_); (first | refine qS hS ?_ | refine qT hS ?_); clear hS; intro w_ hS; (try simp only [Act.put, Act.eval, zz, Value.cells] at hS)))
   obtain ⟨KX, kx, hS2⟩ : ∃ KX : (Nat -> Prop) -> World -> Prop, Hid (∀ D w, KX D w -> KC D w /\ A6 w D (.agg #[x7]) U) /\ St w0 w_ [.box g9 27 #[.slice Cs ns cs], .box g7 27 #[x7], .own (.slice Au us.length cu) 3 1 us.length (AF us), .box g3 29 #[.slice none 0 0], .box g1 31 #[.int .i64 R, .pointer (some ⟨q, 0, none⟩), .slice Cs ns cs, .slice Ar rl.length cr, .slice An nl.length cn, .slice Ag gl.length cg]] KX := ⟨_, Lib.hid fun D w h => h, hS⟩
   clear hS
   have hS := hS2
   clear hS2
   have KSX := Lib.hid hS.stable
   go_loopw [10] (fun iv wr => ∃ (j : Nat) (x9 : Value), iv = .int .i64 (j : Nat) /\ j <= us.length + 1 /\ x9.oneCell' = true /\ Hid (∀ i, i < j -> reachB ⟨R, some L, st, rl, nl, gl⟩ (satS L ⟨R, some L, st, rl, nl, gl⟩ i).1 = false) /\ St w0 wr [.box g9 27 #[x9], .box g7 27 #[x7], .own (.slice Au us.length cu) 3 1 us.length (AF us), .box g3 29 #[.slice none 0 0], .box g1 31 #[.int .i64 R, .pointer (some ⟨q, 0, none⟩), .slice Cs ns cs, .slice Ar rl.length cr, .slice An nl.length cn, .slice Ag gl.length cg]] (fun D w => KX D w /\ (j <= us.length -> A6 w D (.agg #[x9]) (satS L ⟨R, some L, st, rl, nl, gl⟩ j).1))) (fun i _ => us.length + 1 - (intOf i).toNat)
   case atStart => exact ⟨0, _, rfl, by omega, rfl, Lib.hid (fun i h => by omega), hS.mono (KSX.out.and (FS A5)) fun D w h => ⟨h, fun _ => (kc.out _ _ (kx.out _ _ h).1).2.1⟩⟩
   case round =>
    clear hS
    obtain ⟨j, x9, rfl, hj, hx9, HN, hS⟩ := hrel
    by_cases hju : j <= us.length
    ·have HTK := Lib.hid ((HSTP.out.2 j hju).1)
     have HY : Hid (reachB ⟨R, some L, st, rl, nl, gl⟩ (satS L ⟨R, some L, st, rl, nl, gl⟩ j).1 = true -> RES = (us.take j, [], true, 0)) := Lib.hid fun h => by
      rw [HRS.out]
      unfold srchM
      rw [Ja (by rw [hSM.out]; exact hju) h HN.out]
      dsimp only
      rw [HTK.out]
     have HN2 : Hid (reachB ⟨R, some L, st, rl, nl, gl⟩ (satS L ⟨R, some L, st, rl, nl, gl⟩ j).1 = false -> ∀ i, i < j + 1 -> reachB ⟨R, some L, st, rl, nl, gl⟩ (satS L ⟨R, some L, st, rl, nl, gl⟩ i).1 = false) := Lib.hid fun h i hi => by
      rcases Nat.lt_or_ge i j with h1 | h1
      ·exact HN.out i h1
      ·obtain rfl : i = j := by omega
       exact h
     obtain ⟨N, hN⟩ : ∃ N, (satS L ⟨R, some L, st, rl, nl, gl⟩ j).1 = N := ⟨_, rfl⟩
     rw [hN] at HY HN2
     replace hS : St w0 wr [.box g9 27 #[x9], .box g7 27 #[x7], .own (.slice Au us.length cu) 3 1 us.length (AF us), .box g3 29 #[.slice none 0 0], .box g1 31 #[.int .i64 R, .pointer (some ⟨q, 0, none⟩), .slice Cs ns cs, .slice Ar rl.length cr, .slice An nl.length cn, .slice Ag gl.length cg]] (fun D w => KX D w /\ A6 w D (.agg #[x9]) N) := hS.mono (KSX.out.and A5) fun D w h => ⟨h.1, by rw [<- hN]; exact h.2 hju⟩
     obtain ⟨rb, hrb⟩ : ∃ rb, reachB ⟨R, some L, st, rl, nl, gl⟩ N = rb := ⟨_, rfl⟩
     have HRB := Lib.hid hrb
     rw [hrb] at HY HN2
     have HNN := Lib.hid hN
     clear hrb hN HN
     cases rb
     ·by_cases hlt : j < us.length
      ·obtain ⟨k, hk, hkl, HNX⟩ : ∃ k : Nat, us[j]? = some (k : Int) /\ k < rl.length /\ Hid ((satS L ⟨R, some L, st, rl, nl, gl⟩ (j + 1)).1 = Bw N (rl.getD k Az).target) := by
        have h1 := HSTP.out.2 (j + 1) hlt
        have h2 := HSTP.out.2 j hju
        cases hfc : firstC L rl (satS L ⟨R, some L, st, rl, nl, gl⟩ j).1 with
        | none =>
         rw [C5 (p := ⟨R, some L, st, rl, nl, gl⟩) hfc] at h1
         omega
        | some k =>
         have h3 := BR (p := ⟨R, some L, st, rl, nl, gl⟩) hfc
         rw [h3] at h1
         refine ⟨k, ?_, (CY hfc).1, Lib.hid (by rw [h3, HNN.out])⟩
         have h4 := h1.1
         dsimp only at h4
         rw [h2.1] at h4
         have h5 : (us.take (j + 1))[j]? = some (k : Int) := by
          rw [<- h4, List.getElem?_append_right (by rw [List.length_take]; omega), List.length_take, Nat.min_eq_left hju]; simp
         rwa [List.getElem?_take, if_pos (by omega)] at h5
       obtain ⟨bu, ou, rfl⟩ := sl_pos (Sl.of_own (hS.own 2 rfl)) (by omega)
       have HY0 : Hid ((AF us)[j]? = some (.int .i64 (k : Nat))) := Lib.hid (by simp [AF, hk])
       obtain ⟨b, o2, y0, m0, rfl, _, hbl, c0, c1, c2, c3, c4, -, -⟩ := (kc.out _ _ (kx.out _ _ hS.ro.1).1).2.2.at_ hkl
       obtain ⟨t, ht, h64⟩ := HTG.out _ (List.mem_of_getElem? (AZ Az hkl))
       rw [ht] at HNX c3
       clear ht hk HY HNN c0 c1 c2 c4
       go_wp2_with (first
        | ((with_reducible refine qB ?_); refine qc ?_ ?_ <;> intro h_ <;> go_prune)
        | ((with_reducible refine qA 33 ?_); refine BigFrame.wpList_want rfl fun _ hK => AV rfl rfl (hS.box 4 rfl) Tryz.underlying31 rfl (by kernel_rfl) (hK _ _ ?_))
        | ((with_reducible refine qA 34 ?_); refine BigFrame.wpList_want rfl fun _ hK => AV rfl rfl (hS.box 0 rfl) Tryz.underlying27 rfl (by kernel_rfl) (hK _ _ ?_))
        | (go_at_call 25; refine (EW (HK.out _ _ (k0.out _ _ (kx.out _ _ hS.ro.1).1)) HP.out (HT.out _ _ (k0.out _ _ (kx.out _ _ hS.ro.1).1)) hS.ro.2).mono ?_; rw [HRB.out]; rintro r_ w_ ⟨_, rfl, rfl, hb_⟩; replace hS := hS.ext hb_; replace c3 := (hb_.cell hbl).trans c3; replace hbl := Nat.lt_of_lt_of_le hbl hb_.size; clear hb_))
       refine Ho 11 [] [.i (.agg #[x9]), .q g1 3, .i (.slice (some ⟨b, o2, none⟩) rl.length cr), .i (.slice (some ⟨bu, ou, none⟩) us.length cu), .n (j : Nat), .q bu (ou + (j) * 1), .n (k : Nat), .q b (o2 + (k) * 5), .q b (o2 + (k) * 5 + 3), .n (t : Nat), .s (fun v w => ∃ u, v = .agg #[u] /\ u.oneCell' = true /\ A6 w (fun z => D8 [.box g9 27 #[x9], .box g7 27 #[x7], .own (.slice (some ⟨bu, ou, none⟩) us.length cu) 3 1 us.length (AF us), .box g3 29 #[.slice none 0 0], .box g1 31 #[.int .i64 R, .pointer (some ⟨q, 0, none⟩), .slice Cs ns cs, .slice (some ⟨b, o2, none⟩) rl.length cr, .slice An nl.length cn, .slice Ag gl.length cg]] z \/ w_.heap.size <= z) (.agg #[u]) (Bw N (t : Nat))) fun v w w' h hb => ⟨_, h.choose_spec.1, h.choose_spec.2.1, h.choose_spec.2.2.ext hb⟩, .t] ⟨uR (h := fun w hW hN => (hS.ext hW).box 0 rfl), uF, uC (h := fun w hW hN => (hS.ext hW).shut 4 rfl 3 rfl), uM, uM, uI (h := fun w hW hN => At (m := j) Tryz.underlying45 (by kernel_rfl) (by omega) (by omega)), uC (h := fun w hW hN => by rw [Nat.mul_one]; exact Di (Sl.of_own ((hS.ext hW).own 2 rfl)) HY0.out), uI (h := fun w hW hN => At (m := k) Tryz.underlying28 (by kernel_rfl) (by omega) (by omega)), uF, uC (h := fun w hW hN => (hW.cell hbl).trans c3), ?_, trivial⟩ ?_
       ·refine uT fun b__ w hW hE K hK => ?_
        have e44 := hE 44
        have e53 := hE 53
        refine Aq rfl (by kernel_rfl) (by simp only [List.map_cons, List.map_nil, e44, e53]) (E9 (.agg #[x9]) N (t : Nat) w _ (hS.ext hW).ro.2) fun v w' h hb => ?_
        obtain ⟨u, rfl, h1⟩ := Cg h
        exact hK _ w' ⟨u, rfl, h1, h.imp fun z hz _ => hz.imp id fun hz => Nat.le_trans hW.size hz⟩ hb
       ·intro vs wz hW hT
        obtain ⟨e44, e45, e46, e47, e48, e49, e50, e51, e52, e53, e54, -⟩ := hT
        have bx : (fun _ : Nat => True) 0 := trivial
        simp only [AB, Act.put, zz, ze]
        obtain ⟨u9, e54, hu9, hset⟩ := e54
        have hS1 := (hS.ext hW).add (A5 (v := .agg #[u9]) (N := Bw N (t : Nat))) hset fun z hz _ => hz.elim id hS.fresh
        (intro o_ ho_; simp only [List.getElem?_toArray, List.getElem?_cons_succ, List.getElem?_cons_zero, Option.some.injEq] at ho_; subst ho_)
        refine BS rfl rfl e54 (hS1.box 0 rfl) (by kernel_rfl) rfl (by simpa using hu9) fun w10 h10 hU10 => ?_
        replace hS1 := hS1.upd 0 rfl (.box g9 27 #[u9]) (Bn hU10) ⟨(hS1.holds (.box g9 27 #[x9]) (by simp)).1, h10⟩ fun _ e => .inl e
        simp only [Cc]
        simp only [Act.put, List.setIfInBounds_toArray, List.set_cons_zero, List.set_cons_succ]
        clear e44 e45 e46 e47 e48 e49 e50 e51 e52 e53 e54 hset hW hS
        go_wp2_with fail
        exact ⟨⟨j + 1, u9, by go_num, by omega, hu9, Lib.hid (HN2.out (by trivial)), hS1.mono (KSX.out.and (FS A5)) fun D w h => ⟨h.1.1, fun _ => by rw [HNX.out]; exact h.2⟩⟩, by simp [intOf]; omega⟩
      ·obtain rfl : j = us.length := by omega
       clear HY HNN
       go_wp2_with (first
        | ((with_reducible refine qB ?_); refine qc ?_ ?_ <;> intro h_ <;> go_prune)
        | ((with_reducible refine qA 33 ?_); refine BigFrame.wpList_want rfl fun _ hK => AV rfl rfl (hS.box 4 rfl) Tryz.underlying31 rfl (by kernel_rfl) (hK _ _ ?_))
        | ((with_reducible refine qA 34 ?_); refine BigFrame.wpList_want rfl fun _ hK => AV rfl rfl (hS.box 0 rfl) Tryz.underlying27 rfl (by kernel_rfl) (hK _ _ ?_))
        | (go_at_call 25; refine (EW (HK.out _ _ (k0.out _ _ (kx.out _ _ hS.ro.1).1)) HP.out (HT.out _ _ (k0.out _ _ (kx.out _ _ hS.ro.1).1)) hS.ro.2).mono ?_; rw [HRB.out]; rintro r_ w_ ⟨_, rfl, rfl, hb_⟩; replace hS := hS.ext hb_; clear hb_))
       exact ⟨⟨us.length + 1, x9, by go_num, by omega, hx9, Lib.hid (HN2.out (by trivial)), hS.mono (KSX.out.and (FS A5)) fun D w h => ⟨h.1, fun h => by omega⟩⟩, by simp [intOf]⟩
     ·have HY2 := Lib.hid (HY.out (by trivial))
      clear HY HN2 HNN
      go_wp2_with (first
       | ((with_reducible refine qB ?_); refine qc ?_ ?_ <;> intro h_ <;> go_prune)
       | ((with_reducible refine qA 33 ?_); refine BigFrame.wpList_want rfl fun _ hK => AV rfl rfl (hS.box 4 rfl) Tryz.underlying31 rfl (by kernel_rfl) (hK _ _ ?_))
       | ((with_reducible refine qA 34 ?_); refine BigFrame.wpList_want rfl fun _ hK => AV rfl rfl (hS.box 0 rfl) Tryz.underlying27 rfl (by kernel_rfl) (hK _ _ ?_))
       | (go_at_call 25; refine (EW (HK.out _ _ (k0.out _ _ (kx.out _ _ hS.ro.1).1)) HP.out (HT.out _ _ (k0.out _ _ (kx.out _ _ hS.ro.1).1)) hS.ro.2).mono ?_; rw [HRB.out]; rintro r_ w_ ⟨_, rfl, rfl, hb_⟩; replace hS := hS.ext hb_; clear hb_)
       | ((with_reducible refine qA 39 ?_); refine BigFrame.wpList_want rfl fun _ hK => opw_sl3 (k := j) rfl Tryz.underlying45 ⟨1, by kernel_rfl⟩ rfl rfl rfl (by omega) (hK _ _ ?_))
       | ((with_reducible refine qM ?_); (first | refine qS hS ?_ | refine qT hS ?_); clear hS; intro w_ hS; (try simp only [Act.put, Act.eval, zz, Value.cells] at hS)))
      refine C0 (F := [.box g9 27 #[x9], .box g7 27 #[x7], .own (.slice Au us.length cu) 3 1 us.length (AF us), .box g3 29 #[.slice none 0 0], .box g1 31 #[.int .i64 R, .pointer (some ⟨q, 0, none⟩), .slice Cs ns cs, .slice Ar rl.length cr, .slice An nl.length cn, .slice Ag gl.length cg]]) ?_ [] _ (by simpa [C8] using hS)
      intro w' h
      refine ⟨_, Gl rfl rfl (h.shut 3 rfl 0 rfl) (by kernel_rfl) rfl rfl rfl, ?_⟩
      rw [HY2.out]
      refine AC.mk ⟨_, _, rfl, ?_, El⟩ h.below
      have h3 := (Sl.of_own (h.own 2 rfl)).take (k := j) hju
      have h4 : (us.take j).length = j := by rw [List.length_take]; omega
      have h5 : (AF us).take j = AF (us.take j) := by unfold AF; rw [List.map_take]
      rw [h5] at h3
      dsimp only
      rw [h4]
      exact sl_cap h3
    ·obtain rfl : j = us.length + 1 := by omega
     obtain ⟨RL, hRL⟩ : ∃ RL, relM L ⟨R, some L, st, rl, nl, gl⟩ = RL := ⟨_, rfl⟩
     obtain ⟨N, hN⟩ : ∃ N, C7 RL U = N := ⟨_, rfl⟩
     have HN64 : Hid (N < B7) := Lib.hid (by
      rw [<- hN, <- hRL, BD]
      exact minus_lt (by have := relM_lt L ⟨R, some L, st, rl, nl, gl⟩; rwa [BD] at this))
     have HZ : Hid (RES = ([], oneC N, false, 0)) := Lib.hid (by
      rw [HRS.out]
      unfold srchM
      rw [Jb (fun i hi => HN.out i (by rw [hSM.out] at hi; dsimp only at hi; omega)), hSM.out, hRL, hN])
     have HRL : Hid (relS ⟨R, some L, st, rl, nl, gl⟩ = RL) := Lib.hid (by rw [HREL.out, hRL])
     have HNN := Lib.hid hN
     clear hN hRL HN HRS HSTP
     replace hS : St w0 wr [.box g9 27 #[x9], .box g7 27 #[x7], .own (.slice Au us.length cu) 3 1 us.length (AF us), .box g3 29 #[.slice none 0 0], .box g1 31 #[.int .i64 R, .pointer (some ⟨q, 0, none⟩), .slice Cs ns cs, .slice Ar rl.length cr, .slice An nl.length cn, .slice Ag gl.length cg]] KX := hS.mono KSX.out fun D w h => h.1
     go_wp2_with (first | ((with_reducible refine qB ?_); refine qc ?_ ?_ <;> intro h_ <;> go_prune))
     refine Cr [.i (.agg #[.int .i64 R, .pointer (some ⟨q, 0, none⟩), .slice Cs ns cs, .slice Ar rl.length cr, .slice An nl.length cn, .slice Ag gl.length cg]), .s (fun v w => A6 w (fun _ => True) v RL) fun v w w' h hb => h.ext hb, .i (.agg #[x7]), .s (fun v w => A6 w (fun z => wr.heap.size <= z) v N) fun v w w' h hb => h.ext hb, .s (fun v w => ∃ Bs A cap ws, v = .func (.func 102) #[] #[.pointer (some ⟨Bs, 0, none⟩)] /\ BW ws /\ BE ws = N /\ Sl w (fun z => wr.heap.size <= z) 1 (.slice A ws.length cap) ws.length (Bi ws) /\ wr.heap.size <= Bs /\ Ch w Bs 27 #[.slice A ws.length cap]) fun v w w' h hb => by obtain ⟨Bs, A, cap, ws, h1, h2, h3, h4, h5, h6⟩ := h; exact ⟨Bs, A, cap, ws, h1, h2, h3, h4.ext hb, h5, h6.ext hb⟩] ⟨uR (h := fun w hW hN => (hS.ext hW).box 4 rfl), ?_, uR (h := fun w hW hN => (hS.ext hW).box 1 rfl), ?_, ?_, trivial⟩ ?_
     ·refine uT fun b__ w hW hE K hK => ?_
      have e55 := hE 55
      exact Aq rfl (by kernel_rfl) (by simp only [List.map_cons, List.map_nil, e55]) (relevant_any (HK.out _ _ (k0.out _ _ (kx.out _ _ (hS.ext hW).ro).1)) HP.out (HT.out _ _ (k0.out _ _ (kx.out _ _ (hS.ext hW).ro).1))) fun v w' h hb => hK v w' (by rw [<- HRL.out]; exact h.imp fun _ _ _ => trivial) hb
     ·refine uT fun b__ w hW hE K hK => ?_
      have e56 := hE 56
      have e57 := hE 57
      exact Aq rfl (by kernel_rfl) (by simp only [List.map_cons, List.map_nil, e57]) (minus_any e56 (kx.out _ _ (hS.ext hW).ro).2) fun v w' h hb => hK v w' (by rw [<- HNN.out]; exact h.imp fun z hz _ => Nat.le_trans hW.size hz) hb
     ·refine uT fun b__ w hW hE K hK => ?_
      have e58 := hE 58
      refine Aq rfl (by kernel_rfl) (by simp only [List.map_cons, List.map_nil]) (ES _ N _ _ e58) fun v w' h hb => ?_
      obtain ⟨Bs, A, cap, ws, h1, -, h3, h4, h5, h6, h7⟩ := h
      exact hK v w' ⟨Bs, A, cap, ws, h1, h3, h4, h5.ext hb, Nat.le_trans hW.size h6, h7⟩ hb
     ·intro vs wz hW hT
      obtain ⟨e55, e56, e57, e58, e59, -⟩ := hT
      have bx : (fun _ : Nat => True) 0 := trivial
      simp only [AB, Act.put, zz, ze]
      obtain ⟨Bs, A, cap, ws, hfv, hcn, hvN, hsl, hBs, hX⟩ := e59
      rw [hfv]
      replace hS := hS.good2 hW hsl (HT.out _ _ (k0.out _ _ (kx.out _ _ hS.ro).1)) (HTB.out _ _ (k0.out _ _ (kx.out _ _ hS.ro).1)) hBs hX
      replace hS := hS.nil 54 2
      obtain ⟨KK, kG, KKS, hS2⟩ : ∃ KK : (Nat -> Prop) -> World -> Prop, (∀ D w, KK D w -> EH Bs A cap ws w) /\ AH KK /\ St w0 wz [.own (.slice none 0 0) 54 2 0 [], .box g9 27 #[x9], .box g7 27 #[x7], .own (.slice Au us.length cu) 3 1 us.length (AF us), .box g3 29 #[.slice none 0 0], .box g1 31 #[.int .i64 R, .pointer (some ⟨q, 0, none⟩), .slice Cs ns cs, .slice Ar rl.length cr, .slice An nl.length cn, .slice Ag gl.length cg]] KK := ⟨_, fun D w h => h.2.1, hS.stable, hS⟩
      clear hS
      have hS := hS2
      clear hS2
      have HCN := Lib.hid hcn
      have HMEM : Hid ((BB ws).map (fun x => (2 ^ x.toNat, 0)) = oneC N) := Lib.hid (by rw [<- hvN]; exact memL_one hcn (by rw [hvN]; exact HN64.out))
      have HML : Hid ((BB ws).length <= 4096) := Lib.hid (by
       have := Fq (BE ws) (64 * ws.length)
       have := hcn.2.2
       simp [BB, Ah]; omega)
      have HVB : Hid (∀ k, (BE ws).testBit k = true -> k <= 4095) := Lib.hid fun k hk => by
       rcases Nat.lt_or_ge k 64 with h | h
       ·omega
       ·rw [hvN, DE HN64.out h] at hk; cases hk
      clear hsl hX hBs hW hfv e55 e56 e57 e58 hcn hvN hju hj
      go_wp2_with fail
      have hsz := hS.size
      refine (wpIn_wide (n := 6)).1 ?_
      refine G2 fun act hact => ?_
      refine Et hS HCN.out.1 HCN.out.2.2 kG (by rw [hact]; rfl) rfl
       (fun pre F' K' => ∃ cv xs', F' = [.own cv 54 2 pre.length xs', .box g9 27 #[x9], .box g7 27 #[x7], .own (.slice Au us.length cu) 3 1 us.length (AF us), .box g3 29 #[cv], .box g1 31 #[.int .i64 R, .pointer (some ⟨q, 0, none⟩), .slice Cs ns cs, .slice Ar rl.length cr, .slice An nl.length cn, .slice Ag gl.length cg]] /\ AH K' /\ ∀ D w, K' D w -> KK D w /\ Aj w (fun z => D z /\ w0.heap.size <= z) xs' (pre.map fun x => (2 ^ x.toNat, 0)))
       (fun _ _ _ _ => False) (fun s F K' h D w hk => by obtain ⟨_, _, _, _, h4⟩ := h; exact (h4 D w hk).1) ?hr (fun _ _ _ _ h => h.elim) ⟨_, _, rfl, KKS, fun D w h => ⟨h, fun i y n hi => by simp at hi⟩⟩
       (fun x => { tmps := (act.tmps.setIfInBounds 60 (.int .i64 x)).setIfInBounds 11 (.int .i64 x), defers := [] }) ?assign ?body ?done (fun _ _ _ _ _ _ _ _ h _ _ => h.elim)
      case hr =>
       rintro s F K' ⟨cv, xs', rfl, _⟩ f hf
       simp only [List.mem_cons, List.not_mem_nil, or_false] at hf
       rcases hf with rfl | rfl | rfl | rfl | rfl | rfl <;> exact .inl rfl
      case assign =>
       intro l x W K hK
       subst hact
       rw [Ih]
       refine wpIn_region_lit ?_
       refine Ei (by intro _ _ h; exact h) _ _ _ (by rfl) _ _ ?_
       refine wpList_plain rfl fun _ hK' => Cx (v := .int .i64 x) rfl (by rfl) (hK' _ _ ?_)
       exact wpList_nil hK
      case body =>
       rintro l pre x hx W F' Xo K' ⟨cv, xs', rfl, hKs, hk'⟩ hS hlt
       subst hact
       obtain ⟨k, rfl⟩ := Gy hx
       have hk4 : k <= 4095 := HVB.out k ((DL HCN.out.1).1 hx)
       have hml := HML.out
       have HOF := Lib.hid (ofN_one hk4)
       have HKP := Lib.hid hk'
       obtain ⟨Ac, cc, rfl, _, _⟩ := Bl (hS.own 0 rfl)
       have HXL : Hid (xs'.length = pre.length * 2) := Lib.hid (hS.own 0 rfl).1
       clear hx hk'
       simp only [Act.put, List.setIfInBounds_toArray, List.set_cons_zero, List.set_cons_succ]
       refine wpIn_block ?_
       refine CZ (by kernel_rfl) (by intro _ _ h; exact h) (by rfl) ?_
       refine Jj 6 [7] [.i (.slice Ac pre.length cc), .n (k : Nat), .s (fun v w => Sl w (fun _ => True) 1 v ([(k : Int)] : List Int).length (AF [(k : Int)])) fun v w w' h hb => h.ext hb, .s (fun v w => ∃ A n c, v = .agg #[.slice A n c] /\ A6 w (fun z => W.heap.size <= z) (.agg #[.slice A n c]) (2 ^ k)) fun v w w' h hb => by obtain ⟨A, n, c, h1, h2⟩ := h; exact ⟨A, n, c, h1, h2.ext hb⟩, .s (fun v w => ∃ A n c, v = .agg #[.slice A n c, .slice none 0 0] /\ A6 w (fun z => W.heap.size <= z) (.agg #[.slice A n c]) (2 ^ k)) fun v w w' h hb => by obtain ⟨A, n, c, h1, h2⟩ := h; exact ⟨A, n, c, h1, h2.ext hb⟩, .s (fun v w => ∃ A n c, Sl w (fun _ => True) 2 v 1 [.slice A n c, .slice none 0 0] /\ A6 w (fun z => W.heap.size <= z) (.agg #[.slice A n c]) (2 ^ k)) fun v w w' h hb => by obtain ⟨A, n, c, h1, h2⟩ := h; exact ⟨A, n, c, h1.ext hb, h2.ext hb⟩, .t, .t] ⟨uC (h := fun w hW hN => (hS.ext hW).shut 4 rfl 0 rfl), uM, ?_, ?_, ?_, ?_, trivial⟩ ?_
       ·refine uT fun b__ w hW hE K hK => ?_
        have e62 := hE 62
        refine Bv rfl Tryz.underlying45 (ps := [(0, .int .i64 (k : Nat))]) (by simp [e62]) (cells := #[.int .i64 (k : Nat)]) (by kernel_rfl) fun w' hX hb => hK _ _ ((Sl.of_box (n := 1) (size := 1) hX rfl (by omega)).imp fun _ _ _ => trivial) hb
       ·refine uT fun b__ w hW hE K hK => ?_
        have e63 := hE 63
        refine Aq rfl (by kernel_rfl) (by simp only [List.map_cons, List.map_nil]) (J3 _ [(k : Int)] _ _ e63) fun v w' h hb => ?_
        obtain ⟨A, c, l, rfl, -⟩ := id h.parts
        exact hK _ w' ⟨A, _, c, rfl, by rw [<- HOF.out]; exact h.imp fun z hz _ => Nat.le_trans hW.size hz⟩ hb
       ·refine uT fun b__ w hW hE K hK => ?_
        have e64 := hE 64
        obtain ⟨A, n, c, h1, h2⟩ := e64
        exact CX rfl (ps := [(0, .agg #[.slice A n c])]) (by simp [h1]) (cells := #[.slice A n c, .slice none 0 0]) (by kernel_rfl) (hK _ _ ⟨A, n, c, rfl, h2⟩ (Below.refl _ _))
       ·refine uT fun b__ w hW hE K hK => ?_
        have e65 := hE 65
        obtain ⟨A, n, c, h1, h2⟩ := e65
        refine Bv rfl Tryz.underlying29 (ps := [(0, .agg #[.slice A n c, .slice none 0 0])]) (by simp [h1]) (cells := #[.slice A n c, .slice none 0 0]) (by kernel_rfl) fun w' hX hb => hK _ _ ⟨A, n, c, (Sl.of_box (n := 1) (size := 2) hX rfl (by omega)).imp fun _ _ _ => trivial, h2.ext hb⟩ hb
       ·intro vs wz hW hT
        obtain ⟨e61, e62, e63, e64, e65, e66, -⟩ := hT
        have bx : (fun _ : Nat => True) 0 := trivial
        simp only [AB, Act.put, zz, ze]
        obtain ⟨A2, n2, c2, hsl, hset⟩ := e66
        have hsW := hS.size
        have hS1 := hS.ret hW (AO (A5 (v := .agg #[.slice A2 n2 c2]) (N := 2 ^ k)) fun z => w0.heap.size <= z) (hset.imp fun z hz _ => ⟨hz, Nat.le_trans hsW hz⟩)
        (intro o_ ho_; simp only [List.getElem?_toArray, List.getElem?_cons_succ, List.getElem?_cons_zero, Option.some.injEq] at ho_; subst ho_)
        refine Ez rfl EL e61 (hS1.own 0 rfl) rfl hsl (by intro u hu; simp at hu; rcases hu with rfl | rfl <;> rfl) (by omega) (by omega) hS1.size fun v9 w9 ho9 hg9 hat9 => ?_
        replace hS1 := hS1.upd 0 rfl (.own v9 54 2 (pre.length + 1) (xs' ++ [Value.slice A2 n2 c2, Value.slice none 0 0])) hg9 ho9 hat9
        (intro o_ ho_; simp only [List.getElem?_toArray, List.getElem?_cons_succ, List.getElem?_cons_zero, Option.some.injEq] at ho_; subst ho_)
        simp only [Act.put, List.setIfInBounds_toArray, List.set_cons_zero, List.set_cons_succ]
        refine Dc (v := v9) rfl rfl rfl (hS1.box 4 rfl) (by simp) (Hh ho9) (own_one ho9) (by kernel_rfl) fun w10 h10 hU10 => ?_
        replace hS1 := hS1.upd 4 rfl (.box g3 29 #[v9]) (Bn hU10) ⟨(hS1.holds (.box g3 29 #[.slice Ac pre.length cc]) (by simp)).1, h10⟩ fun _ e => .inl e
        refine ⟨_, _, ⟨v9, xs' ++ [.slice A2 n2 c2, .slice none 0 0], rfl, hS1.stable, fun D w h => ⟨(HKP.out D w h.1.1).1, ?_⟩⟩, by rw [hU10.size]; exact Nat.le_trans hW.size hg9.size, by rw [List.length_append, List.length_singleton]; exact hS1⟩
        rw [List.map_append]
        exact Aj.append (by rw [HXL.out, List.length_map]) (HKP.out D w h.1.1).2 (Fy (by simpa using h.2) A6.empty)
      case done =>
       rintro D W F' K' hD ⟨cv, xs', rfl, hKs, hk'⟩ hS hK
       subst hact
       have hM := hS.mark hsz hD (by
        intro f hf
        simp only [List.mem_cons, List.not_mem_nil, or_false] at hf
        rcases hf with rfl | rfl | rfl | rfl | rfl | rfl <;> exact .inl rfl) hK rfl
       have HKP := Lib.hid hk'
       obtain ⟨Ac, cc, rfl, _, _⟩ := Bl (hS.own 0 rfl)
       clear hk' hS hK
       have hS := hM
       clear hM
       simp only [List.cons_append, List.nil_append] at hS
       go_wp2_with fail
       refine Ho 2 [3, 4] [.i (.slice Ac (BB ws).length cc), .i (.slice none 0 0), .t, .t, .t] ⟨uC (h := fun w hW hN => (hS.ext hW).shut 4 rfl 0 rfl), uA, trivial⟩ ?_
       ·intro vs wz hW hT
        obtain ⟨e68, e2, -⟩ := hT
        simp only [AB, Act.put, zz, ze]
        replace hS := hS.ext hW
        (intro o_ ho_; simp only [List.getElem?_toArray, List.getElem?_cons_succ, List.getElem?_cons_zero, Option.some.injEq] at ho_; subst ho_)
        refine Dc (v := .slice Ac (BB ws).length cc) rfl rfl e68 (hS.box 4 rfl) (by simp) rfl rfl (by kernel_rfl) fun w10 h10 hU10 => ?_
        replace hS := hS.upd 4 rfl (.box g3 29 #[.slice Ac (BB ws).length cc]) (Bn hU10) ⟨(hS.holds (.box g3 29 #[.slice Ac (BB ws).length cc]) (by simp)).1, h10⟩ fun _ e => .inl e
        simp only [Cc]
        simp only [Act.put, List.setIfInBounds_toArray, List.set_cons_zero, List.set_cons_succ]
        (intro o_ ho_; simp only [List.getElem?_toArray, List.getElem?_cons_succ, List.getElem?_cons_zero, Option.some.injEq] at ho_; subst ho_)
        refine Cx (v := .bool false) rfl rfl ?_
        simp only [Cc]
        simp only [Act.put, List.setIfInBounds_toArray, List.set_cons_zero, List.set_cons_succ]
        (intro o_ ho_; simp only [List.getElem?_toArray, List.getElem?_cons_succ, List.getElem?_cons_zero, Option.some.injEq] at ho_; subst ho_)
        refine Cx (v := .int .i64 0) rfl rfl ?_
        simp only [Cc]
        simp only [Act.put, List.setIfInBounds_toArray, List.set_cons_zero, List.set_cons_succ]
        rw [e2]
        go_wp2_with fail
        refine C0 (F := [.own (.slice Ac (BB ws).length cc) 54 2 (BB ws).length xs', .box g9 27 #[x9], .box g7 27 #[x7], .own (.slice Au us.length cu) 3 1 us.length (AF us), .box g3 29 #[.slice Ac (BB ws).length cc], .box g1 31 #[.int .i64 R, .pointer (some ⟨q, 0, none⟩), .slice Cs ns cs, .slice Ar rl.length cr, .slice An nl.length cn, .slice Ag gl.length cg]]) ?_ [D] _ hS
        intro w' h
        refine ⟨_, Gl rfl rfl (h.shut 4 rfl 0 rfl) (by kernel_rfl) rfl rfl rfl, ?_⟩
        rw [HZ.out]
        refine AC.mk ⟨_, _, rfl, Sl.none_, xs', ?_, ?_⟩ h.below
        ·have := Sl.of_own (h.own 0 rfl)
         rw [<- HMEM.out]
         simpa using this
        ·have := (HKP.out _ _ h.ro).2
         rw [HMEM.out] at this
         exact this.imp fun z hz _ => hz.2
 ·have HR := Lib.hid (show RES = ([], [], false, e) by rw [<- hR]; unfold srchS; rw [HE.out, if_neg h0])
  clear hR
  refine (callsIn_wide (n := 6)).1 (callsIn_of_wp_marks Tryz.func30 rfl trivial ?_ rfl)
  simp only [Tryz.ntmps30, List.size_toArray, List.length_cons, List.length_nil, Nat.reduceAdd, Nat.reduceSub, Array.replicate_succ, Array.replicate_zero, List.push_toArray, List.append_toArray, List.nil_append, List.cons_append]
  refine wpIn_wide.2 ?_
  go_wp2_with (first
   | ((with_reducible refine qA 1 ?_); refine Ak hS rfl _ _ rfl (.agg xs) xs rfl rfl ?_; clear hS; intro g1 w_ hS; (try simp only [Act.put, Act.eval, zz, Value.cells] at hS))
   | ((with_reducible refine qA 3 ?_); refine qa hS #[.slice none 0 0] ?_; clear hS; intro g3 w_ hS)
   | ((with_reducible refine qB ?_); refine qc ?_ ?_ <;> intro h_ <;> go_prune)
   | ((with_reducible refine qk 31 ?_); refine BigFrame.wpList_want rfl fun _ hK => AV rfl rfl (hS.box 1 rfl) Tryz.underlying31 rfl (by rw [hx6.out]; kernel_rfl) (hK _ _ ?_))
   | (go_at_call 31; refine (CI (HK.out _ _ hS.ro) HP.out (HT.out _ _ hS.ro)).mono ?_; rw [HE.out]; rintro r_ w_ ⟨_, rfl, rfl, hb_⟩; replace hS := hS.ext hb_; clear hb_)
   | ((with_reducible refine qM ?_); (first | refine qS hS ?_ | refine qT hS ?_); clear hS; intro w_ hS; (try simp only [Act.put, Act.eval, zz, Value.cells] at hS)))
  refine C0 (F := [.box g3 29 #[.slice none 0 0], .box g1 31 xs]) ?_ [] _ (by simpa [C8] using hS)
  intro w' h
  refine ⟨_, Gl rfl rfl (h.shut 0 rfl 0 rfl) (by kernel_rfl) rfl rfl rfl, ?_⟩
  rw [HR.out]
  exact AC.mk ⟨_, _, rfl, Sl.none_, El⟩ h.below
end
section
open Go.RowKit
attribute [local go_sem ↓] Go.wp_at_zero Go.wp_at_succ
set_option maxRecDepth 20000
set_option exponentiation.threshold 5000
set_option maxHeartbeats 2000000 in
theorem lmade_any {w0 w : World} {F : List Af} {K : (Nat -> Prop) -> World -> Prop} {v : Value} {l : List Nat} (b : Bool) (hl : ∀ x ∈ l, x < 256) (hS : St w0 w F K) (kp : ∀ D w, K D w -> Sl w D 1 v l.length (u8s l)) (kt : ∀ D w, K D w -> Bp w /\ D 0) :
  Calls Tryz.prog 13 #[v, .bool b] w fun e w' => ∃ x u, e = .returned (.tuple #[x, u, .bool true]) /\ ∃ p, (∃ L R, BJ p L R) /\ (b = true -> C1 p = true) /\ St w0 w' F fun D w => K D w /\ Bt w D x p /\ Bb w D u p := by
 have HL := Lib.hid hl
 have KS := Lib.hid hS.stable
 cases b
 ·go_enter Tryz.func13, Tryz.ntmps13
  go_wp2_with (first
   | ((with_reducible refine qA 4 ?_); refine qa hS #[.int .i64 0, .pointer none, .slice none 0 0, .slice none 0 0, .slice none 0 0, .slice none 0 0] ?_; clear hS; intro g4 w_ hS)
   | ((with_reducible refine qA 5 ?_); refine qa hS #[.int .i64 0, .slice none 0 0, .int .u64 0, .slice none 0 0, .slice none 0 0, .slice none 0 0] ?_; clear hS; intro g5 w_ hS)
   | ((with_reducible refine qA 7 ?_); refine qa hS #[.int .i64 0, .slice none 0 0, .int .u64 0, .slice none 0 0, .slice none 0 0, .slice none 0 0] ?_; clear hS; intro g7 w_ hS)
   | ((with_reducible refine qA 8 ?_); refine qa hS #[.int .i64 0, .pointer none, .slice none 0 0, .slice none 0 0, .slice none 0 0, .slice none 0 0] ?_; clear hS; intro g8 w_ hS)
   | (go_at_call 50; refine (Hs HL.out hS kp).mono ?_; clear hS; rintro e w_ ⟨u, p, L, R, rfl, hM, hS⟩; replace hM := Lib.hid hM; obtain ⟨us0, rfl, hv6, hv1⟩ := hS.ro.2.cells; replace hv6 := Lib.hid hv6)
   | (go_at_call 52; refine (Gz hM.out.links hM.out.hok (by have := hM.out.len; omega) hM.out.fits hS (fun D w h => h.2) (fun D w h => kt D w h.1)).mono ?_; clear hS; rintro e w_ ⟨x, rfl, hS⟩; obtain ⟨xs, rfl, hx6, hx1⟩ := hS.ro.2.cells; replace hx6 := Lib.hid hx6)
   | ((with_reducible refine qm 37 ?_); (refine AX hS 0 rfl _ _ _ rfl _ _ rfl rfl _ _ rfl (by rw [hv6.out]; kernel_rfl) (by rw [hv6.out]; rfl) hv1 ?_; clear hS; intro w_ hS; (try simp only [Act.put, Act.eval, zz, Value.cells] at hS)))
   | ((with_reducible refine qm 31 ?_); (refine AX hS 0 rfl _ _ _ rfl _ _ rfl rfl _ _ rfl (by rw [hx6.out]; kernel_rfl) (by rw [hx6.out]; rfl) hx1 ?_; clear hS; intro w_ hS; (try simp only [Act.put, Act.eval, zz, Value.cells] at hS)))
   | ((with_reducible refine qA 16 ?_); refine BigFrame.wpList_want rfl fun _ hK => AV rfl rfl (hS.box 0 rfl) Tryz.underlying37 rfl (by rw [hv6.out]; kernel_rfl) (hK _ _ ?_)))
  obtain ⟨us, hus⟩ : ∃ us, us = us0 := ⟨_, rfl⟩
  subst hus
  have hu6 := hv6
  have hu1 := hv1
  obtain ⟨K7, k7, hJ0⟩ : ∃ K7 : (Nat -> Prop) -> World -> Prop, Hid (∀ D w, K7 D w -> (K D w /\ Bb w D (.agg us) p) /\ Bt w D (.agg xs) p) /\ St w0 w_.drew (.box g8 31 xs :: .box g7 37 us :: .box g5 37 (cond (false, false).2 us #[.int .i64 0, .slice none 0 0, .int .u64 0, .slice none 0 0, .slice none 0 0, .slice none 0 0]) :: .box g4 31 (cond (false, false).1 xs #[.int .i64 0, .pointer none, .slice none 0 0, .slice none 0 0, .slice none 0 0, .slice none 0 0]) :: F) K7 := ⟨_, Lib.hid fun _ _ h => h, hS.drew⟩
  have hRr := @SR.refl w0 (fun s => .box g8 31 xs :: .box g7 37 us :: .box g5 37 (cond s.2 us #[.int .i64 0, .slice none 0 0, .int .u64 0, .slice none 0 0, .slice none 0 0, .slice none 0 0]) :: .box g4 31 (cond s.1 xs #[.int .i64 0, .pointer none, .slice none 0 0, .slice none 0 0, .slice none 0 0, .slice none 0 0]) :: F) K7
  have hRt := @SR.trans w0 (fun s => .box g8 31 xs :: .box g7 37 us :: .box g5 37 (cond s.2 us #[.int .i64 0, .slice none 0 0, .int .u64 0, .slice none 0 0, .slice none 0 0, .slice none 0 0]) :: .box g4 31 (cond s.1 xs #[.int .i64 0, .pointer none, .slice none 0 0, .slice none 0 0, .slice none 0 0, .slice none 0 0]) :: F) K7
  have hN0 : ∀ _ : Nat, True := fun _ => trivial
  clear hS
  refine FE (SR w0 (fun s => .box g8 31 xs :: .box g7 37 us :: .box g5 37 (cond s.2 us #[.int .i64 0, .slice none 0 0, .int .u64 0, .slice none 0 0, .slice none 0 0, .slice none 0 0]) :: .box g4 31 (cond s.1 xs #[.int .i64 0, .pointer none, .slice none 0 0, .slice none 0 0, .slice none 0 0, .slice none 0 0]) :: F) K7) (fun _ _ => True) ((false, false)) hRr hRt [.i (.agg xs), .i (.agg us), .b true, .s (fun v w => w.2.1 = true) fun v w w' h hb => hb.2.1 h, .s (fun v w => w.2.2 = true) fun v w w' h hb => hb.2.2 h, .b true] ?_ ⟨?_, ?_, uM, ?_, ?_, uA, trivial⟩ ?_
  ·first | assumption | (intro i; (try dsimp only); split <;> first | trivial | assumption | (left; assumption))
  ·refine uG fun b__ w hW hN hE K hK => ?_
   have e8 : b__.eval (.tmp 8) = .pointer (some ⟨g8, 0, none⟩) := hE 8
   exact AV rfl e8 ((hW.1 hJ0).box 0 rfl) Tryz.underlying31 rfl (by rw [hx6.out]; kernel_rfl) (hK _ _ rfl ⟨hRr _, fun _ _ h => h⟩)
  ·refine uG fun b__ w hW hN hE K hK => ?_
   have e7 : b__.eval (.tmp 7) = .pointer (some ⟨g7, 0, none⟩) := hE 7
   exact AV rfl e7 ((hW.1 hJ0).box 1 rfl) Tryz.underlying37 rfl (by rw [hu6.out]; kernel_rfl) (hK _ _ rfl ⟨hRr _, fun _ _ h => h⟩)
  ·refine uG fun b__ w hW hN hE K hK => ?_
   have e4 : b__.eval (.tmp 4) = .pointer (some ⟨g4, 0, none⟩) := hE 4
   have e20 := hE 20
   have hS := hW.1 hJ0
   exact BS rfl e4 e20 (hS.box 3 rfl) (by rw [hx6.out]; kernel_rfl) (by cases w.2.1; exact hx6.out.symm; rfl) hx1 fun w4 h1 hU => hK undef (w4, (true, w.2.2)) rfl ⟨⟨fun _ => hS.upd 3 rfl (.box g4 31 xs) (Bn hU) ⟨(hS.holds _ (List.mem_of_getElem? (i := 3) rfl)).1, h1⟩ fun _ e => .inl e, fun _ => rfl, id⟩, fun _ _ h => h⟩
  ·refine uG fun b__ w hW hN hE K hK => ?_
   have e5 : b__.eval (.tmp 5) = .pointer (some ⟨g5, 0, none⟩) := hE 5
   have e21 := hE 21
   have hS := hW.1 hJ0
   exact BS rfl e5 e21 (hS.box 2 rfl) (by rw [hu6.out]; kernel_rfl) (by cases w.2.2; exact hu6.out.symm; rfl) hu1 fun w4 h1 hU => hK undef (w4, (w.2.1, true)) rfl ⟨⟨fun _ => hS.upd 2 rfl (.box g5 37 us) (Bn hU) ⟨(hS.holds _ (List.mem_of_getElem? (i := 2) rfl)).1, h1⟩ fun _ e => .inl e, id, fun _ => rfl⟩, fun _ _ h => h⟩
  ·intro vs wz hW hT
   obtain ⟨e20, e21, e22, z3, z4, e6, -⟩ := hT
   have bx : (fun _ : Nat => True) 0 := trivial
   simp only [AB, Act.put, zz, ze]
   obtain ⟨_, hst⟩ := z3
   obtain ⟨_, hst2⟩ := z4
   have hS : St w0 wz.1 (.box g8 31 xs :: .box g7 37 us :: .box g5 37 (cond wz.2.2 us #[.int .i64 0, .slice none 0 0, .int .u64 0, .slice none 0 0, .slice none 0 0, .slice none 0 0]) :: .box g4 31 (cond wz.2.1 xs #[.int .i64 0, .pointer none, .slice none 0 0, .slice none 0 0, .slice none 0 0, .slice none 0 0]) :: F) K7 := hW.1 hJ0
   rw [show wz.2.1 = true from hst, show wz.2.2 = true from hst2] at hS
   dsimp only [cond] at hS
   clear hW hJ0 hRr hRt hN0 hst hst2
   generalize wz.1 = wf at *
   simp only [show vs (6 : Nat) = _ from e6]
   go_wp2_with fail
   refine ret_cct Tryz.results13 rfl (hS.box 3 rfl) Tryz.underlying31 rfl (by rw [hx6.out]; kernel_rfl) rfl (hS.box 2 rfl) Tryz.underlying37 rfl (by rw [hu6.out]; kernel_rfl) rfl rfl ?_
   exact ⟨_, _, rfl, p, ⟨L, R, hM.out⟩, (hS.sub (F' := F) ((((List.sublist_cons_self _ _).trans (List.sublist_cons_self _ _)).trans (List.sublist_cons_self _ _)).trans (List.sublist_cons_self _ _))).mono (KS.out.and (Cv.and Bg)) fun D w h => ⟨(k7.out _ _ h).1.1, (k7.out _ _ h).2, (k7.out _ _ h).1.2⟩⟩
 ·go_enter Tryz.func13, Tryz.ntmps13
  go_wp2_with (first
   | ((with_reducible refine qA 4 ?_); refine qa hS #[.int .i64 0, .pointer none, .slice none 0 0, .slice none 0 0, .slice none 0 0, .slice none 0 0] ?_; clear hS; intro g4 w_ hS)
   | ((with_reducible refine qA 5 ?_); refine qa hS #[.int .i64 0, .slice none 0 0, .int .u64 0, .slice none 0 0, .slice none 0 0, .slice none 0 0] ?_; clear hS; intro g5 w_ hS)
   | ((with_reducible refine qA 7 ?_); refine qa hS #[.int .i64 0, .slice none 0 0, .int .u64 0, .slice none 0 0, .slice none 0 0, .slice none 0 0] ?_; clear hS; intro g7 w_ hS)
   | ((with_reducible refine qA 8 ?_); refine qa hS #[.int .i64 0, .pointer none, .slice none 0 0, .slice none 0 0, .slice none 0 0, .slice none 0 0] ?_; clear hS; intro g8 w_ hS)
   | (go_at_call 50; refine (Hs HL.out hS kp).mono ?_; clear hS; rintro e w_ ⟨u, p, L, R, rfl, hM, hS⟩; replace hM := Lib.hid hM; obtain ⟨us0, rfl, hv6, hv1⟩ := hS.ro.2.cells; replace hv6 := Lib.hid hv6)
   | (go_at_call 51; refine (rplain_any hM.out hS (fun D w h => h.2)).mono ?_; clear hS; rintro e w_ ⟨u, rfl, hS⟩; obtain ⟨us, rfl, hu6, hu1⟩ := hS.ro.2.cells; replace hu6 := Lib.hid hu6)
   | (go_at_call 52; refine (Gz hM.out.plain.links hM.out.plain.hok (by have := hM.out.plain.len; omega) hM.out.plain.fits hS (fun D w h => h.2) (fun D w h => kt D w h.1.1)).mono ?_; clear hS; rintro e w_ ⟨x, rfl, hS⟩; obtain ⟨xs, rfl, hx6, hx1⟩ := hS.ro.2.cells; replace hx6 := Lib.hid hx6)
   | ((with_reducible refine qm 37 ?_); (first | (refine AX hS 0 rfl _ _ _ rfl _ _ rfl rfl _ _ rfl (by rw [hu6.out]; kernel_rfl) (by rw [hu6.out, hv6.out]) hu1 ?_) | (refine AX hS 0 rfl _ _ _ rfl _ _ rfl rfl _ _ rfl (by rw [hv6.out]; kernel_rfl) (by rw [hv6.out]; rfl) hv1 ?_)); clear hS; intro w_ hS; (try simp only [Act.put, Act.eval, zz, Value.cells] at hS))
   | ((with_reducible refine qm 31 ?_); (refine AX hS 0 rfl _ _ _ rfl _ _ rfl rfl _ _ rfl (by rw [hx6.out]; kernel_rfl) (by rw [hx6.out]; rfl) hx1 ?_; clear hS; intro w_ hS; (try simp only [Act.put, Act.eval, zz, Value.cells] at hS)))
   | ((with_reducible refine qA 13 ?_); refine BigFrame.wpList_want rfl fun _ hK => AV rfl rfl (hS.box 0 rfl) Tryz.underlying37 rfl (by rw [hv6.out]; kernel_rfl) (hK _ _ ?_))
   | ((with_reducible refine qA 16 ?_); refine BigFrame.wpList_want rfl fun _ hK => AV rfl rfl (hS.box 0 rfl) Tryz.underlying37 rfl (by rw [hu6.out]; kernel_rfl) (hK _ _ ?_)))
  obtain ⟨K7, k7, hJ0⟩ : ∃ K7 : (Nat -> Prop) -> World -> Prop, Hid (∀ D w, K7 D w -> (K D w /\ Bb w D (.agg us) (Eu p)) /\ Bt w D (.agg xs) (Eu p)) /\ St w0 w_.drew (.box g8 31 xs :: .box g7 37 us :: .box g5 37 (cond (false, false).2 us #[.int .i64 0, .slice none 0 0, .int .u64 0, .slice none 0 0, .slice none 0 0, .slice none 0 0]) :: .box g4 31 (cond (false, false).1 xs #[.int .i64 0, .pointer none, .slice none 0 0, .slice none 0 0, .slice none 0 0, .slice none 0 0]) :: F) K7 := ⟨_, Lib.hid fun _ _ h => ⟨⟨h.1.1.1, h.1.2⟩, h.2⟩, hS.drew⟩
  have hRr := @SR.refl w0 (fun s => .box g8 31 xs :: .box g7 37 us :: .box g5 37 (cond s.2 us #[.int .i64 0, .slice none 0 0, .int .u64 0, .slice none 0 0, .slice none 0 0, .slice none 0 0]) :: .box g4 31 (cond s.1 xs #[.int .i64 0, .pointer none, .slice none 0 0, .slice none 0 0, .slice none 0 0, .slice none 0 0]) :: F) K7
  have hRt := @SR.trans w0 (fun s => .box g8 31 xs :: .box g7 37 us :: .box g5 37 (cond s.2 us #[.int .i64 0, .slice none 0 0, .int .u64 0, .slice none 0 0, .slice none 0 0, .slice none 0 0]) :: .box g4 31 (cond s.1 xs #[.int .i64 0, .pointer none, .slice none 0 0, .slice none 0 0, .slice none 0 0, .slice none 0 0]) :: F) K7
  have hN0 : ∀ _ : Nat, True := fun _ => trivial
  clear hS
  refine FE (SR w0 (fun s => .box g8 31 xs :: .box g7 37 us :: .box g5 37 (cond s.2 us #[.int .i64 0, .slice none 0 0, .int .u64 0, .slice none 0 0, .slice none 0 0, .slice none 0 0]) :: .box g4 31 (cond s.1 xs #[.int .i64 0, .pointer none, .slice none 0 0, .slice none 0 0, .slice none 0 0, .slice none 0 0]) :: F) K7) (fun _ _ => True) ((false, false)) hRr hRt [.i (.agg xs), .i (.agg us), .b true, .s (fun v w => w.2.1 = true) fun v w w' h hb => hb.2.1 h, .s (fun v w => w.2.2 = true) fun v w w' h hb => hb.2.2 h, .b true] ?_ ⟨?_, ?_, uM, ?_, ?_, uA, trivial⟩ ?_
  ·first | assumption | (intro i; (try dsimp only); split <;> first | trivial | assumption | (left; assumption))
  ·refine uG fun b__ w hW hN hE K hK => ?_
   have e8 : b__.eval (.tmp 8) = .pointer (some ⟨g8, 0, none⟩) := hE 8
   exact AV rfl e8 ((hW.1 hJ0).box 0 rfl) Tryz.underlying31 rfl (by rw [hx6.out]; kernel_rfl) (hK _ _ rfl ⟨hRr _, fun _ _ h => h⟩)
  ·refine uG fun b__ w hW hN hE K hK => ?_
   have e7 : b__.eval (.tmp 7) = .pointer (some ⟨g7, 0, none⟩) := hE 7
   exact AV rfl e7 ((hW.1 hJ0).box 1 rfl) Tryz.underlying37 rfl (by rw [hu6.out]; kernel_rfl) (hK _ _ rfl ⟨hRr _, fun _ _ h => h⟩)
  ·refine uG fun b__ w hW hN hE K hK => ?_
   have e4 : b__.eval (.tmp 4) = .pointer (some ⟨g4, 0, none⟩) := hE 4
   have e20 := hE 20
   have hS := hW.1 hJ0
   exact BS rfl e4 e20 (hS.box 3 rfl) (by rw [hx6.out]; kernel_rfl) (by cases w.2.1; exact hx6.out.symm; rfl) hx1 fun w4 h1 hU => hK undef (w4, (true, w.2.2)) rfl ⟨⟨fun _ => hS.upd 3 rfl (.box g4 31 xs) (Bn hU) ⟨(hS.holds _ (List.mem_of_getElem? (i := 3) rfl)).1, h1⟩ fun _ e => .inl e, fun _ => rfl, id⟩, fun _ _ h => h⟩
  ·refine uG fun b__ w hW hN hE K hK => ?_
   have e5 : b__.eval (.tmp 5) = .pointer (some ⟨g5, 0, none⟩) := hE 5
   have e21 := hE 21
   have hS := hW.1 hJ0
   exact BS rfl e5 e21 (hS.box 2 rfl) (by rw [hu6.out]; kernel_rfl) (by cases w.2.2; exact hu6.out.symm; rfl) hu1 fun w4 h1 hU => hK undef (w4, (w.2.1, true)) rfl ⟨⟨fun _ => hS.upd 2 rfl (.box g5 37 us) (Bn hU) ⟨(hS.holds _ (List.mem_of_getElem? (i := 2) rfl)).1, h1⟩ fun _ e => .inl e, id, fun _ => rfl⟩, fun _ _ h => h⟩
  ·intro vs wz hW hT
   obtain ⟨e20, e21, e22, z3, z4, e6, -⟩ := hT
   have bx : (fun _ : Nat => True) 0 := trivial
   simp only [AB, Act.put, zz, ze]
   obtain ⟨_, hst⟩ := z3
   obtain ⟨_, hst2⟩ := z4
   have hS : St w0 wz.1 (.box g8 31 xs :: .box g7 37 us :: .box g5 37 (cond wz.2.2 us #[.int .i64 0, .slice none 0 0, .int .u64 0, .slice none 0 0, .slice none 0 0, .slice none 0 0]) :: .box g4 31 (cond wz.2.1 xs #[.int .i64 0, .pointer none, .slice none 0 0, .slice none 0 0, .slice none 0 0, .slice none 0 0]) :: F) K7 := hW.1 hJ0
   rw [show wz.2.1 = true from hst, show wz.2.2 = true from hst2] at hS
   dsimp only [cond] at hS
   clear hW hJ0 hRr hRt hN0 hst hst2
   generalize wz.1 = wf at *
   simp only [show vs (6 : Nat) = _ from e6]
   go_wp2_with fail
   refine ret_cct Tryz.results13 rfl (hS.box 3 rfl) Tryz.underlying31 rfl (by rw [hx6.out]; kernel_rfl) rfl (hS.box 2 rfl) Tryz.underlying37 rfl (by rw [hu6.out]; kernel_rfl) rfl rfl ?_
   exact ⟨_, _, rfl, Eu p, ⟨L, R, hM.out.plain⟩, plain_frag p, (hS.sub (F' := F) ((((List.sublist_cons_self _ _).trans (List.sublist_cons_self _ _)).trans (List.sublist_cons_self _ _)).trans (List.sublist_cons_self _ _))).mono (KS.out.and (Cv.and Bg)) fun D w h => ⟨(k7.out _ _ h).1.1, (k7.out _ _ h).2, (k7.out _ _ h).1.2⟩⟩
end
section
open Go.RowKit
set_option exponentiation.threshold 5000
def InR (N : Nat) : Prop := ∀ i, N.testBit i = true -> 1 <= i /\ i < 64
theorem tc_nil {a b : Nat} : ¬ TC [] a b := fun h => by obtain ⟨y, h, _⟩ := h.first; simp at h
theorem closM_nil {N : Nat} (h : InR N) : closM [] N = N := AY fun i => by
 rw [IA]
 constructor
 ·rintro ⟨r, h1, h2, h3, h4⟩
  rcases (H7 (by intro x hx; simp at hx) h1).1 h4 with rfl | h5
  ·exact h3
  ·exact absurd h5 tc_nil
 ·intro hi
  exact ⟨i, (h i hi).2, (h i hi).1, hi, (H7 (by intro x hx; simp at hx) (h i hi).2).2 (.inl rfl)⟩
theorem depM_nil {N : Nat} (h : InR N) : depM [] N = N := AY fun i => by
 rw [tb_dep (by intro x hx; simp at hx)]
 constructor
 ·rintro ⟨r, h1, h2, h3, h4⟩
  rcases (H6 (by intro x hx; simp at hx)).1 h4 with rfl | h5
  ·exact h3
  ·exact absurd h5 tc_nil
 ·intro hi
  exact ⟨i, (h i hi).1, (h i hi).2, hi, (H6 (by intro x hx; simp at hx)).2 (.inl rfl)⟩
theorem DN {N : Nat} (h : N < 2 ^ 7) (h0 : N.testBit 0 = false) : InR N := fun i hi => by
 have : i < 7 := by
  rcases Nat.lt_or_ge i 7 with h1 | h1
  ·exact h1
  ·rw [Nat.testBit_lt_two_pow (Nat.lt_of_lt_of_le h (Nat.pow_le_pow_right (by decide) h1))] at hi; cases hi
 refine ⟨?_, by omega⟩
 rcases Nat.eq_zero_or_pos i with rfl | h1
 ·rw [h0] at hi; cases hi
 ·exact h1
end
section
open Go.RowKit
set_option exponentiation.threshold 5000
set_option maxRecDepth 20000
def QA : Ae := ⟨4, some [], 2, [⟨false, 2, 0, 2, 0⟩, ⟨false, 8, 0, 4, 0⟩, ⟨false, 6, 0, 3, 0⟩], [], [(16, 0)]⟩
def QB : Ae := ⟨4, some [], 2, [⟨false, 8, 0, 4, 0⟩, ⟨false, 6, 0, 3, 0⟩], [], [(16, 0)]⟩
theorem okQA : QA.Ok := ⟨by decide, by decide, by decide, fun L h => by cases h; exact ⟨FO.nil, by decide⟩⟩
theorem okQB : QB.Ok := ⟨by decide, by decide, by decide, fun L h => by cases h; exact ⟨FO.nil, by decide⟩⟩
theorem Is : checkE QA = 0 := by
 have hg : goodB QA 2 = true := rfl
 show (if (4 : Int) < 1 \/ 63 < (4 : Int) then (1 : Int) else if 64 < QA.rules.length \/ 2000 < QA.never.length \/ 2000 < QA.goal.length then 3
  else if DM QA [] (D5 4) = false then 4 else if (QA.cubes.any fun z => z.1 &&& z.2 != 0) = true \/ QA.rules.all revB = false then 6
  else if goodB QA 2 = false then 7 else 0) = 0
 rw [if_neg (by decide), if_neg (by decide), if_neg (by decide), if_neg (by decide), if_neg (by rw [hg]; decide)]
theorem checkQB : checkE QB = 0 := by
 have hg : goodB QB 2 = true := rfl
 show (if (4 : Int) < 1 \/ 63 < (4 : Int) then (1 : Int) else if 64 < QB.rules.length \/ 2000 < QB.never.length \/ 2000 < QB.goal.length then 3
  else if DM QB [] (D5 4) = false then 4 else if (QB.cubes.any fun z => z.1 &&& z.2 != 0) = true \/ QB.rules.all revB = false then 6
  else if goodB QB 2 = false then 7 else 0) = 0
 rw [if_neg (by decide), if_neg (by decide), if_neg (by decide), if_neg (by decide), if_neg (by rw [hg]; decide)]
def candN (N : Nat) (r : AK) : Bool := (!r.revoke && !Bo N r.target) && (r.yes &&& N == r.yes)
theorem Ej {l : List AK} {N : Nat} (h : InR N) : firstC [] l N = l.findIdx? (candN N) := by
 unfold firstC
 congr 1
 funext r
 unfold candB candN
 rw [closM_nil h]
theorem Ee {p : Ae} {N : Nat} (hl : p.links = some []) (h : InR N) : reachB p N = p.goal.any fun z => Bd z N := by
 unfold reachB
 rw [hl]
 dsimp only
 rw [closM_nil h]
theorem satA0 : satS [] QA 0 = (2, []) := rfl
theorem satA1 : satS [] QA 1 = (6, [0]) := by
 rw [BR (k := 0) (by rw [satA0, Ej (DN (by decide) (by decide))]; decide), satA0]; decide
theorem satA2 : satS [] QA 2 = (14, [0, 2]) := by
 rw [BR (k := 2) (by rw [satA1, Ej (DN (by decide) (by decide))]; decide), satA1]; decide
theorem satA3 : satS [] QA 3 = (30, [0, 2, 1]) := by
 rw [BR (k := 1) (by rw [satA2, Ej (DN (by decide) (by decide))]; decide), satA2]; decide
theorem satA : satM [] QA = (30, [0, 2, 1]) := satA3
theorem satB0 : satS [] QB 0 = (2, []) := rfl
theorem satB1 : satS [] QB 1 = (2, []) := by
 rw [C5 (by rw [satB0, Ej (DN (by decide) (by decide))]; decide), satB0]
theorem satB : satM [] QB = (2, []) := by
 show satS [] QB 2 = _
 rw [C5 (by rw [satB1, Ej (DN (by decide) (by decide))]; decide), satB1]
theorem fragQA : C1 QA = true := by decide
theorem srchA : srchS QA = ([0, 2, 1], [], true, 0) := by
 have e : srchS QA = ((srchM [] QA).1, (srchM [] QA).2.1, (srchM [] QA).2.2, 0) := by
  unfold srchS; rw [if_pos Is]; rfl
 have h : hitN [] QA = some 3 := Ja (by rw [satA]; decide) (by rw [satA3, Ee rfl (DN (by decide) (by decide))]; decide) fun j hj => by
  rcases (by omega : j = 0 \/ j = 1 \/ j = 2) with rfl | rfl | rfl
  ·rw [satA0, Ee rfl (DN (by decide) (by decide))]; decide
  ·rw [satA1, Ee rfl (DN (by decide) (by decide))]; decide
  ·rw [satA2, Ee rfl (DN (by decide) (by decide))]; decide
 rw [e]
 unfold srchM
 rw [h]
 dsimp only
 rw [satA3]
theorem obtA : obtS QA = 30 := by
 have e : obtS QA = uppM [] QA := by
  unfold obtS fragM upS
  rw [if_pos Is, if_pos fragQA, if_pos Is]; rfl
 rw [e, <- Ge (F9 Is rfl), satA]
theorem depQ {a b : Nat} (h : a < 2 ^ 7) (h0 : a.testBit 0 = false) (e : a = b) : depM [] a = b := by rw [depM_nil (DN h h0), e]
theorem relB : relM [] QB = 30 := by
 refine (GT.eq ⟨fun T hT => ?_, by decide⟩ ⟨fun c hc => ?_, fun r hr h1 h2 => ?_, fun c hc _ => ?_⟩).symm
 ·have a1 : Cp 16 T := by
   have := hT.goal (16, 0) (by simp [QB])
   rw [show depC [] (16, 0) = depM [] 16 from rfl, depQ (by decide) (by decide) rfl] at this; exact this
  have a2 : Cp 8 T := by
   have := hT.rules ⟨false, 8, 0, 4, 0⟩ (by simp [QB]) rfl (a1.has (by decide))
   rw [show depR [] ⟨false, 8, 0, 4, 0⟩ = depM [] 8 from rfl, depQ (by decide) (by decide) rfl] at this; exact this
  have a3 : Cp 6 T := by
   have := hT.rules ⟨false, 6, 0, 3, 0⟩ (by simp [QB]) rfl (a2.has (by decide))
   rw [show depR [] ⟨false, 6, 0, 3, 0⟩ = depM [] 6 from rfl, depQ (by decide) (by decide) rfl] at this; exact this
  have e : (30 : Nat) = 16 ||| (8 ||| 6) := by decide
  rw [e]; exact a1.or (a2.or a3)
 ·obtain rfl : c = (16, 0) := by simpa [QB] using hc
  rw [show depC [] (16, 0) = depM [] 16 from rfl, depQ (by decide) (by decide) rfl]; exact C2.1 (by decide)
 ·simp only [QB, List.mem_cons, List.not_mem_nil, or_false] at hr
  rcases hr with rfl | rfl
  ·rw [show depR [] ⟨false, 8, 0, 4, 0⟩ = depM [] 8 from rfl, depQ (by decide) (by decide) rfl]; exact C2.1 (by decide)
  ·rw [show depR [] ⟨false, 6, 0, 3, 0⟩ = depM [] 6 from rfl, depQ (by decide) (by decide) rfl]; exact C2.1 (by decide)
 ·simp [QB] at hc
theorem srchB : srchS QB = ([], [(4, 0), (8, 0), (16, 0)], false, 0) := by
 have e : srchS QB = ((srchM [] QB).1, (srchM [] QB).2.1, (srchM [] QB).2.2, 0) := by
  unfold srchS; rw [if_pos checkQB]; rfl
 have h : hitN [] QB = none := Jb fun j hj => by
  rw [satB] at hj
  obtain rfl : j = 0 := by simpa using hj
  rw [satB0, Ee rfl (DN (by decide) (by decide))]; decide
 rw [e]
 unfold srchM
 rw [h]
 dsimp only
 rw [satB, relB]
 decide
end
section
open Go.RowKit
theorem st_litpS {P : Program} {ops : Array Oper} {rest : List Oper} {o : Oper} {a : Act} {Q : Exit -> Act -> World -> Prop} {w0 w : World} {F : List Af} {K : (Nat -> Prop) -> World -> Prop} (h : St w0 w F K) (hg : Region.wanted o (yielded ops a.tmps) = true) (t e : TypeId) (len : Nat) (parts : Array (Nat × Operand)) (ho : o.op = .buildSlice t len parts) (ht : P.underlying t = some (.slice e)) (ps : List (Nat × Value)) (hp : (parts.map fun (i, x) => (i, a.eval x)).toList = ps) (cells : Array Value)
  (hb : BU P e len ps = some cells) (size : Nat) (hs : cells.size = len * size) (hm : len <= 1000000000000)
  (hk : ∀ g w', St w0 w' (.own (.slice (some ⟨g, 0, none⟩) len len) e size len cells.toList :: F) K -> wpList P ops Q rest (a.put o.dst (.slice (some ⟨g, 0, none⟩) len len)) w') : wpList P ops Q (o :: rest) a w :=
 BigFrame.wpList_want hg fun _ hK => Bv ho ht hp hb fun w' hX hB => hK _ _ (hk _ w' (h.new hB _ ⟨by simpa using hs, .inr ⟨w.heap.size, len, cells, rfl, Nat.le_refl _, hX, Nat.le_refl _, by unfold maxLen; omega, hs, by rw [<- hs, show cells.size = cells.toList.length by simp, List.take_length]⟩⟩))
end
section
open Go.RowKit
attribute [local go_sem ↓] Go.wp_at_zero Go.wp_at_succ
set_option maxRecDepth 20000
set_option exponentiation.threshold 5000
theorem Dd {w0 : World} {D : Nat -> Prop} {v : Value} {l : List Int} {N : Nat} (hs : Sl w0 D 1 v l.length (AF l)) (hN : ofN l = N) : Calls Tryz.prog 48 #[v] w0 (AC (fun x w' => AL w' (w0.heap.size <= ·) x (N, 0)) w0) := by
 obtain ⟨K, k1, hS⟩ : ∃ K : (Nat -> Prop) -> World -> Prop, (∀ D w, K D w -> Sl w D 1 v l.length (AF l)) /\ St w0 w0 [] K := ⟨_, fun _ _ h => h, St.start (AA (by decide)) hs⟩
 clear hs
 go_enter Tryz.func48, Tryz.ntmps48
 go_wp2_with (first
  | ((with_reducible refine qA 2 ?_); refine qa hS #[.slice none 0 0, .slice none 0 0] ?_; clear hS; intro g2 w_ hS)
  | (go_at_call 28; have hsW := hS.size; refine (J3 _ l _ _ (k1 _ _ hS.ro)).mono ?_; rw [hN]; rintro r_ w_ ⟨_, rfl, h1, hb_⟩; obtain ⟨A, c, lw, rfl, -⟩ := h1.parts; replace hS := hS.ret hb_ (AO A5 fun z => w0.heap.size <= z) (h1.imp fun z hz _ => ⟨hz, Nat.le_trans hsW hz⟩); clear h1 hb_ hsW)
  | ((with_reducible show wpList _ _ _ (⟨_, .build _ _, _, _, _, _⟩ :: _) _ _); refine AE rfl _ _ rfl #[.slice A lw.length c, .slice none 0 0] (by kernel_rfl) ?_)
  | ((with_reducible refine qM ?_); (first | refine qS hS ?_ | refine qT hS ?_); clear hS; intro w_ hS; (try simp only [Act.put, Act.eval, zz, Value.cells] at hS)))
 refine Bj Tryz.results48 rfl (hS.box 0 rfl) Tryz.underlying54 rfl (by kernel_rfl) rfl ?_
 exact AC.mk ⟨_, _, rfl, hS.ro.2.imp fun z hz _ => hz.2, A6.empty⟩ hS.below
theorem Br {w : World} {D : Nat -> Prop} {a b : Value} {z : Nat × Nat} (h : AL w D (.agg #[a, b]) z) : A6 w D (.agg #[a]) z.1 /\ A6 w D (.agg #[b]) z.2 := by
 obtain ⟨x, y, he, h1, h2⟩ := h
 have e : a = x /\ b = y := by simpa using he
 obtain ⟨rfl, rfl⟩ := e
 exact ⟨h1, h2⟩
theorem cells3 {w : World} {D : Nat -> Prop} {a1 b1 a2 b2 a3 b3 : Value} (h1 : AL w D (.agg #[a1, b1]) (2, 0)) (h2 : AL w D (.agg #[a2, b2]) (8, 0)) (h3 : AL w D (.agg #[a3, b3]) (6, 0)) :
  B6 w D [.bool false, a1, b1, .int .i64 2, .int .i64 0, .bool false, a2, b2, .int .i64 4, .int .i64 0, .bool false, a3, b3, .int .i64 3, .int .i64 0] QA.rules :=
 B6.append (l := [⟨false, 2, 0, 2, 0⟩]) (xs := [.bool false, a1, b1, .int .i64 2, .int .i64 0]) rfl (B6.single (Br h1).1 (Br h1).2)
  (B6.append (l := [⟨false, 8, 0, 4, 0⟩]) (xs := [.bool false, a2, b2, .int .i64 4, .int .i64 0]) rfl (B6.single (Br h2).1 (Br h2).2) (B6.single (z := ⟨false, 6, 0, 3, 0⟩) (Br h3).1 (Br h3).2))
theorem cells2 {w : World} {D : Nat -> Prop} {a2 b2 a3 b3 : Value} (h2 : AL w D (.agg #[a2, b2]) (8, 0)) (h3 : AL w D (.agg #[a3, b3]) (6, 0)) :
  B6 w D [.bool false, a2, b2, .int .i64 4, .int .i64 0, .bool false, a3, b3, .int .i64 3, .int .i64 0] QB.rules :=
 B6.append (l := [⟨false, 8, 0, 4, 0⟩]) (xs := [.bool false, a2, b2, .int .i64 4, .int .i64 0]) rfl (B6.single (Br h2).1 (Br h2).2) (B6.single (z := ⟨false, 6, 0, 3, 0⟩) (Br h3).1 (Br h3).2)
theorem Jf {w : World} {D : Nat -> Prop} {v : Value} {z : Nat × Nat} (h : AL w D v z) : AL w (fun _ => True) v z := by
 obtain ⟨a, b, e, h1, h2⟩ := h
 exact ⟨a, b, e, h1.imp fun _ _ _ => trivial, h2.imp fun _ _ _ => trivial⟩
theorem three_cc {w : World} {D : Nat -> Prop} {a1 b1 a2 b2 a3 b3 : Value} {x y z : Nat × Nat} (h1 : AL w D (.agg #[a1, b1]) x) (h2 : AL w D (.agg #[a2, b2]) y) (h3 : AL w D (.agg #[a3, b3]) z) : Aj w D [a1, b1, a2, b2, a3, b3] [x, y, z] :=
 Aj.append (xs := [a1, b1]) (l := [x]) rfl (Fy (Br h1).1 (Br h1).2) (Aj.append (xs := [a2, b2]) (l := [y]) rfl (Fy (Br h2).1 (Br h2).2) (Fy (Br h3).1 (Br h3).2))
theorem sl_tail {w : World} {D : Nat -> Prop} {b : Nat} {x0 x1 x2 x3 x4 : Value} {xs : List Value} (h : Sl w D 5 (.slice (some ⟨b, 0, none⟩) 3 3) 3 (x0 :: x1 :: x2 :: x3 :: x4 :: xs)) : Sl w D 5 (.slice (some ⟨b, 5, none⟩) 2 2) 2 xs := by
 obtain ⟨h1, A', c', e, h2, h3, h4⟩ := h
 injection e with e1 _ e3
 subst e1 e3
 obtain ⟨b', o', e, h5, h6, h7⟩ := h4 (by decide)
 injection e with e
 injection e with e1 e2
 subst e1 e2
 refine ⟨by simp at h1; omega, _, 2, rfl, Nat.le_refl _, by decide, fun _ => ⟨b, 5, rfl, h5, h6, fun j x hj => ?_⟩⟩
 have := h7 (j + 5) x (by simpa using hj)
 rw [show 0 + (j + 5) = 5 + j by omega] at this
 exact this
set_option maxHeartbeats 4000000 in
theorem lawake35_any {w0 w : World} {F : List Af} {K : (Nat -> Prop) -> World -> Prop} (hS : St w0 w F K) (kt : ∀ D w, K D w -> Bp w /\ D 0) : Calls Tryz.prog 12 #[] w fun e w' => e = .returned (.bool true) /\ St w0 w' F K := by
 have KS := Lib.hid hS.stable
 go_enter Tryz.func12, Tryz.ntmps12
 go_wp2_with (first
  | (go_at_call 49; refine (hnew_any hS kt).mono ?_; clear hS; rintro e w_ ⟨p, rfl, hS⟩; obtain ⟨q, o, rfl, -⟩ := id hS.ro.2)
  | ((with_reducible refine qA 13 ?_); refine Dw hS rfl _ 3 1 _ rfl Tryz.underlying45 #[.int .i64 1] (by kernel_rfl) 1 rfl (by decide) ?_; clear hS; intro g13 w_ hS; (try simp only [Act.put, List.setIfInBounds_toArray, List.set_cons_zero, List.set_cons_succ]))
  | (go_at_call 28; refine (J3 _ [1] _ _ (Sl.of_own (hS.own 0 rfl))).mono ?_; rw [show ofN [1] = 2 from by decide]; rintro r_ w_ ⟨_, rfl, h1, hb_⟩; replace hS := hS.ret hb_ A5 h1; clear h1 hb_; obtain ⟨A14, c14, l14, rfl, -⟩ := hS.ro.2.parts; obtain ⟨n14, hn14⟩ : ∃ n, n = l14.length := ⟨_, rfl⟩; rw [<- hn14] at hS ⊢; clear hn14)
  | ((with_reducible refine qA 16 ?_); refine Dw hS rfl _ 3 1 _ rfl Tryz.underlying45 #[.int .i64 1] (by kernel_rfl) 1 rfl (by decide) ?_; clear hS; intro g16 w_ hS; (try simp only [Act.put, List.setIfInBounds_toArray, List.set_cons_zero, List.set_cons_succ]))
  | ((with_reducible refine qA 17 ?_); refine BigFrame.wpList_want rfl fun _ hK => BI (f := 48) (first := #[]) (caps := #[]) (vs := [.slice (some ⟨g16, 0, none⟩) 1 1]) rfl rfl (by kernel_rfl) (by simp [Act.eval, Act.put]) (Dd (l := [1]) (N := 2) (Sl.of_own (hS.own 0 rfl)) (by decide)) fun e w' ⟨x_, he_, hx_, hb_⟩ => ⟨x_, he_, hK _ _ ?_⟩; clear hK; obtain ⟨ya_, na_, rfl, hy_, hn_⟩ := id hx_; obtain ⟨A17, m17, c17, rfl⟩ := hy_.shape; obtain ⟨B17, k17, d17, rfl⟩ := hn_.shape; replace hS := hS.ret hb_ Bx hx_; clear hx_ hb_ hy_ hn_ he_; (try simp only [Act.put, List.setIfInBounds_toArray, List.set_cons_zero, List.set_cons_succ]))
  | ((with_reducible refine qA 18 ?_); refine AE rfl _ _ rfl #[.bool false, .slice A17 m17 c17, .slice B17 k17 d17, .int .i64 2, .int .i64 0] (by kernel_rfl) ?_; (try simp only [Act.put, List.setIfInBounds_toArray, List.set_cons_zero, List.set_cons_succ]))
  | ((with_reducible refine qA 20 ?_); refine Dw hS rfl _ 3 1 _ rfl Tryz.underlying45 #[.int .i64 3] (by kernel_rfl) 1 rfl (by decide) ?_; clear hS; intro g20 w_ hS; (try simp only [Act.put, List.setIfInBounds_toArray, List.set_cons_zero, List.set_cons_succ]))
  | ((with_reducible refine qA 21 ?_); refine BigFrame.wpList_want rfl fun _ hK => BI (f := 48) (first := #[]) (caps := #[]) (vs := [.slice (some ⟨g20, 0, none⟩) 1 1]) rfl rfl (by kernel_rfl) (by simp [Act.eval, Act.put]) (Dd (l := [3]) (N := 8) (Sl.of_own (hS.own 0 rfl)) (by decide)) fun e w' ⟨x_, he_, hx_, hb_⟩ => ⟨x_, he_, hK _ _ ?_⟩; clear hK; obtain ⟨ya_, na_, rfl, hy_, hn_⟩ := id hx_; obtain ⟨A21, m21, c21, rfl⟩ := hy_.shape; obtain ⟨B21, k21, d21, rfl⟩ := hn_.shape; replace hS := hS.ret hb_ Bx hx_; clear hx_ hb_ hy_ hn_ he_; (try simp only [Act.put, List.setIfInBounds_toArray, List.set_cons_zero, List.set_cons_succ]))
  | ((with_reducible refine qA 22 ?_); refine AE rfl _ _ rfl #[.bool false, .slice A21 m21 c21, .slice B21 k21 d21, .int .i64 4, .int .i64 0] (by kernel_rfl) ?_; (try simp only [Act.put, List.setIfInBounds_toArray, List.set_cons_zero, List.set_cons_succ]))
  | ((with_reducible refine qA 24 ?_); refine Dw hS rfl _ 3 2 _ rfl Tryz.underlying45 #[.int .i64 1, .int .i64 2] (by kernel_rfl) 1 rfl (by decide) ?_; clear hS; intro g24 w_ hS; (try simp only [Act.put, List.setIfInBounds_toArray, List.set_cons_zero, List.set_cons_succ]))
  | ((with_reducible refine qA 25 ?_); refine BigFrame.wpList_want rfl fun _ hK => BI (f := 48) (first := #[]) (caps := #[]) (vs := [.slice (some ⟨g24, 0, none⟩) 2 2]) rfl rfl (by kernel_rfl) (by simp [Act.eval, Act.put]) (Dd (l := [1, 2]) (N := 6) (Sl.of_own (hS.own 0 rfl)) (by decide)) fun e w' ⟨x_, he_, hx_, hb_⟩ => ⟨x_, he_, hK _ _ ?_⟩; clear hK; obtain ⟨ya_, na_, rfl, hy_, hn_⟩ := id hx_; obtain ⟨A25, m25, c25, rfl⟩ := hy_.shape; obtain ⟨B25, k25, d25, rfl⟩ := hn_.shape; replace hS := hS.ret hb_ Bx hx_; clear hx_ hb_ hy_ hn_ he_; (try simp only [Act.put, List.setIfInBounds_toArray, List.set_cons_zero, List.set_cons_succ]))
  | ((with_reducible refine qA 26 ?_); refine AE rfl _ _ rfl #[.bool false, .slice A25 m25 c25, .slice B25 k25 d25, .int .i64 3, .int .i64 0] (by kernel_rfl) ?_; (try simp only [Act.put, List.setIfInBounds_toArray, List.set_cons_zero, List.set_cons_succ]))
  | ((with_reducible refine qA 27 ?_); refine st_litpS hS rfl _ 58 3 _ rfl Tryz.underlying28 [(0, .agg #[.bool false, .slice A17 m17 c17, .slice B17 k17 d17, .int .i64 2, .int .i64 0]), (1, .agg #[.bool false, .slice A21 m21 c21, .slice B21 k21 d21, .int .i64 4, .int .i64 0]), (2, .agg #[.bool false, .slice A25 m25 c25, .slice B25 k25 d25, .int .i64 3, .int .i64 0])] (by simp [Act.eval]) #[.bool false, .slice A17 m17 c17, .slice B17 k17 d17, .int .i64 2, .int .i64 0, .bool false, .slice A21 m21 c21, .slice B21 k21 d21, .int .i64 4, .int .i64 0, .bool false, .slice A25 m25 c25, .slice B25 k25 d25, .int .i64 3, .int .i64 0] (by kernel_rfl) 5 rfl (by decide) ?_; clear hS; intro g27 w_ hS; (try simp only [Act.put, List.setIfInBounds_toArray, List.set_cons_zero, List.set_cons_succ]))
  | ((with_reducible refine qA 29 ?_); refine Dw hS rfl _ 3 1 _ rfl Tryz.underlying45 #[.int .i64 4] (by kernel_rfl) 1 rfl (by decide) ?_; clear hS; intro g29 w_ hS; (try simp only [Act.put, List.setIfInBounds_toArray, List.set_cons_zero, List.set_cons_succ]))
  | ((with_reducible refine qA 30 ?_); refine BigFrame.wpList_want rfl fun _ hK => BI (f := 48) (first := #[]) (caps := #[]) (vs := [.slice (some ⟨g29, 0, none⟩) 1 1]) rfl rfl (by kernel_rfl) (by simp [Act.eval, Act.put]) (Dd (l := [4]) (N := 16) (Sl.of_own (hS.own 0 rfl)) (by decide)) fun e w' ⟨x_, he_, hx_, hb_⟩ => ⟨x_, he_, hK _ _ ?_⟩; clear hK; obtain ⟨ya_, na_, rfl, hy_, hn_⟩ := id hx_; obtain ⟨A30, m30, c30, rfl⟩ := hy_.shape; obtain ⟨B30, k30, d30, rfl⟩ := hn_.shape; replace hS := hS.ret hb_ Bx hx_; clear hx_ hb_ hy_ hn_ he_; (try simp only [Act.put, List.setIfInBounds_toArray, List.set_cons_zero, List.set_cons_succ]))
  | ((with_reducible refine qA 31 ?_); refine st_litpS hS rfl _ 54 1 _ rfl Tryz.underlying29 [(0, .agg #[.slice A30 m30 c30, .slice B30 k30 d30])] (by simp [Act.eval]) #[.slice A30 m30 c30, .slice B30 k30 d30] (by kernel_rfl) 2 rfl (by decide) ?_; clear hS; intro g31 w_ hS; (try simp only [Act.put, List.setIfInBounds_toArray, List.set_cons_zero, List.set_cons_succ]))
  | ((with_reducible refine qA 32 ?_); refine AE rfl _ _ rfl #[.int .i64 4, .pointer (some ⟨q, 0, none⟩), .slice A14 n14 c14, .slice (some ⟨g27, 0, none⟩) 3 3, .slice none 0 0, .slice (some ⟨g31, 0, none⟩) 1 1] (by kernel_rfl) ?_; (try simp only [Act.put, List.setIfInBounds_toArray, List.set_cons_zero, List.set_cons_succ]))
  | ((with_reducible refine qA 2 ?_); refine qa hS #[.int .i64 0, .pointer none, .slice none 0 0, .slice none 0 0, .slice none 0 0, .slice none 0 0] ?_; clear hS; intro g2 w_ hS)
  | ((with_reducible refine qM ?_); (first | refine qS hS ?_ | refine qT hS ?_); clear hS; intro w_ hS; (try simp only [Act.put, Act.eval, zz, Value.cells] at hS))
  | ((with_reducible refine qA 34 ?_)
     replace hS := (hS.freeze 1 (by decide) rfl).freeze 2 (by decide) rfl
     obtain ⟨K1, k0, kpA, kpB, hS2⟩ : ∃ K1 : (Nat -> Prop) -> World -> Prop, Hid (∀ D w, K1 D w -> K D w) /\ Hid (∀ D w, K1 D w -> Bt w D (.agg #[.int .i64 4, .pointer (some ⟨q, 0, none⟩), .slice A14 n14 c14, .slice (some ⟨g27, 0, none⟩) 3 3, .slice none 0 0, .slice (some ⟨g31, 0, none⟩) 1 1]) QA) /\ Hid (∀ D w, K1 D w -> Bt w D (.agg #[.int .i64 4, .pointer (some ⟨q, 0, none⟩), .slice A14 n14 c14, .slice (some ⟨g27, 5, none⟩) 2 2, .slice none 0 0, .slice (some ⟨g31, 0, none⟩) 1 1]) QB) /\ St w0 w_ (.box g2 31 #[.int .i64 4, .pointer (some ⟨q, 0, none⟩), .slice A14 n14 c14, .slice (some ⟨g27, 0, none⟩) 3 3, .slice none 0 0, .slice (some ⟨g31, 0, none⟩) 1 1] :: F) K1 := ⟨_, Lib.hid fun D w h => h.1.1.1.1.1.1.1.1, Lib.hid fun D w h => ⟨_, _, _, _, _, rfl, h.1.1.1.1.1.1.1.2, h.1.1.1.1.1.1.2, ⟨_, h.2, cells3 h.1.1.1.1.1.2 h.1.1.1.1.2 h.1.1.1.2⟩, El, _, h.1.2, Fy (Br h.1.1.2).1 (Br h.1.1.2).2⟩, Lib.hid fun D w h => ⟨_, _, _, _, _, rfl, h.1.1.1.1.1.1.1.2, h.1.1.1.1.1.1.2, ⟨_, sl_tail h.2, cells2 h.1.1.1.1.2 h.1.1.1.2⟩, El, _, h.1.2, Fy (Br h.1.1.2).1 (Br h.1.1.2).2⟩, hS.sub (.cons_cons _ (.cons _ (.cons _ (.cons _ (.cons _ (.cons _ (List.Sublist.refl _)))))))⟩
     clear hS
     have hS := hS2
     clear hS2
     refine BigFrame.wpList_want rfl fun _ hK => AV rfl rfl (hS.box 0 rfl) Tryz.underlying31 rfl (by kernel_rfl) (hK _ _ ?_)))
 have kt1 := Lib.hid fun D w h => (kt _ _ (k0.out D w h)).1
 refine (EP (kpA.out _ _ hS.ro) okQA (kt1.out _ _ hS.ro)).mono ?_
 rw [srchA]
 rintro e w_ ⟨_, rfl, ⟨pa, ca, rfl, h1, h2⟩, hb_⟩
 obtain ⟨Aa, la, rfl, -⟩ := id h1.shape
 obtain ⟨Ab, lb, rfl⟩ := Cy h2
 replace hS := hS.ret hb_ (AA (by decide)) h1
 clear h1 h2 hb_
 go_wp2_with (first
  | ((with_reducible refine qA 40 ?_); refine BigFrame.wpList_want rfl fun _ hK => AV rfl rfl (hS.box 0 rfl) Tryz.underlying31 rfl (by kernel_rfl) (hK _ _ ?_))
  | (go_at_call 23; refine (J4 okQA hS (fun D w h => kpA.out _ _ h.1) (fun D w h => kt1.out _ _ h.1)).mono ?_; rw [obtA]; clear hS; rintro e w_ ⟨y, rfl, hS⟩; obtain ⟨u7, rfl, hu7⟩ := Cg hS.ro.2)
  | ((with_reducible refine qA 7 ?_); refine qa hS #[.slice none 0 0] ?_; clear hS; intro g7 w_ hS)
  | ((with_reducible refine qm 27 ?_); refine AX hS 0 rfl _ _ _ rfl _ _ rfl rfl _ _ rfl (by kernel_rfl) (by kernel_rfl) (by simpa using hu7) ?_; clear hS; intro w_ hS; (try simp only [Act.put, Act.eval, zz, Value.cells] at hS))
  | ((with_reducible refine qA 47 ?_); refine BigFrame.wpList_want rfl fun _ hK => AV rfl rfl (hS.box 1 rfl) Tryz.underlying31 rfl (by kernel_rfl) (hK _ _ ?_))
  | ((with_reducible refine qM ?_); (first | refine qS hS ?_ | refine qT hS ?_); clear hS; intro w_ hS; (try simp only [Act.put, Act.eval, zz, Value.cells] at hS))
  | ((with_reducible refine qK ?_); refine qC hS ?_))
 refine (EP (kpB.out _ _ hS.ro.1.1) okQB (kt1.out _ _ hS.ro.1.1)).mono ?_
 rw [srchB]
 rintro e w_ ⟨_, rfl, ⟨pb, cb, rfl, h1, h2⟩, hb_⟩
 obtain ⟨Ac, lc, rfl, -⟩ := id h1.shape
 obtain ⟨Ad, ld, rfl⟩ := Cy h2
 replace hS := hS.ret hb_ AP h2
 clear h1 h2 hb_
 obtain ⟨K2, k1, k2, k3, k4, hS2⟩ : ∃ K2 : (Nat -> Prop) -> World -> Prop, Hid (∀ D w, K2 D w -> K1 D w) /\ Hid (∀ D w, K2 D w -> Sl w D 1 (.slice Aa 3 la) ([0, 2, 1] : List Int).length (AF [0, 2, 1])) /\ Hid (∀ D w, K2 D w -> A6 w D (.agg #[u7]) 30) /\ Hid (∀ D w, K2 D w -> Ai w D (.slice Ad 3 ld) [(4, 0), (8, 0), (16, 0)]) /\ St w0 w_ _ K2 := ⟨_, Lib.hid fun D w h => h.1.1.1, Lib.hid fun D w h => h.1.1.2, Lib.hid fun D w h => h.1.2, Lib.hid fun D w h => h.2, hS⟩
 clear hS
 have hS := hS2
 clear hS2
 go_wp2_with fail
 refine Cr [.n 0, .b true, .b true, .b true, .b true, .b true, .i (.slice Aa 3 la), .s (fun v w => Sl w (fun _ => True) 1 v ([0, 2, 1] : List Int).length (AF [0, 2, 1])) fun v w w' h hb => h.ext hb, .b true, .b true, .b true, .i (.agg #[u7]), .s (fun v w => Sl w (fun _ => True) 1 v ([1, 2, 3, 4] : List Int).length (AF [1, 2, 3, 4])) fun v w w' h hb => h.ext hb, .s (fun v w => A6 w (fun _ => True) v 30) fun v w w' h hb => h.ext hb, .b true, .b true, .b true, .n 0, .b true, .b true, .b true, .b false, .b true, .b true, .b true, .i (.slice Ad 3 ld), .i (.func (.func 48) #[] #[]), .s (fun v w => Sl w (fun _ => True) 1 v ([2] : List Int).length (AF [2])) fun v w w' h hb => h.ext hb, .s (fun v w => ∃ A n c B k d, v = .agg #[.slice A n c, .slice B k d] /\ AL w (fun _ => True) (.agg #[.slice A n c, .slice B k d]) (4, 0)) fun v w w' h hb => by obtain ⟨A, n, c, B, k, d, h1, h2⟩ := h; exact ⟨A, n, c, B, k, d, h1, h2.ext hb⟩, .i (.func (.func 48) #[] #[]), .s (fun v w => Sl w (fun _ => True) 1 v ([3] : List Int).length (AF [3])) fun v w w' h hb => h.ext hb, .s (fun v w => ∃ A n c B k d, v = .agg #[.slice A n c, .slice B k d] /\ AL w (fun _ => True) (.agg #[.slice A n c, .slice B k d]) (8, 0)) fun v w w' h hb => by obtain ⟨A, n, c, B, k, d, h1, h2⟩ := h; exact ⟨A, n, c, B, k, d, h1, h2.ext hb⟩, .i (.func (.func 48) #[] #[]), .s (fun v w => Sl w (fun _ => True) 1 v ([4] : List Int).length (AF [4])) fun v w w' h hb => h.ext hb, .s (fun v w => ∃ A n c B k d, v = .agg #[.slice A n c, .slice B k d] /\ AL w (fun _ => True) (.agg #[.slice A n c, .slice B k d]) (16, 0)) fun v w w' h hb => by obtain ⟨A, n, c, B, k, d, h1, h2⟩ := h; exact ⟨A, n, c, B, k, d, h1, h2.ext hb⟩, .s (fun v w => Ai w (fun _ => True) v [(4, 0), (8, 0), (16, 0)]) fun v w w' h hb => h.ext hb, .b true, .b true, .b true] ⟨uM, uB (h := fun w hW hN => Gg rfl), uM, uM, uP, uM, uM, ?_, ?_, uP, uM, uR (h := fun w hW hN => (hS.ext hW).box 0 rfl), ?_, ?_, ?_, uP, uM, uM, uB (h := fun w hW hN => Gg rfl), uP, uM, uM, uU, uP, uM, uM, uM, ?_, ?_, uM, ?_, ?_, uM, ?_, ?_, ?_, ?_, uP, uA, trivial⟩ ?_
 ·refine uT fun b__ w hW hE K hK => ?_
  refine Bv rfl Tryz.underlying45 (ps := [(0, .int .i64 0), (1, .int .i64 2), (2, .int .i64 1)]) (by simp [Act.eval]) (cells := #[.int .i64 0, .int .i64 2, .int .i64 1]) (by kernel_rfl) fun w' hX hb => hK _ _ ((Sl.of_box (n := 3) (size := 1) hX rfl (by omega)).imp fun _ _ _ => trivial) hb
 ·refine uT fun b__ w hW hE K hK => ?_
  have e59 := hE 59
  have e60 := hE 60
  exact Aq rfl (by kernel_rfl) (by simp only [List.map_cons, List.map_nil, e59]) (EQ _ _ [0, 2, 1] [0, 2, 1] _ _ _ (k2.out _ _ (hS.ext hW).ro) e60) fun v w' h hb => hK v w' h hb
 ·refine uT fun b__ w hW hE K hK => ?_
  refine Bv rfl Tryz.underlying45 (ps := [(0, .int .i64 1), (1, .int .i64 2), (2, .int .i64 3), (3, .int .i64 4)]) (by simp [Act.eval]) (cells := #[.int .i64 1, .int .i64 2, .int .i64 3, .int .i64 4]) (by kernel_rfl) fun w' hX hb => hK _ _ ((Sl.of_box (n := 4) (size := 1) hX rfl (by omega)).imp fun _ _ _ => trivial) hb
 ·refine uT fun b__ w hW hE K hK => ?_
  have e65 := hE 65
  exact Aq rfl (by kernel_rfl) (by simp only [List.map_cons, List.map_nil]) (J3 _ [1, 2, 3, 4] _ _ e65) fun v w' h hb => hK v w' (by rw [show ofN [1, 2, 3, 4] = 30 from by decide] at h; exact h.imp fun _ _ _ => trivial) hb
 ·refine uT fun b__ w hW hE K hK => ?_
  have e64 := hE 64
  have e66 := hE 66
  exact Aq rfl (by kernel_rfl) (by simp only [List.map_cons, List.map_nil, e64]) (Ek _ _ 30 30 _ _ _ (k3.out _ _ (hS.ext hW).ro) e66) fun v w' h hb => hK v w' h hb
 ·refine uT fun b__ w hW hE K hK => ?_
  refine Bv rfl Tryz.underlying45 (ps := [(0, .int .i64 2)]) (by simp [Act.eval]) (cells := #[.int .i64 2]) (by kernel_rfl) fun w' hX hb => hK _ _ ((Sl.of_box (n := 1) (size := 1) hX rfl (by omega)).imp fun _ _ _ => trivial) hb
 ·refine uT fun b__ w hW hE K hK => ?_
  have e79 := hE 79
  have e80 := hE 80
  refine BI (f := 48) (first := #[]) (caps := #[]) (vs := [b__.eval (.tmp 80)]) rfl e79 (by kernel_rfl) (by simp) (Dd (l := [2]) (N := 4) e80 (by decide)) fun e w' ⟨x_, he_, hx_, hb_⟩ => ⟨x_, he_, ?_⟩
  obtain ⟨ya_, na_, rfl, hy_, hn_⟩ := id hx_
  obtain ⟨A, m, c, rfl⟩ := hy_.shape
  obtain ⟨B, k, d, rfl⟩ := hn_.shape
  exact hK _ _ ⟨_, _, _, _, _, _, rfl, Jf hx_⟩ hb_
 ·refine uT fun b__ w hW hE K hK => ?_
  refine Bv rfl Tryz.underlying45 (ps := [(0, .int .i64 3)]) (by simp [Act.eval]) (cells := #[.int .i64 3]) (by kernel_rfl) fun w' hX hb => hK _ _ ((Sl.of_box (n := 1) (size := 1) hX rfl (by omega)).imp fun _ _ _ => trivial) hb
 ·refine uT fun b__ w hW hE K hK => ?_
  have e82 := hE 82
  have e83 := hE 83
  refine BI (f := 48) (first := #[]) (caps := #[]) (vs := [b__.eval (.tmp 83)]) rfl e82 (by kernel_rfl) (by simp) (Dd (l := [3]) (N := 8) e83 (by decide)) fun e w' ⟨x_, he_, hx_, hb_⟩ => ⟨x_, he_, ?_⟩
  obtain ⟨ya_, na_, rfl, hy_, hn_⟩ := id hx_
  obtain ⟨A, m, c, rfl⟩ := hy_.shape
  obtain ⟨B, k, d, rfl⟩ := hn_.shape
  exact hK _ _ ⟨_, _, _, _, _, _, rfl, Jf hx_⟩ hb_
 ·refine uT fun b__ w hW hE K hK => ?_
  refine Bv rfl Tryz.underlying45 (ps := [(0, .int .i64 4)]) (by simp [Act.eval]) (cells := #[.int .i64 4]) (by kernel_rfl) fun w' hX hb => hK _ _ ((Sl.of_box (n := 1) (size := 1) hX rfl (by omega)).imp fun _ _ _ => trivial) hb
 ·refine uT fun b__ w hW hE K hK => ?_
  have e85 := hE 85
  have e86 := hE 86
  refine BI (f := 48) (first := #[]) (caps := #[]) (vs := [b__.eval (.tmp 86)]) rfl e85 (by kernel_rfl) (by simp) (Dd (l := [4]) (N := 16) e86 (by decide)) fun e w' ⟨x_, he_, hx_, hb_⟩ => ⟨x_, he_, ?_⟩
  obtain ⟨ya_, na_, rfl, hy_, hn_⟩ := id hx_
  obtain ⟨A, m, c, rfl⟩ := hy_.shape
  obtain ⟨B, k, d, rfl⟩ := hn_.shape
  exact hK _ _ ⟨_, _, _, _, _, _, rfl, Jf hx_⟩ hb_
 ·refine uT fun b__ w hW hE K hK => ?_
  have e81 := hE 81
  have e84 := hE 84
  have e87 := hE 87
  obtain ⟨A1, n1, c1, B1, k1, d1, f1, f2⟩ := e81
  obtain ⟨A2, n2, c2, B2, k2, d2, f3, f4⟩ := e84
  obtain ⟨A3, n3, c3, B3, k3, d3, f5, f6⟩ := e87
  refine Bv rfl Tryz.underlying29 (ps := [(0, .agg #[.slice A1 n1 c1, .slice B1 k1 d1]), (1, .agg #[.slice A2 n2 c2, .slice B2 k2 d2]), (2, .agg #[.slice A3 n3 c3, .slice B3 k3 d3])]) (by simp [f1, f3, f5]) (cells := #[.slice A1 n1 c1, .slice B1 k1 d1, .slice A2 n2 c2, .slice B2 k2 d2, .slice A3 n3 c3, .slice B3 k3 d3]) (by kernel_rfl) fun w' hX hb => hK _ _ ⟨_, (Sl.of_box (n := 3) (size := 2) hX rfl (by omega)).imp fun _ _ _ => trivial, three_cc (f2.ext hb) (f4.ext hb) (f6.ext hb)⟩ hb
 ·refine uT fun b__ w hW hE K hK => ?_
  have e78 := hE 78
  have e88 := hE 88
  exact Aq rfl (by kernel_rfl) (by simp only [List.map_cons, List.map_nil, e78]; rfl) (eqcubes_any _ _ [(4, 0), (8, 0), (16, 0)] [(4, 0), (8, 0), (16, 0)] _ _ _ (k4.out _ _ (hS.ext hW).ro) e88) fun v w' h hb => hK v w' h hb
 ·intro vs wz hW hT
  obtain ⟨e53, e54, e55, e56, e57, e58, e59, e60, e61, e62, e63, e64, e65, e66, e67, e68, e69, e70, e71, e72, e73, e74, e75, e76, e77, e78, e79, e80, e81, e82, e83, e84, e85, e86, e87, e88, e89, e90, e0, -⟩ := hT
  have bx : (fun _ : Nat => True) 0 := trivial
  simp only [AB, Act.put, zz, ze]
  rw [e0]
  replace hS := hS.ext hW
  clear hW
  go_wp2_with fail
  go_ret
  exact ⟨rfl, (hS.sub (List.sublist_append_right [_, _] F)).mono KS.out fun D w h => k0.out _ _ (k1.out _ _ h)⟩
end
section
open Go.RowKit
set_option exponentiation.threshold 5000
theorem start_bytesT {W : World} {D : Nat -> Prop} {v : Value} {l : List Nat} (h : Bp W) (hv : Sl W D 1 v l.length (u8s l)) : ∃ K : (Nat -> Prop) -> World -> Prop, (∀ D w, K D w -> Bp w /\ D 0) /\ (∀ D w, K D w -> Sl w D 1 v l.length (u8s l)) /\ St W W [] K :=
 ⟨fun D w => (Bp w /\ D 0) /\ Sl w D 1 v l.length (u8s l), fun _ _ h => h.1, fun _ _ h => h.2, St.start (D := fun _ => True) (BA.and (AA (by decide))) ⟨⟨h, trivial⟩, hv.imp fun _ _ _ => trivial⟩⟩
end
section
open Go.RowKit
attribute [local go_sem ↓] Go.wp_at_zero Go.wp_at_succ
set_option maxRecDepth 20000
set_option exponentiation.threshold 5000
theorem oneC_small {N : Nat} : Small (oneC N) := fun z hz => by
 obtain ⟨r, hr, rfl⟩ := List.mem_map.1 hz
 have : r < 64 := List.mem_range.1 (List.mem_filter.1 hr).1
 exact ⟨Eg this, by show (0 : Nat) < B7; unfold B7; decide⟩
theorem srch_small {L : List (Nat × Nat)} {p : Ae} : Small (srchM L p).2.1 := by
 unfold srchM
 split
 ·exact fun z hz => by cases hz
 ·exact oneC_small
set_option maxHeartbeats 4000000 in
theorem lsearches_any (v : Value) (l : List Nat) (b : Bool) (W : World) (D : Nat -> Prop) (hl : ∀ x ∈ l, x < 256) (hv : Sl W D 1 v l.length (u8s l)) (hT : Bp W) : Calls Tryz.prog 9 #[v, .bool b] W (AC (fun x _ => x = .bool true) W) := by
 obtain ⟨K, kt, k1, hS⟩ := start_bytesT hT hv
 clear hv hT
 have HL := Lib.hid hl
 clear hl
 go_enter Tryz.func9, Tryz.ntmps9
 go_wp2_with (first
  | (go_at_call 12; refine (lawake35_any hS kt).mono ?_; clear hS; rintro e w_ ⟨rfl, hS⟩)
  | (go_at_call 13; refine (lmade_any b HL.out hS k1 kt).mono ?_; clear hS; rintro e w_ ⟨x, u, rfl, p, ⟨L, R, hM⟩, hpl, hS⟩; replace hM := Lib.hid hM; replace hpl := Lib.hid hpl; obtain ⟨xs, rfl, hx6, hx1⟩ := hS.ro.2.1.cells; replace hx6 := Lib.hid hx6; obtain ⟨us, rfl, hu6, hu1⟩ := hS.ro.2.2.cells; replace hu6 := Lib.hid hu6)
  | ((with_reducible refine qA 5 ?_); refine qa hS #[.int .i64 0, .pointer none, .slice none 0 0, .slice none 0 0, .slice none 0 0, .slice none 0 0] ?_; clear hS; intro g5 w_ hS)
  | ((with_reducible refine qA 6 ?_); refine qa hS #[.int .i64 0, .slice none 0 0, .int .u64 0, .slice none 0 0, .slice none 0 0, .slice none 0 0] ?_; clear hS; intro g6 w_ hS)
  | ((with_reducible refine qm 37 ?_); refine AX hS 0 rfl _ _ _ rfl _ _ rfl rfl _ _ rfl (by rw [hu6.out]; kernel_rfl) (by rw [hu6.out]; rfl) hu1 ?_; clear hS; intro w_ hS; (try simp only [Act.put, Act.eval, zz, Value.cells] at hS))
  | ((with_reducible refine qm 31 ?_); refine AX hS 1 rfl _ _ _ rfl _ _ rfl rfl _ _ rfl (by rw [hx6.out]; kernel_rfl) (by rw [hx6.out]; rfl) hx1 ?_; clear hS; intro w_ hS; (try simp only [Act.put, Act.eval, zz, Value.cells] at hS))
  | ((with_reducible refine qA 25 ?_); refine BigFrame.wpList_want rfl fun _ hK => AV rfl rfl (hS.box 1 rfl) Tryz.underlying31 rfl (by rw [hx6.out]; kernel_rfl) (hK _ _ ?_)))
 obtain ⟨fb, hfb⟩ : ∃ fb, C1 p = fb := ⟨_, rfl⟩
 have HFB := Lib.hid hfb
 obtain ⟨PL, hPL⟩ : ∃ PL, (srchM L p).1 = PL := ⟨_, rfl⟩
 obtain ⟨CB, hCB⟩ : ∃ CB, (srchM L p).2.1 = CB := ⟨_, rfl⟩
 obtain ⟨fd, hfd⟩ : ∃ fd, (srchM L p).2.2 = fd := ⟨_, rfl⟩
 have HS0 : Hid (srchS p = if fb = true then (PL, CB, fd, 0) else ([], [], false, 15)) := Lib.hid (by unfold srchS; rw [if_pos hM.out.check, hM.out.links, hfb]; dsimp only; rw [hPL, hCB, hfd])
 have HSM : Hid (srchM L p = (PL, CB, fd)) := Lib.hid (by rw [<- hPL, <- hCB, <- hfd])
 have HSC : Hid (Small CB) := Lib.hid (by rw [<- hCB]; exact srch_small)
 have HFD : Hid (fb = true -> rchB p = fd) := Lib.hid fun h => by rw [<- hfd]; exact (srch_found hM.out (hfb.trans h)).symm
 clear hfb hPL hCB hfd
 refine (EP hS.ro.2.1 hM.out.ok (kt _ _ hS.ro.1).1).mono ?_
 rw [HS0.out]
 rintro e w_ ⟨_, rfl, ⟨pa, ca, rfl, h1, h2⟩, hb_⟩
 replace hS := hS.ret hb_ ((AA (by decide)).and AP) ⟨h1, h2⟩
 obtain ⟨Aa, la, rfl, -⟩ := id h1.shape
 obtain ⟨Ab, lb, rfl⟩ := Cy h2
 clear h1 h2 hb_
 cases fb
 ·go_wp2_with (first
   | ((with_reducible refine qA 34 ?_); refine BigFrame.wpList_want rfl fun _ hK => AV rfl rfl (hS.box 0 rfl) Tryz.underlying37 rfl (by rw [hu6.out]; kernel_rfl) (hK _ _ ?_))
   | (go_at_call 16; refine (Ht hS.ro.1.2.2 hM.out).mono ?_; rw [HFB.out]; rintro r_ w_ ⟨_, rfl, rfl, hb_⟩; replace hS := hS.ext hb_; clear hb_))
  go_ret
  exact AC.mk rfl hS.below
 ·have HFD2 := Lib.hid (HFD.out rfl)
  go_wp2_with (first
   | ((with_reducible refine qA 34 ?_); refine BigFrame.wpList_want rfl fun _ hK => AV rfl rfl (hS.box 0 rfl) Tryz.underlying37 rfl (by rw [hu6.out]; kernel_rfl) (hK _ _ ?_))
   | ((with_reducible refine qA 58 ?_); refine BigFrame.wpList_want rfl fun _ hK => AV rfl rfl (hS.box 0 rfl) Tryz.underlying37 rfl (by rw [hu6.out]; kernel_rfl) (hK _ _ ?_))
   | ((with_reducible refine qA 82 ?_); refine BigFrame.wpList_want rfl fun _ hK => AV rfl rfl (hS.box 0 rfl) Tryz.underlying37 rfl (by rw [hu6.out]; kernel_rfl) (hK _ _ ?_))
   | (go_at_call 16; refine (Ht hS.ro.1.2.2 hM.out).mono ?_; rw [HFB.out]; rintro r_ w_ ⟨_, rfl, rfl, hb_⟩; replace hS := hS.ext hb_; clear hb_)
   | (go_at_call 39; refine (rsrch_any hM.out HFB.out hS (fun D w h => h.1.2.2)).mono ?_; rw [HSM.out]; clear hS; rintro e w_ ⟨a2, c2, rfl, hS⟩; obtain ⟨Ac, lc, rfl, -⟩ := id hS.ro.2.1.shape; obtain ⟨Ad, ld, rfl, -⟩ := Sl.shape (hS.ro.2.2 : Sl _ _ _ _ _ _))
   | (go_at_call 37; refine (EQ _ _ PL PL _ _ _ hS.ro.1.2.1 hS.ro.2.1).mono ?_; rw [show (PL == PL) = true from beq_self_eq_true _]; rintro r_ w_ ⟨_, rfl, rfl, hb_⟩; replace hS := hS.ext hb_; clear hb_)
   | (go_at_call 40; refine (lsame_any _ _ CB CB _ _ _ hS.ro.1.2.2 hS.ro.2.2 HSC.out HSC.out (kt _ _ hS.ro.1.1.1).1).mono ?_; rw [show (CB == CB) = true from beq_self_eq_true _]; rintro r_ w_ ⟨_, rfl, rfl, hb_⟩; replace hS := hS.ext hb_; clear hb_)
   | (go_at_call 26; refine (IP hS.ro.1.1.2.2 hM.out).mono ?_; rw [HFD2.out]; rintro r_ w_ ⟨_, rfl, rfl, hb_⟩; replace hS := hS.ext hb_; clear hb_)
   | ((with_reducible show wpList _ _ _ (⟨_, .binOp .eql 4 _ _ _, _, _, _, _⟩ :: _) _ _); refine BigFrame.wpList_want rfl fun _ hK => B5 (v := .bool true) rfl rfl rfl rfl (by cases fd <;> rfl) (hK _ _ ?_)))
  go_ret
  exact AC.mk rfl hS.below
end
section
open Go.RowKit Go.ChangeShapes Go.WideShapes
section
variable {H : Type} {enc : TypeId × Value -> H} {P : Program} {w : World} {base : Nat} {sp : Nat -> Bool} {held : Bool}
theorem sl_of_trod {t e : TypeId} {size fuel : Nat} {cs : List Value} {x : DataW H × List MemPlace} (ht : P.underlying t = some (.slice e)) (hc : P.cellsOf e = size) (hsz : 0 < size) (h : DataW.trod enc P w base sp held fuel t cs = some x) :
  ∃ v n xs, cs = [v] /\ Sl w (fun _ => True) size v n xs /\ ∀ k, k < n -> ∃ f' y, DataW.trod enc P w base sp held f' e ((xs.drop (k * size)).take size) = some y := by
 rcases DataW.trod_slice ht h with ⟨rfl, _⟩ | ⟨a, len, cap, elems, rest, n, _, rfl, _, hb, hl, hm, hlen, hel, _⟩
 ·exact ⟨_, 0, [], rfl, ⟨by simp, none, 0, rfl, Nat.le_refl _, Nat.zero_le _, fun h => by omega⟩, fun k hk => by omega⟩
 ·rw [hc] at hel
  have each : ∀ k, k < len -> ∃ ck y, w.cells? base (a.add (k * size)) size = some ck /\ DataW.trod enc P w base sp held n e ck = some y := by
   intro k hk
   have h1 := hel k hk
   rw [List.getElem?_eq_getElem (by omega)] at h1
   obtain ⟨ck, h2, h3⟩ := Option.bind_eq_some_iff.1 h1
   exact ⟨ck, _, h2, h3⟩
  have hadd : ∀ i j, (a.add i).add j = a.add (i + j) := by
   intro i j
   unfold Addr.add
   by_cases h1 : i = 0 <;> by_cases h2 : j = 0 <;> simp [h1, h2, Nat.add_assoc]
  have cell : ∀ j, j < len * size -> ∃ x, w.cell? (a.add j) = some x := by
   intro j hj
   have hk : j / size < len := (Nat.div_lt_iff_lt_mul hsz).2 hj
   obtain ⟨ck, y, h1, h2⟩ := each _ hk
   obtain ⟨_, h3, h4⟩ := World.cells?_some h1
   have h5 := h4 (j % size) (Nat.mod_lt _ hsz)
   rw [hadd, Nat.mul_comm, Nat.div_add_mod] at h5
   rw [h5, List.getElem?_eq_getElem (by rw [h3]; exact Nat.mod_lt _ hsz)]
   exact ⟨_, rfl⟩
  refine ⟨.slice (some a) len cap, len, (List.range (len * size)).map fun j => (w.cell? (a.add j)).getD undef, rfl, ⟨by simp, some a, cap, rfl, hl, hm, fun h0 => ?_⟩, fun k hk => ?_⟩
  ·obtain ⟨x0, hx0⟩ := cell 0 (Nat.mul_pos h0 hsz)
   obtain ⟨b, o, s⟩ := a
   have hs : s = none := cell_spot hx0
   subst hs
   refine ⟨b, o, rfl, trivial, ?_, fun j x hx => ?_⟩
   ·have := hx0
    unfold World.cell? at this
    simp only [Addr.add] at this
    rcases Nat.lt_or_ge b w.heap.size with hlt | hge
    ·exact hlt
    ·simp [Array.getElem?_eq_none hge] at this
   ·simp only [List.getElem?_map, Option.map_eq_some_iff] at hx
    obtain ⟨j', hj', rfl⟩ := hx
    have hjl := (List.getElem?_eq_some_iff.1 hj').1
    rw [List.getElem?_range (by simpa using hjl)] at hj'
    obtain rfl := Option.some.inj hj'
    obtain ⟨y, hy⟩ := cell j (by simpa using hjl)
    rw [hy]
    have e : (⟨b, o, none⟩ : Addr).add j = ⟨b, o + j, none⟩ := by
     unfold Addr.add; split <;> simp [*]
    rw [e] at hy
    exact hy
  ·obtain ⟨ck, y, h1, h2⟩ := each k hk
   obtain ⟨_, h3, h4⟩ := World.cells?_some h1
   refine ⟨n, y, ?_⟩
   rw [<- h2]
   congr 1
   have hle : k * size + size <= len * size := by
    rw [<- Nat.succ_mul]; exact Nat.mul_le_mul_right _ hk
   apply List.ext_getElem?
   intro i
   rcases Nat.lt_or_ge i size with hi | hi
   ·rw [List.getElem?_take_of_lt hi, List.getElem?_drop, List.getElem?_map, List.getElem?_range (by omega)]
    have h5 := h4 i hi
    rw [hadd] at h5
    simp only [Option.map_some]
    rw [h5, List.getElem?_eq_getElem (by omega)]
    simp
   ·rw [List.getElem?_eq_none (by simp; omega), List.getElem?_eq_none (by omega)]
end
theorem u8_nat {n : Int} (h : (Lit.int .u8 n).wf = true) : ∃ m : Nat, n = (m : Int) /\ m < 256 := by
 have := bounds_u8 h
 exact ⟨n.toNat, by omega, by omega⟩
end
section
open Go.ChangeShapes Go.WideShapes Go.ChangeAt Go.RowKit
set_option maxRecDepth 20000 in
theorem bytes_open {H : Type} {enc : TypeId × Value -> H} {W : World} {r : Reach} {b0 base : Nat} {sp : Nat -> Bool} {held : Bool} {v : Value} {d : DataW H} {p : List MemPlace} (hv : Value.okWide Tryz.prog W r b0 22 v) (h : DataW.Trod enc Tryz.prog W base sp held 22 v d p) :
  ∃ l : List Nat, (∀ x ∈ l, x < 256) /\ Sl W (fun _ => True) 1 v l.length (u8s l) := by
 obtain ⟨a0, len0, cap0, rfl⟩ := okWide_slice Tryz.underlying22 hv
 obtain ⟨fuel, hf⟩ := h
 obtain ⟨v, n, xs, e, hs, he⟩ := sl_of_trod Tryz.underlying22 (size := 1) (by kernel_rfl) (by decide) hf
 have hl := hs.1
 have : ∃ zs : List Nat, (∀ x ∈ zs, x < 256) /\ xs = u8s zs := by
  have : ∀ v ∈ xs, ∃ z : Nat, z < 256 /\ v = .int .u8 (z : Nat) := by
   intro v hv
   obtain ⟨k, hk, hkv⟩ := List.mem_iff_getElem.1 hv
   obtain ⟨f', y, hy⟩ := he k (by omega)
   obtain ⟨z, hz, _, hw⟩ := DataW.trod_int Tryz.underlying5 hy
   obtain ⟨m, rfl, hm⟩ := u8_nat hw
   have h0 := congrArg (·[0]?) hz
   simp only [Nat.mul_one, List.getElem?_take_of_lt Nat.zero_lt_one, List.getElem?_drop, Nat.add_zero] at h0
   rw [List.getElem?_eq_getElem hk, hkv] at h0
   exact ⟨m, hm, by simpa using h0⟩
  clear hs he hl
  induction xs with
  | nil => exact ⟨[], fun x hx => by simp at hx, rfl⟩
  | cons a r ih =>
   obtain ⟨zs, hzs, rfl⟩ := ih fun v hv => this v (List.mem_cons_of_mem _ hv)
   obtain ⟨z, hz, rfl⟩ := this a List.mem_cons_self
   exact ⟨z :: zs, fun x hx => by rcases List.mem_cons.1 hx with rfl | hx; exact hz; exact hzs x hx, rfl⟩
 obtain ⟨zs, hzs, rfl⟩ := this
 have hz : zs.length = n := by simpa [u8s] using hl
 obtain rfl : v = .slice a0 len0 cap0 := by simpa [Value.cells] using e.symm
 exact ⟨zs, hzs, hz ▸ hs⟩
end
section
open Go.RowKit Go.ChangeShapes Go.WideShapes
theorem boxF_of_reads {w : World} {n : String} {g : Nat} {t e : TypeId} {m : Nat} {k : IntKind} {zs : List Int} (hg : Tryz.prog.globalNamed n = some g) (hty : (Tryz.prog.globals[g]?).map (·.type) = some t)
  (ht : Tryz.prog.underlying t = some (.array m e)) (he : Tryz.prog.underlying e = some (.int k)) (hce : Tryz.prog.cellsOf e = 1) (hct : Tryz.prog.cellsOf t = m) (h : Lib.VarReads Tryz.prog w n (Lib.tabData k zs)) :
  ∃ t, BoxF w g t (zs.map fun z => Value.int k z).toArray := by
 obtain ⟨g', t', cs, fuel, p, hg', hty', hvar, hd⟩ := h
 obtain rfl := Option.some.inj (hg.symm.trans hg')
 obtain rfl := Option.some.inj (hty.symm.trans hty')
 have hcs := Lib.cells_of_tab ht he hce hct hd
 simp only [World.var?, hg, Option.bind_some] at hvar
 split at hvar
 ·rename_i cs' t'' f heq
  obtain rfl := Option.some.inj hvar
  refine ⟨(t'', f), ?_⟩
  rw [<- hcs]
  exact heq
 ·cases hvar
end
section
open Go.RowKit Go.ChangeShapes Go.WideShapes
theorem dtab_of_reads {w : World} (h1 : Lib.VarReads Tryz.prog w "math/bits.deBruijn64tab" Rows.laid_math_bits_deBruijn64tab) : Bp w := by
 have e1 : (Rows.laid_math_bits_deBruijn64tab : DataW Unit) = Lib.tabData .u8 (dbL.map fun x : Nat => (x : Int)) := by kernel_rfl
 rw [e1] at h1
 obtain ⟨t, b1⟩ := boxF_of_reads (g := 0) (by kernel_rfl) (t := 175) (by kernel_rfl) Tryz.underlying175 Tryz.underlying5 (by kernel_rfl) (by kernel_rfl) h1
 have e : (List.map (fun z => Value.int .u8 z) (dbL.map fun x : Nat => (x : Int))) = u8s dbL := by simp [u8s]
 rw [e] at b1
 intro q hq
 rw [b1.cell, List.getElem?_toArray]
 exact u8s_at _ _ hq
end
section
open Go.ChangeShapes Go.WideShapes Go.ChangeAt Go.RowKit
theorem H5 (W : World) (h : laidMetH Tryz.prog Rows.saturateSearchesRow.laid W) : Bp W := by
 have h' : laidMetH Tryz.prog [("math/bits.deBruijn64tab", Rows.laid_math_bits_deBruijn64tab)] W := h
 rw [MakeChecks.laidMetH_plain _ _ _ (by kernel_rfl)] at h'
 exact dtab_of_reads (Lib.laidMet.reads h' (.head _))
noncomputable def tsrchStart (os : Os) : World := World.laidAll Tryz.prog os Rows.saturateSearchesRow.laid
theorem Ic (os : Os) (args : Array Value) : laidMetH Tryz.prog Rows.saturateSearchesRow.laid ((tsrchStart os).forCall (fun _ _ => 0) ⟨#[], args, []⟩).memory := by
 rw [MakeChecks.laidMetH_plain _ _ _ (by kernel_rfl)]
 exact laidMet_laidAll _ (by kernel_rfl) (by kernel_rfl)
theorem tsrch_own : ownKnob Tryz.prog.godebug = none := by kernel_rfl
theorem FG : laidOutB Tryz.prog = true := by kernel_rfl
set_option maxRecDepth 100000 in
theorem tsrch_lifted (os : Os) (started : os.Started) (H : Type) (enc : TypeId × Value -> H) :
  ReturnsInHanded {} Tryz.checked os 9 .any (fun w args => (Rows.saturateSearchesSpec.pre enc Tryz.prog Tryz.f9 [] false w args /\ laidMetH Tryz.prog Rows.saturateSearchesRow.laid w) /\ sizedMet enc Tryz.prog Tryz.f9 (OpenSpec.ofChange Rows.saturateSearchesSpec) false w args)
   (Rows.saturateSearchesSpec.post enc Tryz.prog Tryz.f9 false true false false) := by
 refine returnsInHanded_of_change_and (C := Tryz.checked) (X := fun w _ => laidMetH Tryz.prog Rows.saturateSearchesRow.laid w) (fun _ _ _ hh h => h.of_heap hh) tsrch_own started (by kernel_rfl) Tryz.func9
  (ChangeSpec.witness_shaped (enc := enc) (C := Tryz.checked) (os := os) (X := fun w _ => laidMetH Tryz.prog Rows.saturateSearchesRow.laid w) false (tsrchStart os) #[.slice none 0 0, .bool false] 8 (World.laidAll_os _ _ _) (World.shaped_of_ZipB (by kernel_rfl) (by kernel_rfl)) (by kernel_rfl) (by kernel_rfl) (by kernel_rfl) (Ic os _)) ?_
 intro W base args ds gs before hval0 hW _ _ hL _
 have hval : ∀ (j : Nat) t v, Tryz.f9.params[j]? = some t -> args[j]? = some v -> Value.okWide Tryz.prog W .any base t v := hval0
 have hW' := hW
 obtain ⟨p, q, hA0, hV, rfl, hfz, hnd⟩ := hW
 have hA : DataW.TrodAll enc Tryz.prog W 0 (fun _ => true) true Tryz.f9.params.toList args.toList ds p := hA0
 rw [Tryz.params9] at hA hval
 obtain ⟨v0, v1, d0, d1, p0, p1, rfl, rfl, rfl, h0, h1⟩ := trodAll_two hA
 obtain ⟨rfl, rfl⟩ := trodVars_none hV
 obtain ⟨l, hl, hs⟩ := bytes_open (hval 0 _ v0 rfl rfl) h0
 obtain ⟨b, rfl⟩ := okWide_bool Tryz.underlying4 (hval 1 _ v1 rfl rfl)
 have hT := H5 W hL
 have lt : ∀ z ∈ p0 ++ p1, z.block < W.heap.size := fun z hz => by simpa using hW'.lt z (by simpa using hz)
 refine (lsearches_any v0 l b W _ hl hs hT).mono fun E W' he => ?_
 obtain ⟨r, rfl, rfl, hb⟩ := he
 refine ⟨_, rfl, _, _, _, [], p0 ++ p1, [], hW', ?_, ?_, ?_, hb.frame _, fun h => by cases h⟩
 ·exact trodAll_mk1 (shut_bool Tryz.underlying4 true)
 ·rw [Tryz.params9]
  exact trodAll_mk2 (Below.trod FG (by kernel_rfl) (of_decide_eq_true (by kernel_rfl)) h0 hb fun z hz => lt z (List.mem_append_left _ hz)) (Below.trod FG (by kernel_rfl) (of_decide_eq_true (by kernel_rfl)) h1 hb fun z hz => lt z (List.mem_append_right _ hz))
 ·rfl
theorem tsrch_holds : Rows.SaturateSearchesSaid :=
 OpenClaim.holds_of_wide 9 Tryz.f9 rfl rfl rfl rfl rfl rfl rfl ⟨rfl, rfl, rfl, rfl, rfl⟩ rfl rfl rfl rfl rfl (by kernel_rfl) Tryz.func9 (by kernel_rfl)
  (of_decide_eq_true (by kernel_rfl)) (by unfold Func.isWrapper; rw [if_neg (by decide +kernel)]; exact ⟨rfl, rfl⟩)
  (fun os started H enc _ => tsrch_lifted os started H enc)
end
section
open Go
theorem tsrch_card : Rows.SaturateSearchesCardSaid :=
 Claim7.holds_tied_plain_at .later [] [.data] true (true, "c3149becd198d29015449e0d705ae27b5a03ac5ddd59b56b3bc98e4a229c6d98") false
  tsrch_holds (fun _ h => by cases h) (by kernel_rfl) (fun _ h => by cases h) saturateSearches_row_tie rfl ⟨rfl, rfl⟩ (by kernel_rfl) rfl
  (fun f fn hf hfn => by
   obtain rfl : f = 9 := Option.some.inj ((show Tryz.prog.funcNamed "arbac/arbaclaw35.SaturateSearches" = some 9 by kernel_rfl).symm.trans hf) |>.symm
   obtain rfl : fn = Tryz.f9 := (Option.some.inj (Tryz.func9.symm.trans hfn)).symm
   exact ⟨by kernel_rfl, fun j t ht => by
    rw [Tryz.params9] at ht
    have h3 : t = 22 \/ t = 4 := by
     rcases j with _ | _ | j
     ·simp at ht; simp [<- ht]
     ·simp at ht; simp [<- ht]
     ·simp at ht
    rcases h3 with rfl | rfl
    ·exact (show Tryz.prog.wantsStandIn 22 = false by kernel_rfl)
    ·exact (show Tryz.prog.wantsStandIn 4 = false by kernel_rfl)⟩)
  (by kernel_rfl)
end
end Go.Proofs.YtjjhcdkamohgnaaGreatDoor
namespace Go.Proofs.YtjjhcdkamohgnaaGreatDoor
#print axioms tsrch_card
end Go.Proofs.YtjjhcdkamohgnaaGreatDoor
