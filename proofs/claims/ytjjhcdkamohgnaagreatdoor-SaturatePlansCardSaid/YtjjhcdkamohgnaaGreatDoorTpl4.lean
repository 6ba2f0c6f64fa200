/-
  What the statement needs, part 4.
-/
import Derived.Deep.LoopGhost
import Derived.Lib.MinMax
import Derived.Laws.BitsAllLaws
import Derived.Test.YtjjhcdkamohgnaaGreatDoorTpl3
namespace Go.Proofs.YtjjhcdkamohgnaaGreatDoor
section
open Go.RowKit
attribute [local go_sem ↓] Go.wp_at_zero Go.wp_at_succ
set_option maxRecDepth 20000
set_option exponentiation.threshold 5000
noncomputable def relS (p : Af) : Nat := if checkE p = 0 then (match p.links with | none => 0 | some L => relM L p) else 0
set_option maxHeartbeats 4000000 in
theorem relevant_any {w0 : World} {D : Nat -> Prop} {v : Value} {p : Af} (hp : B7 w0 D v p) (hP : p.Ok) (hT : Bx w0) : Calls Tryz.prog 63 #[v] w0 (AM (fun x w' => A6 w' (w0.heap.size <= ·) x (relS p)) w0) := by
 obtain ⟨R, lk, st, rl, nl, gl⟩ := p
 have HP := Lib.hid hP
 have hP1 := hP.rules
 have hP2 := hP.never
 have hP3 := hP.goal
 dsimp only at hP1 hP2 hP3
 clear hP
 obtain ⟨lp, s, rv, nv, gv, rfl, h1, h2, h3, h4, h5⟩ := hp
 dsimp only at h1 h2 h3 h4 h5 ⊢
 obtain ⟨Cs, ns, cs, rfl⟩ := h2.shape
 obtain ⟨Ar, cr, rfl, _, _⟩ := h3.shape
 obtain ⟨An, cn, rfl, _, _⟩ := h4.shape
 obtain ⟨Ag, cg, rfl, _, _⟩ := h5.shape
 obtain ⟨K, kp, kh, kr, kn, kg, kt, hS⟩ : ∃ K : (Nat -> Prop) -> World -> Prop, (∀ D w, K D w -> B7 w D (.agg #[.int .i64 R, lp, .slice Cs ns cs, .slice Ar rl.length cr, .slice An nl.length cn, .slice Ag gl.length cg]) ⟨R, lk, st, rl, nl, gl⟩) /\ (∀ D w, K D w -> Fp w D lp lk) /\ (∀ D w, K D w -> Bi w D (.slice Ar rl.length cr) rl) /\ (∀ D w, K D w -> AB w D (.slice An nl.length cn) nl) /\ (∀ D w, K D w -> AB w D (.slice Ag gl.length cg) gl) /\ (∀ D w, K D w -> Bx w) /\ St w0 w0 [] K :=
  ⟨fun D w => ((Fp w D lp lk /\ A6 w D (.agg #[.slice Cs ns cs]) st) /\ Bi w D (.slice Ar rl.length cr) rl /\ AB w D (.slice An nl.length cn) nl /\ AB w D (.slice Ag gl.length cg) gl) /\ (Bx w /\ D 0), fun _ _ h => ⟨_, _, _, _, _, rfl, h.1.1.1, h.1.1.2, h.1.2.1, h.1.2.2.1, h.1.2.2.2⟩, fun _ _ h => h.1.1.1, fun _ _ h => h.1.2.1, fun _ _ h => h.1.2.2.1, fun _ _ h => h.1.2.2.2, fun _ _ h => h.2.1,
   St.start (D := fun _ => True) (((BR.and A5).and (B9.and (AV.and AV))).and C5) ⟨⟨⟨BR D _ w0 w0 h1 (Nat.le_refl _) (fun _ _ _ _ h => h) fun _ _ _ _ => trivial, h2.imp fun _ _ _ => trivial⟩, B9 D _ w0 w0 h3 (Nat.le_refl _) (fun _ _ _ _ h => h) fun _ _ _ _ => trivial, h4.imp fun _ _ _ => trivial, h5.imp fun _ _ _ => trivial⟩, hT, trivial⟩⟩
 clear h1 h2 h3 h4 h5 hT
 have KS := Lib.hid hS.stable
 obtain ⟨e, he⟩ : ∃ e, e = checkE ⟨R, lk, st, rl, nl, gl⟩ := ⟨_, rfl⟩
 have HE := Lib.hid he
 clear he
 by_cases h0 : e = 0
 ·subst h0
  cases lk with
  | none => have := HE.out; cases this
  | some L =>
   have HH := Lib.hid (HP.out.links L rfl).1
   have HRS : Hid (relS ⟨R, some L, st, rl, nl, gl⟩ = relM L ⟨R, some L, st, rl, nl, gl⟩) := Lib.hid (by unfold relS; rw [if_pos HE.out.symm])
   rw [HRS.out]
   obtain ⟨q, o, rfl, -⟩ := id (kh _ _ hS.ro)
   go_enter Tryz.func63, Tryz.ntmps63
   go_wp2_with (first
    | ((with_reducible refine qA 1 ?_); refine AA hS rfl _ _ rfl (.agg #[.int .i64 R, .pointer (some ⟨q, 0, none⟩), .slice Cs ns cs, .slice Ar rl.length cr, .slice An nl.length cn, .slice Ag gl.length cg]) _ rfl rfl ?_; clear hS; intro g1 w_ hS; (try simp only [Act.put, Act.eval, zz, Value.cells] at hS))
    | ((with_reducible refine qA 2 ?_); refine qa hS #[.slice none 0 0] ?_; clear hS; intro g2 w_ hS)
    | ((with_reducible refine qA 3 ?_); refine qa hS #[.slice none 0 0] ?_; clear hS; intro g3 w_ hS)
    | ((with_reducible refine qK ?_); refine qL hS Tryz.underlying31 ?_)
    | (go_at_call 31; refine (Cq (kp _ _ hS.ro) HP.out (kt _ _ hS.ro)).mono ?_; rw [<- HE.out]; rintro r_ w_ ⟨_, rfl, rfl, hb_⟩; replace hS := hS.ext hb_; clear hb_)
    | ((with_reducible refine qK ?_); refine qC hS ?_))
   go_loopw [19] (fun i wr => ∃ (j : Nat) (u : Value) (N : Nat), i = .int .i64 (j : Nat) /\ j <= gl.length /\ Hid (Jy L ⟨R, some L, st, rl, nl, gl⟩ N /\ ∀ c ∈ gl.take j, CK (depC L c) N) /\ St w0 wr [.box g3 27 #[u], .box g2 27 #[.slice none 0 0], .box g1 31 #[.int .i64 R, .pointer (some ⟨q, 0, none⟩), .slice Cs ns cs, .slice Ar rl.length cr, .slice An nl.length cn, .slice Ag gl.length cg]] (fun D w => K D w /\ A6 w (fun z => D z /\ w0.heap.size <= z) (.agg #[u]) N)) (fun i _ => gl.length - (intOf i).toNat)
   case atStart => exact ⟨0, _, 0, rfl, by omega, Lib.hid ⟨Jy.zero _ _, by simp⟩, hS.mono (KS.out.and (AP A5 fun z => w0.heap.size <= z)) fun D w h => ⟨h, A6.empty⟩⟩
   case round =>
    clear hS
    obtain ⟨j, u, N0, rfl, hj, HI, hS⟩ := hrel
    by_cases hlj : j < gl.length
    ·obtain ⟨b, o2, y, n, rfl, _, hb, c0, c1, hy, hn⟩ := (kg _ _ hS.ro.1).at_ hlj
     obtain ⟨Ay, my, cy, rfl⟩ := hy.shape
     obtain ⟨Am, mn, cm, rfl⟩ := hn.shape
     have HI2 : Hid (Jy L ⟨R, some L, st, rl, nl, gl⟩ (N0 ||| depC L (gl.getD j (0, 0))) /\ ∀ c ∈ gl.take (j + 1), CK (depC L c) (N0 ||| depC L (gl.getD j (0, 0)))) := Lib.hid ⟨HI.out.1.goal (List.mem_of_getElem? (Br (0, 0) hlj)), fun c hc => (Ef (Br (0, 0) hlj) hc).elim (fun h => (HI.out.2 c h).trans (CK.left _ _)) fun e => by rw [e]; exact CK.right _ _⟩
     obtain ⟨KC, kc, hS2⟩ : ∃ KC : (Nat -> Prop) -> World -> Prop, Hid (∀ D w, KC D w -> K D w /\ A6 w (fun z => D z /\ w0.heap.size <= z) (.agg #[u]) N0 /\ AO w D (.agg #[.slice Ay my cy, .slice Am mn cm]) (gl.getD j (0, 0))) /\ St w0 wr [.box g3 27 #[u], .box g2 27 #[.slice none 0 0], .box g1 31 #[.int .i64 R, .pointer (some ⟨q, 0, none⟩), .slice Cs ns cs, .slice Ar rl.length cr, .slice An nl.length cn, .slice (some ⟨b, o2, none⟩) gl.length cg]] KC := ⟨_, Lib.hid fun D w h => ⟨h.1.1, h.1.2, h.2⟩, hS.add (D := CW _) BF ⟨_, _, rfl, hy, hn⟩ fun _ h _ => h⟩
     clear hS hy hn
     have hS := hS2
     clear hS2
     generalize gl.getD j (0, 0) = z at *
     go_wp2_with (first
      | ((with_reducible refine qB ?_); refine qc ?_ ?_ <;> intro h_ <;> go_prune)
      | ((with_reducible refine qA 22 ?_); refine BigFrame.wpList_want rfl fun _ hK => B5 (cs := [.slice Ay my cy, .slice Am mn cm]) rfl rfl (rng2 c0 c1) Tryz.underlying54 rfl (by kernel_rfl) (hK _ _ ?_))
      | ((with_reducible refine qA 5 ?_); refine qa hS #[.slice none 0 0, .slice none 0 0] ?_; clear hS; intro g5 w_ hS)
      | ((with_reducible refine qM ?_); (first | refine qS hS ?_ | refine qT hS ?_); clear hS; intro w_ hS; (try simp only [Act.put, Act.eval, zz, Value.cells] at hS)))
     refine Ge 5 [] [.i (.agg #[u]), .i (.agg #[.int .i64 R, .pointer (some ⟨q, 0, none⟩), .slice Cs ns cs, .slice Ar rl.length cr, .slice An nl.length cn, .slice (some ⟨b, o2, none⟩) gl.length cg]), .i (.agg #[.slice Ay my cy, .slice Am mn cm]), .s (fun v w => A6 w (fun _ => True) v (depC L z)) fun v w w' h hb => h.ext hb, .s (fun v w => ∃ u, v = .agg #[u] /\ u.oneCell' = true /\ A6 w (fun z => w_.heap.size <= z) (.agg #[u]) (N0 ||| depC L z)) fun v w w' h hb => ⟨_, h.choose_spec.1, h.choose_spec.2.1, h.choose_spec.2.2.ext hb⟩, .t] ⟨uR (h := fun w hW hN => (hS.ext hW).box 1 rfl), uR (h := fun w hW hN => (hS.ext hW).box 3 rfl), uR (h := fun w hW hN => (hS.ext hW).box 0 rfl), ?_, ?_, trivial⟩ ?_
     ·refine uT fun b__ w hW hE K hK => ?_
      have e24 := hE 24
      have e25 := hE 25
      refine AC rfl (by kernel_rfl) (by simp only [List.map_cons, List.map_nil, e24, e25]) (E1 (kp _ _ (kc.out _ _ (hS.ext hW).ro).1) rfl HH.out (kt _ _ (kc.out _ _ (hS.ext hW).ro).1) (kc.out _ _ (hS.ext hW).ro).2.2) fun v w' h hb => ?_
      exact hK v w' (h.imp fun _ _ _ => trivial) hb
     ·refine uT fun b__ w hW hE K hK => ?_
      have e23 := hE 23
      have e26 := hE 26
      refine AC rfl (by kernel_rfl) (by simp only [List.map_cons, List.map_nil, e23]) (Fb (.agg #[u]) _ N0 _ w _ _ (kc.out _ _ (hS.ext hW).ro).2.1 e26) fun v w' h hb => ?_
      obtain ⟨u, rfl, h1⟩ := BC h
      exact hK _ w' ⟨u, rfl, h1, h.imp fun z hz _ => Nat.le_trans hW.size hz⟩ hb
     ·intro vs wz hW hT
      obtain ⟨e23, e24, e25, e26, e27, -⟩ := hT
      have bx : (fun _ : Nat => True) 0 := trivial
      simp only [AE, Act.put, zz, ze]
      (intro o_ ho_; simp only [List.getElem?_toArray, List.getElem?_cons_succ, List.getElem?_cons_zero, Option.some.injEq] at ho_; subst ho_)
      obtain ⟨un, e27, hu1, hun⟩ := e27
      have hsW := hS.size
      have hS1 := hS.ret hW (AP (A5 (v := .agg #[un]) (N := N0 ||| depC L z)) fun z => w0.heap.size <= z) (hun.imp fun z hz _ => ⟨hz, Nat.le_trans hsW hz⟩)
      refine BT rfl rfl e27 (hS1.box 1 rfl) (by kernel_rfl) rfl (by simpa using hu1) fun w4 h1 hU => ?_
      have hS2 := (hS1.upd 1 rfl (.box g3 27 #[un]) (Bg hU) ⟨(hS1.holds (.box g3 27 #[u]) (by simp)).1, h1⟩ fun _ e => .inl e)
      simp only [Ca]
      simp only [Act.put, List.setIfInBounds_toArray, List.set_cons_zero, List.set_cons_succ]
      clear hS hS1 h1 hU hW hun e27
      have hS := hS2
      clear hS2
      go_wp2_with fail
      exact ⟨⟨j + 1, un, N0 ||| depC L z, by go_num, hlj, HI2, (hS.sub (List.sublist_cons_self _ _)).mono (KS.out.and (AP A5 fun z => w0.heap.size <= z)) fun D w h => ⟨(kc.out _ _ h.1).1, h.2⟩⟩, by simp [intOf]; omega⟩
    ·obtain rfl : gl.length = j := by omega
     have HI2 : Hid (Jy L ⟨R, some L, st, rl, nl, gl⟩ N0 /\ ∀ c ∈ gl, CK (depC L c) N0) := Lib.hid ⟨HI.out.1, fun c hc => HI.out.2 c (by rw [List.take_length]; exact hc)⟩
     clear HI
     go_wp2_with (first | ((with_reducible refine qB ?_); refine qc ?_ ?_ <;> intro h_ <;> go_prune))
     go_loopg [] (2 ^ 64 - N0) (fun k wr => ∃ (u : Value) (B : Nat), 2 ^ 64 - B <= k /\ Hid (Jy L ⟨R, some L, st, rl, nl, gl⟩ B /\ ∀ c ∈ gl, CK (depC L c) B) /\ St w0 wr [.box g3 27 #[u], .box g2 27 #[.slice none 0 0], .box g1 31 #[.int .i64 R, .pointer (some ⟨q, 0, none⟩), .slice Cs ns cs, .slice Ar rl.length cr, .slice An nl.length cn, .slice Ag gl.length cg]] (fun D w => K D w /\ A6 w (fun z => D z /\ w0.heap.size <= z) (.agg #[u]) B))
     case atStart => exact ⟨u, N0, Nat.le_refl _, HI2, hS⟩
     case round =>
      clear hS HI2
      obtain ⟨uB8, B, hgk, HI, hS⟩ := hrel
      obtain ⟨Ab, cb, lb, he, -⟩ := hS.ro.2.parts
      obtain rfl : uB8 = .slice Ab lb.length cb := by injection he with he; simpa using he
      clear he
      obtain ⟨nb, hnb⟩ : ∃ nb, nb = lb.length := ⟨_, rfl⟩
      rw [<- hnb] at hS
      clear hnb
      have HGK := Lib.hid hgk
      clear hgk
      go_wp2_with (first
       | ((with_reducible refine qk 27 ?_); first | (refine A7 hS 0 rfl _ _ rfl _ _ rfl _ _ rfl _ (by first | rfl | assumption) Tryz.underlying27 rfl (by kernel_rfl) ?_) | (refine A7 hS 1 rfl _ _ rfl _ _ rfl _ _ rfl _ (by first | rfl | assumption) Tryz.underlying27 rfl (by kernel_rfl) ?_) | (refine A7 hS 2 rfl _ _ rfl _ _ rfl _ _ rfl _ (by first | rfl | assumption) Tryz.underlying27 rfl (by kernel_rfl) ?_) | (refine A7 hS 3 rfl _ _ rfl _ _ rfl _ _ rfl _ (by first | rfl | assumption) Tryz.underlying27 rfl (by kernel_rfl) ?_) | (refine A7 hS 4 rfl _ _ rfl _ _ rfl _ _ rfl _ (by first | rfl | assumption) Tryz.underlying27 rfl (by kernel_rfl) ?_) | (refine A7 hS 5 rfl _ _ rfl _ _ rfl _ _ rfl _ (by first | rfl | assumption) Tryz.underlying27 rfl (by kernel_rfl) ?_))
       | ((with_reducible refine qA 6 ?_); refine qa hS #[.slice none 0 0] ?_; clear hS; intro g6 w_ hS)
       | ((with_reducible refine qM ?_); (first | refine qS hS ?_ | refine qT hS ?_); clear hS; intro w_ hS; (try simp only [Act.put, Act.eval, zz, Value.cells] at hS))
       | ((with_reducible refine qK ?_); refine qC hS ?_))
      go_loopw [33] (fun i wr => ∃ (j : Nat) (u : Value) (N : Nat), i = .int .i64 (j : Nat) /\ j <= rl.length /\ Hid (Dx L ⟨R, some L, st, rl, nl, gl⟩ B N j 0) /\ St w0 wr [.box g6 27 #[.slice Ab nb cb], .box g3 27 #[u], .box g2 27 #[.slice none 0 0], .box g1 31 #[.int .i64 R, .pointer (some ⟨q, 0, none⟩), .slice Cs ns cs, .slice Ar rl.length cr, .slice An nl.length cn, .slice Ag gl.length cg]] (fun D w => (K D w /\ A6 w D (.agg #[.slice Ab nb cb]) B) /\ A6 w (fun z => D z /\ w0.heap.size <= z) (.agg #[u]) N)) (fun i _ => rl.length - (intOf i).toNat)
      case atStart => exact ⟨0, _, B, rfl, by omega, Lib.hid (Dx.start HI.out.1 HI.out.2), hS.mono ((KS.out.and A5).and (AP A5 fun z => w0.heap.size <= z)) fun D w h => ⟨⟨h.1, h.2.imp fun z hz _ => hz.1⟩, h.2⟩⟩
      case round =>
       clear hS HI
       obtain ⟨j, u, N0, rfl, hj, HI, hS⟩ := hrel
       by_cases hlj : j < rl.length
       ·obtain ⟨b, o2, y, n, rfl, _, hb, c0, c1, c2, c3, c4, hy, hn⟩ := (kr _ _ hS.ro.1.1).at_ hlj
        obtain ⟨Ay, my, cy, rfl⟩ := hy.shape
        obtain ⟨Am, mn, cm, rfl⟩ := hn.shape
        have HGj := Lib.hid (Br AL hlj)
        obtain ⟨KC, kc, hS2⟩ : ∃ KC : (Nat -> Prop) -> World -> Prop, Hid (∀ D w, KC D w -> (K D w /\ A6 w D (.agg #[.slice Ab nb cb]) B) /\ A6 w (fun z => D z /\ w0.heap.size <= z) (.agg #[u]) N0 /\ A6 w D (.agg #[.slice Ay my cy]) (rl.getD j AL).yes /\ A6 w D (.agg #[.slice Am mn cm]) (rl.getD j AL).no) /\ St w0 wr [.box g6 27 #[.slice Ab nb cb], .box g3 27 #[u], .box g2 27 #[.slice none 0 0], .box g1 31 #[.int .i64 R, .pointer (some ⟨q, 0, none⟩), .slice Cs ns cs, .slice (some ⟨b, o2, none⟩) rl.length cr, .slice An nl.length cn, .slice Ag gl.length cg]] KC := ⟨_, Lib.hid fun D w h => ⟨h.1.1, h.1.2, h.2.1, h.2.2⟩, hS.add (D := CW _) (A5.and A5) ⟨hy, hn⟩ fun _ h _ => h⟩
        clear hS hy hn
        have hS := hS2
        clear hS2
        generalize rl.getD j AL = z at *
        obtain ⟨rv, ry, rn, rt, ro⟩ := z
        dsimp only at kc c0 c1 c2 c3 c4
        obtain ⟨b1, hb1⟩ : ∃ b, b = Bn N0 rt := ⟨_, rfl⟩
        have HB1 := Lib.hid hb1
        cases rv
        ·cases b1
         ·have HI2 := Lib.hid (HI.out.ruleN HGj.out (.inr hb1.symm))
          clear hb1 HI
          go_wp2_with (first
           | ((with_reducible refine qB ?_); refine qc ?_ ?_ <;> intro h_ <;> go_prune)
           | ((with_reducible refine qA 36 ?_); refine BigFrame.wpList_want rfl fun _ hK => B5 (cs := [.bool _, .slice Ay my cy, .slice Am mn cm, .int .i64 rt, .int .i64 ro]) rfl rfl (J0 c0 c1 c2 c3 c4) Tryz.underlying58 rfl (by kernel_rfl) (hK _ _ ?_))
           | ((with_reducible refine qA 8 ?_); refine qa hS #[.bool false, .slice none 0 0, .slice none 0 0, .int .i64 0, .int .i64 0] ?_; clear hS; intro g8 w_ hS)
           | ((with_reducible refine qM ?_); (first | refine qS hS ?_ | refine qT hS ?_); clear hS; intro w_ hS; (try simp only [Act.put, Act.eval, zz, Value.cells] at hS))
           | ((with_reducible refine qk 27 ?_); first | (refine A7 hS 0 rfl _ _ rfl _ _ rfl _ _ rfl _ (by first | rfl | assumption) Tryz.underlying27 rfl (by kernel_rfl) ?_) | (refine A7 hS 1 rfl _ _ rfl _ _ rfl _ _ rfl _ (by first | rfl | assumption) Tryz.underlying27 rfl (by kernel_rfl) ?_) | (refine A7 hS 2 rfl _ _ rfl _ _ rfl _ _ rfl _ (by first | rfl | assumption) Tryz.underlying27 rfl (by kernel_rfl) ?_) | (refine A7 hS 3 rfl _ _ rfl _ _ rfl _ _ rfl _ (by first | rfl | assumption) Tryz.underlying27 rfl (by kernel_rfl) ?_) | (refine A7 hS 4 rfl _ _ rfl _ _ rfl _ _ rfl _ (by first | rfl | assumption) Tryz.underlying27 rfl (by kernel_rfl) ?_) | (refine A7 hS 5 rfl _ _ rfl _ _ rfl _ _ rfl _ (by first | rfl | assumption) Tryz.underlying27 rfl (by kernel_rfl) ?_))
           | ((with_reducible refine qK ?_); refine qC hS ?_)
           | (go_at_call 47; refine (Cb _ N0 rt _ _ (kc.out _ _ hS.ro).2.1).mono ?_; rw [<- HB1.out]; rintro r_ w_ ⟨_, rfl, rfl, hb_⟩; replace hS := hS.ext hb_; clear hb_))
          exact ⟨⟨j + 1, u, N0, by go_num, hlj, HI2, (hS.sub (List.sublist_cons_self _ _)).mono ((KS.out.and A5).and (AP A5 fun z => w0.heap.size <= z)) fun D w h => ⟨(kc.out _ _ h).1, (kc.out _ _ h).2.1⟩⟩, by simp [intOf]; omega⟩
         ·have HI2 := Lib.hid (HI.out.ruleY HGj.out rfl hb1.symm)
          have HZ : Hid (depR L ⟨false, ry, rn, rt, ro⟩ = depM L (ry ||| rn)) := Lib.hid rfl
          generalize depR L ⟨false, ry, rn, rt, ro⟩ = dz at *
          clear hb1 HI
          go_wp2_with (first
           | ((with_reducible refine qB ?_); refine qc ?_ ?_ <;> intro h_ <;> go_prune)
           | ((with_reducible refine qA 36 ?_); refine BigFrame.wpList_want rfl fun _ hK => B5 (cs := [.bool _, .slice Ay my cy, .slice Am mn cm, .int .i64 rt, .int .i64 ro]) rfl rfl (J0 c0 c1 c2 c3 c4) Tryz.underlying58 rfl (by kernel_rfl) (hK _ _ ?_))
           | ((with_reducible refine qA 8 ?_); refine qa hS #[.bool false, .slice none 0 0, .slice none 0 0, .int .i64 0, .int .i64 0] ?_; clear hS; intro g8 w_ hS)
           | ((with_reducible refine qM ?_); (first | refine qS hS ?_ | refine qT hS ?_); clear hS; intro w_ hS; (try simp only [Act.put, Act.eval, zz, Value.cells] at hS))
           | ((with_reducible refine qk 27 ?_); first | (refine A7 hS 0 rfl _ _ rfl _ _ rfl _ _ rfl _ (by first | rfl | assumption) Tryz.underlying27 rfl (by kernel_rfl) ?_) | (refine A7 hS 1 rfl _ _ rfl _ _ rfl _ _ rfl _ (by first | rfl | assumption) Tryz.underlying27 rfl (by kernel_rfl) ?_) | (refine A7 hS 2 rfl _ _ rfl _ _ rfl _ _ rfl _ (by first | rfl | assumption) Tryz.underlying27 rfl (by kernel_rfl) ?_) | (refine A7 hS 3 rfl _ _ rfl _ _ rfl _ _ rfl _ (by first | rfl | assumption) Tryz.underlying27 rfl (by kernel_rfl) ?_) | (refine A7 hS 4 rfl _ _ rfl _ _ rfl _ _ rfl _ (by first | rfl | assumption) Tryz.underlying27 rfl (by kernel_rfl) ?_) | (refine A7 hS 5 rfl _ _ rfl _ _ rfl _ _ rfl _ (by first | rfl | assumption) Tryz.underlying27 rfl (by kernel_rfl) ?_))
           | ((with_reducible refine qK ?_); refine qC hS ?_)
           | (go_at_call 47; refine (Cb _ N0 rt _ _ (kc.out _ _ hS.ro).2.1).mono ?_; rw [<- HB1.out]; rintro r_ w_ ⟨_, rfl, rfl, hb_⟩; replace hS := hS.ext hb_; clear hb_))
          refine Ge 6 [] [.i (.agg #[u]), .i (.agg #[.int .i64 R, .pointer (some ⟨q, 0, none⟩), .slice Cs ns cs, .slice (some ⟨b, o2, none⟩) rl.length cr, .slice An nl.length cn, .slice Ag gl.length cg]), .q g8 1, .i (.agg #[.slice Ay my cy, .slice Am mn cm]), .s (fun v w => A6 w (fun _ => True) v (dz)) fun v w w' h hb => h.ext hb, .s (fun v w => ∃ u, v = .agg #[u] /\ u.oneCell' = true /\ A6 w (fun z => w_.heap.size <= z) (.agg #[u]) (N0 ||| dz)) fun v w w' h hb => ⟨_, h.choose_spec.1, h.choose_spec.2.1, h.choose_spec.2.2.ext hb⟩, .t] ⟨uR (h := fun w hW hN => (hS.ext hW).box 2 rfl), uR (h := fun w hW hN => (hS.ext hW).box 4 rfl), uF, uD (h := fun w hW hN => rng2 (((hS.ext hW).box 0 rfl).cell 1) (((hS.ext hW).box 0 rfl).cell 2)), ?_, ?_, trivial⟩ ?_
          ·refine uT fun b__ w hW hE K hK => ?_
           have e47 := hE 47
           have e49 := hE 49
           refine AC rfl (by kernel_rfl) (by simp only [List.map_cons, List.map_nil, e47, e49]) (E1 (kp _ _ (kc.out _ _ (hS.ext hW).ro).1.1) rfl HH.out (kt _ _ (kc.out _ _ (hS.ext hW).ro).1.1) (show AO _ _ (.agg #[.slice Ay my cy, .slice Am mn cm]) (ry, rn) from ⟨_, _, rfl, (kc.out _ _ (hS.ext hW).ro).2.2⟩)) fun v w' h hb => ?_
           exact hK v w' (by rw [HZ.out]; exact h.imp fun _ _ _ => trivial) hb
          ·refine uT fun b__ w hW hE K hK => ?_
           have e46 := hE 46
           have e50 := hE 50
           refine AC rfl (by kernel_rfl) (by simp only [List.map_cons, List.map_nil, e46]) (Fb (.agg #[u]) _ N0 _ w _ _ (kc.out _ _ (hS.ext hW).ro).2.1 e50) fun v w' h hb => ?_
           obtain ⟨u, rfl, h1⟩ := BC h
           exact hK _ w' ⟨u, rfl, h1, h.imp fun z hz _ => Nat.le_trans hW.size hz⟩ hb
          ·intro vs wz hW hT
           obtain ⟨e46, e47, e48, e49, e50, e51, -⟩ := hT
           have bx : (fun _ : Nat => True) 0 := trivial
           simp only [AE, Act.put, zz, ze]
           (intro o_ ho_; simp only [List.getElem?_toArray, List.getElem?_cons_succ, List.getElem?_cons_zero, Option.some.injEq] at ho_; subst ho_)
           obtain ⟨un, e51, hu1, hun⟩ := e51
           have hsW := hS.size
           have hS1 := hS.ret hW (AP (A5 (v := .agg #[un]) (N := N0 ||| dz)) fun z => w0.heap.size <= z) (hun.imp fun z hz _ => ⟨hz, Nat.le_trans hsW hz⟩)
           refine BT rfl rfl e51 (hS1.box 2 rfl) (by kernel_rfl) rfl (by simpa using hu1) fun w4 h1 hU => ?_
           have hS2 := (hS1.upd 2 rfl (.box g3 27 #[un]) (Bg hU) ⟨(hS1.holds (.box g3 27 #[u]) (by simp)).1, h1⟩ fun _ e => .inl e)
           simp only [Ca]
           simp only [Act.put, List.setIfInBounds_toArray, List.set_cons_zero, List.set_cons_succ]
           clear hS hS1 h1 hU hW hun e51
           have hS := hS2
           clear hS2
           go_wp2_with fail
           exact ⟨⟨j + 1, un, N0 ||| dz, by go_num, hlj, HI2, (hS.sub (List.sublist_cons_self _ _)).mono ((KS.out.and A5).and (AP A5 fun z => w0.heap.size <= z)) fun D w h => ⟨(kc.out _ _ h.1).1, h.2⟩⟩, by simp [intOf]; omega⟩
        ·have HI2 := Lib.hid (HI.out.ruleN HGj.out (.inl rfl))
         clear hb1 HI
         go_wp2_with (first
          | ((with_reducible refine qB ?_); refine qc ?_ ?_ <;> intro h_ <;> go_prune)
          | ((with_reducible refine qA 36 ?_); refine BigFrame.wpList_want rfl fun _ hK => B5 (cs := [.bool _, .slice Ay my cy, .slice Am mn cm, .int .i64 rt, .int .i64 ro]) rfl rfl (J0 c0 c1 c2 c3 c4) Tryz.underlying58 rfl (by kernel_rfl) (hK _ _ ?_))
          | ((with_reducible refine qA 8 ?_); refine qa hS #[.bool false, .slice none 0 0, .slice none 0 0, .int .i64 0, .int .i64 0] ?_; clear hS; intro g8 w_ hS)
          | ((with_reducible refine qM ?_); (first | refine qS hS ?_ | refine qT hS ?_); clear hS; intro w_ hS; (try simp only [Act.put, Act.eval, zz, Value.cells] at hS))
          | ((with_reducible refine qk 27 ?_); first | (refine A7 hS 0 rfl _ _ rfl _ _ rfl _ _ rfl _ (by first | rfl | assumption) Tryz.underlying27 rfl (by kernel_rfl) ?_) | (refine A7 hS 1 rfl _ _ rfl _ _ rfl _ _ rfl _ (by first | rfl | assumption) Tryz.underlying27 rfl (by kernel_rfl) ?_) | (refine A7 hS 2 rfl _ _ rfl _ _ rfl _ _ rfl _ (by first | rfl | assumption) Tryz.underlying27 rfl (by kernel_rfl) ?_) | (refine A7 hS 3 rfl _ _ rfl _ _ rfl _ _ rfl _ (by first | rfl | assumption) Tryz.underlying27 rfl (by kernel_rfl) ?_) | (refine A7 hS 4 rfl _ _ rfl _ _ rfl _ _ rfl _ (by first | rfl | assumption) Tryz.underlying27 rfl (by kernel_rfl) ?_) | (refine A7 hS 5 rfl _ _ rfl _ _ rfl _ _ rfl _ (by first | rfl | assumption) Tryz.underlying27 rfl (by kernel_rfl) ?_))
          | ((with_reducible refine qK ?_); refine qC hS ?_)
          | (go_at_call 47; refine (Cb _ N0 rt _ _ (kc.out _ _ hS.ro).2.1).mono ?_; rw [<- HB1.out]; rintro r_ w_ ⟨_, rfl, rfl, hb_⟩; replace hS := hS.ext hb_; clear hb_))
         exact ⟨⟨j + 1, u, N0, by go_num, hlj, HI2, (hS.sub (List.sublist_cons_self _ _)).mono ((KS.out.and A5).and (AP A5 fun z => w0.heap.size <= z)) fun D w h => ⟨(kc.out _ _ h).1, (kc.out _ _ h).2.1⟩⟩, by simp [intOf]; omega⟩
       ·obtain rfl : rl.length = j := by omega
        go_wp2_with (first | ((with_reducible refine qB ?_); refine qc ?_ ?_ <;> intro h_ <;> go_prune) | ((with_reducible refine qK ?_); refine qC hS ?_))
        go_loopw [56] (fun i wr => ∃ (j : Nat) (u : Value) (N : Nat), i = .int .i64 (j : Nat) /\ j <= nl.length /\ Hid (Dx L ⟨R, some L, st, rl, nl, gl⟩ B N rl.length j) /\ St w0 wr [.box g6 27 #[.slice Ab nb cb], .box g3 27 #[u], .box g2 27 #[.slice none 0 0], .box g1 31 #[.int .i64 R, .pointer (some ⟨q, 0, none⟩), .slice Cs ns cs, .slice Ar rl.length cr, .slice An nl.length cn, .slice Ag gl.length cg]] (fun D w => (K D w /\ A6 w D (.agg #[.slice Ab nb cb]) B) /\ A6 w (fun z => D z /\ w0.heap.size <= z) (.agg #[u]) N)) (fun i _ => nl.length - (intOf i).toNat)
        case atStart => exact ⟨0, u, N0, rfl, by omega, HI, hS⟩
        case round =>
         clear hS HI
         obtain ⟨j, u, N0, rfl, hj, HI, hS⟩ := hrel
         by_cases hlj : j < nl.length
         ·obtain ⟨b, o2, y, n, rfl, _, hb, c0, c1, hy, hn⟩ := (kn _ _ hS.ro.1.1).at_ hlj
          obtain ⟨Ay, my, cy, rfl⟩ := hy.shape
          obtain ⟨Am, mn, cm, rfl⟩ := hn.shape
          have HGj := Lib.hid (Br (0, 0) hlj)
          obtain ⟨KC, kc, hS2⟩ : ∃ KC : (Nat -> Prop) -> World -> Prop, Hid (∀ D w, KC D w -> (K D w /\ A6 w D (.agg #[.slice Ab nb cb]) B) /\ A6 w (fun z => D z /\ w0.heap.size <= z) (.agg #[u]) N0 /\ AO w D (.agg #[.slice Ay my cy, .slice Am mn cm]) (nl.getD j (0, 0))) /\ St w0 wr [.box g6 27 #[.slice Ab nb cb], .box g3 27 #[u], .box g2 27 #[.slice none 0 0], .box g1 31 #[.int .i64 R, .pointer (some ⟨q, 0, none⟩), .slice Cs ns cs, .slice Ar rl.length cr, .slice (some ⟨b, o2, none⟩) nl.length cn, .slice Ag gl.length cg]] KC := ⟨_, Lib.hid fun D w h => ⟨h.1.1, h.1.2, h.2⟩, hS.add (D := CW _) BF ⟨_, _, rfl, hy, hn⟩ fun _ h _ => h⟩
          clear hS hy hn
          have hS := hS2
          clear hS2
          generalize nl.getD j (0, 0) = z at *
          obtain ⟨b1, hb1⟩ : ∃ b, b = (depC L z &&& N0 != 0) := ⟨_, rfl⟩
          have HB1 := Lib.hid hb1
          have HDZ : Hid (depM L (z.1 ||| z.2) = depC L z) := Lib.hid rfl
          cases b1
          ·have HI2 := Lib.hid (HI.out.neverN HGj.out hb1.symm)
           clear hb1 HI
           go_wp2_with (first
            | ((with_reducible refine qB ?_); refine qc ?_ ?_ <;> intro h_ <;> go_prune)
            | ((with_reducible refine qA 59 ?_); refine BigFrame.wpList_want rfl fun _ hK => B5 (cs := [.slice Ay my cy, .slice Am mn cm]) rfl rfl (rng2 c0 c1) Tryz.underlying54 rfl (by kernel_rfl) (hK _ _ ?_))
            | ((with_reducible refine qA 10 ?_); refine qa hS #[.slice none 0 0, .slice none 0 0] ?_; clear hS; intro g10 w_ hS)
            | ((with_reducible refine qA 11 ?_); refine qa hS #[.slice none 0 0] ?_; clear hS; intro g11 w_ hS)
            | ((with_reducible refine qM ?_); (first | refine qS hS ?_ | refine qT hS ?_); clear hS; intro w_ hS; (try simp only [Act.put, Act.eval, zz, Value.cells] at hS))
            | ((with_reducible refine qA 60 ?_); refine BigFrame.wpList_want rfl fun _ hK => AQ rfl rfl (hS.box 4 rfl) Tryz.underlying31 rfl (by kernel_rfl) (hK _ _ ?_))
            | ((with_reducible refine qK ?_); refine qL hS Tryz.underlying54 ?_)
            | ((with_reducible refine qk 27 ?_); first | (refine A7 hS 0 rfl _ _ rfl _ _ rfl _ _ rfl _ (by first | rfl | assumption) Tryz.underlying27 rfl (by kernel_rfl) ?_) | (refine A7 hS 1 rfl _ _ rfl _ _ rfl _ _ rfl _ (by first | rfl | assumption) Tryz.underlying27 rfl (by kernel_rfl) ?_) | (refine A7 hS 2 rfl _ _ rfl _ _ rfl _ _ rfl _ (by first | rfl | assumption) Tryz.underlying27 rfl (by kernel_rfl) ?_) | (refine A7 hS 3 rfl _ _ rfl _ _ rfl _ _ rfl _ (by first | rfl | assumption) Tryz.underlying27 rfl (by kernel_rfl) ?_) | (refine A7 hS 4 rfl _ _ rfl _ _ rfl _ _ rfl _ (by first | rfl | assumption) Tryz.underlying27 rfl (by kernel_rfl) ?_) | (refine A7 hS 5 rfl _ _ rfl _ _ rfl _ _ rfl _ (by first | rfl | assumption) Tryz.underlying27 rfl (by kernel_rfl) ?_))
            | (go_at_call 79; have hsW := hS.size; refine (E1 (kp _ _ (kc.out _ _ hS.ro).1.1) rfl HH.out (kt _ _ (kc.out _ _ hS.ro).1.1) (kc.out _ _ hS.ro).2.2).mono ?_; rw [HDZ.out]; rintro r_ w_ ⟨_, rfl, h1, hb_⟩; replace hS := hS.ret hb_ A5 h1; obtain ⟨Ad, cd, ld, rfl, -⟩ := hS.ro.2.parts; clear h1 hb_ hsW)
            | (go_at_call 80; refine (FB _ _ (depC L z) N0 _ _ _ hS.ro.2 (kc.out _ _ hS.ro.1).2.1).mono ?_; rw [<- HB1.out]; rintro r_ w_ ⟨_, rfl, rfl, hb_⟩; replace hS := hS.ext hb_; clear hb_)
            )
           exact ⟨⟨j + 1, u, N0, by go_num, hlj, HI2, (hS.sub ((List.sublist_cons_self _ _).trans (List.sublist_cons_self _ _))).mono ((KS.out.and A5).and (AP A5 fun z => w0.heap.size <= z)) fun D w h => ⟨(kc.out _ _ h.1).1, (kc.out _ _ h.1).2.1⟩⟩, by simp [intOf]; omega⟩
          ·have HI2 := Lib.hid (HI.out.neverY HGj.out hb1.symm)
           clear hb1 HI
           go_wp2_with (first
            | ((with_reducible refine qB ?_); refine qc ?_ ?_ <;> intro h_ <;> go_prune)
            | ((with_reducible refine qA 59 ?_); refine BigFrame.wpList_want rfl fun _ hK => B5 (cs := [.slice Ay my cy, .slice Am mn cm]) rfl rfl (rng2 c0 c1) Tryz.underlying54 rfl (by kernel_rfl) (hK _ _ ?_))
            | ((with_reducible refine qA 10 ?_); refine qa hS #[.slice none 0 0, .slice none 0 0] ?_; clear hS; intro g10 w_ hS)
            | ((with_reducible refine qA 11 ?_); refine qa hS #[.slice none 0 0] ?_; clear hS; intro g11 w_ hS)
            | ((with_reducible refine qM ?_); (first | refine qS hS ?_ | refine qT hS ?_); clear hS; intro w_ hS; (try simp only [Act.put, Act.eval, zz, Value.cells] at hS))
            | ((with_reducible refine qA 60 ?_); refine BigFrame.wpList_want rfl fun _ hK => AQ rfl rfl (hS.box 4 rfl) Tryz.underlying31 rfl (by kernel_rfl) (hK _ _ ?_))
            | ((with_reducible refine qK ?_); refine qL hS Tryz.underlying54 ?_)
            | ((with_reducible refine qk 27 ?_); first | (refine A7 hS 0 rfl _ _ rfl _ _ rfl _ _ rfl _ (by first | rfl | assumption) Tryz.underlying27 rfl (by kernel_rfl) ?_) | (refine A7 hS 1 rfl _ _ rfl _ _ rfl _ _ rfl _ (by first | rfl | assumption) Tryz.underlying27 rfl (by kernel_rfl) ?_) | (refine A7 hS 2 rfl _ _ rfl _ _ rfl _ _ rfl _ (by first | rfl | assumption) Tryz.underlying27 rfl (by kernel_rfl) ?_) | (refine A7 hS 3 rfl _ _ rfl _ _ rfl _ _ rfl _ (by first | rfl | assumption) Tryz.underlying27 rfl (by kernel_rfl) ?_) | (refine A7 hS 4 rfl _ _ rfl _ _ rfl _ _ rfl _ (by first | rfl | assumption) Tryz.underlying27 rfl (by kernel_rfl) ?_) | (refine A7 hS 5 rfl _ _ rfl _ _ rfl _ _ rfl _ (by first | rfl | assumption) Tryz.underlying27 rfl (by kernel_rfl) ?_))
            | (go_at_call 79; have hsW := hS.size; refine (E1 (kp _ _ (kc.out _ _ hS.ro).1.1) rfl HH.out (kt _ _ (kc.out _ _ hS.ro).1.1) (kc.out _ _ hS.ro).2.2).mono ?_; rw [HDZ.out]; rintro r_ w_ ⟨_, rfl, h1, hb_⟩; replace hS := hS.ret hb_ A5 h1; obtain ⟨Ad, cd, ld, rfl, -⟩ := hS.ro.2.parts; clear h1 hb_ hsW)
            | (go_at_call 80; refine (FB _ _ (depC L z) N0 _ _ _ hS.ro.2 (kc.out _ _ hS.ro.1).2.1).mono ?_; rw [<- HB1.out]; rintro r_ w_ ⟨_, rfl, rfl, hb_⟩; replace hS := hS.ext hb_; clear hb_)
            | (go_at_call 32; have hsW := hS.size; refine (Fb _ _ N0 (depC L z) _ _ _ (kc.out _ _ hS.ro.1).2.1 hS.ro.2).mono ?_; rintro r_ w_ ⟨_, rfl, h1, hb_⟩; replace hS := hS.ret hb_ (AP A5 fun z => w0.heap.size <= z) (h1.imp fun z hz _ => ⟨hz, Nat.le_trans hsW hz⟩); obtain ⟨Ao, co, lo, rfl, -⟩ := hS.ro.2.parts; clear h1 hb_ hsW))
           exact ⟨⟨j + 1, _, N0 ||| depC L z, by go_num, hlj, HI2, (hS.sub ((List.sublist_cons_self _ _).trans (List.sublist_cons_self _ _))).mono ((KS.out.and A5).and (AP A5 fun z => w0.heap.size <= z)) fun D w h => ⟨(kc.out _ _ h.1.1).1, h.2⟩⟩, by simp [intOf]; omega⟩
         ·obtain rfl : nl.length = j := by omega
          obtain ⟨b1, hb1⟩ : ∃ b, b = (N0 == B) := ⟨_, rfl⟩
          have HB1 := Lib.hid hb1
          obtain ⟨Ao, co, lo, he, -⟩ := hS.ro.2.parts
          obtain rfl : u = .slice Ao lo.length co := by injection he with he; simpa using he
          clear he
          cases b1
          ·have hne : ¬ N0 = B := fun e => by rw [e, beq_self_eq_true] at hb1; cases hb1
           have HLT := Lib.hid (HI.out.lt hne)
           have HI2 : Hid (Jy L ⟨R, some L, st, rl, nl, gl⟩ N0 /\ ∀ c ∈ gl, CK (depC L c) N0) := Lib.hid ⟨HI.out.low, HI.out.goal⟩
           clear hb1 hne HI
           go_wp2_with (first
            | ((with_reducible refine qB ?_); refine qc ?_ ?_ <;> intro h_ <;> go_prune)
            | ((with_reducible refine qk 27 ?_); first | (refine A7 hS 0 rfl _ _ rfl _ _ rfl _ _ rfl _ (by first | rfl | assumption) Tryz.underlying27 rfl (by kernel_rfl) ?_) | (refine A7 hS 1 rfl _ _ rfl _ _ rfl _ _ rfl _ (by first | rfl | assumption) Tryz.underlying27 rfl (by kernel_rfl) ?_) | (refine A7 hS 2 rfl _ _ rfl _ _ rfl _ _ rfl _ (by first | rfl | assumption) Tryz.underlying27 rfl (by kernel_rfl) ?_) | (refine A7 hS 3 rfl _ _ rfl _ _ rfl _ _ rfl _ (by first | rfl | assumption) Tryz.underlying27 rfl (by kernel_rfl) ?_) | (refine A7 hS 4 rfl _ _ rfl _ _ rfl _ _ rfl _ (by first | rfl | assumption) Tryz.underlying27 rfl (by kernel_rfl) ?_) | (refine A7 hS 5 rfl _ _ rfl _ _ rfl _ _ rfl _ (by first | rfl | assumption) Tryz.underlying27 rfl (by kernel_rfl) ?_))
            | (go_at_call 19; refine (Er _ _ N0 B _ _ _ hS.ro.2 hS.ro.1.2).mono ?_; rw [<- HB1.out]; rintro r_ w_ ⟨_, rfl, rfl, hb_⟩; replace hS := hS.ext hb_; clear hb_))
           go_roundg (2 ^ 64 - N0)
           case measure => have := HLT.out; have := HGK.out; omega
           case rel => exact ⟨_, N0, Nat.le_refl _, HI2, (hS.sub (List.sublist_cons_self _ _)).mono (KS.out.and (AP A5 fun z => w0.heap.size <= z)) fun D w h => ⟨h.1.1, h.2⟩⟩
          ·obtain rfl : N0 = B := by simpa using hb1.symm
           have HFIN := Lib.hid HI.out.done
           clear hb1 HI
           go_wp2_with (first
            | ((with_reducible refine qB ?_); refine qc ?_ ?_ <;> intro h_ <;> go_prune)
            | ((with_reducible refine qk 27 ?_); first | (refine A7 hS 0 rfl _ _ rfl _ _ rfl _ _ rfl _ (by first | rfl | assumption) Tryz.underlying27 rfl (by kernel_rfl) ?_) | (refine A7 hS 1 rfl _ _ rfl _ _ rfl _ _ rfl _ (by first | rfl | assumption) Tryz.underlying27 rfl (by kernel_rfl) ?_) | (refine A7 hS 2 rfl _ _ rfl _ _ rfl _ _ rfl _ (by first | rfl | assumption) Tryz.underlying27 rfl (by kernel_rfl) ?_) | (refine A7 hS 3 rfl _ _ rfl _ _ rfl _ _ rfl _ (by first | rfl | assumption) Tryz.underlying27 rfl (by kernel_rfl) ?_) | (refine A7 hS 4 rfl _ _ rfl _ _ rfl _ _ rfl _ (by first | rfl | assumption) Tryz.underlying27 rfl (by kernel_rfl) ?_) | (refine A7 hS 5 rfl _ _ rfl _ _ rfl _ _ rfl _ (by first | rfl | assumption) Tryz.underlying27 rfl (by kernel_rfl) ?_))
            | ((with_reducible refine qM ?_); (first | refine qS hS ?_ | refine qT hS ?_); clear hS; intro w_ hS; (try simp only [Act.put, Act.eval, zz, Value.cells] at hS))
            | (go_at_call 19; refine (Er _ _ N0 N0 _ _ _ hS.ro.2 hS.ro.1.2).mono ?_; rw [<- HB1.out]; rintro r_ w_ ⟨_, rfl, rfl, hb_⟩; replace hS := hS.ext hb_; clear hb_))
           refine Bl Tryz.results63 rfl (hS.box 2 rfl) Tryz.underlying27 rfl (by kernel_rfl) rfl ?_
           exact AM.mk (by rw [<- HFIN.out]; exact hS.ro.2.imp fun z hz _ => hz.2) hS.below
 ·have HRS : Hid (relS ⟨R, lk, st, rl, nl, gl⟩ = 0) := Lib.hid (by unfold relS; rw [if_neg (fun h => h0 (HE.out.trans h))])
  rw [HRS.out]
  go_enter Tryz.func63, Tryz.ntmps63
  go_wp2_with (first
   | ((with_reducible refine qA 1 ?_); refine AA hS rfl _ _ rfl (.agg #[.int .i64 R, lp, .slice Cs ns cs, .slice Ar rl.length cr, .slice An nl.length cn, .slice Ag gl.length cg]) _ rfl rfl ?_; clear hS; intro g1 w_ hS; (try simp only [Act.put, Act.eval, zz, Value.cells] at hS))
   | ((with_reducible refine qA 2 ?_); refine qa hS #[.slice none 0 0] ?_; clear hS; intro g2 w_ hS)
   | ((with_reducible refine qA 3 ?_); refine qa hS #[.slice none 0 0] ?_; clear hS; intro g3 w_ hS)
   | ((with_reducible refine qB ?_); refine qc ?_ ?_ <;> intro h_ <;> go_prune)
   | ((with_reducible refine qK ?_); refine qL hS Tryz.underlying31 ?_)
   | ((with_reducible refine qk 27 ?_); first | (refine A7 hS 0 rfl _ _ rfl _ _ rfl _ _ rfl _ (by first | rfl | assumption) Tryz.underlying27 rfl (by kernel_rfl) ?_) | (refine A7 hS 1 rfl _ _ rfl _ _ rfl _ _ rfl _ (by first | rfl | assumption) Tryz.underlying27 rfl (by kernel_rfl) ?_) | (refine A7 hS 2 rfl _ _ rfl _ _ rfl _ _ rfl _ (by first | rfl | assumption) Tryz.underlying27 rfl (by kernel_rfl) ?_) | (refine A7 hS 3 rfl _ _ rfl _ _ rfl _ _ rfl _ (by first | rfl | assumption) Tryz.underlying27 rfl (by kernel_rfl) ?_) | (refine A7 hS 4 rfl _ _ rfl _ _ rfl _ _ rfl _ (by first | rfl | assumption) Tryz.underlying27 rfl (by kernel_rfl) ?_) | (refine A7 hS 5 rfl _ _ rfl _ _ rfl _ _ rfl _ (by first | rfl | assumption) Tryz.underlying27 rfl (by kernel_rfl) ?_))
   | ((with_reducible refine qM ?_); (first | refine qS hS ?_ | refine qT hS ?_); clear hS; intro w_ hS; (try simp only [Act.put, Act.eval, zz, Value.cells] at hS))
   | (go_at_call 31; refine (Cq (kp _ _ hS.ro) HP.out (kt _ _ hS.ro)).mono ?_; rw [<- HE.out]; rintro r_ w_ ⟨_, rfl, rfl, hb_⟩; replace hS := hS.ext hb_; clear hb_))
  refine Bl Tryz.results63 rfl (hS.box 1 rfl) Tryz.underlying27 rfl (by kernel_rfl) rfl ?_
  exact AM.mk A6.empty hS.below
end
section
open Go.RowKit
attribute [local go_sem ↓] Go.wp_at_zero Go.wp_at_succ
set_option maxRecDepth 20000
set_option exponentiation.threshold 5000
theorem ty_rules : Bz Tryz.prog 28 58 5 72 := ⟨Tryz.underlying28, by kernel_rfl⟩
theorem vs_len5 {vs : List Value} (h : vs.length = 5) : ∃ x0 x1 x2 x3 x4, vs = [x0, x1, x2, x3, x4] := by
 obtain ⟨x, vs', rfl, h'⟩ := Iu h
 obtain ⟨y, z, u, t, rfl⟩ := vs_len4 h'
 exact ⟨x, y, z, u, t, rfl⟩
end
section
open Go.RowKit
attribute [local go_sem ↓] Go.wp_at_zero Go.wp_at_succ
set_option maxRecDepth 20000
set_option exponentiation.threshold 5000
theorem rolesN_lt (r : Nat) : D9 r < 2 ^ (r + 1) := by
 have h1 : 2 ^ (r + 1) - 1 < 2 ^ (r + 1) := by have := Nat.two_pow_pos (r + 1); omega
 unfold D9 del
 split
 ·exact Nat.xor_lt_two_pow h1 (Nat.pow_lt_pow_right (by decide) (by simp))
 ·exact h1
theorem has_roles {r : Nat} {i : Int} (h : Bn (D9 r) i = true) : ∃ t : Nat, i = (t : Int) /\ t <= r := by
 unfold Bn at h
 simp only [Bool.and_eq_true, decide_eq_true_eq] at h
 refine ⟨i.toNat, by omega, ?_⟩
 rcases Nat.lt_or_ge i.toNat (r + 1) with h1 | h1
 ·omega
 ·have := Nat.testBit_lt_two_pow (Nat.lt_of_lt_of_le (rolesN_lt r) (Nat.pow_le_pow_right (by decide) h1))
  rw [this] at h; cases h.2
theorem checkE_known {p : Af} {L : List (Nat × Nat)} (h : checkE p = 0) (hl : p.links = some L) : (1 <= p.roles /\ p.roles <= 63) /\ DO p L (D9 p.roles.toNat) = true := by
 unfold checkE at h
 rw [hl] at h
 dsimp only at h
 split at h
 ·cases h
 ·rename_i h1
  split at h
  ·cases h
  ·split at h
   ·cases h
   ·rename_i h2
    exact ⟨by omega, by simpa using h2⟩
theorem target_nat {p : Af} {L : List (Nat × Nat)} (h : checkE p = 0) (hl : p.links = some L) {r : AW} (hr : r ∈ p.rules) : ∃ t : Nat, r.target = (t : Int) /\ t < 64 := by
 obtain ⟨h1, h2⟩ := checkE_known h hl
 unfold DO at h2
 simp only [Bool.and_eq_true] at h2
 obtain ⟨t, e, ht⟩ := has_roles (List.all_eq_true.1 h2.2.2.1 r hr)
 exact ⟨t, e, by omega⟩
theorem cnt_lt {α : Type} {p q : α -> Bool} (h : ∀ x, q x = true -> p x = true) {r : α} (hp : p r = true) (hq : q r = false) : ∀ {l : List α}, r ∈ l -> (l.filter q).length < (l.filter p).length
 | x :: l, hr => by
  have hle : ∀ l : List α, (l.filter q).length <= (l.filter p).length := fun l => by
   induction l with
   | nil => simp
   | cons y l ih =>
    rw [List.filter_cons, List.filter_cons]
    by_cases hy : q y = true
    ·rw [if_pos hy, if_pos (h y hy)]; simpa using ih
    ·rw [if_neg hy]; split
     ·simp; omega
     ·exact ih
  rcases List.mem_cons.1 hr with rfl | hr
  ·rw [List.filter_cons, List.filter_cons, if_neg (by rw [hq]; decide), if_pos hp]
   have := hle l
   simp; omega
  ·have ih := cnt_lt h hp hq hr
   rw [List.filter_cons, List.filter_cons]
   by_cases hy : q x = true
   ·rw [if_pos hy, if_pos (h x hy)]; simpa using ih
   ·rw [if_neg hy]; split
    ·simp; omega
    ·exact ih
theorem IK {L : List (Nat × Nat)} {s i : Nat} : (closM L s).testBit i = true ↔ ∃ r, r < 64 /\ 1 <= r /\ s.testBit r = true /\ (junM L r).testBit i = true := by
 unfold closM; exact Fv
theorem CK.clos {L : List (Nat × Nat)} {a b : Nat} (h : CK a b) : CK (closM L a) (closM L b) := fun i hi => by
 obtain ⟨r, h1, h2, h3, h4⟩ := IK.1 hi
 exact IK.2 ⟨r, h1, h2, h r h3, h4⟩
theorem Ck {a b : Nat} : (a &&& b == a) = true ↔ CK a b := by
 rw [beq_iff_eq]
 constructor
 ·intro h i hi
  rw [<- h, Nat.testBit_and, Bool.and_eq_true] at hi
  exact hi.2
 ·intro h
  refine Bf fun i => ?_
  rw [Nat.testBit_and, Bool.and_eq_true]
  exact ⟨fun h => h.1, fun hi => ⟨hi, h i hi⟩⟩
structure UCl (L : List (Nat × Nat)) (p : Af) (T : Nat) : Prop where
 start : CK p.start T
 rules : ∀ r ∈ p.rules, r.revoke = false -> (r.yes &&& closM L T == r.yes) = true -> Bn T r.target = true
def ULow (L : List (Nat × Nat)) (p : Af) (N : Nat) : Prop := CK p.start N /\ ∀ T, UCl L p T -> CK N T
def Gc (L : List (Nat × Nat)) (p : Af) (N : Nat) : Prop := UCl L p N /\ ∀ T, UCl L p T -> CK N T
open Classical in
noncomputable def uppM (L : List (Nat × Nat)) (p : Af) : Nat := if h : ∃ N, Gc L p N then Classical.choose h else 0
theorem Gc.eq {L : List (Nat × Nat)} {p : Af} {N : Nat} (h : Gc L p N) : N = uppM L p := by
 have hx : ∃ N, Gc L p N := ⟨N, h⟩
 have k : Gc L p (uppM L p) := by unfold uppM; rw [dif_pos hx]; exact Classical.choose_spec hx
 exact (h.2 _ k.1).anti (k.2 _ h.1)
theorem ULow.add {L : List (Nat × Nat)} {p : Af} {N t : Nat} (h : ULow L p N) {r : AW} (hr : r ∈ p.rules) (h1 : r.revoke = false) (h2 : (r.yes &&& closM L N == r.yes) = true) (ht : r.target = (t : Int)) : ULow L p (N ||| 2 ^ t) :=
 ⟨h.1.trans (CK.left _ _), fun T hT => (h.2 T hT).or fun i hi => by
  have e : i = t := E9.1 hi
  subst e
  have := hT.rules r hr h1 (Ck.2 ((Ck.1 h2).trans (h.2 T hT).clos))
  rw [ht] at this
  unfold Bn at this
  simp only [Bool.and_eq_true] at this
  simpa using this.2⟩
def Ff (N : Nat) (l : List AW) : Nat := (l.filter fun r => !Bn N r.target).length
theorem lacks_lt {N t : Nat} {l : List AW} {r : AW} (hr : r ∈ l) (ht : r.target = (t : Int)) (hn : Bn N r.target = false) : Ff (N ||| 2 ^ t) l < Ff N l := by
 refine cnt_lt (r := r) (fun x hx => ?_) (by rw [hn]; rfl) ?_ hr
 ·cases hb : Bn N x.target with
  | false => rfl
  | true => rw [(CK.left N (2 ^ t)).has hb] at hx; cases hx
 ·rw [ht]; simp [Bn]
end
section
open Go.RowKit
set_option exponentiation.threshold 5000
def Fd (N : Nat) (r : AW) : Nat := if r.revoke then del N r.target else Bt N r.target
noncomputable def closP (p : Af) (N : Nat) : Nat := match p.links with
 | some L => closM L N
 | none => 0
noncomputable def stepB (p : Af) (N : Nat) (r : AW) : Bool := !(((Bn N r.target != r.revoke) || (!r.revoke && !Bv (r.yes, r.no) (closP p N))) || !goodB p (Fd N r))
noncomputable def stepM (p : Af) (N : Nat) (k : Int) : Option Nat :=
 if 0 <= k /\ k < p.rules.length /\ p.links.isSome = true then (if stepB p N (p.rules.getD k.toNat AL) = true then some (Fd N (p.rules.getD k.toNat AL)) else none) else none
theorem stepM_none {p : Af} {N : Nat} {k : Int} (h : ¬ (0 <= k /\ k < p.rules.length /\ p.links.isSome = true)) : stepM p N k = none := if_neg h
theorem stepM_at {p : Af} {L : List (Nat × Nat)} {N j : Nat} (hl : p.links = some L) (hj : j < p.rules.length) : stepM p N (j : Nat) = if stepB p N (p.rules.getD j AL) = true then some (Fd N (p.rules.getD j AL)) else none := by
 unfold stepM
 rw [if_pos ⟨by omega, by omega, by rw [hl]; rfl⟩, Int.toNat_natCast]
inductive Rch (p : Af) : Nat -> Prop
 | start : Rch p p.start
 | step {N M : Nat} {k : Int} : Rch p N -> stepM p N k = some M -> Rch p M
theorem Hv {w : World} {D : Nat -> Prop} {size n c : Nat} {A : Option Addr} {xs : List Value} (h : Sl w D size (.slice A n c) n xs) (hn : 0 < n) : ∃ b o, A = some ⟨b, o, none⟩ := by
 obtain ⟨_, A', c', e, _, _, h3⟩ := h
 injection e with e _ _
 subst e
 obtain ⟨b, o, e, _⟩ := h3 hn
 exact ⟨b, o, e⟩
end
section
open Go.RowKit
attribute [local go_sem ↓] Go.wp_at_zero Go.wp_at_succ
set_option maxRecDepth 20000
theorem DL {P : Program} {o : Oper} {a : Act} {w : World} {K : Act -> World -> Prop} {Q : Exit -> Act -> World -> Prop} {t e : TypeId} {x : Operand} {n c : Nat} {A : Option Addr} (ho : o.op = .call { callee := .builtin .len, args := #[x], argTypes := #[t] }) (hx : a.eval x = .slice A n c) (h : P.underlying t = some (.slice e)) (hk : K (a.put o.dst (.int .i64 (n : Nat))) w) : o.wp P a w K Q := by
 have hr : (Builtin.len_ #[t] o.type #[.slice A n c]).run P w = .ok (.int .i64 (n : Nat)) w := by
  simp [Builtin.len_, run_underlying h]; rfl
 unfold Oper.wp execOp
 simp only [ho, resolve, invoke, builtin, Sem.run_bind, Sem.run_pure, Result.andThen_ok, List.map_toArray, List.map_cons, List.map_nil, hx, hr]
 exact hk
end
section
open Go.RowKit
attribute [local go_sem ↓] Go.wp_at_zero Go.wp_at_succ
set_option maxRecDepth 20000
set_option exponentiation.threshold 5000
theorem perm_at : ∀ (F : List Aj) (i : Nat) (f g : Aj), F[i]? = some f -> (g :: F.eraseIdx i).Perm (F.set i g)
 | [], i, f, g, h => by simp at h
 | x :: F, 0, f, g, h => List.Perm.refl _
 | x :: F, i + 1, f, g, h => (List.Perm.swap x g _).trans ((perm_at F i f g (by simpa using h)).cons x)
theorem set_sameF : ∀ (F : List Aj) (i : Nat) (f : Aj), F[i]? = some f -> F.set i f = F
 | [], i, f, h => rfl
 | x :: F, 0, f, h => by simp at h; subst h; rfl
 | x :: F, i + 1, f, h => by rw [List.set_cons_succ, set_sameF F i f (by simpa using h)]
theorem St.front {w0 w : World} {F : List Aj} {K : (Nat -> Prop) -> World -> Prop} {i : Nat} {f : Aj} (h : St w0 w F K) (hi : F[i]? = some f) : St w0 w (f :: F.eraseIdx i) K := h.perm (by
 have h1 := perm_at F i f f hi
 rwa [set_sameF F i f hi] at h1)
section
variable {P : Program} {ops : Array Oper} {rest : List Oper} {o : Oper} {a : Act} {Q : Exit -> Act -> World -> Prop} {w : World}
theorem Gq (hg : Region.wanted o (yielded ops a.tmps) = true) (t t2 : TypeId) (x y : Operand) (ho : o.op = .binOp .and t x y t2) (X Y : Int) (hx : a.eval x = .int .u8 X) (hy : a.eval y = .int .u8 Y) (h1 : 0 <= X /\ X < 256) (h2 : 0 <= Y /\ Y < 256)
  (hk : ∀ z : Nat, z < 256 -> Hid (z = X.toNat &&& Y.toNat) -> wpList P ops Q rest (a.put o.dst (.int .u8 (z : Nat))) w) : wpList P ops Q (o :: rest) a w := by
 refine BigFrame.wpList_want hg fun _ hK => Bb (v := .int .u8 ((X.toNat &&& Y.toNat : Nat) : Int)) ho hx hy rfl ?_ (hK _ _ (hk _ (Nat.lt_of_le_of_lt Nat.and_le_left (by omega)) (Lib.hid rfl)))
 go_simp
 exact u8_and X Y h1.1 h1.2 h2.1 h2.2
theorem st_andnot8 (hg : Region.wanted o (yielded ops a.tmps) = true) (t t2 : TypeId) (x y : Operand) (ho : o.op = .binOp .andNot t x y t2) (X Y : Int) (hx : a.eval x = .int .u8 X) (hy : a.eval y = .int .u8 Y) (h1 : 0 <= X /\ X < 256) (h2 : 0 <= Y /\ Y < 256)
  (hk : ∀ z : Nat, z < 256 -> Hid (z = X.toNat &&& (255 - Y.toNat)) -> wpList P ops Q rest (a.put o.dst (.int .u8 (z : Nat))) w) : wpList P ops Q (o :: rest) a w := by
 refine BigFrame.wpList_want hg fun _ hK => Bb (v := .int .u8 ((X.toNat &&& (255 - Y.toNat) : Nat) : Int)) ho hx hy rfl ?_ (hK _ _ (hk _ (Nat.lt_of_le_of_lt Nat.and_le_left (by omega)) (Lib.hid rfl)))
 go_simp
 exact u8_andNot X Y h1.1 h1.2 h2.1 h2.2
end
theorem and_not8 {a b : Nat} (ha : a < 256) : a &&& (b &&& (255 - a)) = 0 := by
 apply Nat.eq_of_testBit_eq
 intro i
 rw [Nat.testBit_and, Nat.testBit_and, Nat.zero_testBit, show 255 - a = 2 ^ 8 - (a + 1) by omega, Nat.testBit_two_pow_sub_succ (by omega)]
 cases a.testBit i <;> cases b.testBit i <;> simp
theorem Ju {a m : Nat} : a &&& m &&& m = a &&& m := by rw [Nat.and_assoc, Nat.and_self]
theorem Hu (y n m : Nat) (hm : m < 256) (w0 : World) :
  Calls Tryz.prog 91 #[.int .i64 (y : Nat), .int .i64 (n : Nat), .int .u8 (m : Nat)] w0 (AM (fun x _ => ∃ a b : Nat, x = .agg #[.int .u64 (a : Nat), .int .u64 (b : Nat)] /\ a &&& m = a /\ b &&& m = b /\ a &&& b = 0 /\ a < 256 /\ b < 256) w0) := by
 have hS : St w0 w0 [] fun _ _ => True := St.start0
 go_enter Tryz.func91, Tryz.ntmps91
 go_wp2_with (first
  | ((with_reducible refine qA 6 ?_); refine qa hS #[.int .u64 0, .int .u64 0] ?_; clear hS; intro g6 w_ hS)
  | ((with_reducible refine qA 17 ?_); refine Gq rfl _ _ _ _ rfl _ _ rfl rfl (by omega) (by omega) ?_; intro z17 h17 _)
  | ((with_reducible refine qA 19 ?_); refine Gq rfl _ _ _ _ rfl _ _ rfl rfl (by omega) (by omega) ?_; intro z19 h19 e19)
  | ((with_reducible refine qA 28 ?_); refine Gq rfl _ _ _ _ rfl _ _ rfl rfl (by omega) (by omega) ?_; intro z28 h28 _)
  | ((with_reducible refine qA 30 ?_); refine Gq rfl _ _ _ _ rfl _ _ rfl rfl (by omega) (by omega) ?_; intro z30 h30 e30)
  | ((with_reducible refine qA 32 ?_); refine st_andnot8 rfl _ _ _ _ rfl _ _ rfl rfl (by omega) (by omega) ?_; intro z32 h32 e32)
  | ((with_reducible refine qM ?_); (first | refine qS hS ?_ | refine qT hS ?_); clear hS; intro w_ hS; (try simp only [Act.put, Act.eval, zz, Value.cells] at hS)))
 refine Bl Tryz.results91 rfl (hS.box 0 rfl) Tryz.underlying94 rfl (by kernel_rfl) rfl ?_
 have e1 := e19.out
 have e2 := e30.out
 have e3 := e32.out
 simp only [Int.toNat_natCast] at e1 e2 e3
 refine AM.mk ⟨z19, z32, rfl, ?_, ?_, ?_, h19, h32⟩ hS.below
 ·rw [e1, Ju]
 ·rw [e3, e2, Nat.and_assoc, Nat.and_comm (255 - z19), <- Nat.and_assoc, Ju]
 ·rw [e3]; exact and_not8 h19
theorem Sl.byteAt {w : World} {D : Nat -> Prop} {A : Option Addr} {c : Nat} {l : List Nat} (h : Sl w D 1 (.slice A l.length c) l.length (G1 l)) {k : Nat} (hk : k < l.length) : ∃ b o, A = some ⟨b, o, none⟩ /\ w.cell? ⟨b, o + k, none⟩ = some (.int .u8 (l.getD k 0 : Nat)) := by
 obtain ⟨b, o, h1, _, _, h2⟩ := h.byte hk
 exact ⟨b, o, h1, h2 k hk⟩
theorem next_any {w0 w : World} {F : List Aj} {K : (Nat -> Prop) -> World -> Prop} {q c at_ : Nat} {A : Option Addr} {l : List Nat} (hl : ∀ x ∈ l, x < 256) (ha : at_ < 1000000) (hS : St w0 w (.box q 144 #[.slice A l.length c, .int .i64 (at_ : Nat)] :: F) K) (kp : ∀ D w, K D w -> Sl w D 1 (.slice A l.length c) l.length (G1 l)) :
  Calls Tryz.prog 89 #[.pointer (some ⟨q, 0, none⟩)] w fun e w' => ∃ b : Nat, b < 256 /\ e = .returned (.int .i64 (b : Nat)) /\ St w0 w' (.box q 144 #[.slice A l.length c, .int .i64 ((at_ + 1 : Nat) : Int)] :: F) K := by
 go_enter Tryz.func89, Tryz.ntmps89
 go_wp2_with (first
  | ((with_reducible refine qK ?_); refine qC hS ?_)
  | ((with_reducible refine qM ?_); (first | refine qS hS ?_ | refine qT hS ?_); clear hS; intro w_ hS; (try simp only [Act.put, Act.eval, zz, Value.cells] at hS)))
 obtain ⟨bo, hbo⟩ : ∃ bo : Bool, decide (((at_ + 1 : Nat) : Int) > (l.length : Nat)) = bo := ⟨_, rfl⟩
 have HBO := Lib.hid hbo
 clear hbo
 refine Ci [.q q 0, .q q 0, .q q 1, .n ((at_ + 1 : Nat) : Int), .q q 0, .q q 0, .q q 0, .i (.slice A l.length c), .n (l.length : Nat), .i (.bool bo)] ⟨uM, uN, uF, uC (h := fun w hW hN => (hS.ext hW).shut 0 rfl 1 rfl), uM, uN, uF, uC (h := fun w hW hN => (hS.ext hW).shut 0 rfl 0 rfl), ?_, uB (h := fun w hW hN => run_gtB HBO.out), trivial⟩ ?_
 ·refine uT fun b__ w hW hE K hK => ?_
  have e17 := hE 17
  exact DL rfl e17 Tryz.underlying22 (hK _ _ rfl (Below.refl _ _))
 ·intro vs wz hW hT
  obtain ⟨e10, e11, e12, e13, e14, e15, e16, e17, e18, e19, -⟩ := hT
  simp only [AE, Act.put, zz, ze]
  replace hS := hS.ext hW
  clear hW e10 e11 e12 e13 e14 e15 e16 e17 e18
  rw [e19]
  clear e19
  generalize vs 10 = s10, vs 11 = s11, vs 12 = s12, vs 13 = s13, vs 14 = s14, vs 15 = s15, vs 16 = s16, vs 17 = s17, vs 18 = s18
  cases bo with
  | true =>
   go_wp2_with fail
   go_ret
   exact ⟨0, by decide, rfl, hS⟩
  | false =>
   have hlt : at_ < l.length := by have := HBO.out; simp at this; omega
   obtain ⟨b, o, rfl, hb⟩ := (kp _ _ hS.ro).byteAt hlt
   have hB : l.getD at_ 0 < 256 := by rw [List.getD_eq_getElem?_getD, List.getElem?_eq_getElem hlt]; exact hl _ (List.getElem_mem hlt)
   have hk2 : ∀ D w, K D w -> w.cell? ⟨b, o + at_, none⟩ = some (.int .u8 (l.getD at_ 0 : Nat)) := fun D w h => by
    obtain ⟨b', o', e, h2⟩ := (kp D w h).byteAt hlt
    injection e with e
    injection e with e1 e2
    subst e1; subst e2
    exact h2
   clear hb
   generalize l.getD at_ 0 = x at *
   go_wp2_with fail
   refine Ci [.q q 0, .q q 0, .q q 0, .i (.slice (some ⟨b, o, none⟩) l.length c), .q q 0, .q q 0, .q q 1, .n ((at_ + 1 : Nat) : Int), .n (at_ : Nat), .q b (o + (at_) * 1), .i (.int .u8 (x : Nat)), .n (x : Nat), .n (x : Nat)] ⟨uM, uN, uF, uC (h := fun w hW hN => (hS.ext hW).shut 0 rfl 0 rfl), uM, uN, uF, uC (h := fun w hW hN => (hS.ext hW).shut 0 rfl 1 rfl), uB (h := fun w hW hN => by rw [CY (by omega) (by omega)]; congr 2; omega), uI (h := fun w hW hN => Ak (m := at_) Tryz.underlying22 (by kernel_rfl) (by omega) (by omega)), uC (h := fun w hW hN => by rw [Nat.mul_one]; exact hk2 _ _ (hS.ext hW).ro), uE (h := fun w hW hN => by go_simp; exact IntWalk.i64_in _ (by omega)), uA, trivial⟩ ?_
   ·intro vs wz hW hT
    obtain ⟨e20, e21, e22, e23, e24, e25, e26, e27, e28, e29, e30, e31, e2, -⟩ := hT
    simp only [AE, Act.put, zz, ze]
    replace hS := hS.ext hW
    rw [e2]
    clear hW
    go_wp2_with fail
    go_ret
    exact ⟨x, hB, rfl, hS⟩
end
section
open Go.RowKit
attribute [local go_sem ↓] Go.wp_at_zero Go.wp_at_succ
set_option maxRecDepth 20000
set_option exponentiation.threshold 5000
theorem st_and64 {P : Program} {ops : Array Oper} {rest : List Oper} {o : Oper} {a : Act} {Q : Exit -> Act -> World -> Prop} {w : World} (hg : Region.wanted o (yielded ops a.tmps) = true) (t t2 : TypeId) (x y : Operand) (ho : o.op = .binOp .and t x y t2) (X Y : Nat) (hx : a.eval x = .int .u64 (X : Nat)) (hy : a.eval y = .int .u64 (Y : Nat)) (h1 : X < BK) (h2 : Y < BK)
  (hk : wpList P ops Q rest (a.put o.dst (.int .u64 ((X &&& Y : Nat) : Int))) w) : wpList P ops Q (o :: rest) a w :=
 BigFrame.wpList_want hg fun _ hK => Bb ho hx hy rfl (run_and64 h1 h2) (hK _ _ hk)
theorem rholds_any {y n s : Nat} (hy : y < BK) (hn : n < BK) (hs : s < BK) (w0 : World) : Calls Tryz.prog 92 #[.agg #[.int .u64 (y : Nat), .int .u64 (n : Nat)], .int .u64 (s : Nat)] w0 (AM (fun x _ => x = .bool (Bv (y, n) s)) w0) := by
 have hS : St w0 w0 [] fun _ _ => True := St.start0
 have e : Bv (y, n) s = (decide ((s &&& y : Nat) = y) && decide ((s &&& n : Nat) = 0)) := by
  unfold Bv
  rw [Nat.and_comm s y, Nat.and_comm s n]
  generalize y &&& s = a
  generalize n &&& s = b
  by_cases h1 : a = y <;> by_cases h2 : b = 0 <;> simp [h1, h2]
 rw [e]
 clear e
 go_enter Tryz.func92, Tryz.ntmps92
 go_wp2_with (first
  | ((with_reducible refine qA 2 ?_); refine AA hS rfl _ _ rfl (.agg #[.int .u64 (y : Nat), .int .u64 (n : Nat)]) _ rfl rfl ?_; clear hS; intro g2 w_ hS; (try simp only [Act.put, Act.eval, zz, Value.cells] at hS))
  | ((with_reducible refine qK ?_); refine qC hS ?_)
  | ((with_reducible refine qb .and ?_); refine st_and64 rfl _ _ _ _ rfl _ _ rfl rfl (by assumption) (by assumption) ?_)
  | ((with_reducible refine qB ?_); refine qc ?_ ?_ <;> intro h_ <;> go_prune))
 all_goals (go_ret; refine AM.mk ?_ hS.below; congr 1; simp_all; try omega)
theorem RLinkP.some2 {w0 w' : World} {pv : Value} {L : List (Nat × Nat)} {x y : Nat} {e : Ending} (h : RLinkP w0 pv L (x : Nat) (y : Nat) e w') (ht : twoR (x : Nat) (y : Nat)) :
  ((x, y) ∈ L /\ e = .returned (.tuple #[pv, .int .i64 5]) /\ Below w0.heap.size w0 w') \/ ((x, y) ∉ L /\ TC L y x /\ e = .returned (.tuple #[pv, .int .i64 16]) /\ Below w0.heap.size w0 w') \/
   ((x, y) ∉ L /\ ¬ TC L y x /\ ∃ v, e = .returned (.tuple #[v, .int .i64 0]) /\ St w0 w' [.own v 151 2 (L.length + 1) (Ah (ins L (x, y)))] fun _ _ => True) := by
 rcases h with ⟨h, _⟩ | ⟨a, b, h1, h2, _, _, _, h⟩
 ·exact absurd ht h
 ·obtain rfl : x = a := by omega
  obtain rfl : y = b := by omega
  exact h
def InRol (R : Nat) (L : List (Nat × Nat)) : Prop := ∀ z ∈ L, 1 <= z.1 /\ z.1 < z.2 /\ z.2 <= R
theorem rlink_st {w0 w : World} {F : List Aj} {K : (Nat -> Prop) -> World -> Prop} {pv : Value} {L : List (Nat × Nat)} {x y R : Nat} (hH : Hf L) (hR : InRol R L) (h1 : 1 <= x) (h2 : x < y) (h3 : y <= R) (h4 : R < 64) (hl : L.length <= 1000) (hS : St w0 w F K) (kp : ∀ D w, K D w -> Sl w D 2 pv L.length (Ah L)) :
  Calls Tryz.prog 90 #[pv, .int .i64 (x : Nat), .int .i64 (y : Nat)] w fun e w' => ∃ (v : Value) (z : Int) (L' : List (Nat × Nat)), e = .returned (.tuple #[v, .int .i64 z]) /\ Hf L' /\ InRol R L' /\ L'.length <= L.length + 1 /\ St w0 w' F fun D w => K D w /\ Sl w D 2 v L'.length (Ah L') := by
 have KS := hS.stable
 refine (rlink_any (kp _ _ hS.ro) hH.inr (by omega) x y).mono ?_
 intro e w' h
 have hsame : ∀ z : Int, e = .returned (.tuple #[pv, .int .i64 z]) -> Below w.heap.size w w' -> ∃ (v : Value) (z : Int) (L' : List (Nat × Nat)), e = .returned (.tuple #[v, .int .i64 z]) /\ Hf L' /\ InRol R L' /\ L'.length <= L.length + 1 /\ St w0 w' F fun D w => K D w /\ Sl w D 2 v L'.length (Ah L') :=
  fun z h hb => ⟨pv, z, L, h, hH, hR, by omega, (hS.ext hb).mono (KS.and (Az (by decide))) fun D w h => ⟨h, kp D w h⟩⟩
 rcases h.some2 ⟨⟨by omega, by omega⟩, ⟨by omega, by omega⟩, by omega⟩ with ⟨-, a, b⟩ | ⟨-, -, a, b⟩ | ⟨k1, k2, v, a, b⟩
 ·exact hsame _ a b
 ·exact hsame _ a b
 ·refine ⟨v, 0, _, a, hH.ins ⟨h1, by omega⟩ ⟨by omega, by omega⟩ (by omega) k1 k2, fun z hz => ?_, by rw [ins_len]; omega, ?_⟩
  ·rcases (Iy.1 hz) with h | h
   ·subst h; exact ⟨h1, h2, h3⟩
   ·exact hR z h
  ·have hn := (hS.new b.below (.own v 151 2 (L.length + 1) (Ah (ins L (x, y)))) (b.own 0 rfl)).freeze 0 (by decide) rfl
   rw [ins_len]
   exact hn
def AZ (l : List AW) : List Value := l.flatMap fun z => [.bool z.revoke, .int .u64 (z.yes : Nat), .int .u64 (z.no : Nat), .int .i64 z.target, .int .i64 z.origin]
theorem F8 (a b : List AW) : AZ (a ++ b) = AZ a ++ AZ b := by simp [AZ]
theorem rrcells_at (l : List AW) (k : Nat) (z : AW) (h : l[k]? = some z) : (AZ l)[k * 5]? = some (.bool z.revoke) /\ (AZ l)[k * 5 + 1]? = some (.int .u64 (z.yes : Nat)) /\ (AZ l)[k * 5 + 2]? = some (.int .u64 (z.no : Nat)) /\ (AZ l)[k * 5 + 3]? = some (.int .i64 z.target) /\ (AZ l)[k * 5 + 4]? = some (.int .i64 z.origin) := by
 induction l generalizing k with
 | nil => simp at h
 | cons y r ih =>
  cases k with
  | zero => simp at h; subst h; simp [AZ]
  | succ k =>
   have := ih k (by simpa using h)
   rw [show (k + 1) * 5 = k * 5 + 5 by omega]
   simpa [AZ] using this
def CO (w : World) (D : Nat -> Prop) (v : Value) (p : Af) : Prop :=
 ∃ lv rv nv gv L, v = .agg #[.int .i64 p.roles, lv, .int .u64 (p.start : Nat), rv, nv, gv] /\ p.links = some L /\ Sl w D 2 lv L.length (Ah L) /\ Sl w D 5 rv p.rules.length (AZ p.rules) /\ CL w D nv p.never /\ CL w D gv p.goal
theorem FL {v : Value} {l : List (Nat × Nat)} : AK fun D w => CL w D v l := Az (by decide)
theorem Dt {v : Value} {p : Af} : AK fun D w => CO w D v p := fun D D' w w' h a b c => by
 obtain ⟨lv, rv, nv, gv, L, h1, h2, h3, h4, h5, h6⟩ := h
 exact ⟨lv, rv, nv, gv, L, h1, h2, Az (by decide) D D' w w' h3 a b c, Az (by decide) D D' w w' h4 a b c, FL D D' w w' h5 a b c, FL D D' w w' h6 a b c⟩
end
section
open Go.RowKit
attribute [local go_sem ↓] Go.wp_at_zero Go.wp_at_succ
set_option maxRecDepth 20000
set_option exponentiation.threshold 5000
section
variable {P : Program} {ops : Array Oper} {rest : List Oper} {o : Oper} {a : Act} {Q : Exit -> Act -> World -> Prop} {w : World}
theorem Eg (hg : Region.wanted o (yielded ops a.tmps) = true) (op : BinOp) (t t2 : TypeId) (x y : Operand) (ho : o.op = .binOp op t x y t2) {vx vy : Value} (hx : a.eval x = vx) (hy : a.eval y = vy) {k : IntKind} (p : Nat -> Prop) {z : Nat} (he : (eqGuard op t x y vx vy).run P w = .ok () w) (hr : (binOp op t vx vy).run P w = .ok (.int k (z : Nat)) w) (hp : p z)
  (hk : ∀ z : Nat, p z -> wpList P ops Q rest (a.put o.dst (.int k (z : Nat))) w) : wpList P ops Q (o :: rest) a w :=
 BigFrame.wpList_want hg fun _ hK => Bb ho hx hy he hr (hK _ _ (hk z hp))
theorem Dj (hg : Region.wanted o (yielded ops a.tmps) = true) (t t2 : TypeId) (x y : Operand) (ho : o.op = .binOp .rem t x y t2) {n m : Nat} (hx : a.eval x = .int .i64 (n : Nat)) (hy : a.eval y = .int .i64 (m : Nat)) (hm : 0 < m)
  (hk : ∀ z : Nat, z < m -> wpList P ops Q rest (a.put o.dst (.int .i64 (z : Nat))) w) : wpList P ops Q (o :: rest) a w :=
 Eg hg _ t t2 x y ho hx hy (fun z => z < m) (z := n % m) rfl (by rw [Hw (by omega) (by omega)]; rfl) (Nat.mod_lt _ hm) hk
theorem st_addN (hg : Region.wanted o (yielded ops a.tmps) = true) (t t2 : TypeId) (x y : Operand) (ho : o.op = .binOp .add t x y t2) {n m : Nat} (p : Nat -> Prop) (hx : a.eval x = .int .i64 (n : Nat)) (hy : a.eval y = .int .i64 (m : Nat)) (hb : n + m < 9223372036854775808) (hp : p (n + m))
  (hk : ∀ z : Nat, p z -> wpList P ops Q rest (a.put o.dst (.int .i64 (z : Nat))) w) : wpList P ops Q (o :: rest) a w :=
 Eg hg _ t t2 x y ho hx hy p (z := n + m) rfl (by rw [run_add64 (by omega) (by omega)]; rfl) hp hk
end
theorem st_someB {P : Program} {ops : Array Oper} {rest : List Oper} {o : Oper} {a : Act} {Q : Exit -> Act -> World -> Prop} {w : World} (hg : Region.wanted o (yielded ops a.tmps) = true) (op : BinOp) (t t2 : TypeId) (x y : Operand) (ho : o.op = .binOp op t x y t2) {vx vy : Value} (hx : a.eval x = vx) (hy : a.eval y = vy) {b : Bool} (he : (eqGuard op t x y vx vy).run P w = .ok () w) (hr : (binOp op t vx vy).run P w = .ok (.bool b) w)
  (hk : ∀ b : Bool, wpList P ops Q rest (a.put o.dst (.bool b)) w) : wpList P ops Q (o :: rest) a w :=
 BigFrame.wpList_want hg fun _ hK => Bb ho hx hy he hr (hK _ _ (hk b))
theorem IV {P : Program} {w : World} {g i : Nat} {t ty : TypeId} {cs : Array Value} {u v : Value} (hb : Co w g t cs) (hi : i + 1 < cs.size) (h1 : u.oneCell' = true) (h2 : v.oneCell' = true) (hs : (P.info? ty).map (·.size) = some 2) :
  (Instr.storeAt ty (.pointer (some ⟨g, i, none⟩)) (.agg #[u, v])).run P w = .ok () ((w.setCell ⟨g, i, none⟩ u).setCell ⟨g, i + 1, none⟩ v) := by
 have := run_storeCells_cells (P := P) g i [u, v] 0 w (fun j hj => by have hc := hb.cell (i + j); simp at hj; simp [hc]; omega) (fun j hj => hb.free _) (by simpa using ⟨h1, h2⟩)
 cases hq : P.info? ty with
 | none => simp [hq] at hs
 | some inf =>
  have hs' : inf.size = 2 := by simpa [hq] using hs
  simp only [Nat.add_zero] at this
  simp [Instr.storeAt, Instr.sureAddr, storeVar, sizeOf, typeInfo, hq, Value.cells, hs', this, World.setCells]
theorem st_bstore2 {P : Program} {ops : Array Oper} {rest : List Oper} {o : Oper} {a : Act} {Q : Exit -> Act -> World -> Prop} {w0 w : World} {F : List Aj} {K : (Nat -> Prop) -> World -> Prop} (h : St w0 w F K) (i : Nat) (hg : Region.wanted o (yielded ops a.tmps) = true) (ty : TypeId) (x y : Operand) (ho : o.op = .store ty x y) (g j : Nat) (u v : Value) (hx : a.eval x = .pointer (some ⟨g, j, none⟩)) (hy : a.eval y = .agg #[u, v]) {t : TypeId} {cs : Array Value} (hb : F[i]? = some (.box g t cs)) (hi : j + 1 < cs.size)
  (h1 : u.oneCell' = true) (h2 : v.oneCell' = true) (hs : (P.info? ty).map (·.size) = some 2) (hk : ∀ w', St w0 w' (F.set i (.box g t ((cs.setIfInBounds j u).setIfInBounds (j + 1) v))) K -> wpList P ops Q rest (a.put o.dst undef) w') : wpList P ops Q (o :: rest) a w := by
 refine BigFrame.wpList_want hg fun _ hK => ?_
 have hX := h.box i hb
 unfold Oper.wp execOp
 simp only [ho, hx, hy, Sem.run_bind, IV hX hi h1 h2 hs, Result.andThen_ok]
 refine hK _ _ (hk _ (h.upd i hb _ (Bg (Is.trans (BP w g j u) (BP _ g (j + 1) v))) ⟨(h.holds _ (List.mem_of_getElem? hb)).1, (hX.setC u).setC v⟩ fun _ e => .inl e))
theorem Hm : Bz Tryz.prog 34 96 5 40 := ⟨Tryz.underlying34, by kernel_rfl⟩
def ROk (R m : Nat) (z : AW) : Prop := (1 <= z.target /\ z.target <= R) /\ (0 <= z.origin /\ z.origin < 7) /\ z.yes &&& m = z.yes /\ z.no &&& m = z.no /\ z.yes &&& z.no = 0 /\ z.yes < 256 /\ z.no < 256 /\ (z.revoke = true -> z.yes = 0 /\ z.no = 0)
def KOk (m : Nat) (z : Nat × Nat) : Prop := z.1 &&& m = z.1 /\ z.2 &&& m = z.2 /\ z.1 &&& z.2 = 0 /\ z.1 < 256 /\ z.2 < 256
def BZ (R : Nat) : Nat := 2 ^ (R + 1) - 2
theorem run_maskshl {w : World} {R : Nat} (h : R <= 5) : (binOp .shl 5 (.int .u8 2) (.int .u64 (R : Nat))).run Tryz.prog w = .ok (.int .u8 ((2 ^ (R + 1) : Nat) : Int)) w := by
 match R, h with
 | 0, _ => go_simp; rfl
 | 1, _ => go_simp; rfl
 | 2, _ => go_simp; rfl
 | 3, _ => go_simp; rfl
 | 4, _ => go_simp; rfl
 | 5, _ => go_simp; rfl
theorem run_msub {w : World} {R : Nat} (h0 : 2 <= R) (h : R <= 5) : (binOp .sub 5 (.int .u8 ((2 ^ (R + 1) : Nat) : Int)) (.int .u8 2)).run Tryz.prog w = .ok (.int .u8 (BZ R : Nat)) w := by
 match R, h0, h with
 | 2, _, _ => go_simp; rfl
 | 3, _, _ => go_simp; rfl
 | 4, _, _ => go_simp; rfl
 | 5, _, _ => go_simp; rfl
theorem run_shrN {P : Program} {w : World} {t : TypeId} {n k : Nat} (hk : k < 64) : (binOp .shr t (.int .i64 (n : Nat)) (.int .u64 (k : Nat))).run P w = .ok (.int .i64 ((n / 2 ^ k : Nat) : Int)) w := by
 go_simp
theorem Ct {w0 w : World} {F : List Aj} {K : (Nat -> Prop) -> World -> Prop} {q c at_ : Nat} {A : Option Addr} {l : List Nat} (hl : ∀ x ∈ l, x < 256) (ha : at_ < 1000000) (hS : St w0 w F K) (i : Nat) (hi : F[i]? = some (.box q 144 #[.slice A l.length c, .int .i64 (at_ : Nat)])) (kp : ∀ D w, K D w -> Sl w D 1 (.slice A l.length c) l.length (G1 l)) :
  Calls Tryz.prog 89 #[.pointer (some ⟨q, 0, none⟩)] w fun e w' => ∃ b : Nat, b < 256 /\ e = .returned (.int .i64 (b : Nat)) /\ St w0 w' (F.set i (.box q 144 #[.slice A l.length c, .int .i64 ((at_ + 1 : Nat) : Int)])) K := by
 refine (next_any hl ha (hS.front hi) kp).mono ?_
 rintro e w' ⟨b, h1, h2, h3⟩
 exact ⟨b, h1, h2, h3.perm (perm_at F i _ _ hi).symm⟩
theorem run_shl2 {w : World} {t : TypeId} {R : Nat} (h : R < 5) : (binOp .shl t (.int .i64 2) (.int .u64 (R : Nat))).run Tryz.prog w = .ok (.int .i64 ((2 ^ (R + 1) : Nat) : Int)) w := by
 match R, h with
 | 0, _ => go_simp; rfl
 | 1, _ => go_simp; rfl
 | 2, _ => go_simp; rfl
 | 3, _ => go_simp; rfl
 | 4, _ => go_simp; rfl
theorem i64_or_nat (a b : Nat) (ha : a < 256) (hb : b < 256) : bits .or .i64 (a : Int) (b : Int) = ((a ||| b : Nat) : Int) := by
 have hx : a ||| b < 2 ^ 8 := Nat.or_lt_two_pow (by omega) (by omega)
 show IntKind.i64.wrap ((BitVec.ofInt 64 (a : Int) ||| BitVec.ofInt 64 (b : Int)).toNat : Int) = _
 rw [BitVec.toNat_or, show BitVec.ofInt 64 (a : Int) = BitVec.ofNat 64 a from BitVec.ofInt_natCast .., show BitVec.ofInt 64 (b : Int) = BitVec.ofNat 64 b from BitVec.ofInt_natCast .., BitVec.toNat_ofNat, BitVec.toNat_ofNat, Nat.mod_eq_of_lt (by omega), Nat.mod_eq_of_lt (by omega)]
 exact wrap_i64_nat (by omega)
theorem run_orN {w : World} {t : TypeId} {a b : Nat} (ha : a < 256) (hb : b < 256) : (binOp .or t (.int .i64 (a : Nat)) (.int .i64 (b : Nat))).run Tryz.prog w = .ok (.int .i64 ((a ||| b : Nat) : Int)) w := by
 go_simp
 exact i64_or_nat a b ha hb
theorem closM_ltT (L : List (Nat × Nat)) (s : Nat) : closM L s < BK := by rw [Cn]; exact FD L s 64
structure Cu (p : Af) (L : List (Nat × Nat)) (R : Nat) : Prop where
 links : p.links = some L
 roles : p.roles = (R : Int)
 r2 : 2 <= R
 r5 : R <= 5
 hok : Hf L
 inr : InRol R L
 len : L.length <= 25
 start : p.start &&& BZ R = p.start
 rlen : p.rules.length <= 6
 rules : ∀ z ∈ p.rules, ROk R (BZ R) z
 nlen : p.never.length <= 3
 never : ∀ z ∈ p.never, KOk (BZ R) z /\ Bv z (closM L p.start) = false
 glen : p.goal.length <= 3
 gpos : 1 <= p.goal.length
 goal : ∀ z ∈ p.goal, KOk (BZ R) z
theorem GA (l : List AW) (b : Bool) (y n : Nat) (t o : Int) : AZ (l ++ [⟨b, y, n, t, o⟩]) = AZ l ++ [.bool b, .int .u64 (y : Nat), .int .u64 (n : Nat), .int .i64 t, .int .i64 o] := by rw [F8]; rfl
theorem I8 (l : List (Nat × Nat)) (y n : Nat) : Bd (l ++ [(y, n)]) = Bd l ++ [.int .u64 (y : Nat), .int .u64 (n : Nat)] := by rw [FR]; rfl
theorem ty_mkc : Bz Tryz.prog 35 94 2 16 := ⟨Tryz.underlying35, by kernel_rfl⟩
theorem H9 {α : Type} {P : α -> Prop} {l : List α} {x : α} (h : ∀ z ∈ l, P z) (hx : P x) : ∀ z ∈ l ++ [x], P z := fun z hz => by
 rcases List.mem_append.1 hz with h1 | h1
 ·exact h z h1
 ·rw [List.mem_singleton.1 h1]; exact hx
set_option maxHeartbeats 4000000 in
theorem I7 {w0 w : World} {F : List Aj} {K : (Nat -> Prop) -> World -> Prop} {v : Value} {l : List Nat} (hl : ∀ x ∈ l, x < 256) (hS : St w0 w F K) (kp : ∀ D w, K D w -> Sl w D 1 v l.length (G1 l)) :
  Calls Tryz.prog 50 #[v] w fun e w' => ∃ u p L R, e = .returned u /\ Cu p L R /\ St w0 w' F fun D w => K D w /\ CO w D u p := by
 obtain ⟨A, c, rfl, hc1, hc2⟩ := (kp _ _ hS.ro).shape
 have HL := Lib.hid hl
 have KS := Lib.hid hS.stable
 clear hl
 go_enter Tryz.func50, Tryz.ntmps50
 go_wp2_with (first
  | ((with_reducible refine qA 2 ?_); refine qa hS #[.int .i64 0, .slice none 0 0, .int .u64 0, .slice none 0 0, .slice none 0 0, .slice none 0 0] ?_; clear hS; intro g2 w_ hS)
  | ((with_reducible refine qA 27 ?_); refine Aq rfl _ _ rfl #[.slice A l.length c, .int .i64 0] (by kernel_rfl) ?_; (try simp only [Act.put, List.setIfInBounds_toArray, List.set_cons_zero, List.set_cons_succ]))
  | ((with_reducible refine qA 28 ?_); refine AA hS rfl _ _ rfl (.agg #[.slice A l.length c, .int .i64 0]) _ rfl rfl ?_; clear hS; intro q w_ hS; (try simp only [Act.put, Act.eval, zz, Value.cells] at hS))
  | (go_at_call 89; first
    | (refine (Ct (at_ := 0) HL.out (by omega) hS 0 rfl kp).mono ?_; clear hS; rintro e w_ ⟨b, hb, rfl, hS⟩; replace hS : St w0 w_ (.box q 144 #[.slice A l.length c, .int .i64 1] :: .box g2 37 #[.int .i64 0, .slice none 0 0, .int .u64 0, .slice none 0 0, .slice none 0 0, .slice none 0 0] :: F) K := hS)
    | (refine (Ct (at_ := 1) HL.out (by omega) hS 1 rfl kp).mono ?_; clear hS; rintro e w_ ⟨lk, hlk, rfl, hS⟩; replace hS : St w0 w_ (.box g4 37 #[.int .i64 (R : Nat), .slice none 0 0, .int .u64 0, .slice none 0 0, .slice none 0 0, .slice none 0 0] :: .box q 144 #[.slice A l.length c, .int .i64 2] :: .box g2 37 #[.int .i64 0, .slice none 0 0, .int .u64 0, .slice none 0 0, .slice none 0 0, .slice none 0 0] :: F) K := hS))
  | ((with_reducible refine qA 31 ?_); refine Dj (m := 4) rfl _ _ _ _ rfl rfl rfl (by decide) ?_; intro r4 hr4)
  | ((with_reducible refine qA 32 ?_); refine st_addN (n := 2) rfl _ _ _ _ rfl (fun z => 2 <= z /\ z <= 5) rfl rfl (by omega) (by omega) ?_; intro R hR)
  | ((with_reducible refine qA 33 ?_); refine Aq rfl _ _ rfl #[.int .i64 (R : Nat), .slice none 0 0, .int .u64 0, .slice none 0 0, .slice none 0 0, .slice none 0 0] (by kernel_rfl) ?_; (try simp only [Act.put, List.setIfInBounds_toArray, List.set_cons_zero, List.set_cons_succ]))
  | ((with_reducible refine qA 4 ?_); refine qa hS #[.int .i64 0, .slice none 0 0, .int .u64 0, .slice none 0 0, .slice none 0 0, .slice none 0 0] ?_; clear hS; intro g4 w_ hS)
  | ((with_reducible refine qM ?_); (first | refine qS hS ?_ | refine qT hS ?_); clear hS; intro w_ hS; (try simp only [Act.put, Act.eval, zz, Value.cells] at hS))
  | ((with_reducible refine qK ?_); refine qC hS ?_)
  | ((with_reducible refine qA 37 ?_); refine BigFrame.wpList_want rfl fun _ hK => Bb (vx := .int .u8 2) (vy := .int .u64 (R : Nat)) rfl rfl rfl rfl (run_maskshl hR.2) (hK _ _ ?_))
  | ((with_reducible refine qA 38 ?_); refine Eg (k := .u8) rfl _ _ _ _ _ rfl rfl rfl (fun z => z < 256 /\ Hid (z = BZ R)) (z := BZ R) rfl (run_msub hR.1 hR.2) ⟨by unfold BZ; have := Nat.pow_le_pow_right (n := 2) (by decide) (show R + 1 <= 6 by omega); omega, Lib.hid rfl⟩ ?_; rintro m ⟨hm, HM⟩))
 have h64 : R < 64 := by omega
 replace hS := hS.mono (KS.out.and (Az (by decide) (size := 2) (v := .slice none 0 0) (n := 0) (xs := Ah []))) fun D w h => ⟨h, Sl.none_⟩
 go_loopw [7, 8, 9] (fun nv av cv wr => ∃ (a n : Nat) (pv : Value) (L : List (Nat × Nat)), av = .int .i64 (a : Nat) /\ nv = .int .i64 (n : Nat) /\ 1 <= a /\ a <= R /\ n <= 5 * (a - 1) /\ L.length <= n /\ Hid (Hf L) /\ Hid (InRol R L) /\ St w0 wr (.box g4 37 #[.int .i64 (R : Nat), pv, .int .u64 0, .slice none 0 0, .slice none 0 0, .slice none 0 0] :: .box q 144 #[.slice A l.length c, .int .i64 2] :: .box g2 37 #[.int .i64 0, .slice none 0 0, .int .u64 0, .slice none 0 0, .slice none 0 0, .slice none 0 0] :: F) fun D w => K D w /\ Sl w D 2 pv L.length (Ah L)) (fun _ av _ _ => R - (intOf av).toNat)
 case atStart => exact ⟨1, 0, _, [], rfl, rfl, by omega, by omega, by omega, by simp, Lib.hid Hf.nil, Lib.hid (fun z hz => by simp at hz), hS⟩
 case round =>
  clear hS
  obtain ⟨a, n, pv, L, rfl, rfl, ha1, haR, hn, hLn, HH, HR, hS⟩ := hrel
  by_cases haR2 : a < R
  ·go_wp2_with (first | ((with_reducible refine qB ?_); refine qc ?_ ?_ <;> intro h_ <;> go_prune) | ((with_reducible refine qK ?_); refine qC hS ?_))
   go_loopw [7, 9] (fun nv cv wr => ∃ (d n : Nat) (pv : Value) (L : List (Nat × Nat)), cv = .int .i64 (d : Nat) /\ nv = .int .i64 (n : Nat) /\ a + 1 <= d /\ d <= R + 1 /\ n + a + 1 <= 5 * (a - 1) + d /\ L.length <= n /\ Hid (Hf L) /\ Hid (InRol R L) /\ St w0 wr (.box g4 37 #[.int .i64 (R : Nat), pv, .int .u64 0, .slice none 0 0, .slice none 0 0, .slice none 0 0] :: .box q 144 #[.slice A l.length c, .int .i64 2] :: .box g2 37 #[.int .i64 0, .slice none 0 0, .int .u64 0, .slice none 0 0, .slice none 0 0, .slice none 0 0] :: F) fun D w => K D w /\ Sl w D 2 pv L.length (Ah L)) (fun _ cv _ => R + 1 - (intOf cv).toNat)
   case atStart => exact ⟨a + 1, n, pv, L, by go_num, rfl, by omega, by omega, by omega, hLn, HH, HR, hS⟩
   case round =>
    clear hS HH HR hLn hn
    obtain ⟨d, n, pv, L, rfl, rfl, hd1, hdR, hn, hLn, HH, HR, hS⟩ := hrel
    by_cases hdR2 : d <= R
    ·go_wp2_with (first
      | ((with_reducible refine qK ?_); refine qC hS ?_)
      | ((with_reducible refine qA 57 ?_); refine Dj (m := 8) rfl _ _ _ _ rfl rfl rfl (by decide) ?_; intro z57 h57)
      | ((with_reducible refine qA 59 ?_); refine Eg (k := .i64) rfl _ _ _ _ _ rfl rfl rfl (fun _ => True) rfl (run_shrN (k := z57) (by omega)) trivial ?_; intro z59 _)
      | ((with_reducible refine qA 60 ?_); refine Dj (m := 2) rfl _ _ _ _ rfl rfl rfl (by decide) ?_; intro z60 h60)
      | ((with_reducible refine qA 64 ?_); refine Dj (m := 3) rfl _ _ _ _ rfl rfl rfl (by decide) ?_; intro z64 h64_)
      | ((with_reducible refine qB ?_); refine qc ?_ ?_ <;> intro h_ <;> go_prune)
      | (go_at_call 90; refine (rlink_st HH.out HR.out ha1 (by omega) hdR2 h64 (by omega) hS (fun D w h => h.2)).mono ?_; clear hS; rintro e w_ ⟨v2, z2, L2, rfl, HH2, HR2, hl2, hS⟩; replace HH2 := Lib.hid HH2; replace HR2 := Lib.hid HR2; obtain ⟨A2, c2, rfl, _, _⟩ := hS.ro.2.shape)
      | ((with_reducible refine qM ?_); (first | refine qS hS ?_ | refine qT hS ?_); clear hS; intro w_ hS; (try simp only [Act.put, Act.eval, zz, Value.cells] at hS)))
     all_goals first
      | exact ⟨⟨d + 1, n + 1, _, L2, by go_num, by go_num, by omega, by omega, by omega, by omega, HH2, HR2, hS.mono (KS.out.and (Az (by decide))) fun D w h => ⟨h.1.1, h.2⟩⟩, by simp [intOf]; omega⟩
      | exact ⟨⟨d + 1, n + 1, pv, L, by go_num, by go_num, by omega, by omega, by omega, by omega, HH, HR, hS⟩, by simp [intOf]; omega⟩
    ·go_wp2_with (first | ((with_reducible refine qB ?_); refine qc ?_ ?_ <;> intro h_ <;> go_prune) | ((with_reducible refine qK ?_); refine qC hS ?_))
     exact ⟨⟨a + 1, n, pv, L, by go_num, rfl, by omega, by omega, by omega, by omega, HH, HR, hS⟩, by simp [intOf]; omega⟩
  ·have hnn : n <= 25 := by omega
   clear ha1 haR hn hc1 hc2
   go_wp2_with (first
    | ((with_reducible refine qB ?_); refine qc ?_ ?_ <;> intro h_ <;> go_prune)
    | ((with_reducible refine qK ?_); refine qC hS ?_)
    | (go_at_call 89; first | (refine (Ct (at_ := 2) HL.out (by omega) hS 1 rfl (fun D w h => kp D w h.1)).mono ?_; clear hS; rintro e w_ ⟨b3, hb3, rfl, hS⟩; replace hS : St w0 w_ (.box g4 37 #[.int .i64 (R : Nat), pv, .int .u64 0, .slice none 0 0, .slice none 0 0, .slice none 0 0] :: .box q 144 #[.slice A l.length c, .int .i64 ((2 + 1 : Nat) : Int)] :: .box g2 37 #[.int .i64 0, .slice none 0 0, .int .u64 0, .slice none 0 0, .slice none 0 0, .slice none 0 0] :: F) (fun D w => K D w /\ Sl w D 2 pv L.length (Ah L)) := hS) | (refine (Ct (at_ := 2 + 1) HL.out (by omega) hS 1 rfl (fun D w h => kp D w h.1)).mono ?_; clear hS; rintro e w_ ⟨b4, hb4, rfl, hS⟩; replace hS : St w0 w_ (.box g4 37 #[.int .i64 (R : Nat), pv, .int .u64 (s0 : Nat), .slice none 0 0, .slice none 0 0, .slice none 0 0] :: .box q 144 #[.slice A l.length c, .int .i64 ((2 + 1 + 1 : Nat) : Int)] :: .box g2 37 #[.int .i64 0, .slice none 0 0, .int .u64 0, .slice none 0 0, .slice none 0 0, .slice none 0 0] :: F) (fun D w => K D w /\ Sl w D 2 pv L.length (Ah L)) := hS))
    | ((with_reducible refine qA 82 ?_); refine Gq rfl _ _ _ _ rfl _ _ rfl rfl (by omega) (by omega) ?_; intro s0 hs0 es0)
    | ((with_reducible refine qA 87 ?_); refine Dj (m := 7) rfl _ _ _ _ rfl rfl rfl (by decide) ?_; intro RU hRU)
    | ((with_reducible refine qM ?_); (first | refine qS hS ?_ | refine qT hS ?_); clear hS; intro w_ hS; (try simp only [Act.put, Act.eval, zz, Value.cells] at hS)))
   have HS0 : Hid (s0 &&& m = s0) := Lib.hid (by have h := es0.out; simp only [Int.toNat_natCast] at h; rw [h, Ju])
   clear es0 hb3 hb4
   obtain ⟨Ap, cp, rfl, _, _⟩ := hS.ro.2.shape
   obtain ⟨K1, k1, kk1, hS2⟩ : ∃ K1 : (Nat -> Prop) -> World -> Prop, (∀ D w, K1 D w -> K D w) /\ (∀ D w, K1 D w -> Sl w D 2 (.slice Ap L.length cp) L.length (Ah L)) /\ St w0 w_ (.box g4 37 #[.int .i64 (R : Nat), .slice Ap L.length cp, .int .u64 (s0 : Nat), .slice none 0 0, .slice none 0 0, .slice none 0 0] :: .box q 144 #[.slice A l.length c, .int .i64 ((2 + 1 + 1 : Nat) : Int)] :: .box g2 37 #[.int .i64 0, .slice none 0 0, .int .u64 0, .slice none 0 0, .slice none 0 0, .slice none 0 0] :: F) K1 := ⟨_, fun _ _ h => h.1, fun _ _ h => h.2, hS⟩
   clear hS
   have hS := hS2.nil 96 5
   clear hS2
   have KS1 := Lib.hid hS.stable
   go_loopw [11] (fun kv wr => ∃ (k t : Nat) (rv : Value) (rs : List AW), kv = .int .i64 (k : Nat) /\ k <= RU /\ t <= 4 + 4 * k /\ Hid (rs.length = k) /\ Hid (∀ z ∈ rs, ROk R m z) /\ St w0 wr (.own rv 96 5 k (AZ rs) :: .box g4 37 #[.int .i64 (R : Nat), .slice Ap L.length cp, .int .u64 (s0 : Nat), rv, .slice none 0 0, .slice none 0 0] :: .box q 144 #[.slice A l.length c, .int .i64 ((t : Nat) : Int)] :: .box g2 37 #[.int .i64 0, .slice none 0 0, .int .u64 0, .slice none 0 0, .slice none 0 0, .slice none 0 0] :: F) K1) (fun kv _ => RU - (intOf kv).toNat)
   case atStart => exact ⟨0, 2 + 1 + 1, _, [], rfl, by omega, by omega, Lib.hid rfl, Lib.hid (fun z hz => by simp at hz), hS⟩
   case round =>
    clear hS
    obtain ⟨k, t, rv, rs, rfl, hk, ht, HRL, HRS, hS⟩ := hrel
    obtain ⟨Ar, cr, rfl, _, _⟩ := Be (hS.own 0 rfl)
    by_cases hkR : k < RU
    ·have hk7 : k < 7 := by omega
     go_wp2_with (first
      | (go_at_call 89; first | (refine (Ct (at_ := t) HL.out (by omega) hS 2 rfl (fun D w h => kp D w (k1 D w h))).mono ?_; clear hS; rintro e w_ ⟨kd, hkd, rfl, hS⟩; simp only [List.set_cons_succ, List.set_cons_zero] at hS) | (refine (Ct (at_ := t + 1) HL.out (by omega) hS 2 rfl (fun D w h => kp D w (k1 D w h))).mono ?_; clear hS; rintro e w_ ⟨tg, htg, rfl, hS⟩; simp only [List.set_cons_succ, List.set_cons_zero] at hS) | (refine (Ct (at_ := t + 1 + 1) HL.out (by omega) hS 2 rfl (fun D w h => kp D w (k1 D w h))).mono ?_; clear hS; rintro e w_ ⟨cy, hcy, rfl, hS⟩; simp only [List.set_cons_succ, List.set_cons_zero] at hS) | (refine (Ct (at_ := t + 1 + 1 + 1) HL.out (by omega) hS 2 rfl (fun D w h => kp D w (k1 D w h))).mono ?_; clear hS; rintro e w_ ⟨cz, hcz, rfl, hS⟩; simp only [List.set_cons_succ, List.set_cons_zero] at hS))
      | ((with_reducible refine qA 102 ?_); refine Dj (m := 4) rfl _ _ _ _ rfl rfl rfl (by decide) ?_; intro z102 h102)
      | ((with_reducible refine qA 103 ?_); refine st_someB rfl _ _ _ _ _ rfl rfl rfl rfl (Iv rfl) ?_; intro rvk)
      | ((with_reducible refine qA 107 ?_); refine Dj (m := R) rfl _ _ _ _ rfl rfl rfl (by omega) ?_; intro z107 h107)
      | ((with_reducible refine qA 108 ?_); refine st_addN (n := 1) rfl _ _ _ _ rfl (fun z => 1 <= z /\ z <= R) rfl rfl (by omega) (by omega) ?_; intro z108 h108)
      | ((with_reducible refine qA 110 ?_); refine Aq rfl _ _ rfl #[.bool rvk, .int .u64 0, .int .u64 0, .int .i64 (z108 : Nat), .int .i64 (k : Nat)] (by kernel_rfl) ?_; (try simp only [Act.put, List.setIfInBounds_toArray, List.set_cons_zero, List.set_cons_succ]))
      | ((with_reducible refine qA 16 ?_); refine qa hS #[.bool false, .int .u64 0, .int .u64 0, .int .i64 0, .int .i64 0] ?_; clear hS; intro g16 w_ hS)
      | ((with_reducible refine qm 96 ?_); refine qS hS ?_; clear hS; intro w_ hS; (try simp only [Act.put, Act.eval, zz, Value.cells] at hS); cases rvk)
      | (go_at_call 91; refine (Hu cy cz m hm _).mono ?_; rintro r_ w_ ⟨_, rfl, ⟨ya, na, rfl, s1, s2, s3, s4, s5⟩, hb_⟩; replace hS := hS.ext hb_; clear hb_)
      | ((with_reducible refine qm 94 ?_); refine st_bstore2 hS 0 rfl _ _ _ rfl _ _ _ _ rfl rfl rfl (by simp) rfl rfl (by kernel_rfl) ?_; clear hS; intro w_ hS; (try simp only [Act.put, Act.eval, zz, Value.cells] at hS))
      | ((with_reducible refine qK ?_); refine qL hS Tryz.underlying96 ?_)
      | ((with_reducible refine qA 122 ?_); first | (refine DV hS 1 rfl rfl _ _ _ _ rfl rfl Hm (.slice Ar k cr) k (AZ rs) (.agg #[.bool false, .int .u64 (ya : Nat), .int .u64 (na : Nat), .int .i64 (z108 : Nat), .int .i64 (k : Nat)]) #[.bool false, .int .u64 (ya : Nat), .int .u64 (na : Nat), .int .i64 (z108 : Nat), .int .i64 (k : Nat)] rfl (by kernel_rfl) rfl rfl rfl rfl (by intro u hu; simp at hu; rcases hu with rfl | rfl | rfl | rfl | rfl <;> rfl) (by omega) (by omega) ?_; clear hS; intro z_ v' w_ hS; (try simp only [Act.put, Act.eval, zz, Value.cells] at hS); obtain ⟨A', c', rfl, _, _⟩ := Be (hS.own 1 rfl)) | (refine DV hS 1 rfl rfl _ _ _ _ rfl rfl Hm (.slice Ar k cr) k (AZ rs) (.agg #[.bool true, .int .u64 0, .int .u64 0, .int .i64 (z108 : Nat), .int .i64 (k : Nat)]) #[.bool true, .int .u64 0, .int .u64 0, .int .i64 (z108 : Nat), .int .i64 (k : Nat)] rfl (by kernel_rfl) rfl rfl rfl rfl (by intro u hu; simp at hu; rcases hu with rfl | rfl | rfl | rfl <;> rfl) (by omega) (by omega) ?_; clear hS; intro z_ v' w_ hS; (try simp only [Act.put, Act.eval, zz, Value.cells] at hS); obtain ⟨A', c', rfl, _, _⟩ := Be (hS.own 1 rfl)))
      | ((with_reducible refine qB ?_); refine qc ?_ ?_ <;> intro h_ <;> go_prune)
      | ((with_reducible refine qK ?_); refine qC hS ?_)
      | ((with_reducible refine qM ?_); (first | refine qS hS ?_ | refine qT hS ?_); clear hS; intro w_ hS; (try simp only [Act.put, Act.eval, zz, Value.cells] at hS)))
     ·have e : AZ (rs ++ [⟨false, ya, na, (z108 : Nat), (k : Nat)⟩]) = AZ rs ++ [.bool false, .int .u64 (ya : Nat), .int .u64 (na : Nat), .int .i64 (z108 : Nat), .int .i64 (k : Nat)] := GA ..
      refine ⟨⟨k + 1, _, .slice A' (k + 1) c', rs ++ [⟨false, ya, na, (z108 : Nat), (k : Nat)⟩], by go_num, hkR, ?_, Lib.hid (by rw [List.length_append, HRL.out]; rfl), Lib.hid (H9 HRS.out ⟨⟨by simp only; omega, by simp only; omega⟩, ⟨by simp only; omega, by simp only; omega⟩, s1, s2, s3, s4, s5, fun h => by cases h⟩), by rw [e]; exact hS.sub (List.sublist_cons_self _ _)⟩, by simp [intOf]; omega⟩
      omega
     ·have e : AZ (rs ++ [⟨true, 0, 0, (z108 : Nat), (k : Nat)⟩]) = AZ rs ++ [.bool true, .int .u64 0, .int .u64 0, .int .i64 (z108 : Nat), .int .i64 (k : Nat)] := GA ..
      refine ⟨⟨k + 1, _, .slice A' (k + 1) c', rs ++ [⟨true, 0, 0, (z108 : Nat), (k : Nat)⟩], by go_num, hkR, ?_, Lib.hid (by rw [List.length_append, HRL.out]; rfl), Lib.hid (H9 HRS.out ⟨⟨by simp only; omega, by simp only; omega⟩, ⟨by simp only; omega, by simp only; omega⟩, Nat.zero_and m, Nat.zero_and m, Nat.zero_and 0, Nat.zero_lt_succ _, Nat.zero_lt_succ _, fun _ => ⟨rfl, rfl⟩⟩), by rw [e]; exact hS.sub (List.sublist_cons_self _ _)⟩, by simp [intOf]; omega⟩
      omega
    ·obtain rfl : RU = k := by omega
     go_wp2_with (first
      | (go_at_call 89; first | (refine (Ct (at_ := t) HL.out (by omega) hS 2 rfl (fun D w h => kp D w (k1 D w h))).mono ?_; clear hS; rintro e w_ ⟨bv, hbv, rfl, hS⟩; simp only [List.set_cons_succ, List.set_cons_zero] at hS) | (refine (Ct (at_ := t + 1) HL.out (by omega) hS 2 rfl (fun D w h => kp D w (k1 D w h))).mono ?_; clear hS; rintro e w_ ⟨bg, hbg, rfl, hS⟩; simp only [List.set_cons_succ, List.set_cons_zero] at hS))
      | ((with_reducible refine qA 127 ?_); refine Dj (m := 4) rfl _ _ _ _ rfl rfl rfl (by decide) ?_; intro NV hNV)
      | ((with_reducible refine qA 130 ?_); refine Dj (m := 3) rfl _ _ _ _ rfl rfl rfl (by decide) ?_; intro g3 hg3)
      | ((with_reducible refine qA 131 ?_); refine st_addN (n := 1) rfl _ _ _ _ rfl (fun z => 1 <= z /\ z <= 3) rfl rfl (by omega) (by omega) ?_; intro GO hGO)
      | ((with_reducible refine qB ?_); refine qc ?_ ?_ <;> intro h_ <;> go_prune))
     obtain ⟨K2, j1, k2, kr2, hS2⟩ : ∃ K2 : (Nat -> Prop) -> World -> Prop, (∀ D w, K2 D w -> K D w) /\ (∀ D w, K2 D w -> Sl w D 2 (.slice Ap L.length cp) L.length (Ah L)) /\ (∀ D w, K2 D w -> Sl w D 5 (.slice Ar RU cr) RU (AZ rs)) /\ St w0 w_ (.box g4 37 #[.int .i64 (R : Nat), .slice Ap L.length cp, .int .u64 (s0 : Nat), .slice Ar RU cr, .slice none 0 0, .slice none 0 0] :: .box q 144 #[.slice A l.length c, .int .i64 ((t + 1 + 1 : Nat) : Int)] :: .box g2 37 #[.int .i64 0, .slice none 0 0, .int .u64 0, .slice none 0 0, .slice none 0 0, .slice none 0 0] :: F) K2 := ⟨_, fun _ _ h => k1 _ _ h.1, fun _ _ h => kk1 _ _ h.1, fun _ _ h => h.2, hS.freeze 0 (by decide) rfl⟩
     clear hS
     have hS := hS2.nil 94 2
     clear hS2
     have KS2 := Lib.hid hS.stable
     go_loopw [19] (fun jv wr => ∃ (j u : Nat) (nv : Value) (ns : List (Nat × Nat)), jv = .int .i64 (j : Nat) /\ j <= NV /\ u <= 40 + 2 * j /\ ns.length <= j /\ Hid (∀ z ∈ ns, KOk m z /\ Bv z (closM L s0) = false) /\ St w0 wr (.own nv 94 2 ns.length (Bd ns) :: .box g4 37 #[.int .i64 (R : Nat), .slice Ap L.length cp, .int .u64 (s0 : Nat), .slice Ar RU cr, nv, .slice none 0 0] :: .box q 144 #[.slice A l.length c, .int .i64 ((u : Nat) : Int)] :: .box g2 37 #[.int .i64 0, .slice none 0 0, .int .u64 0, .slice none 0 0, .slice none 0 0, .slice none 0 0] :: F) K2) (fun jv _ => NV - (intOf jv).toNat)
     case atStart => exact ⟨0, t + 1 + 1, _, [], rfl, by omega, by omega, by simp, Lib.hid (fun z hz => by simp at hz), hS⟩
     case round =>
      clear hS
      obtain ⟨j, u, nv, ns, rfl, hj, hu, hnl, HNS, hS⟩ := hrel
      obtain ⟨An, cn, rfl, _, _⟩ := Be (hS.own 0 rfl)
      by_cases hjN : j < NV
      ·go_wp2_with (first
        | (go_at_call 89; first | (refine (Ct (at_ := u) HL.out (by omega) hS 2 rfl (fun D w h => kp D w (j1 D w h))).mono ?_; clear hS; rintro e w_ ⟨yb, hyb, rfl, hS⟩; simp only [List.set_cons_succ, List.set_cons_zero] at hS) | (refine (Ct (at_ := u + 1) HL.out (by omega) hS 2 rfl (fun D w h => kp D w (j1 D w h))).mono ?_; clear hS; rintro e w_ ⟨nb, hnb, rfl, hS⟩; simp only [List.set_cons_succ, List.set_cons_zero] at hS))
        | ((with_reducible refine qA 145 ?_); refine Dj (m := R) rfl _ _ _ _ rfl rfl rfl (by omega) ?_; intro z145 h145)
        | ((with_reducible refine qA 147 ?_); refine Eg (k := .i64) rfl _ _ _ _ _ rfl rfl rfl (fun z => z < 256) (z := 2 ^ (z145 + 1)) rfl (run_shl2 (by omega)) (Nat.lt_of_le_of_lt (Nat.pow_le_pow_right (by decide) (show z145 + 1 <= 5 by omega)) (by decide)) ?_; intro z147 h147)
        | ((with_reducible refine qA 148 ?_); refine Eg (k := .i64) rfl _ _ _ _ _ rfl rfl rfl (fun _ => True) (z := yb ||| z147) rfl (run_orN hyb h147) trivial ?_; intro z148 _)
        | (go_at_call 91; refine (Hu z148 nb m hm _).mono ?_; rintro r_ w_ ⟨_, rfl, ⟨ya, na, rfl, s1, s2, s3, s4, s5⟩, hb_⟩; replace hS := hS.ext hb_; clear hb_)
        | ((with_reducible refine qA 22 ?_); refine qa hS #[.int .u64 0, .int .u64 0] ?_; clear hS; intro g22 w_ hS)
        | ((with_reducible refine qB ?_); refine qc ?_ ?_ <;> intro h_ <;> go_prune)
        | ((with_reducible refine qK ?_); refine qC hS ?_)
        | ((with_reducible refine qM ?_); (first | refine qS hS ?_ | refine qT hS ?_); clear hS; intro w_ hS; (try simp only [Act.put, Act.eval, zz, Value.cells] at hS)))
       obtain ⟨hld, hHb⟩ : ∃ hld : Bool, hld = Bv (ya, na) (closM L s0) := ⟨_, rfl⟩
       have HB := Lib.hid hHb
       clear hHb
       refine Ci [.i (.agg #[.int .u64 (ya : Nat), .int .u64 (na : Nat)]), .q g4 1, .i (.slice Ap L.length cp), .q g4 2, .i (.int .u64 (s0 : Nat)), .i (.int .u64 (closM L s0 : Nat)), .i (.bool hld), .i (.bool (!hld))] ⟨uR (h := fun w hW hN => (hS.ext hW).box 0 rfl), uF, uC (h := fun w hW hN => (hS.ext hW).shut 2 rfl 1 rfl), uF, uC (h := fun w hW hN => (hS.ext hW).shut 2 rfl 2 rfl), ?_, ?_, uU, trivial⟩ ?_
       ·refine uT fun b__ w hW hE K hK => ?_
        have e154 := hE 154
        have e156 := hE 156
        exact AC rfl (by kernel_rfl) (by simp only [List.map_cons, List.map_nil, e154, e156]) (rclos_any (k2 _ _ (hS.ext hW).ro) HH.out.inr (by omega) s0) fun v w' h hb => hK v w' h hb
       ·refine uT fun b__ w hW hE K hK => ?_
        have e152 := hE 152
        have e157 := hE 157
        exact AC rfl (by kernel_rfl) (by simp only [List.map_cons, List.map_nil, e152, e157]) (rholds_any (y := ya) (n := na) (by unfold BK; omega) (by unfold BK; omega) (closM_ltT L s0) _) fun v w' h hb => hK v w' (h.trans (by rw [HB.out])) hb
       ·intro vs wz hW hT
        obtain ⟨e152, e153, e154, e155, e156, e157, e158, e159, -⟩ := hT
        simp only [AE, Act.put, zz, ze]
        replace hS := hS.ext hW
        rw [e159]
        clear hW e152 e153 e154 e155 e156 e157 e158 e159
        cases hld with
        | true =>
         go_wp2_with fail
         exact ⟨⟨j + 1, u + 1 + 1, _, ns, by go_num, hjN, by omega, by omega, HNS, hS.sub (List.sublist_cons_self _ _)⟩, by simp [intOf]; omega⟩
        | false =>
         go_wp2_with (first
          | ((with_reducible refine qK ?_); refine qC hS ?_)
          | ((with_reducible refine qK ?_); refine qL hS Tryz.underlying94 ?_)
          | ((with_reducible refine qA 163 ?_); refine DV hS 1 rfl rfl _ _ _ _ rfl rfl ty_mkc (.slice An ns.length cn) ns.length (Bd ns) (.agg #[.int .u64 (ya : Nat), .int .u64 (na : Nat)]) #[.int .u64 (ya : Nat), .int .u64 (na : Nat)] rfl (by kernel_rfl) rfl rfl rfl rfl (by intro u hu; simp at hu; rcases hu with rfl | rfl <;> rfl) (by omega) (by omega) ?_; clear hS; intro z_ v' w_ hS; (try simp only [Act.put, Act.eval, zz, Value.cells] at hS); obtain ⟨A', c', rfl, _, _⟩ := Be (hS.own 1 rfl))
          | ((with_reducible refine qM ?_); (first | refine qS hS ?_ | refine qT hS ?_); clear hS; intro w_ hS; (try simp only [Act.put, Act.eval, zz, Value.cells] at hS)))
         have e : Bd (ns ++ [(ya, na)]) = Bd ns ++ [.int .u64 (ya : Nat), .int .u64 (na : Nat)] := I8 ..
         exact ⟨⟨j + 1, u + 1 + 1, .slice A' (ns.length + 1) c', ns ++ [(ya, na)], by go_num, hjN, by omega, by simp; omega, Lib.hid (H9 HNS.out ⟨⟨s1, s2, s3, s4, s5⟩, HB.out.symm⟩), by rw [e, List.length_append]; exact hS.sub (List.sublist_cons_self _ _)⟩, by simp [intOf]; omega⟩
      ·obtain rfl : NV = j := by omega
       go_wp2_with (first | ((with_reducible refine qB ?_); refine qc ?_ ?_ <;> intro h_ <;> go_prune))
       obtain ⟨K3, j3, k3, kr3, kn3, hS2⟩ : ∃ K3 : (Nat -> Prop) -> World -> Prop, (∀ D w, K3 D w -> K D w) /\ (∀ D w, K3 D w -> Sl w D 2 (.slice Ap L.length cp) L.length (Ah L)) /\ (∀ D w, K3 D w -> Sl w D 5 (.slice Ar RU cr) RU (AZ rs)) /\ (∀ D w, K3 D w -> Sl w D 2 (.slice An ns.length cn) ns.length (Bd ns)) /\ St w0 wr (.box g4 37 #[.int .i64 (R : Nat), .slice Ap L.length cp, .int .u64 (s0 : Nat), .slice Ar RU cr, .slice An ns.length cn, .slice none 0 0] :: .box q 144 #[.slice A l.length c, .int .i64 ((u : Nat) : Int)] :: .box g2 37 #[.int .i64 0, .slice none 0 0, .int .u64 0, .slice none 0 0, .slice none 0 0, .slice none 0 0] :: F) K3 := ⟨_, fun _ _ h => j1 _ _ h.1, fun _ _ h => k2 _ _ h.1, fun _ _ h => kr2 _ _ h.1, fun _ _ h => h.2, hS.freeze 0 (by decide) rfl⟩
       clear hS
       have hS := hS2.nil 94 2
       clear hS2
       have KS3 := Lib.hid hS.stable
       go_loopw [23] (fun jv wr => ∃ (j x : Nat) (gv : Value) (gs : List (Nat × Nat)), jv = .int .i64 (j : Nat) /\ j <= GO /\ x <= 50 + 2 * j /\ Hid (gs.length = j) /\ Hid (∀ z ∈ gs, KOk m z) /\ St w0 wr (.own gv 94 2 j (Bd gs) :: .box g4 37 #[.int .i64 (R : Nat), .slice Ap L.length cp, .int .u64 (s0 : Nat), .slice Ar RU cr, .slice An ns.length cn, gv] :: .box q 144 #[.slice A l.length c, .int .i64 ((x : Nat) : Int)] :: .box g2 37 #[.int .i64 0, .slice none 0 0, .int .u64 0, .slice none 0 0, .slice none 0 0, .slice none 0 0] :: F) K3) (fun jv _ => GO - (intOf jv).toNat)
       case atStart => exact ⟨0, u, _, [], rfl, by omega, by omega, Lib.hid rfl, Lib.hid (fun z hz => by simp at hz), hS⟩
       case round =>
        clear hS
        obtain ⟨j, x, gv, gs, rfl, hj2, hx, HGL, HGS, hS⟩ := hrel
        obtain ⟨Ag, cg, rfl, _, _⟩ := Be (hS.own 0 rfl)
        by_cases hjG : j < GO
        ·go_wp2_with (first
          | (go_at_call 89; first | (refine (Ct (at_ := x) HL.out (by omega) hS 2 rfl (fun D w h => kp D w (j3 D w h))).mono ?_; clear hS; rintro e w_ ⟨yb, hyb, rfl, hS⟩; simp only [List.set_cons_succ, List.set_cons_zero] at hS) | (refine (Ct (at_ := x + 1) HL.out (by omega) hS 2 rfl (fun D w h => kp D w (j3 D w h))).mono ?_; clear hS; rintro e w_ ⟨nb, hnb, rfl, hS⟩; simp only [List.set_cons_succ, List.set_cons_zero] at hS))
          | ((with_reducible refine qB ?_); refine qc ?_ ?_ <;> intro h_ <;> go_prune))
         have h0d := hS.drew
         refine wp_zS [5, 6, 7, 9] [some (.pointer (some ⟨g4, 5, none⟩)), some (.slice Ag j cg), some (.int .i64 (yb : Nat)), some (.int .i64 (nb : Nat)), some (.int .u8 (m : Nat)), none, none, none, some (.pointer (some ⟨g4, 5, none⟩)), none] (fun vs w => match vs with | [] => St w0 w (.own (.slice Ag j cg) 94 2 j (Bd gs) :: .box g4 37 #[.int .i64 (R : Nat), .slice Ap L.length cp, .int .u64 (s0 : Nat), .slice Ar RU cr, .slice An ns.length cn, .slice Ag j cg] :: .box q 144 #[.slice A l.length c, .int .i64 ((x + 1 + 1 : Nat) : Int)] :: .box g2 37 #[.int .i64 0, .slice none 0 0, .int .u64 0, .slice none 0 0, .slice none 0 0, .slice none 0 0] :: F) K3 | [z] => ∃ a b : Nat, z = .agg #[.int .u64 (a : Nat), .int .u64 (b : Nat)] /\ KOk m (a, b) /\ St w0 w (.own (.slice Ag j cg) 94 2 j (Bd gs) :: .box g4 37 #[.int .i64 (R : Nat), .slice Ap L.length cp, .int .u64 (s0 : Nat), .slice Ar RU cr, .slice An ns.length cn, .slice Ag j cg] :: .box q 144 #[.slice A l.length c, .int .i64 ((x + 1 + 1 : Nat) : Int)] :: .box g2 37 #[.int .i64 0, .slice none 0 0, .int .u64 0, .slice none 0 0, .slice none 0 0, .slice none 0 0] :: F) K3 | [_, z] => ∃ a b : Nat, KOk m (a, b) /\ St w0 w (.own (.slice Ag j cg) 94 2 j (Bd gs) :: .box g4 37 #[.int .i64 (R : Nat), .slice Ap L.length cp, .int .u64 (s0 : Nat), .slice Ar RU cr, .slice An ns.length cn, .slice Ag j cg] :: .box q 144 #[.slice A l.length c, .int .i64 ((x + 1 + 1 : Nat) : Int)] :: .box g2 37 #[.int .i64 0, .slice none 0 0, .int .u64 0, .slice none 0 0, .slice none 0 0, .slice none 0 0] :: F) (fun D w => K3 D w /\ Sl w D 2 z 1 [.int .u64 (a : Nat), .int .u64 (b : Nat)]) | [_, _, p'] => ∃ a b : Nat, KOk m (a, b) /\ St w0 w (.own p' 94 2 (j + 1) (Bd gs ++ [.int .u64 (a : Nat), .int .u64 (b : Nat)]) :: .box g4 37 #[.int .i64 (R : Nat), .slice Ap L.length cp, .int .u64 (s0 : Nat), .slice Ar RU cr, .slice An ns.length cn, .slice Ag j cg] :: .box q 144 #[.slice A l.length c, .int .i64 ((x + 1 + 1 : Nat) : Int)] :: .box g2 37 #[.int .i64 0, .slice none 0 0, .int .u64 0, .slice none 0 0, .slice none 0 0, .slice none 0 0] :: F) K3 | [_, _, p', _] => ∃ a b : Nat, KOk m (a, b) /\ St w0 w (.own p' 94 2 (j + 1) (Bd gs ++ [.int .u64 (a : Nat), .int .u64 (b : Nat)]) :: .box g4 37 #[.int .i64 (R : Nat), .slice Ap L.length cp, .int .u64 (s0 : Nat), .slice Ar RU cr, .slice An ns.length cn, p'] :: .box q 144 #[.slice A l.length c, .int .i64 ((x + 1 + 1 : Nat) : Int)] :: .box g2 37 #[.int .i64 0, .slice none 0 0, .int .u64 0, .slice none 0 0, .slice none 0 0, .slice none 0 0] :: F) K3 | _ => False) ?_ ⟨vF, ?_, vM, vM, vM, ?_, ?_, ?_, vF, ?_, trivial⟩ ?_
         ·first | assumption | (dsimp only; assumption)
         ·refine vR 0 2 fun b__ w vs hS h1 h2 hE K hK => ?_
          rcases vs with _ | ⟨x0, _ | ⟨x1, _ | ⟨x2, vs⟩⟩⟩ <;> first | (exfalso; first | exact hS | (revert h1 h2; simp <;> omega); done) | ((have e175 := hE 175); (first | exact At rfl e175 (by kernel_rfl) (hS.shut 1 rfl 5 rfl) (hK _ rfl) | (obtain ⟨_, _, _, hS⟩ := hS; exact At rfl e175 (by kernel_rfl) (hS.shut 1 rfl 5 rfl) (hK _ rfl)) | (obtain ⟨_, _, _, _, hS⟩ := hS; exact At rfl e175 (by kernel_rfl) (hS.shut 1 rfl 5 rfl) (hK _ rfl))))
         ·refine vX 0 fun b__ w vs hS hl hE K hK => ?_
          obtain rfl := Gi hl
          have e177 := hE 177
          have e178 := hE 178
          have e179 := hE 179
          exact Cc rfl (by kernel_rfl) (by simp only [List.map_cons, List.map_nil, e177, e178, e179]) (Hu yb nb m hm _) fun e w' ⟨z, he, ⟨a, b, hz, h2, h3, h4, h5, h6⟩, hb_⟩ => ⟨z, he, hK z w' ⟨a, b, hz, ⟨h2, h3, h4, h5, h6⟩, hS.ext hb_⟩⟩
         ·refine vX 1 fun b__ w vs hS hl hE K hK => ?_
          obtain ⟨x0, rfl⟩ := Fu hl
          have e180 := hE 180
          obtain ⟨a, b, rfl, hk1, hS⟩ := hS
          refine Bj (ps := [(0, .agg #[.int .u64 (a : Nat), .int .u64 (b : Nat)])]) (cells := #[.int .u64 (a : Nat), .int .u64 (b : Nat)]) rfl Tryz.underlying35 (by simp [e180]) (by kernel_rfl) ?_
          intro w' hbx hbel
          exact hK _ w' ⟨a, b, hk1, hS.ret hbel (Az (by decide)) (⟨by simp, _, 1, rfl, by omega, by unfold maxLen; omega, fun _ => ⟨w.heap.size, 0, rfl, Nat.le_refl _, hbx.lt, fun j x hj => by rw [Nat.zero_add]; exact (hbx.cell j).trans (by simpa using hj)⟩⟩ : Sl w' (w.heap.size <= ·) 2 (.slice (some ⟨w.heap.size, 0, none⟩) 1 1) 1 [.int .u64 (a : Nat), .int .u64 (b : Nat)])⟩
         ·refine vX 2 fun b__ w vs hS hl hE K hK => ?_
          obtain ⟨x0, x1, rfl⟩ := Ft hl
          have e176 := hE 176
          have e181 := hE 181
          obtain ⟨a, b, hk1, h3⟩ := hS
          refine Du rfl ty_mkc e176 (h3.own 0 rfl) e181 h3.ro.2 (by intro u hu; simp at hu; rcases hu with rfl | rfl <;> rfl) (by omega) (by omega) h3.size ?_
          intro v' w' ho hg hat
          exact hK v' w' ⟨a, b, hk1, (h3.upd 0 rfl (.own v' 94 2 (j + 1) (Bd gs ++ [Value.int .u64 (a : Nat), Value.int .u64 (b : Nat)])) hg ho hat).mono KS3.out fun D w h => h.1⟩
         ·refine vX 3 fun b__ w vs hS hl hE K hK => ?_
          obtain ⟨x0, x1, x2, rfl⟩ := Fr hl
          have e183 := hE 183
          have e182 := hE 182
          obtain ⟨a, b, hk1, h3⟩ := hS
          refine CB rfl e183 e182 (h3.box 1 rfl) (by simp) (Em (h3.own 0 rfl)) (GI (h3.own 0 rfl)) (by kernel_rfl) ?_
          intro w' hbx hup
          exact hK _ w' ⟨a, b, hk1, h3.upd 1 rfl (.box g4 37 #[.int .i64 (R : Nat), .slice Ap L.length cp, .int .u64 (s0 : Nat), .slice Ar RU cr, .slice An ns.length cn, x2]) (Bg hup) ⟨(h3.holds _ (List.mem_of_getElem? (i := 1) rfl)).1, hbx⟩ fun _ e => .inl e⟩
         ·intro us wz vs hS hl hT
          obtain ⟨x0, x1, x2, x3, rfl⟩ := vs_len4 hl
          obtain ⟨e175, e176, e177, e178, e179, e180, e181, e182, e183, -⟩ := hT
          clear hl
          simp only [AE, Act.put, zz, ze]
          obtain ⟨a, b, hk1, hS⟩ := hS
          clear h0d
          go_wp2_with fail
          have e : Bd (gs ++ [(a, b)]) = Bd gs ++ [.int .u64 (a : Nat), .int .u64 (b : Nat)] := I8 ..
          exact ⟨⟨j + 1, x + 1 + 1, _, gs ++ [(a, b)], by go_num, hjG, by omega, Lib.hid (by rw [List.length_append, HGL.out]; rfl), Lib.hid (H9 HGS.out hk1), by rw [e]; exact hS⟩, by simp [intOf]; omega⟩
        ·obtain rfl : GO = j := by omega
         go_wp2_with (first
          | ((with_reducible refine qB ?_); refine qc ?_ ?_ <;> intro h_ <;> go_prune)
          | ((with_reducible refine qK ?_); refine qL hS Tryz.underlying37 ?_)
          | ((with_reducible refine qM ?_); (first | refine qS hS ?_ | refine qT hS ?_); clear hS; intro w_ hS; (try simp only [Act.put, Act.eval, zz, Value.cells] at hS)))
         have HM : Cu ⟨R, some L, s0, rs, ns, gs⟩ L R := ⟨rfl, rfl, hR.1, hR.2, HH.out, HR.out, by omega, by rw [<- HM.out]; exact HS0.out, by show rs.length <= 6; rw [HRL.out]; omega, by rw [<- HM.out]; exact HRS.out, by show ns.length <= 3; omega, by rw [<- HM.out]; exact HNS.out, by show gs.length <= 3; rw [HGL.out]; omega, by show 1 <= gs.length; rw [HGL.out]; omega, by rw [<- HM.out]; exact HGS.out⟩
         have hS1 := hS.freeze 0 (by decide) rfl
         refine Bl Tryz.results50 rfl (hS.box 3 rfl) Tryz.underlying37 rfl (by kernel_rfl) rfl ?_
         refine ⟨_, rfl, _, ⟨L, R, HM⟩, (hS1.sub (F' := F) (((List.sublist_cons_self _ _).trans (List.sublist_cons_self _ _)).trans (List.sublist_cons_self _ _))).mono (KS.out.and Dt) fun D w h => ⟨j3 _ _ h.1, ?_⟩⟩
         refine ⟨_, _, _, _, L, rfl, rfl, k3 _ _ h.1, ?_, kn3 _ _ h.1, ?_⟩
         ·show Sl w D 5 _ rs.length _; rw [HRL.out]; exact kr3 _ _ h.1
         ·show Sl w D 2 _ gs.length _; rw [HGL.out]; exact h.2
end
section
open Go.RowKit
structure GK where
 b : Option (Nat × Option (Array Value))
 K : (Nat -> Prop) -> World -> Prop
def GK.F (ty : TypeId) (zs : Array Value) (s : GK) : List Aj := match s.b with
 | none => []
 | some (g, o) => [.box g ty (o.getD zs)]
def GJ (w0 : World) (F : List Aj) (ty : TypeId) (zs : Array Value) (s : World × GK) : Prop := St w0 s.1 (s.2.F ty zs ++ F) s.2.K
def GR (w0 : World) (F : List Aj) (ty : TypeId) (zs : Array Value) (s s' : World × GK) : Prop :=
 (GJ w0 F ty zs s -> GJ w0 F ty zs s') /\ (∀ D w, s'.2.K D w -> s.2.K D w) /\ (∀ g, s.2.b = some (g, none) -> ∃ o, s'.2.b = some (g, o)) /\ (∀ g cs, s.2.b = some (g, some cs) -> s'.2.b = some (g, some cs))
theorem GR.refl {w0 : World} {F : List Aj} {ty : TypeId} {zs : Array Value} : ∀ s, GR w0 F ty zs s s := fun _ => ⟨id, fun _ _ h => h, fun _ h => ⟨_, h⟩, fun _ _ h => h⟩
theorem GR.var {w0 : World} {F : List Aj} {ty : TypeId} {zs : Array Value} {s s' : World × GK} (h : GR w0 F ty zs s s') {v : Value} (k : ∃ g o, v = .pointer (some ⟨g, 0, none⟩) /\ s.2.b = some (g, o)) : ∃ g o, v = .pointer (some ⟨g, 0, none⟩) /\ s'.2.b = some (g, o) := by
 obtain ⟨g, o, e, k⟩ := k
 cases o with
 | none => obtain ⟨o, k⟩ := h.2.2.1 g k; exact ⟨g, o, e, k⟩
 | some cs => exact ⟨g, _, e, h.2.2.2 g cs k⟩
theorem GR.trans {w0 : World} {F : List Aj} {ty : TypeId} {zs : Array Value} : ∀ a b c, GR w0 F ty zs a b -> GR w0 F ty zs b c -> GR w0 F ty zs a c := fun a b c h k =>
 ⟨fun j => k.1 (h.1 j), fun D w j => h.2.1 D w (k.2.1 D w j), fun g j => by
  obtain ⟨o, j2⟩ := h.2.2.1 g j
  obtain ⟨g', o', e, j3⟩ := k.var ⟨g, o, rfl, j2⟩
  injection e with e; injection e with e; injection e with e; subst e
  exact ⟨o', j3⟩, fun g cs j => k.2.2.2 g cs (h.2.2.2 g cs j)⟩
def GN (ia is : Nat) (i : Nat) (s : World × GK) : Prop := (i = ia -> s.2.b = none) /\ (i = is -> ∀ g cs, s.2.b ≠ some (g, some cs))
theorem GN.start {ia is : Nat} {w : World} {K : (Nat -> Prop) -> World -> Prop} (i : Nat) : GN ia is i (w, ⟨none, K⟩) := ⟨fun _ => rfl, fun _ _ _ h => by cases h⟩
theorem GK.more {w0 : World} {F : List Aj} {ty : TypeId} {zs : Array Value} {w : World × GK} {w' : World} {K' : (Nat -> Prop) -> World -> Prop} {ia is i : Nat} (h : St w0 w' (w.2.F ty zs ++ F) K') (hk : ∀ D w1, K' D w1 -> w.2.K D w1) :
  GR w0 F ty zs w (w', { w.2 with K := K' }) /\ ∀ j, j ≠ i -> GN ia is j w -> GN ia is j (w', { w.2 with K := K' }) := ⟨⟨fun _ => h, hk, fun _ h => ⟨_, h⟩, fun _ _ h => h⟩, fun _ _ h => h⟩
theorem GK.made {w0 : World} {F : List Aj} {ty : TypeId} {zs : Array Value} {w : World × GK} {w' : World} {g ia is : Nat} (hn : w.2.b = none) (h : St w0 w' (.box g ty zs :: F) w.2.K) :
  GR w0 F ty zs w (w', { w.2 with b := some (g, none) }) /\ ∀ j, j ≠ ia -> GN ia is j w -> GN ia is j (w', { w.2 with b := some (g, none) }) :=
 ⟨⟨fun _ => h, fun _ _ h => h, fun g h => (by rw [hn] at h; cases h), fun g cs h => (by rw [hn] at h; cases h)⟩, fun j hj _ => ⟨fun e => absurd e hj, fun _ g cs e => by cases e⟩⟩
theorem GK.put {w0 : World} {F : List Aj} {ty : TypeId} {zs : Array Value} {w : World × GK} {w' : World} {g ia is : Nat} {cs : Array Value} (hn : w.2.b = some (g, none)) (h : St w0 w' (.box g ty cs :: F) w.2.K) :
  GR w0 F ty zs w (w', { w.2 with b := some (g, some cs) }) /\ ∀ j, j ≠ is -> GN ia is j w -> GN ia is j (w', { w.2 with b := some (g, some cs) }) :=
 ⟨⟨fun _ => h, fun _ _ h => h, fun g' h => (by rw [hn] at h; injection h with h; injection h with h1 h2; subst h1; exact ⟨_, rfl⟩), fun g cs h => (by rw [hn] at h; cases h)⟩, fun j hj k => ⟨fun e => absurd (k.1 e) (by rw [hn]; exact nofun), fun e => absurd e hj⟩⟩
section
variable {P : Program} {o : Oper} {a : Act} {w : World × GK} {w0 : World} {F : List Aj} {ty : TypeId} {zs : Array Value} {K : Act -> World -> Prop} {Q : Exit -> Act -> World -> Prop}
theorem GJ.none (hJ : GJ w0 F ty zs w) (hn : w.2.b = none) : St w0 w.1 F w.2.K := by
 unfold GJ GK.F at hJ; rw [hn] at hJ; exact hJ
theorem GJ.some {g : Nat} {x : Option (Array Value)} (hJ : GJ w0 F ty zs w) (hn : w.2.b = some (g, x)) : St w0 w.1 (.box g ty (x.getD zs) :: F) w.2.K := by
 unfold GJ GK.F at hJ; rw [hn] at hJ; exact hJ
theorem GJ.cell (hJ : GJ w0 F ty zs w) {g : Nat} {t : TypeId} {cs : Array Value} (i : Nat) (hi : F[i]? = Option.some (Aj.box g t cs)) (j : Nat) {x : Value} (hx : cs[j]? = Option.some x) : w.1.cell? ⟨g, j, Option.none⟩ = Option.some x :=
 ((hJ.holds (.box g t cs) (List.mem_append_right _ (List.mem_of_getElem? hi))).2.cell j).trans hx
theorem GJ.box (hJ : GJ w0 F ty zs w) {g : Nat} {t : TypeId} {cs : Array Value} (i : Nat) (hi : F[i]? = Option.some (Aj.box g t cs)) : Co w.1 g t cs := (hJ.holds (.box g t cs) (List.mem_append_right _ (List.mem_of_getElem? hi))).2
theorem Jj (ho : o.op = .alloc ty) (hz : ((P.info? ty).bind (·.zero)).isSome = true) (hzs : zeroCells P ty = zs) (hJ : GJ w0 F ty zs w) (hn : w.2.b = Option.none)
  (hK : ∀ g w', St w0 w' (.box g ty zs :: F) w.2.K -> K (a.put o.dst (.pointer (some ⟨g, 0, Option.none⟩))) w') : o.wp P a w.1 K Q :=
 opw_alloc ho hz fun w' hb hbel => hK _ w' ((hJ.none hn).new hbel _ ⟨Nat.le_refl _, hzs ▸ hb⟩)
theorem Ji {x y : Operand} {g : Nat} {cs : Array Value} (ho : o.op = .store ty x y) (hx : a.eval x = .pointer (some ⟨g, 0, Option.none⟩)) (hy : a.eval y = .agg cs) (hJ : GJ w0 F ty zs w) (hn : w.2.b = Option.some (g, Option.none)) (hi : (P.info? ty).map (·.size) = Option.some cs.size)
  (hold : zs.size = cs.size) (h1 : cs.all (·.oneCell') = true) (hK : ∀ w', St w0 w' (.box g ty cs :: F) w.2.K -> K (a.put o.dst undef) w') : o.wp P a w.1 K Q := by
 have hS := hJ.some hn
 exact BT ho hx hy (hS.box 0 rfl) hi hold h1 fun w' hb hU => hK w' (hS.upd 0 rfl (.box g ty cs) (Bg hU) ⟨(hS.holds _ (List.mem_cons_self ..)).1, hb⟩ fun _ e => .inl e)
end
def SR (w0 : World) (FX : Bool × Bool -> List Aj) (K : (Nat -> Prop) -> World -> Prop) (s s' : World × (Bool × Bool)) : Prop :=
 (St w0 s.1 (FX s.2) K -> St w0 s'.1 (FX s'.2) K) /\ (s.2.1 = true -> s'.2.1 = true) /\ (s.2.2 = true -> s'.2.2 = true)
theorem SR.refl {w0 : World} {FX : Bool × Bool -> List Aj} {K : (Nat -> Prop) -> World -> Prop} : ∀ s, SR w0 FX K s s := fun _ => ⟨id, id, id⟩
theorem SR.trans {w0 : World} {FX : Bool × Bool -> List Aj} {K : (Nat -> Prop) -> World -> Prop} : ∀ a b c, SR w0 FX K a b -> SR w0 FX K b c -> SR w0 FX K a c := fun _ _ _ h k => ⟨fun j => k.1 (h.1 j), fun j => k.2.1 (h.2.1 j), fun j => k.2.2 (h.2.2 j)⟩
end
section
open Go.RowKit
attribute [local go_sem ↓] Go.wp_at_zero Go.wp_at_succ
set_option maxRecDepth 20000
set_option exponentiation.threshold 5000
theorem LinkP.next {w0 w : World} {F : List Aj} {K : (Nat -> Prop) -> World -> Prop} {L M : List (Nat × Nat)} {x : Nat × Nat} {r : Value} {z : Int} (h : LinkP w0 F K L (x.1 : Nat) (x.2 : Nat) r z w) {j : Nat} (hx : M[j]? = some x) (hL : ∀ u, u ∈ L ↔ u ∈ M.take j) (hN : M.Nodup) (hR : ∀ u ∈ M, (1 <= u.1 /\ u.1 < 64) /\ 1 <= u.2 /\ u.2 < 64) (hA : DS M) :
  z = 0 /\ ∃ L', Hf L' /\ (∀ u, u ∈ L' ↔ u ∈ M.take (j + 1)) /\ St w0 w F fun D w => K D w /\ IsH w D r L' := by
 have hm := List.mem_of_getElem? hx
 have h1 := hR x hm
 have hne := hA.ne hm
 have htk : ∀ u, u ∈ M.take (j + 1) ↔ u ∈ L ++ [x] := fun u => by
  rw [List.take_add_one, hx, List.mem_append, List.mem_append, hL]; simp
 rcases h with ⟨h, _⟩ | ⟨a, b, ha, hb, _, _, _, h⟩
 ·exact absurd ⟨⟨by omega, by omega⟩, ⟨by omega, by omega⟩, by omega⟩ h
 ·obtain rfl : x = (a, b) := Prod.ext (by show x.1 = a; omega) (by show x.2 = b; omega)
  rcases h with ⟨h, _⟩ | ⟨_, h, _⟩ | ⟨_, hz, L', h3, h4, h5⟩
  ·exfalso
   obtain ⟨i, hi, e⟩ := List.getElem_of_mem ((hL _).1 h)
   rw [List.length_take] at hi
   obtain ⟨hj, ej⟩ := List.getElem?_eq_some_iff.1 hx
   rw [List.getElem_take] at e
   exact List.pairwise_iff_getElem.1 hN i j (by omega) hj (by omega) (e.trans ej.symm)
  ·exact absurd (hA.sub fun u hu => List.mem_of_mem_take ((htk u).2 hu)) h
  ·exact ⟨hz, L', h3, fun u => (h4 u).trans (htk u).symm, h5⟩
end
section
open Go.RowKit
attribute [local go_sem ↓] Go.wp_at_zero Go.wp_at_succ
set_option maxRecDepth 20000
set_option exponentiation.threshold 5000
theorem nodup_le : ∀ {T S : List (Nat × Nat)}, T.Nodup -> (∀ y ∈ T, y ∈ S) -> T.length <= S.length
 | [], _, _, _ => by simp
 | t :: T, S, hT, hs => by
  have hT := List.nodup_cons.1 hT
  have ht := hs t (List.mem_cons_self ..)
  have := nodup_le (T := T) (S := S.erase t) hT.2 fun y hy => (List.mem_erase_of_ne (fun e => hT.1 (by rw [<- e]; exact hy))).2 (hs y (List.mem_cons_of_mem _ hy))
  rw [List.length_erase_of_mem ht] at this
  have := List.length_pos_of_mem ht
  rw [List.length_cons]
  omega
def Part (M : List (Nat × Nat)) (j : Nat) (L : List (Nat × Nat)) : Prop := Hf L /\ ∀ u, u ∈ L ↔ u ∈ M.take j
theorem Part.len {M L : List (Nat × Nat)} {j : Nat} (h : Part M j L) : L.length <= M.length := nodup_le h.1.asc.nodup fun y hy => List.mem_of_mem_take ((h.2 y).1 hy)
theorem Part.full {M L : List (Nat × Nat)} (h : Part M M.length L) (hM : Asc M) : L = M := Asc.uniq h.1.asc hM fun u => by rw [h.2, List.take_length]
end
section
open Go.RowKit
attribute [local go_sem ↓] Go.wp_at_zero Go.wp_at_succ
set_option maxRecDepth 20000
set_option exponentiation.threshold 5000
theorem ret3_cell {P : Program} {fn : Func} {p t2 t3 : Tmp} {ty : TypeId} {R : Ending -> World -> Prop} {a : Act} {w : World} {g : Nat} {t : TypeId} {cs : Array Value} {d : TypeDesc} {v u : Value} (h : fn.results = #[.cell p ty, .tmp t2, .tmp t3]) (hp : a.eval (.tmp p) = .pointer (some ⟨g, 0, none⟩)) (hb : Co w g t cs)
  (hu : P.underlying ty = some d) (hd : (match d with | .struct _ | .array _ _ => true | _ => false) = true) (hi : (P.info? ty).map (·.size) = some cs.size) (hv : a.eval (.tmp t2) = v) (hv2 : a.eval (.tmp t3) = u) (hdf : a.defers = []) (hR : R (.returned (.tuple #[.agg cs, v, u])) w) : bodyPost P fn R .ret a w := by
 have hr : (results fn a.tmps).run P w = .ok (.tuple #[.agg cs, v, u]) w := by
  have hp' : a.tmps[p]?.getD undef = .pointer (some ⟨g, 0, none⟩) := by simpa [Act.eval] using hp
  have hv' : a.tmps[t2]?.getD undef = v := by simpa [Act.eval] using hv
  have hv2' : a.tmps[t3]?.getD undef = u := by simpa [Act.eval] using hv2
  simp [results, h, hp', hv', hv2', asAddr, run_loadVar_row w g t ty cs (0, 0) d hb hu hd hi]
 exact bodyPost_ret hr hdf hR
theorem B7.parts {w : World} {D : Nat -> Prop} {a lp s rv nv gv : Value} {p : Af} (h : B7 w D (.agg #[a, lp, s, rv, nv, gv]) p) : Fp w D lp p.links /\ A6 w D (.agg #[s]) p.start /\ Bi w D rv p.rules /\ AB w D nv p.never /\ AB w D gv p.goal := by
 obtain ⟨lp', s', rv', nv', gv', he, h1, h2, h3, h4, h5⟩ := h
 have e : a = .int .i64 p.roles /\ lp = lp' /\ s = s' /\ rv = rv' /\ nv = nv' /\ gv = gv' := by simpa using he
 obtain ⟨-, rfl, rfl, rfl, rfl, rfl⟩ := e
 exact ⟨h1, h2, h3, h4, h5⟩
theorem B6.append {w : World} {D : Nat -> Prop} {xs ys : List Value} {l m : List AW} (hx : xs.length = l.length * 5) (h : B6 w D xs l) (k : B6 w D ys m) : B6 w D (xs ++ ys) (l ++ m) := fun i z hi => by
 rcases Nat.lt_or_ge i l.length with h1 | h1
 ·rw [List.getElem?_append_left h1] at hi
  obtain ⟨a, b, q0, q1, q2, q3, q4, q5, q6⟩ := h i z hi
  refine ⟨a, b, ?_, ?_, ?_, ?_, ?_, q5, q6⟩
  all_goals rw [List.getElem?_append_left (by omega)]; assumption
 ·rw [List.getElem?_append_right h1] at hi
  obtain ⟨a, b, q0, q1, q2, q3, q4, q5, q6⟩ := k _ z hi
  refine ⟨a, b, ?_, ?_, ?_, ?_, ?_, q5, q6⟩
  ·rw [List.getElem?_append_right (by omega), <- q0]; congr 1; omega
  ·rw [List.getElem?_append_right (by omega), <- q1]; congr 1; omega
  ·rw [List.getElem?_append_right (by omega), <- q2]; congr 1; omega
  ·rw [List.getElem?_append_right (by omega), <- q3]; congr 1; omega
  ·rw [List.getElem?_append_right (by omega), <- q4]; congr 1; omega
theorem B6.single {w : World} {D : Nat -> Prop} {a b : Value} {z : AW} (ha : A6 w D (.agg #[a]) z.yes) (hb : A6 w D (.agg #[b]) z.no) : B6 w D [.bool z.revoke, a, b, .int .i64 z.target, .int .i64 z.origin] [z] := fun i x hi => by
 cases i with
 | zero => obtain rfl := Option.some.inj (show some z = some x from hi); exact ⟨a, b, rfl, rfl, rfl, rfl, rfl, ha, hb⟩
 | succ i => simp at hi
end
section
open Go.RowKit
attribute [local go_sem ↓] Go.wp_at_zero Go.wp_at_succ
set_option maxRecDepth 20000
set_option exponentiation.threshold 5000
structure Fits (p : Af) : Prop where
 start : p.start < BK
 rules : ∀ z ∈ p.rules, z.yes < BK /\ z.no < BK
 rlen : p.rules.length <= 1000
 never : Small p.never
 nlen : p.never.length <= 1000
 goal : Small p.goal
 glen : p.goal.length <= 1000
theorem CE {w : World} {D : Nat -> Prop} {v : Value} {l : List (Nat × Nat)} (h : AB w D v l) : ∃ A c, v = .slice A l.length c := by
 obtain ⟨xs, h1, -⟩ := h
 obtain ⟨A, c, e, _, _⟩ := h1.shape
 exact ⟨A, c, e⟩
theorem BA {P : Program} {fn : Func} {p t2 : Tmp} {ty : TypeId} {R : Ending -> World -> Prop} {a : Act} {w : World} {g : Nat} {t : TypeId} {cs : Array Value} {d : TypeDesc} {v : Value} (h : fn.results = #[.cell p ty, .tmp t2]) (hp : a.eval (.tmp p) = .pointer (some ⟨g, 0, none⟩)) (hb : Co w g t cs)
  (hu : P.underlying ty = some d) (hd : (match d with | .struct _ | .array _ _ => true | _ => false) = true) (hi : (P.info? ty).map (·.size) = some cs.size) (hv : a.eval (.tmp t2) = v) (hdf : a.defers = []) (hR : R (.returned (.tuple #[.agg cs, v])) w) : bodyPost P fn R .ret a w := by
 have hr : (results fn a.tmps).run P w = .ok (.tuple #[.agg cs, v]) w := by
  have hp' : a.tmps[p]?.getD undef = .pointer (some ⟨g, 0, none⟩) := by simpa [Act.eval] using hp
  have hv' : a.tmps[t2]?.getD undef = v := by simpa [Act.eval] using hv
  simp [results, h, hp', hv', asAddr, run_loadVar_row w g t ty cs (0, 0) d hb hu hd hi]
 exact bodyPost_ret hr hdf hR
theorem cube_sets {w : World} {D : Nat -> Prop} {a b : Value} {z : Nat × Nat} (h : AO w D (.agg #[a, b]) z) : A6 w D (.agg #[a]) z.1 /\ A6 w D (.agg #[b]) z.2 := by
 obtain ⟨_, _, he, h1, h2⟩ := h
 injection he with he; injection he with he; injection he with e1 he; injection he with e2 _
 subst e1 e2
 exact ⟨h1, h2⟩
theorem rr_at {w : World} {D : Nat -> Prop} {l : List AW} {A : Option Addr} {c : Nat} (h : Sl w D 5 (.slice A l.length c) l.length (AZ l)) {k : Nat} (hk : k < l.length) :
  ∃ b o, A = some ⟨b, o, none⟩ /\ w.cell? ⟨b, o + k * 5, none⟩ = some (.bool (l.getD k AL).revoke) /\ w.cell? ⟨b, o + k * 5 + 1, none⟩ = some (.int .u64 ((l.getD k AL).yes : Nat)) /\ w.cell? ⟨b, o + k * 5 + 2, none⟩ = some (.int .u64 ((l.getD k AL).no : Nat)) /\ w.cell? ⟨b, o + k * 5 + 3, none⟩ = some (.int .i64 (l.getD k AL).target) /\ w.cell? ⟨b, o + k * 5 + 4, none⟩ = some (.int .i64 (l.getD k AL).origin) := by
 obtain ⟨_, A', c', e, h1, h2, h3⟩ := h
 injection e with e1 e2 e3
 subst e1
 obtain ⟨b, o, h4, _, _, h5⟩ := h3 (by omega)
 obtain ⟨q0, q1, q2, q3, q4⟩ := rrcells_at l k _ (Br AL hk)
 exact ⟨b, o, h4, h5 _ _ q0, by rw [Nat.add_assoc]; exact h5 _ _ q1, by rw [Nat.add_assoc]; exact h5 _ _ q2, by rw [Nat.add_assoc]; exact h5 _ _ q3, by rw [Nat.add_assoc]; exact h5 _ _ q4⟩
set_option maxHeartbeats 4000000 in
theorem GV {w0 w : World} {F : List Aj} {K : (Nat -> Prop) -> World -> Prop} {v : Value} {p : Af} {L : List (Nat × Nat)} (hl : p.links = some L) (hH : Hf L) (hlen : L.length <= 1000) (hB : Fits p) (hS : St w0 w F K) (kp : ∀ D w, K D w -> CO w D v p) (kt : ∀ D w, K D w -> Bx w /\ D 0) :
  Calls Tryz.prog 52 #[v] w fun e w' => ∃ u, e = .returned (.tuple #[u, .bool true]) /\ St w0 w' F fun D w => K D w /\ B7 w D u p := by
 obtain ⟨pr, lk, ps, rl, nl, gl⟩ := p
 dsimp only at hl
 subst hl
 obtain ⟨lv, rv, nv, gv, L', rfl, hl', h1, h2, h3, h4⟩ := kp _ _ hS.ro
 dsimp only at hl' h1 h2 h3 h4
 obtain rfl : L = L' := by injection hl'
 clear hl'
 obtain ⟨Al, cl, rfl, _, _⟩ := h1.shape
 obtain ⟨Ar, cr, rfl, _, _⟩ := h2.shape
 obtain ⟨An, cn, rfl, _, _⟩ := Sl.shape (h3 : Sl _ _ _ _ _ _)
 obtain ⟨Ag, cg, rfl, _, _⟩ := Sl.shape (h4 : Sl _ _ _ _ _ _)
 clear h1 h2 h3 h4
 have KSt := Lib.hid hS.stable
 have k1 : ∀ D w, K D w -> Sl w D 2 (.slice Al L.length cl) L.length (Ah L) := fun D w h => by
  obtain ⟨_, _, _, _, L', e, e2, h1, _, _, _⟩ := kp D w h
  injection e2 with e2; subst e2
  injection e with e; injection e with e; injection e with _ e; injection e with e1 _; subst e1; exact h1
 have k2 : ∀ D w, K D w -> Sl w D 5 (.slice Ar rl.length cr) rl.length (AZ rl) := fun D w h => by
  obtain ⟨_, _, _, _, L', e, e2, _, h1, _, _⟩ := kp D w h
  injection e with e; injection e with e; injection e with _ e; injection e with _ e; injection e with _ e; injection e with e1 _; subst e1; exact h1
 have k3 : ∀ D w, K D w -> CL w D (.slice An nl.length cn) nl := fun D w h => by
  obtain ⟨_, _, _, _, L', e, e2, _, _, h1, _⟩ := kp D w h
  injection e with e; injection e with e; injection e with _ e; injection e with _ e; injection e with _ e; injection e with _ e; injection e with e1 _; subst e1; exact h1
 have k4 : ∀ D w, K D w -> CL w D (.slice Ag gl.length cg) gl := fun D w h => by
  obtain ⟨_, _, _, _, L', e, e2, _, _, _, h1⟩ := kp D w h
  injection e with e; injection e with e; injection e with _ e; injection e with _ e; injection e with _ e; injection e with _ e; injection e with _ e; injection e with e1 _; subst e1; exact h1
 have HF := Lib.hid hB
 have HH := Lib.hid hH
 have hrl1 := HF.out.rlen
 clear hB hH kp
 dsimp only at hrl1
 go_enter Tryz.func52, Tryz.ntmps52
 go_wp2_with (first
  | ((with_reducible refine qA 1 ?_); refine AA hS rfl _ _ rfl (.agg #[.int .i64 pr, .slice Al L.length cl, .int .u64 (ps : Nat), .slice Ar rl.length cr, .slice An nl.length cn, .slice Ag gl.length cg]) _ rfl rfl ?_; clear hS; intro g1 w_ hS; (try simp only [Act.put, Act.eval, zz, Value.cells] at hS))
  | ((with_reducible refine qA 2 ?_); refine qa hS #[.int .i64 0, .pointer none, .slice none 0 0, .slice none 0 0, .slice none 0 0, .slice none 0 0] ?_; clear hS; intro g2 w_ hS))
 have hJ0 : GJ w0 (.box g2 31 #[.int .i64 0, .pointer none, .slice none 0 0, .slice none 0 0, .slice none 0 0, .slice none 0 0] :: .box g1 37 #[.int .i64 pr, .slice Al L.length cl, .int .u64 (ps : Nat), .slice Ar rl.length cr, .slice An nl.length cn, .slice Ag gl.length cg] :: F) 31 #[.int .i64 0, .pointer none, .slice none 0 0, .slice none 0 0, .slice none 0 0, .slice none 0 0] (w_.drew, ⟨none, K⟩) := hS.drew
 have hRr := @GR.refl w0 (.box g2 31 #[.int .i64 0, .pointer none, .slice none 0 0, .slice none 0 0, .slice none 0 0, .slice none 0 0] :: .box g1 37 #[.int .i64 pr, .slice Al L.length cl, .int .u64 (ps : Nat), .slice Ar rl.length cr, .slice An nl.length cn, .slice Ag gl.length cg] :: F) 31 #[.int .i64 0, .pointer none, .slice none 0 0, .slice none 0 0, .slice none 0 0, .slice none 0 0]
 have hRt := @GR.trans w0 (.box g2 31 #[.int .i64 0, .pointer none, .slice none 0 0, .slice none 0 0, .slice none 0 0, .slice none 0 0] :: .box g1 37 #[.int .i64 pr, .slice Al L.length cl, .int .u64 (ps : Nat), .slice Ar rl.length cr, .slice An nl.length cn, .slice Ag gl.length cg] :: F) 31 #[.int .i64 0, .pointer none, .slice none 0 0, .slice none 0 0, .slice none 0 0, .slice none 0 0]
 have hN0 := @GN.start 13 14 w_.drew K
 clear hS
 refine EN (GR w0 (.box g2 31 #[.int .i64 0, .pointer none, .slice none 0 0, .slice none 0 0, .slice none 0 0, .slice none 0 0] :: .box g1 37 #[.int .i64 pr, .slice Al L.length cl, .int .u64 (ps : Nat), .slice Ar rl.length cr, .slice An nl.length cn, .slice Ag gl.length cg] :: F) 31 #[.int .i64 0, .pointer none, .slice none 0 0, .slice none 0 0, .slice none 0 0, .slice none 0 0]) (GN 13 14) (⟨none, K⟩) hRr hRt [.q g1 0, .n pr, .s (fun v w => ∃ q, v = .pointer (some ⟨q, 0, none⟩) /\ ∀ D w1, w.2.K D w1 -> IsH w1 D (.pointer (some ⟨q, 0, none⟩)) []) fun v w w' h hb => by obtain ⟨q, e, h⟩ := h; exact ⟨q, e, fun D w1 h1 => h D w1 (hb.2.1 D w1 h1)⟩, .q g1 2, .i (.int .u64 (ps : Nat)), .s (fun v w => ∃ u, v = .agg #[u] /\ u.oneCell' = true /\ ∀ D w1, w.2.K D w1 -> A6 w1 D (.agg #[u]) ps) fun v w w' h hb => by obtain ⟨u, e, e2, h⟩ := h; exact ⟨u, e, e2, fun D w1 h1 => h D w1 (hb.2.1 D w1 h1)⟩, .q g1 4, .i (.slice An nl.length cn), .s (fun v w => (∃ A c, v = .slice A nl.length c) /\ ∀ D w1, w.2.K D w1 -> AB w1 D v nl) fun v w w' h hb => ⟨h.1, fun D w1 h1 => h.2 D w1 (hb.2.1 D w1 h1)⟩, .q g1 5, .i (.slice Ag gl.length cg), .s (fun v w => (∃ A c, v = .slice A gl.length c) /\ ∀ D w1, w.2.K D w1 -> AB w1 D v gl) fun v w w' h hb => ⟨h.1, fun D w1 h1 => h.2 D w1 (hb.2.1 D w1 h1)⟩, .s (fun v w => ∃ q u A c B d, v = .agg #[.int .i64 pr, .pointer (some ⟨q, 0, none⟩), u, .slice none 0 0, .slice A nl.length c, .slice B gl.length d] /\ u.oneCell' = true /\ ∀ D w1, w.2.K D w1 -> IsH w1 D (.pointer (some ⟨q, 0, none⟩)) [] /\ A6 w1 D (.agg #[u]) ps /\ AB w1 D (.slice A nl.length c) nl /\ AB w1 D (.slice B gl.length d) gl) fun v w w' h hb => by obtain ⟨q, u, A, c, B, d, e, e2, h⟩ := h; exact ⟨q, u, A, c, B, d, e, e2, fun D w1 h1 => h D w1 (hb.2.1 D w1 h1)⟩, .s (fun v w => ∃ g o, v = .pointer (some ⟨g, 0, none⟩) /\ w.2.b = some (g, o)) fun v w w' h hb => hb.var h, .s (fun v w => ∃ g q u A c B d, w.2.b = some (g, some #[.int .i64 pr, .pointer (some ⟨q, 0, none⟩), u, .slice none 0 0, .slice A nl.length c, .slice B gl.length d]) /\ ∀ D w1, w.2.K D w1 -> IsH w1 D (.pointer (some ⟨q, 0, none⟩)) [] /\ A6 w1 D (.agg #[u]) ps /\ AB w1 D (.slice A nl.length c) nl /\ AB w1 D (.slice B gl.length d) gl) fun v w w' h hb => by obtain ⟨g, q, u, A, c, B, d, e, h⟩ := h; exact ⟨g, q, u, A, c, B, d, hb.2.2.2 _ _ e, fun D w1 h1 => h D w1 (hb.2.1 D w1 h1)⟩] ?_ ⟨uF, uC (h := fun w hW hN => (hW.1 hJ0).cell 1 rfl 0 rfl), ?_, uF, uC (h := fun w hW hN => (hW.1 hJ0).cell 1 rfl 2 rfl), ?_, uF, uC (h := fun w hW hN => (hW.1 hJ0).cell 1 rfl 4 rfl), ?_, uF, uC (h := fun w hW hN => (hW.1 hJ0).cell 1 rfl 5 rfl), ?_, ?_, ?_, ?_, trivial⟩ ?_
 ·first | assumption | (intro i; (try dsimp only); split <;> first | trivial | assumption | (left; assumption))
 ·refine uG fun b__ w hW hN hE K hK => ?_
  refine Cc rfl (by kernel_rfl) (by simp only [List.map_nil]) (hnew_any (hW.1 hJ0) fun D w1 h => kt D w1 (hW.2.1 D w1 h)) fun e w' ⟨p, he, hs⟩ => ⟨p, he, ?_⟩
  obtain ⟨q, o, rfl, -⟩ := id hs.ro.2
  exact hK _ (w', { w.2 with K := _ }) ⟨q, rfl, fun D w1 h => h.2⟩ (GK.more hs fun D w1 h => h.1)
 ·refine uG fun b__ w hW hN hE K hK => ?_
  have e15 := hE 15
  refine Cc rfl (by kernel_rfl) (by simp only [List.map_cons, List.map_nil, e15]) (Je ps HF.out.start w.1) fun e w' ⟨x, he, hx, hb⟩ => ⟨x, he, ?_⟩
  obtain ⟨u, rfl, h1⟩ := BC hx
  exact hK _ (w', { w.2 with K := _ }) ⟨u, rfl, h1, fun D w1 h => h.2⟩ (GK.more ((hW.1 hJ0).ret hb A5 hx) fun D w1 h => h.1)
 ·refine uG fun b__ w hW hN hE K hK => ?_
  have e18 := hE 18
  refine Cc rfl (by kernel_rfl) (by simp only [List.map_cons, List.map_nil, e18]) (Ie _ nl w.1 _ (k3 _ _ (hW.2.1 _ _ (hW.1 hJ0).ro)) HF.out.never (by have := HF.out.nlen; dsimp only at this; omega)) fun e w' ⟨x, he, hx, hb⟩ => ⟨x, he, ?_⟩
  exact hK _ (w', { w.2 with K := _ }) ⟨CE hx, fun D w1 h => h.2⟩ (GK.more ((hW.1 hJ0).ret hb AV hx) fun D w1 h => h.1)
 ·refine uG fun b__ w hW hN hE K hK => ?_
  have e21 := hE 21
  refine Cc rfl (by kernel_rfl) (by simp only [List.map_cons, List.map_nil, e21]) (Ie _ gl w.1 _ (k4 _ _ (hW.2.1 _ _ (hW.1 hJ0).ro)) HF.out.goal (by have := HF.out.glen; dsimp only at this; omega)) fun e w' ⟨x, he, hx, hb⟩ => ⟨x, he, ?_⟩
  exact hK _ (w', { w.2 with K := _ }) ⟨CE hx, fun D w1 h => h.2⟩ (GK.more ((hW.1 hJ0).ret hb AV hx) fun D w1 h => h.1)
 ·refine uG fun b__ w hW hN hE K hK => ?_
  have e12 := hE 12
  have e13 := hE 13
  have e16 := hE 16
  have e19 := hE 19
  have e22 := hE 22
  obtain ⟨q, hq, h1⟩ := e13
  obtain ⟨u, hu, hu1, h2⟩ := e16
  obtain ⟨⟨A, c, ha⟩, h3⟩ := e19
  obtain ⟨⟨B, d, hbb⟩, h4⟩ := e22
  rw [ha] at h3
  rw [hbb] at h4
  exact CJ rfl (ps := [(0, .int .i64 pr), (1, .pointer (some ⟨q, 0, none⟩)), (2, .agg #[u]), (4, .slice A nl.length c), (5, .slice B gl.length d)]) (cells := #[.int .i64 pr, .pointer (some ⟨q, 0, none⟩), u, .slice none 0 0, .slice A nl.length c, .slice B gl.length d]) (by simp [e12, hq, hu, ha, hbb]) (by kernel_rfl) (hK _ _ ⟨q, u, A, c, B, d, rfl, hu1, fun D w1 h => ⟨h1 D w1 h, h2 D w1 h, h3 D w1 h, h4 D w1 h⟩⟩ ⟨hRr _, fun _ _ h => h⟩)
 ·refine uG fun b__ w hW hN hE K hK => ?_
  exact Jj rfl (by kernel_rfl) (by kernel_rfl) (hW.1 hJ0) (hN.1 rfl) fun g w' hs => hK _ (w', { w.2 with b := some (g, none) }) ⟨g, none, rfl, rfl⟩ (GK.made (hN.1 rfl) hs)
 ·refine uG fun b__ w hW hN hE K hK => ?_
  have e4 := hE 4
  have e23 := hE 23
  obtain ⟨g, o, hg, hgb⟩ := e4
  obtain ⟨q, u, A, c, B, d, hv, hu1, h1⟩ := e23
  obtain rfl : o = none := (by cases o with | none => rfl | some cs => exact absurd hgb (hN.2 rfl g cs))
  exact Ji rfl hg hv (hW.1 hJ0) hgb (by kernel_rfl) rfl (by simpa [Value.oneCell'] using hu1) fun w' hs => hK undef (w', { w.2 with b := some (g, some #[.int .i64 pr, .pointer (some ⟨q, 0, none⟩), u, .slice none 0 0, .slice A nl.length c, .slice B gl.length d]) }) ⟨g, q, u, A, c, B, d, rfl, h1⟩ (GK.put hgb hs)
 ·intro vs wz hW hT
  obtain ⟨e11, e12, e13, e14, e15, e16, e17, e18, e19, e20, e21, e22, e23, e4, z14, -⟩ := hT
  have bx : (fun _ : Nat => True) 0 := trivial
  simp only [AE, Act.put, zz, ze]
  obtain ⟨_, g4, q, u, A4, c4, B4, d4, hb4, hK4⟩ := z14
  obtain ⟨g, o, hg, hgb⟩ := e4
  obtain rfl : g = g4 := by rw [hb4] at hgb; injection hgb with h; injection h with h _; exact h.symm
  have hS : St w0 wz.1 (.box g 31 #[.int .i64 pr, .pointer (some ⟨q, 0, none⟩), u, .slice none 0 0, .slice A4 nl.length c4, .slice B4 gl.length d4] :: .box g2 31 #[.int .i64 0, .pointer none, .slice none 0 0, .slice none 0 0, .slice none 0 0, .slice none 0 0] :: .box g1 37 #[.int .i64 pr, .slice Al L.length cl, .int .u64 (ps : Nat), .slice Ar rl.length cr, .slice An nl.length cn, .slice Ag gl.length cg] :: F) wz.2.K := (hW.1 hJ0).some hb4
  obtain ⟨K4, wf, k0, kq, kc, hwf, hS2⟩ : ∃ (K4 : (Nat -> Prop) -> World -> Prop) (wf : World), (∀ D w, K4 D w -> K D w) /\ (∀ D w1, K4 D w1 -> IsH w1 D (.pointer (some ⟨q, 0, none⟩)) []) /\ Hid (∀ D w1, K4 D w1 -> A6 w1 D (.agg #[u]) ps /\ AB w1 D (.slice A4 nl.length c4) nl /\ AB w1 D (.slice B4 gl.length d4) gl) /\ wz.1 = wf /\ St w0 wf (.box g 31 #[.int .i64 pr, .pointer (some ⟨q, 0, none⟩), u, .slice none 0 0, .slice A4 nl.length c4, .slice B4 gl.length d4] :: .box g2 31 #[.int .i64 0, .pointer none, .slice none 0 0, .slice none 0 0, .slice none 0 0, .slice none 0 0] :: .box g1 37 #[.int .i64 pr, .slice Al L.length cl, .int .u64 (ps : Nat), .slice Ar rl.length cr, .slice An nl.length cn, .slice Ag gl.length cg] :: F) K4 := ⟨_, _, hW.2.1, fun D w1 h => (hK4 D w1 h).1, Lib.hid fun D w1 h => (hK4 D w1 h).2, rfl, hS⟩
  rw [hwf]
  simp only [show vs (4 : Nat) = _ from hg]
  clear hS hW hJ0 hRr hRt hN0 e11 e12 e13 e14 e15 e16 e17 e18 e19 e20 e21 e22 e23 hb4 hgb hK4 hg hwf
  have hS := hS2
  clear hS2
  generalize vs 11 = s11, vs 12 = s12, vs 13 = s13, vs 14 = s14, vs 15 = s15, vs 16 = s16, vs 17 = s17, vs 18 = s18, vs 19 = s19, vs 20 = s20, vs 21 = s21, vs 22 = s22, vs 23 = s23
  obtain ⟨Au, cu, lu, hvu, -⟩ := (kc.out _ _ hS.ro).1.parts
  obtain rfl : u = .slice Au lu.length cu := by injection hvu with hvu; simpa using hvu
  clear hvu
  generalize lu.length = nu at *
  have KS4 := Lib.hid hS.stable
  go_wp2_with (first | ((with_reducible refine qK ?_); refine qC hS ?_))
  have HNX : Hid (∀ (j : Nat) (x : Nat × Nat) (L' : List (Nat × Nat)), L[j]? = some x -> Part L j L' -> ∀ (F : List Aj) (K : (Nat -> Prop) -> World -> Prop) (w : World) (r : Value) (z : Int), LinkP w0 F K L' (x.1 : Nat) (x.2 : Nat) r z w -> z = 0 /\ ∃ L'', Part L (j + 1) L'' /\ St w0 w F fun D w => K D w /\ IsH w D r L'') := Lib.hid fun j x L' hx hP F K w r z h => by
   obtain ⟨h1, L'', h2, h3, h4⟩ := h.next hx hP.2 HH.out.asc.nodup HH.out.role HH.out.acyc
   exact ⟨h1, L'', ⟨h2, h3⟩, h4⟩
  have HLF : Hid (∀ L', Part L L.length L' -> L' = L) := Lib.hid fun L' h => h.full HH.out.asc
  have hP0 : Part L 0 [] := ⟨Hf.nil, by simp⟩
  have k1' : ∀ D w, K4 D w -> Sl w D 2 (.slice Al L.length cl) L.length (Ah L) := fun D w h => k1 D w (k0 D w h)
  go_loopw [27] (fun i wr => ∃ (j q' : Nat) (L' : List (Nat × Nat)), i = .int .i64 (j : Nat) /\ j <= L.length /\ Hid (Part L j L') /\ St w0 wr (.box g 31 #[.int .i64 pr, .pointer (some ⟨q', 0, none⟩), .slice Au nu cu, .slice none 0 0, .slice A4 nl.length c4, .slice B4 gl.length d4] :: .box g2 31 #[.int .i64 0, .pointer none, .slice none 0 0, .slice none 0 0, .slice none 0 0, .slice none 0 0] :: .box g1 37 #[.int .i64 pr, .slice Al L.length cl, .int .u64 (ps : Nat), .slice Ar rl.length cr, .slice An nl.length cn, .slice Ag gl.length cg] :: F) fun D w => K4 D w /\ IsH w D (.pointer (some ⟨q', 0, none⟩)) L') (fun i _ => L.length - (intOf i).toNat)
  case atStart => exact ⟨0, q, [], rfl, by omega, Lib.hid hP0, hS.mono (KS4.out.and DI) fun D w h => ⟨h, kq D w h⟩⟩
  case round =>
   clear hS hP0
   obtain ⟨j, q', L', rfl, hj, HP, hS⟩ := hrel
   by_cases hlj : j < L.length
   ·obtain ⟨f1, f2⟩ := BB L j hlj
    have HNY := Lib.hid (HNX.out j _ L' (Br (0, 0) hlj) HP.out)
    have HLL : Hid (L'.length <= 900000) := Lib.hid (by have := HP.out.len; omega)
    generalize L.getD j (0, 0) = z at *
    obtain ⟨za, zb⟩ := z
    dsimp only at f1 f2 HNY
    have kp2 : ∀ D w, (K4 D w /\ IsH w D (.pointer (some ⟨q', 0, none⟩)) L') -> Sl w D 2 (.slice Al L.length cl) L.length (Ah L) := fun D w h => k1' D w h.1
    go_wp2_with (first
     | ((with_reducible refine qB ?_); refine qc ?_ ?_ <;> intro h_ <;> go_prune)
     | ((with_reducible refine qI ?_); refine qj hS Tryz.underlying32 ?_; intro b_ j_ hc0_ hc1_)
     | ((with_reducible refine qA 6 ?_); refine Bk hS rfl _ rfl (by kernel_rfl) ?_; clear hS; intro g6 w_ hS; (try simp only [Act.put, Act.eval, zz, Value.cells] at hS))
     | (go_at_call 94; refine (hlink_any (.pointer (some ⟨q', 0, none⟩)) L' (za : Nat) (zb : Nat) HP.out.1 HLL.out hS (fun D w h => h.2) (fun D w h => kt D w (k0 D w h.1))).mono ?_; clear hS; rintro e w_ ⟨r, z, rfl, hP⟩; obtain ⟨rfl, L'', hP2, hS⟩ := HNY.out _ _ _ _ _ hP; replace hP2 := Lib.hid hP2; clear hP; obtain ⟨q2, _, rfl, -⟩ := id hS.ro.2)
     | ((with_reducible refine qM ?_); (first | refine qS hS ?_ | refine qT hS ?_); clear hS; intro w_ hS; (try simp only [Act.put, Act.eval, zz, Value.cells] at hS))
     | ((with_reducible refine qK ?_); refine qC hS ?_))
    exact ⟨⟨j + 1, q2, L'', by go_num, hlj, hP2, (hS.sub (List.sublist_cons_self _ _)).mono (KS4.out.and DI) fun D w h => ⟨h.1.1, h.2⟩⟩, by simp [intOf]; omega⟩
   ·obtain rfl : L.length = j := by omega
    rw [HLF.out _ HP.out] at hS
    clear HP HNX HLF
    go_wp2_with (first | ((with_reducible refine qB ?_); refine qc ?_ ?_ <;> intro h_ <;> go_prune) | ((with_reducible refine qK ?_); refine qC hS ?_))
    obtain ⟨K5, k5, kh, hS2⟩ : ∃ K5 : (Nat -> Prop) -> World -> Prop, (∀ D w, K5 D w -> K4 D w) /\ Hid (∀ D w, K5 D w -> IsH w D (.pointer (some ⟨q', 0, none⟩)) L) /\ St w0 wr (.box g 31 #[.int .i64 pr, .pointer (some ⟨q', 0, none⟩), .slice Au nu cu, .slice none 0 0, .slice A4 nl.length c4, .slice B4 gl.length d4] :: .box g2 31 #[.int .i64 0, .pointer none, .slice none 0 0, .slice none 0 0, .slice none 0 0, .slice none 0 0] :: .box g1 37 #[.int .i64 pr, .slice Al L.length cl, .int .u64 (ps : Nat), .slice Ar rl.length cr, .slice An nl.length cn, .slice Ag gl.length cg] :: F) K5 := ⟨_, fun _ _ h => h.1, Lib.hid fun _ _ h => h.2, hS⟩
    clear hS
    have hS := hS2.nil 58 5
    clear hS2
    have KS5 := Lib.hid hS.stable
    have kr : ∀ D w, K5 D w -> Sl w D 5 (.slice Ar rl.length cr) rl.length (AZ rl) := fun D w h => k2 D w (k0 D w (k5 D w h))
    go_loopw [50] (fun i wr => ∃ (j : Nat) (rv : Value) (xs : List Value), i = .int .i64 (j : Nat) /\ j <= rl.length /\ St w0 wr (.own rv 58 5 j xs :: .box g 31 #[.int .i64 pr, .pointer (some ⟨q', 0, none⟩), .slice Au nu cu, rv, .slice A4 nl.length c4, .slice B4 gl.length d4] :: .box g2 31 #[.int .i64 0, .pointer none, .slice none 0 0, .slice none 0 0, .slice none 0 0, .slice none 0 0] :: .box g1 37 #[.int .i64 pr, .slice Al L.length cl, .int .u64 (ps : Nat), .slice Ar rl.length cr, .slice An nl.length cn, .slice Ag gl.length cg] :: F) fun D w => K5 D w /\ B6 w D xs (rl.take j)) (fun i _ => rl.length - (intOf i).toNat)
    case atStart => exact ⟨0, _, [], rfl, by omega, hS.mono (KS5.out.and Ea) fun D w h => ⟨h, fun i z hi => by simp at hi⟩⟩
    case round =>
     clear hS
     obtain ⟨j, rv, xs, rfl, hj2, hS⟩ := hrel
     obtain ⟨Arv, crv, rfl, _, _⟩ := Be (hS.own 0 rfl)
     by_cases hlj : j < rl.length
     ·obtain ⟨bk, o, rfl, c0, c1, c2, c3, c4'⟩ := rr_at (kr _ _ hS.ro.1) hlj
      have HT : Hid (rl.take (j + 1) = rl.take j ++ [rl.getD j AL]) := Lib.hid (Hr rl j AL hlj)
      have HZ : Hid ((rl.getD j AL).yes < BK /\ (rl.getD j AL).no < BK) := Lib.hid (HF.out.rules _ (by rw [List.getD_eq_getElem?_getD, List.getElem?_eq_getElem hlj]; exact List.getElem_mem hlj))
      have HLT : Hid ((rl.take j).length = j) := Lib.hid (by rw [List.length_take]; omega)
      generalize rl.getD j AL = z at *
      obtain ⟨zr, zy, zn, zt, zo⟩ := z
      dsimp only at c0 c1 c2 c3 c4' HZ
      go_wp2_with (first
       | ((with_reducible refine qB ?_); refine qc ?_ ?_ <;> intro h_ <;> go_prune)
       | ((with_reducible refine qA 53 ?_); refine BigFrame.wpList_want rfl fun _ hK => B5 (cs := [.bool zr, .int .u64 (zy : Nat), .int .u64 (zn : Nat), .int .i64 zt, .int .i64 zo]) rfl rfl (J0 c0 c1 c2 c3 c4') Tryz.underlying96 rfl (by kernel_rfl) (hK _ _ ?_))
       | ((with_reducible refine qA 10 ?_); refine qa hS #[.bool false, .int .u64 0, .int .u64 0, .int .i64 0, .int .i64 0] ?_; clear hS; intro g10 w_ hS)
       | ((with_reducible refine qM ?_); (first | refine qS hS ?_ | refine qT hS ?_); clear hS; intro w_ hS; (try simp only [Act.put, Act.eval, zz, Value.cells] at hS)))
      obtain ⟨K6, k6, hS2⟩ : ∃ K6 : (Nat -> Prop) -> World -> Prop, Hid (∀ D w, K6 D w -> K5 D w /\ B6 w D xs (rl.take j)) /\ St w0 w_ (.box g10 96 #[.bool zr, .int .u64 (zy : Nat), .int .u64 (zn : Nat), .int .i64 zt, .int .i64 zo] :: .own (.slice Arv j crv) 58 5 j xs :: .box g 31 #[.int .i64 pr, .pointer (some ⟨q', 0, none⟩), .slice Au nu cu, .slice Arv j crv, .slice A4 nl.length c4, .slice B4 gl.length d4] :: .box g2 31 #[.int .i64 0, .pointer none, .slice none 0 0, .slice none 0 0, .slice none 0 0, .slice none 0 0] :: .box g1 37 #[.int .i64 pr, .slice Al L.length cl, .int .u64 (ps : Nat), .slice (some ⟨bk, o, none⟩) rl.length cr, .slice An nl.length cn, .slice Ag gl.length cg] :: F) K6 := ⟨_, Lib.hid fun _ _ h => h, hS⟩
      clear hS
      have hS := hS2
      clear hS2
      have KS6 := Lib.hid hS.stable
      have h0d := hS.drew
      refine wp_zS [6, 11, 12, 13, 15] [some (.pointer (some ⟨g, 3, none⟩)), some (.slice Arv j crv), some (.pointer (some ⟨g10, 0, none⟩)), some (.bool zr), some (.pointer (some ⟨g10, 1, none⟩)), some (.agg #[.int .u64 (zy : Nat), .int .u64 (zn : Nat)]), none, some (.pointer (some ⟨g10, 3, none⟩)), some (.int .i64 zt), some (.pointer (some ⟨g10, 4, none⟩)), some (.int .i64 zo), none, none, none, some (.pointer (some ⟨g, 3, none⟩)), none] (fun vs w => match vs with | [] => St w0 w (.box g10 96 #[.bool zr, .int .u64 (zy : Nat), .int .u64 (zn : Nat), .int .i64 zt, .int .i64 zo] :: .own (.slice Arv j crv) 58 5 j xs :: .box g 31 #[.int .i64 pr, .pointer (some ⟨q', 0, none⟩), .slice Au nu cu, .slice Arv j crv, .slice A4 nl.length c4, .slice B4 gl.length d4] :: .box g2 31 #[.int .i64 0, .pointer none, .slice none 0 0, .slice none 0 0, .slice none 0 0, .slice none 0 0] :: .box g1 37 #[.int .i64 pr, .slice Al L.length cl, .int .u64 (ps : Nat), .slice (some ⟨bk, o, none⟩) rl.length cr, .slice An nl.length cn, .slice Ag gl.length cg] :: F) K6 | [z] => ∃ a b : Value, z = .agg #[a, b] /\ St w0 w (.box g10 96 #[.bool zr, .int .u64 (zy : Nat), .int .u64 (zn : Nat), .int .i64 zt, .int .i64 zo] :: .own (.slice Arv j crv) 58 5 j xs :: .box g 31 #[.int .i64 pr, .pointer (some ⟨q', 0, none⟩), .slice Au nu cu, .slice Arv j crv, .slice A4 nl.length c4, .slice B4 gl.length d4] :: .box g2 31 #[.int .i64 0, .pointer none, .slice none 0 0, .slice none 0 0, .slice none 0 0, .slice none 0 0] :: .box g1 37 #[.int .i64 pr, .slice Al L.length cl, .int .u64 (ps : Nat), .slice (some ⟨bk, o, none⟩) rl.length cr, .slice An nl.length cn, .slice Ag gl.length cg] :: F) (fun D w => K6 D w /\ AO w D (.agg #[a, b]) (zy, zn)) | [_, z] => ∃ a b : Value, z = .agg #[.bool zr, a, b, .int .i64 zt, .int .i64 zo] /\ St w0 w (.box g10 96 #[.bool zr, .int .u64 (zy : Nat), .int .u64 (zn : Nat), .int .i64 zt, .int .i64 zo] :: .own (.slice Arv j crv) 58 5 j xs :: .box g 31 #[.int .i64 pr, .pointer (some ⟨q', 0, none⟩), .slice Au nu cu, .slice Arv j crv, .slice A4 nl.length c4, .slice B4 gl.length d4] :: .box g2 31 #[.int .i64 0, .pointer none, .slice none 0 0, .slice none 0 0, .slice none 0 0, .slice none 0 0] :: .box g1 37 #[.int .i64 pr, .slice Al L.length cl, .int .u64 (ps : Nat), .slice (some ⟨bk, o, none⟩) rl.length cr, .slice An nl.length cn, .slice Ag gl.length cg] :: F) (fun D w => K6 D w /\ AO w D (.agg #[a, b]) (zy, zn)) | [_, _, z] => ∃ a b : Value, St w0 w (.box g10 96 #[.bool zr, .int .u64 (zy : Nat), .int .u64 (zn : Nat), .int .i64 zt, .int .i64 zo] :: .own (.slice Arv j crv) 58 5 j xs :: .box g 31 #[.int .i64 pr, .pointer (some ⟨q', 0, none⟩), .slice Au nu cu, .slice Arv j crv, .slice A4 nl.length c4, .slice B4 gl.length d4] :: .box g2 31 #[.int .i64 0, .pointer none, .slice none 0 0, .slice none 0 0, .slice none 0 0, .slice none 0 0] :: .box g1 37 #[.int .i64 pr, .slice Al L.length cl, .int .u64 (ps : Nat), .slice (some ⟨bk, o, none⟩) rl.length cr, .slice An nl.length cn, .slice Ag gl.length cg] :: F) (fun D w => (K6 D w /\ AO w D (.agg #[a, b]) (zy, zn)) /\ Sl w D 5 z 1 [.bool zr, a, b, .int .i64 zt, .int .i64 zo]) | [_, _, _, p'] => ∃ a b : Value, St w0 w (.box g10 96 #[.bool zr, .int .u64 (zy : Nat), .int .u64 (zn : Nat), .int .i64 zt, .int .i64 zo] :: .own p' 58 5 (j + 1) (xs ++ [.bool zr, a, b, .int .i64 zt, .int .i64 zo]) :: .box g 31 #[.int .i64 pr, .pointer (some ⟨q', 0, none⟩), .slice Au nu cu, .slice Arv j crv, .slice A4 nl.length c4, .slice B4 gl.length d4] :: .box g2 31 #[.int .i64 0, .pointer none, .slice none 0 0, .slice none 0 0, .slice none 0 0, .slice none 0 0] :: .box g1 37 #[.int .i64 pr, .slice Al L.length cl, .int .u64 (ps : Nat), .slice (some ⟨bk, o, none⟩) rl.length cr, .slice An nl.length cn, .slice Ag gl.length cg] :: F) (fun D w => K6 D w /\ AO w D (.agg #[a, b]) (zy, zn)) | [_, _, _, p', _] => ∃ a b : Value, St w0 w (.box g10 96 #[.bool zr, .int .u64 (zy : Nat), .int .u64 (zn : Nat), .int .i64 zt, .int .i64 zo] :: .own p' 58 5 (j + 1) (xs ++ [.bool zr, a, b, .int .i64 zt, .int .i64 zo]) :: .box g 31 #[.int .i64 pr, .pointer (some ⟨q', 0, none⟩), .slice Au nu cu, p', .slice A4 nl.length c4, .slice B4 gl.length d4] :: .box g2 31 #[.int .i64 0, .pointer none, .slice none 0 0, .slice none 0 0, .slice none 0 0, .slice none 0 0] :: .box g1 37 #[.int .i64 pr, .slice Al L.length cl, .int .u64 (ps : Nat), .slice (some ⟨bk, o, none⟩) rl.length cr, .slice An nl.length cn, .slice Ag gl.length cg] :: F) (fun D w => K6 D w /\ AO w D (.agg #[a, b]) (zy, zn)) | _ => False) ?_ ⟨vF, ?_, vF, ?_, vF, ?_, ?_, vF, ?_, vF, ?_, ?_, ?_, ?_, vF, ?_, trivial⟩ ?_
      ·first | assumption | (dsimp only; assumption)
      ·refine vR 0 3 fun b__ w vs hS h1 h2 hE K hK => ?_
       rcases vs with _ | ⟨x0, _ | ⟨x1, _ | ⟨x2, _ | ⟨x3, vs⟩⟩⟩⟩ <;> first | (exfalso; first | exact hS | (revert h1 h2; simp <;> omega); done) | ((have e54 := hE 54); (first | exact At rfl e54 (by kernel_rfl) (hS.shut 2 rfl 3 rfl) (hK _ rfl) | (obtain ⟨_, _, hS⟩ := hS; exact At rfl e54 (by kernel_rfl) (hS.shut 2 rfl 3 rfl) (hK _ rfl)) | (obtain ⟨_, _, _, hS⟩ := hS; exact At rfl e54 (by kernel_rfl) (hS.shut 2 rfl 3 rfl) (hK _ rfl))))
      ·refine vR 0 1 fun b__ w vs hS h1 h2 hE K hK => ?_
       rcases vs with _ | ⟨x0, _ | ⟨x1, vs⟩⟩ <;> first | (exfalso; first | exact hS | (revert h1 h2; simp <;> omega); done) | ((have e56 := hE 56); (first | exact At rfl e56 (by kernel_rfl) (hS.shut 0 rfl 0 rfl) (hK _ rfl) | (obtain ⟨_, _, _, hS⟩ := hS; exact At rfl e56 (by kernel_rfl) (hS.shut 0 rfl 0 rfl) (hK _ rfl))))
      ·refine vR 0 0 fun b__ w vs hS h1 h2 hE K hK => ?_
       rcases vs with _ | ⟨x0, vs⟩ <;> first | (exfalso; first | exact hS | (revert h1 h2; simp <;> omega); done) | ((have e58 := hE 58); (exact B5 (cs := [.int .u64 (zy : Nat), .int .u64 (zn : Nat)]) rfl e58 (rng2 (hS.shut 0 rfl 1 rfl) (hS.shut 0 rfl 2 rfl)) Tryz.underlying94 rfl (by kernel_rfl) (hK _ rfl)))
      ·refine vX 0 fun b__ w vs hS hl hE K hK => ?_
       obtain rfl := Gi hl
       have e59 := hE 59
       refine Cc rfl (by kernel_rfl) (by simp only [List.map_cons, List.map_nil, e59]) (lmake_any zy zn HZ.out.1 HZ.out.2 _) fun e w' ⟨z, he, hx, hb_⟩ => ⟨z, he, ?_⟩
       obtain ⟨a, b, rfl, -, -⟩ := id hx
       exact hK _ w' ⟨a, b, rfl, hS.ret hb_ BF hx⟩
      ·refine vR 0 1 fun b__ w vs hS h1 h2 hE K hK => ?_
       rcases vs with _ | ⟨x0, _ | ⟨x1, vs⟩⟩ <;> first | (exfalso; first | exact hS | (revert h1 h2; simp <;> omega); done) | ((have e61 := hE 61); (first | exact At rfl e61 (by kernel_rfl) (hS.shut 0 rfl 3 rfl) (hK _ rfl) | (obtain ⟨_, _, _, hS⟩ := hS; exact At rfl e61 (by kernel_rfl) (hS.shut 0 rfl 3 rfl) (hK _ rfl))))
      ·refine vR 0 1 fun b__ w vs hS h1 h2 hE K hK => ?_
       rcases vs with _ | ⟨x0, _ | ⟨x1, vs⟩⟩ <;> first | (exfalso; first | exact hS | (revert h1 h2; simp <;> omega); done) | ((have e63 := hE 63); (first | exact At rfl e63 (by kernel_rfl) (hS.shut 0 rfl 4 rfl) (hK _ rfl) | (obtain ⟨_, _, _, hS⟩ := hS; exact At rfl e63 (by kernel_rfl) (hS.shut 0 rfl 4 rfl) (hK _ rfl))))
      ·refine vX 1 fun b__ w vs hS hl hE K hK => ?_
       obtain ⟨x0, rfl⟩ := Fu hl
       have e57 := hE 57
       have e60 := hE 60
       have e62 := hE 62
       have e64 := hE 64
       obtain ⟨a, b, rfl, hS⟩ := hS
       exact CJ rfl (ps := [(0, .bool zr), (1, .agg #[a, b]), (2, .int .i64 zt), (3, .int .i64 zo)]) (cells := #[.bool zr, a, b, .int .i64 zt, .int .i64 zo]) (by simp [e57, e60, e62, e64]) (by kernel_rfl) (hK _ _ ⟨a, b, rfl, hS⟩)
      ·refine vX 2 fun b__ w vs hS hl hE K hK => ?_
       obtain ⟨x0, x1, rfl⟩ := Ft hl
       have e65 := hE 65
       obtain ⟨a, b, rfl, hS⟩ := hS
       refine Bj (ps := [(0, .agg #[.bool zr, a, b, .int .i64 zt, .int .i64 zo])]) (cells := #[.bool zr, a, b, .int .i64 zt, .int .i64 zo]) rfl Tryz.underlying28 (by simp [e65]) (by kernel_rfl) ?_
       intro w' hbx hbel
       exact hK _ w' ⟨a, b, hS.ret hbel (Az (by decide)) (⟨by simp, _, 1, rfl, by omega, by unfold maxLen; omega, fun _ => ⟨w.heap.size, 0, rfl, Nat.le_refl _, hbx.lt, fun j x hj => by rw [Nat.zero_add]; exact (hbx.cell j).trans (by simpa using hj)⟩⟩ : Sl w' (w.heap.size <= ·) 5 (.slice (some ⟨w.heap.size, 0, none⟩) 1 1) 1 [.bool zr, a, b, .int .i64 zt, .int .i64 zo])⟩
      ·refine vX 3 fun b__ w vs hS hl hE K hK => ?_
       obtain ⟨x0, x1, x2, rfl⟩ := Fr hl
       have e55 := hE 55
       have e66 := hE 66
       obtain ⟨a, b, h3⟩ := hS
       refine Du rfl ty_rules e55 (h3.own 1 rfl) e66 h3.ro.2 (by obtain ⟨_, _, he, hy, hn⟩ := h3.ro.1.2; injection he with he; injection he with he; injection he with e1 he; injection he with e2 he; subst e1 e2; obtain ⟨A8, m8, c8, rfl⟩ := hy.shape; obtain ⟨B8, k8, d8, rfl⟩ := hn.shape; intro u hu; simp at hu; rcases hu with rfl | rfl | rfl | rfl | rfl <;> rfl) (by omega) (by omega) h3.size ?_
       intro v' w' ho hg hat
       exact hK v' w' ⟨a, b, (h3.upd 1 rfl (.own v' 58 5 (j + 1) (xs ++ [.bool zr, a, b, .int .i64 zt, .int .i64 zo])) hg ho hat).mono (KS6.out.and BF) fun D w h => h.1⟩
      ·refine vX 4 fun b__ w vs hS hl hE K hK => ?_
       obtain ⟨x0, x1, x2, x3, rfl⟩ := vs_len4 hl
       have e68 := hE 68
       have e67 := hE 67
       obtain ⟨a, b, h3⟩ := hS
       refine CB rfl e68 e67 (h3.box 2 rfl) (by simp) (Em (h3.own 1 rfl)) (GI (h3.own 1 rfl)) (by kernel_rfl) ?_
       intro w' hbx hup
       exact hK _ w' ⟨a, b, h3.upd 2 rfl (.box g 31 #[.int .i64 pr, .pointer (some ⟨q', 0, none⟩), .slice Au nu cu, x3, .slice A4 nl.length c4, .slice B4 gl.length d4]) (Bg hup) ⟨(h3.holds _ (List.mem_of_getElem? (i := 2) rfl)).1, hbx⟩ fun _ e => .inl e⟩
      ·intro us wz vs hS hl hT
       obtain ⟨x0, x1, x2, x3, x4, rfl⟩ := vs_len5 hl
       obtain ⟨e54, e55, e56, e57, e58, e59, e60, e61, e62, e63, e64, e65, e66, e67, e68, -⟩ := hT
       clear hl
       simp only [AE, Act.put, zz, ze]
       obtain ⟨a, b, hS⟩ := hS
       clear h0d
       go_wp2_with fail
       have hxl := HLT.out
       refine ⟨⟨j + 1, _, xs ++ [.bool zr, a, b, .int .i64 zt, .int .i64 zo], by go_num, hlj, (hS.sub (List.sublist_cons_self _ _)).mono (KS5.out.and Ea) fun D w h => ⟨(k6.out _ _ h.1).1, ?_⟩⟩, by simp [intOf]; omega⟩
       rw [HT.out]
       have hz := (hS.own 1 rfl).1
       exact B6.append (by simp at hz; omega) (k6.out _ _ h.1).2 (B6.single (z := ⟨zr, zy, zn, zt, zo⟩) (cube_sets h.2).1 (cube_sets h.2).2)
     ·obtain rfl : rl.length = j := by omega
      rw [List.take_length] at hS
      go_wp2_with (first | ((with_reducible refine qB ?_); refine qc ?_ ?_ <;> intro h_ <;> go_prune))
      obtain ⟨K7, k7, ks7, hS2⟩ : ∃ K7 : (Nat -> Prop) -> World -> Prop, Hid (∀ D w, K7 D w -> (K5 D w /\ B6 w D xs rl) /\ Sl w D 5 (.slice Arv rl.length crv) rl.length xs) /\ AK K7 /\ St w0 wr (.box g 31 #[.int .i64 pr, .pointer (some ⟨q', 0, none⟩), .slice Au nu cu, .slice Arv rl.length crv, .slice A4 nl.length c4, .slice B4 gl.length d4] :: .box g2 31 #[.int .i64 0, .pointer none, .slice none 0 0, .slice none 0 0, .slice none 0 0, .slice none 0 0] :: .box g1 37 #[.int .i64 pr, .slice Al L.length cl, .int .u64 (ps : Nat), .slice Ar rl.length cr, .slice An nl.length cn, .slice Ag gl.length cg] :: F) K7 := ⟨_, Lib.hid fun _ _ h => h, (hS.freeze 0 (by decide) rfl).stable, hS.freeze 0 (by decide) rfl⟩
      clear hS
      have hS := hS2
      clear hS2
      have hJ0 : St w0 wr.drew (.box g 31 #[.int .i64 pr, .pointer (some ⟨q', 0, none⟩), .slice Au nu cu, .slice Arv rl.length crv, .slice A4 nl.length c4, .slice B4 gl.length d4] :: .box g2 31 (cond (false, false).1 #[.int .i64 pr, .pointer (some ⟨q', 0, none⟩), .slice Au nu cu, .slice Arv rl.length crv, .slice A4 nl.length c4, .slice B4 gl.length d4] #[.int .i64 0, .pointer none, .slice none 0 0, .slice none 0 0, .slice none 0 0, .slice none 0 0]) :: .box g1 37 #[.int .i64 pr, .slice Al L.length cl, .int .u64 (ps : Nat), .slice Ar rl.length cr, .slice An nl.length cn, .slice Ag gl.length cg] :: F) K7 := hS.drew
      have hRr := @SR.refl w0 (fun s => .box g 31 #[.int .i64 pr, .pointer (some ⟨q', 0, none⟩), .slice Au nu cu, .slice Arv rl.length crv, .slice A4 nl.length c4, .slice B4 gl.length d4] :: .box g2 31 (cond s.1 #[.int .i64 pr, .pointer (some ⟨q', 0, none⟩), .slice Au nu cu, .slice Arv rl.length crv, .slice A4 nl.length c4, .slice B4 gl.length d4] #[.int .i64 0, .pointer none, .slice none 0 0, .slice none 0 0, .slice none 0 0, .slice none 0 0]) :: .box g1 37 #[.int .i64 pr, .slice Al L.length cl, .int .u64 (ps : Nat), .slice Ar rl.length cr, .slice An nl.length cn, .slice Ag gl.length cg] :: F) K7
      have hRt := @SR.trans w0 (fun s => .box g 31 #[.int .i64 pr, .pointer (some ⟨q', 0, none⟩), .slice Au nu cu, .slice Arv rl.length crv, .slice A4 nl.length c4, .slice B4 gl.length d4] :: .box g2 31 (cond s.1 #[.int .i64 pr, .pointer (some ⟨q', 0, none⟩), .slice Au nu cu, .slice Arv rl.length crv, .slice A4 nl.length c4, .slice B4 gl.length d4] #[.int .i64 0, .pointer none, .slice none 0 0, .slice none 0 0, .slice none 0 0, .slice none 0 0]) :: .box g1 37 #[.int .i64 pr, .slice Al L.length cl, .int .u64 (ps : Nat), .slice Ar rl.length cr, .slice An nl.length cn, .slice Ag gl.length cg] :: F) K7
      have hN0 : ∀ _ : Nat, True := fun _ => trivial
      clear hS
      refine EN (SR w0 (fun s => .box g 31 #[.int .i64 pr, .pointer (some ⟨q', 0, none⟩), .slice Au nu cu, .slice Arv rl.length crv, .slice A4 nl.length c4, .slice B4 gl.length d4] :: .box g2 31 (cond s.1 #[.int .i64 pr, .pointer (some ⟨q', 0, none⟩), .slice Au nu cu, .slice Arv rl.length crv, .slice A4 nl.length c4, .slice B4 gl.length d4] #[.int .i64 0, .pointer none, .slice none 0 0, .slice none 0 0, .slice none 0 0, .slice none 0 0]) :: .box g1 37 #[.int .i64 pr, .slice Al L.length cl, .int .u64 (ps : Nat), .slice Ar rl.length cr, .slice An nl.length cn, .slice Ag gl.length cg] :: F) K7) (fun _ _ => True) ((false, false)) hRr hRt [.i (.agg #[.int .i64 pr, .pointer (some ⟨q', 0, none⟩), .slice Au nu cu, .slice Arv rl.length crv, .slice A4 nl.length c4, .slice B4 gl.length d4]), .q g 1, .q q' 0, .b true, .s (fun v w => w.2.1 = true) fun v w w' h hb => hb.2.1 h, .b true] ?_ ⟨uR (h := fun w hW hN => (hW.1 hJ0).box 0 rfl), uF, uC (h := fun w hW hN => (hW.1 hJ0).shut 0 rfl 1 rfl), uB (h := fun w hW hN => IX _ _), ?_, uA, trivial⟩ ?_
      ·first | assumption | (intro i; (try dsimp only); split <;> first | trivial | assumption | (left; assumption))
      ·refine uG fun b__ w hW hN hE K hK => ?_
       have e2 : b__.eval (.tmp 2) = .pointer (some ⟨g2, 0, none⟩) := hE 2
       have e70 := hE 70
       have hS := hW.1 hJ0
       exact BT rfl e2 e70 (hS.box 1 rfl) (by kernel_rfl) (by cases w.2.1 <;> rfl) (by simp [Value.oneCell']) fun w4 h1 hU => hK undef (w4, (true, w.2.2)) rfl ⟨⟨fun _ => hS.upd 1 rfl (.box g2 31 #[.int .i64 pr, .pointer (some ⟨q', 0, none⟩), .slice Au nu cu, .slice Arv rl.length crv, .slice A4 nl.length c4, .slice B4 gl.length d4]) (Bg hU) ⟨(hS.holds _ (List.mem_of_getElem? (i := 1) rfl)).1, h1⟩ fun _ e => .inl e, fun _ => rfl, id⟩, fun _ _ h => h⟩
      ·intro vs wz hW hT
       obtain ⟨e70, e71, e72, e73, z4, e3, -⟩ := hT
       have bx : (fun _ : Nat => True) 0 := trivial
       simp only [AE, Act.put, zz, ze]
       obtain ⟨_, hst⟩ := z4
       have hS : St w0 wz.1 (.box g 31 #[.int .i64 pr, .pointer (some ⟨q', 0, none⟩), .slice Au nu cu, .slice Arv rl.length crv, .slice A4 nl.length c4, .slice B4 gl.length d4] :: .box g2 31 (cond wz.2.1 #[.int .i64 pr, .pointer (some ⟨q', 0, none⟩), .slice Au nu cu, .slice Arv rl.length crv, .slice A4 nl.length c4, .slice B4 gl.length d4] #[.int .i64 0, .pointer none, .slice none 0 0, .slice none 0 0, .slice none 0 0, .slice none 0 0]) :: .box g1 37 #[.int .i64 pr, .slice Al L.length cl, .int .u64 (ps : Nat), .slice Ar rl.length cr, .slice An nl.length cn, .slice Ag gl.length cg] :: F) K7 := hW.1 hJ0
       rw [show wz.2.1 = true from hst] at hS
       dsimp only [cond] at hS
       clear hW hJ0 hRr hRt hN0 hst
       generalize wz.1 = wf at *
       simp only [show vs (3 : Nat) = _ from e3]
       go_wp2_with fail
       refine BA Tryz.results52 rfl (hS.box 1 rfl) Tryz.underlying31 rfl (by kernel_rfl) rfl rfl ?_
       refine ⟨_, rfl, (hS.sub (F' := F) (((List.sublist_cons_self _ _).trans (List.sublist_cons_self _ _)).trans (List.sublist_cons_self _ _))).mono (KSt.out.and Cx) fun D w h => ?_⟩
       have h := k7.out _ _ h
       have h2 := kc.out _ _ (k5 _ _ h.1.1)
       exact ⟨k0 _ _ (k5 _ _ h.1.1), _, _, _, _, _, rfl, kh.out _ _ h.1.1, h2.1, ⟨_, h.2, h.1.2⟩, h2.2.1, h2.2.2⟩
theorem Cu.fits {p : Af} {L : List (Nat × Nat)} {R : Nat} (h : Cu p L R) : Fits p := by
 have hm : BZ R < BK := by
  have : 2 ^ (R + 1) <= 2 ^ 6 := Nat.pow_le_pow_right (by decide) (by have := h.r5; omega)
  unfold BZ BK; omega
 refine ⟨?_, fun z hz => ?_, by have := h.rlen; omega, fun z hz => ?_, by have := h.nlen; omega, fun z hz => ?_, by have := h.glen; omega⟩
 ·rw [<- h.start]; exact Nat.lt_of_le_of_lt Nat.and_le_right hm
 ·have := (h.rules z hz).2.2.2.2.2
  unfold BK; omega
 ·have := (h.never z hz).1.2.2.2
  unfold BK; omega
 ·have := (h.goal z hz).2.2.2
  unfold BK; omega
theorem Cu.ok {p : Af} {L : List (Nat × Nat)} {R : Nat} (h : Cu p L R) : p.Ok :=
 ⟨by have := h.rlen; omega, by have := h.nlen; omega, by have := h.glen; omega, fun L' e => by rw [h.links] at e; injection e with e; subst e; exact ⟨h.hok, by have := h.len; omega⟩⟩
end
section
open Go.RowKit
attribute [local go_sem ↓] Go.wp_at_zero Go.wp_at_succ
set_option maxRecDepth 20000
set_option exponentiation.threshold 5000
theorem isH_ptr {w : World} {D : Nat -> Prop} {v : Value} {o : Option (List (Nat × Nat))} (h : Fp w D v o) : ∃ p, v = .pointer p := by
 cases o with
 | none => exact ⟨_, h⟩
 | some L => obtain ⟨q, o, h, _⟩ := h; exact ⟨_, h⟩
theorem B7.cells {w : World} {D : Nat -> Prop} {v : Value} {p : Af} (h : B7 w D v p) : ∃ cs, v = .agg cs /\ cs.size = 6 /\ cs.all (·.oneCell') = true := by
 obtain ⟨lp, s, rv, nv, gv, rfl, h1, h2, h3, h4, h5⟩ := h
 obtain ⟨_, rfl⟩ := isH_ptr h1
 obtain ⟨_, _, _, rfl⟩ := h2.shape
 obtain ⟨_, _, rfl, _, _⟩ := h3.shape
 obtain ⟨_, _, rfl⟩ := CE h4
 obtain ⟨_, _, rfl⟩ := CE h5
 exact ⟨_, rfl, rfl, by simp [Value.oneCell']⟩
theorem CO.cells {w : World} {D : Nat -> Prop} {v : Value} {p : Af} (h : CO w D v p) : ∃ cs, v = .agg cs /\ cs.size = 6 /\ cs.all (·.oneCell') = true := by
 obtain ⟨lv, rv, nv, gv, L, rfl, _, h1, h2, h3, h4⟩ := h
 obtain ⟨_, _, rfl, _, _⟩ := h1.shape
 obtain ⟨_, _, rfl, _, _⟩ := h2.shape
 obtain ⟨_, _, rfl, _, _⟩ := Sl.shape (h3 : Sl _ _ _ _ _ _)
 obtain ⟨_, _, rfl, _, _⟩ := Sl.shape (h4 : Sl _ _ _ _ _ _)
 exact ⟨_, rfl, rfl, by simp [Value.oneCell']⟩
theorem ret_cct {P : Program} {fn : Func} {p p2 t3 : Tmp} {ty ty2 : TypeId} {R : Ending -> World -> Prop} {a : Act} {w : World} {g g2 : Nat} {t t2 : TypeId} {cs cs2 : Array Value} {d d2 : TypeDesc} {v : Value} (h : fn.results = #[.cell p ty, .cell p2 ty2, .tmp t3]) (hp : a.eval (.tmp p) = .pointer (some ⟨g, 0, none⟩)) (hb : Co w g t cs)
  (hu : P.underlying ty = some d) (hd : (match d with | .struct _ | .array _ _ => true | _ => false) = true) (hi : (P.info? ty).map (·.size) = some cs.size)
  (hp2 : a.eval (.tmp p2) = .pointer (some ⟨g2, 0, none⟩)) (hb2 : Co w g2 t2 cs2) (hu2 : P.underlying ty2 = some d2) (hd2 : (match d2 with | .struct _ | .array _ _ => true | _ => false) = true) (hi2 : (P.info? ty2).map (·.size) = some cs2.size)
  (hv : a.eval (.tmp t3) = v) (hdf : a.defers = []) (hR : R (.returned (.tuple #[.agg cs, .agg cs2, v])) w) : bodyPost P fn R .ret a w := by
 have hr : (results fn a.tmps).run P w = .ok (.tuple #[.agg cs, .agg cs2, v]) w := by
  have hp' : a.tmps[p]?.getD undef = .pointer (some ⟨g, 0, none⟩) := by simpa [Act.eval] using hp
  have hp2' : a.tmps[p2]?.getD undef = .pointer (some ⟨g2, 0, none⟩) := by simpa [Act.eval] using hp2
  have hv' : a.tmps[t3]?.getD undef = v := by simpa [Act.eval] using hv
  simp [results, h, hp', hp2', hv', asAddr, run_loadVar_row w g t ty cs (0, 0) d hb hu hd hi, run_loadVar_row w g2 t2 ty2 cs2 (0, 0) d2 hb2 hu2 hd2 hi2]
 exact bodyPost_ret hr hdf hR
end
section
open Go.RowKit
attribute [local go_sem ↓] Go.wp_at_zero Go.wp_at_succ
set_option maxRecDepth 20000
set_option exponentiation.threshold 5000
theorem rprob_parts {w0 : World} {D : Nat -> Prop} {v : Value} {R : Nat} {L : List (Nat × Nat)} {st : Nat} {rl : List AW} {nl gl : List (Nat × Nat)} (h : CO w0 D v ⟨R, some L, st, rl, nl, gl⟩) :
  ∃ Al cl Ar cr An cn Ag cg, v = .agg #[.int .i64 (R : Nat), .slice Al L.length cl, .int .u64 (st : Nat), .slice Ar rl.length cr, .slice An nl.length cn, .slice Ag gl.length cg] := by
 obtain ⟨lv, rv, nv, gv, L', rfl, hl', h1, h2, h3, h4⟩ := h
 injection hl' with e; subst e
 obtain ⟨Al, cl, rfl, _, _⟩ := h1.shape
 obtain ⟨Ar, cr, rfl, _, _⟩ := h2.shape
 obtain ⟨An, cn, rfl, _, _⟩ := Sl.shape (h3 : Sl _ _ _ _ _ _)
 obtain ⟨Ag, cg, rfl, _, _⟩ := Sl.shape (h4 : Sl _ _ _ _ _ _)
 exact ⟨_, _, _, _, _, _, _, _, rfl⟩
theorem IY {w0 : World} {D : Nat -> Prop} {lv sv rv nv gv : Value} {R : Nat} {L : List (Nat × Nat)} {st : Nat} {rl : List AW} {nl gl : List (Nat × Nat)} (h : CO w0 D (.agg #[.int .i64 (R : Nat), lv, sv, rv, nv, gv]) ⟨R, some L, st, rl, nl, gl⟩) :
  Sl w0 D 2 lv L.length (Ah L) /\ Sl w0 D 5 rv rl.length (AZ rl) /\ Sl w0 D 2 nv nl.length (Bd nl) /\ Sl w0 D 2 gv gl.length (Bd gl) := by
 obtain ⟨lv, rv, nv, gv, L', e, hl', h1, h2, h3, h4⟩ := h
 injection hl' with e2; subst e2
 injection e with e; injection e with e; injection e with _ e; injection e with a e; injection e with _ e; injection e with b e; injection e with c e; injection e with d _
 subst a b c d
 exact ⟨h1, h2, h3, h4⟩
end
section
open Go.RowKit
attribute [local go_sem ↓] Go.wp_at_zero Go.wp_at_succ
set_option maxRecDepth 20000
set_option exponentiation.threshold 5000
theorem hasB_nat {N t : Nat} : Bn N (t : Int) = N.testBit t := by simp [Bn]
end
section
open Go.RowKit
attribute [local go_sem ↓] Go.wp_at_zero Go.wp_at_succ
set_option maxRecDepth 20000
set_option exponentiation.threshold 5000
def Fe (M N : Nat) : Nat := M ^^^ (M &&& N)
theorem tb_minus (M N i : Nat) : (Fe M N).testBit i = (M.testBit i && !N.testBit i) := by
 unfold Fe; rw [Nat.testBit_xor, Nat.testBit_and]; cases M.testBit i <;> cases N.testBit i <;> rfl
theorem wd_minus (M N k : Nat) : wd (Fe M N) k = wd M k &&& Cd (wd N k) := by
 apply Nat.eq_of_testBit_eq
 intro i
 rw [Nat.testBit_and]
 by_cases hi : i < 64
 ·rw [Di (DG _ _) i hi]
  simp [C7, hi, tb_minus]
 ·simp [EY (DG _ _) (Nat.not_lt.1 hi)]
theorem minus_words {a : List Nat} (ha : Ba a) (N : Nat) : Ba ((List.range a.length).map fun j => wd (Bp a) j &&& Cd (wd N j)) /\ Bp ((List.range a.length).map fun j => wd (Bp a) j &&& Cd (wd N j)) = Fe (Bp a) N := by
 have h1 : Ba ((List.range a.length).map fun j => wd (Bp a) j &&& Cd (wd N j)) := fun x hx => by
  obtain ⟨j, _, rfl⟩ := List.mem_map.1 hx
  exact Nat.lt_of_le_of_lt Nat.and_le_left (DG _ _)
 refine ⟨h1, Gj h1 fun k => ?_⟩
 rw [wd_minus, List.getD_eq_getElem?_getD, List.getElem?_map]
 rcases Nat.lt_or_ge k a.length with hk | hk
 ·rw [List.getElem?_range hk]; rfl
 ·rw [List.getElem?_eq_none (by simpa using hk), wd_ge ha hk, Nat.zero_and]; rfl
theorem run_andnot64 {P : Program} {w : World} {t : TypeId} {x y : Nat} (hx : x < BK) (hy : y < BK) : (binOp .andNot t (.int .u64 (x : Nat)) (.int .u64 (y : Nat))).run P w = .ok (.int .u64 ((x &&& Cd y : Nat) : Int)) w := by
 go_simp; rw [Jv hx hy]
set_option maxHeartbeats 2000000 in
theorem minus_any {w0 : World} {D E : Nat -> Prop} {v u : Value} {M N : Nat} (hv : A6 w0 D v M) (hu : A6 w0 E u N) :
  Calls Tryz.prog 64 #[v, u] w0 (AM (fun x w' => A6 w' (w0.heap.size <= ·) x (Fe M N)) w0) := by
 obtain ⟨A, ca, a, rfl, ha, rfl, ha1, ha2, hsa⟩ := hv.parts
 obtain ⟨B, cb, b, rfl, -⟩ := hu.parts
 obtain ⟨m, hm⟩ : ∃ m, m = b.length := ⟨_, rfl⟩
 rw [<- hm] at hu ⊢
 clear hm
 obtain ⟨K, k1, k2, hS⟩ : ∃ K : (Nat -> Prop) -> World -> Prop, (∀ D w, K D w -> Sl w D 1 (.slice A a.length ca) a.length (BE a)) /\ (∀ D w, K D w -> A6 w D (.agg #[.slice B m cb]) N) /\ St w0 w0 [] K := ⟨_, fun _ _ h => h.1, fun _ _ h => h.2, St.start (D := fun _ => True) ((Az (by decide)).and A5) ⟨hsa.imp fun _ _ _ => trivial, hu.imp fun _ _ _ => trivial⟩⟩
 have hla := ha.2.2
 have HW := Lib.hid (minus_words ha.1 N)
 have HA := Lib.hid ha.1
 have hle : a.length <= 64 := by omega
 clear hsa hv hu ha
 go_enter Tryz.func64, Tryz.ntmps64
 go_wp2_with (first
  | ((with_reducible refine qA 2 ?_); refine AA hS rfl _ _ rfl (.agg #[.slice A a.length ca]) _ rfl rfl ?_; clear hS; intro g2 w_ hS; (try simp only [Act.put, Act.eval, zz, Value.cells] at hS))
  | ((with_reducible refine qA 3 ?_); refine AA hS rfl _ _ rfl (.agg #[.slice B m cb]) _ rfl rfl ?_; clear hS; intro g3 w_ hS; (try simp only [Act.put, Act.eval, zz, Value.cells] at hS))
  | ((with_reducible refine qA 4 ?_); refine qa hS #[.slice none 0 0] ?_; clear hS; intro g4 w_ hS)
  | ((with_reducible refine qK ?_); refine qC hS ?_)
  | ((with_reducible show wpList _ _ _ (⟨_, .makeSlice _ _ _, _, _, _, _⟩ :: _) _ _); refine st_mk hS rfl _ _ _ rfl IG .i64 .i64 a.length #[.int .u64 0] rfl rfl (by kernel_rfl) (by omega) (by omega) ?_; clear hS; intro g5 w_ hS))
 rw [mk_u64s] at hS
 obtain ⟨f, hf⟩ : ∃ f : Nat -> Nat, f = fun j => wd (Bp a) j &&& Cd (wd N j) := ⟨_, rfl⟩
 rw [<- hf] at HW
 replace hf := Lib.hid hf
 rw [<- DZ f] at hS
 go_loopw [6, 13] (fun j i wr => ∃ k : Nat, i = .int .i64 (k : Nat) /\ k <= a.length /\ St w0 wr [.own (.slice (some ⟨g5, 0, none⟩) a.length a.length) 33 1 a.length (BE (Bw f k a.length)), .box g4 27 #[.slice none 0 0], .box g3 27 #[.slice B m cb], .box g2 27 #[.slice A a.length ca]] K) (fun _ i _ => a.length - (intOf i).toNat)
 case atStart => exact ⟨0, rfl, by omega, hS⟩
 case round =>
  clear hS
  obtain ⟨k, rfl, hk, hS⟩ := hrel
  by_cases hkn : k < a.length
  ·obtain ⟨b1, o1, rfl⟩ : ∃ b o, A = some ⟨b, o, none⟩ := by
    obtain ⟨_, A2, c2, e2, _, _, h5⟩ := k1 _ _ hS.ro
    obtain ⟨b, o, h6, _⟩ := h5 (by omega)
    injection e2 with e2
    exact ⟨b, o, e2.trans h6⟩
   have HX := Lib.hid (Dh a k (by omega))
   have hx : a.getD k 0 < BK := HA.out.getD k
   have hy : wd N k < BK := DG _ _
   have HF := Lib.hid (show (BE (Bw f k a.length)).set k (.int .u64 ((a.getD k 0 &&& Cd (wd N k) : Nat) : Int)) = BE (Bw f (k + 1) a.length) by
    rw [<- G9, show f k = a.getD k 0 &&& Cd (wd N k) by rw [hf.out]; show wd (Bp a) k &&& _ = _; rw [C6 HA.out], Gk])
   have HWd := Lib.hid (show wd N ((k : Nat) : Int).toNat = wd N k by rw [Int.toNat_natCast])
   generalize a.getD k 0 = x at *
   generalize wd N k = y at *
   go_wp2_with (first | ((with_reducible refine qB ?_); refine qc ?_ ?_ <;> intro h_ <;> go_prune))
   refine Ge 12 [] [.i (.slice (some ⟨g5, 0, none⟩) a.length a.length), .n ((k : Nat) : Int), .q g2 0, .i (.slice (some ⟨b1, o1, none⟩) a.length ca), .n ((k : Nat) : Int), .q b1 (o1 + (k) * 1), .i (.int .u64 ((x : Nat) : Int)), .i (.agg #[.slice B m cb]), .n ((k : Nat) : Int), .i (.int .u64 (y : Nat)), .i (.int .u64 ((x &&& Cd y : Nat) : Int)), .q g5 (0 + (k) * 1), .t] ⟨uM, uM, uF, uC (h := fun w hW hN => ((hS.ext hW).box 3 rfl).cell 0), uM, uI (h := fun w hW hN => Ak (m := k) Tryz.underlying25 (by kernel_rfl) (by omega) (by omega)), uC (h := fun w hW hN => by rw [Nat.mul_one]; exact CH (k1 _ _ (hS.ext hW).ro) HX.out), uR (h := fun w hW hN => (hS.ext hW).box 2 rfl), uM, ?_, uB (h := fun w hW hN => run_andnot64 hx hy), uI (h := fun w hW hN => Ak (m := k) Tryz.underlying25 (by kernel_rfl) (by omega) (by omega)), trivial⟩ ?_
   ·refine uT fun b__ w hW hE K hK => ?_
    have e23 := hE 23
    have e24 := hE 24
    exact AC rfl (by kernel_rfl) (by simp only [List.map_cons, List.map_nil, e23, e24]) (EU _ N (k : Nat) w _ (k2 _ _ (hS.ext hW).ro) (by omega)) fun v w' h hb => hK v w' (h.trans (by rw [HWd.out])) hb
   ·intro vs wz hW hT
    obtain ⟨e16, e17, e18, e19, e20, e21, e22, e23, e24, e25, e26, e27, -⟩ := hT
    simp only [AE, Act.put, zz, ze]
    (intro o_ ho_; simp only [List.getElem?_toArray, List.getElem?_cons_succ, List.getElem?_cons_zero, Option.some.injEq] at ho_; subst ho_)
    refine EF rfl (g := g5) (i := k) (e27.trans (by rw [Nat.zero_add, Nat.mul_one])) e26 ((hS.ext hW).own 0 rfl) (by omega) rfl rfl (by kernel_rfl) fun w4 h1 hU => ?_
    replace hS := (hS.ext hW).upd 0 rfl (.own (.slice (some ⟨g5, 0, none⟩) a.length a.length) 33 1 a.length (BE (Bw f (k + 1) a.length))) (by simpa [Aj.blk, Value.ownBlock] using Bg hU) (by rw [<- HF.out]; exact h1) fun _ e => .inl e
    simp only [Ca]
    simp only [Act.put, List.setIfInBounds_toArray, List.set_cons_zero, List.set_cons_succ]
    clear e26 e27 h1 hU hW
    go_wp2_with fail
    exact ⟨⟨k + 1, by go_num, hkn, hS⟩, by simp [intOf]; omega⟩
  ·obtain rfl : a.length = k := by omega
   rw [E0, hf.out] at hS
   rw [hf.out] at HW
   obtain ⟨l, hl⟩ : ∃ l, l = (List.range a.length).map (fun j => wd (Bp a) j &&& Cd (wd N j)) := ⟨_, rfl⟩
   have hll : l.length = a.length := by rw [hl]; simp
   have HLL := Lib.hid hll
   rw [<- hl] at hS HW
   clear hl hll
   have hs0 := ((hS.own 0 rfl).lt _ rfl).1
   have hS1 := hS.freeze 0 (by decide) rfl
   clear hS
   have hS := hS1
   clear hS1
   go_wp2_with (first
    | ((with_reducible refine qB ?_); refine qc ?_ ?_ <;> intro h_ <;> go_prune)
    | (go_at_call 62; refine (II _ l _ _ HW.out.1 (by rw [HLL.out]; omega) (by rw [HLL.out]; exact hS.ro.2.only)).mono ?_; rintro r_ w_ ⟨_, rfl, hM, hb_⟩; obtain ⟨A3, c3, l3, rfl, -⟩ := hM.parts; replace hS := hS.ret2 hb_ (AP A5 (w0.heap.size <= ·)) (hM.imp fun z hz _ => ⟨.inl hz.1, by rw [hz.2]; exact hs0⟩); clear hb_ hM)
    | ((with_reducible refine qM ?_); (first | refine qS hS ?_ | refine qT hS ?_); clear hS; intro w_ hS; (try simp only [Act.put, Act.eval, zz, Value.cells] at hS)))
   refine Bl Tryz.results64 rfl (hS.box 0 rfl) Tryz.underlying27 rfl (by kernel_rfl) rfl ?_
   exact AM.mk (by rw [<- HW.out.2]; exact hS.ro.2.imp fun z hz _ => hz.2) hS.below
end
section
open Go.RowKit
def Sp.g {X : Type} {R : X -> X -> Prop} (c : Bool) (v : Value) : Sp R := .i (cond c v undef)
section
variable {X : Type} {κ : Kd X} {P : Program} {ops : Array Oper} {l : List (Sp κ.R)} {a0 : Act} {Q : Exit -> Act -> World -> Prop} {i : Nat} {o : Oper}
theorem uY {j : Nat} {c : Bool} {oj : Oper} {d : Tmp} (h : o.guard = some (j, c) := by rfl) (h1 : ops[j]? = some oj := by rfl) (h2 : oj.dst = some d := by rfl) (h3 : src ops d o.after.toList = some j := by rfl) (h4 : l[j]? = some (.i (.bool !c)) := by rfl) (hs : ∀ x, Sp.T l i undef x := by first | exact fun _ => rfl | exact fun _ => trivial | exact fun _ => nofun) : Ch κ P ops l a0 Q i o := fun b x hC hN hE =>
 ⟨fun hw => (by rw [Ee h h1 h2 ((Ev.n h3 h4).at hE : b.eval (.tmp _) = _)] at hw; cases c <;> cases hw), fun _ => hs x⟩
theorem uX {j : Nat} {c : Bool} {oj : Oper} {d : Tmp} (h : o.guard = some (j, c) := by rfl) (h1 : ops[j]? = some oj := by rfl) (h2 : oj.dst = some d := by rfl) (h3 : src ops d o.after.toList = some j := by rfl) (h4 : l[j]? = some (.i undef) := by rfl) (hs : ∀ x, Sp.T l i undef x := by first | exact fun _ => rfl | exact fun _ => trivial | exact fun _ => nofun) : Ch κ P ops l a0 Q i o := fun b x hC hN hE =>
 ⟨fun hw => (by
  have h5 : b.eval (.tmp d) = undef := (Ev.n h3 h4).at hE
  have h6 : yielded ops b.tmps j = none := by
   have h7 : ((some oj).bind fun x => x.dst) = some d := h2
   unfold yielded
   rw [h1, h7]
   simp only [Option.bind_some]
   cases h7 : b.tmps[d]? with
   | none => rfl
   | some v =>
    have : v = undef := by simpa [Act.eval, h7] using h5
    subst this; rfl
  simp [Region.wanted, h, h6] at hw), fun _ => hs x⟩
end
end
section
open Go.RowKit
attribute [local go_sem ↓] Go.wp_at_zero Go.wp_at_succ
set_option maxRecDepth 20000
set_option exponentiation.threshold 5000
theorem GM {N t : Nat} (ht : t < 64) : N ||| 2 ^ t = Bt N (t : Int) := by
 unfold Bt
 rw [if_pos ⟨by omega, by omega⟩, Int.toNat_natCast]
end
section
open Go.RowKit
set_option exponentiation.threshold 5000
theorem rolesN_mask : ∀ R, R < 6 -> D9 R = BZ R := by decide
theorem role_in : ∀ R, R < 6 -> ∀ z, z < 6 -> 1 <= z -> z <= R -> (BZ R).testBit z = true := by decide
theorem Hy {R : Nat} (hR : R <= 5) {i : Int} (h1 : 1 <= i) (h2 : i <= R) : Bn (BZ R) i = true := by
 obtain ⟨z, rfl⟩ : ∃ z : Nat, i = (z : Int) := ⟨i.toNat, by omega⟩
 rw [hasB_nat]
 exact role_in R (by omega) z (by omega) (by omega) (by omega)
theorem over_of {m : Nat} {z : Nat × Nat} (h1 : z.1 &&& m = z.1) (h2 : z.2 &&& m = z.2) : Ia m z = true := by
 unfold Ia
 rw [beq_iff_eq]
 exact Bf fun i => by
  have a : (z.1 &&& m).testBit i = z.1.testBit i := by rw [h1]
  have b : (z.2 &&& m).testBit i = z.2.testBit i := by rw [h2]
  rw [Nat.testBit_and] at a b
  rw [Nat.testBit_and, Nat.testBit_or]
  cases h3 : z.1.testBit i <;> cases h4 : z.2.testBit i <;> cases h5 : m.testBit i <;> simp_all
theorem Cu.check {p : Af} {L : List (Nat × Nat)} {R : Nat} (h : Cu p L R) : checkE p = 0 := by
 have hR := h.r5
 have hm := rolesN_mask R (by omega)
 have hc : ∀ z ∈ p.cubes, z.1 &&& BZ R = z.1 /\ z.2 &&& BZ R = z.2 /\ z.1 &&& z.2 = 0 := fun z hz => by
  unfold Af.cubes at hz
  rcases List.mem_append.1 hz with hz | hz
  ·rcases List.mem_append.1 hz with hz | hz
   ·obtain ⟨r, hr, rfl⟩ := List.mem_map.1 hz
    have := h.rules r hr
    exact ⟨this.2.2.1, this.2.2.2.1, this.2.2.2.2.1⟩
   ·have := (h.never z hz).1; exact ⟨this.1, this.2.1, this.2.2.1⟩
  ·have := h.goal z hz; exact ⟨this.1, this.2.1, this.2.2.1⟩
 unfold checkE
 rw [h.links]
 dsimp only
 rw [h.roles, Int.toNat_natCast, hm, if_neg (by have := h.r2; omega), if_neg (by have := h.rlen; have := h.nlen; have := h.glen; omega), if_neg, if_neg, if_neg]
 ·unfold goodB
  rw [h.links]
  dsimp only
  intro e
  rw [Bool.not_eq_false', List.any_eq_true] at e
  obtain ⟨z, hz, e⟩ := e
  rw [(h.never z hz).2] at e; cases e
 ·rintro (e | e)
  ·obtain ⟨z, hz, e⟩ := List.any_eq_true.1 e
   rw [(hc z hz).2.2] at e; cases e
  ·have : p.rules.all revB = true := List.all_eq_true.2 fun r hr => by
    unfold revB
    cases hr' : r.revoke with
    | false => rfl
    | true =>
     have := (h.rules r hr).2.2.2.2.2.2.2 hr'
     simp [this]
   rw [this] at e; cases e
 ·have : DO p L (BZ R) = true := by
   unfold DO
   rw [Bool.and_eq_true, Bool.and_eq_true, Bool.and_eq_true]
   refine ⟨by rw [h.start]; simp, List.all_eq_true.2 fun z hz => ?_, List.all_eq_true.2 fun r hr => ?_, List.all_eq_true.2 fun z hz => over_of (hc z hz).1 (hc z hz).2.1⟩
   ·have := h.inr z hz
    rw [Bool.and_eq_true]
    exact ⟨Hy hR (by omega) (by omega), Hy hR (by omega) (by omega)⟩
   ·have := (h.rules r hr).1
    exact Hy hR (by omega) (by omega)
  rw [this]; exact nofun
theorem relM_lt (L : List (Nat × Nat)) (p : Af) : relM L p < BK := by rw [Cn]; exact maskOf_lt _ _
end
section
open Go.RowKit
attribute [local go_sem ↓] Go.wp_at_zero Go.wp_at_succ
set_option maxRecDepth 20000
set_option exponentiation.threshold 5000
theorem mask_with {R N t : Nat} (hR : R <= 5) (hN : N &&& BZ R = N) (h1 : 1 <= t) (h2 : t <= R) : Bt N (t : Int) &&& BZ R = Bt N (t : Int) := by
 rw [<- GM (by omega)]
 refine Bf fun i => ?_
 have hN' : (N &&& BZ R).testBit i = N.testBit i := by rw [hN]
 rw [Nat.testBit_and] at hN'
 rw [Nat.testBit_and, Nat.testBit_or, Nat.testBit_two_pow]
 by_cases e : t = i
 ·subst e
  rw [role_in R (by omega) t (by omega) h1 h2]; simp
 ·simp only [e, decide_false, Bool.or_false]
  exact Bool.eq_iff_iff.1 hN'
theorem mask_del {R N : Nat} (t : Int) (hN : N &&& BZ R = N) : del N t &&& BZ R = del N t := by
 unfold del
 split
 ·rename_i hb
  refine Bf fun i => ?_
  have hN' : (N &&& BZ R).testBit i = N.testBit i := by rw [hN]
  rw [Nat.testBit_and] at hN'
  have hb' : N.testBit t.toNat = true := by unfold Bn at hb; simp only [Bool.and_eq_true] at hb; exact hb.2
  rw [Nat.testBit_and, Nat.testBit_xor, Nat.testBit_two_pow]
  by_cases e : t.toNat = i
  ·rw [e] at hb' ⊢; simp [hb']
  ·simp only [e, decide_false, Bool.xor_false]; exact Bool.eq_iff_iff.1 hN'
 ·exact hN
theorem stepM_mask {p : Af} {L : List (Nat × Nat)} {R N M : Nat} {k : Int} (hM : Cu p L R) (hN : N &&& BZ R = N) (h : stepM p N k = some M) : M &&& BZ R = M := by
 unfold stepM at h
 split at h
 ·rename_i hk
  split at h
  ·injection h with h
   subst h
   have hj : k.toNat < p.rules.length := by omega
   have hz := hM.rules _ (List.mem_of_getElem? (Br AL hj))
   generalize p.rules.getD k.toNat AL = z at *
   unfold Fd
   split
   ·exact mask_del _ hN
   ·have h1 := hz.1
    have := mask_with (t := z.target.toNat) hM.r5 hN (by omega) (by omega)
    rwa [show ((z.target.toNat : Nat) : Int) = z.target by omega] at this
  ·cases h
 ·cases h
theorem mask_lt {R N : Nat} (hR : R <= 5) (hN : N &&& BZ R = N) : N < 64 := by
 have h1 : BZ R <= 62 := by
  have : ∀ R, R < 6 -> BZ R <= 62 := by decide
  exact this R (by omega)
 have h2 : N &&& BZ R <= BZ R := Nat.and_le_right
 omega
theorem Rch.mask {p : Af} {L : List (Nat × Nat)} {R s : Nat} (hM : Cu p L R) (h : Rch p s) : s &&& BZ R = s := by
 induction h with
 | start => exact hM.start
 | step _ hk ih => exact stepM_mask hM ih hk
end
section
open Go.RowKit
attribute [local go_sem ↓] Go.wp_at_zero Go.wp_at_succ
set_option maxRecDepth 20000
set_option exponentiation.threshold 5000
theorem withN_sub {N T : Nat} {t : Nat} (h : CK N T) (ht : T.testBit t = true) (h64 : t < 64) : CK (Bt N (t : Int)) T := by
 rw [<- GM h64]
 exact h.or fun i hi => by
  have e : i = t := E9.1 hi
  subst e; exact ht
theorem del_sub {N : Nat} (i : Int) : CK (del N i) N := fun k hk => by
 unfold del at hk
 split at hk
 ·rename_i hb
  have hb' : N.testBit i.toNat = true := by unfold Bn at hb; simp only [Bool.and_eq_true] at hb; exact hb.2
  rw [Nat.testBit_xor, Nat.testBit_two_pow] at hk
  by_cases e : i.toNat = k
  ·rw [<- e]; exact hb'
  ·simpa [e] using hk
 ·exact hk
theorem Rch.upper {p : Af} {L : List (Nat × Nat)} {R T s : Nat} (hM : Cu p L R) (hT : UCl L p T) (h : Rch p s) : CK s T := by
 induction h with
 | start => exact hT.start
 | @step N M k hN hk ih =>
  unfold stepM at hk
  split at hk
  ·rename_i hr
   split at hk
   ·rename_i hb
    injection hk with hk
    subst hk
    have hj : k.toNat < p.rules.length := by omega
    have hm := List.mem_of_getElem? (Br AL hj)
    have hz := hM.rules _ hm
    have hu := hT.rules _ hm
    generalize p.rules.getD k.toNat AL = z at *
    unfold Fd
    split
    ·exact (del_sub _).trans ih
    ·rename_i hv
     have hv' : z.revoke = false := by simpa using hv
     have h1 := hz.1
     have h5 := hM.r5
     have hh : Bv (z.yes, z.no) (closM L N) = true := by
      unfold stepB closP at hb
      rw [hv', hM.links] at hb
      cases h : Bv (z.yes, z.no) (closM L N)
      ·simp [h] at hb
      ·rfl
     have hy : CK z.yes (closM L N) := Ck.1 (by
      unfold Bv at hh
      simp only [Bool.and_eq_true] at hh
      exact hh.1)
     have := hu hv' (Ck.2 (hy.trans ih.clos))
     obtain ⟨t, ht⟩ : ∃ t : Nat, z.target = (t : Int) := ⟨z.target.toNat, by omega⟩
     rw [ht, hasB_nat] at this
     rw [ht]
     exact withN_sub ih this (by omega)
   ·cases hk
  ·cases hk
end
section
open Go.RowKit
set_option exponentiation.threshold 5000
section
variable {p : Af} {L : List (Nat × Nat)} {R A k i : Nat}
end
noncomputable def runTo (p : Af) : Nat -> Nat -> List Int -> Nat × Nat × Bool
 | N, n, [] => (N, n, true)
 | N, n, k :: r => match stepM p N k with
  | none => (N, n, false)
  | some M => runTo p M (n + 1) r
theorem Cz {p : Af} {N M n : Nat} {k : Int} {r : List Int} (h : stepM p N k = some M) : runTo p N n (k :: r) = runTo p M (n + 1) r := by rw [runTo, h]
theorem DJ {p : Af} {N n : Nat} {k : Int} {r : List Int} (h : stepM p N k = none) : runTo p N n (k :: r) = (N, n, false) := by rw [runTo, h]
theorem EA {p : Af} {k : Int} {M M' : Nat} : ∀ {l : List Int} {N n m : Nat}, runTo p N n l = (M, m, true) -> stepM p M k = some M' -> runTo p N n (l ++ [k]) = (M', m + 1, true)
 | [], N, n, m, h, hk => by
  simp only [runTo, Prod.mk.injEq] at h
  obtain ⟨rfl, rfl, _⟩ := h
  show runTo p N n [k] = _
  rw [Cz hk]; rfl
 | j :: r, N, n, m, h, hk => by
  cases hj : stepM p N j with
  | none => rw [DJ hj] at h; simp at h
  | some N' =>
   rw [Cz hj] at h
   show runTo p N n (j :: (r ++ [k])) = _
   rw [Cz hj]
   exact EA h hk
theorem stepM_range {p : Af} {N M : Nat} {k : Int} (h : stepM p N k = some M) : ∃ j : Nat, k = (j : Int) /\ j < p.rules.length := by
 unfold stepM at h
 split at h
 ·rename_i hk
  exact ⟨k.toNat, by omega, by omega⟩
 ·cases h
section
variable {p : Af} {L : List (Nat × Nat)} {R : Nat}
end
end
section
open Go.RowKit
attribute [local go_sem ↓] Go.wp_at_zero Go.wp_at_succ
set_option maxRecDepth 20000
set_option exponentiation.threshold 5000
open Classical in
noncomputable def rchB (p : Af) : Bool := decide (∃ s, Rch p s /\ reachB p s = true)
open Classical in
theorem I0 {p : Af} (h : ∃ s, Rch p s /\ reachB p s = true) : rchB p = true := by unfold rchB; exact decide_eq_true h
open Classical in
theorem J1 {p : Af} (h : ∀ s, Rch p s -> reachB p s = false) : rchB p = false := by
 unfold rchB
 exact decide_eq_false fun ⟨s, h1, h2⟩ => by rw [h s h1] at h2; cases h2
end
section
open Go.RowKit
set_option exponentiation.threshold 5000
noncomputable def candB (L : List (Nat × Nat)) (N : Nat) (r : AW) : Bool := (!r.revoke && !Bn N r.target) && (r.yes &&& closM L N == r.yes)
noncomputable def firstC (L : List (Nat × Nat)) (l : List AW) (N : Nat) : Option Nat := l.findIdx? (candB L N)
noncomputable def satS (L : List (Nat × Nat)) (p : Af) : Nat -> Nat × List Int
 | 0 => (p.start, [])
 | n + 1 => match firstC L p.rules (satS L p n).1 with
  | none => satS L p n
  | some k => (Bt (satS L p n).1 (p.rules.getD k AL).target, (satS L p n).2 ++ [(k : Int)])
noncomputable def satM (L : List (Nat × Nat)) (p : Af) : Nat × List Int := satS L p p.rules.length
def Dg (l : List AW) : Prop := ∀ r ∈ l, ∃ t : Nat, r.target = (t : Int) /\ t < 64
section
variable {L : List (Nat × Nat)} {p : Af} {n : Nat}
theorem D4 {l : List AW} {N k : Nat} (h : firstC L l N = some k) : k < l.length /\ candB L N (l.getD k AL) = true /\ ∀ z ∈ l.take k, candB L N z = false := by
 unfold firstC at h
 rw [List.findIdx?_eq_some_iff_getElem] at h
 obtain ⟨hk, h1, h2⟩ := h
 refine ⟨hk, by rw [List.getD_eq_getElem?_getD, List.getElem?_eq_getElem hk]; exact h1, fun z hz => ?_⟩
 obtain ⟨j, hj⟩ := List.mem_iff_getElem?.1 hz
 rw [List.getElem?_take] at hj
 split at hj
 ·rename_i hjk
  have := h2 j hjk
  rw [List.getElem?_eq_getElem (by omega)] at hj
  injection hj with hj
  rw [<- hj]; simpa using this
 ·cases hj
theorem DY {l : List AW} {N : Nat} : firstC L l N = none ↔ ∀ z ∈ l, candB L N z = false := by
 unfold firstC; rw [List.findIdx?_eq_none_iff]
theorem C2 (h : firstC L p.rules (satS L p n).1 = none) : satS L p (n + 1) = satS L p n := by
 rw [satS, h]
theorem BS {k : Nat} (h : firstC L p.rules (satS L p n).1 = some k) : satS L p (n + 1) = (Bt (satS L p n).1 (p.rules.getD k AL).target, (satS L p n).2 ++ [(k : Int)]) := by
 rw [satS, h]
theorem satS_stop (h : firstC L p.rules (satS L p n).1 = none) : ∀ m, satS L p (n + m) = satS L p n
 | 0 => rfl
 | m + 1 => by
  have ih := satS_stop h m
  rw [<- Nat.add_assoc, C2 (by rw [ih]; exact h), ih]
theorem lacks_len (N : Nat) (l : List AW) : Ff N l <= l.length := List.length_filter_le _ _
theorem CU {N : Nat} {r : AW} (h : candB L N r = true) : r.revoke = false /\ Bn N r.target = false /\ (r.yes &&& closM L N == r.yes) = true := by
 unfold candB at h
 simp only [Bool.and_eq_true, Bool.not_eq_true'] at h
 exact ⟨h.1.1, h.1.2, h.2⟩
theorem Ei (hT : Dg p.rules) : ∀ n, Ff (satS L p n).1 p.rules + (satS L p n).2.length <= p.rules.length
 | 0 => by simpa [satS] using lacks_len _ _
 | n + 1 => by
  have ih := Ei hT n
  cases h : firstC L p.rules (satS L p n).1 with
  | none => rw [C2 h]; exact ih
  | some k =>
   rw [BS h]
   obtain ⟨hk, hc, _⟩ := D4 h
   have hm := List.mem_of_getElem? (Br AL hk)
   obtain ⟨t, ht, h64⟩ := hT _ hm
   have := lacks_lt hm ht (CU hc).2.1
   rw [GM h64, <- ht] at this
   simp only [List.length_append, List.length_singleton]
   omega
theorem sat_len : ∀ n, firstC L p.rules (satS L p n).1 = none \/ (satS L p (n + 1)).2.length = n + 1
 | 0 => by
  cases h : firstC L p.rules (satS L p 0).1 with
  | none => exact .inl rfl
  | some k => rw [BS h]; exact .inr (by simp [satS])
 | n + 1 => by
  rcases sat_len n with h | h
  ·exact .inl (by rw [C2 h]; exact h)
  ·cases h2 : firstC L p.rules (satS L p (n + 1)).1 with
   | none => exact .inl rfl
   | some k => rw [BS h2]; exact .inr (by simp [h])
theorem sat_done (hT : Dg p.rules) : firstC L p.rules (satM L p).1 = none := by
 unfold satM
 cases hn : p.rules.length with
 | zero => rw [List.eq_nil_of_length_eq_zero hn, DY]; simp
 | succ m =>
  rcases sat_len (L := L) (p := p) m with h | h
  ·rw [C2 h]; exact h
  ·have h1 := Ei (L := L) hT (m + 1)
   rw [h] at h1
   have h0 : Ff (satS L p (m + 1)).1 p.rules = 0 := by omega
   rw [DY]
   intro z hz
   cases hc : candB L (satS L p (m + 1)).1 z with
   | false => rfl
   | true =>
    have h2 := (CU hc).2.1
    unfold Ff at h0
    have h3 := List.eq_nil_of_length_eq_zero h0
    have : z ∈ p.rules.filter fun r => !Bn (satS L p (m + 1)).1 r.target := List.mem_filter.2 ⟨hz, by rw [h2]; rfl⟩
    rw [h3] at this; cases this
theorem sat_end (hT : Dg p.rules) (h : firstC L p.rules (satS L p n).1 = none) (hn : (satS L p n).2.length = n) : satM L p = satS L p n := by
 have h1 := Ei (L := L) hT n
 unfold satM
 have := satS_stop h (p.rules.length - n)
 rwa [show n + (p.rules.length - n) = p.rules.length by omega] at this
theorem sat_low (hT : Dg p.rules) : ∀ n, ULow L p (satS L p n).1
 | 0 => ⟨CK.refl _, fun T hT => hT.start⟩
 | n + 1 => by
  have ih := sat_low hT n
  cases h : firstC L p.rules (satS L p n).1 with
  | none => rw [C2 h]; exact ih
  | some k =>
   rw [BS h]
   obtain ⟨hk, hc, _⟩ := D4 h
   have hm := List.mem_of_getElem? (Br AL hk)
   obtain ⟨t, ht, h64⟩ := hT _ hm
   have := ih.add hm (CU hc).1 (CU hc).2.2 ht
   rw [GM h64, <- ht] at this
   exact this
theorem sat_least (hT : Dg p.rules) : Gc L p (satM L p).1 := by
 refine ⟨⟨(sat_low hT _).1, fun r hr h1 h2 => ?_⟩, (sat_low hT _).2⟩
 have := DY.1 (sat_done (L := L) hT) r hr
 unfold candB at this
 rw [h1, h2] at this
 simpa using this
theorem Gu (hT : Dg p.rules) : (satM L p).1 = uppM L p := (sat_least hT).eq
theorem upp_least (hT : Dg p.rules) : Gc L p (uppM L p) := by rw [<- Gu hT]; exact sat_least hT
theorem Dz (hT : Dg p.rules) : satS L p (satM L p).2.length = satM L p /\ ∀ n, n <= (satM L p).2.length -> (satS L p n).2 = (satM L p).2.take n /\ (satS L p n).2.length = n := by
 have key : ∀ N, (satS L p N).2.length <= N /\ satS L p (satS L p N).2.length = satS L p N /\ ∀ n, n <= (satS L p N).2.length -> (satS L p n).2 = (satS L p N).2.take n /\ (satS L p n).2.length = n := fun N => by
  induction N with
  | zero => exact ⟨by simp [satS], by simp [satS], fun n hn => by simp [satS] at hn; subst hn; simp [satS]⟩
  | succ m ih =>
   cases h : firstC L p.rules (satS L p m).1 with
   | none => rw [C2 h]; exact ⟨by omega, ih.2⟩
   | some k =>
    obtain ⟨h1, h2, h3⟩ := ih
    have hm : (satS L p m).2.length = m := by
     rcases m with _ | m
     ·simp [satS]
     ·rcases sat_len (L := L) (p := p) m with h4 | h4
      ·rw [C2 h4] at h; rw [h4] at h; cases h
      ·exact h4
    have hl : (satS L p (m + 1)).2.length = m + 1 := by rw [BS h]; simp [hm]
    refine ⟨by omega, by rw [hl], fun n hn => ?_⟩
    rcases Nat.lt_or_ge m n with h4 | h4
    ·obtain rfl : n = m + 1 := by omega
     exact ⟨by rw [List.take_of_length_le (by omega)], hl⟩
    ·obtain ⟨h5, h6⟩ := h3 n (by omega)
     refine ⟨?_, h6⟩
     rw [h5, BS h]
     dsimp only
     rw [List.take_append_of_le_length (by omega)]
 exact (key _).2
theorem sat_short (hT : Dg p.rules) : (satM L p).2.length <= p.rules.length := by
 have := Ei (L := L) hT p.rules.length
 unfold satM; omega
end
def CD (p : Af) : Bool := p.never.isEmpty && ((p.rules.all fun r => r.no == 0) && !(p.goal.any fun z => !(z.2 == 0)))
theorem EH {p : Af} (h : CD p = true) : p.never = [] /\ (∀ r ∈ p.rules, r.no = 0) /\ ∀ z ∈ p.goal, z.2 = 0 := by
 unfold CD at h
 simp only [Bool.and_eq_true, List.isEmpty_iff, List.all_eq_true, beq_iff_eq, Bool.not_eq_true', List.any_eq_false] at h
 exact ⟨h.1, h.2.1, fun z hz => by simpa using h.2.2 z hz⟩
theorem frag_no_rule {p : Af} {r : AW} (h : r ∈ p.rules) (hn : r.no ≠ 0) : CD p = false := by
 cases hb : CD p with
 | false => rfl
 | true => exact absurd ((EH hb).2.1 r h) hn
theorem holds_mono {y a b : Nat} (h : CK a b) (k : Bv (y, 0) a = true) : Bv (y, 0) b = true := by
 unfold Bv at *
 simp only [Bool.and_eq_true] at *
 refine ⟨Ck.2 ((Ck.1 k.1).trans h), by simp⟩
theorem holds_pos {y a : Nat} : Bv (y, 0) a = (y &&& a == y) := by
 unfold Bv; simp
theorem frag_good {p : Af} {L : List (Nat × Nat)} {N : Nat} (hl : p.links = some L) (h : CD p = true) : goodB p N = true := by
 unfold goodB; rw [hl, (EH h).1]; rfl
theorem reach_mono {p : Af} {L : List (Nat × Nat)} {M N : Nat} (hl : p.links = some L) (h : CD p = true) (hs : CK M N) (k : reachB p M = true) : reachB p N = true := by
 unfold reachB at *
 rw [hl] at *
 dsimp only at *
 obtain ⟨z, hz, hh⟩ := List.any_eq_true.1 k
 refine List.any_eq_true.2 ⟨z, hz, ?_⟩
 obtain ⟨y, n⟩ := z
 obtain rfl : n = 0 := (EH h).2.2 _ hz
 exact holds_mono hs.clos hh
theorem cand_step {p : Af} {L : List (Nat × Nat)} {N k : Nat} (hl : p.links = some L) (h : CD p = true) (hk : k < p.rules.length) (hc : candB L N (p.rules.getD k AL) = true) : stepM p N (k : Nat) = some (Bt N (p.rules.getD k AL).target) := by
 have hm := List.mem_of_getElem? (Br AL hk)
 have hn := (EH h).2.1 _ hm
 obtain ⟨h1, h2, h3⟩ := CU hc
 rw [stepM_at hl hk, if_pos]
 ·unfold Fd; rw [h1]; rfl
 ·unfold stepB closP
  rw [hl, h1, h2, hn, frag_good hl h]
  dsimp only
  rw [holds_pos, h3]; rfl
theorem Gv {p : Af} {L : List (Nat × Nat)} (hl : p.links = some L) (h : CD p = true) : ∀ n, Rch p (satS L p n).1 /\ runTo p p.start 0 (satS L p n).2 = ((satS L p n).1, (satS L p n).2.length, true)
 | 0 => ⟨.start, rfl⟩
 | n + 1 => by
  obtain ⟨h1, h2⟩ := Gv hl h n
  cases hf : firstC L p.rules (satS L p n).1 with
  | none => rw [C2 hf]; exact ⟨h1, h2⟩
  | some k =>
   rw [BS hf]
   obtain ⟨hk, hc, _⟩ := D4 hf
   have hs := cand_step hl h hk hc
   exact ⟨.step h1 hs, by
    dsimp only
    rw [EA h2 hs]; simp⟩
theorem Cu.targ {p : Af} {L : List (Nat × Nat)} {R : Nat} (h : Cu p L R) : Dg p.rules := fun r hr => by
 have h1 := (h.rules r hr).1
 have h5 := h.r5
 exact ⟨r.target.toNat, by omega, by omega⟩
theorem Fj {p : Af} {L : List (Nat × Nat)} (h : checkE p = 0) (hl : p.links = some L) : Dg p.rules := fun r hr => target_nat h hl hr
theorem upp_rch {p : Af} {L : List (Nat × Nat)} (hT : Dg p.rules) (hl : p.links = some L) (h : CD p = true) : Rch p (uppM L p) := by
 rw [<- Gu hT]; exact (Gv hl h _).1
theorem upp_reach {p : Af} {L : List (Nat × Nat)} {R : Nat} (hM : Cu p L R) (h : CD p = true) : reachB p (uppM L p) = rchB p := by
 cases hb : reachB p (uppM L p) with
 | true => exact (I0 ⟨_, upp_rch hM.targ hM.links h, hb⟩).symm
 | false =>
  refine (J1 fun s hs => ?_).symm
  cases hc : reachB p s with
  | false => rfl
  | true => rw [reach_mono hM.links h (hs.upper hM (upp_least hM.targ).1) hc] at hb; cases hb
noncomputable def hitN (L : List (Nat × Nat)) (p : Af) : Option Nat := (List.range ((satM L p).2.length + 1)).find? fun i => reachB p (satS L p i).1
def oneC (N : Nat) : List (Nat × Nat) := (Dl N).map fun r => (2 ^ r, 0)
noncomputable def srchM (L : List (Nat × Nat)) (p : Af) : List Int × List (Nat × Nat) × Bool := match hitN L p with
 | some i => ((satS L p i).2, [], true)
 | none => ([], oneC (Fe (relM L p) (satM L p).1), false)
theorem hit_some {L : List (Nat × Nat)} {p : Af} {i : Nat} (hi : i <= (satM L p).2.length) (h : reachB p (satS L p i).1 = true) (hb : ∀ j, j < i -> reachB p (satS L p j).1 = false) : hitN L p = some i := by
 unfold hitN
 rw [List.find?_range_eq_some]
 exact ⟨h, List.mem_range.2 (by omega), fun j hj => by rw [hb j hj]; rfl⟩
theorem hit_none {L : List (Nat × Nat)} {p : Af} (hb : ∀ j, j <= (satM L p).2.length -> reachB p (satS L p j).1 = false) : hitN L p = none := by
 unfold hitN
 rw [List.find?_eq_none]
 intro j hj
 rw [List.mem_range] at hj
 rw [hb j (by omega)]; decide
theorem hit_is {L : List (Nat × Nat)} {p : Af} {i : Nat} (h : hitN L p = some i) : i <= (satM L p).2.length /\ reachB p (satS L p i).1 = true /\ ∀ j, j < i -> reachB p (satS L p j).1 = false := by
 unfold hitN at h
 rw [List.find?_range_eq_some] at h
 obtain ⟨h1, h2, h3⟩ := h
 rw [List.mem_range] at h2
 exact ⟨by omega, h1, fun j hj => by have := h3 j hj; simpa using this⟩
theorem hit_not {L : List (Nat × Nat)} {p : Af} (h : hitN L p = none) : ∀ j, j <= (satM L p).2.length -> reachB p (satS L p j).1 = false := fun j hj => by
 unfold hitN at h
 rw [List.find?_eq_none] at h
 simpa using h j (List.mem_range.2 (by omega))
theorem srch_found {p : Af} {L : List (Nat × Nat)} {R : Nat} (hM : Cu p L R) (h : CD p = true) : (srchM L p).2.2 = rchB p := by
 unfold srchM
 cases hh : hitN L p with
 | some i =>
  obtain ⟨h1, h2, _⟩ := hit_is hh
  exact (I0 ⟨_, (Gv hM.links h i).1, h2⟩).symm
 | none =>
  rw [<- upp_reach hM h, <- Gu hM.targ]
  have := hit_not hh _ (Nat.le_refl _)
  rw [(Dz hM.targ).1] at this
  exact this.symm
end
section
open Go.RowKit
attribute [local go_sem ↓] Go.wp_at_zero Go.wp_at_succ
set_option maxRecDepth 20000
def idxQ {α : Type} (l : List α) (q : α -> Bool) : Int := match l.findIdx? q with
 | none => -1
 | some j => (j : Int)
theorem idxQ_at {α : Type} {l : List α} {q : α -> Bool} {k : Nat} {r : α} (hk : l[k]? = some r) (h1 : q r = true) (h2 : ∀ z ∈ l.take k, q z = false) : idxQ l q = (k : Int) := by
 have : l.findIdx? q = some k := by
  rw [List.findIdx?_eq_some_iff_getElem]
  obtain ⟨hlt, e⟩ := List.getElem?_eq_some_iff.1 hk
  refine ⟨hlt, by rw [e]; exact h1, fun j hj => ?_⟩
  have := h2 l[j] (List.mem_iff_getElem?.2 ⟨j, by rw [List.getElem?_take, if_pos hj, List.getElem?_eq_getElem (by omega)]⟩)
  simpa using this
 unfold idxQ; rw [this]
theorem idxQ_no {α : Type} {l : List α} {q : α -> Bool} (h2 : ∀ z ∈ l, q z = false) : idxQ l q = -1 := by
 have : l.findIdx? q = none := List.findIdx?_eq_none_iff.2 h2
 unfold idxQ; rw [this]
theorem idxrk_any {w0 w : World} {F : List Aj} {K : (Nat -> Prop) -> World -> Prop} (v : Value) (l : List (AW)) (f : FuncId) (first caps : Array Value) (q : AW -> Bool) (hcg : BX Tryz.prog f = true) (hS : St w0 w F K) (kl : ∀ D w, K D w -> Bi w D v l)
  (hq : ∀ (x : Value) (z : AW) (w : World), z ∈ l -> (∃ F', St w0 w (F' ++ F) fun D w => K D w /\ EK w D x z) -> Calls Tryz.prog f (first.toList ++ [x] ++ caps.toList).toArray w (AM (fun r _ => r = .bool (q z)) w)) :
  Calls Tryz.prog 97 #[v, .func (.func f) first caps] w fun e w' => e = .returned (.int .i64 (idxQ l q)) /\ St w0 w' F K := by
 obtain ⟨A, c, rfl, _, hc2⟩ := (kl _ _ hS.ro).shape
 have KS := Lib.hid hS.stable
 have HQ := Lib.hid hq
 clear hq
 have HCG := Lib.hid hcg
 clear hcg
 obtain ⟨RES, hres⟩ : ∃ RES, idxQ l q = RES := ⟨_, rfl⟩
 rw [hres]
 replace hres := Lib.hid hres
 go_enter Tryz.func97, Tryz.ntmps97
 go_wp2_with (first | ((with_reducible refine qB ?_); refine qc ?_ ?_ <;> intro h_ <;> go_prune))
 go_loopw [8] (fun i wr => ∃ k : Nat, k <= l.length /\ i = .int .i64 (k : Nat) /\ St w0 wr F K /\ Hid (∀ z ∈ l.take k, q z = false)) (fun i _ => l.length - (intOf i).toNat)
 case atStart => exact ⟨0, by omega, rfl, hS, Lib.hid (by simp)⟩
 case round =>
  clear hS
  obtain ⟨k, hk, rfl, hS, HZ⟩ := hrel
  by_cases hlt : k < l.length
  ·obtain ⟨b, o, y, n, rfl, _, hb, c0, c1, c2, c3, c4, hy, hn⟩ := (kl _ _ hS.ro).at_ hlt
   obtain ⟨Ay, my, cy, rfl⟩ := hy.shape
   obtain ⟨An, mn, cn, rfl⟩ := hn.shape
   have HM : Hid (l.getD k AL ∈ l) := Lib.hid (by rw [List.getD_eq_getElem?_getD, List.getElem?_eq_getElem hlt]; exact List.getElem_mem hlt)
   have HZ2 : Hid (q (l.getD k AL) = false -> ∀ z ∈ l.take (k + 1), q z = false) := Lib.hid fun h z hz => by
    rw [List.take_add_one, List.mem_append] at hz
    rcases hz with hz | hz
    ·exact HZ.out z hz
    ·rw [List.getElem?_eq_getElem hlt] at hz
     rw [List.getD_eq_getElem?_getD, List.getElem?_eq_getElem hlt] at h
     have : z = l[k] := by simpa using hz
     rw [this]; exact h
   have HY : Hid (q (l.getD k AL) = true -> RES = (k : Int)) := Lib.hid fun h => by
    rw [<- hres.out]
    refine idxQ_at (List.getElem?_eq_getElem hlt) ?_ HZ.out
    rw [List.getD_eq_getElem?_getD, List.getElem?_eq_getElem hlt] at h
    exact h
   replace hS := hS.add (D := CW F) (F3 (v := .agg #[.bool (l.getD k AL).revoke, .slice Ay my cy, .slice An mn cn, .int .i64 (l.getD k AL).target, .int .i64 (l.getD k AL).origin]) (z := l.getD k AL)) ⟨_, _, rfl, hy, hn⟩ fun _ h _ => h
   clear hy hn
   generalize l.getD k AL = z at *
   have HK := Lib.hid (HQ.out (.agg #[.bool z.revoke, .slice Ay my cy, .slice An mn cn, .int .i64 z.target, .int .i64 z.origin]) z wr HM.out ⟨[], hS⟩)
   obtain ⟨args, hargs⟩ : ∃ args, args = first.toList ++ [Value.agg #[.bool z.revoke, .slice Ay my cy, .slice An mn cn, .int .i64 z.target, .int .i64 z.origin]] ++ caps.toList := ⟨_, rfl⟩
   rw [<- hargs] at HK
   have HARG := Lib.hid hargs
   clear hargs
   go_wp2_with (first
    | ((with_reducible refine qA 15 ?_); refine BigFrame.wpList_want rfl fun _ hK => B5 (cs := [.bool z.revoke, .slice Ay my cy, .slice An mn cn, .int .i64 z.target, .int .i64 z.origin]) rfl rfl (J0 c0 c1 c2 c3 c4) Tryz.underlying58 rfl (by kernel_rfl) (hK _ _ ?_))
    | ((with_reducible refine qA 16 ?_); refine BigFrame.wpList_want rfl fun _ hK => BJ (vs := args) rfl rfl HCG.out (by simp [Act.eval, Act.put, HARG.out]) HK.out fun e w' ⟨u_, he_, hu_, hb_⟩ => ⟨u_, he_, hK _ _ ?_⟩))
   ·go_ret
    exact ⟨by rw [HY.out (by assumption)]; rfl, (hS.ext hb_).mono KS.out fun _ _ h => h.1⟩
   ·exact ⟨⟨k + 1, hlt, by go_num, (hS.ext hb_).mono KS.out fun _ _ h => h.1, Lib.hid (HZ2.out (by assumption))⟩, by simp [intOf]; omega⟩
  ·obtain rfl : k = l.length := by omega
   have HN : Hid (RES = -1) := Lib.hid (by
    have h := HZ.out
    rw [List.take_length] at h
    rw [<- hres.out]; exact idxQ_no h)
   go_wp2_with (first | ((with_reducible refine qB ?_); refine qc ?_ ?_ <;> intro h_ <;> go_prune))
   go_ret
   exact ⟨by rw [HN.out]; rfl, hS⟩
end
section
open Go.RowKit
attribute [local go_sem ↓] Go.wp_at_zero Go.wp_at_succ
set_option maxRecDepth 20000
set_option exponentiation.threshold 5000
theorem box_is {w : World} {g : Nat} {t : TypeId} {cs : Array Value} (h : Co w g t cs) (h0 : 0 < cs.size) : BQ w (fun _ => True) g cs := ⟨trivial, h.lt, h0, fun j x hx => (h.cell j).trans hx⟩
set_option maxHeartbeats 1000000 in
theorem sat1_any {w : World} {E E2 : Nat -> Prop} {D1 D2 D3 : Nat -> Prop} {x sv cv : Value} {z : AW} {N C g h : Nat} (hx : EK w D1 x z) (hb : BQ w E g #[sv]) (hs : A6 w D2 (.agg #[sv]) N) (hb2 : BQ w E2 h #[cv]) (hc : A6 w D3 (.agg #[cv]) C) :
  Calls Tryz.prog 98 #[x, .pointer (some ⟨g, 0, none⟩), .pointer (some ⟨h, 0, none⟩)] w (AM (fun r _ => r = .bool ((!z.revoke && !Bn N z.target) && (z.yes &&& C == z.yes))) w) := by
 obtain ⟨a, b, rfl, ha, hb1⟩ := hx
 obtain ⟨zr, y, n, rt, ro⟩ := z
 dsimp only at ha hb1 ⊢
 obtain ⟨S1, l1, d1, rfl⟩ := hs.shape
 obtain ⟨S2, l2, d2, rfl⟩ := hc.shape
 obtain ⟨A, m, c, rfl⟩ := ha.shape
 obtain ⟨B, k, d, rfl⟩ := hb1.shape
 clear hb1
 obtain ⟨K, ka, kb, kc, kb2, kc2, hS⟩ : ∃ K : (Nat -> Prop) -> World -> Prop, (∀ D w, K D w -> A6 w D (.agg #[.slice A m c]) y) /\ (∀ D w, K D w -> BQ w D g #[.slice S1 l1 d1]) /\ (∀ D w, K D w -> A6 w D (.agg #[.slice S1 l1 d1]) N) /\ (∀ D w, K D w -> BQ w D h #[.slice S2 l2 d2]) /\ (∀ D w, K D w -> A6 w D (.agg #[.slice S2 l2 d2]) C) /\ St w w [] K :=
  ⟨fun D w => A6 w D (.agg #[.slice A m c]) y /\ (BQ w D g #[.slice S1 l1 d1] /\ A6 w D (.agg #[.slice S1 l1 d1]) N) /\ BQ w D h #[.slice S2 l2 d2] /\ A6 w D (.agg #[.slice S2 l2 d2]) C, fun _ _ h => h.1, fun _ _ h => h.2.1.1, fun _ _ h => h.2.1.2, fun _ _ h => h.2.2.1, fun _ _ h => h.2.2.2, St.start (D := fun _ => True) (A5.and ((AU.and A5).and (AU.and A5))) ⟨ha.imp fun _ _ _ => trivial, ⟨AU E _ w w hb (Nat.le_refl _) (fun _ _ _ _ h => h) fun _ _ _ _ => trivial, hs.imp fun _ _ _ => trivial⟩, AU E2 _ w w hb2 (Nat.le_refl _) (fun _ _ _ _ h => h) fun _ _ _ _ => trivial, hc.imp fun _ _ _ => trivial⟩⟩
 clear ha hb hs hb2 hc
 obtain ⟨q1, hq1⟩ : ∃ q1, Bn N rt = q1 := ⟨_, rfl⟩
 obtain ⟨q2, hq2⟩ : ∃ q2, (y &&& C == y) = q2 := ⟨_, rfl⟩
 rw [hq1, hq2]
 have HQ1 := Lib.hid hq1
 have HQ2 := Lib.hid hq2
 clear hq1 hq2
 go_enter Tryz.func98, Tryz.ntmps98
 cases zr <;> cases q1
 all_goals
  go_wp2_with (first
   | ((with_reducible refine qA 3 ?_); refine AA hS rfl _ _ rfl (.agg #[.bool _, .slice A m c, .slice B k d, .int .i64 rt, .int .i64 ro]) _ rfl rfl ?_; clear hS; intro g3 w_ hS; (try simp only [Act.put, Act.eval, zz, Value.cells] at hS))
   | ((with_reducible refine qk 27 ?_); first
      | (refine BigFrame.wpList_want rfl fun _ hK => B5 (cs := [.slice S1 l1 d1]) rfl rfl (Hz ((kb _ _ hS.ro).cell 0 rfl)) Tryz.underlying27 rfl (by kernel_rfl) (hK _ _ ?_))
      | (refine BigFrame.wpList_want rfl fun _ hK => B5 (cs := [.slice S2 l2 d2]) rfl rfl (Hz ((kb2 _ _ hS.ro).cell 0 rfl)) Tryz.underlying27 rfl (by kernel_rfl) (hK _ _ ?_)))
   | ((with_reducible refine qk 27 ?_); first | (refine A7 hS 0 rfl _ _ rfl _ _ rfl _ _ rfl _ (by first | rfl | assumption) Tryz.underlying27 rfl (by kernel_rfl) ?_) | (refine A7 hS 1 rfl _ _ rfl _ _ rfl _ _ rfl _ (by first | rfl | assumption) Tryz.underlying27 rfl (by kernel_rfl) ?_) | (refine A7 hS 2 rfl _ _ rfl _ _ rfl _ _ rfl _ (by first | rfl | assumption) Tryz.underlying27 rfl (by kernel_rfl) ?_) | (refine A7 hS 3 rfl _ _ rfl _ _ rfl _ _ rfl _ (by first | rfl | assumption) Tryz.underlying27 rfl (by kernel_rfl) ?_) | (refine A7 hS 4 rfl _ _ rfl _ _ rfl _ _ rfl _ (by first | rfl | assumption) Tryz.underlying27 rfl (by kernel_rfl) ?_) | (refine A7 hS 5 rfl _ _ rfl _ _ rfl _ _ rfl _ (by first | rfl | assumption) Tryz.underlying27 rfl (by kernel_rfl) ?_))
   | ((with_reducible refine qK ?_); refine qC hS ?_)
   | (go_at_call 47; refine (Cb _ N rt _ _ (kc _ _ hS.ro)).mono ?_; rw [HQ1.out]; rintro r_ w_ ⟨_, rfl, rfl, hb_⟩; replace hS := hS.ext hb_; clear hb_)
   | (go_at_call 22; refine (Ew _ _ y C _ _ _ (ka _ _ hS.ro) (kc2 _ _ hS.ro)).mono ?_; rw [HQ2.out]; rintro r_ w_ ⟨_, rfl, rfl, hb_⟩; replace hS := hS.ext hb_; clear hb_))
  go_ret
  exact AM.mk rfl hS.below
set_option maxHeartbeats 4000000 in
theorem F6 {w0 w : World} {F : List Aj} {K : (Nat -> Prop) -> World -> Prop} {v : Value} {p : Af} {L : List (Nat × Nat)} (hl : p.links = some L) (hP : p.Ok) (hTG : Dg p.rules) (hS : St w0 w F K) (kp : ∀ D w, K D w -> B7 w D v p) (kt : ∀ D w, K D w -> Bx w) :
  Calls Tryz.prog 55 #[v] w fun e w' => ∃ x u, e = .returned (.tuple #[x, u]) /\ St w0 w' (.own u 3 1 (satM L p).2.length (AX (satM L p).2) :: F) fun D w => K D w /\ A6 w D x (satM L p).1 := by
 obtain ⟨R, lk, st, rl, nl, gl⟩ := p
 obtain rfl : lk = some L := hl
 obtain ⟨lp, s, rv, nv, gv, rfl, h1, h2, h3, h4, h5⟩ := kp _ _ hS.ro
 dsimp only at h1 h2 h3 h4 h5
 obtain ⟨q, o, rfl, -⟩ := id h1
 obtain ⟨Cs, ns, cs, rfl⟩ := h2.shape
 obtain ⟨Ar, cr, rfl, _, _⟩ := h3.shape
 obtain ⟨An, cn, rfl, _, _⟩ := h4.shape
 obtain ⟨Ag, cg, rfl, _, _⟩ := h5.shape
 obtain ⟨KC, kc, hS2⟩ : ∃ KC : (Nat -> Prop) -> World -> Prop, Hid (∀ D w, KC D w -> K D w /\ Fp w D (.pointer (some ⟨q, 0, none⟩)) (some L) /\ A6 w D (.agg #[.slice Cs ns cs]) st /\ Bi w D (.slice Ar rl.length cr) rl) /\ St w0 w F KC := ⟨_, Lib.hid fun D w h => ⟨h.1, h.2.1, h.2.2.1, h.2.2.2⟩, hS.add (D := CW F) (BR.and (A5.and B9)) ⟨h1, h2, h3⟩ fun _ h _ => h⟩
 have KS := Lib.hid hS.stable
 clear hS h1 h2 h3 h4 h5
 have hS := hS2
 clear hS2
 have KSC := Lib.hid hS.stable
 have HP := Lib.hid hP
 have HK := Lib.hid kp
 have HT := Lib.hid kt
 clear hP kp kt
 have hrl : rl.length <= 100000 := HP.out.rules
 have HTG := Lib.hid hTG
 clear hTG
 have HH := Lib.hid (HP.out.links L rfl).1
 have k0 := Lib.hid fun D w h => (kc.out D w h).1
 have kh := Lib.hid fun D w h => (kc.out D w h).2.1
 have kr := Lib.hid fun D w h => (kc.out D w h).2.2.2
 obtain ⟨SM, hSM⟩ : ∃ SM, satM L ⟨R, some L, st, rl, nl, gl⟩ = SM := ⟨_, rfl⟩
 rw [hSM]
 replace hSM := Lib.hid hSM
 go_enter Tryz.func55, Tryz.ntmps55
 go_wp2_with (first
  | ((with_reducible refine qA 1 ?_); refine AA hS rfl _ _ rfl (.agg #[.int .i64 R, .pointer (some ⟨q, 0, none⟩), .slice Cs ns cs, .slice Ar rl.length cr, .slice An nl.length cn, .slice Ag gl.length cg]) _ rfl rfl ?_; clear hS; intro g1 w_ hS; (try simp only [Act.put, Act.eval, zz, Value.cells] at hS))
  | ((with_reducible refine qA 2 ?_); refine qa hS #[.slice none 0 0] ?_; clear hS; intro g2 w_ hS)
  | ((with_reducible refine qA 4 ?_); refine qa hS #[.slice none 0 0] ?_; clear hS; intro g4 w_ hS)
  | ((with_reducible refine qk 27 ?_); first | (refine A7 hS 0 rfl _ _ rfl _ _ rfl _ _ rfl _ (by first | rfl | assumption) Tryz.underlying27 rfl (by kernel_rfl) ?_) | (refine A7 hS 1 rfl _ _ rfl _ _ rfl _ _ rfl _ (by first | rfl | assumption) Tryz.underlying27 rfl (by kernel_rfl) ?_) | (refine A7 hS 2 rfl _ _ rfl _ _ rfl _ _ rfl _ (by first | rfl | assumption) Tryz.underlying27 rfl (by kernel_rfl) ?_) | (refine A7 hS 3 rfl _ _ rfl _ _ rfl _ _ rfl _ (by first | rfl | assumption) Tryz.underlying27 rfl (by kernel_rfl) ?_) | (refine A7 hS 4 rfl _ _ rfl _ _ rfl _ _ rfl _ (by first | rfl | assumption) Tryz.underlying27 rfl (by kernel_rfl) ?_) | (refine A7 hS 5 rfl _ _ rfl _ _ rfl _ _ rfl _ (by first | rfl | assumption) Tryz.underlying27 rfl (by kernel_rfl) ?_))
  | ((with_reducible refine qM ?_); (first | refine qS hS ?_ | refine qT hS ?_); clear hS; intro w_ hS; (try simp only [Act.put, Act.eval, zz, Value.cells] at hS)))
 replace hS := hS.nil 3 1
 go_loopg [5] (Ff st rl) (fun k uw wr => ∃ (n : Nat) (u x : Value) (N : Nat) (us : List Int), u = uw /\ Ff N rl <= k /\ us.length <= rl.length /\ x.oneCell' = true /\ Hid (satS L ⟨R, some L, st, rl, nl, gl⟩ n = (N, us) /\ us.length = n) /\ St w0 wr (.own u 3 1 us.length (AX us) :: .box g4 27 #[x] :: .box g2 27 #[.slice none 0 0] :: .box g1 31 #[.int .i64 R, .pointer (some ⟨q, 0, none⟩), .slice Cs ns cs, .slice Ar rl.length cr, .slice An nl.length cn, .slice Ag gl.length cg] :: F) (fun D w => KC D w /\ A6 w D (.agg #[x]) N))
 case atStart => exact ⟨0, _, _, st, [], rfl, Nat.le_refl _, by simp, rfl, Lib.hid ⟨rfl, rfl⟩, hS.mono (KSC.out.and A5) fun D w h => ⟨h, (kc.out _ _ h).2.2.1⟩⟩
 case round =>
  clear hS
  obtain ⟨n, u, x, N, us, rfl, hgk, hul, hx1, HI, hS⟩ := hrel
  have HGK := Lib.hid hgk
  clear hgk
  obtain ⟨Au, cu, rfl, _, _⟩ := Be (hS.own 0 rfl)
  go_wp2_with (first
   | ((with_reducible refine qk 27 ?_); first | (refine A7 hS 0 rfl _ _ rfl _ _ rfl _ _ rfl _ (by first | rfl | assumption) Tryz.underlying27 rfl (by kernel_rfl) ?_) | (refine A7 hS 1 rfl _ _ rfl _ _ rfl _ _ rfl _ (by first | rfl | assumption) Tryz.underlying27 rfl (by kernel_rfl) ?_) | (refine A7 hS 2 rfl _ _ rfl _ _ rfl _ _ rfl _ (by first | rfl | assumption) Tryz.underlying27 rfl (by kernel_rfl) ?_) | (refine A7 hS 3 rfl _ _ rfl _ _ rfl _ _ rfl _ (by first | rfl | assumption) Tryz.underlying27 rfl (by kernel_rfl) ?_) | (refine A7 hS 4 rfl _ _ rfl _ _ rfl _ _ rfl _ (by first | rfl | assumption) Tryz.underlying27 rfl (by kernel_rfl) ?_) | (refine A7 hS 5 rfl _ _ rfl _ _ rfl _ _ rfl _ (by first | rfl | assumption) Tryz.underlying27 rfl (by kernel_rfl) ?_))
   | ((with_reducible refine qK ?_); refine qC hS ?_)
   | (go_at_call 36; refine (Eo (kh.out _ _ hS.ro.1) (HT.out _ _ (k0.out _ _ hS.ro.1)) HH.out hS.ro.2).mono ?_; rintro r_ w_ ⟨_, rfl, h1, hb_⟩; replace hS := hS.ret hb_ A5 h1; clear h1 hb_; obtain ⟨y, rfl, hy1⟩ := BC hS.ro.2)
   | ((with_reducible refine qA 6 ?_); refine qa hS #[.slice none 0 0] ?_; clear hS; intro g6 w_ hS)
   | ((with_reducible refine qm 27 ?_); (first | refine AH hS 0 rfl _ _ _ rfl _ _ rfl rfl _ _ rfl (by kernel_rfl) (by kernel_rfl) (by simpa using hy1) ?_ | refine AH hS 1 rfl _ _ _ rfl _ _ rfl rfl _ _ rfl (by kernel_rfl) (by kernel_rfl) (by simpa using hy1) ?_ | refine AH hS 2 rfl _ _ _ rfl _ _ rfl rfl _ _ rfl (by kernel_rfl) (by kernel_rfl) (by simpa using hy1) ?_ | refine AH hS 3 rfl _ _ _ rfl _ _ rfl rfl _ _ rfl (by kernel_rfl) (by kernel_rfl) (by simpa using hy1) ?_); clear hS; intro w_ hS; (try simp only [Act.put, Act.eval, zz, Value.cells] at hS)))
  refine (idxrk_any _ rl 98 #[] #[.pointer (some ⟨g4, 0, none⟩), .pointer (some ⟨g6, 0, none⟩)] (candB L N) (by kernel_rfl) hS (fun D w h => kr.out _ _ h.1.1) fun x' z w' _ ⟨F', h⟩ => sat1_any h.ro.2 (box_is (h.holds (.box g4 27 #[x]) (by simp)).2 (by simp)) h.ro.1.1.2 (box_is (h.holds (.box g6 27 #[y]) (by simp)).2 (by simp)) h.ro.1.2).mono ?_
  clear hS
  rintro r_ w_ ⟨rfl, hS⟩
  replace hS := hS.sub (List.sublist_cons_self _ _)
  obtain ⟨KX, kx, hS2⟩ : ∃ KX : (Nat -> Prop) -> World -> Prop, Hid (∀ D w, KX D w -> KC D w /\ A6 w D (.agg #[x]) N) /\ St w0 w_ (.own (.slice Au us.length cu) 3 1 us.length (AX us) :: .box g4 27 #[x] :: .box g2 27 #[.slice none 0 0] :: .box g1 31 #[.int .i64 R, .pointer (some ⟨q, 0, none⟩), .slice Cs ns cs, .slice Ar rl.length cr, .slice An nl.length cn, .slice Ag gl.length cg] :: F) KX := ⟨_, Lib.hid fun D w h => h.1, hS⟩
  clear hS
  have hS := hS2
  clear hS2
  cases hfc : firstC L rl N with
  | none =>
   have hidx : idxQ rl (candB L N) = -1 := idxQ_no (DY.1 hfc)
   have HE := Lib.hid (sat_end (p := ⟨R, some L, st, rl, nl, gl⟩) (L := L) HTG.out (n := n) (by rw [HI.out.1]; exact hfc) (by rw [HI.out.1]; exact HI.out.2))
   rw [HI.out.1, hSM.out] at HE
   obtain rfl := HE.out
   generalize idxQ rl (candB L N) = ix at *
   subst hidx
   clear hfc HE
   go_wp2_with (first
    | ((with_reducible refine qB ?_); refine qc ?_ ?_ <;> intro h_ <;> go_prune)
    | ((with_reducible refine qk 27 ?_); first | (refine A7 hS 0 rfl _ _ rfl _ _ rfl _ _ rfl _ (by first | rfl | assumption) Tryz.underlying27 rfl (by kernel_rfl) ?_) | (refine A7 hS 1 rfl _ _ rfl _ _ rfl _ _ rfl _ (by first | rfl | assumption) Tryz.underlying27 rfl (by kernel_rfl) ?_) | (refine A7 hS 2 rfl _ _ rfl _ _ rfl _ _ rfl _ (by first | rfl | assumption) Tryz.underlying27 rfl (by kernel_rfl) ?_) | (refine A7 hS 3 rfl _ _ rfl _ _ rfl _ _ rfl _ (by first | rfl | assumption) Tryz.underlying27 rfl (by kernel_rfl) ?_) | (refine A7 hS 4 rfl _ _ rfl _ _ rfl _ _ rfl _ (by first | rfl | assumption) Tryz.underlying27 rfl (by kernel_rfl) ?_) | (refine A7 hS 5 rfl _ _ rfl _ _ rfl _ _ rfl _ (by first | rfl | assumption) Tryz.underlying27 rfl (by kernel_rfl) ?_))
    | ((with_reducible refine qK ?_); refine qL hS Tryz.underlying27 ?_)
    | ((with_reducible refine qm 27 ?_); (first | refine AH hS 0 rfl _ _ _ rfl _ _ rfl rfl _ _ rfl (by kernel_rfl) (by kernel_rfl) (by simpa using hx1) ?_ | refine AH hS 1 rfl _ _ _ rfl _ _ rfl rfl _ _ rfl (by kernel_rfl) (by kernel_rfl) (by simpa using hx1) ?_ | refine AH hS 2 rfl _ _ _ rfl _ _ rfl rfl _ _ rfl (by kernel_rfl) (by kernel_rfl) (by simpa using hx1) ?_ | refine AH hS 3 rfl _ _ _ rfl _ _ rfl rfl _ _ rfl (by kernel_rfl) (by kernel_rfl) (by simpa using hx1) ?_); clear hS; intro w_ hS; (try simp only [Act.put, Act.eval, zz, Value.cells] at hS)))
   refine BA Tryz.results55 rfl (hS.box 2 rfl) Tryz.underlying27 rfl (by kernel_rfl) rfl rfl ?_
   exact ⟨_, _, rfl, ((hS.sub (.cons_cons _ (.cons _ (.cons _ (List.sublist_cons_self _ _)))))).mono (KS.out.and A5) fun D w h => ⟨k0.out _ _ (kx.out _ _ h).1, (kx.out _ _ h).2⟩⟩
  | some j =>
   obtain ⟨hjl, hc, hc2⟩ := D4 hfc
   have hidx : idxQ rl (candB L N) = (j : Nat) := idxQ_at (Br AL hjl) hc hc2
   obtain ⟨b, o2, y0, m0, rfl, _, hbl, c0, c1, c2, c3, c4, -, -⟩ := (kr.out _ _ (kx.out _ _ hS.ro).1).at_ hjl
   obtain ⟨t, ht, h64⟩ := HTG.out _ (List.mem_of_getElem? (Br AL hjl))
   have HNX := Lib.hid (BS (p := ⟨R, some L, st, rl, nl, gl⟩) (L := L) (n := n) (k := j) (by rw [HI.out.1]; exact hfc))
   rw [HI.out.1] at HNX
   have HLK : Hid (Ff (Bt N (t : Int)) rl < Ff N rl) := Lib.hid (by
    have := lacks_lt (List.mem_of_getElem? (Br AL hjl)) ht (CU hc).2.1
    rwa [GM h64] at this)
   have HUL : Hid ((us ++ [(j : Int)]).length <= rl.length) := Lib.hid (by
    have h1 := Ei (p := ⟨R, some L, st, rl, nl, gl⟩) (L := L) HTG.out (n + 1)
    rw [HNX.out] at h1
    dsimp only at h1 ⊢
    omega)
   dsimp only at HNX
   generalize (rl.getD j AL).revoke = zr at *
   generalize (rl.getD j AL).origin = zo at *
   generalize (rl.getD j AL).target = zt at *
   subst ht
   generalize idxQ rl (candB L N) = ix at *
   subst hidx
   clear hc hc2 hfc
   go_wp2_with (first | ((with_reducible refine qB ?_); refine qc ?_ ?_ <;> intro h_ <;> go_prune))
   refine Io (fun i__ v w => match i__ with
    | 0 => v = .agg #[x]
    | 1 => v = .pointer (some ⟨g1, 3, none⟩)
    | 2 => v = .slice (some ⟨b, o2, none⟩) rl.length cr
    | 3 => v = .int .i64 (j : Nat)
    | 4 => v = .pointer (some ⟨b, o2 + (j) * 5, none⟩)
    | 5 => v = .pointer (some ⟨b, o2 + (j) * 5 + 3, none⟩)
    | 6 => v = .int .i64 (t : Nat)
    | 7 => ∃ u, v = .agg #[u] /\ u.oneCell' = true /\ A6 w (fun z => CW (.own (.slice Au us.length cu) 3 1 us.length (AX us) :: .box g4 27 #[x] :: .box g2 27 #[.slice none 0 0] :: .box g1 31 #[.int .i64 R, .pointer (some ⟨q, 0, none⟩), .slice Cs ns cs, .slice (some ⟨b, o2, none⟩) rl.length cr, .slice An nl.length cn, .slice Ag gl.length cg] :: F) z \/ w_.heap.size <= z) (.agg #[u]) (Bt N (t : Nat))
    | 8 => v = .slice Au us.length cu
    | 9 => v = .int .i64 (j : Nat)
    | 10 => Sl w (fun _ => True) 1 v 1 [.int .i64 (j : Nat)]
    | 11 => True
    | 12 => True
    | 13 => True
    | _ => True) 11 [12, 13] (by kernel_rfl) (by kernel_rfl) (by kernel_rfl) (by kernel_rfl) (by kernel_rfl) ?mono ⟨.inr ?r0, .inr ?r1, .inr ?r2, .inr ?r3, .inr ?r4, .inr ?r5, .inr ?r6, .inr ?r7, .inr ?r8, .inr ?r9, .inr ?r10, .inl (by decide), .inl (by decide), .inl (by decide), trivial⟩ ?post
   case mono =>
    intro i v w w' h hb
    match i, h with
    | 0, h | 1, h | 2, h | 3, h | 4, h | 5, h | 6, h => exact h
    | 7, h => exact ⟨_, h.choose_spec.1, h.choose_spec.2.1, h.choose_spec.2.2.ext hb⟩
    | 8, h | 9, h => exact h
    | 10, h => exact h.ext hb
    | 11, h | 12, h | 13, h => exact h
    | _ + 14, h => trivial
   case r0 =>
    refine DH fun b__ w hW hold hpre => wU rfl fun K hK => ?_
    have e4 : b__.eval (.tmp 4) = .pointer (some ⟨g4, 0, none⟩) := (hold 4 (by kernel_rfl)).trans rfl
    exact AQ rfl e4 ((hS.ext (CQ hW)).box 1 rfl) Tryz.underlying27 rfl (by kernel_rfl) (hK _ _ rfl (Below.refl _ _))
   case r1 =>
    refine DH fun b__ w hW hold hpre => wU rfl fun K hK => ?_
    have e1 : b__.eval (.tmp 1) = .pointer (some ⟨g1, 0, none⟩) := (hold 1 (by kernel_rfl)).trans rfl
    exact DB rfl e1 (by kernel_rfl) (hK _ _ rfl (Below.refl _ _))
   case r2 =>
    refine DH fun b__ w hW hold hpre => wU rfl fun K hK => ?_
    have e23 := pq hpre 0 1 23
    exact At rfl e23 (by kernel_rfl) ((hS.ext (CQ hW)).shut 3 rfl 3 rfl) (hK _ _ rfl (Below.refl _ _))
   case r3 =>
    refine DH fun b__ w hW hold hpre => wU rfl fun K hK => ?_
    have e7 : b__.eval (.tmp 7) = .int .i64 (j : Nat) := (hold 7 (by kernel_rfl)).trans rfl
    exact Fc rfl e7 (hK _ _ rfl (Below.refl _ _))
   case r4 =>
    refine DH fun b__ w hW hold hpre => wU rfl fun K hK => ?_
    have e24 := pq hpre 0 2 24
    have e25 := pq hpre 1 3 25
    exact CI rfl e24 e25 (Ak (m := j) Tryz.underlying28 (by kernel_rfl) (by omega) (by omega)) (hK _ _ rfl (Below.refl _ _))
   case r5 =>
    refine DH fun b__ w hW hold hpre => wU rfl fun K hK => ?_
    have e26 := pq hpre 0 4 26
    exact DB rfl e26 (by kernel_rfl) (hK _ _ rfl (Below.refl _ _))
   case r6 =>
    refine DH fun b__ w hW hold hpre => wU rfl fun K hK => ?_
    have e27 := pq hpre 0 5 27
    exact At rfl e27 (by kernel_rfl) (((CQ hW).cell hbl).trans c3) (hK _ _ rfl (Below.refl _ _))
   case r7 =>
    refine DH fun b__ w hW hold hpre => wU rfl fun K hK => ?_
    have e22 : b__.eval (.tmp 22) = .agg #[x] := pq hpre 0 0 22
    have e28 : b__.eval (.tmp 28) = .int .i64 (t : Nat) := pq hpre 1 6 28
    refine AC rfl (by kernel_rfl) (by simp only [List.map_cons, List.map_nil, e22, e28]) (D6 (.agg #[x]) N (t : Nat) w _ (kx.out _ _ (hS.ext (CQ hW)).ro).2) fun v w' h hb => ?_
    obtain ⟨u, rfl, h1⟩ := BC h
    exact hK _ w' ⟨u, rfl, h1, h.imp fun z hz _ => hz.imp id fun hz => Nat.le_trans (CQ hW).size hz⟩ hb
   case r8 =>
    refine DH fun b__ w hW hold hpre => wU rfl fun K hK => ?_
    have e5 : b__.eval (.tmp 5) = .slice Au us.length cu := (hold 5 (by kernel_rfl)).trans rfl
    exact Fc rfl e5 (hK _ _ rfl (Below.refl _ _))
   case r9 =>
    refine DH fun b__ w hW hold hpre => wU rfl fun K hK => ?_
    have e7 : b__.eval (.tmp 7) = .int .i64 (j : Nat) := (hold 7 (by kernel_rfl)).trans rfl
    exact Fc rfl e7 (hK _ _ rfl (Below.refl _ _))
   case r10 =>
    refine DH fun b__ w hW hold hpre => wU rfl fun K hK => ?_
    have e31 : b__.eval (.tmp 31) = .int .i64 (j : Nat) := pq hpre 0 9 31
    refine Bj rfl Tryz.underlying45 (ps := [(0, .int .i64 (j : Nat))]) (by simp [e31]) (cells := #[.int .i64 (j : Nat)]) (by kernel_rfl) fun w' hX hb => hK _ _ ((Sl.of_box (n := 1) (size := 1) hX rfl (by omega)).imp fun _ _ _ => trivial) hb
   case post =>
    intro b__ wz hW hdf hsz hold hT
    have e32 : (fun (v : Value) (w : World) => Sl w (fun _ => True) 1 v 1 [.int .i64 (j : Nat)]) (b__.eval (.tmp 32)) wz := hT 10 _ 32 (by decide) rfl rfl
    have e4 : b__.eval (.tmp 4) = .pointer (some ⟨g4, 0, none⟩) := (hold 4 (by kernel_rfl)).trans rfl
    have e29 : (fun (v : Value) (w : World) => ∃ u, v = .agg #[u] /\ u.oneCell' = true /\ A6 w (fun z => CW (.own (.slice Au us.length cu) 3 1 us.length (AX us) :: .box g4 27 #[x] :: .box g2 27 #[.slice none 0 0] :: .box g1 31 #[.int .i64 R, .pointer (some ⟨q, 0, none⟩), .slice Cs ns cs, .slice (some ⟨b, o2, none⟩) rl.length cr, .slice An nl.length cn, .slice Ag gl.length cg] :: F) z \/ w_.heap.size <= z) (.agg #[u]) (Bt N (t : Nat))) (b__.eval (.tmp 29)) wz := hT 7 _ 29 (by decide) rfl rfl
    obtain ⟨vs, hvs, hb⟩ := Fg hdf hsz (fun s hs => hold s (noDstS_of hs))
    have e30 : vs 30 = .slice Au us.length cu := (hvs 30).symm.trans (hT 8 _ 30 (by decide) rfl rfl)
    replace e32 := (hvs 32) ▸ e32
    clear e4
    replace e29 := (hvs 29) ▸ e29
    have e22 : vs 22 = .agg #[x] := (hvs 22).symm.trans (hT 0 _ 22 (by decide) rfl rfl)
    have e23 : vs 23 = .pointer (some ⟨g1, 3, none⟩) := (hvs 23).symm.trans (hT 1 _ 23 (by decide) rfl rfl)
    have e24 : vs 24 = .slice (some ⟨b, o2, none⟩) rl.length cr := (hvs 24).symm.trans (hT 2 _ 24 (by decide) rfl rfl)
    have e25 : vs 25 = .int .i64 (j : Nat) := (hvs 25).symm.trans (hT 3 _ 25 (by decide) rfl rfl)
    have e26 : vs 26 = .pointer (some ⟨b, o2 + (j) * 5, none⟩) := (hvs 26).symm.trans (hT 4 _ 26 (by decide) rfl rfl)
    have e27 : vs 27 = .pointer (some ⟨b, o2 + (j) * 5 + 3, none⟩) := (hvs 27).symm.trans (hT 5 _ 27 (by decide) rfl rfl)
    have e28 : vs 28 = .int .i64 (t : Nat) := (hvs 28).symm.trans (hT 6 _ 28 (by decide) rfl rfl)
    have e31 : vs 31 = .int .i64 (j : Nat) := (hvs 31).symm.trans (hT 9 _ 31 (by decide) rfl rfl)
    subst hb
    clear hvs hold hT hdf hsz
    simp only [AE, Act.put, zz, ze]
    obtain ⟨u9, e29, hu9, hset⟩ := e29
    have hS1 := (hS.ext hW).add (A5 (v := .agg #[u9]) (N := Bt N (t : Nat))) hset fun z hz _ => hz.elim id hS.fresh
    (intro o_ ho_; simp only [List.getElem?_toArray, List.getElem?_cons_succ, List.getElem?_cons_zero, Option.some.injEq] at ho_; subst ho_)
    refine Du rfl Ex e30 (hS1.own 0 rfl) rfl e32 (by intro u hu; simp at hu; subst hu; rfl) (by omega) (by omega) hS1.size fun v9 w9 ho9 hg9 hat9 => ?_
    replace hS1 := hS1.upd 0 rfl (.own v9 3 1 (us.length + 1) (AX us ++ [Value.int .i64 (j : Nat)])) hg9 ho9 hat9
    (intro o_ ho_; simp only [List.getElem?_toArray, List.getElem?_cons_succ, List.getElem?_cons_zero, Option.some.injEq] at ho_; subst ho_)
    simp only [Act.put, List.setIfInBounds_toArray, List.set_cons_zero, List.set_cons_succ]
    refine BT rfl rfl e29 (hS1.box 1 rfl) (by kernel_rfl) rfl (by simpa using hu9) fun w10 h10 hU10 => ?_
    replace hS1 := hS1.upd 1 rfl (.box g4 27 #[u9]) (Bg hU10) ⟨(hS1.holds (.box g4 27 #[x]) (by simp)).1, h10⟩ fun _ e => .inl e
    simp only [Ca]
    simp only [Act.put, List.setIfInBounds_toArray, List.set_cons_zero, List.set_cons_succ]
    (intro o_ ho_; simp only [List.getElem?_toArray, List.getElem?_cons_succ, List.getElem?_cons_zero, Option.some.injEq] at ho_; subst ho_)
    refine CC rfl rfl ?_
    simp only [Ca]
    simp only [Act.put, List.setIfInBounds_toArray, List.set_cons_zero, List.set_cons_succ]
    simp only [Act.eval, Array.getD_eq_getD_getElem?, List.getElem?_toArray, List.getElem?_cons_succ, List.getElem?_cons_zero, Option.getD_some]
    clear e22 e23 e24 e25 e26 e27 e28 e29 e30 e31 e32 hset hW
    clear hS
    go_wp2_with fail
    go_roundg (Ff (Bt N (t : Nat)) rl)
    case measure => exact Nat.lt_of_lt_of_le HLK.out HGK.out
    case rel =>
     refine ⟨n + 1, v9, u9, Bt N (t : Nat), us ++ [(j : Int)], rfl, Nat.le_refl _, HUL.out, hu9, Lib.hid ⟨HNX.out, by simp [HI.out.2]⟩, ?_⟩
     rw [show (us ++ [(j : Int)]).length = us.length + 1 by simp, show AX (us ++ [(j : Int)]) = AX us ++ [.int .i64 (j : Nat)] by simp [AX]]
     exact hS1.mono (KSC.out.and A5) fun D w h => ⟨(kx.out _ _ h.1).1, h.2⟩
end
section
open Go.RowKit
attribute [local go_sem ↓] Go.wp_at_zero Go.wp_at_succ
set_option maxRecDepth 20000
set_option exponentiation.threshold 5000
noncomputable def fragM (p : Af) : Bool := if checkE p = 0 then CD p else false
noncomputable def upS (p : Af) : Nat := if checkE p = 0 then (match p.links with
 | none => 0
 | some L => uppM L p) else 0
noncomputable def obtS (p : Af) : Nat := if fragM p = true then upS p else 0
theorem frag1_any {w : World} {D : Nat -> Prop} {x : Value} {z : Nat × Nat} (hx : AO w D x z) : Calls Tryz.prog 54 #[x] w (AM (fun r _ => r = .bool (!(z.2 == 0))) w) := by
 obtain ⟨a, b, rfl, ha, hb⟩ := hx
 obtain ⟨y, n⟩ := z
 dsimp only at ha hb ⊢
 obtain ⟨A, m, c, rfl⟩ := ha.shape
 obtain ⟨B, k, d, rfl⟩ := hb.shape
 obtain ⟨K, kb, hS⟩ : ∃ K : (Nat -> Prop) -> World -> Prop, (∀ D w, K D w -> A6 w D (.agg #[.slice B k d]) n) /\ St w w [] K := ⟨_, fun _ _ h => h, St.start A5 hb⟩
 clear ha hb
 go_enter Tryz.func54, Tryz.ntmps54
 go_wp2_with (first
  | ((with_reducible refine qA 1 ?_); refine AA hS rfl _ _ rfl (.agg #[.slice A m c, .slice B k d]) _ rfl rfl ?_; clear hS; intro g1 w_ hS; (try simp only [Act.put, Act.eval, zz, Value.cells] at hS))
  | ((with_reducible refine qk 27 ?_); first | (refine A7 hS 0 rfl _ _ rfl _ _ rfl _ _ rfl _ (by first | rfl | assumption) Tryz.underlying27 rfl (by kernel_rfl) ?_) | (refine A7 hS 1 rfl _ _ rfl _ _ rfl _ _ rfl _ (by first | rfl | assumption) Tryz.underlying27 rfl (by kernel_rfl) ?_) | (refine A7 hS 2 rfl _ _ rfl _ _ rfl _ _ rfl _ (by first | rfl | assumption) Tryz.underlying27 rfl (by kernel_rfl) ?_) | (refine A7 hS 3 rfl _ _ rfl _ _ rfl _ _ rfl _ (by first | rfl | assumption) Tryz.underlying27 rfl (by kernel_rfl) ?_) | (refine A7 hS 4 rfl _ _ rfl _ _ rfl _ _ rfl _ (by first | rfl | assumption) Tryz.underlying27 rfl (by kernel_rfl) ?_) | (refine A7 hS 5 rfl _ _ rfl _ _ rfl _ _ rfl _ (by first | rfl | assumption) Tryz.underlying27 rfl (by kernel_rfl) ?_))
  | (go_at_call 24; refine (DE _ n _ _ (kb _ _ hS.ro)).mono ?_; rintro r_ w_ ⟨_, rfl, rfl, hb_⟩; replace hS := hS.ext hb_; clear hb_))
 go_ret
 exact AM.mk rfl hS.below
set_option maxHeartbeats 2000000 in
theorem Dv {w0 : World} {D : Nat -> Prop} {v : Value} {p : Af} (hp : B7 w0 D v p) (hP : p.Ok) (hT : Bx w0) : Calls Tryz.prog 15 #[v] w0 (AM (fun r _ => r = .bool (fragM p)) w0) := by
 obtain ⟨R, lk, st, rl, nl, gl⟩ := p
 have HP := Lib.hid hP
 have hrl : rl.length <= 100000 := hP.rules
 have hnl : nl.length <= 100000 := hP.never
 clear hP
 obtain ⟨lp, s, rv, nv, gv, rfl, h1, h2, h3, h4, h5⟩ := id hp
 dsimp only at h1 h2 h3 h4 h5
 obtain ⟨la, rfl⟩ : ∃ la, lp = .pointer la := by
  cases lk with
  | none => exact ⟨none, h1⟩
  | some L => obtain ⟨q, o, rfl, -⟩ := h1; exact ⟨_, rfl⟩
 obtain ⟨Cs, ns, cs, rfl⟩ := h2.shape
 obtain ⟨Ar, cr, rfl, _, _⟩ := h3.shape
 obtain ⟨An, cn, rfl, _, _⟩ := h4.shape
 obtain ⟨Ag, cg, rfl, _, _⟩ := h5.shape
 clear h1 h2 h3 h4 h5
 obtain ⟨K, kp, kr, kg, kt, hS⟩ : ∃ K : (Nat -> Prop) -> World -> Prop, (∀ D w, K D w -> B7 w D (.agg #[.int .i64 R, .pointer la, .slice Cs ns cs, .slice Ar rl.length cr, .slice An nl.length cn, .slice Ag gl.length cg]) ⟨R, lk, st, rl, nl, gl⟩) /\ (∀ D w, K D w -> Bi w D (.slice Ar rl.length cr) rl) /\ (∀ D w, K D w -> AB w D (.slice Ag gl.length cg) gl) /\ (∀ D w, K D w -> Bx w) /\ St w0 w0 [] K :=
  ⟨fun D w => B7 w D (.agg #[.int .i64 R, .pointer la, .slice Cs ns cs, .slice Ar rl.length cr, .slice An nl.length cn, .slice Ag gl.length cg]) ⟨R, lk, st, rl, nl, gl⟩ /\ Bx w /\ D 0, fun _ _ h => h.1, fun _ _ h => h.1.parts.2.2.1, fun _ _ h => h.1.parts.2.2.2.2, fun _ _ h => h.2.1, St.start (D := fun _ => True) (Cx.and C5) ⟨Cx D _ w0 w0 hp (Nat.le_refl _) (fun _ _ _ _ h => h) fun _ _ _ _ => trivial, hT, trivial⟩⟩
 clear hp hT
 have KS := Lib.hid hS.stable
 obtain ⟨e, he⟩ : ∃ e, checkE ⟨R, lk, st, rl, nl, gl⟩ = e := ⟨_, rfl⟩
 have HFR : Hid (fragM ⟨R, lk, st, rl, nl, gl⟩ = if e = 0 then CD ⟨R, lk, st, rl, nl, gl⟩ else false) := Lib.hid (by unfold fragM; rw [he])
 have HE := Lib.hid he
 clear he
 generalize fragM ⟨R, lk, st, rl, nl, gl⟩ = RES at *
 by_cases h0 : e = 0
 ·subst h0
  replace HFR : Hid (RES = CD ⟨R, lk, st, rl, nl, gl⟩) := Lib.hid (HFR.out.trans (if_pos rfl))
  have HFR0 := HFR
  by_cases hn : 0 < nl.length
  ·have HR2 : Hid (RES = false) := Lib.hid (HFR.out.trans (by
    unfold CD
    cases nl with
    | nil => simp at hn
    | cons => rfl))
   go_enter Tryz.func15, Tryz.ntmps15
   go_wp2_with (first
    | ((with_reducible refine qA 1 ?_); refine AA hS rfl _ _ rfl (.agg #[.int .i64 R, .pointer la, .slice Cs ns cs, .slice Ar rl.length cr, .slice An nl.length cn, .slice Ag gl.length cg]) _ rfl rfl ?_; clear hS; intro g1 w_ hS; (try simp only [Act.put, Act.eval, zz, Value.cells] at hS))
    | ((with_reducible refine qB ?_); refine qc ?_ ?_ <;> intro h_ <;> go_prune)
    | ((with_reducible refine qK ?_); refine qL hS Tryz.underlying31 ?_)
    | ((with_reducible refine qK ?_); refine qC hS ?_)
    | (go_at_call 31; refine (Cq (kp _ _ hS.ro) HP.out (kt _ _ hS.ro)).mono ?_; rw [HE.out]; rintro r_ w_ ⟨_, rfl, rfl, hb_⟩; replace hS := hS.ext hb_; clear hb_))
   go_ret
   exact AM.mk (by rw [HR2.out]; rfl) hS.below
  ·have hn0 : nl = [] := List.eq_nil_of_length_eq_zero (by omega)
   subst hn0
   clear hn hnl
   replace HFR : Hid (RES = ((rl.all fun r => r.no == 0) && !(gl.any fun z => !(z.2 == 0)))) := Lib.hid HFR.out
   go_enter Tryz.func15, Tryz.ntmps15
   go_wp2_with (first
    | ((with_reducible refine qA 1 ?_); refine AA hS rfl _ _ rfl (.agg #[.int .i64 R, .pointer la, .slice Cs ns cs, .slice Ar rl.length cr, .slice An ([] : List (Nat × Nat)).length cn, .slice Ag gl.length cg]) _ rfl rfl ?_; clear hS; intro g1 w_ hS; (try simp only [Act.put, Act.eval, zz, Value.cells] at hS))
    | ((with_reducible refine qB ?_); refine qc ?_ ?_ <;> intro h_ <;> go_prune)
    | ((with_reducible refine qK ?_); refine qL hS Tryz.underlying31 ?_)
    | ((with_reducible refine qK ?_); refine qC hS ?_)
    | (go_at_call 31; refine (Cq (kp _ _ hS.ro) HP.out (kt _ _ hS.ro)).mono ?_; rw [HE.out]; rintro r_ w_ ⟨_, rfl, rfl, hb_⟩; replace hS := hS.ext hb_; clear hb_))
   go_loopw [17] (fun iv wr => ∃ j : Nat, iv = .int .i64 (j : Nat) /\ j <= rl.length /\ Hid (∀ r ∈ rl.take j, r.no = 0) /\ St w0 wr [.box g1 31 #[.int .i64 R, .pointer la, .slice Cs ns cs, .slice Ar rl.length cr, .slice An 0 cn, .slice Ag gl.length cg]] K) (fun i _ => rl.length - (intOf i).toNat)
   case atStart => exact ⟨0, rfl, by omega, Lib.hid (by simp), hS⟩
   case round =>
    clear hS
    obtain ⟨j, rfl, hj, HN, hS⟩ := hrel
    by_cases hlj : j < rl.length
    ·obtain ⟨b, o2, y0, m0, rfl, _, hbl, c0, c1, c2, c3, c4, hy, hm⟩ := (kr _ _ hS.ro).at_ hlj
     have HG := Lib.hid (Br AL hlj)
     have HM2 := Lib.hid hm
     obtain ⟨Ay, my, cy, rfl⟩ := hy.shape
     obtain ⟨Am, mn, cm, rfl⟩ := hm.shape
     clear hy hm
     generalize rl.getD j AL = z at *
     obtain ⟨zr, y, n, rt, ro⟩ := z
     dsimp only at c0 c1 c2 c3 c4 HM2
     replace hS := hS.add (D := CW [.box g1 31 #[.int .i64 R, .pointer la, .slice Cs ns cs, .slice (some ⟨b, o2, none⟩) rl.length cr, .slice An 0 cn, .slice Ag gl.length cg]]) (A5 (v := .agg #[.slice Am mn cm]) (N := n)) HM2.out fun _ h _ => h
     clear HM2
     go_wp2_with (first
      | ((with_reducible refine qB ?_); refine qc ?_ ?_ <;> intro h_ <;> go_prune)
      | ((with_reducible refine qA 20 ?_); refine BigFrame.wpList_want rfl fun _ hK => B5 (cs := [.bool zr, .slice Ay my cy, .slice Am mn cm, .int .i64 rt, .int .i64 ro]) rfl rfl (J0 c0 c1 c2 c3 c4) Tryz.underlying58 rfl (by kernel_rfl) (hK _ _ ?_))
      | ((with_reducible refine qA 4 ?_); refine qa hS #[.bool false, .slice none 0 0, .slice none 0 0, .int .i64 0, .int .i64 0] ?_; clear hS; intro g4 w_ hS)
      | ((with_reducible refine qk 27 ?_); first | (refine A7 hS 0 rfl _ _ rfl _ _ rfl _ _ rfl _ (by first | rfl | assumption) Tryz.underlying27 rfl (by kernel_rfl) ?_) | (refine A7 hS 1 rfl _ _ rfl _ _ rfl _ _ rfl _ (by first | rfl | assumption) Tryz.underlying27 rfl (by kernel_rfl) ?_) | (refine A7 hS 2 rfl _ _ rfl _ _ rfl _ _ rfl _ (by first | rfl | assumption) Tryz.underlying27 rfl (by kernel_rfl) ?_) | (refine A7 hS 3 rfl _ _ rfl _ _ rfl _ _ rfl _ (by first | rfl | assumption) Tryz.underlying27 rfl (by kernel_rfl) ?_) | (refine A7 hS 4 rfl _ _ rfl _ _ rfl _ _ rfl _ (by first | rfl | assumption) Tryz.underlying27 rfl (by kernel_rfl) ?_) | (refine A7 hS 5 rfl _ _ rfl _ _ rfl _ _ rfl _ (by first | rfl | assumption) Tryz.underlying27 rfl (by kernel_rfl) ?_))
      | ((with_reducible refine qM ?_); (first | refine qS hS ?_ | refine qT hS ?_); clear hS; intro w_ hS; (try simp only [Act.put, Act.eval, zz, Value.cells] at hS))
      | ((with_reducible refine qK ?_); refine qC hS ?_))
     refine (DE _ n _ _ hS.ro.2).mono ?_
     rintro r_ w_ ⟨_, rfl, rfl, hb_⟩
     replace hS := hS.ext hb_
     clear hb_
     by_cases hn0 : n = 0
     ·subst hn0
      rw [show ((0 : Nat) == 0) = true from rfl]
      go_wp2_with fail
      exact ⟨⟨j + 1, by go_num, hlj, Lib.hid (fun r hr => (Ef HG.out hr).elim (HN.out r) fun e => by rw [e]), (hS.sub (List.sublist_cons_self _ _)).mono KS.out fun D w h => h.1⟩, by simp [intOf]; omega⟩
     ·rw [show (n == 0) = false from by simpa using hn0]
      go_wp2_with fail
      go_ret
      exact AM.mk (by rw [HFR0.out, frag_no_rule (p := ⟨R, lk, st, rl, [], gl⟩) (List.mem_of_getElem? HG.out) hn0]; rfl) hS.below
    ·obtain rfl : j = rl.length := by omega
     rw [List.take_length] at HN
     go_wp2_with (first
      | ((with_reducible refine qB ?_); refine qc ?_ ?_ <;> intro h_ <;> go_prune)
      | ((with_reducible refine qK ?_); refine qC hS ?_))
     refine (H7 _ gl 54 #[] #[] (fun z => !(z.2 == 0)) (by kernel_rfl) hS kg fun x z w _ ⟨F', h⟩ => frag1_any h.ro.2).mono ?_
     clear hS
     rintro r_ w2 ⟨rfl, hS⟩
     go_wp2_with fail
     go_ret
     refine AM.mk ?_ hS.below
     rw [HFR.out, List.all_eq_true.2 fun r hr => by rw [HN.out r hr]; rfl]
     rfl
 ·have HR2 : Hid (RES = false) := Lib.hid (HFR.out.trans (if_neg h0))
  go_enter Tryz.func15, Tryz.ntmps15
  go_wp2_with (first
   | ((with_reducible refine qA 1 ?_); refine AA hS rfl _ _ rfl (.agg #[.int .i64 R, .pointer la, .slice Cs ns cs, .slice Ar rl.length cr, .slice An nl.length cn, .slice Ag gl.length cg]) _ rfl rfl ?_; clear hS; intro g1 w_ hS; (try simp only [Act.put, Act.eval, zz, Value.cells] at hS))
   | ((with_reducible refine qB ?_); refine qc ?_ ?_ <;> intro h_ <;> go_prune)
   | ((with_reducible refine qK ?_); refine qL hS Tryz.underlying31 ?_)
   | ((with_reducible refine qK ?_); refine qC hS ?_)
   | (go_at_call 31; refine (Cq (kp _ _ hS.ro) HP.out (kt _ _ hS.ro)).mono ?_; rw [HE.out]; rintro r_ w_ ⟨_, rfl, rfl, hb_⟩; replace hS := hS.ext hb_; clear hb_))
  go_ret
  exact AM.mk (by rw [HR2.out]; rfl) hS.below
set_option maxHeartbeats 2000000 in
theorem upper_any {w0 w : World} {F : List Aj} {K : (Nat -> Prop) -> World -> Prop} {v : Value} {p : Af} (hP : p.Ok) (hS : St w0 w F K) (kp : ∀ D w, K D w -> B7 w D v p) (kt : ∀ D w, K D w -> Bx w) :
  Calls Tryz.prog 17 #[v] w fun e w' => ∃ x, e = .returned x /\ St w0 w' F fun D w => K D w /\ A6 w D x (upS p) := by
 have HP := Lib.hid hP
 have HK := Lib.hid kp
 have HT := Lib.hid kt
 have KS := Lib.hid hS.stable
 obtain ⟨xs, rfl, hx6, hx1⟩ := (kp _ _ hS.ro).cells
 replace hx6 := Lib.hid hx6
 clear hP kp kt
 obtain ⟨e, he⟩ : ∃ e, checkE p = e := ⟨_, rfl⟩
 have HE := Lib.hid he
 clear he
 obtain ⟨U, hU⟩ : ∃ U, upS p = U := ⟨_, rfl⟩
 rw [hU]
 have HU := Lib.hid hU
 clear hU
 by_cases h0 : e = 0
 ·subst h0
  cases hlk : p.links with
  | none => have := HE.out; unfold checkE at this; rw [hlk] at this; cases this
  | some L =>
   have HL := Lib.hid hlk
   have HTG := Lib.hid (Fj HE.out hlk)
   have HSU : Hid ((satM L p).1 = U) := Lib.hid (by rw [Gu HTG.out, <- HU.out]; unfold upS; rw [if_pos HE.out, HL.out])
   clear hlk
   go_enter Tryz.func17, Tryz.ntmps17
   go_wp2_with (first
    | ((with_reducible refine qA 1 ?_); refine AA hS rfl _ _ rfl (.agg xs) xs rfl rfl ?_; clear hS; intro g1 w_ hS; (try simp only [Act.put, Act.eval, zz, Value.cells] at hS))
    | ((with_reducible refine qA 2 ?_); refine qa hS #[.slice none 0 0] ?_; clear hS; intro g2 w_ hS)
    | ((with_reducible refine qA 3 ?_); refine qa hS #[.slice none 0 0] ?_; clear hS; intro g3 w_ hS)
    | ((with_reducible refine qB ?_); refine qc ?_ ?_ <;> intro h_ <;> go_prune)
    | ((with_reducible refine qk 31 ?_); refine BigFrame.wpList_want rfl fun _ hK => AQ rfl rfl (hS.box 1 rfl) Tryz.underlying31 rfl (by rw [hx6.out]; kernel_rfl) (hK _ _ ?_))
    | (go_at_call 31; refine (Cq (HK.out _ _ hS.ro) HP.out (HT.out _ _ hS.ro)).mono ?_; rw [HE.out]; rintro r_ w_ ⟨_, rfl, rfl, hb_⟩; replace hS := hS.ext hb_; clear hb_)
    | (go_at_call 55; refine (F6 HL.out HP.out HTG.out hS HK.out HT.out).mono ?_; rw [HSU.out]; clear hS; rintro e w_ ⟨y, us, rfl, hS⟩; obtain ⟨u, rfl, hu1⟩ := BC hS.ro.2)
    | ((with_reducible refine qK ?_); refine qL hS Tryz.underlying27 ?_)
    | ((with_reducible refine qm 27 ?_); (first | refine AH hS 0 rfl _ _ _ rfl _ _ rfl rfl _ _ rfl (by kernel_rfl) (by kernel_rfl) (by simpa using hu1) ?_ | refine AH hS 1 rfl _ _ _ rfl _ _ rfl rfl _ _ rfl (by kernel_rfl) (by kernel_rfl) (by simpa using hu1) ?_ | refine AH hS 2 rfl _ _ _ rfl _ _ rfl rfl _ _ rfl (by kernel_rfl) (by kernel_rfl) (by simpa using hu1) ?_ | refine AH hS 3 rfl _ _ _ rfl _ _ rfl rfl _ _ rfl (by kernel_rfl) (by kernel_rfl) (by simpa using hu1) ?_); clear hS; intro w_ hS; (try simp only [Act.put, Act.eval, zz, Value.cells] at hS)))
   refine Bl Tryz.results17 rfl (hS.box 2 rfl) Tryz.underlying27 rfl (by kernel_rfl) rfl ?_
   exact ⟨_, rfl, (hS.sub (List.sublist_append_right [_, _, _, _] F)).mono (KS.out.and A5) fun D w h => h⟩
 ·have HU0 : Hid (U = 0) := Lib.hid (by rw [<- HU.out]; unfold upS; rw [HE.out, if_neg h0])
  go_enter Tryz.func17, Tryz.ntmps17
  go_wp2_with (first
   | ((with_reducible refine qA 1 ?_); refine AA hS rfl _ _ rfl (.agg xs) xs rfl rfl ?_; clear hS; intro g1 w_ hS; (try simp only [Act.put, Act.eval, zz, Value.cells] at hS))
   | ((with_reducible refine qA 2 ?_); refine qa hS #[.slice none 0 0] ?_; clear hS; intro g2 w_ hS)
   | ((with_reducible refine qB ?_); refine qc ?_ ?_ <;> intro h_ <;> go_prune)
   | ((with_reducible refine qk 31 ?_); refine BigFrame.wpList_want rfl fun _ hK => AQ rfl rfl (hS.box 1 rfl) Tryz.underlying31 rfl (by rw [hx6.out]; kernel_rfl) (hK _ _ ?_))
   | (go_at_call 31; refine (Cq (HK.out _ _ hS.ro) HP.out (HT.out _ _ hS.ro)).mono ?_; rw [HE.out]; rintro r_ w_ ⟨_, rfl, rfl, hb_⟩; replace hS := hS.ext hb_; clear hb_)
   | ((with_reducible refine qA 8 ?_); refine Aq rfl _ _ rfl #[.slice none 0 0] (by kernel_rfl) ?_; (try simp only [Act.put, List.setIfInBounds_toArray, List.set_cons_zero, List.set_cons_succ]))
   | ((with_reducible refine qM ?_); (first | refine qS hS ?_ | refine qT hS ?_); clear hS; intro w_ hS; (try simp only [Act.put, Act.eval, zz, Value.cells] at hS)))
  refine Bl Tryz.results17 rfl (hS.box 0 rfl) Tryz.underlying27 rfl (by kernel_rfl) rfl ?_
  exact ⟨_, rfl, (hS.sub (List.sublist_append_right [_, _] F)).mono (KS.out.and A5) fun D w h => ⟨h, by rw [HU0.out]; exact A6.empty⟩⟩
set_option maxHeartbeats 2000000 in
theorem Ja {w0 w : World} {F : List Aj} {K : (Nat -> Prop) -> World -> Prop} {v : Value} {p : Af} (hP : p.Ok) (hS : St w0 w F K) (kp : ∀ D w, K D w -> B7 w D v p) (kt : ∀ D w, K D w -> Bx w) :
  Calls Tryz.prog 23 #[v] w fun e w' => ∃ x, e = .returned x /\ St w0 w' F fun D w => K D w /\ A6 w D x (obtS p) := by
 have HP := Lib.hid hP
 have HK := Lib.hid kp
 have HT := Lib.hid kt
 have KS := Lib.hid hS.stable
 obtain ⟨xs, rfl, hx6, hx1⟩ := (kp _ _ hS.ro).cells
 replace hx6 := Lib.hid hx6
 clear hP kp kt
 obtain ⟨b, hb⟩ : ∃ b, fragM p = b := ⟨_, rfl⟩
 have HB := Lib.hid hb
 clear hb
 obtain ⟨U, hU⟩ : ∃ U, obtS p = U := ⟨_, rfl⟩
 rw [hU]
 have HU := Lib.hid hU
 clear hU
 cases b
 ·have HU0 : Hid (U = 0) := Lib.hid (by rw [<- HU.out]; unfold obtS; rw [HB.out, if_neg (by decide)])
  go_enter Tryz.func23, Tryz.ntmps23
  go_wp2_with (first
   | ((with_reducible refine qA 1 ?_); refine AA hS rfl _ _ rfl (.agg xs) xs rfl rfl ?_; clear hS; intro g1 w_ hS; (try simp only [Act.put, Act.eval, zz, Value.cells] at hS))
   | ((with_reducible refine qA 2 ?_); refine qa hS #[.slice none 0 0] ?_; clear hS; intro g2 w_ hS)
   | ((with_reducible refine qk 31 ?_); refine BigFrame.wpList_want rfl fun _ hK => AQ rfl rfl (hS.box 1 rfl) Tryz.underlying31 rfl (by rw [hx6.out]; kernel_rfl) (hK _ _ ?_))
   | (go_at_call 15; refine (Dv (HK.out _ _ hS.ro) HP.out (HT.out _ _ hS.ro)).mono ?_; rw [HB.out]; rintro r_ w_ ⟨_, rfl, rfl, hb_⟩; replace hS := hS.ext hb_; clear hb_)
   | ((with_reducible refine qA 6 ?_); refine Aq rfl _ _ rfl #[.slice none 0 0] (by kernel_rfl) ?_; (try simp only [Act.put, List.setIfInBounds_toArray, List.set_cons_zero, List.set_cons_succ]))
   | ((with_reducible refine qM ?_); (first | refine qS hS ?_ | refine qT hS ?_); clear hS; intro w_ hS; (try simp only [Act.put, Act.eval, zz, Value.cells] at hS)))
  refine Bl Tryz.results23 rfl (hS.box 0 rfl) Tryz.underlying27 rfl (by kernel_rfl) rfl ?_
  exact ⟨_, rfl, (hS.sub (List.sublist_append_right [_, _] F)).mono (KS.out.and A5) fun D w h => ⟨h, by rw [HU0.out]; exact A6.empty⟩⟩
 ·have HU0 : Hid (upS p = U) := Lib.hid (by rw [<- HU.out]; unfold obtS; rw [HB.out, if_pos rfl])
  go_enter Tryz.func23, Tryz.ntmps23
  go_wp2_with (first
   | ((with_reducible refine qA 1 ?_); refine AA hS rfl _ _ rfl (.agg xs) xs rfl rfl ?_; clear hS; intro g1 w_ hS; (try simp only [Act.put, Act.eval, zz, Value.cells] at hS))
   | ((with_reducible refine qA 2 ?_); refine qa hS #[.slice none 0 0] ?_; clear hS; intro g2 w_ hS)
   | ((with_reducible refine qk 31 ?_); refine BigFrame.wpList_want rfl fun _ hK => AQ rfl rfl (hS.box 1 rfl) Tryz.underlying31 rfl (by rw [hx6.out]; kernel_rfl) (hK _ _ ?_))
   | (go_at_call 15; refine (Dv (HK.out _ _ hS.ro) HP.out (HT.out _ _ hS.ro)).mono ?_; rw [HB.out]; rintro r_ w_ ⟨_, rfl, rfl, hb_⟩; replace hS := hS.ext hb_; clear hb_)
   | (go_at_call 17; refine (upper_any HP.out hS HK.out HT.out).mono ?_; rw [HU0.out]; clear hS; rintro e w_ ⟨y, rfl, hS⟩; obtain ⟨u, rfl, hu1⟩ := BC hS.ro.2)
   | ((with_reducible refine qm 27 ?_); (first | refine AH hS 0 rfl _ _ _ rfl _ _ rfl rfl _ _ rfl (by kernel_rfl) (by kernel_rfl) (by simpa using hu1) ?_ | refine AH hS 1 rfl _ _ _ rfl _ _ rfl rfl _ _ rfl (by kernel_rfl) (by kernel_rfl) (by simpa using hu1) ?_ | refine AH hS 2 rfl _ _ _ rfl _ _ rfl rfl _ _ rfl (by kernel_rfl) (by kernel_rfl) (by simpa using hu1) ?_ | refine AH hS 3 rfl _ _ _ rfl _ _ rfl rfl _ _ rfl (by kernel_rfl) (by kernel_rfl) (by simpa using hu1) ?_); clear hS; intro w_ hS; (try simp only [Act.put, Act.eval, zz, Value.cells] at hS)))
  refine Bl Tryz.results23 rfl (hS.box 0 rfl) Tryz.underlying27 rfl (by kernel_rfl) rfl ?_
  exact ⟨_, rfl, (hS.sub (List.sublist_append_right [_, _] F)).mono (KS.out.and A5) fun D w h => h⟩
end
section
open Go.RowKit
attribute [local go_sem ↓] Go.wp_at_zero Go.wp_at_succ
set_option maxRecDepth 20000
set_option exponentiation.threshold 5000
def De (r : AW) : AW := ⟨r.revoke, r.yes, 0, r.target, r.origin⟩
def EC (p : Af) : Af := ⟨p.roles, p.links, p.start, p.rules.map De, [], p.goal.map fun z => (z.1, 0)⟩
theorem plain_frag (p : Af) : CD (EC p) = true := by
 unfold CD EC
 simp [De]
theorem Cu.plain {p : Af} {L : List (Nat × Nat)} {R : Nat} (h : Cu p L R) : Cu (EC p) L R where
 links := h.links
 roles := h.roles
 r2 := h.r2
 r5 := h.r5
 hok := h.hok
 inr := h.inr
 len := h.len
 start := h.start
 rlen := by show (p.rules.map De).length <= 6; rw [List.length_map]; exact h.rlen
 rules := fun z hz => by
  obtain ⟨r, hr, rfl⟩ := List.mem_map.1 hz
  obtain ⟨h1, h2, h3, h4, h5, h6, h7, h8⟩ := h.rules r hr
  exact ⟨h1, h2, h3, by simp [De], by simp [De], h6, by simp [De], fun e => ⟨(h8 e).1, rfl⟩⟩
 nlen := by simp [EC]
 never := fun z hz => by simp [EC] at hz
 glen := by show (p.goal.map _).length <= 3; rw [List.length_map]; exact h.glen
 gpos := by show 1 <= (p.goal.map _).length; rw [List.length_map]; exact h.gpos
 goal := fun z hz => by
  obtain ⟨r, hr, rfl⟩ := List.mem_map.1 hz
  obtain ⟨h1, h2, h3, h4, h5⟩ := h.goal r hr
  exact ⟨h1, by simp, by simp, h4, by simp⟩
set_option maxHeartbeats 4000000 in
theorem rplain_any {w0 w : World} {F : List Aj} {K : (Nat -> Prop) -> World -> Prop} {v : Value} {p : Af} {L : List (Nat × Nat)} {R : Nat} (hM : Cu p L R) (hS : St w0 w F K) (kp : ∀ D w, K D w -> CO w D v p) :
  Calls Tryz.prog 51 #[v] w fun e w' => ∃ u, e = .returned u /\ St w0 w' F fun D w => K D w /\ CO w D u (EC p) := by
 obtain ⟨R', lk, st, rl, nl, gl⟩ := p
 obtain rfl : lk = some L := hM.links
 obtain rfl : R' = (R : Int) := hM.roles
 obtain ⟨Al, cl, Ar, cr, An, cn, Ag, cg, rfl⟩ := rprob_parts (kp _ _ hS.ro)
 have kl : ∀ D w, K D w -> Sl w D 2 (.slice Al L.length cl) L.length (Ah L) := fun D w h => (IY (kp D w h)).1
 have kr : ∀ D w, K D w -> Sl w D 5 (.slice Ar rl.length cr) rl.length (AZ rl) := fun D w h => (IY (kp D w h)).2.1
 have kg : ∀ D w, K D w -> Sl w D 2 (.slice Ag gl.length cg) gl.length (Bd gl) := fun D w h => (IY (kp D w h)).2.2.2
 have hr6 : rl.length <= 6 := hM.rlen
 have hg3 : gl.length <= 3 := hM.glen
 have KS := Lib.hid hS.stable
 clear hM kp
 go_enter Tryz.func51, Tryz.ntmps51
 go_wp2_with (first
  | ((with_reducible refine qA 1 ?_); refine AA hS rfl _ _ rfl (.agg #[.int .i64 (R : Nat), .slice Al L.length cl, .int .u64 (st : Nat), .slice Ar rl.length cr, .slice An nl.length cn, .slice Ag gl.length cg]) _ rfl rfl ?_; clear hS; intro g1 w_ hS; (try simp only [Act.put, Act.eval, zz, Value.cells] at hS))
  | ((with_reducible refine qA 2 ?_); refine qa hS #[.int .i64 0, .slice none 0 0, .int .u64 0, .slice none 0 0, .slice none 0 0, .slice none 0 0] ?_; clear hS; intro g2 w_ hS)
  | ((with_reducible refine qA 3 ?_); refine qa hS #[.int .i64 0, .slice none 0 0, .int .u64 0, .slice none 0 0, .slice none 0 0, .slice none 0 0] ?_; clear hS; intro g3 w_ hS)
  | ((with_reducible refine qA 14 ?_); refine Aq rfl _ _ rfl #[.int .i64 (R : Nat), .slice Al L.length cl, .int .u64 (st : Nat), .slice none 0 0, .slice none 0 0, .slice none 0 0] (by kernel_rfl) ?_; (try simp only [Act.put, List.setIfInBounds_toArray, List.set_cons_zero, List.set_cons_succ]))
  | ((with_reducible refine qM ?_); (first | refine qS hS ?_ | refine qT hS ?_); clear hS; intro w_ hS; (try simp only [Act.put, Act.eval, zz, Value.cells] at hS))
  | ((with_reducible refine qK ?_); refine qC hS ?_))
 replace hS := hS.nil 96 5
 go_loopw [18] (fun iv wr => ∃ (j : Nat) (rv : Value), iv = .int .i64 (j : Nat) /\ j <= rl.length /\ St w0 wr (.own rv 96 5 j (AZ ((rl.take j).map De)) :: .box g3 37 #[.int .i64 (R : Nat), .slice Al L.length cl, .int .u64 (st : Nat), rv, .slice none 0 0, .slice none 0 0] :: .box g2 37 #[.int .i64 0, .slice none 0 0, .int .u64 0, .slice none 0 0, .slice none 0 0, .slice none 0 0] :: .box g1 37 #[.int .i64 (R : Nat), .slice Al L.length cl, .int .u64 (st : Nat), .slice Ar rl.length cr, .slice An nl.length cn, .slice Ag gl.length cg] :: F) K) (fun i _ => rl.length - (intOf i).toNat)
 case atStart => exact ⟨0, _, rfl, by omega, hS⟩
 case round =>
  clear hS
  obtain ⟨j, rv, rfl, hj, hS⟩ := hrel
  by_cases hlj : j < rl.length
  ·obtain ⟨b, o, rfl, c0, c1, c2, c3, c4⟩ := rr_at (kr _ _ hS.ro) hlj
   have HT : Hid (AZ ((rl.take (j + 1)).map De) = AZ ((rl.take j).map De) ++ [.bool (rl.getD j AL).revoke, .int .u64 ((rl.getD j AL).yes : Nat), .int .u64 0, .int .i64 (rl.getD j AL).target, .int .i64 (rl.getD j AL).origin]) := Lib.hid (by
    rw [List.take_add_one, List.getElem?_eq_getElem hlj, List.getD_eq_getElem?_getD, List.getElem?_eq_getElem hlj, List.map_append, F8]; rfl)
   generalize AZ ((rl.take j).map De) = X at *
   generalize rl.getD j AL = z at *
   obtain ⟨zr, y, n, rt, ro⟩ := z
   dsimp only at c0 c1 c2 c3 c4 HT
   go_wp2_with (first
    | ((with_reducible refine qB ?_); refine qc ?_ ?_ <;> intro h_ <;> go_prune)
    | ((with_reducible refine qA 21 ?_); refine BigFrame.wpList_want rfl fun _ hK => B5 (cs := [.bool zr, .int .u64 (y : Nat), .int .u64 (n : Nat), .int .i64 rt, .int .i64 ro]) rfl rfl (J0 c0 c1 c2 c3 c4) Tryz.underlying96 rfl (by kernel_rfl) (hK _ _ ?_))
    | ((with_reducible refine qA 5 ?_); refine qa hS #[.bool false, .int .u64 0, .int .u64 0, .int .i64 0, .int .i64 0] ?_; clear hS; intro g5 w_ hS)
    | ((with_reducible refine qK ?_); refine qL hS Tryz.underlying96 ?_)
    | ((with_reducible refine qA 27 ?_); refine DV hS 1 rfl rfl _ _ _ _ rfl rfl Hm rv j X (.agg #[.bool zr, .int .u64 (y : Nat), .int .u64 0, .int .i64 rt, .int .i64 ro]) #[.bool zr, .int .u64 (y : Nat), .int .u64 0, .int .i64 rt, .int .i64 ro] rfl (by kernel_rfl) rfl rfl rfl rfl (by intro u hu; simp at hu; rcases hu with rfl | rfl | rfl | rfl | rfl <;> rfl) (by omega) (by omega) ?_; clear hS; intro z_ rv' w_ hS; (try simp only [Act.put, Act.eval, zz, Value.cells] at hS); obtain ⟨Av, cv, rfl, _, _⟩ := Be (hS.own 1 rfl))
    | ((with_reducible refine qM ?_); (first | refine qS hS ?_ | refine qT hS ?_); clear hS; intro w_ hS; (try simp only [Act.put, Act.eval, zz, Value.cells] at hS))
    | ((with_reducible refine qK ?_); refine qC hS ?_))
   exact ⟨⟨j + 1, _, by go_num, hlj, by rw [HT.out]; exact hS.sub (List.sublist_cons_self _ _)⟩, by simp [intOf]; omega⟩
  ·obtain rfl : j = rl.length := by omega
   rw [List.take_length] at hS
   obtain ⟨X, hX⟩ : ∃ X, AZ (rl.map De) = X := ⟨_, rfl⟩
   rw [hX] at hS
   have HX := Lib.hid hX
   clear hX
   obtain ⟨Av, cv, rfl, _, _⟩ := Be (hS.own 0 rfl)
   replace hS := hS.freeze 0 (by decide) rfl
   go_wp2_with (first
    | ((with_reducible refine qB ?_); refine qc ?_ ?_ <;> intro h_ <;> go_prune)
    | ((with_reducible refine qK ?_); refine qC hS ?_))
   replace hS := hS.nil 94 2
   go_loopw [34] (fun iv wr => ∃ (k : Nat) (gv : Value), iv = .int .i64 (k : Nat) /\ k <= gl.length /\ St w0 wr (.own gv 94 2 k (Bd ((gl.take k).map fun z => (z.1, 0))) :: .box g3 37 #[.int .i64 (R : Nat), .slice Al L.length cl, .int .u64 (st : Nat), .slice Av rl.length cv, .slice none 0 0, gv] :: .box g2 37 #[.int .i64 0, .slice none 0 0, .int .u64 0, .slice none 0 0, .slice none 0 0, .slice none 0 0] :: .box g1 37 #[.int .i64 (R : Nat), .slice Al L.length cl, .int .u64 (st : Nat), .slice Ar rl.length cr, .slice An nl.length cn, .slice Ag gl.length cg] :: F) (fun D w => K D w /\ Sl w D 5 (.slice Av rl.length cv) rl.length X)) (fun i _ => gl.length - (intOf i).toNat)
   case atStart => exact ⟨0, _, rfl, by omega, hS⟩
   case round =>
    clear hS
    obtain ⟨k, gv, rfl, hk, hS⟩ := hrel
    by_cases hlk : k < gl.length
    ·obtain ⟨bp, op, rfl⟩ := Hv (kg _ _ hS.ro.1) (by omega)
     obtain ⟨f0, f1⟩ := rcells_at gl k hlk
     have c0 := CH (kg _ _ hS.ro.1) f0
     have c1 := CH (kg _ _ hS.ro.1) f1
     have HT : Hid (Bd ((gl.take (k + 1)).map fun z => (z.1, 0)) = Bd ((gl.take k).map fun z => (z.1, 0)) ++ [.int .u64 ((gl.getD k (0, 0)).1 : Nat), .int .u64 0]) := Lib.hid (by
      rw [Hr gl k (0, 0) hlk, List.map_append, FR]; rfl)
     generalize Bd ((gl.take k).map fun z => (z.1, 0)) = X2 at *
     generalize gl.getD k (0, 0) = z at *
     obtain ⟨y, n⟩ := z
     dsimp only at c0 c1 f0 f1 HT
     clear f0 f1
     go_wp2_with (first
      | ((with_reducible refine qB ?_); refine qc ?_ ?_ <;> intro h_ <;> go_prune)
      | ((with_reducible refine qA 37 ?_); refine BigFrame.wpList_want rfl fun _ hK => B5 (cs := [.int .u64 (y : Nat), .int .u64 (n : Nat)]) rfl rfl (rng2 c0 c1) Tryz.underlying94 rfl (by kernel_rfl) (hK _ _ ?_))
      | ((with_reducible refine qA 7 ?_); refine qa hS #[.int .u64 0, .int .u64 0] ?_; clear hS; intro g7 w_ hS)
      | ((with_reducible refine qA 42 ?_); refine Aq rfl _ _ rfl #[.int .u64 (y : Nat), .int .u64 0] (by kernel_rfl) ?_; (try simp only [Act.put, List.setIfInBounds_toArray, List.set_cons_zero, List.set_cons_succ]))
      | ((with_reducible refine qA 43 ?_); refine DV hS 1 rfl rfl _ _ _ _ rfl rfl ty_mkc gv k X2 (.agg #[.int .u64 (y : Nat), .int .u64 0]) #[.int .u64 (y : Nat), .int .u64 0] rfl (by kernel_rfl) rfl rfl rfl rfl (by intro u hu; simp at hu; rcases hu with rfl | rfl <;> rfl) (by omega) (by omega) ?_; clear hS; intro z_ gv' w_ hS; (try simp only [Act.put, Act.eval, zz, Value.cells] at hS); obtain ⟨Aw, cw, rfl, _, _⟩ := Be (hS.own 1 rfl))
      | ((with_reducible refine qM ?_); (first | refine qS hS ?_ | refine qT hS ?_); clear hS; intro w_ hS; (try simp only [Act.put, Act.eval, zz, Value.cells] at hS))
      | ((with_reducible refine qK ?_); refine qC hS ?_))
     exact ⟨⟨k + 1, _, by go_num, hlk, by rw [HT.out]; exact hS.sub (List.sublist_cons_self _ _)⟩, by simp [intOf]; omega⟩
    ·obtain rfl : k = gl.length := by omega
     rw [List.take_length] at hS
     obtain ⟨X2, hX2⟩ : ∃ X, Bd (gl.map fun z => (z.1, 0)) = X := ⟨_, rfl⟩
     rw [hX2] at hS
     have HX2 := Lib.hid hX2
     clear hX2
     obtain ⟨Aw, cw, rfl, _, _⟩ := Be (hS.own 0 rfl)
     replace hS := hS.freeze 0 (by decide) rfl
     go_wp2_with (first
      | ((with_reducible refine qB ?_); refine qc ?_ ?_ <;> intro h_ <;> go_prune)
      | ((with_reducible refine qK ?_); refine qL hS Tryz.underlying37 ?_)
      | ((with_reducible refine qM ?_); (first | refine qS hS ?_ | refine qT hS ?_); clear hS; intro w_ hS; (try simp only [Act.put, Act.eval, zz, Value.cells] at hS)))
     refine Bl Tryz.results51 rfl (hS.box 1 rfl) Tryz.underlying37 rfl (by kernel_rfl) rfl ?_
     refine ⟨_, rfl, (hS.sub (List.sublist_append_right [_, _, _] F)).mono (KS.out.and Dt) fun D w h => ⟨h.1.1, ?_⟩⟩
     refine ⟨_, _, _, _, L, rfl, rfl, kl _ _ h.1.1, ?_, Sl.none_, ?_⟩
     ·show Sl w D 5 _ (rl.map De).length (AZ (rl.map De)); rw [List.length_map, HX.out]; exact h.1.2
     ·show Sl w D 2 _ (gl.map fun z => (z.1, 0)).length (Bd (gl.map fun z => (z.1, 0))); rw [List.length_map, HX2.out]; exact h.2
end
section
open Go.RowKit
set_option exponentiation.threshold 5000
section
variable {L : List (Nat × Nat)} {p q : Af} {R : Nat}
theorem minus_lt {a b : Nat} (h : a < 2 ^ 64) : Fe a b < 2 ^ 64 := by
 refine Nat.lt_pow_two_of_testBit _ fun i hi => ?_
 rw [tb_minus, Nat.testBit_lt_two_pow (Nat.lt_of_lt_of_le h (Nat.pow_le_pow_right (by decide) hi))]; rfl
end
end
end Go.Proofs.YtjjhcdkamohgnaaGreatDoor
