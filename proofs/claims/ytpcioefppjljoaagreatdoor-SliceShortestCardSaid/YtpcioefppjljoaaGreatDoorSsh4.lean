/-
  What the statement needs, part 4.
-/
import Derived.Deep.LoopGhost
import Derived.Lib.MinMax
import Derived.Laws.BitsAllLaws
import Derived.Test.YtpcioefppjljoaaGreatDoorSsh3
namespace Go.Proofs.YtpcioefppjljoaaGreatDoor
section
open Go.RowKit
attribute [local go_sem ↓] Go.wp_at_zero Go.wp_at_succ
set_option maxRecDepth 20000
set_option exponentiation.threshold 5000
noncomputable def relS (p : Ac) : Nat := if checkE p = 0 then (match p.links with | none => 0 | some L => relM L p) else 0
set_option maxHeartbeats 4000000 in
theorem GT {w0 : World} {D : Nat -> Prop} {v : Value} {p : Ac} (hp : Ba w0 D v p) (hP : p.Ok) (hT : BH w0) : Calls Tryz.prog 81 #[v] w0 (AO (fun x w' => A7 w' (w0.heap.size <= ·) x (relS p)) w0) := by
 obtain ⟨R, lk, st, rl, nl, gl⟩ := p
 have HP := Lib.hid hP
 have hP1 := hP.rules
 have hP2 := hP.never
 have hP3 := hP.goal
 dsimp only at hP1 hP2 hP3
 clear hP
 obtain ⟨lp, s, rv, nv, gv, rfl, h1, h2, h3, h4, h5⟩ := hp
 dsimp only at h1 h2 h3 h4 h5 ⊢
 obtain ⟨Cs, ns, cs, rfl⟩ := h2.shape
 obtain ⟨Ar, cr, rfl, _, _⟩ := h3.shape
 obtain ⟨An, cn, rfl, _, _⟩ := h4.shape
 obtain ⟨Ag, cg, rfl, _, _⟩ := h5.shape
 obtain ⟨K, kp, kh, kr, kn, kg, kt, hS⟩ : ∃ K : (Nat -> Prop) -> World -> Prop, (∀ D w, K D w -> Ba w D (.agg #[.int .i64 R, lp, .slice Cs ns cs, .slice Ar rl.length cr, .slice An nl.length cn, .slice Ag gl.length cg]) ⟨R, lk, st, rl, nl, gl⟩) /\ (∀ D w, K D w -> EH w D lp lk) /\ (∀ D w, K D w -> Bm w D (.slice Ar rl.length cr) rl) /\ (∀ D w, K D w -> AH w D (.slice An nl.length cn) nl) /\ (∀ D w, K D w -> AH w D (.slice Ag gl.length cg) gl) /\ (∀ D w, K D w -> BH w) /\ St w0 w0 [] K :=
  ⟨fun D w => ((EH w D lp lk /\ A7 w D (.agg #[.slice Cs ns cs]) st) /\ Bm w D (.slice Ar rl.length cr) rl /\ AH w D (.slice An nl.length cn) nl /\ AH w D (.slice Ag gl.length cg) gl) /\ (BH w /\ D 0), fun _ _ h => ⟨_, _, _, _, _, rfl, h.1.1.1, h.1.1.2, h.1.2.1, h.1.2.2.1, h.1.2.2.2⟩, fun _ _ h => h.1.1.1, fun _ _ h => h.1.2.1, fun _ _ h => h.1.2.2.1, fun _ _ h => h.1.2.2.2, fun _ _ h => h.2.1,
   St.start (D := fun _ => True) (((BB.and A5).and (B6.and (AW.and AW))).and Cd) ⟨⟨⟨BB D _ w0 w0 h1 (Nat.le_refl _) (fun _ _ _ _ h => h) fun _ _ _ _ => trivial, h2.imp fun _ _ _ => trivial⟩, B6 D _ w0 w0 h3 (Nat.le_refl _) (fun _ _ _ _ h => h) fun _ _ _ _ => trivial, h4.imp fun _ _ _ => trivial, h5.imp fun _ _ _ => trivial⟩, hT, trivial⟩⟩
 clear h1 h2 h3 h4 h5 hT
 have KS := Lib.hid hS.stable
 obtain ⟨e, he⟩ : ∃ e, e = checkE ⟨R, lk, st, rl, nl, gl⟩ := ⟨_, rfl⟩
 have HE := Lib.hid he
 clear he
 by_cases h0 : e = 0
 ·subst h0
  cases lk with
  | none => have := HE.out; cases this
  | some L =>
   have HH := Lib.hid (HP.out.links L rfl).1
   have HRS : Hid (relS ⟨R, some L, st, rl, nl, gl⟩ = relM L ⟨R, some L, st, rl, nl, gl⟩) := Lib.hid (by unfold relS; rw [if_pos HE.out.symm])
   rw [HRS.out]
   obtain ⟨q, o, rfl, -⟩ := id (kh _ _ hS.ro)
   go_enter Tryz.func81, Tryz.ntmps81
   go_wp2_with (first
    | ((with_reducible refine qA 1 ?_); refine AE hS rfl _ _ rfl (.agg #[.int .i64 R, .pointer (some ⟨q, 0, none⟩), .slice Cs ns cs, .slice Ar rl.length cr, .slice An nl.length cn, .slice Ag gl.length cg]) _ rfl rfl ?_; clear hS; intro g1 w_ hS; (try simp only [Act.put, Act.eval, zz, Value.cells] at hS))
    | ((with_reducible refine qA 2 ?_); refine qa hS #[.slice none 0 0] ?_; clear hS; intro g2 w_ hS)
    | ((with_reducible refine qA 3 ?_); refine qa hS #[.slice none 0 0] ?_; clear hS; intro g3 w_ hS)
    | ((with_reducible refine qK ?_); refine qL hS Tryz.underlying31 ?_)
    | (go_at_call 39; refine (Do (kp _ _ hS.ro) HP.out (kt _ _ hS.ro)).mono ?_; rw [<- HE.out]; rintro r_ w_ ⟨_, rfl, rfl, hb_⟩; replace hS := hS.ext hb_; clear hb_)
    | ((with_reducible refine qK ?_); refine qC hS ?_))
   go_loopw [19] (fun i wr => ∃ (j : Nat) (u : Value) (N : Nat), i = .int .i64 (j : Nat) /\ j <= gl.length /\ Hid (JL L ⟨R, some L, st, rl, nl, gl⟩ N /\ ∀ c ∈ gl.take j, CI (depC L c) N) /\ St w0 wr [.box g3 27 #[u], .box g2 27 #[.slice none 0 0], .box g1 31 #[.int .i64 R, .pointer (some ⟨q, 0, none⟩), .slice Cs ns cs, .slice Ar rl.length cr, .slice An nl.length cn, .slice Ag gl.length cg]] (fun D w => K D w /\ A7 w (fun z => D z /\ w0.heap.size <= z) (.agg #[u]) N)) (fun i _ => gl.length - (intOf i).toNat)
   case atStart => exact ⟨0, _, 0, rfl, by omega, Lib.hid ⟨JL.zero _ _, by simp⟩, hS.mono (KS.out.and (AV A5 fun z => w0.heap.size <= z)) fun D w h => ⟨h, A7.empty⟩⟩
   case round =>
    clear hS
    obtain ⟨j, u, N0, rfl, hj, HI, hS⟩ := hrel
    by_cases hlj : j < gl.length
    ·obtain ⟨b, o2, y, n, rfl, _, hb, c0, c1, hy, hn⟩ := (kg _ _ hS.ro.1).at_ hlj
     obtain ⟨Ay, my, cy, rfl⟩ := hy.shape
     obtain ⟨Am, mn, cm, rfl⟩ := hn.shape
     have HI2 : Hid (JL L ⟨R, some L, st, rl, nl, gl⟩ (N0 ||| depC L (gl.getD j (0, 0))) /\ ∀ c ∈ gl.take (j + 1), CI (depC L c) (N0 ||| depC L (gl.getD j (0, 0)))) := Lib.hid ⟨HI.out.1.goal (List.mem_of_getElem? (Bz (0, 0) hlj)), fun c hc => (Ee (Bz (0, 0) hlj) hc).elim (fun h => (HI.out.2 c h).trans (CI.left _ _)) fun e => by rw [e]; exact CI.right _ _⟩
     obtain ⟨KC, kc, hS2⟩ : ∃ KC : (Nat -> Prop) -> World -> Prop, Hid (∀ D w, KC D w -> K D w /\ A7 w (fun z => D z /\ w0.heap.size <= z) (.agg #[u]) N0 /\ Bd w D (.agg #[.slice Ay my cy, .slice Am mn cm]) (gl.getD j (0, 0))) /\ St w0 wr [.box g3 27 #[u], .box g2 27 #[.slice none 0 0], .box g1 31 #[.int .i64 R, .pointer (some ⟨q, 0, none⟩), .slice Cs ns cs, .slice Ar rl.length cr, .slice An nl.length cn, .slice (some ⟨b, o2, none⟩) gl.length cg]] KC := ⟨_, Lib.hid fun D w h => ⟨h.1.1, h.1.2, h.2⟩, hS.add (D := Da _) Bk ⟨_, _, rfl, hy, hn⟩ fun _ h _ => h⟩
     clear hS hy hn
     have hS := hS2
     clear hS2
     generalize gl.getD j (0, 0) = z at *
     go_wp2_with (first
      | ((with_reducible refine qB ?_); refine qc ?_ ?_ <;> intro h_ <;> go_prune)
      | ((with_reducible refine qA 22 ?_); refine BigFrame.wpList_want rfl fun _ hK => AQ (cs := [.slice Ay my cy, .slice Am mn cm]) rfl rfl (Jd c0 c1) Tryz.underlying81 rfl (by kernel_rfl) (hK _ _ ?_))
      | ((with_reducible refine qA 5 ?_); refine qa hS #[.slice none 0 0, .slice none 0 0] ?_; clear hS; intro g5 w_ hS)
      | ((with_reducible refine qM ?_); (first | refine qS hS ?_ | refine qT hS ?_); clear hS; intro w_ hS; (try simp only [Act.put, Act.eval, zz, Value.cells] at hS)))
     refine IH 5 [] [.i (.agg #[u]), .i (.agg #[.int .i64 R, .pointer (some ⟨q, 0, none⟩), .slice Cs ns cs, .slice Ar rl.length cr, .slice An nl.length cn, .slice (some ⟨b, o2, none⟩) gl.length cg]), .i (.agg #[.slice Ay my cy, .slice Am mn cm]), .s (fun v w => A7 w (fun _ => True) v (depC L z)) fun v w w' h hb => h.ext hb, .s (fun v w => ∃ u, v = .agg #[u] /\ u.oneCell' = true /\ A7 w (fun z => w_.heap.size <= z) (.agg #[u]) (N0 ||| depC L z)) fun v w w' h hb => ⟨_, h.choose_spec.1, h.choose_spec.2.1, h.choose_spec.2.2.ext hb⟩, .t] ⟨uR (h := fun w hW hN => (hS.ext hW).box 1 rfl), uR (h := fun w hW hN => (hS.ext hW).box 3 rfl), uR (h := fun w hW hN => (hS.ext hW).box 0 rfl), ?_, ?_, trivial⟩ ?_
     ·refine uT fun b__ w hW hE K hK => ?_
      have e24 := hE 24
      have e25 := hE 25
      refine Az rfl (by kernel_rfl) (by simp only [List.map_cons, List.map_nil, e24, e25]) (Dw (kp _ _ (kc.out _ _ (hS.ext hW).ro).1) rfl HH.out (kt _ _ (kc.out _ _ (hS.ext hW).ro).1) (kc.out _ _ (hS.ext hW).ro).2.2) fun v w' h hb => ?_
      exact hK v w' (h.imp fun _ _ _ => trivial) hb
     ·refine uT fun b__ w hW hE K hK => ?_
      have e23 := hE 23
      have e26 := hE 26
      refine Az rfl (by kernel_rfl) (by simp only [List.map_cons, List.map_nil, e23]) (Fa (.agg #[u]) _ N0 _ w _ _ (kc.out _ _ (hS.ext hW).ro).2.1 e26) fun v w' h hb => ?_
      obtain ⟨u, rfl, h1⟩ := Cr h
      exact hK _ w' ⟨u, rfl, h1, h.imp fun z hz _ => Nat.le_trans hW.size hz⟩ hb
     ·intro vs wz hW hT
      obtain ⟨e23, e24, e25, e26, e27, -⟩ := hT
      have bx : (fun _ : Nat => True) 0 := trivial
      simp only [AC, Act.put, zz, ze]
      (intro o_ ho_; simp only [List.getElem?_toArray, List.getElem?_cons_succ, List.getElem?_cons_zero, Option.some.injEq] at ho_; subst ho_)
      obtain ⟨un, e27, hu1, hun⟩ := e27
      have hsW := hS.size
      have hS1 := hS.ret hW (AV (A5 (v := .agg #[un]) (N := N0 ||| depC L z)) fun z => w0.heap.size <= z) (hun.imp fun z hz _ => ⟨hz, Nat.le_trans hsW hz⟩)
      refine Cn rfl rfl e27 (hS1.box 1 rfl) (by kernel_rfl) rfl (by simpa using hu1) fun w4 h1 hU => ?_
      have hS2 := (hS1.upd 1 rfl (.box g3 27 #[un]) (Bn hU) ⟨(hS1.holds (.box g3 27 #[u]) (by simp)).1, h1⟩ fun _ e => .inl e)
      simp only [CJ]
      simp only [Act.put, List.setIfInBounds_toArray, List.set_cons_zero, List.set_cons_succ]
      clear hS hS1 h1 hU hW hun e27
      have hS := hS2
      clear hS2
      go_wp2_with fail
      exact ⟨⟨j + 1, un, N0 ||| depC L z, by go_num, hlj, HI2, (hS.sub (List.sublist_cons_self _ _)).mono (KS.out.and (AV A5 fun z => w0.heap.size <= z)) fun D w h => ⟨(kc.out _ _ h.1).1, h.2⟩⟩, by simp [intOf]; omega⟩
    ·obtain rfl : gl.length = j := by omega
     have HI2 : Hid (JL L ⟨R, some L, st, rl, nl, gl⟩ N0 /\ ∀ c ∈ gl, CI (depC L c) N0) := Lib.hid ⟨HI.out.1, fun c hc => HI.out.2 c (by rw [List.take_length]; exact hc)⟩
     clear HI
     go_wp2_with (first | ((with_reducible refine qB ?_); refine qc ?_ ?_ <;> intro h_ <;> go_prune))
     go_loopg [] (2 ^ 64 - N0) (fun k wr => ∃ (u : Value) (B : Nat), 2 ^ 64 - B <= k /\ Hid (JL L ⟨R, some L, st, rl, nl, gl⟩ B /\ ∀ c ∈ gl, CI (depC L c) B) /\ St w0 wr [.box g3 27 #[u], .box g2 27 #[.slice none 0 0], .box g1 31 #[.int .i64 R, .pointer (some ⟨q, 0, none⟩), .slice Cs ns cs, .slice Ar rl.length cr, .slice An nl.length cn, .slice Ag gl.length cg]] (fun D w => K D w /\ A7 w (fun z => D z /\ w0.heap.size <= z) (.agg #[u]) B))
     case atStart => exact ⟨u, N0, Nat.le_refl _, HI2, hS⟩
     case round =>
      clear hS HI2
      obtain ⟨uB8, B, hgk, HI, hS⟩ := hrel
      obtain ⟨Ab, cb, lb, he, -⟩ := hS.ro.2.parts
      obtain rfl : uB8 = .slice Ab lb.length cb := by injection he with he; simpa using he
      clear he
      obtain ⟨nb, hnb⟩ : ∃ nb, nb = lb.length := ⟨_, rfl⟩
      rw [<- hnb] at hS
      clear hnb
      have HGK := Lib.hid hgk
      clear hgk
      go_wp2_with (first
       | ((with_reducible refine qk 27 ?_); first | (refine Aa hS 0 rfl _ _ rfl _ _ rfl _ _ rfl _ (by first | rfl | assumption) Tryz.underlying27 rfl (by kernel_rfl) ?_) | (refine Aa hS 1 rfl _ _ rfl _ _ rfl _ _ rfl _ (by first | rfl | assumption) Tryz.underlying27 rfl (by kernel_rfl) ?_) | (refine Aa hS 2 rfl _ _ rfl _ _ rfl _ _ rfl _ (by first | rfl | assumption) Tryz.underlying27 rfl (by kernel_rfl) ?_) | (refine Aa hS 3 rfl _ _ rfl _ _ rfl _ _ rfl _ (by first | rfl | assumption) Tryz.underlying27 rfl (by kernel_rfl) ?_) | (refine Aa hS 4 rfl _ _ rfl _ _ rfl _ _ rfl _ (by first | rfl | assumption) Tryz.underlying27 rfl (by kernel_rfl) ?_) | (refine Aa hS 5 rfl _ _ rfl _ _ rfl _ _ rfl _ (by first | rfl | assumption) Tryz.underlying27 rfl (by kernel_rfl) ?_))
       | ((with_reducible refine qA 6 ?_); refine qa hS #[.slice none 0 0] ?_; clear hS; intro g6 w_ hS)
       | ((with_reducible refine qM ?_); (first | refine qS hS ?_ | refine qT hS ?_); clear hS; intro w_ hS; (try simp only [Act.put, Act.eval, zz, Value.cells] at hS))
       | ((with_reducible refine qK ?_); refine qC hS ?_))
      go_loopw [33] (fun i wr => ∃ (j : Nat) (u : Value) (N : Nat), i = .int .i64 (j : Nat) /\ j <= rl.length /\ Hid (DG L ⟨R, some L, st, rl, nl, gl⟩ B N j 0) /\ St w0 wr [.box g6 27 #[.slice Ab nb cb], .box g3 27 #[u], .box g2 27 #[.slice none 0 0], .box g1 31 #[.int .i64 R, .pointer (some ⟨q, 0, none⟩), .slice Cs ns cs, .slice Ar rl.length cr, .slice An nl.length cn, .slice Ag gl.length cg]] (fun D w => (K D w /\ A7 w D (.agg #[.slice Ab nb cb]) B) /\ A7 w (fun z => D z /\ w0.heap.size <= z) (.agg #[u]) N)) (fun i _ => rl.length - (intOf i).toNat)
      case atStart => exact ⟨0, _, B, rfl, by omega, Lib.hid (DG.start HI.out.1 HI.out.2), hS.mono ((KS.out.and A5).and (AV A5 fun z => w0.heap.size <= z)) fun D w h => ⟨⟨h.1, h.2.imp fun z hz _ => hz.1⟩, h.2⟩⟩
      case round =>
       clear hS HI
       obtain ⟨j, u, N0, rfl, hj, HI, hS⟩ := hrel
       by_cases hlj : j < rl.length
       ·obtain ⟨b, o2, y, n, rfl, _, hb, c0, c1, c2, c3, c4, hy, hn⟩ := (kr _ _ hS.ro.1.1).at_ hlj
        obtain ⟨Ay, my, cy, rfl⟩ := hy.shape
        obtain ⟨Am, mn, cm, rfl⟩ := hn.shape
        have HGj := Lib.hid (Bz AL hlj)
        obtain ⟨KC, kc, hS2⟩ : ∃ KC : (Nat -> Prop) -> World -> Prop, Hid (∀ D w, KC D w -> (K D w /\ A7 w D (.agg #[.slice Ab nb cb]) B) /\ A7 w (fun z => D z /\ w0.heap.size <= z) (.agg #[u]) N0 /\ A7 w D (.agg #[.slice Ay my cy]) (rl.getD j AL).yes /\ A7 w D (.agg #[.slice Am mn cm]) (rl.getD j AL).no) /\ St w0 wr [.box g6 27 #[.slice Ab nb cb], .box g3 27 #[u], .box g2 27 #[.slice none 0 0], .box g1 31 #[.int .i64 R, .pointer (some ⟨q, 0, none⟩), .slice Cs ns cs, .slice (some ⟨b, o2, none⟩) rl.length cr, .slice An nl.length cn, .slice Ag gl.length cg]] KC := ⟨_, Lib.hid fun D w h => ⟨h.1.1, h.1.2, h.2.1, h.2.2⟩, hS.add (D := Da _) (A5.and A5) ⟨hy, hn⟩ fun _ h _ => h⟩
        clear hS hy hn
        have hS := hS2
        clear hS2
        generalize rl.getD j AL = z at *
        obtain ⟨rv, ry, rn, rt, ro⟩ := z
        dsimp only at kc c0 c1 c2 c3 c4
        obtain ⟨b1, hb1⟩ : ∃ b, b = B5 N0 rt := ⟨_, rfl⟩
        have HB1 := Lib.hid hb1
        cases rv
        ·cases b1
         ·have HI2 := Lib.hid (HI.out.ruleN HGj.out (.inr hb1.symm))
          clear hb1 HI
          go_wp2_with (first
           | ((with_reducible refine qB ?_); refine qc ?_ ?_ <;> intro h_ <;> go_prune)
           | ((with_reducible refine qA 36 ?_); refine BigFrame.wpList_want rfl fun _ hK => AQ (cs := [.bool _, .slice Ay my cy, .slice Am mn cm, .int .i64 rt, .int .i64 ro]) rfl rfl (EO c0 c1 c2 c3 c4) Tryz.underlying83 rfl (by kernel_rfl) (hK _ _ ?_))
           | ((with_reducible refine qA 8 ?_); refine qa hS #[.bool false, .slice none 0 0, .slice none 0 0, .int .i64 0, .int .i64 0] ?_; clear hS; intro g8 w_ hS)
           | ((with_reducible refine qM ?_); (first | refine qS hS ?_ | refine qT hS ?_); clear hS; intro w_ hS; (try simp only [Act.put, Act.eval, zz, Value.cells] at hS))
           | ((with_reducible refine qk 27 ?_); first | (refine Aa hS 0 rfl _ _ rfl _ _ rfl _ _ rfl _ (by first | rfl | assumption) Tryz.underlying27 rfl (by kernel_rfl) ?_) | (refine Aa hS 1 rfl _ _ rfl _ _ rfl _ _ rfl _ (by first | rfl | assumption) Tryz.underlying27 rfl (by kernel_rfl) ?_) | (refine Aa hS 2 rfl _ _ rfl _ _ rfl _ _ rfl _ (by first | rfl | assumption) Tryz.underlying27 rfl (by kernel_rfl) ?_) | (refine Aa hS 3 rfl _ _ rfl _ _ rfl _ _ rfl _ (by first | rfl | assumption) Tryz.underlying27 rfl (by kernel_rfl) ?_) | (refine Aa hS 4 rfl _ _ rfl _ _ rfl _ _ rfl _ (by first | rfl | assumption) Tryz.underlying27 rfl (by kernel_rfl) ?_) | (refine Aa hS 5 rfl _ _ rfl _ _ rfl _ _ rfl _ (by first | rfl | assumption) Tryz.underlying27 rfl (by kernel_rfl) ?_))
           | ((with_reducible refine qK ?_); refine qC hS ?_)
           | (go_at_call 63; refine (BP _ N0 rt _ _ (kc.out _ _ hS.ro).2.1).mono ?_; rw [<- HB1.out]; rintro r_ w_ ⟨_, rfl, rfl, hb_⟩; replace hS := hS.ext hb_; clear hb_))
          exact ⟨⟨j + 1, u, N0, by go_num, hlj, HI2, (hS.sub (List.sublist_cons_self _ _)).mono ((KS.out.and A5).and (AV A5 fun z => w0.heap.size <= z)) fun D w h => ⟨(kc.out _ _ h).1, (kc.out _ _ h).2.1⟩⟩, by simp [intOf]; omega⟩
         ·have HI2 := Lib.hid (HI.out.ruleY HGj.out rfl hb1.symm)
          have HZ : Hid (depR L ⟨false, ry, rn, rt, ro⟩ = depM L (ry ||| rn)) := Lib.hid rfl
          generalize depR L ⟨false, ry, rn, rt, ro⟩ = dz at *
          clear hb1 HI
          go_wp2_with (first
           | ((with_reducible refine qB ?_); refine qc ?_ ?_ <;> intro h_ <;> go_prune)
           | ((with_reducible refine qA 36 ?_); refine BigFrame.wpList_want rfl fun _ hK => AQ (cs := [.bool _, .slice Ay my cy, .slice Am mn cm, .int .i64 rt, .int .i64 ro]) rfl rfl (EO c0 c1 c2 c3 c4) Tryz.underlying83 rfl (by kernel_rfl) (hK _ _ ?_))
           | ((with_reducible refine qA 8 ?_); refine qa hS #[.bool false, .slice none 0 0, .slice none 0 0, .int .i64 0, .int .i64 0] ?_; clear hS; intro g8 w_ hS)
           | ((with_reducible refine qM ?_); (first | refine qS hS ?_ | refine qT hS ?_); clear hS; intro w_ hS; (try simp only [Act.put, Act.eval, zz, Value.cells] at hS))
           | ((with_reducible refine qk 27 ?_); first | (refine Aa hS 0 rfl _ _ rfl _ _ rfl _ _ rfl _ (by first | rfl | assumption) Tryz.underlying27 rfl (by kernel_rfl) ?_) | (refine Aa hS 1 rfl _ _ rfl _ _ rfl _ _ rfl _ (by first | rfl | assumption) Tryz.underlying27 rfl (by kernel_rfl) ?_) | (refine Aa hS 2 rfl _ _ rfl _ _ rfl _ _ rfl _ (by first | rfl | assumption) Tryz.underlying27 rfl (by kernel_rfl) ?_) | (refine Aa hS 3 rfl _ _ rfl _ _ rfl _ _ rfl _ (by first | rfl | assumption) Tryz.underlying27 rfl (by kernel_rfl) ?_) | (refine Aa hS 4 rfl _ _ rfl _ _ rfl _ _ rfl _ (by first | rfl | assumption) Tryz.underlying27 rfl (by kernel_rfl) ?_) | (refine Aa hS 5 rfl _ _ rfl _ _ rfl _ _ rfl _ (by first | rfl | assumption) Tryz.underlying27 rfl (by kernel_rfl) ?_))
           | ((with_reducible refine qK ?_); refine qC hS ?_)
           | (go_at_call 63; refine (BP _ N0 rt _ _ (kc.out _ _ hS.ro).2.1).mono ?_; rw [<- HB1.out]; rintro r_ w_ ⟨_, rfl, rfl, hb_⟩; replace hS := hS.ext hb_; clear hb_))
          refine IH 6 [] [.i (.agg #[u]), .i (.agg #[.int .i64 R, .pointer (some ⟨q, 0, none⟩), .slice Cs ns cs, .slice (some ⟨b, o2, none⟩) rl.length cr, .slice An nl.length cn, .slice Ag gl.length cg]), .q g8 1, .i (.agg #[.slice Ay my cy, .slice Am mn cm]), .s (fun v w => A7 w (fun _ => True) v (dz)) fun v w w' h hb => h.ext hb, .s (fun v w => ∃ u, v = .agg #[u] /\ u.oneCell' = true /\ A7 w (fun z => w_.heap.size <= z) (.agg #[u]) (N0 ||| dz)) fun v w w' h hb => ⟨_, h.choose_spec.1, h.choose_spec.2.1, h.choose_spec.2.2.ext hb⟩, .t] ⟨uR (h := fun w hW hN => (hS.ext hW).box 2 rfl), uR (h := fun w hW hN => (hS.ext hW).box 4 rfl), uF, uD (h := fun w hW hN => Jd (((hS.ext hW).box 0 rfl).cell 1) (((hS.ext hW).box 0 rfl).cell 2)), ?_, ?_, trivial⟩ ?_
          ·refine uT fun b__ w hW hE K hK => ?_
           have e47 := hE 47
           have e49 := hE 49
           refine Az rfl (by kernel_rfl) (by simp only [List.map_cons, List.map_nil, e47, e49]) (Dw (kp _ _ (kc.out _ _ (hS.ext hW).ro).1.1) rfl HH.out (kt _ _ (kc.out _ _ (hS.ext hW).ro).1.1) (show Bd _ _ (.agg #[.slice Ay my cy, .slice Am mn cm]) (ry, rn) from ⟨_, _, rfl, (kc.out _ _ (hS.ext hW).ro).2.2⟩)) fun v w' h hb => ?_
           exact hK v w' (by rw [HZ.out]; exact h.imp fun _ _ _ => trivial) hb
          ·refine uT fun b__ w hW hE K hK => ?_
           have e46 := hE 46
           have e50 := hE 50
           refine Az rfl (by kernel_rfl) (by simp only [List.map_cons, List.map_nil, e46]) (Fa (.agg #[u]) _ N0 _ w _ _ (kc.out _ _ (hS.ext hW).ro).2.1 e50) fun v w' h hb => ?_
           obtain ⟨u, rfl, h1⟩ := Cr h
           exact hK _ w' ⟨u, rfl, h1, h.imp fun z hz _ => Nat.le_trans hW.size hz⟩ hb
          ·intro vs wz hW hT
           obtain ⟨e46, e47, e48, e49, e50, e51, -⟩ := hT
           have bx : (fun _ : Nat => True) 0 := trivial
           simp only [AC, Act.put, zz, ze]
           (intro o_ ho_; simp only [List.getElem?_toArray, List.getElem?_cons_succ, List.getElem?_cons_zero, Option.some.injEq] at ho_; subst ho_)
           obtain ⟨un, e51, hu1, hun⟩ := e51
           have hsW := hS.size
           have hS1 := hS.ret hW (AV (A5 (v := .agg #[un]) (N := N0 ||| dz)) fun z => w0.heap.size <= z) (hun.imp fun z hz _ => ⟨hz, Nat.le_trans hsW hz⟩)
           refine Cn rfl rfl e51 (hS1.box 2 rfl) (by kernel_rfl) rfl (by simpa using hu1) fun w4 h1 hU => ?_
           have hS2 := (hS1.upd 2 rfl (.box g3 27 #[un]) (Bn hU) ⟨(hS1.holds (.box g3 27 #[u]) (by simp)).1, h1⟩ fun _ e => .inl e)
           simp only [CJ]
           simp only [Act.put, List.setIfInBounds_toArray, List.set_cons_zero, List.set_cons_succ]
           clear hS hS1 h1 hU hW hun e51
           have hS := hS2
           clear hS2
           go_wp2_with fail
           exact ⟨⟨j + 1, un, N0 ||| dz, by go_num, hlj, HI2, (hS.sub (List.sublist_cons_self _ _)).mono ((KS.out.and A5).and (AV A5 fun z => w0.heap.size <= z)) fun D w h => ⟨(kc.out _ _ h.1).1, h.2⟩⟩, by simp [intOf]; omega⟩
        ·have HI2 := Lib.hid (HI.out.ruleN HGj.out (.inl rfl))
         clear hb1 HI
         go_wp2_with (first
          | ((with_reducible refine qB ?_); refine qc ?_ ?_ <;> intro h_ <;> go_prune)
          | ((with_reducible refine qA 36 ?_); refine BigFrame.wpList_want rfl fun _ hK => AQ (cs := [.bool _, .slice Ay my cy, .slice Am mn cm, .int .i64 rt, .int .i64 ro]) rfl rfl (EO c0 c1 c2 c3 c4) Tryz.underlying83 rfl (by kernel_rfl) (hK _ _ ?_))
          | ((with_reducible refine qA 8 ?_); refine qa hS #[.bool false, .slice none 0 0, .slice none 0 0, .int .i64 0, .int .i64 0] ?_; clear hS; intro g8 w_ hS)
          | ((with_reducible refine qM ?_); (first | refine qS hS ?_ | refine qT hS ?_); clear hS; intro w_ hS; (try simp only [Act.put, Act.eval, zz, Value.cells] at hS))
          | ((with_reducible refine qk 27 ?_); first | (refine Aa hS 0 rfl _ _ rfl _ _ rfl _ _ rfl _ (by first | rfl | assumption) Tryz.underlying27 rfl (by kernel_rfl) ?_) | (refine Aa hS 1 rfl _ _ rfl _ _ rfl _ _ rfl _ (by first | rfl | assumption) Tryz.underlying27 rfl (by kernel_rfl) ?_) | (refine Aa hS 2 rfl _ _ rfl _ _ rfl _ _ rfl _ (by first | rfl | assumption) Tryz.underlying27 rfl (by kernel_rfl) ?_) | (refine Aa hS 3 rfl _ _ rfl _ _ rfl _ _ rfl _ (by first | rfl | assumption) Tryz.underlying27 rfl (by kernel_rfl) ?_) | (refine Aa hS 4 rfl _ _ rfl _ _ rfl _ _ rfl _ (by first | rfl | assumption) Tryz.underlying27 rfl (by kernel_rfl) ?_) | (refine Aa hS 5 rfl _ _ rfl _ _ rfl _ _ rfl _ (by first | rfl | assumption) Tryz.underlying27 rfl (by kernel_rfl) ?_))
          | ((with_reducible refine qK ?_); refine qC hS ?_)
          | (go_at_call 63; refine (BP _ N0 rt _ _ (kc.out _ _ hS.ro).2.1).mono ?_; rw [<- HB1.out]; rintro r_ w_ ⟨_, rfl, rfl, hb_⟩; replace hS := hS.ext hb_; clear hb_))
         exact ⟨⟨j + 1, u, N0, by go_num, hlj, HI2, (hS.sub (List.sublist_cons_self _ _)).mono ((KS.out.and A5).and (AV A5 fun z => w0.heap.size <= z)) fun D w h => ⟨(kc.out _ _ h).1, (kc.out _ _ h).2.1⟩⟩, by simp [intOf]; omega⟩
       ·obtain rfl : rl.length = j := by omega
        go_wp2_with (first | ((with_reducible refine qB ?_); refine qc ?_ ?_ <;> intro h_ <;> go_prune) | ((with_reducible refine qK ?_); refine qC hS ?_))
        go_loopw [56] (fun i wr => ∃ (j : Nat) (u : Value) (N : Nat), i = .int .i64 (j : Nat) /\ j <= nl.length /\ Hid (DG L ⟨R, some L, st, rl, nl, gl⟩ B N rl.length j) /\ St w0 wr [.box g6 27 #[.slice Ab nb cb], .box g3 27 #[u], .box g2 27 #[.slice none 0 0], .box g1 31 #[.int .i64 R, .pointer (some ⟨q, 0, none⟩), .slice Cs ns cs, .slice Ar rl.length cr, .slice An nl.length cn, .slice Ag gl.length cg]] (fun D w => (K D w /\ A7 w D (.agg #[.slice Ab nb cb]) B) /\ A7 w (fun z => D z /\ w0.heap.size <= z) (.agg #[u]) N)) (fun i _ => nl.length - (intOf i).toNat)
        case atStart => exact ⟨0, u, N0, rfl, by omega, HI, hS⟩
        case round =>
         clear hS HI
         obtain ⟨j, u, N0, rfl, hj, HI, hS⟩ := hrel
         by_cases hlj : j < nl.length
         ·obtain ⟨b, o2, y, n, rfl, _, hb, c0, c1, hy, hn⟩ := (kn _ _ hS.ro.1.1).at_ hlj
          obtain ⟨Ay, my, cy, rfl⟩ := hy.shape
          obtain ⟨Am, mn, cm, rfl⟩ := hn.shape
          have HGj := Lib.hid (Bz (0, 0) hlj)
          obtain ⟨KC, kc, hS2⟩ : ∃ KC : (Nat -> Prop) -> World -> Prop, Hid (∀ D w, KC D w -> (K D w /\ A7 w D (.agg #[.slice Ab nb cb]) B) /\ A7 w (fun z => D z /\ w0.heap.size <= z) (.agg #[u]) N0 /\ Bd w D (.agg #[.slice Ay my cy, .slice Am mn cm]) (nl.getD j (0, 0))) /\ St w0 wr [.box g6 27 #[.slice Ab nb cb], .box g3 27 #[u], .box g2 27 #[.slice none 0 0], .box g1 31 #[.int .i64 R, .pointer (some ⟨q, 0, none⟩), .slice Cs ns cs, .slice Ar rl.length cr, .slice (some ⟨b, o2, none⟩) nl.length cn, .slice Ag gl.length cg]] KC := ⟨_, Lib.hid fun D w h => ⟨h.1.1, h.1.2, h.2⟩, hS.add (D := Da _) Bk ⟨_, _, rfl, hy, hn⟩ fun _ h _ => h⟩
          clear hS hy hn
          have hS := hS2
          clear hS2
          generalize nl.getD j (0, 0) = z at *
          obtain ⟨b1, hb1⟩ : ∃ b, b = (depC L z &&& N0 != 0) := ⟨_, rfl⟩
          have HB1 := Lib.hid hb1
          have HDZ : Hid (depM L (z.1 ||| z.2) = depC L z) := Lib.hid rfl
          cases b1
          ·have HI2 := Lib.hid (HI.out.neverN HGj.out hb1.symm)
           clear hb1 HI
           go_wp2_with (first
            | ((with_reducible refine qB ?_); refine qc ?_ ?_ <;> intro h_ <;> go_prune)
            | ((with_reducible refine qA 59 ?_); refine BigFrame.wpList_want rfl fun _ hK => AQ (cs := [.slice Ay my cy, .slice Am mn cm]) rfl rfl (Jd c0 c1) Tryz.underlying81 rfl (by kernel_rfl) (hK _ _ ?_))
            | ((with_reducible refine qA 10 ?_); refine qa hS #[.slice none 0 0, .slice none 0 0] ?_; clear hS; intro g10 w_ hS)
            | ((with_reducible refine qA 11 ?_); refine qa hS #[.slice none 0 0] ?_; clear hS; intro g11 w_ hS)
            | ((with_reducible refine qM ?_); (first | refine qS hS ?_ | refine qT hS ?_); clear hS; intro w_ hS; (try simp only [Act.put, Act.eval, zz, Value.cells] at hS))
            | ((with_reducible refine qA 60 ?_); refine BigFrame.wpList_want rfl fun _ hK => AZ rfl rfl (hS.box 4 rfl) Tryz.underlying31 rfl (by kernel_rfl) (hK _ _ ?_))
            | ((with_reducible refine qK ?_); refine qL hS Tryz.underlying81 ?_)
            | ((with_reducible refine qk 27 ?_); first | (refine Aa hS 0 rfl _ _ rfl _ _ rfl _ _ rfl _ (by first | rfl | assumption) Tryz.underlying27 rfl (by kernel_rfl) ?_) | (refine Aa hS 1 rfl _ _ rfl _ _ rfl _ _ rfl _ (by first | rfl | assumption) Tryz.underlying27 rfl (by kernel_rfl) ?_) | (refine Aa hS 2 rfl _ _ rfl _ _ rfl _ _ rfl _ (by first | rfl | assumption) Tryz.underlying27 rfl (by kernel_rfl) ?_) | (refine Aa hS 3 rfl _ _ rfl _ _ rfl _ _ rfl _ (by first | rfl | assumption) Tryz.underlying27 rfl (by kernel_rfl) ?_) | (refine Aa hS 4 rfl _ _ rfl _ _ rfl _ _ rfl _ (by first | rfl | assumption) Tryz.underlying27 rfl (by kernel_rfl) ?_) | (refine Aa hS 5 rfl _ _ rfl _ _ rfl _ _ rfl _ (by first | rfl | assumption) Tryz.underlying27 rfl (by kernel_rfl) ?_))
            | (go_at_call 84; have hsW := hS.size; refine (Dw (kp _ _ (kc.out _ _ hS.ro).1.1) rfl HH.out (kt _ _ (kc.out _ _ hS.ro).1.1) (kc.out _ _ hS.ro).2.2).mono ?_; rw [HDZ.out]; rintro r_ w_ ⟨_, rfl, h1, hb_⟩; replace hS := hS.ret hb_ A5 h1; obtain ⟨Ad, cd, ld, rfl, -⟩ := hS.ro.2.parts; clear h1 hb_ hsW)
            | (go_at_call 85; refine (El _ _ (depC L z) N0 _ _ _ hS.ro.2 (kc.out _ _ hS.ro.1).2.1).mono ?_; rw [<- HB1.out]; rintro r_ w_ ⟨_, rfl, rfl, hb_⟩; replace hS := hS.ext hb_; clear hb_)
            )
           exact ⟨⟨j + 1, u, N0, by go_num, hlj, HI2, (hS.sub ((List.sublist_cons_self _ _).trans (List.sublist_cons_self _ _))).mono ((KS.out.and A5).and (AV A5 fun z => w0.heap.size <= z)) fun D w h => ⟨(kc.out _ _ h.1).1, (kc.out _ _ h.1).2.1⟩⟩, by simp [intOf]; omega⟩
          ·have HI2 := Lib.hid (HI.out.neverY HGj.out hb1.symm)
           clear hb1 HI
           go_wp2_with (first
            | ((with_reducible refine qB ?_); refine qc ?_ ?_ <;> intro h_ <;> go_prune)
            | ((with_reducible refine qA 59 ?_); refine BigFrame.wpList_want rfl fun _ hK => AQ (cs := [.slice Ay my cy, .slice Am mn cm]) rfl rfl (Jd c0 c1) Tryz.underlying81 rfl (by kernel_rfl) (hK _ _ ?_))
            | ((with_reducible refine qA 10 ?_); refine qa hS #[.slice none 0 0, .slice none 0 0] ?_; clear hS; intro g10 w_ hS)
            | ((with_reducible refine qA 11 ?_); refine qa hS #[.slice none 0 0] ?_; clear hS; intro g11 w_ hS)
            | ((with_reducible refine qM ?_); (first | refine qS hS ?_ | refine qT hS ?_); clear hS; intro w_ hS; (try simp only [Act.put, Act.eval, zz, Value.cells] at hS))
            | ((with_reducible refine qA 60 ?_); refine BigFrame.wpList_want rfl fun _ hK => AZ rfl rfl (hS.box 4 rfl) Tryz.underlying31 rfl (by kernel_rfl) (hK _ _ ?_))
            | ((with_reducible refine qK ?_); refine qL hS Tryz.underlying81 ?_)
            | ((with_reducible refine qk 27 ?_); first | (refine Aa hS 0 rfl _ _ rfl _ _ rfl _ _ rfl _ (by first | rfl | assumption) Tryz.underlying27 rfl (by kernel_rfl) ?_) | (refine Aa hS 1 rfl _ _ rfl _ _ rfl _ _ rfl _ (by first | rfl | assumption) Tryz.underlying27 rfl (by kernel_rfl) ?_) | (refine Aa hS 2 rfl _ _ rfl _ _ rfl _ _ rfl _ (by first | rfl | assumption) Tryz.underlying27 rfl (by kernel_rfl) ?_) | (refine Aa hS 3 rfl _ _ rfl _ _ rfl _ _ rfl _ (by first | rfl | assumption) Tryz.underlying27 rfl (by kernel_rfl) ?_) | (refine Aa hS 4 rfl _ _ rfl _ _ rfl _ _ rfl _ (by first | rfl | assumption) Tryz.underlying27 rfl (by kernel_rfl) ?_) | (refine Aa hS 5 rfl _ _ rfl _ _ rfl _ _ rfl _ (by first | rfl | assumption) Tryz.underlying27 rfl (by kernel_rfl) ?_))
            | (go_at_call 84; have hsW := hS.size; refine (Dw (kp _ _ (kc.out _ _ hS.ro).1.1) rfl HH.out (kt _ _ (kc.out _ _ hS.ro).1.1) (kc.out _ _ hS.ro).2.2).mono ?_; rw [HDZ.out]; rintro r_ w_ ⟨_, rfl, h1, hb_⟩; replace hS := hS.ret hb_ A5 h1; obtain ⟨Ad, cd, ld, rfl, -⟩ := hS.ro.2.parts; clear h1 hb_ hsW)
            | (go_at_call 85; refine (El _ _ (depC L z) N0 _ _ _ hS.ro.2 (kc.out _ _ hS.ro.1).2.1).mono ?_; rw [<- HB1.out]; rintro r_ w_ ⟨_, rfl, rfl, hb_⟩; replace hS := hS.ext hb_; clear hb_)
            | (go_at_call 58; have hsW := hS.size; refine (Fa _ _ N0 (depC L z) _ _ _ (kc.out _ _ hS.ro.1).2.1 hS.ro.2).mono ?_; rintro r_ w_ ⟨_, rfl, h1, hb_⟩; replace hS := hS.ret hb_ (AV A5 fun z => w0.heap.size <= z) (h1.imp fun z hz _ => ⟨hz, Nat.le_trans hsW hz⟩); obtain ⟨Ao, co, lo, rfl, -⟩ := hS.ro.2.parts; clear h1 hb_ hsW))
           exact ⟨⟨j + 1, _, N0 ||| depC L z, by go_num, hlj, HI2, (hS.sub ((List.sublist_cons_self _ _).trans (List.sublist_cons_self _ _))).mono ((KS.out.and A5).and (AV A5 fun z => w0.heap.size <= z)) fun D w h => ⟨(kc.out _ _ h.1.1).1, h.2⟩⟩, by simp [intOf]; omega⟩
         ·obtain rfl : nl.length = j := by omega
          obtain ⟨b1, hb1⟩ : ∃ b, b = (N0 == B) := ⟨_, rfl⟩
          have HB1 := Lib.hid hb1
          obtain ⟨Ao, co, lo, he, -⟩ := hS.ro.2.parts
          obtain rfl : u = .slice Ao lo.length co := by injection he with he; simpa using he
          clear he
          cases b1
          ·have hne : ¬ N0 = B := fun e => by rw [e, beq_self_eq_true] at hb1; cases hb1
           have HLT := Lib.hid (HI.out.lt hne)
           have HI2 : Hid (JL L ⟨R, some L, st, rl, nl, gl⟩ N0 /\ ∀ c ∈ gl, CI (depC L c) N0) := Lib.hid ⟨HI.out.low, HI.out.goal⟩
           clear hb1 hne HI
           go_wp2_with (first
            | ((with_reducible refine qB ?_); refine qc ?_ ?_ <;> intro h_ <;> go_prune)
            | ((with_reducible refine qk 27 ?_); first | (refine Aa hS 0 rfl _ _ rfl _ _ rfl _ _ rfl _ (by first | rfl | assumption) Tryz.underlying27 rfl (by kernel_rfl) ?_) | (refine Aa hS 1 rfl _ _ rfl _ _ rfl _ _ rfl _ (by first | rfl | assumption) Tryz.underlying27 rfl (by kernel_rfl) ?_) | (refine Aa hS 2 rfl _ _ rfl _ _ rfl _ _ rfl _ (by first | rfl | assumption) Tryz.underlying27 rfl (by kernel_rfl) ?_) | (refine Aa hS 3 rfl _ _ rfl _ _ rfl _ _ rfl _ (by first | rfl | assumption) Tryz.underlying27 rfl (by kernel_rfl) ?_) | (refine Aa hS 4 rfl _ _ rfl _ _ rfl _ _ rfl _ (by first | rfl | assumption) Tryz.underlying27 rfl (by kernel_rfl) ?_) | (refine Aa hS 5 rfl _ _ rfl _ _ rfl _ _ rfl _ (by first | rfl | assumption) Tryz.underlying27 rfl (by kernel_rfl) ?_))
            | (go_at_call 26; refine (Ib _ _ N0 B _ _ _ hS.ro.2 hS.ro.1.2).mono ?_; rw [<- HB1.out]; rintro r_ w_ ⟨_, rfl, rfl, hb_⟩; replace hS := hS.ext hb_; clear hb_))
           go_roundg (2 ^ 64 - N0)
           case measure => have := HLT.out; have := HGK.out; omega
           case rel => exact ⟨_, N0, Nat.le_refl _, HI2, (hS.sub (List.sublist_cons_self _ _)).mono (KS.out.and (AV A5 fun z => w0.heap.size <= z)) fun D w h => ⟨h.1.1, h.2⟩⟩
          ·obtain rfl : N0 = B := by simpa using hb1.symm
           have HFIN := Lib.hid HI.out.done
           clear hb1 HI
           go_wp2_with (first
            | ((with_reducible refine qB ?_); refine qc ?_ ?_ <;> intro h_ <;> go_prune)
            | ((with_reducible refine qk 27 ?_); first | (refine Aa hS 0 rfl _ _ rfl _ _ rfl _ _ rfl _ (by first | rfl | assumption) Tryz.underlying27 rfl (by kernel_rfl) ?_) | (refine Aa hS 1 rfl _ _ rfl _ _ rfl _ _ rfl _ (by first | rfl | assumption) Tryz.underlying27 rfl (by kernel_rfl) ?_) | (refine Aa hS 2 rfl _ _ rfl _ _ rfl _ _ rfl _ (by first | rfl | assumption) Tryz.underlying27 rfl (by kernel_rfl) ?_) | (refine Aa hS 3 rfl _ _ rfl _ _ rfl _ _ rfl _ (by first | rfl | assumption) Tryz.underlying27 rfl (by kernel_rfl) ?_) | (refine Aa hS 4 rfl _ _ rfl _ _ rfl _ _ rfl _ (by first | rfl | assumption) Tryz.underlying27 rfl (by kernel_rfl) ?_) | (refine Aa hS 5 rfl _ _ rfl _ _ rfl _ _ rfl _ (by first | rfl | assumption) Tryz.underlying27 rfl (by kernel_rfl) ?_))
            | ((with_reducible refine qM ?_); (first | refine qS hS ?_ | refine qT hS ?_); clear hS; intro w_ hS; (try simp only [Act.put, Act.eval, zz, Value.cells] at hS))
            | (go_at_call 26; refine (Ib _ _ N0 N0 _ _ _ hS.ro.2 hS.ro.1.2).mono ?_; rw [<- HB1.out]; rintro r_ w_ ⟨_, rfl, rfl, hb_⟩; replace hS := hS.ext hb_; clear hb_))
           refine BG Tryz.results81 rfl (hS.box 2 rfl) Tryz.underlying27 rfl (by kernel_rfl) rfl ?_
           exact AO.mk (by rw [<- HFIN.out]; exact hS.ro.2.imp fun z hz _ => hz.2) hS.below
 ·have HRS : Hid (relS ⟨R, lk, st, rl, nl, gl⟩ = 0) := Lib.hid (by unfold relS; rw [if_neg (fun h => h0 (HE.out.trans h))])
  rw [HRS.out]
  go_enter Tryz.func81, Tryz.ntmps81
  go_wp2_with (first
   | ((with_reducible refine qA 1 ?_); refine AE hS rfl _ _ rfl (.agg #[.int .i64 R, lp, .slice Cs ns cs, .slice Ar rl.length cr, .slice An nl.length cn, .slice Ag gl.length cg]) _ rfl rfl ?_; clear hS; intro g1 w_ hS; (try simp only [Act.put, Act.eval, zz, Value.cells] at hS))
   | ((with_reducible refine qA 2 ?_); refine qa hS #[.slice none 0 0] ?_; clear hS; intro g2 w_ hS)
   | ((with_reducible refine qA 3 ?_); refine qa hS #[.slice none 0 0] ?_; clear hS; intro g3 w_ hS)
   | ((with_reducible refine qB ?_); refine qc ?_ ?_ <;> intro h_ <;> go_prune)
   | ((with_reducible refine qK ?_); refine qL hS Tryz.underlying31 ?_)
   | ((with_reducible refine qk 27 ?_); first | (refine Aa hS 0 rfl _ _ rfl _ _ rfl _ _ rfl _ (by first | rfl | assumption) Tryz.underlying27 rfl (by kernel_rfl) ?_) | (refine Aa hS 1 rfl _ _ rfl _ _ rfl _ _ rfl _ (by first | rfl | assumption) Tryz.underlying27 rfl (by kernel_rfl) ?_) | (refine Aa hS 2 rfl _ _ rfl _ _ rfl _ _ rfl _ (by first | rfl | assumption) Tryz.underlying27 rfl (by kernel_rfl) ?_) | (refine Aa hS 3 rfl _ _ rfl _ _ rfl _ _ rfl _ (by first | rfl | assumption) Tryz.underlying27 rfl (by kernel_rfl) ?_) | (refine Aa hS 4 rfl _ _ rfl _ _ rfl _ _ rfl _ (by first | rfl | assumption) Tryz.underlying27 rfl (by kernel_rfl) ?_) | (refine Aa hS 5 rfl _ _ rfl _ _ rfl _ _ rfl _ (by first | rfl | assumption) Tryz.underlying27 rfl (by kernel_rfl) ?_))
   | ((with_reducible refine qM ?_); (first | refine qS hS ?_ | refine qT hS ?_); clear hS; intro w_ hS; (try simp only [Act.put, Act.eval, zz, Value.cells] at hS))
   | (go_at_call 39; refine (Do (kp _ _ hS.ro) HP.out (kt _ _ hS.ro)).mono ?_; rw [<- HE.out]; rintro r_ w_ ⟨_, rfl, rfl, hb_⟩; replace hS := hS.ext hb_; clear hb_))
  refine BG Tryz.results81 rfl (hS.box 1 rfl) Tryz.underlying27 rfl (by kernel_rfl) rfl ?_
  exact AO.mk A7.empty hS.below
end
section
open Go.RowKit
attribute [local go_sem ↓] Go.wp_at_zero Go.wp_at_succ
set_option maxRecDepth 20000
set_option exponentiation.threshold 5000
theorem IO : BA Tryz.prog 28 83 5 72 := ⟨Tryz.underlying28, by kernel_rfl⟩
theorem kclone_any {w0 : World} {D : Nat -> Prop} {pv : Value} {n : Nat} {xs : List Value} (h : Sl w0 D 2 pv n xs) (ho : ∀ u ∈ xs, u.oneCell' = true) (hl : n <= 1000000) : Calls Tryz.prog 110 #[pv] w0 fun e w' => ∃ v, e = .returned v /\ St w0 w' [.own v 81 2 n xs] fun _ _ => True := by
 obtain ⟨A, c, rfl, hc1, hc2⟩ := h.shape
 obtain ⟨K, kp, hS⟩ : ∃ K : (Nat -> Prop) -> World -> Prop, (∀ D w, K D w -> Sl w D 2 (.slice A n c) n xs) /\ St w0 w0 [] K := ⟨_, fun _ _ h => h, St.start (At (by decide)) h⟩
 clear h
 cases A with
 | none =>
  obtain ⟨rfl, rfl⟩ : n = 0 /\ xs = [] := by
   obtain ⟨h1, A, c2, h2, _, _, h5⟩ := kp _ _ hS.ro
   rcases Nat.eq_zero_or_pos n with h | h
   ·subst h; exact ⟨rfl, List.length_eq_zero_iff.1 (by omega)⟩
   ·obtain ⟨b, o, h6, _⟩ := h5 h
    injection h2 with h2; rw [<- h2] at h6; cases h6
  go_enter Tryz.func110, Tryz.ntmps110
  go_wp2_with (first
   | ((with_reducible refine qB ?_); refine qc ?_ ?_ <;> intro h_ <;> go_prune)
   | ((with_reducible refine qA 4 ?_); refine BigFrame.wpList_want rfl fun _ hK => AU (vx := .slice none 0 c) (vy := .slice none 0 0) (v := .bool true) rfl rfl rfl rfl (Lib.run_eql_slice_nil _ _ _ _ _ _ _ _ Tryz.underlying29) (hK _ _ ?_)))
  go_ret
  exact ⟨_, rfl, ((hS.nil 81 2)).mono (AF.pure True) fun _ _ _ => trivial⟩
 | some ad =>
  go_enter Tryz.func110, Tryz.ntmps110
  go_wp2_with (first
   | ((with_reducible refine qA 4 ?_); refine BigFrame.wpList_want rfl fun _ hK => AU (vx := .slice (some ad) n c) (vy := .slice none 0 0) (v := .bool false) rfl rfl rfl rfl (Lib.run_eql_slice_nil _ _ _ _ _ _ _ _ Tryz.underlying29) (hK _ _ ?_))
   | ((with_reducible show wpList _ _ _ (⟨_, .buildSlice _ 0 _, _, _, _, _⟩ :: _) _ _); refine Gy hS rfl _ _ rfl Tryz.underlying29 (by kernel_rfl) 2 ?_; clear hS; intro ge w_ hS)
   | ((with_reducible refine qA 7 ?_); refine IC hS 0 rfl _ _ _ rfl Ed _ rfl rfl _ _ _ _ rfl (kp _ _ hS.ro) ho (by omega) (by omega) ?_; clear hS; intro g cap w_ hS))
  go_ret
  exact ⟨_, rfl, hS.mono (AF.pure True) fun _ _ _ => trivial⟩
theorem rclone_any {w0 : World} {D : Nat -> Prop} {pv : Value} {n : Nat} {xs : List Value} (h : Sl w0 D 5 pv n xs) (ho : ∀ u ∈ xs, u.oneCell' = true) (hl : n <= 1000000) : Calls Tryz.prog 71 #[pv] w0 fun e w' => ∃ v, e = .returned v /\ St w0 w' [.own v 83 5 n xs] fun _ _ => True := by
 obtain ⟨A, c, rfl, hc1, hc2⟩ := h.shape
 obtain ⟨K, kp, hS⟩ : ∃ K : (Nat -> Prop) -> World -> Prop, (∀ D w, K D w -> Sl w D 5 (.slice A n c) n xs) /\ St w0 w0 [] K := ⟨_, fun _ _ h => h, St.start (At (by decide)) h⟩
 clear h
 cases A with
 | none =>
  obtain ⟨rfl, rfl⟩ : n = 0 /\ xs = [] := by
   obtain ⟨h1, A, c2, h2, _, _, h5⟩ := kp _ _ hS.ro
   rcases Nat.eq_zero_or_pos n with h | h
   ·subst h; exact ⟨rfl, List.length_eq_zero_iff.1 (by omega)⟩
   ·obtain ⟨b, o, h6, _⟩ := h5 h
    injection h2 with h2; rw [<- h2] at h6; cases h6
  go_enter Tryz.func71, Tryz.ntmps71
  go_wp2_with (first
   | ((with_reducible refine qB ?_); refine qc ?_ ?_ <;> intro h_ <;> go_prune)
   | ((with_reducible refine qA 4 ?_); refine BigFrame.wpList_want rfl fun _ hK => AU (vx := .slice none 0 c) (vy := .slice none 0 0) (v := .bool true) rfl rfl rfl rfl (Lib.run_eql_slice_nil _ _ _ _ _ _ _ _ Tryz.underlying28) (hK _ _ ?_)))
  go_ret
  exact ⟨_, rfl, ((hS.nil 83 5)).mono (AF.pure True) fun _ _ _ => trivial⟩
 | some ad =>
  go_enter Tryz.func71, Tryz.ntmps71
  go_wp2_with (first
   | ((with_reducible refine qA 4 ?_); refine BigFrame.wpList_want rfl fun _ hK => AU (vx := .slice (some ad) n c) (vy := .slice none 0 0) (v := .bool false) rfl rfl rfl rfl (Lib.run_eql_slice_nil _ _ _ _ _ _ _ _ Tryz.underlying28) (hK _ _ ?_))
   | ((with_reducible show wpList _ _ _ (⟨_, .buildSlice _ 0 _, _, _, _, _⟩ :: _) _ _); refine Gy hS rfl _ _ rfl Tryz.underlying28 (by kernel_rfl) 5 ?_; clear hS; intro ge w_ hS)
   | ((with_reducible refine qA 7 ?_); refine IC hS 0 rfl _ _ _ rfl IO _ rfl rfl _ _ _ _ rfl (kp _ _ hS.ro) ho (by omega) (by omega) ?_; clear hS; intro g cap w_ hS))
  go_ret
  exact ⟨_, rfl, hS.mono (AF.pure True) fun _ _ _ => trivial⟩
theorem JB {w0 : World} {D : Nat -> Prop} {pv : Value} {n : Nat} {xs : List Value} (h : Sl w0 D 2 pv n xs) (ho : ∀ u ∈ xs, u.oneCell' = true) (hl : n <= 1000000) : Calls Tryz.prog 72 #[pv] w0 fun e w' => ∃ v, e = .returned v /\ St w0 w' [.own v 81 2 n xs] fun _ _ => True := by
 have HC := Lib.hid (kclone_any h ho hl)
 clear h ho
 go_enter Tryz.func72, Tryz.ntmps72
 go_wp2_with (first | (go_at_call 110; refine HC.out.mono ?_; rintro e w_ ⟨v, rfl, hS⟩))
 go_ret
 exact ⟨_, rfl, hS⟩
theorem vs_len5 {vs : List Value} (h : vs.length = 5) : ∃ x0 x1 x2 x3 x4, vs = [x0, x1, x2, x3, x4] := by
 obtain ⟨x, vs', rfl, h'⟩ := Gq h
 obtain ⟨y, z, u, t, rfl⟩ := IB h'
 exact ⟨x, y, z, u, t, rfl⟩
theorem vs_len6 {vs : List Value} (h : vs.length = 6) : ∃ x0 x1 x2 x3 x4 x5, vs = [x0, x1, x2, x3, x4, x5] := by
 obtain ⟨x, vs', rfl, h'⟩ := Gq h
 obtain ⟨y, z, u, t, r, rfl⟩ := vs_len5 h'
 exact ⟨x, y, z, u, t, r, rfl⟩
theorem J0 {w : World} {D : Nat -> Prop} {size n : Nat} {v : Value} {xs : List Value} (h : Sl w D size v n xs) : v.cells = #[v] /\ v.oneCell' = true := by
 obtain ⟨A, c, rfl, _, _⟩ := h.shape
 exact ⟨rfl, rfl⟩
theorem AM.one {w : World} {D : Nat -> Prop} {xs : List Value} {l : List AP} (hl : xs.length = l.length * 5) (h : AM w D xs l) : ∀ u ∈ xs, u.oneCell' = true := fun u hu => by
 obtain ⟨i, hi, rfl⟩ := List.getElem_of_mem hu
 have hk : i / 5 < l.length := by omega
 obtain ⟨a, b, q0, q1, q2, q3, q4, q5, q6⟩ := h (i / 5) l[i / 5] (by rw [List.getElem?_eq_getElem hk])
 obtain ⟨A, m, c, e3⟩ := q5.shape
 obtain ⟨B, k, d, e4⟩ := q6.shape
 have key : ∀ {j : Nat} {v : Value}, xs[i / 5 * 5 + j]? = some v -> i = i / 5 * 5 + j -> v.oneCell' = true -> xs[i].oneCell' = true := fun {j v} q e hv => by
  rw [<- e, List.getElem?_eq_getElem hi] at q
  injection q with q
  rw [q]; exact hv
 have h5 : i % 5 < 5 := Nat.mod_lt _ (by decide)
 have hd := Nat.div_add_mod i 5
 match hm : i % 5, h5 with
 | 0, _ => exact key (j := 0) q0 (by omega) rfl
 | 1, _ => exact key (j := 1) q1 (by omega) (by rw [e3]; rfl)
 | 2, _ => exact key (j := 2) q2 (by omega) (by rw [e4]; rfl)
 | 3, _ => exact key (j := 3) q3 (by omega) rfl
 | 4, _ => exact key (j := 4) q4 (by omega) rfl
set_option maxHeartbeats 1000000 in
theorem copy_any {w0 w : World} {F : List Aj} {K : (Nat -> Prop) -> World -> Prop} {v : Value} {p : Ac} (hP : p.Ok) (hS : St w0 w F K) (kp : ∀ D w, K D w -> Ba w D v p) :
  Calls Tryz.prog 37 #[v] w fun e w' => ∃ u, e = .returned u /\ St w0 w' F fun D w => K D w /\ Ba w D u p := by
 obtain ⟨R, lk, st, rl, nl, gl⟩ := p
 obtain ⟨lp, s, rv, nv, gv, rfl, hh, hs, hr, hn, hg⟩ := kp _ _ hS.ro
 dsimp only at hh hs hr hn hg
 obtain ⟨hP1, hP2, hP3, -⟩ := hP
 dsimp only at hP1 hP2 hP3
 have KS := Lib.hid hS.stable
 obtain ⟨la, rfl⟩ : ∃ la, lp = .pointer la := by
  cases lk with
  | none => exact ⟨none, hh⟩
  | some L => obtain ⟨q, o, rfl, -⟩ := hh; exact ⟨_, rfl⟩
 obtain ⟨Cs, ns, cs, rfl⟩ := hs.shape
 obtain ⟨Ar, cr, rfl, _, _⟩ := hr.shape
 obtain ⟨An, cn, rfl, _, _⟩ := hn.shape
 obtain ⟨Ag, cg, rfl, _, _⟩ := hg.shape
 obtain ⟨xr, hr1, hr2⟩ := hr
 obtain ⟨xn, hn1, hn2⟩ := hn
 obtain ⟨xg, hg1, hg2⟩ := hg
 have OR : Hid (∀ u ∈ xr, u.oneCell' = true) := Lib.hid (hr2.one hr1.1)
 have ON : Hid (∀ u ∈ xn, u.oneCell' = true) := Lib.hid (AB.one hn1.1 hn2)
 have OG : Hid (∀ u ∈ xg, u.oneCell' = true) := Lib.hid (AB.one hg1.1 hg2)
 obtain ⟨K1, k0, kh, ks, kr, kn, kg, kr2, kn2, kg2, hS2⟩ : ∃ K1 : (Nat -> Prop) -> World -> Prop, (∀ D w, K1 D w -> K D w) /\ (∀ D w, K1 D w -> EH w D (.pointer la) lk) /\ (∀ D w, K1 D w -> A7 w D (.agg #[.slice Cs ns cs]) st) /\ (∀ D w, K1 D w -> Sl w D 5 (.slice Ar rl.length cr) rl.length xr) /\ (∀ D w, K1 D w -> Sl w D 2 (.slice An nl.length cn) nl.length xn) /\ (∀ D w, K1 D w -> Sl w D 2 (.slice Ag gl.length cg) gl.length xg) /\ (∀ D w, K1 D w -> AM w D xr rl) /\ (∀ D w, K1 D w -> AB w D xn nl) /\ (∀ D w, K1 D w -> AB w D xg gl) /\ St w0 w F K1 :=
  ⟨_, fun _ _ h => h.1, fun _ _ h => h.2.1.1, fun _ _ h => h.2.1.2, fun _ _ h => h.2.2.1.1, fun _ _ h => h.2.2.2.1.1, fun _ _ h => h.2.2.2.2.1, fun _ _ h => h.2.2.1.2, fun _ _ h => h.2.2.2.1.2, fun _ _ h => h.2.2.2.2.2, hS.add (D := Da F) ((BB.and A5).and (((At (by decide)).and C0).and (((At (by decide)).and CF).and ((At (by decide)).and CF)))) ⟨⟨hh, hs⟩, ⟨hr1, hr2⟩, ⟨hn1, hn2⟩, hg1, hg2⟩ fun _ h _ => h⟩
 clear hS hh hs hr1 hr2 hn1 hn2 hg1 hg2 kp
 have hS := hS2
 clear hS2
 have KS1 := Lib.hid hS.stable
 go_enter Tryz.func37, Tryz.ntmps37
 go_wp2_with (first
  | ((with_reducible refine qA 1 ?_); refine AE hS rfl _ _ rfl (.agg #[.int .i64 R, .pointer la, .slice Cs ns cs, .slice Ar rl.length cr, .slice An nl.length cn, .slice Ag gl.length cg]) _ rfl rfl ?_; clear hS; intro g1 w_ hS; (try simp only [Act.put, Act.eval, zz, Value.cells] at hS))
  | ((with_reducible refine qA 2 ?_); refine qa hS #[.int .i64 0, .pointer none, .slice none 0 0, .slice none 0 0, .slice none 0 0, .slice none 0 0] ?_; clear hS; intro g2 w_ hS))
 have h0d : St w0 w_.drew (.box g2 31 #[.int .i64 0, .pointer none, .slice none 0 0, .slice none 0 0, .slice none 0 0, .slice none 0 0] :: .box g1 31 #[.int .i64 R, .pointer la, .slice Cs ns cs, .slice Ar rl.length cr, .slice An nl.length cn, .slice Ag gl.length cg] :: F) K1 := hS.drew
 clear hS
 refine wp_zS [2, 5, 8, 10, 12, 14] [some (.pointer (some ⟨g1, 3, none⟩)), some (.slice Ar rl.length cr), none, some (.pointer (some ⟨g1, 4, none⟩)), some (.slice An nl.length cn), none, some (.pointer (some ⟨g1, 5, none⟩)), some (.slice Ag gl.length cg), none, some (.pointer (some ⟨g1, 3, none⟩)), none, some (.pointer (some ⟨g1, 4, none⟩)), none, some (.pointer (some ⟨g1, 5, none⟩)), none] (fun vs w => match vs with | [] => St w0 w (.box g2 31 #[.int .i64 0, .pointer none, .slice none 0 0, .slice none 0 0, .slice none 0 0, .slice none 0 0] :: .box g1 31 #[.int .i64 R, .pointer la, .slice Cs ns cs, .slice Ar rl.length cr, .slice An nl.length cn, .slice Ag gl.length cg] :: F) K1 | [a] => St w0 w (.box g2 31 #[.int .i64 0, .pointer none, .slice none 0 0, .slice none 0 0, .slice none 0 0, .slice none 0 0] :: .box g1 31 #[.int .i64 R, .pointer la, .slice Cs ns cs, .slice Ar rl.length cr, .slice An nl.length cn, .slice Ag gl.length cg] :: F) (fun D w => K1 D w /\ Sl w D 5 a rl.length xr) | [a, b] => St w0 w (.box g2 31 #[.int .i64 0, .pointer none, .slice none 0 0, .slice none 0 0, .slice none 0 0, .slice none 0 0] :: .box g1 31 #[.int .i64 R, .pointer la, .slice Cs ns cs, .slice Ar rl.length cr, .slice An nl.length cn, .slice Ag gl.length cg] :: F) (fun D w => (K1 D w /\ Sl w D 5 a rl.length xr) /\ Sl w D 2 b nl.length xn) | [a, b, c] => St w0 w (.box g2 31 #[.int .i64 0, .pointer none, .slice none 0 0, .slice none 0 0, .slice none 0 0, .slice none 0 0] :: .box g1 31 #[.int .i64 R, .pointer la, .slice Cs ns cs, .slice Ar rl.length cr, .slice An nl.length cn, .slice Ag gl.length cg] :: F) (fun D w => ((K1 D w /\ Sl w D 5 a rl.length xr) /\ Sl w D 2 b nl.length xn) /\ Sl w D 2 c gl.length xg) | [a, b, c, _] => St w0 w (.box g2 31 #[.int .i64 0, .pointer none, .slice none 0 0, .slice none 0 0, .slice none 0 0, .slice none 0 0] :: .box g1 31 #[.int .i64 R, .pointer la, .slice Cs ns cs, a, .slice An nl.length cn, .slice Ag gl.length cg] :: F) (fun D w => ((K1 D w /\ Sl w D 5 a rl.length xr) /\ Sl w D 2 b nl.length xn) /\ Sl w D 2 c gl.length xg) | [a, b, c, _, _] => St w0 w (.box g2 31 #[.int .i64 0, .pointer none, .slice none 0 0, .slice none 0 0, .slice none 0 0, .slice none 0 0] :: .box g1 31 #[.int .i64 R, .pointer la, .slice Cs ns cs, a, b, .slice Ag gl.length cg] :: F) (fun D w => ((K1 D w /\ Sl w D 5 a rl.length xr) /\ Sl w D 2 b nl.length xn) /\ Sl w D 2 c gl.length xg) | [a, b, c, _, _, _] => St w0 w (.box g2 31 #[.int .i64 0, .pointer none, .slice none 0 0, .slice none 0 0, .slice none 0 0, .slice none 0 0] :: .box g1 31 #[.int .i64 R, .pointer la, .slice Cs ns cs, a, b, c] :: F) (fun D w => ((K1 D w /\ Sl w D 5 a rl.length xr) /\ Sl w D 2 b nl.length xn) /\ Sl w D 2 c gl.length xg) | _ => False) ?_ ⟨vF, ?_, ?_, vF, ?_, ?_, vF, ?_, ?_, vF, ?_, vF, ?_, vF, ?_, trivial⟩ ?_
 ·first | assumption | (dsimp only; assumption)
 ·refine vR 0 0 fun b__ w vs hS h1 h2 hE K hK => ?_
  rcases vs with _ | ⟨x0, vs⟩ <;> first | (exfalso; first | exact hS | (revert h1 h2; simp <;> omega); done) | ((have e3 := hE 3); (first | exact Ah rfl e3 (by kernel_rfl) ((show St w0 w (.box g2 31 #[.int .i64 0, .pointer none, .slice none 0 0, .slice none 0 0, .slice none 0 0, .slice none 0 0] :: .box g1 31 #[.int .i64 R, .pointer la, .slice Cs ns cs, .slice Ar rl.length cr, .slice An nl.length cn, .slice Ag gl.length cg] :: F) K1 from hS).shut 1 rfl 3 rfl) (hK _ rfl)))
 ·refine vX 0 fun b__ w vs hS hl hE K hK => ?_
  obtain rfl := Fl hl
  have e4 := hE 4
  have h3 : St w0 w (.box g2 31 #[.int .i64 0, .pointer none, .slice none 0 0, .slice none 0 0, .slice none 0 0, .slice none 0 0] :: .box g1 31 #[.int .i64 R, .pointer la, .slice Cs ns cs, .slice Ar rl.length cr, .slice An nl.length cn, .slice Ag gl.length cg] :: F) K1 := hS
  exact BR rfl (by kernel_rfl) (by simp only [List.map_cons, List.map_nil, e4]) (rclone_any (kr _ _ h3.ro) OR.out (by omega)) fun e w' ⟨v, he, hs⟩ => ⟨v, he, hK v w' ((h3.new hs.below (.own v 83 5 rl.length xr) (hs.own 0 rfl)).freeze 0 (by decide) rfl)⟩
 ·refine vR 0 1 fun b__ w vs hS h1 h2 hE K hK => ?_
  rcases vs with _ | ⟨x0, _ | ⟨x1, vs⟩⟩ <;> first | (exfalso; first | exact hS | (revert h1 h2; simp <;> omega); done) | ((have e6 := hE 6); (first | exact Ah rfl e6 (by kernel_rfl) ((show St w0 w (.box g2 31 #[.int .i64 0, .pointer none, .slice none 0 0, .slice none 0 0, .slice none 0 0, .slice none 0 0] :: .box g1 31 #[.int .i64 R, .pointer la, .slice Cs ns cs, .slice Ar rl.length cr, .slice An nl.length cn, .slice Ag gl.length cg] :: F) K1 from hS).shut 1 rfl 4 rfl) (hK _ rfl) | exact Ah rfl e6 (by kernel_rfl) ((show St w0 w (.box g2 31 #[.int .i64 0, .pointer none, .slice none 0 0, .slice none 0 0, .slice none 0 0, .slice none 0 0] :: .box g1 31 #[.int .i64 R, .pointer la, .slice Cs ns cs, .slice Ar rl.length cr, .slice An nl.length cn, .slice Ag gl.length cg] :: F) (fun D w => K1 D w /\ Sl w D 5 x0 rl.length xr) from hS).shut 1 rfl 4 rfl) (hK _ rfl)))
 ·refine vX 1 fun b__ w vs hS hl hE K hK => ?_
  obtain ⟨x0, rfl⟩ := Et hl
  have e7 := hE 7
  have h3 : St w0 w (.box g2 31 #[.int .i64 0, .pointer none, .slice none 0 0, .slice none 0 0, .slice none 0 0, .slice none 0 0] :: .box g1 31 #[.int .i64 R, .pointer la, .slice Cs ns cs, .slice Ar rl.length cr, .slice An nl.length cn, .slice Ag gl.length cg] :: F) (fun D w => K1 D w /\ Sl w D 5 x0 rl.length xr) := hS
  exact BR rfl (by kernel_rfl) (by simp only [List.map_cons, List.map_nil, e7]) (JB (kn _ _ h3.ro.1) ON.out (by omega)) fun e w' ⟨v, he, hs⟩ => ⟨v, he, hK v w' ((h3.new hs.below (.own v 81 2 nl.length xn) (hs.own 0 rfl)).freeze 0 (by decide) rfl)⟩
 ·refine vR 0 2 fun b__ w vs hS h1 h2 hE K hK => ?_
  rcases vs with _ | ⟨x0, _ | ⟨x1, _ | ⟨x2, vs⟩⟩⟩ <;> first | (exfalso; first | exact hS | (revert h1 h2; simp <;> omega); done) | ((have e9 := hE 9); (first | exact Ah rfl e9 (by kernel_rfl) ((show St w0 w (.box g2 31 #[.int .i64 0, .pointer none, .slice none 0 0, .slice none 0 0, .slice none 0 0, .slice none 0 0] :: .box g1 31 #[.int .i64 R, .pointer la, .slice Cs ns cs, .slice Ar rl.length cr, .slice An nl.length cn, .slice Ag gl.length cg] :: F) K1 from hS).shut 1 rfl 5 rfl) (hK _ rfl) | exact Ah rfl e9 (by kernel_rfl) ((show St w0 w (.box g2 31 #[.int .i64 0, .pointer none, .slice none 0 0, .slice none 0 0, .slice none 0 0, .slice none 0 0] :: .box g1 31 #[.int .i64 R, .pointer la, .slice Cs ns cs, .slice Ar rl.length cr, .slice An nl.length cn, .slice Ag gl.length cg] :: F) (fun D w => K1 D w /\ Sl w D 5 x0 rl.length xr) from hS).shut 1 rfl 5 rfl) (hK _ rfl) | exact Ah rfl e9 (by kernel_rfl) ((show St w0 w (.box g2 31 #[.int .i64 0, .pointer none, .slice none 0 0, .slice none 0 0, .slice none 0 0, .slice none 0 0] :: .box g1 31 #[.int .i64 R, .pointer la, .slice Cs ns cs, .slice Ar rl.length cr, .slice An nl.length cn, .slice Ag gl.length cg] :: F) (fun D w => (K1 D w /\ Sl w D 5 x0 rl.length xr) /\ Sl w D 2 x1 nl.length xn) from hS).shut 1 rfl 5 rfl) (hK _ rfl)))
 ·refine vX 2 fun b__ w vs hS hl hE K hK => ?_
  obtain ⟨x0, x1, rfl⟩ := Er hl
  have e10 := hE 10
  have h3 : St w0 w (.box g2 31 #[.int .i64 0, .pointer none, .slice none 0 0, .slice none 0 0, .slice none 0 0, .slice none 0 0] :: .box g1 31 #[.int .i64 R, .pointer la, .slice Cs ns cs, .slice Ar rl.length cr, .slice An nl.length cn, .slice Ag gl.length cg] :: F) (fun D w => (K1 D w /\ Sl w D 5 x0 rl.length xr) /\ Sl w D 2 x1 nl.length xn) := hS
  exact BR rfl (by kernel_rfl) (by simp only [List.map_cons, List.map_nil, e10]) (JB (kg _ _ h3.ro.1.1) OG.out (by omega)) fun e w' ⟨v, he, hs⟩ => ⟨v, he, hK v w' ((h3.new hs.below (.own v 81 2 gl.length xg) (hs.own 0 rfl)).freeze 0 (by decide) rfl)⟩
 ·refine vX 3 fun b__ w vs hS hl hE K hK => ?_
  obtain ⟨x0, x1, x2, rfl⟩ := Ep hl
  have e12 := hE 12
  have e5 := hE 5
  have h3 : St w0 w (.box g2 31 #[.int .i64 0, .pointer none, .slice none 0 0, .slice none 0 0, .slice none 0 0, .slice none 0 0] :: .box g1 31 #[.int .i64 R, .pointer la, .slice Cs ns cs, .slice Ar rl.length cr, .slice An nl.length cn, .slice Ag gl.length cg] :: F) (fun D w => ((K1 D w /\ Sl w D 5 x0 rl.length xr) /\ Sl w D 2 x1 nl.length xn) /\ Sl w D 2 x2 gl.length xg) := hS
  have hc := J0 (h3.ro.1.1.2)
  exact Cg rfl e12 e5 (h3.box 1 rfl) (show 3 < 6 by decide) hc.1 hc.2 (by kernel_rfl) fun w' hbx hup => hK _ w' (h3.upd 1 rfl (.box g1 31 #[.int .i64 R, .pointer la, .slice Cs ns cs, x0, .slice An nl.length cn, .slice Ag gl.length cg]) (Bn hup) ⟨(h3.holds (.box g1 31 _) (List.mem_of_getElem? (i := 1) rfl)).1, hbx⟩ fun _ e => .inl e)
 ·refine vX 4 fun b__ w vs hS hl hE K hK => ?_
  obtain ⟨x0, x1, x2, x3, rfl⟩ := IB hl
  have e13 := hE 13
  have e8 := hE 8
  have h3 : St w0 w (.box g2 31 #[.int .i64 0, .pointer none, .slice none 0 0, .slice none 0 0, .slice none 0 0, .slice none 0 0] :: .box g1 31 #[.int .i64 R, .pointer la, .slice Cs ns cs, x0, .slice An nl.length cn, .slice Ag gl.length cg] :: F) (fun D w => ((K1 D w /\ Sl w D 5 x0 rl.length xr) /\ Sl w D 2 x1 nl.length xn) /\ Sl w D 2 x2 gl.length xg) := hS
  have hc := J0 (h3.ro.1.2)
  exact Cg rfl e13 e8 (h3.box 1 rfl) (show 4 < 6 by decide) hc.1 hc.2 (by kernel_rfl) fun w' hbx hup => hK _ w' (h3.upd 1 rfl (.box g1 31 #[.int .i64 R, .pointer la, .slice Cs ns cs, x0, x1, .slice Ag gl.length cg]) (Bn hup) ⟨(h3.holds (.box g1 31 _) (List.mem_of_getElem? (i := 1) rfl)).1, hbx⟩ fun _ e => .inl e)
 ·refine vX 5 fun b__ w vs hS hl hE K hK => ?_
  obtain ⟨x0, x1, x2, x3, x4, rfl⟩ := vs_len5 hl
  have e14 := hE 14
  have e11 := hE 11
  have h3 : St w0 w (.box g2 31 #[.int .i64 0, .pointer none, .slice none 0 0, .slice none 0 0, .slice none 0 0, .slice none 0 0] :: .box g1 31 #[.int .i64 R, .pointer la, .slice Cs ns cs, x0, x1, .slice Ag gl.length cg] :: F) (fun D w => ((K1 D w /\ Sl w D 5 x0 rl.length xr) /\ Sl w D 2 x1 nl.length xn) /\ Sl w D 2 x2 gl.length xg) := hS
  have hc := J0 (h3.ro.2)
  exact Cg rfl e14 e11 (h3.box 1 rfl) (show 5 < 6 by decide) hc.1 hc.2 (by kernel_rfl) fun w' hbx hup => hK _ w' (h3.upd 1 rfl (.box g1 31 #[.int .i64 R, .pointer la, .slice Cs ns cs, x0, x1, x2]) (Bn hup) ⟨(h3.holds (.box g1 31 _) (List.mem_of_getElem? (i := 1) rfl)).1, hbx⟩ fun _ e => .inl e)
 ·intro us wz vs hS hl hT
  obtain ⟨x0, x1, x2, x3, x4, x5, rfl⟩ := vs_len6 hl
  obtain ⟨e3, e4, e5, e6, e7, e8, e9, e10, e11, e12, e13, e14, -⟩ := hT
  clear hl
  simp only [AC, Act.put, zz, ze]
  have hS2 : St w0 wz (.box g2 31 #[.int .i64 0, .pointer none, .slice none 0 0, .slice none 0 0, .slice none 0 0, .slice none 0 0] :: .box g1 31 #[.int .i64 R, .pointer la, .slice Cs ns cs, x0, x1, x2] :: F) (fun D w => ((K1 D w /\ Sl w D 5 x0 rl.length xr) /\ Sl w D 2 x1 nl.length xn) /\ Sl w D 2 x2 gl.length xg) := hS
  clear hS
  have hS := hS2
  clear hS2
  obtain ⟨A0, c0, rfl, _, _⟩ := hS.ro.1.1.2.shape
  obtain ⟨A1, c1, rfl, _, _⟩ := hS.ro.1.2.shape
  obtain ⟨A2, c2, rfl, _, _⟩ := hS.ro.2.shape
  go_wp2_with (first
   | ((with_reducible refine qK ?_); refine qL hS Tryz.underlying31 ?_)
   | ((with_reducible refine qM ?_); (first | refine qS hS ?_ | refine qT hS ?_); clear hS; intro w_ hS; (try simp only [Act.put, Act.eval, zz, Value.cells] at hS)))
  refine BG Tryz.results37 rfl (hS.box 0 rfl) Tryz.underlying31 rfl (by kernel_rfl) rfl ?_
  exact ⟨_, rfl, (hS.sub ((List.sublist_cons_self _ _).trans (List.sublist_cons_self _ _))).mono (KS.out.and Dn) fun D w h => ⟨k0 _ _ h.1.1.1, _, _, _, _, _, rfl, kh _ _ h.1.1.1, ks _ _ h.1.1.1, ⟨xr, h.1.1.2, kr2 _ _ h.1.1.1⟩, ⟨xn, h.1.2, kn2 _ _ h.1.1.1⟩, xg, h.2, kg2 _ _ h.1.1.1⟩⟩
end
section
open Go.RowKit
attribute [local go_sem ↓] Go.wp_at_zero Go.wp_at_succ
set_option maxRecDepth 20000
set_option exponentiation.threshold 5000
theorem rolesN_lt (r : Nat) : D7 r < 2 ^ (r + 1) := by
 have h1 : 2 ^ (r + 1) - 1 < 2 ^ (r + 1) := by have := Nat.two_pow_pos (r + 1); omega
 unfold D7 del
 split
 ·exact Nat.xor_lt_two_pow h1 (Nat.pow_lt_pow_right (by decide) (by simp))
 ·exact h1
theorem has_roles {r : Nat} {i : Int} (h : B5 (D7 r) i = true) : ∃ t : Nat, i = (t : Int) /\ t <= r := by
 unfold B5 at h
 simp only [Bool.and_eq_true, decide_eq_true_eq] at h
 refine ⟨i.toNat, by omega, ?_⟩
 rcases Nat.lt_or_ge i.toNat (r + 1) with h1 | h1
 ·omega
 ·have := Nat.testBit_lt_two_pow (Nat.lt_of_lt_of_le (rolesN_lt r) (Nat.pow_le_pow_right (by decide) h1))
  rw [this] at h; cases h.2
theorem checkE_known {p : Ac} {L : List (Nat × Nat)} (h : checkE p = 0) (hl : p.links = some L) : (1 <= p.roles /\ p.roles <= 63) /\ DN p L (D7 p.roles.toNat) = true := by
 unfold checkE at h
 rw [hl] at h
 dsimp only at h
 split at h
 ·cases h
 ·rename_i h1
  split at h
  ·cases h
  ·split at h
   ·cases h
   ·rename_i h2
    exact ⟨by omega, by simpa using h2⟩
theorem target_nat {p : Ac} {L : List (Nat × Nat)} (h : checkE p = 0) (hl : p.links = some L) {r : AP} (hr : r ∈ p.rules) : ∃ t : Nat, r.target = (t : Int) /\ t < 64 := by
 obtain ⟨h1, h2⟩ := checkE_known h hl
 unfold DN at h2
 simp only [Bool.and_eq_true] at h2
 obtain ⟨t, e, ht⟩ := has_roles (List.all_eq_true.1 h2.2.2.1 r hr)
 exact ⟨t, e, by omega⟩
theorem cnt_lt {α : Type} {p q : α -> Bool} (h : ∀ x, q x = true -> p x = true) {r : α} (hp : p r = true) (hq : q r = false) : ∀ {l : List α}, r ∈ l -> (l.filter q).length < (l.filter p).length
 | x :: l, hr => by
  have hle : ∀ l : List α, (l.filter q).length <= (l.filter p).length := fun l => by
   induction l with
   | nil => simp
   | cons y l ih =>
    rw [List.filter_cons, List.filter_cons]
    by_cases hy : q y = true
    ·rw [if_pos hy, if_pos (h y hy)]; simpa using ih
    ·rw [if_neg hy]; split
     ·simp; omega
     ·exact ih
  rcases List.mem_cons.1 hr with rfl | hr
  ·rw [List.filter_cons, List.filter_cons, if_neg (by rw [hq]; decide), if_pos hp]
   have := hle l
   simp; omega
  ·have ih := cnt_lt h hp hq hr
   rw [List.filter_cons, List.filter_cons]
   by_cases hy : q x = true
   ·rw [if_pos hy, if_pos (h x hy)]; simpa using ih
   ·rw [if_neg hy]; split
    ·simp; omega
    ·exact ih
theorem EV {L : List (Nat × Nat)} {s i : Nat} : (closM L s).testBit i = true ↔ ∃ r, r < 64 /\ 1 <= r /\ s.testBit r = true /\ (junM L r).testBit i = true := by
 unfold closM; exact Fm
theorem CI.clos {L : List (Nat × Nat)} {a b : Nat} (h : CI a b) : CI (closM L a) (closM L b) := fun i hi => by
 obtain ⟨r, h1, h2, h3, h4⟩ := EV.1 hi
 exact EV.2 ⟨r, h1, h2, h r h3, h4⟩
theorem Dc {a b : Nat} : (a &&& b == a) = true ↔ CI a b := by
 rw [beq_iff_eq]
 constructor
 ·intro h i hi
  rw [<- h, Nat.testBit_and, Bool.and_eq_true] at hi
  exact hi.2
 ·intro h
  refine B3 fun i => ?_
  rw [Nat.testBit_and, Bool.and_eq_true]
  exact ⟨fun h => h.1, fun hi => ⟨hi, h i hi⟩⟩
structure UCl (L : List (Nat × Nat)) (p : Ac) (T : Nat) : Prop where
 start : CI p.start T
 rules : ∀ r ∈ p.rules, r.revoke = false -> (r.yes &&& closM L T == r.yes) = true -> B5 T r.target = true
def ULow (L : List (Nat × Nat)) (p : Ac) (N : Nat) : Prop := CI p.start N /\ ∀ T, UCl L p T -> CI N T
def Gj (L : List (Nat × Nat)) (p : Ac) (N : Nat) : Prop := UCl L p N /\ ∀ T, UCl L p T -> CI N T
open Classical in
noncomputable def uppM (L : List (Nat × Nat)) (p : Ac) : Nat := if h : ∃ N, Gj L p N then Classical.choose h else 0
theorem Gj.eq {L : List (Nat × Nat)} {p : Ac} {N : Nat} (h : Gj L p N) : N = uppM L p := by
 have hx : ∃ N, Gj L p N := ⟨N, h⟩
 have k : Gj L p (uppM L p) := by unfold uppM; rw [dif_pos hx]; exact Classical.choose_spec hx
 exact (h.2 _ k.1).anti (k.2 _ h.1)
theorem ULow.add {L : List (Nat × Nat)} {p : Ac} {N t : Nat} (h : ULow L p N) {r : AP} (hr : r ∈ p.rules) (h1 : r.revoke = false) (h2 : (r.yes &&& closM L N == r.yes) = true) (ht : r.target = (t : Int)) : ULow L p (N ||| 2 ^ t) :=
 ⟨h.1.trans (CI.left _ _), fun T hT => (h.2 T hT).or fun i hi => by
  have e : i = t := Eu.1 hi
  subst e
  have := hT.rules r hr h1 (Dc.2 ((Dc.1 h2).trans (h.2 T hT).clos))
  rw [ht] at this
  unfold B5 at this
  simp only [Bool.and_eq_true] at this
  simpa using this.2⟩
def H8 (N : Nat) (l : List AP) : Nat := (l.filter fun r => !B5 N r.target).length
theorem lacks_lt {N t : Nat} {l : List AP} {r : AP} (hr : r ∈ l) (ht : r.target = (t : Int)) (hn : B5 N r.target = false) : H8 (N ||| 2 ^ t) l < H8 N l := by
 refine cnt_lt (r := r) (fun x hx => ?_) (by rw [hn]; rfl) ?_ hr
 ·cases hb : B5 N x.target with
  | false => rfl
  | true => rw [(CI.left N (2 ^ t)).has hb] at hx; cases hx
 ·rw [ht]; simp [B5]
noncomputable def uslN (C : Nat) (l : List AP) (j : Nat) : List Int := ((List.range j).filter fun k : Nat => !(l.getD k AL).revoke && !((l.getD k AL).yes &&& C == (l.getD k AL).yes)).map fun k : Nat => (k : Int)
theorem uslN_step {C : Nat} {l : List AP} {j : Nat} {r : AP} (h : l[j]? = some r) : uslN C l (j + 1) = if (!r.revoke && !(r.yes &&& C == r.yes)) = true then uslN C l j ++ [(j : Int)] else uslN C l j := by
 unfold uslN
 have e : l.getD j AL = r := by rw [List.getD_eq_getElem?_getD, h]; rfl
 rw [List.range_succ, List.filter_append, List.map_append]
 by_cases e2 : (!r.revoke && !(r.yes &&& C == r.yes)) = true
 ·rw [if_pos e2, List.filter_cons, e, if_pos e2]; rfl
 ·rw [if_neg e2, List.filter_cons, e, if_neg e2]; simp
noncomputable def useN (p : Ac) : List Int := if checkE p = 0 then (match p.links with
 | none => []
 | some L => uslN (closM L (uppM L p)) p.rules p.rules.length) else []
structure URnd (L : List (Nat × Nat)) (p : Ac) (B N : Nat) (b : Bool) (j : Nat) : Prop where
 low : ULow L p N
 yes : b = true -> H8 N p.rules < H8 B p.rules
 no : b = false -> N = B /\ ∀ r ∈ p.rules.take j, r.revoke = false -> (r.yes &&& closM L N == r.yes) = true -> B5 N r.target = true
theorem URnd.skip {L : List (Nat × Nat)} {p : Ac} {B N : Nat} {b : Bool} {j : Nat} (h : URnd L p B N b j) {r : AP} (hj : p.rules[j]? = some r) (h1 : r.revoke = true \/ B5 N r.target = true \/ (r.yes &&& closM L N == r.yes) = false) : URnd L p B N b (j + 1) :=
 ⟨h.low, h.yes, fun e => ⟨(h.no e).1, fun x hx a c => (Ee hj hx).elim (fun hx => (h.no e).2 x hx a c) fun e2 => by
  subst e2
  rcases h1 with h1 | h1 | h1
  ·rw [h1] at a; cases a
  ·exact h1
  ·rw [h1] at c; cases c⟩⟩
theorem URnd.add {L : List (Nat × Nat)} {p : Ac} {B N t : Nat} {b : Bool} {j : Nat} (h : URnd L p B N b j) {r : AP} (hj : p.rules[j]? = some r) (h1 : r.revoke = false) (h2 : B5 N r.target = false) (h3 : (r.yes &&& closM L N == r.yes) = true) (ht : r.target = (t : Int)) : URnd L p B (N ||| 2 ^ t) true (j + 1) :=
 ⟨h.low.add (List.mem_of_getElem? hj) h1 h3 ht, fun _ => by
  have h4 := lacks_lt (List.mem_of_getElem? hj) ht h2
  cases b with
  | true => exact Nat.lt_trans h4 (h.yes rfl)
  | false => rw [<- (h.no rfl).1]; exact h4, fun e => by cases e⟩
end
section
open Go.RowKit
set_option exponentiation.threshold 5000
def Dt (N : Nat) (r : AP) : Nat := if r.revoke then del N r.target else Cx N r.target
noncomputable def closP (p : Ac) (N : Nat) : Nat := match p.links with
 | some L => closM L N
 | none => 0
noncomputable def stepB (p : Ac) (N : Nat) (r : AP) : Bool := !(((B5 N r.target != r.revoke) || (!r.revoke && !B9 (r.yes, r.no) (closP p N))) || !goodB p (Dt N r))
noncomputable def stepM (p : Ac) (N : Nat) (k : Int) : Option Nat :=
 if 0 <= k /\ k < p.rules.length /\ p.links.isSome = true then (if stepB p N (p.rules.getD k.toNat AL) = true then some (Dt N (p.rules.getD k.toNat AL)) else none) else none
theorem IU {p : Ac} {N : Nat} {k : Int} (h : ¬ (0 <= k /\ k < p.rules.length /\ p.links.isSome = true)) : stepM p N k = none := if_neg h
theorem EZ {p : Ac} {L : List (Nat × Nat)} {N j : Nat} (hl : p.links = some L) (hj : j < p.rules.length) : stepM p N (j : Nat) = if stepB p N (p.rules.getD j AL) = true then some (Dt N (p.rules.getD j AL)) else none := by
 unfold stepM
 rw [if_pos ⟨by omega, by omega, by rw [hl]; rfl⟩, Int.toNat_natCast]
inductive Rch (p : Ac) : Nat -> Prop
 | start : Rch p p.start
 | step {N M : Nat} {k : Int} : Rch p N -> stepM p N k = some M -> Rch p M
theorem sl_pos {w : World} {D : Nat -> Prop} {size n c : Nat} {A : Option Addr} {xs : List Value} (h : Sl w D size (.slice A n c) n xs) (hn : 0 < n) : ∃ b o, A = some ⟨b, o, none⟩ := by
 obtain ⟨_, A', c', e, _, _, h3⟩ := h
 injection e with e _ _
 subst e
 obtain ⟨b, o, e, _⟩ := h3 hn
 exact ⟨b, o, e⟩
end
section
open Go.RowKit
attribute [local go_sem ↓] Go.wp_at_zero Go.wp_at_succ
set_option maxRecDepth 20000
theorem DM {P : Program} {o : Oper} {a : Act} {w : World} {K : Act -> World -> Prop} {Q : Exit -> Act -> World -> Prop} {t e : TypeId} {x : Operand} {n c : Nat} {A : Option Addr} (ho : o.op = .call { callee := .builtin .len, args := #[x], argTypes := #[t] }) (hx : a.eval x = .slice A n c) (h : P.underlying t = some (.slice e)) (hk : K (a.put o.dst (.int .i64 (n : Nat))) w) : o.wp P a w K Q := by
 have hr : (Builtin.len_ #[t] o.type #[.slice A n c]).run P w = .ok (.int .i64 (n : Nat)) w := by
  simp [Builtin.len_, run_underlying h]; rfl
 unfold Oper.wp execOp
 simp only [ho, resolve, invoke, builtin, Sem.run_bind, Sem.run_pure, Result.andThen_ok, List.map_toArray, List.map_cons, List.map_nil, hx, hr]
 exact hk
end
section
open Go.RowKit
attribute [local go_sem ↓] Go.wp_at_zero Go.wp_at_succ
set_option maxRecDepth 20000
set_option exponentiation.threshold 5000
theorem perm_at : ∀ (F : List Aj) (i : Nat) (f g : Aj), F[i]? = some f -> (g :: F.eraseIdx i).Perm (F.set i g)
 | [], i, f, g, h => by simp at h
 | x :: F, 0, f, g, h => List.Perm.refl _
 | x :: F, i + 1, f, g, h => (List.Perm.swap x g _).trans ((perm_at F i f g (by simpa using h)).cons x)
theorem set_sameF : ∀ (F : List Aj) (i : Nat) (f : Aj), F[i]? = some f -> F.set i f = F
 | [], i, f, h => rfl
 | x :: F, 0, f, h => by simp at h; subst h; rfl
 | x :: F, i + 1, f, h => by rw [List.set_cons_succ, set_sameF F i f (by simpa using h)]
theorem St.front {w0 w : World} {F : List Aj} {K : (Nat -> Prop) -> World -> Prop} {i : Nat} {f : Aj} (h : St w0 w F K) (hi : F[i]? = some f) : St w0 w (f :: F.eraseIdx i) K := h.perm (by
 have h1 := perm_at F i f f hi
 rwa [set_sameF F i f hi] at h1)
section
variable {P : Program} {ops : Array Oper} {rest : List Oper} {o : Oper} {a : Act} {Q : Exit -> Act -> World -> Prop} {w : World}
theorem Gz (hg : Region.wanted o (yielded ops a.tmps) = true) (t t2 : TypeId) (x y : Operand) (ho : o.op = .binOp .and t x y t2) (X Y : Int) (hx : a.eval x = .int .u8 X) (hy : a.eval y = .int .u8 Y) (h1 : 0 <= X /\ X < 256) (h2 : 0 <= Y /\ Y < 256)
  (hk : ∀ z : Nat, z < 256 -> Hid (z = X.toNat &&& Y.toNat) -> wpList P ops Q rest (a.put o.dst (.int .u8 (z : Nat))) w) : wpList P ops Q (o :: rest) a w := by
 refine BigFrame.wpList_want hg fun _ hK => AU (v := .int .u8 ((X.toNat &&& Y.toNat : Nat) : Int)) ho hx hy rfl ?_ (hK _ _ (hk _ (Nat.lt_of_le_of_lt Nat.and_le_left (by omega)) (Lib.hid rfl)))
 go_simp
 exact u8_and X Y h1.1 h1.2 h2.1 h2.2
theorem st_andnot8 (hg : Region.wanted o (yielded ops a.tmps) = true) (t t2 : TypeId) (x y : Operand) (ho : o.op = .binOp .andNot t x y t2) (X Y : Int) (hx : a.eval x = .int .u8 X) (hy : a.eval y = .int .u8 Y) (h1 : 0 <= X /\ X < 256) (h2 : 0 <= Y /\ Y < 256)
  (hk : ∀ z : Nat, z < 256 -> Hid (z = X.toNat &&& (255 - Y.toNat)) -> wpList P ops Q rest (a.put o.dst (.int .u8 (z : Nat))) w) : wpList P ops Q (o :: rest) a w := by
 refine BigFrame.wpList_want hg fun _ hK => AU (v := .int .u8 ((X.toNat &&& (255 - Y.toNat) : Nat) : Int)) ho hx hy rfl ?_ (hK _ _ (hk _ (Nat.lt_of_le_of_lt Nat.and_le_left (by omega)) (Lib.hid rfl)))
 go_simp
 exact u8_andNot X Y h1.1 h1.2 h2.1 h2.2
end
theorem and_not8 {a b : Nat} (ha : a < 256) : a &&& (b &&& (255 - a)) = 0 := by
 apply Nat.eq_of_testBit_eq
 intro i
 rw [Nat.testBit_and, Nat.testBit_and, Nat.zero_testBit, show 255 - a = 2 ^ 8 - (a + 1) by omega, Nat.testBit_two_pow_sub_succ (by omega)]
 cases a.testBit i <;> cases b.testBit i <;> simp
theorem JI {a m : Nat} : a &&& m &&& m = a &&& m := by rw [Nat.and_assoc, Nat.and_self]
theorem I2 (y n m : Nat) (hm : m < 256) (w0 : World) :
  Calls Tryz.prog 90 #[.int .i64 (y : Nat), .int .i64 (n : Nat), .int .u8 (m : Nat)] w0 (AO (fun x _ => ∃ a b : Nat, x = .agg #[.int .u64 (a : Nat), .int .u64 (b : Nat)] /\ a &&& m = a /\ b &&& m = b /\ a &&& b = 0 /\ a < 256 /\ b < 256) w0) := by
 have hS : St w0 w0 [] fun _ _ => True := St.start0
 go_enter Tryz.func90, Tryz.ntmps90
 go_wp2_with (first
  | ((with_reducible refine qA 6 ?_); refine qa hS #[.int .u64 0, .int .u64 0] ?_; clear hS; intro g6 w_ hS)
  | ((with_reducible refine qA 17 ?_); refine Gz rfl _ _ _ _ rfl _ _ rfl rfl (by omega) (by omega) ?_; intro z17 h17 _)
  | ((with_reducible refine qA 19 ?_); refine Gz rfl _ _ _ _ rfl _ _ rfl rfl (by omega) (by omega) ?_; intro z19 h19 e19)
  | ((with_reducible refine qA 28 ?_); refine Gz rfl _ _ _ _ rfl _ _ rfl rfl (by omega) (by omega) ?_; intro z28 h28 _)
  | ((with_reducible refine qA 30 ?_); refine Gz rfl _ _ _ _ rfl _ _ rfl rfl (by omega) (by omega) ?_; intro z30 h30 e30)
  | ((with_reducible refine qA 32 ?_); refine st_andnot8 rfl _ _ _ _ rfl _ _ rfl rfl (by omega) (by omega) ?_; intro z32 h32 e32)
  | ((with_reducible refine qM ?_); (first | refine qS hS ?_ | refine qT hS ?_); clear hS; intro w_ hS; (try simp only [Act.put, Act.eval, zz, Value.cells] at hS)))
 refine BG Tryz.results90 rfl (hS.box 0 rfl) Tryz.underlying152 rfl (by kernel_rfl) rfl ?_
 have e1 := e19.out
 have e2 := e30.out
 have e3 := e32.out
 simp only [Int.toNat_natCast] at e1 e2 e3
 refine AO.mk ⟨z19, z32, rfl, ?_, ?_, ?_, h19, h32⟩ hS.below
 ·rw [e1, JI]
 ·rw [e3, e2, Nat.and_assoc, Nat.and_comm (255 - z19), <- Nat.and_assoc, JI]
 ·rw [e3]; exact and_not8 h19
theorem Sl.byteAt {w : World} {D : Nat -> Prop} {A : Option Addr} {c : Nat} {l : List Nat} (h : Sl w D 1 (.slice A l.length c) l.length (G1 l)) {k : Nat} (hk : k < l.length) : ∃ b o, A = some ⟨b, o, none⟩ /\ w.cell? ⟨b, o + k, none⟩ = some (.int .u8 (l.getD k 0 : Nat)) := by
 obtain ⟨b, o, h1, _, _, h2⟩ := h.byte hk
 exact ⟨b, o, h1, h2 k hk⟩
theorem next_any {w0 w : World} {F : List Aj} {K : (Nat -> Prop) -> World -> Prop} {q c at_ : Nat} {A : Option Addr} {l : List Nat} (hl : ∀ x ∈ l, x < 256) (ha : at_ < 1000000) (hS : St w0 w (.box q 146 #[.slice A l.length c, .int .i64 (at_ : Nat)] :: F) K) (kp : ∀ D w, K D w -> Sl w D 1 (.slice A l.length c) l.length (G1 l)) :
  Calls Tryz.prog 88 #[.pointer (some ⟨q, 0, none⟩)] w fun e w' => ∃ b : Nat, b < 256 /\ e = .returned (.int .i64 (b : Nat)) /\ St w0 w' (.box q 146 #[.slice A l.length c, .int .i64 ((at_ + 1 : Nat) : Int)] :: F) K := by
 go_enter Tryz.func88, Tryz.ntmps88
 go_wp2_with (first
  | ((with_reducible refine qK ?_); refine qC hS ?_)
  | ((with_reducible refine qM ?_); (first | refine qS hS ?_ | refine qT hS ?_); clear hS; intro w_ hS; (try simp only [Act.put, Act.eval, zz, Value.cells] at hS)))
 obtain ⟨bo, hbo⟩ : ∃ bo : Bool, decide (((at_ + 1 : Nat) : Int) > (l.length : Nat)) = bo := ⟨_, rfl⟩
 have HBO := Lib.hid hbo
 clear hbo
 refine BF [.q q 0, .q q 0, .q q 1, .n ((at_ + 1 : Nat) : Int), .q q 0, .q q 0, .q q 0, .i (.slice A l.length c), .n (l.length : Nat), .i (.bool bo)] ⟨uM, uN, uF, uC (h := fun w hW hN => (hS.ext hW).shut 0 rfl 1 rfl), uM, uN, uF, uC (h := fun w hW hN => (hS.ext hW).shut 0 rfl 0 rfl), ?_, uB (h := fun w hW hN => run_gtB HBO.out), trivial⟩ ?_
 ·refine uT fun b__ w hW hE K hK => ?_
  have e17 := hE 17
  exact DM rfl e17 Tryz.underlying22 (hK _ _ rfl (Below.refl _ _))
 ·intro vs wz hW hT
  obtain ⟨e10, e11, e12, e13, e14, e15, e16, e17, e18, e19, -⟩ := hT
  simp only [AC, Act.put, zz, ze]
  replace hS := hS.ext hW
  clear hW e10 e11 e12 e13 e14 e15 e16 e17 e18
  rw [e19]
  clear e19
  generalize vs 10 = s10, vs 11 = s11, vs 12 = s12, vs 13 = s13, vs 14 = s14, vs 15 = s15, vs 16 = s16, vs 17 = s17, vs 18 = s18
  cases bo with
  | true =>
   go_wp2_with fail
   go_ret
   exact ⟨0, by decide, rfl, hS⟩
  | false =>
   have hlt : at_ < l.length := by have := HBO.out; simp at this; omega
   obtain ⟨b, o, rfl, hb⟩ := (kp _ _ hS.ro).byteAt hlt
   have hB : l.getD at_ 0 < 256 := by rw [List.getD_eq_getElem?_getD, List.getElem?_eq_getElem hlt]; exact hl _ (List.getElem_mem hlt)
   have hk2 : ∀ D w, K D w -> w.cell? ⟨b, o + at_, none⟩ = some (.int .u8 (l.getD at_ 0 : Nat)) := fun D w h => by
    obtain ⟨b', o', e, h2⟩ := (kp D w h).byteAt hlt
    injection e with e
    injection e with e1 e2
    subst e1; subst e2
    exact h2
   clear hb
   generalize l.getD at_ 0 = x at *
   go_wp2_with fail
   refine BF [.q q 0, .q q 0, .q q 0, .i (.slice (some ⟨b, o, none⟩) l.length c), .q q 0, .q q 0, .q q 1, .n ((at_ + 1 : Nat) : Int), .n (at_ : Nat), .q b (o + (at_) * 1), .i (.int .u8 (x : Nat)), .n (x : Nat), .n (x : Nat)] ⟨uM, uN, uF, uC (h := fun w hW hN => (hS.ext hW).shut 0 rfl 0 rfl), uM, uN, uF, uC (h := fun w hW hN => (hS.ext hW).shut 0 rfl 1 rfl), uB (h := fun w hW hN => by rw [CX (by omega) (by omega)]; congr 2; omega), uI (h := fun w hW hN => AA (m := at_) Tryz.underlying22 (by kernel_rfl) (by omega) (by omega)), uC (h := fun w hW hN => by rw [Nat.mul_one]; exact hk2 _ _ (hS.ext hW).ro), uE (h := fun w hW hN => by go_simp; exact IntWalk.i64_in _ (by omega)), uA, trivial⟩ ?_
   ·intro vs wz hW hT
    obtain ⟨e20, e21, e22, e23, e24, e25, e26, e27, e28, e29, e30, e31, e2, -⟩ := hT
    simp only [AC, Act.put, zz, ze]
    replace hS := hS.ext hW
    rw [e2]
    clear hW
    go_wp2_with fail
    go_ret
    exact ⟨x, hB, rfl, hS⟩
end
section
open Go.RowKit
attribute [local go_sem ↓] Go.wp_at_zero Go.wp_at_succ
set_option maxRecDepth 20000
set_option exponentiation.threshold 5000
theorem st_and64 {P : Program} {ops : Array Oper} {rest : List Oper} {o : Oper} {a : Act} {Q : Exit -> Act -> World -> Prop} {w : World} (hg : Region.wanted o (yielded ops a.tmps) = true) (t t2 : TypeId) (x y : Operand) (ho : o.op = .binOp .and t x y t2) (X Y : Nat) (hx : a.eval x = .int .u64 (X : Nat)) (hy : a.eval y = .int .u64 (Y : Nat)) (h1 : X < Bu) (h2 : Y < Bu)
  (hk : wpList P ops Q rest (a.put o.dst (.int .u64 ((X &&& Y : Nat) : Int))) w) : wpList P ops Q (o :: rest) a w :=
 BigFrame.wpList_want hg fun _ hK => AU ho hx hy rfl (run_and64 h1 h2) (hK _ _ hk)
theorem G6 {y n s : Nat} (hy : y < Bu) (hn : n < Bu) (hs : s < Bu) (w0 : World) : Calls Tryz.prog 91 #[.agg #[.int .u64 (y : Nat), .int .u64 (n : Nat)], .int .u64 (s : Nat)] w0 (AO (fun x _ => x = .bool (B9 (y, n) s)) w0) := by
 have hS : St w0 w0 [] fun _ _ => True := St.start0
 have e : B9 (y, n) s = (decide ((s &&& y : Nat) = y) && decide ((s &&& n : Nat) = 0)) := by
  unfold B9
  rw [Nat.and_comm s y, Nat.and_comm s n]
  generalize y &&& s = a
  generalize n &&& s = b
  by_cases h1 : a = y <;> by_cases h2 : b = 0 <;> simp [h1, h2]
 rw [e]
 clear e
 go_enter Tryz.func91, Tryz.ntmps91
 go_wp2_with (first
  | ((with_reducible refine qA 2 ?_); refine AE hS rfl _ _ rfl (.agg #[.int .u64 (y : Nat), .int .u64 (n : Nat)]) _ rfl rfl ?_; clear hS; intro g2 w_ hS; (try simp only [Act.put, Act.eval, zz, Value.cells] at hS))
  | ((with_reducible refine qK ?_); refine qC hS ?_)
  | ((with_reducible refine qb .and ?_); refine st_and64 rfl _ _ _ _ rfl _ _ rfl rfl (by assumption) (by assumption) ?_)
  | ((with_reducible refine qB ?_); refine qc ?_ ?_ <;> intro h_ <;> go_prune))
 all_goals (go_ret; refine AO.mk ?_ hS.below; congr 1; simp_all; try omega)
theorem rsome_any {w0 : World} {D : Nat -> Prop} {v : Value} {l : List (Nat × Nat)} {s : Nat} (h : Ch w0 D v l) (hsm : Small l) (hs : s < Bu) : Calls Tryz.prog 100 #[v, .int .u64 (s : Nat)] w0 (AO (fun x _ => x = .bool (l.any fun z => B9 z s)) w0) := by
 obtain ⟨A, c, rfl, _, _⟩ := h.shape
 obtain ⟨K, k1, hS⟩ : ∃ K : (Nat -> Prop) -> World -> Prop, (∀ D w, K D w -> Sl w D 2 (.slice A l.length c) l.length (Bv l)) /\ St w0 w0 [] K := ⟨_, fun _ _ h => h, St.start (At (by decide)) h⟩
 have HSm := Lib.hid hsm
 clear h hsm
 go_enter Tryz.func100, Tryz.ntmps100
 go_wp2_with fail
 go_loopw [9] (fun i wr => ∃ j : Nat, i = .int .i64 (j : Nat) /\ j <= l.length /\ Hid ((l.take j).any (fun z => B9 z s) = false) /\ St w0 wr [] K) (fun i _ => l.length - (intOf i).toNat)
 case atStart => exact ⟨0, rfl, by omega, Lib.hid (by simp), hS⟩
 case round =>
  clear hS
  obtain ⟨j, rfl, hj, HN, hS⟩ := hrel
  by_cases hlj : j < l.length
  ·obtain ⟨f0, f1⟩ := rcells_at l j hlj
   have hM : l.getD j (0, 0) ∈ l := by rw [List.getD_eq_getElem?_getD, List.getElem?_eq_getElem hlj]; exact List.getElem_mem hlj
   have hz := HSm.out _ hM
   have HT : Hid ((l.take (j + 1)).any (fun z => B9 z s) = B9 (l.getD j (0, 0)) s) := Lib.hid (by rw [Fn l j (0, 0) hlj, List.any_append, HN.out]; simp)
   have HB : Hid (B9 (l.getD j (0, 0)) s = true -> l.any (fun z => B9 z s) = true) := Lib.hid fun h => List.any_eq_true.2 ⟨_, hM, h⟩
   clear hM
   generalize l.getD j (0, 0) = z at *
   obtain ⟨y, n⟩ := z
   dsimp only at f0 f1 hz
   have HH := Lib.hid (fun w => G6 hz.1 hz.2 hs w)
   cases hb : B9 (y, n) s with
   | true =>
    have e := HB.out hb
    rw [hb] at HH
    clear hb HB HT HN
    go_wp2_with (first | ((with_reducible refine qB ?_); refine qc ?_ ?_ <;> intro h_ <;> go_prune) | ((with_reducible refine qI ?_); refine qj hS Tryz.underlying35 ?_; intro b_ j_ hc0_ hc1_) | ((with_reducible refine qA 6 ?_); refine Bi hS rfl _ rfl (by kernel_rfl) ?_; clear hS; intro g6 w_ hS; (try simp only [Act.put, Act.eval, zz, Value.cells] at hS)) | ((with_reducible refine qM ?_); (first | refine qS hS ?_ | refine qT hS ?_); clear hS; intro w_ hS; (try simp only [Act.put, Act.eval, zz, Value.cells] at hS)) | ((with_reducible refine qK ?_); refine qL hS Tryz.underlying152 ?_) | (go_at_call 91; refine (HH.out _).mono ?_; rintro r_ w_ ⟨_, rfl, rfl, hb_⟩; replace hS := hS.ext hb_; clear hb_))
    go_ret
    exact AO.mk (show Value.bool true = .bool (l.any fun z => B9 z s) by rw [e]) hS.below
   | false =>
    rw [hb] at HH HT
    clear hb HB HN
    go_wp2_with (first | ((with_reducible refine qB ?_); refine qc ?_ ?_ <;> intro h_ <;> go_prune) | ((with_reducible refine qI ?_); refine qj hS Tryz.underlying35 ?_; intro b_ j_ hc0_ hc1_) | ((with_reducible refine qA 6 ?_); refine Bi hS rfl _ rfl (by kernel_rfl) ?_; clear hS; intro g6 w_ hS; (try simp only [Act.put, Act.eval, zz, Value.cells] at hS)) | ((with_reducible refine qM ?_); (first | refine qS hS ?_ | refine qT hS ?_); clear hS; intro w_ hS; (try simp only [Act.put, Act.eval, zz, Value.cells] at hS)) | ((with_reducible refine qK ?_); refine qL hS Tryz.underlying152 ?_) | (go_at_call 91; refine (HH.out _).mono ?_; rintro r_ w_ ⟨_, rfl, rfl, hb_⟩; replace hS := hS.ext hb_; clear hb_))
    exact ⟨⟨j + 1, by go_num, hlj, HT, hS.sub (List.nil_sublist _)⟩, by simp [intOf]; omega⟩
  ·obtain rfl : l.length = j := by omega
   have e := HN.out
   rw [List.take_length] at e
   go_wp2_with (first | ((with_reducible refine qB ?_); refine qc ?_ ?_ <;> intro h_ <;> go_prune))
   go_ret
   refine AO.mk ?_ hS.below
   rfl
theorem RLinkP.some2 {w0 w' : World} {pv : Value} {L : List (Nat × Nat)} {x y : Nat} {e : Ending} (h : RLinkP w0 pv L (x : Nat) (y : Nat) e w') (ht : twoR (x : Nat) (y : Nat)) :
  ((x, y) ∈ L /\ e = .returned (.tuple #[pv, .int .i64 5]) /\ Below w0.heap.size w0 w') \/ ((x, y) ∉ L /\ TC L y x /\ e = .returned (.tuple #[pv, .int .i64 16]) /\ Below w0.heap.size w0 w') \/
   ((x, y) ∉ L /\ ¬ TC L y x /\ ∃ v, e = .returned (.tuple #[v, .int .i64 0]) /\ St w0 w' [.own v 159 2 (L.length + 1) (Af (ins L (x, y)))] fun _ _ => True) := by
 rcases h with ⟨h, _⟩ | ⟨a, b, h1, h2, _, _, _, h⟩
 ·exact absurd ht h
 ·obtain rfl : x = a := by omega
  obtain rfl : y = b := by omega
  exact h
def InRol (R : Nat) (L : List (Nat × Nat)) : Prop := ∀ z ∈ L, 1 <= z.1 /\ z.1 < z.2 /\ z.2 <= R
theorem rlink_st {w0 w : World} {F : List Aj} {K : (Nat -> Prop) -> World -> Prop} {pv : Value} {L : List (Nat × Nat)} {x y R : Nat} (hH : FI L) (hR : InRol R L) (h1 : 1 <= x) (h2 : x < y) (h3 : y <= R) (h4 : R < 64) (hl : L.length <= 1000) (hS : St w0 w F K) (kp : ∀ D w, K D w -> Sl w D 2 pv L.length (Af L)) :
  Calls Tryz.prog 89 #[pv, .int .i64 (x : Nat), .int .i64 (y : Nat)] w fun e w' => ∃ (v : Value) (z : Int) (L' : List (Nat × Nat)), e = .returned (.tuple #[v, .int .i64 z]) /\ FI L' /\ InRol R L' /\ L'.length <= L.length + 1 /\ St w0 w' F fun D w => K D w /\ Sl w D 2 v L'.length (Af L') := by
 have KS := hS.stable
 refine (rlink_any (kp _ _ hS.ro) hH.inr (by omega) x y).mono ?_
 intro e w' h
 have hsame : ∀ z : Int, e = .returned (.tuple #[pv, .int .i64 z]) -> Below w.heap.size w w' -> ∃ (v : Value) (z : Int) (L' : List (Nat × Nat)), e = .returned (.tuple #[v, .int .i64 z]) /\ FI L' /\ InRol R L' /\ L'.length <= L.length + 1 /\ St w0 w' F fun D w => K D w /\ Sl w D 2 v L'.length (Af L') :=
  fun z h hb => ⟨pv, z, L, h, hH, hR, by omega, (hS.ext hb).mono (KS.and (At (by decide))) fun D w h => ⟨h, kp D w h⟩⟩
 rcases h.some2 ⟨⟨by omega, by omega⟩, ⟨by omega, by omega⟩, by omega⟩ with ⟨-, a, b⟩ | ⟨-, -, a, b⟩ | ⟨k1, k2, v, a, b⟩
 ·exact hsame _ a b
 ·exact hsame _ a b
 ·refine ⟨v, 0, _, a, hH.ins ⟨h1, by omega⟩ ⟨by omega, by omega⟩ (by omega) k1 k2, fun z hz => ?_, by rw [ins_len]; omega, ?_⟩
  ·rcases (IF.1 hz) with h | h
   ·subst h; exact ⟨h1, h2, h3⟩
   ·exact hR z h
  ·have hn := (hS.new b.below (.own v 159 2 (L.length + 1) (Af (ins L (x, y)))) (b.own 0 rfl)).freeze 0 (by decide) rfl
   rw [ins_len]
   exact hn
def Bg (l : List AP) : List Value := l.flatMap fun z => [.bool z.revoke, .int .u64 (z.yes : Nat), .int .u64 (z.no : Nat), .int .i64 z.target, .int .i64 z.origin]
theorem Jb (a b : List AP) : Bg (a ++ b) = Bg a ++ Bg b := by simp [Bg]
theorem rrcells_at (l : List AP) (k : Nat) (z : AP) (h : l[k]? = some z) : (Bg l)[k * 5]? = some (.bool z.revoke) /\ (Bg l)[k * 5 + 1]? = some (.int .u64 (z.yes : Nat)) /\ (Bg l)[k * 5 + 2]? = some (.int .u64 (z.no : Nat)) /\ (Bg l)[k * 5 + 3]? = some (.int .i64 z.target) /\ (Bg l)[k * 5 + 4]? = some (.int .i64 z.origin) := by
 induction l generalizing k with
 | nil => simp at h
 | cons y r ih =>
  cases k with
  | zero => simp at h; subst h; simp [Bg]
  | succ k =>
   have := ih k (by simpa using h)
   rw [show (k + 1) * 5 = k * 5 + 5 by omega]
   simpa [Bg] using this
def C4 (w : World) (D : Nat -> Prop) (v : Value) (p : Ac) : Prop :=
 ∃ lv rv nv gv L, v = .agg #[.int .i64 p.roles, lv, .int .u64 (p.start : Nat), rv, nv, gv] /\ p.links = some L /\ Sl w D 2 lv L.length (Af L) /\ Sl w D 5 rv p.rules.length (Bg p.rules) /\ Ch w D nv p.never /\ Ch w D gv p.goal
theorem FN {v : Value} {l : List (Nat × Nat)} : AF fun D w => Ch w D v l := At (by decide)
theorem D4 {v : Value} {p : Ac} : AF fun D w => C4 w D v p := fun D D' w w' h a b c => by
 obtain ⟨lv, rv, nv, gv, L, h1, h2, h3, h4, h5, h6⟩ := h
 exact ⟨lv, rv, nv, gv, L, h1, h2, At (by decide) D D' w w' h3 a b c, At (by decide) D D' w w' h4 a b c, FN D D' w w' h5 a b c, FN D D' w w' h6 a b c⟩
end
section
open Go.RowKit
attribute [local go_sem ↓] Go.wp_at_zero Go.wp_at_succ
set_option maxRecDepth 20000
set_option exponentiation.threshold 5000
section
variable {P : Program} {ops : Array Oper} {rest : List Oper} {o : Oper} {a : Act} {Q : Exit -> Act -> World -> Prop} {w : World}
theorem Ef (hg : Region.wanted o (yielded ops a.tmps) = true) (op : BinOp) (t t2 : TypeId) (x y : Operand) (ho : o.op = .binOp op t x y t2) {vx vy : Value} (hx : a.eval x = vx) (hy : a.eval y = vy) {k : IntKind} (p : Nat -> Prop) {z : Nat} (he : (eqGuard op t x y vx vy).run P w = .ok () w) (hr : (binOp op t vx vy).run P w = .ok (.int k (z : Nat)) w) (hp : p z)
  (hk : ∀ z : Nat, p z -> wpList P ops Q rest (a.put o.dst (.int k (z : Nat))) w) : wpList P ops Q (o :: rest) a w :=
 BigFrame.wpList_want hg fun _ hK => AU ho hx hy he hr (hK _ _ (hk z hp))
theorem Dj (hg : Region.wanted o (yielded ops a.tmps) = true) (t t2 : TypeId) (x y : Operand) (ho : o.op = .binOp .rem t x y t2) {n m : Nat} (hx : a.eval x = .int .i64 (n : Nat)) (hy : a.eval y = .int .i64 (m : Nat)) (hm : 0 < m)
  (hk : ∀ z : Nat, z < m -> wpList P ops Q rest (a.put o.dst (.int .i64 (z : Nat))) w) : wpList P ops Q (o :: rest) a w :=
 Ef hg _ t t2 x y ho hx hy (fun z => z < m) (z := n % m) rfl (by rw [I3 (by omega) (by omega)]; rfl) (Nat.mod_lt _ hm) hk
theorem st_addN (hg : Region.wanted o (yielded ops a.tmps) = true) (t t2 : TypeId) (x y : Operand) (ho : o.op = .binOp .add t x y t2) {n m : Nat} (p : Nat -> Prop) (hx : a.eval x = .int .i64 (n : Nat)) (hy : a.eval y = .int .i64 (m : Nat)) (hb : n + m < 9223372036854775808) (hp : p (n + m))
  (hk : ∀ z : Nat, p z -> wpList P ops Q rest (a.put o.dst (.int .i64 (z : Nat))) w) : wpList P ops Q (o :: rest) a w :=
 Ef hg _ t t2 x y ho hx hy p (z := n + m) rfl (by rw [run_add64 (by omega) (by omega)]; rfl) hp hk
end
theorem st_someB {P : Program} {ops : Array Oper} {rest : List Oper} {o : Oper} {a : Act} {Q : Exit -> Act -> World -> Prop} {w : World} (hg : Region.wanted o (yielded ops a.tmps) = true) (op : BinOp) (t t2 : TypeId) (x y : Operand) (ho : o.op = .binOp op t x y t2) {vx vy : Value} (hx : a.eval x = vx) (hy : a.eval y = vy) {b : Bool} (he : (eqGuard op t x y vx vy).run P w = .ok () w) (hr : (binOp op t vx vy).run P w = .ok (.bool b) w)
  (hk : ∀ b : Bool, wpList P ops Q rest (a.put o.dst (.bool b)) w) : wpList P ops Q (o :: rest) a w :=
 BigFrame.wpList_want hg fun _ hK => AU ho hx hy he hr (hK _ _ (hk b))
theorem J7 {P : Program} {w : World} {g i : Nat} {t ty : TypeId} {cs : Array Value} {u v : Value} (hb : Co w g t cs) (hi : i + 1 < cs.size) (h1 : u.oneCell' = true) (h2 : v.oneCell' = true) (hs : (P.info? ty).map (·.size) = some 2) :
  (Instr.storeAt ty (.pointer (some ⟨g, i, none⟩)) (.agg #[u, v])).run P w = .ok () ((w.setCell ⟨g, i, none⟩ u).setCell ⟨g, i + 1, none⟩ v) := by
 have := run_storeCells_cells (P := P) g i [u, v] 0 w (fun j hj => by have hc := hb.cell (i + j); simp at hj; simp [hc]; omega) (fun j hj => hb.free _) (by simpa using ⟨h1, h2⟩)
 cases hq : P.info? ty with
 | none => simp [hq] at hs
 | some inf =>
  have hs' : inf.size = 2 := by simpa [hq] using hs
  simp only [Nat.add_zero] at this
  simp [Instr.storeAt, Instr.sureAddr, storeVar, sizeOf, typeInfo, hq, Value.cells, hs', this, World.setCells]
theorem st_bstore2 {P : Program} {ops : Array Oper} {rest : List Oper} {o : Oper} {a : Act} {Q : Exit -> Act -> World -> Prop} {w0 w : World} {F : List Aj} {K : (Nat -> Prop) -> World -> Prop} (h : St w0 w F K) (i : Nat) (hg : Region.wanted o (yielded ops a.tmps) = true) (ty : TypeId) (x y : Operand) (ho : o.op = .store ty x y) (g j : Nat) (u v : Value) (hx : a.eval x = .pointer (some ⟨g, j, none⟩)) (hy : a.eval y = .agg #[u, v]) {t : TypeId} {cs : Array Value} (hb : F[i]? = some (.box g t cs)) (hi : j + 1 < cs.size)
  (h1 : u.oneCell' = true) (h2 : v.oneCell' = true) (hs : (P.info? ty).map (·.size) = some 2) (hk : ∀ w', St w0 w' (F.set i (.box g t ((cs.setIfInBounds j u).setIfInBounds (j + 1) v))) K -> wpList P ops Q rest (a.put o.dst undef) w') : wpList P ops Q (o :: rest) a w := by
 refine BigFrame.wpList_want hg fun _ hK => ?_
 have hX := h.box i hb
 unfold Oper.wp execOp
 simp only [ho, hx, hy, Sem.run_bind, J7 hX hi h1 h2 hs, Result.andThen_ok]
 refine hK _ _ (hk _ (h.upd i hb _ (Bn (Iz.trans (BQ w g j u) (BQ _ g (j + 1) v))) ⟨(h.holds _ (List.mem_of_getElem? hb)).1, (hX.setC u).setC v⟩ fun _ e => .inl e))
theorem ty_rrules : BA Tryz.prog 34 154 5 40 := ⟨Tryz.underlying34, by kernel_rfl⟩
def ROk (R m : Nat) (z : AP) : Prop := (1 <= z.target /\ z.target <= R) /\ (0 <= z.origin /\ z.origin < 7) /\ z.yes &&& m = z.yes /\ z.no &&& m = z.no /\ z.yes &&& z.no = 0 /\ z.yes < 256 /\ z.no < 256 /\ (z.revoke = true -> z.yes = 0 /\ z.no = 0)
def KOk (m : Nat) (z : Nat × Nat) : Prop := z.1 &&& m = z.1 /\ z.2 &&& m = z.2 /\ z.1 &&& z.2 = 0 /\ z.1 < 256 /\ z.2 < 256
def BT (R : Nat) : Nat := 2 ^ (R + 1) - 2
theorem run_maskshl {w : World} {R : Nat} (h : R <= 5) : (binOp .shl 5 (.int .u8 2) (.int .u64 (R : Nat))).run Tryz.prog w = .ok (.int .u8 ((2 ^ (R + 1) : Nat) : Int)) w := by
 match R, h with
 | 0, _ => go_simp; rfl
 | 1, _ => go_simp; rfl
 | 2, _ => go_simp; rfl
 | 3, _ => go_simp; rfl
 | 4, _ => go_simp; rfl
 | 5, _ => go_simp; rfl
theorem run_msub {w : World} {R : Nat} (h0 : 2 <= R) (h : R <= 5) : (binOp .sub 5 (.int .u8 ((2 ^ (R + 1) : Nat) : Int)) (.int .u8 2)).run Tryz.prog w = .ok (.int .u8 (BT R : Nat)) w := by
 match R, h0, h with
 | 2, _, _ => go_simp; rfl
 | 3, _, _ => go_simp; rfl
 | 4, _, _ => go_simp; rfl
 | 5, _, _ => go_simp; rfl
theorem run_shrN {P : Program} {w : World} {t : TypeId} {n k : Nat} (hk : k < 64) : (binOp .shr t (.int .i64 (n : Nat)) (.int .u64 (k : Nat))).run P w = .ok (.int .i64 ((n / 2 ^ k : Nat) : Int)) w := by
 go_simp
theorem Cu {w0 w : World} {F : List Aj} {K : (Nat -> Prop) -> World -> Prop} {q c at_ : Nat} {A : Option Addr} {l : List Nat} (hl : ∀ x ∈ l, x < 256) (ha : at_ < 1000000) (hS : St w0 w F K) (i : Nat) (hi : F[i]? = some (.box q 146 #[.slice A l.length c, .int .i64 (at_ : Nat)])) (kp : ∀ D w, K D w -> Sl w D 1 (.slice A l.length c) l.length (G1 l)) :
  Calls Tryz.prog 88 #[.pointer (some ⟨q, 0, none⟩)] w fun e w' => ∃ b : Nat, b < 256 /\ e = .returned (.int .i64 (b : Nat)) /\ St w0 w' (F.set i (.box q 146 #[.slice A l.length c, .int .i64 ((at_ + 1 : Nat) : Int)])) K := by
 refine (next_any hl ha (hS.front hi) kp).mono ?_
 rintro e w' ⟨b, h1, h2, h3⟩
 exact ⟨b, h1, h2, h3.perm (perm_at F i _ _ hi).symm⟩
theorem run_shl2 {w : World} {t : TypeId} {R : Nat} (h : R < 5) : (binOp .shl t (.int .i64 2) (.int .u64 (R : Nat))).run Tryz.prog w = .ok (.int .i64 ((2 ^ (R + 1) : Nat) : Int)) w := by
 match R, h with
 | 0, _ => go_simp; rfl
 | 1, _ => go_simp; rfl
 | 2, _ => go_simp; rfl
 | 3, _ => go_simp; rfl
 | 4, _ => go_simp; rfl
theorem i64_or_nat (a b : Nat) (ha : a < 256) (hb : b < 256) : bits .or .i64 (a : Int) (b : Int) = ((a ||| b : Nat) : Int) := by
 have hx : a ||| b < 2 ^ 8 := Nat.or_lt_two_pow (by omega) (by omega)
 show IntKind.i64.wrap ((BitVec.ofInt 64 (a : Int) ||| BitVec.ofInt 64 (b : Int)).toNat : Int) = _
 rw [BitVec.toNat_or, show BitVec.ofInt 64 (a : Int) = BitVec.ofNat 64 a from BitVec.ofInt_natCast .., show BitVec.ofInt 64 (b : Int) = BitVec.ofNat 64 b from BitVec.ofInt_natCast .., BitVec.toNat_ofNat, BitVec.toNat_ofNat, Nat.mod_eq_of_lt (by omega), Nat.mod_eq_of_lt (by omega)]
 exact wrap_i64_nat (by omega)
theorem run_orN {w : World} {t : TypeId} {a b : Nat} (ha : a < 256) (hb : b < 256) : (binOp .or t (.int .i64 (a : Nat)) (.int .i64 (b : Nat))).run Tryz.prog w = .ok (.int .i64 ((a ||| b : Nat) : Int)) w := by
 go_simp
 exact i64_or_nat a b ha hb
theorem FE (L : List (Nat × Nat)) (s : Nat) : closM L s < Bu := by rw [CK]; exact FD L s 64
structure Bq (p : Ac) (L : List (Nat × Nat)) (R : Nat) : Prop where
 links : p.links = some L
 roles : p.roles = (R : Int)
 r2 : 2 <= R
 r5 : R <= 5
 hok : FI L
 inr : InRol R L
 len : L.length <= 25
 start : p.start &&& BT R = p.start
 rlen : p.rules.length <= 6
 rules : ∀ z ∈ p.rules, ROk R (BT R) z
 nlen : p.never.length <= 3
 never : ∀ z ∈ p.never, KOk (BT R) z /\ B9 z (closM L p.start) = false
 glen : p.goal.length <= 3
 gpos : 1 <= p.goal.length
 goal : ∀ z ∈ p.goal, KOk (BT R) z
theorem GQ (l : List AP) (b : Bool) (y n : Nat) (t o : Int) : Bg (l ++ [⟨b, y, n, t, o⟩]) = Bg l ++ [.bool b, .int .u64 (y : Nat), .int .u64 (n : Nat), .int .i64 t, .int .i64 o] := by rw [Jb]; rfl
theorem Ih (l : List (Nat × Nat)) (y n : Nat) : Bv (l ++ [(y, n)]) = Bv l ++ [.int .u64 (y : Nat), .int .u64 (n : Nat)] := by rw [rcells_append]; rfl
theorem ty_mkc : BA Tryz.prog 35 152 2 16 := ⟨Tryz.underlying35, by kernel_rfl⟩
theorem Hk {α : Type} {P : α -> Prop} {l : List α} {x : α} (h : ∀ z ∈ l, P z) (hx : P x) : ∀ z ∈ l ++ [x], P z := fun z hz => by
 rcases List.mem_append.1 hz with h1 | h1
 ·exact h z h1
 ·rw [List.mem_singleton.1 h1]; exact hx
set_option maxHeartbeats 4000000 in
theorem rmake31_any {w0 w : World} {F : List Aj} {K : (Nat -> Prop) -> World -> Prop} {v : Value} {l : List Nat} (hl : ∀ x ∈ l, x < 256) (hS : St w0 w F K) (kp : ∀ D w, K D w -> Sl w D 1 v l.length (G1 l)) :
  Calls Tryz.prog 45 #[v] w fun e w' => ∃ u p L R, e = .returned u /\ Bq p L R /\ St w0 w' F fun D w => K D w /\ C4 w D u p := by
 obtain ⟨A, c, rfl, hc1, hc2⟩ := (kp _ _ hS.ro).shape
 have HL := Lib.hid hl
 have KS := Lib.hid hS.stable
 clear hl
 go_enter Tryz.func45, Tryz.ntmps45
 go_wp2_with (first
  | ((with_reducible refine qA 2 ?_); refine qa hS #[.int .i64 0, .slice none 0 0, .int .u64 0, .slice none 0 0, .slice none 0 0, .slice none 0 0] ?_; clear hS; intro g2 w_ hS)
  | ((with_reducible refine qA 27 ?_); refine Av rfl _ _ rfl #[.slice A l.length c, .int .i64 0] (by kernel_rfl) ?_; (try simp only [Act.put, List.setIfInBounds_toArray, List.set_cons_zero, List.set_cons_succ]))
  | ((with_reducible refine qA 28 ?_); refine AE hS rfl _ _ rfl (.agg #[.slice A l.length c, .int .i64 0]) _ rfl rfl ?_; clear hS; intro q w_ hS; (try simp only [Act.put, Act.eval, zz, Value.cells] at hS))
  | (go_at_call 88; first
    | (refine (Cu (at_ := 0) HL.out (by omega) hS 0 rfl kp).mono ?_; clear hS; rintro e w_ ⟨b, hb, rfl, hS⟩; replace hS : St w0 w_ (.box q 146 #[.slice A l.length c, .int .i64 1] :: .box g2 37 #[.int .i64 0, .slice none 0 0, .int .u64 0, .slice none 0 0, .slice none 0 0, .slice none 0 0] :: F) K := hS)
    | (refine (Cu (at_ := 1) HL.out (by omega) hS 1 rfl kp).mono ?_; clear hS; rintro e w_ ⟨lk, hlk, rfl, hS⟩; replace hS : St w0 w_ (.box g4 37 #[.int .i64 (R : Nat), .slice none 0 0, .int .u64 0, .slice none 0 0, .slice none 0 0, .slice none 0 0] :: .box q 146 #[.slice A l.length c, .int .i64 2] :: .box g2 37 #[.int .i64 0, .slice none 0 0, .int .u64 0, .slice none 0 0, .slice none 0 0, .slice none 0 0] :: F) K := hS))
  | ((with_reducible refine qA 31 ?_); refine Dj (m := 4) rfl _ _ _ _ rfl rfl rfl (by decide) ?_; intro r4 hr4)
  | ((with_reducible refine qA 32 ?_); refine st_addN (n := 2) rfl _ _ _ _ rfl (fun z => 2 <= z /\ z <= 5) rfl rfl (by omega) (by omega) ?_; intro R hR)
  | ((with_reducible refine qA 33 ?_); refine Av rfl _ _ rfl #[.int .i64 (R : Nat), .slice none 0 0, .int .u64 0, .slice none 0 0, .slice none 0 0, .slice none 0 0] (by kernel_rfl) ?_; (try simp only [Act.put, List.setIfInBounds_toArray, List.set_cons_zero, List.set_cons_succ]))
  | ((with_reducible refine qA 4 ?_); refine qa hS #[.int .i64 0, .slice none 0 0, .int .u64 0, .slice none 0 0, .slice none 0 0, .slice none 0 0] ?_; clear hS; intro g4 w_ hS)
  | ((with_reducible refine qM ?_); (first | refine qS hS ?_ | refine qT hS ?_); clear hS; intro w_ hS; (try simp only [Act.put, Act.eval, zz, Value.cells] at hS))
  | ((with_reducible refine qK ?_); refine qC hS ?_)
  | ((with_reducible refine qA 37 ?_); refine BigFrame.wpList_want rfl fun _ hK => AU (vx := .int .u8 2) (vy := .int .u64 (R : Nat)) rfl rfl rfl rfl (run_maskshl hR.2) (hK _ _ ?_))
  | ((with_reducible refine qA 38 ?_); refine Ef (k := .u8) rfl _ _ _ _ _ rfl rfl rfl (fun z => z < 256 /\ Hid (z = BT R)) (z := BT R) rfl (run_msub hR.1 hR.2) ⟨by unfold BT; have := Nat.pow_le_pow_right (n := 2) (by decide) (show R + 1 <= 6 by omega); omega, Lib.hid rfl⟩ ?_; rintro m ⟨hm, HM⟩))
 have h64 : R < 64 := by omega
 replace hS := hS.mono (KS.out.and (At (by decide) (size := 2) (v := .slice none 0 0) (n := 0) (xs := Af []))) fun D w h => ⟨h, Sl.none_⟩
 go_loopw [7, 8, 9] (fun nv av cv wr => ∃ (a n : Nat) (pv : Value) (L : List (Nat × Nat)), av = .int .i64 (a : Nat) /\ nv = .int .i64 (n : Nat) /\ 1 <= a /\ a <= R /\ n <= 5 * (a - 1) /\ L.length <= n /\ Hid (FI L) /\ Hid (InRol R L) /\ St w0 wr (.box g4 37 #[.int .i64 (R : Nat), pv, .int .u64 0, .slice none 0 0, .slice none 0 0, .slice none 0 0] :: .box q 146 #[.slice A l.length c, .int .i64 2] :: .box g2 37 #[.int .i64 0, .slice none 0 0, .int .u64 0, .slice none 0 0, .slice none 0 0, .slice none 0 0] :: F) fun D w => K D w /\ Sl w D 2 pv L.length (Af L)) (fun _ av _ _ => R - (intOf av).toNat)
 case atStart => exact ⟨1, 0, _, [], rfl, rfl, by omega, by omega, by omega, by simp, Lib.hid FI.nil, Lib.hid (fun z hz => by simp at hz), hS⟩
 case round =>
  clear hS
  obtain ⟨a, n, pv, L, rfl, rfl, ha1, haR, hn, hLn, HH, HR, hS⟩ := hrel
  by_cases haR2 : a < R
  ·go_wp2_with (first | ((with_reducible refine qB ?_); refine qc ?_ ?_ <;> intro h_ <;> go_prune) | ((with_reducible refine qK ?_); refine qC hS ?_))
   go_loopw [7, 9] (fun nv cv wr => ∃ (d n : Nat) (pv : Value) (L : List (Nat × Nat)), cv = .int .i64 (d : Nat) /\ nv = .int .i64 (n : Nat) /\ a + 1 <= d /\ d <= R + 1 /\ n + a + 1 <= 5 * (a - 1) + d /\ L.length <= n /\ Hid (FI L) /\ Hid (InRol R L) /\ St w0 wr (.box g4 37 #[.int .i64 (R : Nat), pv, .int .u64 0, .slice none 0 0, .slice none 0 0, .slice none 0 0] :: .box q 146 #[.slice A l.length c, .int .i64 2] :: .box g2 37 #[.int .i64 0, .slice none 0 0, .int .u64 0, .slice none 0 0, .slice none 0 0, .slice none 0 0] :: F) fun D w => K D w /\ Sl w D 2 pv L.length (Af L)) (fun _ cv _ => R + 1 - (intOf cv).toNat)
   case atStart => exact ⟨a + 1, n, pv, L, by go_num, rfl, by omega, by omega, by omega, hLn, HH, HR, hS⟩
   case round =>
    clear hS HH HR hLn hn
    obtain ⟨d, n, pv, L, rfl, rfl, hd1, hdR, hn, hLn, HH, HR, hS⟩ := hrel
    by_cases hdR2 : d <= R
    ·go_wp2_with (first
      | ((with_reducible refine qK ?_); refine qC hS ?_)
      | ((with_reducible refine qA 57 ?_); refine Dj (m := 8) rfl _ _ _ _ rfl rfl rfl (by decide) ?_; intro z57 h57)
      | ((with_reducible refine qA 59 ?_); refine Ef (k := .i64) rfl _ _ _ _ _ rfl rfl rfl (fun _ => True) rfl (run_shrN (k := z57) (by omega)) trivial ?_; intro z59 _)
      | ((with_reducible refine qA 60 ?_); refine Dj (m := 2) rfl _ _ _ _ rfl rfl rfl (by decide) ?_; intro z60 h60)
      | ((with_reducible refine qA 64 ?_); refine Dj (m := 3) rfl _ _ _ _ rfl rfl rfl (by decide) ?_; intro z64 h64_)
      | ((with_reducible refine qB ?_); refine qc ?_ ?_ <;> intro h_ <;> go_prune)
      | (go_at_call 89; refine (rlink_st HH.out HR.out ha1 (by omega) hdR2 h64 (by omega) hS (fun D w h => h.2)).mono ?_; clear hS; rintro e w_ ⟨v2, z2, L2, rfl, HH2, HR2, hl2, hS⟩; replace HH2 := Lib.hid HH2; replace HR2 := Lib.hid HR2; obtain ⟨A2, c2, rfl, _, _⟩ := hS.ro.2.shape)
      | ((with_reducible refine qM ?_); (first | refine qS hS ?_ | refine qT hS ?_); clear hS; intro w_ hS; (try simp only [Act.put, Act.eval, zz, Value.cells] at hS)))
     all_goals first
      | exact ⟨⟨d + 1, n + 1, _, L2, by go_num, by go_num, by omega, by omega, by omega, by omega, HH2, HR2, hS.mono (KS.out.and (At (by decide))) fun D w h => ⟨h.1.1, h.2⟩⟩, by simp [intOf]; omega⟩
      | exact ⟨⟨d + 1, n + 1, pv, L, by go_num, by go_num, by omega, by omega, by omega, by omega, HH, HR, hS⟩, by simp [intOf]; omega⟩
    ·go_wp2_with (first | ((with_reducible refine qB ?_); refine qc ?_ ?_ <;> intro h_ <;> go_prune) | ((with_reducible refine qK ?_); refine qC hS ?_))
     exact ⟨⟨a + 1, n, pv, L, by go_num, rfl, by omega, by omega, by omega, by omega, HH, HR, hS⟩, by simp [intOf]; omega⟩
  ·have hnn : n <= 25 := by omega
   clear ha1 haR hn hc1 hc2
   go_wp2_with (first
    | ((with_reducible refine qB ?_); refine qc ?_ ?_ <;> intro h_ <;> go_prune)
    | ((with_reducible refine qK ?_); refine qC hS ?_)
    | (go_at_call 88; first | (refine (Cu (at_ := 2) HL.out (by omega) hS 1 rfl (fun D w h => kp D w h.1)).mono ?_; clear hS; rintro e w_ ⟨b3, hb3, rfl, hS⟩; replace hS : St w0 w_ (.box g4 37 #[.int .i64 (R : Nat), pv, .int .u64 0, .slice none 0 0, .slice none 0 0, .slice none 0 0] :: .box q 146 #[.slice A l.length c, .int .i64 ((2 + 1 : Nat) : Int)] :: .box g2 37 #[.int .i64 0, .slice none 0 0, .int .u64 0, .slice none 0 0, .slice none 0 0, .slice none 0 0] :: F) (fun D w => K D w /\ Sl w D 2 pv L.length (Af L)) := hS) | (refine (Cu (at_ := 2 + 1) HL.out (by omega) hS 1 rfl (fun D w h => kp D w h.1)).mono ?_; clear hS; rintro e w_ ⟨b4, hb4, rfl, hS⟩; replace hS : St w0 w_ (.box g4 37 #[.int .i64 (R : Nat), pv, .int .u64 (s0 : Nat), .slice none 0 0, .slice none 0 0, .slice none 0 0] :: .box q 146 #[.slice A l.length c, .int .i64 ((2 + 1 + 1 : Nat) : Int)] :: .box g2 37 #[.int .i64 0, .slice none 0 0, .int .u64 0, .slice none 0 0, .slice none 0 0, .slice none 0 0] :: F) (fun D w => K D w /\ Sl w D 2 pv L.length (Af L)) := hS))
    | ((with_reducible refine qA 82 ?_); refine Gz rfl _ _ _ _ rfl _ _ rfl rfl (by omega) (by omega) ?_; intro s0 hs0 es0)
    | ((with_reducible refine qA 87 ?_); refine Dj (m := 7) rfl _ _ _ _ rfl rfl rfl (by decide) ?_; intro RU hRU)
    | ((with_reducible refine qM ?_); (first | refine qS hS ?_ | refine qT hS ?_); clear hS; intro w_ hS; (try simp only [Act.put, Act.eval, zz, Value.cells] at hS)))
   have HS0 : Hid (s0 &&& m = s0) := Lib.hid (by have h := es0.out; simp only [Int.toNat_natCast] at h; rw [h, JI])
   clear es0 hb3 hb4
   obtain ⟨Ap, cp, rfl, _, _⟩ := hS.ro.2.shape
   obtain ⟨K1, k1, kk1, hS2⟩ : ∃ K1 : (Nat -> Prop) -> World -> Prop, (∀ D w, K1 D w -> K D w) /\ (∀ D w, K1 D w -> Sl w D 2 (.slice Ap L.length cp) L.length (Af L)) /\ St w0 w_ (.box g4 37 #[.int .i64 (R : Nat), .slice Ap L.length cp, .int .u64 (s0 : Nat), .slice none 0 0, .slice none 0 0, .slice none 0 0] :: .box q 146 #[.slice A l.length c, .int .i64 ((2 + 1 + 1 : Nat) : Int)] :: .box g2 37 #[.int .i64 0, .slice none 0 0, .int .u64 0, .slice none 0 0, .slice none 0 0, .slice none 0 0] :: F) K1 := ⟨_, fun _ _ h => h.1, fun _ _ h => h.2, hS⟩
   clear hS
   have hS := hS2.nil 154 5
   clear hS2
   have KS1 := Lib.hid hS.stable
   go_loopw [11] (fun kv wr => ∃ (k t : Nat) (rv : Value) (rs : List AP), kv = .int .i64 (k : Nat) /\ k <= RU /\ t <= 4 + 4 * k /\ Hid (rs.length = k) /\ Hid (∀ z ∈ rs, ROk R m z) /\ St w0 wr (.own rv 154 5 k (Bg rs) :: .box g4 37 #[.int .i64 (R : Nat), .slice Ap L.length cp, .int .u64 (s0 : Nat), rv, .slice none 0 0, .slice none 0 0] :: .box q 146 #[.slice A l.length c, .int .i64 ((t : Nat) : Int)] :: .box g2 37 #[.int .i64 0, .slice none 0 0, .int .u64 0, .slice none 0 0, .slice none 0 0, .slice none 0 0] :: F) K1) (fun kv _ => RU - (intOf kv).toNat)
   case atStart => exact ⟨0, 2 + 1 + 1, _, [], rfl, by omega, by omega, Lib.hid rfl, Lib.hid (fun z hz => by simp at hz), hS⟩
   case round =>
    clear hS
    obtain ⟨k, t, rv, rs, rfl, hk, ht, HRL, HRS, hS⟩ := hrel
    obtain ⟨Ar, cr, rfl, _, _⟩ := B7 (hS.own 0 rfl)
    by_cases hkR : k < RU
    ·have hk7 : k < 7 := by omega
     go_wp2_with (first
      | (go_at_call 88; first | (refine (Cu (at_ := t) HL.out (by omega) hS 2 rfl (fun D w h => kp D w (k1 D w h))).mono ?_; clear hS; rintro e w_ ⟨kd, hkd, rfl, hS⟩; simp only [List.set_cons_succ, List.set_cons_zero] at hS) | (refine (Cu (at_ := t + 1) HL.out (by omega) hS 2 rfl (fun D w h => kp D w (k1 D w h))).mono ?_; clear hS; rintro e w_ ⟨tg, htg, rfl, hS⟩; simp only [List.set_cons_succ, List.set_cons_zero] at hS) | (refine (Cu (at_ := t + 1 + 1) HL.out (by omega) hS 2 rfl (fun D w h => kp D w (k1 D w h))).mono ?_; clear hS; rintro e w_ ⟨cy, hcy, rfl, hS⟩; simp only [List.set_cons_succ, List.set_cons_zero] at hS) | (refine (Cu (at_ := t + 1 + 1 + 1) HL.out (by omega) hS 2 rfl (fun D w h => kp D w (k1 D w h))).mono ?_; clear hS; rintro e w_ ⟨cz, hcz, rfl, hS⟩; simp only [List.set_cons_succ, List.set_cons_zero] at hS))
      | ((with_reducible refine qA 102 ?_); refine Dj (m := 4) rfl _ _ _ _ rfl rfl rfl (by decide) ?_; intro z102 h102)
      | ((with_reducible refine qA 103 ?_); refine st_someB rfl _ _ _ _ _ rfl rfl rfl rfl (GL rfl) ?_; intro rvk)
      | ((with_reducible refine qA 107 ?_); refine Dj (m := R) rfl _ _ _ _ rfl rfl rfl (by omega) ?_; intro z107 h107)
      | ((with_reducible refine qA 108 ?_); refine st_addN (n := 1) rfl _ _ _ _ rfl (fun z => 1 <= z /\ z <= R) rfl rfl (by omega) (by omega) ?_; intro z108 h108)
      | ((with_reducible refine qA 110 ?_); refine Av rfl _ _ rfl #[.bool rvk, .int .u64 0, .int .u64 0, .int .i64 (z108 : Nat), .int .i64 (k : Nat)] (by kernel_rfl) ?_; (try simp only [Act.put, List.setIfInBounds_toArray, List.set_cons_zero, List.set_cons_succ]))
      | ((with_reducible refine qA 16 ?_); refine qa hS #[.bool false, .int .u64 0, .int .u64 0, .int .i64 0, .int .i64 0] ?_; clear hS; intro g16 w_ hS)
      | ((with_reducible refine qm 154 ?_); refine qS hS ?_; clear hS; intro w_ hS; (try simp only [Act.put, Act.eval, zz, Value.cells] at hS); cases rvk)
      | (go_at_call 90; refine (I2 cy cz m hm _).mono ?_; rintro r_ w_ ⟨_, rfl, ⟨ya, na, rfl, s1, s2, s3, s4, s5⟩, hb_⟩; replace hS := hS.ext hb_; clear hb_)
      | ((with_reducible refine qm 152 ?_); refine st_bstore2 hS 0 rfl _ _ _ rfl _ _ _ _ rfl rfl rfl (by simp) rfl rfl (by kernel_rfl) ?_; clear hS; intro w_ hS; (try simp only [Act.put, Act.eval, zz, Value.cells] at hS))
      | ((with_reducible refine qK ?_); refine qL hS Tryz.underlying154 ?_)
      | ((with_reducible refine qA 122 ?_); first | (refine Cq hS 1 rfl rfl _ _ _ _ rfl rfl ty_rrules (.slice Ar k cr) k (Bg rs) (.agg #[.bool false, .int .u64 (ya : Nat), .int .u64 (na : Nat), .int .i64 (z108 : Nat), .int .i64 (k : Nat)]) #[.bool false, .int .u64 (ya : Nat), .int .u64 (na : Nat), .int .i64 (z108 : Nat), .int .i64 (k : Nat)] rfl (by kernel_rfl) rfl rfl rfl rfl (by intro u hu; simp at hu; rcases hu with rfl | rfl | rfl | rfl | rfl <;> rfl) (by omega) (by omega) ?_; clear hS; intro z_ v' w_ hS; (try simp only [Act.put, Act.eval, zz, Value.cells] at hS); obtain ⟨A', c', rfl, _, _⟩ := B7 (hS.own 1 rfl)) | (refine Cq hS 1 rfl rfl _ _ _ _ rfl rfl ty_rrules (.slice Ar k cr) k (Bg rs) (.agg #[.bool true, .int .u64 0, .int .u64 0, .int .i64 (z108 : Nat), .int .i64 (k : Nat)]) #[.bool true, .int .u64 0, .int .u64 0, .int .i64 (z108 : Nat), .int .i64 (k : Nat)] rfl (by kernel_rfl) rfl rfl rfl rfl (by intro u hu; simp at hu; rcases hu with rfl | rfl | rfl | rfl <;> rfl) (by omega) (by omega) ?_; clear hS; intro z_ v' w_ hS; (try simp only [Act.put, Act.eval, zz, Value.cells] at hS); obtain ⟨A', c', rfl, _, _⟩ := B7 (hS.own 1 rfl)))
      | ((with_reducible refine qB ?_); refine qc ?_ ?_ <;> intro h_ <;> go_prune)
      | ((with_reducible refine qK ?_); refine qC hS ?_)
      | ((with_reducible refine qM ?_); (first | refine qS hS ?_ | refine qT hS ?_); clear hS; intro w_ hS; (try simp only [Act.put, Act.eval, zz, Value.cells] at hS)))
     ·have e : Bg (rs ++ [⟨false, ya, na, (z108 : Nat), (k : Nat)⟩]) = Bg rs ++ [.bool false, .int .u64 (ya : Nat), .int .u64 (na : Nat), .int .i64 (z108 : Nat), .int .i64 (k : Nat)] := GQ ..
      refine ⟨⟨k + 1, _, .slice A' (k + 1) c', rs ++ [⟨false, ya, na, (z108 : Nat), (k : Nat)⟩], by go_num, hkR, ?_, Lib.hid (by rw [List.length_append, HRL.out]; rfl), Lib.hid (Hk HRS.out ⟨⟨by simp only; omega, by simp only; omega⟩, ⟨by simp only; omega, by simp only; omega⟩, s1, s2, s3, s4, s5, fun h => by cases h⟩), by rw [e]; exact hS.sub (List.sublist_cons_self _ _)⟩, by simp [intOf]; omega⟩
      omega
     ·have e : Bg (rs ++ [⟨true, 0, 0, (z108 : Nat), (k : Nat)⟩]) = Bg rs ++ [.bool true, .int .u64 0, .int .u64 0, .int .i64 (z108 : Nat), .int .i64 (k : Nat)] := GQ ..
      refine ⟨⟨k + 1, _, .slice A' (k + 1) c', rs ++ [⟨true, 0, 0, (z108 : Nat), (k : Nat)⟩], by go_num, hkR, ?_, Lib.hid (by rw [List.length_append, HRL.out]; rfl), Lib.hid (Hk HRS.out ⟨⟨by simp only; omega, by simp only; omega⟩, ⟨by simp only; omega, by simp only; omega⟩, Nat.zero_and m, Nat.zero_and m, Nat.zero_and 0, Nat.zero_lt_succ _, Nat.zero_lt_succ _, fun _ => ⟨rfl, rfl⟩⟩), by rw [e]; exact hS.sub (List.sublist_cons_self _ _)⟩, by simp [intOf]; omega⟩
      omega
    ·obtain rfl : RU = k := by omega
     go_wp2_with (first
      | (go_at_call 88; first | (refine (Cu (at_ := t) HL.out (by omega) hS 2 rfl (fun D w h => kp D w (k1 D w h))).mono ?_; clear hS; rintro e w_ ⟨bv, hbv, rfl, hS⟩; simp only [List.set_cons_succ, List.set_cons_zero] at hS) | (refine (Cu (at_ := t + 1) HL.out (by omega) hS 2 rfl (fun D w h => kp D w (k1 D w h))).mono ?_; clear hS; rintro e w_ ⟨bg, hbg, rfl, hS⟩; simp only [List.set_cons_succ, List.set_cons_zero] at hS))
      | ((with_reducible refine qA 127 ?_); refine Dj (m := 4) rfl _ _ _ _ rfl rfl rfl (by decide) ?_; intro NV hNV)
      | ((with_reducible refine qA 130 ?_); refine Dj (m := 3) rfl _ _ _ _ rfl rfl rfl (by decide) ?_; intro g3 hg3)
      | ((with_reducible refine qA 131 ?_); refine st_addN (n := 1) rfl _ _ _ _ rfl (fun z => 1 <= z /\ z <= 3) rfl rfl (by omega) (by omega) ?_; intro GO hGO)
      | ((with_reducible refine qB ?_); refine qc ?_ ?_ <;> intro h_ <;> go_prune))
     obtain ⟨K2, j1, k2, kr2, hS2⟩ : ∃ K2 : (Nat -> Prop) -> World -> Prop, (∀ D w, K2 D w -> K D w) /\ (∀ D w, K2 D w -> Sl w D 2 (.slice Ap L.length cp) L.length (Af L)) /\ (∀ D w, K2 D w -> Sl w D 5 (.slice Ar RU cr) RU (Bg rs)) /\ St w0 w_ (.box g4 37 #[.int .i64 (R : Nat), .slice Ap L.length cp, .int .u64 (s0 : Nat), .slice Ar RU cr, .slice none 0 0, .slice none 0 0] :: .box q 146 #[.slice A l.length c, .int .i64 ((t + 1 + 1 : Nat) : Int)] :: .box g2 37 #[.int .i64 0, .slice none 0 0, .int .u64 0, .slice none 0 0, .slice none 0 0, .slice none 0 0] :: F) K2 := ⟨_, fun _ _ h => k1 _ _ h.1, fun _ _ h => kk1 _ _ h.1, fun _ _ h => h.2, hS.freeze 0 (by decide) rfl⟩
     clear hS
     have hS := hS2.nil 152 2
     clear hS2
     have KS2 := Lib.hid hS.stable
     go_loopw [19] (fun jv wr => ∃ (j u : Nat) (nv : Value) (ns : List (Nat × Nat)), jv = .int .i64 (j : Nat) /\ j <= NV /\ u <= 40 + 2 * j /\ ns.length <= j /\ Hid (∀ z ∈ ns, KOk m z /\ B9 z (closM L s0) = false) /\ St w0 wr (.own nv 152 2 ns.length (Bv ns) :: .box g4 37 #[.int .i64 (R : Nat), .slice Ap L.length cp, .int .u64 (s0 : Nat), .slice Ar RU cr, nv, .slice none 0 0] :: .box q 146 #[.slice A l.length c, .int .i64 ((u : Nat) : Int)] :: .box g2 37 #[.int .i64 0, .slice none 0 0, .int .u64 0, .slice none 0 0, .slice none 0 0, .slice none 0 0] :: F) K2) (fun jv _ => NV - (intOf jv).toNat)
     case atStart => exact ⟨0, t + 1 + 1, _, [], rfl, by omega, by omega, by simp, Lib.hid (fun z hz => by simp at hz), hS⟩
     case round =>
      clear hS
      obtain ⟨j, u, nv, ns, rfl, hj, hu, hnl, HNS, hS⟩ := hrel
      obtain ⟨An, cn, rfl, _, _⟩ := B7 (hS.own 0 rfl)
      by_cases hjN : j < NV
      ·go_wp2_with (first
        | (go_at_call 88; first | (refine (Cu (at_ := u) HL.out (by omega) hS 2 rfl (fun D w h => kp D w (j1 D w h))).mono ?_; clear hS; rintro e w_ ⟨yb, hyb, rfl, hS⟩; simp only [List.set_cons_succ, List.set_cons_zero] at hS) | (refine (Cu (at_ := u + 1) HL.out (by omega) hS 2 rfl (fun D w h => kp D w (j1 D w h))).mono ?_; clear hS; rintro e w_ ⟨nb, hnb, rfl, hS⟩; simp only [List.set_cons_succ, List.set_cons_zero] at hS))
        | ((with_reducible refine qA 145 ?_); refine Dj (m := R) rfl _ _ _ _ rfl rfl rfl (by omega) ?_; intro z145 h145)
        | ((with_reducible refine qA 147 ?_); refine Ef (k := .i64) rfl _ _ _ _ _ rfl rfl rfl (fun z => z < 256) (z := 2 ^ (z145 + 1)) rfl (run_shl2 (by omega)) (Nat.lt_of_le_of_lt (Nat.pow_le_pow_right (by decide) (show z145 + 1 <= 5 by omega)) (by decide)) ?_; intro z147 h147)
        | ((with_reducible refine qA 148 ?_); refine Ef (k := .i64) rfl _ _ _ _ _ rfl rfl rfl (fun _ => True) (z := yb ||| z147) rfl (run_orN hyb h147) trivial ?_; intro z148 _)
        | (go_at_call 90; refine (I2 z148 nb m hm _).mono ?_; rintro r_ w_ ⟨_, rfl, ⟨ya, na, rfl, s1, s2, s3, s4, s5⟩, hb_⟩; replace hS := hS.ext hb_; clear hb_)
        | ((with_reducible refine qA 22 ?_); refine qa hS #[.int .u64 0, .int .u64 0] ?_; clear hS; intro g22 w_ hS)
        | ((with_reducible refine qB ?_); refine qc ?_ ?_ <;> intro h_ <;> go_prune)
        | ((with_reducible refine qK ?_); refine qC hS ?_)
        | ((with_reducible refine qM ?_); (first | refine qS hS ?_ | refine qT hS ?_); clear hS; intro w_ hS; (try simp only [Act.put, Act.eval, zz, Value.cells] at hS)))
       obtain ⟨hld, hHb⟩ : ∃ hld : Bool, hld = B9 (ya, na) (closM L s0) := ⟨_, rfl⟩
       have HB := Lib.hid hHb
       clear hHb
       refine BF [.i (.agg #[.int .u64 (ya : Nat), .int .u64 (na : Nat)]), .q g4 1, .i (.slice Ap L.length cp), .q g4 2, .i (.int .u64 (s0 : Nat)), .i (.int .u64 (closM L s0 : Nat)), .i (.bool hld), .i (.bool (!hld))] ⟨uR (h := fun w hW hN => (hS.ext hW).box 0 rfl), uF, uC (h := fun w hW hN => (hS.ext hW).shut 2 rfl 1 rfl), uF, uC (h := fun w hW hN => (hS.ext hW).shut 2 rfl 2 rfl), ?_, ?_, uU, trivial⟩ ?_
       ·refine uT fun b__ w hW hE K hK => ?_
        have e154 := hE 154
        have e156 := hE 156
        exact Az rfl (by kernel_rfl) (by simp only [List.map_cons, List.map_nil, e154, e156]) (Fq (k2 _ _ (hS.ext hW).ro) HH.out.inr (by omega) s0) fun v w' h hb => hK v w' h hb
       ·refine uT fun b__ w hW hE K hK => ?_
        have e152 := hE 152
        have e157 := hE 157
        exact Az rfl (by kernel_rfl) (by simp only [List.map_cons, List.map_nil, e152, e157]) (G6 (y := ya) (n := na) (by unfold Bu; omega) (by unfold Bu; omega) (FE L s0) _) fun v w' h hb => hK v w' (h.trans (by rw [HB.out])) hb
       ·intro vs wz hW hT
        obtain ⟨e152, e153, e154, e155, e156, e157, e158, e159, -⟩ := hT
        simp only [AC, Act.put, zz, ze]
        replace hS := hS.ext hW
        rw [e159]
        clear hW e152 e153 e154 e155 e156 e157 e158 e159
        cases hld with
        | true =>
         go_wp2_with fail
         exact ⟨⟨j + 1, u + 1 + 1, _, ns, by go_num, hjN, by omega, by omega, HNS, hS.sub (List.sublist_cons_self _ _)⟩, by simp [intOf]; omega⟩
        | false =>
         go_wp2_with (first
          | ((with_reducible refine qK ?_); refine qC hS ?_)
          | ((with_reducible refine qK ?_); refine qL hS Tryz.underlying152 ?_)
          | ((with_reducible refine qA 163 ?_); refine Cq hS 1 rfl rfl _ _ _ _ rfl rfl ty_mkc (.slice An ns.length cn) ns.length (Bv ns) (.agg #[.int .u64 (ya : Nat), .int .u64 (na : Nat)]) #[.int .u64 (ya : Nat), .int .u64 (na : Nat)] rfl (by kernel_rfl) rfl rfl rfl rfl (by intro u hu; simp at hu; rcases hu with rfl | rfl <;> rfl) (by omega) (by omega) ?_; clear hS; intro z_ v' w_ hS; (try simp only [Act.put, Act.eval, zz, Value.cells] at hS); obtain ⟨A', c', rfl, _, _⟩ := B7 (hS.own 1 rfl))
          | ((with_reducible refine qM ?_); (first | refine qS hS ?_ | refine qT hS ?_); clear hS; intro w_ hS; (try simp only [Act.put, Act.eval, zz, Value.cells] at hS)))
         have e : Bv (ns ++ [(ya, na)]) = Bv ns ++ [.int .u64 (ya : Nat), .int .u64 (na : Nat)] := Ih ..
         exact ⟨⟨j + 1, u + 1 + 1, .slice A' (ns.length + 1) c', ns ++ [(ya, na)], by go_num, hjN, by omega, by simp; omega, Lib.hid (Hk HNS.out ⟨⟨s1, s2, s3, s4, s5⟩, HB.out.symm⟩), by rw [e, List.length_append]; exact hS.sub (List.sublist_cons_self _ _)⟩, by simp [intOf]; omega⟩
      ·obtain rfl : NV = j := by omega
       go_wp2_with (first | ((with_reducible refine qB ?_); refine qc ?_ ?_ <;> intro h_ <;> go_prune))
       obtain ⟨K3, j3, k3, kr3, kn3, hS2⟩ : ∃ K3 : (Nat -> Prop) -> World -> Prop, (∀ D w, K3 D w -> K D w) /\ (∀ D w, K3 D w -> Sl w D 2 (.slice Ap L.length cp) L.length (Af L)) /\ (∀ D w, K3 D w -> Sl w D 5 (.slice Ar RU cr) RU (Bg rs)) /\ (∀ D w, K3 D w -> Sl w D 2 (.slice An ns.length cn) ns.length (Bv ns)) /\ St w0 wr (.box g4 37 #[.int .i64 (R : Nat), .slice Ap L.length cp, .int .u64 (s0 : Nat), .slice Ar RU cr, .slice An ns.length cn, .slice none 0 0] :: .box q 146 #[.slice A l.length c, .int .i64 ((u : Nat) : Int)] :: .box g2 37 #[.int .i64 0, .slice none 0 0, .int .u64 0, .slice none 0 0, .slice none 0 0, .slice none 0 0] :: F) K3 := ⟨_, fun _ _ h => j1 _ _ h.1, fun _ _ h => k2 _ _ h.1, fun _ _ h => kr2 _ _ h.1, fun _ _ h => h.2, hS.freeze 0 (by decide) rfl⟩
       clear hS
       have hS := hS2.nil 152 2
       clear hS2
       have KS3 := Lib.hid hS.stable
       go_loopw [23] (fun jv wr => ∃ (j x : Nat) (gv : Value) (gs : List (Nat × Nat)), jv = .int .i64 (j : Nat) /\ j <= GO /\ x <= 50 + 2 * j /\ Hid (gs.length = j) /\ Hid (∀ z ∈ gs, KOk m z) /\ St w0 wr (.own gv 152 2 j (Bv gs) :: .box g4 37 #[.int .i64 (R : Nat), .slice Ap L.length cp, .int .u64 (s0 : Nat), .slice Ar RU cr, .slice An ns.length cn, gv] :: .box q 146 #[.slice A l.length c, .int .i64 ((x : Nat) : Int)] :: .box g2 37 #[.int .i64 0, .slice none 0 0, .int .u64 0, .slice none 0 0, .slice none 0 0, .slice none 0 0] :: F) K3) (fun jv _ => GO - (intOf jv).toNat)
       case atStart => exact ⟨0, u, _, [], rfl, by omega, by omega, Lib.hid rfl, Lib.hid (fun z hz => by simp at hz), hS⟩
       case round =>
        clear hS
        obtain ⟨j, x, gv, gs, rfl, hj2, hx, HGL, HGS, hS⟩ := hrel
        obtain ⟨Ag, cg, rfl, _, _⟩ := B7 (hS.own 0 rfl)
        by_cases hjG : j < GO
        ·go_wp2_with (first
          | (go_at_call 88; first | (refine (Cu (at_ := x) HL.out (by omega) hS 2 rfl (fun D w h => kp D w (j3 D w h))).mono ?_; clear hS; rintro e w_ ⟨yb, hyb, rfl, hS⟩; simp only [List.set_cons_succ, List.set_cons_zero] at hS) | (refine (Cu (at_ := x + 1) HL.out (by omega) hS 2 rfl (fun D w h => kp D w (j3 D w h))).mono ?_; clear hS; rintro e w_ ⟨nb, hnb, rfl, hS⟩; simp only [List.set_cons_succ, List.set_cons_zero] at hS))
          | ((with_reducible refine qB ?_); refine qc ?_ ?_ <;> intro h_ <;> go_prune))
         have h0d := hS.drew
         refine wp_zS [5, 6, 7, 9] [some (.pointer (some ⟨g4, 5, none⟩)), some (.slice Ag j cg), some (.int .i64 (yb : Nat)), some (.int .i64 (nb : Nat)), some (.int .u8 (m : Nat)), none, none, none, some (.pointer (some ⟨g4, 5, none⟩)), none] (fun vs w => match vs with | [] => St w0 w (.own (.slice Ag j cg) 152 2 j (Bv gs) :: .box g4 37 #[.int .i64 (R : Nat), .slice Ap L.length cp, .int .u64 (s0 : Nat), .slice Ar RU cr, .slice An ns.length cn, .slice Ag j cg] :: .box q 146 #[.slice A l.length c, .int .i64 ((x + 1 + 1 : Nat) : Int)] :: .box g2 37 #[.int .i64 0, .slice none 0 0, .int .u64 0, .slice none 0 0, .slice none 0 0, .slice none 0 0] :: F) K3 | [z] => ∃ a b : Nat, z = .agg #[.int .u64 (a : Nat), .int .u64 (b : Nat)] /\ KOk m (a, b) /\ St w0 w (.own (.slice Ag j cg) 152 2 j (Bv gs) :: .box g4 37 #[.int .i64 (R : Nat), .slice Ap L.length cp, .int .u64 (s0 : Nat), .slice Ar RU cr, .slice An ns.length cn, .slice Ag j cg] :: .box q 146 #[.slice A l.length c, .int .i64 ((x + 1 + 1 : Nat) : Int)] :: .box g2 37 #[.int .i64 0, .slice none 0 0, .int .u64 0, .slice none 0 0, .slice none 0 0, .slice none 0 0] :: F) K3 | [_, z] => ∃ a b : Nat, KOk m (a, b) /\ St w0 w (.own (.slice Ag j cg) 152 2 j (Bv gs) :: .box g4 37 #[.int .i64 (R : Nat), .slice Ap L.length cp, .int .u64 (s0 : Nat), .slice Ar RU cr, .slice An ns.length cn, .slice Ag j cg] :: .box q 146 #[.slice A l.length c, .int .i64 ((x + 1 + 1 : Nat) : Int)] :: .box g2 37 #[.int .i64 0, .slice none 0 0, .int .u64 0, .slice none 0 0, .slice none 0 0, .slice none 0 0] :: F) (fun D w => K3 D w /\ Sl w D 2 z 1 [.int .u64 (a : Nat), .int .u64 (b : Nat)]) | [_, _, p'] => ∃ a b : Nat, KOk m (a, b) /\ St w0 w (.own p' 152 2 (j + 1) (Bv gs ++ [.int .u64 (a : Nat), .int .u64 (b : Nat)]) :: .box g4 37 #[.int .i64 (R : Nat), .slice Ap L.length cp, .int .u64 (s0 : Nat), .slice Ar RU cr, .slice An ns.length cn, .slice Ag j cg] :: .box q 146 #[.slice A l.length c, .int .i64 ((x + 1 + 1 : Nat) : Int)] :: .box g2 37 #[.int .i64 0, .slice none 0 0, .int .u64 0, .slice none 0 0, .slice none 0 0, .slice none 0 0] :: F) K3 | [_, _, p', _] => ∃ a b : Nat, KOk m (a, b) /\ St w0 w (.own p' 152 2 (j + 1) (Bv gs ++ [.int .u64 (a : Nat), .int .u64 (b : Nat)]) :: .box g4 37 #[.int .i64 (R : Nat), .slice Ap L.length cp, .int .u64 (s0 : Nat), .slice Ar RU cr, .slice An ns.length cn, p'] :: .box q 146 #[.slice A l.length c, .int .i64 ((x + 1 + 1 : Nat) : Int)] :: .box g2 37 #[.int .i64 0, .slice none 0 0, .int .u64 0, .slice none 0 0, .slice none 0 0, .slice none 0 0] :: F) K3 | _ => False) ?_ ⟨vF, ?_, vM, vM, vM, ?_, ?_, ?_, vF, ?_, trivial⟩ ?_
         ·first | assumption | (dsimp only; assumption)
         ·refine vR 0 2 fun b__ w vs hS h1 h2 hE K hK => ?_
          rcases vs with _ | ⟨x0, _ | ⟨x1, _ | ⟨x2, vs⟩⟩⟩ <;> first | (exfalso; first | exact hS | (revert h1 h2; simp <;> omega); done) | ((have e175 := hE 175); (first | exact Ah rfl e175 (by kernel_rfl) (hS.shut 1 rfl 5 rfl) (hK _ rfl) | (obtain ⟨_, _, _, hS⟩ := hS; exact Ah rfl e175 (by kernel_rfl) (hS.shut 1 rfl 5 rfl) (hK _ rfl)) | (obtain ⟨_, _, _, _, hS⟩ := hS; exact Ah rfl e175 (by kernel_rfl) (hS.shut 1 rfl 5 rfl) (hK _ rfl))))
         ·refine vX 0 fun b__ w vs hS hl hE K hK => ?_
          obtain rfl := Fl hl
          have e177 := hE 177
          have e178 := hE 178
          have e179 := hE 179
          exact BR rfl (by kernel_rfl) (by simp only [List.map_cons, List.map_nil, e177, e178, e179]) (I2 yb nb m hm _) fun e w' ⟨z, he, ⟨a, b, hz, h2, h3, h4, h5, h6⟩, hb_⟩ => ⟨z, he, hK z w' ⟨a, b, hz, ⟨h2, h3, h4, h5, h6⟩, hS.ext hb_⟩⟩
         ·refine vX 1 fun b__ w vs hS hl hE K hK => ?_
          obtain ⟨x0, rfl⟩ := Et hl
          have e180 := hE 180
          obtain ⟨a, b, rfl, hk1, hS⟩ := hS
          refine C5 (ps := [(0, .agg #[.int .u64 (a : Nat), .int .u64 (b : Nat)])]) (cells := #[.int .u64 (a : Nat), .int .u64 (b : Nat)]) rfl Tryz.underlying35 (by simp [e180]) (by kernel_rfl) ?_
          intro w' hbx hbel
          exact hK _ w' ⟨a, b, hk1, hS.ret hbel (At (by decide)) (⟨by simp, _, 1, rfl, by omega, by unfold maxLen; omega, fun _ => ⟨w.heap.size, 0, rfl, Nat.le_refl _, hbx.lt, fun j x hj => by rw [Nat.zero_add]; exact (hbx.cell j).trans (by simpa using hj)⟩⟩ : Sl w' (w.heap.size <= ·) 2 (.slice (some ⟨w.heap.size, 0, none⟩) 1 1) 1 [.int .u64 (a : Nat), .int .u64 (b : Nat)])⟩
         ·refine vX 2 fun b__ w vs hS hl hE K hK => ?_
          obtain ⟨x0, x1, rfl⟩ := Er hl
          have e176 := hE 176
          have e181 := hE 181
          obtain ⟨a, b, hk1, h3⟩ := hS
          refine ED rfl ty_mkc e176 (h3.own 0 rfl) e181 h3.ro.2 (by intro u hu; simp at hu; rcases hu with rfl | rfl <;> rfl) (by omega) (by omega) h3.size ?_
          intro v' w' ho hg hat
          exact hK v' w' ⟨a, b, hk1, (h3.upd 0 rfl (.own v' 152 2 (j + 1) (Bv gs ++ [Value.int .u64 (a : Nat), Value.int .u64 (b : Nat)])) hg ho hat).mono KS3.out fun D w h => h.1⟩
         ·refine vX 3 fun b__ w vs hS hl hE K hK => ?_
          obtain ⟨x0, x1, x2, rfl⟩ := Ep hl
          have e183 := hE 183
          have e182 := hE 182
          obtain ⟨a, b, hk1, h3⟩ := hS
          refine Cg rfl e183 e182 (h3.box 1 rfl) (by simp) (Fv (h3.own 0 rfl)) (ID (h3.own 0 rfl)) (by kernel_rfl) ?_
          intro w' hbx hup
          exact hK _ w' ⟨a, b, hk1, h3.upd 1 rfl (.box g4 37 #[.int .i64 (R : Nat), .slice Ap L.length cp, .int .u64 (s0 : Nat), .slice Ar RU cr, .slice An ns.length cn, x2]) (Bn hup) ⟨(h3.holds _ (List.mem_of_getElem? (i := 1) rfl)).1, hbx⟩ fun _ e => .inl e⟩
         ·intro us wz vs hS hl hT
          obtain ⟨x0, x1, x2, x3, rfl⟩ := IB hl
          obtain ⟨e175, e176, e177, e178, e179, e180, e181, e182, e183, -⟩ := hT
          clear hl
          simp only [AC, Act.put, zz, ze]
          obtain ⟨a, b, hk1, hS⟩ := hS
          clear h0d
          go_wp2_with fail
          have e : Bv (gs ++ [(a, b)]) = Bv gs ++ [.int .u64 (a : Nat), .int .u64 (b : Nat)] := Ih ..
          exact ⟨⟨j + 1, x + 1 + 1, _, gs ++ [(a, b)], by go_num, hjG, by omega, Lib.hid (by rw [List.length_append, HGL.out]; rfl), Lib.hid (Hk HGS.out hk1), by rw [e]; exact hS⟩, by simp [intOf]; omega⟩
        ·obtain rfl : GO = j := by omega
         go_wp2_with (first
          | ((with_reducible refine qB ?_); refine qc ?_ ?_ <;> intro h_ <;> go_prune)
          | ((with_reducible refine qK ?_); refine qL hS Tryz.underlying37 ?_)
          | ((with_reducible refine qM ?_); (first | refine qS hS ?_ | refine qT hS ?_); clear hS; intro w_ hS; (try simp only [Act.put, Act.eval, zz, Value.cells] at hS)))
         have HM : Bq ⟨R, some L, s0, rs, ns, gs⟩ L R := ⟨rfl, rfl, hR.1, hR.2, HH.out, HR.out, by omega, by rw [<- HM.out]; exact HS0.out, by show rs.length <= 6; rw [HRL.out]; omega, by rw [<- HM.out]; exact HRS.out, by show ns.length <= 3; omega, by rw [<- HM.out]; exact HNS.out, by show gs.length <= 3; rw [HGL.out]; omega, by show 1 <= gs.length; rw [HGL.out]; omega, by rw [<- HM.out]; exact HGS.out⟩
         have hS1 := hS.freeze 0 (by decide) rfl
         refine BG Tryz.results45 rfl (hS.box 3 rfl) Tryz.underlying37 rfl (by kernel_rfl) rfl ?_
         refine ⟨_, rfl, _, ⟨L, R, HM⟩, (hS1.sub (F' := F) (((List.sublist_cons_self _ _).trans (List.sublist_cons_self _ _)).trans (List.sublist_cons_self _ _))).mono (KS.out.and D4) fun D w h => ⟨j3 _ _ h.1, ?_⟩⟩
         refine ⟨_, _, _, _, L, rfl, rfl, k3 _ _ h.1, ?_, kn3 _ _ h.1, ?_⟩
         ·show Sl w D 5 _ rs.length _; rw [HRL.out]; exact kr3 _ _ h.1
         ·show Sl w D 2 _ gs.length _; rw [HGL.out]; exact h.2
end
section
open Go.RowKit
structure GK where
 b : Option (Nat × Option (Array Value))
 K : (Nat -> Prop) -> World -> Prop
def GK.F (ty : TypeId) (zs : Array Value) (s : GK) : List Aj := match s.b with
 | none => []
 | some (g, o) => [.box g ty (o.getD zs)]
def GJ (w0 : World) (F : List Aj) (ty : TypeId) (zs : Array Value) (s : World × GK) : Prop := St w0 s.1 (s.2.F ty zs ++ F) s.2.K
def GR (w0 : World) (F : List Aj) (ty : TypeId) (zs : Array Value) (s s' : World × GK) : Prop :=
 (GJ w0 F ty zs s -> GJ w0 F ty zs s') /\ (∀ D w, s'.2.K D w -> s.2.K D w) /\ (∀ g, s.2.b = some (g, none) -> ∃ o, s'.2.b = some (g, o)) /\ (∀ g cs, s.2.b = some (g, some cs) -> s'.2.b = some (g, some cs))
theorem GR.refl {w0 : World} {F : List Aj} {ty : TypeId} {zs : Array Value} : ∀ s, GR w0 F ty zs s s := fun _ => ⟨id, fun _ _ h => h, fun _ h => ⟨_, h⟩, fun _ _ h => h⟩
theorem GR.var {w0 : World} {F : List Aj} {ty : TypeId} {zs : Array Value} {s s' : World × GK} (h : GR w0 F ty zs s s') {v : Value} (k : ∃ g o, v = .pointer (some ⟨g, 0, none⟩) /\ s.2.b = some (g, o)) : ∃ g o, v = .pointer (some ⟨g, 0, none⟩) /\ s'.2.b = some (g, o) := by
 obtain ⟨g, o, e, k⟩ := k
 cases o with
 | none => obtain ⟨o, k⟩ := h.2.2.1 g k; exact ⟨g, o, e, k⟩
 | some cs => exact ⟨g, _, e, h.2.2.2 g cs k⟩
theorem GR.trans {w0 : World} {F : List Aj} {ty : TypeId} {zs : Array Value} : ∀ a b c, GR w0 F ty zs a b -> GR w0 F ty zs b c -> GR w0 F ty zs a c := fun a b c h k =>
 ⟨fun j => k.1 (h.1 j), fun D w j => h.2.1 D w (k.2.1 D w j), fun g j => by
  obtain ⟨o, j2⟩ := h.2.2.1 g j
  obtain ⟨g', o', e, j3⟩ := k.var ⟨g, o, rfl, j2⟩
  injection e with e; injection e with e; injection e with e; subst e
  exact ⟨o', j3⟩, fun g cs j => k.2.2.2 g cs (h.2.2.2 g cs j)⟩
def GN (ia is : Nat) (i : Nat) (s : World × GK) : Prop := (i = ia -> s.2.b = none) /\ (i = is -> ∀ g cs, s.2.b ≠ some (g, some cs))
theorem GN.start {ia is : Nat} {w : World} {K : (Nat -> Prop) -> World -> Prop} (i : Nat) : GN ia is i (w, ⟨none, K⟩) := ⟨fun _ => rfl, fun _ _ _ h => by cases h⟩
theorem GK.more {w0 : World} {F : List Aj} {ty : TypeId} {zs : Array Value} {w : World × GK} {w' : World} {K' : (Nat -> Prop) -> World -> Prop} {ia is i : Nat} (h : St w0 w' (w.2.F ty zs ++ F) K') (hk : ∀ D w1, K' D w1 -> w.2.K D w1) :
  GR w0 F ty zs w (w', { w.2 with K := K' }) /\ ∀ j, j ≠ i -> GN ia is j w -> GN ia is j (w', { w.2 with K := K' }) := ⟨⟨fun _ => h, hk, fun _ h => ⟨_, h⟩, fun _ _ h => h⟩, fun _ _ h => h⟩
theorem GK.made {w0 : World} {F : List Aj} {ty : TypeId} {zs : Array Value} {w : World × GK} {w' : World} {g ia is : Nat} (hn : w.2.b = none) (h : St w0 w' (.box g ty zs :: F) w.2.K) :
  GR w0 F ty zs w (w', { w.2 with b := some (g, none) }) /\ ∀ j, j ≠ ia -> GN ia is j w -> GN ia is j (w', { w.2 with b := some (g, none) }) :=
 ⟨⟨fun _ => h, fun _ _ h => h, fun g h => (by rw [hn] at h; cases h), fun g cs h => (by rw [hn] at h; cases h)⟩, fun j hj _ => ⟨fun e => absurd e hj, fun _ g cs e => by cases e⟩⟩
theorem GK.put {w0 : World} {F : List Aj} {ty : TypeId} {zs : Array Value} {w : World × GK} {w' : World} {g ia is : Nat} {cs : Array Value} (hn : w.2.b = some (g, none)) (h : St w0 w' (.box g ty cs :: F) w.2.K) :
  GR w0 F ty zs w (w', { w.2 with b := some (g, some cs) }) /\ ∀ j, j ≠ is -> GN ia is j w -> GN ia is j (w', { w.2 with b := some (g, some cs) }) :=
 ⟨⟨fun _ => h, fun _ _ h => h, fun g' h => (by rw [hn] at h; injection h with h; injection h with h1 h2; subst h1; exact ⟨_, rfl⟩), fun g cs h => (by rw [hn] at h; cases h)⟩, fun j hj k => ⟨fun e => absurd (k.1 e) (by rw [hn]; exact nofun), fun e => absurd e hj⟩⟩
section
variable {P : Program} {o : Oper} {a : Act} {w : World × GK} {w0 : World} {F : List Aj} {ty : TypeId} {zs : Array Value} {K : Act -> World -> Prop} {Q : Exit -> Act -> World -> Prop}
theorem GJ.none (hJ : GJ w0 F ty zs w) (hn : w.2.b = none) : St w0 w.1 F w.2.K := by
 unfold GJ GK.F at hJ; rw [hn] at hJ; exact hJ
theorem GJ.some {g : Nat} {x : Option (Array Value)} (hJ : GJ w0 F ty zs w) (hn : w.2.b = some (g, x)) : St w0 w.1 (.box g ty (x.getD zs) :: F) w.2.K := by
 unfold GJ GK.F at hJ; rw [hn] at hJ; exact hJ
theorem GJ.cell (hJ : GJ w0 F ty zs w) {g : Nat} {t : TypeId} {cs : Array Value} (i : Nat) (hi : F[i]? = Option.some (Aj.box g t cs)) (j : Nat) {x : Value} (hx : cs[j]? = Option.some x) : w.1.cell? ⟨g, j, Option.none⟩ = Option.some x :=
 ((hJ.holds (.box g t cs) (List.mem_append_right _ (List.mem_of_getElem? hi))).2.cell j).trans hx
theorem gk_alloc (ho : o.op = .alloc ty) (hz : ((P.info? ty).bind (·.zero)).isSome = true) (hzs : zeroCells P ty = zs) (hJ : GJ w0 F ty zs w) (hn : w.2.b = Option.none)
  (hK : ∀ g w', St w0 w' (.box g ty zs :: F) w.2.K -> K (a.put o.dst (.pointer (some ⟨g, 0, Option.none⟩))) w') : o.wp P a w.1 K Q :=
 opw_alloc ho hz fun w' hb hbel => hK _ w' ((hJ.none hn).new hbel _ ⟨Nat.le_refl _, hzs ▸ hb⟩)
theorem gk_store {x y : Operand} {g : Nat} {cs : Array Value} (ho : o.op = .store ty x y) (hx : a.eval x = .pointer (some ⟨g, 0, Option.none⟩)) (hy : a.eval y = .agg cs) (hJ : GJ w0 F ty zs w) (hn : w.2.b = Option.some (g, Option.none)) (hi : (P.info? ty).map (·.size) = Option.some cs.size)
  (hold : zs.size = cs.size) (h1 : cs.all (·.oneCell') = true) (hK : ∀ w', St w0 w' (.box g ty cs :: F) w.2.K -> K (a.put o.dst undef) w') : o.wp P a w.1 K Q := by
 have hS := hJ.some hn
 exact Cn ho hx hy (hS.box 0 rfl) hi hold h1 fun w' hb hU => hK w' (hS.upd 0 rfl (.box g ty cs) (Bn hU) ⟨(hS.holds _ (List.mem_cons_self ..)).1, hb⟩ fun _ e => .inl e)
end
def SR (w0 : World) (FX : Bool × Bool -> List Aj) (K : (Nat -> Prop) -> World -> Prop) (s s' : World × (Bool × Bool)) : Prop :=
 (St w0 s.1 (FX s.2) K -> St w0 s'.1 (FX s'.2) K) /\ (s.2.1 = true -> s'.2.1 = true) /\ (s.2.2 = true -> s'.2.2 = true)
theorem SR.refl {w0 : World} {FX : Bool × Bool -> List Aj} {K : (Nat -> Prop) -> World -> Prop} : ∀ s, SR w0 FX K s s := fun _ => ⟨id, id, id⟩
theorem SR.trans {w0 : World} {FX : Bool × Bool -> List Aj} {K : (Nat -> Prop) -> World -> Prop} : ∀ a b c, SR w0 FX K a b -> SR w0 FX K b c -> SR w0 FX K a c := fun _ _ _ h k => ⟨fun j => k.1 (h.1 j), fun j => k.2.1 (h.2.1 j), fun j => k.2.2 (h.2.2 j)⟩
end
section
open Go.RowKit
attribute [local go_sem ↓] Go.wp_at_zero Go.wp_at_succ
set_option maxRecDepth 20000
set_option exponentiation.threshold 5000
theorem LinkP.next {w0 w : World} {F : List Aj} {K : (Nat -> Prop) -> World -> Prop} {L M : List (Nat × Nat)} {x : Nat × Nat} {r : Value} {z : Int} (h : LinkP w0 F K L (x.1 : Nat) (x.2 : Nat) r z w) {j : Nat} (hx : M[j]? = some x) (hL : ∀ u, u ∈ L ↔ u ∈ M.take j) (hN : M.Nodup) (hR : ∀ u ∈ M, (1 <= u.1 /\ u.1 < 64) /\ 1 <= u.2 /\ u.2 < 64) (hA : DQ M) :
  z = 0 /\ ∃ L', FI L' /\ (∀ u, u ∈ L' ↔ u ∈ M.take (j + 1)) /\ St w0 w F fun D w => K D w /\ IsH w D r L' := by
 have hm := List.mem_of_getElem? hx
 have h1 := hR x hm
 have hne := hA.ne hm
 have htk : ∀ u, u ∈ M.take (j + 1) ↔ u ∈ L ++ [x] := fun u => by
  rw [List.take_add_one, hx, List.mem_append, List.mem_append, hL]; simp
 rcases h with ⟨h, _⟩ | ⟨a, b, ha, hb, _, _, _, h⟩
 ·exact absurd ⟨⟨by omega, by omega⟩, ⟨by omega, by omega⟩, by omega⟩ h
 ·obtain rfl : x = (a, b) := Prod.ext (by show x.1 = a; omega) (by show x.2 = b; omega)
  rcases h with ⟨h, _⟩ | ⟨_, h, _⟩ | ⟨_, hz, L', h3, h4, h5⟩
  ·exfalso
   obtain ⟨i, hi, e⟩ := List.getElem_of_mem ((hL _).1 h)
   rw [List.length_take] at hi
   obtain ⟨hj, ej⟩ := List.getElem?_eq_some_iff.1 hx
   rw [List.getElem_take] at e
   exact List.pairwise_iff_getElem.1 hN i j (by omega) hj (by omega) (e.trans ej.symm)
  ·exact absurd (hA.sub fun u hu => List.mem_of_mem_take ((htk u).2 hu)) h
  ·exact ⟨hz, L', h3, fun u => (h4 u).trans (htk u).symm, h5⟩
end
section
open Go.RowKit
attribute [local go_sem ↓] Go.wp_at_zero Go.wp_at_succ
set_option maxRecDepth 20000
set_option exponentiation.threshold 5000
theorem nodup_le : ∀ {T S : List (Nat × Nat)}, T.Nodup -> (∀ y ∈ T, y ∈ S) -> T.length <= S.length
 | [], _, _, _ => by simp
 | t :: T, S, hT, hs => by
  have hT := List.nodup_cons.1 hT
  have ht := hs t (List.mem_cons_self ..)
  have := nodup_le (T := T) (S := S.erase t) hT.2 fun y hy => (List.mem_erase_of_ne (fun e => hT.1 (by rw [<- e]; exact hy))).2 (hs y (List.mem_cons_of_mem _ hy))
  rw [List.length_erase_of_mem ht] at this
  have := List.length_pos_of_mem ht
  rw [List.length_cons]
  omega
def Part (M : List (Nat × Nat)) (j : Nat) (L : List (Nat × Nat)) : Prop := FI L /\ ∀ u, u ∈ L ↔ u ∈ M.take j
theorem Part.len {M L : List (Nat × Nat)} {j : Nat} (h : Part M j L) : L.length <= M.length := nodup_le h.1.asc.nodup fun y hy => List.mem_of_mem_take ((h.2 y).1 hy)
theorem Part.full {M L : List (Nat × Nat)} (h : Part M M.length L) (hM : Asc M) : L = M := Asc.uniq h.1.asc hM fun u => by rw [h.2, List.take_length]
end
section
open Go.RowKit
attribute [local go_sem ↓] Go.wp_at_zero Go.wp_at_succ
set_option maxRecDepth 20000
set_option exponentiation.threshold 5000
theorem Fp {P : Program} {fn : Func} {p t2 t3 : Tmp} {ty : TypeId} {R : Ending -> World -> Prop} {a : Act} {w : World} {g : Nat} {t : TypeId} {cs : Array Value} {d : TypeDesc} {v u : Value} (h : fn.results = #[.cell p ty, .tmp t2, .tmp t3]) (hp : a.eval (.tmp p) = .pointer (some ⟨g, 0, none⟩)) (hb : Co w g t cs)
  (hu : P.underlying ty = some d) (hd : (match d with | .struct _ | .array _ _ => true | _ => false) = true) (hi : (P.info? ty).map (·.size) = some cs.size) (hv : a.eval (.tmp t2) = v) (hv2 : a.eval (.tmp t3) = u) (hdf : a.defers = []) (hR : R (.returned (.tuple #[.agg cs, v, u])) w) : bodyPost P fn R .ret a w := by
 have hr : (results fn a.tmps).run P w = .ok (.tuple #[.agg cs, v, u]) w := by
  have hp' : a.tmps[p]?.getD undef = .pointer (some ⟨g, 0, none⟩) := by simpa [Act.eval] using hp
  have hv' : a.tmps[t2]?.getD undef = v := by simpa [Act.eval] using hv
  have hv2' : a.tmps[t3]?.getD undef = u := by simpa [Act.eval] using hv2
  simp [results, h, hp', hv', hv2', asAddr, run_loadVar_row w g t ty cs (0, 0) d hb hu hd hi]
 exact bodyPost_ret hr hdf hR
def C8 (S : Nat) (l : List AP) : List AP := l.filter fun r => B5 S r.target
def Db (S : Nat) (l : List AP) (j : Nat) : List Int := ((List.range j).filter fun k : Nat => B5 S (l.getD k AL).target).map fun k : Nat => (k : Int)
noncomputable def keepC (L : List (Nat × Nat)) (S : Nat) (l : List (Nat × Nat)) : List (Nat × Nat) := l.filter fun c => depC L c &&& S != 0
theorem keepR_step {S : Nat} {l : List AP} {j : Nat} {r : AP} (h : l[j]? = some r) : C8 S (l.take (j + 1)) = if B5 S r.target = true then C8 S (l.take j) ++ [r] else C8 S (l.take j) := by
 unfold C8
 rw [List.take_add_one, h, List.filter_append]
 by_cases e : B5 S r.target = true <;> simp [e]
theorem keepN_step {S : Nat} {l : List AP} {j : Nat} {r : AP} (h : l[j]? = some r) : Db S l (j + 1) = if B5 S r.target = true then Db S l j ++ [(j : Int)] else Db S l j := by
 unfold Db
 have e : l.getD j AL = r := by rw [List.getD_eq_getElem?_getD, h]; rfl
 rw [List.range_succ, List.filter_append, List.map_append]
 by_cases e2 : B5 S r.target = true
 ·rw [if_pos e2, List.filter_cons, e, if_pos e2]; rfl
 ·rw [if_neg e2, List.filter_cons, e, if_neg e2]; simp
theorem keepC_step {L : List (Nat × Nat)} {S : Nat} {l : List (Nat × Nat)} {j : Nat} {c : Nat × Nat} (h : l[j]? = some c) : keepC L S (l.take (j + 1)) = if (depC L c &&& S != 0) = true then keepC L S (l.take j) ++ [c] else keepC L S (l.take j) := by
 unfold keepC
 rw [List.take_add_one, h, List.filter_append]
 by_cases e : (depC L c &&& S != 0) = true
 ·rw [if_pos e]; simp [List.filter_cons, e]
 ·rw [if_neg e]; simp [List.filter_cons, e]
theorem A7.off {w : World} {D : Nat -> Prop} {v : Value} {N g : Nat} {t : TypeId} {cs : Array Value} (h : A7 w D v N) (hb : Co w g t cs) (hc : ∀ (i : Nat) (x : Value), cs[i]? = some x -> ∀ n : Int, x ≠ Value.int .u64 n) : A7 w (fun b => D b /\ b ≠ g) v N := by
 obtain ⟨u, l, rfl, h1, h2, h3, A, c, rfl, h4, h5, h6⟩ := h
 refine ⟨_, l, rfl, h1, h2, h3, A, c, rfl, h4, h5, fun hp => ?_⟩
 obtain ⟨b, o, rfl, q1, q2, q3⟩ := h6 hp
 refine ⟨b, o, rfl, ⟨q1, fun e => ?_⟩, q2, q3⟩
 subst e
 have h7 := q3 0 (.int .u64 (l.getD 0 0 : Nat)) (by
  cases l with
  | nil => simp at hp
  | cons y l => simp [Bc])
 rw [hb.cell] at h7
 exact hc _ _ h7 _ rfl
def zeroP : Ac := ⟨0, none, 0, [], [], []⟩
noncomputable def ofP (p : Ac) : Ac := if checkE p = 0 then (match p.links with
 | none => zeroP
 | some L => ⟨p.roles, p.links, p.start &&& relM L p, C8 (relM L p) p.rules, keepC L (relM L p) p.never, p.goal⟩) else zeroP
noncomputable def ofKept (p : Ac) : List Int := if checkE p = 0 then (match p.links with
 | none => []
 | some L => Db (relM L p) p.rules p.rules.length) else []
theorem Ba.parts {w : World} {D : Nat -> Prop} {a lp s rv nv gv : Value} {p : Ac} (h : Ba w D (.agg #[a, lp, s, rv, nv, gv]) p) : EH w D lp p.links /\ A7 w D (.agg #[s]) p.start /\ Bm w D rv p.rules /\ AH w D nv p.never /\ AH w D gv p.goal := by
 obtain ⟨lp', s', rv', nv', gv', he, h1, h2, h3, h4, h5⟩ := h
 have e : a = .int .i64 p.roles /\ lp = lp' /\ s = s' /\ rv = rv' /\ nv = nv' /\ gv = gv' := by simpa using he
 obtain ⟨-, rfl, rfl, rfl, rfl, rfl⟩ := e
 exact ⟨h1, h2, h3, h4, h5⟩
theorem AM.append {w : World} {D : Nat -> Prop} {xs ys : List Value} {l m : List AP} (hx : xs.length = l.length * 5) (h : AM w D xs l) (k : AM w D ys m) : AM w D (xs ++ ys) (l ++ m) := fun i z hi => by
 rcases Nat.lt_or_ge i l.length with h1 | h1
 ·rw [List.getElem?_append_left h1] at hi
  obtain ⟨a, b, q0, q1, q2, q3, q4, q5, q6⟩ := h i z hi
  refine ⟨a, b, ?_, ?_, ?_, ?_, ?_, q5, q6⟩
  all_goals rw [List.getElem?_append_left (by omega)]; assumption
 ·rw [List.getElem?_append_right h1] at hi
  obtain ⟨a, b, q0, q1, q2, q3, q4, q5, q6⟩ := k _ z hi
  refine ⟨a, b, ?_, ?_, ?_, ?_, ?_, q5, q6⟩
  ·rw [List.getElem?_append_right (by omega), <- q0]; congr 1; omega
  ·rw [List.getElem?_append_right (by omega), <- q1]; congr 1; omega
  ·rw [List.getElem?_append_right (by omega), <- q2]; congr 1; omega
  ·rw [List.getElem?_append_right (by omega), <- q3]; congr 1; omega
  ·rw [List.getElem?_append_right (by omega), <- q4]; congr 1; omega
theorem AM.single {w : World} {D : Nat -> Prop} {a b : Value} {z : AP} (ha : A7 w D (.agg #[a]) z.yes) (hb : A7 w D (.agg #[b]) z.no) : AM w D [.bool z.revoke, a, b, .int .i64 z.target, .int .i64 z.origin] [z] := fun i x hi => by
 cases i with
 | zero => obtain rfl := Option.some.inj (show some z = some x from hi); exact ⟨a, b, rfl, rfl, rfl, rfl, rfl, ha, hb⟩
 | succ i => simp at hi
set_option maxHeartbeats 4000000 in
theorem H5 {w0 w : World} {F : List Aj} {K : (Nat -> Prop) -> World -> Prop} {v : Value} {p : Ac} (hP : p.Ok) (hS : St w0 w F K) (kp : ∀ D w, K D w -> Ba w D v p) (kt : ∀ D w, K D w -> BH w) :
  Calls Tryz.prog 41 #[v] w fun e w' => ∃ u k, e = .returned (.tuple #[u, k, .int .i64 (checkE p)]) /\ St w0 w' F fun D w => (K D w /\ Ba w D u (ofP p)) /\ Sl w D 1 k (ofKept p).length (AX (ofKept p)) := by
 obtain ⟨R, lk, st, rl, nl, gl⟩ := p
 obtain ⟨lp, s, rv, nv, gv, rfl, hh, hs, hr, hn, hg⟩ := kp _ _ hS.ro
 dsimp only at hh hs hr hn hg
 have HP := Lib.hid hP
 obtain ⟨hP1, hP2, hP3, -⟩ := hP
 dsimp only at hP1 hP2 hP3
 have KS := Lib.hid hS.stable
 obtain ⟨Cs, ns, cs, rfl⟩ := hs.shape
 obtain ⟨Ar, cr, rfl, _, _⟩ := hr.shape
 obtain ⟨An, cn, rfl, _, _⟩ := hn.shape
 obtain ⟨Ag, cg, rfl, _, _⟩ := hg.shape
 clear hs hr hn hg
 dsimp only at kp ⊢
 obtain ⟨e, he⟩ : ∃ e, e = checkE ⟨R, lk, st, rl, nl, gl⟩ := ⟨_, rfl⟩
 have HE := Lib.hid he
 rw [<- he]
 clear he
 by_cases h0 : e = 0
 ·subst h0
  cases lk with
  | none => have := HE.out; cases this
  | some L =>
   have HH := Lib.hid (HP.out.links L rfl).1
   obtain ⟨q, o, rfl, -⟩ := hh
   obtain ⟨SM, hSM⟩ : ∃ S, S = relM L ⟨R, some L, st, rl, nl, gl⟩ := ⟨_, rfl⟩
   have HRS : Hid (relS ⟨R, some L, st, rl, nl, gl⟩ = SM) := Lib.hid (by unfold relS; rw [if_pos HE.out.symm, hSM])
   have HOF : Hid (ofP ⟨R, some L, st, rl, nl, gl⟩ = ⟨R, some L, st &&& SM, C8 SM rl, keepC L SM nl, gl⟩) := Lib.hid (by unfold ofP; rw [if_pos HE.out.symm, hSM])
   have HON : Hid (ofKept ⟨R, some L, st, rl, nl, gl⟩ = Db SM rl rl.length) := Lib.hid (by unfold ofKept; rw [if_pos HE.out.symm, hSM])
   clear hSM
   go_enter Tryz.func41, Tryz.ntmps41
   go_wp2_with (first
    | ((with_reducible refine qA 1 ?_); refine AE hS rfl _ _ rfl (.agg #[.int .i64 R, .pointer (some ⟨q, 0, none⟩), .slice Cs ns cs, .slice Ar rl.length cr, .slice An nl.length cn, .slice Ag gl.length cg]) _ rfl rfl ?_; clear hS; intro g1 w_ hS; (try simp only [Act.put, Act.eval, zz, Value.cells] at hS))
    | ((with_reducible refine qA 2 ?_); refine qa hS #[.int .i64 0, .pointer none, .slice none 0 0, .slice none 0 0, .slice none 0 0, .slice none 0 0] ?_; clear hS; intro g2 w_ hS)
    | ((with_reducible refine qA 6 ?_); refine qa hS #[.slice none 0 0] ?_; clear hS; intro g6 w_ hS)
    | ((with_reducible refine qA 7 ?_); refine qa hS #[.int .i64 0, .pointer none, .slice none 0 0, .slice none 0 0, .slice none 0 0, .slice none 0 0] ?_; clear hS; intro g7 w_ hS)
    | ((with_reducible refine qB ?_); refine qc ?_ ?_ <;> intro h_ <;> go_prune)
    | ((with_reducible refine qk 31 ?_); first | refine BigFrame.wpList_want rfl fun _ hK => AZ rfl rfl (hS.box 1 rfl) Tryz.underlying31 rfl (by kernel_rfl) (hK _ _ ?_) | refine BigFrame.wpList_want rfl fun _ hK => AZ rfl rfl (hS.box 2 rfl) Tryz.underlying31 rfl (by kernel_rfl) (hK _ _ ?_))
    | ((with_reducible refine qM ?_); (first | refine qS hS ?_ | refine qT hS ?_); clear hS; intro w_ hS; (try simp only [Act.put, Act.eval, zz, Value.cells] at hS))
    | (go_at_call 39; refine (Do (kp _ _ hS.ro) HP.out (kt _ _ hS.ro)).mono ?_; rw [<- HE.out]; rintro r_ w_ ⟨_, rfl, rfl, hb_⟩; replace hS := hS.ext hb_; clear hb_)
    | (go_at_call 81; refine (GT (kp _ _ hS.ro) HP.out (kt _ _ hS.ro)).mono ?_; rw [HRS.out]; rintro r_ w_ ⟨_, rfl, h1, hb_⟩; replace hS := hS.ret hb_ A5 h1; clear h1 hb_; obtain ⟨A6, c6, l6, rfl, -⟩ := hS.ro.2.parts; obtain ⟨n6, hn6⟩ : ∃ n, n = l6.length := ⟨_, rfl⟩; rw [<- hn6] at hS ⊢; clear hn6)
    | (go_at_call 37; refine (copy_any HP.out hS (fun D w h => kp D w h.1)).mono ?_; clear hS; rintro r_ w_ ⟨u7, rfl, hS⟩; obtain ⟨lp7, s7, rv7, nv7, gv7, rfl, hh7, hs7, hr7, hn7, hg7⟩ := id hS.ro.2; dsimp only at hh7 hs7 hr7 hn7 hg7; obtain ⟨q7, o7, rfl, -⟩ := hh7; obtain ⟨C7, m7, d7, rfl⟩ := hs7.shape; obtain ⟨Ar7, cr7, rfl, _, _⟩ := hr7.shape; obtain ⟨An7, cn7, rfl, _, _⟩ := hn7.shape; obtain ⟨Ag7, cg7, rfl, _, _⟩ := hg7.shape; clear hs7 hr7 hn7 hg7))
   obtain ⟨K7, k0, k6, kq, ks7, hS2⟩ : ∃ K7 : (Nat -> Prop) -> World -> Prop, (∀ D w, K7 D w -> K D w) /\ (∀ D w, K7 D w -> A7 w D (.agg #[.slice A6 n6 c6]) SM) /\ (∀ D w, K7 D w -> Ba w D (.agg #[.int .i64 R, .pointer (some ⟨q7, 0, none⟩), .slice C7 m7 d7, .slice Ar7 rl.length cr7, .slice An7 nl.length cn7, .slice Ag7 gl.length cg7]) ⟨R, some L, st, rl, nl, gl⟩) /\ (∀ D w, K7 D w -> A7 w D (.agg #[.slice C7 m7 d7]) st) /\ St w0 w_ (.box g7 31 #[.int .i64 R, .pointer (some ⟨q7, 0, none⟩), .slice C7 m7 d7, .slice Ar7 rl.length cr7, .slice An7 nl.length cn7, .slice Ag7 gl.length cg7] :: .box g6 27 #[.slice A6 n6 c6] :: .box g2 31 #[.int .i64 0, .pointer none, .slice none 0 0, .slice none 0 0, .slice none 0 0, .slice none 0 0] :: .box g1 31 #[.int .i64 R, .pointer (some ⟨q, 0, none⟩), .slice Cs ns cs, .slice Ar rl.length cr, .slice An nl.length cn, .slice Ag gl.length cg] :: F) K7 := ⟨_, fun _ _ h => h.1.1, fun _ _ h => h.1.2, fun _ _ h => h.2, fun _ _ h => h.2.parts.2.1, hS⟩
   clear hS
   have hS := hS2
   clear hS2
   have KS7 := Lib.hid hS.stable
   refine Iv (fun i__ lo hi v w => match i__ with
    | 0 => v = .pointer (some ⟨g7, 0, none⟩)
    | 1 => v = .int .i64 R
    | 2 => v = .pointer (some ⟨g7, 1, none⟩)
    | 3 => v = .pointer (some ⟨q7, 0, none⟩)
    | 4 => v = .pointer (some ⟨g7, 2, none⟩)
    | 5 => v = .agg #[.slice C7 m7 d7]
    | 6 => v = .agg #[.slice A6 n6 c6]
    | 7 => ∃ u, v = .agg #[u] /\ u.oneCell' = true /\ A7 w (fun z => w_.heap.size <= z) (.agg #[u]) (st &&& SM)
    | 8 => v = .pointer (some ⟨g7, 5, none⟩)
    | 9 => v = .slice Ag7 gl.length cg7
    | 10 => ∃ u, v = .agg #[.int .i64 R, .pointer (some ⟨q7, 0, none⟩), u, .slice none 0 0, .slice none 0 0, .slice Ag7 gl.length cg7] /\ u.oneCell' = true /\ A7 w (fun z => w_.heap.size <= z) (.agg #[u]) (st &&& SM)
    | 11 => ∃ g, v = .pointer (some ⟨g, 0, none⟩) /\ Co w g 31 (zeroCells Tryz.prog 31) /\ lo <= g /\ g < hi
    | 12 => True
    | _ => True) 12 [] (by kernel_rfl) (by kernel_rfl) (by kernel_rfl) (by kernel_rfl) (by kernel_rfl) ?mono ⟨.inr ?r0, .inr ?r1, .inr ?r2, .inr ?r3, .inr ?r4, .inr ?r5, .inr ?r6, .inr ?r7, .inr ?r8, .inr ?r9, .inr ?r10, .inr ?r11, .inl (by decide), trivial⟩ ?post
   case mono =>
    intro i lo hi v w w' h hb
    match i, h with
    | 0, h | 1, h | 2, h | 3, h | 4, h | 5, h | 6, h => exact h
    | 7, h => exact ⟨_, h.choose_spec.1, h.choose_spec.2.1, h.choose_spec.2.2.ext hb⟩
    | 8, h | 9, h => exact h
    | 10, h => exact ⟨_, h.choose_spec.1, h.choose_spec.2.1, h.choose_spec.2.2.ext hb⟩
    | 11, h => exact by obtain ⟨g, e, hb2, h1⟩ := h; exact ⟨g, e, hb2.ext hb, h1⟩
    | 12, h => exact h
    | _ + 13, h => trivial
   case r0 =>
    refine Dy fun b__ w hW hold hpre => wU rfl fun K hK => ?_
    have e7 : b__.eval (.tmp 7) = .pointer (some ⟨g7, 0, none⟩) := (hold 7 (by kernel_rfl)).trans rfl
    exact CZ rfl e7 (by kernel_rfl) (hK _ _ rfl (Below.refl _ _))
   case r1 =>
    refine Dy fun b__ w hW hold hpre => wU rfl fun K hK => ?_
    have e24 : b__.eval (.tmp 24) = .pointer (some ⟨g7, 0, none⟩) := by obtain ⟨_, _, h⟩ := hpre ⟨0, _⟩ (Array.mem_of_getElem? (i := 0) rfl) rfl _ _ rfl rfl; exact h
    exact Ah rfl e24 (by kernel_rfl) (((hS.ext (Cp hW)).box 0 rfl).cell 0) (hK _ _ rfl (Below.refl _ _))
   case r2 =>
    refine Dy fun b__ w hW hold hpre => wU rfl fun K hK => ?_
    have e7 : b__.eval (.tmp 7) = .pointer (some ⟨g7, 0, none⟩) := (hold 7 (by kernel_rfl)).trans rfl
    exact CZ rfl e7 (by kernel_rfl) (hK _ _ rfl (Below.refl _ _))
   case r3 =>
    refine Dy fun b__ w hW hold hpre => wU rfl fun K hK => ?_
    have e26 : b__.eval (.tmp 26) = .pointer (some ⟨g7, 1, none⟩) := by obtain ⟨_, _, h⟩ := hpre ⟨2, _⟩ (Array.mem_of_getElem? (i := 0) rfl) rfl _ _ rfl rfl; exact h
    exact Ah rfl e26 (by kernel_rfl) (((hS.ext (Cp hW)).box 0 rfl).cell 1) (hK _ _ rfl (Below.refl _ _))
   case r4 =>
    refine Dy fun b__ w hW hold hpre => wU rfl fun K hK => ?_
    have e7 : b__.eval (.tmp 7) = .pointer (some ⟨g7, 0, none⟩) := (hold 7 (by kernel_rfl)).trans rfl
    exact CZ rfl e7 (by kernel_rfl) (hK _ _ rfl (Below.refl _ _))
   case r5 =>
    refine Dy fun b__ w hW hold hpre => wU rfl fun K hK => ?_
    have e28 : b__.eval (.tmp 28) = .pointer (some ⟨g7, 2, none⟩) := by obtain ⟨_, _, h⟩ := hpre ⟨4, _⟩ (Array.mem_of_getElem? (i := 0) rfl) rfl _ _ rfl rfl; exact h
    exact Ds rfl e28 ((hS.ext (Cp hW)).box 0 rfl) rfl Tryz.underlying27 (by kernel_rfl) (by kernel_rfl) (hK _ _ rfl (Below.refl _ _))
   case r6 =>
    refine Dy fun b__ w hW hold hpre => wU rfl fun K hK => ?_
    have e6 : b__.eval (.tmp 6) = .pointer (some ⟨g6, 0, none⟩) := (hold 6 (by kernel_rfl)).trans rfl
    exact AZ rfl e6 ((hS.ext (Cp hW)).box 1 rfl) Tryz.underlying27 rfl (by kernel_rfl) (hK _ _ rfl (Below.refl _ _))
   case r7 =>
    refine Dy fun b__ w hW hold hpre => wU rfl fun K hK => ?_
    have e29 : b__.eval (.tmp 29) = .agg #[.slice C7 m7 d7] := by obtain ⟨_, _, h⟩ := hpre ⟨5, _⟩ (Array.mem_of_getElem? (i := 0) rfl) rfl _ _ rfl rfl; exact h
    have e30 : b__.eval (.tmp 30) = .agg #[.slice A6 n6 c6] := by obtain ⟨_, _, h⟩ := hpre ⟨6, _⟩ (Array.mem_of_getElem? (i := 1) rfl) rfl _ _ rfl rfl; exact h
    refine Az rfl (by kernel_rfl) (by simp only [List.map_cons, List.map_nil, e29, e30]) (and_any (ks7 _ _ (hS.ext (Cp hW)).ro) (k6 _ _ (hS.ext (Cp hW)).ro)) fun v w' h hb => ?_
    obtain ⟨u, rfl, h1⟩ := Cr h
    exact hK _ w' ⟨u, rfl, h1, h.imp fun z hz _ => Nat.le_trans (Cp hW).size hz⟩ hb
   case r8 =>
    refine Dy fun b__ w hW hold hpre => wU rfl fun K hK => ?_
    have e7 : b__.eval (.tmp 7) = .pointer (some ⟨g7, 0, none⟩) := (hold 7 (by kernel_rfl)).trans rfl
    exact CZ rfl e7 (by kernel_rfl) (hK _ _ rfl (Below.refl _ _))
   case r9 =>
    refine Dy fun b__ w hW hold hpre => wU rfl fun K hK => ?_
    have e32 : b__.eval (.tmp 32) = .pointer (some ⟨g7, 5, none⟩) := by obtain ⟨_, _, h⟩ := hpre ⟨8, _⟩ (Array.mem_of_getElem? (i := 0) rfl) rfl _ _ rfl rfl; exact h
    exact Ah rfl e32 (by kernel_rfl) (((hS.ext (Cp hW)).box 0 rfl).cell 5) (hK _ _ rfl (Below.refl _ _))
   case r10 =>
    refine Dy fun b__ w hW hold hpre => wU rfl fun K hK => ?_
    have e25 : b__.eval (.tmp 25) = .int .i64 R := by obtain ⟨_, _, h⟩ := hpre ⟨1, _⟩ (Array.mem_of_getElem? (i := 0) rfl) rfl _ _ rfl rfl; exact h
    have e27 : b__.eval (.tmp 27) = .pointer (some ⟨q7, 0, none⟩) := by obtain ⟨_, _, h⟩ := hpre ⟨3, _⟩ (Array.mem_of_getElem? (i := 1) rfl) rfl _ _ rfl rfl; exact h
    obtain ⟨lo31, hi31, e31⟩ : ∃ lo hi : Nat, (fun (v : Value) (w : World) => ∃ u, v = .agg #[u] /\ u.oneCell' = true /\ A7 w (fun z => w_.heap.size <= z) (.agg #[u]) (st &&& SM)) (b__.eval (.tmp 31)) w := hpre ⟨7, _⟩ (Array.mem_of_getElem? (i := 2) rfl) rfl _ _ rfl rfl
    have e33 : b__.eval (.tmp 33) = .slice Ag7 gl.length cg7 := by obtain ⟨_, _, h⟩ := hpre ⟨9, _⟩ (Array.mem_of_getElem? (i := 3) rfl) rfl _ _ rfl rfl; exact h
    obtain ⟨u, hu, h1, h2⟩ := e31
    exact CG rfl (ps := [(0, .int .i64 R), (1, .pointer (some ⟨q7, 0, none⟩)), (2, .agg #[u]), (5, .slice Ag7 gl.length cg7)]) (cells := #[.int .i64 R, .pointer (some ⟨q7, 0, none⟩), u, .slice none 0 0, .slice none 0 0, .slice Ag7 gl.length cg7]) (by simp [e25, e27, hu, e33]) (by kernel_rfl) (hK _ _ ⟨u, rfl, h1, h2⟩ (Below.refl _ _))
   case r11 =>
    refine Dy fun b__ w hW hold hpre => ⟨fun hwant K hK => opw_alloc rfl (by kernel_rfl) fun w' hb hbel => hK _ _ ⟨_, rfl, hb, Nat.le_refl _, hb.lt⟩ hbel, fun hwant => ?_⟩
    exact wo hwant
   case post =>
    intro b__ wz lo hi hW hdf hsz hold hT hap hlim
    have e8 : (fun (v : Value) (w : World) => ∃ g, v = .pointer (some ⟨g, 0, none⟩) /\ Co w g 31 (zeroCells Tryz.prog 31) /\ (lo 11) <= g /\ g < (hi 11)) (b__.eval (.tmp 8)) wz := hT 11 _ 8 (by decide) rfl rfl
    have e34 : (fun (v : Value) (w : World) => ∃ u, v = .agg #[.int .i64 R, .pointer (some ⟨q7, 0, none⟩), u, .slice none 0 0, .slice none 0 0, .slice Ag7 gl.length cg7] /\ u.oneCell' = true /\ A7 w (fun z => w_.heap.size <= z) (.agg #[u]) (st &&& SM)) (b__.eval (.tmp 34)) wz := hT 10 _ 34 (by decide) rfl rfl
    have e31 : (fun (v : Value) (w : World) => ∃ u, v = .agg #[u] /\ u.oneCell' = true /\ A7 w (fun z => w_.heap.size <= z) (.agg #[u]) (st &&& SM)) (b__.eval (.tmp 31)) wz := hT 7 _ 31 (by decide) rfl rfl
    obtain ⟨vs, hvs, hb⟩ := Fc hdf hsz hold
    replace e8 := (hvs 8) ▸ e8
    replace e34 := (hvs 34) ▸ e34
    have e24 : vs 24 = .pointer (some ⟨g7, 0, none⟩) := (hvs 24).symm.trans (hT 0 _ 24 (by decide) rfl rfl)
    have e25 : vs 25 = .int .i64 R := (hvs 25).symm.trans (hT 1 _ 25 (by decide) rfl rfl)
    have e26 : vs 26 = .pointer (some ⟨g7, 1, none⟩) := (hvs 26).symm.trans (hT 2 _ 26 (by decide) rfl rfl)
    have e27 : vs 27 = .pointer (some ⟨q7, 0, none⟩) := (hvs 27).symm.trans (hT 3 _ 27 (by decide) rfl rfl)
    have e28 : vs 28 = .pointer (some ⟨g7, 2, none⟩) := (hvs 28).symm.trans (hT 4 _ 28 (by decide) rfl rfl)
    have e29 : vs 29 = .agg #[.slice C7 m7 d7] := (hvs 29).symm.trans (hT 5 _ 29 (by decide) rfl rfl)
    have e30 : vs 30 = .agg #[.slice A6 n6 c6] := (hvs 30).symm.trans (hT 6 _ 30 (by decide) rfl rfl)
    replace e31 := (hvs 31) ▸ e31
    have e32 : vs 32 = .pointer (some ⟨g7, 5, none⟩) := (hvs 32).symm.trans (hT 8 _ 32 (by decide) rfl rfl)
    have e33 : vs 33 = .slice Ag7 gl.length cg7 := (hvs 33).symm.trans (hT 9 _ 33 (by decide) rfl rfl)
    subst hb
    clear hvs hold hT hdf hsz
    simp only [AC, Act.put, zz, ze]
    obtain ⟨g8, e8, hb8, l8, u8⟩ := e8
    obtain ⟨u, e34, hu1, hu2⟩ := e34
    obtain ⟨Au, cu, lu, hvu, -⟩ := hu2.parts
    obtain rfl : u = .slice Au lu.length cu := by injection hvu with hvu; simpa using hvu
    clear hvu
    obtain ⟨nu, hnu⟩ : ∃ n, n = lu.length := ⟨_, rfl⟩
    rw [<- hnu] at hu2 e34
    clear hnu
    have L11 := (hlim 11 (by decide) (by decide)).1
    have hz : zeroCells Tryz.prog 31 = #[.int .i64 0, .pointer none, .slice none 0 0, .slice none 0 0, .slice none 0 0, .slice none 0 0] := by kernel_rfl
    rw [hz] at hb8
    have hu3 := hu2.off hb8 (by
     intro i x hx n
     match i, hx with
     | 0, hx => cases hx; exact nofun
     | 1, hx => cases hx; exact nofun
     | 2, hx => cases hx; exact nofun
     | 3, hx => cases hx; exact nofun
     | 4, hx => cases hx; exact nofun
     | 5, hx => cases hx; exact nofun
     | i + 6, hx => simp at hx)
    have hfr : ∀ b, (w_.heap.size <= b /\ b ≠ g8) -> Da (.box g8 31 #[.int .i64 0, .pointer none, .slice none 0 0, .slice none 0 0, .slice none 0 0, .slice none 0 0] :: (.box g7 31 #[.int .i64 R, .pointer (some ⟨q7, 0, none⟩), .slice C7 m7 d7, .slice Ar7 rl.length cr7, .slice An7 nl.length cn7, .slice Ag7 gl.length cg7] :: .box g6 27 #[.slice A6 n6 c6] :: .box g2 31 #[.int .i64 0, .pointer none, .slice none 0 0, .slice none 0 0, .slice none 0 0, .slice none 0 0] :: .box g1 31 #[.int .i64 R, .pointer (some ⟨q, 0, none⟩), .slice Cs ns cs, .slice Ar rl.length cr, .slice An nl.length cn, .slice Ag gl.length cg] :: F)) b := fun b hb f hf => by
     rcases List.mem_cons.1 hf with rfl | hf
     ·exact fun e => hb.2 (by injection e with e; exact e.symm)
     ·exact hS.fresh hb.1 f hf
    have hS2 := (hS.new hW (.box g8 31 #[.int .i64 0, .pointer none, .slice none 0 0, .slice none 0 0, .slice none 0 0, .slice none 0 0]) ⟨by omega, hb8⟩).add A5 hu3 fun b hb _ => hfr b hb
    clear hS hu2 hu3 hfr hW hlim hap hz
    have hS := hS2
    clear hS2
    simp only [show vs (8 : Nat) = _ from e8, show vs (34 : Nat) = _ from e34]
    (intro o_ ho_; simp only [List.getElem?_toArray, List.getElem?_cons_succ, List.getElem?_cons_zero, Option.some.injEq] at ho_; subst ho_)
    refine Cn rfl rfl rfl (hS.box 0 rfl) (by kernel_rfl) (by kernel_rfl) (by simp [Value.oneCell']) fun w4 h4 hU4 => ?_
    replace hS := hS.upd 0 rfl (.box g8 31 #[.int .i64 R, .pointer (some ⟨q7, 0, none⟩), .slice Au nu cu, .slice none 0 0, .slice none 0 0, .slice Ag7 gl.length cg7]) (Bn hU4) ⟨(hS.holds (.box g8 31 #[.int .i64 0, .pointer none, .slice none 0 0, .slice none 0 0, .slice none 0 0, .slice none 0 0]) (by simp)).1, h4⟩ fun _ e => .inl e
    simp only [CJ]
    simp only [Act.put, List.setIfInBounds_toArray, List.set_cons_zero, List.set_cons_succ]
    clear h4 hU4 hb8 e8 e34 l8 u8 L11
    go_wp2_with (first | ((with_reducible refine qK ?_); refine qC hS ?_))
    obtain ⟨KA, ka, kr7, kn7, hS2⟩ : ∃ KA : (Nat -> Prop) -> World -> Prop, Hid (∀ D w, KA D w -> K7 D w /\ A7 w D (.agg #[.slice Au nu cu]) (st &&& SM)) /\ (∀ D w, KA D w -> Bm w D (.slice Ar7 rl.length cr7) rl) /\ (∀ D w, KA D w -> AH w D (.slice An7 nl.length cn7) nl) /\ St w0 w4 (.box g8 31 #[.int .i64 R, .pointer (some ⟨q7, 0, none⟩), .slice Au nu cu, .slice none 0 0, .slice none 0 0, .slice Ag7 gl.length cg7] :: (.box g7 31 #[.int .i64 R, .pointer (some ⟨q7, 0, none⟩), .slice C7 m7 d7, .slice Ar7 rl.length cr7, .slice An7 nl.length cn7, .slice Ag7 gl.length cg7] :: .box g6 27 #[.slice A6 n6 c6] :: .box g2 31 #[.int .i64 0, .pointer none, .slice none 0 0, .slice none 0 0, .slice none 0 0, .slice none 0 0] :: .box g1 31 #[.int .i64 R, .pointer (some ⟨q, 0, none⟩), .slice Cs ns cs, .slice Ar rl.length cr, .slice An nl.length cn, .slice Ag gl.length cg] :: F)) KA := ⟨_, Lib.hid fun D w h => ⟨h.1, h.2.imp fun _ h _ => h⟩, fun D w h => (kq _ _ h.1).parts.2.2.1, fun D w h => (kq _ _ h.1).parts.2.2.2.1, hS⟩
    clear hS
    have hS := (hS2.nil 83 5).nil 3 1
    clear hS2
    have KSA := Lib.hid hS.stable
    go_loopw [9, 38] (fun kw i wr => ∃ (j : Nat) (kv rv : Value) (xs : List Value), i = .int .i64 (j : Nat) /\ kv = kw /\ j <= rl.length /\ St w0 wr (.own kv 3 1 (Db SM rl j).length (AX (Db SM rl j)) :: .own rv 83 5 (C8 SM (rl.take j)).length xs :: .box g8 31 #[.int .i64 R, .pointer (some ⟨q7, 0, none⟩), .slice Au nu cu, rv, .slice none 0 0, .slice Ag7 gl.length cg7] :: (.box g7 31 #[.int .i64 R, .pointer (some ⟨q7, 0, none⟩), .slice C7 m7 d7, .slice Ar7 rl.length cr7, .slice An7 nl.length cn7, .slice Ag7 gl.length cg7] :: .box g6 27 #[.slice A6 n6 c6] :: .box g2 31 #[.int .i64 0, .pointer none, .slice none 0 0, .slice none 0 0, .slice none 0 0, .slice none 0 0] :: .box g1 31 #[.int .i64 R, .pointer (some ⟨q, 0, none⟩), .slice Cs ns cs, .slice Ar rl.length cr, .slice An nl.length cn, .slice Ag gl.length cg] :: F)) (fun D w => KA D w /\ AM w D xs (C8 SM (rl.take j)))) (fun _ i _ => rl.length - (intOf i).toNat)
    case atStart => exact ⟨0, _, _, [], rfl, rfl, by omega, hS.mono (KSA.out.and C0) fun D w h => ⟨h, fun i z hi => by simp [C8] at hi⟩⟩
    case round =>
     clear hS
     obtain ⟨j, kv, rv, xs, rfl, rfl, hj, hS⟩ := hrel
     by_cases hlj : j < rl.length
     ·obtain ⟨b, o2, y, n, rfl, _, hb, c0, c1, c2, c3, c4, hy, hn⟩ := (kr7 _ _ hS.ro.1).at_ hlj
      obtain ⟨Ay, my, cy, rfl⟩ := hy.shape
      obtain ⟨Am, mn, cm, rfl⟩ := hn.shape
      have HGj := Lib.hid (Bz AL hlj)
      have HLK : Hid ((C8 SM (rl.take j)).length <= 100000 /\ (Db SM rl j).length <= 100000) := Lib.hid ⟨Nat.le_trans (List.length_filter_le _ _) (by rw [List.length_take]; omega), by unfold Db; rw [List.length_map]; exact Nat.le_trans (List.length_filter_le _ _) (by rw [List.length_range]; omega)⟩
      obtain ⟨KC, kc, hS2⟩ : ∃ KC : (Nat -> Prop) -> World -> Prop, Hid (∀ D w, KC D w -> (KA D w /\ AM w D xs (C8 SM (rl.take j))) /\ A7 w D (.agg #[.slice Ay my cy]) (rl.getD j AL).yes /\ A7 w D (.agg #[.slice Am mn cm]) (rl.getD j AL).no) /\ St w0 wr (.own kv 3 1 (Db SM rl j).length (AX (Db SM rl j)) :: .own rv 83 5 (C8 SM (rl.take j)).length xs :: .box g8 31 #[.int .i64 R, .pointer (some ⟨q7, 0, none⟩), .slice Au nu cu, rv, .slice none 0 0, .slice Ag7 gl.length cg7] :: (.box g7 31 #[.int .i64 R, .pointer (some ⟨q7, 0, none⟩), .slice C7 m7 d7, .slice (some ⟨b, o2, none⟩) rl.length cr7, .slice An7 nl.length cn7, .slice Ag7 gl.length cg7] :: .box g6 27 #[.slice A6 n6 c6] :: .box g2 31 #[.int .i64 0, .pointer none, .slice none 0 0, .slice none 0 0, .slice none 0 0, .slice none 0 0] :: .box g1 31 #[.int .i64 R, .pointer (some ⟨q, 0, none⟩), .slice Cs ns cs, .slice Ar rl.length cr, .slice An nl.length cn, .slice Ag gl.length cg] :: F)) KC := ⟨_, Lib.hid fun D w h => h, hS.add (D := Da _) (A5.and A5) ⟨hy, hn⟩ fun _ h _ => h⟩
      clear hS hy hn
      have hS := hS2
      clear hS2
      have HTR := Lib.hid (keepR_step (S := SM) HGj.out)
      have HTN := Lib.hid (keepN_step (S := SM) HGj.out)
      generalize rl.getD j AL = z at *
      obtain ⟨zv, ry, rn, rt, ro⟩ := z
      dsimp only at kc c0 c1 c2 c3 c4
      obtain ⟨b1, hb1⟩ : ∃ b, b = B5 SM rt := ⟨_, rfl⟩
      have HB1 := Lib.hid hb1
      generalize hKR : C8 SM (rl.take j) = KR at *
      generalize hKN : Db SM rl j = KN at *
      have k61 : Hid (∀ D w, KC D w -> A7 w D (.agg #[.slice A6 n6 c6]) SM) := Lib.hid fun D w h => k6 _ _ (ka.out _ _ (kc.out _ _ h).1.1).1
      cases b1
      ·have HT1 : Hid (C8 SM (rl.take (j + 1)) = KR) := Lib.hid (HTR.out.trans (if_neg (by rw [<- hb1]; exact Bool.false_ne_true)))
       have HT2 : Hid (Db SM rl (j + 1) = KN) := Lib.hid (HTN.out.trans (if_neg (by rw [<- hb1]; exact Bool.false_ne_true)))
       clear hb1 hKR hKN HTR HTN
       go_wp2_with (first
        | ((with_reducible refine qB ?_); refine qc ?_ ?_ <;> intro h_ <;> go_prune)
        | ((with_reducible refine qA 42 ?_); refine BigFrame.wpList_want rfl fun _ hK => AQ (cs := [.bool zv, .slice Ay my cy, .slice Am mn cm, .int .i64 rt, .int .i64 ro]) rfl rfl (EO c0 c1 c2 c3 c4) Tryz.underlying83 rfl (by kernel_rfl) (hK _ _ ?_))
        | ((with_reducible refine qA 11 ?_); refine qa hS #[.bool false, .slice none 0 0, .slice none 0 0, .int .i64 0, .int .i64 0] ?_; clear hS; intro g11 w_ hS)
        | ((with_reducible refine qM ?_); (first | refine qS hS ?_ | refine qT hS ?_); clear hS; intro w_ hS; (try simp only [Act.put, Act.eval, zz, Value.cells] at hS))
        | ((with_reducible refine qk 27 ?_); first | (refine Aa hS 0 rfl _ _ rfl _ _ rfl _ _ rfl _ (by first | rfl | assumption) Tryz.underlying27 rfl (by kernel_rfl) ?_) | (refine Aa hS 1 rfl _ _ rfl _ _ rfl _ _ rfl _ (by first | rfl | assumption) Tryz.underlying27 rfl (by kernel_rfl) ?_) | (refine Aa hS 2 rfl _ _ rfl _ _ rfl _ _ rfl _ (by first | rfl | assumption) Tryz.underlying27 rfl (by kernel_rfl) ?_) | (refine Aa hS 3 rfl _ _ rfl _ _ rfl _ _ rfl _ (by first | rfl | assumption) Tryz.underlying27 rfl (by kernel_rfl) ?_) | (refine Aa hS 4 rfl _ _ rfl _ _ rfl _ _ rfl _ (by first | rfl | assumption) Tryz.underlying27 rfl (by kernel_rfl) ?_) | (refine Aa hS 5 rfl _ _ rfl _ _ rfl _ _ rfl _ (by first | rfl | assumption) Tryz.underlying27 rfl (by kernel_rfl) ?_))
        | ((with_reducible refine qK ?_); refine qC hS ?_)
        | (go_at_call 63; refine (BP _ SM rt _ _ (k61.out _ _ hS.ro)).mono ?_; rw [<- HB1.out]; rintro r_ w_ ⟨_, rfl, rfl, hb_⟩; replace hS := hS.ext hb_; clear hb_)
        )
       refine ⟨⟨j + 1, _, rv, xs, by go_num, rfl, hlj, ?_⟩, by simp [intOf]; omega⟩
       rw [HT1.out, HT2.out]
       exact (hS.sub (List.sublist_cons_self _ _)).mono (KSA.out.and C0) fun D w h => (kc.out _ _ h).1
      ·have HT1 : Hid (C8 SM (rl.take (j + 1)) = KR ++ [⟨zv, ry, rn, rt, ro⟩]) := Lib.hid (HTR.out.trans (if_pos hb1.symm))
       have HT2 : Hid (Db SM rl (j + 1) = KN ++ [(j : Int)]) := Lib.hid (HTN.out.trans (if_pos hb1.symm))
       clear hb1 hKR hKN HTR HTN
       have hkl1 := HLK.out.1
       have hkl2 := HLK.out.2
       obtain ⟨Arv, crv, rfl, _, _⟩ := B7 (hS.own 1 rfl)
       go_wp2_with (first
        | ((with_reducible refine qB ?_); refine qc ?_ ?_ <;> intro h_ <;> go_prune)
        | ((with_reducible refine qA 42 ?_); refine BigFrame.wpList_want rfl fun _ hK => AQ (cs := [.bool zv, .slice Ay my cy, .slice Am mn cm, .int .i64 rt, .int .i64 ro]) rfl rfl (EO c0 c1 c2 c3 c4) Tryz.underlying83 rfl (by kernel_rfl) (hK _ _ ?_))
        | ((with_reducible refine qA 11 ?_); refine qa hS #[.bool false, .slice none 0 0, .slice none 0 0, .int .i64 0, .int .i64 0] ?_; clear hS; intro g11 w_ hS)
        | ((with_reducible refine qM ?_); (first | refine qS hS ?_ | refine qT hS ?_); clear hS; intro w_ hS; (try simp only [Act.put, Act.eval, zz, Value.cells] at hS))
        | ((with_reducible refine qk 27 ?_); first | (refine Aa hS 0 rfl _ _ rfl _ _ rfl _ _ rfl _ (by first | rfl | assumption) Tryz.underlying27 rfl (by kernel_rfl) ?_) | (refine Aa hS 1 rfl _ _ rfl _ _ rfl _ _ rfl _ (by first | rfl | assumption) Tryz.underlying27 rfl (by kernel_rfl) ?_) | (refine Aa hS 2 rfl _ _ rfl _ _ rfl _ _ rfl _ (by first | rfl | assumption) Tryz.underlying27 rfl (by kernel_rfl) ?_) | (refine Aa hS 3 rfl _ _ rfl _ _ rfl _ _ rfl _ (by first | rfl | assumption) Tryz.underlying27 rfl (by kernel_rfl) ?_) | (refine Aa hS 4 rfl _ _ rfl _ _ rfl _ _ rfl _ (by first | rfl | assumption) Tryz.underlying27 rfl (by kernel_rfl) ?_) | (refine Aa hS 5 rfl _ _ rfl _ _ rfl _ _ rfl _ (by first | rfl | assumption) Tryz.underlying27 rfl (by kernel_rfl) ?_))
        | ((with_reducible refine qK ?_); refine qC hS ?_)
        | (go_at_call 63; refine (BP _ SM rt _ _ (k61.out _ _ hS.ro)).mono ?_; rw [<- HB1.out]; rintro r_ w_ ⟨_, rfl, rfl, hb_⟩; replace hS := hS.ext hb_; clear hb_)
        | ((with_reducible refine qK ?_); refine qL hS Tryz.underlying83 ?_)
        | ((with_reducible refine qA 50 ?_); refine Cq hS 2 rfl rfl _ _ _ _ rfl rfl IO (.slice Arv KR.length crv) KR.length xs (.agg #[.bool zv, .slice Ay my cy, .slice Am mn cm, .int .i64 rt, .int .i64 ro]) #[.bool zv, .slice Ay my cy, .slice Am mn cm, .int .i64 rt, .int .i64 ro] rfl (by kernel_rfl) rfl rfl rfl rfl (by intro u hu; simp at hu; rcases hu with rfl | rfl | rfl | rfl | rfl <;> rfl) (by omega) (by omega) ?_; clear hS; intro z_ v' w_ hS; (try simp only [Act.put, Act.eval, zz, Value.cells] at hS); obtain ⟨Arv2, crv2, rfl, _, _⟩ := B7 (hS.own 2 rfl))
        | ((with_reducible refine qA 54 ?_); refine Cq hS 1 rfl rfl _ _ _ _ rfl rfl Dh kv KN.length (AX KN) (.int .i64 (j : Nat)) #[.int .i64 (j : Nat)] rfl (by kernel_rfl) rfl rfl rfl rfl (by intro u hu; simp at hu; subst hu; rfl) (by omega) (by omega) ?_; clear hS; intro z_ kv' w_ hS; (try simp only [Act.put, Act.eval, zz, Value.cells] at hS)))
       have hxl := (hS.own 2 rfl).1
       refine ⟨⟨j + 1, _, .slice Arv2 (KR.length + 1) crv2, xs ++ [.bool zv, .slice Ay my cy, .slice Am mn cm, .int .i64 rt, .int .i64 ro], by go_num, rfl, hlj, ?_⟩, by simp [intOf]; omega⟩
       rw [HT1.out, HT2.out, show (KR ++ [(⟨zv, ry, rn, rt, ro⟩ : AP)]).length = KR.length + 1 by simp, show (KN ++ [(j : Int)]).length = KN.length + 1 by simp, show AX (KN ++ [(j : Int)]) = AX KN ++ [.int .i64 (j : Nat)] by simp [AX]]
       exact (hS.sub (List.sublist_cons_self _ _)).mono (KSA.out.and C0) fun D w h => ⟨(kc.out _ _ h).1.1, AM.append (by simp at hxl; omega) (kc.out _ _ h).1.2 (AM.single (z := ⟨zv, ry, rn, rt, ro⟩) (kc.out _ _ h).2.1 (kc.out _ _ h).2.2)⟩
     ·obtain rfl : rl.length = j := by omega
      rw [List.take_length] at hS
      have HLK : Hid ((C8 SM rl).length <= 100000) := Lib.hid (Nat.le_trans (List.length_filter_le _ _) (by omega))
      go_wp2_with (first | ((with_reducible refine qB ?_); refine qc ?_ ?_ <;> intro h_ <;> go_prune) | ((with_reducible refine qK ?_); refine qC hS ?_))
      obtain ⟨KR, hKR⟩ : ∃ KR, KR = C8 SM rl := ⟨_, rfl⟩
      obtain ⟨KN, hKN⟩ : ∃ KN, KN = Db SM rl rl.length := ⟨_, rfl⟩
      have HKR := Lib.hid hKR
      have HKN := Lib.hid hKN
      rw [<- hKR] at hS HLK
      rw [<- hKN] at hS
      clear hKR hKN
      obtain ⟨Arv, crv, rfl, _, _⟩ := B7 (hS.own 1 rfl)
      obtain ⟨KB, kb, hS2⟩ : ∃ KB : (Nat -> Prop) -> World -> Prop, Hid (∀ D w, KB D w -> KA D w /\ AM w D xs KR) /\ St w0 wr (.own kv 3 1 KN.length (AX KN) :: .own (.slice Arv KR.length crv) 83 5 KR.length xs :: .box g8 31 #[.int .i64 R, .pointer (some ⟨q7, 0, none⟩), .slice Au nu cu, .slice Arv KR.length crv, .slice none 0 0, .slice Ag7 gl.length cg7] :: (.box g7 31 #[.int .i64 R, .pointer (some ⟨q7, 0, none⟩), .slice C7 m7 d7, .slice Ar7 rl.length cr7, .slice An7 nl.length cn7, .slice Ag7 gl.length cg7] :: .box g6 27 #[.slice A6 n6 c6] :: .box g2 31 #[.int .i64 0, .pointer none, .slice none 0 0, .slice none 0 0, .slice none 0 0, .slice none 0 0] :: .box g1 31 #[.int .i64 R, .pointer (some ⟨q, 0, none⟩), .slice Cs ns cs, .slice Ar rl.length cr, .slice An nl.length cn, .slice Ag gl.length cg] :: F)) KB := ⟨_, Lib.hid fun _ _ h => h, hS⟩
      clear hS
      have hS := hS2.nil 81 2
      clear hS2
      have KSB := Lib.hid hS.stable
      go_loopw [61] (fun i wr => ∃ (j : Nat) (nv : Value) (ys : List Value), i = .int .i64 (j : Nat) /\ j <= nl.length /\ St w0 wr (.own nv 81 2 (keepC L SM (nl.take j)).length ys :: .own kv 3 1 KN.length (AX KN) :: .own (.slice Arv KR.length crv) 83 5 KR.length xs :: .box g8 31 #[.int .i64 R, .pointer (some ⟨q7, 0, none⟩), .slice Au nu cu, .slice Arv KR.length crv, nv, .slice Ag7 gl.length cg7] :: (.box g7 31 #[.int .i64 R, .pointer (some ⟨q7, 0, none⟩), .slice C7 m7 d7, .slice Ar7 rl.length cr7, .slice An7 nl.length cn7, .slice Ag7 gl.length cg7] :: .box g6 27 #[.slice A6 n6 c6] :: .box g2 31 #[.int .i64 0, .pointer none, .slice none 0 0, .slice none 0 0, .slice none 0 0, .slice none 0 0] :: .box g1 31 #[.int .i64 R, .pointer (some ⟨q, 0, none⟩), .slice Cs ns cs, .slice Ar rl.length cr, .slice An nl.length cn, .slice Ag gl.length cg] :: F)) (fun D w => KB D w /\ AB w D ys (keepC L SM (nl.take j)))) (fun i _ => nl.length - (intOf i).toNat)
      case atStart => exact ⟨0, _, [], rfl, by omega, hS.mono (KSB.out.and CF) fun D w h => ⟨h, fun i y n hi => by simp [keepC] at hi⟩⟩
      case round =>
       clear hS
       obtain ⟨j, nv, ys, rfl, hj, hS⟩ := hrel
       by_cases hlj : j < nl.length
       ·obtain ⟨b, o2, y, n, rfl, _, hb, c0, c1, hy, hn⟩ := (kn7 _ _ (kb.out _ _ hS.ro.1).1).at_ hlj
        obtain ⟨Ay, my, cy, rfl⟩ := hy.shape
        obtain ⟨Am, mn, cm, rfl⟩ := hn.shape
        have HGj := Lib.hid (Bz (0, 0) hlj)
        have HLC : Hid ((keepC L SM (nl.take j)).length <= 100000) := Lib.hid (Nat.le_trans (List.length_filter_le _ _) (by rw [List.length_take]; omega))
        obtain ⟨KC, kc, hS2⟩ : ∃ KC : (Nat -> Prop) -> World -> Prop, Hid (∀ D w, KC D w -> (KB D w /\ AB w D ys (keepC L SM (nl.take j))) /\ Bd w D (.agg #[.slice Ay my cy, .slice Am mn cm]) (nl.getD j (0, 0))) /\ St w0 wr (.own nv 81 2 (keepC L SM (nl.take j)).length ys :: .own kv 3 1 KN.length (AX KN) :: .own (.slice Arv KR.length crv) 83 5 KR.length xs :: .box g8 31 #[.int .i64 R, .pointer (some ⟨q7, 0, none⟩), .slice Au nu cu, .slice Arv KR.length crv, nv, .slice Ag7 gl.length cg7] :: (.box g7 31 #[.int .i64 R, .pointer (some ⟨q7, 0, none⟩), .slice C7 m7 d7, .slice Ar7 rl.length cr7, .slice (some ⟨b, o2, none⟩) nl.length cn7, .slice Ag7 gl.length cg7] :: .box g6 27 #[.slice A6 n6 c6] :: .box g2 31 #[.int .i64 0, .pointer none, .slice none 0 0, .slice none 0 0, .slice none 0 0, .slice none 0 0] :: .box g1 31 #[.int .i64 R, .pointer (some ⟨q, 0, none⟩), .slice Cs ns cs, .slice Ar rl.length cr, .slice An nl.length cn, .slice Ag gl.length cg] :: F)) KC := ⟨_, Lib.hid fun D w h => h, hS.add (D := Da _) Bk ⟨_, _, rfl, hy, hn⟩ fun _ h _ => h⟩
        clear hS hy hn
        have hS := hS2
        clear hS2
        have HTC := Lib.hid (keepC_step (L := L) (S := SM) HGj.out)
        generalize nl.getD j (0, 0) = z at *
        obtain ⟨b1, hb1⟩ : ∃ b, b = (depC L z &&& SM != 0) := ⟨_, rfl⟩
        have HB1 := Lib.hid hb1
        have HDZ : Hid (depM L (z.1 ||| z.2) = depC L z) := Lib.hid rfl
        generalize hKC : keepC L SM (nl.take j) = KCL at *
        have k62 : Hid (∀ D w, KC D w -> K7 D w) := Lib.hid fun D w h => (ka.out _ _ (kb.out _ _ (kc.out _ _ h).1.1).1).1
        go_wp2_with (first
         | ((with_reducible refine qB ?_); refine qc ?_ ?_ <;> intro h_ <;> go_prune)
         | ((with_reducible refine qA 64 ?_); refine BigFrame.wpList_want rfl fun _ hK => AQ (cs := [.slice Ay my cy, .slice Am mn cm]) rfl rfl (Jd c0 c1) Tryz.underlying81 rfl (by kernel_rfl) (hK _ _ ?_))
         | ((with_reducible refine qA 13 ?_); refine qa hS #[.slice none 0 0, .slice none 0 0] ?_; clear hS; intro g13 w_ hS)
         | ((with_reducible refine qM ?_); (first | refine qS hS ?_ | refine qT hS ?_); clear hS; intro w_ hS; (try simp only [Act.put, Act.eval, zz, Value.cells] at hS)))
        refine BF [.i (.agg #[.int .i64 R, .pointer (some ⟨q, 0, none⟩), .slice Cs ns cs, .slice Ar rl.length cr, .slice An nl.length cn, .slice Ag gl.length cg]), .i (.agg #[.slice Ay my cy, .slice Am mn cm]), .s (fun v w => A7 w (fun _ => True) v (depC L z)) fun v w w' h hb => h.ext hb, .i (.agg #[.slice A6 n6 c6]), .i (.bool b1)] ⟨uR (h := fun w hW hN => (hS.ext hW).box 8 rfl), uR (h := fun w hW hN => (hS.ext hW).box 0 rfl), ?_, uR (h := fun w hW hN => (hS.ext hW).box 6 rfl), ?_, trivial⟩ ?_
        ·refine uT fun b__ w hW hE K hK => ?_
         have e65 := hE 65
         have e66 := hE 66
         refine Az rfl (by kernel_rfl) (by simp only [List.map_cons, List.map_nil, e65, e66]) (Dw (kp _ _ (k0 _ _ (k62.out _ _ (hS.ext hW).ro))) rfl HH.out (kt _ _ (k0 _ _ (k62.out _ _ (hS.ext hW).ro))) (kc.out _ _ (hS.ext hW).ro).2) fun v w' h hb => ?_
         exact hK v w' (by rw [<- HDZ.out]; exact h.imp fun _ _ _ => trivial) hb
        ·refine uT fun b__ w hW hE K hK => ?_
         have e67 := hE 67
         have e68 := hE 68
         exact Az rfl (by kernel_rfl) (by simp only [List.map_cons, List.map_nil, e68]) (El _ _ (depC L z) SM _ _ _ e67 (k6 _ _ (k62.out _ _ (hS.ext hW).ro))) fun v w' h hb => hK v w' (h.trans (by rw [HB1.out])) hb
        ·intro vs wz hW hT
         obtain ⟨e65, e66, e67, e68, e69, -⟩ := hT
         have bx : (fun _ : Nat => True) 0 := trivial
         simp only [AC, Act.put, zz, ze]
         rw [e69]
         replace hS := hS.ext hW
         clear hW e65 e66 e67 e68 e69
         cases b1
         ·have HT1 : Hid (keepC L SM (nl.take (j + 1)) = KCL) := Lib.hid (HTC.out.trans (if_neg (by rw [<- hb1]; exact Bool.false_ne_true)))
          clear hb1 hKC HTC
          go_wp2_with fail
          refine ⟨⟨j + 1, nv, ys, by go_num, hlj, ?_⟩, by simp [intOf]; omega⟩
          rw [HT1.out]
          exact (hS.sub (List.sublist_cons_self _ _)).mono (KSB.out.and CF) fun D w h => (kc.out _ _ h).1
         ·have HT1 : Hid (keepC L SM (nl.take (j + 1)) = KCL ++ [z]) := Lib.hid (HTC.out.trans (if_pos hb1.symm))
          clear hb1 hKC HTC
          have hcl := HLC.out
          obtain ⟨Anv, cnv, rfl, _, _⟩ := B7 (hS.own 1 rfl)
          go_wp2_with (first
           | ((with_reducible refine qA 71 ?_); refine st_cell hS 4 rfl _ _ rfl g8 4 rfl _ _ rfl (by decide +kernel) _ rfl ?_)
           | ((with_reducible refine qK ?_); refine qL hS Tryz.underlying81 ?_)
           | ((with_reducible refine qA 73 ?_); refine Cq hS 1 rfl rfl _ _ _ _ rfl rfl Ed (.slice Anv KCL.length cnv) KCL.length ys (.agg #[.slice Ay my cy, .slice Am mn cm]) #[.slice Ay my cy, .slice Am mn cm] rfl (by kernel_rfl) rfl rfl rfl rfl (by intro u hu; simp at hu; rcases hu with rfl | rfl <;> rfl) (by omega) (by omega) ?_; clear hS; intro z_ v' w_ hS; (try simp only [Act.put, Act.eval, zz, Value.cells] at hS); obtain ⟨Anv2, cnv2, rfl, _, _⟩ := B7 (hS.own 1 rfl))
           | ((with_reducible show wpList _ _ _ (⟨none, .store 29 _ _, _, _, _, _⟩ :: _) _ _); refine qT hS ?_; clear hS; intro w_ hS; (try simp only [Act.put, Act.eval, zz, Value.cells] at hS)))
          have hxl := (hS.own 1 rfl).1
          refine ⟨⟨j + 1, .slice Anv2 (KCL.length + 1) cnv2, ys ++ [.slice Ay my cy, .slice Am mn cm], by go_num, hlj, ?_⟩, by simp [intOf]; omega⟩
          rw [HT1.out, show (KCL ++ [z]).length = KCL.length + 1 by simp]
          exact (hS.sub (List.sublist_cons_self _ _)).mono (KSB.out.and CF) fun D w h => ⟨(kc.out _ _ h).1.1, by obtain ⟨_, _, he, hy, hn⟩ := (kc.out _ _ h).2; injection he with he; injection he with he; injection he with e1 he; injection he with e2 he; subst e1 e2; exact (kc.out _ _ h).1.2.push (by simp at hxl; omega) hy hn⟩
       ·obtain rfl : nl.length = j := by omega
        rw [List.take_length] at hS
        obtain ⟨Anv, cnv, rfl, _, _⟩ := B7 (hS.own 0 rfl)
        go_wp2_with (first
         | ((with_reducible refine qB ?_); refine qc ?_ ?_ <;> intro h_ <;> go_prune)
         | ((with_reducible refine qA 77 ?_); refine BigFrame.wpList_want rfl fun _ hK => AZ rfl rfl (hS.box 3 rfl) Tryz.underlying31 rfl (by kernel_rfl) (hK _ _ ?_))
         | ((with_reducible show wpList _ _ _ (⟨none, .store 31 _ _, _, _, _, _⟩ :: _) _ _); refine qS hS ?_; clear hS; intro w_ hS; (try simp only [Act.put, Act.eval, zz, Value.cells] at hS)))
        have hS1 := ((hS.freeze 0 (by decide) rfl).freeze 0 (by decide) rfl).freeze 0 (by decide) rfl
        refine Fp Tryz.results41 rfl (hS.box 6 rfl) Tryz.underlying31 rfl (by kernel_rfl) rfl rfl rfl ?_
        refine ⟨_, _, rfl, (hS1.sub (F' := F) (((((List.sublist_cons_self _ _).trans (List.sublist_cons_self _ _)).trans (List.sublist_cons_self _ _)).trans (List.sublist_cons_self _ _)).trans (List.sublist_cons_self _ _))).mono ((KS.out.and Dn).and (At (by decide))) fun D w h => ?_⟩
        obtain ⟨⟨⟨⟨hB, hC⟩, hN⟩, hI⟩, hRl⟩ := h
        obtain ⟨hA, hRC⟩ := kb.out _ _ hB
        obtain ⟨h7, hSt⟩ := ka.out _ _ hA
        obtain ⟨p1, -, -, -, p5⟩ := (kq _ _ h7).parts
        rw [HOF.out, HON.out, <- HKN.out]
        refine ⟨⟨k0 _ _ h7, _, _, _, _, _, rfl, p1, hSt, ?_, ?_, p5⟩, hI⟩
        ·rw [<- HKR.out]; exact ⟨xs, hRl, hRC⟩
        ·exact ⟨ys, hN, hC⟩
 ·have HOF : Hid (ofP ⟨R, lk, st, rl, nl, gl⟩ = zeroP) := Lib.hid (by unfold ofP; rw [if_neg (fun h => h0 (HE.out.trans h))])
  have HON : Hid (ofKept ⟨R, lk, st, rl, nl, gl⟩ = []) := Lib.hid (by unfold ofKept; rw [if_neg (fun h => h0 (HE.out.trans h))])
  go_enter Tryz.func41, Tryz.ntmps41
  go_wp2_with (first
   | ((with_reducible refine qA 1 ?_); refine AE hS rfl _ _ rfl (.agg #[.int .i64 R, lp, .slice Cs ns cs, .slice Ar rl.length cr, .slice An nl.length cn, .slice Ag gl.length cg]) _ rfl rfl ?_; clear hS; intro g1 w_ hS; (try simp only [Act.put, Act.eval, zz, Value.cells] at hS))
   | ((with_reducible refine qA 2 ?_); refine qa hS #[.int .i64 0, .pointer none, .slice none 0 0, .slice none 0 0, .slice none 0 0, .slice none 0 0] ?_; clear hS; intro g2 w_ hS)
   | ((with_reducible refine qB ?_); refine qc ?_ ?_ <;> intro h_ <;> go_prune)
   | ((with_reducible refine qK ?_); refine qL hS Tryz.underlying31 ?_)
   | ((with_reducible show wpList _ _ _ (⟨_, .build _ _, _, _, _, _⟩ :: _) _ _); refine Av rfl _ _ rfl #[.int .i64 0, .pointer none, .slice none 0 0, .slice none 0 0, .slice none 0 0, .slice none 0 0] (by kernel_rfl) ?_)
   | ((with_reducible refine qM ?_); (first | refine qS hS ?_ | refine qT hS ?_); clear hS; intro w_ hS; (try simp only [Act.put, Act.eval, zz, Value.cells] at hS))
   | (go_at_call 39; refine (Do (kp _ _ hS.ro) HP.out (kt _ _ hS.ro)).mono ?_; rw [<- HE.out]; rintro r_ w_ ⟨_, rfl, rfl, hb_⟩; replace hS := hS.ext hb_; clear hb_))
  refine Fp Tryz.results41 rfl (hS.box 0 rfl) Tryz.underlying31 rfl (by kernel_rfl) rfl rfl rfl ?_
  refine ⟨_, _, rfl, (hS.sub (F' := F) ((List.sublist_cons_self _ _).trans (List.sublist_cons_self _ _))).mono ((KS.out.and Dn).and (At (by decide))) fun D w h => ?_⟩
  rw [HOF.out, HON.out]
  exact ⟨⟨h, _, _, _, _, _, rfl, rfl, A7.empty, ⟨[], Sl.none_, fun i z hi => by simp [zeroP] at hi⟩, ⟨[], Sl.none_, fun i y n hi => by simp [zeroP] at hi⟩, [], Sl.none_, fun i y n hi => by simp [zeroP] at hi⟩, Sl.none_⟩
end
section
open Go.RowKit
attribute [local go_sem ↓] Go.wp_at_zero Go.wp_at_succ
set_option maxRecDepth 20000
set_option exponentiation.threshold 5000
structure Fits (p : Ac) : Prop where
 start : p.start < Bu
 rules : ∀ z ∈ p.rules, z.yes < Bu /\ z.no < Bu
 rlen : p.rules.length <= 1000
 never : Small p.never
 nlen : p.never.length <= 1000
 goal : Small p.goal
 glen : p.goal.length <= 1000
theorem E1 {w : World} {D : Nat -> Prop} {v : Value} {l : List (Nat × Nat)} (h : AH w D v l) : ∃ A c, v = .slice A l.length c := by
 obtain ⟨xs, h1, -⟩ := h
 obtain ⟨A, c, e, _, _⟩ := h1.shape
 exact ⟨A, c, e⟩
theorem BL {P : Program} {fn : Func} {p t2 : Tmp} {ty : TypeId} {R : Ending -> World -> Prop} {a : Act} {w : World} {g : Nat} {t : TypeId} {cs : Array Value} {d : TypeDesc} {v : Value} (h : fn.results = #[.cell p ty, .tmp t2]) (hp : a.eval (.tmp p) = .pointer (some ⟨g, 0, none⟩)) (hb : Co w g t cs)
  (hu : P.underlying ty = some d) (hd : (match d with | .struct _ | .array _ _ => true | _ => false) = true) (hi : (P.info? ty).map (·.size) = some cs.size) (hv : a.eval (.tmp t2) = v) (hdf : a.defers = []) (hR : R (.returned (.tuple #[.agg cs, v])) w) : bodyPost P fn R .ret a w := by
 have hr : (results fn a.tmps).run P w = .ok (.tuple #[.agg cs, v]) w := by
  have hp' : a.tmps[p]?.getD undef = .pointer (some ⟨g, 0, none⟩) := by simpa [Act.eval] using hp
  have hv' : a.tmps[t2]?.getD undef = v := by simpa [Act.eval] using hv
  simp [results, h, hp', hv', asAddr, run_loadVar_row w g t ty cs (0, 0) d hb hu hd hi]
 exact bodyPost_ret hr hdf hR
theorem cube_sets {w : World} {D : Nat -> Prop} {a b : Value} {z : Nat × Nat} (h : Bd w D (.agg #[a, b]) z) : A7 w D (.agg #[a]) z.1 /\ A7 w D (.agg #[b]) z.2 := by
 obtain ⟨_, _, he, h1, h2⟩ := h
 injection he with he; injection he with he; injection he with e1 he; injection he with e2 _
 subst e1 e2
 exact ⟨h1, h2⟩
theorem rr_at {w : World} {D : Nat -> Prop} {l : List AP} {A : Option Addr} {c : Nat} (h : Sl w D 5 (.slice A l.length c) l.length (Bg l)) {k : Nat} (hk : k < l.length) :
  ∃ b o, A = some ⟨b, o, none⟩ /\ w.cell? ⟨b, o + k * 5, none⟩ = some (.bool (l.getD k AL).revoke) /\ w.cell? ⟨b, o + k * 5 + 1, none⟩ = some (.int .u64 ((l.getD k AL).yes : Nat)) /\ w.cell? ⟨b, o + k * 5 + 2, none⟩ = some (.int .u64 ((l.getD k AL).no : Nat)) /\ w.cell? ⟨b, o + k * 5 + 3, none⟩ = some (.int .i64 (l.getD k AL).target) /\ w.cell? ⟨b, o + k * 5 + 4, none⟩ = some (.int .i64 (l.getD k AL).origin) := by
 obtain ⟨_, A', c', e, h1, h2, h3⟩ := h
 injection e with e1 e2 e3
 subst e1
 obtain ⟨b, o, h4, _, _, h5⟩ := h3 (by omega)
 obtain ⟨q0, q1, q2, q3, q4⟩ := rrcells_at l k _ (Bz AL hk)
 exact ⟨b, o, h4, h5 _ _ q0, by rw [Nat.add_assoc]; exact h5 _ _ q1, by rw [Nat.add_assoc]; exact h5 _ _ q2, by rw [Nat.add_assoc]; exact h5 _ _ q3, by rw [Nat.add_assoc]; exact h5 _ _ q4⟩
set_option maxHeartbeats 4000000 in
theorem lproblem_any {w0 w : World} {F : List Aj} {K : (Nat -> Prop) -> World -> Prop} {v : Value} {p : Ac} {L : List (Nat × Nat)} (hl : p.links = some L) (hH : FI L) (hlen : L.length <= 1000) (hB : Fits p) (hS : St w0 w F K) (kp : ∀ D w, K D w -> C4 w D v p) (kt : ∀ D w, K D w -> BH w /\ D 0) :
  Calls Tryz.prog 46 #[v] w fun e w' => ∃ u, e = .returned (.tuple #[u, .bool true]) /\ St w0 w' F fun D w => K D w /\ Ba w D u p := by
 obtain ⟨pr, lk, ps, rl, nl, gl⟩ := p
 dsimp only at hl
 subst hl
 obtain ⟨lv, rv, nv, gv, L', rfl, hl', h1, h2, h3, h4⟩ := kp _ _ hS.ro
 dsimp only at hl' h1 h2 h3 h4
 obtain rfl : L = L' := by injection hl'
 clear hl'
 obtain ⟨Al, cl, rfl, _, _⟩ := h1.shape
 obtain ⟨Ar, cr, rfl, _, _⟩ := h2.shape
 obtain ⟨An, cn, rfl, _, _⟩ := Sl.shape (h3 : Sl _ _ _ _ _ _)
 obtain ⟨Ag, cg, rfl, _, _⟩ := Sl.shape (h4 : Sl _ _ _ _ _ _)
 clear h1 h2 h3 h4
 have KSt := Lib.hid hS.stable
 have k1 : ∀ D w, K D w -> Sl w D 2 (.slice Al L.length cl) L.length (Af L) := fun D w h => by
  obtain ⟨_, _, _, _, L', e, e2, h1, _, _, _⟩ := kp D w h
  injection e2 with e2; subst e2
  injection e with e; injection e with e; injection e with _ e; injection e with e1 _; subst e1; exact h1
 have k2 : ∀ D w, K D w -> Sl w D 5 (.slice Ar rl.length cr) rl.length (Bg rl) := fun D w h => by
  obtain ⟨_, _, _, _, L', e, e2, _, h1, _, _⟩ := kp D w h
  injection e with e; injection e with e; injection e with _ e; injection e with _ e; injection e with _ e; injection e with e1 _; subst e1; exact h1
 have k3 : ∀ D w, K D w -> Ch w D (.slice An nl.length cn) nl := fun D w h => by
  obtain ⟨_, _, _, _, L', e, e2, _, _, h1, _⟩ := kp D w h
  injection e with e; injection e with e; injection e with _ e; injection e with _ e; injection e with _ e; injection e with _ e; injection e with e1 _; subst e1; exact h1
 have k4 : ∀ D w, K D w -> Ch w D (.slice Ag gl.length cg) gl := fun D w h => by
  obtain ⟨_, _, _, _, L', e, e2, _, _, _, h1⟩ := kp D w h
  injection e with e; injection e with e; injection e with _ e; injection e with _ e; injection e with _ e; injection e with _ e; injection e with _ e; injection e with e1 _; subst e1; exact h1
 have HF := Lib.hid hB
 have HH := Lib.hid hH
 have hrl1 := HF.out.rlen
 clear hB hH kp
 dsimp only at hrl1
 go_enter Tryz.func46, Tryz.ntmps46
 go_wp2_with (first
  | ((with_reducible refine qA 1 ?_); refine AE hS rfl _ _ rfl (.agg #[.int .i64 pr, .slice Al L.length cl, .int .u64 (ps : Nat), .slice Ar rl.length cr, .slice An nl.length cn, .slice Ag gl.length cg]) _ rfl rfl ?_; clear hS; intro g1 w_ hS; (try simp only [Act.put, Act.eval, zz, Value.cells] at hS))
  | ((with_reducible refine qA 2 ?_); refine qa hS #[.int .i64 0, .pointer none, .slice none 0 0, .slice none 0 0, .slice none 0 0, .slice none 0 0] ?_; clear hS; intro g2 w_ hS))
 have hJ0 : GJ w0 (.box g2 31 #[.int .i64 0, .pointer none, .slice none 0 0, .slice none 0 0, .slice none 0 0, .slice none 0 0] :: .box g1 37 #[.int .i64 pr, .slice Al L.length cl, .int .u64 (ps : Nat), .slice Ar rl.length cr, .slice An nl.length cn, .slice Ag gl.length cg] :: F) 31 #[.int .i64 0, .pointer none, .slice none 0 0, .slice none 0 0, .slice none 0 0, .slice none 0 0] (w_.drew, ⟨none, K⟩) := hS.drew
 have hRr := @GR.refl w0 (.box g2 31 #[.int .i64 0, .pointer none, .slice none 0 0, .slice none 0 0, .slice none 0 0, .slice none 0 0] :: .box g1 37 #[.int .i64 pr, .slice Al L.length cl, .int .u64 (ps : Nat), .slice Ar rl.length cr, .slice An nl.length cn, .slice Ag gl.length cg] :: F) 31 #[.int .i64 0, .pointer none, .slice none 0 0, .slice none 0 0, .slice none 0 0, .slice none 0 0]
 have hRt := @GR.trans w0 (.box g2 31 #[.int .i64 0, .pointer none, .slice none 0 0, .slice none 0 0, .slice none 0 0, .slice none 0 0] :: .box g1 37 #[.int .i64 pr, .slice Al L.length cl, .int .u64 (ps : Nat), .slice Ar rl.length cr, .slice An nl.length cn, .slice Ag gl.length cg] :: F) 31 #[.int .i64 0, .pointer none, .slice none 0 0, .slice none 0 0, .slice none 0 0, .slice none 0 0]
 have hN0 := @GN.start 13 14 w_.drew K
 clear hS
 refine FL (GR w0 (.box g2 31 #[.int .i64 0, .pointer none, .slice none 0 0, .slice none 0 0, .slice none 0 0, .slice none 0 0] :: .box g1 37 #[.int .i64 pr, .slice Al L.length cl, .int .u64 (ps : Nat), .slice Ar rl.length cr, .slice An nl.length cn, .slice Ag gl.length cg] :: F) 31 #[.int .i64 0, .pointer none, .slice none 0 0, .slice none 0 0, .slice none 0 0, .slice none 0 0]) (GN 13 14) (⟨none, K⟩) hRr hRt [.q g1 0, .n pr, .s (fun v w => ∃ q, v = .pointer (some ⟨q, 0, none⟩) /\ ∀ D w1, w.2.K D w1 -> IsH w1 D (.pointer (some ⟨q, 0, none⟩)) []) fun v w w' h hb => by obtain ⟨q, e, h⟩ := h; exact ⟨q, e, fun D w1 h1 => h D w1 (hb.2.1 D w1 h1)⟩, .q g1 2, .i (.int .u64 (ps : Nat)), .s (fun v w => ∃ u, v = .agg #[u] /\ u.oneCell' = true /\ ∀ D w1, w.2.K D w1 -> A7 w1 D (.agg #[u]) ps) fun v w w' h hb => by obtain ⟨u, e, e2, h⟩ := h; exact ⟨u, e, e2, fun D w1 h1 => h D w1 (hb.2.1 D w1 h1)⟩, .q g1 4, .i (.slice An nl.length cn), .s (fun v w => (∃ A c, v = .slice A nl.length c) /\ ∀ D w1, w.2.K D w1 -> AH w1 D v nl) fun v w w' h hb => ⟨h.1, fun D w1 h1 => h.2 D w1 (hb.2.1 D w1 h1)⟩, .q g1 5, .i (.slice Ag gl.length cg), .s (fun v w => (∃ A c, v = .slice A gl.length c) /\ ∀ D w1, w.2.K D w1 -> AH w1 D v gl) fun v w w' h hb => ⟨h.1, fun D w1 h1 => h.2 D w1 (hb.2.1 D w1 h1)⟩, .s (fun v w => ∃ q u A c B d, v = .agg #[.int .i64 pr, .pointer (some ⟨q, 0, none⟩), u, .slice none 0 0, .slice A nl.length c, .slice B gl.length d] /\ u.oneCell' = true /\ ∀ D w1, w.2.K D w1 -> IsH w1 D (.pointer (some ⟨q, 0, none⟩)) [] /\ A7 w1 D (.agg #[u]) ps /\ AH w1 D (.slice A nl.length c) nl /\ AH w1 D (.slice B gl.length d) gl) fun v w w' h hb => by obtain ⟨q, u, A, c, B, d, e, e2, h⟩ := h; exact ⟨q, u, A, c, B, d, e, e2, fun D w1 h1 => h D w1 (hb.2.1 D w1 h1)⟩, .s (fun v w => ∃ g o, v = .pointer (some ⟨g, 0, none⟩) /\ w.2.b = some (g, o)) fun v w w' h hb => hb.var h, .s (fun v w => ∃ g q u A c B d, w.2.b = some (g, some #[.int .i64 pr, .pointer (some ⟨q, 0, none⟩), u, .slice none 0 0, .slice A nl.length c, .slice B gl.length d]) /\ ∀ D w1, w.2.K D w1 -> IsH w1 D (.pointer (some ⟨q, 0, none⟩)) [] /\ A7 w1 D (.agg #[u]) ps /\ AH w1 D (.slice A nl.length c) nl /\ AH w1 D (.slice B gl.length d) gl) fun v w w' h hb => by obtain ⟨g, q, u, A, c, B, d, e, h⟩ := h; exact ⟨g, q, u, A, c, B, d, hb.2.2.2 _ _ e, fun D w1 h1 => h D w1 (hb.2.1 D w1 h1)⟩] ?_ ⟨uF, uC (h := fun w hW hN => (hW.1 hJ0).cell 1 rfl 0 rfl), ?_, uF, uC (h := fun w hW hN => (hW.1 hJ0).cell 1 rfl 2 rfl), ?_, uF, uC (h := fun w hW hN => (hW.1 hJ0).cell 1 rfl 4 rfl), ?_, uF, uC (h := fun w hW hN => (hW.1 hJ0).cell 1 rfl 5 rfl), ?_, ?_, ?_, ?_, trivial⟩ ?_
 ·first | assumption | (intro i; (try dsimp only); split <;> first | trivial | assumption | (left; assumption))
 ·refine uG fun b__ w hW hN hE K hK => ?_
  refine BR rfl (by kernel_rfl) (by simp only [List.map_nil]) (Js (hW.1 hJ0) fun D w1 h => kt D w1 (hW.2.1 D w1 h)) fun e w' ⟨p, he, hs⟩ => ⟨p, he, ?_⟩
  obtain ⟨q, o, rfl, -⟩ := id hs.ro.2
  exact hK _ (w', { w.2 with K := _ }) ⟨q, rfl, fun D w1 h => h.2⟩ (GK.more hs fun D w1 h => h.1)
 ·refine uG fun b__ w hW hN hE K hK => ?_
  have e15 := hE 15
  refine BR rfl (by kernel_rfl) (by simp only [List.map_cons, List.map_nil, e15]) (Jo ps HF.out.start w.1) fun e w' ⟨x, he, hx, hb⟩ => ⟨x, he, ?_⟩
  obtain ⟨u, rfl, h1⟩ := Cr hx
  exact hK _ (w', { w.2 with K := _ }) ⟨u, rfl, h1, fun D w1 h => h.2⟩ (GK.more ((hW.1 hJ0).ret hb A5 hx) fun D w1 h => h.1)
 ·refine uG fun b__ w hW hN hE K hK => ?_
  have e18 := hE 18
  refine BR rfl (by kernel_rfl) (by simp only [List.map_cons, List.map_nil, e18]) (Im _ nl w.1 _ (k3 _ _ (hW.2.1 _ _ (hW.1 hJ0).ro)) HF.out.never (by have := HF.out.nlen; dsimp only at this; omega)) fun e w' ⟨x, he, hx, hb⟩ => ⟨x, he, ?_⟩
  exact hK _ (w', { w.2 with K := _ }) ⟨E1 hx, fun D w1 h => h.2⟩ (GK.more ((hW.1 hJ0).ret hb AW hx) fun D w1 h => h.1)
 ·refine uG fun b__ w hW hN hE K hK => ?_
  have e21 := hE 21
  refine BR rfl (by kernel_rfl) (by simp only [List.map_cons, List.map_nil, e21]) (Im _ gl w.1 _ (k4 _ _ (hW.2.1 _ _ (hW.1 hJ0).ro)) HF.out.goal (by have := HF.out.glen; dsimp only at this; omega)) fun e w' ⟨x, he, hx, hb⟩ => ⟨x, he, ?_⟩
  exact hK _ (w', { w.2 with K := _ }) ⟨E1 hx, fun D w1 h => h.2⟩ (GK.more ((hW.1 hJ0).ret hb AW hx) fun D w1 h => h.1)
 ·refine uG fun b__ w hW hN hE K hK => ?_
  have e12 := hE 12
  have e13 := hE 13
  have e16 := hE 16
  have e19 := hE 19
  have e22 := hE 22
  obtain ⟨q, hq, h1⟩ := e13
  obtain ⟨u, hu, hu1, h2⟩ := e16
  obtain ⟨⟨A, c, ha⟩, h3⟩ := e19
  obtain ⟨⟨B, d, hbb⟩, h4⟩ := e22
  rw [ha] at h3
  rw [hbb] at h4
  exact CG rfl (ps := [(0, .int .i64 pr), (1, .pointer (some ⟨q, 0, none⟩)), (2, .agg #[u]), (4, .slice A nl.length c), (5, .slice B gl.length d)]) (cells := #[.int .i64 pr, .pointer (some ⟨q, 0, none⟩), u, .slice none 0 0, .slice A nl.length c, .slice B gl.length d]) (by simp [e12, hq, hu, ha, hbb]) (by kernel_rfl) (hK _ _ ⟨q, u, A, c, B, d, rfl, hu1, fun D w1 h => ⟨h1 D w1 h, h2 D w1 h, h3 D w1 h, h4 D w1 h⟩⟩ ⟨hRr _, fun _ _ h => h⟩)
 ·refine uG fun b__ w hW hN hE K hK => ?_
  exact gk_alloc rfl (by kernel_rfl) (by kernel_rfl) (hW.1 hJ0) (hN.1 rfl) fun g w' hs => hK _ (w', { w.2 with b := some (g, none) }) ⟨g, none, rfl, rfl⟩ (GK.made (hN.1 rfl) hs)
 ·refine uG fun b__ w hW hN hE K hK => ?_
  have e4 := hE 4
  have e23 := hE 23
  obtain ⟨g, o, hg, hgb⟩ := e4
  obtain ⟨q, u, A, c, B, d, hv, hu1, h1⟩ := e23
  obtain rfl : o = none := (by cases o with | none => rfl | some cs => exact absurd hgb (hN.2 rfl g cs))
  exact gk_store rfl hg hv (hW.1 hJ0) hgb (by kernel_rfl) rfl (by simpa [Value.oneCell'] using hu1) fun w' hs => hK undef (w', { w.2 with b := some (g, some #[.int .i64 pr, .pointer (some ⟨q, 0, none⟩), u, .slice none 0 0, .slice A nl.length c, .slice B gl.length d]) }) ⟨g, q, u, A, c, B, d, rfl, h1⟩ (GK.put hgb hs)
 ·intro vs wz hW hT
  obtain ⟨e11, e12, e13, e14, e15, e16, e17, e18, e19, e20, e21, e22, e23, e4, z14, -⟩ := hT
  have bx : (fun _ : Nat => True) 0 := trivial
  simp only [AC, Act.put, zz, ze]
  obtain ⟨_, g4, q, u, A4, c4, B4, d4, hb4, hK4⟩ := z14
  obtain ⟨g, o, hg, hgb⟩ := e4
  obtain rfl : g = g4 := by rw [hb4] at hgb; injection hgb with h; injection h with h _; exact h.symm
  have hS : St w0 wz.1 (.box g 31 #[.int .i64 pr, .pointer (some ⟨q, 0, none⟩), u, .slice none 0 0, .slice A4 nl.length c4, .slice B4 gl.length d4] :: .box g2 31 #[.int .i64 0, .pointer none, .slice none 0 0, .slice none 0 0, .slice none 0 0, .slice none 0 0] :: .box g1 37 #[.int .i64 pr, .slice Al L.length cl, .int .u64 (ps : Nat), .slice Ar rl.length cr, .slice An nl.length cn, .slice Ag gl.length cg] :: F) wz.2.K := (hW.1 hJ0).some hb4
  obtain ⟨K4, wf, k0, kq, kc, hwf, hS2⟩ : ∃ (K4 : (Nat -> Prop) -> World -> Prop) (wf : World), (∀ D w, K4 D w -> K D w) /\ (∀ D w1, K4 D w1 -> IsH w1 D (.pointer (some ⟨q, 0, none⟩)) []) /\ Hid (∀ D w1, K4 D w1 -> A7 w1 D (.agg #[u]) ps /\ AH w1 D (.slice A4 nl.length c4) nl /\ AH w1 D (.slice B4 gl.length d4) gl) /\ wz.1 = wf /\ St w0 wf (.box g 31 #[.int .i64 pr, .pointer (some ⟨q, 0, none⟩), u, .slice none 0 0, .slice A4 nl.length c4, .slice B4 gl.length d4] :: .box g2 31 #[.int .i64 0, .pointer none, .slice none 0 0, .slice none 0 0, .slice none 0 0, .slice none 0 0] :: .box g1 37 #[.int .i64 pr, .slice Al L.length cl, .int .u64 (ps : Nat), .slice Ar rl.length cr, .slice An nl.length cn, .slice Ag gl.length cg] :: F) K4 := ⟨_, _, hW.2.1, fun D w1 h => (hK4 D w1 h).1, Lib.hid fun D w1 h => (hK4 D w1 h).2, rfl, hS⟩
  rw [hwf]
  simp only [show vs (4 : Nat) = _ from hg]
  clear hS hW hJ0 hRr hRt hN0 e11 e12 e13 e14 e15 e16 e17 e18 e19 e20 e21 e22 e23 hb4 hgb hK4 hg hwf
  have hS := hS2
  clear hS2
  generalize vs 11 = s11, vs 12 = s12, vs 13 = s13, vs 14 = s14, vs 15 = s15, vs 16 = s16, vs 17 = s17, vs 18 = s18, vs 19 = s19, vs 20 = s20, vs 21 = s21, vs 22 = s22, vs 23 = s23
  obtain ⟨Au, cu, lu, hvu, -⟩ := (kc.out _ _ hS.ro).1.parts
  obtain rfl : u = .slice Au lu.length cu := by injection hvu with hvu; simpa using hvu
  clear hvu
  generalize lu.length = nu at *
  have KS4 := Lib.hid hS.stable
  go_wp2_with (first | ((with_reducible refine qK ?_); refine qC hS ?_))
  have HNX : Hid (∀ (j : Nat) (x : Nat × Nat) (L' : List (Nat × Nat)), L[j]? = some x -> Part L j L' -> ∀ (F : List Aj) (K : (Nat -> Prop) -> World -> Prop) (w : World) (r : Value) (z : Int), LinkP w0 F K L' (x.1 : Nat) (x.2 : Nat) r z w -> z = 0 /\ ∃ L'', Part L (j + 1) L'' /\ St w0 w F fun D w => K D w /\ IsH w D r L'') := Lib.hid fun j x L' hx hP F K w r z h => by
   obtain ⟨h1, L'', h2, h3, h4⟩ := h.next hx hP.2 HH.out.asc.nodup HH.out.role HH.out.acyc
   exact ⟨h1, L'', ⟨h2, h3⟩, h4⟩
  have HLF : Hid (∀ L', Part L L.length L' -> L' = L) := Lib.hid fun L' h => h.full HH.out.asc
  have hP0 : Part L 0 [] := ⟨FI.nil, by simp⟩
  have k1' : ∀ D w, K4 D w -> Sl w D 2 (.slice Al L.length cl) L.length (Af L) := fun D w h => k1 D w (k0 D w h)
  go_loopw [27] (fun i wr => ∃ (j q' : Nat) (L' : List (Nat × Nat)), i = .int .i64 (j : Nat) /\ j <= L.length /\ Hid (Part L j L') /\ St w0 wr (.box g 31 #[.int .i64 pr, .pointer (some ⟨q', 0, none⟩), .slice Au nu cu, .slice none 0 0, .slice A4 nl.length c4, .slice B4 gl.length d4] :: .box g2 31 #[.int .i64 0, .pointer none, .slice none 0 0, .slice none 0 0, .slice none 0 0, .slice none 0 0] :: .box g1 37 #[.int .i64 pr, .slice Al L.length cl, .int .u64 (ps : Nat), .slice Ar rl.length cr, .slice An nl.length cn, .slice Ag gl.length cg] :: F) fun D w => K4 D w /\ IsH w D (.pointer (some ⟨q', 0, none⟩)) L') (fun i _ => L.length - (intOf i).toNat)
  case atStart => exact ⟨0, q, [], rfl, by omega, Lib.hid hP0, hS.mono (KS4.out.and DK) fun D w h => ⟨h, kq D w h⟩⟩
  case round =>
   clear hS hP0
   obtain ⟨j, q', L', rfl, hj, HP, hS⟩ := hrel
   by_cases hlj : j < L.length
   ·obtain ⟨f1, f2⟩ := BC L j hlj
    have HNY := Lib.hid (HNX.out j _ L' (Bz (0, 0) hlj) HP.out)
    have HLL : Hid (L'.length <= 900000) := Lib.hid (by have := HP.out.len; omega)
    generalize L.getD j (0, 0) = z at *
    obtain ⟨za, zb⟩ := z
    dsimp only at f1 f2 HNY
    have kp2 : ∀ D w, (K4 D w /\ IsH w D (.pointer (some ⟨q', 0, none⟩)) L') -> Sl w D 2 (.slice Al L.length cl) L.length (Af L) := fun D w h => k1' D w h.1
    go_wp2_with (first
     | ((with_reducible refine qB ?_); refine qc ?_ ?_ <;> intro h_ <;> go_prune)
     | ((with_reducible refine qI ?_); refine qj hS Tryz.underlying32 ?_; intro b_ j_ hc0_ hc1_)
     | ((with_reducible refine qA 6 ?_); refine Bi hS rfl _ rfl (by kernel_rfl) ?_; clear hS; intro g6 w_ hS; (try simp only [Act.put, Act.eval, zz, Value.cells] at hS))
     | (go_at_call 95; refine (hlink_any (.pointer (some ⟨q', 0, none⟩)) L' (za : Nat) (zb : Nat) HP.out.1 HLL.out hS (fun D w h => h.2) (fun D w h => kt D w (k0 D w h.1))).mono ?_; clear hS; rintro e w_ ⟨r, z, rfl, hP⟩; obtain ⟨rfl, L'', hP2, hS⟩ := HNY.out _ _ _ _ _ hP; replace hP2 := Lib.hid hP2; clear hP; obtain ⟨q2, _, rfl, -⟩ := id hS.ro.2)
     | ((with_reducible refine qM ?_); (first | refine qS hS ?_ | refine qT hS ?_); clear hS; intro w_ hS; (try simp only [Act.put, Act.eval, zz, Value.cells] at hS))
     | ((with_reducible refine qK ?_); refine qC hS ?_))
    exact ⟨⟨j + 1, q2, L'', by go_num, hlj, hP2, (hS.sub (List.sublist_cons_self _ _)).mono (KS4.out.and DK) fun D w h => ⟨h.1.1, h.2⟩⟩, by simp [intOf]; omega⟩
   ·obtain rfl : L.length = j := by omega
    rw [HLF.out _ HP.out] at hS
    clear HP HNX HLF
    go_wp2_with (first | ((with_reducible refine qB ?_); refine qc ?_ ?_ <;> intro h_ <;> go_prune) | ((with_reducible refine qK ?_); refine qC hS ?_))
    obtain ⟨K5, k5, kh, hS2⟩ : ∃ K5 : (Nat -> Prop) -> World -> Prop, (∀ D w, K5 D w -> K4 D w) /\ Hid (∀ D w, K5 D w -> IsH w D (.pointer (some ⟨q', 0, none⟩)) L) /\ St w0 wr (.box g 31 #[.int .i64 pr, .pointer (some ⟨q', 0, none⟩), .slice Au nu cu, .slice none 0 0, .slice A4 nl.length c4, .slice B4 gl.length d4] :: .box g2 31 #[.int .i64 0, .pointer none, .slice none 0 0, .slice none 0 0, .slice none 0 0, .slice none 0 0] :: .box g1 37 #[.int .i64 pr, .slice Al L.length cl, .int .u64 (ps : Nat), .slice Ar rl.length cr, .slice An nl.length cn, .slice Ag gl.length cg] :: F) K5 := ⟨_, fun _ _ h => h.1, Lib.hid fun _ _ h => h.2, hS⟩
    clear hS
    have hS := hS2.nil 83 5
    clear hS2
    have KS5 := Lib.hid hS.stable
    have kr : ∀ D w, K5 D w -> Sl w D 5 (.slice Ar rl.length cr) rl.length (Bg rl) := fun D w h => k2 D w (k0 D w (k5 D w h))
    go_loopw [50] (fun i wr => ∃ (j : Nat) (rv : Value) (xs : List Value), i = .int .i64 (j : Nat) /\ j <= rl.length /\ St w0 wr (.own rv 83 5 j xs :: .box g 31 #[.int .i64 pr, .pointer (some ⟨q', 0, none⟩), .slice Au nu cu, rv, .slice A4 nl.length c4, .slice B4 gl.length d4] :: .box g2 31 #[.int .i64 0, .pointer none, .slice none 0 0, .slice none 0 0, .slice none 0 0, .slice none 0 0] :: .box g1 37 #[.int .i64 pr, .slice Al L.length cl, .int .u64 (ps : Nat), .slice Ar rl.length cr, .slice An nl.length cn, .slice Ag gl.length cg] :: F) fun D w => K5 D w /\ AM w D xs (rl.take j)) (fun i _ => rl.length - (intOf i).toNat)
    case atStart => exact ⟨0, _, [], rfl, by omega, hS.mono (KS5.out.and C0) fun D w h => ⟨h, fun i z hi => by simp at hi⟩⟩
    case round =>
     clear hS
     obtain ⟨j, rv, xs, rfl, hj2, hS⟩ := hrel
     obtain ⟨Arv, crv, rfl, _, _⟩ := B7 (hS.own 0 rfl)
     by_cases hlj : j < rl.length
     ·obtain ⟨bk, o, rfl, c0, c1, c2, c3, c4'⟩ := rr_at (kr _ _ hS.ro.1) hlj
      have HT : Hid (rl.take (j + 1) = rl.take j ++ [rl.getD j AL]) := Lib.hid (Fn rl j AL hlj)
      have HZ : Hid ((rl.getD j AL).yes < Bu /\ (rl.getD j AL).no < Bu) := Lib.hid (HF.out.rules _ (by rw [List.getD_eq_getElem?_getD, List.getElem?_eq_getElem hlj]; exact List.getElem_mem hlj))
      have HLT : Hid ((rl.take j).length = j) := Lib.hid (by rw [List.length_take]; omega)
      generalize rl.getD j AL = z at *
      obtain ⟨zr, zy, zn, zt, zo⟩ := z
      dsimp only at c0 c1 c2 c3 c4' HZ
      go_wp2_with (first
       | ((with_reducible refine qB ?_); refine qc ?_ ?_ <;> intro h_ <;> go_prune)
       | ((with_reducible refine qA 53 ?_); refine BigFrame.wpList_want rfl fun _ hK => AQ (cs := [.bool zr, .int .u64 (zy : Nat), .int .u64 (zn : Nat), .int .i64 zt, .int .i64 zo]) rfl rfl (EO c0 c1 c2 c3 c4') Tryz.underlying154 rfl (by kernel_rfl) (hK _ _ ?_))
       | ((with_reducible refine qA 10 ?_); refine qa hS #[.bool false, .int .u64 0, .int .u64 0, .int .i64 0, .int .i64 0] ?_; clear hS; intro g10 w_ hS)
       | ((with_reducible refine qM ?_); (first | refine qS hS ?_ | refine qT hS ?_); clear hS; intro w_ hS; (try simp only [Act.put, Act.eval, zz, Value.cells] at hS)))
      obtain ⟨K6, k6, hS2⟩ : ∃ K6 : (Nat -> Prop) -> World -> Prop, Hid (∀ D w, K6 D w -> K5 D w /\ AM w D xs (rl.take j)) /\ St w0 w_ (.box g10 154 #[.bool zr, .int .u64 (zy : Nat), .int .u64 (zn : Nat), .int .i64 zt, .int .i64 zo] :: .own (.slice Arv j crv) 83 5 j xs :: .box g 31 #[.int .i64 pr, .pointer (some ⟨q', 0, none⟩), .slice Au nu cu, .slice Arv j crv, .slice A4 nl.length c4, .slice B4 gl.length d4] :: .box g2 31 #[.int .i64 0, .pointer none, .slice none 0 0, .slice none 0 0, .slice none 0 0, .slice none 0 0] :: .box g1 37 #[.int .i64 pr, .slice Al L.length cl, .int .u64 (ps : Nat), .slice (some ⟨bk, o, none⟩) rl.length cr, .slice An nl.length cn, .slice Ag gl.length cg] :: F) K6 := ⟨_, Lib.hid fun _ _ h => h, hS⟩
      clear hS
      have hS := hS2
      clear hS2
      have KS6 := Lib.hid hS.stable
      have h0d := hS.drew
      refine wp_zS [6, 11, 12, 13, 15] [some (.pointer (some ⟨g, 3, none⟩)), some (.slice Arv j crv), some (.pointer (some ⟨g10, 0, none⟩)), some (.bool zr), some (.pointer (some ⟨g10, 1, none⟩)), some (.agg #[.int .u64 (zy : Nat), .int .u64 (zn : Nat)]), none, some (.pointer (some ⟨g10, 3, none⟩)), some (.int .i64 zt), some (.pointer (some ⟨g10, 4, none⟩)), some (.int .i64 zo), none, none, none, some (.pointer (some ⟨g, 3, none⟩)), none] (fun vs w => match vs with | [] => St w0 w (.box g10 154 #[.bool zr, .int .u64 (zy : Nat), .int .u64 (zn : Nat), .int .i64 zt, .int .i64 zo] :: .own (.slice Arv j crv) 83 5 j xs :: .box g 31 #[.int .i64 pr, .pointer (some ⟨q', 0, none⟩), .slice Au nu cu, .slice Arv j crv, .slice A4 nl.length c4, .slice B4 gl.length d4] :: .box g2 31 #[.int .i64 0, .pointer none, .slice none 0 0, .slice none 0 0, .slice none 0 0, .slice none 0 0] :: .box g1 37 #[.int .i64 pr, .slice Al L.length cl, .int .u64 (ps : Nat), .slice (some ⟨bk, o, none⟩) rl.length cr, .slice An nl.length cn, .slice Ag gl.length cg] :: F) K6 | [z] => ∃ a b : Value, z = .agg #[a, b] /\ St w0 w (.box g10 154 #[.bool zr, .int .u64 (zy : Nat), .int .u64 (zn : Nat), .int .i64 zt, .int .i64 zo] :: .own (.slice Arv j crv) 83 5 j xs :: .box g 31 #[.int .i64 pr, .pointer (some ⟨q', 0, none⟩), .slice Au nu cu, .slice Arv j crv, .slice A4 nl.length c4, .slice B4 gl.length d4] :: .box g2 31 #[.int .i64 0, .pointer none, .slice none 0 0, .slice none 0 0, .slice none 0 0, .slice none 0 0] :: .box g1 37 #[.int .i64 pr, .slice Al L.length cl, .int .u64 (ps : Nat), .slice (some ⟨bk, o, none⟩) rl.length cr, .slice An nl.length cn, .slice Ag gl.length cg] :: F) (fun D w => K6 D w /\ Bd w D (.agg #[a, b]) (zy, zn)) | [_, z] => ∃ a b : Value, z = .agg #[.bool zr, a, b, .int .i64 zt, .int .i64 zo] /\ St w0 w (.box g10 154 #[.bool zr, .int .u64 (zy : Nat), .int .u64 (zn : Nat), .int .i64 zt, .int .i64 zo] :: .own (.slice Arv j crv) 83 5 j xs :: .box g 31 #[.int .i64 pr, .pointer (some ⟨q', 0, none⟩), .slice Au nu cu, .slice Arv j crv, .slice A4 nl.length c4, .slice B4 gl.length d4] :: .box g2 31 #[.int .i64 0, .pointer none, .slice none 0 0, .slice none 0 0, .slice none 0 0, .slice none 0 0] :: .box g1 37 #[.int .i64 pr, .slice Al L.length cl, .int .u64 (ps : Nat), .slice (some ⟨bk, o, none⟩) rl.length cr, .slice An nl.length cn, .slice Ag gl.length cg] :: F) (fun D w => K6 D w /\ Bd w D (.agg #[a, b]) (zy, zn)) | [_, _, z] => ∃ a b : Value, St w0 w (.box g10 154 #[.bool zr, .int .u64 (zy : Nat), .int .u64 (zn : Nat), .int .i64 zt, .int .i64 zo] :: .own (.slice Arv j crv) 83 5 j xs :: .box g 31 #[.int .i64 pr, .pointer (some ⟨q', 0, none⟩), .slice Au nu cu, .slice Arv j crv, .slice A4 nl.length c4, .slice B4 gl.length d4] :: .box g2 31 #[.int .i64 0, .pointer none, .slice none 0 0, .slice none 0 0, .slice none 0 0, .slice none 0 0] :: .box g1 37 #[.int .i64 pr, .slice Al L.length cl, .int .u64 (ps : Nat), .slice (some ⟨bk, o, none⟩) rl.length cr, .slice An nl.length cn, .slice Ag gl.length cg] :: F) (fun D w => (K6 D w /\ Bd w D (.agg #[a, b]) (zy, zn)) /\ Sl w D 5 z 1 [.bool zr, a, b, .int .i64 zt, .int .i64 zo]) | [_, _, _, p'] => ∃ a b : Value, St w0 w (.box g10 154 #[.bool zr, .int .u64 (zy : Nat), .int .u64 (zn : Nat), .int .i64 zt, .int .i64 zo] :: .own p' 83 5 (j + 1) (xs ++ [.bool zr, a, b, .int .i64 zt, .int .i64 zo]) :: .box g 31 #[.int .i64 pr, .pointer (some ⟨q', 0, none⟩), .slice Au nu cu, .slice Arv j crv, .slice A4 nl.length c4, .slice B4 gl.length d4] :: .box g2 31 #[.int .i64 0, .pointer none, .slice none 0 0, .slice none 0 0, .slice none 0 0, .slice none 0 0] :: .box g1 37 #[.int .i64 pr, .slice Al L.length cl, .int .u64 (ps : Nat), .slice (some ⟨bk, o, none⟩) rl.length cr, .slice An nl.length cn, .slice Ag gl.length cg] :: F) (fun D w => K6 D w /\ Bd w D (.agg #[a, b]) (zy, zn)) | [_, _, _, p', _] => ∃ a b : Value, St w0 w (.box g10 154 #[.bool zr, .int .u64 (zy : Nat), .int .u64 (zn : Nat), .int .i64 zt, .int .i64 zo] :: .own p' 83 5 (j + 1) (xs ++ [.bool zr, a, b, .int .i64 zt, .int .i64 zo]) :: .box g 31 #[.int .i64 pr, .pointer (some ⟨q', 0, none⟩), .slice Au nu cu, p', .slice A4 nl.length c4, .slice B4 gl.length d4] :: .box g2 31 #[.int .i64 0, .pointer none, .slice none 0 0, .slice none 0 0, .slice none 0 0, .slice none 0 0] :: .box g1 37 #[.int .i64 pr, .slice Al L.length cl, .int .u64 (ps : Nat), .slice (some ⟨bk, o, none⟩) rl.length cr, .slice An nl.length cn, .slice Ag gl.length cg] :: F) (fun D w => K6 D w /\ Bd w D (.agg #[a, b]) (zy, zn)) | _ => False) ?_ ⟨vF, ?_, vF, ?_, vF, ?_, ?_, vF, ?_, vF, ?_, ?_, ?_, ?_, vF, ?_, trivial⟩ ?_
      ·first | assumption | (dsimp only; assumption)
      ·refine vR 0 3 fun b__ w vs hS h1 h2 hE K hK => ?_
       rcases vs with _ | ⟨x0, _ | ⟨x1, _ | ⟨x2, _ | ⟨x3, vs⟩⟩⟩⟩ <;> first | (exfalso; first | exact hS | (revert h1 h2; simp <;> omega); done) | ((have e54 := hE 54); (first | exact Ah rfl e54 (by kernel_rfl) (hS.shut 2 rfl 3 rfl) (hK _ rfl) | (obtain ⟨_, _, hS⟩ := hS; exact Ah rfl e54 (by kernel_rfl) (hS.shut 2 rfl 3 rfl) (hK _ rfl)) | (obtain ⟨_, _, _, hS⟩ := hS; exact Ah rfl e54 (by kernel_rfl) (hS.shut 2 rfl 3 rfl) (hK _ rfl))))
      ·refine vR 0 1 fun b__ w vs hS h1 h2 hE K hK => ?_
       rcases vs with _ | ⟨x0, _ | ⟨x1, vs⟩⟩ <;> first | (exfalso; first | exact hS | (revert h1 h2; simp <;> omega); done) | ((have e56 := hE 56); (first | exact Ah rfl e56 (by kernel_rfl) (hS.shut 0 rfl 0 rfl) (hK _ rfl) | (obtain ⟨_, _, _, hS⟩ := hS; exact Ah rfl e56 (by kernel_rfl) (hS.shut 0 rfl 0 rfl) (hK _ rfl))))
      ·refine vR 0 0 fun b__ w vs hS h1 h2 hE K hK => ?_
       rcases vs with _ | ⟨x0, vs⟩ <;> first | (exfalso; first | exact hS | (revert h1 h2; simp <;> omega); done) | ((have e58 := hE 58); (exact AQ (cs := [.int .u64 (zy : Nat), .int .u64 (zn : Nat)]) rfl e58 (Jd (hS.shut 0 rfl 1 rfl) (hS.shut 0 rfl 2 rfl)) Tryz.underlying152 rfl (by kernel_rfl) (hK _ rfl)))
      ·refine vX 0 fun b__ w vs hS hl hE K hK => ?_
       obtain rfl := Fl hl
       have e59 := hE 59
       refine BR rfl (by kernel_rfl) (by simp only [List.map_cons, List.map_nil, e59]) (lmake_any zy zn HZ.out.1 HZ.out.2 _) fun e w' ⟨z, he, hx, hb_⟩ => ⟨z, he, ?_⟩
       obtain ⟨a, b, rfl, -, -⟩ := id hx
       exact hK _ w' ⟨a, b, rfl, hS.ret hb_ Bk hx⟩
      ·refine vR 0 1 fun b__ w vs hS h1 h2 hE K hK => ?_
       rcases vs with _ | ⟨x0, _ | ⟨x1, vs⟩⟩ <;> first | (exfalso; first | exact hS | (revert h1 h2; simp <;> omega); done) | ((have e61 := hE 61); (first | exact Ah rfl e61 (by kernel_rfl) (hS.shut 0 rfl 3 rfl) (hK _ rfl) | (obtain ⟨_, _, _, hS⟩ := hS; exact Ah rfl e61 (by kernel_rfl) (hS.shut 0 rfl 3 rfl) (hK _ rfl))))
      ·refine vR 0 1 fun b__ w vs hS h1 h2 hE K hK => ?_
       rcases vs with _ | ⟨x0, _ | ⟨x1, vs⟩⟩ <;> first | (exfalso; first | exact hS | (revert h1 h2; simp <;> omega); done) | ((have e63 := hE 63); (first | exact Ah rfl e63 (by kernel_rfl) (hS.shut 0 rfl 4 rfl) (hK _ rfl) | (obtain ⟨_, _, _, hS⟩ := hS; exact Ah rfl e63 (by kernel_rfl) (hS.shut 0 rfl 4 rfl) (hK _ rfl))))
      ·refine vX 1 fun b__ w vs hS hl hE K hK => ?_
       obtain ⟨x0, rfl⟩ := Et hl
       have e57 := hE 57
       have e60 := hE 60
       have e62 := hE 62
       have e64 := hE 64
       obtain ⟨a, b, rfl, hS⟩ := hS
       exact CG rfl (ps := [(0, .bool zr), (1, .agg #[a, b]), (2, .int .i64 zt), (3, .int .i64 zo)]) (cells := #[.bool zr, a, b, .int .i64 zt, .int .i64 zo]) (by simp [e57, e60, e62, e64]) (by kernel_rfl) (hK _ _ ⟨a, b, rfl, hS⟩)
      ·refine vX 2 fun b__ w vs hS hl hE K hK => ?_
       obtain ⟨x0, x1, rfl⟩ := Er hl
       have e65 := hE 65
       obtain ⟨a, b, rfl, hS⟩ := hS
       refine C5 (ps := [(0, .agg #[.bool zr, a, b, .int .i64 zt, .int .i64 zo])]) (cells := #[.bool zr, a, b, .int .i64 zt, .int .i64 zo]) rfl Tryz.underlying28 (by simp [e65]) (by kernel_rfl) ?_
       intro w' hbx hbel
       exact hK _ w' ⟨a, b, hS.ret hbel (At (by decide)) (⟨by simp, _, 1, rfl, by omega, by unfold maxLen; omega, fun _ => ⟨w.heap.size, 0, rfl, Nat.le_refl _, hbx.lt, fun j x hj => by rw [Nat.zero_add]; exact (hbx.cell j).trans (by simpa using hj)⟩⟩ : Sl w' (w.heap.size <= ·) 5 (.slice (some ⟨w.heap.size, 0, none⟩) 1 1) 1 [.bool zr, a, b, .int .i64 zt, .int .i64 zo])⟩
      ·refine vX 3 fun b__ w vs hS hl hE K hK => ?_
       obtain ⟨x0, x1, x2, rfl⟩ := Ep hl
       have e55 := hE 55
       have e66 := hE 66
       obtain ⟨a, b, h3⟩ := hS
       refine ED rfl IO e55 (h3.own 1 rfl) e66 h3.ro.2 (by obtain ⟨_, _, he, hy, hn⟩ := h3.ro.1.2; injection he with he; injection he with he; injection he with e1 he; injection he with e2 he; subst e1 e2; obtain ⟨A8, m8, c8, rfl⟩ := hy.shape; obtain ⟨B8, k8, d8, rfl⟩ := hn.shape; intro u hu; simp at hu; rcases hu with rfl | rfl | rfl | rfl | rfl <;> rfl) (by omega) (by omega) h3.size ?_
       intro v' w' ho hg hat
       exact hK v' w' ⟨a, b, (h3.upd 1 rfl (.own v' 83 5 (j + 1) (xs ++ [.bool zr, a, b, .int .i64 zt, .int .i64 zo])) hg ho hat).mono (KS6.out.and Bk) fun D w h => h.1⟩
      ·refine vX 4 fun b__ w vs hS hl hE K hK => ?_
       obtain ⟨x0, x1, x2, x3, rfl⟩ := IB hl
       have e68 := hE 68
       have e67 := hE 67
       obtain ⟨a, b, h3⟩ := hS
       refine Cg rfl e68 e67 (h3.box 2 rfl) (by simp) (Fv (h3.own 1 rfl)) (ID (h3.own 1 rfl)) (by kernel_rfl) ?_
       intro w' hbx hup
       exact hK _ w' ⟨a, b, h3.upd 2 rfl (.box g 31 #[.int .i64 pr, .pointer (some ⟨q', 0, none⟩), .slice Au nu cu, x3, .slice A4 nl.length c4, .slice B4 gl.length d4]) (Bn hup) ⟨(h3.holds _ (List.mem_of_getElem? (i := 2) rfl)).1, hbx⟩ fun _ e => .inl e⟩
      ·intro us wz vs hS hl hT
       obtain ⟨x0, x1, x2, x3, x4, rfl⟩ := vs_len5 hl
       obtain ⟨e54, e55, e56, e57, e58, e59, e60, e61, e62, e63, e64, e65, e66, e67, e68, -⟩ := hT
       clear hl
       simp only [AC, Act.put, zz, ze]
       obtain ⟨a, b, hS⟩ := hS
       clear h0d
       go_wp2_with fail
       have hxl := HLT.out
       refine ⟨⟨j + 1, _, xs ++ [.bool zr, a, b, .int .i64 zt, .int .i64 zo], by go_num, hlj, (hS.sub (List.sublist_cons_self _ _)).mono (KS5.out.and C0) fun D w h => ⟨(k6.out _ _ h.1).1, ?_⟩⟩, by simp [intOf]; omega⟩
       rw [HT.out]
       have hz := (hS.own 1 rfl).1
       exact AM.append (by simp at hz; omega) (k6.out _ _ h.1).2 (AM.single (z := ⟨zr, zy, zn, zt, zo⟩) (cube_sets h.2).1 (cube_sets h.2).2)
     ·obtain rfl : rl.length = j := by omega
      rw [List.take_length] at hS
      go_wp2_with (first | ((with_reducible refine qB ?_); refine qc ?_ ?_ <;> intro h_ <;> go_prune))
      obtain ⟨K7, k7, ks7, hS2⟩ : ∃ K7 : (Nat -> Prop) -> World -> Prop, Hid (∀ D w, K7 D w -> (K5 D w /\ AM w D xs rl) /\ Sl w D 5 (.slice Arv rl.length crv) rl.length xs) /\ AF K7 /\ St w0 wr (.box g 31 #[.int .i64 pr, .pointer (some ⟨q', 0, none⟩), .slice Au nu cu, .slice Arv rl.length crv, .slice A4 nl.length c4, .slice B4 gl.length d4] :: .box g2 31 #[.int .i64 0, .pointer none, .slice none 0 0, .slice none 0 0, .slice none 0 0, .slice none 0 0] :: .box g1 37 #[.int .i64 pr, .slice Al L.length cl, .int .u64 (ps : Nat), .slice Ar rl.length cr, .slice An nl.length cn, .slice Ag gl.length cg] :: F) K7 := ⟨_, Lib.hid fun _ _ h => h, (hS.freeze 0 (by decide) rfl).stable, hS.freeze 0 (by decide) rfl⟩
      clear hS
      have hS := hS2
      clear hS2
      have hJ0 : St w0 wr.drew (.box g 31 #[.int .i64 pr, .pointer (some ⟨q', 0, none⟩), .slice Au nu cu, .slice Arv rl.length crv, .slice A4 nl.length c4, .slice B4 gl.length d4] :: .box g2 31 (cond (false, false).1 #[.int .i64 pr, .pointer (some ⟨q', 0, none⟩), .slice Au nu cu, .slice Arv rl.length crv, .slice A4 nl.length c4, .slice B4 gl.length d4] #[.int .i64 0, .pointer none, .slice none 0 0, .slice none 0 0, .slice none 0 0, .slice none 0 0]) :: .box g1 37 #[.int .i64 pr, .slice Al L.length cl, .int .u64 (ps : Nat), .slice Ar rl.length cr, .slice An nl.length cn, .slice Ag gl.length cg] :: F) K7 := hS.drew
      have hRr := @SR.refl w0 (fun s => .box g 31 #[.int .i64 pr, .pointer (some ⟨q', 0, none⟩), .slice Au nu cu, .slice Arv rl.length crv, .slice A4 nl.length c4, .slice B4 gl.length d4] :: .box g2 31 (cond s.1 #[.int .i64 pr, .pointer (some ⟨q', 0, none⟩), .slice Au nu cu, .slice Arv rl.length crv, .slice A4 nl.length c4, .slice B4 gl.length d4] #[.int .i64 0, .pointer none, .slice none 0 0, .slice none 0 0, .slice none 0 0, .slice none 0 0]) :: .box g1 37 #[.int .i64 pr, .slice Al L.length cl, .int .u64 (ps : Nat), .slice Ar rl.length cr, .slice An nl.length cn, .slice Ag gl.length cg] :: F) K7
      have hRt := @SR.trans w0 (fun s => .box g 31 #[.int .i64 pr, .pointer (some ⟨q', 0, none⟩), .slice Au nu cu, .slice Arv rl.length crv, .slice A4 nl.length c4, .slice B4 gl.length d4] :: .box g2 31 (cond s.1 #[.int .i64 pr, .pointer (some ⟨q', 0, none⟩), .slice Au nu cu, .slice Arv rl.length crv, .slice A4 nl.length c4, .slice B4 gl.length d4] #[.int .i64 0, .pointer none, .slice none 0 0, .slice none 0 0, .slice none 0 0, .slice none 0 0]) :: .box g1 37 #[.int .i64 pr, .slice Al L.length cl, .int .u64 (ps : Nat), .slice Ar rl.length cr, .slice An nl.length cn, .slice Ag gl.length cg] :: F) K7
      have hN0 : ∀ _ : Nat, True := fun _ => trivial
      clear hS
      refine FL (SR w0 (fun s => .box g 31 #[.int .i64 pr, .pointer (some ⟨q', 0, none⟩), .slice Au nu cu, .slice Arv rl.length crv, .slice A4 nl.length c4, .slice B4 gl.length d4] :: .box g2 31 (cond s.1 #[.int .i64 pr, .pointer (some ⟨q', 0, none⟩), .slice Au nu cu, .slice Arv rl.length crv, .slice A4 nl.length c4, .slice B4 gl.length d4] #[.int .i64 0, .pointer none, .slice none 0 0, .slice none 0 0, .slice none 0 0, .slice none 0 0]) :: .box g1 37 #[.int .i64 pr, .slice Al L.length cl, .int .u64 (ps : Nat), .slice Ar rl.length cr, .slice An nl.length cn, .slice Ag gl.length cg] :: F) K7) (fun _ _ => True) ((false, false)) hRr hRt [.i (.agg #[.int .i64 pr, .pointer (some ⟨q', 0, none⟩), .slice Au nu cu, .slice Arv rl.length crv, .slice A4 nl.length c4, .slice B4 gl.length d4]), .q g 1, .q q' 0, .b true, .s (fun v w => w.2.1 = true) fun v w w' h hb => hb.2.1 h, .b true] ?_ ⟨uR (h := fun w hW hN => (hW.1 hJ0).box 0 rfl), uF, uC (h := fun w hW hN => (hW.1 hJ0).shut 0 rfl 1 rfl), uB (h := fun w hW hN => J9 _ _), ?_, uA, trivial⟩ ?_
      ·first | assumption | (intro i; (try dsimp only); split <;> first | trivial | assumption | (left; assumption))
      ·refine uG fun b__ w hW hN hE K hK => ?_
       have e2 : b__.eval (.tmp 2) = .pointer (some ⟨g2, 0, none⟩) := hE 2
       have e70 := hE 70
       have hS := hW.1 hJ0
       exact Cn rfl e2 e70 (hS.box 1 rfl) (by kernel_rfl) (by cases w.2.1 <;> rfl) (by simp [Value.oneCell']) fun w4 h1 hU => hK undef (w4, (true, w.2.2)) rfl ⟨⟨fun _ => hS.upd 1 rfl (.box g2 31 #[.int .i64 pr, .pointer (some ⟨q', 0, none⟩), .slice Au nu cu, .slice Arv rl.length crv, .slice A4 nl.length c4, .slice B4 gl.length d4]) (Bn hU) ⟨(hS.holds _ (List.mem_of_getElem? (i := 1) rfl)).1, h1⟩ fun _ e => .inl e, fun _ => rfl, id⟩, fun _ _ h => h⟩
      ·intro vs wz hW hT
       obtain ⟨e70, e71, e72, e73, z4, e3, -⟩ := hT
       have bx : (fun _ : Nat => True) 0 := trivial
       simp only [AC, Act.put, zz, ze]
       obtain ⟨_, hst⟩ := z4
       have hS : St w0 wz.1 (.box g 31 #[.int .i64 pr, .pointer (some ⟨q', 0, none⟩), .slice Au nu cu, .slice Arv rl.length crv, .slice A4 nl.length c4, .slice B4 gl.length d4] :: .box g2 31 (cond wz.2.1 #[.int .i64 pr, .pointer (some ⟨q', 0, none⟩), .slice Au nu cu, .slice Arv rl.length crv, .slice A4 nl.length c4, .slice B4 gl.length d4] #[.int .i64 0, .pointer none, .slice none 0 0, .slice none 0 0, .slice none 0 0, .slice none 0 0]) :: .box g1 37 #[.int .i64 pr, .slice Al L.length cl, .int .u64 (ps : Nat), .slice Ar rl.length cr, .slice An nl.length cn, .slice Ag gl.length cg] :: F) K7 := hW.1 hJ0
       rw [show wz.2.1 = true from hst] at hS
       dsimp only [cond] at hS
       clear hW hJ0 hRr hRt hN0 hst
       generalize wz.1 = wf at *
       simp only [show vs (3 : Nat) = _ from e3]
       go_wp2_with fail
       refine BL Tryz.results46 rfl (hS.box 1 rfl) Tryz.underlying31 rfl (by kernel_rfl) rfl rfl ?_
       refine ⟨_, rfl, (hS.sub (F' := F) (((List.sublist_cons_self _ _).trans (List.sublist_cons_self _ _)).trans (List.sublist_cons_self _ _))).mono (KSt.out.and Dn) fun D w h => ?_⟩
       have h := k7.out _ _ h
       have h2 := kc.out _ _ (k5 _ _ h.1.1)
       exact ⟨k0 _ _ (k5 _ _ h.1.1), _, _, _, _, _, rfl, kh.out _ _ h.1.1, h2.1, ⟨_, h.2, h.1.2⟩, h2.2.1, h2.2.2⟩
theorem Bq.fits {p : Ac} {L : List (Nat × Nat)} {R : Nat} (h : Bq p L R) : Fits p := by
 have hm : BT R < Bu := by
  have : 2 ^ (R + 1) <= 2 ^ 6 := Nat.pow_le_pow_right (by decide) (by have := h.r5; omega)
  unfold BT Bu; omega
 refine ⟨?_, fun z hz => ?_, by have := h.rlen; omega, fun z hz => ?_, by have := h.nlen; omega, fun z hz => ?_, by have := h.glen; omega⟩
 ·rw [<- h.start]; exact Nat.lt_of_le_of_lt Nat.and_le_right hm
 ·have := (h.rules z hz).2.2.2.2.2
  unfold Bu; omega
 ·have := (h.never z hz).1.2.2.2
  unfold Bu; omega
 ·have := (h.goal z hz).2.2.2
  unfold Bu; omega
theorem Bq.ok {p : Ac} {L : List (Nat × Nat)} {R : Nat} (h : Bq p L R) : p.Ok :=
 ⟨by have := h.rlen; omega, by have := h.nlen; omega, by have := h.glen; omega, fun L' e => by rw [h.links] at e; injection e with e; subst e; exact ⟨h.hok, by have := h.len; omega⟩⟩
end
section
open Go.RowKit
attribute [local go_sem ↓] Go.wp_at_zero Go.wp_at_succ
set_option maxRecDepth 20000
set_option exponentiation.threshold 5000
theorem isH_ptr {w : World} {D : Nat -> Prop} {v : Value} {o : Option (List (Nat × Nat))} (h : EH w D v o) : ∃ p, v = .pointer p := by
 cases o with
 | none => exact ⟨_, h⟩
 | some L => obtain ⟨q, o, h, _⟩ := h; exact ⟨_, h⟩
theorem Ba.cells {w : World} {D : Nat -> Prop} {v : Value} {p : Ac} (h : Ba w D v p) : ∃ cs, v = .agg cs /\ cs.size = 6 /\ cs.all (·.oneCell') = true := by
 obtain ⟨lp, s, rv, nv, gv, rfl, h1, h2, h3, h4, h5⟩ := h
 obtain ⟨_, rfl⟩ := isH_ptr h1
 obtain ⟨_, _, _, rfl⟩ := h2.shape
 obtain ⟨_, _, rfl, _, _⟩ := h3.shape
 obtain ⟨_, _, rfl⟩ := E1 h4
 obtain ⟨_, _, rfl⟩ := E1 h5
 exact ⟨_, rfl, rfl, by simp [Value.oneCell']⟩
theorem C4.cells {w : World} {D : Nat -> Prop} {v : Value} {p : Ac} (h : C4 w D v p) : ∃ cs, v = .agg cs /\ cs.size = 6 /\ cs.all (·.oneCell') = true := by
 obtain ⟨lv, rv, nv, gv, L, rfl, _, h1, h2, h3, h4⟩ := h
 obtain ⟨_, _, rfl, _, _⟩ := h1.shape
 obtain ⟨_, _, rfl, _, _⟩ := h2.shape
 obtain ⟨_, _, rfl, _, _⟩ := Sl.shape (h3 : Sl _ _ _ _ _ _)
 obtain ⟨_, _, rfl, _, _⟩ := Sl.shape (h4 : Sl _ _ _ _ _ _)
 exact ⟨_, rfl, rfl, by simp [Value.oneCell']⟩
theorem ret_cct {P : Program} {fn : Func} {p p2 t3 : Tmp} {ty ty2 : TypeId} {R : Ending -> World -> Prop} {a : Act} {w : World} {g g2 : Nat} {t t2 : TypeId} {cs cs2 : Array Value} {d d2 : TypeDesc} {v : Value} (h : fn.results = #[.cell p ty, .cell p2 ty2, .tmp t3]) (hp : a.eval (.tmp p) = .pointer (some ⟨g, 0, none⟩)) (hb : Co w g t cs)
  (hu : P.underlying ty = some d) (hd : (match d with | .struct _ | .array _ _ => true | _ => false) = true) (hi : (P.info? ty).map (·.size) = some cs.size)
  (hp2 : a.eval (.tmp p2) = .pointer (some ⟨g2, 0, none⟩)) (hb2 : Co w g2 t2 cs2) (hu2 : P.underlying ty2 = some d2) (hd2 : (match d2 with | .struct _ | .array _ _ => true | _ => false) = true) (hi2 : (P.info? ty2).map (·.size) = some cs2.size)
  (hv : a.eval (.tmp t3) = v) (hdf : a.defers = []) (hR : R (.returned (.tuple #[.agg cs, .agg cs2, v])) w) : bodyPost P fn R .ret a w := by
 have hr : (results fn a.tmps).run P w = .ok (.tuple #[.agg cs, .agg cs2, v]) w := by
  have hp' : a.tmps[p]?.getD undef = .pointer (some ⟨g, 0, none⟩) := by simpa [Act.eval] using hp
  have hp2' : a.tmps[p2]?.getD undef = .pointer (some ⟨g2, 0, none⟩) := by simpa [Act.eval] using hp2
  have hv' : a.tmps[t3]?.getD undef = v := by simpa [Act.eval] using hv
  simp [results, h, hp', hp2', hv', asAddr, run_loadVar_row w g t ty cs (0, 0) d hb hu hd hi, run_loadVar_row w g2 t2 ty2 cs2 (0, 0) d2 hb2 hu2 hd2 hi2]
 exact bodyPost_ret hr hdf hR
set_option maxHeartbeats 1000000 in
theorem lmake31_any {w0 w : World} {F : List Aj} {K : (Nat -> Prop) -> World -> Prop} {v : Value} {l : List Nat} (hl : ∀ x ∈ l, x < 256) (hS : St w0 w F K) (kp : ∀ D w, K D w -> Sl w D 1 v l.length (G1 l)) (kt : ∀ D w, K D w -> BH w /\ D 0) :
  Calls Tryz.prog 14 #[v] w fun e w' => ∃ x u, e = .returned (.tuple #[x, u, .bool true]) /\ ∃ p, (∃ L R, Bq p L R) /\ St w0 w' F fun D w => K D w /\ Ba w D x p /\ C4 w D u p := by
 have HL := Lib.hid hl
 have KS := Lib.hid hS.stable
 go_enter Tryz.func14, Tryz.ntmps14
 go_wp2_with (first
  | ((with_reducible refine qA 2 ?_); refine qa hS #[.int .i64 0, .pointer none, .slice none 0 0, .slice none 0 0, .slice none 0 0, .slice none 0 0] ?_; clear hS; intro g2 w_ hS)
  | ((with_reducible refine qA 3 ?_); refine qa hS #[.int .i64 0, .slice none 0 0, .int .u64 0, .slice none 0 0, .slice none 0 0, .slice none 0 0] ?_; clear hS; intro g3 w_ hS)
  | ((with_reducible refine qA 5 ?_); refine qa hS #[.int .i64 0, .slice none 0 0, .int .u64 0, .slice none 0 0, .slice none 0 0, .slice none 0 0] ?_; clear hS; intro g5 w_ hS)
  | ((with_reducible refine qA 6 ?_); refine qa hS #[.int .i64 0, .pointer none, .slice none 0 0, .slice none 0 0, .slice none 0 0, .slice none 0 0] ?_; clear hS; intro g6 w_ hS)
  | (go_at_call 45; refine (rmake31_any HL.out hS kp).mono ?_; clear hS; rintro e w_ ⟨u, p, L, R, rfl, hM, hS⟩; replace hM := Lib.hid hM; obtain ⟨us, rfl, hu6, hu1⟩ := hS.ro.2.cells; replace hu6 := Lib.hid hu6)
  | (go_at_call 46; refine (lproblem_any hM.out.links hM.out.hok (by have := hM.out.len; omega) hM.out.fits hS (fun D w h => h.2) (fun D w h => kt D w h.1)).mono ?_; clear hS; rintro e w_ ⟨x, rfl, hS⟩; obtain ⟨xs, rfl, hx6, hx1⟩ := hS.ro.2.cells; replace hx6 := Lib.hid hx6)
  | ((with_reducible refine qm 37 ?_); refine Bt hS 0 rfl _ _ _ rfl _ _ rfl rfl _ _ rfl (by rw [hu6.out]; kernel_rfl) (by rw [hu6.out]; rfl) hu1 ?_; clear hS; intro w_ hS; (try simp only [Act.put, Act.eval, zz, Value.cells] at hS))
  | ((with_reducible refine qm 31 ?_); refine Bt hS 0 rfl _ _ _ rfl _ _ rfl rfl _ _ rfl (by rw [hx6.out]; kernel_rfl) (by rw [hx6.out]; rfl) hx1 ?_; clear hS; intro w_ hS; (try simp only [Act.put, Act.eval, zz, Value.cells] at hS))
  | ((with_reducible refine qA 11 ?_); refine BigFrame.wpList_want rfl fun _ hK => AZ rfl rfl (hS.box 0 rfl) Tryz.underlying37 rfl (by rw [hu6.out]; kernel_rfl) (hK _ _ ?_)))
 obtain ⟨K7, k7, hJ0⟩ : ∃ K7 : (Nat -> Prop) -> World -> Prop, Hid (∀ D w, K7 D w -> (K D w /\ C4 w D (.agg us) p) /\ Ba w D (.agg xs) p) /\ St w0 w_.drew (.box g6 31 xs :: .box g5 37 us :: .box g3 37 (cond (false, false).2 us #[.int .i64 0, .slice none 0 0, .int .u64 0, .slice none 0 0, .slice none 0 0, .slice none 0 0]) :: .box g2 31 (cond (false, false).1 xs #[.int .i64 0, .pointer none, .slice none 0 0, .slice none 0 0, .slice none 0 0, .slice none 0 0]) :: F) K7 := ⟨_, Lib.hid fun _ _ h => h, hS.drew⟩
 have hRr := @SR.refl w0 (fun s => .box g6 31 xs :: .box g5 37 us :: .box g3 37 (cond s.2 us #[.int .i64 0, .slice none 0 0, .int .u64 0, .slice none 0 0, .slice none 0 0, .slice none 0 0]) :: .box g2 31 (cond s.1 xs #[.int .i64 0, .pointer none, .slice none 0 0, .slice none 0 0, .slice none 0 0, .slice none 0 0]) :: F) K7
 have hRt := @SR.trans w0 (fun s => .box g6 31 xs :: .box g5 37 us :: .box g3 37 (cond s.2 us #[.int .i64 0, .slice none 0 0, .int .u64 0, .slice none 0 0, .slice none 0 0, .slice none 0 0]) :: .box g2 31 (cond s.1 xs #[.int .i64 0, .pointer none, .slice none 0 0, .slice none 0 0, .slice none 0 0, .slice none 0 0]) :: F) K7
 have hN0 : ∀ _ : Nat, True := fun _ => trivial
 clear hS
 refine FL (SR w0 (fun s => .box g6 31 xs :: .box g5 37 us :: .box g3 37 (cond s.2 us #[.int .i64 0, .slice none 0 0, .int .u64 0, .slice none 0 0, .slice none 0 0, .slice none 0 0]) :: .box g2 31 (cond s.1 xs #[.int .i64 0, .pointer none, .slice none 0 0, .slice none 0 0, .slice none 0 0, .slice none 0 0]) :: F) K7) (fun _ _ => True) ((false, false)) hRr hRt [.i (.agg xs), .i (.agg us), .b true, .s (fun v w => w.2.1 = true) fun v w w' h hb => hb.2.1 h, .s (fun v w => w.2.2 = true) fun v w w' h hb => hb.2.2 h, .b true] ?_ ⟨?_, ?_, uM, ?_, ?_, uA, trivial⟩ ?_
 ·first | assumption | (intro i; (try dsimp only); split <;> first | trivial | assumption | (left; assumption))
 ·refine uG fun b__ w hW hN hE K hK => ?_
  have e6 : b__.eval (.tmp 6) = .pointer (some ⟨g6, 0, none⟩) := hE 6
  exact AZ rfl e6 ((hW.1 hJ0).box 0 rfl) Tryz.underlying31 rfl (by rw [hx6.out]; kernel_rfl) (hK _ _ rfl ⟨hRr _, fun _ _ h => h⟩)
 ·refine uG fun b__ w hW hN hE K hK => ?_
  have e5 : b__.eval (.tmp 5) = .pointer (some ⟨g5, 0, none⟩) := hE 5
  exact AZ rfl e5 ((hW.1 hJ0).box 1 rfl) Tryz.underlying37 rfl (by rw [hu6.out]; kernel_rfl) (hK _ _ rfl ⟨hRr _, fun _ _ h => h⟩)
 ·refine uG fun b__ w hW hN hE K hK => ?_
  have e2 : b__.eval (.tmp 2) = .pointer (some ⟨g2, 0, none⟩) := hE 2
  have e15 := hE 15
  have hS := hW.1 hJ0
  exact Cn rfl e2 e15 (hS.box 3 rfl) (by rw [hx6.out]; kernel_rfl) (by cases w.2.1; exact hx6.out.symm; rfl) hx1 fun w4 h1 hU => hK undef (w4, (true, w.2.2)) rfl ⟨⟨fun _ => hS.upd 3 rfl (.box g2 31 xs) (Bn hU) ⟨(hS.holds _ (List.mem_of_getElem? (i := 3) rfl)).1, h1⟩ fun _ e => .inl e, fun _ => rfl, id⟩, fun _ _ h => h⟩
 ·refine uG fun b__ w hW hN hE K hK => ?_
  have e3 : b__.eval (.tmp 3) = .pointer (some ⟨g3, 0, none⟩) := hE 3
  have e16 := hE 16
  have hS := hW.1 hJ0
  exact Cn rfl e3 e16 (hS.box 2 rfl) (by rw [hu6.out]; kernel_rfl) (by cases w.2.2; exact hu6.out.symm; rfl) hu1 fun w4 h1 hU => hK undef (w4, (w.2.1, true)) rfl ⟨⟨fun _ => hS.upd 2 rfl (.box g3 37 us) (Bn hU) ⟨(hS.holds _ (List.mem_of_getElem? (i := 2) rfl)).1, h1⟩ fun _ e => .inl e, id, fun _ => rfl⟩, fun _ _ h => h⟩
 ·intro vs wz hW hT
  obtain ⟨e15, e16, e17, z3, z4, e4, -⟩ := hT
  have bx : (fun _ : Nat => True) 0 := trivial
  simp only [AC, Act.put, zz, ze]
  obtain ⟨_, hst⟩ := z3
  obtain ⟨_, hst2⟩ := z4
  have hS : St w0 wz.1 (.box g6 31 xs :: .box g5 37 us :: .box g3 37 (cond wz.2.2 us #[.int .i64 0, .slice none 0 0, .int .u64 0, .slice none 0 0, .slice none 0 0, .slice none 0 0]) :: .box g2 31 (cond wz.2.1 xs #[.int .i64 0, .pointer none, .slice none 0 0, .slice none 0 0, .slice none 0 0, .slice none 0 0]) :: F) K7 := hW.1 hJ0
  rw [show wz.2.1 = true from hst, show wz.2.2 = true from hst2] at hS
  dsimp only [cond] at hS
  clear hW hJ0 hRr hRt hN0 hst hst2
  generalize wz.1 = wf at *
  simp only [show vs (4 : Nat) = _ from e4]
  go_wp2_with fail
  refine ret_cct Tryz.results14 rfl (hS.box 3 rfl) Tryz.underlying31 rfl (by rw [hx6.out]; kernel_rfl) rfl (hS.box 2 rfl) Tryz.underlying37 rfl (by rw [hu6.out]; kernel_rfl) rfl rfl ?_
  exact ⟨_, _, rfl, p, ⟨L, R, hM.out⟩, (hS.sub (F' := F) ((((List.sublist_cons_self _ _).trans (List.sublist_cons_self _ _)).trans (List.sublist_cons_self _ _)).trans (List.sublist_cons_self _ _))).mono (KS.out.and (Dn.and D4)) fun D w h => ⟨(k7.out _ _ h).1.1, (k7.out _ _ h).2, (k7.out _ _ h).1.2⟩⟩
end
section
open Go.RowKit
attribute [local go_sem ↓] Go.wp_at_zero Go.wp_at_succ
set_option maxRecDepth 20000
set_option exponentiation.threshold 5000
theorem tc_role {L : List (Nat × Nat)} (hH : FI L) {a b : Nat} (h : TC L a b) : (1 <= a /\ a < 64) /\ 1 <= b /\ b < 64 := by
 obtain ⟨y, h1, _⟩ := h.first
 obtain ⟨z, h2, _⟩ := h.last
 exact ⟨(hH.role _ h1).1, (hH.role _ h2).2⟩
end
section
open Go.RowKit
attribute [local go_sem ↓] Go.wp_at_zero Go.wp_at_succ
set_option maxRecDepth 20000
set_option exponentiation.threshold 5000
theorem DT {w0 : World} {D : Nat -> Prop} {v : Value} {R : Nat} {L : List (Nat × Nat)} {st : Nat} {rl : List AP} {nl gl : List (Nat × Nat)} (h : C4 w0 D v ⟨R, some L, st, rl, nl, gl⟩) :
  ∃ Al cl Ar cr An cn Ag cg, v = .agg #[.int .i64 (R : Nat), .slice Al L.length cl, .int .u64 (st : Nat), .slice Ar rl.length cr, .slice An nl.length cn, .slice Ag gl.length cg] := by
 obtain ⟨lv, rv, nv, gv, L', rfl, hl', h1, h2, h3, h4⟩ := h
 injection hl' with e; subst e
 obtain ⟨Al, cl, rfl, _, _⟩ := h1.shape
 obtain ⟨Ar, cr, rfl, _, _⟩ := h2.shape
 obtain ⟨An, cn, rfl, _, _⟩ := Sl.shape (h3 : Sl _ _ _ _ _ _)
 obtain ⟨Ag, cg, rfl, _, _⟩ := Sl.shape (h4 : Sl _ _ _ _ _ _)
 exact ⟨_, _, _, _, _, _, _, _, rfl⟩
theorem Ej {w0 : World} {D : Nat -> Prop} {lv sv rv nv gv : Value} {R : Nat} {L : List (Nat × Nat)} {st : Nat} {rl : List AP} {nl gl : List (Nat × Nat)} (h : C4 w0 D (.agg #[.int .i64 (R : Nat), lv, sv, rv, nv, gv]) ⟨R, some L, st, rl, nl, gl⟩) :
  Sl w0 D 2 lv L.length (Af L) /\ Sl w0 D 5 rv rl.length (Bg rl) /\ Sl w0 D 2 nv nl.length (Bv nl) /\ Sl w0 D 2 gv gl.length (Bv gl) := by
 obtain ⟨lv, rv, nv, gv, L', e, hl', h1, h2, h3, h4⟩ := h
 injection hl' with e2; subst e2
 injection e with e; injection e with e; injection e with _ e; injection e with a e; injection e with _ e; injection e with b e; injection e with c e; injection e with d _
 subst a b c d
 exact ⟨h1, h2, h3, h4⟩
end
section
open Go.RowKit
attribute [local go_sem ↓] Go.wp_at_zero Go.wp_at_succ
set_option maxRecDepth 20000
set_option exponentiation.threshold 5000
theorem Em {N t : Nat} : B5 N (t : Int) = N.testBit t := by simp [B5]
end
section
open Go.RowKit
set_option exponentiation.threshold 5000
theorem rolesN_mask : ∀ R, R < 6 -> D7 R = BT R := by decide
theorem role_in : ∀ R, R < 6 -> ∀ z, z < 6 -> 1 <= z -> z <= R -> (BT R).testBit z = true := by decide
theorem I4 {R : Nat} (hR : R <= 5) {i : Int} (h1 : 1 <= i) (h2 : i <= R) : B5 (BT R) i = true := by
 obtain ⟨z, rfl⟩ : ∃ z : Nat, i = (z : Int) := ⟨i.toNat, by omega⟩
 rw [Em]
 exact role_in R (by omega) z (by omega) (by omega) (by omega)
theorem over_of {m : Nat} {z : Nat × Nat} (h1 : z.1 &&& m = z.1) (h2 : z.2 &&& m = z.2) : Ij m z = true := by
 unfold Ij
 rw [beq_iff_eq]
 exact B3 fun i => by
  have a : (z.1 &&& m).testBit i = z.1.testBit i := by rw [h1]
  have b : (z.2 &&& m).testBit i = z.2.testBit i := by rw [h2]
  rw [Nat.testBit_and] at a b
  rw [Nat.testBit_and, Nat.testBit_or]
  cases h3 : z.1.testBit i <;> cases h4 : z.2.testBit i <;> cases h5 : m.testBit i <;> simp_all
theorem Bq.check {p : Ac} {L : List (Nat × Nat)} {R : Nat} (h : Bq p L R) : checkE p = 0 := by
 have hR := h.r5
 have hm := rolesN_mask R (by omega)
 have hc : ∀ z ∈ p.cubes, z.1 &&& BT R = z.1 /\ z.2 &&& BT R = z.2 /\ z.1 &&& z.2 = 0 := fun z hz => by
  unfold Ac.cubes at hz
  rcases List.mem_append.1 hz with hz | hz
  ·rcases List.mem_append.1 hz with hz | hz
   ·obtain ⟨r, hr, rfl⟩ := List.mem_map.1 hz
    have := h.rules r hr
    exact ⟨this.2.2.1, this.2.2.2.1, this.2.2.2.2.1⟩
   ·have := (h.never z hz).1; exact ⟨this.1, this.2.1, this.2.2.1⟩
  ·have := h.goal z hz; exact ⟨this.1, this.2.1, this.2.2.1⟩
 unfold checkE
 rw [h.links]
 dsimp only
 rw [h.roles, Int.toNat_natCast, hm, if_neg (by have := h.r2; omega), if_neg (by have := h.rlen; have := h.nlen; have := h.glen; omega), if_neg, if_neg, if_neg]
 ·unfold goodB
  rw [h.links]
  dsimp only
  intro e
  rw [Bool.not_eq_false', List.any_eq_true] at e
  obtain ⟨z, hz, e⟩ := e
  rw [(h.never z hz).2] at e; cases e
 ·rintro (e | e)
  ·obtain ⟨z, hz, e⟩ := List.any_eq_true.1 e
   rw [(hc z hz).2.2] at e; cases e
  ·have : p.rules.all revB = true := List.all_eq_true.2 fun r hr => by
    unfold revB
    cases hr' : r.revoke with
    | false => rfl
    | true =>
     have := (h.rules r hr).2.2.2.2.2.2.2 hr'
     simp [this]
   rw [this] at e; cases e
 ·have : DN p L (BT R) = true := by
   unfold DN
   rw [Bool.and_eq_true, Bool.and_eq_true, Bool.and_eq_true]
   refine ⟨by rw [h.start]; simp, List.all_eq_true.2 fun z hz => ?_, List.all_eq_true.2 fun r hr => ?_, List.all_eq_true.2 fun z hz => over_of (hc z hz).1 (hc z hz).2.1⟩
   ·have := h.inr z hz
    rw [Bool.and_eq_true]
    exact ⟨I4 hR (by omega) (by omega), I4 hR (by omega) (by omega)⟩
   ·have := (h.rules r hr).1
    exact I4 hR (by omega) (by omega)
  rw [this]; exact nofun
end
section
open Go.RowKit
attribute [local go_sem ↓] Go.wp_at_zero Go.wp_at_succ
set_option maxRecDepth 20000
set_option exponentiation.threshold 5000
theorem run_andnot64 {P : Program} {w : World} {t : TypeId} {x y : Nat} (hx : x < Bu) (hy : y < Bu) : (binOp .andNot t (.int .u64 (x : Nat)) (.int .u64 (y : Nat))).run P w = .ok (.int .u64 ((x &&& Cz y : Nat) : Int)) w := by
 go_simp; rw [JJ hx hy]
end
section
open Go.RowKit
set_option exponentiation.threshold 5000
theorem Gl.sub {L : List (Nat × Nat)} {p : Ac} {T : Nat} (h : Gl L p T) : CI (relM L p) T := fun i hi => by
 rw [relM, Bo] at hi; exact hi.2 T h
theorem rel_sub {L : List (Nat × Nat)} {p : Ac} {N : Nat} (hN : N < 2 ^ 64) (h : ∀ T, Gl L p T -> CI N T) : CI N (relM L p) := fun i hi => by
 rw [relM, Bo]
 refine ⟨?_, fun T hT => h T hT i hi⟩
 rcases Nat.lt_or_ge i 64 with h1 | h1
 ·exact h1
 ·rw [Nat.testBit_lt_two_pow (Nat.lt_of_lt_of_le hN (Nat.pow_le_pow_right (by decide) h1))] at hi; cases hi
theorem Gf (L : List (Nat × Nat)) (p : Ac) : Gl L p (relM L p) :=
 ⟨fun c hc => rel_sub (FC _ _) fun T hT => hT.goal c hc, fun r hr h1 h2 => rel_sub (FC _ _) fun T hT => hT.rules r hr h1 (hT.sub.has h2), fun c hc h2 => rel_sub (FC _ _) fun T hT => hT.never c hc (hT.sub.meets h2)⟩
theorem clos_at {L : List (Nat × Nat)} (hH : FI L) {s r : Nat} (h1 : 1 <= r) (h2 : r < 64) : (closM L s).testBit r = true ↔ ∃ i, s.testBit i = true /\ (senM L r).testBit i = true := by
 rw [EV]
 constructor
 ·rintro ⟨i, h3, h4, h5, h6⟩
  refine ⟨i, h5, ?_⟩
  rw [Hx hH.inr]
  rw [junM, Bo] at h6
  exact h6.2.imp Eq.symm id
 ·rintro ⟨i, h3, h4⟩
  rw [Hx hH.inr] at h4
  have hi : 1 <= i /\ i < 64 := by
   rcases h4 with rfl | h4
   ·exact ⟨h1, h2⟩
   ·have := tc_role hH h4; omega
  refine ⟨i, hi.2, hi.1, h3, ?_⟩
  rw [junM, Bo]
  exact ⟨h2, h4.imp Eq.symm id⟩
theorem clos_none {L : List (Nat × Nat)} (hH : FI L) {s r : Nat} (h : ¬ (1 <= r /\ r < 64)) : (closM L s).testBit r = false := by
 cases e : (closM L s).testBit r with
 | false => rfl
 | true =>
  obtain ⟨i, h3, h4, h5, h6⟩ := EV.1 e
  rw [junM, Bo] at h6
  rcases h6.2 with rfl | h7
  ·exact absurd ⟨h4, h3⟩ h
  ·have := tc_role hH h7; omega
theorem DX {L : List (Nat × Nat)} (hH : FI L) {S s t : Nat} (hst : ∀ i, S.testBit i = true -> (s.testBit i = true ↔ t.testBit i = true)) {z : Nat × Nat} (hz : CI (depC L z) S) : B9 z (closM L s) = B9 z (closM L t) := by
 have key : ∀ m : Nat, (∀ i, m.testBit i = true -> (z.1 ||| z.2).testBit i = true) -> m &&& closM L s = m &&& closM L t := fun m hm => B3 fun r => by
  rw [Nat.testBit_and, Nat.testBit_and, Bool.and_eq_true, Bool.and_eq_true]
  refine and_congr_right fun hr => ?_
  by_cases hr2 : 1 <= r /\ r < 64
  ·rw [clos_at hH hr2.1 hr2.2, clos_at hH hr2.1 hr2.2]
   have hs : ∀ i, (senM L r).testBit i = true -> S.testBit i = true := fun i hi => hz i ((tb_dep hH.inr).2 ⟨r, hr2.1, hr2.2, hm r hr, hi⟩)
   exact exists_congr fun i => ⟨fun h => ⟨(hst i (hs i h.2)).1 h.1, h.2⟩, fun h => ⟨(hst i (hs i h.2)).2 h.1, h.2⟩⟩
  ·rw [clos_none hH hr2, clos_none hH hr2]
 unfold B9
 rw [key z.1 fun i h => DA.2 (.inl h), key z.2 fun i h => DA.2 (.inr h)]
theorem any_agree {L : List (Nat × Nat)} (hH : FI L) {S s t : Nat} (hst : ∀ i, S.testBit i = true -> (s.testBit i = true ↔ t.testBit i = true)) {l : List (Nat × Nat)} (hl : ∀ z ∈ l, CI (depC L z) S) : (l.any fun z => B9 z (closM L s)) = l.any fun z => B9 z (closM L t) := by
 induction l with
 | nil => rfl
 | cons z r ih =>
  rw [List.any_cons, List.any_cons, DX hH hst (hl z (List.mem_cons_self ..)), ih fun y hy => hl y (List.mem_cons_of_mem _ hy)]
theorem dep_zero {L : List (Nat × Nat)} (hH : FI L) (S : Nat) : CI (depC L (0, 0)) S := fun i hi => by
 obtain ⟨r, _, _, h, _⟩ := (tb_dep hH.inr).1 hi
 simp at h
theorem Bq.keptR {p : Ac} {L : List (Nat × Nat)} {R : Nat} (h : Bq p L R) : ∀ r ∈ C8 (relM L p) p.rules, CI (depC L (r.yes, r.no)) (relM L p) := fun r hr => by
 obtain ⟨h1, h2⟩ := List.mem_filter.1 hr
 cases hv : r.revoke with
 | false => exact (Gf L p).rules r h1 hv h2
 | true =>
  have := (h.rules r h1).2.2.2.2.2.2.2 hv
  rw [this.1, this.2]; exact dep_zero h.hok _
theorem keptN {p : Ac} {L : List (Nat × Nat)} : ∀ z ∈ keepC L (relM L p) p.never, CI (depC L z) (relM L p) := fun z hz => by
 obtain ⟨h1, h2⟩ := List.mem_filter.1 hz
 exact (Gf L p).never z h1 h2
end
section
open Go.RowKit
set_option exponentiation.threshold 5000
theorem ofE' {p : Ac} {L : List (Nat × Nat)} {R : Nat} (h : Bq p L R) : ofP p = ⟨p.roles, p.links, p.start &&& relM L p, C8 (relM L p) p.rules, keepC L (relM L p) p.never, p.goal⟩ := by
 unfold ofP; rw [if_pos h.check, h.links]
theorem Bq.slice {p : Ac} {L : List (Nat × Nat)} {R : Nat} (h : Bq p L R) : Bq (ofP p) L R := by
 rw [ofE' h]
 refine ⟨h.links, h.roles, h.r2, h.r5, h.hok, h.inr, h.len, ?_, Nat.le_trans (List.length_filter_le _ _) h.rlen, fun z hz => h.rules z (List.mem_filter.1 hz).1, Nat.le_trans (List.length_filter_le _ _) h.nlen, fun z hz => ?_, h.glen, h.gpos, h.goal⟩
 ·show p.start &&& relM L p &&& BT R = p.start &&& relM L p
  rw [Nat.and_assoc, Nat.and_comm (relM L p), <- Nat.and_assoc, h.start]
 ·have hk := h.never z (List.mem_filter.1 hz).1
  refine ⟨hk.1, ?_⟩
  rw [<- hk.2]
  exact (DX h.hok (S := relM L p) (fun i hi => by show p.start.testBit i = true ↔ (p.start &&& relM L p).testBit i = true; rw [Nat.testBit_and, hi]; simp) (keptN z hz)).symm
end
section
open Go.RowKit
def Sp.g {X : Type} {R : X -> X -> Prop} (c : Bool) (v : Value) : Sp R := .i (cond c v undef)
section
variable {X : Type} {κ : Kd X} {P : Program} {ops : Array Oper} {l : List (Sp κ.R)} {a0 : Act} {Q : Exit -> Act -> World -> Prop} {i : Nat} {o : Oper}
theorem uY {j : Nat} {c : Bool} {oj : Oper} {d : Tmp} (h : o.guard = some (j, c) := by rfl) (h1 : ops[j]? = some oj := by rfl) (h2 : oj.dst = some d := by rfl) (h3 : src ops d o.after.toList = some j := by rfl) (h4 : l[j]? = some (.i (.bool !c)) := by rfl) (hs : ∀ x, Sp.T l i undef x := by first | exact fun _ => rfl | exact fun _ => trivial | exact fun _ => nofun) : Cb κ P ops l a0 Q i o := fun b x hC hN hE =>
 ⟨fun hw => (by rw [Ec h h1 h2 ((Ev.n h3 h4).at hE : b.eval (.tmp _) = _)] at hw; cases c <;> cases hw), fun _ => hs x⟩
theorem uX {j : Nat} {c : Bool} {oj : Oper} {d : Tmp} (h : o.guard = some (j, c) := by rfl) (h1 : ops[j]? = some oj := by rfl) (h2 : oj.dst = some d := by rfl) (h3 : src ops d o.after.toList = some j := by rfl) (h4 : l[j]? = some (.i undef) := by rfl) (hs : ∀ x, Sp.T l i undef x := by first | exact fun _ => rfl | exact fun _ => trivial | exact fun _ => nofun) : Cb κ P ops l a0 Q i o := fun b x hC hN hE =>
 ⟨fun hw => (by
  have h5 : b.eval (.tmp d) = undef := (Ev.n h3 h4).at hE
  have h6 : yielded ops b.tmps j = none := by
   have h7 : ((some oj).bind fun x => x.dst) = some d := h2
   unfold yielded
   rw [h1, h7]
   simp only [Option.bind_some]
   cases h7 : b.tmps[d]? with
   | none => rfl
   | some v =>
    have : v = undef := by simpa [Act.eval, h7] using h5
    subst this; rfl
  simp [Region.wanted, h, h6] at hw), fun _ => hs x⟩
end
end
section
open Go.RowKit
attribute [local go_sem ↓] Go.wp_at_zero Go.wp_at_succ
set_option maxRecDepth 20000
set_option exponentiation.threshold 5000
theorem rgood31_any {w0 : World} {D : Nat -> Prop} {v : Value} {p : Ac} {L : List (Nat × Nat)} {R s : Nat} (hp : C4 w0 D v p) (hM : Bq p L R) :
  Calls Tryz.prog 109 #[v, .int .u64 (s : Nat)] w0 (AO (fun x _ => x = .bool (goodB p s)) w0) := by
 obtain ⟨R', lk, st, rl, nl, gl⟩ := p
 obtain rfl : lk = some L := hM.links
 obtain rfl : R' = (R : Int) := hM.roles
 obtain ⟨Al, cl, Ar, cr, An, cn, Ag, cg, rfl⟩ := DT hp
 obtain ⟨K, kp, hS⟩ : ∃ K : (Nat -> Prop) -> World -> Prop, (∀ D w, K D w -> C4 w D (.agg #[.int .i64 (R : Nat), .slice Al L.length cl, .int .u64 (st : Nat), .slice Ar rl.length cr, .slice An nl.length cn, .slice Ag gl.length cg]) ⟨(R : Int), some L, st, rl, nl, gl⟩) /\ St w0 w0 [] K := ⟨_, fun _ _ h => h, St.start D4 hp⟩
 have kl : ∀ D w, K D w -> Sl w D 2 (.slice Al L.length cl) L.length (Af L) := fun D w h => (Ej (kp D w h)).1
 have HM := Lib.hid hM
 have HL := Lib.hid (show EI 64 L from hM.hok.inr)
 have hlen := hM.len
 clear hp hM
 have kn : ∀ D w, K D w -> Ch w D (.slice An nl.length cn) nl := fun D w h => (Ej (kp D w h)).2.2.1
 obtain ⟨b, hb⟩ : ∃ b, nl.any (fun z => B9 z (closM L s)) = b := ⟨_, rfl⟩
 have HG : Hid (goodB ⟨(R : Int), some L, st, rl, nl, gl⟩ s = !b) := Lib.hid (by rw [<- hb]; rfl)
 have HB := Lib.hid hb
 clear hb
 go_enter Tryz.func109, Tryz.ntmps109
 go_wp2_with (first | ((with_reducible refine qA 2 ?_); refine AE hS rfl _ _ rfl (.agg #[.int .i64 (R : Nat), .slice Al L.length cl, .int .u64 (st : Nat), .slice Ar rl.length cr, .slice An nl.length cn, .slice Ag gl.length cg]) _ rfl rfl ?_; clear hS; intro g2 w_ hS; (try simp only [Act.put, Act.eval, zz, Value.cells] at hS)))
 refine BF [.q g2 4, .i (.slice An nl.length cn), .q g2 1, .i (.slice Al L.length cl), .i (.int .u64 (s : Nat)), .i (.int .u64 (closM L s : Nat)), .i (.bool b), .i (.bool (!b)), .i (.bool (!b))] ⟨uF, uC (h := fun w hW hN => (hS.ext hW).shut 0 rfl 4 rfl), uF, uC (h := fun w hW hN => (hS.ext hW).shut 0 rfl 1 rfl), uM, ?_, ?_, uU, uA, trivial⟩ ?_
 ·refine uT fun b__ w hW hE K hK => ?_
  have e8 := hE 8
  have e9 := hE 9
  exact Az rfl (by kernel_rfl) (by simp only [List.map_cons, List.map_nil, e8, e9]) (Fq (kl _ _ (hS.ext hW).ro) HL.out (by omega) s) fun v w' h hb => hK v w' h hb
 ·refine uT fun b__ w hW hE K hK => ?_
  have e6 := hE 6
  have e10 := hE 10
  exact Az rfl (by kernel_rfl) (by simp only [List.map_cons, List.map_nil, e6, e10]) (rsome_any (kn _ _ (hS.ext hW).ro) HM.out.fits.never (FE L s)) fun v w' h hb => hK v w' (h.trans (by rw [HB.out])) hb
 ·intro vs wz hW hT
  obtain ⟨e5, e6, e7, e8, e9, e10, e11, e12, e4, -⟩ := hT
  simp only [AC, Act.put, zz, ze]
  rw [e4]
  go_wp2_with fail
  go_ret
  exact AO.mk (by rw [HG.out]; rfl) (Ca hS.below hW)
theorem GP {w0 : World} {D : Nat -> Prop} {v : Value} {p : Ac} {L : List (Nat × Nat)} {R s : Nat} (hp : C4 w0 D v p) (hM : Bq p L R) :
  Calls Tryz.prog 51 #[v, .int .u64 (s : Nat)] w0 (AO (fun x _ => x = .bool (reachB p s)) w0) := by
 obtain ⟨R', lk, st, rl, nl, gl⟩ := p
 obtain rfl : lk = some L := hM.links
 obtain rfl : R' = (R : Int) := hM.roles
 obtain ⟨Al, cl, Ar, cr, An, cn, Ag, cg, rfl⟩ := DT hp
 obtain ⟨K, kp, hS⟩ : ∃ K : (Nat -> Prop) -> World -> Prop, (∀ D w, K D w -> C4 w D (.agg #[.int .i64 (R : Nat), .slice Al L.length cl, .int .u64 (st : Nat), .slice Ar rl.length cr, .slice An nl.length cn, .slice Ag gl.length cg]) ⟨(R : Int), some L, st, rl, nl, gl⟩) /\ St w0 w0 [] K := ⟨_, fun _ _ h => h, St.start D4 hp⟩
 have kl : ∀ D w, K D w -> Sl w D 2 (.slice Al L.length cl) L.length (Af L) := fun D w h => (Ej (kp D w h)).1
 have HM := Lib.hid hM
 have HL := Lib.hid (show EI 64 L from hM.hok.inr)
 have hlen := hM.len
 clear hp hM
 have kg : ∀ D w, K D w -> Ch w D (.slice Ag gl.length cg) gl := fun D w h => (Ej (kp D w h)).2.2.2
 obtain ⟨b, hb⟩ : ∃ b, gl.any (fun z => B9 z (closM L s)) = b := ⟨_, rfl⟩
 have HG : Hid (reachB ⟨(R : Int), some L, st, rl, nl, gl⟩ s = b) := Lib.hid (by rw [<- hb]; rfl)
 have HB := Lib.hid hb
 clear hb
 go_enter Tryz.func51, Tryz.ntmps51
 go_wp2_with (first | ((with_reducible refine qA 2 ?_); refine AE hS rfl _ _ rfl (.agg #[.int .i64 (R : Nat), .slice Al L.length cl, .int .u64 (st : Nat), .slice Ar rl.length cr, .slice An nl.length cn, .slice Ag gl.length cg]) _ rfl rfl ?_; clear hS; intro g2 w_ hS; (try simp only [Act.put, Act.eval, zz, Value.cells] at hS)))
 refine BF [.q g2 5, .i (.slice Ag gl.length cg), .q g2 1, .i (.slice Al L.length cl), .i (.int .u64 (s : Nat)), .i (.int .u64 (closM L s : Nat)), .i (.bool b), .i (.bool b)] ⟨uF, uC (h := fun w hW hN => (hS.ext hW).shut 0 rfl 5 rfl), uF, uC (h := fun w hW hN => (hS.ext hW).shut 0 rfl 1 rfl), uM, ?_, ?_, uA, trivial⟩ ?_
 ·refine uT fun b__ w hW hE K hK => ?_
  have e8 := hE 8
  have e9 := hE 9
  exact Az rfl (by kernel_rfl) (by simp only [List.map_cons, List.map_nil, e8, e9]) (Fq (kl _ _ (hS.ext hW).ro) HL.out (by omega) s) fun v w' h hb => hK v w' h hb
 ·refine uT fun b__ w hW hE K hK => ?_
  have e6 := hE 6
  have e10 := hE 10
  exact Az rfl (by kernel_rfl) (by simp only [List.map_cons, List.map_nil, e6, e10]) (rsome_any (kg _ _ (hS.ext hW).ro) HM.out.fits.goal (FE L s)) fun v w' h hb => hK v w' (h.trans (by rw [HB.out])) hb
 ·intro vs wz hW hT
  obtain ⟨e5, e6, e7, e8, e9, e10, e11, e4, -⟩ := hT
  simp only [AC, Act.put, zz, ze]
  rw [e4]
  go_wp2_with fail
  go_ret
  exact AO.mk (by rw [HG.out]; rfl) (Ca hS.below hW)
theorem tb_not64 {b i : Nat} (hb : b < Bu) : (Cz b).testBit i = (decide (i < 64) && !b.testBit i) := by
 by_cases hi : i < 64
 ·rw [Di hb i hi]; simp [hi]
 ·rw [EW (not64_lt b) (Nat.not_lt.1 hi)]; simp [hi]
theorem andnot_del {N t : Nat} (hN : N < Bu) (ht : t < 64) : N &&& Cz (2 ^ t) = del N (t : Int) := B3 fun i => by
 unfold del
 rw [Em, Nat.testBit_and, tb_not64 (by rw [CK]; exact Nat.pow_lt_pow_right (by decide) ht), Int.toNat_natCast]
 by_cases hi : i < 64
 ·by_cases e : t = i
  ·subst e
   cases h : N.testBit t
   ·simp [h]
   ·simp [h, Nat.testBit_xor, Nat.testBit_two_pow_self]
  ·have h1 : (2 ^ t).testBit i = false := by rw [Nat.testBit_two_pow]; simp [e]
   simp only [h1, hi, decide_true, Bool.not_false, Bool.and_true]
   split
   ·rw [Nat.testBit_xor, h1, Bool.xor_false]
   ·rfl
 ·have h0 : N.testBit i = false := EW hN (Nat.not_lt.1 hi)
  have h1 : (2 ^ t).testBit i = false := by rw [Nat.testBit_two_pow]; simp; omega
  simp only [h0, Bool.false_and]
  split
  ·rw [Nat.testBit_xor, h0, h1]; simp
  ·simp [h0]
theorem Fw {N t : Nat} (ht : t < 64) : N ||| 2 ^ t = Cx N (t : Int) := by
 unfold Cx
 rw [if_pos ⟨by omega, by omega⟩, Int.toNat_natCast]
theorem run_shlU {P : Program} {w : World} {t : TypeId} {r : Nat} (hr : r < 64) : (binOp .shl t (.int .u64 1) (.int .u64 (r : Nat))).run P w = .ok (.int .u64 ((2 ^ r : Nat) : Int)) w := by
 go_simp
 rw [shl64 r hr]
 simp
theorem run_convU {P : Program} {w : World} {n : Nat} (hn : n < Bu) : (convert 3 148 (.int .i64 (n : Nat))).run Tryz.prog w = .ok (.int .u64 (n : Nat)) w := by
 go_simp
 exact wrap_u64_nat hn
theorem next_eq {N t : Nat} {rv : Bool} (hN : N < Bu) (ht : t < 64) : ((if rv = true then del N (t : Int) else Cx N (t : Int)) == N) = (B5 N (t : Int) != rv) := by
 have hp : (2 ^ t).testBit t = true := Nat.testBit_two_pow_self
 cases rv
 ·rw [if_neg (by simp), <- Fw ht, Em]
  cases h : N.testBit t
  ·have : N ||| 2 ^ t ≠ N := fun e => by
    have : (N ||| 2 ^ t).testBit t = true := by rw [Nat.testBit_or, hp, Bool.or_true]
    rw [e, h] at this; cases this
   simpa using this
  ·have : N ||| 2 ^ t = N := B3 fun i => by
    rw [Nat.testBit_or, Nat.testBit_two_pow]
    by_cases e : t = i
    ·subst e; simp [h]
    ·simp [e]
   simp [this]
 ·rw [if_pos rfl]
  unfold del
  rw [Em, Int.toNat_natCast]
  cases h : N.testBit t
  ·simp
  ·have : N ^^^ 2 ^ t ≠ N := fun e => by
    have : (N ^^^ 2 ^ t).testBit t = false := by rw [Nat.testBit_xor, h, hp]; rfl
    rw [e, h] at this; cases this
   simpa using this
set_option maxHeartbeats 4000000 in
theorem F6 {w0 : World} {D : Nat -> Prop} {v : Value} {p : Ac} {L : List (Nat × Nat)} {R N : Nat} (k : Int) (hp : C4 w0 D v p) (hM : Bq p L R) (hN : N < Bu) :
  Calls Tryz.prog 69 #[v, .int .u64 (N : Nat), .int .i64 k] w0 (AO (fun x _ => x = .tuple #[.int .u64 ((stepM p N k).getD 0 : Nat), .bool (stepM p N k).isSome]) w0) := by
 obtain ⟨R', lk, st, rl, nl, gl⟩ := p
 obtain rfl : lk = some L := hM.links
 obtain rfl : R' = (R : Int) := hM.roles
 obtain ⟨Al, cl, Ar, cr, An, cn, Ag, cg, rfl⟩ := DT hp
 obtain ⟨K, kp, hS⟩ : ∃ K : (Nat -> Prop) -> World -> Prop, (∀ D w, K D w -> C4 w D (.agg #[.int .i64 (R : Nat), .slice Al L.length cl, .int .u64 (st : Nat), .slice Ar rl.length cr, .slice An nl.length cn, .slice Ag gl.length cg]) ⟨(R : Int), some L, st, rl, nl, gl⟩) /\ St w0 w0 [] K := ⟨_, fun _ _ h => h, St.start D4 hp⟩
 have kl : ∀ D w, K D w -> Sl w D 2 (.slice Al L.length cl) L.length (Af L) := fun D w h => (Ej (kp D w h)).1
 have HM := Lib.hid hM
 have HL := Lib.hid (show EI 64 L from hM.hok.inr)
 have hlen := hM.len
 clear hp hM
 have kr : ∀ D w, K D w -> Sl w D 5 (.slice Ar rl.length cr) rl.length (Bg rl) := fun D w h => (Ej (kp D w h)).2.1
 have hr6 : rl.length <= 6 := HM.out.rlen
 by_cases hk : 0 <= k /\ k < rl.length
 ·obtain ⟨j, rfl⟩ : ∃ j : Nat, k = (j : Int) := ⟨k.toNat, by omega⟩
  have hlj : j < rl.length := by omega
  clear hk
  obtain ⟨b, o2, rfl, -⟩ := rr_at (kr _ _ hS.ro) hlj
  rw [EZ (p := ⟨(R : Int), some L, st, rl, nl, gl⟩) (N := N) rfl hlj]
  dsimp only
  have HG := Lib.hid (Bz AL hlj)
  have hz := HM.out.rules _ (List.mem_of_getElem? HG.out)
  clear HG
  obtain ⟨z, hz2⟩ : ∃ z, rl.getD j AL = z := ⟨_, rfl⟩
  rw [hz2] at hz ⊢
  have HZ := Lib.hid hz2
  clear hz2
  obtain ⟨zr, y, n, rt, ro⟩ := z
  obtain ⟨t, rfl, ht⟩ : ∃ t : Nat, rt = (t : Int) /\ t < 64 := ⟨rt.toNat, by have h := hz.1; have h5 := HM.out.r5; dsimp only at h h5; omega, by have h := hz.1; have h5 := HM.out.r5; dsimp only at h h5; omega⟩
  have hy64 : y < Bu := by have := hz.2.2.2.2.2.1; dsimp only at this; unfold Bu; omega
  have hn64 : n < Bu := by have := hz.2.2.2.2.2.2.1; dsimp only at this; unfold Bu; omega
  clear hz
  obtain ⟨V, hV⟩ : ∃ V, V = if stepB ⟨(R : Int), some L, st, rl, nl, gl⟩ N ⟨zr, y, n, (t : Int), ro⟩ = true then some (Dt N ⟨zr, y, n, (t : Int), ro⟩) else none := ⟨_, rfl⟩
  rw [<- hV]
  obtain ⟨M, hM2⟩ : ∃ M, Dt N ⟨zr, y, n, (t : Int), ro⟩ = M := ⟨_, rfl⟩
  have hMN : (M == N) = (B5 N (t : Int) != zr) := by rw [<- hM2]; exact next_eq hN ht
  obtain ⟨ho, hho⟩ : ∃ ho, B9 (y, n) (closM L N) = ho := ⟨_, rfl⟩
  obtain ⟨gd, hgd⟩ : ∃ gd, goodB ⟨(R : Int), some L, st, rl, nl, gl⟩ M = gd := ⟨_, rfl⟩
  obtain ⟨e1, he1⟩ : ∃ e1, (M == N) = e1 := ⟨_, rfl⟩
  have HV : Hid (V = if (!((e1 || (!zr && !ho)) || !gd)) = true then some M else none) := Lib.hid (by rw [hV, hM2, <- hho, <- hgd, <- he1, hMN, <- hM2]; rfl)
  have HMf : Hid (zr = false -> N ||| 2 ^ t = M) := Lib.hid fun e => by rw [<- hM2, Fw ht, e]; rfl
  have HMt : Hid (zr = true -> N &&& Cz (2 ^ t) = M) := Lib.hid fun e => by rw [<- hM2, andnot_del hN ht, e]; rfl
  have HE1 : Hid (∀ w : World, (binOp .eql 33 (.int .u64 (M : Nat)) (.int .u64 (N : Nat))).run Tryz.prog w = .ok (.bool e1) w) := Lib.hid fun w => GL (by rw [<- he1, Bool.eq_iff_iff]; simp only [beq_iff_eq, decide_eq_true_eq]; omega)
  have HHO := Lib.hid hho
  have HGD := Lib.hid hgd
  have h2t : 2 ^ t < Bu := pow_lt_64 ht
  clear hV hM2 hMN hho hgd he1
  obtain ⟨rb, hrb⟩ : ∃ rb, rb = zr := ⟨_, rfl⟩
  have HRB := Lib.hid hrb
  clear hrb
  cases zr <;> cases e1 <;> cases gd
  all_goals
   go_enter Tryz.func69, Tryz.ntmps69
   go_wp2_with (first
    | ((with_reducible refine qA 3 ?_); refine AE hS rfl _ _ rfl (.agg #[.int .i64 (R : Nat), .slice Al L.length cl, .int .u64 (st : Nat), .slice (some ⟨b, o2, none⟩) rl.length cr, .slice An nl.length cn, .slice Ag gl.length cg]) _ rfl rfl ?_; clear hS; intro g3 w_ hS; (try simp only [Act.put, Act.eval, zz, Value.cells] at hS))
    | ((with_reducible refine qA 24 ?_); obtain ⟨b', o', e', c0, c1, c2, c3, c4⟩ := rr_at (kr _ _ hS.ro) hlj; injection e' with e'; injection e' with e1 e2; subst e1 e2; rw [HZ.out] at c0 c1 c2 c3 c4; dsimp only at c0 c1 c2 c3 c4; refine BigFrame.wpList_want rfl fun _ hK => AQ (cs := [.bool _, .int .u64 (y : Nat), .int .u64 (n : Nat), .int .i64 (t : Nat), .int .i64 ro]) rfl rfl (EO c0 c1 c2 c3 c4) Tryz.underlying154 rfl (by kernel_rfl) (hK _ _ ?_))
    | ((with_reducible refine qA 8 ?_); refine qa hS #[.bool false, .int .u64 0, .int .u64 0, .int .i64 0, .int .i64 0] ?_; clear hS; intro g8 w_ hS)
    | ((with_reducible refine qA 27 ?_); refine BigFrame.wpList_want rfl fun _ hK => Fb (v := .int .u64 (t : Nat)) rfl rfl (run_convU (by omega)) (hK _ _ ?_))
    | ((with_reducible refine qA 28 ?_); refine BigFrame.wpList_want rfl fun _ hK => AU (v := .int .u64 ((2 ^ t : Nat) : Int)) rfl rfl rfl rfl (run_shlU ht) (hK _ _ ?_))
    | ((with_reducible refine qA 31 ?_); first | (refine BigFrame.wpList_want rfl fun _ hK => AU (v := .int .u64 (M : Nat)) rfl rfl rfl rfl (by rw [<- HMf.out rfl]; exact Fo hN h2t) (hK _ _ ?_)) | (refine st_orN rfl _ _ _ _ rfl _ _ rfl rfl hN h2t ?_))
    | ((with_reducible refine qA 36 ?_); refine BigFrame.wpList_want rfl fun _ hK => AU (v := .int .u64 (M : Nat)) rfl rfl rfl rfl (by rw [<- HMt.out rfl]; exact run_andnot64 hN h2t) (hK _ _ ?_))
    | ((with_reducible refine qA 39 ?_); refine BigFrame.wpList_want rfl fun _ hK => AU (vx := .int .u64 (M : Nat)) (vy := .int .u64 (N : Nat)) rfl rfl rfl rfl (HE1.out _) (hK _ _ ?_))
    | ((with_reducible refine qB ?_); refine qc ?_ ?_ <;> intro h_ <;> go_prune)
    | ((with_reducible refine qA 41 ?_); refine BigFrame.wpList_want rfl fun _ hK => AZ rfl rfl (hS.box 1 rfl) Tryz.underlying37 rfl (by kernel_rfl) (hK _ _ ?_))
    | (go_at_call 109; refine (rgood31_any (s := M) (kp _ _ hS.ro) HM.out).mono ?_; rw [HGD.out]; rintro r_ w_ ⟨_, rfl, rfl, hb_⟩; replace hS := hS.ext hb_; clear hb_)
    | ((with_reducible refine qM ?_); (first | refine qS hS ?_ | refine qT hS ?_); clear hS; intro w_ hS; (try simp only [Act.put, Act.eval, zz, Value.cells] at hS))
    | ((with_reducible refine qK ?_); refine qC hS ?_))
  all_goals try (go_ret2; exact AO.mk (by rw [HV.out]; cases ho <;> rfl) hS.below)
  all_goals
   refine BF [.q g8 0, .i (.bool rb), .i (.bool (!rb)), .i (.bool (!rb)), .g ((!rb)) (.pointer (some ⟨g8, 1, none⟩)), .g ((!rb)) (.agg #[.int .u64 (y : Nat), .int .u64 (n : Nat)]), .g ((!rb)) (.pointer (some ⟨g3, 1, none⟩)), .g ((!rb)) (.slice Al L.length cl), .g ((!rb)) (.int .u64 (N : Nat)), .g ((!rb)) (.int .u64 (closM L N : Nat)), .g ((!rb)) (.bool ho), .g ((!rb)) (.bool (!ho)), .i (.bool ((!rb) && (!ho)))] ⟨uF, uC (h := fun w hW hN => by rw [HRB.out]; exact (hS.ext hW).shut 0 rfl 0 rfl), uU, uM, (by cases rb <;> first | exact uY | exact uX | exact uF), (by cases rb <;> first | exact uY | exact uX | exact uD (h := fun w hW hN => Jd ((hS.ext hW).shut 0 rfl 1 rfl) ((hS.ext hW).shut 0 rfl 2 rfl))), (by cases rb <;> first | exact uY | exact uX | exact uF), (by cases rb <;> first | exact uY | exact uX | exact uC (h := fun w hW hN => (hS.ext hW).shut 1 rfl 1 rfl)), (by cases rb <;> first | exact uY | exact uX | exact uM), ?_, ?_, (by cases rb <;> first | exact uY | exact uX | exact uU), (by cases rb <;> exact uP), trivial⟩ ?_
   ·cases rb <;> first | exact uY | exact uX | (refine uT fun b__ w hW hE K hK => ?_; have e53 : b__.eval (.tmp 53) = .slice Al L.length cl := hE 53; have e54 : b__.eval (.tmp 54) = .int .u64 (N : Nat) := hE 54; (exact Az rfl (by kernel_rfl) (by simp only [List.map_cons, List.map_nil, e53, e54]) (Fq (kl _ _ (hS.ext hW).ro) HL.out (by omega) N) fun v w' h hb => hK v w' h hb))
   ·cases rb <;> first | exact uY | exact uX | (refine uT fun b__ w hW hE K hK => ?_; have e51 : b__.eval (.tmp 51) = .agg #[.int .u64 (y : Nat), .int .u64 (n : Nat)] := hE 51; have e55 : b__.eval (.tmp 55) = .int .u64 (closM L N : Nat) := hE 55; (exact Az rfl (by kernel_rfl) (by simp only [List.map_cons, List.map_nil, e51, e55]) (G6 hy64 hn64 (FE L N) _) fun v w' h hb => hK v w' (h.trans (by rw [HHO.out]; rfl)) hb))
   ·intro vs wz hW hT
    obtain ⟨e46, e47, e48, e49, -, -, -, -, -, -, -, -, e58, -⟩ := hT
    simp only [AC, Act.put, zz, ze]
    rw [e58, HRB.out]
    replace hS := hS.ext hW
    cases ho
    all_goals
     go_wp2_with fail
     go_ret2
     exact AO.mk (by rw [HV.out]; rfl) hS.below
 ·rw [IU (p := ⟨(R : Int), some L, st, rl, nl, gl⟩) (fun h => hk ⟨h.1, h.2.1⟩)]
  have hk' : k < 0 \/ rl.length <= k := by omega
  clear hk
  go_enter Tryz.func69, Tryz.ntmps69
  go_wp2_with (first
   | ((with_reducible refine qA 3 ?_); refine AE hS rfl _ _ rfl (.agg #[.int .i64 (R : Nat), .slice Al L.length cl, .int .u64 (st : Nat), .slice Ar rl.length cr, .slice An nl.length cn, .slice Ag gl.length cg]) _ rfl rfl ?_; clear hS; intro g3 w_ hS; (try simp only [Act.put, Act.eval, zz, Value.cells] at hS))
   | ((with_reducible refine qB ?_); refine qc ?_ ?_ <;> intro h_ <;> go_prune)
   | ((with_reducible refine qK ?_); refine qC hS ?_))
  all_goals
   go_ret2
   exact AO.mk rfl hS.below
end
section
open Go.RowKit
attribute [local go_sem ↓] Go.wp_at_zero Go.wp_at_succ
set_option maxRecDepth 20000
set_option exponentiation.threshold 5000
theorem mask_with {R N t : Nat} (hR : R <= 5) (hN : N &&& BT R = N) (h1 : 1 <= t) (h2 : t <= R) : Cx N (t : Int) &&& BT R = Cx N (t : Int) := by
 rw [<- Fw (by omega)]
 refine B3 fun i => ?_
 have hN' : (N &&& BT R).testBit i = N.testBit i := by rw [hN]
 rw [Nat.testBit_and] at hN'
 rw [Nat.testBit_and, Nat.testBit_or, Nat.testBit_two_pow]
 by_cases e : t = i
 ·subst e
  rw [role_in R (by omega) t (by omega) h1 h2]; simp
 ·simp only [e, decide_false, Bool.or_false]
  exact Bool.eq_iff_iff.1 hN'
theorem mask_del {R N : Nat} (t : Int) (hN : N &&& BT R = N) : del N t &&& BT R = del N t := by
 unfold del
 split
 ·rename_i hb
  refine B3 fun i => ?_
  have hN' : (N &&& BT R).testBit i = N.testBit i := by rw [hN]
  rw [Nat.testBit_and] at hN'
  have hb' : N.testBit t.toNat = true := by unfold B5 at hb; simp only [Bool.and_eq_true] at hb; exact hb.2
  rw [Nat.testBit_and, Nat.testBit_xor, Nat.testBit_two_pow]
  by_cases e : t.toNat = i
  ·rw [e] at hb' ⊢; simp [hb']
  ·simp only [e, decide_false, Bool.xor_false]; exact Bool.eq_iff_iff.1 hN'
 ·exact hN
theorem stepM_mask {p : Ac} {L : List (Nat × Nat)} {R N M : Nat} {k : Int} (hM : Bq p L R) (hN : N &&& BT R = N) (h : stepM p N k = some M) : M &&& BT R = M := by
 unfold stepM at h
 split at h
 ·rename_i hk
  split at h
  ·injection h with h
   subst h
   have hj : k.toNat < p.rules.length := by omega
   have hz := hM.rules _ (List.mem_of_getElem? (Bz AL hj))
   generalize p.rules.getD k.toNat AL = z at *
   unfold Dt
   split
   ·exact mask_del _ hN
   ·have h1 := hz.1
    have := mask_with (t := z.target.toNat) hM.r5 hN (by omega) (by omega)
    rwa [show ((z.target.toNat : Nat) : Int) = z.target by omega] at this
  ·cases h
 ·cases h
theorem mask_lt {R N : Nat} (hR : R <= 5) (hN : N &&& BT R = N) : N < 64 := by
 have h1 : BT R <= 62 := by
  have : ∀ R, R < 6 -> BT R <= 62 := by decide
  exact this R (by omega)
 have h2 : N &&& BT R <= BT R := Nat.and_le_right
 omega
theorem Rch.mask {p : Ac} {L : List (Nat × Nat)} {R s : Nat} (hM : Bq p L R) (h : Rch p s) : s &&& BT R = s := by
 induction h with
 | start => exact hM.start
 | step _ hk ih => exact stepM_mask hM ih hk
end
end Go.Proofs.YtpcioefppjljoaaGreatDoor
