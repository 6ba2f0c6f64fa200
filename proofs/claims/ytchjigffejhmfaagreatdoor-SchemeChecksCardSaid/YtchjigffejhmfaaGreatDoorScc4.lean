/-
  What the statement needs, part 4.
-/
import Derived.RangeFuncNested
import Derived.Lib.MinMax
import Derived.Laws.BitsAllLaws
import Derived.Test.YtchjigffejhmfaaGreatDoorScc3
namespace Go.Proofs.YtchjigffejhmfaaGreatDoor
section
open Go.RowKit
attribute [local go_sem ↓] Go.wp_at_zero Go.wp_at_succ
set_option maxRecDepth 20000
set_option exponentiation.threshold 5000
def FQ (z : Bk) : Bool := !z.revoke || (z.yes == 0 && z.no == 0)
theorem chk1_any {w : World} {D : Nat -> Prop} {x : Value} {z : Bk} (hx : Fr w D x z) : Calls Tryz.prog 61 #[x] w (AF (fun r _ => r = .bool (FQ z)) w) := by
 obtain ⟨a, b, rfl, ha, hb⟩ := hx
 obtain ⟨rv, y, n, t, o⟩ := z
 dsimp only at ha hb
 obtain ⟨A, m, c, rfl⟩ := ha.shape
 obtain ⟨B, k, d, rfl⟩ := hb.shape
 obtain ⟨K, ka, kb, hS⟩ : ∃ K : (Nat -> Prop) -> World -> Prop, (∀ D w, K D w -> Aa w D (.agg #[.slice A m c]) y) /\ (∀ D w, K D w -> Aa w D (.agg #[.slice B k d]) n) /\ St w w [] K :=
  ⟨fun D w => Aa w D (.agg #[.slice A m c]) y /\ Aa w D (.agg #[.slice B k d]) n, fun _ _ h => h.1, fun _ _ h => h.2, St.start (D := fun _ => True) (Ab.and Ab) ⟨ha.imp fun _ _ _ => trivial, hb.imp fun _ _ _ => trivial⟩⟩
 clear ha hb
 obtain ⟨b1, hb1⟩ : ∃ b, b = (y == 0) := ⟨_, rfl⟩
 obtain ⟨b2, hb2⟩ : ∃ b, b = (n == 0) := ⟨_, rfl⟩
 have HR : Hid (FQ ⟨rv, y, n, t, o⟩ = (!rv || (b1 && b2))) := Lib.hid (by rw [hb1, hb2]; rfl)
 have HB1 := Lib.hid hb1
 have HB2 := Lib.hid hb2
 clear hb1 hb2
 go_enter Tryz.func61, Tryz.ntmps61
 cases rv <;> cases b1
 all_goals
  go_wp2_with (first
   | ((with_reducible refine qA 1 ?_); refine Aw hS rfl _ _ rfl (.agg #[.bool _, .slice A m c, .slice B k d, .int .i64 t, .int .i64 o]) _ rfl rfl ?_; clear hS; intro g1 w_ hS; (try simp only [Act.put, Act.eval, zz, Value.cells] at hS))
   | ((with_reducible refine qk 39 ?_); first | (refine AA hS 0 rfl _ _ rfl _ _ rfl _ _ rfl _ (by first | rfl | assumption) Tryz.underlying39 rfl (by kernel_rfl) ?_) | (refine AA hS 1 rfl _ _ rfl _ _ rfl _ _ rfl _ (by first | rfl | assumption) Tryz.underlying39 rfl (by kernel_rfl) ?_) | (refine AA hS 2 rfl _ _ rfl _ _ rfl _ _ rfl _ (by first | rfl | assumption) Tryz.underlying39 rfl (by kernel_rfl) ?_) | (refine AA hS 3 rfl _ _ rfl _ _ rfl _ _ rfl _ (by first | rfl | assumption) Tryz.underlying39 rfl (by kernel_rfl) ?_) | (refine AA hS 4 rfl _ _ rfl _ _ rfl _ _ rfl _ (by first | rfl | assumption) Tryz.underlying39 rfl (by kernel_rfl) ?_) | (refine AA hS 5 rfl _ _ rfl _ _ rfl _ _ rfl _ (by first | rfl | assumption) Tryz.underlying39 rfl (by kernel_rfl) ?_))
   | ((with_reducible refine qK ?_); refine qC hS ?_)
   | (go_at_call 62; first
      | ((with_reducible show Calls _ _ #[.agg #[.slice A m c]] _ _); refine (empty_any _ y _ _ (ka _ _ hS.ro)).mono ?_; rw [<- HB1.out]; rintro r_ w_ ⟨_, rfl, rfl, hb_⟩; replace hS := hS.ext hb_; clear hb_)
      | ((with_reducible show Calls _ _ #[.agg #[.slice B k d]] _ _); refine (empty_any _ n _ _ (kb _ _ hS.ro)).mono ?_; rw [<- HB2.out]; rintro r_ w_ ⟨_, rfl, rfl, hb_⟩; replace hS := hS.ext hb_; clear hb_)))
  go_ret
  exact AF.mk (by rw [HR.out]; rfl) hS.below
theorem kn1_any {w : World} {E : Nat -> Prop} {x sv : Value} {z : Nat × Nat} {N g : Nat} (hx : x = .agg #[.int .i64 (z.1 : Nat), .int .i64 (z.2 : Nat)]) (hb : C9 w E g #[sv]) (hs : Aa w E (.agg #[sv]) N) : Calls Tryz.prog 134 #[x, .pointer (some ⟨g, 0, none⟩)] w (AF (fun r _ => r = .bool (Bv N z.1 && Bv N z.2)) w) := by
 subst hx
 obtain ⟨C, l, e, rfl⟩ := hs.shape
 obtain ⟨K, kb, kc, hS⟩ : ∃ K : (Nat -> Prop) -> World -> Prop, (∀ D w, K D w -> C9 w D g #[.slice C l e]) /\ (∀ D w, K D w -> Aa w D (.agg #[.slice C l e]) N) /\ St w w [] K :=
  ⟨fun D w => C9 w D g #[.slice C l e] /\ Aa w D (.agg #[.slice C l e]) N, fun _ _ h => h.1, fun _ _ h => h.2, St.start (D := fun _ => True) (AZ.and Ab) ⟨AZ E _ w w hb (Nat.le_refl _) (fun _ _ _ _ h => h) fun _ _ _ _ => trivial, hs.imp fun _ _ _ => trivial⟩⟩
 clear hb hs
 obtain ⟨za, zb⟩ := z
 dsimp only
 obtain ⟨b1, hb1⟩ : ∃ b, b = Bv N za := ⟨_, rfl⟩
 rw [<- hb1]
 have HB1 := Lib.hid hb1
 obtain ⟨b2, hb2⟩ : ∃ b, b = Bv N zb := ⟨_, rfl⟩
 rw [<- hb2]
 have HB2 := Lib.hid hb2
 clear hb1 hb2
 go_enter Tryz.func134, Tryz.ntmps134
 cases b1
 ·go_wp2_with (first
   | ((with_reducible refine qA 2 ?_); refine Aw hS rfl _ _ rfl (.agg #[.int .i64 (za : Nat), .int .i64 (zb : Nat)]) _ rfl rfl ?_; clear hS; intro g2 w_ hS; (try simp only [Act.put, Act.eval, zz, Value.cells] at hS))
   | ((with_reducible refine qk 39 ?_); refine BigFrame.wpList_want rfl fun _ hK => AU (cs := [.slice C l e]) rfl rfl (rng1 ((kb _ _ hS.ro).cell 0 rfl)) Tryz.underlying39 rfl (by kernel_rfl) (hK _ _ ?_))
   | ((with_reducible refine qK ?_); refine qC hS ?_)
   | (go_at_call 89; refine (CT _ N za _ _ (kc _ _ hS.ro)).mono ?_; rw [<- HB1.out]; rintro r_ w_ ⟨_, rfl, rfl, hb_⟩; replace hS := hS.ext hb_; clear hb_))
  go_ret
  exact AF.mk rfl hS.below
 ·go_wp2_with (first
   | ((with_reducible refine qA 2 ?_); refine Aw hS rfl _ _ rfl (.agg #[.int .i64 (za : Nat), .int .i64 (zb : Nat)]) _ rfl rfl ?_; clear hS; intro g2 w_ hS; (try simp only [Act.put, Act.eval, zz, Value.cells] at hS))
   | ((with_reducible refine qk 39 ?_); refine BigFrame.wpList_want rfl fun _ hK => AU (cs := [.slice C l e]) rfl rfl (rng1 ((kb _ _ hS.ro).cell 0 rfl)) Tryz.underlying39 rfl (by kernel_rfl) (hK _ _ ?_))
   | ((with_reducible refine qK ?_); refine qC hS ?_))
  refine (CT _ N za _ _ (kc _ _ hS.ro)).mono ?_
  rw [<- HB1.out]
  rintro r_ w_ ⟨_, rfl, rfl, hb_⟩
  replace hS := hS.ext hb_
  clear hb_
  go_wp2_with (first
   | ((with_reducible refine qk 39 ?_); refine BigFrame.wpList_want rfl fun _ hK => AU (cs := [.slice C l e]) rfl rfl (rng1 ((kb _ _ hS.ro).cell 0 rfl)) Tryz.underlying39 rfl (by kernel_rfl) (hK _ _ ?_))
   | ((with_reducible refine qK ?_); refine qC hS ?_))
  refine (CT _ N zb _ _ (kc _ _ hS.ro)).mono ?_
  rw [<- HB2.out]
  rintro r_ w_ ⟨_, rfl, rfl, hb_⟩
  replace hS := hS.ext hb_
  clear hb_
  go_wp2_with fail
  go_ret
  exact AF.mk rfl hS.below
theorem kn2_any {w : World} {D E : Nat -> Prop} {x sv : Value} {z : Bk} {N g : Nat} (hx : Fr w D x z) (hb : C9 w E g #[sv]) (hs : Aa w E (.agg #[sv]) N) : Calls Tryz.prog 135 #[x, .pointer (some ⟨g, 0, none⟩)] w (AF (fun r _ => r = .bool (Bv N z.target)) w) := by
 obtain ⟨a, b, rfl, ha, hb1⟩ := hx
 obtain ⟨C, l, e, rfl⟩ := hs.shape
 obtain ⟨A, m, c, rfl⟩ := ha.shape
 obtain ⟨B, k, d, rfl⟩ := hb1.shape
 clear ha hb1
 obtain ⟨K, kb, kc, hS⟩ : ∃ K : (Nat -> Prop) -> World -> Prop, (∀ D w, K D w -> C9 w D g #[.slice C l e]) /\ (∀ D w, K D w -> Aa w D (.agg #[.slice C l e]) N) /\ St w w [] K :=
  ⟨fun D w => C9 w D g #[.slice C l e] /\ Aa w D (.agg #[.slice C l e]) N, fun _ _ h => h.1, fun _ _ h => h.2, St.start (D := fun _ => True) (AZ.and Ab) ⟨AZ E _ w w hb (Nat.le_refl _) (fun _ _ _ _ h => h) fun _ _ _ _ => trivial, hs.imp fun _ _ _ => trivial⟩⟩
 clear hb hs
 go_enter Tryz.func135, Tryz.ntmps135
 go_wp2_with (first
  | ((with_reducible refine qA 2 ?_); refine Aw hS rfl _ _ rfl (.agg #[.bool z.revoke, .slice A m c, .slice B k d, .int .i64 z.target, .int .i64 z.origin]) _ rfl rfl ?_; clear hS; intro g2 w_ hS; (try simp only [Act.put, Act.eval, zz, Value.cells] at hS))
  | ((with_reducible refine qk 39 ?_); refine BigFrame.wpList_want rfl fun _ hK => AU (cs := [.slice C l e]) rfl rfl (rng1 ((kb _ _ hS.ro).cell 0 rfl)) Tryz.underlying39 rfl (by kernel_rfl) (hK _ _ ?_))
  | ((with_reducible refine qK ?_); refine qC hS ?_)
  | (go_at_call 89; refine (CT _ N z.target _ _ (kc _ _ hS.ro)).mono ?_; rintro r_ w_ ⟨_, rfl, rfl, hb_⟩; replace hS := hS.ext hb_; clear hb_))
 go_ret
 exact AF.mk rfl hS.below
def Et (N : Nat) (z : Nat × Nat) : Bool := (z.1 ||| z.2) &&& N == (z.1 ||| z.2)
theorem kn3_any {w : World} {D E : Nat -> Prop} {x sv : Value} {z : Nat × Nat} {N g : Nat} (hx : AH w D x z) (hb : C9 w E g #[sv]) (hs : Aa w E (.agg #[sv]) N) : Calls Tryz.prog 137 #[x, .pointer (some ⟨g, 0, none⟩)] w (AF (fun r _ => r = .bool (Et N z)) w) := by
 obtain ⟨a, b, rfl, ha, hb1⟩ := hx
 obtain ⟨y, n⟩ := z
 dsimp only at ha hb1
 obtain ⟨A, m, c, rfl⟩ := ha.shape
 obtain ⟨B, k, d, rfl⟩ := hb1.shape
 obtain ⟨C, l, e, rfl⟩ := hs.shape
 obtain ⟨K, ka, kn, kb, kc, hS⟩ : ∃ K : (Nat -> Prop) -> World -> Prop, (∀ D w, K D w -> Aa w D (.agg #[.slice A m c]) y) /\ (∀ D w, K D w -> Aa w D (.agg #[.slice B k d]) n) /\ (∀ D w, K D w -> C9 w D g #[.slice C l e]) /\ (∀ D w, K D w -> Aa w D (.agg #[.slice C l e]) N) /\ St w w [] K :=
  ⟨fun D w => (Aa w D (.agg #[.slice A m c]) y /\ Aa w D (.agg #[.slice B k d]) n) /\ C9 w D g #[.slice C l e] /\ Aa w D (.agg #[.slice C l e]) N, fun _ _ h => h.1.1, fun _ _ h => h.1.2, fun _ _ h => h.2.1, fun _ _ h => h.2.2, St.start (D := fun _ => True) ((Ab.and Ab).and (AZ.and Ab)) ⟨⟨ha.imp fun _ _ _ => trivial, hb1.imp fun _ _ _ => trivial⟩, AZ E _ w w hb (Nat.le_refl _) (fun _ _ _ _ h => h) fun _ _ _ _ => trivial, hs.imp fun _ _ _ => trivial⟩⟩
 clear ha hb1 hb hs
 have HR := Lib.hid (show Et N (y, n) = ((y ||| n) &&& N == (y ||| n)) from rfl)
 generalize Et N (y, n) = R at *
 go_enter Tryz.func137, Tryz.ntmps137
 go_wp2_with (first
  | ((with_reducible refine qA 2 ?_); refine Aw hS rfl _ _ rfl (.agg #[.slice A m c, .slice B k d]) _ rfl rfl ?_; clear hS; intro g2 w_ hS; (try simp only [Act.put, Act.eval, zz, Value.cells] at hS)))
 refine C5 [.q g2 0, .i (.agg #[.slice A m c]), .q g2 1, .i (.agg #[.slice B k d]), .s (fun v w => Aa w (fun _ => True) v (y ||| n)) fun v w w' h hb => h.ext hb, .i (.agg #[.slice C l e]), .i (.bool R), .i (.bool R)] ⟨uF, ?_, uF, ?_, ?_, uD (h := fun w hW hN => rng1 ((kb _ _ (hS.ext hW).ro).cell 0 rfl)), ?_, uA, trivial⟩ ?_
 ·refine uT fun b__ w hW hE K hK => ?_
  have e4 := hE 4
  exact BW rfl e4 ((hS.ext hW).box 0 rfl) rfl Tryz.underlying39 (by kernel_rfl) (by kernel_rfl) (hK _ _ rfl (Below.refl _ _))
 ·refine uT fun b__ w hW hE K hK => ?_
  have e6 := hE 6
  exact BW rfl e6 ((hS.ext hW).box 0 rfl) rfl Tryz.underlying39 (by kernel_rfl) (by kernel_rfl) (hK _ _ rfl (Below.refl _ _))
 ·refine uT fun b__ w hW hE K hK => ?_
  have e5 := hE 5
  have e7 := hE 7
  exact Ai rfl (by kernel_rfl) (by simp only [List.map_cons, List.map_nil, e5, e7]) (Iw _ _ _ _ _ _ _ (ka _ _ (hS.ext hW).ro) (kn _ _ (hS.ext hW).ro)) fun v w' h hb => hK v w' (h.imp fun _ _ _ => trivial) hb
 ·refine uT fun b__ w hW hE K hK => ?_
  have e8 := hE 8
  have e9 := hE 9
  exact Ai rfl (by kernel_rfl) (by simp only [List.map_cons, List.map_nil, e9]) (CW _ _ _ _ _ _ _ e8 (kc _ _ (hS.ext hW).ro)) fun v w' h hb => hK v w' (h.trans (by rw [HR.out])) hb
 ·intro vs wz hW hT
  obtain ⟨e4, e5, e6, e7, e8, e9, e10, e3, -⟩ := hT
  have bx : (fun _ : Nat => True) 0 := trivial
  simp only [Ak, Act.put, zz, ze]
  rw [e3]
  go_wp2_with fail
  go_ret
  exact AF.mk rfl (BP hS.below hW)
end
section
open Go.RowKit
attribute [local go_sem ↓] Go.wp_at_zero Go.wp_at_succ
set_option maxRecDepth 20000
set_option exponentiation.threshold 5000
def AP (r : Nat) : Nat := del (2 ^ (r + 1) - 1) 0
def Co (p : AK) (L : List (Nat × Nat)) (N : Nat) : Bool :=
 p.start &&& N == p.start && (L.all (fun z => Bv N z.1 && Bv N z.2) && (p.rules.all (fun z => Bv N z.target) && p.cubes.all (Et N)))
set_option maxHeartbeats 2000000 in
theorem known_any {w0 : World} {D : Nat -> Prop} {v : Value} {p : AK} {L : List (Nat × Nat)} {r : Nat} (hp : BQ w0 D v p) (hP : p.Ok) (hl : p.links = some L) (hr : p.roles = (r : Int)) (h63 : r <= 63) :
  Calls Tryz.prog 63 #[v] w0 (AF (fun x _ => x = .bool (Co p L (AP r))) w0) := by
 obtain ⟨N, hN⟩ : ∃ N, N = AP r := ⟨_, rfl⟩
 rw [<- hN]
 have HN := Lib.hid hN
 clear hN
 obtain ⟨R, lk, st, rl, nl, gl⟩ := p
 dsimp only at hl hr
 subst hl hr
 have HL := Lib.hid (hP.links L rfl).2
 have HP := Lib.hid hP
 clear hP
 obtain ⟨lp, s, rv, nv, gv, rfl, h1, h2, h3, h4, h5⟩ := hp
 dsimp only at h1 h2 h3 h4 h5
 obtain ⟨q, o, rfl, -⟩ := id h1
 obtain ⟨Cs, ns, cs, rfl⟩ := h2.shape
 obtain ⟨Ar, cr, rfl, _, _⟩ := h3.shape
 obtain ⟨An, cn, rfl, _, _⟩ := h4.shape
 obtain ⟨Ag, cg, rfl, _, _⟩ := h5.shape
 obtain ⟨K, kp, kh, ks, kr, hS⟩ : ∃ K : (Nat -> Prop) -> World -> Prop, (∀ D w, K D w -> BQ w D (.agg #[.int .i64 (r : Nat), .pointer (some ⟨q, 0, none⟩), .slice Cs ns cs, .slice Ar rl.length cr, .slice An nl.length cn, .slice Ag gl.length cg]) ⟨(r : Int), some L, st, rl, nl, gl⟩) /\ (∀ D w, K D w -> IsH w D (.pointer (some ⟨q, 0, none⟩)) L) /\ (∀ D w, K D w -> Aa w D (.agg #[.slice Cs ns cs]) st) /\ (∀ D w, K D w -> BL w D (.slice Ar rl.length cr) rl) /\ St w0 w0 [] K :=
  ⟨fun D w => ((IsHo w D (.pointer (some ⟨q, 0, none⟩)) (some L) /\ Aa w D (.agg #[.slice Cs ns cs]) st) /\ BL w D (.slice Ar rl.length cr) rl /\ Aj w D (.slice An nl.length cn) nl /\ Aj w D (.slice Ag gl.length cg) gl), fun _ _ h => ⟨_, _, _, _, _, rfl, h.1.1, h.1.2, h.2.1, h.2.2.1, h.2.2.2⟩, fun _ _ h => h.1.1, fun _ _ h => h.1.2, fun _ _ h => h.2.1,
   St.start (D := fun _ => True) ((CK.and Ab).and (Bx.and (AY.and AY))) ⟨⟨CK D _ w0 w0 h1 (Nat.le_refl _) (fun _ _ _ _ h => h) fun _ _ _ _ => trivial, h2.imp fun _ _ _ => trivial⟩, Bx D _ w0 w0 h3 (Nat.le_refl _) (fun _ _ _ _ h => h) fun _ _ _ _ => trivial, h4.imp fun _ _ _ => trivial, h5.imp fun _ _ _ => trivial⟩⟩
 clear h1 h2 h3 h4 h5
 obtain ⟨b1, hb1⟩ : ∃ b, b = (st &&& N == st) := ⟨_, rfl⟩
 obtain ⟨b2, hb2⟩ : ∃ b, b = L.all (fun z => Bv N z.1 && Bv N z.2) := ⟨_, rfl⟩
 obtain ⟨b3, hb3⟩ : ∃ b, b = rl.all (fun z => Bv N z.target) := ⟨_, rfl⟩
 obtain ⟨b4, hb4⟩ : ∃ b, b = (AK.cubes ⟨(r : Int), some L, st, rl, nl, gl⟩).all (Et N) := ⟨_, rfl⟩
 have HR : Hid (Co ⟨(r : Int), some L, st, rl, nl, gl⟩ L N = (b1 && (b2 && (b3 && b4)))) := Lib.hid (by rw [hb1, hb2, hb3, hb4]; rfl)
 have HB1 := Lib.hid hb1
 have HB2 := Lib.hid hb2
 have HB3 := Lib.hid hb3
 have HB4 := Lib.hid hb4
 clear hb1 hb2 hb3 hb4
 obtain ⟨m, hm⟩ : ∃ m, m = r + 1 := ⟨_, rfl⟩
 have hm1 : ((r : Int) + 1) = (m : Int) := by omega
 have hm2 : m <= 4096 := by omega
 have HM : Hid (del (2 ^ m - 1) 0 = N) := Lib.hid (by rw [HN.out, hm]; rfl)
 clear hm
 go_enter Tryz.func63, Tryz.ntmps63
 go_wp2_with (first
  | ((with_reducible refine qA 1 ?_); refine Aw hS rfl _ _ rfl (.agg #[.int .i64 (r : Nat), .pointer (some ⟨q, 0, none⟩), .slice Cs ns cs, .slice Ar rl.length cr, .slice An nl.length cn, .slice Ag gl.length cg]) _ rfl rfl ?_; clear hS; intro g1 w_ hS; (try simp only [Act.put, Act.eval, zz, Value.cells] at hS))
  | ((with_reducible refine qK ?_); refine qC hS ?_)
  | (go_at_call 68; refine (below_any m _ hm2).mono ?_; rintro r_ w_ ⟨v1, rfl, h1, hb_⟩; replace hS := hS.ret hb_ Ab h1; clear h1 hb_; obtain ⟨B1, c1, w1, rfl, -⟩ := hS.ro.2.parts)
  | (go_at_call 69; refine (Dx _ _ 0 _ _ hS.ro.2).mono ?_; rw [HM.out]; rintro r_ w_ ⟨v2, rfl, h1, hb_⟩; replace hS := hS.ret2 hb_ Ab h1; clear h1 hb_; obtain ⟨B2, c2, w2, rfl, -⟩ := hS.ro.2.parts; obtain ⟨n2, hn2⟩ : ∃ n, n = w2.length := ⟨_, rfl⟩; rw [<- hn2] at hS ⊢; clear hn2)
  | ((with_reducible refine qA 3 ?_); refine qa hS #[.slice none 0 0] ?_; clear hS; intro g3 w_ hS)
  | (((with_reducible refine qM ?_); (first | refine qS hS ?_ | refine qT hS ?_); clear hS; intro w_ hS; (try simp only [Act.put, Act.eval, zz, Value.cells] at hS)); replace hS := hS.sealB 0 (by simp) rfl)
  | ((with_reducible refine qk 39 ?_); first | (refine AA hS 0 rfl _ _ rfl _ _ rfl _ _ rfl _ (by first | rfl | assumption) Tryz.underlying39 rfl (by kernel_rfl) ?_) | (refine AA hS 1 rfl _ _ rfl _ _ rfl _ _ rfl _ (by first | rfl | assumption) Tryz.underlying39 rfl (by kernel_rfl) ?_) | (refine AA hS 2 rfl _ _ rfl _ _ rfl _ _ rfl _ (by first | rfl | assumption) Tryz.underlying39 rfl (by kernel_rfl) ?_) | (refine AA hS 3 rfl _ _ rfl _ _ rfl _ _ rfl _ (by first | rfl | assumption) Tryz.underlying39 rfl (by kernel_rfl) ?_) | (refine AA hS 4 rfl _ _ rfl _ _ rfl _ _ rfl _ (by first | rfl | assumption) Tryz.underlying39 rfl (by kernel_rfl) ?_) | (refine AA hS 5 rfl _ _ rfl _ _ rfl _ _ rfl _ (by first | rfl | assumption) Tryz.underlying39 rfl (by kernel_rfl) ?_))
  | ((with_reducible refine qA 11 ?_); refine BigFrame.wpList_want rfl fun _ hK => AU (cs := [.slice B2 n2 c2]) rfl rfl (rng1 (hS.ro.2.cell 0 rfl)) Tryz.underlying39 rfl (by kernel_rfl) (hK _ _ ?_)))
 obtain ⟨K1, kk, k3, kN, hS2⟩ : ∃ K1 : (Nat -> Prop) -> World -> Prop, (∀ D w, K1 D w -> K D w) /\ (∀ D w, K1 D w -> C9 w D g3 #[.slice B2 n2 c2]) /\ (∀ D w, K1 D w -> Aa w D (.agg #[.slice B2 n2 c2]) N) /\ St w0 w_ [.box g1 43 #[.int .i64 (r : Nat), .pointer (some ⟨q, 0, none⟩), .slice Cs ns cs, .slice Ar rl.length cr, .slice An nl.length cn, .slice Ag gl.length cg]] K1 := ⟨_, fun _ _ h => h.1.1.1, fun _ _ h => h.2, fun _ _ h => h.1.2, hS⟩
 clear hS
 have hS := hS2
 clear hS2
 refine (CW _ _ st N _ _ _ (ks _ _ (kk _ _ hS.ro)) (kN _ _ hS.ro)).mono ?_
 rw [<- HB1.out]
 rintro r_ w5 ⟨_, rfl, rfl, hb_⟩
 replace hS := hS.ext hb_
 clear hb_
 cases b1
 ·go_wp2_with fail
  go_ret
  exact AF.mk (by rw [HR.out]; rfl) hS.below
 go_wp2_with (first
  | ((with_reducible refine qK ?_); refine qC hS ?_)
  | (go_at_call 96; refine (hlinks_any (kh _ _ (kk _ _ hS.ro)) (by have := HL.out; omega)).mono ?_; rintro e w_ ⟨v4, rfl, hs⟩; replace hS := hS.new hs.below (.own v4 107 2 L.length (Ad L)) (hs.own 0 rfl); clear hs; replace hS := hS.freeze 0 (by decide) rfl))
 refine (allp_any v4 L 134 #[] #[.pointer (some ⟨g3, 0, none⟩)] (fun z => Bv N z.1 && Bv N z.2) (by kernel_rfl) hS (fun D w h => h.2) fun x z w _ ⟨F', h⟩ hx => kn1_any hx (k3 _ _ h.ro.1) (kN _ _ h.ro.1)).mono ?_
 rw [<- HB2.out]
 clear hS
 rintro r_ w6 ⟨rfl, hS⟩
 cases b2
 ·go_wp2_with fail
  go_ret
  exact AF.mk (by rw [HR.out]; rfl) hS.below
 go_wp2_with (first | ((with_reducible refine qK ?_); refine qC hS ?_))
 refine (allr_any _ rl 135 #[] #[.pointer (some ⟨g3, 0, none⟩)] (fun z => Bv N z.target) (by kernel_rfl) hS (fun D w h => kr D w (kk D w h.1)) fun x z w _ ⟨F', h⟩ => kn2_any h.ro.2 (k3 _ _ h.ro.1.1) (kN _ _ h.ro.1.1)).mono ?_
 rw [<- HB3.out]
 clear hS
 rintro r_ w7 ⟨rfl, hS⟩
 cases b3
 ·go_wp2_with fail
  go_ret
  exact AF.mk (by rw [HR.out]; rfl) hS.below
 go_wp2_with (first
  | ((with_reducible refine qA 27 ?_); refine BigFrame.wpList_want rfl fun _ hK => DK rfl rfl (hS.box 0 rfl) Tryz.underlying43 rfl (by kernel_rfl) (hK _ _ ?_))
  | (go_at_call 65; refine (Is HP.out hS (fun D w h => kp D w (kk D w h.1))).mono ?_; clear hS; rintro e w_ ⟨v8, rfl, hS⟩))
 refine (allc_any v8 _ 137 #[] #[.pointer (some ⟨g3, 0, none⟩)] (Et N) (by kernel_rfl) hS (fun D w h => h.2) fun x z w _ ⟨F', h⟩ => kn3_any h.ro.2 (k3 _ _ h.ro.1.1.1) (kN _ _ h.ro.1.1.1)).mono ?_
 rw [<- HB4.out]
 clear hS
 rintro r_ w9 ⟨rfl, hS⟩
 go_wp2_with fail
 go_ret
 exact AF.mk (by rw [HR.out]; rfl) hS.below
end
section
open Go.RowKit
attribute [local go_sem ↓] Go.wp_at_zero Go.wp_at_succ
set_option maxRecDepth 20000
set_option exponentiation.threshold 5000
noncomputable def checkE (p : AK) : Int := match p.links with
 | none => 1
 | some L => if p.roles < 1 \/ 63 < p.roles then 1 else if 64 < p.rules.length \/ 2000 < p.never.length \/ 2000 < p.goal.length then 3
  else if Co p L (AP p.roles.toNat) = false then 4 else if (p.cubes.any fun z => z.1 &&& z.2 != 0) = true \/ p.rules.all FQ = false then 6
  else if goodB p p.start = false then 7 else 0
theorem BQ.shape6 {w : World} {D : Nat -> Prop} {v : Value} {p : AK} (h : BQ w D v p) : ∃ la As ns cs Ar cr An cn Ag cg, v = .agg #[.int .i64 p.roles, .pointer la, .slice As ns cs, .slice Ar p.rules.length cr, .slice An p.never.length cn, .slice Ag p.goal.length cg] := by
 obtain ⟨lp, s, rv, nv, gv, rfl, h1, h2, h3, h4, h5⟩ := h
 obtain ⟨la, rfl⟩ : ∃ la, lp = .pointer la := by
  cases hl : p.links with
  | none => rw [hl] at h1; exact ⟨none, h1⟩
  | some L => rw [hl] at h1; obtain ⟨q, o, rfl, -⟩ := h1; exact ⟨_, rfl⟩
 obtain ⟨Cs, ns, cs, rfl⟩ := h2.shape
 obtain ⟨Ar, cr, rfl, _, _⟩ := h3.shape
 obtain ⟨An, cn, rfl, _, _⟩ := h4.shape
 obtain ⟨Ag, cg, rfl, _, _⟩ := h5.shape
 exact ⟨_, _, _, _, _, _, _, _, _, _, rfl⟩
theorem CZ {w : World} {D : Nat -> Prop} {x : Value} {z : Nat × Nat} (hx : AH w D x z) : Calls Tryz.prog 66 #[x] w (AF (fun u _ => u = .bool (z.1 &&& z.2 != 0)) w) := by
 obtain ⟨a, b, rfl, ha, hb⟩ := hx
 exact IO a b _ _ w D D ha hb
set_option maxHeartbeats 2000000 in
theorem Ie {w0 : World} {D : Nat -> Prop} {v : Value} {p : AK} (hp : BQ w0 D v p) (hP : p.Ok) (hT : Bl w0) : Calls Tryz.prog 17 #[v] w0 (AF (fun x _ => x = .int .i64 (checkE p)) w0) := by
 obtain ⟨R, lk, st, rl, nl, gl⟩ := p
 have HP := Lib.hid hP
 obtain ⟨hP1, hP2, hP3, -⟩ := hP
 dsimp only at hP1 hP2 hP3
 obtain ⟨lp, s, rv, nv, gv, rfl, h1, h2, h3, h4, h5⟩ := hp
 dsimp only at h1 h2 h3 h4 h5 ⊢
 obtain ⟨Cs, ns, cs, rfl⟩ := h2.shape
 obtain ⟨Ar, cr, rfl, _, _⟩ := h3.shape
 obtain ⟨An, cn, rfl, _, _⟩ := h4.shape
 obtain ⟨Ag, cg, rfl, _, _⟩ := h5.shape
 obtain ⟨K, kp, kh, ks, kr, kt, hS⟩ : ∃ K : (Nat -> Prop) -> World -> Prop, (∀ D w, K D w -> BQ w D (.agg #[.int .i64 R, lp, .slice Cs ns cs, .slice Ar rl.length cr, .slice An nl.length cn, .slice Ag gl.length cg]) ⟨R, lk, st, rl, nl, gl⟩) /\ (∀ D w, K D w -> IsHo w D lp lk) /\ (∀ D w, K D w -> Aa w D (.agg #[.slice Cs ns cs]) st) /\ (∀ D w, K D w -> BL w D (.slice Ar rl.length cr) rl) /\ (∀ D w, K D w -> Bl w) /\ St w0 w0 [] K :=
  ⟨fun D w => ((IsHo w D lp lk /\ Aa w D (.agg #[.slice Cs ns cs]) st) /\ BL w D (.slice Ar rl.length cr) rl /\ Aj w D (.slice An nl.length cn) nl /\ Aj w D (.slice Ag gl.length cg) gl) /\ (Bl w /\ D 0), fun _ _ h => ⟨_, _, _, _, _, rfl, h.1.1.1, h.1.1.2, h.1.2.1, h.1.2.2.1, h.1.2.2.2⟩, fun _ _ h => h.1.1.1, fun _ _ h => h.1.1.2, fun _ _ h => h.1.2.1, fun _ _ h => h.2.1,
   St.start (D := fun _ => True) (((CK.and Ab).and (Bx.and (AY.and AY))).and C0) ⟨⟨⟨CK D _ w0 w0 h1 (Nat.le_refl _) (fun _ _ _ _ h => h) fun _ _ _ _ => trivial, h2.imp fun _ _ _ => trivial⟩, Bx D _ w0 w0 h3 (Nat.le_refl _) (fun _ _ _ _ h => h) fun _ _ _ _ => trivial, h4.imp fun _ _ _ => trivial, h5.imp fun _ _ _ => trivial⟩, hT, trivial⟩⟩
 clear h1 h2 h3 h4 h5 hT
 cases lk with
 | none =>
  obtain rfl := kh _ _ hS.ro
  go_enter Tryz.func17, Tryz.ntmps17
  go_wp2_with (first
   | ((with_reducible refine qA 1 ?_); refine Aw hS rfl _ _ rfl (.agg #[.int .i64 R, .pointer none, .slice Cs ns cs, .slice Ar rl.length cr, .slice An nl.length cn, .slice Ag gl.length cg]) _ rfl rfl ?_; clear hS; intro g1 w_ hS; (try simp only [Act.put, Act.eval, zz, Value.cells] at hS))
   | ((with_reducible refine qK ?_); refine qC hS ?_))
  go_ret
  exact AF.mk rfl hS.below
 | some L =>
  obtain ⟨q, o, rfl, -⟩ := id (kh _ _ hS.ro)
  have HE := Lib.hid (show checkE ⟨R, some L, st, rl, nl, gl⟩ = if R < 1 \/ 63 < R then 1 else if 64 < rl.length \/ 2000 < nl.length \/ 2000 < gl.length then 3
   else if Co ⟨R, some L, st, rl, nl, gl⟩ L (AP R.toNat) = false then 4 else if ((AK.cubes ⟨R, some L, st, rl, nl, gl⟩).any fun z => z.1 &&& z.2 != 0) = true \/ rl.all FQ = false then 6
   else if goodB ⟨R, some L, st, rl, nl, gl⟩ st = false then 7 else 0 from rfl)
  generalize checkE ⟨R, some L, st, rl, nl, gl⟩ = RES at *
  by_cases hR : R < 1 \/ 63 < R
  ·have hE : RES = 1 := by rw [HE.out, if_pos hR]
   subst hE
   by_cases hR1 : R < 1
   all_goals
    go_enter Tryz.func17, Tryz.ntmps17
    go_wp2_with (first
     | ((with_reducible refine qA 1 ?_); refine Aw hS rfl _ _ rfl (.agg #[.int .i64 R, .pointer (some ⟨q, 0, none⟩), .slice Cs ns cs, .slice Ar rl.length cr, .slice An nl.length cn, .slice Ag gl.length cg]) _ rfl rfl ?_; clear hS; intro g1 w_ hS; (try simp only [Act.put, Act.eval, zz, Value.cells] at hS))
     | ((with_reducible refine qK ?_); refine qC hS ?_)
     | ((with_reducible refine qB ?_); refine qc ?_ ?_ <;> intro h_ <;> go_prune)
     )
    go_ret
    exact AF.mk rfl hS.below
  obtain ⟨r, rfl⟩ : ∃ r : Nat, R = (r : Int) := ⟨R.toNat, by omega⟩
  have hr63 : 1 <= r /\ r <= 63 := by omega
  replace HE := Lib.hid (HE.out.trans (if_neg hR))
  clear hR
  by_cases hN : 64 < rl.length \/ 2000 < nl.length \/ 2000 < gl.length
  ·have hE : RES = 3 := by rw [HE.out, if_pos hN]
   subst hE
   by_cases hN1 : 64 < rl.length
   all_goals
    by_cases hN2 : 2000 < nl.length
    all_goals
     go_enter Tryz.func17, Tryz.ntmps17
     go_wp2_with (first
      | ((with_reducible refine qA 1 ?_); refine Aw hS rfl _ _ rfl (.agg #[.int .i64 (r : Nat), .pointer (some ⟨q, 0, none⟩), .slice Cs ns cs, .slice Ar rl.length cr, .slice An nl.length cn, .slice Ag gl.length cg]) _ rfl rfl ?_; clear hS; intro g1 w_ hS; (try simp only [Act.put, Act.eval, zz, Value.cells] at hS))
      | ((with_reducible refine qK ?_); refine qC hS ?_)
      | ((with_reducible refine qB ?_); refine qc ?_ ?_ <;> intro h_ <;> go_prune)
      )
     go_ret
     exact AF.mk rfl hS.below
  have hN1 : rl.length <= 64 /\ nl.length <= 2000 /\ gl.length <= 2000 := by omega
  obtain ⟨hN1, hN2, hN3⟩ := hN1
  replace HE := Lib.hid (HE.out.trans (if_neg hN))
  clear hN
  go_enter Tryz.func17, Tryz.ntmps17
  go_wp2_with (first
   | ((with_reducible refine qA 1 ?_); refine Aw hS rfl _ _ rfl (.agg #[.int .i64 (r : Nat), .pointer (some ⟨q, 0, none⟩), .slice Cs ns cs, .slice Ar rl.length cr, .slice An nl.length cn, .slice Ag gl.length cg]) _ rfl rfl ?_; clear hS; intro g1 w_ hS; (try simp only [Act.put, Act.eval, zz, Value.cells] at hS))
   | ((with_reducible refine qK ?_); refine qC hS ?_)
   | ((with_reducible refine qB ?_); refine qc ?_ ?_ <;> intro h_ <;> go_prune)
   | ((with_reducible refine qK ?_); refine qL hS Tryz.underlying43 ?_))
  refine (known_any (kp _ _ hS.ro) HP.out rfl rfl hr63.2).mono ?_
  rintro e_ w1 ⟨_, rfl, rfl, hb_⟩
  replace hS := hS.ext hb_
  clear hb_
  have e1 : AP ((r : Int)).toNat = AP r := by rw [Int.toNat_natCast]
  rw [e1] at HE
  obtain ⟨b1, hb1⟩ : ∃ b, b = Co ⟨(r : Int), some L, st, rl, nl, gl⟩ L (AP r) := ⟨_, rfl⟩
  rw [<- hb1] at HE ⊢
  clear hb1 e1
  cases b1
  ·have hE : RES = 4 := HE.out.trans (if_pos rfl)
   subst hE
   go_wp2_with fail
   go_ret
   exact AF.mk rfl hS.below
  replace HE := Lib.hid (HE.out.trans (if_neg (by decide)))
  go_wp2_with (first
   | ((with_reducible refine qK ?_); refine qL hS Tryz.underlying43 ?_)
   | (go_at_call 65; refine (Is HP.out hS kp).mono ?_; clear hS; rintro e w_ ⟨v8, rfl, hS⟩))
  refine (IU v8 _ 66 #[] #[] (fun z => z.1 &&& z.2 != 0) (by kernel_rfl) hS (fun D w h => h.2) fun x z w _ ⟨F', h⟩ => CZ h.ro.2).mono ?_
  clear hS
  rintro r_ w2 ⟨rfl, hS⟩
  obtain ⟨b2, hb2⟩ : ∃ b, b = (AK.cubes ⟨(r : Int), some L, st, rl, nl, gl⟩).any fun z => z.1 &&& z.2 != 0 := ⟨_, rfl⟩
  rw [<- hb2] at HE ⊢
  clear hb2
  cases b2
  rotate_left
  ·have hE : RES = 6 := HE.out.trans (if_pos (.inl rfl))
   subst hE
   go_wp2_with fail
   go_ret
   exact AF.mk rfl hS.below
  go_wp2_with (first | ((with_reducible refine qK ?_); refine qC hS ?_))
  refine (allr_any _ rl 61 #[] #[] FQ (by kernel_rfl) hS (fun D w h => kr D w h.1) fun x z w _ ⟨F', h⟩ => chk1_any h.ro.2).mono ?_
  clear hS
  rintro r_ w3 ⟨rfl, hS⟩
  obtain ⟨b3, hb3⟩ : ∃ b, b = rl.all FQ := ⟨_, rfl⟩
  rw [<- hb3] at HE ⊢
  clear hb3
  cases b3
  ·have hE : RES = 6 := HE.out.trans (if_pos (.inr rfl))
   subst hE
   go_wp2_with fail
   go_ret
   exact AF.mk rfl hS.below
  replace HE := Lib.hid (HE.out.trans (if_neg (by decide)))
  go_wp2_with (first
   | ((with_reducible refine qK ?_); refine qL hS Tryz.underlying43 ?_)
   | ((with_reducible refine qk 39 ?_); first | (refine AA hS 0 rfl _ _ rfl _ _ rfl _ _ rfl _ (by first | rfl | assumption) Tryz.underlying39 rfl (by kernel_rfl) ?_) | (refine AA hS 1 rfl _ _ rfl _ _ rfl _ _ rfl _ (by first | rfl | assumption) Tryz.underlying39 rfl (by kernel_rfl) ?_) | (refine AA hS 2 rfl _ _ rfl _ _ rfl _ _ rfl _ (by first | rfl | assumption) Tryz.underlying39 rfl (by kernel_rfl) ?_) | (refine AA hS 3 rfl _ _ rfl _ _ rfl _ _ rfl _ (by first | rfl | assumption) Tryz.underlying39 rfl (by kernel_rfl) ?_) | (refine AA hS 4 rfl _ _ rfl _ _ rfl _ _ rfl _ (by first | rfl | assumption) Tryz.underlying39 rfl (by kernel_rfl) ?_) | (refine AA hS 5 rfl _ _ rfl _ _ rfl _ _ rfl _ (by first | rfl | assumption) Tryz.underlying39 rfl (by kernel_rfl) ?_)))
  refine (IH (kp _ _ hS.ro.1) HP.out (kt _ _ hS.ro.1) (ks _ _ hS.ro.1)).mono ?_
  rintro e_ w4 ⟨_, rfl, rfl, hb_⟩
  replace hS := hS.ext hb_
  clear hb_
  obtain ⟨b4, hb4⟩ : ∃ b, b = goodB ⟨(r : Int), some L, st, rl, nl, gl⟩ st := ⟨_, rfl⟩
  rw [<- hb4] at HE ⊢
  clear hb4
  cases b4
  ·have hE : RES = 7 := HE.out.trans (if_pos rfl)
   subst hE
   go_wp2_with fail
   go_ret
   exact AF.mk rfl hS.below
  have hE : RES = 0 := HE.out.trans (if_neg (by decide))
  subst hE
  go_wp2_with fail
  go_ret
  exact AF.mk rfl hS.below
end
section
open Go.RowKit
attribute [local go_sem ↓] Go.wp_at_zero Go.wp_at_succ
set_option maxRecDepth 20000
set_option exponentiation.threshold 5000
def GH (z : Nat × Nat) : Bool := z.1 &&& z.2 != 0
def Dc (a b : Nat × Nat) : Bool := GH a || ((b.1 &&& a.1 == b.1) && (b.2 &&& a.2 == b.2))
theorem EL {w0 : World} {D E : Nat -> Prop} {u v : Value} {a b : Nat × Nat} (hu : AH w0 D u a) (hv : AH w0 E v b) : Calls Tryz.prog 148 #[u, v] w0 (AF (fun x _ => x = .bool (Dc a b)) w0) := by
 obtain ⟨a1, a2, rfl, ha, hb⟩ := hu
 obtain ⟨b1, b2, rfl, hc, hd⟩ := hv
 obtain ⟨ay, an⟩ := a
 obtain ⟨by_, bn⟩ := b
 dsimp only at ha hb hc hd
 obtain ⟨A, m, c, rfl⟩ := ha.shape
 obtain ⟨B, k, d, rfl⟩ := hb.shape
 obtain ⟨C, l, e, rfl⟩ := hc.shape
 obtain ⟨E2, q, f, rfl⟩ := hd.shape
 obtain ⟨K, ka, kb, kc, kd, hS⟩ : ∃ K : (Nat -> Prop) -> World -> Prop, (∀ D w, K D w -> Aa w D (.agg #[.slice A m c]) ay) /\ (∀ D w, K D w -> Aa w D (.agg #[.slice B k d]) an) /\ (∀ D w, K D w -> Aa w D (.agg #[.slice C l e]) by_) /\ (∀ D w, K D w -> Aa w D (.agg #[.slice E2 q f]) bn) /\ St w0 w0 [] K :=
  ⟨fun D w => (Aa w D (.agg #[.slice A m c]) ay /\ Aa w D (.agg #[.slice B k d]) an) /\ Aa w D (.agg #[.slice C l e]) by_ /\ Aa w D (.agg #[.slice E2 q f]) bn, fun _ _ h => h.1.1, fun _ _ h => h.1.2, fun _ _ h => h.2.1, fun _ _ h => h.2.2, St.start (D := fun _ => True) ((Ab.and Ab).and (Ab.and Ab)) ⟨⟨ha.imp fun _ _ _ => trivial, hb.imp fun _ _ _ => trivial⟩, hc.imp fun _ _ _ => trivial, hd.imp fun _ _ _ => trivial⟩⟩
 clear ha hb hc hd
 have HR := Lib.hid (show Dc (ay, an) (by_, bn) = ((ay &&& an != 0) || ((by_ &&& ay == by_) && (bn &&& an == bn))) from rfl)
 generalize Dc (ay, an) (by_, bn) = R at *
 obtain ⟨c1, hc1⟩ : ∃ c1, c1 = (ay &&& an != 0) := ⟨_, rfl⟩
 obtain ⟨c2, hc2⟩ : ∃ c2, c2 = (by_ &&& ay == by_) := ⟨_, rfl⟩
 have HB1 := Lib.hid hc1
 have HB2 := Lib.hid hc2
 rw [<- hc1, <- hc2] at HR
 clear hc1 hc2
 go_enter Tryz.func148, Tryz.ntmps148
 cases c1 <;> cases c2
 all_goals
  go_wp2_with (first
   | ((with_reducible refine qA 2 ?_); refine Aw hS rfl _ _ rfl (.agg #[.slice A m c, .slice B k d]) _ rfl rfl ?_; clear hS; intro g2 w_ hS; (try simp only [Act.put, Act.eval, zz, Value.cells] at hS))
   | ((with_reducible refine qA 3 ?_); refine Aw hS rfl _ _ rfl (.agg #[.slice C l e, .slice E2 q f]) _ rfl rfl ?_; clear hS; intro g3 w_ hS; (try simp only [Act.put, Act.eval, zz, Value.cells] at hS))
   | ((with_reducible refine qk 39 ?_); first | (refine AA hS 0 rfl _ _ rfl _ _ rfl _ _ rfl _ (by first | rfl | assumption) Tryz.underlying39 rfl (by kernel_rfl) ?_) | (refine AA hS 1 rfl _ _ rfl _ _ rfl _ _ rfl _ (by first | rfl | assumption) Tryz.underlying39 rfl (by kernel_rfl) ?_) | (refine AA hS 2 rfl _ _ rfl _ _ rfl _ _ rfl _ (by first | rfl | assumption) Tryz.underlying39 rfl (by kernel_rfl) ?_) | (refine AA hS 3 rfl _ _ rfl _ _ rfl _ _ rfl _ (by first | rfl | assumption) Tryz.underlying39 rfl (by kernel_rfl) ?_) | (refine AA hS 4 rfl _ _ rfl _ _ rfl _ _ rfl _ (by first | rfl | assumption) Tryz.underlying39 rfl (by kernel_rfl) ?_) | (refine AA hS 5 rfl _ _ rfl _ _ rfl _ _ rfl _ (by first | rfl | assumption) Tryz.underlying39 rfl (by kernel_rfl) ?_))
   | ((with_reducible refine qA 5 ?_); refine BU hS 1 rfl _ _ rfl _ _ rfl _ _ rfl _ _ rfl rfl Tryz.underlying56 rfl (by kernel_rfl) ?_)
   | (go_at_call 66; refine (CZ (z := (ay, an)) ⟨_, _, rfl, ka _ _ hS.ro, kb _ _ hS.ro⟩).mono ?_; dsimp only; rw [<- HB1.out]; rintro r_ w_ ⟨_, rfl, rfl, hb_⟩; replace hS := hS.ext hb_; clear hb_)
   | ((with_reducible show Calls _ _ #[.agg #[.slice C l e], _] _ _); go_at_call 71; refine (CW _ _ by_ ay _ _ _ (kc _ _ hS.ro) (ka _ _ hS.ro)).mono ?_; rw [<- HB2.out]; rintro r_ w_ ⟨_, rfl, rfl, hb_⟩; replace hS := hS.ext hb_; clear hb_)
   | ((with_reducible show Calls _ _ #[.agg #[.slice E2 q f], _] _ _); go_at_call 71; refine (CW _ _ bn an _ _ _ (kd _ _ hS.ro) (kb _ _ hS.ro)).mono ?_; rintro r_ w_ ⟨_, rfl, rfl, hb_⟩; replace hS := hS.ext hb_; clear hb_))
  go_ret
  exact AF.mk (by rw [HR.out]; rfl) hS.below
def Hi (l r : List (Nat × Nat)) : Prop := r.Pairwise clt /\ ∀ z, z ∈ r ↔ z ∈ l /\ GH z = false /\ ∀ d ∈ l, d ≠ z -> GH d = false -> Dc z d = false
def GS (S : List (Nat × Nat)) (n t : Nat) : Bool := GH (S.getD t (0, 0)) || (List.range n).any fun j => j != t && (!GH (S.getD j (0, 0)) && Dc (S.getD t (0, 0)) (S.getD j (0, 0)))
def BZ (S : List (Nat × Nat)) (k : Nat) : List Nat := (List.range k).filter fun t => !GS S S.length t
theorem keptS_succ {S : List (Nat × Nat)} {k : Nat} : BZ S (k + 1) = if GS S S.length k then BZ S k else BZ S k ++ [k] := by
 unfold BZ
 rw [List.range_succ, List.filter_append]
 cases h : GS S S.length k <;> simp [h]
theorem badB_succ {S : List (Nat × Nat)} {n t : Nat} : GS S (n + 1) t = (GS S n t || (n != t && (!GH (S.getD n (0, 0)) && Dc (S.getD t (0, 0)) (S.getD n (0, 0))))) := by
 unfold GS
 rw [List.range_succ, List.any_append]
 simp [Bool.or_assoc]
theorem simp_kept {l S : List (Nat × Nat)} (hp : S.Pairwise clt) (hS : ∀ x, x ∈ S ↔ x ∈ l) : Hi l ((BZ S S.length).map fun t => S.getD t (0, 0)) := by
 have hlt : ∀ a b, a < b -> b < S.length -> Dw (S.getD a (0, 0)) < Dw (S.getD b (0, 0)) := fun a b hab hb => by
  have := List.pairwise_iff_getElem.1 hp a b (by omega) hb hab
  rw [List.getD_eq_getElem?_getD, List.getD_eq_getElem?_getD, List.getElem?_eq_getElem hb, List.getElem?_eq_getElem (by omega)]
  exact this
 refine ⟨?_, fun z => ?_⟩
 ·rw [List.pairwise_map]
  have h1 : (BZ S S.length).Pairwise (· < ·) := List.Pairwise.filter _ List.pairwise_lt_range
  refine List.Pairwise.imp_of_mem (fun {a b} ha hb hab => ?_) h1
  have hb2 : b < S.length := by have := (List.mem_filter.1 hb).1; simpa using this
  exact hlt a b hab hb2
 ·rw [List.mem_map]
  constructor
  ·rintro ⟨t, ht, rfl⟩
   obtain ⟨ht1, ht2⟩ := List.mem_filter.1 ht
   have ht3 : t < S.length := by simpa using ht1
   have hm : S.getD t (0, 0) ∈ S := by rw [List.getD_eq_getElem?_getD, List.getElem?_eq_getElem ht3]; exact List.getElem_mem ht3
   simp only [GS, Bool.not_eq_true', Bool.or_eq_false_iff] at ht2
   refine ⟨(hS _).1 hm, ht2.1, fun d hd hne hd2 => ?_⟩
   obtain ⟨j, hj, rfl⟩ := List.getElem_of_mem ((hS d).2 hd)
   have h5 := (List.any_eq_false.1 ht2.2) j (by simpa using hj)
   have h6 : S.getD j (0, 0) = S[j] := by rw [List.getD_eq_getElem?_getD, List.getElem?_eq_getElem hj]; rfl
   rw [h6] at h5
   have h7 : j ≠ t := fun e => hne (by subst e; exact h6.symm)
   simpa [h7, hd2] using h5
  ·rintro ⟨h1, h2, h3⟩
   obtain ⟨t, ht, rfl⟩ := List.getElem_of_mem ((hS z).2 h1)
   have h6 : S.getD t (0, 0) = S[t] := by rw [List.getD_eq_getElem?_getD, List.getElem?_eq_getElem ht]; rfl
   refine ⟨t, List.mem_filter.2 ⟨by simpa using ht, ?_⟩, h6⟩
   simp only [GS, Bool.not_eq_true', Bool.or_eq_false_iff]
   rw [h6]
   refine ⟨h2, List.any_eq_false.2 fun j hj => ?_⟩
   have hj2 : j < S.length := by simpa using hj
   have h7 : S.getD j (0, 0) = S[j] := by rw [List.getD_eq_getElem?_getD, List.getElem?_eq_getElem hj2]; rfl
   rw [h7]
   by_cases hjt : j = t
   ·simp [hjt]
   ·have hne : S[j] ≠ S[t] := fun e => by
     rcases Nat.lt_or_gt_of_ne hjt with h | h
     ·have := hlt j t h ht; rw [h6, h7, e] at this; omega
     ·have := hlt t j h hj2; rw [h6, h7, e] at this; omega
    cases hd2 : GH S[j]
    ·have := h3 S[j] ((hS _).1 (List.getElem_mem hj2)) hne hd2
     simp [this]
    ·simp
end
section
open Go.RowKit
attribute [local go_sem ↓] Go.wp_at_zero Go.wp_at_succ
set_option maxRecDepth 20000
set_option exponentiation.threshold 5000
noncomputable def senQ (L : List (Nat × Nat)) (r : Int) : Nat := if 1 <= r /\ r <= 63 then senM L r.toNat else 0
end
section
open Go.RowKit
attribute [local go_sem ↓] Go.wp_at_zero Go.wp_at_succ
set_option maxRecDepth 20000
set_option exponentiation.threshold 5000
theorem ty_rules : Bd Tryz.prog 40 84 5 72 := ⟨Tryz.underlying40, by kernel_rfl⟩
theorem kclone_any {w0 : World} {D : Nat -> Prop} {pv : Value} {n : Nat} {xs : List Value} (h : Sl w0 D 2 pv n xs) (ho : ∀ u ∈ xs, u.oneCell' = true) (hl : n <= 1000000) : Calls Tryz.prog 114 #[pv] w0 fun e w' => ∃ v, e = .returned v /\ St w0 w' [.own v 56 2 n xs] fun _ _ => True := by
 obtain ⟨A, c, rfl, hc1, hc2⟩ := h.shape
 obtain ⟨K, kp, hS⟩ : ∃ K : (Nat -> Prop) -> World -> Prop, (∀ D w, K D w -> Sl w D 2 (.slice A n c) n xs) /\ St w0 w0 [] K := ⟨_, fun _ _ h => h, St.start (Av (by decide)) h⟩
 clear h
 cases A with
 | none =>
  obtain ⟨rfl, rfl⟩ : n = 0 /\ xs = [] := by
   obtain ⟨h1, A, c2, h2, _, _, h5⟩ := kp _ _ hS.ro
   rcases Nat.eq_zero_or_pos n with h | h
   ·subst h; exact ⟨rfl, List.length_eq_zero_iff.1 (by omega)⟩
   ·obtain ⟨b, o, h6, _⟩ := h5 h
    injection h2 with h2; rw [<- h2] at h6; cases h6
  go_enter Tryz.func114, Tryz.ntmps114
  go_wp2_with (first
   | ((with_reducible refine qB ?_); refine qc ?_ ?_ <;> intro h_ <;> go_prune)
   | ((with_reducible refine qA 4 ?_); refine BigFrame.wpList_want rfl fun _ hK => AE (vx := .slice none 0 c) (vy := .slice none 0 0) (v := .bool true) rfl rfl rfl rfl (Lib.run_eql_slice_nil _ _ _ _ _ _ _ _ Tryz.underlying41) (hK _ _ ?_)))
  go_ret
  exact ⟨_, rfl, ((hS.nil 56 2)).mono (AC.pure True) fun _ _ _ => trivial⟩
 | some ad =>
  go_enter Tryz.func114, Tryz.ntmps114
  go_wp2_with (first
   | ((with_reducible refine qA 4 ?_); refine BigFrame.wpList_want rfl fun _ hK => AE (vx := .slice (some ad) n c) (vy := .slice none 0 0) (v := .bool false) rfl rfl rfl rfl (Lib.run_eql_slice_nil _ _ _ _ _ _ _ _ Tryz.underlying41) (hK _ _ ?_))
   | ((with_reducible show wpList _ _ _ (⟨_, .buildSlice _ 0 _, _, _, _, _⟩ :: _) _ _); refine I8 hS rfl _ _ rfl Tryz.underlying41 (by kernel_rfl) 2 ?_; clear hS; intro ge w_ hS)
   | ((with_reducible refine qA 7 ?_); refine st_appf hS 0 rfl _ _ _ rfl Dj _ rfl rfl _ _ _ _ rfl (kp _ _ hS.ro) ho (by omega) (by omega) ?_; clear hS; intro g cap w_ hS))
  go_ret
  exact ⟨_, rfl, hS.mono (AC.pure True) fun _ _ _ => trivial⟩
theorem vs_len5 {vs : List Value} (h : vs.length = 5) : ∃ x0 x1 x2 x3 x4, vs = [x0, x1, x2, x3, x4] := by
 obtain ⟨x, vs', rfl, h'⟩ := Hv h
 obtain ⟨y, z, u, t, rfl⟩ := vs_len4 h'
 exact ⟨x, y, z, u, t, rfl⟩
end
section
open Go.RowKit
attribute [local go_sem ↓] Go.wp_at_zero Go.wp_at_succ
set_option maxRecDepth 20000
set_option exponentiation.threshold 5000
def encX (xs : List Value) (n x : Nat) : Value × Value := if x < n then (xs.getD (x * 2) (.bool false), xs.getD (x * 2 + 1) (.bool false)) else (.slice none 0 0, .slice none 0 0)
def F8 (l : List (Nat × Nat)) (x : Nat) : Nat × Nat := l.getD x (0, 0)
theorem ecells_X {xs : List Value} {n : Nat} (h : xs.length = n * 2) : AQ (encX xs n) (List.range n) = xs := by
 refine List.ext_getElem? fun t => ?_
 by_cases ht : t < n * 2
 ·have h1 : t / 2 < n := by omega
  have h2 := Ec (encX xs n) (List.range n) (t / 2) (by simpa using h1)
  rw [show (List.range n).getD (t / 2) 0 = t / 2 by simp [List.getD_eq_getElem?_getD, h1]] at h2
  unfold encX at h2 ⊢
  rw [if_pos h1] at h2
  have h3 : xs[t]? = some xs[t] := List.getElem?_eq_getElem (by omega)
  rcases Nat.mod_two_eq_zero_or_one t with h5 | h5
  ·rw [show t / 2 * 2 = t by omega] at h2
   rw [h2.1]
   show some (xs.getD t (.bool false)) = _
   rw [List.getD_eq_getElem?_getD, h3]; rfl
  ·rw [show t / 2 * 2 + 1 = t by omega] at h2
   rw [h2.2]
   show some (xs.getD t (.bool false)) = _
   rw [List.getD_eq_getElem?_getD, h3]; rfl
 ·rw [List.getElem?_eq_none (by rw [IL]; simp; omega), List.getElem?_eq_none (by omega)]
theorem ecells_append (enc : Nat -> Value × Value) (A B : List Nat) : AQ enc (A ++ B) = AQ enc A ++ AQ enc B := by
 unfold AQ
 rw [List.flatMap_append]
theorem cube_X {w : World} {D : Nat -> Prop} {xs : List Value} {l : List (Nat × Nat)} (h : Ah w D xs l) (x : Nat) : AH w D (.agg #[(encX xs l.length x).1, (encX xs l.length x).2]) (F8 l x) := by
 unfold encX F8
 by_cases hx : x < l.length
 ·rw [if_pos hx]
  have e1 : l[x]? = some l[x] := List.getElem?_eq_getElem hx
  obtain ⟨a, b, h1, h2, h3, h4⟩ := h x l[x].1 l[x].2 e1
  rw [List.getD_eq_getElem?_getD, List.getD_eq_getElem?_getD, List.getD_eq_getElem?_getD, h1, h2, e1]
  exact ⟨a, b, rfl, h3, h4⟩
 ·rw [if_neg hx, List.getD_eq_getElem?_getD, List.getElem?_eq_none (by omega)]
  exact ⟨_, _, rfl, .empty, .empty⟩
theorem cc_ecells {w : World} {D : Nat -> Prop} {enc : Nat -> Value × Value} {val : Nat -> Nat × Nat} (h : ∀ x, AH w D (.agg #[(enc x).1, (enc x).2]) (val x)) (R : List Nat) : Ah w D (AQ enc R) (R.map val) := fun i y n hi => by
 have hlt : i < R.length := by have := (List.getElem?_eq_some_iff.1 hi).1; simpa using this
 have h2 := Ec enc R i hlt
 rw [List.getElem?_map, List.getElem?_eq_getElem hlt] at hi
 have h3 : R.getD i 0 = R[i] := by rw [List.getD_eq_getElem?_getD, List.getElem?_eq_getElem hlt]; rfl
 have h4 : val R[i] = (y, n) := Option.some.inj hi
 rw [h3] at h2
 obtain ⟨a, b, he, h5, h6⟩ := h R[i]
 injection he with he
 injection he with he
 injection he with e1 he
 injection he with e2 _
 rw [h4, <- e1] at h5
 rw [h4, <- e2] at h6
 exact ⟨_, _, h2.1, h2.2, h5, h6⟩
theorem map_X {l : List (Nat × Nat)} {M : List Nat} (hM : M.Perm (List.range l.length)) (z : Nat × Nat) : z ∈ M.map (F8 l) ↔ z ∈ l := by
 rw [List.mem_map]
 constructor
 ·rintro ⟨x, hx, rfl⟩
  have hx2 : x < l.length := by simpa using hM.mem_iff.1 hx
  unfold F8
  rw [List.getD_eq_getElem?_getD, List.getElem?_eq_getElem hx2]
  exact List.getElem_mem hx2
 ·intro hz
  obtain ⟨i, hi, rfl⟩ := List.getElem_of_mem hz
  refine ⟨i, hM.mem_iff.2 (by simpa using hi), ?_⟩
  unfold F8
  rw [List.getD_eq_getElem?_getD, List.getElem?_eq_getElem hi]; rfl
theorem sm_X {l : List (Nat × Nat)} (h : ∀ z ∈ l, Sm z) (x : Nat) : Sm (F8 l x) := by
 unfold F8
 by_cases hx : x < l.length
 ·rw [List.getD_eq_getElem?_getD, List.getElem?_eq_getElem hx]
  exact h _ (List.getElem_mem hx)
 ·rw [List.getD_eq_getElem?_getD, List.getElem?_eq_none (by omega)]
  exact ⟨by decide, by decide⟩
theorem ins0_any (p : Option Addr) (cap : Nat) (fv : Value) (w : World) :
  Calls Tryz.prog 210 #[.slice p 0 cap, .int .i64 0, .int .i64 0, fv] w fun e w' => e = .returned (.tuple #[]) /\ w' = w := by
 go_enter Tryz.func210, Tryz.ntmps210
 go_wp2
 refine wp_loop_rounds 1 ?_
 rw [rounds_succ]
 go_wp2
 go_end0
 exact ⟨rfl, rfl⟩
theorem pdq0_any (p : Option Addr) (cap : Nat) (lim : Int) (fv : Value) (w : World) :
  Calls Tryz.prog 190 #[.slice p 0 cap, .int .i64 0, .int .i64 0, .int .i64 lim, fv] w fun e w' => e = .returned (.tuple #[]) /\ w' = w := by
 have hi := ins0_any p cap fv w
 go_enter Tryz.func190, Tryz.ntmps190
 go_wp2
 refine wp_loop_rounds 1 ?_
 rw [rounds_succ]
 go_wp2_with (go_at_call 210; refine hi.mono ?_; rintro e w' ⟨rfl, rfl⟩)
 (try simp only [Exit.inBlock, Exit.then]); refine bodyPost_ret (results_none rfl _ _ _) rfl ?_
 exact ⟨rfl, rfl⟩
theorem sort0_any (p : Option Addr) (cap : Nat) (fv : Value) (w : World) :
  Calls Tryz.prog 145 #[.slice p 0 cap, fv] w fun e w' => e = .returned (.tuple #[]) /\ w' = w := by
 have hp := fun lim => pdq0_any p cap lim fv w
 have hl : Calls Tryz.prog 191 #[.int .u64 0] w fun e w' => e = .returned (.int .i64 (Lib.bitLen 0 : Nat)) /\ w' = w := Tryz.bits_Len 0 w (by omega) (by omega)
 go_enter Tryz.func145, Tryz.ntmps145
 go_wp2_with (first | (go_at_call 191; refine hl.mono ?_; rintro e w' ⟨rfl, rfl⟩) | (go_at_call 190; refine (hp _).mono ?_; rintro e w' ⟨rfl, rfl⟩))
 go_end0
 exact ⟨rfl, rfl⟩
def SortQ2 (w0 : World) (F : List Ac) (K : (Nat -> Prop) -> World -> Prop) (v : Value) (n : Nat) (enc : Nat -> Value × Value) (val : Nat -> Nat × Nat) (e : Ending) (w' : World) : Prop :=
 ∃ M : List Nat, e = .returned (.tuple #[]) /\ M.Perm (List.range n) /\ M.Pairwise (fun x y => Dw (val x) <= Dw (val y)) /\ St w0 w' (.own v 56 2 n (AQ enc M) :: F) K
theorem sortc2_any {w0 w : World} {F : List Ac} {K : (Nat -> Prop) -> World -> Prop} (A : Option Addr) (n cap : Nat) (enc : Nat -> Value × Value) (val : Nat -> Nat × Nat) (hv : ∀ x, Sm (val x)) (hn : n <= 1000000) (hS : St w0 w (.own (.slice A n cap) 56 2 n (AQ enc (List.range n)) :: F) K)
  (ke : ∀ D w, K D w -> ∀ x, AH w D (.agg #[(enc x).1, (enc x).2]) (val x)) (kt : ∀ D w, K D w -> Bl w) :
  Calls Tryz.prog 145 #[.slice A n cap, .func (.func 146) #[] #[]] w (SortQ2 w0 F K (.slice A n cap) n enc val) := by
 rcases Nat.eq_zero_or_pos n with h0 | h0
 ·subst h0
  refine (sort0_any A cap _ w).mono ?_
  rintro e w' ⟨rfl, rfl⟩
  exact ⟨[], rfl, .refl _, .nil, hS⟩
 ·obtain ⟨g, c, he, _, _⟩ := Ei (hS.own 0 rfl) h0
  injection he with h1 h2 h3
  subst h1 h3
  refine (sortc_any 0 g n cap enc val hv hn hS rfl ke kt).mono ?_
  rintro e w' ⟨M, h1, h2, h3, h4⟩
  exact ⟨M, h1, h2, h3, h4⟩
def CompQ2 (w0 : World) (F : List Ac) (K : (Nat -> Prop) -> World -> Prop) (A : Option Addr) (n cap : Nat) (enc : Nat -> Value × Value) (val : Nat -> Nat × Nat) (M : List Nat) (e : Ending) (w' : World) : Prop :=
 ∃ C : List Nat, e = .returned (.slice A C.length cap) /\ CmN val M C n /\ C.length <= n /\ St w0 w' (.own (.slice A C.length cap) 56 2 C.length (AQ enc C) :: F) K
theorem compactc2_any {w0 w : World} {F : List Ac} {K : (Nat -> Prop) -> World -> Prop} (A : Option Addr) (n cap : Nat) (enc : Nat -> Value × Value) (val : Nat -> Nat × Nat) (M : List Nat) (hl : M.length = n) (hn : n <= 1000000) (hv : ∀ x, Sm (val x)) (hM : (M.map val).Pairwise cle) (hS : St w0 w (.own (.slice A n cap) 56 2 n (AQ enc M) :: F) K)
  (ke : ∀ D w, K D w -> ∀ x, AH w D (.agg #[(enc x).1, (enc x).2]) (val x)) :
  Calls Tryz.prog 147 #[.slice A n cap, .func (.func 91) #[] #[]] w (CompQ2 w0 F K A n cap enc val M) := by
 rcases Nat.eq_zero_or_pos n with h0 | h0
 ·subst h0
  obtain rfl : M = [] := List.length_eq_zero_iff.1 hl
  clear hv hM ke
  go_enter Tryz.func147, Tryz.ntmps147
  go_wp2_with (first | ((with_reducible refine qB ?_); refine qc ?_ ?_ <;> intro h_ <;> go_prune))
  go_ret
  exact ⟨[], rfl, ⟨by simp, by simp⟩, Nat.le_refl _, hS⟩
 ·obtain ⟨g, c, he, _, _⟩ := Ei (hS.own 0 rfl) h0
  injection he with h1 h2 h3
  subst h1 h3
  refine (compactc_any g n cap enc val M hl hn hv hM hS ke).mono ?_
  rintro e w' ⟨C, h1, h2, h3, h4⟩
  exact ⟨C, h1, h2, h3, h4⟩
theorem Hf {w : World} {D : Nat -> Prop} {a b : Value} {z : Nat × Nat} (h : AH w D (.agg #[a, b]) z) : ∃ Ay my cy An mn cn, a = .slice Ay my cy /\ b = .slice An mn cn := by
 obtain ⟨x, y, he, h5, h6⟩ := h
 injection he with he
 injection he with he
 injection he with e1 he
 injection he with e2 _
 subst e1 e2
 obtain ⟨A, m, c, e3⟩ := h5.shape
 obtain ⟨B, k, d, e4⟩ := h6.shape
 exact ⟨A, m, c, B, k, d, e3, e4⟩
def SimpR (w0 : World) (F : List Ac) (K : (Nat -> Prop) -> World -> Prop) (xs : List Value) (l : List (Nat × Nat)) (e : Ending) (w' : World) : Prop :=
 ∃ (u : Value) (r : List (Nat × Nat)) (ys : List Value), e = .returned u /\ Hi l r /\ r.length <= l.length /\ (∀ w D, Ah w D xs l -> Ah w D ys r) /\ St w0 w' (.own u 56 2 r.length ys :: F) K
set_option maxHeartbeats 2000000 in
theorem simple_any {w0 w : World} {F : List Ac} {K : (Nat -> Prop) -> World -> Prop} (v : Value) (xs : List Value) (l : List (Nat × Nat)) {Dv : Nat -> Prop} (hv : Sl w Dv 2 v l.length xs) (hS : St w0 w F K) (kc : ∀ D w, K D w -> Ah w D xs l) (kt : ∀ D w, K D w -> Bl w) (hl : l.length <= 100000) (hsm : ∀ z ∈ l, Sm z) :
  Calls Tryz.prog 76 #[v] w (SimpR w0 F K xs l) := by
 have hlx := hv.1
 have HO : Hid (∀ u ∈ xs, u.oneCell' = true) := Lib.hid ((kc _ _ hS.ro).one hlx)
 have HV := Lib.hid hv
 have KE := Lib.hid (fun D w h => cube_X (kc D w h))
 have KT := Lib.hid kt
 have HM := Lib.hid (sm_X hsm)
 have HX := Lib.hid (ecells_X hlx)
 obtain ⟨A0, c0, rfl, _, _⟩ := hv.shape
 clear hv kc kt hsm hlx
 go_enter Tryz.func76, Tryz.ntmps76
 go_wp2_with (first
  | (go_at_call 114; refine (kclone_any HV.out HO.out (by omega)).mono ?_; rintro e w_ ⟨cv, rfl, hs⟩; replace hS := hS.new hs.below (.own cv 56 2 l.length xs) (hs.own 0 rfl); clear hs HV HO; obtain ⟨A, c, rfl, hc1, hc2⟩ := B7 (hS.own 0 rfl); rw [<- HX.out] at hS; clear HX; generalize hen : encX xs l.length = enc at *; replace hen := Lib.hid hen)
  | (go_at_call 145; refine (sortc2_any A l.length c enc (F8 l) HM.out (by omega) hS KE.out KT.out).mono ?_; clear hS; rintro e w_ ⟨M, rfl, hp, hs, hS⟩; replace hp := Lib.hid hp; replace hs := Lib.hid hs)
  | (go_at_call 147; refine (compactc2_any A l.length c enc (F8 l) M (by have := hp.out.length_eq; simpa using this) (by omega) HM.out (by rw [List.pairwise_map]; exact hs.out) hS KE.out).mono ?_; clear hS; rintro e w_ ⟨C, rfl, hC, hCl, hS⟩; replace hC := Lib.hid hC)
  | ((with_reducible refine qB ?_); refine qc ?_ ?_ <;> intro h_ <;> go_prune))
 have hm : C.length <= 100000 := by omega
 obtain ⟨m, hmC⟩ : ∃ m, m = C.length := ⟨_, rfl⟩
 obtain ⟨S, hSS⟩ : ∃ S, S = C.map (F8 l) := ⟨_, rfl⟩
 have hSm : S.length = m := by rw [hSS, List.length_map, hmC]
 have HSM := Lib.hid hSm
 have HSI : Hid (∀ k, k < m -> S.getD k (0, 0) = F8 l (C.getD k 0)) := Lib.hid fun k hk => by rw [hSS]; exact Eb (F8 l) (by omega)
 have HQ : Hid (Hi l ((BZ S m).map fun t => S.getD t (0, 0))) := Lib.hid (by
  rw [<- hSm]
  refine simp_kept (by rw [hSS]; exact hC.out.1) fun x => ?_
  rw [hSS, hC.out.2 x, show l.length = (M.map (F8 l)).length by rw [List.length_map, hp.out.length_eq, List.length_range], List.take_length]
  exact map_X hp.out x)
 have HRM : Hid ((BZ S m).map (fun t => S.getD t (0, 0)) = ((BZ S m).map fun t => C.getD t 0).map (F8 l)) := Lib.hid (by
  rw [List.map_map]
  refine List.map_congr_left fun t ht => ?_
  exact HSI.out t (by have := (List.mem_filter.1 ht).1; simpa using this))
 clear hC hp hs hSm hSS
 have HCM := Lib.hid hmC
 rw [<- hmC] at hS hm ⊢
 clear hmC
 have hS := hS.nil 56 2
 go_loopw [4, 18] (fun out i wr => ∃ (k : Nat) (A4 : Option Addr) (c4 : Nat), k <= m /\ (BZ S k).length <= k /\ out = .slice A4 (BZ S k).length c4 /\ i = .int .i64 (k : Nat) /\ St w0 wr (.own (.slice A4 (BZ S k).length c4) 56 2 (BZ S k).length (AQ enc ((BZ S k).map fun t => C.getD t 0)) :: .own (.slice A m c) 56 2 m (AQ enc C) :: F) K) (fun _ i _ => m - (intOf i).toNat)
 case atStart => exact ⟨0, none, 0, by omega, by simp [BZ], rfl, rfl, hS⟩
 case round =>
  clear hS
  obtain ⟨k, A4, c4, hk, hkk, rfl, rfl, hS⟩ := hrel
  by_cases hlt : k < m
  ·obtain ⟨g, c2, he, _, _⟩ := Ei (hS.own 1 rfl) (by omega)
   injection he with he1 he2 he3
   subst he1 he3
   have HZ : Hid (S.getD k (0, 0) = F8 l (C.getD k 0)) := Lib.hid (HSI.out k hlt)
   obtain ⟨Ay, my, cy, An, mn, cn, h1, h2⟩ := Hf (KE.out _ _ hS.ro (C.getD k 0))
   have HR1 : Hid (∀ w' : World, w'.ownsRow w0.heap.size 56 2 (.slice (some ⟨g, 0, none⟩) m c) m (AQ enc C) -> w'.rangeAt g (k * 2) [.slice Ay my cy, .slice An mn cn]) := Lib.hid fun w' h => by have := BV h (k := k) (by rw [<- HCM.out]; exact hlt); rwa [h1, h2] at this
   have KZ : Hid (∀ D w, K D w -> AH w D (.agg #[.slice Ay my cy, .slice An mn cn]) (S.getD k (0, 0))) := Lib.hid fun D w h => by have := KE.out D w h (C.getD k 0); rwa [h1, h2, <- HZ.out] at this
   have HCX : Hid (AQ enc [C.getD k 0] = [.slice Ay my cy, .slice An mn cn]) := Lib.hid (by unfold AQ; simp only [List.flatMap_cons, List.flatMap_nil, List.append_nil, h1, h2])
   have HKS := Lib.hid (keptS_succ (S := S) (k := k))
   clear h1 h2
   obtain ⟨z, hz⟩ : ∃ z, z = S.getD k (0, 0) := ⟨_, rfl⟩
   have HZE := Lib.hid hz
   rw [<- hz] at KZ
   clear hz HZ
   obtain ⟨eb, heb⟩ : ∃ eb, eb = GH z := ⟨_, rfl⟩
   have HEB := Lib.hid heb
   clear heb
   have HB0 : Hid (eb = GS S 0 k) := Lib.hid (by rw [HEB.out, HZE.out]; simp [GS])
   go_wp2_with (first
    | ((with_reducible refine qB ?_); refine qc ?_ ?_ <;> intro h_ <;> go_prune)
    | ((with_reducible refine qA 22 ?_); refine BigFrame.wpList_want rfl fun _ hK => AU (cs := [.slice Ay my cy, .slice An mn cn]) rfl rfl (HR1.out _ (hS.own 1 rfl)) Tryz.underlying56 rfl (by kernel_rfl) (hK _ _ ?_))
    | ((with_reducible refine qA 6 ?_); refine qa hS #[.slice none 0 0, .slice none 0 0] ?_; clear hS; intro g6 w_ hS)
    | ((with_reducible refine qM ?_); (first | refine qS hS ?_ | refine qT hS ?_); clear hS; intro w_ hS; (try simp only [Act.put, Act.eval, zz, Value.cells] at hS))
    | ((with_reducible refine qk 56 ?_); refine BU hS 0 rfl _ _ rfl _ _ rfl _ _ rfl _ _ rfl rfl Tryz.underlying56 rfl (by kernel_rfl) ?_)
    | (go_at_call 66; refine (CZ (KZ.out _ _ hS.ro)).mono ?_; rw [show (z.1 &&& z.2 != 0) = eb from HEB.out.symm]; rintro r_ w_ ⟨_, rfl, rfl, hb_⟩; replace hS := hS.ext hb_; clear hb_))
   go_loopw [7, 27] (fun b i wr => ∃ j : Nat, j <= m /\ b = .bool (GS S j k) /\ i = .int .i64 (j : Nat) /\ St w0 wr (.box g6 56 #[.slice Ay my cy, .slice An mn cn] :: .own (.slice A4 (BZ S k).length c4) 56 2 (BZ S k).length (AQ enc ((BZ S k).map fun t => C.getD t 0)) :: .own (.slice (some ⟨g, 0, none⟩) m c) 56 2 m (AQ enc C) :: F) K) (fun _ i _ => m - (intOf i).toNat)
   case atStart => exact ⟨0, by omega, by rw [HB0.out], rfl, hS⟩
   case round =>
    clear hS HB0 HEB HR1
    obtain ⟨j, hj, rfl, rfl, hS⟩ := hrel
    by_cases hlj : j < m
    ·have HZD : Hid (S.getD j (0, 0) = F8 l (C.getD j 0)) := Lib.hid (HSI.out j hlj)
     obtain ⟨By, ny, dy, Bn, nn, dn, h1, h2⟩ := Hf (KE.out _ _ hS.ro (C.getD j 0))
     have HR2 : Hid (∀ w' : World, w'.ownsRow w0.heap.size 56 2 (.slice (some ⟨g, 0, none⟩) m c) m (AQ enc C) -> w'.rangeAt g (j * 2) [.slice By ny dy, .slice Bn nn dn]) := Lib.hid fun w' h => by have := BV h (k := j) (by rw [<- HCM.out]; exact hlj); rwa [h1, h2] at this
     have KD : Hid (∀ D w, K D w -> AH w D (.agg #[.slice By ny dy, .slice Bn nn dn]) (S.getD j (0, 0))) := Lib.hid fun D w h => by have := KE.out D w h (C.getD j 0); rwa [h1, h2, <- HZD.out] at this
     have HBS := badB_succ (S := S) (n := j) (t := k)
     rw [<- HZE.out] at HBS
     clear h1 h2 HZD
     obtain ⟨d, hd⟩ : ∃ d, d = S.getD j (0, 0) := ⟨_, rfl⟩
     rw [<- hd] at KD HBS
     clear hd
     obtain ⟨e2, he2⟩ : ∃ e2, e2 = GH d := ⟨_, rfl⟩
     obtain ⟨wi, hwi⟩ : ∃ wi, wi = Dc z d := ⟨_, rfl⟩
     rw [<- he2, <- hwi] at HBS
     have HE2 := Lib.hid he2
     have HWI := Lib.hid hwi
     replace HBS := Lib.hid HBS
     clear he2 hwi
     generalize GS S j k = b1 at *
     cases b1
     ·by_cases hjk : j = k
      ·subst hjk
       go_wp2_with (first
        | ((with_reducible refine qB ?_); refine qc ?_ ?_ <;> intro h_ <;> go_prune)
        | ((with_reducible refine qA 31 ?_); refine BigFrame.wpList_want rfl fun _ hK => AU (cs := [.slice By ny dy, .slice Bn nn dn]) rfl rfl (HR2.out _ (hS.own 2 rfl)) Tryz.underlying56 rfl (by kernel_rfl) (hK _ _ ?_))
        | ((with_reducible refine qA 9 ?_); refine qa hS #[.slice none 0 0, .slice none 0 0] ?_; clear hS; intro g9 w_ hS)
        | ((with_reducible refine qM ?_); (first | refine qS hS ?_ | refine qT hS ?_); clear hS; intro w_ hS; (try simp only [Act.put, Act.eval, zz, Value.cells] at hS))
        | ((with_reducible refine qA 43 ?_); refine BU hS 1 rfl _ _ rfl _ _ rfl _ _ rfl _ _ rfl rfl Tryz.underlying56 rfl (by kernel_rfl) ?_)
        | ((with_reducible refine qk 56 ?_); refine BU hS 0 rfl _ _ rfl _ _ rfl _ _ rfl _ _ rfl rfl Tryz.underlying56 rfl (by kernel_rfl) ?_)
        | (go_at_call 66; refine (CZ (KD.out _ _ hS.ro)).mono ?_; rw [show (d.1 &&& d.2 != 0) = _ from HE2.out.symm]; rintro r_ w_ ⟨_, rfl, rfl, hb_⟩; replace hS := hS.ext hb_; clear hb_)
        | (go_at_call 148; refine (EL (KZ.out _ _ hS.ro) (KD.out _ _ hS.ro)).mono ?_; rw [<- HWI.out]; rintro r_ w_ ⟨_, rfl, rfl, hb_⟩; replace hS := hS.ext hb_; clear hb_))
       exact ⟨⟨j + 1, hlj, by rw [HBS.out]; simp, by go_num, hS.sub (.cons _ (.refl _))⟩, by simp [intOf]; omega⟩
      ·cases e2
       all_goals
        go_wp2_with (first
        | ((with_reducible refine qB ?_); refine qc ?_ ?_ <;> intro h_ <;> go_prune)
        | ((with_reducible refine qA 31 ?_); refine BigFrame.wpList_want rfl fun _ hK => AU (cs := [.slice By ny dy, .slice Bn nn dn]) rfl rfl (HR2.out _ (hS.own 2 rfl)) Tryz.underlying56 rfl (by kernel_rfl) (hK _ _ ?_))
        | ((with_reducible refine qA 9 ?_); refine qa hS #[.slice none 0 0, .slice none 0 0] ?_; clear hS; intro g9 w_ hS)
        | ((with_reducible refine qM ?_); (first | refine qS hS ?_ | refine qT hS ?_); clear hS; intro w_ hS; (try simp only [Act.put, Act.eval, zz, Value.cells] at hS))
        | ((with_reducible refine qA 43 ?_); refine BU hS 1 rfl _ _ rfl _ _ rfl _ _ rfl _ _ rfl rfl Tryz.underlying56 rfl (by kernel_rfl) ?_)
        | ((with_reducible refine qk 56 ?_); refine BU hS 0 rfl _ _ rfl _ _ rfl _ _ rfl _ _ rfl rfl Tryz.underlying56 rfl (by kernel_rfl) ?_)
        | (go_at_call 66; refine (CZ (KD.out _ _ hS.ro)).mono ?_; rw [show (d.1 &&& d.2 != 0) = _ from HE2.out.symm]; rintro r_ w_ ⟨_, rfl, rfl, hb_⟩; replace hS := hS.ext hb_; clear hb_)
        | (go_at_call 148; refine (EL (KZ.out _ _ hS.ro) (KD.out _ _ hS.ro)).mono ?_; rw [<- HWI.out]; rintro r_ w_ ⟨_, rfl, rfl, hb_⟩; replace hS := hS.ext hb_; clear hb_))
        exact ⟨⟨j + 1, hlj, by rw [HBS.out]; simp [hjk], by go_num, hS.sub (.cons _ (.refl _))⟩, by simp [intOf]; omega⟩
     ·go_wp2_with (first
        | ((with_reducible refine qB ?_); refine qc ?_ ?_ <;> intro h_ <;> go_prune)
        | ((with_reducible refine qA 31 ?_); refine BigFrame.wpList_want rfl fun _ hK => AU (cs := [.slice By ny dy, .slice Bn nn dn]) rfl rfl (HR2.out _ (hS.own 2 rfl)) Tryz.underlying56 rfl (by kernel_rfl) (hK _ _ ?_))
        | ((with_reducible refine qA 9 ?_); refine qa hS #[.slice none 0 0, .slice none 0 0] ?_; clear hS; intro g9 w_ hS)
        | ((with_reducible refine qM ?_); (first | refine qS hS ?_ | refine qT hS ?_); clear hS; intro w_ hS; (try simp only [Act.put, Act.eval, zz, Value.cells] at hS))
        | ((with_reducible refine qA 43 ?_); refine BU hS 1 rfl _ _ rfl _ _ rfl _ _ rfl _ _ rfl rfl Tryz.underlying56 rfl (by kernel_rfl) ?_)
        | ((with_reducible refine qk 56 ?_); refine BU hS 0 rfl _ _ rfl _ _ rfl _ _ rfl _ _ rfl rfl Tryz.underlying56 rfl (by kernel_rfl) ?_)
        | (go_at_call 66; refine (CZ (KD.out _ _ hS.ro)).mono ?_; rw [show (d.1 &&& d.2 != 0) = _ from HE2.out.symm]; rintro r_ w_ ⟨_, rfl, rfl, hb_⟩; replace hS := hS.ext hb_; clear hb_)
        | (go_at_call 148; refine (EL (KZ.out _ _ hS.ro) (KD.out _ _ hS.ro)).mono ?_; rw [<- HWI.out]; rintro r_ w_ ⟨_, rfl, rfl, hb_⟩; replace hS := hS.ext hb_; clear hb_))
      exact ⟨⟨j + 1, hlj, by rw [HBS.out]; simp, by go_num, hS.sub (.cons _ (.refl _))⟩, by simp [intOf]; omega⟩
    ·obtain rfl : j = m := by omega
     rw [HSM.out] at HKS
     cases hbk : GS S j k
     ·have HKS2 : Hid (BZ S (k + 1) = BZ S k ++ [k]) := Lib.hid (by rw [HKS.out, hbk]; rfl)
      clear HKS hbk
      go_wp2_with (first
       | ((with_reducible refine qB ?_); refine qc ?_ ?_ <;> intro h_ <;> go_prune)
       | ((with_reducible refine qk 56 ?_); refine BU hS 0 rfl _ _ rfl _ _ rfl _ _ rfl _ _ rfl rfl Tryz.underlying56 rfl (by kernel_rfl) ?_)
       | ((with_reducible refine qA 53 ?_); refine DC hS 1 rfl rfl _ _ _ _ rfl rfl Dj (.slice A4 (BZ S k).length c4) (BZ S k).length (AQ enc ((BZ S k).map fun t => C.getD t 0)) (.agg #[.slice Ay my cy, .slice An mn cn]) #[.slice Ay my cy, .slice An mn cn] rfl (by kernel_rfl) rfl rfl rfl rfl (by intro u hu; simp at hu; rcases hu with rfl | rfl <;> rfl) (by omega) (by omega) ?_; clear hS; intro z_ v' w_ hS; (try simp only [Act.put, Act.eval, zz, Value.cells] at hS); obtain ⟨A5, c5, rfl, _, _⟩ := B7 (hS.own 1 rfl)))
      refine ⟨⟨k + 1, A5, c5, hlt, by rw [HKS2.out]; simp; omega, by rw [HKS2.out, List.length_append]; rfl, by go_num, ?_⟩, by simp [intOf]; omega⟩
      have hS2 := hS.sub (.cons _ (.refl _))
      rw [HKS2.out, List.length_append, List.map_append, ecells_append]
      simp only [List.map_cons, List.map_nil, HCX.out]
      exact hS2
     ·have HKS2 : Hid (BZ S (k + 1) = BZ S k) := Lib.hid (by rw [HKS.out, hbk]; rfl)
      clear HKS hbk
      go_wp2_with (first | ((with_reducible refine qB ?_); refine qc ?_ ?_ <;> intro h_ <;> go_prune))
      exact ⟨⟨k + 1, A4, c4, hlt, by rw [HKS2.out]; omega, by rw [HKS2.out], by go_num, by rw [HKS2.out]; exact hS.sub (.cons _ (.refl _))⟩, by simp [intOf]; omega⟩
  ·obtain rfl : k = m := by omega
   go_wp2_with (first | ((with_reducible refine qB ?_); refine qc ?_ ?_ <;> intro h_ <;> go_prune))
   go_ret
   refine ⟨_, _, AQ enc ((BZ S k).map fun t => C.getD t 0), rfl, HQ.out, ?_, fun w D h => ?_, ?_⟩
   ·rw [List.length_map]; have := HCM.out; omega
   ·rw [HRM.out]; exact cc_ecells (fun x => by rw [<- hen.out]; exact cube_X h x) _
   ·rw [List.length_map]
    exact hS.sub (.cons_cons _ (.cons _ (.refl _)))
end
section
open Go.RowKit
attribute [local go_sem ↓] Go.wp_at_zero Go.wp_at_succ
set_option maxRecDepth 20000
set_option maxHeartbeats 2000000 in
theorem all1_in3 (l Bs cap : Nat) (A : Option Addr) (ws : List Nat) (hw : AW ws) (hlen : ws.length <= 64) (J Jx : List Int -> World -> Prop)
  (hY : ∀ pre x W, J pre W -> pre.length < (AV ws).length -> pre ++ [x] <+: AV ws -> YieldAt Fence.wide 2 Tryz.prog l #[.int .i64 x] W fun e W' =>
   (e = .returned (.bool true) /\ J (pre ++ [x]) W' /\ (CV Bs A cap ws W -> CV Bs A cap ws W')) \/ (e = .returned (.bool false) /\ Jx (pre ++ [x]) W'))
  (W : World) (hG : CV Bs A cap ws W) (h0 : J [] W) :
  CallsIn Fence.wide 3 Tryz.prog 142 #[.func (.yield l) #[] #[], .pointer (some ⟨Bs, 0, none⟩)] W fun e W' => (∃ v, e = .returned v) /\
   ((∃ ys, ys = AV ws /\ J ys W') \/ (∃ pre, pre <+: AV ws /\ Jx pre W')) := by
 have hBs := hG.box
 have HG := Lib.hid hG
 clear hG
 refine callsIn_of_wp Tryz.func142 rfl trivial ?_ rfl
 simp only [Tryz.ntmps142, List.size_toArray, List.length_cons, List.length_nil, Nat.reduceAdd, Nat.reduceSub, Array.replicate_succ, Array.replicate_zero, List.push_toArray, List.append_toArray, List.nil_append, List.cons_append]
 gi_wp2
 gi_loopw [8] (fun i wr => ∃ k : Nat, k <= ws.length /\ i = .int .i64 k /\ J (Ae (Bp (val ws) (64 * k))) wr /\ Hid (CV Bs A cap ws wr)) (fun i _ => ws.length - (intOf i).toNat)
 case atStart => exact ⟨0, Nat.zero_le _, rfl, h0, HG⟩
 case round =>
  obtain ⟨k, hk, rfl, hJs, hnx⟩ := hrel
  by_cases hlt : k < ws.length
  ·obtain ⟨b, off, rfl, hc⟩ := hnx.out.some_ (by omega)
   have hcx := hc k hlt
   have HC := Lib.hid hc
   clear hc
   have hx := hw.getD k
   have HM := Lib.hid (IA hw k)
   have HL := Lib.hid (IB (val ws) (show 64 * (k + 1) <= 64 * ws.length by omega))
   generalize ws.getD k 0 = x at *
   gi_wp2
   gi_loopw [4] (fun yv wr => ∃ (y : Nat) (pre : List Nat), yv = .int .u64 y /\ y < AM /\ J (Ae pre) wr /\ Hid (CV Bs (some ⟨b, off, none⟩) cap ws wr) /\ Hid (pre ++ (Eu y).map (64 * k + ·) = Bp (val ws) (64 * (k + 1)))) (fun yv _ => (intOf yv).toNat)
   case atStart => exact ⟨x, _, rfl, hx, hJs, hnx, Lib.hid HM.out.symm⟩
   case round =>
    obtain ⟨y, pre, rfl, hy, hJs, hnx, hP⟩ := hrel
    by_cases h0 : y = 0
    ·subst h0
     have hP' : pre = Bp (val ws) (64 * (k + 1)) := by have := hP.out; simpa [IP] using this
     subst hP'
     gi_wp2
     exact ⟨⟨k + 1, hlt, by go_num, hJs, hnx⟩, by simp [intOf]; omega⟩
    ·have hP2 := hP.out
     rw [IQ hy h0] at hP2
     have hl2 := congrArg List.length hP2
     simp only [List.length_append, List.map_cons, List.length_cons] at hl2
     have hlm := HL.out
     have HPF := Lib.hid (show Ae (pre ++ [64 * k + DX y]) <+: AV ws by
      have h1 : Bp (val ws) (64 * (k + 1)) <+: Bp (val ws) (64 * ws.length) := by
       unfold Bp
       obtain ⟨d, hd⟩ := Nat.exists_eq_add_of_le (show 64 * (k + 1) <= 64 * ws.length by omega)
       rw [hd, List.range_add, List.filter_append]
       exact List.prefix_append _ _
      have h2 : pre ++ [64 * k + DX y] <+: Bp (val ws) (64 * (k + 1)) := by
       rw [<- hP2]
       exact ⟨_, by rw [List.append_assoc]; rfl⟩
      exact (h2.trans h1).map _)
     have hpre0 : Ae pre ++ [64 * (k : Int) + (DX y : Nat)] = Ae (pre ++ [64 * k + DX y]) := by simp [Ae]
     obtain ⟨fn, tmps, assign, body, hyy, hR⟩ := hY (Ae pre) (64 * (k : Int) + (DX y : Nat)) wr hJs (by simp only [AV, Ae, List.length_map]; omega) (by rw [hpre0]; exact HPF.out)
     clear hpre0
     have hTr := Lib.hid hnx.out.tab
     have ht := tzN_lt hy h0
     have e1 : IntKind.u64.wrap ((y : Int) - 1) = ((y - 1 : Nat) : Int) := by rw [IntKind.wrap_u64]; unfold AM at hy; omega
     have e2 := IY hy (b := y - 1) (by omega)
     have e3 := IM hy h0
     have hne : ((y : Int) != 0) = true := by simp; omega
     have HP3 := Lib.hid hP2
     clear hP2 hl2
     gi_wp2
     refine ⟨trivial, ?_⟩
     refine (callsIn_wide.2 (tz_any y hy wr hTr.out)).mono ?_
     rintro e w' ⟨rfl, rfl⟩
     gi_wp2
     refine hR.mono ?_
     have hpre : Ae pre ++ [64 * (k : Int) + (DX y : Nat)] = Ae (pre ++ [64 * k + DX y]) := by simp [Ae]
     rw [hpre]
     rintro e W3 (⟨rfl, hJ3, hk3⟩ | ⟨rfl, hJx3⟩)
     ·gi_wp2
      exact ⟨⟨y &&& (y - 1), pre ++ [64 * k + DX y], rfl, Nat.lt_trans e3 hy, hJ3, Lib.hid (hk3 hnx.out), Lib.hid (by rw [List.append_assoc]; exact HP3.out)⟩, by simp [intOf]; exact e3⟩
     ·gi_wp2
      refine bodyPost_ret (results_none rfl _ _ _) rfl ?_
      exact ⟨⟨_, rfl⟩, .inr ⟨_, HPF.out, hJx3⟩⟩
  ·obtain rfl : k = ws.length := by omega
   gi_wp2
   go_end0
   exact ⟨⟨_, rfl⟩, .inl ⟨_, rfl, hJs⟩⟩
theorem all_stops3 (Bs cap : Nat) (A : Option Addr) (ws : List Nat) (hw : AW ws) (hlen : ws.length <= 64) (w : World) (hG : CV Bs A cap ws w) :
  SeqStopsK Fence.wide 3 Tryz.prog 142 #[.pointer (some ⟨Bs, 0, none⟩)] (fun x : GT (AV ws) => #[Value.int .i64 x.1]) (fun U V => CV Bs A cap ws U -> CV Bs A cap ws V) (fun ys => ys.map (·.1) = AV ws) (fun pre => pre.map (·.1) <+: AV ws) (AV ws).length w := by
 intro l J Jx W hW _ _ hY h0
 refine (all1_in3 l Bs cap A ws hw hlen (fun pre W => ∃ p : List (GT (AV ws)), p.map (·.1) = pre /\ J p W) (fun pre W => ∃ p : List (GT (AV ws)), p.map (·.1) = pre /\ Jx p W) ?_ W ⟨?_, fun h => ?_, hG.tab.ext hW⟩ ⟨[], rfl, h0⟩).mono ?_
 ·rintro pre x W1 ⟨p, rfl, h1⟩ h2 h3
  have hx : x ∈ AV ws := h3.subset (by simp)
  obtain ⟨fn, tmps, assign, body, hyy, hR⟩ := hY p ⟨x, hx⟩ W1 h1 (by simpa using h2)
  refine ⟨fn, tmps, assign, body, hyy, hR.mono ?_⟩
  rintro e W' (⟨h4, h5, h6⟩ | ⟨h4, h5⟩)
  ·exact .inl ⟨h4, ⟨p ++ [⟨x, hx⟩], by simp, h5⟩, h6⟩
  ·exact .inr ⟨h4, p ++ [⟨x, hx⟩], by simp, h5⟩
 ·exact Ds hW hG.box
 ·obtain ⟨b, off, e, hc⟩ := hG.some_ h
  exact ⟨b, off, e, fun j hj => Ds hW (hc j hj)⟩
 ·rintro e W' ⟨h1, ⟨ys, h2, p, h3, h4⟩ | ⟨pre, h2, p, h3, h4⟩⟩
  ·exact ⟨h1, .inl ⟨p, h3.trans h2, h4⟩⟩
  ·exact ⟨h1, .inr ⟨p, by show List.map (·.1) p <+: AV ws; rw [h3]; exact h2, h4⟩⟩
theorem range_allH {g : Operand} {ps : Array Tmp} {assign body : Code} {Q : Exit -> Act -> World -> Prop} {a : Act} {w0 w : World} {F : List Ac} {K : (Nat -> Prop) -> World -> Prop}
  (hS : St w0 w F K) {Bs cap : Nat} {A : Option Addr} {ws : List Nat} (hw : AW ws) (hlen : ws.length <= 64) (kG : ∀ D w, K D w -> CV Bs A cap ws w)
  (hg : a.eval g = .func (.func 142) #[] #[.pointer (some ⟨Bs, 0, none⟩)]) (hps : ps.size = 1)
  (Rel : List Int -> List Ac -> ((Nat -> Prop) -> World -> Prop) -> Prop) (RelX : Code -> List Int -> List Ac -> ((Nat -> Prop) -> World -> Prop) -> Prop) (hRK : ∀ s F K', Rel s F K' -> ∀ D w, K' D w -> K D w) (hR : ∀ s F K', Rel s F K' -> ∀ f ∈ F, f.low w.heap.size) (hRX : ∀ c s F K', RelX c s F K' -> ∀ f ∈ F, f.low w.heap.size) (h0 : Rel [] F K) (a₁ : Int -> Act)
  (hassign : ∀ (l : Nat) (x : Int) (W : World) (K : Act -> World -> Prop), K (a₁ x) W ->
   assign.wpIn (Fence.wide.inRound l) 4 Tryz.prog (Exit.then K (fun _ _ _ => False)) { tmps := (ps.zip #[Value.int .i64 x]).foldl (fun t (p, v) => t.setIfInBounds p v) a.tmps, defers := [] } W)
  (hbody : ∀ (l : Nat) (pre : List Int) (x : Int) (hx : x ∈ AV ws) (W : World) (F' X : List Ac) (K' : ((Nat -> Prop) -> World -> Prop)), Rel pre F' K' -> St w0 W (F' ++ X) (fun D w => K' D w /\ W.heap.size <= w.heap.size) -> (∃ r, Ac.obj l (.loop r) ∈ X) -> pre.length < (AV ws).length -> body.wpIn (Fence.wide.inRound l) 4 Tryz.prog (Fl w0 W.heap.size X Rel RelX (pre ++ [x])) (a₁ x) W)
  (hdone : ∀ (D : Nat) (W : World) (F' : List Ac) (K' : ((Nat -> Prop) -> World -> Prop)), w.heap.size <= D -> Rel (AV ws) F' K' -> St w0 W F' K' -> W.heap[D]? = some (.deferred (some [])) -> Q .normal { a with defers := { target := .collected D, args := #[] } :: a.defers } W)
  (hstop : ∀ (D : Nat) (c : Code) (pre : List Int) (W : World) (F' : List Ac) (K' : ((Nat -> Prop) -> World -> Prop)), w.heap.size <= D -> pre <+: AV ws -> RelX c pre F' K' -> St w0 W F' K' -> W.heap[D]? = some (.deferred (some [])) -> c.wpIn Fence.wide 6 Tryz.prog Q { a with defers := { target := .collected D, args := #[] } :: a.defers } W) :
  (Code.rangeFunc g ps assign body).wpIn Fence.wide 6 Tryz.prog Q a w := by
 refine wpIn_rangeFunc_ownH rfl (by omega) hg trivial (enters_of Tryz.func142 (by kernel_rfl) rfl) (IZ Bs cap A ws hw hlen w (kG _ _ hS.ro)) (fun h k x => k (h x)) ?kb (Below.refl _ _) (fun _ => by simp [hps])
  (fun (pre : List (GT (AV ws))) W => (∃ F' K', Rel (pre.map (·.1)) F' K' /\ St w0 W F' K') /\ True) (fun c (pre : List (GT (AV ws))) W => ∃ F' K', RelX c (pre.map (·.1)) F' K' /\ St w0 W F' K') ?hI (fun c => St.ownFromB (fun s : List (GT (AV ws)) => RelX c (List.map (·.1) s)) _ (fun s => hRX c _) hS.size) ⟨⟨F, K, h0, hS⟩, trivial⟩ (fun (x : GT (AV ws)) a' _ => a' = a₁ x.1) (fun _ _ => fun _ _ _ _ hs _ _ => hs) (fun l pre x W K hi hK => hassign l x.1 W K (hK _ _ (KeepsFrom.refl _ _) (fun h => h) hi rfl)) ?body ?done ?stop
 case kb =>
  intro W l o o' _ ho hc _ hG
  have Dq : ∀ {p : Addr} {x : Value}, W.cell? p = some x -> (W.putObj l o').cell? p = some x := by
   intro p x hx
   refine (World.cell?_of_block (World.putObj_heap_other ?_)).trans hx
   rintro rfl
   simp only [World.cell?, ho] at hx
   cases o <;> simp_all [Obj.isCells]
  refine ⟨Dq hG.box, fun h => ?_, fun q hq => Dq (hG.tab q hq)⟩
  obtain ⟨b, off, e, hh⟩ := hG.some_ h
  exact ⟨b, off, e, fun j hj => Dq (hh j hj)⟩
 case hI => exact fun s X Y row h1 hg hr => ⟨St.ownFromB (fun s : List (GT (AV ws)) => Rel (List.map (·.1) s)) _ (fun s => hR _) hS.size s X Y row h1.1 hg hr, trivial⟩
 case body =>
  rintro l pre x a' W hle ⟨r, hr⟩ ⟨⟨F', K1, h1, h2⟩, _⟩ rfl hlt
  refine wpIn_mono (hbody l _ x.1 x.2 W F' (CJ w.heap.size W) K1 h1 ((h2.withOthersB (hR _ _ _ h1) hS.size).add (D := fun _ => False) (DA W.heap.size) (Nat.le_refl _) fun _ h _ => h.elim) ⟨r, Cl.2 ⟨l, .loop r, rfl, hr, rfl, hle⟩⟩ (by simpa using hlt)) ?_
  rintro e a3 W3 hp
  rw [show List.map (fun y : GT (AV ws) => y.1) pre ++ [x.1] = List.map (fun y : GT (AV ws) => y.1) (pre ++ [x]) by simp] at hp
  have hsub : ∀ {F'' : List Ac} {K'' : ((Nat -> Prop) -> World -> Prop)}, St w0 W3 (F'' ++ CJ w.heap.size W) K'' -> St w0 W3 F'' K'' := fun h => h.sub (List.sublist_append_left _ _)
  cases e with
  | normal =>
   obtain ⟨F'', K'', h3, h5, h4⟩ := hp
   exact ⟨h4.keepsFrom h5, fun _ => kG _ _ (hRK _ _ _ h3 _ _ h4.ro), ⟨F'', K'', h3, hsub h4⟩, trivial⟩
  | ret => obtain ⟨F'', K'', h3, h5, h4⟩ := hp; exact ⟨h4.keepsFrom h5, F'', K'', h3, hsub h4⟩
  | exit id => obtain ⟨F'', K'', h3, h5, h4⟩ := hp; exact ⟨h4.keepsFrom h5, F'', K'', h3, hsub h4⟩
  | goto t => obtain ⟨F'', K'', h3, h5, h4⟩ := hp; exact ⟨h4.keepsFrom h5, F'', K'', h3, hsub h4⟩
  | panic ch => exact hp.elim
  | outgrown => exact hp.elim
 case done =>
  rintro D xs W hD hxs ⟨⟨F', K1, h1, h2⟩, _⟩ hk
  rw [hxs] at h1
  exact hdone D W F' K1 hD h1 h2 hk
 case stop =>
  rintro D c pre W hD hp ⟨F', K1, h1, h2⟩ hk
  exact hstop D c _ W F' K1 hD hp h1 h2 hk
theorem range_allN {g : Operand} {ps : Array Tmp} {assign body : Code} {Q : Exit -> Act -> World -> Prop} {a : Act} {w0 w : World} {F : List Ac} {K : (Nat -> Prop) -> World -> Prop}
  (hS : St w0 w F K) {l₀ : Nat} {r₀ : Loop} (hl₀ : w.heap[l₀]? = some (.loop r₀)) {Bs cap : Nat} {A : Option Addr} {ws : List Nat} (hw : AW ws) (hlen : ws.length <= 64) (kG : ∀ D w, K D w -> CV Bs A cap ws w)
  (hg : a.eval g = .func (.func 142) #[] #[.pointer (some ⟨Bs, 0, none⟩)]) (hps : ps.size = 1)
  (Rel : List Int -> List Ac -> ((Nat -> Prop) -> World -> Prop) -> Prop) (RelX : Code -> List Int -> List Ac -> ((Nat -> Prop) -> World -> Prop) -> Prop) (hRK : ∀ s F K', Rel s F K' -> ∀ D w, K' D w -> K D w) (hR : ∀ s F K', Rel s F K' -> ∀ f ∈ F, f.low w.heap.size) (hRX : ∀ c s F K', RelX c s F K' -> ∀ f ∈ F, f.low w.heap.size) (h0 : Rel [] F K) (a₁ : Int -> Act)
  (hassign : ∀ (l : Nat) (x : Int) (W : World) (K : Act -> World -> Prop), K (a₁ x) W ->
   assign.wpIn (Fence.wide.inRound l) 2 Tryz.prog (Exit.then K (fun _ _ _ => False)) { tmps := (ps.zip #[Value.int .i64 x]).foldl (fun t (p, v) => t.setIfInBounds p v) a.tmps, defers := [] } W)
  (hbody : ∀ (l : Nat) (pre : List Int) (x : Int) (hx : x ∈ AV ws) (W : World) (F' X : List Ac) (K' : ((Nat -> Prop) -> World -> Prop)), Rel pre F' K' -> St w0 W (F' ++ X) (fun D w => K' D w /\ W.heap.size <= w.heap.size) -> pre.length < (AV ws).length -> body.wpIn (Fence.wide.inRound l) 2 Tryz.prog (Fl w0 W.heap.size X Rel RelX (pre ++ [x])) (a₁ x) W)
  (hdone : ∀ (W : World) (F' : List Ac) (K' : ((Nat -> Prop) -> World -> Prop)), Rel (AV ws) F' K' -> St w0 W F' K' -> Q .normal a W)
  (hstop : ∀ (c : Code) (pre : List Int) (W : World) (F' : List Ac) (K' : ((Nat -> Prop) -> World -> Prop)), pre <+: AV ws -> RelX c pre F' K' -> St w0 W F' K' -> c.wpIn (Fence.wide.inRound l₀) 4 Tryz.prog Q a W) :
  (Code.rangeFunc g ps assign body).wpIn (Fence.wide.inRound l₀) 4 Tryz.prog Q a w := by
 refine wpIn_rangeFunc_ownN rfl hl₀ (by omega) hg trivial (enters_of Tryz.func142 (by kernel_rfl) rfl) ((all_stops3 Bs cap A ws hw hlen w (kG _ _ hS.ro)).inRound l₀) (fun h k x => k (h x)) ?kb (Below.refl _ _) (fun _ => by simp [hps])
  (fun (pre : List (GT (AV ws))) W => (∃ F' K', Rel (pre.map (·.1)) F' K' /\ St w0 W F' K') /\ True) (fun c (pre : List (GT (AV ws))) W => ∃ F' K', RelX c (pre.map (·.1)) F' K' /\ St w0 W F' K') ?hI (fun c => St.ownFromB (fun s : List (GT (AV ws)) => RelX c (List.map (·.1) s)) _ (fun s => hRX c _) hS.size) ⟨⟨F, K, h0, hS⟩, trivial⟩ (fun (x : GT (AV ws)) a' _ => a' = a₁ x.1) (fun _ _ => fun _ _ _ _ hs _ _ => hs) (fun l pre x W K hi hK => hassign l x.1 W K (hK _ _ (KeepsFrom.refl _ _) (fun h => h) hi rfl)) ?body ?done ?stop
 case kb =>
  intro W l o o' _ ho hc _ hG
  have Dq : ∀ {p : Addr} {x : Value}, W.cell? p = some x -> (W.putObj l o').cell? p = some x := by
   intro p x hx
   refine (World.cell?_of_block (World.putObj_heap_other ?_)).trans hx
   rintro rfl
   simp only [World.cell?, ho] at hx
   cases o <;> simp_all [Obj.isCells]
  refine ⟨Dq hG.box, fun h => ?_, fun q hq => Dq (hG.tab q hq)⟩
  obtain ⟨b, off, e, hh⟩ := hG.some_ h
  exact ⟨b, off, e, fun j hj => Dq (hh j hj)⟩
 case hI => exact fun s X Y row h1 hg hr => ⟨St.ownFromB (fun s : List (GT (AV ws)) => Rel (List.map (·.1) s)) _ (fun s => hR _) hS.size s X Y row h1.1 hg hr, trivial⟩
 case body =>
  rintro l pre x a' W hle ⟨r, hr⟩ ⟨⟨F', K1, h1, h2⟩, _⟩ rfl hlt
  refine wpIn_mono (hbody l _ x.1 x.2 W F' (CJ w.heap.size W) K1 h1 ((h2.withOthersB (hR _ _ _ h1) hS.size).add (D := fun _ => False) (DA W.heap.size) (Nat.le_refl _) fun _ h _ => h.elim) (by simpa using hlt)) ?_
  rintro e a3 W3 hp
  rw [show List.map (fun y : GT (AV ws) => y.1) pre ++ [x.1] = List.map (fun y : GT (AV ws) => y.1) (pre ++ [x]) by simp] at hp
  have hsub : ∀ {F'' : List Ac} {K'' : ((Nat -> Prop) -> World -> Prop)}, St w0 W3 (F'' ++ CJ w.heap.size W) K'' -> St w0 W3 F'' K'' := fun h => h.sub (List.sublist_append_left _ _)
  cases e with
  | normal =>
   obtain ⟨F'', K'', h3, h5, h4⟩ := hp
   exact ⟨h4.keepsFrom h5, fun _ => kG _ _ (hRK _ _ _ h3 _ _ h4.ro), ⟨F'', K'', h3, hsub h4⟩, trivial⟩
  | ret => obtain ⟨F'', K'', h3, h5, h4⟩ := hp; exact ⟨h4.keepsFrom h5, F'', K'', h3, hsub h4⟩
  | exit id => obtain ⟨F'', K'', h3, h5, h4⟩ := hp; exact ⟨h4.keepsFrom h5, F'', K'', h3, hsub h4⟩
  | goto t => obtain ⟨F'', K'', h3, h5, h4⟩ := hp; exact ⟨h4.keepsFrom h5, F'', K'', h3, hsub h4⟩
  | panic ch => exact hp.elim
  | outgrown => exact hp.elim
 case done =>
  rintro xs W hxs ⟨⟨F', K1, h1, h2⟩, _⟩
  rw [hxs] at h1
  exact hdone W F' K1 h1 h2
 case stop =>
  rintro c pre W hp ⟨F', K1, h1, h2⟩
  exact hstop c _ W F' K1 hp h1 h2
end
section
open Go.RowKit
set_option exponentiation.threshold 5000
theorem Eg : ∀ r, r < 6 -> AP r < 64 := by decide
theorem Gz {L : List (Nat × Nat)} {N r : Nat} {x : Int} (hr : r <= 5) (h : N = AP r) : senQ L x &&& N < AM := by
 have h1 := Eg r (by omega)
 have h2 : senQ L x &&& N <= N := Nat.and_le_right
 unfold AM
 omega
noncomputable def nextE (L : List (Nat × Nat)) (N : Nat) (x : Int) (l : List (Nat × Nat)) : List (Nat × Nat) := l.flatMap fun z => ((List.range 64).filter fun s => (senQ L x &&& N).testBit s).map fun s => (z.1 ||| 2 ^ s, z.2)
theorem nextE_succ {L : List (Nat × Nat)} {N j zy zn : Nat} {x : Int} {l : List (Nat × Nat)} {wq : List Nat} (hz : l[j]? = some (zy, zn)) (hw : Bw wq) (hv : val wq = senQ L x &&& N) (hN : senQ L x &&& N < AM) :
  nextE L N x (l.take (j + 1)) = nextE L N x (l.take j) ++ (AV wq).map fun s => (C6 zy s, zn) := by
 unfold nextE
 rw [List.take_add_one, hz, List.flatMap_append]
 congr 1
 rw [G4 hw (by rw [hv]; exact hN), hv]
 simp only [Option.toList, List.flatMap_cons, List.flatMap_nil, List.append_nil, Ae, List.map_map, AL]
 refine List.map_congr_left fun s hs => ?_
 have h64 : s < 64 := by have := (List.mem_filter.1 hs).1; simpa using this
 simp only [Function.comp, C6]
 rw [if_pos (by omega), Int.toNat_natCast]
theorem IC {wq : List Nat} (hw : Bw wq) (hN : val wq < AM) : (AV wq).length <= 64 := by
 rw [G4 hw hN]
 simp only [Ae, List.length_map, AL]
 exact Nat.le_trans (List.length_filter_le _ _) (by simp)
theorem asc_len : ∀ (l : List Nat) (a k : Nat), l.Pairwise (· < ·) -> (∀ x ∈ l, a <= x /\ x < k) -> l.length <= k - a
 | [], _, _, _, _ => by simp
 | x :: t, a, k, hp, hb => by
  obtain ⟨h1, h2⟩ := List.pairwise_cons.1 hp
  have hx := hb x (by simp)
  have := asc_len t (x + 1) k h2 fun y hy => ⟨h1 y hy, (hb y (by simp [hy])).2⟩
  simp only [List.length_cons]
  omega
theorem sub_lt {a N : Nat} (h : a &&& N = a) (hN : N < 64) : a < 64 := by
 have h2 : a &&& N <= N := Nat.and_le_right
 omega
theorem next_in {L : List (Nat × Nat)} {N no : Nat} {x : Int} {l : List (Nat × Nat)} (h : ∀ z ∈ l, z.2 = no /\ z.1 &&& N = z.1) : ∀ z ∈ nextE L N x l, z.2 = no /\ z.1 &&& N = z.1 := by
 intro z hz
 obtain ⟨y, hy, hz⟩ := List.mem_flatMap.1 hz
 obtain ⟨s, hs, rfl⟩ := List.mem_map.1 hz
 obtain ⟨h1, h2⟩ := h y hy
 have hb : (senQ L x &&& N).testBit s = true := (List.mem_filter.1 hs).2
 rw [Nat.testBit_and, Bool.and_eq_true] at hb
 refine ⟨h1, ?_⟩
 show (y.1 ||| 2 ^ s) &&& N = y.1 ||| 2 ^ s
 refine Nat.eq_of_testBit_eq fun i => ?_
 have h3 : (y.1 &&& N).testBit i = y.1.testBit i := by rw [h2]
 rw [Nat.testBit_and] at h3
 rw [Nat.testBit_and, Nat.testBit_or, Nat.testBit_two_pow]
 by_cases hi : s = i
 ·subst hi; simp [hb.2]
 ·simp only [hi, decide_false, Bool.or_false]; exact h3
theorem simp_len {l r : List (Nat × Nat)} {N no : Nat} (hN : N < 64) (h : ∀ z ∈ l, z.2 = no /\ z.1 &&& N = z.1) (hr : Hi l r) : r.length <= 64 := by
 have h1 : ∀ z ∈ r, z.2 = no /\ z.1 < 64 := fun z hz => by
  obtain ⟨h2, h3⟩ := h z ((hr.2 z).1 hz).1
  exact ⟨h2, sub_lt h3 hN⟩
 have := asc_len (r.map fun z => Dq z.1) 0 64 (by
  rw [List.pairwise_map]
  refine List.Pairwise.imp_of_mem (fun {a b} ha hb hab => ?_) hr.1
  have ea := (h1 a ha).1
  have eb := (h1 b hb).1
  unfold clt Dw at hab
  rw [ea, eb] at hab
  omega) (fun x hx => by
  obtain ⟨z, hz, rfl⟩ := List.mem_map.1 hx
  exact ⟨Nat.zero_le _, Fp _ (h1 z hz).2⟩)
 simpa using this
noncomputable def noP (L : List (Nat × Nat)) (N : Nat) (pre : List Int) : Nat := pre.foldl (fun m x => m ||| (senQ L x &&& N)) 0
theorem noP_snoc (L : List (Nat × Nat)) (N : Nat) (pre : List Int) (x : Int) : noP L N (pre ++ [x]) = noP L N pre ||| (senQ L x &&& N) := by
 unfold noP; rw [List.foldl_append]; rfl
theorem noP_in (L : List (Nat × Nat)) (N : Nat) (pre : List Int) : noP L N pre &&& N = noP L N pre := by
 unfold noP
 suffices H : ∀ (l : List Int) (a : Nat), a &&& N = a -> (l.foldl (fun m x => m ||| (senQ L x &&& N)) a) &&& N = l.foldl (fun m x => m ||| (senQ L x &&& N)) a from H pre 0 (by simp)
 intro l
 induction l with
 | nil => exact fun a h => h
 | cons x l ih =>
  intro a h
  refine ih _ ?_
  rw [Nat.and_or_distrib_right, h, Nat.and_assoc, Nat.and_self]
inductive ExpL (L : List (Nat × Nat)) (N no : Nat) : List Int -> List (Nat × Nat) -> Prop
 | nil : ExpL L N no [] [(0, no)]
 | snoc {pre l l'} (x : Int) : ExpL L N no pre l -> Hi (nextE L N x l) l' -> ExpL L N no (pre ++ [x]) l'
def J1 (L : List (Nat × Nat)) (N : Nat) (z : Nat × Nat) (r : List (Nat × Nat)) (e : Int) : Prop :=
 if (z.1 ||| z.2) &&& N = z.1 ||| z.2 then e = 0 /\ ExpL L N (noP L N (Ae (AL z.2))) (Ae (AL z.1)) r else e = 4 /\ r = []
theorem clt_uniq : ∀ {L M : List (Nat × Nat)}, L.Pairwise clt -> M.Pairwise clt -> (∀ x, x ∈ L ↔ x ∈ M) -> L = M
 | [], [], _, _, _ => rfl
 | [], y :: M, _, _, h => by have := (h y).2 (by simp); simp at this
 | x :: L, [], _, _, h => by have := (h x).1 (by simp); simp at this
 | x :: L, y :: M, hL, hM, h => by
  obtain ⟨h1, h2⟩ := List.pairwise_cons.1 hL
  obtain ⟨h3, h4⟩ := List.pairwise_cons.1 hM
  have hxy : x = y := by
   rcases List.mem_cons.1 ((h x).1 (by simp)) with e | e
   ·exact e
   ·rcases List.mem_cons.1 ((h y).2 (by simp)) with e2 | e2
    ·exact e2.symm
    ·have a := h3 x e
     have b := h1 y e2
     unfold clt at a b
     omega
  subst hxy
  have hn : ∀ {K : List (Nat × Nat)}, (∀ z ∈ K, clt x z) -> x ∉ K := fun hk hx => by have := hk x hx; unfold clt at this; omega
  rw [clt_uniq h2 h4 fun z => ?_]
  have := h z
  simp only [List.mem_cons] at this
  constructor
  ·intro hz
   rcases this.1 (.inr hz) with e | e
   ·subst e; exact absurd hz (hn h1)
   ·exact e
  ·intro hz
   rcases this.2 (.inr hz) with e | e
   ·subst e; exact absurd hz (hn h3)
   ·exact e
theorem simpQ_uniq {l r r' : List (Nat × Nat)} (h : Hi l r) (h' : Hi l r') : r = r' := clt_uniq h.1 h'.1 fun x => (h.2 x).trans (h'.2 x).symm
theorem expL_uniq {L : List (Nat × Nat)} {N no : Nat} : ∀ {pre : List Int} {l : List (Nat × Nat)}, ExpL L N no pre l -> ∀ {l'}, ExpL L N no pre l' -> l = l' := by
 intro pre l h
 induction h with
 | nil =>
  intro l' h'
  generalize hp : ([] : List Int) = q at h'
  cases h' with
  | nil => rfl
  | snoc x _ _ => simp at hp
 | snoc x h1 h2 ih =>
  intro l' h'
  generalize hp : _ ++ [x] = q at h'
  cases h' with
  | nil => simp at hp
  | snoc y g1 g2 =>
   obtain ⟨e1, e2⟩ := List.append_inj' hp rfl
   subst e1
   simp only [List.cons.injEq, and_true] at e2
   subst e2
   obtain rfl := ih g1
   exact simpQ_uniq h2 g2
theorem expQ_uniq {L : List (Nat × Nat)} {N : Nat} {z : Nat × Nat} {r r' : List (Nat × Nat)} {e e' : Int} (h : J1 L N z r e) (h' : J1 L N z r' e') : r = r' /\ e = e' := by
 unfold J1 at h h'
 split at h
 ·rename_i hc
  rw [if_pos hc] at h'
  exact ⟨expL_uniq h.2 h'.2, h.1.trans h'.1.symm⟩
 ·rename_i hc
  rw [if_neg hc] at h'
  exact ⟨h.2.trans h'.2.symm, h.1.trans h'.1.symm⟩
end
section
open Go.RowKit
set_option exponentiation.threshold 5000
theorem tc12 {a b : Nat} : TC [(1, 2)] a b ↔ a = 1 /\ b = 2 := by
 constructor
 ·intro h
  induction h with
  | one h => simpa using h
  | cons h _ ih =>
   simp at h
   omega
 ·rintro ⟨rfl, rfl⟩
  exact .one (by simp)
theorem IE : Ew 64 [(1, 2)] := by
 intro x hx
 simp at hx
 subst hx
 decide
theorem sen12_2 : senQ [(1, 2)] 2 = 6 := by
 rw [senQ, if_pos (by decide)]
 refine Bi fun i => ?_
 rw [show (2 : Int).toNat = 2 from rfl, tb_sen IE, tc12, show (6 : Nat) = 2 ^ 1 ||| 2 ^ 2 from rfl, Dz, C2, C2]
 omega
theorem sen12_1 : senQ [(1, 2)] 1 = 2 := by
 rw [senQ, if_pos (by decide)]
 refine Bi fun i => ?_
 rw [show (1 : Int).toNat = 1 from rfl, tb_sen IE, tc12, show (2 : Nat) = 2 ^ 1 from rfl, C2]
 omega
def simpB (l r : List (Nat × Nat)) : Bool :=
 (r.all fun z => l.contains z && (!GH z && l.all fun d => d == z || (GH d || !Dc z d))) && (l.all fun z => r.contains z || (GH z || l.any fun d => !(d == z) && (!GH d && Dc z d)))
theorem simpB_q {l r : List (Nat × Nat)} (hp : r.Pairwise clt) (h : simpB l r = true) : Hi l r := by
 unfold simpB at h
 rw [Bool.and_eq_true, List.all_eq_true, List.all_eq_true] at h
 refine ⟨hp, fun z => ⟨fun hz => ?_, fun ⟨h1, h2, h3⟩ => ?_⟩⟩
 ·have h1 := h.1 z hz
  simp only [Bool.and_eq_true, List.contains_iff_mem, Bool.not_eq_true', List.all_eq_true, Bool.or_eq_true, beq_iff_eq] at h1
  refine ⟨h1.1, h1.2.1, fun d hd hne hd2 => ?_⟩
  rcases h1.2.2 d hd with e | e | e
  ·exact absurd e hne
  ·rw [hd2] at e; cases e
  ·exact e
 ·have h4 := h.2 z h1
  simp only [Bool.or_eq_true, List.contains_iff_mem, List.any_eq_true, Bool.and_eq_true, Bool.not_eq_true', beq_eq_false_iff_ne] at h4
  rcases h4 with e | e | ⟨d, hd, hne, hd2, hw⟩
  ·exact e
  ·rw [h2] at e; cases e
  ·rw [h3 d hd hne hd2] at hw; cases hw
theorem expA : J1 [(1, 2)] 14 (4, 0) [(2, 0), (4, 0)] 0 := by
 unfold J1
 rw [if_pos (by decide)]
 refine ⟨rfl, ?_⟩
 rw [show Ae (AL ((4, 0) : Nat × Nat).1) = [] ++ [2] from by decide, show Ae (AL ((4, 0) : Nat × Nat).2) = [] from by decide]
 refine .snoc 2 .nil ?_
 have e : nextE [(1, 2)] 14 2 [(0, noP [(1, 2)] 14 [])] = [(2, 0), (4, 0)] := by
  unfold nextE noP
  rw [sen12_2]
  decide
 rw [e]
 exact simpB_q (by simp [clt, Dw, Dq]; decide) (by decide)
theorem expB : J1 [(1, 2)] 14 (4, 2) [(4, 2)] 0 := by
 unfold J1
 rw [if_pos (by decide)]
 refine ⟨rfl, ?_⟩
 rw [show Ae (AL ((4, 2) : Nat × Nat).1) = [] ++ [2] from by decide, show Ae (AL ((4, 2) : Nat × Nat).2) = [1] from by decide]
 refine .snoc 2 .nil ?_
 have e0 : noP [(1, 2)] 14 [1] = 2 := by
  unfold noP
  simp only [List.foldl_cons, List.foldl_nil, sen12_1]
  decide
 have e : nextE [(1, 2)] 14 2 [(0, noP [(1, 2)] 14 [1])] = [(2, 2), (4, 2)] := by
  rw [e0]
  unfold nextE
  rw [sen12_2]
  decide
 rw [e]
 exact simpB_q (by simp) (by decide)
end
section
open Go.RowKit
attribute [local go_sem ↓] Go.wp_at_zero Go.wp_at_succ
set_option maxRecDepth 20000
set_option exponentiation.threshold 5000
theorem LinkP.next {w0 w : World} {F : List Ac} {K : (Nat -> Prop) -> World -> Prop} {L M : List (Nat × Nat)} {x : Nat × Nat} {r : Value} {z : Int} (h : LinkP w0 F K L (x.1 : Nat) (x.2 : Nat) r z w) {j : Nat} (hx : M[j]? = some x) (hL : ∀ u, u ∈ L ↔ u ∈ M.take j) (hN : M.Nodup) (hR : ∀ u ∈ M, (1 <= u.1 /\ u.1 < 64) /\ 1 <= u.2 /\ u.2 < 64) (hA : Dt M) :
  z = 0 /\ ∃ L', Gm L' /\ (∀ u, u ∈ L' ↔ u ∈ M.take (j + 1)) /\ St w0 w F fun D w => K D w /\ IsH w D r L' := by
 have hm := List.mem_of_getElem? hx
 have h1 := hR x hm
 have hne := hA.ne hm
 have htk : ∀ u, u ∈ M.take (j + 1) ↔ u ∈ L ++ [x] := fun u => by
  rw [List.take_add_one, hx, List.mem_append, List.mem_append, hL]; simp
 rcases h with ⟨h, _⟩ | ⟨a, b, ha, hb, _, _, _, h⟩
 ·exact absurd ⟨⟨by omega, by omega⟩, ⟨by omega, by omega⟩, by omega⟩ h
 ·obtain rfl : x = (a, b) := Prod.ext (by show x.1 = a; omega) (by show x.2 = b; omega)
  rcases h with ⟨h, _⟩ | ⟨_, h, _⟩ | ⟨_, hz, L', h3, h4, h5⟩
  ·exfalso
   obtain ⟨i, hi, e⟩ := List.getElem_of_mem ((hL _).1 h)
   rw [List.length_take] at hi
   obtain ⟨hj, ej⟩ := List.getElem?_eq_some_iff.1 hx
   rw [List.getElem_take] at e
   exact List.pairwise_iff_getElem.1 hN i j (by omega) hj (by omega) (e.trans ej.symm)
  ·exact absurd (hA.sub fun u hu => List.mem_of_mem_take ((htk u).2 hu)) h
  ·exact ⟨hz, L', h3, fun u => (h4 u).trans (htk u).symm, h5⟩
end
section
open Go.RowKit
attribute [local go_sem ↓] Go.wp_at_zero Go.wp_at_succ
set_option maxRecDepth 20000
set_option exponentiation.threshold 5000
theorem nodup_le : ∀ {T S : List (Nat × Nat)}, T.Nodup -> (∀ y ∈ T, y ∈ S) -> T.length <= S.length
 | [], _, _, _ => by simp
 | t :: T, S, hT, hs => by
  have hT := List.nodup_cons.1 hT
  have ht := hs t (List.mem_cons_self ..)
  have := nodup_le (T := T) (S := S.erase t) hT.2 fun y hy => (List.mem_erase_of_ne (fun e => hT.1 (by rw [<- e]; exact hy))).2 (hs y (List.mem_cons_of_mem _ hy))
  rw [List.length_erase_of_mem ht] at this
  have := List.length_pos_of_mem ht
  rw [List.length_cons]
  omega
def Part (M : List (Nat × Nat)) (j : Nat) (L : List (Nat × Nat)) : Prop := Gm L /\ ∀ u, u ∈ L ↔ u ∈ M.take j
theorem Part.len {M L : List (Nat × Nat)} {j : Nat} (h : Part M j L) : L.length <= M.length := nodup_le h.1.asc.nodup fun y hy => List.mem_of_mem_take ((h.2 y).1 hy)
theorem Part.full {M L : List (Nat × Nat)} (h : Part M M.length L) (hM : Asc M) : L = M := Asc.uniq h.1.asc hM fun u => by rw [h.2, List.take_length]
end
section
open Go.RowKit
attribute [local go_sem ↓] Go.wp_at_zero Go.wp_at_succ
set_option maxRecDepth 20000
set_option exponentiation.threshold 5000
theorem acyc_up {L : List (Nat × Nat)} (h : ∀ x ∈ L, x.1 < x.2) : Dt L := by
 have Dq : ∀ {a b : Nat}, TC L a b -> a < b := by
  intro a b k
  induction k with
  | one h1 => exact h _ h1
  | cons h1 _ ih => exact Nat.lt_trans (h _ h1) ih
 exact fun a ha => Nat.lt_irrefl _ (Dq ha)
end
section
open Go.RowKit
attribute [local go_sem ↓] Go.wp_at_zero Go.wp_at_succ
set_option maxRecDepth 20000
theorem opw_lenS {P : Program} {o : Oper} {a : Act} {w : World} {K : Act -> World -> Prop} {Q : Exit -> Act -> World -> Prop} {t e : TypeId} {x : Operand} {n c : Nat} {A : Option Addr} (ho : o.op = .call { callee := .builtin .len, args := #[x], argTypes := #[t] }) (hx : a.eval x = .slice A n c) (h : P.underlying t = some (.slice e)) (hk : K (a.put o.dst (.int .i64 (n : Nat))) w) : o.wp P a w K Q := by
 have hr : (Builtin.len_ #[t] o.type #[.slice A n c]).run P w = .ok (.int .i64 (n : Nat)) w := by
  simp [Builtin.len_, run_underlying h]; rfl
 unfold Oper.wp execOp
 simp only [ho, resolve, invoke, builtin, Sem.run_bind, Sem.run_pure, Result.andThen_ok, List.map_toArray, List.map_cons, List.map_nil, hx, hr]
 exact hk
end
section
open Go.RowKit
attribute [local go_sem ↓] Go.wp_at_zero Go.wp_at_succ
set_option maxRecDepth 20000
set_option exponentiation.threshold 5000
theorem perm_at : ∀ (F : List Ac) (i : Nat) (f g : Ac), F[i]? = some f -> (g :: F.eraseIdx i).Perm (F.set i g)
 | [], i, f, g, h => by simp at h
 | x :: F, 0, f, g, h => List.Perm.refl _
 | x :: F, i + 1, f, g, h => (List.Perm.swap x g _).trans ((perm_at F i f g (by simpa using h)).cons x)
theorem set_sameF : ∀ (F : List Ac) (i : Nat) (f : Ac), F[i]? = some f -> F.set i f = F
 | [], i, f, h => rfl
 | x :: F, 0, f, h => by simp at h; subst h; rfl
 | x :: F, i + 1, f, h => by rw [List.set_cons_succ, set_sameF F i f (by simpa using h)]
theorem St.front {w0 w : World} {F : List Ac} {K : (Nat -> Prop) -> World -> Prop} {i : Nat} {f : Ac} (h : St w0 w F K) (hi : F[i]? = some f) : St w0 w (f :: F.eraseIdx i) K := h.perm (by
 have h1 := perm_at F i f f hi
 rwa [set_sameF F i f hi] at h1)
section
variable {P : Program} {ops : Array Oper} {rest : List Oper} {o : Oper} {a : Act} {Q : Exit -> Act -> World -> Prop} {w : World}
theorem FH (hg : Region.wanted o (yielded ops a.tmps) = true) (t t2 : TypeId) (x y : Operand) (ho : o.op = .binOp .and t x y t2) (X Y : Int) (hx : a.eval x = .int .u8 X) (hy : a.eval y = .int .u8 Y) (h1 : 0 <= X /\ X < 256) (h2 : 0 <= Y /\ Y < 256)
  (hk : ∀ z : Nat, z < 256 -> Hid (z = X.toNat &&& Y.toNat) -> wpList P ops Q rest (a.put o.dst (.int .u8 (z : Nat))) w) : wpList P ops Q (o :: rest) a w := by
 refine BigFrame.wpList_want hg fun _ hK => AE (v := .int .u8 ((X.toNat &&& Y.toNat : Nat) : Int)) ho hx hy rfl ?_ (hK _ _ (hk _ (Nat.lt_of_le_of_lt Nat.and_le_left (by omega)) (Lib.hid rfl)))
 go_simp
 exact u8_and X Y h1.1 h1.2 h2.1 h2.2
theorem st_andnot8 (hg : Region.wanted o (yielded ops a.tmps) = true) (t t2 : TypeId) (x y : Operand) (ho : o.op = .binOp .andNot t x y t2) (X Y : Int) (hx : a.eval x = .int .u8 X) (hy : a.eval y = .int .u8 Y) (h1 : 0 <= X /\ X < 256) (h2 : 0 <= Y /\ Y < 256)
  (hk : ∀ z : Nat, z < 256 -> Hid (z = X.toNat &&& (255 - Y.toNat)) -> wpList P ops Q rest (a.put o.dst (.int .u8 (z : Nat))) w) : wpList P ops Q (o :: rest) a w := by
 refine BigFrame.wpList_want hg fun _ hK => AE (v := .int .u8 ((X.toNat &&& (255 - Y.toNat) : Nat) : Int)) ho hx hy rfl ?_ (hK _ _ (hk _ (Nat.lt_of_le_of_lt Nat.and_le_left (by omega)) (Lib.hid rfl)))
 go_simp
 exact u8_andNot X Y h1.1 h1.2 h2.1 h2.2
end
theorem and_not8 {a b : Nat} (ha : a < 256) : a &&& (b &&& (255 - a)) = 0 := by
 apply Nat.eq_of_testBit_eq
 intro i
 rw [Nat.testBit_and, Nat.testBit_and, Nat.zero_testBit, show 255 - a = 2 ^ 8 - (a + 1) by omega, Nat.testBit_two_pow_sub_succ (by omega)]
 cases a.testBit i <;> cases b.testBit i <;> simp
theorem IW {a m : Nat} : a &&& m &&& m = a &&& m := by rw [Nat.and_assoc, Nat.and_self]
theorem Gy (y n m : Nat) (hm : m < 256) (w0 : World) :
  Calls Tryz.prog 53 #[.int .i64 (y : Nat), .int .i64 (n : Nat), .int .u8 (m : Nat)] w0 (AF (fun x _ => ∃ a b : Nat, x = .agg #[.int .u64 (a : Nat), .int .u64 (b : Nat)] /\ a &&& m = a /\ b &&& m = b /\ a &&& b = 0 /\ a < 256 /\ b < 256) w0) := by
 have hS : St w0 w0 [] fun _ _ => True := St.start0
 go_enter Tryz.func53, Tryz.ntmps53
 go_wp2_with (first
  | ((with_reducible refine qA 6 ?_); refine qa hS #[.int .u64 0, .int .u64 0] ?_; clear hS; intro g6 w_ hS)
  | ((with_reducible refine qA 17 ?_); refine FH rfl _ _ _ _ rfl _ _ rfl rfl (by omega) (by omega) ?_; intro z17 h17 _)
  | ((with_reducible refine qA 19 ?_); refine FH rfl _ _ _ _ rfl _ _ rfl rfl (by omega) (by omega) ?_; intro z19 h19 e19)
  | ((with_reducible refine qA 28 ?_); refine FH rfl _ _ _ _ rfl _ _ rfl rfl (by omega) (by omega) ?_; intro z28 h28 _)
  | ((with_reducible refine qA 30 ?_); refine FH rfl _ _ _ _ rfl _ _ rfl rfl (by omega) (by omega) ?_; intro z30 h30 e30)
  | ((with_reducible refine qA 32 ?_); refine st_andnot8 rfl _ _ _ _ rfl _ _ rfl rfl (by omega) (by omega) ?_; intro z32 h32 e32)
  | ((with_reducible refine qM ?_); (first | refine qS hS ?_ | refine qT hS ?_); clear hS; intro w_ hS; (try simp only [Act.put, Act.eval, zz, Value.cells] at hS)))
 refine Ba Tryz.results53 rfl (hS.box 0 rfl) Tryz.underlying50 rfl (by kernel_rfl) rfl ?_
 have e1 := e19.out
 have e2 := e30.out
 have e3 := e32.out
 simp only [Int.toNat_natCast] at e1 e2 e3
 refine AF.mk ⟨z19, z32, rfl, ?_, ?_, ?_, h19, h32⟩ hS.below
 ·rw [e1, IW]
 ·rw [e3, e2, Nat.and_assoc, Nat.and_comm (255 - z19), <- Nat.and_assoc, IW]
 ·rw [e3]; exact and_not8 h19
theorem Sl.byteAt {w : World} {D : Nat -> Prop} {A : Option Addr} {c : Nat} {l : List Nat} (h : Sl w D 1 (.slice A l.length c) l.length (u8s l)) {k : Nat} (hk : k < l.length) : ∃ b o, A = some ⟨b, o, none⟩ /\ w.cell? ⟨b, o + k, none⟩ = some (.int .u8 (l.getD k 0 : Nat)) := by
 obtain ⟨b, o, h1, _, _, h2⟩ := h.byte hk
 exact ⟨b, o, h1, h2 k hk⟩
theorem next_any {w0 w : World} {F : List Ac} {K : (Nat -> Prop) -> World -> Prop} {q c at_ : Nat} {A : Option Addr} {l : List Nat} (hl : ∀ x ∈ l, x < 256) (ha : at_ < 1000000) (hS : St w0 w (.box q 113 #[.slice A l.length c, .int .i64 (at_ : Nat)] :: F) K) (kp : ∀ D w, K D w -> Sl w D 1 (.slice A l.length c) l.length (u8s l)) :
  Calls Tryz.prog 51 #[.pointer (some ⟨q, 0, none⟩)] w fun e w' => ∃ b : Nat, b < 256 /\ e = .returned (.int .i64 (b : Nat)) /\ St w0 w' (.box q 113 #[.slice A l.length c, .int .i64 ((at_ + 1 : Nat) : Int)] :: F) K := by
 go_enter Tryz.func51, Tryz.ntmps51
 go_wp2_with (first
  | ((with_reducible refine qK ?_); refine qC hS ?_)
  | ((with_reducible refine qM ?_); (first | refine qS hS ?_ | refine qT hS ?_); clear hS; intro w_ hS; (try simp only [Act.put, Act.eval, zz, Value.cells] at hS)))
 obtain ⟨bo, hbo⟩ : ∃ bo : Bool, decide (((at_ + 1 : Nat) : Int) > (l.length : Nat)) = bo := ⟨_, rfl⟩
 have HBO := Lib.hid hbo
 clear hbo
 refine C5 [.q q 0, .q q 0, .q q 1, .n ((at_ + 1 : Nat) : Int), .q q 0, .q q 0, .q q 0, .i (.slice A l.length c), .n (l.length : Nat), .i (.bool bo)] ⟨uM, uN, uF, uC (h := fun w hW hN => (hS.ext hW).shut 0 rfl 1 rfl), uM, uN, uF, uC (h := fun w hW hN => (hS.ext hW).shut 0 rfl 0 rfl), ?_, uB (h := fun w hW hN => run_gtB HBO.out), trivial⟩ ?_
 ·refine uT fun b__ w hW hE K hK => ?_
  have e17 := hE 17
  exact opw_lenS rfl e17 Tryz.underlying22 (hK _ _ rfl (Below.refl _ _))
 ·intro vs wz hW hT
  obtain ⟨e10, e11, e12, e13, e14, e15, e16, e17, e18, e19, -⟩ := hT
  simp only [Ak, Act.put, zz, ze]
  replace hS := hS.ext hW
  clear hW e10 e11 e12 e13 e14 e15 e16 e17 e18
  rw [e19]
  clear e19
  generalize vs 10 = s10, vs 11 = s11, vs 12 = s12, vs 13 = s13, vs 14 = s14, vs 15 = s15, vs 16 = s16, vs 17 = s17, vs 18 = s18
  cases bo with
  | true =>
   go_wp2_with fail
   go_ret
   exact ⟨0, by decide, rfl, hS⟩
  | false =>
   have hlt : at_ < l.length := by have := HBO.out; simp at this; omega
   obtain ⟨b, o, rfl, hb⟩ := (kp _ _ hS.ro).byteAt hlt
   have hB : l.getD at_ 0 < 256 := by rw [List.getD_eq_getElem?_getD, List.getElem?_eq_getElem hlt]; exact hl _ (List.getElem_mem hlt)
   have hk2 : ∀ D w, K D w -> w.cell? ⟨b, o + at_, none⟩ = some (.int .u8 (l.getD at_ 0 : Nat)) := fun D w h => by
    obtain ⟨b', o', e, h2⟩ := (kp D w h).byteAt hlt
    injection e with e
    injection e with e1 e2
    subst e1; subst e2
    exact h2
   clear hb
   generalize l.getD at_ 0 = x at *
   go_wp2_with fail
   refine C5 [.q q 0, .q q 0, .q q 0, .i (.slice (some ⟨b, o, none⟩) l.length c), .q q 0, .q q 0, .q q 1, .n ((at_ + 1 : Nat) : Int), .n (at_ : Nat), .q b (o + (at_) * 1), .i (.int .u8 (x : Nat)), .n (x : Nat), .n (x : Nat)] ⟨uM, uN, uF, uC (h := fun w hW hN => (hS.ext hW).shut 0 rfl 0 rfl), uM, uN, uF, uC (h := fun w hW hN => (hS.ext hW).shut 0 rfl 1 rfl), uB (h := fun w hW hN => by rw [Cu (by omega) (by omega)]; congr 2; omega), uI (h := fun w hW hN => Af (m := at_) Tryz.underlying22 (by kernel_rfl) (by omega) (by omega)), uC (h := fun w hW hN => by rw [Nat.mul_one]; exact hk2 _ _ (hS.ext hW).ro), uE (h := fun w hW hN => by go_simp; exact IntWalk.i64_in _ (by omega)), uA, trivial⟩ ?_
   ·intro vs wz hW hT
    obtain ⟨e20, e21, e22, e23, e24, e25, e26, e27, e28, e29, e30, e31, e2, -⟩ := hT
    simp only [Ak, Act.put, zz, ze]
    replace hS := hS.ext hW
    rw [e2]
    clear hW
    go_wp2_with fail
    go_ret
    exact ⟨x, hB, rfl, hS⟩
end
section
open Go.RowKit
attribute [local go_sem ↓] Go.wp_at_zero Go.wp_at_succ
set_option maxRecDepth 20000
set_option exponentiation.threshold 5000
theorem st_and64 {P : Program} {ops : Array Oper} {rest : List Oper} {o : Oper} {a : Act} {Q : Exit -> Act -> World -> Prop} {w : World} (hg : Region.wanted o (yielded ops a.tmps) = true) (t t2 : TypeId) (x y : Operand) (ho : o.op = .binOp .and t x y t2) (X Y : Nat) (hx : a.eval x = .int .u64 (X : Nat)) (hy : a.eval y = .int .u64 (Y : Nat)) (h1 : X < AM) (h2 : Y < AM)
  (hk : wpList P ops Q rest (a.put o.dst (.int .u64 ((X &&& Y : Nat) : Int))) w) : wpList P ops Q (o :: rest) a w :=
 BigFrame.wpList_want hg fun _ hK => AE ho hx hy rfl (run_and64 h1 h2) (hK _ _ hk)
theorem Ip {y n s : Nat} (hy : y < AM) (hn : n < AM) (hs : s < AM) (w0 : World) : Calls Tryz.prog 54 #[.agg #[.int .u64 (y : Nat), .int .u64 (n : Nat)], .int .u64 (s : Nat)] w0 (AF (fun x _ => x = .bool (Bg (y, n) s)) w0) := by
 have hS : St w0 w0 [] fun _ _ => True := St.start0
 have e : Bg (y, n) s = (decide ((s &&& y : Nat) = y) && decide ((s &&& n : Nat) = 0)) := by
  unfold Bg
  rw [Nat.and_comm s y, Nat.and_comm s n]
  generalize y &&& s = a
  generalize n &&& s = b
  by_cases h1 : a = y <;> by_cases h2 : b = 0 <;> simp [h1, h2]
 rw [e]
 clear e
 go_enter Tryz.func54, Tryz.ntmps54
 go_wp2_with (first
  | ((with_reducible refine qA 2 ?_); refine Aw hS rfl _ _ rfl (.agg #[.int .u64 (y : Nat), .int .u64 (n : Nat)]) _ rfl rfl ?_; clear hS; intro g2 w_ hS; (try simp only [Act.put, Act.eval, zz, Value.cells] at hS))
  | ((with_reducible refine qK ?_); refine qC hS ?_)
  | ((with_reducible refine qb .and ?_); refine st_and64 rfl _ _ _ _ rfl _ _ rfl rfl (by assumption) (by assumption) ?_)
  | ((with_reducible refine qB ?_); refine qc ?_ ?_ <;> intro h_ <;> go_prune))
 all_goals (go_ret; refine AF.mk ?_ hS.below; congr 1; simp_all; try omega)
theorem rsome_any {w0 : World} {D : Nat -> Prop} {v : Value} {l : List (Nat × Nat)} {s : Nat} (h : Bq w0 D v l) (hsm : Small l) (hs : s < AM) : Calls Tryz.prog 88 #[v, .int .u64 (s : Nat)] w0 (AF (fun x _ => x = .bool (l.any fun z => Bg z s)) w0) := by
 obtain ⟨A, c, rfl, _, _⟩ := h.shape
 obtain ⟨K, k1, hS⟩ : ∃ K : (Nat -> Prop) -> World -> Prop, (∀ D w, K D w -> Sl w D 2 (.slice A l.length c) l.length (AB l)) /\ St w0 w0 [] K := ⟨_, fun _ _ h => h, St.start (Av (by decide)) h⟩
 have HSm := Lib.hid hsm
 clear h hsm
 go_enter Tryz.func88, Tryz.ntmps88
 go_wp2_with fail
 go_loopw [9] (fun i wr => ∃ j : Nat, i = .int .i64 (j : Nat) /\ j <= l.length /\ Hid ((l.take j).any (fun z => Bg z s) = false) /\ St w0 wr [] K) (fun i _ => l.length - (intOf i).toNat)
 case atStart => exact ⟨0, rfl, by omega, Lib.hid (by simp), hS⟩
 case round =>
  clear hS
  obtain ⟨j, rfl, hj, HN, hS⟩ := hrel
  by_cases hlj : j < l.length
  ·obtain ⟨f0, f1⟩ := E8 l j hlj
   have hM : l.getD j (0, 0) ∈ l := by rw [List.getD_eq_getElem?_getD, List.getElem?_eq_getElem hlj]; exact List.getElem_mem hlj
   have hz := HSm.out _ hM
   have HT : Hid ((l.take (j + 1)).any (fun z => Bg z s) = Bg (l.getD j (0, 0)) s) := Lib.hid (by rw [Gv l j (0, 0) hlj, List.any_append, HN.out]; simp)
   have HB : Hid (Bg (l.getD j (0, 0)) s = true -> l.any (fun z => Bg z s) = true) := Lib.hid fun h => List.any_eq_true.2 ⟨_, hM, h⟩
   clear hM
   generalize l.getD j (0, 0) = z at *
   obtain ⟨y, n⟩ := z
   dsimp only at f0 f1 hz
   have HH := Lib.hid (fun w => Ip hz.1 hz.2 hs w)
   cases hb : Bg (y, n) s with
   | true =>
    have e := HB.out hb
    rw [hb] at HH
    clear hb HB HT HN
    go_wp2_with (first | ((with_reducible refine qB ?_); refine qc ?_ ?_ <;> intro h_ <;> go_prune) | ((with_reducible refine qI ?_); refine qj hS Tryz.underlying28 ?_; intro b_ j_ hc0_ hc1_) | ((with_reducible refine qA 6 ?_); refine AO hS rfl _ rfl (by kernel_rfl) ?_; clear hS; intro g6 w_ hS; (try simp only [Act.put, Act.eval, zz, Value.cells] at hS)) | ((with_reducible refine qM ?_); (first | refine qS hS ?_ | refine qT hS ?_); clear hS; intro w_ hS; (try simp only [Act.put, Act.eval, zz, Value.cells] at hS)) | ((with_reducible refine qK ?_); refine qL hS Tryz.underlying50 ?_) | (go_at_call 54; refine (HH.out _).mono ?_; rintro r_ w_ ⟨_, rfl, rfl, hb_⟩; replace hS := hS.ext hb_; clear hb_))
    go_ret
    exact AF.mk (show Value.bool true = .bool (l.any fun z => Bg z s) by rw [e]) hS.below
   | false =>
    rw [hb] at HH HT
    clear hb HB HN
    go_wp2_with (first | ((with_reducible refine qB ?_); refine qc ?_ ?_ <;> intro h_ <;> go_prune) | ((with_reducible refine qI ?_); refine qj hS Tryz.underlying28 ?_; intro b_ j_ hc0_ hc1_) | ((with_reducible refine qA 6 ?_); refine AO hS rfl _ rfl (by kernel_rfl) ?_; clear hS; intro g6 w_ hS; (try simp only [Act.put, Act.eval, zz, Value.cells] at hS)) | ((with_reducible refine qM ?_); (first | refine qS hS ?_ | refine qT hS ?_); clear hS; intro w_ hS; (try simp only [Act.put, Act.eval, zz, Value.cells] at hS)) | ((with_reducible refine qK ?_); refine qL hS Tryz.underlying50 ?_) | (go_at_call 54; refine (HH.out _).mono ?_; rintro r_ w_ ⟨_, rfl, rfl, hb_⟩; replace hS := hS.ext hb_; clear hb_))
    exact ⟨⟨j + 1, by go_num, hlj, HT, hS.sub (List.nil_sublist _)⟩, by simp [intOf]; omega⟩
  ·obtain rfl : l.length = j := by omega
   have e := HN.out
   rw [List.take_length] at e
   go_wp2_with (first | ((with_reducible refine qB ?_); refine qc ?_ ?_ <;> intro h_ <;> go_prune))
   go_ret
   refine AF.mk ?_ hS.below
   rfl
theorem RLinkP.some2 {w0 w' : World} {pv : Value} {L : List (Nat × Nat)} {x y : Nat} {e : Ending} (h : RLinkP w0 pv L (x : Nat) (y : Nat) e w') (ht : twoR (x : Nat) (y : Nat)) :
  ((x, y) ∈ L /\ e = .returned (.tuple #[pv, .int .i64 5]) /\ Below w0.heap.size w0 w') \/ ((x, y) ∉ L /\ TC L y x /\ e = .returned (.tuple #[pv, .int .i64 16]) /\ Below w0.heap.size w0 w') \/
   ((x, y) ∉ L /\ ¬ TC L y x /\ ∃ v, e = .returned (.tuple #[v, .int .i64 0]) /\ St w0 w' [.own v 107 2 (L.length + 1) (Ad (ins L (x, y)))] fun _ _ => True) := by
 rcases h with ⟨h, _⟩ | ⟨a, b, h1, h2, _, _, _, h⟩
 ·exact absurd ht h
 ·obtain rfl : x = a := by omega
  obtain rfl : y = b := by omega
  exact h
def InRol (R : Nat) (L : List (Nat × Nat)) : Prop := ∀ z ∈ L, 1 <= z.1 /\ z.1 < z.2 /\ z.2 <= R
theorem rlink_st {w0 w : World} {F : List Ac} {K : (Nat -> Prop) -> World -> Prop} {pv : Value} {L : List (Nat × Nat)} {x y R : Nat} (hH : Gm L) (hR : InRol R L) (h1 : 1 <= x) (h2 : x < y) (h3 : y <= R) (h4 : R < 64) (hl : L.length <= 1000) (hS : St w0 w F K) (kp : ∀ D w, K D w -> Sl w D 2 pv L.length (Ad L)) :
  Calls Tryz.prog 52 #[pv, .int .i64 (x : Nat), .int .i64 (y : Nat)] w fun e w' => ∃ (v : Value) (z : Int) (L' : List (Nat × Nat)), e = .returned (.tuple #[v, .int .i64 z]) /\ Gm L' /\ InRol R L' /\ L'.length <= L.length + 1 /\ St w0 w' F fun D w => K D w /\ Sl w D 2 v L'.length (Ad L') := by
 have KS := hS.stable
 refine (rlink_any (kp _ _ hS.ro) hH.inr (by omega) x y).mono ?_
 intro e w' h
 have hsame : ∀ z : Int, e = .returned (.tuple #[pv, .int .i64 z]) -> Below w.heap.size w w' -> ∃ (v : Value) (z : Int) (L' : List (Nat × Nat)), e = .returned (.tuple #[v, .int .i64 z]) /\ Gm L' /\ InRol R L' /\ L'.length <= L.length + 1 /\ St w0 w' F fun D w => K D w /\ Sl w D 2 v L'.length (Ad L') :=
  fun z h hb => ⟨pv, z, L, h, hH, hR, by omega, (hS.ext hb).mono (KS.and (Av (by decide))) fun D w h => ⟨h, kp D w h⟩⟩
 rcases h.some2 ⟨⟨by omega, by omega⟩, ⟨by omega, by omega⟩, by omega⟩ with ⟨-, a, b⟩ | ⟨-, -, a, b⟩ | ⟨k1, k2, v, a, b⟩
 ·exact hsame _ a b
 ·exact hsame _ a b
 ·refine ⟨v, 0, _, a, hH.ins ⟨h1, by omega⟩ ⟨by omega, by omega⟩ (by omega) k1 k2, fun z hz => ?_, by rw [ins_len]; omega, ?_⟩
  ·rcases (Hx.1 hz) with h | h
   ·subst h; exact ⟨h1, h2, h3⟩
   ·exact hR z h
  ·have hn := (hS.new b.below (.own v 107 2 (L.length + 1) (Ad (ins L (x, y)))) (b.own 0 rfl)).freeze 0 (by decide) rfl
   rw [ins_len]
   exact hn
def At (l : List Bk) : List Value := l.flatMap fun z => [.bool z.revoke, .int .u64 (z.yes : Nat), .int .u64 (z.no : Nat), .int .i64 z.target, .int .i64 z.origin]
theorem Im (a b : List Bk) : At (a ++ b) = At a ++ At b := by simp [At]
theorem Il (l : List Bk) (k : Nat) (z : Bk) (h : l[k]? = some z) : (At l)[k * 5]? = some (.bool z.revoke) /\ (At l)[k * 5 + 1]? = some (.int .u64 (z.yes : Nat)) /\ (At l)[k * 5 + 2]? = some (.int .u64 (z.no : Nat)) /\ (At l)[k * 5 + 3]? = some (.int .i64 z.target) /\ (At l)[k * 5 + 4]? = some (.int .i64 z.origin) := by
 induction l generalizing k with
 | nil => simp at h
 | cons y r ih =>
  cases k with
  | zero => simp at h; subst h; simp [At]
  | succ k =>
   have := ih k (by simpa using h)
   rw [show (k + 1) * 5 = k * 5 + 5 by omega]
   simpa [At] using this
def B0 (w : World) (D : Nat -> Prop) (v : Value) (p : AK) : Prop :=
 ∃ lv rv nv gv L, v = .agg #[.int .i64 p.roles, lv, .int .u64 (p.start : Nat), rv, nv, gv] /\ p.links = some L /\ Sl w D 2 lv L.length (Ad L) /\ Sl w D 5 rv p.rules.length (At p.rules) /\ Bq w D nv p.never /\ Bq w D gv p.goal
theorem DQ {v : Value} {l : List (Nat × Nat)} : AC fun D w => Bq w D v l := Av (by decide)
theorem B6 {v : Value} {p : AK} : AC fun D w => B0 w D v p := fun D D' w w' h a b c => by
 obtain ⟨lv, rv, nv, gv, L, h1, h2, h3, h4, h5, h6⟩ := h
 exact ⟨lv, rv, nv, gv, L, h1, h2, Av (by decide) D D' w w' h3 a b c, Av (by decide) D D' w w' h4 a b c, DQ D D' w w' h5 a b c, DQ D D' w w' h6 a b c⟩
end
section
open Go.RowKit
attribute [local go_sem ↓] Go.wp_at_zero Go.wp_at_succ
set_option maxRecDepth 20000
set_option exponentiation.threshold 5000
section
variable {P : Program} {ops : Array Oper} {rest : List Oper} {o : Oper} {a : Act} {Q : Exit -> Act -> World -> Prop} {w : World}
theorem C8 (hg : Region.wanted o (yielded ops a.tmps) = true) (op : BinOp) (t t2 : TypeId) (x y : Operand) (ho : o.op = .binOp op t x y t2) {vx vy : Value} (hx : a.eval x = vx) (hy : a.eval y = vy) {k : IntKind} (p : Nat -> Prop) {z : Nat} (he : (eqGuard op t x y vx vy).run P w = .ok () w) (hr : (binOp op t vx vy).run P w = .ok (.int k (z : Nat)) w) (hp : p z)
  (hk : ∀ z : Nat, p z -> wpList P ops Q rest (a.put o.dst (.int k (z : Nat))) w) : wpList P ops Q (o :: rest) a w :=
 BigFrame.wpList_want hg fun _ hK => AE ho hx hy he hr (hK _ _ (hk z hp))
theorem D0 (hg : Region.wanted o (yielded ops a.tmps) = true) (t t2 : TypeId) (x y : Operand) (ho : o.op = .binOp .rem t x y t2) {n m : Nat} (hx : a.eval x = .int .i64 (n : Nat)) (hy : a.eval y = .int .i64 (m : Nat)) (hm : 0 < m)
  (hk : ∀ z : Nat, z < m -> wpList P ops Q rest (a.put o.dst (.int .i64 (z : Nat))) w) : wpList P ops Q (o :: rest) a w :=
 C8 hg _ t t2 x y ho hx hy (fun z => z < m) (z := n % m) rfl (by rw [GA (by omega) (by omega)]; rfl) (Nat.mod_lt _ hm) hk
theorem FI (hg : Region.wanted o (yielded ops a.tmps) = true) (t t2 : TypeId) (x y : Operand) (ho : o.op = .binOp .add t x y t2) {n m : Nat} (p : Nat -> Prop) (hx : a.eval x = .int .i64 (n : Nat)) (hy : a.eval y = .int .i64 (m : Nat)) (hb : n + m < 9223372036854775808) (hp : p (n + m))
  (hk : ∀ z : Nat, p z -> wpList P ops Q rest (a.put o.dst (.int .i64 (z : Nat))) w) : wpList P ops Q (o :: rest) a w :=
 C8 hg _ t t2 x y ho hx hy p (z := n + m) rfl (by rw [run_add64 (by omega) (by omega)]; rfl) hp hk
end
theorem st_someB {P : Program} {ops : Array Oper} {rest : List Oper} {o : Oper} {a : Act} {Q : Exit -> Act -> World -> Prop} {w : World} (hg : Region.wanted o (yielded ops a.tmps) = true) (op : BinOp) (t t2 : TypeId) (x y : Operand) (ho : o.op = .binOp op t x y t2) {vx vy : Value} (hx : a.eval x = vx) (hy : a.eval y = vy) {b : Bool} (he : (eqGuard op t x y vx vy).run P w = .ok () w) (hr : (binOp op t vx vy).run P w = .ok (.bool b) w)
  (hk : ∀ b : Bool, wpList P ops Q rest (a.put o.dst (.bool b)) w) : wpList P ops Q (o :: rest) a w :=
 BigFrame.wpList_want hg fun _ hK => AE ho hx hy he hr (hK _ _ (hk b))
theorem Ij {P : Program} {w : World} {g i : Nat} {t ty : TypeId} {cs : Array Value} {u v : Value} (hb : BS w g t cs) (hi : i + 1 < cs.size) (h1 : u.oneCell' = true) (h2 : v.oneCell' = true) (hs : (P.info? ty).map (·.size) = some 2) :
  (Instr.storeAt ty (.pointer (some ⟨g, i, none⟩)) (.agg #[u, v])).run P w = .ok () ((w.setCell ⟨g, i, none⟩ u).setCell ⟨g, i + 1, none⟩ v) := by
 have := run_storeCells_cells (P := P) g i [u, v] 0 w (fun j hj => by have hc := hb.cell (i + j); simp at hj; simp [hc]; omega) (fun j hj => hb.free _) (by simpa using ⟨h1, h2⟩)
 cases hq : P.info? ty with
 | none => simp [hq] at hs
 | some inf =>
  have hs' : inf.size = 2 := by simpa [hq] using hs
  simp only [Nat.add_zero] at this
  simp [Instr.storeAt, Instr.sureAddr, storeVar, sizeOf, typeInfo, hq, Value.cells, hs', this, World.setCells]
theorem st_bstore2 {P : Program} {ops : Array Oper} {rest : List Oper} {o : Oper} {a : Act} {Q : Exit -> Act -> World -> Prop} {w0 w : World} {F : List Ac} {K : (Nat -> Prop) -> World -> Prop} (h : St w0 w F K) (i : Nat) (hg : Region.wanted o (yielded ops a.tmps) = true) (ty : TypeId) (x y : Operand) (ho : o.op = .store ty x y) (g j : Nat) (u v : Value) (hx : a.eval x = .pointer (some ⟨g, j, none⟩)) (hy : a.eval y = .agg #[u, v]) {t : TypeId} {cs : Array Value} (hb : F[i]? = some (.box g t cs)) (hi : j + 1 < cs.size)
  (h1 : u.oneCell' = true) (h2 : v.oneCell' = true) (hs : (P.info? ty).map (·.size) = some 2) (hk : ∀ w', St w0 w' (F.set i (.box g t ((cs.setIfInBounds j u).setIfInBounds (j + 1) v))) K -> wpList P ops Q rest (a.put o.dst undef) w') : wpList P ops Q (o :: rest) a w := by
 refine BigFrame.wpList_want hg fun _ hK => ?_
 have hX := h.box i hb
 unfold Oper.wp execOp
 simp only [ho, hx, hy, Sem.run_bind, Ij hX hi h1 h2 hs, Result.andThen_ok]
 refine hK _ _ (hk _ (h.upd i hb _ (Bh (Hr.trans (BA w g j u) (BA _ g (j + 1) v))) ⟨(h.holds _ (List.mem_of_getElem? hb)).1, (hX.setC u).setC v⟩ fun _ e => .inl e))
theorem ty_rrules : Bd Tryz.prog 27 109 5 40 := ⟨Tryz.underlying27, by kernel_rfl⟩
def ROk (R m : Nat) (z : Bk) : Prop := (1 <= z.target /\ z.target <= R) /\ (0 <= z.origin /\ z.origin < 7) /\ z.yes &&& m = z.yes /\ z.no &&& m = z.no /\ z.yes &&& z.no = 0 /\ z.yes < 256 /\ z.no < 256 /\ (z.revoke = true -> z.yes = 0 /\ z.no = 0)
def KOk (m : Nat) (z : Nat × Nat) : Prop := z.1 &&& m = z.1 /\ z.2 &&& m = z.2 /\ z.1 &&& z.2 = 0 /\ z.1 < 256 /\ z.2 < 256
def Da (R : Nat) : Nat := 2 ^ (R + 1) - 2
theorem run_maskshl {w : World} {R : Nat} (h : R <= 5) : (binOp .shl 5 (.int .u8 2) (.int .u64 (R : Nat))).run Tryz.prog w = .ok (.int .u8 ((2 ^ (R + 1) : Nat) : Int)) w := by
 match R, h with
 | 0, _ => go_simp; rfl
 | 1, _ => go_simp; rfl
 | 2, _ => go_simp; rfl
 | 3, _ => go_simp; rfl
 | 4, _ => go_simp; rfl
 | 5, _ => go_simp; rfl
theorem run_msub {w : World} {R : Nat} (h0 : 2 <= R) (h : R <= 5) : (binOp .sub 5 (.int .u8 ((2 ^ (R + 1) : Nat) : Int)) (.int .u8 2)).run Tryz.prog w = .ok (.int .u8 (Da R : Nat)) w := by
 match R, h0, h with
 | 2, _, _ => go_simp; rfl
 | 3, _, _ => go_simp; rfl
 | 4, _, _ => go_simp; rfl
 | 5, _, _ => go_simp; rfl
theorem run_shrN {P : Program} {w : World} {t : TypeId} {n k : Nat} (hk : k < 64) : (binOp .shr t (.int .i64 (n : Nat)) (.int .u64 (k : Nat))).run P w = .ok (.int .i64 ((n / 2 ^ k : Nat) : Int)) w := by
 go_simp
theorem Cf {w0 w : World} {F : List Ac} {K : (Nat -> Prop) -> World -> Prop} {q c at_ : Nat} {A : Option Addr} {l : List Nat} (hl : ∀ x ∈ l, x < 256) (ha : at_ < 1000000) (hS : St w0 w F K) (i : Nat) (hi : F[i]? = some (.box q 113 #[.slice A l.length c, .int .i64 (at_ : Nat)])) (kp : ∀ D w, K D w -> Sl w D 1 (.slice A l.length c) l.length (u8s l)) :
  Calls Tryz.prog 51 #[.pointer (some ⟨q, 0, none⟩)] w fun e w' => ∃ b : Nat, b < 256 /\ e = .returned (.int .i64 (b : Nat)) /\ St w0 w' (F.set i (.box q 113 #[.slice A l.length c, .int .i64 ((at_ + 1 : Nat) : Int)])) K := by
 refine (next_any hl ha (hS.front hi) kp).mono ?_
 rintro e w' ⟨b, h1, h2, h3⟩
 exact ⟨b, h1, h2, h3.perm (perm_at F i _ _ hi).symm⟩
theorem run_shl2 {w : World} {t : TypeId} {R : Nat} (h : R < 5) : (binOp .shl t (.int .i64 2) (.int .u64 (R : Nat))).run Tryz.prog w = .ok (.int .i64 ((2 ^ (R + 1) : Nat) : Int)) w := by
 match R, h with
 | 0, _ => go_simp; rfl
 | 1, _ => go_simp; rfl
 | 2, _ => go_simp; rfl
 | 3, _ => go_simp; rfl
 | 4, _ => go_simp; rfl
theorem i64_or_nat (a b : Nat) (ha : a < 256) (hb : b < 256) : bits .or .i64 (a : Int) (b : Int) = ((a ||| b : Nat) : Int) := by
 have hx : a ||| b < 2 ^ 8 := Nat.or_lt_two_pow (by omega) (by omega)
 show IntKind.i64.wrap ((BitVec.ofInt 64 (a : Int) ||| BitVec.ofInt 64 (b : Int)).toNat : Int) = _
 rw [BitVec.toNat_or, show BitVec.ofInt 64 (a : Int) = BitVec.ofNat 64 a from BitVec.ofInt_natCast .., show BitVec.ofInt 64 (b : Int) = BitVec.ofNat 64 b from BitVec.ofInt_natCast .., BitVec.toNat_ofNat, BitVec.toNat_ofNat, Nat.mod_eq_of_lt (by omega), Nat.mod_eq_of_lt (by omega)]
 exact Fv (by omega)
theorem run_orN {w : World} {t : TypeId} {a b : Nat} (ha : a < 256) (hb : b < 256) : (binOp .or t (.int .i64 (a : Nat)) (.int .i64 (b : Nat))).run Tryz.prog w = .ok (.int .i64 ((a ||| b : Nat) : Int)) w := by
 go_simp
 exact i64_or_nat a b ha hb
theorem closM_ltT (L : List (Nat × Nat)) (s : Nat) : closM L s < AM := by rw [Cq]; exact F4 L s 64
structure Gl (p : AK) (L : List (Nat × Nat)) (R : Nat) : Prop where
 links : p.links = some L
 roles : p.roles = (R : Int)
 r2 : 2 <= R
 r5 : R <= 5
 hok : Gm L
 inr : InRol R L
 len : L.length <= 25
 start : p.start &&& Da R = p.start
 rlen : p.rules.length <= 6
 rules : ∀ z ∈ p.rules, ROk R (Da R) z
 nlen : p.never.length <= 3
 never : ∀ z ∈ p.never, KOk (Da R) z /\ Bg z (closM L p.start) = false
 glen : p.goal.length <= 3
 gpos : 1 <= p.goal.length
 goal : ∀ z ∈ p.goal, KOk (Da R) z
theorem Cv (l : List Bk) (b : Bool) (y n : Nat) (t o : Int) : At (l ++ [⟨b, y, n, t, o⟩]) = At l ++ [.bool b, .int .u64 (y : Nat), .int .u64 (n : Nat), .int .i64 t, .int .i64 o] := by rw [Im]; rfl
theorem DF (l : List (Nat × Nat)) (y n : Nat) : AB (l ++ [(y, n)]) = AB l ++ [.int .u64 (y : Nat), .int .u64 (n : Nat)] := by rw [D4]; rfl
theorem I3 : Bd Tryz.prog 28 50 2 16 := ⟨Tryz.underlying28, by kernel_rfl⟩
theorem CD {α : Type} {P : α -> Prop} {l : List α} {x : α} (h : ∀ z ∈ l, P z) (hx : P x) : ∀ z ∈ l ++ [x], P z := fun z hz => by
 rcases List.mem_append.1 hz with h1 | h1
 ·exact h z h1
 ·rw [List.mem_singleton.1 h1]; exact hx
set_option maxHeartbeats 4000000 in
theorem rmake31_any {w0 w : World} {F : List Ac} {K : (Nat -> Prop) -> World -> Prop} {v : Value} {l : List Nat} (hl : ∀ x ∈ l, x < 256) (hS : St w0 w F K) (kp : ∀ D w, K D w -> Sl w D 1 v l.length (u8s l)) :
  Calls Tryz.prog 13 #[v] w fun e w' => ∃ u p L R, e = .returned u /\ Gl p L R /\ St w0 w' F fun D w => K D w /\ B0 w D u p := by
 obtain ⟨A, c, rfl, hc1, hc2⟩ := (kp _ _ hS.ro).shape
 have HL := Lib.hid hl
 have KS := Lib.hid hS.stable
 clear hl
 go_enter Tryz.func13, Tryz.ntmps13
 go_wp2_with (first
  | ((with_reducible refine qA 2 ?_); refine qa hS #[.int .i64 0, .slice none 0 0, .int .u64 0, .slice none 0 0, .slice none 0 0, .slice none 0 0] ?_; clear hS; intro g2 w_ hS)
  | ((with_reducible refine qA 27 ?_); refine Ax rfl _ _ rfl #[.slice A l.length c, .int .i64 0] (by kernel_rfl) ?_; (try simp only [Act.put, List.setIfInBounds_toArray, List.set_cons_zero, List.set_cons_succ]))
  | ((with_reducible refine qA 28 ?_); refine Aw hS rfl _ _ rfl (.agg #[.slice A l.length c, .int .i64 0]) _ rfl rfl ?_; clear hS; intro q w_ hS; (try simp only [Act.put, Act.eval, zz, Value.cells] at hS))
  | (go_at_call 51; first
    | (refine (Cf (at_ := 0) HL.out (by omega) hS 0 rfl kp).mono ?_; clear hS; rintro e w_ ⟨b, hb, rfl, hS⟩; replace hS : St w0 w_ (.box q 113 #[.slice A l.length c, .int .i64 1] :: .box g2 30 #[.int .i64 0, .slice none 0 0, .int .u64 0, .slice none 0 0, .slice none 0 0, .slice none 0 0] :: F) K := hS)
    | (refine (Cf (at_ := 1) HL.out (by omega) hS 1 rfl kp).mono ?_; clear hS; rintro e w_ ⟨lk, hlk, rfl, hS⟩; replace hS : St w0 w_ (.box g4 30 #[.int .i64 (R : Nat), .slice none 0 0, .int .u64 0, .slice none 0 0, .slice none 0 0, .slice none 0 0] :: .box q 113 #[.slice A l.length c, .int .i64 2] :: .box g2 30 #[.int .i64 0, .slice none 0 0, .int .u64 0, .slice none 0 0, .slice none 0 0, .slice none 0 0] :: F) K := hS))
  | ((with_reducible refine qA 31 ?_); refine D0 (m := 4) rfl _ _ _ _ rfl rfl rfl (by decide) ?_; intro r4 hr4)
  | ((with_reducible refine qA 32 ?_); refine FI (n := 2) rfl _ _ _ _ rfl (fun z => 2 <= z /\ z <= 5) rfl rfl (by omega) (by omega) ?_; intro R hR)
  | ((with_reducible refine qA 33 ?_); refine Ax rfl _ _ rfl #[.int .i64 (R : Nat), .slice none 0 0, .int .u64 0, .slice none 0 0, .slice none 0 0, .slice none 0 0] (by kernel_rfl) ?_; (try simp only [Act.put, List.setIfInBounds_toArray, List.set_cons_zero, List.set_cons_succ]))
  | ((with_reducible refine qA 4 ?_); refine qa hS #[.int .i64 0, .slice none 0 0, .int .u64 0, .slice none 0 0, .slice none 0 0, .slice none 0 0] ?_; clear hS; intro g4 w_ hS)
  | ((with_reducible refine qM ?_); (first | refine qS hS ?_ | refine qT hS ?_); clear hS; intro w_ hS; (try simp only [Act.put, Act.eval, zz, Value.cells] at hS))
  | ((with_reducible refine qK ?_); refine qC hS ?_)
  | ((with_reducible refine qA 37 ?_); refine BigFrame.wpList_want rfl fun _ hK => AE (vx := .int .u8 2) (vy := .int .u64 (R : Nat)) rfl rfl rfl rfl (run_maskshl hR.2) (hK _ _ ?_))
  | ((with_reducible refine qA 38 ?_); refine C8 (k := .u8) rfl _ _ _ _ _ rfl rfl rfl (fun z => z < 256 /\ Hid (z = Da R)) (z := Da R) rfl (run_msub hR.1 hR.2) ⟨by unfold Da; have := Nat.pow_le_pow_right (n := 2) (by decide) (show R + 1 <= 6 by omega); omega, Lib.hid rfl⟩ ?_; rintro m ⟨hm, HM⟩))
 have h64 : R < 64 := by omega
 replace hS := hS.mono (KS.out.and (Av (by decide) (size := 2) (v := .slice none 0 0) (n := 0) (xs := Ad []))) fun D w h => ⟨h, Sl.none_⟩
 go_loopw [7, 8, 9] (fun nv av cv wr => ∃ (a n : Nat) (pv : Value) (L : List (Nat × Nat)), av = .int .i64 (a : Nat) /\ nv = .int .i64 (n : Nat) /\ 1 <= a /\ a <= R /\ n <= 5 * (a - 1) /\ L.length <= n /\ Hid (Gm L) /\ Hid (InRol R L) /\ St w0 wr (.box g4 30 #[.int .i64 (R : Nat), pv, .int .u64 0, .slice none 0 0, .slice none 0 0, .slice none 0 0] :: .box q 113 #[.slice A l.length c, .int .i64 2] :: .box g2 30 #[.int .i64 0, .slice none 0 0, .int .u64 0, .slice none 0 0, .slice none 0 0, .slice none 0 0] :: F) fun D w => K D w /\ Sl w D 2 pv L.length (Ad L)) (fun _ av _ _ => R - (intOf av).toNat)
 case atStart => exact ⟨1, 0, _, [], rfl, rfl, by omega, by omega, by omega, by simp, Lib.hid Gm.nil, Lib.hid (fun z hz => by simp at hz), hS⟩
 case round =>
  clear hS
  obtain ⟨a, n, pv, L, rfl, rfl, ha1, haR, hn, hLn, HH, HR, hS⟩ := hrel
  by_cases haR2 : a < R
  ·go_wp2_with (first | ((with_reducible refine qB ?_); refine qc ?_ ?_ <;> intro h_ <;> go_prune) | ((with_reducible refine qK ?_); refine qC hS ?_))
   go_loopw [7, 9] (fun nv cv wr => ∃ (d n : Nat) (pv : Value) (L : List (Nat × Nat)), cv = .int .i64 (d : Nat) /\ nv = .int .i64 (n : Nat) /\ a + 1 <= d /\ d <= R + 1 /\ n + a + 1 <= 5 * (a - 1) + d /\ L.length <= n /\ Hid (Gm L) /\ Hid (InRol R L) /\ St w0 wr (.box g4 30 #[.int .i64 (R : Nat), pv, .int .u64 0, .slice none 0 0, .slice none 0 0, .slice none 0 0] :: .box q 113 #[.slice A l.length c, .int .i64 2] :: .box g2 30 #[.int .i64 0, .slice none 0 0, .int .u64 0, .slice none 0 0, .slice none 0 0, .slice none 0 0] :: F) fun D w => K D w /\ Sl w D 2 pv L.length (Ad L)) (fun _ cv _ => R + 1 - (intOf cv).toNat)
   case atStart => exact ⟨a + 1, n, pv, L, by go_num, rfl, by omega, by omega, by omega, hLn, HH, HR, hS⟩
   case round =>
    clear hS HH HR hLn hn
    obtain ⟨d, n, pv, L, rfl, rfl, hd1, hdR, hn, hLn, HH, HR, hS⟩ := hrel
    by_cases hdR2 : d <= R
    ·go_wp2_with (first
      | ((with_reducible refine qK ?_); refine qC hS ?_)
      | ((with_reducible refine qA 57 ?_); refine D0 (m := 8) rfl _ _ _ _ rfl rfl rfl (by decide) ?_; intro z57 h57)
      | ((with_reducible refine qA 59 ?_); refine C8 (k := .i64) rfl _ _ _ _ _ rfl rfl rfl (fun _ => True) rfl (run_shrN (k := z57) (by omega)) trivial ?_; intro z59 _)
      | ((with_reducible refine qA 60 ?_); refine D0 (m := 2) rfl _ _ _ _ rfl rfl rfl (by decide) ?_; intro z60 h60)
      | ((with_reducible refine qA 64 ?_); refine D0 (m := 3) rfl _ _ _ _ rfl rfl rfl (by decide) ?_; intro z64 h64_)
      | ((with_reducible refine qB ?_); refine qc ?_ ?_ <;> intro h_ <;> go_prune)
      | (go_at_call 52; refine (rlink_st HH.out HR.out ha1 (by omega) hdR2 h64 (by omega) hS (fun D w h => h.2)).mono ?_; clear hS; rintro e w_ ⟨v2, z2, L2, rfl, HH2, HR2, hl2, hS⟩; replace HH2 := Lib.hid HH2; replace HR2 := Lib.hid HR2; obtain ⟨A2, c2, rfl, _, _⟩ := hS.ro.2.shape)
      | ((with_reducible refine qM ?_); (first | refine qS hS ?_ | refine qT hS ?_); clear hS; intro w_ hS; (try simp only [Act.put, Act.eval, zz, Value.cells] at hS)))
     all_goals first
      | exact ⟨⟨d + 1, n + 1, _, L2, by go_num, by go_num, by omega, by omega, by omega, by omega, HH2, HR2, hS.mono (KS.out.and (Av (by decide))) fun D w h => ⟨h.1.1, h.2⟩⟩, by simp [intOf]; omega⟩
      | exact ⟨⟨d + 1, n + 1, pv, L, by go_num, by go_num, by omega, by omega, by omega, by omega, HH, HR, hS⟩, by simp [intOf]; omega⟩
    ·go_wp2_with (first | ((with_reducible refine qB ?_); refine qc ?_ ?_ <;> intro h_ <;> go_prune) | ((with_reducible refine qK ?_); refine qC hS ?_))
     exact ⟨⟨a + 1, n, pv, L, by go_num, rfl, by omega, by omega, by omega, by omega, HH, HR, hS⟩, by simp [intOf]; omega⟩
  ·have hnn : n <= 25 := by omega
   clear ha1 haR hn hc1 hc2
   go_wp2_with (first
    | ((with_reducible refine qB ?_); refine qc ?_ ?_ <;> intro h_ <;> go_prune)
    | ((with_reducible refine qK ?_); refine qC hS ?_)
    | (go_at_call 51; first | (refine (Cf (at_ := 2) HL.out (by omega) hS 1 rfl (fun D w h => kp D w h.1)).mono ?_; clear hS; rintro e w_ ⟨b3, hb3, rfl, hS⟩; replace hS : St w0 w_ (.box g4 30 #[.int .i64 (R : Nat), pv, .int .u64 0, .slice none 0 0, .slice none 0 0, .slice none 0 0] :: .box q 113 #[.slice A l.length c, .int .i64 ((2 + 1 : Nat) : Int)] :: .box g2 30 #[.int .i64 0, .slice none 0 0, .int .u64 0, .slice none 0 0, .slice none 0 0, .slice none 0 0] :: F) (fun D w => K D w /\ Sl w D 2 pv L.length (Ad L)) := hS) | (refine (Cf (at_ := 2 + 1) HL.out (by omega) hS 1 rfl (fun D w h => kp D w h.1)).mono ?_; clear hS; rintro e w_ ⟨b4, hb4, rfl, hS⟩; replace hS : St w0 w_ (.box g4 30 #[.int .i64 (R : Nat), pv, .int .u64 (s0 : Nat), .slice none 0 0, .slice none 0 0, .slice none 0 0] :: .box q 113 #[.slice A l.length c, .int .i64 ((2 + 1 + 1 : Nat) : Int)] :: .box g2 30 #[.int .i64 0, .slice none 0 0, .int .u64 0, .slice none 0 0, .slice none 0 0, .slice none 0 0] :: F) (fun D w => K D w /\ Sl w D 2 pv L.length (Ad L)) := hS))
    | ((with_reducible refine qA 82 ?_); refine FH rfl _ _ _ _ rfl _ _ rfl rfl (by omega) (by omega) ?_; intro s0 hs0 es0)
    | ((with_reducible refine qA 87 ?_); refine D0 (m := 7) rfl _ _ _ _ rfl rfl rfl (by decide) ?_; intro RU hRU)
    | ((with_reducible refine qM ?_); (first | refine qS hS ?_ | refine qT hS ?_); clear hS; intro w_ hS; (try simp only [Act.put, Act.eval, zz, Value.cells] at hS)))
   have HS0 : Hid (s0 &&& m = s0) := Lib.hid (by have h := es0.out; simp only [Int.toNat_natCast] at h; rw [h, IW])
   clear es0 hb3 hb4
   obtain ⟨Ap, cp, rfl, _, _⟩ := hS.ro.2.shape
   obtain ⟨K1, k1, kk1, hS2⟩ : ∃ K1 : (Nat -> Prop) -> World -> Prop, (∀ D w, K1 D w -> K D w) /\ (∀ D w, K1 D w -> Sl w D 2 (.slice Ap L.length cp) L.length (Ad L)) /\ St w0 w_ (.box g4 30 #[.int .i64 (R : Nat), .slice Ap L.length cp, .int .u64 (s0 : Nat), .slice none 0 0, .slice none 0 0, .slice none 0 0] :: .box q 113 #[.slice A l.length c, .int .i64 ((2 + 1 + 1 : Nat) : Int)] :: .box g2 30 #[.int .i64 0, .slice none 0 0, .int .u64 0, .slice none 0 0, .slice none 0 0, .slice none 0 0] :: F) K1 := ⟨_, fun _ _ h => h.1, fun _ _ h => h.2, hS⟩
   clear hS
   have hS := hS2.nil 109 5
   clear hS2
   have KS1 := Lib.hid hS.stable
   go_loopw [11] (fun kv wr => ∃ (k t : Nat) (rv : Value) (rs : List Bk), kv = .int .i64 (k : Nat) /\ k <= RU /\ t <= 4 + 4 * k /\ Hid (rs.length = k) /\ Hid (∀ z ∈ rs, ROk R m z) /\ St w0 wr (.own rv 109 5 k (At rs) :: .box g4 30 #[.int .i64 (R : Nat), .slice Ap L.length cp, .int .u64 (s0 : Nat), rv, .slice none 0 0, .slice none 0 0] :: .box q 113 #[.slice A l.length c, .int .i64 ((t : Nat) : Int)] :: .box g2 30 #[.int .i64 0, .slice none 0 0, .int .u64 0, .slice none 0 0, .slice none 0 0, .slice none 0 0] :: F) K1) (fun kv _ => RU - (intOf kv).toNat)
   case atStart => exact ⟨0, 2 + 1 + 1, _, [], rfl, by omega, by omega, Lib.hid rfl, Lib.hid (fun z hz => by simp at hz), hS⟩
   case round =>
    clear hS
    obtain ⟨k, t, rv, rs, rfl, hk, ht, HRL, HRS, hS⟩ := hrel
    obtain ⟨Ar, cr, rfl, _, _⟩ := B7 (hS.own 0 rfl)
    by_cases hkR : k < RU
    ·have hk7 : k < 7 := by omega
     go_wp2_with (first
      | (go_at_call 51; first | (refine (Cf (at_ := t) HL.out (by omega) hS 2 rfl (fun D w h => kp D w (k1 D w h))).mono ?_; clear hS; rintro e w_ ⟨kd, hkd, rfl, hS⟩; simp only [List.set_cons_succ, List.set_cons_zero] at hS) | (refine (Cf (at_ := t + 1) HL.out (by omega) hS 2 rfl (fun D w h => kp D w (k1 D w h))).mono ?_; clear hS; rintro e w_ ⟨tg, htg, rfl, hS⟩; simp only [List.set_cons_succ, List.set_cons_zero] at hS) | (refine (Cf (at_ := t + 1 + 1) HL.out (by omega) hS 2 rfl (fun D w h => kp D w (k1 D w h))).mono ?_; clear hS; rintro e w_ ⟨cy, hcy, rfl, hS⟩; simp only [List.set_cons_succ, List.set_cons_zero] at hS) | (refine (Cf (at_ := t + 1 + 1 + 1) HL.out (by omega) hS 2 rfl (fun D w h => kp D w (k1 D w h))).mono ?_; clear hS; rintro e w_ ⟨cz, hcz, rfl, hS⟩; simp only [List.set_cons_succ, List.set_cons_zero] at hS))
      | ((with_reducible refine qA 102 ?_); refine D0 (m := 4) rfl _ _ _ _ rfl rfl rfl (by decide) ?_; intro z102 h102)
      | ((with_reducible refine qA 103 ?_); refine st_someB rfl _ _ _ _ _ rfl rfl rfl rfl (EV rfl) ?_; intro rvk)
      | ((with_reducible refine qA 107 ?_); refine D0 (m := R) rfl _ _ _ _ rfl rfl rfl (by omega) ?_; intro z107 h107)
      | ((with_reducible refine qA 108 ?_); refine FI (n := 1) rfl _ _ _ _ rfl (fun z => 1 <= z /\ z <= R) rfl rfl (by omega) (by omega) ?_; intro z108 h108)
      | ((with_reducible refine qA 110 ?_); refine Ax rfl _ _ rfl #[.bool rvk, .int .u64 0, .int .u64 0, .int .i64 (z108 : Nat), .int .i64 (k : Nat)] (by kernel_rfl) ?_; (try simp only [Act.put, List.setIfInBounds_toArray, List.set_cons_zero, List.set_cons_succ]))
      | ((with_reducible refine qA 16 ?_); refine qa hS #[.bool false, .int .u64 0, .int .u64 0, .int .i64 0, .int .i64 0] ?_; clear hS; intro g16 w_ hS)
      | ((with_reducible refine qm 109 ?_); refine qS hS ?_; clear hS; intro w_ hS; (try simp only [Act.put, Act.eval, zz, Value.cells] at hS); cases rvk)
      | (go_at_call 53; refine (Gy cy cz m hm _).mono ?_; rintro r_ w_ ⟨_, rfl, ⟨ya, na, rfl, s1, s2, s3, s4, s5⟩, hb_⟩; replace hS := hS.ext hb_; clear hb_)
      | ((with_reducible refine qm 50 ?_); refine st_bstore2 hS 0 rfl _ _ _ rfl _ _ _ _ rfl rfl rfl (by simp) rfl rfl (by kernel_rfl) ?_; clear hS; intro w_ hS; (try simp only [Act.put, Act.eval, zz, Value.cells] at hS))
      | ((with_reducible refine qK ?_); refine qL hS Tryz.underlying109 ?_)
      | ((with_reducible refine qA 122 ?_); first | (refine DC hS 1 rfl rfl _ _ _ _ rfl rfl ty_rrules (.slice Ar k cr) k (At rs) (.agg #[.bool false, .int .u64 (ya : Nat), .int .u64 (na : Nat), .int .i64 (z108 : Nat), .int .i64 (k : Nat)]) #[.bool false, .int .u64 (ya : Nat), .int .u64 (na : Nat), .int .i64 (z108 : Nat), .int .i64 (k : Nat)] rfl (by kernel_rfl) rfl rfl rfl rfl (by intro u hu; simp at hu; rcases hu with rfl | rfl | rfl | rfl | rfl <;> rfl) (by omega) (by omega) ?_; clear hS; intro z_ v' w_ hS; (try simp only [Act.put, Act.eval, zz, Value.cells] at hS); obtain ⟨A', c', rfl, _, _⟩ := B7 (hS.own 1 rfl)) | (refine DC hS 1 rfl rfl _ _ _ _ rfl rfl ty_rrules (.slice Ar k cr) k (At rs) (.agg #[.bool true, .int .u64 0, .int .u64 0, .int .i64 (z108 : Nat), .int .i64 (k : Nat)]) #[.bool true, .int .u64 0, .int .u64 0, .int .i64 (z108 : Nat), .int .i64 (k : Nat)] rfl (by kernel_rfl) rfl rfl rfl rfl (by intro u hu; simp at hu; rcases hu with rfl | rfl | rfl | rfl <;> rfl) (by omega) (by omega) ?_; clear hS; intro z_ v' w_ hS; (try simp only [Act.put, Act.eval, zz, Value.cells] at hS); obtain ⟨A', c', rfl, _, _⟩ := B7 (hS.own 1 rfl)))
      | ((with_reducible refine qB ?_); refine qc ?_ ?_ <;> intro h_ <;> go_prune)
      | ((with_reducible refine qK ?_); refine qC hS ?_)
      | ((with_reducible refine qM ?_); (first | refine qS hS ?_ | refine qT hS ?_); clear hS; intro w_ hS; (try simp only [Act.put, Act.eval, zz, Value.cells] at hS)))
     ·have e : At (rs ++ [⟨false, ya, na, (z108 : Nat), (k : Nat)⟩]) = At rs ++ [.bool false, .int .u64 (ya : Nat), .int .u64 (na : Nat), .int .i64 (z108 : Nat), .int .i64 (k : Nat)] := Cv ..
      refine ⟨⟨k + 1, _, .slice A' (k + 1) c', rs ++ [⟨false, ya, na, (z108 : Nat), (k : Nat)⟩], by go_num, hkR, ?_, Lib.hid (by rw [List.length_append, HRL.out]; rfl), Lib.hid (CD HRS.out ⟨⟨by simp only; omega, by simp only; omega⟩, ⟨by simp only; omega, by simp only; omega⟩, s1, s2, s3, s4, s5, fun h => by cases h⟩), by rw [e]; exact hS.sub (List.sublist_cons_self _ _)⟩, by simp [intOf]; omega⟩
      omega
     ·have e : At (rs ++ [⟨true, 0, 0, (z108 : Nat), (k : Nat)⟩]) = At rs ++ [.bool true, .int .u64 0, .int .u64 0, .int .i64 (z108 : Nat), .int .i64 (k : Nat)] := Cv ..
      refine ⟨⟨k + 1, _, .slice A' (k + 1) c', rs ++ [⟨true, 0, 0, (z108 : Nat), (k : Nat)⟩], by go_num, hkR, ?_, Lib.hid (by rw [List.length_append, HRL.out]; rfl), Lib.hid (CD HRS.out ⟨⟨by simp only; omega, by simp only; omega⟩, ⟨by simp only; omega, by simp only; omega⟩, Nat.zero_and m, Nat.zero_and m, Nat.zero_and 0, Nat.zero_lt_succ _, Nat.zero_lt_succ _, fun _ => ⟨rfl, rfl⟩⟩), by rw [e]; exact hS.sub (List.sublist_cons_self _ _)⟩, by simp [intOf]; omega⟩
      omega
    ·obtain rfl : RU = k := by omega
     go_wp2_with (first
      | (go_at_call 51; first | (refine (Cf (at_ := t) HL.out (by omega) hS 2 rfl (fun D w h => kp D w (k1 D w h))).mono ?_; clear hS; rintro e w_ ⟨bv, hbv, rfl, hS⟩; simp only [List.set_cons_succ, List.set_cons_zero] at hS) | (refine (Cf (at_ := t + 1) HL.out (by omega) hS 2 rfl (fun D w h => kp D w (k1 D w h))).mono ?_; clear hS; rintro e w_ ⟨bg, hbg, rfl, hS⟩; simp only [List.set_cons_succ, List.set_cons_zero] at hS))
      | ((with_reducible refine qA 127 ?_); refine D0 (m := 4) rfl _ _ _ _ rfl rfl rfl (by decide) ?_; intro NV hNV)
      | ((with_reducible refine qA 130 ?_); refine D0 (m := 3) rfl _ _ _ _ rfl rfl rfl (by decide) ?_; intro g3 hg3)
      | ((with_reducible refine qA 131 ?_); refine FI (n := 1) rfl _ _ _ _ rfl (fun z => 1 <= z /\ z <= 3) rfl rfl (by omega) (by omega) ?_; intro GO hGO)
      | ((with_reducible refine qB ?_); refine qc ?_ ?_ <;> intro h_ <;> go_prune))
     obtain ⟨K2, j1, k2, kr2, hS2⟩ : ∃ K2 : (Nat -> Prop) -> World -> Prop, (∀ D w, K2 D w -> K D w) /\ (∀ D w, K2 D w -> Sl w D 2 (.slice Ap L.length cp) L.length (Ad L)) /\ (∀ D w, K2 D w -> Sl w D 5 (.slice Ar RU cr) RU (At rs)) /\ St w0 w_ (.box g4 30 #[.int .i64 (R : Nat), .slice Ap L.length cp, .int .u64 (s0 : Nat), .slice Ar RU cr, .slice none 0 0, .slice none 0 0] :: .box q 113 #[.slice A l.length c, .int .i64 ((t + 1 + 1 : Nat) : Int)] :: .box g2 30 #[.int .i64 0, .slice none 0 0, .int .u64 0, .slice none 0 0, .slice none 0 0, .slice none 0 0] :: F) K2 := ⟨_, fun _ _ h => k1 _ _ h.1, fun _ _ h => kk1 _ _ h.1, fun _ _ h => h.2, hS.freeze 0 (by decide) rfl⟩
     clear hS
     have hS := hS2.nil 50 2
     clear hS2
     have KS2 := Lib.hid hS.stable
     go_loopw [19] (fun jv wr => ∃ (j u : Nat) (nv : Value) (ns : List (Nat × Nat)), jv = .int .i64 (j : Nat) /\ j <= NV /\ u <= 40 + 2 * j /\ ns.length <= j /\ Hid (∀ z ∈ ns, KOk m z /\ Bg z (closM L s0) = false) /\ St w0 wr (.own nv 50 2 ns.length (AB ns) :: .box g4 30 #[.int .i64 (R : Nat), .slice Ap L.length cp, .int .u64 (s0 : Nat), .slice Ar RU cr, nv, .slice none 0 0] :: .box q 113 #[.slice A l.length c, .int .i64 ((u : Nat) : Int)] :: .box g2 30 #[.int .i64 0, .slice none 0 0, .int .u64 0, .slice none 0 0, .slice none 0 0, .slice none 0 0] :: F) K2) (fun jv _ => NV - (intOf jv).toNat)
     case atStart => exact ⟨0, t + 1 + 1, _, [], rfl, by omega, by omega, by simp, Lib.hid (fun z hz => by simp at hz), hS⟩
     case round =>
      clear hS
      obtain ⟨j, u, nv, ns, rfl, hj, hu, hnl, HNS, hS⟩ := hrel
      obtain ⟨An, cn, rfl, _, _⟩ := B7 (hS.own 0 rfl)
      by_cases hjN : j < NV
      ·go_wp2_with (first
        | (go_at_call 51; first | (refine (Cf (at_ := u) HL.out (by omega) hS 2 rfl (fun D w h => kp D w (j1 D w h))).mono ?_; clear hS; rintro e w_ ⟨yb, hyb, rfl, hS⟩; simp only [List.set_cons_succ, List.set_cons_zero] at hS) | (refine (Cf (at_ := u + 1) HL.out (by omega) hS 2 rfl (fun D w h => kp D w (j1 D w h))).mono ?_; clear hS; rintro e w_ ⟨nb, hnb, rfl, hS⟩; simp only [List.set_cons_succ, List.set_cons_zero] at hS))
        | ((with_reducible refine qA 145 ?_); refine D0 (m := R) rfl _ _ _ _ rfl rfl rfl (by omega) ?_; intro z145 h145)
        | ((with_reducible refine qA 147 ?_); refine C8 (k := .i64) rfl _ _ _ _ _ rfl rfl rfl (fun z => z < 256) (z := 2 ^ (z145 + 1)) rfl (run_shl2 (by omega)) (Nat.lt_of_le_of_lt (Nat.pow_le_pow_right (by decide) (show z145 + 1 <= 5 by omega)) (by decide)) ?_; intro z147 h147)
        | ((with_reducible refine qA 148 ?_); refine C8 (k := .i64) rfl _ _ _ _ _ rfl rfl rfl (fun _ => True) (z := yb ||| z147) rfl (run_orN hyb h147) trivial ?_; intro z148 _)
        | (go_at_call 53; refine (Gy z148 nb m hm _).mono ?_; rintro r_ w_ ⟨_, rfl, ⟨ya, na, rfl, s1, s2, s3, s4, s5⟩, hb_⟩; replace hS := hS.ext hb_; clear hb_)
        | ((with_reducible refine qA 22 ?_); refine qa hS #[.int .u64 0, .int .u64 0] ?_; clear hS; intro g22 w_ hS)
        | ((with_reducible refine qB ?_); refine qc ?_ ?_ <;> intro h_ <;> go_prune)
        | ((with_reducible refine qK ?_); refine qC hS ?_)
        | ((with_reducible refine qM ?_); (first | refine qS hS ?_ | refine qT hS ?_); clear hS; intro w_ hS; (try simp only [Act.put, Act.eval, zz, Value.cells] at hS)))
       obtain ⟨hld, hHb⟩ : ∃ hld : Bool, hld = Bg (ya, na) (closM L s0) := ⟨_, rfl⟩
       have HB := Lib.hid hHb
       clear hHb
       refine C5 [.i (.agg #[.int .u64 (ya : Nat), .int .u64 (na : Nat)]), .q g4 1, .i (.slice Ap L.length cp), .q g4 2, .i (.int .u64 (s0 : Nat)), .i (.int .u64 (closM L s0 : Nat)), .i (.bool hld), .i (.bool (!hld))] ⟨uR (h := fun w hW hN => (hS.ext hW).box 0 rfl), uF, uC (h := fun w hW hN => (hS.ext hW).shut 2 rfl 1 rfl), uF, uC (h := fun w hW hN => (hS.ext hW).shut 2 rfl 2 rfl), ?_, ?_, uU, trivial⟩ ?_
       ·refine uT fun b__ w hW hE K hK => ?_
        have e154 := hE 154
        have e156 := hE 156
        exact Ai rfl (by kernel_rfl) (by simp only [List.map_cons, List.map_nil, e154, e156]) (rclos_any (k2 _ _ (hS.ext hW).ro) HH.out.inr (by omega) s0) fun v w' h hb => hK v w' h hb
       ·refine uT fun b__ w hW hE K hK => ?_
        have e152 := hE 152
        have e157 := hE 157
        exact Ai rfl (by kernel_rfl) (by simp only [List.map_cons, List.map_nil, e152, e157]) (Ip (y := ya) (n := na) (by unfold AM; omega) (by unfold AM; omega) (closM_ltT L s0) _) fun v w' h hb => hK v w' (h.trans (by rw [HB.out])) hb
       ·intro vs wz hW hT
        obtain ⟨e152, e153, e154, e155, e156, e157, e158, e159, -⟩ := hT
        simp only [Ak, Act.put, zz, ze]
        replace hS := hS.ext hW
        rw [e159]
        clear hW e152 e153 e154 e155 e156 e157 e158 e159
        cases hld with
        | true =>
         go_wp2_with fail
         exact ⟨⟨j + 1, u + 1 + 1, _, ns, by go_num, hjN, by omega, by omega, HNS, hS.sub (List.sublist_cons_self _ _)⟩, by simp [intOf]; omega⟩
        | false =>
         go_wp2_with (first
          | ((with_reducible refine qK ?_); refine qC hS ?_)
          | ((with_reducible refine qK ?_); refine qL hS Tryz.underlying50 ?_)
          | ((with_reducible refine qA 163 ?_); refine DC hS 1 rfl rfl _ _ _ _ rfl rfl I3 (.slice An ns.length cn) ns.length (AB ns) (.agg #[.int .u64 (ya : Nat), .int .u64 (na : Nat)]) #[.int .u64 (ya : Nat), .int .u64 (na : Nat)] rfl (by kernel_rfl) rfl rfl rfl rfl (by intro u hu; simp at hu; rcases hu with rfl | rfl <;> rfl) (by omega) (by omega) ?_; clear hS; intro z_ v' w_ hS; (try simp only [Act.put, Act.eval, zz, Value.cells] at hS); obtain ⟨A', c', rfl, _, _⟩ := B7 (hS.own 1 rfl))
          | ((with_reducible refine qM ?_); (first | refine qS hS ?_ | refine qT hS ?_); clear hS; intro w_ hS; (try simp only [Act.put, Act.eval, zz, Value.cells] at hS)))
         have e : AB (ns ++ [(ya, na)]) = AB ns ++ [.int .u64 (ya : Nat), .int .u64 (na : Nat)] := DF ..
         exact ⟨⟨j + 1, u + 1 + 1, .slice A' (ns.length + 1) c', ns ++ [(ya, na)], by go_num, hjN, by omega, by simp; omega, Lib.hid (CD HNS.out ⟨⟨s1, s2, s3, s4, s5⟩, HB.out.symm⟩), by rw [e, List.length_append]; exact hS.sub (List.sublist_cons_self _ _)⟩, by simp [intOf]; omega⟩
      ·obtain rfl : NV = j := by omega
       go_wp2_with (first | ((with_reducible refine qB ?_); refine qc ?_ ?_ <;> intro h_ <;> go_prune))
       obtain ⟨K3, j3, k3, kr3, kn3, hS2⟩ : ∃ K3 : (Nat -> Prop) -> World -> Prop, (∀ D w, K3 D w -> K D w) /\ (∀ D w, K3 D w -> Sl w D 2 (.slice Ap L.length cp) L.length (Ad L)) /\ (∀ D w, K3 D w -> Sl w D 5 (.slice Ar RU cr) RU (At rs)) /\ (∀ D w, K3 D w -> Sl w D 2 (.slice An ns.length cn) ns.length (AB ns)) /\ St w0 wr (.box g4 30 #[.int .i64 (R : Nat), .slice Ap L.length cp, .int .u64 (s0 : Nat), .slice Ar RU cr, .slice An ns.length cn, .slice none 0 0] :: .box q 113 #[.slice A l.length c, .int .i64 ((u : Nat) : Int)] :: .box g2 30 #[.int .i64 0, .slice none 0 0, .int .u64 0, .slice none 0 0, .slice none 0 0, .slice none 0 0] :: F) K3 := ⟨_, fun _ _ h => j1 _ _ h.1, fun _ _ h => k2 _ _ h.1, fun _ _ h => kr2 _ _ h.1, fun _ _ h => h.2, hS.freeze 0 (by decide) rfl⟩
       clear hS
       have hS := hS2.nil 50 2
       clear hS2
       have KS3 := Lib.hid hS.stable
       go_loopw [23] (fun jv wr => ∃ (j x : Nat) (gv : Value) (gs : List (Nat × Nat)), jv = .int .i64 (j : Nat) /\ j <= GO /\ x <= 50 + 2 * j /\ Hid (gs.length = j) /\ Hid (∀ z ∈ gs, KOk m z) /\ St w0 wr (.own gv 50 2 j (AB gs) :: .box g4 30 #[.int .i64 (R : Nat), .slice Ap L.length cp, .int .u64 (s0 : Nat), .slice Ar RU cr, .slice An ns.length cn, gv] :: .box q 113 #[.slice A l.length c, .int .i64 ((x : Nat) : Int)] :: .box g2 30 #[.int .i64 0, .slice none 0 0, .int .u64 0, .slice none 0 0, .slice none 0 0, .slice none 0 0] :: F) K3) (fun jv _ => GO - (intOf jv).toNat)
       case atStart => exact ⟨0, u, _, [], rfl, by omega, by omega, Lib.hid rfl, Lib.hid (fun z hz => by simp at hz), hS⟩
       case round =>
        clear hS
        obtain ⟨j, x, gv, gs, rfl, hj2, hx, HGL, HGS, hS⟩ := hrel
        obtain ⟨Ag, cg, rfl, _, _⟩ := B7 (hS.own 0 rfl)
        by_cases hjG : j < GO
        ·go_wp2_with (first
          | (go_at_call 51; first | (refine (Cf (at_ := x) HL.out (by omega) hS 2 rfl (fun D w h => kp D w (j3 D w h))).mono ?_; clear hS; rintro e w_ ⟨yb, hyb, rfl, hS⟩; simp only [List.set_cons_succ, List.set_cons_zero] at hS) | (refine (Cf (at_ := x + 1) HL.out (by omega) hS 2 rfl (fun D w h => kp D w (j3 D w h))).mono ?_; clear hS; rintro e w_ ⟨nb, hnb, rfl, hS⟩; simp only [List.set_cons_succ, List.set_cons_zero] at hS))
          | ((with_reducible refine qB ?_); refine qc ?_ ?_ <;> intro h_ <;> go_prune))
         have h0d := hS.drew
         refine wp_zS [5, 6, 7, 9] [some (.pointer (some ⟨g4, 5, none⟩)), some (.slice Ag j cg), some (.int .i64 (yb : Nat)), some (.int .i64 (nb : Nat)), some (.int .u8 (m : Nat)), none, none, none, some (.pointer (some ⟨g4, 5, none⟩)), none] (fun vs w => match vs with | [] => St w0 w (.own (.slice Ag j cg) 50 2 j (AB gs) :: .box g4 30 #[.int .i64 (R : Nat), .slice Ap L.length cp, .int .u64 (s0 : Nat), .slice Ar RU cr, .slice An ns.length cn, .slice Ag j cg] :: .box q 113 #[.slice A l.length c, .int .i64 ((x + 1 + 1 : Nat) : Int)] :: .box g2 30 #[.int .i64 0, .slice none 0 0, .int .u64 0, .slice none 0 0, .slice none 0 0, .slice none 0 0] :: F) K3 | [z] => ∃ a b : Nat, z = .agg #[.int .u64 (a : Nat), .int .u64 (b : Nat)] /\ KOk m (a, b) /\ St w0 w (.own (.slice Ag j cg) 50 2 j (AB gs) :: .box g4 30 #[.int .i64 (R : Nat), .slice Ap L.length cp, .int .u64 (s0 : Nat), .slice Ar RU cr, .slice An ns.length cn, .slice Ag j cg] :: .box q 113 #[.slice A l.length c, .int .i64 ((x + 1 + 1 : Nat) : Int)] :: .box g2 30 #[.int .i64 0, .slice none 0 0, .int .u64 0, .slice none 0 0, .slice none 0 0, .slice none 0 0] :: F) K3 | [_, z] => ∃ a b : Nat, KOk m (a, b) /\ St w0 w (.own (.slice Ag j cg) 50 2 j (AB gs) :: .box g4 30 #[.int .i64 (R : Nat), .slice Ap L.length cp, .int .u64 (s0 : Nat), .slice Ar RU cr, .slice An ns.length cn, .slice Ag j cg] :: .box q 113 #[.slice A l.length c, .int .i64 ((x + 1 + 1 : Nat) : Int)] :: .box g2 30 #[.int .i64 0, .slice none 0 0, .int .u64 0, .slice none 0 0, .slice none 0 0, .slice none 0 0] :: F) (fun D w => K3 D w /\ Sl w D 2 z 1 [.int .u64 (a : Nat), .int .u64 (b : Nat)]) | [_, _, p'] => ∃ a b : Nat, KOk m (a, b) /\ St w0 w (.own p' 50 2 (j + 1) (AB gs ++ [.int .u64 (a : Nat), .int .u64 (b : Nat)]) :: .box g4 30 #[.int .i64 (R : Nat), .slice Ap L.length cp, .int .u64 (s0 : Nat), .slice Ar RU cr, .slice An ns.length cn, .slice Ag j cg] :: .box q 113 #[.slice A l.length c, .int .i64 ((x + 1 + 1 : Nat) : Int)] :: .box g2 30 #[.int .i64 0, .slice none 0 0, .int .u64 0, .slice none 0 0, .slice none 0 0, .slice none 0 0] :: F) K3 | [_, _, p', _] => ∃ a b : Nat, KOk m (a, b) /\ St w0 w (.own p' 50 2 (j + 1) (AB gs ++ [.int .u64 (a : Nat), .int .u64 (b : Nat)]) :: .box g4 30 #[.int .i64 (R : Nat), .slice Ap L.length cp, .int .u64 (s0 : Nat), .slice Ar RU cr, .slice An ns.length cn, p'] :: .box q 113 #[.slice A l.length c, .int .i64 ((x + 1 + 1 : Nat) : Int)] :: .box g2 30 #[.int .i64 0, .slice none 0 0, .int .u64 0, .slice none 0 0, .slice none 0 0, .slice none 0 0] :: F) K3 | _ => False) ?_ ⟨vF, ?_, vM, vM, vM, ?_, ?_, ?_, vF, ?_, trivial⟩ ?_
         ·first | assumption | (dsimp only; assumption)
         ·refine vR 0 2 fun b__ w vs hS h1 h2 hE K hK => ?_
          rcases vs with _ | ⟨x0, _ | ⟨x1, _ | ⟨x2, vs⟩⟩⟩ <;> first | (exfalso; first | exact hS | (revert h1 h2; simp <;> omega); done) | ((have e175 := hE 175); (first | exact Az rfl e175 (by kernel_rfl) (hS.shut 1 rfl 5 rfl) (hK _ rfl) | (obtain ⟨_, _, _, hS⟩ := hS; exact Az rfl e175 (by kernel_rfl) (hS.shut 1 rfl 5 rfl) (hK _ rfl)) | (obtain ⟨_, _, _, _, hS⟩ := hS; exact Az rfl e175 (by kernel_rfl) (hS.shut 1 rfl 5 rfl) (hK _ rfl))))
         ·refine vX 0 fun b__ w vs hS hl hE K hK => ?_
          obtain rfl := Hu hl
          have e177 := hE 177
          have e178 := hE 178
          have e179 := hE 179
          exact Br rfl (by kernel_rfl) (by simp only [List.map_cons, List.map_nil, e177, e178, e179]) (Gy yb nb m hm _) fun e w' ⟨z, he, ⟨a, b, hz, h2, h3, h4, h5, h6⟩, hb_⟩ => ⟨z, he, hK z w' ⟨a, b, hz, ⟨h2, h3, h4, h5, h6⟩, hS.ext hb_⟩⟩
         ·refine vX 1 fun b__ w vs hS hl hE K hK => ?_
          obtain ⟨x0, rfl⟩ := FA hl
          have e180 := hE 180
          obtain ⟨a, b, rfl, hk1, hS⟩ := hS
          refine AX (ps := [(0, .agg #[.int .u64 (a : Nat), .int .u64 (b : Nat)])]) (cells := #[.int .u64 (a : Nat), .int .u64 (b : Nat)]) rfl Tryz.underlying28 (by simp [e180]) (by kernel_rfl) ?_
          intro w' hbx hbel
          exact hK _ w' ⟨a, b, hk1, hS.ret hbel (Av (by decide)) (⟨by simp, _, 1, rfl, by omega, by unfold maxLen; omega, fun _ => ⟨w.heap.size, 0, rfl, Nat.le_refl _, hbx.lt, fun j x hj => by rw [Nat.zero_add]; exact (hbx.cell j).trans (by simpa using hj)⟩⟩ : Sl w' (w.heap.size <= ·) 2 (.slice (some ⟨w.heap.size, 0, none⟩) 1 1) 1 [.int .u64 (a : Nat), .int .u64 (b : Nat)])⟩
         ·refine vX 2 fun b__ w vs hS hl hE K hK => ?_
          obtain ⟨x0, x1, rfl⟩ := Fz hl
          have e176 := hE 176
          have e181 := hE 181
          obtain ⟨a, b, hk1, h3⟩ := hS
          refine CF rfl I3 e176 (h3.own 0 rfl) e181 h3.ro.2 (by intro u hu; simp at hu; rcases hu with rfl | rfl <;> rfl) (by omega) (by omega) h3.size ?_
          intro v' w' ho hg hat
          exact hK v' w' ⟨a, b, hk1, (h3.upd 0 rfl (.own v' 50 2 (j + 1) (AB gs ++ [Value.int .u64 (a : Nat), Value.int .u64 (b : Nat)])) hg ho hat).mono KS3.out fun D w h => h.1⟩
         ·refine vX 3 fun b__ w vs hS hl hE K hK => ?_
          obtain ⟨x0, x1, x2, rfl⟩ := Ht hl
          have e183 := hE 183
          have e182 := hE 182
          obtain ⟨a, b, hk1, h3⟩ := hS
          refine BE rfl e183 e182 (h3.box 1 rfl) (by simp) (GF (h3.own 0 rfl)) (own_one (h3.own 0 rfl)) (by kernel_rfl) ?_
          intro w' hbx hup
          exact hK _ w' ⟨a, b, hk1, h3.upd 1 rfl (.box g4 30 #[.int .i64 (R : Nat), .slice Ap L.length cp, .int .u64 (s0 : Nat), .slice Ar RU cr, .slice An ns.length cn, x2]) (Bh hup) ⟨(h3.holds _ (List.mem_of_getElem? (i := 1) rfl)).1, hbx⟩ fun _ e => .inl e⟩
         ·intro us wz vs hS hl hT
          obtain ⟨x0, x1, x2, x3, rfl⟩ := vs_len4 hl
          obtain ⟨e175, e176, e177, e178, e179, e180, e181, e182, e183, -⟩ := hT
          clear hl
          simp only [Ak, Act.put, zz, ze]
          obtain ⟨a, b, hk1, hS⟩ := hS
          clear h0d
          go_wp2_with fail
          have e : AB (gs ++ [(a, b)]) = AB gs ++ [.int .u64 (a : Nat), .int .u64 (b : Nat)] := DF ..
          exact ⟨⟨j + 1, x + 1 + 1, _, gs ++ [(a, b)], by go_num, hjG, by omega, Lib.hid (by rw [List.length_append, HGL.out]; rfl), Lib.hid (CD HGS.out hk1), by rw [e]; exact hS⟩, by simp [intOf]; omega⟩
        ·obtain rfl : GO = j := by omega
         go_wp2_with (first
          | ((with_reducible refine qB ?_); refine qc ?_ ?_ <;> intro h_ <;> go_prune)
          | ((with_reducible refine qK ?_); refine qL hS Tryz.underlying30 ?_)
          | ((with_reducible refine qM ?_); (first | refine qS hS ?_ | refine qT hS ?_); clear hS; intro w_ hS; (try simp only [Act.put, Act.eval, zz, Value.cells] at hS)))
         have HM : Gl ⟨R, some L, s0, rs, ns, gs⟩ L R := ⟨rfl, rfl, hR.1, hR.2, HH.out, HR.out, by omega, by rw [<- HM.out]; exact HS0.out, by show rs.length <= 6; rw [HRL.out]; omega, by rw [<- HM.out]; exact HRS.out, by show ns.length <= 3; omega, by rw [<- HM.out]; exact HNS.out, by show gs.length <= 3; rw [HGL.out]; omega, by show 1 <= gs.length; rw [HGL.out]; omega, by rw [<- HM.out]; exact HGS.out⟩
         have hS1 := hS.freeze 0 (by decide) rfl
         refine Ba Tryz.results13 rfl (hS.box 3 rfl) Tryz.underlying30 rfl (by kernel_rfl) rfl ?_
         refine ⟨_, rfl, _, ⟨L, R, HM⟩, (hS1.sub (F' := F) (((List.sublist_cons_self _ _).trans (List.sublist_cons_self _ _)).trans (List.sublist_cons_self _ _))).mono (KS.out.and B6) fun D w h => ⟨j3 _ _ h.1, ?_⟩⟩
         refine ⟨_, _, _, _, L, rfl, rfl, k3 _ _ h.1, ?_, kn3 _ _ h.1, ?_⟩
         ·show Sl w D 5 _ rs.length _; rw [HRL.out]; exact kr3 _ _ h.1
         ·show Sl w D 2 _ gs.length _; rw [HGL.out]; exact h.2
end
section
open Go.RowKit
structure GK where
 b : Option (Nat × Option (Array Value))
 K : (Nat -> Prop) -> World -> Prop
def GK.F (ty : TypeId) (zs : Array Value) (s : GK) : List Ac := match s.b with
 | none => []
 | some (g, o) => [.box g ty (o.getD zs)]
def GJ (w0 : World) (F : List Ac) (ty : TypeId) (zs : Array Value) (s : World × GK) : Prop := St w0 s.1 (s.2.F ty zs ++ F) s.2.K
def GR (w0 : World) (F : List Ac) (ty : TypeId) (zs : Array Value) (s s' : World × GK) : Prop :=
 (GJ w0 F ty zs s -> GJ w0 F ty zs s') /\ (∀ D w, s'.2.K D w -> s.2.K D w) /\ (∀ g, s.2.b = some (g, none) -> ∃ o, s'.2.b = some (g, o)) /\ (∀ g cs, s.2.b = some (g, some cs) -> s'.2.b = some (g, some cs))
theorem GR.refl {w0 : World} {F : List Ac} {ty : TypeId} {zs : Array Value} : ∀ s, GR w0 F ty zs s s := fun _ => ⟨id, fun _ _ h => h, fun _ h => ⟨_, h⟩, fun _ _ h => h⟩
theorem GR.var {w0 : World} {F : List Ac} {ty : TypeId} {zs : Array Value} {s s' : World × GK} (h : GR w0 F ty zs s s') {v : Value} (k : ∃ g o, v = .pointer (some ⟨g, 0, none⟩) /\ s.2.b = some (g, o)) : ∃ g o, v = .pointer (some ⟨g, 0, none⟩) /\ s'.2.b = some (g, o) := by
 obtain ⟨g, o, e, k⟩ := k
 cases o with
 | none => obtain ⟨o, k⟩ := h.2.2.1 g k; exact ⟨g, o, e, k⟩
 | some cs => exact ⟨g, _, e, h.2.2.2 g cs k⟩
theorem GR.trans {w0 : World} {F : List Ac} {ty : TypeId} {zs : Array Value} : ∀ a b c, GR w0 F ty zs a b -> GR w0 F ty zs b c -> GR w0 F ty zs a c := fun a b c h k =>
 ⟨fun j => k.1 (h.1 j), fun D w j => h.2.1 D w (k.2.1 D w j), fun g j => by
  obtain ⟨o, j2⟩ := h.2.2.1 g j
  obtain ⟨g', o', e, j3⟩ := k.var ⟨g, o, rfl, j2⟩
  injection e with e; injection e with e; injection e with e; subst e
  exact ⟨o', j3⟩, fun g cs j => k.2.2.2 g cs (h.2.2.2 g cs j)⟩
def GN (ia is : Nat) (i : Nat) (s : World × GK) : Prop := (i = ia -> s.2.b = none) /\ (i = is -> ∀ g cs, s.2.b ≠ some (g, some cs))
theorem GN.start {ia is : Nat} {w : World} {K : (Nat -> Prop) -> World -> Prop} (i : Nat) : GN ia is i (w, ⟨none, K⟩) := ⟨fun _ => rfl, fun _ _ _ h => by cases h⟩
theorem GK.more {w0 : World} {F : List Ac} {ty : TypeId} {zs : Array Value} {w : World × GK} {w' : World} {K' : (Nat -> Prop) -> World -> Prop} {ia is i : Nat} (h : St w0 w' (w.2.F ty zs ++ F) K') (hk : ∀ D w1, K' D w1 -> w.2.K D w1) :
  GR w0 F ty zs w (w', { w.2 with K := K' }) /\ ∀ j, j ≠ i -> GN ia is j w -> GN ia is j (w', { w.2 with K := K' }) := ⟨⟨fun _ => h, hk, fun _ h => ⟨_, h⟩, fun _ _ h => h⟩, fun _ _ h => h⟩
theorem GK.made {w0 : World} {F : List Ac} {ty : TypeId} {zs : Array Value} {w : World × GK} {w' : World} {g ia is : Nat} (hn : w.2.b = none) (h : St w0 w' (.box g ty zs :: F) w.2.K) :
  GR w0 F ty zs w (w', { w.2 with b := some (g, none) }) /\ ∀ j, j ≠ ia -> GN ia is j w -> GN ia is j (w', { w.2 with b := some (g, none) }) :=
 ⟨⟨fun _ => h, fun _ _ h => h, fun g h => (by rw [hn] at h; cases h), fun g cs h => (by rw [hn] at h; cases h)⟩, fun j hj _ => ⟨fun e => absurd e hj, fun _ g cs e => by cases e⟩⟩
theorem GK.put {w0 : World} {F : List Ac} {ty : TypeId} {zs : Array Value} {w : World × GK} {w' : World} {g ia is : Nat} {cs : Array Value} (hn : w.2.b = some (g, none)) (h : St w0 w' (.box g ty cs :: F) w.2.K) :
  GR w0 F ty zs w (w', { w.2 with b := some (g, some cs) }) /\ ∀ j, j ≠ is -> GN ia is j w -> GN ia is j (w', { w.2 with b := some (g, some cs) }) :=
 ⟨⟨fun _ => h, fun _ _ h => h, fun g' h => (by rw [hn] at h; injection h with h; injection h with h1 h2; subst h1; exact ⟨_, rfl⟩), fun g cs h => (by rw [hn] at h; cases h)⟩, fun j hj k => ⟨fun e => absurd (k.1 e) (by rw [hn]; exact nofun), fun e => absurd e hj⟩⟩
section
variable {P : Program} {o : Oper} {a : Act} {w : World × GK} {w0 : World} {F : List Ac} {ty : TypeId} {zs : Array Value} {K : Act -> World -> Prop} {Q : Exit -> Act -> World -> Prop}
theorem GJ.none (hJ : GJ w0 F ty zs w) (hn : w.2.b = none) : St w0 w.1 F w.2.K := by
 unfold GJ GK.F at hJ; rw [hn] at hJ; exact hJ
theorem GJ.some {g : Nat} {x : Option (Array Value)} (hJ : GJ w0 F ty zs w) (hn : w.2.b = some (g, x)) : St w0 w.1 (.box g ty (x.getD zs) :: F) w.2.K := by
 unfold GJ GK.F at hJ; rw [hn] at hJ; exact hJ
theorem GJ.cell (hJ : GJ w0 F ty zs w) {g : Nat} {t : TypeId} {cs : Array Value} (i : Nat) (hi : F[i]? = Option.some (Ac.box g t cs)) (j : Nat) {x : Value} (hx : cs[j]? = Option.some x) : w.1.cell? ⟨g, j, Option.none⟩ = Option.some x :=
 ((hJ.holds (.box g t cs) (List.mem_append_right _ (List.mem_of_getElem? hi))).2.cell j).trans hx
theorem gk_alloc (ho : o.op = .alloc ty) (hz : ((P.info? ty).bind (·.zero)).isSome = true) (hzs : zeroCells P ty = zs) (hJ : GJ w0 F ty zs w) (hn : w.2.b = Option.none)
  (hK : ∀ g w', St w0 w' (.box g ty zs :: F) w.2.K -> K (a.put o.dst (.pointer (some ⟨g, 0, Option.none⟩))) w') : o.wp P a w.1 K Q :=
 opw_alloc ho hz fun w' hb hbel => hK _ w' ((hJ.none hn).new hbel _ ⟨Nat.le_refl _, hzs ▸ hb⟩)
theorem gk_store {x y : Operand} {g : Nat} {cs : Array Value} (ho : o.op = .store ty x y) (hx : a.eval x = .pointer (some ⟨g, 0, Option.none⟩)) (hy : a.eval y = .agg cs) (hJ : GJ w0 F ty zs w) (hn : w.2.b = Option.some (g, Option.none)) (hi : (P.info? ty).map (·.size) = Option.some cs.size)
  (hold : zs.size = cs.size) (h1 : cs.all (·.oneCell') = true) (hK : ∀ w', St w0 w' (.box g ty cs :: F) w.2.K -> K (a.put o.dst undef) w') : o.wp P a w.1 K Q := by
 have hS := hJ.some hn
 exact Dg ho hx hy (hS.box 0 rfl) hi hold h1 fun w' hb hU => hK w' (hS.upd 0 rfl (.box g ty cs) (Bh hU) ⟨(hS.holds _ (List.mem_cons_self ..)).1, hb⟩ fun _ e => .inl e)
end
def SR (w0 : World) (FX : Bool × Bool -> List Ac) (K : (Nat -> Prop) -> World -> Prop) (s s' : World × (Bool × Bool)) : Prop :=
 (St w0 s.1 (FX s.2) K -> St w0 s'.1 (FX s'.2) K) /\ (s.2.1 = true -> s'.2.1 = true) /\ (s.2.2 = true -> s'.2.2 = true)
theorem SR.refl {w0 : World} {FX : Bool × Bool -> List Ac} {K : (Nat -> Prop) -> World -> Prop} : ∀ s, SR w0 FX K s s := fun _ => ⟨id, id, id⟩
theorem SR.trans {w0 : World} {FX : Bool × Bool -> List Ac} {K : (Nat -> Prop) -> World -> Prop} : ∀ a b c, SR w0 FX K a b -> SR w0 FX K b c -> SR w0 FX K a c := fun _ _ _ h k => ⟨fun j => k.1 (h.1 j), fun j => k.2.1 (h.2.1 j), fun j => k.2.2 (h.2.2 j)⟩
end
section
open Go.RowKit
attribute [local go_sem ↓] Go.wp_at_zero Go.wp_at_succ
set_option maxRecDepth 20000
set_option exponentiation.threshold 5000
theorem BC.append {w : World} {D : Nat -> Prop} {xs ys : List Value} {l m : List Bk} (hx : xs.length = l.length * 5) (h : BC w D xs l) (k : BC w D ys m) : BC w D (xs ++ ys) (l ++ m) := fun i z hi => by
 rcases Nat.lt_or_ge i l.length with h1 | h1
 ·rw [List.getElem?_append_left h1] at hi
  obtain ⟨a, b, q0, q1, q2, q3, q4, q5, q6⟩ := h i z hi
  refine ⟨a, b, ?_, ?_, ?_, ?_, ?_, q5, q6⟩
  all_goals rw [List.getElem?_append_left (by omega)]; assumption
 ·rw [List.getElem?_append_right h1] at hi
  obtain ⟨a, b, q0, q1, q2, q3, q4, q5, q6⟩ := k _ z hi
  refine ⟨a, b, ?_, ?_, ?_, ?_, ?_, q5, q6⟩
  ·rw [List.getElem?_append_right (by omega), <- q0]; congr 1; omega
  ·rw [List.getElem?_append_right (by omega), <- q1]; congr 1; omega
  ·rw [List.getElem?_append_right (by omega), <- q2]; congr 1; omega
  ·rw [List.getElem?_append_right (by omega), <- q3]; congr 1; omega
  ·rw [List.getElem?_append_right (by omega), <- q4]; congr 1; omega
theorem BC.single {w : World} {D : Nat -> Prop} {a b : Value} {z : Bk} (ha : Aa w D (.agg #[a]) z.yes) (hb : Aa w D (.agg #[b]) z.no) : BC w D [.bool z.revoke, a, b, .int .i64 z.target, .int .i64 z.origin] [z] := fun i x hi => by
 cases i with
 | zero => obtain rfl := Option.some.inj (show some z = some x from hi); exact ⟨a, b, rfl, rfl, rfl, rfl, rfl, ha, hb⟩
 | succ i => simp at hi
end
section
open Go.RowKit
attribute [local go_sem ↓] Go.wp_at_zero Go.wp_at_succ
set_option maxRecDepth 20000
set_option exponentiation.threshold 5000
structure Fits (p : AK) : Prop where
 start : p.start < AM
 rules : ∀ z ∈ p.rules, z.yes < AM /\ z.no < AM
 rlen : p.rules.length <= 1000
 never : Small p.never
 nlen : p.never.length <= 1000
 goal : Small p.goal
 glen : p.goal.length <= 1000
theorem He {w : World} {D : Nat -> Prop} {v : Value} {l : List (Nat × Nat)} (h : Aj w D v l) : ∃ A c, v = .slice A l.length c := by
 obtain ⟨xs, h1, -⟩ := h
 obtain ⟨A, c, e, _, _⟩ := h1.shape
 exact ⟨A, c, e⟩
theorem CH {P : Program} {fn : Func} {p t2 : Tmp} {ty : TypeId} {R : Ending -> World -> Prop} {a : Act} {w : World} {g : Nat} {t : TypeId} {cs : Array Value} {d : TypeDesc} {v : Value} (h : fn.results = #[.cell p ty, .tmp t2]) (hp : a.eval (.tmp p) = .pointer (some ⟨g, 0, none⟩)) (hb : BS w g t cs)
  (hu : P.underlying ty = some d) (hd : (match d with | .struct _ | .array _ _ => true | _ => false) = true) (hi : (P.info? ty).map (·.size) = some cs.size) (hv : a.eval (.tmp t2) = v) (hdf : a.defers = []) (hR : R (.returned (.tuple #[.agg cs, v])) w) : bodyPost P fn R .ret a w := by
 have hr : (results fn a.tmps).run P w = .ok (.tuple #[.agg cs, v]) w := by
  have hp' : a.tmps[p]?.getD undef = .pointer (some ⟨g, 0, none⟩) := by simpa [Act.eval] using hp
  have hv' : a.tmps[t2]?.getD undef = v := by simpa [Act.eval] using hv
  simp [results, h, hp', hv', asAddr, run_loadVar_row w g t ty cs (0, 0) d hb hu hd hi]
 exact bodyPost_ret hr hdf hR
theorem cube_sets {w : World} {D : Nat -> Prop} {a b : Value} {z : Nat × Nat} (h : AH w D (.agg #[a, b]) z) : Aa w D (.agg #[a]) z.1 /\ Aa w D (.agg #[b]) z.2 := by
 obtain ⟨_, _, he, h1, h2⟩ := h
 injection he with he; injection he with he; injection he with e1 he; injection he with e2 _
 subst e1 e2
 exact ⟨h1, h2⟩
theorem rr_at {w : World} {D : Nat -> Prop} {l : List Bk} {A : Option Addr} {c : Nat} (h : Sl w D 5 (.slice A l.length c) l.length (At l)) {k : Nat} (hk : k < l.length) :
  ∃ b o, A = some ⟨b, o, none⟩ /\ w.cell? ⟨b, o + k * 5, none⟩ = some (.bool (l.getD k Bb).revoke) /\ w.cell? ⟨b, o + k * 5 + 1, none⟩ = some (.int .u64 ((l.getD k Bb).yes : Nat)) /\ w.cell? ⟨b, o + k * 5 + 2, none⟩ = some (.int .u64 ((l.getD k Bb).no : Nat)) /\ w.cell? ⟨b, o + k * 5 + 3, none⟩ = some (.int .i64 (l.getD k Bb).target) /\ w.cell? ⟨b, o + k * 5 + 4, none⟩ = some (.int .i64 (l.getD k Bb).origin) := by
 obtain ⟨_, A', c', e, h1, h2, h3⟩ := h
 injection e with e1 e2 e3
 subst e1
 obtain ⟨b, o, h4, _, _, h5⟩ := h3 (by omega)
 obtain ⟨q0, q1, q2, q3, q4⟩ := Il l k _ (C4 Bb hk)
 exact ⟨b, o, h4, h5 _ _ q0, by rw [Nat.add_assoc]; exact h5 _ _ q1, by rw [Nat.add_assoc]; exact h5 _ _ q2, by rw [Nat.add_assoc]; exact h5 _ _ q3, by rw [Nat.add_assoc]; exact h5 _ _ q4⟩
set_option maxHeartbeats 4000000 in
theorem G5 {w0 w : World} {F : List Ac} {K : (Nat -> Prop) -> World -> Prop} {v : Value} {p : AK} {L : List (Nat × Nat)} (hl : p.links = some L) (hH : Gm L) (hlen : L.length <= 1000) (hB : Fits p) (hS : St w0 w F K) (kp : ∀ D w, K D w -> B0 w D v p) (kt : ∀ D w, K D w -> Bl w /\ D 0) :
  Calls Tryz.prog 16 #[v] w fun e w' => ∃ u, e = .returned (.tuple #[u, .bool true]) /\ St w0 w' F fun D w => K D w /\ BQ w D u p := by
 obtain ⟨pr, lk, ps, rl, nl, gl⟩ := p
 dsimp only at hl
 subst hl
 obtain ⟨lv, rv, nv, gv, L', rfl, hl', h1, h2, h3, h4⟩ := kp _ _ hS.ro
 dsimp only at hl' h1 h2 h3 h4
 obtain rfl : L = L' := by injection hl'
 clear hl'
 obtain ⟨Al, cl, rfl, _, _⟩ := h1.shape
 obtain ⟨Ar, cr, rfl, _, _⟩ := h2.shape
 obtain ⟨An, cn, rfl, _, _⟩ := Sl.shape (h3 : Sl _ _ _ _ _ _)
 obtain ⟨Ag, cg, rfl, _, _⟩ := Sl.shape (h4 : Sl _ _ _ _ _ _)
 clear h1 h2 h3 h4
 have KSt := Lib.hid hS.stable
 have k1 : ∀ D w, K D w -> Sl w D 2 (.slice Al L.length cl) L.length (Ad L) := fun D w h => by
  obtain ⟨_, _, _, _, L', e, e2, h1, _, _, _⟩ := kp D w h
  injection e2 with e2; subst e2
  injection e with e; injection e with e; injection e with _ e; injection e with e1 _; subst e1; exact h1
 have k2 : ∀ D w, K D w -> Sl w D 5 (.slice Ar rl.length cr) rl.length (At rl) := fun D w h => by
  obtain ⟨_, _, _, _, L', e, e2, _, h1, _, _⟩ := kp D w h
  injection e with e; injection e with e; injection e with _ e; injection e with _ e; injection e with _ e; injection e with e1 _; subst e1; exact h1
 have k3 : ∀ D w, K D w -> Bq w D (.slice An nl.length cn) nl := fun D w h => by
  obtain ⟨_, _, _, _, L', e, e2, _, _, h1, _⟩ := kp D w h
  injection e with e; injection e with e; injection e with _ e; injection e with _ e; injection e with _ e; injection e with _ e; injection e with e1 _; subst e1; exact h1
 have k4 : ∀ D w, K D w -> Bq w D (.slice Ag gl.length cg) gl := fun D w h => by
  obtain ⟨_, _, _, _, L', e, e2, _, _, _, h1⟩ := kp D w h
  injection e with e; injection e with e; injection e with _ e; injection e with _ e; injection e with _ e; injection e with _ e; injection e with _ e; injection e with e1 _; subst e1; exact h1
 have HF := Lib.hid hB
 have HH := Lib.hid hH
 have hrl1 := HF.out.rlen
 clear hB hH kp
 dsimp only at hrl1
 go_enter Tryz.func16, Tryz.ntmps16
 go_wp2_with (first
  | ((with_reducible refine qA 1 ?_); refine Aw hS rfl _ _ rfl (.agg #[.int .i64 pr, .slice Al L.length cl, .int .u64 (ps : Nat), .slice Ar rl.length cr, .slice An nl.length cn, .slice Ag gl.length cg]) _ rfl rfl ?_; clear hS; intro g1 w_ hS; (try simp only [Act.put, Act.eval, zz, Value.cells] at hS))
  | ((with_reducible refine qA 2 ?_); refine qa hS #[.int .i64 0, .pointer none, .slice none 0 0, .slice none 0 0, .slice none 0 0, .slice none 0 0] ?_; clear hS; intro g2 w_ hS))
 have hJ0 : GJ w0 (.box g2 43 #[.int .i64 0, .pointer none, .slice none 0 0, .slice none 0 0, .slice none 0 0, .slice none 0 0] :: .box g1 30 #[.int .i64 pr, .slice Al L.length cl, .int .u64 (ps : Nat), .slice Ar rl.length cr, .slice An nl.length cn, .slice Ag gl.length cg] :: F) 43 #[.int .i64 0, .pointer none, .slice none 0 0, .slice none 0 0, .slice none 0 0, .slice none 0 0] (w_.drew, ⟨none, K⟩) := hS.drew
 have hRr := @GR.refl w0 (.box g2 43 #[.int .i64 0, .pointer none, .slice none 0 0, .slice none 0 0, .slice none 0 0, .slice none 0 0] :: .box g1 30 #[.int .i64 pr, .slice Al L.length cl, .int .u64 (ps : Nat), .slice Ar rl.length cr, .slice An nl.length cn, .slice Ag gl.length cg] :: F) 43 #[.int .i64 0, .pointer none, .slice none 0 0, .slice none 0 0, .slice none 0 0, .slice none 0 0]
 have hRt := @GR.trans w0 (.box g2 43 #[.int .i64 0, .pointer none, .slice none 0 0, .slice none 0 0, .slice none 0 0, .slice none 0 0] :: .box g1 30 #[.int .i64 pr, .slice Al L.length cl, .int .u64 (ps : Nat), .slice Ar rl.length cr, .slice An nl.length cn, .slice Ag gl.length cg] :: F) 43 #[.int .i64 0, .pointer none, .slice none 0 0, .slice none 0 0, .slice none 0 0, .slice none 0 0]
 have hN0 := @GN.start 13 14 w_.drew K
 clear hS
 refine Ex (GR w0 (.box g2 43 #[.int .i64 0, .pointer none, .slice none 0 0, .slice none 0 0, .slice none 0 0, .slice none 0 0] :: .box g1 30 #[.int .i64 pr, .slice Al L.length cl, .int .u64 (ps : Nat), .slice Ar rl.length cr, .slice An nl.length cn, .slice Ag gl.length cg] :: F) 43 #[.int .i64 0, .pointer none, .slice none 0 0, .slice none 0 0, .slice none 0 0, .slice none 0 0]) (GN 13 14) (⟨none, K⟩) hRr hRt [.q g1 0, .n pr, .s (fun v w => ∃ q, v = .pointer (some ⟨q, 0, none⟩) /\ ∀ D w1, w.2.K D w1 -> IsH w1 D (.pointer (some ⟨q, 0, none⟩)) []) fun v w w' h hb => by obtain ⟨q, e, h⟩ := h; exact ⟨q, e, fun D w1 h1 => h D w1 (hb.2.1 D w1 h1)⟩, .q g1 2, .i (.int .u64 (ps : Nat)), .s (fun v w => ∃ u, v = .agg #[u] /\ u.oneCell' = true /\ ∀ D w1, w.2.K D w1 -> Aa w1 D (.agg #[u]) ps) fun v w w' h hb => by obtain ⟨u, e, e2, h⟩ := h; exact ⟨u, e, e2, fun D w1 h1 => h D w1 (hb.2.1 D w1 h1)⟩, .q g1 4, .i (.slice An nl.length cn), .s (fun v w => (∃ A c, v = .slice A nl.length c) /\ ∀ D w1, w.2.K D w1 -> Aj w1 D v nl) fun v w w' h hb => ⟨h.1, fun D w1 h1 => h.2 D w1 (hb.2.1 D w1 h1)⟩, .q g1 5, .i (.slice Ag gl.length cg), .s (fun v w => (∃ A c, v = .slice A gl.length c) /\ ∀ D w1, w.2.K D w1 -> Aj w1 D v gl) fun v w w' h hb => ⟨h.1, fun D w1 h1 => h.2 D w1 (hb.2.1 D w1 h1)⟩, .s (fun v w => ∃ q u A c B d, v = .agg #[.int .i64 pr, .pointer (some ⟨q, 0, none⟩), u, .slice none 0 0, .slice A nl.length c, .slice B gl.length d] /\ u.oneCell' = true /\ ∀ D w1, w.2.K D w1 -> IsH w1 D (.pointer (some ⟨q, 0, none⟩)) [] /\ Aa w1 D (.agg #[u]) ps /\ Aj w1 D (.slice A nl.length c) nl /\ Aj w1 D (.slice B gl.length d) gl) fun v w w' h hb => by obtain ⟨q, u, A, c, B, d, e, e2, h⟩ := h; exact ⟨q, u, A, c, B, d, e, e2, fun D w1 h1 => h D w1 (hb.2.1 D w1 h1)⟩, .s (fun v w => ∃ g o, v = .pointer (some ⟨g, 0, none⟩) /\ w.2.b = some (g, o)) fun v w w' h hb => hb.var h, .s (fun v w => ∃ g q u A c B d, w.2.b = some (g, some #[.int .i64 pr, .pointer (some ⟨q, 0, none⟩), u, .slice none 0 0, .slice A nl.length c, .slice B gl.length d]) /\ ∀ D w1, w.2.K D w1 -> IsH w1 D (.pointer (some ⟨q, 0, none⟩)) [] /\ Aa w1 D (.agg #[u]) ps /\ Aj w1 D (.slice A nl.length c) nl /\ Aj w1 D (.slice B gl.length d) gl) fun v w w' h hb => by obtain ⟨g, q, u, A, c, B, d, e, h⟩ := h; exact ⟨g, q, u, A, c, B, d, hb.2.2.2 _ _ e, fun D w1 h1 => h D w1 (hb.2.1 D w1 h1)⟩] ?_ ⟨uF, uC (h := fun w hW hN => (hW.1 hJ0).cell 1 rfl 0 rfl), ?_, uF, uC (h := fun w hW hN => (hW.1 hJ0).cell 1 rfl 2 rfl), ?_, uF, uC (h := fun w hW hN => (hW.1 hJ0).cell 1 rfl 4 rfl), ?_, uF, uC (h := fun w hW hN => (hW.1 hJ0).cell 1 rfl 5 rfl), ?_, ?_, ?_, ?_, trivial⟩ ?_
 ·first | assumption | (intro i; (try dsimp only); split <;> first | trivial | assumption | (left; assumption))
 ·refine uG fun b__ w hW hN hE K hK => ?_
  refine Br rfl (by kernel_rfl) (by simp only [List.map_nil]) (hnew_any (hW.1 hJ0) fun D w1 h => kt D w1 (hW.2.1 D w1 h)) fun e w' ⟨p, he, hs⟩ => ⟨p, he, ?_⟩
  obtain ⟨q, o, rfl, -⟩ := id hs.ro.2
  exact hK _ (w', { w.2 with K := _ }) ⟨q, rfl, fun D w1 h => h.2⟩ (GK.more hs fun D w1 h => h.1)
 ·refine uG fun b__ w hW hN hE K hK => ?_
  have e15 := hE 15
  refine Br rfl (by kernel_rfl) (by simp only [List.map_cons, List.map_nil, e15]) (ID ps HF.out.start w.1) fun e w' ⟨x, he, hx, hb⟩ => ⟨x, he, ?_⟩
  obtain ⟨u, rfl, h1⟩ := EU hx
  exact hK _ (w', { w.2 with K := _ }) ⟨u, rfl, h1, fun D w1 h => h.2⟩ (GK.more ((hW.1 hJ0).ret hb Ab hx) fun D w1 h => h.1)
 ·refine uG fun b__ w hW hN hE K hK => ?_
  have e18 := hE 18
  refine Br rfl (by kernel_rfl) (by simp only [List.map_cons, List.map_nil, e18]) (H7 _ nl w.1 _ (k3 _ _ (hW.2.1 _ _ (hW.1 hJ0).ro)) HF.out.never (by have := HF.out.nlen; dsimp only at this; omega)) fun e w' ⟨x, he, hx, hb⟩ => ⟨x, he, ?_⟩
  exact hK _ (w', { w.2 with K := _ }) ⟨He hx, fun D w1 h => h.2⟩ (GK.more ((hW.1 hJ0).ret hb AY hx) fun D w1 h => h.1)
 ·refine uG fun b__ w hW hN hE K hK => ?_
  have e21 := hE 21
  refine Br rfl (by kernel_rfl) (by simp only [List.map_cons, List.map_nil, e21]) (H7 _ gl w.1 _ (k4 _ _ (hW.2.1 _ _ (hW.1 hJ0).ro)) HF.out.goal (by have := HF.out.glen; dsimp only at this; omega)) fun e w' ⟨x, he, hx, hb⟩ => ⟨x, he, ?_⟩
  exact hK _ (w', { w.2 with K := _ }) ⟨He hx, fun D w1 h => h.2⟩ (GK.more ((hW.1 hJ0).ret hb AY hx) fun D w1 h => h.1)
 ·refine uG fun b__ w hW hN hE K hK => ?_
  have e12 := hE 12
  have e13 := hE 13
  have e16 := hE 16
  have e19 := hE 19
  have e22 := hE 22
  obtain ⟨q, hq, h1⟩ := e13
  obtain ⟨u, hu, hu1, h2⟩ := e16
  obtain ⟨⟨A, c, ha⟩, h3⟩ := e19
  obtain ⟨⟨B, d, hbb⟩, h4⟩ := e22
  rw [ha] at h3
  rw [hbb] at h4
  exact B9 rfl (ps := [(0, .int .i64 pr), (1, .pointer (some ⟨q, 0, none⟩)), (2, .agg #[u]), (4, .slice A nl.length c), (5, .slice B gl.length d)]) (cells := #[.int .i64 pr, .pointer (some ⟨q, 0, none⟩), u, .slice none 0 0, .slice A nl.length c, .slice B gl.length d]) (by simp [e12, hq, hu, ha, hbb]) (by kernel_rfl) (hK _ _ ⟨q, u, A, c, B, d, rfl, hu1, fun D w1 h => ⟨h1 D w1 h, h2 D w1 h, h3 D w1 h, h4 D w1 h⟩⟩ ⟨hRr _, fun _ _ h => h⟩)
 ·refine uG fun b__ w hW hN hE K hK => ?_
  exact gk_alloc rfl (by kernel_rfl) (by kernel_rfl) (hW.1 hJ0) (hN.1 rfl) fun g w' hs => hK _ (w', { w.2 with b := some (g, none) }) ⟨g, none, rfl, rfl⟩ (GK.made (hN.1 rfl) hs)
 ·refine uG fun b__ w hW hN hE K hK => ?_
  have e4 := hE 4
  have e23 := hE 23
  obtain ⟨g, o, hg, hgb⟩ := e4
  obtain ⟨q, u, A, c, B, d, hv, hu1, h1⟩ := e23
  obtain rfl : o = none := (by cases o with | none => rfl | some cs => exact absurd hgb (hN.2 rfl g cs))
  exact gk_store rfl hg hv (hW.1 hJ0) hgb (by kernel_rfl) rfl (by simpa [Value.oneCell'] using hu1) fun w' hs => hK undef (w', { w.2 with b := some (g, some #[.int .i64 pr, .pointer (some ⟨q, 0, none⟩), u, .slice none 0 0, .slice A nl.length c, .slice B gl.length d]) }) ⟨g, q, u, A, c, B, d, rfl, h1⟩ (GK.put hgb hs)
 ·intro vs wz hW hT
  obtain ⟨e11, e12, e13, e14, e15, e16, e17, e18, e19, e20, e21, e22, e23, e4, z14, -⟩ := hT
  have bx : (fun _ : Nat => True) 0 := trivial
  simp only [Ak, Act.put, zz, ze]
  obtain ⟨_, g4, q, u, A4, c4, B4, d4, hb4, hK4⟩ := z14
  obtain ⟨g, o, hg, hgb⟩ := e4
  obtain rfl : g = g4 := by rw [hb4] at hgb; injection hgb with h; injection h with h _; exact h.symm
  have hS : St w0 wz.1 (.box g 43 #[.int .i64 pr, .pointer (some ⟨q, 0, none⟩), u, .slice none 0 0, .slice A4 nl.length c4, .slice B4 gl.length d4] :: .box g2 43 #[.int .i64 0, .pointer none, .slice none 0 0, .slice none 0 0, .slice none 0 0, .slice none 0 0] :: .box g1 30 #[.int .i64 pr, .slice Al L.length cl, .int .u64 (ps : Nat), .slice Ar rl.length cr, .slice An nl.length cn, .slice Ag gl.length cg] :: F) wz.2.K := (hW.1 hJ0).some hb4
  obtain ⟨K4, wf, k0, kq, kc, hwf, hS2⟩ : ∃ (K4 : (Nat -> Prop) -> World -> Prop) (wf : World), (∀ D w, K4 D w -> K D w) /\ (∀ D w1, K4 D w1 -> IsH w1 D (.pointer (some ⟨q, 0, none⟩)) []) /\ Hid (∀ D w1, K4 D w1 -> Aa w1 D (.agg #[u]) ps /\ Aj w1 D (.slice A4 nl.length c4) nl /\ Aj w1 D (.slice B4 gl.length d4) gl) /\ wz.1 = wf /\ St w0 wf (.box g 43 #[.int .i64 pr, .pointer (some ⟨q, 0, none⟩), u, .slice none 0 0, .slice A4 nl.length c4, .slice B4 gl.length d4] :: .box g2 43 #[.int .i64 0, .pointer none, .slice none 0 0, .slice none 0 0, .slice none 0 0, .slice none 0 0] :: .box g1 30 #[.int .i64 pr, .slice Al L.length cl, .int .u64 (ps : Nat), .slice Ar rl.length cr, .slice An nl.length cn, .slice Ag gl.length cg] :: F) K4 := ⟨_, _, hW.2.1, fun D w1 h => (hK4 D w1 h).1, Lib.hid fun D w1 h => (hK4 D w1 h).2, rfl, hS⟩
  rw [hwf]
  simp only [show vs (4 : Nat) = _ from hg]
  clear hS hW hJ0 hRr hRt hN0 e11 e12 e13 e14 e15 e16 e17 e18 e19 e20 e21 e22 e23 hb4 hgb hK4 hg hwf
  have hS := hS2
  clear hS2
  generalize vs 11 = s11, vs 12 = s12, vs 13 = s13, vs 14 = s14, vs 15 = s15, vs 16 = s16, vs 17 = s17, vs 18 = s18, vs 19 = s19, vs 20 = s20, vs 21 = s21, vs 22 = s22, vs 23 = s23
  obtain ⟨Au, cu, lu, hvu, -⟩ := (kc.out _ _ hS.ro).1.parts
  obtain rfl : u = .slice Au lu.length cu := by injection hvu with hvu; simpa using hvu
  clear hvu
  generalize lu.length = nu at *
  have KS4 := Lib.hid hS.stable
  go_wp2_with (first | ((with_reducible refine qK ?_); refine qC hS ?_))
  have HNX : Hid (∀ (j : Nat) (x : Nat × Nat) (L' : List (Nat × Nat)), L[j]? = some x -> Part L j L' -> ∀ (F : List Ac) (K : (Nat -> Prop) -> World -> Prop) (w : World) (r : Value) (z : Int), LinkP w0 F K L' (x.1 : Nat) (x.2 : Nat) r z w -> z = 0 /\ ∃ L'', Part L (j + 1) L'' /\ St w0 w F fun D w => K D w /\ IsH w D r L'') := Lib.hid fun j x L' hx hP F K w r z h => by
   obtain ⟨h1, L'', h2, h3, h4⟩ := h.next hx hP.2 HH.out.asc.nodup HH.out.role HH.out.acyc
   exact ⟨h1, L'', ⟨h2, h3⟩, h4⟩
  have HLF : Hid (∀ L', Part L L.length L' -> L' = L) := Lib.hid fun L' h => h.full HH.out.asc
  have hP0 : Part L 0 [] := ⟨Gm.nil, by simp⟩
  have k1' : ∀ D w, K4 D w -> Sl w D 2 (.slice Al L.length cl) L.length (Ad L) := fun D w h => k1 D w (k0 D w h)
  go_loopw [27] (fun i wr => ∃ (j q' : Nat) (L' : List (Nat × Nat)), i = .int .i64 (j : Nat) /\ j <= L.length /\ Hid (Part L j L') /\ St w0 wr (.box g 43 #[.int .i64 pr, .pointer (some ⟨q', 0, none⟩), .slice Au nu cu, .slice none 0 0, .slice A4 nl.length c4, .slice B4 gl.length d4] :: .box g2 43 #[.int .i64 0, .pointer none, .slice none 0 0, .slice none 0 0, .slice none 0 0, .slice none 0 0] :: .box g1 30 #[.int .i64 pr, .slice Al L.length cl, .int .u64 (ps : Nat), .slice Ar rl.length cr, .slice An nl.length cn, .slice Ag gl.length cg] :: F) fun D w => K4 D w /\ IsH w D (.pointer (some ⟨q', 0, none⟩)) L') (fun i _ => L.length - (intOf i).toNat)
  case atStart => exact ⟨0, q, [], rfl, by omega, Lib.hid hP0, hS.mono (KS4.out.and Dl) fun D w h => ⟨h, kq D w h⟩⟩
  case round =>
   clear hS hP0
   obtain ⟨j, q', L', rfl, hj, HP, hS⟩ := hrel
   by_cases hlj : j < L.length
   ·obtain ⟨f1, f2⟩ := Bj L j hlj
    have HNY := Lib.hid (HNX.out j _ L' (C4 (0, 0) hlj) HP.out)
    have HLL : Hid (L'.length <= 900000) := Lib.hid (by have := HP.out.len; omega)
    generalize L.getD j (0, 0) = z at *
    obtain ⟨za, zb⟩ := z
    dsimp only at f1 f2 HNY
    have kp2 : ∀ D w, (K4 D w /\ IsH w D (.pointer (some ⟨q', 0, none⟩)) L') -> Sl w D 2 (.slice Al L.length cl) L.length (Ad L) := fun D w h => k1' D w h.1
    go_wp2_with (first
     | ((with_reducible refine qB ?_); refine qc ?_ ?_ <;> intro h_ <;> go_prune)
     | ((with_reducible refine qI ?_); refine qj hS Tryz.underlying25 ?_; intro b_ j_ hc0_ hc1_)
     | ((with_reducible refine qA 6 ?_); refine AO hS rfl _ rfl (by kernel_rfl) ?_; clear hS; intro g6 w_ hS; (try simp only [Act.put, Act.eval, zz, Value.cells] at hS))
     | (go_at_call 60; refine (hlink_any (.pointer (some ⟨q', 0, none⟩)) L' (za : Nat) (zb : Nat) HP.out.1 HLL.out hS (fun D w h => h.2) (fun D w h => kt D w (k0 D w h.1))).mono ?_; clear hS; rintro e w_ ⟨r, z, rfl, hP⟩; obtain ⟨rfl, L'', hP2, hS⟩ := HNY.out _ _ _ _ _ hP; replace hP2 := Lib.hid hP2; clear hP; obtain ⟨q2, _, rfl, -⟩ := id hS.ro.2)
     | ((with_reducible refine qM ?_); (first | refine qS hS ?_ | refine qT hS ?_); clear hS; intro w_ hS; (try simp only [Act.put, Act.eval, zz, Value.cells] at hS))
     | ((with_reducible refine qK ?_); refine qC hS ?_))
    exact ⟨⟨j + 1, q2, L'', by go_num, hlj, hP2, (hS.sub (List.sublist_cons_self _ _)).mono (KS4.out.and Dl) fun D w h => ⟨h.1.1, h.2⟩⟩, by simp [intOf]; omega⟩
   ·obtain rfl : L.length = j := by omega
    rw [HLF.out _ HP.out] at hS
    clear HP HNX HLF
    go_wp2_with (first | ((with_reducible refine qB ?_); refine qc ?_ ?_ <;> intro h_ <;> go_prune) | ((with_reducible refine qK ?_); refine qC hS ?_))
    obtain ⟨K5, k5, kh, hS2⟩ : ∃ K5 : (Nat -> Prop) -> World -> Prop, (∀ D w, K5 D w -> K4 D w) /\ Hid (∀ D w, K5 D w -> IsH w D (.pointer (some ⟨q', 0, none⟩)) L) /\ St w0 wr (.box g 43 #[.int .i64 pr, .pointer (some ⟨q', 0, none⟩), .slice Au nu cu, .slice none 0 0, .slice A4 nl.length c4, .slice B4 gl.length d4] :: .box g2 43 #[.int .i64 0, .pointer none, .slice none 0 0, .slice none 0 0, .slice none 0 0, .slice none 0 0] :: .box g1 30 #[.int .i64 pr, .slice Al L.length cl, .int .u64 (ps : Nat), .slice Ar rl.length cr, .slice An nl.length cn, .slice Ag gl.length cg] :: F) K5 := ⟨_, fun _ _ h => h.1, Lib.hid fun _ _ h => h.2, hS⟩
    clear hS
    have hS := hS2.nil 84 5
    clear hS2
    have KS5 := Lib.hid hS.stable
    have kr : ∀ D w, K5 D w -> Sl w D 5 (.slice Ar rl.length cr) rl.length (At rl) := fun D w h => k2 D w (k0 D w (k5 D w h))
    go_loopw [50] (fun i wr => ∃ (j : Nat) (rv : Value) (xs : List Value), i = .int .i64 (j : Nat) /\ j <= rl.length /\ St w0 wr (.own rv 84 5 j xs :: .box g 43 #[.int .i64 pr, .pointer (some ⟨q', 0, none⟩), .slice Au nu cu, rv, .slice A4 nl.length c4, .slice B4 gl.length d4] :: .box g2 43 #[.int .i64 0, .pointer none, .slice none 0 0, .slice none 0 0, .slice none 0 0, .slice none 0 0] :: .box g1 30 #[.int .i64 pr, .slice Al L.length cl, .int .u64 (ps : Nat), .slice Ar rl.length cr, .slice An nl.length cn, .slice Ag gl.length cg] :: F) fun D w => K5 D w /\ BC w D xs (rl.take j)) (fun i _ => rl.length - (intOf i).toNat)
    case atStart => exact ⟨0, _, [], rfl, by omega, hS.mono (KS5.out.and DR) fun D w h => ⟨h, fun i z hi => by simp at hi⟩⟩
    case round =>
     clear hS
     obtain ⟨j, rv, xs, rfl, hj2, hS⟩ := hrel
     obtain ⟨Arv, crv, rfl, _, _⟩ := B7 (hS.own 0 rfl)
     by_cases hlj : j < rl.length
     ·obtain ⟨bk, o, rfl, c0, c1, c2, c3, c4'⟩ := rr_at (kr _ _ hS.ro.1) hlj
      have HT : Hid (rl.take (j + 1) = rl.take j ++ [rl.getD j Bb]) := Lib.hid (Gv rl j Bb hlj)
      have HZ : Hid ((rl.getD j Bb).yes < AM /\ (rl.getD j Bb).no < AM) := Lib.hid (HF.out.rules _ (by rw [List.getD_eq_getElem?_getD, List.getElem?_eq_getElem hlj]; exact List.getElem_mem hlj))
      have HLT : Hid ((rl.take j).length = j) := Lib.hid (by rw [List.length_take]; omega)
      generalize rl.getD j Bb = z at *
      obtain ⟨zr, zy, zn, zt, zo⟩ := z
      dsimp only at c0 c1 c2 c3 c4' HZ
      go_wp2_with (first
       | ((with_reducible refine qB ?_); refine qc ?_ ?_ <;> intro h_ <;> go_prune)
       | ((with_reducible refine qA 53 ?_); refine BigFrame.wpList_want rfl fun _ hK => AU (cs := [.bool zr, .int .u64 (zy : Nat), .int .u64 (zn : Nat), .int .i64 zt, .int .i64 zo]) rfl rfl (Ho c0 c1 c2 c3 c4') Tryz.underlying109 rfl (by kernel_rfl) (hK _ _ ?_))
       | ((with_reducible refine qA 10 ?_); refine qa hS #[.bool false, .int .u64 0, .int .u64 0, .int .i64 0, .int .i64 0] ?_; clear hS; intro g10 w_ hS)
       | ((with_reducible refine qM ?_); (first | refine qS hS ?_ | refine qT hS ?_); clear hS; intro w_ hS; (try simp only [Act.put, Act.eval, zz, Value.cells] at hS)))
      obtain ⟨K6, k6, hS2⟩ : ∃ K6 : (Nat -> Prop) -> World -> Prop, Hid (∀ D w, K6 D w -> K5 D w /\ BC w D xs (rl.take j)) /\ St w0 w_ (.box g10 109 #[.bool zr, .int .u64 (zy : Nat), .int .u64 (zn : Nat), .int .i64 zt, .int .i64 zo] :: .own (.slice Arv j crv) 84 5 j xs :: .box g 43 #[.int .i64 pr, .pointer (some ⟨q', 0, none⟩), .slice Au nu cu, .slice Arv j crv, .slice A4 nl.length c4, .slice B4 gl.length d4] :: .box g2 43 #[.int .i64 0, .pointer none, .slice none 0 0, .slice none 0 0, .slice none 0 0, .slice none 0 0] :: .box g1 30 #[.int .i64 pr, .slice Al L.length cl, .int .u64 (ps : Nat), .slice (some ⟨bk, o, none⟩) rl.length cr, .slice An nl.length cn, .slice Ag gl.length cg] :: F) K6 := ⟨_, Lib.hid fun _ _ h => h, hS⟩
      clear hS
      have hS := hS2
      clear hS2
      have KS6 := Lib.hid hS.stable
      have h0d := hS.drew
      refine wp_zS [6, 11, 12, 13, 15] [some (.pointer (some ⟨g, 3, none⟩)), some (.slice Arv j crv), some (.pointer (some ⟨g10, 0, none⟩)), some (.bool zr), some (.pointer (some ⟨g10, 1, none⟩)), some (.agg #[.int .u64 (zy : Nat), .int .u64 (zn : Nat)]), none, some (.pointer (some ⟨g10, 3, none⟩)), some (.int .i64 zt), some (.pointer (some ⟨g10, 4, none⟩)), some (.int .i64 zo), none, none, none, some (.pointer (some ⟨g, 3, none⟩)), none] (fun vs w => match vs with | [] => St w0 w (.box g10 109 #[.bool zr, .int .u64 (zy : Nat), .int .u64 (zn : Nat), .int .i64 zt, .int .i64 zo] :: .own (.slice Arv j crv) 84 5 j xs :: .box g 43 #[.int .i64 pr, .pointer (some ⟨q', 0, none⟩), .slice Au nu cu, .slice Arv j crv, .slice A4 nl.length c4, .slice B4 gl.length d4] :: .box g2 43 #[.int .i64 0, .pointer none, .slice none 0 0, .slice none 0 0, .slice none 0 0, .slice none 0 0] :: .box g1 30 #[.int .i64 pr, .slice Al L.length cl, .int .u64 (ps : Nat), .slice (some ⟨bk, o, none⟩) rl.length cr, .slice An nl.length cn, .slice Ag gl.length cg] :: F) K6 | [z] => ∃ a b : Value, z = .agg #[a, b] /\ St w0 w (.box g10 109 #[.bool zr, .int .u64 (zy : Nat), .int .u64 (zn : Nat), .int .i64 zt, .int .i64 zo] :: .own (.slice Arv j crv) 84 5 j xs :: .box g 43 #[.int .i64 pr, .pointer (some ⟨q', 0, none⟩), .slice Au nu cu, .slice Arv j crv, .slice A4 nl.length c4, .slice B4 gl.length d4] :: .box g2 43 #[.int .i64 0, .pointer none, .slice none 0 0, .slice none 0 0, .slice none 0 0, .slice none 0 0] :: .box g1 30 #[.int .i64 pr, .slice Al L.length cl, .int .u64 (ps : Nat), .slice (some ⟨bk, o, none⟩) rl.length cr, .slice An nl.length cn, .slice Ag gl.length cg] :: F) (fun D w => K6 D w /\ AH w D (.agg #[a, b]) (zy, zn)) | [_, z] => ∃ a b : Value, z = .agg #[.bool zr, a, b, .int .i64 zt, .int .i64 zo] /\ St w0 w (.box g10 109 #[.bool zr, .int .u64 (zy : Nat), .int .u64 (zn : Nat), .int .i64 zt, .int .i64 zo] :: .own (.slice Arv j crv) 84 5 j xs :: .box g 43 #[.int .i64 pr, .pointer (some ⟨q', 0, none⟩), .slice Au nu cu, .slice Arv j crv, .slice A4 nl.length c4, .slice B4 gl.length d4] :: .box g2 43 #[.int .i64 0, .pointer none, .slice none 0 0, .slice none 0 0, .slice none 0 0, .slice none 0 0] :: .box g1 30 #[.int .i64 pr, .slice Al L.length cl, .int .u64 (ps : Nat), .slice (some ⟨bk, o, none⟩) rl.length cr, .slice An nl.length cn, .slice Ag gl.length cg] :: F) (fun D w => K6 D w /\ AH w D (.agg #[a, b]) (zy, zn)) | [_, _, z] => ∃ a b : Value, St w0 w (.box g10 109 #[.bool zr, .int .u64 (zy : Nat), .int .u64 (zn : Nat), .int .i64 zt, .int .i64 zo] :: .own (.slice Arv j crv) 84 5 j xs :: .box g 43 #[.int .i64 pr, .pointer (some ⟨q', 0, none⟩), .slice Au nu cu, .slice Arv j crv, .slice A4 nl.length c4, .slice B4 gl.length d4] :: .box g2 43 #[.int .i64 0, .pointer none, .slice none 0 0, .slice none 0 0, .slice none 0 0, .slice none 0 0] :: .box g1 30 #[.int .i64 pr, .slice Al L.length cl, .int .u64 (ps : Nat), .slice (some ⟨bk, o, none⟩) rl.length cr, .slice An nl.length cn, .slice Ag gl.length cg] :: F) (fun D w => (K6 D w /\ AH w D (.agg #[a, b]) (zy, zn)) /\ Sl w D 5 z 1 [.bool zr, a, b, .int .i64 zt, .int .i64 zo]) | [_, _, _, p'] => ∃ a b : Value, St w0 w (.box g10 109 #[.bool zr, .int .u64 (zy : Nat), .int .u64 (zn : Nat), .int .i64 zt, .int .i64 zo] :: .own p' 84 5 (j + 1) (xs ++ [.bool zr, a, b, .int .i64 zt, .int .i64 zo]) :: .box g 43 #[.int .i64 pr, .pointer (some ⟨q', 0, none⟩), .slice Au nu cu, .slice Arv j crv, .slice A4 nl.length c4, .slice B4 gl.length d4] :: .box g2 43 #[.int .i64 0, .pointer none, .slice none 0 0, .slice none 0 0, .slice none 0 0, .slice none 0 0] :: .box g1 30 #[.int .i64 pr, .slice Al L.length cl, .int .u64 (ps : Nat), .slice (some ⟨bk, o, none⟩) rl.length cr, .slice An nl.length cn, .slice Ag gl.length cg] :: F) (fun D w => K6 D w /\ AH w D (.agg #[a, b]) (zy, zn)) | [_, _, _, p', _] => ∃ a b : Value, St w0 w (.box g10 109 #[.bool zr, .int .u64 (zy : Nat), .int .u64 (zn : Nat), .int .i64 zt, .int .i64 zo] :: .own p' 84 5 (j + 1) (xs ++ [.bool zr, a, b, .int .i64 zt, .int .i64 zo]) :: .box g 43 #[.int .i64 pr, .pointer (some ⟨q', 0, none⟩), .slice Au nu cu, p', .slice A4 nl.length c4, .slice B4 gl.length d4] :: .box g2 43 #[.int .i64 0, .pointer none, .slice none 0 0, .slice none 0 0, .slice none 0 0, .slice none 0 0] :: .box g1 30 #[.int .i64 pr, .slice Al L.length cl, .int .u64 (ps : Nat), .slice (some ⟨bk, o, none⟩) rl.length cr, .slice An nl.length cn, .slice Ag gl.length cg] :: F) (fun D w => K6 D w /\ AH w D (.agg #[a, b]) (zy, zn)) | _ => False) ?_ ⟨vF, ?_, vF, ?_, vF, ?_, ?_, vF, ?_, vF, ?_, ?_, ?_, ?_, vF, ?_, trivial⟩ ?_
      ·first | assumption | (dsimp only; assumption)
      ·refine vR 0 3 fun b__ w vs hS h1 h2 hE K hK => ?_
       rcases vs with _ | ⟨x0, _ | ⟨x1, _ | ⟨x2, _ | ⟨x3, vs⟩⟩⟩⟩ <;> first | (exfalso; first | exact hS | (revert h1 h2; simp <;> omega); done) | ((have e54 := hE 54); (first | exact Az rfl e54 (by kernel_rfl) (hS.shut 2 rfl 3 rfl) (hK _ rfl) | (obtain ⟨_, _, hS⟩ := hS; exact Az rfl e54 (by kernel_rfl) (hS.shut 2 rfl 3 rfl) (hK _ rfl)) | (obtain ⟨_, _, _, hS⟩ := hS; exact Az rfl e54 (by kernel_rfl) (hS.shut 2 rfl 3 rfl) (hK _ rfl))))
      ·refine vR 0 1 fun b__ w vs hS h1 h2 hE K hK => ?_
       rcases vs with _ | ⟨x0, _ | ⟨x1, vs⟩⟩ <;> first | (exfalso; first | exact hS | (revert h1 h2; simp <;> omega); done) | ((have e56 := hE 56); (first | exact Az rfl e56 (by kernel_rfl) (hS.shut 0 rfl 0 rfl) (hK _ rfl) | (obtain ⟨_, _, _, hS⟩ := hS; exact Az rfl e56 (by kernel_rfl) (hS.shut 0 rfl 0 rfl) (hK _ rfl))))
      ·refine vR 0 0 fun b__ w vs hS h1 h2 hE K hK => ?_
       rcases vs with _ | ⟨x0, vs⟩ <;> first | (exfalso; first | exact hS | (revert h1 h2; simp <;> omega); done) | ((have e58 := hE 58); (exact AU (cs := [.int .u64 (zy : Nat), .int .u64 (zn : Nat)]) rfl e58 (rng2 (hS.shut 0 rfl 1 rfl) (hS.shut 0 rfl 2 rfl)) Tryz.underlying50 rfl (by kernel_rfl) (hK _ rfl)))
      ·refine vX 0 fun b__ w vs hS hl hE K hK => ?_
       obtain rfl := Hu hl
       have e59 := hE 59
       refine Br rfl (by kernel_rfl) (by simp only [List.map_cons, List.map_nil, e59]) (F3 zy zn HZ.out.1 HZ.out.2 _) fun e w' ⟨z, he, hx, hb_⟩ => ⟨z, he, ?_⟩
       obtain ⟨a, b, rfl, -, -⟩ := id hx
       exact hK _ w' ⟨a, b, rfl, hS.ret hb_ CL hx⟩
      ·refine vR 0 1 fun b__ w vs hS h1 h2 hE K hK => ?_
       rcases vs with _ | ⟨x0, _ | ⟨x1, vs⟩⟩ <;> first | (exfalso; first | exact hS | (revert h1 h2; simp <;> omega); done) | ((have e61 := hE 61); (first | exact Az rfl e61 (by kernel_rfl) (hS.shut 0 rfl 3 rfl) (hK _ rfl) | (obtain ⟨_, _, _, hS⟩ := hS; exact Az rfl e61 (by kernel_rfl) (hS.shut 0 rfl 3 rfl) (hK _ rfl))))
      ·refine vR 0 1 fun b__ w vs hS h1 h2 hE K hK => ?_
       rcases vs with _ | ⟨x0, _ | ⟨x1, vs⟩⟩ <;> first | (exfalso; first | exact hS | (revert h1 h2; simp <;> omega); done) | ((have e63 := hE 63); (first | exact Az rfl e63 (by kernel_rfl) (hS.shut 0 rfl 4 rfl) (hK _ rfl) | (obtain ⟨_, _, _, hS⟩ := hS; exact Az rfl e63 (by kernel_rfl) (hS.shut 0 rfl 4 rfl) (hK _ rfl))))
      ·refine vX 1 fun b__ w vs hS hl hE K hK => ?_
       obtain ⟨x0, rfl⟩ := FA hl
       have e57 := hE 57
       have e60 := hE 60
       have e62 := hE 62
       have e64 := hE 64
       obtain ⟨a, b, rfl, hS⟩ := hS
       exact B9 rfl (ps := [(0, .bool zr), (1, .agg #[a, b]), (2, .int .i64 zt), (3, .int .i64 zo)]) (cells := #[.bool zr, a, b, .int .i64 zt, .int .i64 zo]) (by simp [e57, e60, e62, e64]) (by kernel_rfl) (hK _ _ ⟨a, b, rfl, hS⟩)
      ·refine vX 2 fun b__ w vs hS hl hE K hK => ?_
       obtain ⟨x0, x1, rfl⟩ := Fz hl
       have e65 := hE 65
       obtain ⟨a, b, rfl, hS⟩ := hS
       refine AX (ps := [(0, .agg #[.bool zr, a, b, .int .i64 zt, .int .i64 zo])]) (cells := #[.bool zr, a, b, .int .i64 zt, .int .i64 zo]) rfl Tryz.underlying40 (by simp [e65]) (by kernel_rfl) ?_
       intro w' hbx hbel
       exact hK _ w' ⟨a, b, hS.ret hbel (Av (by decide)) (⟨by simp, _, 1, rfl, by omega, by unfold maxLen; omega, fun _ => ⟨w.heap.size, 0, rfl, Nat.le_refl _, hbx.lt, fun j x hj => by rw [Nat.zero_add]; exact (hbx.cell j).trans (by simpa using hj)⟩⟩ : Sl w' (w.heap.size <= ·) 5 (.slice (some ⟨w.heap.size, 0, none⟩) 1 1) 1 [.bool zr, a, b, .int .i64 zt, .int .i64 zo])⟩
      ·refine vX 3 fun b__ w vs hS hl hE K hK => ?_
       obtain ⟨x0, x1, x2, rfl⟩ := Ht hl
       have e55 := hE 55
       have e66 := hE 66
       obtain ⟨a, b, h3⟩ := hS
       refine CF rfl ty_rules e55 (h3.own 1 rfl) e66 h3.ro.2 (by obtain ⟨_, _, he, hy, hn⟩ := h3.ro.1.2; injection he with he; injection he with he; injection he with e1 he; injection he with e2 he; subst e1 e2; obtain ⟨A8, m8, c8, rfl⟩ := hy.shape; obtain ⟨B8, k8, d8, rfl⟩ := hn.shape; intro u hu; simp at hu; rcases hu with rfl | rfl | rfl | rfl | rfl <;> rfl) (by omega) (by omega) h3.size ?_
       intro v' w' ho hg hat
       exact hK v' w' ⟨a, b, (h3.upd 1 rfl (.own v' 84 5 (j + 1) (xs ++ [.bool zr, a, b, .int .i64 zt, .int .i64 zo])) hg ho hat).mono (KS6.out.and CL) fun D w h => h.1⟩
      ·refine vX 4 fun b__ w vs hS hl hE K hK => ?_
       obtain ⟨x0, x1, x2, x3, rfl⟩ := vs_len4 hl
       have e68 := hE 68
       have e67 := hE 67
       obtain ⟨a, b, h3⟩ := hS
       refine BE rfl e68 e67 (h3.box 2 rfl) (by simp) (GF (h3.own 1 rfl)) (own_one (h3.own 1 rfl)) (by kernel_rfl) ?_
       intro w' hbx hup
       exact hK _ w' ⟨a, b, h3.upd 2 rfl (.box g 43 #[.int .i64 pr, .pointer (some ⟨q', 0, none⟩), .slice Au nu cu, x3, .slice A4 nl.length c4, .slice B4 gl.length d4]) (Bh hup) ⟨(h3.holds _ (List.mem_of_getElem? (i := 2) rfl)).1, hbx⟩ fun _ e => .inl e⟩
      ·intro us wz vs hS hl hT
       obtain ⟨x0, x1, x2, x3, x4, rfl⟩ := vs_len5 hl
       obtain ⟨e54, e55, e56, e57, e58, e59, e60, e61, e62, e63, e64, e65, e66, e67, e68, -⟩ := hT
       clear hl
       simp only [Ak, Act.put, zz, ze]
       obtain ⟨a, b, hS⟩ := hS
       clear h0d
       go_wp2_with fail
       have hxl := HLT.out
       refine ⟨⟨j + 1, _, xs ++ [.bool zr, a, b, .int .i64 zt, .int .i64 zo], by go_num, hlj, (hS.sub (List.sublist_cons_self _ _)).mono (KS5.out.and DR) fun D w h => ⟨(k6.out _ _ h.1).1, ?_⟩⟩, by simp [intOf]; omega⟩
       rw [HT.out]
       have hz := (hS.own 1 rfl).1
       exact BC.append (by simp at hz; omega) (k6.out _ _ h.1).2 (BC.single (z := ⟨zr, zy, zn, zt, zo⟩) (cube_sets h.2).1 (cube_sets h.2).2)
     ·obtain rfl : rl.length = j := by omega
      rw [List.take_length] at hS
      go_wp2_with (first | ((with_reducible refine qB ?_); refine qc ?_ ?_ <;> intro h_ <;> go_prune))
      obtain ⟨K7, k7, ks7, hS2⟩ : ∃ K7 : (Nat -> Prop) -> World -> Prop, Hid (∀ D w, K7 D w -> (K5 D w /\ BC w D xs rl) /\ Sl w D 5 (.slice Arv rl.length crv) rl.length xs) /\ AC K7 /\ St w0 wr (.box g 43 #[.int .i64 pr, .pointer (some ⟨q', 0, none⟩), .slice Au nu cu, .slice Arv rl.length crv, .slice A4 nl.length c4, .slice B4 gl.length d4] :: .box g2 43 #[.int .i64 0, .pointer none, .slice none 0 0, .slice none 0 0, .slice none 0 0, .slice none 0 0] :: .box g1 30 #[.int .i64 pr, .slice Al L.length cl, .int .u64 (ps : Nat), .slice Ar rl.length cr, .slice An nl.length cn, .slice Ag gl.length cg] :: F) K7 := ⟨_, Lib.hid fun _ _ h => h, (hS.freeze 0 (by decide) rfl).stable, hS.freeze 0 (by decide) rfl⟩
      clear hS
      have hS := hS2
      clear hS2
      have hJ0 : St w0 wr.drew (.box g 43 #[.int .i64 pr, .pointer (some ⟨q', 0, none⟩), .slice Au nu cu, .slice Arv rl.length crv, .slice A4 nl.length c4, .slice B4 gl.length d4] :: .box g2 43 (cond (false, false).1 #[.int .i64 pr, .pointer (some ⟨q', 0, none⟩), .slice Au nu cu, .slice Arv rl.length crv, .slice A4 nl.length c4, .slice B4 gl.length d4] #[.int .i64 0, .pointer none, .slice none 0 0, .slice none 0 0, .slice none 0 0, .slice none 0 0]) :: .box g1 30 #[.int .i64 pr, .slice Al L.length cl, .int .u64 (ps : Nat), .slice Ar rl.length cr, .slice An nl.length cn, .slice Ag gl.length cg] :: F) K7 := hS.drew
      have hRr := @SR.refl w0 (fun s => .box g 43 #[.int .i64 pr, .pointer (some ⟨q', 0, none⟩), .slice Au nu cu, .slice Arv rl.length crv, .slice A4 nl.length c4, .slice B4 gl.length d4] :: .box g2 43 (cond s.1 #[.int .i64 pr, .pointer (some ⟨q', 0, none⟩), .slice Au nu cu, .slice Arv rl.length crv, .slice A4 nl.length c4, .slice B4 gl.length d4] #[.int .i64 0, .pointer none, .slice none 0 0, .slice none 0 0, .slice none 0 0, .slice none 0 0]) :: .box g1 30 #[.int .i64 pr, .slice Al L.length cl, .int .u64 (ps : Nat), .slice Ar rl.length cr, .slice An nl.length cn, .slice Ag gl.length cg] :: F) K7
      have hRt := @SR.trans w0 (fun s => .box g 43 #[.int .i64 pr, .pointer (some ⟨q', 0, none⟩), .slice Au nu cu, .slice Arv rl.length crv, .slice A4 nl.length c4, .slice B4 gl.length d4] :: .box g2 43 (cond s.1 #[.int .i64 pr, .pointer (some ⟨q', 0, none⟩), .slice Au nu cu, .slice Arv rl.length crv, .slice A4 nl.length c4, .slice B4 gl.length d4] #[.int .i64 0, .pointer none, .slice none 0 0, .slice none 0 0, .slice none 0 0, .slice none 0 0]) :: .box g1 30 #[.int .i64 pr, .slice Al L.length cl, .int .u64 (ps : Nat), .slice Ar rl.length cr, .slice An nl.length cn, .slice Ag gl.length cg] :: F) K7
      have hN0 : ∀ _ : Nat, True := fun _ => trivial
      clear hS
      refine Ex (SR w0 (fun s => .box g 43 #[.int .i64 pr, .pointer (some ⟨q', 0, none⟩), .slice Au nu cu, .slice Arv rl.length crv, .slice A4 nl.length c4, .slice B4 gl.length d4] :: .box g2 43 (cond s.1 #[.int .i64 pr, .pointer (some ⟨q', 0, none⟩), .slice Au nu cu, .slice Arv rl.length crv, .slice A4 nl.length c4, .slice B4 gl.length d4] #[.int .i64 0, .pointer none, .slice none 0 0, .slice none 0 0, .slice none 0 0, .slice none 0 0]) :: .box g1 30 #[.int .i64 pr, .slice Al L.length cl, .int .u64 (ps : Nat), .slice Ar rl.length cr, .slice An nl.length cn, .slice Ag gl.length cg] :: F) K7) (fun _ _ => True) ((false, false)) hRr hRt [.i (.agg #[.int .i64 pr, .pointer (some ⟨q', 0, none⟩), .slice Au nu cu, .slice Arv rl.length crv, .slice A4 nl.length c4, .slice B4 gl.length d4]), .q g 1, .q q' 0, .b true, .s (fun v w => w.2.1 = true) fun v w w' h hb => hb.2.1 h, .b true] ?_ ⟨uR (h := fun w hW hN => (hW.1 hJ0).box 0 rfl), uF, uC (h := fun w hW hN => (hW.1 hJ0).shut 0 rfl 1 rfl), uB (h := fun w hW hN => run_pnil _ _), ?_, uA, trivial⟩ ?_
      ·first | assumption | (intro i; (try dsimp only); split <;> first | trivial | assumption | (left; assumption))
      ·refine uG fun b__ w hW hN hE K hK => ?_
       have e2 : b__.eval (.tmp 2) = .pointer (some ⟨g2, 0, none⟩) := hE 2
       have e70 := hE 70
       have hS := hW.1 hJ0
       exact Dg rfl e2 e70 (hS.box 1 rfl) (by kernel_rfl) (by cases w.2.1 <;> rfl) (by simp [Value.oneCell']) fun w4 h1 hU => hK undef (w4, (true, w.2.2)) rfl ⟨⟨fun _ => hS.upd 1 rfl (.box g2 43 #[.int .i64 pr, .pointer (some ⟨q', 0, none⟩), .slice Au nu cu, .slice Arv rl.length crv, .slice A4 nl.length c4, .slice B4 gl.length d4]) (Bh hU) ⟨(hS.holds _ (List.mem_of_getElem? (i := 1) rfl)).1, h1⟩ fun _ e => .inl e, fun _ => rfl, id⟩, fun _ _ h => h⟩
      ·intro vs wz hW hT
       obtain ⟨e70, e71, e72, e73, z4, e3, -⟩ := hT
       have bx : (fun _ : Nat => True) 0 := trivial
       simp only [Ak, Act.put, zz, ze]
       obtain ⟨_, hst⟩ := z4
       have hS : St w0 wz.1 (.box g 43 #[.int .i64 pr, .pointer (some ⟨q', 0, none⟩), .slice Au nu cu, .slice Arv rl.length crv, .slice A4 nl.length c4, .slice B4 gl.length d4] :: .box g2 43 (cond wz.2.1 #[.int .i64 pr, .pointer (some ⟨q', 0, none⟩), .slice Au nu cu, .slice Arv rl.length crv, .slice A4 nl.length c4, .slice B4 gl.length d4] #[.int .i64 0, .pointer none, .slice none 0 0, .slice none 0 0, .slice none 0 0, .slice none 0 0]) :: .box g1 30 #[.int .i64 pr, .slice Al L.length cl, .int .u64 (ps : Nat), .slice Ar rl.length cr, .slice An nl.length cn, .slice Ag gl.length cg] :: F) K7 := hW.1 hJ0
       rw [show wz.2.1 = true from hst] at hS
       dsimp only [cond] at hS
       clear hW hJ0 hRr hRt hN0 hst
       generalize wz.1 = wf at *
       simp only [show vs (3 : Nat) = _ from e3]
       go_wp2_with fail
       refine CH Tryz.results16 rfl (hS.box 1 rfl) Tryz.underlying43 rfl (by kernel_rfl) rfl rfl ?_
       refine ⟨_, rfl, (hS.sub (F' := F) (((List.sublist_cons_self _ _).trans (List.sublist_cons_self _ _)).trans (List.sublist_cons_self _ _))).mono (KSt.out.and stable_prob) fun D w h => ?_⟩
       have h := k7.out _ _ h
       have h2 := kc.out _ _ (k5 _ _ h.1.1)
       exact ⟨k0 _ _ (k5 _ _ h.1.1), _, _, _, _, _, rfl, kh.out _ _ h.1.1, h2.1, ⟨_, h.2, h.1.2⟩, h2.2.1, h2.2.2⟩
theorem Gl.fits {p : AK} {L : List (Nat × Nat)} {R : Nat} (h : Gl p L R) : Fits p := by
 have hm : Da R < AM := by
  have : 2 ^ (R + 1) <= 2 ^ 6 := Nat.pow_le_pow_right (by decide) (by have := h.r5; omega)
  unfold Da AM; omega
 refine ⟨?_, fun z hz => ?_, by have := h.rlen; omega, fun z hz => ?_, by have := h.nlen; omega, fun z hz => ?_, by have := h.glen; omega⟩
 ·rw [<- h.start]; exact Nat.lt_of_le_of_lt Nat.and_le_right hm
 ·have := (h.rules z hz).2.2.2.2.2
  unfold AM; omega
 ·have := (h.never z hz).1.2.2.2
  unfold AM; omega
 ·have := (h.goal z hz).2.2.2
  unfold AM; omega
end
section
open Go.RowKit
set_option exponentiation.threshold 5000
def H3 (N : Nat) (r : Bk) : Nat := if r.revoke then del N r.target else C6 N r.target
noncomputable def closP (p : AK) (N : Nat) : Nat := match p.links with
 | some L => closM L N
 | none => 0
noncomputable def stepB (p : AK) (N : Nat) (r : Bk) : Bool := !(((Bv N r.target != r.revoke) || (!r.revoke && !Bg (r.yes, r.no) (closP p N))) || !goodB p (H3 N r))
noncomputable def stepM (p : AK) (N : Nat) (k : Int) : Option Nat :=
 if 0 <= k /\ k < p.rules.length /\ p.links.isSome = true then (if stepB p N (p.rules.getD k.toNat Bb) = true then some (H3 N (p.rules.getD k.toNat Bb)) else none) else none
theorem stepM_none {p : AK} {N : Nat} {k : Int} (h : ¬ (0 <= k /\ k < p.rules.length /\ p.links.isSome = true)) : stepM p N k = none := if_neg h
theorem I7 {p : AK} {L : List (Nat × Nat)} {N j : Nat} (hl : p.links = some L) (hj : j < p.rules.length) : stepM p N (j : Nat) = if stepB p N (p.rules.getD j Bb) = true then some (H3 N (p.rules.getD j Bb)) else none := by
 unfold stepM
 rw [if_pos ⟨by omega, by omega, by rw [hl]; rfl⟩, Int.toNat_natCast]
theorem sl_pos {w : World} {D : Nat -> Prop} {size n c : Nat} {A : Option Addr} {xs : List Value} (h : Sl w D size (.slice A n c) n xs) (hn : 0 < n) : ∃ b o, A = some ⟨b, o, none⟩ := by
 obtain ⟨_, A', c', e, _, _, h3⟩ := h
 injection e with e _ _
 subst e
 obtain ⟨b, o, e, _⟩ := h3 hn
 exact ⟨b, o, e⟩
end
section
open Go.RowKit
set_option exponentiation.threshold 5000
def PE : AK := ⟨3, some [(1, 2)], 0, [⟨false, 0, 0, 1, 0⟩, ⟨false, 4, 0, 3, 1⟩], [(10, 0)], []⟩
theorem e12_hok : Gm [(1, 2)] := by
 refine ⟨?_, ?_, acyc_up ?_⟩
 ·unfold Asc; simp
 ·simp
 ·simp
theorem PE_fits : Fits PE := by
 refine ⟨by decide, ?_, by decide, ?_, by decide, ?_, by decide⟩
 ·unfold PE AM; simp
 ·unfold PE Small AM; simp
 ·unfold PE Small; simp
theorem clos12_0 : closM [(1, 2)] 0 = 0 := Bi fun i => by
 unfold closM
 rw [De]
 simp
theorem clos12_2 : closM [(1, 2)] 2 = 6 := Bi fun i => by
 unfold closM
 rw [De, show (6 : Nat) = 2 ^ 1 ||| 2 ^ 2 from rfl, Dz, C2, C2]
 constructor
 ·rintro ⟨r, h1, h2, h3, h4⟩
  rw [show (2 : Nat) = 2 ^ 1 from rfl, C2] at h3
  subst h3
  rw [Ed IE (by omega), tc12] at h4
  omega
 ·intro h
  refine ⟨1, by omega, by omega, by decide, ?_⟩
  rw [Ed IE (by omega), tc12]
  omega
theorem clos12_10 : closM [(1, 2)] 10 = 14 := Bi fun i => by
 unfold closM
 rw [De, show (14 : Nat) = (2 ^ 1 ||| 2 ^ 2) ||| 2 ^ 3 from rfl, Dz, Dz, C2, C2, C2]
 constructor
 ·rintro ⟨r, h1, h2, h3, h4⟩
  rw [show (10 : Nat) = 2 ^ 1 ||| 2 ^ 3 from rfl, Dz, C2, C2] at h3
  rw [Ed IE (by omega), tc12] at h4
  omega
 ·rintro (h | h)
  ·refine ⟨1, by omega, by omega, by decide, ?_⟩
   rw [Ed IE (by omega), tc12]
   omega
  ·refine ⟨3, by omega, by omega, by decide, ?_⟩
   rw [Ed IE (by omega)]
   omega
theorem PE_good0 : goodB PE PE.start = true := by
 show (!(([(10, 0)] : List (Nat × Nat)).any fun z => Bg z (closM [(1, 2)] 0))) = true
 rw [clos12_0]
 decide
theorem PE_good2 : goodB PE 2 = true := by
 show (!(([(10, 0)] : List (Nat × Nat)).any fun z => Bg z (closM [(1, 2)] 2))) = true
 rw [clos12_2]
 decide
theorem PE_good10 : goodB PE 10 = false := by
 show (!(([(10, 0)] : List (Nat × Nat)).any fun z => Bg z (closM [(1, 2)] 10))) = false
 rw [clos12_10]
 decide
theorem PE_check : checkE PE = 0 := by
 rw [show checkE PE = if PE.roles < 1 \/ 63 < PE.roles then 1 else if 64 < PE.rules.length \/ 2000 < PE.never.length \/ 2000 < PE.goal.length then 3 else if Co PE [(1, 2)] (AP PE.roles.toNat) = false then 4 else if (PE.cubes.any fun z => z.1 &&& z.2 != 0) = true \/ PE.rules.all FQ = false then 6 else if goodB PE PE.start = false then 7 else 0 from rfl, if_neg (by decide), if_neg (by decide), if_neg (by decide), if_neg (by decide), PE_good0]
 simp
theorem PE_step0 : stepM PE 0 0 = some 2 := by
 have h := I7 (p := PE) (N := 0) (j := 0) rfl (by decide)
 rw [show stepM PE 0 0 = stepM PE 0 ((0 : Nat) : Int) from rfl, h]
 have hb : stepB PE 0 (PE.rules.getD 0 Bb) = true := by
  show (!(((Bv 0 1 != false) || (!false && !Bg (0, 0) (closM [(1, 2)] 0))) || !goodB PE 2)) = true
  rw [clos12_0, PE_good2]
  decide
 rw [if_pos hb]
 rfl
theorem PE_step1 : stepM PE 2 1 = none := by
 have h := I7 (p := PE) (N := 2) (j := 1) rfl (by decide)
 rw [show stepM PE 2 1 = stepM PE 2 ((1 : Nat) : Int) from rfl, h]
 have hb : stepB PE 2 (PE.rules.getD 1 Bb) = false := by
  show (!(((Bv 2 3 != false) || (!false && !Bg (4, 0) (closM [(1, 2)] 2))) || !goodB PE 10)) = false
  rw [clos12_2, PE_good10]
  decide
 rw [if_neg (by rw [hb]; simp)]
theorem PE_ok : PE.Ok := ⟨by decide, by decide, by decide, fun L h => by obtain rfl : [(1, 2)] = L := Option.some.inj h; exact ⟨e12_hok, by decide⟩⟩
end
section
open Go.RowKit
attribute [local go_sem ↓] Go.wp_at_zero Go.wp_at_succ
set_option maxRecDepth 20000
set_option exponentiation.threshold 5000
theorem B0.cells {w : World} {D : Nat -> Prop} {v : Value} {p : AK} (h : B0 w D v p) : ∃ cs, v = .agg cs /\ cs.size = 6 /\ cs.all (·.oneCell') = true := by
 obtain ⟨lv, rv, nv, gv, L, rfl, _, h1, h2, h3, h4⟩ := h
 obtain ⟨_, _, rfl, _, _⟩ := h1.shape
 obtain ⟨_, _, rfl, _, _⟩ := h2.shape
 obtain ⟨_, _, rfl, _, _⟩ := Sl.shape (h3 : Sl _ _ _ _ _ _)
 obtain ⟨_, _, rfl, _, _⟩ := Sl.shape (h4 : Sl _ _ _ _ _ _)
 exact ⟨_, rfl, rfl, by simp [Value.oneCell']⟩
end
section
open Go.RowKit
attribute [local go_sem ↓] Go.wp_at_zero Go.wp_at_succ
set_option maxRecDepth 20000
set_option exponentiation.threshold 5000
theorem freezeGe {w0 w : World} {F : List Ac} {K : (Nat -> Prop) -> World -> Prop} (h : St w0 w F K) (i : Nat) {v : Value} {e : TypeId} {size n : Nat} {xs : List Value} (hsz : 0 < size) (hi : F[i]? = some (.own v e size n xs)) : St w0 w (F.eraseIdx i) fun D w => K D w /\ Sl w (fun z => D z /\ w0.heap.size <= z) size v n xs := by
 have hlt := (List.getElem?_eq_some_iff.1 hi).1
 have hfF : Ac.own v e size n xs ∈ F := List.mem_of_getElem? hi
 have ho : w.ownsRow w0.heap.size e size v n xs := h.holds _ hfF
 have hsl : Sl w (fun b => v.ownBlock = some b /\ w0.heap.size <= b) size v n xs := by
  refine ⟨ho.1, ?_⟩
  obtain ⟨_, A, c, h1, h2, h3, h4⟩ := Sl.of_own ho
  refine ⟨A, c, h1, h2, h3, fun hn => ?_⟩
  obtain ⟨b, o, h5, h6, h7, h8⟩ := h4 hn
  refine ⟨b, o, h5, ⟨?_, h6⟩, h7, h8⟩
  rcases ho.2 with ⟨rfl, rfl⟩ | ⟨g, cap, cur, rfl, _⟩
  ·omega
  ·injection h1 with h1; subst h5; simp [Value.ownBlock, h1]; simp at h1; exact h1.1
 refine (h.sub (List.eraseIdx_sublist _ _)).add (D := fun b => v.ownBlock = some b) (C3 (Av hsz) fun z => w0.heap.size <= z) hsl fun b hb _ g hg e => ?_
 obtain ⟨j, hj⟩ := List.mem_iff_getElem?.1 hg
 rw [List.getElem?_eraseIdx] at hj
 have e1 : F[i] = Ac.own v _ size n xs := (List.getElem?_eq_some_iff.1 hi).2
 split at hj
 ·have := List.pairwise_iff_getElem.1 h.apart j i (by omega) hlt (by omega) b (by rw [(List.getElem?_eq_some_iff.1 hj).2]; exact e)
  rw [e1] at this; exact this hb
 ·have hjl := (List.getElem?_eq_some_iff.1 hj).1
  have := List.pairwise_iff_getElem.1 h.apart i (j + 1) hlt hjl (by omega) b (by rw [e1]; exact hb)
  rw [(List.getElem?_eq_some_iff.1 hj).2] at this; exact this e
theorem St.goodNew {w0 w w' : World} {F : List Ac} {K : (Nat -> Prop) -> World -> Prop} (h : St w0 w F K) (hb : Below w.heap.size w w') {Bs cap : Nat} {A : Option Addr} {ws : List Nat} (hs : Sl w' (w.heap.size <= ·) 1 (.slice A ws.length cap) ws.length (Bo ws)) (hT : Bl w) (hF : DW F 0)
  (hB : w.heap.size <= Bs) (hX : BS w' Bs 39 #[.slice A ws.length cap]) : St w0 w' F fun D w => K D w /\ GoodK Bs A cap ws D w := by
 refine (h.ext hb).add (D := DW F) GW ⟨⟨(hX.cell 0).trans rfl, fun h0 => ?_, hT.ext hb⟩, h.fresh hB, fun b off e h0 => ?_, hF⟩ fun _ h _ => h
 ·obtain ⟨_, A', c', e, _, _, h2⟩ := hs
  obtain ⟨b, o, h3, h4, h6, h5⟩ := h2 h0
  injection e with e
  exact ⟨b, o, e.trans h3, fun j hj => h5 j _ (Cr _ _ hj)⟩
 ·obtain ⟨_, A', c', e', _, _, h2⟩ := hs
  obtain ⟨b', o', h3, h4, h6, h5⟩ := h2 h0
  injection e' with e'
  rw [e, h3] at e'; injection e' with e'; injection e' with e1; subst e1; exact h.fresh h4
def AllNew (B M : Nat) (v : Value) (w : World) : Prop := ∃ Bs A cap ws, v = .func (.func 142) #[] #[.pointer (some ⟨Bs, 0, none⟩)] /\ Bw ws /\ val ws = M /\ Sl w (fun z => B <= z) 1 (.slice A ws.length cap) ws.length (Bo ws) /\ B <= Bs /\ BS w Bs 39 #[.slice A ws.length cap]
theorem AllNew.ext {B M : Nat} {v : Value} {w w' : World} (h : AllNew B M v w) (hb : Below w.heap.size w w') : AllNew B M v w' := by
 obtain ⟨Bs, A, cap, ws, h1, h2, h3, h4, h5, h6⟩ := h
 exact ⟨Bs, A, cap, ws, h1, h2, h3, h4.ext hb, h5, h6.ext hb⟩
section
variable {P : Program} {ops : Array Oper} {a : Act} {Q : Exit -> Act -> World -> Prop}
theorem wp_zTin {id r n : Nat} {W : World} (hQ : ∀ a w, ¬ Q .outgrown a w) (l : List (Sp RT)) (hr : Cp (kdT W) P ops l a Q [] 0 ops.toList)
  (hpost : ∀ vs w, Below W.heap.size W w -> Fx false vs w ops.toList l -> Q .normal ⟨Ak vs ops.toList a.tmps, a.defers⟩ w) (hm : P.follows .mixedOrders = true := by kernel_rfl) (hk : tOk ops a.tmps.size = true := by kernel_rfl) (hd : EZ ops.toList = true := by rfl) : (Code.region id ops true).wpIn (Fence.wide.inRound r) n P Q a W := by
 refine Ci hm hQ hd ?_
 refine GU (T := Sp.T l) (W := W.drew) (a0 := a) (fun i v w w' h hb => Sp.mono h hb) hk ?_ (fun b w hW hdf hsz hold hT => ?_) _ _ _ _ (by simp) ?_ ⟨Below.refl _ _, rfl, rfl, fun _ _ => rfl, fun i o d ho hl _ => ?_⟩
 ·suffices H : ∀ (r : List Oper) (k : Nat), (∀ i o, r[i]? = some o -> BR (kdT W) P ops l a Q (k + i) o) -> D9 P ops (Sp.T l) a W.drew Q k r from H _ 0 fun i o ho => (Cp.at _ _ hr i o ho).resolve_left (by simp)
  intro r
  induction r with
  | nil => intro _ _; trivial
  | cons o r ih => exact fun k h => ⟨(h 0 o (by simp)).tr, ih (k + 1) fun i o ho => by have := h (i + 1) o (by simpa using ho); rwa [show k + (i + 1) = k + 1 + i by omega] at this⟩
 ·obtain ⟨vs, hvs, hb⟩ := EG hdf hsz (fun t ht => hold t (BM ht))
  subst hb
  exact hpost vs w (DP hW) (Fx.of (L := l) _ _ 0 (fun i => by simp) (fun i o d h1 _ h3 => by rw [Nat.zero_add, <- hvs]; exact hT i o d (by simpa using h1) h3) fun e => by cases e)
 ·unfold BI; exact Nat.le_trans (List.length_filter_le _ _) (by simp)
 ·exfalso
  have hlt := (Array.getElem?_eq_some_iff.1 ho).1
  simp [hlt] at hl
end
theorem openK {w0 w : World} {F : List Ac} {K A : (Nat -> Prop) -> World -> Prop} (h : St w0 w F K) (hA : ∀ D w, K D w -> A D w) : ∃ K' : (Nat -> Prop) -> World -> Prop, (∀ D w, K' D w -> A D w) /\ AC K' /\ St w0 w F K' := ⟨K, hA, h.stable, h⟩
theorem ret_cc {P : Program} {fn : Func} {p p2 : Tmp} {ty ty2 : TypeId} {a : Act} {w : World} {g g2 : Nat} {x x2 : Value} (h : fn.results = #[.cell p ty, .cell p2 ty2]) (hp : a.eval (.tmp p) = .pointer (some ⟨g, 0, none⟩)) (hc : w.cell? ⟨g, 0, none⟩ = some x) (hu : Em P ty = true)
  (hp2 : a.eval (.tmp p2) = .pointer (some ⟨g2, 0, none⟩)) (hc2 : w.cell? ⟨g2, 0, none⟩ = some x2) (hu2 : Em P ty2 = true) : (results fn a.tmps).run P w = .ok (.tuple #[x, x2]) w := by
 have hp' : a.tmps[p]?.getD undef = .pointer (some ⟨g, 0, none⟩) := by simpa [Act.eval] using hp
 have hp2' : a.tmps[p2]?.getD undef = .pointer (some ⟨g2, 0, none⟩) := by simpa [Act.eval] using hp2
 have hl : (loadVar ty ⟨g, 0, none⟩).run P w = .ok x w := by
  have := DT (P := P) (w := w) hu hc
  simpa [Instr.loadAt, Instr.sureAddr] using this
 have hl2 : (loadVar ty2 ⟨g2, 0, none⟩).run P w = .ok x2 w := by
  have := DT (P := P) (w := w) hu2 hc2
  simpa [Instr.loadAt, Instr.sureAddr] using this
 simp [results, h, hp', hp2', asAddr, hl, hl2]
set_option maxHeartbeats 4000000 in
theorem G8 {w0 : World} {D E : Nat -> Prop} {v u : Value} {p : AK} {L : List (Nat × Nat)} {r : Nat} {z : Nat × Nat} (hp : BQ w0 D v p) (hl : p.links = some L) (hr : p.roles = (r : Int)) (hr5 : r <= 5) (hH : Gm L) (hT : Bl w0) (hu : AH w0 E u z) :
  Calls Tryz.prog 19 #[v, u] w0 (AF (fun x w' => ∃ s rs e, x = .tuple #[s, .int .i64 e] /\ Aj w' (w0.heap.size <= ·) s rs /\ J1 L (AP r) z rs e) w0) := by
 obtain ⟨N, hN⟩ : ∃ N, N = AP r := ⟨_, rfl⟩
 rw [<- hN]
 have HN := Lib.hid hN
 clear hN
 obtain ⟨R, lk, st, rl, nl, gl⟩ := p
 dsimp only at hl hr
 subst hl hr
 obtain ⟨lp, s, rv, nv, gv, rfl, h1, h2, h3, h4, h5⟩ := hp
 dsimp only at h1 h2 h3 h4 h5
 obtain ⟨q, o, rfl, hX⟩ := id h1
 obtain ⟨Cs, ns, cs, rfl⟩ := h2.shape
 obtain ⟨Ar, cr, rfl, _, _⟩ := h3.shape
 obtain ⟨An, cn, rfl, _, _⟩ := h4.shape
 obtain ⟨Ag, cg, rfl, _, _⟩ := h5.shape
 obtain ⟨y, n⟩ := z
 obtain ⟨ya, na, rfl, hy, hn⟩ := hu
 dsimp only at hy hn
 obtain ⟨Ay, my, cy, rfl⟩ := hy.shape
 obtain ⟨Am, mn, cm, rfl⟩ := hn.shape
 clear h1 h2 h3 h4 h5
 obtain ⟨K, ky, kn, ko, kt, hS⟩ : ∃ K : (Nat -> Prop) -> World -> Prop, (∀ D w, K D w -> Aa w D (.agg #[.slice Ay my cy]) y) /\ (∀ D w, K D w -> Aa w D (.agg #[.slice Am mn cm]) n) /\ (∀ D w, K D w -> EP q o L D w) /\ (∀ D w, K D w -> Bl w /\ D 0) /\ St w0 w0 [] K :=
  ⟨fun D w => ((Aa w D (.agg #[.slice Ay my cy]) y /\ Aa w D (.agg #[.slice Am mn cm]) n) /\ EP q o L D w) /\ Bl w /\ D 0, fun _ _ h => h.1.1.1, fun _ _ h => h.1.1.2, fun _ _ h => h.1.2, fun _ _ h => h.2, St.start (D := fun _ => True) (((Ab.and Ab).and Ct).and C0) ⟨⟨⟨hy.imp fun _ _ _ => trivial, hn.imp fun _ _ _ => trivial⟩, Ct D _ w0 w0 hX (Nat.le_refl _) (fun _ _ _ _ h => h) fun _ _ _ _ => trivial⟩, hT, trivial⟩⟩
 have HH := Lib.hid hH
 clear hy hn hT hX hH
 obtain ⟨m, hm⟩ : ∃ m, m = r + 1 := ⟨_, rfl⟩
 have hm1 : ((r : Int) + 1) = (m : Int) := by omega
 have hm2 : m <= 4096 := by omega
 have HM : Hid (del (2 ^ m - 1) 0 = N) := Lib.hid (by rw [HN.out, hm]; rfl)
 clear hm
 obtain ⟨B, hB⟩ : ∃ B, B = ((y ||| n) &&& N == (y ||| n)) := ⟨_, rfl⟩
 have HB := Lib.hid hB
 clear hB
 refine (callsIn_wide (n := 6)).1 (callsIn_of_wp_marks Tryz.func19 rfl trivial ?_ rfl)
 simp only [Tryz.ntmps19, List.size_toArray, List.length_cons, List.length_nil, Nat.reduceAdd, Nat.reduceSub, Array.replicate_succ, Array.replicate_zero, List.push_toArray, List.append_toArray, List.nil_append, List.cons_append]
 refine wpIn_wide.2 ?_
 go_wp2_with (first
  | ((with_reducible refine qA 2 ?_); refine Aw hS rfl _ _ rfl (.agg #[.int .i64 (r : Nat), .pointer (some ⟨q, 0, none⟩), .slice Cs ns cs, .slice Ar rl.length cr, .slice An nl.length cn, .slice Ag gl.length cg]) _ rfl rfl ?_; clear hS; intro g2 w_ hS; (try simp only [Act.put, Act.eval, zz, Value.cells] at hS))
  | ((with_reducible refine qA 3 ?_); refine Aw hS rfl _ _ rfl (.agg #[.slice Ay my cy, .slice Am mn cm]) _ rfl rfl ?_; clear hS; intro g3 w_ hS; (try simp only [Act.put, Act.eval, zz, Value.cells] at hS))
  | ((with_reducible refine qA 4 ?_); refine qa hS #[.slice none 0 0] ?_; clear hS; intro g4 w_ hS)
  | ((with_reducible refine qA 5 ?_); refine qa hS #[.int .i64 0] ?_; clear hS; intro g5 w_ hS)
  | ((with_reducible refine qK ?_); refine qC hS ?_)
  | ((with_reducible refine qB ?_); refine qc ?_ ?_ <;> intro h_ <;> go_prune)
  | (go_at_call 68; refine (below_any m _ hm2).mono ?_; rintro r_ w_ ⟨v1, rfl, h1, hb_⟩; replace hS := hS.ret hb_ Ab h1; clear h1 hb_; obtain ⟨B1, c1, w1, rfl, -⟩ := hS.ro.2.parts)
  | (go_at_call 69; refine (Dx _ _ 0 _ _ hS.ro.2).mono ?_; rw [HM.out]; rintro r_ w_ ⟨v2, rfl, h1, hb_⟩; replace hS := hS.ret2 hb_ Ab h1; clear h1 hb_; obtain ⟨B2, c2, w2, rfl, -⟩ := hS.ro.2.parts; obtain ⟨n2, hn2⟩ : ∃ n, n = w2.length := ⟨_, rfl⟩; rw [<- hn2] at hS ⊢; clear hn2)
  | ((with_reducible refine qA 6 ?_); refine qa hS #[.slice none 0 0] ?_; clear hS; intro g6 w_ hS)
  | ((with_reducible refine qM ?_); (first | refine qS hS ?_ | refine qT hS ?_); clear hS; intro w_ hS; (try simp only [Act.put, Act.eval, zz, Value.cells] at hS)))
 obtain ⟨K1, ky, kn, ko, kt, kN, hS2⟩ : ∃ K1 : (Nat -> Prop) -> World -> Prop, (∀ D w, K1 D w -> Aa w D (.agg #[.slice Ay my cy]) y) /\ (∀ D w, K1 D w -> Aa w D (.agg #[.slice Am mn cm]) n) /\ (∀ D w, K1 D w -> EP q o L D w) /\ (∀ D w, K1 D w -> Bl w /\ D 0) /\ (∀ D w, K1 D w -> Aa w D (.agg #[.slice B2 n2 c2]) N) /\ St w0 w_ [.box g6 39 #[.slice B2 n2 c2], .box g5 46 #[.int .i64 0], .box g4 41 #[.slice none 0 0], .box g3 56 #[.slice Ay my cy, .slice Am mn cm], .box g2 43 #[.int .i64 (r : Nat), .pointer (some ⟨q, 0, none⟩), .slice Cs ns cs, .slice Ar rl.length cr, .slice An nl.length cn, .slice Ag gl.length cg]] K1 :=
  ⟨_, fun _ _ h => ky _ _ h.1.1, fun _ _ h => kn _ _ h.1.1, fun _ _ h => ko _ _ h.1.1, fun _ _ h => kt _ _ h.1.1, fun _ _ h => h.2, hS⟩
 clear hS
 have hS := hS2
 clear hS2 hm2 hm1 HM
 simp only [Act.put, List.setIfInBounds_toArray, List.set_cons_zero, List.set_cons_succ]
 refine C5 [.q g3 0, .i (.agg #[.slice Ay my cy]), .q g3 1, .i (.agg #[.slice Am mn cm]), .s (fun v w => Aa w (fun _ => True) v (y ||| n)) fun v w w' h hb => h.ext hb, .i (.agg #[.slice B2 n2 c2]), .i (.bool B), .i (.bool (!B))] ⟨uF, ?_, uF, ?_, ?_, ?_, ?_, uU, trivial⟩ ?_
 ·refine uT fun b__ w hW hE K hK => ?_
  have e23 := hE 23
  exact BW rfl e23 ((hS.ext hW).box 3 rfl) rfl Tryz.underlying39 rfl (by kernel_rfl) (hK _ _ rfl (Below.refl _ _))
 ·refine uT fun b__ w hW hE K hK => ?_
  have e25 := hE 25
  exact BW rfl e25 ((hS.ext hW).box 3 rfl) rfl Tryz.underlying39 rfl (by kernel_rfl) (hK _ _ rfl (Below.refl _ _))
 ·refine uT fun b__ w hW hE K hK => ?_
  have e24 := hE 24
  have e26 := hE 26
  exact Ai rfl (by kernel_rfl) (by simp only [List.map_cons, List.map_nil, e24, e26]) (Iw _ _ y n _ _ _ (ky _ _ (hS.ext hW).ro) (kn _ _ (hS.ext hW).ro)) fun v w' h hb => hK v w' (h.imp fun _ _ _ => trivial) hb
 ·refine uT fun b__ w hW hE K hK => ?_
  have e6 : b__.eval (.tmp 6) = .pointer (some ⟨g6, 0, none⟩) := hE 6
  exact BW rfl e6 ((hS.ext hW).box 0 rfl) rfl Tryz.underlying39 rfl (by kernel_rfl) (hK _ _ rfl (Below.refl _ _))
 ·refine uT fun b__ w hW hE K hK => ?_
  have e27 := hE 27
  have e28 := hE 28
  exact Ai rfl (by kernel_rfl) (by simp only [List.map_cons, List.map_nil, e28]) (CW _ _ (y ||| n) N _ _ _ e27 (kN _ _ (hS.ext hW).ro)) fun v w' h hb => hK v w' (h.trans (by rw [HB.out])) hb
 ·intro vs wz hW hT
  obtain ⟨e23, e24, e25, e26, e27, e28, e29, e30, -⟩ := hT
  have bx : (fun _ : Nat => True) 0 := trivial
  simp only [Ak, Act.put, zz, ze]
  replace hS := hS.ext hW
  rw [e30]
  clear hW e23 e24 e25 e26 e27 e28 e29 e30
  cases B
  ·have HE := Lib.hid (show J1 L N (y, n) [] 4 by unfold J1; rw [if_neg (by simpa using HB.out)]; exact ⟨rfl, rfl⟩)
   go_wp2_with (first | ((with_reducible refine qM ?_); (first | refine qS hS ?_ | refine qT hS ?_); clear hS; intro w_ hS; (try simp only [Act.put, Act.eval, zz, Value.cells] at hS)))
   refine CQ (F := [.box g6 39 #[.slice B2 n2 c2], .box g5 46 #[.int .i64 4], .box g4 41 #[.slice none 0 0], .box g3 56 #[.slice Ay my cy, .slice Am mn cm], .box g2 43 #[.int .i64 (r : Nat), .pointer (some ⟨q, 0, none⟩), .slice Cs ns cs, .slice Ar rl.length cr, .slice An nl.length cn, .slice Ag gl.length cg]]) ?_ [] _ (by simpa [Ce] using hS)
   intro w' h
   refine ⟨_, ret_cc rfl rfl (h.shut 2 rfl 0 rfl) (by kernel_rfl) rfl (h.shut 1 rfl 0 rfl) (by kernel_rfl), ?_⟩
   exact AF.mk ⟨_, _, _, rfl, .nil, HE.out⟩ h.below
  ·go_wp2_with (first
    | ((with_reducible refine qA 7 ?_); refine qa hS #[.slice none 0 0] ?_; clear hS; intro g7 w_ hS)
    | ((with_reducible refine qk 39 ?_); first | (refine AA hS 0 rfl _ _ rfl _ _ rfl _ _ rfl _ (by first | rfl | assumption) Tryz.underlying39 rfl (by kernel_rfl) ?_) | (refine AA hS 1 rfl _ _ rfl _ _ rfl _ _ rfl _ (by first | rfl | assumption) Tryz.underlying39 rfl (by kernel_rfl) ?_) | (refine AA hS 2 rfl _ _ rfl _ _ rfl _ _ rfl _ (by first | rfl | assumption) Tryz.underlying39 rfl (by kernel_rfl) ?_) | (refine AA hS 3 rfl _ _ rfl _ _ rfl _ _ rfl _ (by first | rfl | assumption) Tryz.underlying39 rfl (by kernel_rfl) ?_) | (refine AA hS 4 rfl _ _ rfl _ _ rfl _ _ rfl _ (by first | rfl | assumption) Tryz.underlying39 rfl (by kernel_rfl) ?_) | (refine AA hS 5 rfl _ _ rfl _ _ rfl _ _ rfl _ (by first | rfl | assumption) Tryz.underlying39 rfl (by kernel_rfl) ?_)))
   refine (E6 _ _ _ _ (kn _ _ hS.ro)).mono ?_
   rintro e w3 ⟨_, rfl, ⟨Bs, A', cap, wn, rfl, e1, hcn, hvN, hsl, hBs, hX⟩, hb3⟩
   obtain ⟨rfl, rfl, rfl⟩ : Am = A' /\ mn = wn.length /\ cm = cap := by simpa using e1
   clear e1
   obtain ⟨hT, hT0⟩ := kt _ _ hS.ro
   replace hS := hS.good hb3 hsl hT hT0 hBs hX
   obtain ⟨KK, ky, kt, kN, ko, kG, KKS, hS⟩ : ∃ KK : (Nat -> Prop) -> World -> Prop, (∀ D w, KK D w -> Aa w D (.agg #[.slice Ay my cy]) y) /\ (∀ D w, KK D w -> Bl w /\ D 0) /\ (∀ D w, KK D w -> Aa w D (.agg #[.slice B2 n2 c2]) N) /\ (∀ D w, KK D w -> EP q o L D w) /\ (∀ D w, KK D w -> CV Bs Am cm wn w) /\ AC KK /\ St w0 w3 [.box g7 39 #[.slice none 0 0], .box g6 39 #[.slice B2 n2 c2], .box g5 46 #[.int .i64 0], .box g4 41 #[.slice none 0 0], .box g3 56 #[.slice Ay my cy, .slice Am wn.length cm], .box g2 43 #[.int .i64 (r : Nat), .pointer (some ⟨q, 0, none⟩), .slice Cs ns cs, .slice Ar rl.length cr, .slice An nl.length cn, .slice Ag gl.length cg]] KK := ⟨_, fun D w h => ky D w h.1, fun D w h => kt D w h.1, fun D w h => kN D w h.1, fun D w h => ko D w h.1, fun D w h => h.2.1, hS.stable, hS⟩
   have HCN := Lib.hid hcn
   have HVN := Lib.hid hvN
   clear hsl hX hT hT0 hb3 hcn hvN kn
   go_wp2_with fail
   have hsz := hS.size
   refine (wpIn_wide (n := 6)).1 ?_
   refine Ey fun act hact => ?_
   refine Fm hS HCN.out.1 HCN.out.2.2 kG (by rw [hact]; rfl) rfl
    (fun pre F' K' => ∃ u, F' = [.box g7 39 #[u], .box g6 39 #[.slice B2 n2 c2], .box g5 46 #[.int .i64 0], .box g4 41 #[.slice none 0 0], .box g3 56 #[.slice Ay my cy, .slice Am wn.length cm], .box g2 43 #[.int .i64 (r : Nat), .pointer (some ⟨q, 0, none⟩), .slice Cs ns cs, .slice Ar rl.length cr, .slice An nl.length cn, .slice Ag gl.length cg]] /\ AC K' /\ ∀ D w, K' D w -> KK D w /\ Aa w (fun z => D z /\ w0.heap.size <= z) (.agg #[u]) (noP L N pre))
    (fun _ _ _ _ => False) (fun s F K' h D w hk => by obtain ⟨_, _, _, h4⟩ := h; exact (h4 D w hk).1) ?hr (fun _ _ _ _ h => h.elim) ⟨_, rfl, KKS, fun D w h => ⟨h, Aa.empty⟩⟩
    (fun x => { tmps := (act.tmps.setIfInBounds 34 (.int .i64 x)).setIfInBounds 8 (.int .i64 x), defers := [] }) ?assign ?body ?done (fun _ _ _ _ _ _ _ _ h _ _ => h.elim)
   case hr =>
    rintro s F K' ⟨u, rfl, _⟩ f hf
    simp only [List.mem_cons, List.not_mem_nil, or_false] at hf
    rcases hf with rfl | rfl | rfl | rfl | rfl | rfl <;> exact .inl rfl
   case assign =>
    intro l x W K hK
    subst hact
    rw [Ft]
    refine wpIn_region_lit ?_
    refine Cd (by intro _ _ h; exact h) _ _ _ (by rfl) _ _ ?_
    refine wpList_plain rfl fun _ hK' => Cn (v := .int .i64 x) rfl (by rfl) (hK' _ _ ?_)
    exact wpList_nil hK
   case body =>
    rintro l pre x hx W F' Xo K' ⟨ub, rfl, hKs, hk'⟩ hS hlt
    subst hact
    have HW := Lib.hid (noP_snoc L N pre x)
    generalize noP L N pre = N0 at *
    have HKP := Lib.hid hk'
    have hWs : W.heap.size <= W.heap.size := Nat.le_refl _
    clear hx hk'
    simp only [Act.put, List.setIfInBounds_toArray, List.set_cons_zero, List.set_cons_succ]
    refine wpIn_block ?_
    refine Ci (by kernel_rfl) (by intro _ _ h; exact h) (by rfl) ?_
    refine IV 8 [] [.i (.agg #[ub]), .q g2 1, .q q 0, .n x, .s (fun v w => Aa w (fun _ => True) v (senQ L x)) fun v w w' h hb => h.ext hb, .i (.agg #[.slice B2 n2 c2]), .s (fun v w => Aa w (fun _ => True) v (senQ L x &&& N)) fun v w w' h hb => h.ext hb, .s (fun v w => ∃ u, v = .agg #[u] /\ u.oneCell' = true /\ Aa w (fun z => W.heap.size <= z) (.agg #[u]) (N0 ||| (senQ L x &&& N))) fun v w w' h hb => ⟨_, h.choose_spec.1, h.choose_spec.2.1, h.choose_spec.2.2.ext hb⟩, .t] ⟨uR (h := fun w hW hN => (hS.ext hW).box 0 rfl), uF, uC (h := fun w hW hN => ((hS.ext hW).box 5 rfl).cell 1), uM, ?_, ?_, ?_, ?_, trivial⟩ ?_
    ·refine uT fun b__ w hW hE K hK => ?_
     have e37 := hE 37
     have e38 := hE 38
     refine Ai rfl (by kernel_rfl) (by simp only [List.map_cons, List.map_nil, e37, e38]) (hsen_any (w0 := w) ⟨q, o, rfl, ko _ _ (HKP.out _ _ (hS.ext hW).ro.1).1⟩ HH.out x) fun v w' h hb => ?_
     exact hK v w' (h.imp fun _ _ _ => trivial) hb
    ·refine uT fun b__ w hW hE K hK => ?_
     have e6 : b__.eval (.tmp 6) = .pointer (some ⟨g6, 0, none⟩) := hE 6
     exact BW rfl e6 ((hS.ext hW).box 1 rfl) rfl Tryz.underlying39 rfl (by kernel_rfl) (hK _ _ rfl (Below.refl _ _))
    ·refine uT fun b__ w hW hE K hK => ?_
     have e39 := hE 39
     have e40 := hE 40
     refine Ai rfl (by kernel_rfl) (by simp only [List.map_cons, List.map_nil, e40]) (and_any e39 (kN _ _ (HKP.out _ _ (hS.ext hW).ro.1).1)) fun v w' h hb => ?_
     exact hK v w' (h.imp fun _ _ _ => trivial) hb
    ·refine uT fun b__ w hW hE K hK => ?_
     have e35 := hE 35
     have e41 := hE 41
     refine Ai rfl (by kernel_rfl) (by simp only [List.map_cons, List.map_nil, e35]) (Iw (.agg #[ub]) _ N0 _ w _ _ (HKP.out _ _ (hS.ext hW).ro.1).2 e41) fun v w' h hb => ?_
     obtain ⟨u, rfl, h1⟩ := EU h
     exact hK _ w' ⟨u, rfl, h1, h.imp fun z hz _ => Nat.le_trans hW.size hz⟩ hb
    ·intro vs wz hW hT
     obtain ⟨e35, e36, e37, e38, e39, e40, e41, e42, -⟩ := hT
     have bx : (fun _ : Nat => True) 0 := trivial
     simp only [Ak, Act.put, zz, ze]
     (intro o_ ho_; simp only [List.getElem?_toArray, List.getElem?_cons_succ, List.getElem?_cons_zero, Option.some.injEq] at ho_; subst ho_)
     obtain ⟨un, e42, hu1, hun⟩ := e42
     have hsW := hS.size
     have hS1 := hS.ret hW (C3 (Ab (v := .agg #[un]) (N := N0 ||| (senQ L x &&& N))) fun z => w0.heap.size <= z) (hun.imp fun z hz _ => ⟨hz, Nat.le_trans hsW hz⟩)
     refine Dg rfl rfl e42 (hS1.box 0 rfl) (by kernel_rfl) rfl (by simpa using hu1) fun w4 h1 hU => ?_
     have hS2 := (hS1.upd 0 rfl (.box g7 39 #[un]) (Bh hU) ⟨(hS1.holds (.box g7 39 #[ub]) (by simp)).1, h1⟩ fun _ e => .inl e)
     refine ⟨_, _, ⟨un, rfl, hS2.stable, fun D w h => ⟨(HKP.out D w h.1.1).1, by rw [HW.out]; exact h.2⟩⟩, by rw [hU.size]; exact hW.size, hS2⟩
   case done =>
    rintro D W F' K' hD ⟨u, rfl, hKs, hk'⟩ hS hK
    subst hact
    obtain ⟨A3, c3, l3, he, -⟩ := ((hk' _ _ hS.ro).2).parts
    obtain rfl : u = .slice A3 l3.length c3 := by injection he with he; simpa using he
    clear he
    have hM := hS.mark hsz hD (by
     intro f hf
     simp only [List.mem_cons, List.not_mem_nil, or_false] at hf
     rcases hf with rfl | rfl | rfl | rfl | rfl | rfl <;> exact .inl rfl) hK rfl
    have HKP := Lib.hid hk'
    clear hk' hS hK
    have hS := hM
    clear hM
    simp only [List.cons_append, List.nil_append] at hS
    obtain ⟨n3, hn3⟩ : ∃ n, n = l3.length := ⟨_, rfl⟩
    rw [<- hn3] at hS HKP
    clear hn3
    go_wp2_with (first
     | ((with_reducible refine qA 47 ?_); refine AA hS 6 rfl _ _ rfl _ _ rfl _ _ rfl _ rfl Tryz.underlying39 rfl (by kernel_rfl) ?_)
     | ((with_reducible refine qk 39 ?_); first | (refine AA hS 0 rfl _ _ rfl _ _ rfl _ _ rfl _ (by first | rfl | assumption) Tryz.underlying39 rfl (by kernel_rfl) ?_) | (refine AA hS 1 rfl _ _ rfl _ _ rfl _ _ rfl _ (by first | rfl | assumption) Tryz.underlying39 rfl (by kernel_rfl) ?_) | (refine AA hS 2 rfl _ _ rfl _ _ rfl _ _ rfl _ (by first | rfl | assumption) Tryz.underlying39 rfl (by kernel_rfl) ?_) | (refine AA hS 3 rfl _ _ rfl _ _ rfl _ _ rfl _ (by first | rfl | assumption) Tryz.underlying39 rfl (by kernel_rfl) ?_) | (refine AA hS 4 rfl _ _ rfl _ _ rfl _ _ rfl _ (by first | rfl | assumption) Tryz.underlying39 rfl (by kernel_rfl) ?_) | (refine AA hS 5 rfl _ _ rfl _ _ rfl _ _ rfl _ (by first | rfl | assumption) Tryz.underlying39 rfl (by kernel_rfl) ?_))
     | ((with_reducible refine qA 44 ?_); refine Ax rfl _ _ rfl #[.slice none 0 0, .slice A3 n3 c3] (by kernel_rfl) ?_; (try simp only [Act.put, List.setIfInBounds_toArray, List.set_cons_zero, List.set_cons_succ]))
     | ((with_reducible refine qA 45 ?_); refine E0 hS rfl _ 56 1 _ rfl Tryz.underlying41 #[.slice none 0 0, .slice A3 n3 c3] (by kernel_rfl) 2 rfl (by decide) ?_; clear hS; intro gl1 w_ hS; (try simp only [Act.put, List.setIfInBounds_toArray, List.set_cons_zero, List.set_cons_succ]))
     | ((with_reducible refine qA 9 ?_); refine qa hS #[.slice none 0 0] ?_; clear hS; intro g9 w_ hS)
     | ((with_reducible refine qM ?_); (first | refine qS hS ?_ | refine qT hS ?_); clear hS; intro w_ hS; (try simp only [Act.put, Act.eval, zz, Value.cells] at hS)))
    obtain ⟨no, hno⟩ : ∃ no, no = noP L N (AV wn) := ⟨_, rfl⟩
    rw [<- hno] at HKP
    have HNO := Lib.hid hno
    clear hno
    replace hS := freezeGe hS 1 (by decide) rfl
    simp only [List.eraseIdx_cons_succ, List.eraseIdx_cons_zero] at hS
    refine (E6 _ _ _ _ (ky _ _ (HKP.out _ _ hS.ro.1).1)).mono ?_
    rintro e w4 ⟨_, rfl, ⟨Bs2, A', cap, wy, rfl, e1, hcn, hvN, hsl, hBs2, hX⟩, hb3⟩
    obtain ⟨rfl, rfl, rfl⟩ : Ay = A' /\ my = wy.length /\ cy = cap := by simpa using e1
    clear e1
    obtain ⟨hT, hT0⟩ := kt _ _ (HKP.out _ _ hS.ro.1).1
    replace hS := hS.good hb3 hsl hT hT0 hBs2 hX
    obtain ⟨K2, kt, kN, ko, kG, kL, kC, KKS, hS⟩ : ∃ K2 : (Nat -> Prop) -> World -> Prop, (∀ D w, K2 D w -> Bl w /\ D 0) /\ (∀ D w, K2 D w -> Aa w D (.agg #[.slice B2 n2 c2]) N) /\ (∀ D w, K2 D w -> EP q o L D w) /\ (∀ D w, K2 D w -> CV Bs2 Ay cy wy w) /\ (∀ D w, K2 D w -> Sl w (fun z => D z /\ w0.heap.size <= z) 2 (.slice (some ⟨gl1, 0, none⟩) 1 1) 1 [.slice none 0 0, .slice A3 n3 c3]) /\ (∀ D w, K2 D w -> Aa w (fun z => D z /\ w0.heap.size <= z) (.agg #[.slice A3 n3 c3]) no) /\ AC K2 /\ St w0 w4 [.box g9 41 #[.slice (some ⟨gl1, 0, none⟩) 1 1], .box g7 39 #[.slice A3 n3 c3], .box g6 39 #[.slice B2 n2 c2], .box g5 46 #[.int .i64 0], .box g4 41 #[.slice none 0 0], .box g3 56 #[.slice Ay wy.length cy, .slice Am wn.length cm], .box g2 43 #[.int .i64 (r : Nat), .pointer (some ⟨q, 0, none⟩), .slice Cs ns cs, .slice Ar rl.length cr, .slice An nl.length cn, .slice Ag gl.length cg], .obj D (.deferred (some []))] K2 := ⟨_, fun D w h => kt D w (HKP.out _ _ h.1.1).1, fun D w h => kN D w (HKP.out _ _ h.1.1).1, fun D w h => ko D w (HKP.out _ _ h.1.1).1, fun D w h => h.2.1, fun D w h => h.1.2, fun D w h => (HKP.out _ _ h.1.1).2, hS.stable, hS⟩
    have HCY := Lib.hid hcn
    have HVY := Lib.hid hvN
    have KL := Lib.hid kL
    have KC := Lib.hid kC
    have HDD : Hid (D < w4.heap.size) := Lib.hid (hS.lt (f := .obj D (.deferred (some []))) (by simp) rfl)
    clear hsl hX hT hT0 hb3 hcn hvN ky KKS HKP kL kC hD
    go_wp2_with fail
    have hsz := hS.size
    refine (wpIn_wide (n := 6)).1 ?_
    refine Ey fun act hact => ?_
    refine range_allH hS HCY.out.1 HCY.out.2.2 kG (by rw [hact]; rfl) rfl
     (fun pre F' K' => ∃ (v9 : Value) (ll : List (Nat × Nat)) (xl : List Value), F' = [.box g9 41 #[v9], .box g7 39 #[.slice A3 n3 c3], .box g6 39 #[.slice B2 n2 c2], .box g5 46 #[.int .i64 0], .box g4 41 #[.slice none 0 0], .box g3 56 #[.slice Ay wy.length cy, .slice Am wn.length cm], .box g2 43 #[.int .i64 (r : Nat), .pointer (some ⟨q, 0, none⟩), .slice Cs ns cs, .slice Ar rl.length cr, .slice An nl.length cn, .slice Ag gl.length cg], .obj D (.deferred (some []))] /\ AC K' /\ (ExpL L N no pre ll /\ ll.length <= 64 /\ ∀ z ∈ ll, z.2 = no /\ z.1 &&& N = z.1) /\ ∀ D w, K' D w -> K2 D w /\ Sl w (fun z => D z /\ w0.heap.size <= z) 2 v9 ll.length xl /\ Ah w (fun z => D z /\ w0.heap.size <= z) xl ll)
     (fun _ _ _ _ => False) (fun s F K' h D w hk => by obtain ⟨_, _, _, _, _, _, h4⟩ := h; exact (h4 D w hk).1) ?hr (fun _ _ _ _ h => h.elim) ⟨_, [(0, no)], _, rfl, hS.stable, ⟨.nil, by simp, by simp⟩, fun D w h => ⟨h, KL.out D w h, fun i a b hi => by
      match i, hi with
      | 0, hi => simp at hi; obtain ⟨rfl, rfl⟩ := hi; exact ⟨_, _, rfl, rfl, .empty, KC.out D w h⟩⟩⟩
     (fun x => { tmps := (act.tmps.setIfInBounds 49 (.int .i64 x)).setIfInBounds 10 (.int .i64 x), defers := [] }) ?assign ?body ?done (fun _ _ _ _ _ _ _ _ h _ _ => h.elim)
    case hr =>
     rintro s F K' ⟨v9, ll, xl, rfl, _⟩ f hf
     simp only [List.mem_cons, List.not_mem_nil, or_false] at hf
     rcases hf with rfl | rfl | rfl | rfl | rfl | rfl | rfl | rfl
     ·exact .inl rfl
     ·exact .inl rfl
     ·exact .inl rfl
     ·exact .inl rfl
     ·exact .inl rfl
     ·exact .inl rfl
     ·exact .inl rfl
     ·exact .inr ⟨D, _, rfl, HDD.out⟩
    case assign =>
     intro l x W K hK
     subst hact
     rw [Ft]
     refine wpIn_region_lit ?_
     refine Cd (by intro _ _ h; exact h) _ _ _ (by rfl) _ _ ?_
     refine wpList_plain rfl fun _ hK' => Cn (v := .int .i64 x) rfl (by rfl) (hK' _ _ ?_)
     exact wpList_nil hK
    case body =>
     rintro l pre x hx W F' Xo K' ⟨v9, ll, xl, rfl, hKs, ⟨hE, hl64, hNo⟩, hk'⟩ hS ⟨r1, hlp⟩ hlt
     subst hact
     obtain ⟨A9, c9, rfl, _, _⟩ := ((hk' _ _ hS.ro.1).2.1).shape
     have HKP := Lib.hid hk'
     have HE := Lib.hid hE
     have HNL := Lib.hid hNo
     have HLP := Lib.hid hlp
     clear hx hk' hE hNo hlp hsz
     simp only [Act.put, List.setIfInBounds_toArray, List.set_cons_zero, List.set_cons_succ]
     gi_wp2_with (refine Cd (by intro _ _ h; exact h) _ _ _ (by rfl) _ _ ?_; go_wp2_with (first
      | ((with_reducible refine qA 11 ?_); refine qa hS #[.slice none 0 0] ?_; clear hS; intro g11 w_ hS)
      | ((with_reducible refine qA 50 ?_); refine Bz hS 1 rfl _ _ rfl _ _ rfl _ _ rfl _ rfl (by kernel_rfl) ?_)
      | ((with_reducible refine qK ?_); refine qC hS ?_)))
     have hS := hS.nil 56 2
     obtain ⟨K3, hK3, hSz, hS2⟩ : ∃ K3 : (Nat -> Prop) -> World -> Prop, (∀ D w, K3 D w -> K' D w) /\ (∀ D w, K3 D w -> W.heap.size <= w.heap.size) /\ St w0 w_ (.own (.slice none 0 0) 56 2 0 [] :: .box g11 41 #[.slice none 0 0] :: .box g9 41 #[.slice A9 ll.length c9] :: .box g7 39 #[.slice A3 n3 c3] :: .box g6 39 #[.slice B2 n2 c2] :: .box g5 46 #[.int .i64 0] :: .box g4 41 #[.slice none 0 0] :: .box g3 56 #[.slice Ay wy.length cy, .slice Am wn.length cm] :: .box g2 43 #[.int .i64 (r : Nat), .pointer (some ⟨q, 0, none⟩), .slice Cs ns cs, .slice Ar rl.length cr, .slice An nl.length cn, .slice Ag gl.length cg] :: .obj D (.deferred (some [])) :: Xo) K3 := ⟨_, fun D w h => h.1, fun D w h => h.2, hS⟩
     clear hS
     have hS := hS2
     clear hS2
     replace hK3 := Lib.hid hK3
     replace hSz := Lib.hid hSz
     gi_loopw [52] (fun i wr => ∃ (j : Nat) (A11 : Option Addr) (c11 : Nat) (nx : List (Nat × Nat)) (xn : List Value) (K4 : (Nat -> Prop) -> World -> Prop), j <= ll.length /\ i = .int .i64 (j : Nat) /\ Hid (nx = nextE L N x (ll.take j)) /\ nx.length <= j * 64 /\ Hid (∀ D w, K4 D w -> K3 D w /\ Ah w (fun z => D z /\ w0.heap.size <= z) xn nx) /\ St w0 wr (.own (.slice A11 nx.length c11) 56 2 nx.length xn :: .box g11 41 #[.slice A11 nx.length c11] :: .box g9 41 #[.slice A9 ll.length c9] :: .box g7 39 #[.slice A3 n3 c3] :: .box g6 39 #[.slice B2 n2 c2] :: .box g5 46 #[.int .i64 0] :: .box g4 41 #[.slice none 0 0] :: .box g3 56 #[.slice Ay wy.length cy, .slice Am wn.length cm] :: .box g2 43 #[.int .i64 (r : Nat), .pointer (some ⟨q, 0, none⟩), .slice Cs ns cs, .slice Ar rl.length cr, .slice An nl.length cn, .slice Ag gl.length cg] :: .obj D (.deferred (some [])) :: Xo) K4) (fun i _ => ll.length - (intOf i).toNat)
     case atStart => exact ⟨0, none, 0, [], [], K3, by omega, rfl, Lib.hid (by simp [nextE]), by simp, Lib.hid fun D w h => ⟨h, .nil⟩, hS⟩
     case round =>
      clear hS
      obtain ⟨j, A11, c11, nx, xn, K4, hj, rfl, HNX, hnx, HK4, hS⟩ := hrel
      by_cases hlj : j < ll.length
      ·obtain ⟨hsl, hcc⟩ := (HKP.out _ _ (hK3.out _ _ (HK4.out _ _ hS.ro).1)).2
       obtain ⟨_, A', c', he, _, _, hcell⟩ := hsl
       injection he with he1 _ he3
       subst he1 he3
       obtain ⟨b9, o9, rfl, _, _, hcell⟩ := hcell (by omega)
       obtain ⟨zy, zn, hz⟩ : ∃ zy zn, ll[j]? = some (zy, zn) := ⟨_, _, List.getElem?_eq_getElem hlj⟩
       obtain ⟨a9, m9, x0, x1, hsa, hsm⟩ := hcc j _ _ hz
       have k0 := hcell (j * 2) a9 x0
       have k1 : wr.cell? ⟨b9, o9 + j * 2 + 1, none⟩ = some m9 := by have := hcell (j * 2 + 1) m9 x1; rwa [<- Nat.add_assoc] at this
       obtain ⟨A4, m4, c4, rfl⟩ := hsa.shape
       obtain ⟨A5, m5, c5, rfl⟩ := hsm.shape
       have KZ : Hid (∀ D w, K4 D w -> Aa w (fun z => D z /\ w0.heap.size <= z) (.agg #[.slice A4 m4 c4]) zy /\ Aa w (fun z => D z /\ w0.heap.size <= z) (.agg #[.slice A5 m5 c5]) zn) := Lib.hid fun D w h => by
        obtain ⟨a, b, y0, y1, h3, h4⟩ := (HKP.out _ _ (hK3.out _ _ (HK4.out _ _ h).1)).2.2 j _ _ hz
        rw [x0] at y0
        rw [x1] at y1
        injection y0 with y0
        injection y1 with y1
        subst y0 y1
        exact ⟨h3, h4⟩
       have HZ := Lib.hid hz
       clear hcc hcell hz x0 x1 hsa hsm
       gi_wp2_with (refine Cd (by intro _ _ h; exact h) _ _ _ (by rfl) _ _ ?_; go_wp2_with (first
        | ((with_reducible refine qB ?_); refine qc ?_ ?_ <;> intro h_ <;> go_prune)
        | ((with_reducible refine qA 55 ?_); refine BigFrame.wpList_want rfl fun _ hK => AU (cs := [.slice A4 m4 c4, .slice A5 m5 c5]) rfl rfl (rng2 k0 k1) Tryz.underlying56 rfl (by kernel_rfl) (hK _ _ ?_))
        | ((with_reducible refine qA 13 ?_); refine qa hS #[.slice none 0 0, .slice none 0 0] ?_; clear hS; intro g13 w_ hS)
        | ((with_reducible refine qM ?_); (first | refine qS hS ?_ | refine qT hS ?_); clear hS; intro w_ hS; (try simp only [Act.put, Act.eval, zz, Value.cells] at hS))))
       have K42 : Hid (∀ D w, K4 D w -> K2 D w) := Lib.hid fun D w h => (HKP.out D w (hK3.out D w (HK4.out D w h).1)).1
       obtain ⟨M, hM⟩ : ∃ M, M = senQ L x &&& N := ⟨_, rfl⟩
       have HM := Lib.hid hM
       clear hM k0 k1
       simp only [Act.put, List.setIfInBounds_toArray, List.set_cons_zero, List.set_cons_succ]
       refine wp_zTin (by intro _ _ h; exact h) [.q g2 1, .q q 0, .n x, .s (fun v w => Aa w (fun _ => True) v (senQ L x)) fun v w w' h hb => h.ext hb, .i (.agg #[.slice B2 n2 c2]), .s (fun v w => Aa w (fun z => w_.heap.size <= z) v M) fun v w w' h hb => h.ext hb, .s (fun v w => AllNew w_.heap.size M v w) fun v w w' h hb => h.ext hb] ⟨uF, uC (h := fun w hW hN => ((hS.ext hW).box 9 rfl).cell 1), uM, ?_, ?_, ?_, ?_, trivial⟩ ?_
       ·refine uT fun b__ w hW hE K hK => ?_
        have e57 := hE 57
        have e58 := hE 58
        refine Ai rfl (by kernel_rfl) (by simp only [List.map_cons, List.map_nil, e57, e58]) (hsen_any (w0 := w) ⟨q, o, rfl, ko _ _ (K42.out _ _ (hS.ext hW).ro)⟩ HH.out x) fun v w' h hb => ?_
        exact hK v w' (h.imp fun _ _ _ => trivial) hb
       ·refine uT fun b__ w hW hE K hK => ?_
        have e6 : b__.eval (.tmp 6) = .pointer (some ⟨g6, 0, none⟩) := hE 6
        exact BW rfl e6 ((hS.ext hW).box 5 rfl) rfl Tryz.underlying39 rfl (by kernel_rfl) (hK _ _ rfl (Below.refl _ _))
       ·refine uT fun b__ w hW hE K hK => ?_
        have e59 := hE 59
        have e60 := hE 60
        refine Ai rfl (by kernel_rfl) (by simp only [List.map_cons, List.map_nil, e60]) (and_any e59 (kN _ _ (K42.out _ _ (hS.ext hW).ro))) fun v w' h hb => ?_
        rw [<- HM.out] at h
        exact hK v w' (h.imp fun z hz _ => Nat.le_trans hW.size hz) hb
       ·refine uT fun b__ w hW hE K hK => ?_
        have e61 := hE 61
        refine Ai rfl (by kernel_rfl) (by simp only [List.map_cons, List.map_nil]) (E6 _ M _ _ e61) fun v w' h hb => ?_
        obtain ⟨Bs, A, cap, ws, h1, _, h3, h4, h5, h6, h7⟩ := h
        exact hK v w' ⟨Bs, A, cap, ws, h1, h3, h4, h5.ext hb, Nat.le_trans hW.size h6, h7⟩ hb
       ·intro vs wz hW hT
        obtain ⟨e56, e57, e58, e59, e60, e61, e62, -⟩ := hT
        have bx : (fun _ : Nat => True) 0 := trivial
        simp only [Ak, Act.put, zz, ze]
        obtain ⟨Bs3, A7, c7, wq, e62, hcn3, hv3, hsl3, hBs3, hX3⟩ := e62
        obtain ⟨hT, hT0⟩ := kt _ _ (K42.out _ _ hS.ro)
        replace hS := hS.goodNew hW hsl3 hT hT0 hBs3 hX3
        obtain ⟨K5, hK5, KS5, hS⟩ := openK hS (A := fun D w => K4 D w /\ CV Bs3 A7 c7 wq w) fun D w h => ⟨h.1, h.2.1⟩
        rw [e62]
        have HC3 := Lib.hid hcn3
        have HV3 := Lib.hid hv3
        have HK5 := Lib.hid hK5
        have HL0 : Hid (wz.heap[l]? = some (.loop r1)) := Lib.hid (hS.holds (.obj l (.loop r1)) (by simp [HLP.out])).2
        have HLow := Lib.hid (low_of hS)
        have HKC : Hid (∀ D w, K5 D w -> Ah w (fun z => D z /\ w0.heap.size <= z) xn nx) := Lib.hid fun D w h => (HK4.out D w (hK5 D w h).1).2
        clear hsl3 hX3 hT hT0 hW hcn3 hv3 hK5 e56 e57 e58 e59 e60 e61 e62 hBs3
        gi_wp2_with fail
        refine Ey fun act hact => ?_
        refine range_allN hS HL0.out HC3.out.1 HC3.out.2.2 (fun D w h => (HK5.out D w h).2) (by rw [hact]; rfl) rfl
         (fun pre2 F' K' => ∃ (A6 : Option Addr) (c6 : Nat) (xn' : List Value), F' = (.box g13 56 #[.slice A4 m4 c4, .slice A5 m5 c5] :: .own (.slice A6 (nx.length + pre2.length) c6) 56 2 (nx.length + pre2.length) xn' :: .box g11 41 #[.slice A6 (nx.length + pre2.length) c6] :: .box g9 41 #[.slice (some ⟨b9, o9, none⟩) ll.length c9] :: .box g7 39 #[.slice A3 n3 c3] :: .box g6 39 #[.slice B2 n2 c2] :: .box g5 46 #[.int .i64 0] :: .box g4 41 #[.slice none 0 0] :: .box g3 56 #[.slice Ay wy.length cy, .slice Am wn.length cm] :: .box g2 43 #[.int .i64 (r : Nat), .pointer (some ⟨q, 0, none⟩), .slice Cs ns cs, .slice Ar rl.length cr, .slice An nl.length cn, .slice Ag gl.length cg] :: .obj D (.deferred (some [])) :: Xo) /\ AC K' /\ ∀ D w, K' D w -> K5 D w /\ Ah w (fun z => D z /\ w0.heap.size <= z) xn' (nx ++ pre2.map fun s => (C6 zy s, zn)))
         (fun _ _ _ _ => False) (fun s F K' h D w hk => by obtain ⟨_, _, _, _, _, h4⟩ := h; exact (h4 D w hk).1) ?hr2 (fun _ _ _ _ h => h.elim) ⟨_, _, _, rfl, KS5, fun D w h => ⟨h, by simpa using HKC.out D w h⟩⟩
         (fun x => { tmps := (act.tmps.setIfInBounds 63 (.int .i64 x)).setIfInBounds 14 (.int .i64 x), defers := [] }) ?assign2 ?body2 ?done2 (fun _ _ _ _ _ _ h _ => h.elim)
        case hr2 =>
         rintro s F K' ⟨A6, c6, xn', rfl, _⟩ f hf
         simp only [List.mem_cons] at hf
         have hlow := HLow.out f
         rcases hf with rfl | rfl | rfl | hf
         ·exact .inl rfl
         ·exact .inl rfl
         ·exact .inl rfl
         ·exact hlow (by simp only [List.mem_cons]; exact .inr (.inr (.inr hf)))
        case assign2 =>
         intro l x W K hK
         subst hact
         rw [Ft]
         refine wpIn_region_lit ?_
         refine Cd (by intro _ _ h; exact h) _ _ _ (by rfl) _ _ ?_
         refine wpList_plain rfl fun _ hK' => Cn (v := .int .i64 x) rfl (by rfl) (hK' _ _ ?_)
         exact wpList_nil hK
        case body2 =>
         rintro l2 pre2 x2 hx2 W2 F2 Xo2 K6 ⟨A6, c6, xn', rfl, hKs6, hk6⟩ hS hlt2
         subst hact
         have hlw : (AV wq).length <= 64 := IC HC3.out (by rw [HV3.out, HM.out]; exact Gz hr5 HN.out)
         obtain ⟨DD, hDD, hro⟩ := hS.dom
         have HDD := Lib.hid hDD
         have HSET := Lib.hid (KZ.out DD W2 (HK5.out _ _ (hk6 _ _ hro.1).1).1).1
         have HWS := Lib.hid hS.size
         have HK6 := Lib.hid hk6
         have HXL : Hid (xn'.length = (nx.length + pre2.length) * 2) := Lib.hid (hS.own 1 rfl).1
         clear hx2 hk6 hro hDD
         simp only [Act.put, List.setIfInBounds_toArray, List.set_cons_zero, List.set_cons_succ]
         refine wpIn_block ?_
         refine Ci (by kernel_rfl) (by intro _ _ h; exact h) (by rfl) ?_
         refine IV 9 [10] [.i (.slice A6 (nx.length + pre2.length) c6), .q g13 0, .i (.agg #[.slice A4 m4 c4]), .n x2, .s (fun v w => ∃ A n c, v = .agg #[.slice A n c] /\ Aa w (fun z => (DD z \/ W2.heap.size <= z) /\ w0.heap.size <= z) (.agg #[.slice A n c]) (C6 zy x2)) fun v w w' h hb => by obtain ⟨A, n, c, h1, h2⟩ := h; exact ⟨A, n, c, h1, h2.ext hb⟩, .q g13 1, .i (.agg #[.slice A5 m5 c5]), .s (fun v w => ∃ A n c, v = .agg #[.slice A n c, .slice A5 m5 c5] /\ Aa w (fun z => (DD z \/ W2.heap.size <= z) /\ w0.heap.size <= z) (.agg #[.slice A n c]) (C6 zy x2)) fun v w w' h hb => by obtain ⟨A, n, c, h1, h2⟩ := h; exact ⟨A, n, c, h1, h2.ext hb⟩, .s (fun v w => ∃ A n c, Sl w (fun _ => True) 2 v 1 [.slice A n c, .slice A5 m5 c5] /\ Aa w (fun z => (DD z \/ W2.heap.size <= z) /\ w0.heap.size <= z) (.agg #[.slice A n c]) (C6 zy x2)) fun v w w' h hb => by obtain ⟨A, n, c, h1, h2⟩ := h; exact ⟨A, n, c, h1.ext hb, h2.ext hb⟩, .t, .t] ⟨uC (h := fun w hW hN => (hS.ext hW).shut 2 rfl 0 rfl), uF, ?_, uM, ?_, uF, ?_, ?_, ?_, trivial⟩ ?_
         ·refine uT fun b__ w hW hE K hK => ?_
          have e65 := hE 65
          exact BW rfl e65 ((hS.ext hW).box 0 rfl) rfl Tryz.underlying39 rfl (by kernel_rfl) (hK _ _ rfl (Below.refl _ _))
         ·refine uT fun b__ w hW hE K hK => ?_
          have e66 := hE 66
          have e67 := hE 67
          refine Ai rfl (by kernel_rfl) (by simp only [List.map_cons, List.map_nil, e66, e67]) (Di (.agg #[.slice A4 m4 c4]) zy x2 w _ (HSET.out.ext hW)) fun v w' h hb => ?_
          obtain ⟨A, c, l, rfl, -⟩ := id h.parts
          exact hK _ w' ⟨A, _, c, rfl, h.imp fun z hz _ => hz.elim (fun h => ⟨.inl h.1, h.2⟩) (fun h => ⟨.inr (Nat.le_trans hW.size h), Nat.le_trans HWS.out (Nat.le_trans hW.size h)⟩)⟩ hb
         ·refine uT fun b__ w hW hE K hK => ?_
          have e69 := hE 69
          exact BW rfl e69 ((hS.ext hW).box 0 rfl) rfl Tryz.underlying39 rfl (by kernel_rfl) (hK _ _ rfl (Below.refl _ _))
         ·refine uT fun b__ w hW hE K hK => ?_
          have e68 := hE 68
          have e70 := hE 70
          obtain ⟨A, n, c, h1, h2⟩ := e68
          exact B9 rfl (ps := [(0, .agg #[.slice A n c]), (1, .agg #[.slice A5 m5 c5])]) (by simp [h1, e70]) (cells := #[.slice A n c, .slice A5 m5 c5]) (by kernel_rfl) (hK _ _ ⟨A, n, c, rfl, h2⟩ (Below.refl _ _))
         ·refine uT fun b__ w hW hE K hK => ?_
          have e71 := hE 71
          obtain ⟨A, n, c, h1, h2⟩ := e71
          refine AX rfl Tryz.underlying41 (ps := [(0, .agg #[.slice A n c, .slice A5 m5 c5])]) (by simp [h1]) (cells := #[.slice A n c, .slice A5 m5 c5]) (by kernel_rfl) fun w' hX hb => hK _ _ ⟨A, n, c, (Sl.of_box (n := 1) (size := 2) hX rfl (by omega)).imp fun _ _ _ => trivial, h2.ext hb⟩ hb
         ·intro vs wz hW hT
          obtain ⟨e64, e65, e66, e67, e68, e69, e70, e71, e72, -⟩ := hT
          have bx : (fun _ : Nat => True) 0 := trivial
          simp only [Ak, Act.put, zz, ze]
          obtain ⟨A8, n8, c8, hsl, hset⟩ := e72
          rw [HDD.out] at hset
          have hS1 := hS.ret2 hW (C3 (Ab (v := .agg #[.slice A8 n8 c8]) (N := C6 zy x2)) fun z => w0.heap.size <= z) hset
          (intro o_ ho_; simp only [List.getElem?_toArray, List.getElem?_cons_succ, List.getElem?_cons_zero, Option.some.injEq] at ho_; subst ho_)
          refine CF rfl Dj e64 (hS1.own 1 rfl) rfl hsl (by intro u hu; simp at hu; rcases hu with rfl | rfl <;> rfl) (by omega) (by omega) hS1.size fun v9 w9 ho9 hg9 hat9 => ?_
          replace hS1 := hS1.upd 1 rfl (.own v9 56 2 (nx.length + pre2.length + 1) (xn' ++ [Value.slice A8 n8 c8, Value.slice A5 m5 c5])) hg9 ho9 hat9
          (intro o_ ho_; simp only [List.getElem?_toArray, List.getElem?_cons_succ, List.getElem?_cons_zero, Option.some.injEq] at ho_; subst ho_)
          simp only [Act.put, List.setIfInBounds_toArray, List.set_cons_zero, List.set_cons_succ]
          refine BE (v := v9) rfl rfl rfl (hS1.box 2 rfl) (by simp) (GF ho9) (own_one ho9) (by kernel_rfl) fun w10 h10 hU10 => ?_
          obtain ⟨A10, c10, rfl, _, _⟩ := B7 ho9
          replace hS1 := hS1.upd 2 rfl (.box g11 41 #[.slice A10 (nx.length + pre2.length + 1) c10]) (Bh hU10) ⟨(hS1.holds (.box g11 41 #[.slice A6 (nx.length + pre2.length) c6]) (by simp)).1, h10⟩ fun _ e => .inl e
          refine ⟨_, _, ⟨A10, c10, xn' ++ [.slice A8 n8 c8, .slice A5 m5 c5], rfl, hS1.stable, fun D w h => ⟨(HK6.out D w h.1.1).1, ?_⟩⟩, by rw [hU10.size]; exact Nat.le_trans hW.size hg9.size, by rw [List.length_append, List.length_singleton]; exact hS1⟩
          rw [List.map_append, <- List.append_assoc]
          exact ((HK6.out D w h.1.1).2).push (by rw [HXL.out, List.length_append, List.length_map]) h.2 (KZ.out D w (HK5.out _ _ (HK6.out D w h.1.1).1).1).2
        case done2 =>
         rintro W2 F2 K6 ⟨A6, c6, xn', rfl, hKs6, hk6⟩ hS
         subst hact
         have HK6 := Lib.hid hk6
         clear hk6
         gi_wp2_with (refine Cd (by intro _ _ h; exact h) _ _ _ (by rfl) _ _ ?_; go_wp2_with (first | ((with_reducible refine qB ?_); refine qc ?_ ?_ <;> intro h_ <;> go_prune)))
         have hlw : (AV wq).length <= 64 := IC HC3.out (by rw [HV3.out, HM.out]; exact Gz hr5 HN.out)
         refine ⟨⟨j + 1, A6, c6, nx ++ (AV wq).map fun s => (C6 zy s, zn), xn', K6, hlj, by go_num, Lib.hid ?_, by rw [List.length_append, List.length_map]; omega, Lib.hid fun D w h => ⟨(HK4.out D w (HK5.out D w (HK6.out D w h).1).1).1, (HK6.out D w h).2⟩, ?_⟩, by simp [intOf]; omega⟩
         ·rw [HNX.out]; exact (nextE_succ HZ.out HC3.out (by rw [HV3.out, HM.out]) (Gz hr5 HN.out)).symm
         ·rw [List.length_append, List.length_map]
          exact hS.sub (.cons _ (.refl _))
      ·obtain rfl : j = ll.length := by omega
       rw [List.take_length] at HNX
       have HNI : Hid (∀ z ∈ nx, z.2 = no /\ z.1 &&& N = z.1) := Lib.hid (by rw [HNX.out]; exact next_in HNL.out)
       have HN6 : Hid (N < 64) := Lib.hid (by rw [HN.out]; exact Eg r (by omega))
       have HNO6 : Hid (no < 64) := Lib.hid (sub_lt (by rw [HNO.out]; exact noP_in L N _) HN6.out)
       have K42 : Hid (∀ D w, K4 D w -> K2 D w) := Lib.hid fun D w h => (HKP.out D w (hK3.out D w (HK4.out D w h).1)).1
       gi_wp2_with (refine Cd (by intro _ _ h; exact h) _ _ _ (by rfl) _ _ ?_; go_wp2_with (first
        | ((with_reducible refine qB ?_); refine qc ?_ ?_ <;> intro h_ <;> go_prune)
        | ((with_reducible refine qA 75 ?_); refine st_cell hS 1 rfl _ _ rfl _ _ rfl _ _ rfl (by decide +kernel) _ rfl ?_)
        | (go_at_call 76; refine (simple_any _ xn nx (Sl.of_own (hS.own 0 rfl)) hS (fun D w h => ((HK4.out D w h).2).imp fun z hz _ => hz.1) (fun D w h => (kt D w (K42.out D w h)).1) (by omega) (fun z hz => ⟨sub_lt (HNI.out z hz).2 HN6.out, by rw [(HNI.out z hz).1]; exact HNO6.out⟩)).mono ?_; clear hS; rintro e w_ ⟨u, rs, ys, rfl, hQ, hlen, hcc, hS⟩; obtain ⟨A12, c12, rfl, _, _⟩ := B7 (hS.own 0 rfl); have hrs := simp_len HN6.out HNI.out hQ; replace hQ := Lib.hid hQ; replace hcc := Lib.hid hcc; clear hlen)
        | ((with_reducible refine qm 41 ?_); refine E1 hS 3 rfl _ _ _ rfl _ _ _ rfl rfl rfl (by simp) rfl rfl (by kernel_rfl) ?_; clear hS; intro w_ hS; (try simp only [Act.put, Act.eval, zz, Value.cells] at hS))
        | ((with_reducible refine qA 77 ?_); refine st_cell hS 3 rfl _ _ rfl _ _ rfl _ _ rfl (by decide +kernel) _ rfl ?_)))
       have hF := freezeGe hS 0 (by decide) rfl
       simp only [List.eraseIdx_cons_zero] at hF
       exact ⟨_, _, ⟨.slice A12 rs.length c12, rs, ys, rfl, hF.stable, ⟨.snoc x HE.out (by rw [<- HNX.out]; exact hQ.out), hrs, fun z hz => HNI.out z ((hQ.out.2 z).1 hz).1⟩, fun D w h => ⟨K42.out D w h.1, h.2, hcc.out w _ (HK4.out D w h.1).2⟩⟩, hSz.out _ _ (HK4.out _ _ hF.ro.1).1, hF.sub (.cons _ (.cons _ (.refl _)))⟩
    case done =>
     rintro D2 W F' K' hD ⟨v9, ll, xl, rfl, hKs, ⟨hE, hl64, hNo⟩, hk'⟩ hS hK
     subst hact
     obtain ⟨A9, c9, rfl, _, _⟩ := ((hk' _ _ hS.ro).2.1).shape
     have HE := Lib.hid hE
     have hM := hS.mark hsz hD (by
      intro f hf
      simp only [List.mem_cons, List.not_mem_nil, or_false] at hf
      rcases hf with rfl | rfl | rfl | rfl | rfl | rfl | rfl | rfl
      ·exact .inl rfl
      ·exact .inl rfl
      ·exact .inl rfl
      ·exact .inl rfl
      ·exact .inl rfl
      ·exact .inl rfl
      ·exact .inl rfl
      ·exact .inr ⟨D, _, rfl, HDD.out⟩) hK rfl
     have HKP := Lib.hid hk'
     clear hk' hS hK hE hNo
     have hS := hM
     clear hM
     simp only [List.cons_append, List.nil_append] at hS
     go_wp2_with (first
      | ((with_reducible refine qK ?_); refine qC hS ?_)
      | ((with_reducible refine qm 41 ?_); refine E1 hS 4 rfl _ _ _ rfl _ _ _ rfl rfl rfl (by simp) rfl rfl (by kernel_rfl) ?_; clear hS; intro w_ hS; (try simp only [Act.put, Act.eval, zz, Value.cells] at hS))
      | ((with_reducible refine qm 46 ?_); refine E1 hS 3 rfl _ _ _ rfl _ _ _ rfl rfl rfl (by simp) rfl rfl (by kernel_rfl) ?_; clear hS; intro w_ hS; (try simp only [Act.put, Act.eval, zz, Value.cells] at hS)))
     refine CQ (F := [.box g9 41 #[.slice A9 ll.length c9], .box g7 39 #[.slice A3 n3 c3], .box g6 39 #[.slice B2 n2 c2], .box g5 46 #[.int .i64 0], .box g4 41 #[.slice A9 ll.length c9], .box g3 56 #[.slice Ay wy.length cy, .slice Am wn.length cm], .box g2 43 #[.int .i64 (r : Nat), .pointer (some ⟨q, 0, none⟩), .slice Cs ns cs, .slice Ar rl.length cr, .slice An nl.length cn, .slice Ag gl.length cg]]) ?_ [D2, D] _ (hS.permC ?_)
     ·intro w' h
      refine ⟨_, ret_cc rfl rfl (h.shut 4 rfl 0 rfl) (by kernel_rfl) rfl (h.shut 3 rfl 0 rfl) (by kernel_rfl), ?_⟩
      refine AF.mk ⟨_, ll, 0, rfl, ⟨xl, ((HKP.out _ _ h.ro).2.1).imp fun z hz _ => hz.2, ((HKP.out _ _ h.ro).2.2).imp fun z hz _ => hz.2⟩, ?_⟩ h.below
      unfold J1
      rw [if_pos (by simpa using HB.out)]
      have hyn : y ||| n < 64 := sub_lt (by simpa using HB.out) (by rw [HN.out]; exact Eg r (by omega))
      have hy64 : y < AM := by have : y <= y ||| n := Nat.left_le_or; unfold AM; omega
      have hn64 : n < AM := by have : n <= y ||| n := Nat.right_le_or; unfold AM; omega
      refine ⟨rfl, ?_⟩
      dsimp only
      rw [<- HVY.out, <- G4 HCY.out (by rw [HVY.out]; exact hy64), <- HVN.out, <- G4 HCN.out (by rw [HVN.out]; exact hn64), <- HNO.out]
      exact HE.out
     ·exact (List.Perm.append_left ([.box g9 41 #[.slice A9 ll.length c9], .box g7 39 #[.slice A3 n3 c3], .box g6 39 #[.slice B2 n2 c2], .box g5 46 #[.int .i64 0], .box g4 41 #[.slice A9 ll.length c9], .box g3 56 #[.slice Ay wy.length cy, .slice Am wn.length cm], .box g2 43 #[.int .i64 (r : Nat), .pointer (some ⟨q, 0, none⟩), .slice Cs ns cs, .slice Ar rl.length cr, .slice An nl.length cn, .slice Ag gl.length cg]] : List Ac) (List.Perm.swap _ _ _))
end
section
open Go.RowKit
def Sp.g {X : Type} {R : X -> X -> Prop} (c : Bool) (v : Value) : Sp R := .i (cond c v undef)
section
variable {X : Type} {κ : Kd X} {P : Program} {ops : Array Oper} {l : List (Sp κ.R)} {a0 : Act} {Q : Exit -> Act -> World -> Prop} {i : Nat} {o : Oper}
theorem uY {j : Nat} {c : Bool} {oj : Oper} {d : Tmp} (h : o.guard = some (j, c) := by rfl) (h1 : ops[j]? = some oj := by rfl) (h2 : oj.dst = some d := by rfl) (h3 : src ops d o.after.toList = some j := by rfl) (h4 : l[j]? = some (.i (.bool !c)) := by rfl) (hs : ∀ x, Sp.T l i undef x := by first | exact fun _ => rfl | exact fun _ => trivial | exact fun _ => nofun) : BR κ P ops l a0 Q i o := fun b x hC hN hE =>
 ⟨fun hw => (by rw [DY h h1 h2 ((Ev.n h3 h4).at hE : b.eval (.tmp _) = _)] at hw; cases c <;> cases hw), fun _ => hs x⟩
theorem uX {j : Nat} {c : Bool} {oj : Oper} {d : Tmp} (h : o.guard = some (j, c) := by rfl) (h1 : ops[j]? = some oj := by rfl) (h2 : oj.dst = some d := by rfl) (h3 : src ops d o.after.toList = some j := by rfl) (h4 : l[j]? = some (.i undef) := by rfl) (hs : ∀ x, Sp.T l i undef x := by first | exact fun _ => rfl | exact fun _ => trivial | exact fun _ => nofun) : BR κ P ops l a0 Q i o := fun b x hC hN hE =>
 ⟨fun hw => (by
  have h5 : b.eval (.tmp d) = undef := (Ev.n h3 h4).at hE
  have h6 : yielded ops b.tmps j = none := by
   have h7 : ((some oj).bind fun x => x.dst) = some d := h2
   unfold yielded
   rw [h1, h7]
   simp only [Option.bind_some]
   cases h7 : b.tmps[d]? with
   | none => rfl
   | some v =>
    have : v = undef := by simpa [Act.eval, h7] using h5
    subst this; rfl
  simp [Region.wanted, h, h6] at hw), fun _ => hs x⟩
end
end
end Go.Proofs.YtchjigffejhmfaaGreatDoor
