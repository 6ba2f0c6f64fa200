/-
  The card of SliceOf.
-/
import Derived.Deep.LoopGhost
import Derived.Test.YtihpgmbinhmmlaaGreatDoorRows
import Derived.ProofKit
import Derived.OpenShut
import Derived.Lib.LaidU8
import Derived.Lay
import Derived.MakeChecks
import Derived.LaidLaws
import Derived.Stop.Joined
import Derived.Test.YtihpgmbinhmmlaaGreatDoorCards
import Derived.Test.YtihpgmbinhmmlaaGreatDoorTie
import Derived.SevenTiedAt
import Derived.Test.YtihpgmbinhmmlaaGreatDoorSo4
namespace Go.Proofs.YtihpgmbinhmmlaaGreatDoor
section
open Go.RowKit
attribute [local go_sem ↓] Go.wp_at_zero Go.wp_at_succ
set_option maxRecDepth 20000
set_option exponentiation.threshold 5000
theorem rolesN_lt (r : Nat) : CQ r < 2 ^ (r + 1) := by
 have h1 : 2 ^ (r + 1) - 1 < 2 ^ (r + 1) := by have := Nat.two_pow_pos (r + 1); omega
 unfold CQ del
 split
 ·exact Nat.xor_lt_two_pow h1 (Nat.pow_lt_pow_right (by decide) (by simp))
 ·exact h1
theorem has_roles {r : Nat} {i : Int} (h : Bd (CQ r) i = true) : ∃ t : Nat, i = (t : Int) /\ t <= r := by
 unfold Bd at h
 simp only [Bool.and_eq_true, decide_eq_true_eq] at h
 refine ⟨i.toNat, by omega, ?_⟩
 rcases Nat.lt_or_ge i.toNat (r + 1) with h1 | h1
 ·omega
 ·have := Nat.testBit_lt_two_pow (Nat.lt_of_lt_of_le (rolesN_lt r) (Nat.pow_le_pow_right (by decide) h1))
  rw [this] at h; cases h.2
theorem checkE_known {p : Aw} {L : List (Nat × Nat)} (h : checkE p = 0) (hl : p.links = some L) : (1 <= p.roles /\ p.roles <= 63) /\ Ds p L (CQ p.roles.toNat) = true := by
 unfold checkE at h
 rw [hl] at h
 dsimp only at h
 split at h
 ·cases h
 ·rename_i h1
  split at h
  ·cases h
  ·split at h
   ·cases h
   ·rename_i h2
    exact ⟨by omega, by simpa using h2⟩
theorem target_nat {p : Aw} {L : List (Nat × Nat)} (h : checkE p = 0) (hl : p.links = some L) {r : AL} (hr : r ∈ p.rules) : ∃ t : Nat, r.target = (t : Int) /\ t < 64 := by
 obtain ⟨h1, h2⟩ := checkE_known h hl
 unfold Ds at h2
 simp only [Bool.and_eq_true] at h2
 obtain ⟨t, e, ht⟩ := has_roles (List.all_eq_true.1 h2.2.2.1 r hr)
 exact ⟨t, e, by omega⟩
theorem cnt_lt {α : Type} {p q : α -> Bool} (h : ∀ x, q x = true -> p x = true) {r : α} (hp : p r = true) (hq : q r = false) : ∀ {l : List α}, r ∈ l -> (l.filter q).length < (l.filter p).length
 | x :: l, hr => by
  have hle : ∀ l : List α, (l.filter q).length <= (l.filter p).length := fun l => by
   induction l with
   | nil => simp
   | cons y l ih =>
    rw [List.filter_cons, List.filter_cons]
    by_cases hy : q y = true
    ·rw [if_pos hy, if_pos (h y hy)]; simpa using ih
    ·rw [if_neg hy]; split
     ·simp; omega
     ·exact ih
  rcases List.mem_cons.1 hr with rfl | hr
  ·rw [List.filter_cons, List.filter_cons, if_neg (by rw [hq]; decide), if_pos hp]
   have := hle l
   simp; omega
  ·have ih := cnt_lt h hp hq hr
   rw [List.filter_cons, List.filter_cons]
   by_cases hy : q x = true
   ·rw [if_pos hy, if_pos (h x hy)]; simpa using ih
   ·rw [if_neg hy]; split
    ·simp; omega
    ·exact ih
theorem En {L : List (Nat × Nat)} {s i : Nat} : (closM L s).testBit i = true ↔ ∃ r, r < 64 /\ 1 <= r /\ s.testBit r = true /\ (junM L r).testBit i = true := by
 unfold closM; exact EN
theorem Cd.clos {L : List (Nat × Nat)} {a b : Nat} (h : Cd a b) : Cd (closM L a) (closM L b) := fun i hi => by
 obtain ⟨r, h1, h2, h3, h4⟩ := En.1 hi
 exact En.2 ⟨r, h1, h2, h r h3, h4⟩
theorem CW {a b : Nat} : (a &&& b == a) = true ↔ Cd a b := by
 rw [beq_iff_eq]
 constructor
 ·intro h i hi
  rw [<- h, Nat.testBit_and, Bool.and_eq_true] at hi
  exact hi.2
 ·intro h
  refine B3 fun i => ?_
  rw [Nat.testBit_and, Bool.and_eq_true]
  exact ⟨fun h => h.1, fun hi => ⟨hi, h i hi⟩⟩
structure UCl (L : List (Nat × Nat)) (p : Aw) (T : Nat) : Prop where
 start : Cd p.start T
 rules : ∀ r ∈ p.rules, r.revoke = false -> (r.yes &&& closM L T == r.yes) = true -> Bd T r.target = true
def ULow (L : List (Nat × Nat)) (p : Aw) (N : Nat) : Prop := Cd p.start N /\ ∀ T, UCl L p T -> Cd N T
def Fk (L : List (Nat × Nat)) (p : Aw) (N : Nat) : Prop := UCl L p N /\ ∀ T, UCl L p T -> Cd N T
open Classical in
noncomputable def uppM (L : List (Nat × Nat)) (p : Aw) : Nat := if h : ∃ N, Fk L p N then Classical.choose h else 0
theorem Fk.eq {L : List (Nat × Nat)} {p : Aw} {N : Nat} (h : Fk L p N) : N = uppM L p := by
 have hx : ∃ N, Fk L p N := ⟨N, h⟩
 have k : Fk L p (uppM L p) := by unfold uppM; rw [dif_pos hx]; exact Classical.choose_spec hx
 exact (h.2 _ k.1).anti (k.2 _ h.1)
theorem ULow.add {L : List (Nat × Nat)} {p : Aw} {N t : Nat} (h : ULow L p N) {r : AL} (hr : r ∈ p.rules) (h1 : r.revoke = false) (h2 : (r.yes &&& closM L N == r.yes) = true) (ht : r.target = (t : Int)) : ULow L p (N ||| 2 ^ t) :=
 ⟨h.1.trans (Cd.left _ _), fun T hT => (h.2 T hT).or fun i hi => by
  have e : i = t := DW.1 hi
  subst e
  have := hT.rules r hr h1 (CW.2 ((CW.1 h2).trans (h.2 T hT).clos))
  rw [ht] at this
  unfold Bd at this
  simp only [Bool.and_eq_true] at this
  simpa using this.2⟩
def FV (N : Nat) (l : List AL) : Nat := (l.filter fun r => !Bd N r.target).length
theorem lacks_lt {N t : Nat} {l : List AL} {r : AL} (hr : r ∈ l) (ht : r.target = (t : Int)) (hn : Bd N r.target = false) : FV (N ||| 2 ^ t) l < FV N l := by
 refine cnt_lt (r := r) (fun x hx => ?_) (by rw [hn]; rfl) ?_ hr
 ·cases hb : Bd N x.target with
  | false => rfl
  | true => rw [(Cd.left N (2 ^ t)).has hb] at hx; cases hx
 ·rw [ht]; simp [Bd]
noncomputable def uslN (C : Nat) (l : List AL) (j : Nat) : List Int := ((List.range j).filter fun k : Nat => !(l.getD k Av).revoke && !((l.getD k Av).yes &&& C == (l.getD k Av).yes)).map fun k : Nat => (k : Int)
theorem uslN_step {C : Nat} {l : List AL} {j : Nat} {r : AL} (h : l[j]? = some r) : uslN C l (j + 1) = if (!r.revoke && !(r.yes &&& C == r.yes)) = true then uslN C l j ++ [(j : Int)] else uslN C l j := by
 unfold uslN
 have e : l.getD j Av = r := by rw [List.getD_eq_getElem?_getD, h]; rfl
 rw [List.range_succ, List.filter_append, List.map_append]
 by_cases e2 : (!r.revoke && !(r.yes &&& C == r.yes)) = true
 ·rw [if_pos e2, List.filter_cons, e, if_pos e2]; rfl
 ·rw [if_neg e2, List.filter_cons, e, if_neg e2]; simp
noncomputable def useN (p : Aw) : List Int := if checkE p = 0 then (match p.links with
 | none => []
 | some L => uslN (closM L (uppM L p)) p.rules p.rules.length) else []
structure URnd (L : List (Nat × Nat)) (p : Aw) (B N : Nat) (b : Bool) (j : Nat) : Prop where
 low : ULow L p N
 yes : b = true -> FV N p.rules < FV B p.rules
 no : b = false -> N = B /\ ∀ r ∈ p.rules.take j, r.revoke = false -> (r.yes &&& closM L N == r.yes) = true -> Bd N r.target = true
theorem URnd.skip {L : List (Nat × Nat)} {p : Aw} {B N : Nat} {b : Bool} {j : Nat} (h : URnd L p B N b j) {r : AL} (hj : p.rules[j]? = some r) (h1 : r.revoke = true \/ Bd N r.target = true \/ (r.yes &&& closM L N == r.yes) = false) : URnd L p B N b (j + 1) :=
 ⟨h.low, h.yes, fun e => ⟨(h.no e).1, fun x hx a c => (CL hj hx).elim (fun hx => (h.no e).2 x hx a c) fun e2 => by
  subst e2
  rcases h1 with h1 | h1 | h1
  ·rw [h1] at a; cases a
  ·exact h1
  ·rw [h1] at c; cases c⟩⟩
theorem URnd.add {L : List (Nat × Nat)} {p : Aw} {B N t : Nat} {b : Bool} {j : Nat} (h : URnd L p B N b j) {r : AL} (hj : p.rules[j]? = some r) (h1 : r.revoke = false) (h2 : Bd N r.target = false) (h3 : (r.yes &&& closM L N == r.yes) = true) (ht : r.target = (t : Int)) : URnd L p B (N ||| 2 ^ t) true (j + 1) :=
 ⟨h.low.add (List.mem_of_getElem? hj) h1 h3 ht, fun _ => by
  have h4 := lacks_lt (List.mem_of_getElem? hj) ht h2
  cases b with
  | true => exact Nat.lt_trans h4 (h.yes rfl)
  | false => rw [<- (h.no rfl).1]; exact h4, fun e => by cases e⟩
end
section
open Go.RowKit
attribute [local go_sem ↓] Go.wp_at_zero Go.wp_at_succ
set_option maxRecDepth 20000
set_option exponentiation.threshold 5000
set_option maxHeartbeats 4000000 in
theorem useless_any {w0 : World} {D : Nat -> Prop} {v : Value} {p : Aw} (hp : Bh w0 D v p) (hP : p.Ok) (hT : Bo w0) : Calls Tryz.prog 21 #[v] w0 fun e w' => ∃ u, e = .returned u /\ St w0 w' [.own u 3 1 (useN p).length (AQ (useN p))] fun _ _ => True := by
 obtain ⟨R, lk, st, rl, nl, gl⟩ := p
 have HP := Lib.hid hP
 have hP1 := hP.rules
 dsimp only at hP1
 clear hP
 obtain ⟨lp, s, rv, nv, gv, rfl, h1, h2, h3, h4, h5⟩ := hp
 dsimp only at h1 h2 h3 h4 h5 ⊢
 obtain ⟨Cs, ns, cs, rfl⟩ := h2.shape
 obtain ⟨Ar, cr, rfl, _, _⟩ := h3.shape
 obtain ⟨An, cn, rfl, _, _⟩ := h4.shape
 obtain ⟨Ag, cg, rfl, _, _⟩ := h5.shape
 obtain ⟨K, kp, kho, ks, kr, kt, hS⟩ : ∃ K : (Nat -> Prop) -> World -> Prop, (∀ D w, K D w -> Bh w D (.agg #[.int .i64 R, lp, .slice Cs ns cs, .slice Ar rl.length cr, .slice An nl.length cn, .slice Ag gl.length cg]) ⟨R, lk, st, rl, nl, gl⟩) /\ (∀ D w, K D w -> Gc w D lp lk) /\ (∀ D w, K D w -> A7 w D (.agg #[.slice Cs ns cs]) st) /\ (∀ D w, K D w -> AZ w D (.slice Ar rl.length cr) rl) /\ (∀ D w, K D w -> Bo w) /\ St w0 w0 [] K :=
  ⟨fun D w => ((Gc w D lp lk /\ A7 w D (.agg #[.slice Cs ns cs]) st) /\ AZ w D (.slice Ar rl.length cr) rl /\ Af w D (.slice An nl.length cn) nl /\ Af w D (.slice Ag gl.length cg) gl) /\ (Bo w /\ D 0), fun _ _ h => ⟨_, _, _, _, _, rfl, h.1.1.1, h.1.1.2, h.1.2.1, h.1.2.2.1, h.1.2.2.2⟩, fun _ _ h => h.1.1.1, fun _ _ h => h.1.1.2, fun _ _ h => h.1.2.1, fun _ _ h => h.2.1,
   St.start (D := fun _ => True) (((BL.and A5).and (AM.and (Ax.and Ax))).and BE) ⟨⟨⟨BL D _ w0 w0 h1 (Nat.le_refl _) (fun _ _ _ _ h => h) fun _ _ _ _ => trivial, h2.imp fun _ _ _ => trivial⟩, AM D _ w0 w0 h3 (Nat.le_refl _) (fun _ _ _ _ h => h) fun _ _ _ _ => trivial, h4.imp fun _ _ _ => trivial, h5.imp fun _ _ _ => trivial⟩, hT, trivial⟩⟩
 clear h1 h2 h3 h4 h5 hT
 have KS := Lib.hid hS.stable
 obtain ⟨e, he⟩ : ∃ e, e = checkE ⟨R, lk, st, rl, nl, gl⟩ := ⟨_, rfl⟩
 have HE := Lib.hid he
 clear he
 by_cases h0 : e = 0
 ·subst h0
  cases lk with
  | none => have := HE.out; cases this
  | some L =>
   have HH := Lib.hid (HP.out.links L rfl).1
   have HTG := Lib.hid fun (r : AL) (hr : r ∈ rl) => target_nat HE.out.symm rfl (r := r) hr
   have HUS : Hid (useN ⟨R, some L, st, rl, nl, gl⟩ = uslN (closM L (uppM L ⟨R, some L, st, rl, nl, gl⟩)) rl rl.length) := Lib.hid (by unfold useN; rw [if_pos HE.out.symm])
   rw [HUS.out]
   obtain ⟨q, o, rfl, -⟩ := id (kho _ _ hS.ro)
   have kh : ∀ D w, K D w -> Ge w D (.pointer (some ⟨q, 0, none⟩)) L := fun D w h => kho D w h
   go_enter Tryz.func21, Tryz.ntmps21
   go_wp2_with (first
    | ((with_reducible refine qA 1 ?_); refine AA hS rfl _ _ rfl (.agg #[.int .i64 R, .pointer (some ⟨q, 0, none⟩), .slice Cs ns cs, .slice Ar rl.length cr, .slice An nl.length cn, .slice Ag gl.length cg]) _ rfl rfl ?_; clear hS; intro g1 w_ hS; (try simp only [Act.put, Act.eval, zz, Value.cells] at hS))
    | ((with_reducible refine qA 3 ?_); refine qa hS #[.slice none 0 0] ?_; clear hS; intro g3 w_ hS)
    | ((with_reducible refine qB ?_); refine qc ?_ ?_ <;> intro h_ <;> go_prune)
    | ((with_reducible refine qK ?_); refine qL hS Tryz.underlying31 ?_)
    | ((with_reducible refine qk 27 ?_); first | (refine A9 hS 0 rfl _ _ rfl _ _ rfl _ _ rfl _ (by first | rfl | assumption) Tryz.underlying27 rfl (by kernel_rfl) ?_) | (refine A9 hS 1 rfl _ _ rfl _ _ rfl _ _ rfl _ (by first | rfl | assumption) Tryz.underlying27 rfl (by kernel_rfl) ?_) | (refine A9 hS 2 rfl _ _ rfl _ _ rfl _ _ rfl _ (by first | rfl | assumption) Tryz.underlying27 rfl (by kernel_rfl) ?_) | (refine A9 hS 3 rfl _ _ rfl _ _ rfl _ _ rfl _ (by first | rfl | assumption) Tryz.underlying27 rfl (by kernel_rfl) ?_) | (refine A9 hS 4 rfl _ _ rfl _ _ rfl _ _ rfl _ (by first | rfl | assumption) Tryz.underlying27 rfl (by kernel_rfl) ?_) | (refine A9 hS 5 rfl _ _ rfl _ _ rfl _ _ rfl _ (by first | rfl | assumption) Tryz.underlying27 rfl (by kernel_rfl) ?_))
    | ((with_reducible refine qM ?_); (first | refine qS hS ?_ | refine qT hS ?_); clear hS; intro w_ hS; (try simp only [Act.put, Act.eval, zz, Value.cells] at hS))
    | (go_at_call 18; refine (Dp (kp _ _ hS.ro) HP.out (kt _ _ hS.ro)).mono ?_; rw [<- HE.out]; rintro r_ w_ ⟨_, rfl, rfl, hb_⟩; replace hS := hS.ext hb_; clear hb_))
   go_loopg [4] (2 * FV st rl + 1) (fun k mv wr => ∃ (mb : Bool) (u : Value) (N : Nat), mv = .bool mb /\ 2 * FV N rl + (if mb = true then 1 else 0) <= k /\ Hid (ULow L ⟨R, some L, st, rl, nl, gl⟩ N /\ (mb = false -> ∀ r ∈ rl, r.revoke = false -> (r.yes &&& closM L N == r.yes) = true -> Bd N r.target = true)) /\ St w0 wr [.box g3 27 #[u], .box g1 31 #[.int .i64 R, .pointer (some ⟨q, 0, none⟩), .slice Cs ns cs, .slice Ar rl.length cr, .slice An nl.length cn, .slice Ag gl.length cg]] (fun D w => K D w /\ A7 w D (.agg #[u]) N))
   case atStart => exact ⟨true, _, st, rfl, by simp, Lib.hid ⟨⟨Cd.refl _, fun T hT => hT.start⟩, nofun⟩, hS.mono (KS.out.and A5) fun D w h => ⟨h, ks _ _ h⟩⟩
   case round =>
    clear hS
    obtain ⟨mb, u, B, rfl, hgk, HI, hS⟩ := hrel
    have HGK := Lib.hid hgk
    clear hgk
    cases mb
    ·have HU : Hid (B = uppM L ⟨R, some L, st, rl, nl, gl⟩) := Lib.hid (Fk.eq ⟨⟨HI.out.1.1, HI.out.2 rfl⟩, HI.out.1.2⟩)
     obtain ⟨N0, rfl⟩ : ∃ N0, N0 = B := ⟨_, rfl⟩
     clear HI HGK
     go_wp2_with (first | ((with_reducible refine qK ?_); refine qC hS ?_))
     have hSn := hS.nil 3 1
     clear hS
     have hS := hSn
     clear hSn
     go_loopw [7, 51] (fun kw i wr => ∃ (j : Nat) (kv : Value), i = .int .i64 (j : Nat) /\ kv = kw /\ j <= rl.length /\ St w0 wr (.own kv 3 1 (uslN (closM L N0) rl j).length (AQ (uslN (closM L N0) rl j)) :: [.box g3 27 #[u], .box g1 31 #[.int .i64 R, .pointer (some ⟨q, 0, none⟩), .slice Cs ns cs, .slice Ar rl.length cr, .slice An nl.length cn, .slice Ag gl.length cg]]) (fun D w => K D w /\ A7 w D (.agg #[u]) N0)) (fun _ i _ => rl.length - (intOf i).toNat)
     case atStart => exact ⟨0, _, rfl, rfl, by omega, hS⟩
     case round =>
      clear hS
      obtain ⟨j, kv, rfl, rfl, hj, hS⟩ := hrel
      by_cases hlj : j < rl.length
      ·obtain ⟨b, o2, y, n, rfl, _, hb, c0, c1, c2, c3, c4, hy, hn⟩ := (kr _ _ hS.ro.1).at_ hlj
       obtain ⟨Ay, my, cy, rfl⟩ := hy.shape
       obtain ⟨Am, mn, cm, rfl⟩ := hn.shape
       have HTN := Lib.hid (uslN_step (C := closM L N0) (Bb Av hlj))
       have HLK : Hid ((uslN (closM L N0) rl j).length <= 100000) := Lib.hid (by unfold uslN; rw [List.length_map]; exact Nat.le_trans (List.length_filter_le _ _) (by rw [List.length_range]; omega))
       obtain ⟨KC, kc, hS2⟩ : ∃ KC : (Nat -> Prop) -> World -> Prop, Hid (∀ D w, KC D w -> K D w /\ A7 w D (.agg #[u]) N0 /\ A7 w D (.agg #[.slice Ay my cy]) (rl.getD j Av).yes /\ A7 w D (.agg #[.slice Am mn cm]) (rl.getD j Av).no) /\ St w0 wr (.own kv 3 1 (uslN (closM L N0) rl j).length (AQ (uslN (closM L N0) rl j)) :: [.box g3 27 #[u], .box g1 31 #[.int .i64 R, .pointer (some ⟨q, 0, none⟩), .slice Cs ns cs, .slice (some ⟨b, o2, none⟩) rl.length cr, .slice An nl.length cn, .slice Ag gl.length cg]]) KC := ⟨_, Lib.hid fun D w h => ⟨h.1.1, h.1.2, h.2.1, h.2.2⟩, hS.add (D := CU _) (A5.and A5) ⟨hy, hn⟩ fun _ h _ => h⟩
       clear hS hy hn
       have hS := hS2
       clear hS2
       generalize rl.getD j Av = z at *
       obtain ⟨rv, ry, rn, rt, ro⟩ := z
       dsimp only at kc c0 c1 c2 c3 c4 HTN
       obtain ⟨b2, hb2⟩ : ∃ b, b = (ry &&& closM L N0 == ry) := ⟨_, rfl⟩
       have HB2 := Lib.hid hb2
       rw [<- hb2] at HTN
       clear hb2
       generalize hKN : uslN (closM L N0) rl j = KN at *
       clear hKN
       cases rv
       ·cases b2
        ·obtain ⟨b2, hb2'⟩ : ∃ b, b = false := ⟨_, rfl⟩
         rw [<- hb2'] at HB2
         have hkl := HLK.out
         go_wp2_with (first
          | ((with_reducible refine qB ?_); refine qc ?_ ?_ <;> intro h_ <;> go_prune)
          | ((with_reducible refine qA 55 ?_); refine BigFrame.wpList_want rfl fun _ hK => AE (cs := [.bool _, .slice Ay my cy, .slice Am mn cm, .int .i64 rt, .int .i64 ro]) rfl rfl (Df c0 c1 c2 c3 c4) Tryz.underlying58 rfl (by kernel_rfl) (hK _ _ ?_))
          | ((with_reducible refine qA 9 ?_); refine qa hS #[.bool false, .slice none 0 0, .slice none 0 0, .int .i64 0, .int .i64 0] ?_; clear hS; intro g9 w_ hS)
          | ((with_reducible refine qM ?_); (first | refine qS hS ?_ | refine qT hS ?_); clear hS; intro w_ hS; (try simp only [Act.put, Act.eval, zz, Value.cells] at hS)))
         refine C2 [.q g9 0, .b false, .b true, .b true, .q g9 1, .q g9 1, .i (.agg #[.slice Ay my cy]), .q g1 1, .q q 0, .i (.agg #[u]), .s (fun v w => A7 w (fun _ => True) v (closM L N0)) fun v w w' h hb => h.ext hb, .i (.bool b2), .i (.bool (!b2)), .i (.bool (!b2))] ⟨uF, uC (h := fun w hW hN => ((hS.ext hW).box 0 rfl).cell 0), uU, uM, uF, uF, ?_, uF, uC (h := fun w hW hN => ((hS.ext hW).box 3 rfl).cell 1), uR (h := fun w hW hN => (hS.ext hW).box 2 rfl), ?_, ?_, uU, uP, trivial⟩ ?_
         ·refine uT fun b__ w hW hE K hK => ?_
          have e61 := hE 61
          exact C4 rfl e61 ((hS.ext hW).box 0 rfl) rfl Tryz.underlying27 (by kernel_rfl) (by kernel_rfl) (hK _ _ rfl (Below.refl _ _))
         ·refine uT fun b__ w hW hE K hK => ?_
          have e64 := hE 64
          have e65 := hE 65
          exact Ah rfl (by kernel_rfl) (by simp only [List.map_cons, List.map_nil, e64, e65]) (DV (kh _ _ (kc.out _ _ (hS.ext hW).ro).1) (kt _ _ (kc.out _ _ (hS.ext hW).ro).1) HH.out (kc.out _ _ (hS.ext hW).ro).2.1) fun v w' h hb => hK v w' (h.imp fun _ _ _ => trivial) hb
         ·refine uT fun b__ w hW hE K hK => ?_
          have e62 := hE 62
          have e66 := hE 66
          exact Ah rfl (by kernel_rfl) (by simp only [List.map_cons, List.map_nil, e62]) (Cw _ _ ry (closM L N0) _ _ _ (kc.out _ _ (hS.ext hW).ro).2.2.1 e66) fun v w' h hb => hK v w' (h.trans (by rw [HB2.out])) hb
         ·intro vs wz hW hT
          obtain ⟨e56, e57, e58, e59, e60, e61, e62, e63, e64, e65, e66, e67, e68, e69, -⟩ := hT
          have bx : (fun _ : Nat => True) 0 := trivial
          simp only [AC, Act.put, zz, ze]
          rw [hb2'] at e69
          rw [e69]
          replace hS := hS.ext hW
          clear hW
          go_wp2_with (first
           | ((with_reducible refine qA 72 ?_); refine Co hS 1 rfl rfl _ _ _ _ rfl rfl Di kv KN.length (AQ KN) (.int .i64 (j : Nat)) #[.int .i64 (j : Nat)] rfl (by kernel_rfl) rfl rfl rfl rfl (by intro u hu; simp at hu; subst hu; rfl) (by omega) (by omega) ?_; clear hS; intro z_ kv' w_ hS; (try simp only [Act.put, Act.eval, zz, Value.cells] at hS)))
          refine ⟨⟨j + 1, _, by go_num, rfl, hlj, ?_⟩, by simp [intOf]; omega⟩
          rw [HTN.out.trans (if_pos rfl), show (KN ++ [(j : Int)]).length = KN.length + 1 by simp, show AQ (KN ++ [(j : Int)]) = AQ KN ++ [.int .i64 (j : Nat)] by simp [AQ]]
          exact (hS.sub (List.sublist_cons_self _ _)).mono (KS.out.and A5) fun D w h => ⟨(kc.out _ _ h).1, (kc.out _ _ h).2.1⟩
        ·obtain ⟨b2, hb2'⟩ : ∃ b, b = true := ⟨_, rfl⟩
         rw [<- hb2'] at HB2
         go_wp2_with (first
          | ((with_reducible refine qB ?_); refine qc ?_ ?_ <;> intro h_ <;> go_prune)
          | ((with_reducible refine qA 55 ?_); refine BigFrame.wpList_want rfl fun _ hK => AE (cs := [.bool _, .slice Ay my cy, .slice Am mn cm, .int .i64 rt, .int .i64 ro]) rfl rfl (Df c0 c1 c2 c3 c4) Tryz.underlying58 rfl (by kernel_rfl) (hK _ _ ?_))
          | ((with_reducible refine qA 9 ?_); refine qa hS #[.bool false, .slice none 0 0, .slice none 0 0, .int .i64 0, .int .i64 0] ?_; clear hS; intro g9 w_ hS)
          | ((with_reducible refine qM ?_); (first | refine qS hS ?_ | refine qT hS ?_); clear hS; intro w_ hS; (try simp only [Act.put, Act.eval, zz, Value.cells] at hS)))
         refine C2 [.q g9 0, .b false, .b true, .b true, .q g9 1, .q g9 1, .i (.agg #[.slice Ay my cy]), .q g1 1, .q q 0, .i (.agg #[u]), .s (fun v w => A7 w (fun _ => True) v (closM L N0)) fun v w w' h hb => h.ext hb, .i (.bool b2), .i (.bool (!b2)), .i (.bool (!b2))] ⟨uF, uC (h := fun w hW hN => ((hS.ext hW).box 0 rfl).cell 0), uU, uM, uF, uF, ?_, uF, uC (h := fun w hW hN => ((hS.ext hW).box 3 rfl).cell 1), uR (h := fun w hW hN => (hS.ext hW).box 2 rfl), ?_, ?_, uU, uP, trivial⟩ ?_
         ·refine uT fun b__ w hW hE K hK => ?_
          have e61 := hE 61
          exact C4 rfl e61 ((hS.ext hW).box 0 rfl) rfl Tryz.underlying27 (by kernel_rfl) (by kernel_rfl) (hK _ _ rfl (Below.refl _ _))
         ·refine uT fun b__ w hW hE K hK => ?_
          have e64 := hE 64
          have e65 := hE 65
          exact Ah rfl (by kernel_rfl) (by simp only [List.map_cons, List.map_nil, e64, e65]) (DV (kh _ _ (kc.out _ _ (hS.ext hW).ro).1) (kt _ _ (kc.out _ _ (hS.ext hW).ro).1) HH.out (kc.out _ _ (hS.ext hW).ro).2.1) fun v w' h hb => hK v w' (h.imp fun _ _ _ => trivial) hb
         ·refine uT fun b__ w hW hE K hK => ?_
          have e62 := hE 62
          have e66 := hE 66
          exact Ah rfl (by kernel_rfl) (by simp only [List.map_cons, List.map_nil, e62]) (Cw _ _ ry (closM L N0) _ _ _ (kc.out _ _ (hS.ext hW).ro).2.2.1 e66) fun v w' h hb => hK v w' (h.trans (by rw [HB2.out])) hb
         ·intro vs wz hW hT
          obtain ⟨e56, e57, e58, e59, e60, e61, e62, e63, e64, e65, e66, e67, e68, e69, -⟩ := hT
          have bx : (fun _ : Nat => True) 0 := trivial
          simp only [AC, Act.put, zz, ze]
          rw [hb2'] at e69
          rw [e69]
          replace hS := hS.ext hW
          clear hW
          go_wp2_with fail
          refine ⟨⟨j + 1, kv, by go_num, rfl, hlj, ?_⟩, by simp [intOf]; omega⟩
          rw [HTN.out.trans (if_neg (by decide))]
          exact (hS.sub (List.sublist_cons_self _ _)).mono (KS.out.and A5) fun D w h => ⟨(kc.out _ _ h).1, (kc.out _ _ h).2.1⟩
       ·skip
        go_wp2_with (first
         | ((with_reducible refine qB ?_); refine qc ?_ ?_ <;> intro h_ <;> go_prune)
         | ((with_reducible refine qA 55 ?_); refine BigFrame.wpList_want rfl fun _ hK => AE (cs := [.bool _, .slice Ay my cy, .slice Am mn cm, .int .i64 rt, .int .i64 ro]) rfl rfl (Df c0 c1 c2 c3 c4) Tryz.underlying58 rfl (by kernel_rfl) (hK _ _ ?_))
         | ((with_reducible refine qA 9 ?_); refine qa hS #[.bool false, .slice none 0 0, .slice none 0 0, .int .i64 0, .int .i64 0] ?_; clear hS; intro g9 w_ hS)
         | ((with_reducible refine qM ?_); (first | refine qS hS ?_ | refine qT hS ?_); clear hS; intro w_ hS; (try simp only [Act.put, Act.eval, zz, Value.cells] at hS)))
        refine C2 [.q g9 0, .b true, .b false, .b false, .t, .t, .t, .t, .t, .t, .t, .t, .t, .b false] ⟨uF, uC (h := fun w hW hN => ((hS.ext hW).box 0 rfl).cell 0), uU, uM, uW, uW, uW, uW, uW, uW, uW, uW, uW, uP, trivial⟩ ?_
        ·intro vs wz hW hT
         obtain ⟨e56, e57, e58, e59, e69, -⟩ := hT
         simp only [AC, Act.put, zz, ze]
         rw [e69]
         replace hS := hS.ext hW
         clear hW
         go_wp2_with fail
         refine ⟨⟨j + 1, kv, by go_num, rfl, hlj, ?_⟩, by simp [intOf]; omega⟩
         rw [HTN.out.trans (if_neg (by cases b2 <;> decide))]
         exact (hS.sub (List.sublist_cons_self _ _)).mono (KS.out.and A5) fun D w h => ⟨(kc.out _ _ h).1, (kc.out _ _ h).2.1⟩
      ·obtain rfl : rl.length = j := by omega
       go_wp2_with (first | ((with_reducible refine qB ?_); refine qc ?_ ?_ <;> intro h_ <;> go_prune))
       go_ret
       rw [<- HU.out]
       exact ⟨_, rfl, (hS.sub (F' := [_]) ((List.nil_sublist _).cons_cons _)).mono (AB.pure True) fun _ _ _ => trivial⟩
    ·go_wp2_with (first | ((with_reducible refine qK ?_); refine qC hS ?_))
     go_loopw [4, 19] (fun mv i wr => ∃ (j : Nat) (mb : Bool) (u : Value) (N : Nat), i = .int .i64 (j : Nat) /\ mv = .bool mb /\ j <= rl.length /\ Hid (URnd L ⟨R, some L, st, rl, nl, gl⟩ B N mb j) /\ St w0 wr [.box g3 27 #[u], .box g1 31 #[.int .i64 R, .pointer (some ⟨q, 0, none⟩), .slice Cs ns cs, .slice Ar rl.length cr, .slice An nl.length cn, .slice Ag gl.length cg]] (fun D w => K D w /\ A7 w D (.agg #[u]) N)) (fun _ i _ => rl.length - (intOf i).toNat)
     case atStart => exact ⟨0, false, u, B, rfl, rfl, by omega, Lib.hid ⟨HI.out.1, nofun, fun _ => ⟨rfl, fun r hr => by simp at hr⟩⟩, hS⟩
     case round =>
      clear hS HI
      obtain ⟨j, mb, u, N0, rfl, rfl, hj, HI, hS⟩ := hrel
      by_cases hlj : j < rl.length
      ·obtain ⟨b, o2, y, n, rfl, _, hb, c0, c1, c2, c3, c4, hy, hn⟩ := (kr _ _ hS.ro.1).at_ hlj
       obtain ⟨Ay, my, cy, rfl⟩ := hy.shape
       obtain ⟨Am, mn, cm, rfl⟩ := hn.shape
       have HGj := Lib.hid (Bb Av hlj)
       have HTj := Lib.hid (HTG.out _ (List.mem_of_getElem? HGj.out))
       obtain ⟨KC, kc, hS2⟩ : ∃ KC : (Nat -> Prop) -> World -> Prop, Hid (∀ D w, KC D w -> K D w /\ A7 w D (.agg #[u]) N0 /\ A7 w D (.agg #[.slice Ay my cy]) (rl.getD j Av).yes /\ A7 w D (.agg #[.slice Am mn cm]) (rl.getD j Av).no) /\ St w0 wr [.box g3 27 #[u], .box g1 31 #[.int .i64 R, .pointer (some ⟨q, 0, none⟩), .slice Cs ns cs, .slice (some ⟨b, o2, none⟩) rl.length cr, .slice An nl.length cn, .slice Ag gl.length cg]] KC := ⟨_, Lib.hid fun D w h => ⟨h.1.1, h.1.2, h.2.1, h.2.2⟩, hS.add (D := CU _) (A5.and A5) ⟨hy, hn⟩ fun _ h _ => h⟩
       clear hS hy hn
       have hS := hS2
       clear hS2
       generalize rl.getD j Av = z at *
       obtain ⟨rv, ry, rn, rt, ro⟩ := z
       dsimp only at kc c0 c1 c2 c3 c4
       obtain ⟨b1, hb1⟩ : ∃ b, b = Bd N0 rt := ⟨_, rfl⟩
       have HB1 := Lib.hid hb1
       obtain ⟨b2, hb2⟩ : ∃ b, b = (ry &&& closM L N0 == ry) := ⟨_, rfl⟩
       have HB2 := Lib.hid hb2
       cases rv
       ·cases b1
        ·cases b2
         ·have HI2 := Lib.hid (HI.out.skip HGj.out (.inr (.inr hb2.symm)))
          obtain ⟨b2, hb2'⟩ : ∃ b, b = false := ⟨_, rfl⟩
          rw [<- hb2'] at HB2
          clear hb1 hb2 HI
          go_wp2_with (first
           | ((with_reducible refine qB ?_); refine qc ?_ ?_ <;> intro h_ <;> go_prune)
           | ((with_reducible refine qA 22 ?_); refine BigFrame.wpList_want rfl fun _ hK => AE (cs := [.bool _, .slice Ay my cy, .slice Am mn cm, .int .i64 rt, .int .i64 ro]) rfl rfl (Df c0 c1 c2 c3 c4) Tryz.underlying58 rfl (by kernel_rfl) (hK _ _ ?_))
           | ((with_reducible refine qA 6 ?_); refine qa hS #[.bool false, .slice none 0 0, .slice none 0 0, .int .i64 0, .int .i64 0] ?_; clear hS; intro g6 w_ hS)
           | ((with_reducible refine qM ?_); (first | refine qS hS ?_ | refine qT hS ?_); clear hS; intro w_ hS; (try simp only [Act.put, Act.eval, zz, Value.cells] at hS)))
          refine C2 [.q g6 0, .b false, .b true, .b true, .i (.agg #[u]), .q g6 3, .n rt, .b false, .b true, .b true, .b true, .q g6 1, .q g6 1, .i (.agg #[.slice Ay my cy]), .q g1 1, .q q 0, .i (.agg #[u]), .s (fun v w => A7 w (fun _ => True) v (closM L N0)) fun v w w' h hb => h.ext hb, .i (.bool b2), .i (.bool b2)] ⟨uF, uC (h := fun w hW hN => ((hS.ext hW).box 0 rfl).cell 0), uU, uM, uR (h := fun w hW hN => (hS.ext hW).box 1 rfl), uF, uC (h := fun w hW hN => ((hS.ext hW).box 0 rfl).cell 3), ?_, uU, uP, uM, uF, uF, ?_, uF, uC (h := fun w hW hN => ((hS.ext hW).box 2 rfl).cell 1), uR (h := fun w hW hN => (hS.ext hW).box 1 rfl), ?_, ?_, uP, trivial⟩ ?_
          ·refine uT fun b__ w hW hE K hK => ?_
           have e27 := hE 27
           have e29 := hE 29
           exact Ah rfl (by kernel_rfl) (by simp only [List.map_cons, List.map_nil, e27, e29]) (BN _ N0 rt _ _ (kc.out _ _ (hS.ext hW).ro).2.1) fun v w' h hb => hK v w' (h.trans (by rw [<- HB1.out])) hb
          ·refine uT fun b__ w hW hE K hK => ?_
           have e35 := hE 35
           exact C4 rfl e35 ((hS.ext hW).box 0 rfl) rfl Tryz.underlying27 (by kernel_rfl) (by kernel_rfl) (hK _ _ rfl (Below.refl _ _))
          ·refine uT fun b__ w hW hE K hK => ?_
           have e38 := hE 38
           have e39 := hE 39
           exact Ah rfl (by kernel_rfl) (by simp only [List.map_cons, List.map_nil, e38, e39]) (DV (kh _ _ (kc.out _ _ (hS.ext hW).ro).1) (kt _ _ (kc.out _ _ (hS.ext hW).ro).1) HH.out (kc.out _ _ (hS.ext hW).ro).2.1) fun v w' h hb => hK v w' (h.imp fun _ _ _ => trivial) hb
          ·refine uT fun b__ w hW hE K hK => ?_
           have e36 := hE 36
           have e40 := hE 40
           exact Ah rfl (by kernel_rfl) (by simp only [List.map_cons, List.map_nil, e36]) (Cw _ _ ry (closM L N0) _ _ _ (kc.out _ _ (hS.ext hW).ro).2.2.1 e40) fun v w' h hb => hK v w' (h.trans (by rw [HB2.out])) hb
          ·intro vs wz hW hT
           obtain ⟨e23, e24, e25, e26, e27, e28, e29, e30, e31, e32, e33, e34, e35, e36, e37, e38, e39, e40, e41, e42, -⟩ := hT
           have bx : (fun _ : Nat => True) 0 := trivial
           simp only [AC, Act.put, zz, ze]
           rw [hb2'] at e42
           rw [e42]
           replace hS := hS.ext hW
           clear hW
           go_wp2_with fail
           exact ⟨⟨j + 1, mb, u, N0, by go_num, rfl, hlj, HI2, (hS.sub (List.sublist_cons_self _ _)).mono (KS.out.and A5) fun D w h => ⟨(kc.out _ _ h).1, (kc.out _ _ h).2.1⟩⟩, by simp [intOf]; omega⟩
         ·obtain ⟨t, ht, ht64⟩ := HTj.out
          dsimp only at ht
          have HI2 := Lib.hid (HI.out.add HGj.out rfl hb1.symm hb2.symm ht)
          have HWT : Hid (D5 N0 rt = N0 ||| 2 ^ t) := Lib.hid (by rw [ht]; exact Gl ht64)
          obtain ⟨b2, hb2'⟩ : ∃ b, b = true := ⟨_, rfl⟩
          rw [<- hb2'] at HB2
          clear hb1 hb2 HI ht ht64
          go_wp2_with (first
           | ((with_reducible refine qB ?_); refine qc ?_ ?_ <;> intro h_ <;> go_prune)
           | ((with_reducible refine qA 22 ?_); refine BigFrame.wpList_want rfl fun _ hK => AE (cs := [.bool _, .slice Ay my cy, .slice Am mn cm, .int .i64 rt, .int .i64 ro]) rfl rfl (Df c0 c1 c2 c3 c4) Tryz.underlying58 rfl (by kernel_rfl) (hK _ _ ?_))
           | ((with_reducible refine qA 6 ?_); refine qa hS #[.bool false, .slice none 0 0, .slice none 0 0, .int .i64 0, .int .i64 0] ?_; clear hS; intro g6 w_ hS)
           | ((with_reducible refine qM ?_); (first | refine qS hS ?_ | refine qT hS ?_); clear hS; intro w_ hS; (try simp only [Act.put, Act.eval, zz, Value.cells] at hS)))
          refine C2 [.q g6 0, .b false, .b true, .b true, .i (.agg #[u]), .q g6 3, .n rt, .b false, .b true, .b true, .b true, .q g6 1, .q g6 1, .i (.agg #[.slice Ay my cy]), .q g1 1, .q q 0, .i (.agg #[u]), .s (fun v w => A7 w (fun _ => True) v (closM L N0)) fun v w w' h hb => h.ext hb, .i (.bool b2), .i (.bool b2)] ⟨uF, uC (h := fun w hW hN => ((hS.ext hW).box 0 rfl).cell 0), uU, uM, uR (h := fun w hW hN => (hS.ext hW).box 1 rfl), uF, uC (h := fun w hW hN => ((hS.ext hW).box 0 rfl).cell 3), ?_, uU, uP, uM, uF, uF, ?_, uF, uC (h := fun w hW hN => ((hS.ext hW).box 2 rfl).cell 1), uR (h := fun w hW hN => (hS.ext hW).box 1 rfl), ?_, ?_, uP, trivial⟩ ?_
          ·refine uT fun b__ w hW hE K hK => ?_
           have e27 := hE 27
           have e29 := hE 29
           exact Ah rfl (by kernel_rfl) (by simp only [List.map_cons, List.map_nil, e27, e29]) (BN _ N0 rt _ _ (kc.out _ _ (hS.ext hW).ro).2.1) fun v w' h hb => hK v w' (h.trans (by rw [<- HB1.out])) hb
          ·refine uT fun b__ w hW hE K hK => ?_
           have e35 := hE 35
           exact C4 rfl e35 ((hS.ext hW).box 0 rfl) rfl Tryz.underlying27 (by kernel_rfl) (by kernel_rfl) (hK _ _ rfl (Below.refl _ _))
          ·refine uT fun b__ w hW hE K hK => ?_
           have e38 := hE 38
           have e39 := hE 39
           exact Ah rfl (by kernel_rfl) (by simp only [List.map_cons, List.map_nil, e38, e39]) (DV (kh _ _ (kc.out _ _ (hS.ext hW).ro).1) (kt _ _ (kc.out _ _ (hS.ext hW).ro).1) HH.out (kc.out _ _ (hS.ext hW).ro).2.1) fun v w' h hb => hK v w' (h.imp fun _ _ _ => trivial) hb
          ·refine uT fun b__ w hW hE K hK => ?_
           have e36 := hE 36
           have e40 := hE 40
           exact Ah rfl (by kernel_rfl) (by simp only [List.map_cons, List.map_nil, e36]) (Cw _ _ ry (closM L N0) _ _ _ (kc.out _ _ (hS.ext hW).ro).2.2.1 e40) fun v w' h hb => hK v w' (h.trans (by rw [HB2.out])) hb
          ·intro vs wz hW hT
           obtain ⟨e23, e24, e25, e26, e27, e28, e29, e30, e31, e32, e33, e34, e35, e36, e37, e38, e39, e40, e41, e42, -⟩ := hT
           have bx : (fun _ : Nat => True) 0 := trivial
           simp only [AC, Act.put, zz, ze]
           rw [hb2'] at e42
           rw [e42]
           replace hS := hS.ext hW
           clear hW
           go_wp2_with (first
            | ((with_reducible refine qk 27 ?_); first | (refine A9 hS 0 rfl _ _ rfl _ _ rfl _ _ rfl _ (by first | rfl | assumption) Tryz.underlying27 rfl (by kernel_rfl) ?_) | (refine A9 hS 1 rfl _ _ rfl _ _ rfl _ _ rfl _ (by first | rfl | assumption) Tryz.underlying27 rfl (by kernel_rfl) ?_) | (refine A9 hS 2 rfl _ _ rfl _ _ rfl _ _ rfl _ (by first | rfl | assumption) Tryz.underlying27 rfl (by kernel_rfl) ?_) | (refine A9 hS 3 rfl _ _ rfl _ _ rfl _ _ rfl _ (by first | rfl | assumption) Tryz.underlying27 rfl (by kernel_rfl) ?_) | (refine A9 hS 4 rfl _ _ rfl _ _ rfl _ _ rfl _ (by first | rfl | assumption) Tryz.underlying27 rfl (by kernel_rfl) ?_) | (refine A9 hS 5 rfl _ _ rfl _ _ rfl _ _ rfl _ (by first | rfl | assumption) Tryz.underlying27 rfl (by kernel_rfl) ?_))
            | ((with_reducible refine qK ?_); refine qC hS ?_)
            | (go_at_call 59; refine (El _ N0 rt _ _ (kc.out _ _ hS.ro).2.1).mono ?_; rw [HWT.out]; rintro r_ w_ ⟨_, rfl, hM, hb_⟩; obtain ⟨A4, c4, l4, rfl, -⟩ := hM.parts; replace hS := hS.ret2 hb_ A5 hM; clear hb_ hM)
            | ((with_reducible refine qM ?_); (first | refine qS hS ?_ | refine qT hS ?_); clear hS; intro w_ hS; (try simp only [Act.put, Act.eval, zz, Value.cells] at hS)))
           exact ⟨⟨j + 1, true, _, N0 ||| 2 ^ t, by go_num, rfl, hlj, HI2, (hS.sub (List.sublist_cons_self _ _)).mono (KS.out.and A5) fun D w h => ⟨(kc.out _ _ h.1).1, h.2⟩⟩, by simp [intOf]; omega⟩
        ·have HI2 := Lib.hid (HI.out.skip HGj.out (.inr (.inl hb1.symm)))
         clear hb1 hb2 HI
         go_wp2_with (first
          | ((with_reducible refine qB ?_); refine qc ?_ ?_ <;> intro h_ <;> go_prune)
          | ((with_reducible refine qA 22 ?_); refine BigFrame.wpList_want rfl fun _ hK => AE (cs := [.bool _, .slice Ay my cy, .slice Am mn cm, .int .i64 rt, .int .i64 ro]) rfl rfl (Df c0 c1 c2 c3 c4) Tryz.underlying58 rfl (by kernel_rfl) (hK _ _ ?_))
          | ((with_reducible refine qA 6 ?_); refine qa hS #[.bool false, .slice none 0 0, .slice none 0 0, .int .i64 0, .int .i64 0] ?_; clear hS; intro g6 w_ hS)
          | ((with_reducible refine qM ?_); (first | refine qS hS ?_ | refine qT hS ?_); clear hS; intro w_ hS; (try simp only [Act.put, Act.eval, zz, Value.cells] at hS)))
         refine C2 [.q g6 0, .b false, .b true, .b true, .i (.agg #[u]), .q g6 3, .n rt, .b true, .b false, .b false, .b false, .t, .t, .t, .t, .t, .t, .t, .t, .b false] ⟨uF, uC (h := fun w hW hN => ((hS.ext hW).box 0 rfl).cell 0), uU, uM, uR (h := fun w hW hN => (hS.ext hW).box 1 rfl), uF, uC (h := fun w hW hN => ((hS.ext hW).box 0 rfl).cell 3), ?_, uU, uP, uM, uW, uW, uW, uW, uW, uW, uW, uW, uP, trivial⟩ ?_
         ·refine uT fun b__ w hW hE K hK => ?_
          have e27 := hE 27
          have e29 := hE 29
          exact Ah rfl (by kernel_rfl) (by simp only [List.map_cons, List.map_nil, e27, e29]) (BN _ N0 rt _ _ (kc.out _ _ (hS.ext hW).ro).2.1) fun v w' h hb => hK v w' (h.trans (by rw [<- HB1.out])) hb
         ·intro vs wz hW hT
          obtain ⟨e23, e24, e25, e26, e27, e28, e29, e30, e31, e32, e33, e42, -⟩ := hT
          simp only [AC, Act.put, zz, ze]
          rw [e42]
          replace hS := hS.ext hW
          clear hW
          go_wp2_with fail
          exact ⟨⟨j + 1, mb, u, N0, by go_num, rfl, hlj, HI2, (hS.sub (List.sublist_cons_self _ _)).mono (KS.out.and A5) fun D w h => ⟨(kc.out _ _ h).1, (kc.out _ _ h).2.1⟩⟩, by simp [intOf]; omega⟩
       ·have HI2 := Lib.hid (HI.out.skip HGj.out (.inl rfl))
        clear hb1 hb2 HI
        go_wp2_with (first
         | ((with_reducible refine qB ?_); refine qc ?_ ?_ <;> intro h_ <;> go_prune)
         | ((with_reducible refine qA 22 ?_); refine BigFrame.wpList_want rfl fun _ hK => AE (cs := [.bool _, .slice Ay my cy, .slice Am mn cm, .int .i64 rt, .int .i64 ro]) rfl rfl (Df c0 c1 c2 c3 c4) Tryz.underlying58 rfl (by kernel_rfl) (hK _ _ ?_))
         | ((with_reducible refine qA 6 ?_); refine qa hS #[.bool false, .slice none 0 0, .slice none 0 0, .int .i64 0, .int .i64 0] ?_; clear hS; intro g6 w_ hS)
         | ((with_reducible refine qM ?_); (first | refine qS hS ?_ | refine qT hS ?_); clear hS; intro w_ hS; (try simp only [Act.put, Act.eval, zz, Value.cells] at hS)))
        refine C2 [.q g6 0, .b true, .b false, .b false, .t, .t, .t, .t, .t, .b false, .b false, .t, .t, .t, .t, .t, .t, .t, .t, .b false] ⟨uF, uC (h := fun w hW hN => ((hS.ext hW).box 0 rfl).cell 0), uU, uM, uW, uW, uW, uW, uW, uP, uM, uW, uW, uW, uW, uW, uW, uW, uW, uP, trivial⟩ ?_
        ·intro vs wz hW hT
         obtain ⟨e23, e24, e25, e26, e32, e33, e42, -⟩ := hT
         simp only [AC, Act.put, zz, ze]
         rw [e42]
         replace hS := hS.ext hW
         clear hW
         go_wp2_with fail
         exact ⟨⟨j + 1, mb, u, N0, by go_num, rfl, hlj, HI2, (hS.sub (List.sublist_cons_self _ _)).mono (KS.out.and A5) fun D w h => ⟨(kc.out _ _ h).1, (kc.out _ _ h).2.1⟩⟩, by simp [intOf]; omega⟩
      ·obtain rfl : rl.length = j := by omega
       have HI2 : Hid (ULow L ⟨R, some L, st, rl, nl, gl⟩ N0 /\ (mb = false -> ∀ r ∈ rl, r.revoke = false -> (r.yes &&& closM L N0 == r.yes) = true -> Bd N0 r.target = true)) := Lib.hid ⟨HI.out.low, fun e r hr => (HI.out.no e).2 r (by rw [List.take_length]; exact hr)⟩
       have HLK : Hid (2 * FV N0 rl + (if mb = true then 1 else 0) < 2 * FV B rl + 1) := Lib.hid (by
        cases mb with
        | true => have h := HI.out.yes rfl; dsimp only at h; simp; omega
        | false => have h := (HI.out.no rfl).1; rw [h]; simp)
       clear HI
       go_wp2_with (first | ((with_reducible refine qB ?_); refine qc ?_ ?_ <;> intro h_ <;> go_prune))
       go_roundg (2 * FV N0 rl + (if mb = true then 1 else 0))
       case measure => have h2 := HGK.out; simp only [if_true] at h2; exact Nat.lt_of_lt_of_le HLK.out h2
       case rel => exact ⟨mb, u, N0, rfl, Nat.le_refl _, HI2, hS⟩
 ·have HUS : Hid (useN ⟨R, lk, st, rl, nl, gl⟩ = []) := Lib.hid (by unfold useN; rw [if_neg (fun h => h0 (HE.out.trans h))])
  rw [HUS.out]
  go_enter Tryz.func21, Tryz.ntmps21
  go_wp2_with (first
   | ((with_reducible refine qA 1 ?_); refine AA hS rfl _ _ rfl (.agg #[.int .i64 R, lp, .slice Cs ns cs, .slice Ar rl.length cr, .slice An nl.length cn, .slice Ag gl.length cg]) _ rfl rfl ?_; clear hS; intro g1 w_ hS; (try simp only [Act.put, Act.eval, zz, Value.cells] at hS))
   | ((with_reducible refine qB ?_); refine qc ?_ ?_ <;> intro h_ <;> go_prune)
   | ((with_reducible refine qK ?_); refine qL hS Tryz.underlying31 ?_)
   | (go_at_call 18; refine (Dp (kp _ _ hS.ro) HP.out (kt _ _ hS.ro)).mono ?_; rw [<- HE.out]; rintro r_ w_ ⟨_, rfl, rfl, hb_⟩; replace hS := hS.ext hb_; clear hb_))
  go_ret
  exact ⟨_, rfl, ((hS.sub (List.nil_sublist _)).nil 3 1).mono (AB.pure True) fun _ _ _ => trivial⟩
end
section
open Go.RowKit
set_option exponentiation.threshold 5000
def InR (N : Nat) : Prop := ∀ i, N.testBit i = true -> 1 <= i /\ i < 64
theorem tc_nil {a b : Nat} : ¬ TC [] a b := fun h => by obtain ⟨y, h, _⟩ := h.first; simp at h
theorem GE {N : Nat} (h : InR N) : closM [] N = N := B3 fun i => by
 rw [En]
 constructor
 ·rintro ⟨r, h1, h2, h3, h4⟩
  rcases (Gp (by intro x hx; simp at hx) h1).1 h4 with rfl | h5
  ·exact h3
  ·exact absurd h5 tc_nil
 ·intro hi
  exact ⟨i, (h i hi).2, (h i hi).1, hi, (Gp (by intro x hx; simp at hx) (h i hi).2).2 (.inl rfl)⟩
theorem G2 {N : Nat} (h : InR N) : depM [] N = N := B3 fun i => by
 rw [tb_dep (by intro x hx; simp at hx)]
 constructor
 ·rintro ⟨r, h1, h2, h3, h4⟩
  rcases (Fa (by intro x hx; simp at hx)).1 h4 with rfl | h5
  ·exact h3
  ·exact absurd h5 tc_nil
 ·intro hi
  exact ⟨i, (h i hi).1, (h i hi).2, hi, (Fa (by intro x hx; simp at hx)).2 (.inl rfl)⟩
theorem Fh {N : Nat} (h : N < 2 ^ 7) (h0 : N.testBit 0 = false) : InR N := fun i hi => by
 have : i < 7 := by
  rcases Nat.lt_or_ge i 7 with h1 | h1
  ·exact h1
  ·rw [Nat.testBit_lt_two_pow (Nat.lt_of_lt_of_le h (Nat.pow_le_pow_right (by decide) h1))] at hi; cases hi
 refine ⟨?_, by omega⟩
 rcases Nat.eq_zero_or_pos i with rfl | h1
 ·rw [h0] at hi; cases hi
 ·exact h1
def P1 : Aw := ⟨5, some [], 0, [⟨false, 4, 0, 1, 0⟩, ⟨false, 0, 0, 2, 0⟩, ⟨false, 2, 0, 3, 0⟩, ⟨true, 0, 0, 4, 0⟩], [(36, 0)], [(2, 0)]⟩
def P2 : Aw := ⟨5, some [], 4, [⟨false, 12, 0, 1, 0⟩], [], [(2, 0)]⟩
theorem dep2 : depM [] 2 = 2 := G2 (Fh (by decide) (by decide))
theorem dep4 : depM [] 4 = 4 := G2 (Fh (by decide) (by decide))
theorem dep36 : depM [] 36 = 36 := G2 (Fh (by decide) (by decide))
theorem dep0 : depM [] 0 = 0 := G2 (Fh (by decide) (by decide))
theorem Im : checkE P1 = 0 := by
 have hg : goodB P1 0 = true := by
  show (!(P1.never.any fun z => BZ z (closM [] 0))) = true
  rw [GE (Fh (by decide) (by decide))]; decide
 show (if (5 : Int) < 1 \/ 63 < (5 : Int) then (1 : Int) else if 64 < P1.rules.length \/ 2000 < P1.never.length \/ 2000 < P1.goal.length then 3
  else if Ds P1 [] (CQ 5) = false then 4 else if (P1.cubes.any fun z => z.1 &&& z.2 != 0) = true \/ P1.rules.all revB = false then 6
  else if goodB P1 0 = false then 7 else 0) = 0
 rw [if_neg (by decide), if_neg (by decide), if_neg (by decide), if_neg (by decide), if_neg (by rw [hg]; decide)]
theorem check2 : checkE P2 = 0 := by
 have hg : goodB P2 4 = true := by
  show (!(P2.never.any fun z => BZ z (closM [] 4))) = true
  rfl
 show (if (5 : Int) < 1 \/ 63 < (5 : Int) then (1 : Int) else if 64 < P2.rules.length \/ 2000 < P2.never.length \/ 2000 < P2.goal.length then 3
  else if Ds P2 [] (CQ 5) = false then 4 else if (P2.cubes.any fun z => z.1 &&& z.2 != 0) = true \/ P2.rules.all revB = false then 6
  else if goodB P2 4 = false then 7 else 0) = 0
 rw [if_neg (by decide), if_neg (by decide), if_neg (by decide), if_neg (by decide), if_neg (by rw [hg]; decide)]
theorem rel1 : relM [] P1 = 38 := by
 refine (Gb.eq ⟨fun T hT => ?_, by decide⟩ ⟨fun c hc => ?_, fun r hr h1 h2 => ?_, fun c hc _ => ?_⟩).symm
 ·have a1 : Cd 2 T := by
   have := hT.goal (2, 0) (by simp [P1])
   rw [show depC [] (2, 0) = depM [] 2 from rfl, dep2] at this; exact this
  have a2 : Cd 4 T := by
   have := hT.rules ⟨false, 4, 0, 1, 0⟩ (by simp [P1]) rfl (a1.has (by decide))
   rw [show depR [] ⟨false, 4, 0, 1, 0⟩ = depM [] 4 from rfl, dep4] at this; exact this
  have a3 : Cd 36 T := by
   have := hT.never (36, 0) (by simp [P1]) (by rw [show depC [] (36, 0) = depM [] 36 from rfl, dep36]; exact Gz.2 ⟨2, by decide, a2 2 (by decide)⟩)
   rw [show depC [] (36, 0) = depM [] 36 from rfl, dep36] at this; exact this
  have e : (38 : Nat) = 2 ||| 36 := by decide
  rw [e]; exact a1.or a3
 ·obtain rfl : c = (2, 0) := by simpa [P1] using hc
  rw [show depC [] (2, 0) = depM [] 2 from rfl, dep2]; exact CW.1 (by decide)
 ·simp only [P1, List.mem_cons, List.not_mem_nil, or_false] at hr
  rcases hr with rfl | rfl | rfl | rfl
  ·rw [show depR [] ⟨false, 4, 0, 1, 0⟩ = depM [] 4 from rfl, dep4]; exact CW.1 (by decide)
  ·rw [show depR [] ⟨false, 0, 0, 2, 0⟩ = depM [] 0 from rfl, dep0]; exact CW.1 (by decide)
  ·exact absurd h2 (by decide)
  ·cases h1
 ·obtain rfl : c = (36, 0) := by simpa [P1] using hc
  rw [show depC [] (36, 0) = depM [] 36 from rfl, dep36]; exact CW.1 (by decide)
theorem relS1 : relS P1 = 38 := by unfold relS; rw [if_pos Im]; exact rel1
theorem ofP1 : (ofP P1).rules.length = 2 /\ (ofP P1).never.length = 1 := by
 have e : ofP P1 = ⟨5, some [], 0 &&& relM [] P1, BB (relM [] P1) P1.rules, keepC [] (relM [] P1) P1.never, P1.goal⟩ := by unfold ofP; rw [if_pos Im]; rfl
 rw [e, rel1]
 refine ⟨by decide, ?_⟩
 show (List.filter (fun c => depC [] c &&& 38 != 0) [(36, 0)]).length = 1
 rw [List.filter_cons, show depC [] (36, 0) = depM [] 36 from rfl, dep36]; rfl
theorem ofK1 : ofKept P1 = [0, 1] := by
 have e : ofKept P1 = BV (relM [] P1) P1.rules P1.rules.length := by unfold ofKept; rw [if_pos Im]; rfl
 rw [e, rel1]; decide
theorem upp2 : uppM [] P2 = 4 := by
 refine (Fk.eq ⟨⟨Cd.refl _, fun r hr h1 h2 => ?_⟩, fun T hT => hT.start⟩).symm
 obtain rfl : r = ⟨false, 12, 0, 1, 0⟩ := by simpa [P2] using hr
 rw [GE (Fh (by decide) (by decide))] at h2
 revert h2; decide
theorem use2 : useN P2 = [0] := by
 have e : useN P2 = uslN (closM [] (uppM [] P2)) P2.rules P2.rules.length := by unfold useN; rw [if_pos check2]; rfl
 rw [e, upp2, GE (Fh (by decide) (by decide))]; rfl
theorem ok1 : P1.Ok := ⟨by decide, by decide, by decide, fun L h => by cases h; exact ⟨EK.nil, by decide⟩⟩
theorem ok2 : P2.Ok := ⟨by decide, by decide, by decide, fun L h => by cases h; exact ⟨EK.nil, by decide⟩⟩
end
section
open Go.RowKit
attribute [local go_sem ↓] Go.wp_at_zero Go.wp_at_succ
set_option maxRecDepth 20000
set_option exponentiation.threshold 5000
theorem ER {w0 : World} {D : Nat -> Prop} {v : Value} {l : List Int} {N : Nat} (hs : Sl w0 D 1 v l.length (AQ l)) (hN : ofN l = N) : Calls Tryz.prog 49 #[v] w0 (AK (fun x w' => AO w' (w0.heap.size <= ·) x (N, 0)) w0) := by
 obtain ⟨K, k1, hS⟩ : ∃ K : (Nat -> Prop) -> World -> Prop, (∀ D w, K D w -> Sl w D 1 v l.length (AQ l)) /\ St w0 w0 [] K := ⟨_, fun _ _ h => h, St.start (Aj (by decide)) hs⟩
 clear hs
 go_enter Tryz.func49, Tryz.ntmps49
 go_wp2_with (first
  | ((with_reducible refine qA 2 ?_); refine qa hS #[.slice none 0 0, .slice none 0 0] ?_; clear hS; intro g2 w_ hS)
  | (go_at_call 50; have hsW := hS.size; refine (of_any _ l _ _ (k1 _ _ hS.ro)).mono ?_; rw [hN]; rintro r_ w_ ⟨_, rfl, h1, hb_⟩; obtain ⟨A, c, lw, rfl, -⟩ := h1.parts; replace hS := hS.ret hb_ (AP A5 fun z => w0.heap.size <= z) (h1.imp fun z hz _ => ⟨hz, Nat.le_trans hsW hz⟩); clear h1 hb_ hsW)
  | ((with_reducible show wpList _ _ _ (⟨_, .build _ _, _, _, _, _⟩ :: _) _ _); refine AF rfl _ _ rfl #[.slice A lw.length c, .slice none 0 0] (by kernel_rfl) ?_)
  | ((with_reducible refine qM ?_); (first | refine qS hS ?_ | refine qT hS ?_); clear hS; intro w_ hS; (try simp only [Act.put, Act.eval, zz, Value.cells] at hS)))
 refine Bt Tryz.results49 rfl (hS.box 0 rfl) Tryz.underlying56 rfl (by kernel_rfl) rfl ?_
 exact AK.mk ⟨_, _, rfl, hS.ro.2.imp fun z hz _ => hz.2, A7.empty⟩ hS.below
theorem st_litg {P : Program} {ops : Array Oper} {rest : List Oper} {o : Oper} {a : Act} {Q : Exit -> Act -> World -> Prop} {w0 w : World} {F : List Ac} {K : (Nat -> Prop) -> World -> Prop} (h : St w0 w F K) (hg : Region.wanted o (yielded ops a.tmps) = true) (t e : TypeId) (len : Nat) (parts : Array (Nat × Operand)) (ho : o.op = .buildSlice t len parts) (ht : P.underlying t = some (.slice e)) (cells : Array Value)
  (hb : Bw P e len (parts.map fun (i, x) => (i, a.eval x)).toList = some cells) (size : Nat) (hs : cells.size = len * size) (hm : len <= 1000000000000)
  (hk : ∀ g w', St w0 w' (.own (.slice (some ⟨g, 0, none⟩) len len) e size len cells.toList :: F) K -> wpList P ops Q rest (a.put o.dst (.slice (some ⟨g, 0, none⟩) len len)) w') : wpList P ops Q (o :: rest) a w :=
 BigFrame.wpList_want hg fun _ hK => CF ho ht rfl hb fun w' hX hB => hK _ _ (hk _ w' (h.new hB _ ⟨by simpa using hs, .inr ⟨w.heap.size, len, cells, rfl, Nat.le_refl _, hX, Nat.le_refl _, by unfold maxLen; omega, hs, by rw [<- hs, show cells.size = cells.toList.length by simp, List.take_length]⟩⟩))
theorem Fy {P : Program} {ops : Array Oper} {rest : List Oper} {o : Oper} {a : Act} {Q : Exit -> Act -> World -> Prop} {w0 w : World} {F : List Ac} {K : (Nat -> Prop) -> World -> Prop} (h : St w0 w F K) (hg : Region.wanted o (yielded ops a.tmps) = true) (t e : TypeId) (len : Nat) (parts : Array (Nat × Operand)) (ho : o.op = .buildSlice t len parts) (ht : P.underlying t = some (.slice e)) (ps : List (Nat × Value)) (hp : (parts.map fun (i, x) => (i, a.eval x)).toList = ps) (cells : Array Value)
  (hb : Bw P e len ps = some cells) (size : Nat) (hs : cells.size = len * size) (hm : len <= 1000000000000)
  (hk : ∀ g w', St w0 w' (.own (.slice (some ⟨g, 0, none⟩) len len) e size len cells.toList :: F) K -> wpList P ops Q rest (a.put o.dst (.slice (some ⟨g, 0, none⟩) len len)) w') : wpList P ops Q (o :: rest) a w :=
 BigFrame.wpList_want hg fun _ hK => CF ho ht hp hb fun w' hX hB => hK _ _ (hk _ w' (h.new hB _ ⟨by simpa using hs, .inr ⟨w.heap.size, len, cells, rfl, Nat.le_refl _, hX, Nat.le_refl _, by unfold maxLen; omega, hs, by rw [<- hs, show cells.size = cells.toList.length by simp, List.take_length]⟩⟩))
theorem AO.sets {w : World} {D : Nat -> Prop} {a b : Value} {z : Nat × Nat} (h : AO w D (.agg #[a, b]) z) : A7 w D (.agg #[a]) z.1 /\ A7 w D (.agg #[b]) z.2 := by
 obtain ⟨x, y, he, h1, h2⟩ := h
 have e : a = x /\ b = y := by simpa using he
 obtain ⟨rfl, rfl⟩ := e
 exact ⟨h1, h2⟩
theorem cc1 {w : World} {D : Nat -> Prop} {a b : Value} {z : Nat × Nat} (h : AO w D (.agg #[a, b]) z) : Ai w D [a, b] [z] := fun i y n hi => by
 cases i with
 | zero => obtain rfl := Option.some.inj (show some z = some (y, n) from hi); exact ⟨a, b, rfl, rfl, h.sets.1, h.sets.2⟩
 | succ i => simp at hi
theorem rcells1 {w : World} {D : Nat -> Prop} {a1 b1 a3 b3 : Value} (h1 : AO w D (.agg #[a1, b1]) (4, 0)) (h3 : AO w D (.agg #[a3, b3]) (2, 0)) :
  AH w D [.bool false, a1, b1, .int .i64 1, .int .i64 0, .bool false, .slice none 0 0, .slice none 0 0, .int .i64 2, .int .i64 0, .bool false, a3, b3, .int .i64 3, .int .i64 0, .bool true, .slice none 0 0, .slice none 0 0, .int .i64 4, .int .i64 0] P1.rules :=
 AH.append (l := [⟨false, 4, 0, 1, 0⟩]) (xs := [.bool false, a1, b1, .int .i64 1, .int .i64 0]) rfl (AH.single h1.sets.1 h1.sets.2)
  (AH.append (l := [⟨false, 0, 0, 2, 0⟩]) (xs := [.bool false, .slice none 0 0, .slice none 0 0, .int .i64 2, .int .i64 0]) rfl (AH.single A7.empty A7.empty)
   (AH.append (l := [⟨false, 2, 0, 3, 0⟩]) (xs := [.bool false, a3, b3, .int .i64 3, .int .i64 0]) rfl (AH.single h3.sets.1 h3.sets.2) (AH.single (z := ⟨true, 0, 0, 4, 0⟩) A7.empty A7.empty)))
theorem ofL1 : (ofP P1).links = some [] := by unfold ofP; rw [if_pos Im]; rfl
theorem of1_any {w0 w : World} {F : List Ac} {K : (Nat -> Prop) -> World -> Prop} {v : Value} (hS : St w0 w F K) (kp : ∀ D w, K D w -> Bh w D v P1) (kt : ∀ D w, K D w -> Bo w) :
  Calls Tryz.prog 19 #[v] w fun e w' => ∃ (R : Int) (q n3 c3 cr3 cn3 ng3 cg3 : Nat) (A3 Ar3 An3 Ag3 : Option Addr) (k : Value), e = .returned (.tuple #[.agg #[.int .i64 R, .pointer (some ⟨q, 0, none⟩), .slice A3 n3 c3, .slice Ar3 2 cr3, .slice An3 1 cn3, .slice Ag3 ng3 cg3], k, .int .i64 0]) /\ St w0 w' F fun D w => K D w /\ Sl w D 1 k ([0, 1] : List Int).length (AQ [0, 1]) := by
 have KS := hS.stable
 refine (E8 ok1 hS kp kt).mono ?_
 rintro e w3 ⟨u3, k3, rfl, hS⟩
 obtain ⟨lp3, s3, rv3, nv3, gv3, rfl, hh, hs, hr, hn, hg⟩ := id hS.ro.1.2
 have e1 := ofL1
 have e2 := ofP1
 have e3 := ofK1
 have e4 := Im
 obtain ⟨A3, n3, c3, rfl⟩ := hs.shape
 obtain ⟨Ar3, cr3, rfl, _, _⟩ := hr.shape
 obtain ⟨An3, cn3, rfl, _, _⟩ := hn.shape
 obtain ⟨Ag3, cg3, rfl, _, _⟩ := hg.shape
 rw [e1] at hh
 obtain ⟨q3, o3, rfl, -⟩ := hh
 refine ⟨_, q3, n3, c3, cr3, cn3, _, cg3, A3, Ar3, An3, Ag3, k3, by rw [e2.1, e2.2, e4], ?_⟩
 refine hS.mono (KS.and (Aj (by decide))) fun D w h => ⟨h.1.1, ?_⟩
 have h2 := h.2
 rw [e3] at h2
 exact h2
set_option maxHeartbeats 4000000 in
theorem lawake33_any {w0 w : World} {F : List Ac} {K : (Nat -> Prop) -> World -> Prop} (hS : St w0 w F K) (kt : ∀ D w, K D w -> Bo w /\ D 0) : Calls Tryz.prog 11 #[] w fun e w' => e = .returned (.bool true) /\ St w0 w' F K := by
 have KS := Lib.hid hS.stable
 go_enter Tryz.func11, Tryz.ntmps11
 go_wp2_with (first
  | (go_at_call 51; refine (Ih hS kt).mono ?_; clear hS; rintro e w_ ⟨p, rfl, hS⟩; obtain ⟨q, o, rfl, -⟩ := id hS.ro.2)
  | ((with_reducible refine qA 9 ?_); refine CX hS rfl _ 3 1 _ rfl Tryz.underlying48 #[.int .i64 2] (by kernel_rfl) 1 rfl (by decide) ?_; clear hS; intro g9 w_ hS; (try simp only [Act.put, List.setIfInBounds_toArray, List.set_cons_zero, List.set_cons_succ]))
  | ((with_reducible refine qA 10 ?_); refine BigFrame.wpList_want rfl fun _ hK => Bu (f := 49) (first := #[]) (caps := #[]) (vs := [.slice (some ⟨g9, 0, none⟩) 1 1]) rfl rfl (by kernel_rfl) (by simp [Act.eval, Act.put]) (ER (l := [2]) (N := 4) (Sl.of_own (hS.own 0 rfl)) (by decide)) fun e w' ⟨x_, he_, hx_, hb_⟩ => ⟨x_, he_, hK _ _ ?_⟩; clear hK; obtain ⟨ya_, na_, rfl, hy_, hn_⟩ := id hx_; obtain ⟨A10, m10, c10, rfl⟩ := hy_.shape; obtain ⟨B10, k10, d10, rfl⟩ := hn_.shape; replace hS := hS.ret hb_ AY hx_; clear hx_ hb_ hy_ hn_ he_; (try simp only [Act.put, List.setIfInBounds_toArray, List.set_cons_zero, List.set_cons_succ]))
  | ((with_reducible refine qA 11 ?_); refine AF rfl _ _ rfl #[.bool false, .slice A10 m10 c10, .slice B10 k10 d10, .int .i64 1, .int .i64 0] (by kernel_rfl) ?_; (try simp only [Act.put, List.setIfInBounds_toArray, List.set_cons_zero, List.set_cons_succ]))
  | ((with_reducible refine qA 12 ?_); refine AF rfl _ _ rfl #[.bool false, .slice none 0 0, .slice none 0 0, .int .i64 2, .int .i64 0] (by kernel_rfl) ?_; (try simp only [Act.put, List.setIfInBounds_toArray, List.set_cons_zero, List.set_cons_succ]))
  | ((with_reducible refine qA 14 ?_); refine CX hS rfl _ 3 1 _ rfl Tryz.underlying48 #[.int .i64 1] (by kernel_rfl) 1 rfl (by decide) ?_; clear hS; intro g14 w_ hS; (try simp only [Act.put, List.setIfInBounds_toArray, List.set_cons_zero, List.set_cons_succ]))
  | ((with_reducible refine qA 15 ?_); refine BigFrame.wpList_want rfl fun _ hK => Bu (f := 49) (first := #[]) (caps := #[]) (vs := [.slice (some ⟨g14, 0, none⟩) 1 1]) rfl rfl (by kernel_rfl) (by simp [Act.eval, Act.put]) (ER (l := [1]) (N := 2) (Sl.of_own (hS.own 0 rfl)) (by decide)) fun e w' ⟨x_, he_, hx_, hb_⟩ => ⟨x_, he_, hK _ _ ?_⟩; clear hK; obtain ⟨ya_, na_, rfl, hy_, hn_⟩ := id hx_; obtain ⟨A15, m15, c15, rfl⟩ := hy_.shape; obtain ⟨B15, k15, d15, rfl⟩ := hn_.shape; replace hS := hS.ret hb_ AY hx_; clear hx_ hb_ hy_ hn_ he_; (try simp only [Act.put, List.setIfInBounds_toArray, List.set_cons_zero, List.set_cons_succ]))
  | ((with_reducible refine qA 16 ?_); refine AF rfl _ _ rfl #[.bool false, .slice A15 m15 c15, .slice B15 k15 d15, .int .i64 3, .int .i64 0] (by kernel_rfl) ?_; (try simp only [Act.put, List.setIfInBounds_toArray, List.set_cons_zero, List.set_cons_succ]))
  | ((with_reducible refine qA 17 ?_); refine AF rfl _ _ rfl #[.bool true, .slice none 0 0, .slice none 0 0, .int .i64 4, .int .i64 0] (by kernel_rfl) ?_; (try simp only [Act.put, List.setIfInBounds_toArray, List.set_cons_zero, List.set_cons_succ]))
  | ((with_reducible refine qA 18 ?_); refine Fy hS rfl _ 58 4 _ rfl Tryz.underlying28 [(0, .agg #[.bool false, .slice A10 m10 c10, .slice B10 k10 d10, .int .i64 1, .int .i64 0]), (1, .agg #[.bool false, .slice none 0 0, .slice none 0 0, .int .i64 2, .int .i64 0]), (2, .agg #[.bool false, .slice A15 m15 c15, .slice B15 k15 d15, .int .i64 3, .int .i64 0]), (3, .agg #[.bool true, .slice none 0 0, .slice none 0 0, .int .i64 4, .int .i64 0])] (by simp [Act.eval]) #[.bool false, .slice A10 m10 c10, .slice B10 k10 d10, .int .i64 1, .int .i64 0, .bool false, .slice none 0 0, .slice none 0 0, .int .i64 2, .int .i64 0, .bool false, .slice A15 m15 c15, .slice B15 k15 d15, .int .i64 3, .int .i64 0, .bool true, .slice none 0 0, .slice none 0 0, .int .i64 4, .int .i64 0] (by kernel_rfl) 5 rfl (by decide) ?_; clear hS; intro g18 w_ hS; (try simp only [Act.put, List.setIfInBounds_toArray, List.set_cons_zero, List.set_cons_succ]))
  | ((with_reducible refine qA 20 ?_); refine CX hS rfl _ 3 2 _ rfl Tryz.underlying48 #[.int .i64 2, .int .i64 5] (by kernel_rfl) 1 rfl (by decide) ?_; clear hS; intro g20 w_ hS; (try simp only [Act.put, List.setIfInBounds_toArray, List.set_cons_zero, List.set_cons_succ]))
  | ((with_reducible refine qA 21 ?_); refine BigFrame.wpList_want rfl fun _ hK => Bu (f := 49) (first := #[]) (caps := #[]) (vs := [.slice (some ⟨g20, 0, none⟩) 2 2]) rfl rfl (by kernel_rfl) (by simp [Act.eval, Act.put]) (ER (l := [2, 5]) (N := 36) (Sl.of_own (hS.own 0 rfl)) (by decide)) fun e w' ⟨x_, he_, hx_, hb_⟩ => ⟨x_, he_, hK _ _ ?_⟩; clear hK; obtain ⟨ya_, na_, rfl, hy_, hn_⟩ := id hx_; obtain ⟨A21, m21, c21, rfl⟩ := hy_.shape; obtain ⟨B21, k21, d21, rfl⟩ := hn_.shape; replace hS := hS.ret hb_ AY hx_; clear hx_ hb_ hy_ hn_ he_; (try simp only [Act.put, List.setIfInBounds_toArray, List.set_cons_zero, List.set_cons_succ]))
  | ((with_reducible refine qA 22 ?_); refine Fy hS rfl _ 56 1 _ rfl Tryz.underlying29 [(0, .agg #[.slice A21 m21 c21, .slice B21 k21 d21])] (by simp [Act.eval]) #[.slice A21 m21 c21, .slice B21 k21 d21] (by kernel_rfl) 2 rfl (by decide) ?_; clear hS; intro g22 w_ hS; (try simp only [Act.put, List.setIfInBounds_toArray, List.set_cons_zero, List.set_cons_succ]))
  | ((with_reducible refine qA 24 ?_); refine CX hS rfl _ 3 1 _ rfl Tryz.underlying48 #[.int .i64 1] (by kernel_rfl) 1 rfl (by decide) ?_; clear hS; intro g24 w_ hS; (try simp only [Act.put, List.setIfInBounds_toArray, List.set_cons_zero, List.set_cons_succ]))
  | ((with_reducible refine qA 25 ?_); refine BigFrame.wpList_want rfl fun _ hK => Bu (f := 49) (first := #[]) (caps := #[]) (vs := [.slice (some ⟨g24, 0, none⟩) 1 1]) rfl rfl (by kernel_rfl) (by simp [Act.eval, Act.put]) (ER (l := [1]) (N := 2) (Sl.of_own (hS.own 0 rfl)) (by decide)) fun e w' ⟨x_, he_, hx_, hb_⟩ => ⟨x_, he_, hK _ _ ?_⟩; clear hK; obtain ⟨ya_, na_, rfl, hy_, hn_⟩ := id hx_; obtain ⟨A25, m25, c25, rfl⟩ := hy_.shape; obtain ⟨B25, k25, d25, rfl⟩ := hn_.shape; replace hS := hS.ret hb_ AY hx_; clear hx_ hb_ hy_ hn_ he_; (try simp only [Act.put, List.setIfInBounds_toArray, List.set_cons_zero, List.set_cons_succ]))
  | ((with_reducible refine qA 26 ?_); refine Fy hS rfl _ 56 1 _ rfl Tryz.underlying29 [(0, .agg #[.slice A25 m25 c25, .slice B25 k25 d25])] (by simp [Act.eval]) #[.slice A25 m25 c25, .slice B25 k25 d25] (by kernel_rfl) 2 rfl (by decide) ?_; clear hS; intro g26 w_ hS; (try simp only [Act.put, List.setIfInBounds_toArray, List.set_cons_zero, List.set_cons_succ]))
  | ((with_reducible refine qA 27 ?_); refine AF rfl _ _ rfl #[.int .i64 5, .pointer (some ⟨q, 0, none⟩), .slice none 0 0, .slice (some ⟨g18, 0, none⟩) 4 4, .slice (some ⟨g22, 0, none⟩) 1 1, .slice (some ⟨g26, 0, none⟩) 1 1] (by kernel_rfl) ?_; (try simp only [Act.put, List.setIfInBounds_toArray, List.set_cons_zero, List.set_cons_succ]))
  | ((with_reducible refine qA 2 ?_); refine qa hS #[.int .i64 0, .pointer none, .slice none 0 0, .slice none 0 0, .slice none 0 0, .slice none 0 0] ?_; clear hS; intro g2 w_ hS)
  | ((with_reducible refine qM ?_); (first | refine qS hS ?_ | refine qT hS ?_); clear hS; intro w_ hS; (try simp only [Act.put, Act.eval, zz, Value.cells] at hS))
  | ((with_reducible refine qA 29 ?_)
     replace hS := ((hS.freeze 1 (by decide) rfl).freeze 2 (by decide) rfl).freeze 3 (by decide) rfl
     obtain ⟨K1, k0, kp1, hS2⟩ : ∃ K1 : (Nat -> Prop) -> World -> Prop, (∀ D w, K1 D w -> K D w) /\ (∀ D w, K1 D w -> Bh w D (.agg #[.int .i64 5, .pointer (some ⟨q, 0, none⟩), .slice none 0 0, .slice (some ⟨g18, 0, none⟩) 4 4, .slice (some ⟨g22, 0, none⟩) 1 1, .slice (some ⟨g26, 0, none⟩) 1 1]) P1) /\ St w0 w_ (.box g2 31 #[.int .i64 5, .pointer (some ⟨q, 0, none⟩), .slice none 0 0, .slice (some ⟨g18, 0, none⟩) 4 4, .slice (some ⟨g22, 0, none⟩) 1 1, .slice (some ⟨g26, 0, none⟩) 1 1] :: F) K1 :=
       ⟨_, fun D w h => h.1.1.1.1.1.1.1.1, fun D w h => ⟨_, _, _, _, _, rfl, h.1.1.1.1.1.1.1.2, A7.empty, ⟨_, h.2, rcells1 h.1.1.1.1.1.1.2 h.1.1.1.1.1.2⟩, ⟨_, h.1.2, cc1 h.1.1.1.1.2⟩, _, h.1.1.2, cc1 h.1.1.1.2⟩, hS.sub (.cons_cons _ ((((List.sublist_cons_self _ _).trans (List.sublist_cons_self _ _)).trans (List.sublist_cons_self _ _)).trans (List.sublist_cons_self _ _)))⟩
     clear hS
     have hS := hS2
     clear hS2
     refine BigFrame.wpList_want rfl fun _ hK => B9 rfl rfl (hS.box 0 rfl) Tryz.underlying31 rfl (by kernel_rfl) (hK _ _ ?_)))
 refine (of1_any hS kp1 (fun D w h => (kt D w (k0 D w h)).1)).mono ?_
 clear hS
 rintro e w3 ⟨R3, q3, n3, c3, cr3, cn3, ng3, cg3, A3, Ar3, An3, Ag3, k3, rfl, hS⟩
 obtain ⟨K3, j0, jk, hS2⟩ : ∃ K3 : (Nat -> Prop) -> World -> Prop, (∀ D w, K3 D w -> K1 D w) /\ (∀ D w, K3 D w -> Sl w D 1 k3 ([0, 1] : List Int).length (AQ [0, 1])) /\ St w0 w3 (.box g2 31 #[.int .i64 5, .pointer (some ⟨q, 0, none⟩), .slice none 0 0, .slice (some ⟨g18, 0, none⟩) 4 4, .slice (some ⟨g22, 0, none⟩) 1 1, .slice (some ⟨g26, 0, none⟩) 1 1] :: F) K3 := ⟨_, fun D w h => h.1, fun D w h => h.2, hS⟩
 clear hS
 have hS := hS2
 clear hS2
 have hj := Lib.hid fun D w h => kt D w (k0 D w (j0 D w h))
 go_wp2_with (first
  | ((with_reducible refine qA 3 ?_); refine qa hS #[.int .i64 0, .pointer none, .slice none 0 0, .slice none 0 0, .slice none 0 0, .slice none 0 0] ?_; clear hS; intro g3 w_ hS)
  | (go_at_call 51; refine (Ih hS hj.out).mono ?_; clear hS; rintro e w_ ⟨p, rfl, hS⟩; obtain ⟨q4, o4, rfl, -⟩ := id hS.ro.2)
  | ((with_reducible refine qA 35 ?_); refine CX hS rfl _ 3 1 _ rfl Tryz.underlying48 #[.int .i64 2] (by kernel_rfl) 1 rfl (by decide) ?_; clear hS; intro g35 w_ hS; (try simp only [Act.put, List.setIfInBounds_toArray, List.set_cons_zero, List.set_cons_succ]))
  | (go_at_call 50; refine (of_any _ [2] _ _ (Sl.of_own (hS.own 0 rfl))).mono ?_; rw [show ofN [2] = 4 from by decide]; rintro r_ w_ ⟨_, rfl, h1, hb_⟩; replace hS := hS.ret hb_ A5 h1; clear h1 hb_; obtain ⟨A36, c36, l36, rfl, -⟩ := hS.ro.2.parts; obtain ⟨n36, hn36⟩ : ∃ n, n = l36.length := ⟨_, rfl⟩; rw [<- hn36] at hS ⊢; clear hn36)
  | ((with_reducible refine qA 38 ?_); refine CX hS rfl _ 3 2 _ rfl Tryz.underlying48 #[.int .i64 2, .int .i64 3] (by kernel_rfl) 1 rfl (by decide) ?_; clear hS; intro g38 w_ hS; (try simp only [Act.put, List.setIfInBounds_toArray, List.set_cons_zero, List.set_cons_succ]))
  | ((with_reducible refine qA 39 ?_); refine BigFrame.wpList_want rfl fun _ hK => Bu (f := 49) (first := #[]) (caps := #[]) (vs := [.slice (some ⟨g38, 0, none⟩) 2 2]) rfl rfl (by kernel_rfl) (by simp [Act.eval, Act.put]) (ER (l := [2, 3]) (N := 12) (Sl.of_own (hS.own 0 rfl)) (by decide)) fun e w' ⟨x_, he_, hx_, hb_⟩ => ⟨x_, he_, hK _ _ ?_⟩; clear hK; obtain ⟨ya_, na_, rfl, hy_, hn_⟩ := id hx_; obtain ⟨A39, m39, c39, rfl⟩ := hy_.shape; obtain ⟨B39, k39, d39, rfl⟩ := hn_.shape; replace hS := hS.ret hb_ AY hx_; clear hx_ hb_ hy_ hn_ he_; (try simp only [Act.put, List.setIfInBounds_toArray, List.set_cons_zero, List.set_cons_succ]))
  | ((with_reducible refine qA 40 ?_); refine AF rfl _ _ rfl #[.bool false, .slice A39 m39 c39, .slice B39 k39 d39, .int .i64 1, .int .i64 0] (by kernel_rfl) ?_; (try simp only [Act.put, List.setIfInBounds_toArray, List.set_cons_zero, List.set_cons_succ]))
  | ((with_reducible refine qA 41 ?_); refine Fy hS rfl _ 58 1 _ rfl Tryz.underlying28 [(0, .agg #[.bool false, .slice A39 m39 c39, .slice B39 k39 d39, .int .i64 1, .int .i64 0])] (by simp [Act.eval]) #[.bool false, .slice A39 m39 c39, .slice B39 k39 d39, .int .i64 1, .int .i64 0] (by kernel_rfl) 5 rfl (by decide) ?_; clear hS; intro g41 w_ hS; (try simp only [Act.put, List.setIfInBounds_toArray, List.set_cons_zero, List.set_cons_succ]))
  | ((with_reducible refine qA 43 ?_); refine CX hS rfl _ 3 1 _ rfl Tryz.underlying48 #[.int .i64 1] (by kernel_rfl) 1 rfl (by decide) ?_; clear hS; intro g43 w_ hS; (try simp only [Act.put, List.setIfInBounds_toArray, List.set_cons_zero, List.set_cons_succ]))
  | ((with_reducible refine qA 44 ?_); refine BigFrame.wpList_want rfl fun _ hK => Bu (f := 49) (first := #[]) (caps := #[]) (vs := [.slice (some ⟨g43, 0, none⟩) 1 1]) rfl rfl (by kernel_rfl) (by simp [Act.eval, Act.put]) (ER (l := [1]) (N := 2) (Sl.of_own (hS.own 0 rfl)) (by decide)) fun e w' ⟨x_, he_, hx_, hb_⟩ => ⟨x_, he_, hK _ _ ?_⟩; clear hK; obtain ⟨ya_, na_, rfl, hy_, hn_⟩ := id hx_; obtain ⟨A44, m44, c44, rfl⟩ := hy_.shape; obtain ⟨B44, k44, d44, rfl⟩ := hn_.shape; replace hS := hS.ret hb_ AY hx_; clear hx_ hb_ hy_ hn_ he_; (try simp only [Act.put, List.setIfInBounds_toArray, List.set_cons_zero, List.set_cons_succ]))
  | ((with_reducible refine qA 45 ?_); refine Fy hS rfl _ 56 1 _ rfl Tryz.underlying29 [(0, .agg #[.slice A44 m44 c44, .slice B44 k44 d44])] (by simp [Act.eval]) #[.slice A44 m44 c44, .slice B44 k44 d44] (by kernel_rfl) 2 rfl (by decide) ?_; clear hS; intro g45 w_ hS; (try simp only [Act.put, List.setIfInBounds_toArray, List.set_cons_zero, List.set_cons_succ]))
  | ((with_reducible refine qA 46 ?_); refine AF rfl _ _ rfl #[.int .i64 5, .pointer (some ⟨q4, 0, none⟩), .slice A36 n36 c36, .slice (some ⟨g41, 0, none⟩) 1 1, .slice none 0 0, .slice (some ⟨g45, 0, none⟩) 1 1] (by kernel_rfl) ?_; (try simp only [Act.put, List.setIfInBounds_toArray, List.set_cons_zero, List.set_cons_succ]))
  | ((with_reducible refine qA 6 ?_); refine qa hS #[.int .i64 0, .pointer none, .slice none 0 0, .slice none 0 0, .slice none 0 0, .slice none 0 0] ?_; clear hS; intro g6 w_ hS)
  | ((with_reducible refine qM ?_); (first | refine qS hS ?_ | refine qT hS ?_); clear hS; intro w_ hS; (try simp only [Act.put, Act.eval, zz, Value.cells] at hS))
  | ((with_reducible refine qA 50 ?_)
     replace hS := (hS.freeze 1 (by decide) rfl).freeze 2 (by decide) rfl
     obtain ⟨K5, m0, kp2, hS2⟩ : ∃ K5 : (Nat -> Prop) -> World -> Prop, (∀ D w, K5 D w -> K3 D w) /\ (∀ D w, K5 D w -> Bh w D (.agg #[.int .i64 5, .pointer (some ⟨q4, 0, none⟩), .slice A36 n36 c36, .slice (some ⟨g41, 0, none⟩) 1 1, .slice none 0 0, .slice (some ⟨g45, 0, none⟩) 1 1]) P2) /\ St w0 w_ (.box g6 31 #[.int .i64 5, .pointer (some ⟨q4, 0, none⟩), .slice A36 n36 c36, .slice (some ⟨g41, 0, none⟩) 1 1, .slice none 0 0, .slice (some ⟨g45, 0, none⟩) 1 1] :: .box g3 31 #[.int .i64 R3, .pointer (some ⟨q3, 0, none⟩), .slice A3 n3 c3, .slice Ar3 2 cr3, .slice An3 1 cn3, .slice Ag3 ng3 cg3] :: .box g2 31 #[.int .i64 5, .pointer (some ⟨q, 0, none⟩), .slice none 0 0, .slice (some ⟨g18, 0, none⟩) 4 4, .slice (some ⟨g22, 0, none⟩) 1 1, .slice (some ⟨g26, 0, none⟩) 1 1] :: F) K5 :=
       ⟨_, fun D w h => h.1.1.1.1.1.1, fun D w h => ⟨_, _, _, _, _, rfl, h.1.1.1.1.1.2, h.1.1.1.1.2, ⟨_, h.2, AH.single (z := ⟨false, 12, 0, 1, 0⟩) h.1.1.1.2.sets.1 h.1.1.1.2.sets.2⟩, ⟨[], Sl.none_, fun i y n hi => by simp [P2] at hi⟩, _, h.1.2, cc1 h.1.1.2⟩, hS.sub (.cons_cons _ (((List.sublist_cons_self _ _).trans (List.sublist_cons_self _ _)).trans (List.sublist_cons_self _ _)))⟩
     clear hS
     have hS := hS2
     clear hS2
     refine BigFrame.wpList_want rfl fun _ hK => B9 rfl rfl (hS.box 2 rfl) Tryz.underlying31 rfl (by kernel_rfl) (hK _ _ ?_)))
 have hkp : ∀ D w, K5 D w -> Bh w D (.agg #[.int .i64 5, .pointer (some ⟨q, 0, none⟩), .slice none 0 0, .slice (some ⟨g18, 0, none⟩) 4 4, .slice (some ⟨g22, 0, none⟩) 1 1, .slice (some ⟨g26, 0, none⟩) 1 1]) P1 := fun D w h => kp1 D w (j0 D w (m0 D w h))
 have hkt : ∀ D w, K5 D w -> Bo w := fun D w h => (kt D w (k0 D w (j0 D w (m0 D w h)))).1
 have hjk : ∀ D w, K5 D w -> Sl w D 1 k3 ([0, 1] : List Int).length (AQ [0, 1]) := fun D w h => jk D w (m0 D w h)
 refine (Dl (hkp _ _ hS.ro) ok1 (hkt _ _ hS.ro)).mono ?_
 rw [relS1]
 rintro r_ w7 ⟨_, rfl, h1, hb_⟩
 replace hS := hS.ret hb_ A5 h1
 clear h1 hb_
 go_wp2_with (first
  | ((with_reducible refine qA 52 ?_); refine st_litg hS rfl _ 3 3 _ rfl Tryz.underlying48 #[.int .i64 1, .int .i64 2, .int .i64 5] (by kernel_rfl) 1 rfl (by decide) ?_; clear hS; intro g52 w_ hS; (try simp only [Act.put, List.setIfInBounds_toArray, List.set_cons_zero, List.set_cons_succ]))
  | (go_at_call 50; refine (of_any _ [1, 2, 5] _ _ (Sl.of_own (hS.own 0 rfl))).mono ?_; rw [show ofN [1, 2, 5] = 38 from by decide]; rintro r_ w_ ⟨_, rfl, h1, hb_⟩; replace hS := hS.ret hb_ A5 h1; clear h1 hb_)
  | (go_at_call 14; refine (CJ _ _ 38 38 _ _ _ hS.ro.1.2 hS.ro.2).mono ?_; rintro r_ w_ ⟨_, rfl, rfl, hb_⟩; rw [show ((38 : Nat) == 38) = true from rfl]; replace hS := hS.ext hb_; clear hb_)
  | ((with_reducible refine qA 58 ?_); refine st_litg hS rfl _ 3 2 _ rfl Tryz.underlying48 #[.int .i64 0, .int .i64 1] (by kernel_rfl) 1 rfl (by decide) ?_; clear hS; intro g58 w_ hS; (try simp only [Act.put, List.setIfInBounds_toArray, List.set_cons_zero, List.set_cons_succ])))
 refine (DP _ _ [0, 1] [0, 1] _ _ _ (hjk _ _ hS.ro.1.1) (Sl.of_own (hS.own 0 rfl))).mono ?_
 rintro r_ w8 ⟨_, rfl, rfl, hb_⟩
 rw [show (([0, 1] : List Int) == [0, 1]) = true from rfl]
 replace hS := hS.ext hb_
 clear hb_
 go_wp2_with (first
  | ((with_reducible refine qK ?_); refine qC hS ?_)
  | ((with_reducible refine qA 74 ?_); refine BigFrame.wpList_want rfl fun _ hK => B9 rfl rfl (hS.box 2 rfl) Tryz.underlying31 rfl (by kernel_rfl) (hK _ _ ?_))
  | (go_at_call 21; refine (useless_any (kp2 _ _ hS.ro.1.1) ok2 (hkt _ _ hS.ro.1.1)).mono ?_; rw [use2]; rintro e_ w_ ⟨u9, rfl, hs⟩; replace hS := hS.new hs.below (.own u9 3 1 ([0] : List Int).length (AQ [0])) (hs.own 0 rfl); clear hs)
  | ((with_reducible refine qA 76 ?_); refine st_litg hS rfl _ 3 1 _ rfl Tryz.underlying48 #[.int .i64 0] (by kernel_rfl) 1 rfl (by decide) ?_; clear hS; intro g76 w_ hS; (try simp only [Act.put, List.setIfInBounds_toArray, List.set_cons_zero, List.set_cons_succ]))
  | (go_at_call 30; refine (DP _ _ [0] [0] _ _ _ (Sl.of_own (hS.own 1 rfl)) (Sl.of_own (hS.own 0 rfl))).mono ?_; rintro r_ w_ ⟨_, rfl, rfl, hb_⟩; rw [show (([0] : List Int) == [0]) = true from rfl]; replace hS := hS.ext hb_; clear hb_))
 go_ret
 exact ⟨rfl, (hS.sub (.cons _ (.cons _ (.cons _ (.cons _ (.cons _ (.cons _ (.cons _ (List.Sublist.refl _))))))))).mono KS.out fun D w h => k0 _ _ (j0 _ _ (m0 _ _ h.1.1))⟩
end
section
open Go.RowKit
attribute [local go_sem ↓] Go.wp_at_zero Go.wp_at_succ
set_option maxRecDepth 20000
set_option exponentiation.threshold 5000
theorem start_bytes1 {W : World} {D : Nat -> Prop} {v : Value} {l : List Nat} (h : Bo W) (hv : Sl W D 1 v l.length (u8s l)) : ∃ K : (Nat -> Prop) -> World -> Prop, (∀ D w, K D w -> Bo w /\ D 0) /\ (∀ D w, K D w -> Sl w D 1 v l.length (u8s l)) /\ St W W [] K :=
 ⟨fun D w => (Bo w /\ D 0) /\ Sl w D 1 v l.length (u8s l), fun _ _ h => h.1, fun _ _ h => h.2, St.start (D := fun _ => True) (BE.and (Aj (by decide))) ⟨⟨h, trivial⟩, hv.imp fun _ _ _ => trivial⟩⟩
end
section
open Go.RowKit
attribute [local go_sem ↓] Go.wp_at_zero Go.wp_at_succ
set_option maxRecDepth 20000
set_option exponentiation.threshold 5000
theorem hequal_any {w0 : World} {D E : Nat -> Prop} {p p' : Value} {L M : List (Nat × Nat)} (h : Ge w0 D p L) (h' : Ge w0 E p' M) (hl : L.length <= 1000000) (hl' : M.length <= 1000000) : Calls Tryz.prog 89 #[p, p'] w0 (AK (fun x _ => x = .bool (decide (L = M))) w0) := by
 obtain ⟨K, k1, k2, hS⟩ : ∃ K : (Nat -> Prop) -> World -> Prop, (∀ D w, K D w -> Ge w D p L) /\ (∀ D w, K D w -> Ge w D p' M) /\ St w0 w0 [] K := ⟨_, fun _ _ h => h.1, fun _ _ h => h.2, St.start (D := fun _ => True) (Bp.and Bp) ⟨Bp D _ w0 w0 h (Nat.le_refl _) (fun _ _ _ _ h => h) fun _ _ _ _ => trivial, Bp E _ w0 w0 h' (Nat.le_refl _) (fun _ _ _ _ h => h) fun _ _ _ _ => trivial⟩⟩
 obtain ⟨q, o, rfl, -⟩ := id h
 obtain ⟨q', o', rfl, -⟩ := id h'
 clear h h'
 go_enter Tryz.func89, Tryz.ntmps89
 go_wp2_with (first
  | (go_at_call 79; first
     | ((with_reducible show Calls _ _ #[.pointer (some ⟨q, 0, none⟩)] _ _); refine (Ea (k1 _ _ hS.ro) hl).mono ?_; rintro e w_ ⟨v1, rfl, hs⟩; replace hS := hS.new hs.below (.own v1 122 2 L.length (Aa L)) (hs.own 0 rfl); clear hs)
     | ((with_reducible show Calls _ _ #[.pointer (some ⟨q', 0, none⟩)] _ _); refine (Ea (k2 _ _ hS.ro) hl').mono ?_; rintro e w_ ⟨v2, rfl, hs⟩; replace hS := hS.new hs.below (.own v2 122 2 M.length (Aa M)) (hs.own 0 rfl); clear hs))
  | (go_at_call 78; refine (peq_any (Sl.of_own (hS.own 1 rfl)) (Sl.of_own (hS.own 0 rfl)) hl).mono ?_; rintro r_ w_ ⟨_, rfl, rfl, hb_⟩; replace hS := hS.ext hb_; clear hb_))
 go_ret
 exact AK.mk rfl hS.below
end
section
open Go.RowKit
attribute [local go_sem ↓] Go.wp_at_zero Go.wp_at_succ
set_option maxRecDepth 20000
set_option exponentiation.threshold 5000
theorem stable_rng {b i : Nat} {x0 : Value} {r : List Value} : AB fun D w => w.rangeAt b i (x0 :: r) /\ D b /\ b < w.heap.size := fun D D' w w' h a k c =>
 ⟨fun j x hj => k ⟨b, i + j, none⟩ x h.2.1 h.2.2 (h.1 j x hj), c _ h.2.1 h.2.2 (DG (p := ⟨b, i + 0, none⟩) (h.1 0 x0 rfl)), Nat.lt_of_lt_of_le h.2.2 a⟩
def Ei (x y : AL) : Bool := x.revoke == y.revoke && (decide (x.target = y.target) && (decide (x.origin = y.origin) && ((x.yes, x.no) == (y.yes, y.no))))
theorem ruleB_iff {x y : AL} : Ei x y = true ↔ x = y := by
 obtain ⟨a, b, c, d, e⟩ := x
 obtain ⟨a', b', c', d', e'⟩ := y
 simp [Ei]
 intro _
 constructor
 ·rintro ⟨h2, h3, h4, h5⟩; exact ⟨h4, h5, h2, h3⟩
 ·rintro ⟨h2, h3, h4, h5⟩; exact ⟨h4, h5, h2, h3⟩
def DK (l t : List AL) : Bool := decide (l.length = t.length) && (List.range l.length).all fun j => Ei (l.getD j Av) (t.getD j Av)
theorem rulesB_self (l : List AL) : DK l l = true := by
 unfold DK
 simp [ruleB_iff]
set_option maxHeartbeats 1000000 in
theorem I1 {w0 : World} {D E : Nat -> Prop} {u v : Value} {x y : AL} (hu : Dw w0 D u x) (hv : Dw w0 E v y) : Calls Tryz.prog 88 #[u, v] w0 (AK (fun r _ => r = .bool (Ei x y)) w0) := by
 obtain ⟨xr, xy, xn, xt, xo⟩ := x
 obtain ⟨yr, yy, yn, yt, yo⟩ := y
 obtain ⟨a, b, rfl, h1, h2⟩ := hu
 obtain ⟨c, d, rfl, h3, h4⟩ := hv
 dsimp only at h1 h2 h3 h4
 obtain ⟨A1, m1, c1, rfl⟩ := h1.shape
 obtain ⟨A2, m2, c2, rfl⟩ := h2.shape
 obtain ⟨A3, m3, c3, rfl⟩ := h3.shape
 obtain ⟨A4, m4, c4, rfl⟩ := h4.shape
 obtain ⟨K, k1, k2, hS⟩ : ∃ K : (Nat -> Prop) -> World -> Prop, (∀ D w, K D w -> AO w D (.agg #[.slice A1 m1 c1, .slice A2 m2 c2]) (xy, xn)) /\ (∀ D w, K D w -> AO w D (.agg #[.slice A3 m3 c3, .slice A4 m4 c4]) (yy, yn)) /\ St w0 w0 [] K := ⟨_, fun _ _ h => h.1, fun _ _ h => h.2, St.start (D := fun _ => True) (AY.and AY) ⟨⟨_, _, rfl, h1.imp fun _ _ _ => trivial, h2.imp fun _ _ _ => trivial⟩, ⟨_, _, rfl, h3.imp fun _ _ _ => trivial, h4.imp fun _ _ _ => trivial⟩⟩⟩
 clear h1 h2 h3 h4
 have HU : Hid (Ei ⟨xr, xy, xn, xt, xo⟩ ⟨yr, yy, yn, yt, yo⟩ = (xr == yr && (decide (xt = yt) && (decide (xo = yo) && ((xy, xn) == (yy, yn)))))) := Lib.hid rfl
 generalize Ei ⟨xr, xy, xn, xt, xo⟩ ⟨yr, yy, yn, yt, yo⟩ = RB at *
 obtain ⟨cb, hcb⟩ : ∃ cb, cb = ((xy, xn) == (yy, yn)) := ⟨_, rfl⟩
 rw [<- hcb] at HU
 have HC := Lib.hid hcb
 clear hcb
 go_enter Tryz.func88, Tryz.ntmps88
 by_cases he : xr = yr
 ·have e1 : (xr == yr) = true := by simpa using he
  rw [e1] at HU
  have HR : Hid (∀ w : World, (binOp .eql 4 (.bool xr) (.bool yr)).run Tryz.prog w = .ok (.bool true) w) := Lib.hid fun w => by subst he; cases xr <;> rfl
  clear he e1
  go_wp2_with (first
   | ((with_reducible refine qA 2 ?_); refine AA hS rfl _ _ rfl (.agg #[.bool xr, .slice A1 m1 c1, .slice A2 m2 c2, .int .i64 xt, .int .i64 xo]) _ rfl rfl ?_; clear hS; intro g2 w_ hS; (try simp only [Act.put, Act.eval, zz, Value.cells] at hS))
   | ((with_reducible refine qA 3 ?_); refine AA hS rfl _ _ rfl (.agg #[.bool yr, .slice A3 m3 c3, .slice A4 m4 c4, .int .i64 yt, .int .i64 yo]) _ rfl rfl ?_; clear hS; intro g3 w_ hS; (try simp only [Act.put, Act.eval, zz, Value.cells] at hS))
   | ((with_reducible refine qA 9 ?_); refine BigFrame.wpList_want rfl fun _ hK => AW rfl rfl rfl rfl (HR.out _) (hK _ _ ?_))
   | ((with_reducible refine qA 26 ?_); refine Hq hS 1 rfl _ _ rfl _ _ rfl _ _ rfl _ _ rfl rfl Tryz.underlying56 rfl (by kernel_rfl) ?_)
   | ((with_reducible refine qA 28 ?_); refine Hq hS 0 rfl _ _ rfl _ _ rfl _ _ rfl _ _ rfl rfl Tryz.underlying56 rfl (by kernel_rfl) ?_)
   | (go_at_call 81; refine (Dt _ _ (xy, xn) (yy, yn) _ _ _ (k1 _ _ hS.ro) (k2 _ _ hS.ro)).mono ?_; rw [<- HC.out]; rintro r_ w_ ⟨_, rfl, rfl, hb_⟩; replace hS := hS.ext hb_; clear hb_)
   | ((with_reducible refine qB ?_); refine qc ?_ ?_ <;> intro h_ <;> go_prune)
   | ((with_reducible refine qK ?_); refine qC hS ?_))
  all_goals
   go_ret
   refine AK.mk ?_ hS.below
   have h := HU.out
   simp_all
 ·have e1 : (xr == yr) = false := by simpa using he
  rw [e1] at HU
  have HR : Hid (∀ w : World, (binOp .eql 4 (.bool xr) (.bool yr)).run Tryz.prog w = .ok (.bool false) w) := Lib.hid fun w => by cases xr <;> cases yr <;> first | rfl | exact absurd rfl he
  clear he e1
  go_wp2_with (first
   | ((with_reducible refine qA 2 ?_); refine AA hS rfl _ _ rfl (.agg #[.bool xr, .slice A1 m1 c1, .slice A2 m2 c2, .int .i64 xt, .int .i64 xo]) _ rfl rfl ?_; clear hS; intro g2 w_ hS; (try simp only [Act.put, Act.eval, zz, Value.cells] at hS))
   | ((with_reducible refine qA 3 ?_); refine AA hS rfl _ _ rfl (.agg #[.bool yr, .slice A3 m3 c3, .slice A4 m4 c4, .int .i64 yt, .int .i64 yo]) _ rfl rfl ?_; clear hS; intro g3 w_ hS; (try simp only [Act.put, Act.eval, zz, Value.cells] at hS))
   | ((with_reducible refine qA 9 ?_); refine BigFrame.wpList_want rfl fun _ hK => AW rfl rfl rfl rfl (HR.out _) (hK _ _ ?_))
   | ((with_reducible refine qB ?_); refine qc ?_ ?_ <;> intro h_ <;> go_prune)
   | ((with_reducible refine qK ?_); refine qC hS ?_))
  go_ret
  refine AK.mk ?_ hS.below
  have h := HU.out
  simp_all
theorem rulesB_no {l t : List AL} {k : Nat} (hk : k < l.length) (h : Ei (l.getD k Av) (t.getD k Av) = false) : DK l t = false := by
 cases e : DK l t with
 | false => rfl
 | true =>
  unfold DK at e
  rw [Bool.and_eq_true] at e
  have := List.all_eq_true.1 e.2 k (List.mem_range.2 hk)
  rw [h] at this; cases this
theorem rulesB_yes {l t : List AL} (hl : l.length = t.length) (h : ∀ j, j < l.length -> Ei (l.getD j Av) (t.getD j Av) = true) : DK l t = true := by
 unfold DK
 rw [Bool.and_eq_true]
 exact ⟨by simpa using hl, List.all_eq_true.2 fun j hj => h j (List.mem_range.1 hj)⟩
set_option maxHeartbeats 1000000 in
theorem eqrules_any {w0 : World} {D E : Nat -> Prop} {u v : Value} {l t : List AL} (hu : AZ w0 D u l) (hv : AZ w0 E v t) : Calls Tryz.prog 90 #[u, v, .func (.func 88) #[] #[]] w0 (AK (fun x _ => x = .bool (DK l t)) w0) := by
 obtain ⟨A, c, rfl, h1, h2⟩ := hu.shape
 obtain ⟨B, d, rfl, h3, h4⟩ := hv.shape
 obtain ⟨K, k1, k2, hS⟩ : ∃ K : (Nat -> Prop) -> World -> Prop, (∀ D w, K D w -> AZ w D (.slice A l.length c) l) /\ (∀ D w, K D w -> AZ w D (.slice B t.length d) t) /\ St w0 w0 [] K := ⟨_, fun _ _ h => h.1, fun _ _ h => h.2, St.start (D := fun _ => True) (AM.and AM) ⟨AM D _ w0 w0 hu (Nat.le_refl _) (fun _ _ _ _ h => h) fun _ _ _ _ => trivial, AM E _ w0 w0 hv (Nat.le_refl _) (fun _ _ _ _ h => h) fun _ _ _ _ => trivial⟩⟩
 have KS := Lib.hid hS.stable
 clear hu hv
 by_cases hlen : l.length = t.length
 ·have HL := Lib.hid hlen
  have hle : l.length <= t.length := by omega
  have hge : t.length <= l.length := by omega
  clear hlen
  go_enter Tryz.func90, Tryz.ntmps90
  go_wp2_with (first | ((with_reducible refine qB ?_); refine qc ?_ ?_ <;> intro h_ <;> go_prune))
  go_loopw [17] (fun i wr => ∃ k : Nat, i = .int .i64 (k : Nat) /\ k <= l.length /\ Hid (∀ j, j < k -> Ei (l.getD j Av) (t.getD j Av) = true) /\ St w0 wr [] K) (fun i _ => l.length - (intOf i).toNat)
  case atStart => exact ⟨0, rfl, by omega, Lib.hid (fun j hj => absurd hj (by omega)), hS⟩
  case round =>
   clear hS
   obtain ⟨k, rfl, hk, HZ, hS⟩ := hrel
   by_cases hlk : k < l.length
   ·obtain ⟨b, o, y, n, rfl, _, hb, c0, c1, c2, c3, c4, hy, hn⟩ := (k1 _ _ hS.ro).at_ hlk
    obtain ⟨b', o', y', n', rfl, hDb, hb', d0, d1, d2, d3, d4, hy', hn'⟩ := (k2 _ _ hS.ro).at_ (k := k) (by omega)
    obtain ⟨Ay, my, cy, rfl⟩ := hy.shape
    obtain ⟨An, mn, cn, rfl⟩ := hn.shape
    obtain ⟨By, ny, dy, rfl⟩ := hy'.shape
    obtain ⟨Bn, nn, dn, rfl⟩ := hn'.shape
    have HNo := Lib.hid (fun h => rulesB_no (l := l) (t := t) hlk h)
    have HYes : Hid (Ei (l.getD k Av) (t.getD k Av) = true -> ∀ j, j < k + 1 -> Ei (l.getD j Av) (t.getD j Av) = true) := Lib.hid fun h0 j hj => by
     rcases Nat.lt_or_ge j k with h | h
     ·exact HZ.out j h
     ·obtain rfl : j = k := by omega
      exact h0
    have hrg := Df d0 d1 d2 d3 d4
    obtain ⟨KC, kc, hS2⟩ : ∃ KC : (Nat -> Prop) -> World -> Prop, Hid (∀ D w, KC D w -> K D w /\ Dw w D (.agg #[.bool (l.getD k Av).revoke, .slice Ay my cy, .slice An mn cn, .int .i64 (l.getD k Av).target, .int .i64 (l.getD k Av).origin]) (l.getD k Av) /\ Dw w D (.agg #[.bool (t.getD k Av).revoke, .slice By ny dy, .slice Bn nn dn, .int .i64 (t.getD k Av).target, .int .i64 (t.getD k Av).origin]) (t.getD k Av) /\ w.rangeAt b' (o' + k * 5) [.bool (t.getD k Av).revoke, .slice By ny dy, .slice Bn nn dn, .int .i64 (t.getD k Av).target, .int .i64 (t.getD k Av).origin]) /\ St w0 wr [] KC := ⟨_, Lib.hid fun _ _ h => ⟨h.1, ⟨_, _, rfl, h.2.1.1.1, h.2.1.1.2⟩, ⟨_, _, rfl, h.2.1.2.1, h.2.1.2.2⟩, h.2.2.1⟩, hS.add (D := CU []) (((A5.and A5).and (A5.and A5)).and stable_rng) ⟨⟨⟨hy, hn⟩, hy', hn'⟩, hrg, hDb, hb'⟩ fun _ h _ => h⟩
    clear hS hy hn hy' hn' HZ hrg hDb
    have hS := hS2
    clear hS2
    obtain ⟨rb, hrb⟩ : ∃ rb, rb = Ei (l.getD k Av) (t.getD k Av) := ⟨_, rfl⟩
    have HRB := Lib.hid hrb
    rw [<- hrb] at HNo HYes
    clear hrb
    generalize l.getD k Av = z1 at *
    generalize t.getD k Av = z2 at *
    obtain ⟨r1, y1, n1, t1, o1⟩ := z1
    obtain ⟨r2, y2, n2, t2, o2⟩ := z2
    dsimp only at c0 c3 c4 kc
    clear d0 d1 d2 d3 d4
    cases rb with
    | true =>
     have HY2 := Lib.hid (HYes.out rfl)
     clear HNo HYes
     go_wp2_with (first
      | ((with_reducible refine qB ?_); refine qc ?_ ?_ <;> intro h_ <;> go_prune)
      | ((with_reducible refine qA 21 ?_); refine BigFrame.wpList_want rfl fun _ hK => AE (cs := [.bool r1, .slice Ay my cy, .slice An mn cn, .int .i64 t1, .int .i64 o1]) rfl rfl (Df c0 c1 c2 c3 c4) Tryz.underlying58 rfl (by kernel_rfl) (hK _ _ ?_))
      | ((with_reducible refine qA 25 ?_); refine BigFrame.wpList_want rfl fun _ hK => AE (cs := [.bool r2, .slice By ny dy, .slice Bn nn dn, .int .i64 t2, .int .i64 o2]) rfl rfl (kc.out _ _ hS.ro).2.2.2 Tryz.underlying58 rfl (by kernel_rfl) (hK _ _ ?_))
      | ((with_reducible refine qA 8 ?_); refine qa hS #[.bool false, .slice none 0 0, .slice none 0 0, .int .i64 0, .int .i64 0] ?_; clear hS; intro g8 w_ hS)
      | ((with_reducible refine qA 9 ?_); refine qa hS #[.bool false, .slice none 0 0, .slice none 0 0, .int .i64 0, .int .i64 0] ?_; clear hS; intro g9 w_ hS)
      | ((with_reducible refine qA 29 ?_); refine BigFrame.wpList_want rfl fun _ hK => Bu (f := 88) (first := #[]) (caps := #[]) (vs := [.agg #[.bool r1, .slice Ay my cy, .slice An mn cn, .int .i64 t1, .int .i64 o1], .agg #[.bool r2, .slice By ny dy, .slice Bn nn dn, .int .i64 t2, .int .i64 o2]]) rfl rfl (by kernel_rfl) (by simp [Act.eval, Act.put]) (I1 (kc.out _ _ hS.ro).2.1 (kc.out _ _ hS.ro).2.2.1) fun e w' ⟨x_, he_, hx_, hb_⟩ => ⟨x_, he_, hK _ _ ?_⟩; clear hK; rw [<- HRB.out] at hx_; subst hx_; replace hS := hS.ext hb_; clear hb_ he_; (try simp only [Act.put, List.setIfInBounds_toArray, List.set_cons_zero, List.set_cons_succ]))
      | ((with_reducible refine qM ?_); (first | refine qS hS ?_ | refine qT hS ?_); clear hS; intro w_ hS; (try simp only [Act.put, Act.eval, zz, Value.cells] at hS))
      | ((with_reducible refine qK ?_); refine qL hS Tryz.underlying58 ?_))
     exact ⟨⟨k + 1, by go_num, hlk, HY2, (hS.sub (.cons _ (.cons _ (List.Sublist.refl _)))).mono KS.out fun D w h => (kc.out _ _ h).1⟩, by simp [intOf]; omega⟩
    | false =>
     have HN2 := Lib.hid (HNo.out rfl)
     clear HNo HYes
     go_wp2_with (first
      | ((with_reducible refine qB ?_); refine qc ?_ ?_ <;> intro h_ <;> go_prune)
      | ((with_reducible refine qA 21 ?_); refine BigFrame.wpList_want rfl fun _ hK => AE (cs := [.bool r1, .slice Ay my cy, .slice An mn cn, .int .i64 t1, .int .i64 o1]) rfl rfl (Df c0 c1 c2 c3 c4) Tryz.underlying58 rfl (by kernel_rfl) (hK _ _ ?_))
      | ((with_reducible refine qA 25 ?_); refine BigFrame.wpList_want rfl fun _ hK => AE (cs := [.bool r2, .slice By ny dy, .slice Bn nn dn, .int .i64 t2, .int .i64 o2]) rfl rfl (kc.out _ _ hS.ro).2.2.2 Tryz.underlying58 rfl (by kernel_rfl) (hK _ _ ?_))
      | ((with_reducible refine qA 8 ?_); refine qa hS #[.bool false, .slice none 0 0, .slice none 0 0, .int .i64 0, .int .i64 0] ?_; clear hS; intro g8 w_ hS)
      | ((with_reducible refine qA 9 ?_); refine qa hS #[.bool false, .slice none 0 0, .slice none 0 0, .int .i64 0, .int .i64 0] ?_; clear hS; intro g9 w_ hS)
      | ((with_reducible refine qA 29 ?_); refine BigFrame.wpList_want rfl fun _ hK => Bu (f := 88) (first := #[]) (caps := #[]) (vs := [.agg #[.bool r1, .slice Ay my cy, .slice An mn cn, .int .i64 t1, .int .i64 o1], .agg #[.bool r2, .slice By ny dy, .slice Bn nn dn, .int .i64 t2, .int .i64 o2]]) rfl rfl (by kernel_rfl) (by simp [Act.eval, Act.put]) (I1 (kc.out _ _ hS.ro).2.1 (kc.out _ _ hS.ro).2.2.1) fun e w' ⟨x_, he_, hx_, hb_⟩ => ⟨x_, he_, hK _ _ ?_⟩; clear hK; rw [<- HRB.out] at hx_; subst hx_; replace hS := hS.ext hb_; clear hb_ he_; (try simp only [Act.put, List.setIfInBounds_toArray, List.set_cons_zero, List.set_cons_succ]))
      | ((with_reducible refine qM ?_); (first | refine qS hS ?_ | refine qT hS ?_); clear hS; intro w_ hS; (try simp only [Act.put, Act.eval, zz, Value.cells] at hS))
      | ((with_reducible refine qK ?_); refine qL hS Tryz.underlying58 ?_))
     rw [HN2.out]
     go_ret
     exact AK.mk rfl hS.below
   ·obtain rfl : l.length = k := by omega
    have HE := Lib.hid (rulesB_yes HL.out HZ.out)
    go_wp2_with (first | ((with_reducible refine qB ?_); refine qc ?_ ?_ <;> intro h_ <;> go_prune))
    rw [HE.out]
    go_ret
    exact AK.mk rfl hS.below
 ·have HE : Hid (DK l t = false) := Lib.hid (by unfold DK; simp [hlen])
  have hne : ¬ ((l.length : Int) = (t.length : Int)) := by omega
  clear hlen
  go_enter Tryz.func90, Tryz.ntmps90
  go_wp2_with (first | ((with_reducible refine qB ?_); refine qc ?_ ?_ <;> intro h_ <;> go_prune))
  rw [HE.out]
  go_ret
  exact AK.mk rfl hS.below
theorem sequal_same {w0 : World} {D E : Nat -> Prop} {u v : Value} {p : Aw} {L : List (Nat × Nat)} (hl : p.links = some L) (hlen : L.length <= 1000000) (hu : Bh w0 D u p) (hv : Bh w0 E v p) : Calls Tryz.prog 46 #[u, v] w0 (AK (fun x _ => x = .bool true) w0) := by
 obtain ⟨R, lk, st, rl, nl, gl⟩ := p
 dsimp only at hl
 subst hl
 obtain ⟨lp, s, rv, nv, gv, rfl, h1, h2, h3, h4, h5⟩ := hu
 obtain ⟨lp', s', rv', nv', gv', rfl, h1', h2', h3', h4', h5'⟩ := hv
 dsimp only at h1 h2 h3 h4 h5 h1' h2' h3' h4' h5'
 obtain ⟨q, o, rfl, -⟩ := id h1
 obtain ⟨q', o', rfl, -⟩ := id h1'
 obtain ⟨Cs, ns, cs, rfl⟩ := h2.shape
 obtain ⟨Cs', ns', cs', rfl⟩ := h2'.shape
 obtain ⟨Ar, cr, rfl, _, _⟩ := h3.shape
 obtain ⟨Ar', cr', rfl, _, _⟩ := h3'.shape
 obtain ⟨An, cn, rfl⟩ := BF h4
 obtain ⟨An', cn', rfl⟩ := BF h4'
 obtain ⟨Ag, cg, rfl⟩ := BF h5
 obtain ⟨Ag', cg', rfl⟩ := BF h5'
 have tr : ∀ {K : (Nat -> Prop) -> World -> Prop} {D : Nat -> Prop}, AB K -> K D w0 -> K (fun _ => True) w0 := fun hs h => hs _ _ _ _ h (Nat.le_refl _) (fun _ _ _ _ h => h) fun _ _ _ _ => trivial
 obtain ⟨K, k1, k2, k3, k4, k5, j1, j2, j3, j4, j5, hS⟩ : ∃ K : (Nat -> Prop) -> World -> Prop, (∀ D w, K D w -> Ge w D (.pointer (some ⟨q, 0, none⟩)) L) /\ (∀ D w, K D w -> A7 w D (.agg #[.slice Cs ns cs]) st) /\ (∀ D w, K D w -> AZ w D (.slice Ar rl.length cr) rl) /\ (∀ D w, K D w -> Af w D (.slice An nl.length cn) nl) /\ (∀ D w, K D w -> Af w D (.slice Ag gl.length cg) gl) /\ (∀ D w, K D w -> Ge w D (.pointer (some ⟨q', 0, none⟩)) L) /\ (∀ D w, K D w -> A7 w D (.agg #[.slice Cs' ns' cs']) st) /\ (∀ D w, K D w -> AZ w D (.slice Ar' rl.length cr') rl) /\ (∀ D w, K D w -> Af w D (.slice An' nl.length cn') nl) /\ (∀ D w, K D w -> Af w D (.slice Ag' gl.length cg') gl) /\ St w0 w0 [] K :=
  ⟨fun D w => ((Ge w D (.pointer (some ⟨q, 0, none⟩)) L /\ A7 w D (.agg #[.slice Cs ns cs]) st) /\ (AZ w D (.slice Ar rl.length cr) rl /\ Af w D (.slice An nl.length cn) nl) /\ Af w D (.slice Ag gl.length cg) gl) /\ ((Ge w D (.pointer (some ⟨q', 0, none⟩)) L /\ A7 w D (.agg #[.slice Cs' ns' cs']) st) /\ (AZ w D (.slice Ar' rl.length cr') rl /\ Af w D (.slice An' nl.length cn') nl) /\ Af w D (.slice Ag' gl.length cg') gl),
   fun _ _ h => h.1.1.1, fun _ _ h => h.1.1.2, fun _ _ h => h.1.2.1.1, fun _ _ h => h.1.2.1.2, fun _ _ h => h.1.2.2, fun _ _ h => h.2.1.1, fun _ _ h => h.2.1.2, fun _ _ h => h.2.2.1.1, fun _ _ h => h.2.2.1.2, fun _ _ h => h.2.2.2,
   St.start (D := fun _ => True) (((Bp.and A5).and ((AM.and Ax).and Ax)).and ((Bp.and A5).and ((AM.and Ax).and Ax))) ⟨⟨⟨tr Bp h1, tr A5 h2⟩, ⟨tr AM h3, tr Ax h4⟩, tr Ax h5⟩, ⟨tr Bp h1', tr A5 h2'⟩, ⟨tr AM h3', tr Ax h4'⟩, tr Ax h5'⟩⟩
 clear h1 h2 h3 h4 h5 h1' h2' h3' h4' h5' tr
 have HB := Lib.hid hlen
 clear hlen
 go_enter Tryz.func46, Tryz.ntmps46
 go_wp2_with (first
  | ((with_reducible refine qA 2 ?_); refine AA hS rfl _ _ rfl (.agg #[.int .i64 R, .pointer (some ⟨q, 0, none⟩), .slice Cs ns cs, .slice Ar rl.length cr, .slice An nl.length cn, .slice Ag gl.length cg]) _ rfl rfl ?_; clear hS; intro g2 w_ hS; (try simp only [Act.put, Act.eval, zz, Value.cells] at hS))
  | ((with_reducible refine qA 3 ?_); refine AA hS rfl _ _ rfl (.agg #[.int .i64 R, .pointer (some ⟨q', 0, none⟩), .slice Cs' ns' cs', .slice Ar' rl.length cr', .slice An' nl.length cn', .slice Ag' gl.length cg']) _ rfl rfl ?_; clear hS; intro g3 w_ hS; (try simp only [Act.put, Act.eval, zz, Value.cells] at hS))
  | ((with_reducible refine qA 10 ?_); refine st_eql rfl _ _ _ _ rfl _ _ _ rfl rfl (fun h_ => ?_) (fun h_ => absurd rfl h_))
  | (go_at_call 89; refine (hequal_any (k1 _ _ hS.ro) (j1 _ _ hS.ro) HB.out HB.out).mono ?_; rw [show decide (L = L) = true from decide_eq_true rfl]; rintro r_ w_ ⟨_, rfl, rfl, hb_⟩; replace hS := hS.ext hb_; clear hb_)
  | (go_at_call 14; refine (CJ _ _ st st _ _ _ (k2 _ _ hS.ro) (j2 _ _ hS.ro)).mono ?_; rw [show (st == st) = true from beq_self_eq_true st]; rintro r_ w_ ⟨_, rfl, rfl, hb_⟩; replace hS := hS.ext hb_; clear hb_)
  | (go_at_call 90; refine (eqrules_any (k3 _ _ hS.ro) (j3 _ _ hS.ro)).mono ?_; rw [rulesB_self]; rintro r_ w_ ⟨_, rfl, rfl, hb_⟩; replace hS := hS.ext hb_; clear hb_)
  | ((with_reducible show Calls _ _ #[.slice An nl.length cn, _, _] _ _); go_at_call 91; refine (GX _ _ nl nl _ _ _ (k4 _ _ hS.ro) (j4 _ _ hS.ro)).mono ?_; rw [show (nl == nl) = true from beq_self_eq_true nl]; rintro r_ w_ ⟨_, rfl, rfl, hb_⟩; replace hS := hS.ext hb_; clear hb_)
  | ((with_reducible show Calls _ _ #[.slice Ag gl.length cg, _, _] _ _); go_at_call 91; refine (GX _ _ gl gl _ _ _ (k5 _ _ hS.ro) (j5 _ _ hS.ro)).mono ?_; rw [show (gl == gl) = true from beq_self_eq_true gl]; rintro r_ w_ ⟨_, rfl, rfl, hb_⟩; replace hS := hS.ext hb_; clear hb_)
  | ((with_reducible refine qk 27 ?_); first | (refine A9 hS 0 rfl _ _ rfl _ _ rfl _ _ rfl _ (by first | rfl | assumption) Tryz.underlying27 rfl (by kernel_rfl) ?_) | (refine A9 hS 1 rfl _ _ rfl _ _ rfl _ _ rfl _ (by first | rfl | assumption) Tryz.underlying27 rfl (by kernel_rfl) ?_) | (refine A9 hS 2 rfl _ _ rfl _ _ rfl _ _ rfl _ (by first | rfl | assumption) Tryz.underlying27 rfl (by kernel_rfl) ?_) | (refine A9 hS 3 rfl _ _ rfl _ _ rfl _ _ rfl _ (by first | rfl | assumption) Tryz.underlying27 rfl (by kernel_rfl) ?_) | (refine A9 hS 4 rfl _ _ rfl _ _ rfl _ _ rfl _ (by first | rfl | assumption) Tryz.underlying27 rfl (by kernel_rfl) ?_) | (refine A9 hS 5 rfl _ _ rfl _ _ rfl _ _ rfl _ (by first | rfl | assumption) Tryz.underlying27 rfl (by kernel_rfl) ?_))
  | ((with_reducible refine qK ?_); refine qC hS ?_))
 go_ret
 exact AK.mk rfl hS.below
end
section
open Go.RowKit
set_option exponentiation.threshold 5000
theorem Ee.sub {L : List (Nat × Nat)} {p : Aw} {T : Nat} (h : Ee L p T) : Cd (relM L p) T := fun i hi => by
 rw [relM, B5] at hi; exact hi.2 T h
theorem rel_sub {L : List (Nat × Nat)} {p : Aw} {N : Nat} (hN : N < 2 ^ 64) (h : ∀ T, Ee L p T -> Cd N T) : Cd N (relM L p) := fun i hi => by
 rw [relM, B5]
 refine ⟨?_, fun T hT => h T hT i hi⟩
 rcases Nat.lt_or_ge i 64 with h1 | h1
 ·exact h1
 ·rw [Nat.testBit_lt_two_pow (Nat.lt_of_lt_of_le hN (Nat.pow_le_pow_right (by decide) h1))] at hi; cases hi
theorem Du (L : List (Nat × Nat)) (p : Aw) : Ee L p (relM L p) :=
 ⟨fun c hc => rel_sub (DC _ _) fun T hT => hT.goal c hc, fun r hr h1 h2 => rel_sub (DC _ _) fun T hT => hT.rules r hr h1 (hT.sub.has h2), fun c hc h2 => rel_sub (DC _ _) fun T hT => hT.never c hc (hT.sub.meets h2)⟩
theorem clos_at {L : List (Nat × Nat)} (hH : EK L) {s r : Nat} (h1 : 1 <= r) (h2 : r < 64) : (closM L s).testBit r = true ↔ ∃ i, s.testBit i = true /\ (senM L r).testBit i = true := by
 rw [En]
 constructor
 ·rintro ⟨i, h3, h4, h5, h6⟩
  refine ⟨i, h5, ?_⟩
  rw [Fa hH.inr]
  rw [junM, B5] at h6
  exact h6.2.imp Eq.symm id
 ·rintro ⟨i, h3, h4⟩
  rw [Fa hH.inr] at h4
  have hi : 1 <= i /\ i < 64 := by
   rcases h4 with rfl | h4
   ·exact ⟨h1, h2⟩
   ·have := tc_role hH h4; omega
  refine ⟨i, hi.2, hi.1, h3, ?_⟩
  rw [junM, B5]
  exact ⟨h2, h4.imp Eq.symm id⟩
theorem clos_none {L : List (Nat × Nat)} (hH : EK L) {s r : Nat} (h : ¬ (1 <= r /\ r < 64)) : (closM L s).testBit r = false := by
 cases e : (closM L s).testBit r with
 | false => rfl
 | true =>
  obtain ⟨i, h3, h4, h5, h6⟩ := En.1 e
  rw [junM, B5] at h6
  rcases h6.2 with rfl | h7
  ·exact absurd ⟨h4, h3⟩ h
  ·have := tc_role hH h7; omega
theorem holds_agree {L : List (Nat × Nat)} (hH : EK L) {S s t : Nat} (hst : ∀ i, S.testBit i = true -> (s.testBit i = true ↔ t.testBit i = true)) {z : Nat × Nat} (hz : Cd (depC L z) S) : BZ z (closM L s) = BZ z (closM L t) := by
 have key : ∀ m : Nat, (∀ i, m.testBit i = true -> (z.1 ||| z.2).testBit i = true) -> m &&& closM L s = m &&& closM L t := fun m hm => B3 fun r => by
  rw [Nat.testBit_and, Nat.testBit_and, Bool.and_eq_true, Bool.and_eq_true]
  refine and_congr_right fun hr => ?_
  by_cases hr2 : 1 <= r /\ r < 64
  ·rw [clos_at hH hr2.1 hr2.2, clos_at hH hr2.1 hr2.2]
   have hs : ∀ i, (senM L r).testBit i = true -> S.testBit i = true := fun i hi => hz i ((tb_dep hH.inr).2 ⟨r, hr2.1, hr2.2, hm r hr, hi⟩)
   exact exists_congr fun i => ⟨fun h => ⟨(hst i (hs i h.2)).1 h.1, h.2⟩, fun h => ⟨(hst i (hs i h.2)).2 h.1, h.2⟩⟩
  ·rw [clos_none hH hr2, clos_none hH hr2]
 unfold BZ
 rw [key z.1 fun i h => CV.2 (.inl h), key z.2 fun i h => CV.2 (.inr h)]
theorem keptN {p : Aw} {L : List (Nat × Nat)} : ∀ z ∈ keepC L (relM L p) p.never, Cd (depC L z) (relM L p) := fun z hz => by
 obtain ⟨h1, h2⟩ := List.mem_filter.1 hz
 exact (Du L p).never z h1 h2
end
section
open Go.RowKit
set_option exponentiation.threshold 5000
theorem ofE' {p : Aw} {L : List (Nat × Nat)} {R : Nat} (h : Cu p L R) : ofP p = ⟨p.roles, p.links, p.start &&& relM L p, BB (relM L p) p.rules, keepC L (relM L p) p.never, p.goal⟩ := by
 unfold ofP; rw [if_pos h.check, h.links]
theorem Cu.slice {p : Aw} {L : List (Nat × Nat)} {R : Nat} (h : Cu p L R) : Cu (ofP p) L R := by
 rw [ofE' h]
 refine ⟨h.links, h.roles, h.r2, h.r5, h.hok, h.inr, h.len, ?_, Nat.le_trans (List.length_filter_le _ _) h.rlen, fun z hz => h.rules z (List.mem_filter.1 hz).1, Nat.le_trans (List.length_filter_le _ _) h.nlen, fun z hz => ?_, h.glen, h.gpos, h.goal⟩
 ·show p.start &&& relM L p &&& BR R = p.start &&& relM L p
  rw [Nat.and_assoc, Nat.and_comm (relM L p), <- Nat.and_assoc, h.start]
 ·have hk := h.never z (List.mem_filter.1 hz).1
  refine ⟨hk.1, ?_⟩
  rw [<- hk.2]
  exact (holds_agree h.hok (S := relM L p) (fun i hi => by show p.start.testBit i = true ↔ (p.start &&& relM L p).testBit i = true; rw [Nat.testBit_and, hi]; simp) (keptN z hz)).symm
theorem rel_slice {p : Aw} {L : List (Nat × Nat)} {R : Nat} (h : Cu p L R) : relM L (ofP p) = relM L p := by
 have h1 : Ee L (ofP p) (relM L p) := by
  rw [ofE' h]
  exact ⟨(Du L p).goal, fun r hr => (Du L p).rules r (List.mem_filter.1 hr).1, fun c hc => (Du L p).never c (List.mem_filter.1 hc).1⟩
 refine Cd.anti h1.sub ?_
 have h2 := Du L (ofP p)
 have hs : Cd (relM L (ofP p)) (relM L p) := h1.sub
 have h3 : Ee L p (relM L (ofP p)) := by
  refine ⟨fun c hc => h2.goal c (by rw [ofE' h]; exact hc), fun r hr a b => h2.rules r (by rw [ofE' h]; exact List.mem_filter.2 ⟨hr, hs.has b⟩) a b, fun c hc a => h2.never c (by rw [ofE' h]; exact List.mem_filter.2 ⟨hc, hs.meets a⟩) a⟩
 exact h3.sub
theorem of_slice {p : Aw} {L : List (Nat × Nat)} {R : Nat} (h : Cu p L R) : ofP (ofP p) = ofP p := by
 rw [ofE' h.slice, rel_slice h]
 rw [ofE' h]
 dsimp only
 have e1 : BB (relM L p) (BB (relM L p) p.rules) = BB (relM L p) p.rules := by unfold BB; rw [List.filter_filter]; simp
 have e2 : keepC L (relM L p) (keepC L (relM L p) p.never) = keepC L (relM L p) p.never := by unfold keepC; rw [List.filter_filter]; simp
 rw [e1, e2, Nat.and_assoc, Nat.and_self]
theorem GC {S : Nat} {l : List AL} : ∀ j, j <= l.length -> (BV S l j).length = (BB S (l.take j)).length
 | 0, _ => by simp [BV, BB]
 | j + 1, hj => by
  have hg := Bb Av (show j < l.length by omega)
  rw [Fg hg, Ff hg]
  have ih := GC (S := S) (l := l) j (by omega)
  split <;> simp [ih]
theorem kept_len {p : Aw} {L : List (Nat × Nat)} {R : Nat} (h : Cu p L R) : (ofKept p).length = (ofP p).rules.length := by
 have e : ofKept p = BV (relM L p) p.rules p.rules.length := by unfold ofKept; rw [if_pos h.check, h.links]
 rw [e, ofE' h, GC _ (Nat.le_refl _), List.take_length]
theorem kept_slice {p : Aw} {L : List (Nat × Nat)} {R : Nat} (h : Cu p L R) : (ofKept (ofP p)).length = (ofKept p).length := by
 rw [kept_len h.slice, kept_len h, of_slice h]
end
section
open Go.RowKit
attribute [local go_sem ↓] Go.wp_at_zero Go.wp_at_succ
set_option maxRecDepth 20000
set_option exponentiation.threshold 5000
set_option maxHeartbeats 4000000 in
theorem rof_any {w0 w : World} {F : List Ac} {K : (Nat -> Prop) -> World -> Prop} {v : Value} {p : Aw} {L : List (Nat × Nat)} {R : Nat} (hM : Cu p L R) (hS : St w0 w F K) (kp : ∀ D w, K D w -> C0 w D v p) :
  Calls Tryz.prog 40 #[v] w fun e w' => ∃ u k, e = .returned (.tuple #[u, k]) /\ St w0 w' F fun D w => (K D w /\ C0 w D u (ofP p)) /\ Sl w D 1 k (ofKept p).length (AQ (ofKept p)) := by
 have hofe := ofE' hM
 have hofk : ofKept p = BV (relM L p) p.rules p.rules.length := by unfold ofKept; rw [if_pos hM.check, hM.links]
 have hst : p.start < Ba := hM.fits.start
 obtain ⟨S, hSS⟩ : ∃ S, S = relM L p := ⟨_, rfl⟩
 have hS64 : S < Ba := by rw [hSS]; exact relM_lt L p
 have HRel := Lib.hid (fun D w (h : K D w) => rrel_any (kp D w h) hM)
 rw [<- hSS] at HRel hofe hofk
 clear hSS
 have HM := Lib.hid hM
 have HDep := Lib.hid (fun D w (h : K D w) (z : Nat × Nat) (hz : z ∈ p.never) => (show Calls Tryz.prog 58 #[v, .agg #[.int .u64 (z.1 : Nat), .int .u64 (z.2 : Nat)]] w (AK (fun x _ => x = .int .u64 (depC L z : Nat)) w) from by
  obtain ⟨R', lk, st, rl, nl, gl⟩ := p
  obtain rfl : lk = some L := HM.out.links
  obtain rfl : R' = (R : Int) := HM.out.roles
  have hk := (HM.out.never z hz).1
  exact rdep_any (y := z.1) (n := z.2) (kp D w h) (by have := HM.out.r5; omega) HM.out.hok (by have := HM.out.len; omega) (by have := hk.2.2.2; unfold Ba; omega) (by have := hk.2.2.2; unfold Ba; omega) (or_le hk.1 hk.2.1)))
 obtain ⟨R', lk, st, rl, nl, gl⟩ := p
 obtain rfl : lk = some L := hM.links
 obtain rfl : R' = (R : Int) := hM.roles
 dsimp only at hofe hofk hst
 have HOF := Lib.hid hofe
 have HOK' := Lib.hid hofk
 clear hofe hofk
 obtain ⟨Al, cl, Ar, cr, An, cn, Ag, cg, rfl⟩ := Er (kp _ _ hS.ro)
 have kl : ∀ D w, K D w -> Sl w D 2 (.slice Al L.length cl) L.length (Aa L) := fun D w h => (D8 (kp D w h)).1
 have kr : ∀ D w, K D w -> Sl w D 5 (.slice Ar rl.length cr) rl.length (AU rl) := fun D w h => (D8 (kp D w h)).2.1
 have kn : ∀ D w, K D w -> Sl w D 2 (.slice An nl.length cn) nl.length (B0 nl) := fun D w h => (D8 (kp D w h)).2.2.1
 have kg : ∀ D w, K D w -> Sl w D 2 (.slice Ag gl.length cg) gl.length (B0 gl) := fun D w h => (D8 (kp D w h)).2.2.2
 have hg3 : gl.length <= 3 := hM.glen
 have hn3 : nl.length <= 3 := hM.nlen
 have hr6 : rl.length <= 6 := hM.rlen
 have hL25 := hM.len
 have KSt := Lib.hid hS.stable
 have hDT : ∀ z, depC L z < Ba := fun z => by rw [Bx]; exact DC _ _
 have HDT := Lib.hid hDT
 clear hM hDT
 go_enter Tryz.func40, Tryz.ntmps40
 go_wp2_with (first
  | ((with_reducible refine qA 1 ?_); refine AA hS rfl _ _ rfl (.agg #[.int .i64 (R : Nat), .slice Al L.length cl, .int .u64 (st : Nat), .slice Ar rl.length cr, .slice An nl.length cn, .slice Ag gl.length cg]) _ rfl rfl ?_; clear hS; intro g1 w_ hS; (try simp only [Act.put, Act.eval, zz, Value.cells] at hS))
  | ((with_reducible refine qA 2 ?_); refine qa hS #[.int .i64 0, .slice none 0 0, .int .u64 0, .slice none 0 0, .slice none 0 0, .slice none 0 0] ?_; clear hS; intro g2 w_ hS)
  | ((with_reducible refine qA 5 ?_); refine qa hS #[.int .i64 0, .slice none 0 0, .int .u64 0, .slice none 0 0, .slice none 0 0, .slice none 0 0] ?_; clear hS; intro g5 w_ hS)
  | ((with_reducible refine qA 11 ?_); refine BigFrame.wpList_want rfl fun _ hK => B9 rfl rfl (hS.box 1 rfl) Tryz.underlying37 rfl (by kernel_rfl) (hK _ _ ?_))
  | (go_at_call 16; refine (HRel.out _ _ hS.ro).mono ?_; rintro r_ w_ ⟨_, rfl, rfl, hb_⟩; replace hS := hS.ext hb_; clear hb_)
  | ((with_reducible refine qA 20 ?_); refine FB rfl _ _ _ _ rfl _ _ rfl rfl hst hS64 ?_)
  | ((with_reducible refine qA 23 ?_); refine AF rfl _ _ rfl #[.int .i64 (R : Nat), .slice Al L.length cl, .int .u64 ((st &&& S : Nat) : Int), .slice none 0 0, .slice none 0 0, .slice Ag gl.length cg] (by kernel_rfl) ?_; (try simp only [Act.put, List.setIfInBounds_toArray, List.set_cons_zero, List.set_cons_succ]))
  | ((with_reducible refine qK ?_); refine qC hS ?_)
  | ((with_reducible refine qM ?_); (first | refine qS hS ?_ | refine qT hS ?_); clear hS; intro w_ hS; (try simp only [Act.put, Act.eval, zz, Value.cells] at hS)))
 replace hS := (hS.nil 3 1).nil 104 5
 go_loopw [6, 27] (fun kv i wr => ∃ (j : Nat) (iv rv : Value), i = .int .i64 (j : Nat) /\ iv = kv /\ j <= rl.length /\ St w0 wr (.own rv 104 5 (BB S (rl.take j)).length (AU (BB S (rl.take j))) :: .own iv 3 1 (BV S rl j).length (AQ (BV S rl j)) :: .box g5 37 #[.int .i64 (R : Nat), .slice Al L.length cl, .int .u64 ((st &&& S : Nat) : Int), rv, .slice none 0 0, .slice Ag gl.length cg] :: .box g2 37 #[.int .i64 0, .slice none 0 0, .int .u64 0, .slice none 0 0, .slice none 0 0, .slice none 0 0] :: .box g1 37 #[.int .i64 (R : Nat), .slice Al L.length cl, .int .u64 (st : Nat), .slice Ar rl.length cr, .slice An nl.length cn, .slice Ag gl.length cg] :: F) K) (fun _ i _ => rl.length - (intOf i).toNat)
 case atStart => exact ⟨0, _, _, rfl, rfl, by omega, by simpa [BB, BV, AU, AQ] using hS⟩
 case round =>
  clear hS
  obtain ⟨j, iv, rv, rfl, rfl, hj, hS⟩ := hrel
  obtain ⟨Arv, crv, rfl, _, _⟩ := Bf (hS.own 0 rfl)
  by_cases hlj : j < rl.length
  ·obtain ⟨b, o, rfl, c0, c1, c2, c3, c4⟩ := rr_at (kr _ _ hS.ro) hlj
   have HGj := Lib.hid (Bb Av hlj)
   have HZ := Lib.hid (HM.out.rules _ (List.mem_of_getElem? HGj.out))
   have HK1 := Lib.hid (Ff (S := S) HGj.out)
   have HK2 := Lib.hid (Fg (S := S) HGj.out)
   have HL1 : Hid ((BB S (rl.take j)).length <= 10) := Lib.hid (Nat.le_trans (List.length_filter_le _ _) (by rw [List.length_take]; omega))
   have HL2 : Hid ((BV S rl j).length <= 10) := Lib.hid (by rw [GC _ hj]; exact HL1.out)
   generalize rl.getD j Av = z at *
   obtain ⟨zv, y, n, rt, ro⟩ := z
   dsimp only at c0 c1 c2 c3 c4 HK1 HK2
   obtain ⟨t, rfl, ht⟩ : ∃ t : Nat, rt = (t : Int) /\ t < 64 := ⟨rt.toNat, by have h := HZ.out.1; have h5 := HM.out.r5; dsimp only at h h5; omega, by have h := HZ.out.1; have h5 := HM.out.r5; dsimp only at h h5; omega⟩
   rw [FY] at HK1 HK2
   have hl1 := HL1.out
   have hl2 := HL2.out
   generalize BB S (rl.take j) = KR at *
   generalize BV S rl j = KN at *
   cases hbit : S.testBit t with
   | false =>
    have HE1 := Lib.hid (HK1.out.trans (if_neg (by rw [hbit]; exact Bool.false_ne_true)))
    have HE2 := Lib.hid (HK2.out.trans (if_neg (by rw [hbit]; exact Bool.false_ne_true)))
    clear HK1 HK2
    go_wp2_with (first
     | ((with_reducible refine qA 31 ?_); refine BigFrame.wpList_want rfl fun _ hK => AE (cs := [.bool zv, .int .u64 (y : Nat), .int .u64 (n : Nat), .int .i64 (t : Nat), .int .i64 ro]) rfl rfl (Df c0 c1 c2 c3 c4) Tryz.underlying104 rfl (by kernel_rfl) (hK _ _ ?_))
     | ((with_reducible refine qb .shr ?_); refine CN rfl _ _ _ _ rfl _ _ rfl rfl (by omega) ?_)
     | ((with_reducible refine qb .rem ?_); refine CO rfl _ _ _ _ rfl _ rfl rfl ?_)
     | ((with_reducible refine qA 37 ?_); refine Ch rfl _ _ _ _ rfl _ _ rfl rfl hbit ?_)
     | ((with_reducible refine qA 8 ?_); refine qa hS #[.bool false, .int .u64 0, .int .u64 0, .int .i64 0, .int .i64 0] ?_; clear hS; intro g8 w_ hS)
     | ((with_reducible refine qB ?_); refine qc ?_ ?_ <;> intro h_ <;> go_prune)
     | ((with_reducible refine qM ?_); (first | refine qS hS ?_ | refine qT hS ?_); clear hS; intro w_ hS; (try simp only [Act.put, Act.eval, zz, Value.cells] at hS))
     | ((with_reducible refine qK ?_); refine qC hS ?_))
    refine ⟨⟨j + 1, iv, .slice Arv KR.length crv, by go_num, rfl, hlj, ?_⟩, by simp [intOf]; omega⟩
    rw [HE1.out, HE2.out]
    exact hS.sub (List.sublist_cons_self _ _)
   | true =>
    have HE1 := Lib.hid (HK1.out.trans (if_pos hbit))
    have HE2 := Lib.hid (HK2.out.trans (if_pos hbit))
    clear HK1 HK2
    go_wp2_with (first
     | ((with_reducible refine qA 31 ?_); refine BigFrame.wpList_want rfl fun _ hK => AE (cs := [.bool zv, .int .u64 (y : Nat), .int .u64 (n : Nat), .int .i64 (t : Nat), .int .i64 ro]) rfl rfl (Df c0 c1 c2 c3 c4) Tryz.underlying104 rfl (by kernel_rfl) (hK _ _ ?_))
     | ((with_reducible refine qb .shr ?_); refine CN rfl _ _ _ _ rfl _ _ rfl rfl (by omega) ?_)
     | ((with_reducible refine qb .rem ?_); refine CO rfl _ _ _ _ rfl _ rfl rfl ?_)
     | ((with_reducible refine qA 37 ?_); refine Ch rfl _ _ _ _ rfl _ _ rfl rfl hbit ?_)
     | ((with_reducible refine qA 8 ?_); refine qa hS #[.bool false, .int .u64 0, .int .u64 0, .int .i64 0, .int .i64 0] ?_; clear hS; intro g8 w_ hS)
     | ((with_reducible refine qA 41 ?_); refine Co hS 1 rfl rfl _ _ _ _ rfl rfl Gn (.slice Arv KR.length crv) KR.length (AU KR) (.agg #[.bool zv, .int .u64 (y : Nat), .int .u64 (n : Nat), .int .i64 (t : Nat), .int .i64 ro]) #[.bool zv, .int .u64 (y : Nat), .int .u64 (n : Nat), .int .i64 (t : Nat), .int .i64 ro] rfl (by kernel_rfl) rfl rfl rfl rfl (by intro u hu; simp at hu; rcases hu with rfl | rfl | rfl | rfl | rfl <;> rfl) (by omega) (by omega) ?_; clear hS; intro z_ v' w_ hS; (try simp only [Act.put, Act.eval, zz, Value.cells] at hS); obtain ⟨A', c', rfl, _, _⟩ := Bf (hS.own 1 rfl))
     | ((with_reducible refine qA 46 ?_); refine Co hS 2 rfl rfl _ _ _ _ rfl rfl Di iv KN.length (AQ KN) (.int .i64 (j : Nat)) #[.int .i64 (j : Nat)] rfl (by kernel_rfl) rfl rfl rfl rfl (by intro u hu; simp at hu; subst hu; rfl) (by omega) (by omega) ?_; clear hS; intro z_ v' w_ hS; (try simp only [Act.put, Act.eval, zz, Value.cells] at hS))
     | ((with_reducible refine qB ?_); refine qc ?_ ?_ <;> intro h_ <;> go_prune)
     | ((with_reducible refine qK ?_); refine qL hS Tryz.underlying104 ?_)
     | ((with_reducible refine qM ?_); (first | refine qS hS ?_ | refine qT hS ?_); clear hS; intro w_ hS; (try simp only [Act.put, Act.eval, zz, Value.cells] at hS))
     | ((with_reducible refine qK ?_); refine qC hS ?_))
    refine ⟨⟨j + 1, _, .slice A' (KR.length + 1) c', by go_num, rfl, hlj, ?_⟩, by simp [intOf]; omega⟩
    rw [HE1.out, HE2.out, E0, show AQ (KN ++ [(j : Int)]) = AQ KN ++ [.int .i64 (j : Nat)] by simp [AQ], List.length_append, List.length_append]
    exact hS.sub (List.sublist_cons_self _ _)
  ·obtain rfl : rl.length = j := by omega
   rw [List.take_length] at hS
   go_wp2_with (first | ((with_reducible refine qB ?_); refine qc ?_ ?_ <;> intro h_ <;> go_prune) | ((with_reducible refine qK ?_); refine qC hS ?_))
   obtain ⟨KR, hKR⟩ : ∃ KR, KR = BB S rl := ⟨_, rfl⟩
   obtain ⟨KN, hKN⟩ : ∃ KN, KN = BV S rl rl.length := ⟨_, rfl⟩
   have HKR := Lib.hid hKR
   have HKN := Lib.hid hKN
   rw [<- hKR, <- hKN] at hS
   clear hKR hKN
   obtain ⟨KB, kb, kB1, hS2⟩ : ∃ KB : (Nat -> Prop) -> World -> Prop, (∀ D w, KB D w -> K D w) /\ Hid (∀ D w, KB D w -> Sl w D 5 (.slice Arv KR.length crv) KR.length (AU KR)) /\ St w0 wr (.own iv 3 1 KN.length (AQ KN) :: .box g5 37 #[.int .i64 (R : Nat), .slice Al L.length cl, .int .u64 ((st &&& S : Nat) : Int), .slice Arv KR.length crv, .slice none 0 0, .slice Ag gl.length cg] :: .box g2 37 #[.int .i64 0, .slice none 0 0, .int .u64 0, .slice none 0 0, .slice none 0 0, .slice none 0 0] :: .box g1 37 #[.int .i64 (R : Nat), .slice Al L.length cl, .int .u64 (st : Nat), .slice Ar rl.length cr, .slice An nl.length cn, .slice Ag gl.length cg] :: F) KB := ⟨_, fun _ _ h => h.1, Lib.hid fun _ _ h => h.2, hS.freeze 0 (by decide) rfl⟩
   clear hS
   have hS := hS2.nil 81 2
   clear hS2
   have kn2 : ∀ D w, KB D w -> Sl w D 2 (.slice An nl.length cn) nl.length (B0 nl) := fun D w h => kn D w (kb D w h)
   go_loopw [52] (fun i wr => ∃ (j : Nat) (nv : Value), i = .int .i64 (j : Nat) /\ j <= nl.length /\ St w0 wr (.own nv 81 2 (keepC L S (nl.take j)).length (B0 (keepC L S (nl.take j))) :: .own iv 3 1 KN.length (AQ KN) :: .box g5 37 #[.int .i64 (R : Nat), .slice Al L.length cl, .int .u64 ((st &&& S : Nat) : Int), .slice Arv KR.length crv, nv, .slice Ag gl.length cg] :: .box g2 37 #[.int .i64 0, .slice none 0 0, .int .u64 0, .slice none 0 0, .slice none 0 0, .slice none 0 0] :: .box g1 37 #[.int .i64 (R : Nat), .slice Al L.length cl, .int .u64 (st : Nat), .slice Ar rl.length cr, .slice An nl.length cn, .slice Ag gl.length cg] :: F) KB) (fun i _ => nl.length - (intOf i).toNat)
   case atStart => exact ⟨0, _, rfl, by omega, by simpa [keepC, B0] using hS⟩
   case round =>
    clear hS
    obtain ⟨j, nv, rfl, hj, hS⟩ := hrel
    obtain ⟨Anv, cnv, rfl, _, _⟩ := Bf (hS.own 0 rfl)
    by_cases hlj : j < nl.length
    ·obtain ⟨f0, f1⟩ := DS nl j hlj
     have HGj := Lib.hid (Bb (0, 0) hlj)
     have HK1 := Lib.hid (Ig (L := L) (S := S) HGj.out)
     have HC := Lib.hid (fun D w h => HDep.out D w h _ (List.mem_of_getElem? HGj.out))
     have HL1 : Hid ((keepC L S (nl.take j)).length <= 10) := Lib.hid (Nat.le_trans (List.length_filter_le _ _) (by rw [List.length_take]; omega))
     generalize nl.getD j (0, 0) = z at *
     obtain ⟨y, n⟩ := z
     dsimp only at f0 f1 HC
     have hd := HDT.out (y, n)
     have hl1 := HL1.out
     generalize keepC L S (nl.take j) = KC at *
     by_cases hmt : depC L (y, n) &&& S = 0
     ·have HE1 := Lib.hid (HK1.out.trans (if_neg (by rw [hmt]; exact Bool.false_ne_true)))
      clear HK1
      generalize depC L (y, n) = d at *
      go_wp2_with (first
       | ((with_reducible refine qA 60 ?_); refine FB rfl _ _ _ _ rfl _ _ rfl rfl hd hS64 ?_; rw [hmt])
       | ((with_reducible refine qA 56 ?_); refine BigFrame.wpList_want rfl fun _ hK => B9 rfl rfl (hS.box 5 rfl) Tryz.underlying37 rfl (by kernel_rfl) (hK _ _ ?_))
       | ((with_reducible refine qI ?_); refine qj hS Tryz.underlying35 ?_; intro b_ j_ hc0_ hc1_)
       | ((with_reducible refine qA 10 ?_); refine qa hS #[.int .u64 0, .int .u64 0] ?_; clear hS; intro g10 w_ hS)
       | ((with_reducible refine qB ?_); refine qc ?_ ?_ <;> intro h_ <;> go_prune)
       | ((with_reducible refine qM ?_); (first | refine qS hS ?_ | refine qT hS ?_); clear hS; intro w_ hS; (try simp only [Act.put, Act.eval, zz, Value.cells] at hS))
       | ((with_reducible refine qK ?_); refine qL hS Tryz.underlying81 ?_)
       | (go_at_call 58; refine (HC.out _ _ (kb _ _ hS.ro)).mono ?_; rintro r_ w_ ⟨_, rfl, rfl, hb_⟩; replace hS := hS.ext hb_; clear hb_))
      refine ⟨⟨j + 1, .slice Anv KC.length cnv, by go_num, hlj, ?_⟩, by simp [intOf]; omega⟩
      rw [HE1.out]
      exact hS.sub (List.sublist_cons_self _ _)
     ·have HE1 := Lib.hid (HK1.out.trans (if_pos (by simpa using hmt)))
      clear HK1
      generalize depC L (y, n) = d at *
      generalize hx : d &&& S = x at *
      have HX := Lib.hid hx
      clear hx
      go_wp2_with (first
       | ((with_reducible refine qA 60 ?_); refine FB rfl _ _ _ _ rfl _ _ rfl rfl hd hS64 ?_; rw [HX.out])
       | ((with_reducible refine qA 56 ?_); refine BigFrame.wpList_want rfl fun _ hK => B9 rfl rfl (hS.box 5 rfl) Tryz.underlying37 rfl (by kernel_rfl) (hK _ _ ?_))
       | ((with_reducible refine qI ?_); refine qj hS Tryz.underlying35 ?_; intro b_ j_ hc0_ hc1_)
       | ((with_reducible refine qA 10 ?_); refine qa hS #[.int .u64 0, .int .u64 0] ?_; clear hS; intro g10 w_ hS)
       | ((with_reducible refine qA 65 ?_); refine Co hS 1 rfl rfl _ _ _ _ rfl rfl ty_mkc (.slice Anv KC.length cnv) KC.length (B0 KC) (.agg #[.int .u64 (y : Nat), .int .u64 (n : Nat)]) #[.int .u64 (y : Nat), .int .u64 (n : Nat)] rfl (by kernel_rfl) rfl rfl rfl rfl (by intro u hu; simp at hu; rcases hu with rfl | rfl <;> rfl) (by omega) (by omega) ?_; clear hS; intro z_ v' w_ hS; (try simp only [Act.put, Act.eval, zz, Value.cells] at hS); obtain ⟨A', c', rfl, _, _⟩ := Bf (hS.own 1 rfl))
       | ((with_reducible refine qB ?_); refine qc ?_ ?_ <;> intro h_ <;> go_prune)
       | ((with_reducible refine qM ?_); (first | refine qS hS ?_ | refine qT hS ?_); clear hS; intro w_ hS; (try simp only [Act.put, Act.eval, zz, Value.cells] at hS))
       | ((with_reducible refine qK ?_); refine qC hS ?_)
       | ((with_reducible refine qK ?_); refine qL hS Tryz.underlying81 ?_)
       | (go_at_call 58; refine (HC.out _ _ (kb _ _ hS.ro)).mono ?_; rintro r_ w_ ⟨_, rfl, rfl, hb_⟩; replace hS := hS.ext hb_; clear hb_))
      refine ⟨⟨j + 1, .slice A' (KC.length + 1) c', by go_num, hlj, ?_⟩, by simp [intOf]; omega⟩
      rw [HE1.out, Et, List.length_append]
      exact hS.sub (List.sublist_cons_self _ _)
    ·obtain rfl : nl.length = j := by omega
     rw [List.take_length] at hS
     go_wp2_with (first
      | ((with_reducible refine qB ?_); refine qc ?_ ?_ <;> intro h_ <;> go_prune)
      | ((with_reducible refine qK ?_); refine qL hS Tryz.underlying37 ?_)
      | ((with_reducible refine qM ?_); (first | refine qS hS ?_ | refine qT hS ?_); clear hS; intro w_ hS; (try simp only [Act.put, Act.eval, zz, Value.cells] at hS)))
     have hS1 := (hS.freeze 0 (by decide) rfl).freeze 0 (by decide) rfl
     refine I6 Tryz.results40 rfl (hS.box 3 rfl) Tryz.underlying37 rfl (by kernel_rfl) rfl rfl ?_
     refine ⟨_, _, rfl, (hS1.sub (F' := F) (((List.sublist_cons_self _ _).trans (List.sublist_cons_self _ _)).trans (List.sublist_cons_self _ _))).mono ((KSt.out.and CM).and (Aj (by decide))) fun D w h => ?_⟩
     rw [HOF.out, HOK'.out]
     refine ⟨⟨kb _ _ h.1.1, _, _, _, _, L, rfl, rfl, kl _ _ (kb _ _ h.1.1), ?_, h.1.2, kg _ _ (kb _ _ h.1.1)⟩, by rw [<- HKN.out]; exact h.2⟩
     show Sl w D 5 _ (BB S rl).length (AU (BB S rl))
     rw [<- HKR.out]
     exact kB1.out _ _ h.1.1
end
section
open Go.RowKit
attribute [local go_sem ↓] Go.wp_at_zero Go.wp_at_succ
set_option maxRecDepth 20000
set_option exponentiation.threshold 5000
set_option maxHeartbeats 4000000 in
theorem same_true {w0 w : World} {F : List Ac} {K : (Nat -> Prop) -> World -> Prop} {u v : Value} {p : Aw} {L : List (Nat × Nat)} (hl : p.links = some L) (hlen : L.length <= 1000000) (hF : Fits p) (hS : St w0 w F K) (ku : ∀ D w, K D w -> Bh w D u p) (kv : ∀ D w, K D w -> C0 w D v p) (kt : ∀ D w, K D w -> Bo w) :
  Calls Tryz.prog 41 #[u, v] w fun e w' => e = .returned (.bool true) /\ St w0 w' F K := by
 obtain ⟨R, lk, st, rl, nl, gl⟩ := p
 dsimp only at hl
 subst hl
 obtain ⟨lp, s, rv, nv, gv, rfl, h1, h2, h3, h4, h5⟩ := ku _ _ hS.ro
 obtain ⟨lv', rv', nv', gv', L', rfl, hl', j1', j2', j3', j4'⟩ := kv _ _ hS.ro
 dsimp only at h1 h2 h3 h4 h5 hl' j1' j2' j3' j4'
 obtain rfl : L = L' := by injection hl'
 obtain ⟨q, o, rfl, -⟩ := id h1
 obtain ⟨Cs, ns, cs, rfl⟩ := h2.shape
 obtain ⟨Ar, cr, rfl, _, _⟩ := h3.shape
 obtain ⟨An, cn, rfl⟩ := BF h4
 obtain ⟨Ag, cg, rfl⟩ := BF h5
 obtain ⟨Al, cl, rfl, _, _⟩ := j1'.shape
 obtain ⟨Br, dr, rfl, _, _⟩ := j2'.shape
 obtain ⟨Bn, dn, rfl, _, _⟩ := Sl.shape (j3' : Sl _ _ _ _ _ _)
 obtain ⟨Bg, dg, rfl, _, _⟩ := Sl.shape (j4' : Sl _ _ _ _ _ _)
 clear h1 h2 h3 h4 h5 j1' j2' j3' j4' hl'
 have k1 : ∀ D w, K D w -> Ge w D (.pointer (some ⟨q, 0, none⟩)) L := fun D w h => (ku D w h).parts.1
 have k2 : ∀ D w, K D w -> A7 w D (.agg #[.slice Cs ns cs]) st := fun D w h => (ku D w h).parts.2.1
 have k3 : ∀ D w, K D w -> AZ w D (.slice Ar rl.length cr) rl := fun D w h => (ku D w h).parts.2.2.1
 have k4 : ∀ D w, K D w -> Af w D (.slice An nl.length cn) nl := fun D w h => (ku D w h).parts.2.2.2.1
 have k5 : ∀ D w, K D w -> Af w D (.slice Ag gl.length cg) gl := fun D w h => (ku D w h).parts.2.2.2.2
 have jall : ∀ D w, K D w -> Sl w D 2 (.slice Al L.length cl) L.length (Aa L) /\ Sl w D 5 (.slice Br rl.length dr) rl.length (AU rl) /\ BK w D (.slice Bn nl.length dn) nl /\ BK w D (.slice Bg gl.length dg) gl := fun D w h => by
  obtain ⟨a, b, c, d, L', e, e2, h1, h2, h3, h4⟩ := kv D w h
  injection e2 with e2; subst e2
  injection e with e; injection e with e; injection e with _ e; injection e with q1 e; injection e with _ e; injection e with q2 e; injection e with q3 e; injection e with q4 _
  subst q1 q2 q3 q4
  exact ⟨h1, h2, h3, h4⟩
 have j1 : ∀ D w, K D w -> Sl w D 2 (.slice Al L.length cl) L.length (Aa L) := fun D w h => (jall D w h).1
 have j2 : ∀ D w, K D w -> Sl w D 5 (.slice Br rl.length dr) rl.length (AU rl) := fun D w h => (jall D w h).2.1
 have j4 : ∀ D w, K D w -> BK w D (.slice Bn nl.length dn) nl := fun D w h => (jall D w h).2.2.1
 have j5 : ∀ D w, K D w -> BK w D (.slice Bg gl.length dg) gl := fun D w h => (jall D w h).2.2.2
 have KS := Lib.hid hS.stable
 have HB := Lib.hid hlen
 have HF := Lib.hid hF
 clear hlen hF ku kv jall
 go_enter Tryz.func41, Tryz.ntmps41
 go_wp2_with (first
  | ((with_reducible refine qA 2 ?_); refine AA hS rfl _ _ rfl (.agg #[.int .i64 R, .pointer (some ⟨q, 0, none⟩), .slice Cs ns cs, .slice Ar rl.length cr, .slice An nl.length cn, .slice Ag gl.length cg]) _ rfl rfl ?_; clear hS; intro g2 w_ hS; (try simp only [Act.put, Act.eval, zz, Value.cells] at hS))
  | ((with_reducible refine qA 3 ?_); refine AA hS rfl _ _ rfl (.agg #[.int .i64 R, .slice Al L.length cl, .int .u64 (st : Nat), .slice Br rl.length dr, .slice Bn nl.length dn, .slice Bg gl.length dg]) _ rfl rfl ?_; clear hS; intro g3 w_ hS; (try simp only [Act.put, Act.eval, zz, Value.cells] at hS)))
 refine C2 [.q g2 0, .n R, .q g3 0, .n R, .b false, .b false, .q g2 1, .q q 0, .b false, .b false, .b false, .q g2 1, .q q 0, .s (fun v w => Sl w (fun _ => True) 2 v L.length (Aa L)) fun v w w' h hb => h.ext hb, .q g3 1, .i (.slice Al L.length cl), .b true, .b false, .b false, .b false, .q g2 2, .i (.agg #[.slice Cs ns cs]), .q g3 2, .i (.int .u64 (st : Nat)), .s (fun v w => A7 w (fun _ => True) v st) fun v w w' h hb => h.ext hb, .b true, .b false, .b false, .b false, .q g2 3, .i (.slice Ar rl.length cr), .n (rl.length : Nat), .q g3 3, .i (.slice Br rl.length dr), .n (rl.length : Nat), .b false, .b false, .b false, .q g2 4, .i (.slice An nl.length cn), .q g3 4, .i (.slice Bn nl.length dn), .b true, .b false, .b false, .b false, .q g2 5, .i (.slice Ag gl.length cg), .q g3 5, .i (.slice Bg gl.length dg), .b true, .b false, .b false] ⟨uF, uC (h := fun w hW hN => (hS.ext hW).shut 1 rfl 0 rfl), uF, uC (h := fun w hW hN => (hS.ext hW).shut 0 rfl 0 rfl), uB (h := fun w hW hN => Hd (by simp)), uM, uF, uC (h := fun w hW hN => (hS.ext hW).shut 1 rfl 1 rfl), uB (h := fun w hW hN => rfl), uP, uM, uF, uC (h := fun w hW hN => (hS.ext hW).shut 1 rfl 1 rfl), ?_, uF, uC (h := fun w hW hN => (hS.ext hW).shut 0 rfl 1 rfl), ?_, uU, uP, uM, uF, ?_, uF, uC (h := fun w hW hN => (hS.ext hW).shut 0 rfl 2 rfl), ?_, ?_, uU, uP, uM, uF, uC (h := fun w hW hN => (hS.ext hW).shut 1 rfl 3 rfl), ?_, uF, uC (h := fun w hW hN => (hS.ext hW).shut 0 rfl 3 rfl), ?_, uB (h := fun w hW hN => Hd (by simp)), uP, uM, uF, uC (h := fun w hW hN => (hS.ext hW).shut 1 rfl 4 rfl), uF, uC (h := fun w hW hN => (hS.ext hW).shut 0 rfl 4 rfl), ?_, uU, uP, uM, uF, uC (h := fun w hW hN => (hS.ext hW).shut 1 rfl 5 rfl), uF, uC (h := fun w hW hN => (hS.ext hW).shut 0 rfl 5 rfl), ?_, uU, uP, trivial⟩ ?_
 ·refine uT fun b__ w hW hE K hK => ?_
  have e20 := hE 20
  exact BG rfl (by kernel_rfl) (by simp only [List.map_cons, List.map_nil, e20]) (Ea (k1 _ _ (hS.ext hW).ro) HB.out) fun e w' ⟨v, he, hs⟩ => ⟨v, he, hK v w' ((Sl.of_own (hs.own 0 rfl)).imp fun _ _ _ => trivial) hs.below⟩
 ·refine uT fun b__ w hW hE K hK => ?_
  have e21 := hE 21
  have e23 := hE 23
  exact Ah rfl (by kernel_rfl) (by simp only [List.map_cons, List.map_nil, e23]) (peq_any e21 (j1 _ _ (hS.ext hW).ro) HB.out) fun v w' h hb => hK v w' (h.trans (by rw [show decide (L = L) = true from decide_eq_true rfl])) hb
 ·refine uT fun b__ w hW hE K hK => ?_
  have e28 := hE 28
  exact C4 rfl e28 ((hS.ext hW).box 1 rfl) rfl Tryz.underlying27 (by kernel_rfl) (by kernel_rfl) (hK _ _ rfl (Below.refl _ _))
 ·refine uT fun b__ w hW hE K hK => ?_
  have e31 := hE 31
  exact Ah rfl (by kernel_rfl) (by simp only [List.map_cons, List.map_nil, e31]) (FU st HF.out.start _) fun v w' h hb => hK v w' (h.imp fun _ _ _ => trivial) hb
 ·refine uT fun b__ w hW hE K hK => ?_
  have e29 := hE 29
  have e32 := hE 32
  exact Ah rfl (by kernel_rfl) (by simp only [List.map_cons, List.map_nil, e29]) (CJ _ _ st st _ _ _ (k2 _ _ (hS.ext hW).ro) e32) fun v w' h hb => hK v w' (h.trans (by simp)) hb
 ·refine uT fun b__ w hW hE K hK => ?_
  have e38 := hE 38
  exact Ex rfl e38 Tryz.underlying28 (hK _ _ rfl (Below.refl _ _))
 ·refine uT fun b__ w hW hE K hK => ?_
  have e41 := hE 41
  exact Ex rfl e41 Tryz.underlying34 (hK _ _ rfl (Below.refl _ _))
 ·refine uT fun b__ w hW hE K hK => ?_
  have e47 := hE 47
  have e49 := hE 49
  exact Ah rfl (by kernel_rfl) (by simp only [List.map_cons, List.map_nil, e47, e49]) (lsame_any _ _ nl nl _ _ _ (k4 _ _ (hS.ext hW).ro) (j4 _ _ (hS.ext hW).ro) HF.out.never HF.out.never (kt _ _ (hS.ext hW).ro)) fun v w' h hb => hK v w' (h.trans (by rw [show (nl == nl) = true from beq_self_eq_true nl])) hb
 ·refine uT fun b__ w hW hE K hK => ?_
  have e55 := hE 55
  have e57 := hE 57
  exact Ah rfl (by kernel_rfl) (by simp only [List.map_cons, List.map_nil, e55, e57]) (lsame_any _ _ gl gl _ _ _ (k5 _ _ (hS.ext hW).ro) (j5 _ _ (hS.ext hW).ro) HF.out.goal HF.out.goal (kt _ _ (hS.ext hW).ro)) fun v w' h hb => hK v w' (h.trans (by rw [show (gl == gl) = true from beq_self_eq_true gl])) hb
 ·intro vs wz hW hT
  obtain ⟨e8, e9, e10, e11, e12, e13, e14, e15, e16, e17, e18, e19, e20, e21, e22, e23, e24, e25, e26, e27, e28, e29, e30, e31, e32, e33, e34, e35, e36, e37, e38, e39, e40, e41, e42, e43, e44, e45, e46, e47, e48, e49, e50, e51, e52, e53, e54, e55, e56, e57, e58, e59, e60, -⟩ := hT
  have bx : (fun _ : Nat => True) 0 := trivial
  simp only [AC, Act.put, zz, ze]
  replace hS := hS.ext hW
  rw [e60]
  clear hW
  clear e8 e9 e10 e11 e12 e13 e14 e15 e16 e17 e18 e19 e20 e21 e22 e23 e24 e25 e26 e27 e28 e29 e30 e31 e32 e33 e34 e35 e36 e37 e38 e39 e40 e41 e42 e43 e44 e45 e46 e47 e48 e49 e50 e51 e52 e53 e54 e55 e56 e57 e58 e59 e60
  generalize vs 8 = s8, vs 9 = s9, vs 10 = s10, vs 11 = s11, vs 12 = s12, vs 13 = s13, vs 14 = s14, vs 15 = s15, vs 16 = s16, vs 17 = s17, vs 18 = s18, vs 19 = s19, vs 20 = s20, vs 21 = s21, vs 22 = s22, vs 23 = s23, vs 24 = s24, vs 25 = s25, vs 26 = s26, vs 27 = s27, vs 28 = s28, vs 29 = s29, vs 30 = s30, vs 31 = s31, vs 32 = s32, vs 33 = s33, vs 34 = s34, vs 35 = s35, vs 36 = s36, vs 37 = s37, vs 38 = s38, vs 39 = s39, vs 40 = s40, vs 41 = s41, vs 42 = s42, vs 43 = s43, vs 44 = s44, vs 45 = s45, vs 46 = s46, vs 47 = s47, vs 48 = s48, vs 49 = s49, vs 50 = s50, vs 51 = s51, vs 52 = s52, vs 53 = s53, vs 54 = s54, vs 55 = s55, vs 56 = s56, vs 57 = s57, vs 58 = s58, vs 59 = s59
  go_wp2_with (first | ((with_reducible refine qK ?_); refine qC hS ?_))
  go_loopw [64] (fun i wr => ∃ j : Nat, i = .int .i64 (j : Nat) /\ j <= rl.length /\ St w0 wr (.box g3 37 #[.int .i64 R, .slice Al L.length cl, .int .u64 (st : Nat), .slice Br rl.length dr, .slice Bn nl.length dn, .slice Bg gl.length dg] :: .box g2 31 #[.int .i64 R, .pointer (some ⟨q, 0, none⟩), .slice Cs ns cs, .slice Ar rl.length cr, .slice An nl.length cn, .slice Ag gl.length cg] :: F) K) (fun i _ => rl.length - (intOf i).toNat)
  case atStart => exact ⟨0, rfl, by omega, hS⟩
  case round =>
   clear hS
   obtain ⟨j, rfl, hj, hS⟩ := hrel
   by_cases hlj : j < rl.length
   ·obtain ⟨b, o2, yv, nv', rfl, _, hb, c0, c1, c2, c3, c4, hyy, hnn⟩ := (k3 _ _ hS.ro).at_ hlj
    obtain ⟨b', o', rfl, d0, d1, d2, d3, d4⟩ := rr_at (j2 _ _ hS.ro) hlj
    have hb' : b' < wr.heap.size := by
     obtain ⟨cs', t', fr', h⟩ := DG d0
     exact (Array.getElem?_eq_some_iff.1 h).1
    obtain ⟨Ay, my, cy, rfl⟩ := hyy.shape
    obtain ⟨Am, mn, cm, rfl⟩ := hnn.shape
    have HQ := Lib.hid (I2 rl j _ (Bb Av hlj))
    have HZ : Hid ((rl.getD j Av).yes < Ba /\ (rl.getD j Av).no < Ba) := Lib.hid (HF.out.rules _ (List.mem_of_getElem? (Bb Av hlj)))
    obtain ⟨KE, ke, hS2⟩ : ∃ KE : (Nat -> Prop) -> World -> Prop, Hid (∀ D w, KE D w -> K D w /\ AO w D (.agg #[.slice Ay my cy, .slice Am mn cm]) ((rl.getD j Av).yes, (rl.getD j Av).no)) /\ St w0 wr (.box g3 37 #[.int .i64 R, .slice Al L.length cl, .int .u64 (st : Nat), .slice (some ⟨b', o', none⟩) rl.length dr, .slice Bn nl.length dn, .slice Bg gl.length dg] :: .box g2 31 #[.int .i64 R, .pointer (some ⟨q, 0, none⟩), .slice Cs ns cs, .slice (some ⟨b, o2, none⟩) rl.length cr, .slice An nl.length cn, .slice Ag gl.length cg] :: F) KE := ⟨fun D w => K D w /\ A7 w D (.agg #[.slice Ay my cy]) (rl.getD j Av).yes /\ A7 w D (.agg #[.slice Am mn cm]) (rl.getD j Av).no, Lib.hid fun _ _ h => ⟨h.1, _, _, rfl, h.2⟩, hS.add (D := CU (.box g3 37 #[.int .i64 R, .slice Al L.length cl, .int .u64 (st : Nat), .slice (some ⟨b', o', none⟩) rl.length dr, .slice Bn nl.length dn, .slice Bg gl.length dg] :: .box g2 31 #[.int .i64 R, .pointer (some ⟨q, 0, none⟩), .slice Cs ns cs, .slice (some ⟨b, o2, none⟩) rl.length cr, .slice An nl.length cn, .slice Ag gl.length cg] :: F)) (A5.and A5) ⟨hyy, hnn⟩ fun _ h _ => h⟩
    clear hS hyy hnn
    have hS := hS2
    clear hS2
    generalize rl.getD j Av = z at *
    obtain ⟨zr, zy, zn, zt, zo⟩ := z
    dsimp only at c0 c3 c4 ke HZ HQ
    clear d0 d1 d2 d3 d4
    have j2' : ∀ D w, KE D w -> w.rangeAt b' (o' + j * 5) [.bool zr, .int .u64 (zy : Nat), .int .u64 (zn : Nat), .int .i64 zt, .int .i64 zo] := fun D w h => by
     have h2 := j2 D w (ke.out _ _ h).1
     obtain ⟨q0, q1, q2, q3, q4⟩ := HQ.out
     exact Df (Dj h2 q0) (by rw [Nat.add_assoc]; exact Dj h2 q1) (by rw [Nat.add_assoc]; exact Dj h2 q2) (by rw [Nat.add_assoc]; exact Dj h2 q3) (by rw [Nat.add_assoc]; exact Dj h2 q4)
    go_wp2_with (first
     | ((with_reducible refine qB ?_); refine qc ?_ ?_ <;> intro h_ <;> go_prune)
     | ((with_reducible refine qA 68 ?_); refine BigFrame.wpList_want rfl fun _ hK => AE (cs := [.bool zr, .slice Ay my cy, .slice Am mn cm, .int .i64 zt, .int .i64 zo]) rfl rfl (Df c0 c1 c2 c3 c4) Tryz.underlying58 rfl (by kernel_rfl) (hK _ _ ?_))
     | ((with_reducible refine qA 73 ?_); refine BigFrame.wpList_want rfl fun _ hK => AE (cs := [.bool zr, .int .u64 (zy : Nat), .int .u64 (zn : Nat), .int .i64 zt, .int .i64 zo]) rfl rfl (j2' _ _ hS.ro) Tryz.underlying104 rfl (by kernel_rfl) (hK _ _ ?_))
     | ((with_reducible refine qA 6 ?_); refine qa hS #[.bool false, .slice none 0 0, .slice none 0 0, .int .i64 0, .int .i64 0] ?_; clear hS; intro g6 w_ hS)
     | ((with_reducible refine qA 7 ?_); refine qa hS #[.bool false, .int .u64 0, .int .u64 0, .int .i64 0, .int .i64 0] ?_; clear hS; intro g7 w_ hS)
     | ((with_reducible refine qM ?_); (first | refine qS hS ?_ | refine qT hS ?_); clear hS; intro w_ hS; (try simp only [Act.put, Act.eval, zz, Value.cells] at hS))
     | ((with_reducible refine qK ?_); refine qC hS ?_))
    refine C2 [.q g6 0, .i (.bool zr), .q g7 0, .i (.bool zr), .b false, .b false, .q g6 3, .n zt, .q g7 3, .n zt, .b false, .b false, .b false, .q g6 4, .n zo, .q g7 4, .n zo, .b false, .b false, .b false, .q g6 1, .i (.agg #[.slice Ay my cy, .slice Am mn cm]), .q g7 1, .i (.agg #[.int .u64 (zy : Nat), .int .u64 (zn : Nat)]), .s (fun v w => AO w (fun _ => True) v (zy, zn)) fun v w w' h hb => h.ext hb, .b true, .b false, .b false] ⟨uF, uC (h := fun w hW hN => (hS.ext hW).shut 1 rfl 0 rfl), uF, uC (h := fun w hW hN => (hS.ext hW).shut 0 rfl 0 rfl), uB (h := fun w hW hN => by cases zr <;> rfl), uM, uF, uC (h := fun w hW hN => (hS.ext hW).shut 1 rfl 3 rfl), uF, uC (h := fun w hW hN => (hS.ext hW).shut 0 rfl 3 rfl), uB (h := fun w hW hN => Hd (by simp)), uP, uM, uF, uC (h := fun w hW hN => (hS.ext hW).shut 1 rfl 4 rfl), uF, uC (h := fun w hW hN => (hS.ext hW).shut 0 rfl 4 rfl), uB (h := fun w hW hN => Hd (by simp)), uP, uM, uF, uD (h := fun w hW hN => I5 (((hS.ext hW).box 1 rfl).cell 1) (((hS.ext hW).box 1 rfl).cell 2)), uF, uD (h := fun w hW hN => I5 (((hS.ext hW).box 0 rfl).cell 1) (((hS.ext hW).box 0 rfl).cell 2)), ?_, ?_, uU, uP, trivial⟩ ?_
    ·refine uT fun b__ w hW hE K hK => ?_
     have e97 := hE 97
     exact Ah rfl (by kernel_rfl) (by simp only [List.map_cons, List.map_nil, e97]) (GA zy zn HZ.out.1 HZ.out.2 _) fun v w' h hb => hK v w' (h.imp fun _ _ _ => trivial) hb
    ·refine uT fun b__ w hW hE K hK => ?_
     have e95 := hE 95
     have e98 := hE 98
     exact Ah rfl (by kernel_rfl) (by simp only [List.map_cons, List.map_nil, e95]) (Dt _ _ (zy, zn) (zy, zn) _ _ _ (ke.out _ _ (hS.ext hW).ro).2 e98) fun v w' h hb => hK v w' (h.trans (by rw [beq_self_eq_true])) hb
    ·intro vs wz hW hT
     obtain ⟨e74, e75, e76, e77, e78, e79, e80, e81, e82, e83, e84, e85, e86, e87, e88, e89, e90, e91, e92, e93, e94, e95, e96, e97, e98, e99, e100, e101, -⟩ := hT
     have bx : (fun _ : Nat => True) 0 := trivial
     simp only [AC, Act.put, zz, ze]
     replace hS := hS.ext hW
     rw [e101]
     clear hW
     go_wp2_with fail
     exact ⟨⟨j + 1, by go_num, hlj, (hS.sub ((List.sublist_cons_self _ _).trans (List.sublist_cons_self _ _))).mono KS.out fun D w h => (ke.out _ _ h).1⟩, by simp [intOf]; omega⟩
   ·obtain rfl : rl.length = j := by omega
    go_wp2_with (first | ((with_reducible refine qB ?_); refine qc ?_ ?_ <;> intro h_ <;> go_prune))
    go_ret
    exact ⟨rfl, hS.sub ((List.sublist_cons_self _ _).trans (List.sublist_cons_self _ _))⟩
end
section
open Go.RowKit
attribute [local go_sem ↓] Go.wp_at_zero Go.wp_at_succ
set_option maxRecDepth 20000
set_option exponentiation.threshold 5000
set_option maxHeartbeats 4000000 in
theorem lsliceof_any (v : Value) (l : List Nat) (W : World) (D : Nat -> Prop) (hl : ∀ x ∈ l, x < 256) (hv : Sl W D 1 v l.length (u8s l)) (hT : Bo W) : Calls Tryz.prog 9 #[v] W (AK (fun x _ => x = .bool true) W) := by
 obtain ⟨K, kt, k1, hS⟩ := start_bytes1 hT hv
 clear hv hT
 have HL := Lib.hid hl
 clear hl
 go_enter Tryz.func9, Tryz.ntmps9
 go_wp2_with (first
  | (go_at_call 11; refine (lawake33_any hS kt).mono ?_; clear hS; rintro e w_ ⟨rfl, hS⟩)
  | (go_at_call 12; refine (lmake31_any HL.out hS k1 kt).mono ?_; clear hS; rintro e w_ ⟨x, u, rfl, p, ⟨L, R, hM⟩, hS⟩; replace hM := Lib.hid hM; obtain ⟨xs, rfl, hx6, hx1⟩ := hS.ro.2.1.cells; replace hx6 := Lib.hid hx6; obtain ⟨us, rfl, hu6, hu1⟩ := hS.ro.2.2.cells; replace hu6 := Lib.hid hu6; have HC0 := Lib.hid hM.out.check; have HC1 := Lib.hid hM.out.slice.check; have HSL := Lib.hid (of_slice hM.out); have HKL := Lib.hid (kept_slice hM.out))
  | ((with_reducible refine qA 3 ?_); refine qa hS #[.int .i64 0, .pointer none, .slice none 0 0, .slice none 0 0, .slice none 0 0, .slice none 0 0] ?_; clear hS; intro g3 w_ hS)
  | ((with_reducible refine qA 4 ?_); refine qa hS #[.int .i64 0, .slice none 0 0, .int .u64 0, .slice none 0 0, .slice none 0 0, .slice none 0 0] ?_; clear hS; intro g4 w_ hS)
  | ((with_reducible refine qA 6 ?_); refine qa hS #[.int .i64 0, .pointer none, .slice none 0 0, .slice none 0 0, .slice none 0 0, .slice none 0 0] ?_; clear hS; intro g6 w_ hS)
  | ((with_reducible refine qA 9 ?_); refine qa hS #[.int .i64 0, .slice none 0 0, .int .u64 0, .slice none 0 0, .slice none 0 0, .slice none 0 0] ?_; clear hS; intro g9 w_ hS)
  | ((with_reducible refine qA 11 ?_); refine qa hS #[.int .i64 0, .pointer none, .slice none 0 0, .slice none 0 0, .slice none 0 0, .slice none 0 0] ?_; clear hS; intro g11 w_ hS)
  | ((with_reducible refine qA 25 ?_); refine BigFrame.wpList_want rfl fun _ hK => B9 rfl rfl (hS.box 1 rfl) Tryz.underlying31 rfl (by rw [hx6.out]; kernel_rfl) (hK _ _ ?_))
  | ((with_reducible refine qA 31 ?_); refine BigFrame.wpList_want rfl fun _ hK => B9 rfl rfl (hS.box 1 rfl) Tryz.underlying37 rfl (by rw [hu6.out]; kernel_rfl) (hK _ _ ?_))
  | ((with_reducible refine qA 38 ?_); refine BigFrame.wpList_want rfl fun _ hK => B9 rfl rfl (hS.box 1 rfl) Tryz.underlying31 rfl (by rw [hy6.out]; kernel_rfl) (hK _ _ ?_))
  | ((with_reducible refine qA 39 ?_); refine BigFrame.wpList_want rfl fun _ hK => B9 rfl rfl (hS.box 0 rfl) Tryz.underlying37 rfl (by rw [hw6.out]; kernel_rfl) (hK _ _ ?_))
  | ((with_reducible refine qA 50 ?_); refine BigFrame.wpList_want rfl fun _ hK => B9 rfl rfl (hS.box 1 rfl) Tryz.underlying31 rfl (by rw [hy6.out]; kernel_rfl) (hK _ _ ?_))
  | ((with_reducible refine qA 55 ?_); refine BigFrame.wpList_want rfl fun _ hK => B9 rfl rfl (hS.box 1 rfl) Tryz.underlying31 rfl (by rw [hy6.out]; kernel_rfl) (hK _ _ ?_))
  | ((with_reducible show Calls _ _ #[.agg xs] _ _); go_at_call 19; refine (E8 hM.out.ok hS (fun D w h => h.2.1) (fun D w h => (kt D w h.1).1)).mono ?_; rw [HC0.out]; clear hS; rintro e w_ ⟨y, kk, rfl, hS⟩; obtain ⟨ys, rfl, hy6, hy1⟩ := hS.ro.1.2.cells; replace hy6 := Lib.hid hy6; obtain ⟨Ak, ck, rfl, _, _⟩ := hS.ro.2.shape)
  | (go_at_call 40; refine (rof_any hM.out hS (fun D w h => h.1.1.2.2)).mono ?_; clear hS; rintro e w_ ⟨r, kr, rfl, hS⟩; obtain ⟨ws, rfl, hw6, hw1⟩ := hS.ro.1.2.cells; replace hw6 := Lib.hid hw6; obtain ⟨Ar, cr, rfl, _, _⟩ := hS.ro.2.shape)
  | (go_at_call 41; refine (same_true hM.out.slice.links (by have := hM.out.len; omega) hM.out.slice.fits hS (fun D w h => h.1.1.1.2) (fun D w h => h.1.2) (fun D w h => (kt D w h.1.1.1.1.1).1)).mono ?_; clear hS; rintro e w_ ⟨rfl, hS⟩)
  | (go_at_call 30; refine (DP _ _ (ofKept p) (ofKept p) _ _ _ hS.ro.1.1.2 hS.ro.2).mono ?_; rw [show (ofKept p == ofKept p) = true from beq_self_eq_true _]; rintro r_ w_ ⟨_, rfl, rfl, hb_⟩; replace hS := hS.ext hb_; clear hb_)
  | (go_at_call 18; refine (Dp hS.ro.1.1.1.2 hM.out.slice.ok (kt _ _ hS.ro.1.1.1.1.1).1).mono ?_; rw [HC1.out]; rintro r_ w_ ⟨_, rfl, rfl, hb_⟩; replace hS := hS.ext hb_; clear hb_)
  | ((with_reducible show Calls _ _ #[.agg ys] _ _); go_at_call 19; refine (E8 hM.out.slice.ok hS (fun D w h => h.1.1.1.2) (fun D w h => (kt D w h.1.1.1.1.1).1)).mono ?_; rw [HC1.out, HSL.out]; clear hS; rintro e w_ ⟨z, kz, rfl, hS⟩; obtain ⟨zs, rfl, hz6, hz1⟩ := hS.ro.1.2.cells; replace hz6 := Lib.hid hz6; obtain ⟨Az, cz, rfl, _, _⟩ := hS.ro.2.shape)
  | ((with_reducible refine qm 37 ?_); (first | (refine D7 hS 0 rfl _ _ _ rfl _ _ rfl rfl _ _ rfl (by rw [hw6.out]; kernel_rfl) (by rw [hw6.out]; rfl) hw1 ?_) | (refine D7 hS 0 rfl _ _ _ rfl _ _ rfl rfl _ _ rfl (by rw [hu6.out]; kernel_rfl) (by rw [hu6.out]; rfl) hu1 ?_)); clear hS; intro w_ hS; (try simp only [Act.put, Act.eval, zz, Value.cells] at hS))
  | ((with_reducible refine qm 31 ?_); (first | (refine D7 hS 0 rfl _ _ _ rfl _ _ rfl rfl _ _ rfl (by rw [hz6.out]; kernel_rfl) (by rw [hz6.out]; rfl) hz1 ?_) | (refine D7 hS 0 rfl _ _ _ rfl _ _ rfl rfl _ _ rfl (by rw [hy6.out]; kernel_rfl) (by rw [hy6.out]; rfl) hy1 ?_) | (refine D7 hS 1 rfl _ _ _ rfl _ _ rfl rfl _ _ rfl (by rw [hx6.out]; kernel_rfl) (by rw [hx6.out]; rfl) hx1 ?_)); clear hS; intro w_ hS; (try simp only [Act.put, Act.eval, zz, Value.cells] at hS)))
 obtain ⟨S, hSS⟩ : ∃ S, S = relM L p := ⟨_, rfl⟩
 have HR1 : Hid (relS p = S) := Lib.hid (by rw [hSS]; exact hM.out.rel)
 have HR2 : Hid (relS (ofP p) = S) := Lib.hid (by rw [hSS, hM.out.slice.rel]; exact rel_slice hM.out)
 clear hSS
 refine C2 [.n 0, .b true, .b true, .i (.agg ys), .i (.agg zs), .b true, .b true, .b true, .i (.slice Az (ofKept (ofP p)).length cz), .n ((ofKept (ofP p)).length : Nat), .i (.slice Ak (ofKept p).length ck), .n ((ofKept p).length : Nat), .b true, .b true, .b true, .i (.agg ys), .s (fun v w => A7 w (fun _ => True) v S) fun v w w' h hb => h.ext hb, .i (.agg xs), .s (fun v w => A7 w (fun _ => True) v S) fun v w w' h hb => h.ext hb, .b true, .b true, .b true] ⟨uM, uB (h := fun w hW hN => run_eqB (by simp)), uM, ?_, ?_, ?_, uP, uM, uM, ?_, uM, ?_, uB (h := fun w hW hN => run_eqB (by rw [HKL.out]; simp)), uP, uM, ?_, ?_, ?_, ?_, ?_, uP, uA, trivial⟩ ?_
 ·refine uT fun b__ w hW hE K hK => ?_
  have e6 : b__.eval (.tmp 6) = .pointer (some ⟨g6, 0, none⟩) := hE 6
  exact B9 rfl e6 ((hS.ext hW).box 2 rfl) Tryz.underlying31 rfl (by rw [hy6.out]; kernel_rfl) (hK _ _ rfl (Below.refl _ _))
 ·refine uT fun b__ w hW hE K hK => ?_
  have e11 : b__.eval (.tmp 11) = .pointer (some ⟨g11, 0, none⟩) := hE 11
  exact B9 rfl e11 ((hS.ext hW).box 0 rfl) Tryz.underlying31 rfl (by rw [hz6.out]; kernel_rfl) (hK _ _ rfl (Below.refl _ _))
 ·refine uT fun b__ w hW hE K hK => ?_
  have e63 := hE 63
  have e64 := hE 64
  exact Ah rfl (by kernel_rfl) (by simp only [List.map_cons, List.map_nil, e63, e64]) (sequal_same hM.out.slice.links (by have := hM.out.len; omega) (hS.ext hW).ro.1.1.1.1.1.2 (hS.ext hW).ro.1.2) fun v w' h hb => hK v w' h hb
 ·refine uT fun b__ w hW hE K hK => ?_
  have e68 := hE 68
  exact Ex rfl e68 Tryz.underlying48 (hK _ _ rfl (Below.refl _ _))
 ·refine uT fun b__ w hW hE K hK => ?_
  have e70 := hE 70
  exact Ex rfl e70 Tryz.underlying48 (hK _ _ rfl (Below.refl _ _))
 ·refine uT fun b__ w hW hE K hK => ?_
  have e6 : b__.eval (.tmp 6) = .pointer (some ⟨g6, 0, none⟩) := hE 6
  exact B9 rfl e6 ((hS.ext hW).box 2 rfl) Tryz.underlying31 rfl (by rw [hy6.out]; kernel_rfl) (hK _ _ rfl (Below.refl _ _))
 ·refine uT fun b__ w hW hE K hK => ?_
  have e75 := hE 75
  exact Ah rfl (by kernel_rfl) (by simp only [List.map_cons, List.map_nil, e75]) (Dl (hS.ext hW).ro.1.1.1.1.1.2 hM.out.slice.ok (kt _ _ (hS.ext hW).ro.1.1.1.1.1.1.1).1) fun v w' h hb => hK v w' (by rw [<- HR2.out]; exact h.imp fun _ _ _ => trivial) hb
 ·refine uT fun b__ w hW hE K hK => ?_
  have e3 : b__.eval (.tmp 3) = .pointer (some ⟨g3, 0, none⟩) := hE 3
  exact B9 rfl e3 ((hS.ext hW).box 4 rfl) Tryz.underlying31 rfl (by rw [hx6.out]; kernel_rfl) (hK _ _ rfl (Below.refl _ _))
 ·refine uT fun b__ w hW hE K hK => ?_
  have e77 := hE 77
  exact Ah rfl (by kernel_rfl) (by simp only [List.map_cons, List.map_nil, e77]) (Dl (hS.ext hW).ro.1.1.1.1.1.1.2.1 hM.out.ok (kt _ _ (hS.ext hW).ro.1.1.1.1.1.1.1).1) fun v w' h hb => hK v w' (by rw [<- HR1.out]; exact h.imp fun _ _ _ => trivial) hb
 ·refine uT fun b__ w hW hE K hK => ?_
  have e76 := hE 76
  have e78 := hE 78
  exact Ah rfl (by kernel_rfl) (by simp only [List.map_cons, List.map_nil]) (CJ _ _ S S _ _ _ e76 e78) fun v w' h hb => hK v w' (h.trans (by simp)) hb
 ·intro vs wz hW hT
  obtain ⟨e60, e61, e62, e63, e64, e65, e66, e67, e68, e69, e70, e71, e72, e73, e74, e75, e76, e77, e78, e79, e80, e2, -⟩ := hT
  have bx : (fun _ : Nat => True) 0 := trivial
  simp only [AC, Act.put, zz, ze]
  replace hS := hS.ext hW
  go_wp2_with fail
  go_ret
  first
   | exact AK.mk rfl hS.below
   | exact AK.mk e2 hS.below
end
section
open Go.RowKit Go.ChangeShapes Go.WideShapes
section
variable {H : Type} {enc : TypeId × Value -> H} {P : Program} {w : World} {base : Nat} {sp : Nat -> Bool} {held : Bool}
theorem sl_of_trod {t e : TypeId} {size fuel : Nat} {cs : List Value} {x : DataW H × List MemPlace} (ht : P.underlying t = some (.slice e)) (hc : P.cellsOf e = size) (hsz : 0 < size) (h : DataW.trod enc P w base sp held fuel t cs = some x) :
  ∃ v n xs, cs = [v] /\ Sl w (fun _ => True) size v n xs /\ ∀ k, k < n -> ∃ f' y, DataW.trod enc P w base sp held f' e ((xs.drop (k * size)).take size) = some y := by
 rcases DataW.trod_slice ht h with ⟨rfl, _⟩ | ⟨a, len, cap, elems, rest, n, _, rfl, _, hb, hl, hm, hlen, hel, _⟩
 ·exact ⟨_, 0, [], rfl, ⟨by simp, none, 0, rfl, Nat.le_refl _, Nat.zero_le _, fun h => by omega⟩, fun k hk => by omega⟩
 ·rw [hc] at hel
  have each : ∀ k, k < len -> ∃ ck y, w.cells? base (a.add (k * size)) size = some ck /\ DataW.trod enc P w base sp held n e ck = some y := by
   intro k hk
   have h1 := hel k hk
   rw [List.getElem?_eq_getElem (by omega)] at h1
   obtain ⟨ck, h2, h3⟩ := Option.bind_eq_some_iff.1 h1
   exact ⟨ck, _, h2, h3⟩
  have hadd : ∀ i j, (a.add i).add j = a.add (i + j) := by
   intro i j
   unfold Addr.add
   by_cases h1 : i = 0 <;> by_cases h2 : j = 0 <;> simp [h1, h2, Nat.add_assoc]
  have cell : ∀ j, j < len * size -> ∃ x, w.cell? (a.add j) = some x := by
   intro j hj
   have hk : j / size < len := (Nat.div_lt_iff_lt_mul hsz).2 hj
   obtain ⟨ck, y, h1, h2⟩ := each _ hk
   obtain ⟨_, h3, h4⟩ := World.cells?_some h1
   have h5 := h4 (j % size) (Nat.mod_lt _ hsz)
   rw [hadd, Nat.mul_comm, Nat.div_add_mod] at h5
   rw [h5, List.getElem?_eq_getElem (by rw [h3]; exact Nat.mod_lt _ hsz)]
   exact ⟨_, rfl⟩
  refine ⟨.slice (some a) len cap, len, (List.range (len * size)).map fun j => (w.cell? (a.add j)).getD undef, rfl, ⟨by simp, some a, cap, rfl, hl, hm, fun h0 => ?_⟩, fun k hk => ?_⟩
  ·obtain ⟨x0, hx0⟩ := cell 0 (Nat.mul_pos h0 hsz)
   obtain ⟨b, o, s⟩ := a
   have hs : s = none := cell_spot hx0
   subst hs
   refine ⟨b, o, rfl, trivial, ?_, fun j x hx => ?_⟩
   ·have := hx0
    unfold World.cell? at this
    simp only [Addr.add] at this
    rcases Nat.lt_or_ge b w.heap.size with hlt | hge
    ·exact hlt
    ·simp [Array.getElem?_eq_none hge] at this
   ·simp only [List.getElem?_map, Option.map_eq_some_iff] at hx
    obtain ⟨j', hj', rfl⟩ := hx
    have hjl := (List.getElem?_eq_some_iff.1 hj').1
    rw [List.getElem?_range (by simpa using hjl)] at hj'
    obtain rfl := Option.some.inj hj'
    obtain ⟨y, hy⟩ := cell j (by simpa using hjl)
    rw [hy]
    have e : (⟨b, o, none⟩ : Addr).add j = ⟨b, o + j, none⟩ := by
     unfold Addr.add; split <;> simp [*]
    rw [e] at hy
    exact hy
  ·obtain ⟨ck, y, h1, h2⟩ := each k hk
   obtain ⟨_, h3, h4⟩ := World.cells?_some h1
   refine ⟨n, y, ?_⟩
   rw [<- h2]
   congr 1
   have hle : k * size + size <= len * size := by
    rw [<- Nat.succ_mul]; exact Nat.mul_le_mul_right _ hk
   apply List.ext_getElem?
   intro i
   rcases Nat.lt_or_ge i size with hi | hi
   ·rw [List.getElem?_take_of_lt hi, List.getElem?_drop, List.getElem?_map, List.getElem?_range (by omega)]
    have h5 := h4 i hi
    rw [hadd] at h5
    simp only [Option.map_some]
    rw [h5, List.getElem?_eq_getElem (by omega)]
    simp
   ·rw [List.getElem?_eq_none (by simp; omega), List.getElem?_eq_none (by omega)]
end
theorem u8_nat {n : Int} (h : (Lit.int .u8 n).wf = true) : ∃ m : Nat, n = (m : Int) /\ m < 256 := by
 have := bounds_u8 h
 exact ⟨n.toNat, by omega, by omega⟩
end
section
open Go.ChangeShapes Go.WideShapes Go.ChangeAt Go.RowKit
set_option maxRecDepth 20000 in
theorem bytes_open {H : Type} {enc : TypeId × Value -> H} {W : World} {r : Reach} {b0 base : Nat} {sp : Nat -> Bool} {held : Bool} {v : Value} {d : DataW H} {p : List MemPlace} (hv : Value.okWide Tryz.prog W r b0 22 v) (h : DataW.Trod enc Tryz.prog W base sp held 22 v d p) :
  ∃ l : List Nat, (∀ x ∈ l, x < 256) /\ Sl W (fun _ => True) 1 v l.length (u8s l) := by
 obtain ⟨a0, len0, cap0, rfl⟩ := okWide_slice Tryz.underlying22 hv
 obtain ⟨fuel, hf⟩ := h
 obtain ⟨v, n, xs, e, hs, he⟩ := sl_of_trod Tryz.underlying22 (size := 1) (by kernel_rfl) (by decide) hf
 have hl := hs.1
 have : ∃ zs : List Nat, (∀ x ∈ zs, x < 256) /\ xs = u8s zs := by
  have : ∀ v ∈ xs, ∃ z : Nat, z < 256 /\ v = .int .u8 (z : Nat) := by
   intro v hv
   obtain ⟨k, hk, hkv⟩ := List.mem_iff_getElem.1 hv
   obtain ⟨f', y, hy⟩ := he k (by omega)
   obtain ⟨z, hz, _, hw⟩ := DataW.trod_int Tryz.underlying5 hy
   obtain ⟨m, rfl, hm⟩ := u8_nat hw
   have h0 := congrArg (·[0]?) hz
   simp only [Nat.mul_one, List.getElem?_take_of_lt Nat.zero_lt_one, List.getElem?_drop, Nat.add_zero] at h0
   rw [List.getElem?_eq_getElem hk, hkv] at h0
   exact ⟨m, hm, by simpa using h0⟩
  clear hs he hl
  induction xs with
  | nil => exact ⟨[], fun x hx => by simp at hx, rfl⟩
  | cons a r ih =>
   obtain ⟨zs, hzs, rfl⟩ := ih fun v hv => this v (List.mem_cons_of_mem _ hv)
   obtain ⟨z, hz, rfl⟩ := this a List.mem_cons_self
   exact ⟨z :: zs, fun x hx => by rcases List.mem_cons.1 hx with rfl | hx; exact hz; exact hzs x hx, rfl⟩
 obtain ⟨zs, hzs, rfl⟩ := this
 have hz : zs.length = n := by simpa [u8s] using hl
 obtain rfl : v = .slice a0 len0 cap0 := by simpa [Value.cells] using e.symm
 exact ⟨zs, hzs, hz ▸ hs⟩
end
section
open Go.RowKit Go.ChangeShapes Go.WideShapes
theorem boxF_of_reads {w : World} {n : String} {g : Nat} {t e : TypeId} {m : Nat} {k : IntKind} {zs : List Int} (hg : Tryz.prog.globalNamed n = some g) (hty : (Tryz.prog.globals[g]?).map (·.type) = some t)
  (ht : Tryz.prog.underlying t = some (.array m e)) (he : Tryz.prog.underlying e = some (.int k)) (hce : Tryz.prog.cellsOf e = 1) (hct : Tryz.prog.cellsOf t = m) (h : Lib.VarReads Tryz.prog w n (Lib.tabData k zs)) :
  ∃ t, BoxF w g t (zs.map fun z => Value.int k z).toArray := by
 obtain ⟨g', t', cs, fuel, p, hg', hty', hvar, hd⟩ := h
 obtain rfl := Option.some.inj (hg.symm.trans hg')
 obtain rfl := Option.some.inj (hty.symm.trans hty')
 have hcs := Lib.cells_of_tab ht he hce hct hd
 simp only [World.var?, hg, Option.bind_some] at hvar
 split at hvar
 ·rename_i cs' t'' f heq
  obtain rfl := Option.some.inj hvar
  refine ⟨(t'', f), ?_⟩
  rw [<- hcs]
  exact heq
 ·cases hvar
end
section
open Go.RowKit Go.ChangeShapes Go.WideShapes
theorem dtab_of_reads {w : World} (h1 : Lib.VarReads Tryz.prog w "math/bits.deBruijn64tab" Rows.laid_math_bits_deBruijn64tab) : Bo w := by
 have e1 : (Rows.laid_math_bits_deBruijn64tab : DataW Unit) = Lib.tabData .u8 (dbL.map fun x : Nat => (x : Int)) := by kernel_rfl
 rw [e1] at h1
 obtain ⟨t, b1⟩ := boxF_of_reads (g := 0) (by kernel_rfl) (t := 188) (by kernel_rfl) Tryz.underlying188 Tryz.underlying5 (by kernel_rfl) (by kernel_rfl) h1
 have e : (List.map (fun z => Value.int .u8 z) (dbL.map fun x : Nat => (x : Int))) = u8s dbL := by simp [u8s]
 rw [e] at b1
 intro q hq
 rw [b1.cell, List.getElem?_toArray]
 exact u8s_at _ _ hq
end
section
open Go.ChangeShapes Go.WideShapes Go.ChangeAt Go.RowKit
theorem Hs (W : World) (h : laidMetH Tryz.prog Rows.sliceOfRow.laid W) : Bo W := by
 have h' : laidMetH Tryz.prog [("math/bits.deBruijn64tab", Rows.laid_math_bits_deBruijn64tab)] W := h
 rw [MakeChecks.laidMetH_plain _ _ _ (by kernel_rfl)] at h'
 exact dtab_of_reads (Lib.laidMet.reads h' (.head _))
noncomputable def sofStart (os : Os) : World := World.laidAll Tryz.prog os Rows.sliceOfRow.laid
theorem sof_start_met (os : Os) (args : Array Value) : laidMetH Tryz.prog Rows.sliceOfRow.laid ((sofStart os).forCall (fun _ _ => 0) ⟨#[], args, []⟩).memory := by
 rw [MakeChecks.laidMetH_plain _ _ _ (by kernel_rfl)]
 exact laidMet_laidAll _ (by kernel_rfl) (by kernel_rfl)
theorem sof_own : ownKnob Tryz.prog.godebug = none := by kernel_rfl
theorem sof_laidOut : laidOutB Tryz.prog = true := by kernel_rfl
set_option maxRecDepth 100000 in
theorem sof_lifted (os : Os) (started : os.Started) (H : Type) (enc : TypeId × Value -> H) :
  ReturnsInHanded {} Tryz.checked os 9 .any (fun w args => (Rows.sliceOfSpec.pre enc Tryz.prog Tryz.f9 [] false w args /\ laidMetH Tryz.prog Rows.sliceOfRow.laid w) /\ sizedMet enc Tryz.prog Tryz.f9 (OpenSpec.ofChange Rows.sliceOfSpec) false w args)
   (Rows.sliceOfSpec.post enc Tryz.prog Tryz.f9 false true false false) := by
 refine returnsInHanded_of_change_and (C := Tryz.checked) (X := fun w _ => laidMetH Tryz.prog Rows.sliceOfRow.laid w) (fun _ _ _ hh h => h.of_heap hh) sof_own started (by kernel_rfl) Tryz.func9
  (ChangeSpec.witness_shaped (enc := enc) (C := Tryz.checked) (os := os) (X := fun w _ => laidMetH Tryz.prog Rows.sliceOfRow.laid w) false (sofStart os) #[.slice none 0 0] 8 (World.laidAll_os _ _ _) (World.shaped_of_ZipB (by kernel_rfl) (by kernel_rfl)) (by kernel_rfl) (by kernel_rfl) (by kernel_rfl) (sof_start_met os _)) ?_
 intro W base args ds gs before hval0 hW _ _ hL _
 have hval : ∀ (j : Nat) t v, Tryz.f9.params[j]? = some t -> args[j]? = some v -> Value.okWide Tryz.prog W .any base t v := hval0
 have hW' := hW
 obtain ⟨p, q, hA0, hV, rfl, hfz, hnd⟩ := hW
 have hA : DataW.TrodAll enc Tryz.prog W 0 (fun _ => true) true Tryz.f9.params.toList args.toList ds p := hA0
 rw [Tryz.params9] at hA hval
 obtain ⟨v0, d0, rfl, rfl, h0⟩ := trodAll_one hA
 obtain ⟨rfl, rfl⟩ := trodVars_none hV
 obtain ⟨l, hl, hs⟩ := bytes_open (hval 0 _ v0 rfl rfl) h0
 have hT := Hs W hL
 have lt : ∀ z ∈ p, z.block < W.heap.size := fun z hz => by simpa using hW'.lt z (by simpa using hz)
 refine (lsliceof_any v0 l W _ hl hs hT).mono fun E W' he => ?_
 obtain ⟨r, rfl, rfl, hb⟩ := he
 refine ⟨_, rfl, _, _, _, [], p, [], hW', ?_, ?_, ?_, hb.frame _, fun h => by cases h⟩
 ·exact trodAll_mk1 (shut_bool Tryz.underlying4 true)
 ·rw [Tryz.params9]
  exact trodAll_mk1 (Below.trod sof_laidOut (by kernel_rfl) (of_decide_eq_true (by kernel_rfl)) h0 hb fun z hz => lt z (hz))
 ·rfl
theorem sof_holds : Rows.SliceOfSaid :=
 OpenClaim.holds_of_wide 9 Tryz.f9 rfl rfl rfl rfl rfl rfl rfl ⟨rfl, rfl, rfl, rfl, rfl⟩ rfl rfl rfl rfl rfl (by kernel_rfl) Tryz.func9 (by kernel_rfl)
  (of_decide_eq_true (by kernel_rfl)) (by unfold Func.isWrapper; rw [if_neg (by decide +kernel)]; exact ⟨rfl, rfl⟩)
  (fun os started H enc _ => sof_lifted os started H enc)
end
section
open Go
theorem sof_card : Rows.SliceOfCardSaid :=
 Claim7.holds_tied_plain_at .later [] [.data] true (true, "2d0cce7fd9cc136f77960caa9ad49f21584df77fdf1a824aa537d6f087b5c6e9") false
  sof_holds (fun _ h => by cases h) (by kernel_rfl) (fun _ h => by cases h) sliceOf_row_tie rfl ⟨rfl, rfl⟩ (by kernel_rfl) rfl
  (fun f fn hf hfn => by
   obtain rfl : f = 9 := Option.some.inj ((show Tryz.prog.funcNamed "arbac/arbaclaw33.SliceOf" = some 9 by kernel_rfl).symm.trans hf) |>.symm
   obtain rfl : fn = Tryz.f9 := (Option.some.inj (Tryz.func9.symm.trans hfn)).symm
   exact ⟨by kernel_rfl, fun j t ht => by
    rw [Tryz.params9] at ht
    have h3 : t = 22 := by
     rcases j with _ | j
     ·simp at ht; simp [<- ht]
     ·simp at ht
    rcases h3 with rfl
    ·exact (show Tryz.prog.wantsStandIn 22 = false by kernel_rfl)⟩)
  (by kernel_rfl)
end
end Go.Proofs.YtihpgmbinhmmlaaGreatDoor
namespace Go.Proofs.YtihpgmbinhmmlaaGreatDoor
#print axioms sof_card
end Go.Proofs.YtihpgmbinhmmlaaGreatDoor
