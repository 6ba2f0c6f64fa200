/-
  The card of CertificateProblems.
-/
import Derived.Laws.CopyRow
import Derived.Test.YtchjigffejhmfaaGreatDoorRows
import Derived.ProofKit
import Derived.OpenShut
import Derived.Lib.LaidU8
import Derived.Lay
import Derived.MakeChecks
import Derived.LaidLaws
import Derived.Stop.Joined
import Derived.Test.YtchjigffejhmfaaGreatDoorCards
import Derived.Test.YtchjigffejhmfaaGreatDoorTie
import Derived.SevenTiedAt
import Derived.Test.YtchjigffejhmfaaGreatDoorCpb4
namespace Go.Proofs.YtchjigffejhmfaaGreatDoor
section
open Go.RowKit
attribute [local go_sem ↓] Go.wp_at_zero Go.wp_at_succ
set_option maxRecDepth 20000
set_option exponentiation.threshold 5000
structure Kj (p : AV) (L : List (Nat × Nat)) : Prop where
 links : p.links = some L
 hok : GD L
 len : L.length <= 1000
 fits : Fits p
theorem rolesN_pow : ∀ r, r < 64 -> AX r = 2 ^ (r + 1) - 2 := by decide
theorem Im : ∀ r, r < 64 -> AX r < AA := by decide
theorem roles_step : ∀ j, j < 64 -> 1 <= j -> (2 ^ j - 2) ||| 2 ^ j = 2 ^ (j + 1) - 2 := by decide
theorem pow_both : ∀ j, j < 64 -> 2 ^ j < AA /\ 2 ^ j - 2 < AA := by decide
theorem roles_bit : ∀ r, r < 64 -> ∀ i, i < 64 -> (AX r).testBit i = decide (1 <= i /\ i <= r) := by decide +kernel
theorem FV {r : Nat} (h : r <= 63) (z : Int) : Cf (AX r) z = decide (1 <= z /\ z <= (r : Int)) := by
 unfold Cf
 by_cases h0 : 0 <= z
 ·obtain ⟨n, rfl⟩ := Int.eq_ofNat_of_zero_le h0
  rw [Int.toNat_natCast]
  rcases Nat.lt_or_ge n 64 with h1 | h1
  ·rw [roles_bit r (by omega) n h1, decide_eq_true h0, Bool.true_and]
   exact decide_eq_decide.2 (by omega)
  ·rw [Da (Im r (by omega)) h1, Bool.and_false, eq_comm, decide_eq_false_iff_not]; omega
 ·rw [decide_eq_false h0, Bool.false_and, eq_comm, decide_eq_false_iff_not]; omega
theorem IY {x N : Nat} (hx : x < AA) (hN : N < AA) : (x &&& Br N = 0) ↔ x &&& N = x := by
 constructor
 ·intro h
  refine Co fun i => ?_
  rw [Nat.testBit_and]
  cases h1 : x.testBit i with
  | false => simp
  | true =>
   have h2 : (x &&& Br N).testBit i = false := by rw [h]; exact Nat.zero_testBit i
   have h3 : i < 64 := by
    rcases Nat.lt_or_ge i 64 with h3 | h3
    ·exact h3
    ·rw [Da hx h3] at h1; cases h1
   rw [Nat.testBit_and, h1, Cr hN i h3] at h2
   simpa using h2
 ·intro h
  refine Nat.eq_of_testBit_eq fun i => ?_
  rw [Nat.zero_testBit, Nat.testBit_and]
  cases h1 : x.testBit i with
  | false => rfl
  | true =>
   have h3 : i < 64 := by
    rcases Nat.lt_or_ge i 64 with h3 | h3
    ·exact h3
    ·rw [Da hx h3] at h1; cases h1
   rw [Cr hN i h3]
   rw [<- h, Nat.testBit_and, Bool.and_eq_true] at h1
   rw [h1.2]; rfl
theorem beqD (a b : Nat) : (a == b) = decide (a = b) := by rw [Bool.eq_iff_iff]; simp
theorem Kj.small {p : AV} {L : List (Nat × Nat)} (h : Kj p L) : Small p.cubes := fun z hz => by
 unfold AV.cubes at hz
 rcases List.mem_append.1 hz with hz | hz
 ·rcases List.mem_append.1 hz with hz | hz
  ·obtain ⟨r, hr, rfl⟩ := List.mem_map.1 hz
   exact h.fits.rules r hr
  ·exact h.fits.never z hz
 ·exact h.fits.goal z hz
theorem cubes_len (p : AV) : p.cubes.length = p.rules.length + p.never.length + p.goal.length := by unfold AV.cubes; simp; omega
theorem known_parts {p : AV} {L : List (Nat × Nat)} {r : Nat} (h : Kj p L) (hr : r <= 63) :
  (∀ z ∈ L, (r < z.1 \/ r < z.2) -> CO p L (AX r) = false) /\ (∀ z ∈ p.rules, (z.target < 1 \/ (r : Int) < z.target) -> CO p L (AX r) = false) /\ (∀ z ∈ p.cubes, (z.1 ||| z.2) &&& Br (AX r) ≠ 0 -> CO p L (AX r) = false) /\
  ((∀ z ∈ L, z.1 <= r /\ z.2 <= r) -> (∀ z ∈ p.rules, 1 <= z.target /\ z.target <= (r : Int)) -> (∀ z ∈ p.cubes, (z.1 ||| z.2) &&& Br (AX r) = 0) -> CO p L (AX r) = decide (p.start &&& Br (AX r) = 0)) := by
 have hN := Im r (by omega)
 have e1 : ∀ z ∈ L, (Cf (AX r) z.1 && Cf (AX r) z.2) = decide (z.1 <= r /\ z.2 <= r) := fun z hz => by
  have := h.hok.role z hz
  rw [FV hr, FV hr, <- Bool.decide_and]
  exact decide_eq_decide.2 (by omega)
 have e2 : ∀ z ∈ p.cubes, Gh (AX r) z = decide ((z.1 ||| z.2) &&& Br (AX r) = 0) := fun z hz => by
  have := h.small z hz
  unfold Gh
  rw [<- decide_eq_decide.2 (IY (JQ this.1 this.2) hN).symm, beqD]
 unfold CO
 refine ⟨fun z hz hh => ?_, fun z hz hh => ?_, fun z hz hh => ?_, fun h1 h2 h3 => ?_⟩
 ·have : (L.all fun z => Cf (AX r) z.1 && Cf (AX r) z.2) = false := by
   rw [List.all_eq_false]
   exact ⟨z, hz, by rw [e1 z hz, decide_eq_true_eq]; omega⟩
  rw [this]; simp
 ·have : (p.rules.all fun z => Cf (AX r) z.target) = false := by
   rw [List.all_eq_false]
   exact ⟨z, hz, by rw [FV hr, decide_eq_true_eq]; omega⟩
  rw [this]; simp
 ·have : p.cubes.all (Gh (AX r)) = false := by
   rw [List.all_eq_false]
   exact ⟨z, hz, by rw [e2 z hz, decide_eq_true_eq]; exact hh⟩
  rw [this]; simp
 ·have a1 : (L.all fun z => Cf (AX r) z.1 && Cf (AX r) z.2) = true := List.all_eq_true.2 fun z hz => by rw [e1 z hz]; exact decide_eq_true (h1 z hz)
  have a2 : (p.rules.all fun z => Cf (AX r) z.target) = true := List.all_eq_true.2 fun z hz => by rw [FV hr]; exact decide_eq_true (h2 z hz)
  have a3 : p.cubes.all (Gh (AX r)) = true := List.all_eq_true.2 fun z hz => by rw [e2 z hz]; exact decide_eq_true (h3 z hz)
  rw [a1, a2, a3, Bool.and_self, Bool.and_self, Bool.and_true, <- decide_eq_decide.2 (IY h.fits.start hN).symm, beqD]
section
variable {P : Program} {w : World} {t : TypeId} {x y : Nat}
theorem run_orW (hx : x < AA) (hy : y < AA) : (binOp .or t (.int .u64 (x : Nat)) (.int .u64 (y : Nat))).run P w = .ok (.int .u64 ((x ||| y : Nat) : Int)) w := by
 go_simp
 rw [or64 hx hy]
end
theorem Dk {w0 : World} {D : Nat -> Prop} {v : Value} {p : AV} {L : List (Nat × Nat)} (hl : p.links = some L) (h : B9 w0 D v p) :
  ∃ Al cl Ar cr An cn Ag cg, v = .agg #[.int .i64 p.roles, .slice Al L.length cl, .int .u64 (p.start : Nat), .slice Ar p.rules.length cr, .slice An p.never.length cn, .slice Ag p.goal.length cg] /\ Sl w0 D 2 (.slice Al L.length cl) L.length (A6 L) /\ Sl w0 D 5 (.slice Ar p.rules.length cr) p.rules.length (AW p.rules) /\ Sl w0 D 2 (.slice An p.never.length cn) p.never.length (AH p.never) /\ Sl w0 D 2 (.slice Ag p.goal.length cg) p.goal.length (AH p.goal) := by
 obtain ⟨lv, rv, nv, gv, L', rfl, hl', h1, h2, h3, h4⟩ := h
 obtain rfl : L = L' := by rw [hl] at hl'; injection hl'
 obtain ⟨Al, cl, rfl, _, _⟩ := h1.shape
 obtain ⟨Ar, cr, rfl, _, _⟩ := h2.shape
 obtain ⟨An, cn, rfl, _, _⟩ := Sl.shape (h3 : Sl _ _ _ _ _ _)
 obtain ⟨Ag, cg, rfl, _, _⟩ := Sl.shape (h4 : Sl _ _ _ _ _ _)
 exact ⟨_, _, _, _, _, _, _, _, rfl, h1, h2, h3, h4⟩
theorem BZ {w0 : World} {D : Nat -> Prop} {av lv sv rv nv gv : Value} {p : AV} {L : List (Nat × Nat)} (hl : p.links = some L) (h : B9 w0 D (.agg #[av, lv, sv, rv, nv, gv]) p) :
  Sl w0 D 2 lv L.length (A6 L) /\ Sl w0 D 5 rv p.rules.length (AW p.rules) /\ Sl w0 D 2 nv p.never.length (AH p.never) /\ Sl w0 D 2 gv p.goal.length (AH p.goal) := by
 obtain ⟨lv, rv, nv, gv, L', e, hl', h1, h2, h3, h4⟩ := h
 obtain rfl : L = L' := by rw [hl] at hl'; injection hl'
 injection e with e; injection e with e; injection e with _ e; injection e with a e; injection e with _ e; injection e with b e; injection e with c e; injection e with d _
 subst a b c d
 exact ⟨h1, h2, h3, h4⟩
theorem rroles31_any {w0 : World} {D : Nat -> Prop} {v : Value} {p : AV} {r : Nat} (hp : B9 w0 D v p) (hr : p.roles = (r : Int)) (h1 : 1 <= r) (h63 : r <= 63) :
  Calls Tryz.prog 129 #[v] w0 (Az (fun x _ => x = .int .u64 (AX r : Nat)) w0) := by
 obtain ⟨lv, rv, nv, gv, L, rfl, -⟩ := hp
 rw [hr]
 have HP := Lib.hid (rolesN_pow r (by omega))
 have hS : St w0 w0 [] fun _ _ => True := St.start0
 clear hr
 go_enter Tryz.func129, Tryz.ntmps129
 go_wp2_with (first | ((with_reducible refine qA 1 ?_); refine AF hS rfl _ _ rfl (.agg #[.int .i64 (r : Nat), lv, .int .u64 (p.start : Nat), rv, nv, gv]) _ rfl rfl ?_; clear hS; intro g1 w_ hS; (try simp only [Act.put, Act.eval, zz, Value.cells] at hS)))
 go_loopw [3, 4] (fun ov iv wr => ∃ j : Nat, iv = .int .i64 (j : Nat) /\ ov = .int .u64 ((2 ^ j - 2 : Nat) : Int) /\ 1 <= j /\ j <= r + 1 /\ St w0 wr [.box g1 30 #[.int .i64 (r : Nat), lv, .int .u64 (p.start : Nat), rv, nv, gv]] fun _ _ => True) (fun _ i _ => r + 1 - (intOf i).toNat)
 case atStart => exact ⟨1, rfl, rfl, by omega, by omega, hS⟩
 case round =>
  clear hS
  obtain ⟨j, rfl, rfl, hj1, hj2, hS⟩ := hrel
  by_cases hj : j <= r
  ·have h64 : j < 64 := by omega
   have HST := Lib.hid (roles_step j h64 hj1)
   have HPW := Lib.hid (pow_both j h64)
   obtain ⟨m, hm⟩ : ∃ m, m = 2 ^ j - 2 := ⟨_, rfl⟩
   have HPS : Hid (2 ^ j < AA) := Lib.hid HPW.out.1
   have HMM : Hid (m < AA) := Lib.hid (by rw [hm]; exact HPW.out.2)
   rw [<- hm] at HST ⊢
   clear hm HPW
   have hjT : Hid (j < AA) := Lib.hid (by unfold AA; omega)
   go_wp2_with (first
    | ((with_reducible refine qB ?_); refine qc ?_ ?_ <;> intro h_ <;> go_prune)
    | ((with_reducible refine qA 17 ?_); refine BigFrame.wpList_want rfl fun _ hK => BR (vx := .int .i64 (j : Nat)) (v := .int .u64 (j : Nat)) rfl rfl (run_convU hjT.out) (hK _ _ ?_))
    | ((with_reducible refine qA 18 ?_); refine BigFrame.wpList_want rfl fun _ hK => Ax rfl rfl rfl rfl (run_shlU h64) (hK _ _ ?_))
    | ((with_reducible refine qA 19 ?_); refine BigFrame.wpList_want rfl fun _ hK => Ax rfl rfl rfl rfl (run_orW HMM.out HPS.out) (hK _ _ ?_))
    | ((with_reducible refine qK ?_); refine qC hS ?_))
   refine ⟨⟨j + 1, by go_num, by rw [HST.out], by omega, by omega, hS⟩, by simp [intOf]; omega⟩
  ·obtain rfl : j = r + 1 := by omega
   rw [<- HP.out]
   go_wp2_with (first | ((with_reducible refine qB ?_); refine qc ?_ ?_ <;> intro h_ <;> go_prune) | ((with_reducible refine qK ?_); refine qC hS ?_))
   go_ret
   exact Az.mk rfl hS.below
def rcD (n m k : Nat) (a b c : List (Nat × Nat)) : AD := ⟨50, 2, 3, fun s => match s with | 0 => n | 1 => n + m | _ => n + m + k, fun s => match s with | 0 => AH a | 1 => AH a ++ AH b | _ => AH a ++ AH b ++ AH c, fun _ v => .own v 50 2 0 []⟩
set_option maxHeartbeats 1000000 in
theorem Hd {w0 w : World} {F : List A7} {K : (Nat -> Prop) -> World -> Prop} {v : Value} {p : AV} {L : List (Nat × Nat)} (hR : Kj p L) (hS : St w0 w F K) (kp : ∀ D w, K D w -> B9 w D v p) :
  Calls Tryz.prog 57 #[v] w fun e w' => ∃ u, e = .returned u /\ St w0 w' F fun D w => K D w /\ BW w D u p.cubes := by
 obtain ⟨Al, cl, Ar, cr, An, cn, Ag, cg, rfl, -⟩ := Dk hR.links (kp _ _ hS.ro)
 have KS := Lib.hid hS.stable
 have kr : ∀ D w, K D w -> Sl w D 5 (.slice Ar p.rules.length cr) p.rules.length (AW p.rules) := fun D w h => (BZ hR.links (kp D w h)).2.1
 have kn : ∀ D w, K D w -> Sl w D 2 (.slice An p.never.length cn) p.never.length (AH p.never) := fun D w h => (BZ hR.links (kp D w h)).2.2.1
 have kg : ∀ D w, K D w -> Sl w D 2 (.slice Ag p.goal.length cg) p.goal.length (AH p.goal) := fun D w h => (BZ hR.links (kp D w h)).2.2.2
 have hl1 := hR.fits.rlen
 have hl2 := hR.fits.nlen
 have hl3 := hR.fits.glen
 clear kp
 have HCU := Lib.hid (show p.cubes = (p.rules.map fun r => (r.yes, r.no)) ++ p.never ++ p.goal from rfl)
 obtain ⟨rl, hrl⟩ : ∃ rl, p.rules = rl := ⟨_, rfl⟩
 obtain ⟨nl, hnl⟩ : ∃ nl, p.never = nl := ⟨_, rfl⟩
 obtain ⟨gl, hgl⟩ : ∃ gl, p.goal = gl := ⟨_, rfl⟩
 obtain ⟨cu, hcu⟩ : ∃ cu, p.cubes = cu := ⟨_, rfl⟩
 obtain ⟨st, hst⟩ : ∃ st, p.start = st := ⟨_, rfl⟩
 obtain ⟨R, hro⟩ : ∃ R, p.roles = R := ⟨_, rfl⟩
 rw [hrl, hnl, hgl, hcu] at HCU
 rw [hrl] at kr hl1
 rw [hnl] at kn hl2
 rw [hgl] at kg hl3
 rw [hrl, hnl, hgl, hst, hcu, hro]
 clear hrl hnl hgl hcu hst hro hR
 obtain ⟨CS, hCS⟩ : ∃ CS : List (Nat × Nat), CS = rl.map fun r => (r.yes, r.no) := ⟨_, rfl⟩
 rw [<- hCS] at HCU
 have HCS := Lib.hid hCS
 have hlC : CS.length = rl.length := by rw [hCS]; simp
 have HLC := Lib.hid hlC
 clear hCS hlC
 go_enter Tryz.func57, Tryz.ntmps57
 go_wp2_with (first
  | ((with_reducible refine qA 1 ?_); refine AF hS rfl _ _ rfl (.agg #[.int .i64 R, .slice Al L.length cl, .int .u64 (st : Nat), .slice Ar rl.length cr, .slice An nl.length cn, .slice Ag gl.length cg]) _ rfl rfl ?_; clear hS; intro g1 w_ hS; (try simp only [Act.put, Act.eval, zz, Value.cells] at hS))
  | ((with_reducible refine qK ?_); refine qC hS ?_))
 replace hS := hS.nil 50 2
 go_loopw [3, 9] (fun ov i wr => ∃ (j : Nat) (sv : Value), i = .int .i64 (j : Nat) /\ sv = ov /\ j <= rl.length /\ St w0 wr (.own sv 50 2 j (AH (CS.take j)) :: .box g1 30 #[.int .i64 R, .slice Al L.length cl, .int .u64 (st : Nat), .slice Ar rl.length cr, .slice An nl.length cn, .slice Ag gl.length cg] :: F) K) (fun _ i _ => rl.length - (intOf i).toNat)
 case atStart => exact ⟨0, _, rfl, rfl, by omega, hS⟩
 case round =>
  clear hS
  obtain ⟨j, sv, rfl, rfl, hj, hS⟩ := hrel
  by_cases hlj : j < rl.length
  ·obtain ⟨b, o, rfl, c0, c1, c2, c3, c4⟩ := rr_at (kr _ _ hS.ro) hlj
   have HT : Hid (AH (CS.take (j + 1)) = AH (CS.take j) ++ [.int .u64 ((rl.getD j Bg).yes : Nat), .int .u64 ((rl.getD j Bg).no : Nat)]) := Lib.hid (by
    rw [HCS.out, List.take_add_one, List.getElem?_map, List.getElem?_eq_getElem hlj, List.getD_eq_getElem?_getD, List.getElem?_eq_getElem hlj, Dq]; rfl)
   generalize rl.getD j Bg = z at *
   obtain ⟨zr, zy, zn, zt, zo⟩ := z
   dsimp only at c0 c1 c2 c3 c4 HT
   have hj1 : j <= 100000 := by omega
   go_wp2_with (first
    | ((with_reducible refine qB ?_); refine qc ?_ ?_ <;> intro h_ <;> go_prune)
    | ((with_reducible refine qA 12 ?_); refine BigFrame.wpList_want rfl fun _ hK => Bb (cs := [.bool zr, .int .u64 (zy : Nat), .int .u64 (zn : Nat), .int .i64 zt, .int .i64 zo]) rfl rfl (JF c0 c1 c2 c3 c4) Tryz.underlying109 rfl (by kernel_rfl) (hK _ _ ?_))
    | ((with_reducible refine qA 5 ?_); refine qa hS #[.bool false, .int .u64 0, .int .u64 0, .int .i64 0, .int .i64 0] ?_; clear hS; intro g5 w_ hS)
    | ((with_reducible refine qM ?_); (first | refine qS hS ?_ | refine qT hS ?_); clear hS; intro w_ hS; (try simp only [Act.put, Act.eval, zz, Value.cells] at hS))
    | ((with_reducible refine qk 50 ?_); refine Ey hS 0 rfl _ _ rfl _ _ rfl _ _ rfl _ _ rfl rfl Tryz.underlying50 rfl (by kernel_rfl) ?_)
    | ((with_reducible show wpList _ _ _ (⟨_, .buildSlice _ 1 _, _, _, _, _⟩ :: _) _ _); refine E9 hS 1 rfl rfl _ _ _ _ rfl rfl Jm _ _ _ (.agg #[.int .u64 (zy : Nat), .int .u64 (zn : Nat)]) #[.int .u64 (zy : Nat), .int .u64 (zn : Nat)] rfl (by kernel_rfl) rfl rfl rfl rfl (by intro u hu; simp at hu; first | (subst hu; rfl) | (rcases hu with rfl | rfl <;> rfl)) (by omega) (by omega) ?_; clear hS; intro z_ v_ w_ hS; (try simp only [Act.put, Act.eval, zz, Value.cells] at hS)))
   refine ⟨⟨j + 1, _, by go_num, rfl, hlj, ?_⟩, by simp [intOf]; omega⟩
   rw [HT.out]
   exact hS.sub (F' := _ :: _ :: F) (List.sublist_cons_self _ _)
  ·obtain rfl : rl.length = j := by omega
   have hCT : CS.take rl.length = CS := by rw [<- HLC.out, List.take_length]
   rw [hCT] at hS
   clear hCT
   go_wp2_with (first | ((with_reducible refine qB ?_); refine qc ?_ ?_ <;> intro h_ <;> go_prune))
   have hA0 : Fj ⟨[sv], []⟩ 0 sv := ⟨[], [], rfl, rfl⟩
   have hJ0 : AJ w0 (.box g1 30 #[.int .i64 R, .slice Al L.length cl, .int .u64 (st : Nat), .slice Ar rl.length cr, .slice An nl.length cn, .slice Ag gl.length cg] :: F) K (rcD rl.length nl.length gl.length CS nl gl) (wr.drew, ⟨[sv], []⟩) := ⟨hS.drew, show 1 <= 3 by decide⟩
   have hN0 := AN_one1 (kd := cbK) (by decide) wr.drew sv
   have hRr := @AR.refl w0 (.box g1 30 #[.int .i64 R, .slice Al L.length cl, .int .u64 (st : Nat), .slice Ar rl.length cr, .slice An nl.length cn, .slice Ag gl.length cg] :: F) K (rcD rl.length nl.length gl.length CS nl gl)
   have hRt := @AR.trans w0 (.box g1 30 #[.int .i64 R, .slice Al L.length cl, .int .u64 (st : Nat), .slice Ar rl.length cr, .slice An nl.length cn, .slice Ag gl.length cg] :: F) K (rcD rl.length nl.length gl.length CS nl gl)
   have hb0 : Hid (rl.length + nl.length <= 1000000000000 /\ (rl.length + nl.length) * 16 <= 140737488355328 /\ rl.length + nl.length + gl.length <= 1000000000000 /\ (rl.length + nl.length + gl.length) * 16 <= 140737488355328) := Lib.hid (by omega)
   clear hS
   refine Fk (AR w0 (.box g1 30 #[.int .i64 R, .slice Al L.length cl, .int .u64 (st : Nat), .slice Ar rl.length cr, .slice An nl.length cn, .slice Ag gl.length cg] :: F) K (rcD rl.length nl.length gl.length CS nl gl)) (AN cbK) (⟨[sv], []⟩) hRr hRt [.i sv, .q g1 4, .i (.slice An nl.length cn), .s (fun v w => Fj w.2 1 v) fun v w w' h hb => h.mono hb.2.1, .q g1 5, .i (.slice Ag gl.length cg), .s (fun v w => Fj w.2 2 v) fun v w w' h hb => h.mono hb.2.1, .s (fun v w => Fj w.2 2 v) fun v w w' h hb => h.mono hb.2.1] ?_ ⟨uM, uF, uC (h := fun w hW hN => ((hW.1 hJ0).1.holds (.box g1 30 #[.int .i64 R, .slice Al L.length cl, .int .u64 (st : Nat), .slice Ar rl.length cr, .slice An nl.length cn, .slice Ag gl.length cg]) (List.mem_append_right _ (List.mem_cons_self ..))).2.cell 4), ?_, uF, uC (h := fun w hW hN => ((hW.1 hJ0).1.holds (.box g1 30 #[.int .i64 R, .slice Al L.length cl, .int .u64 (st : Nat), .slice Ar rl.length cr, .slice An nl.length cn, .slice Ag gl.length cg]) (List.mem_append_right _ (List.mem_cons_self ..))).2.cell 5), ?_, uA, trivial⟩ ?_
   ·first | assumption | (intro i; (try dsimp only); split <;> first | trivial | assumption | (left; assumption))
   ·refine uG fun b__ w hW hN hE K hK => ?_
    have e19 := hE 19
    have e21 := hE 21
    exact Bu (kd := cbK) (by decide) rfl rfl Jm hN (by rw [e19]; exact hA0.mono hW.2.1) (hW.1 hJ0) (by rw [e21]; exact kn _ _ (hW.1 hJ0).1.ro) (JI _) rfl rfl (by exact hb0.out.1) (by exact hb0.out.2.1) (show 0 + 1 < 3 by decide) hK
   ·refine uG fun b__ w hW hN hE K hK => ?_
    have e22 := hE 22
    have e24 := hE 24
    exact Bu (kd := cbK) (by decide) rfl rfl Jm hN e22 (hW.1 hJ0) (by rw [e24]; exact kg _ _ (hW.1 hJ0).1.ro) (JI _) rfl rfl (by exact hb0.out.2.2.1) (by exact hb0.out.2.2.2) (show 1 + 1 < 3 by decide) hK
   ·intro vs wz hW hT
    obtain ⟨e19, e20, e21, e22, e23, e24, e25, e2, -⟩ := hT
    have bx : (fun _ : Nat => True) 0 := trivial
    simp only [AO, Act.put, zz, ze]
    have hJ := (hW.1 hJ0).last e2 rfl
    simp only [rcD] at hJ
    have hS := (hJ.freeze 0 (by decide) rfl).sub (F' := F) (List.sublist_cons_self _ _)
    generalize vs 2 = v2 at *
    generalize wz.1 = wf at *
    clear hW hJ0 hRr hRt hN0 hA0 hJ e2
    go_wp2_with fail
    go_ret
    refine ⟨_, rfl, hS.mono (KS.out.and Ej) fun D w h => ⟨h.1, ?_⟩⟩
    have el : (CS ++ nl ++ gl).length = rl.length + nl.length + gl.length := by rw [List.length_append, List.length_append, HLC.out]
    rw [HCU.out]
    unfold BW
    rw [el, Dq, Dq]
    exact h.2
end
section
open Go.RowKit
attribute [local go_sem ↓] Go.wp_at_zero Go.wp_at_succ
set_option maxRecDepth 20000
set_option exponentiation.threshold 5000
set_option maxHeartbeats 4000000 in
theorem runknown_any {w0 w : World} {F : List A7} {K : (Nat -> Prop) -> World -> Prop} {v : Value} {p : AV} {L : List (Nat × Nat)} {r : Nat} (hR : Kj p L) (hr : p.roles = (r : Int)) (h1 : 1 <= r) (h63 : r <= 63) (hS : St w0 w F K) (kp : ∀ D w, K D w -> B9 w D v p) :
  Calls Tryz.prog 56 #[v] w fun e w' => e = .returned (.bool (!CO p L (AX r))) /\ St w0 w' F K := by
 obtain ⟨Al, cl, Ar, cr, An, cn, Ag, cg, rfl, -⟩ := Dk hR.links (kp _ _ hS.ro)
 have KS := Lib.hid hS.stable
 have HR := Lib.hid hR
 have kl : ∀ D w, K D w -> Sl w D 2 (.slice Al L.length cl) L.length (A6 L) := fun D w h => (BZ hR.links (kp D w h)).1
 have kr : ∀ D w, K D w -> Sl w D 5 (.slice Ar p.rules.length cr) p.rules.length (AW p.rules) := fun D w h => (BZ hR.links (kp D w h)).2.1
 have HRo : Hid (∀ (w : World) (D : Nat -> Prop) (v : Value), B9 w D v p -> Calls Tryz.prog 129 #[v] w (Az (fun x _ => x = .int .u64 (AX r : Nat)) w)) := Lib.hid fun w D v h => rroles31_any h hr h1 h63
 have HCu : Hid (∀ (w0 w : World) (F : List A7) (K : (Nat -> Prop) -> World -> Prop) (v : Value), St w0 w F K -> (∀ D w, K D w -> B9 w D v p) -> Calls Tryz.prog 57 #[v] w fun e w' => ∃ u, e = .returned u /\ St w0 w' F fun D w => K D w /\ BW w D u p.cubes) := Lib.hid fun w0 w F K v h k => Hd hR h k
 have hlen := hR.len
 have hl1 := hR.fits.rlen
 have hcl := cubes_len p
 have hl2 := hR.fits.nlen
 have hl3 := hR.fits.glen
 obtain ⟨q1, q2, q3, q4⟩ := known_parts hR h63
 have HQ1 := Lib.hid q1
 have HQ2 := Lib.hid q2
 have HQ3 := Lib.hid q3
 have HQ4 := Lib.hid q4
 have HSM := Lib.hid hR.small
 have HST : Hid (p.start < AA) := Lib.hid hR.fits.start
 have HN : Hid (AX r < AA) := Lib.hid (Im r (by omega))
 have HKP := Lib.hid kp
 clear q1 q2 q3 q4 kp hR
 have hcl2 : p.cubes.length <= 3000 := by omega
 clear hcl hl2 hl3
 obtain ⟨kb, hkb⟩ : ∃ kb, CO p L (AX r) = kb := ⟨_, rfl⟩
 rw [hkb] at HQ1 HQ2 HQ3 HQ4 ⊢
 clear hkb
 obtain ⟨N, hN⟩ : ∃ N, AX r = N := ⟨_, rfl⟩
 rw [hN] at HQ3 HQ4 HN HRo
 clear hN
 obtain ⟨rl, hrl⟩ : ∃ rl, p.rules = rl := ⟨_, rfl⟩
 obtain ⟨cu, hcu⟩ : ∃ cu, p.cubes = cu := ⟨_, rfl⟩
 obtain ⟨st, hst⟩ : ∃ st, p.start = st := ⟨_, rfl⟩
 obtain ⟨nn, hnn⟩ : ∃ nn, p.never.length = nn := ⟨_, rfl⟩
 obtain ⟨ng, hng⟩ : ∃ ng, p.goal.length = ng := ⟨_, rfl⟩
 rw [hrl] at HQ2 HQ4 kr hl1
 rw [hcu] at HQ3 HQ4 HCu HSM hcl2
 rw [hst] at HQ4 HST
 rw [hrl, hst, hr, hnn, hng] at HKP
 rw [hrl, hst, hr, hnn, hng]
 clear hr hrl hcu hst hnn hng
 go_enter Tryz.func56, Tryz.ntmps56
 go_wp2_with (first
  | ((with_reducible refine qA 1 ?_); refine AF hS rfl _ _ rfl (.agg #[.int .i64 (r : Nat), .slice Al L.length cl, .int .u64 (st : Nat), .slice Ar rl.length cr, .slice An nn cn, .slice Ag ng cg]) _ rfl rfl ?_; clear hS; intro g1 w_ hS; (try simp only [Act.put, Act.eval, zz, Value.cells] at hS))
  | ((with_reducible refine qK ?_); refine qL hS Tryz.underlying30 ?_)
  | (go_at_call 129; refine (HRo.out _ _ _ (HKP.out _ _ hS.ro)).mono ?_; rintro r_ w_ ⟨_, rfl, rfl, hb_⟩; replace hS := hS.ext hb_; clear hb_)
  | ((with_reducible refine qK ?_); refine qC hS ?_))
 go_loopw [15] (fun i wr => ∃ j : Nat, i = .int .i64 (j : Nat) /\ j <= L.length /\ Hid (∀ i, i < j -> ∀ z, L[i]? = some z -> z.1 <= r /\ z.2 <= r) /\ St w0 wr (.box g1 30 #[.int .i64 (r : Nat), .slice Al L.length cl, .int .u64 (st : Nat), .slice Ar rl.length cr, .slice An nn cn, .slice Ag ng cg] :: F) K) (fun i _ => L.length - (intOf i).toNat)
 case atStart => exact ⟨0, rfl, by omega, Lib.hid fun i h => by omega, hS⟩
 case round =>
  clear hS
  obtain ⟨j, rfl, hj, HZ, hS⟩ := hrel
  by_cases hlj : j < L.length
  ·obtain ⟨f1, f2⟩ := Bc L j hlj
   have hz : L[j]? = some (L.getD j (0, 0)) := C4 (0, 0) hlj
   generalize L.getD j (0, 0) = z at *
   have HZJ := Lib.hid hz
   have HB : Hid ((r < z.1 \/ r < z.2) -> kb = false) := Lib.hid (HQ1.out z (List.mem_of_getElem? hz))
   clear hz
   obtain ⟨za, zb⟩ := z
   dsimp only at f1 f2 HB
   by_cases hza : r < za \/ r < zb
   ·obtain rfl : kb = false := HB.out hza
    by_cases hz1 : r < za
    all_goals
     go_wp2_with (first
      | ((with_reducible refine qB ?_); refine qc ?_ ?_ <;> intro h_ <;> go_prune)
      | ((with_reducible refine qI ?_); refine qj hS Tryz.underlying25 ?_; intro b_ j_ hc0_ hc1_)
      | ((with_reducible refine qA 5 ?_); refine AU hS rfl _ rfl (by kernel_rfl) ?_; clear hS; intro g5 w_ hS; (try simp only [Act.put, Act.eval, zz, Value.cells] at hS))
      | ((with_reducible refine qM ?_); (first | refine qS hS ?_ | refine qT hS ?_); clear hS; intro w_ hS; (try simp only [Act.put, Act.eval, zz, Value.cells] at hS))
      | ((with_reducible refine qK ?_); refine qC hS ?_))
     go_ret
     exact ⟨rfl, hS.sub ((List.sublist_cons_self _ _).trans (List.sublist_cons_self _ _))⟩
   ·have hz1 : za <= r := by omega
    have hz2 : zb <= r := by omega
    clear hza
    go_wp2_with (first
     | ((with_reducible refine qB ?_); refine qc ?_ ?_ <;> intro h_ <;> go_prune)
     | ((with_reducible refine qI ?_); refine qj hS Tryz.underlying25 ?_; intro b_ j_ hc0_ hc1_)
     | ((with_reducible refine qA 5 ?_); refine AU hS rfl _ rfl (by kernel_rfl) ?_; clear hS; intro g5 w_ hS; (try simp only [Act.put, Act.eval, zz, Value.cells] at hS))
     | ((with_reducible refine qM ?_); (first | refine qS hS ?_ | refine qT hS ?_); clear hS; intro w_ hS; (try simp only [Act.put, Act.eval, zz, Value.cells] at hS))
     | ((with_reducible refine qK ?_); refine qC hS ?_))
    refine ⟨⟨j + 1, by go_num, hlj, Lib.hid fun i hi z hz => ?_, hS.sub (List.sublist_cons_self _ _)⟩, by simp [intOf]; omega⟩
    rcases Nat.lt_or_ge i j with h3 | h3
    ·exact HZ.out i h3 z hz
    ·obtain rfl : i = j := by omega
     rw [HZJ.out] at hz
     obtain rfl := Option.some.inj hz
     exact ⟨hz1, hz2⟩
  ·obtain rfl : j = L.length := by omega
   have HZ1 : Hid (∀ z ∈ L, z.1 <= r /\ z.2 <= r) := Lib.hid fun z hz => by
    obtain ⟨i, hi⟩ := List.mem_iff_getElem?.1 hz
    exact HZ.out i (List.getElem?_eq_some_iff.1 hi).1 z hi
   clear HZ HQ1
   go_wp2_with (first | ((with_reducible refine qB ?_); refine qc ?_ ?_ <;> intro h_ <;> go_prune) | ((with_reducible refine qK ?_); refine qC hS ?_))
   go_loopw [35] (fun i wr => ∃ j : Nat, i = .int .i64 (j : Nat) /\ j <= rl.length /\ Hid (∀ i, i < j -> ∀ z, rl[i]? = some z -> 1 <= z.target /\ z.target <= (r : Int)) /\ St w0 wr (.box g1 30 #[.int .i64 (r : Nat), .slice Al L.length cl, .int .u64 (st : Nat), .slice Ar rl.length cr, .slice An nn cn, .slice Ag ng cg] :: F) K) (fun i _ => rl.length - (intOf i).toNat)
   case atStart => exact ⟨0, rfl, by omega, Lib.hid fun i h => by omega, hS⟩
   case round =>
    clear hS
    obtain ⟨j, rfl, hj, HZ, hS⟩ := hrel
    by_cases hlj : j < rl.length
    ·obtain ⟨b, o, rfl, c0, c1, c2, c3, c4⟩ := rr_at (kr _ _ hS.ro) hlj
     have hz : rl[j]? = some (rl.getD j Bg) := C4 Bg hlj
     generalize rl.getD j Bg = z at *
     have HZJ := Lib.hid hz
     have HB : Hid ((z.target < 1 \/ (r : Int) < z.target) -> kb = false) := Lib.hid (HQ2.out z (List.mem_of_getElem? hz))
     clear hz
     obtain ⟨zr, zy, zn, zt, zo⟩ := z
     dsimp only at c0 c1 c2 c3 c4 HB
     by_cases hza : zt < 1 \/ (r : Int) < zt
     ·obtain rfl : kb = false := HB.out hza
      by_cases hz1 : zt < 1
      all_goals
       go_wp2_with (first
        | ((with_reducible refine qB ?_); refine qc ?_ ?_ <;> intro h_ <;> go_prune)
        | ((with_reducible refine qA 38 ?_); refine BigFrame.wpList_want rfl fun _ hK => Bb (cs := [.bool zr, .int .u64 (zy : Nat), .int .u64 (zn : Nat), .int .i64 zt, .int .i64 zo]) rfl rfl (JF c0 c1 c2 c3 c4) Tryz.underlying109 rfl (by kernel_rfl) (hK _ _ ?_))
        | ((with_reducible refine qA 7 ?_); refine qa hS #[.bool false, .int .u64 0, .int .u64 0, .int .i64 0, .int .i64 0] ?_; clear hS; intro g7 w_ hS)
        | ((with_reducible refine qM ?_); (first | refine qS hS ?_ | refine qT hS ?_); clear hS; intro w_ hS; (try simp only [Act.put, Act.eval, zz, Value.cells] at hS))
        | ((with_reducible refine qK ?_); refine qC hS ?_))
       go_ret
       exact ⟨rfl, hS.sub ((List.sublist_cons_self _ _).trans (List.sublist_cons_self _ _))⟩
     ·have hz1 : 1 <= zt := by omega
      have hz2 : zt <= (r : Int) := by omega
      clear hza
      go_wp2_with (first
       | ((with_reducible refine qB ?_); refine qc ?_ ?_ <;> intro h_ <;> go_prune)
       | ((with_reducible refine qA 38 ?_); refine BigFrame.wpList_want rfl fun _ hK => Bb (cs := [.bool zr, .int .u64 (zy : Nat), .int .u64 (zn : Nat), .int .i64 zt, .int .i64 zo]) rfl rfl (JF c0 c1 c2 c3 c4) Tryz.underlying109 rfl (by kernel_rfl) (hK _ _ ?_))
       | ((with_reducible refine qA 7 ?_); refine qa hS #[.bool false, .int .u64 0, .int .u64 0, .int .i64 0, .int .i64 0] ?_; clear hS; intro g7 w_ hS)
       | ((with_reducible refine qM ?_); (first | refine qS hS ?_ | refine qT hS ?_); clear hS; intro w_ hS; (try simp only [Act.put, Act.eval, zz, Value.cells] at hS))
       | ((with_reducible refine qK ?_); refine qC hS ?_))
      refine ⟨⟨j + 1, by go_num, hlj, Lib.hid fun i hi z hz => ?_, hS.sub (List.sublist_cons_self _ _)⟩, by simp [intOf]; omega⟩
      rcases Nat.lt_or_ge i j with h3 | h3
      ·exact HZ.out i h3 z hz
      ·obtain rfl : i = j := by omega
       rw [HZJ.out] at hz
       obtain rfl := Option.some.inj hz
       exact ⟨hz1, hz2⟩
    ·obtain rfl : j = rl.length := by omega
     have HZ2 : Hid (∀ z ∈ rl, 1 <= z.target /\ z.target <= (r : Int)) := Lib.hid fun z hz => by
      obtain ⟨i, hi⟩ := List.mem_iff_getElem?.1 hz
      exact HZ.out i (List.getElem?_eq_some_iff.1 hi).1 z hi
     clear HZ HQ2
     go_wp2_with (first
      | ((with_reducible refine qB ?_); refine qc ?_ ?_ <;> intro h_ <;> go_prune)
      | ((with_reducible refine qK ?_); refine qL hS Tryz.underlying30 ?_)
      | (go_at_call 57; refine (HCu.out _ _ _ _ _ hS HKP.out).mono ?_; clear hS; rintro r_ w_ ⟨u, rfl, hS⟩; obtain ⟨Au, cuc, rfl, _, _⟩ := Sl.shape hS.ro.2)
      | ((with_reducible refine qK ?_); refine qC hS ?_))
     obtain ⟨K2, k2, kc, hS2⟩ : ∃ K2 : (Nat -> Prop) -> World -> Prop, (∀ D w, K2 D w -> K D w) /\ (∀ D w, K2 D w -> Sl w D 2 (.slice Au cu.length cuc) cu.length (AH cu)) /\ St w0 w_ (.box g1 30 #[.int .i64 (r : Nat), .slice Al L.length cl, .int .u64 (st : Nat), .slice Ar rl.length cr, .slice An nn cn, .slice Ag ng cg] :: F) K2 := ⟨_, fun _ _ h => h.1, fun _ _ h => h.2, hS⟩
     clear hS
     have hS := hS2
     clear hS2
     go_loopw [53] (fun i wr => ∃ j : Nat, i = .int .i64 (j : Nat) /\ j <= cu.length /\ Hid (∀ i, i < j -> ∀ z, cu[i]? = some z -> (z.1 ||| z.2) &&& Br N = 0) /\ St w0 wr (.box g1 30 #[.int .i64 (r : Nat), .slice Al L.length cl, .int .u64 (st : Nat), .slice Ar rl.length cr, .slice An nn cn, .slice Ag ng cg] :: F) K2) (fun i _ => cu.length - (intOf i).toNat)
     case atStart => exact ⟨0, rfl, by omega, Lib.hid fun i h => by omega, hS⟩
     case round =>
      clear hS
      obtain ⟨j, rfl, hj, HZ, hS⟩ := hrel
      by_cases hlj : j < cu.length
      ·obtain ⟨f1, f2⟩ := ED cu j hlj
       have hz : cu[j]? = some (cu.getD j (0, 0)) := C4 (0, 0) hlj
       generalize cu.getD j (0, 0) = z at *
       have HZJ := Lib.hid hz
       have hzs := HSM.out z (List.mem_of_getElem? hz)
       have HB : Hid ((z.1 ||| z.2) &&& Br N ≠ 0 -> kb = false) := Lib.hid (HQ3.out z (List.mem_of_getElem? hz))
       clear hz
       obtain ⟨za, zb⟩ := z
       dsimp only at f1 f2 HB hzs
       have HY : Hid (za < AA) := Lib.hid hzs.1
       have HM : Hid (zb < AA) := Lib.hid hzs.2
       have HYM : Hid (za ||| zb < AA) := Lib.hid (JQ hzs.1 hzs.2)
       clear hzs
       obtain ⟨x, hx⟩ : ∃ x, (za ||| zb) &&& Br N = x := ⟨_, rfl⟩
       rw [hx] at HB
       have HX := Lib.hid hx
       clear hx
       have HRun : Hid (∀ (w : World) t, (binOp .andNot t (.int .u64 ((za ||| zb : Nat) : Int)) (.int .u64 (N : Nat))).run Tryz.prog w = .ok (.int .u64 (x : Nat)) w) := Lib.hid fun w t => by rw [<- HX.out]; exact ER HYM.out HN.out
       by_cases hx0 : x = 0
       ·subst hx0
        go_wp2_with (first
         | ((with_reducible refine qB ?_); refine qc ?_ ?_ <;> intro h_ <;> go_prune)
         | ((with_reducible refine qI ?_); refine qj hS Tryz.underlying28 ?_; intro b_ j_ hc0_ hc1_)
         | ((with_reducible refine qA 9 ?_); refine AU hS rfl _ rfl (by kernel_rfl) ?_; clear hS; intro g9 w_ hS; (try simp only [Act.put, Act.eval, zz, Value.cells] at hS))
         | ((with_reducible refine qM ?_); (first | refine qS hS ?_ | refine qT hS ?_); clear hS; intro w_ hS; (try simp only [Act.put, Act.eval, zz, Value.cells] at hS))
         | ((with_reducible refine qA 61 ?_); refine BigFrame.wpList_want rfl fun _ hK => Ax rfl rfl rfl rfl (run_orW HY.out HM.out) (hK _ _ ?_))
         | ((with_reducible refine qA 63 ?_); refine BigFrame.wpList_want rfl fun _ hK => Ax rfl rfl rfl rfl (HRun.out _ _) (hK _ _ ?_))
         | ((with_reducible refine qK ?_); refine qC hS ?_))
        refine ⟨⟨j + 1, by go_num, hlj, Lib.hid fun i hi z hz => ?_, hS.sub (List.sublist_cons_self _ _)⟩, by simp [intOf]; omega⟩
        rcases Nat.lt_or_ge i j with h3 | h3
        ·exact HZ.out i h3 z hz
        ·obtain rfl : i = j := by omega
         rw [HZJ.out] at hz
         obtain rfl := Option.some.inj hz
         exact HX.out
       ·obtain rfl : kb = false := HB.out hx0
        go_wp2_with (first
         | ((with_reducible refine qB ?_); refine qc ?_ ?_ <;> intro h_ <;> go_prune)
         | ((with_reducible refine qI ?_); refine qj hS Tryz.underlying28 ?_; intro b_ j_ hc0_ hc1_)
         | ((with_reducible refine qA 9 ?_); refine AU hS rfl _ rfl (by kernel_rfl) ?_; clear hS; intro g9 w_ hS; (try simp only [Act.put, Act.eval, zz, Value.cells] at hS))
         | ((with_reducible refine qM ?_); (first | refine qS hS ?_ | refine qT hS ?_); clear hS; intro w_ hS; (try simp only [Act.put, Act.eval, zz, Value.cells] at hS))
         | ((with_reducible refine qA 61 ?_); refine BigFrame.wpList_want rfl fun _ hK => Ax rfl rfl rfl rfl (run_orW HY.out HM.out) (hK _ _ ?_))
         | ((with_reducible refine qA 63 ?_); refine BigFrame.wpList_want rfl fun _ hK => Ax rfl rfl rfl rfl (HRun.out _ _) (hK _ _ ?_))
         | ((with_reducible refine qK ?_); refine qC hS ?_))
        go_ret
        exact ⟨rfl, (hS.sub ((List.sublist_cons_self _ _).trans (List.sublist_cons_self _ _))).mono KS.out fun D w h => k2 _ _ h⟩
      ·obtain rfl : j = cu.length := by omega
       have HZ3 : Hid (∀ z ∈ cu, (z.1 ||| z.2) &&& Br N = 0) := Lib.hid fun z hz => by
        obtain ⟨i, hi⟩ := List.mem_iff_getElem?.1 hz
        exact HZ.out i (List.getElem?_eq_some_iff.1 hi).1 z hi
       have HKB : Hid (kb = decide (st &&& Br N = 0)) := Lib.hid (HQ4.out HZ1.out HZ2.out HZ3.out)
       clear HZ HQ3 HQ4
       obtain ⟨x, hx⟩ : ∃ x, st &&& Br N = x := ⟨_, rfl⟩
       rw [hx] at HKB
       have HX := Lib.hid hx
       clear hx
       have HRun : Hid (∀ (w : World) t, (binOp .andNot t (.int .u64 (st : Nat)) (.int .u64 (N : Nat))).run Tryz.prog w = .ok (.int .u64 (x : Nat)) w) := Lib.hid fun w t => by rw [<- HX.out]; exact ER HST.out HN.out
       by_cases hx0 : x = 0
       ·subst hx0
        obtain rfl : kb = true := HKB.out
        go_wp2_with (first
         | ((with_reducible refine qB ?_); refine qc ?_ ?_ <;> intro h_ <;> go_prune)
         | ((with_reducible refine qA 69 ?_); refine BigFrame.wpList_want rfl fun _ hK => Ax rfl rfl rfl rfl (HRun.out _ _) (hK _ _ ?_))
         | ((with_reducible refine qK ?_); refine qC hS ?_))
        go_ret
        exact ⟨rfl, (hS.sub (List.sublist_cons_self _ _)).mono KS.out fun D w h => k2 _ _ h⟩
       ·obtain rfl : kb = false := HKB.out.trans (decide_eq_false hx0)
        go_wp2_with (first
         | ((with_reducible refine qB ?_); refine qc ?_ ?_ <;> intro h_ <;> go_prune)
         | ((with_reducible refine qA 69 ?_); refine BigFrame.wpList_want rfl fun _ hK => Ax rfl rfl rfl rfl (HRun.out _ _) (hK _ _ ?_))
         | ((with_reducible refine qK ?_); refine qC hS ?_))
        go_ret
        exact ⟨rfl, (hS.sub (List.sublist_cons_self _ _)).mono KS.out fun D w h => k2 _ _ h⟩
end
section
open Go.RowKit
attribute [local go_sem ↓] Go.wp_at_zero Go.wp_at_succ
set_option maxRecDepth 20000
set_option exponentiation.threshold 5000
theorem rgood31g_any {w0 : World} {D : Nat -> Prop} {v : Value} {p : AV} {L : List (Nat × Nat)} {s : Nat} (hp : B9 w0 D v p) (hR : Kj p L) :
  Calls Tryz.prog 28 #[v, .int .u64 (s : Nat)] w0 (Az (fun x _ => x = .bool (goodB p s)) w0) := by
 obtain ⟨R, lk, st, rl, nl, gl⟩ := p
 obtain rfl : lk = some L := hR.links
 obtain ⟨Al, cl, Ar, cr, An, cn, Ag, cg, rfl, -⟩ := Dk hR.links hp
 dsimp only at hp ⊢
 obtain ⟨K, kp, hS⟩ : ∃ K : (Nat -> Prop) -> World -> Prop, (∀ D w, K D w -> B9 w D (.agg #[.int .i64 R, .slice Al L.length cl, .int .u64 (st : Nat), .slice Ar rl.length cr, .slice An nl.length cn, .slice Ag gl.length cg]) ⟨R, some L, st, rl, nl, gl⟩) /\ St w0 w0 [] K := ⟨_, fun _ _ h => h, St.start CH hp⟩
 have kl : ∀ D w, K D w -> Sl w D 2 (.slice Al L.length cl) L.length (A6 L) := fun D w h => (BZ rfl (kp D w h)).1
 have kn : ∀ D w, K D w -> BW w D (.slice An nl.length cn) nl := fun D w h => (BZ rfl (kp D w h)).2.2.1
 have HL := Lib.hid (show Ga 64 L from hR.hok.inr)
 have hlen := hR.len
 have HSM : Hid (Small nl) := Lib.hid hR.fits.never
 clear hp hR kp
 obtain ⟨b, hb⟩ : ∃ b, nl.any (fun z => BT z (closM L s)) = b := ⟨_, rfl⟩
 have HG : Hid (goodB ⟨R, some L, st, rl, nl, gl⟩ s = !b) := Lib.hid (by rw [<- hb]; rfl)
 have HB := Lib.hid hb
 clear hb
 go_enter Tryz.func28, Tryz.ntmps28
 go_wp2_with (first | ((with_reducible refine qA 2 ?_); refine AF hS rfl _ _ rfl (.agg #[.int .i64 R, .slice Al L.length cl, .int .u64 (st : Nat), .slice Ar rl.length cr, .slice An nl.length cn, .slice Ag gl.length cg]) _ rfl rfl ?_; clear hS; intro g2 w_ hS; (try simp only [Act.put, Act.eval, zz, Value.cells] at hS)))
 refine E7 [.q g2 4, .i (.slice An nl.length cn), .q g2 1, .i (.slice Al L.length cl), .i (.int .u64 (s : Nat)), .i (.int .u64 (closM L s : Nat)), .i (.bool b), .i (.bool (!b)), .i (.bool (!b))] ⟨uF, uC (h := fun w hW hN => (hS.ext hW).shut 0 rfl 4 rfl), uF, uC (h := fun w hW hN => (hS.ext hW).shut 0 rfl 1 rfl), uM, ?_, ?_, uU, uA, trivial⟩ ?_
 ·refine uT fun b__ w hW hE K hK => ?_
  have e8 := hE 8
  have e9 := hE 9
  exact AP rfl (by kernel_rfl) (by simp only [List.map_cons, List.map_nil, e8, e9]) (rclos_any (kl _ _ (hS.ext hW).ro) HL.out (by omega) s) fun v w' h hb => hK v w' h hb
 ·refine uT fun b__ w hW hE K hK => ?_
  have e6 := hE 6
  have e10 := hE 10
  exact AP rfl (by kernel_rfl) (by simp only [List.map_cons, List.map_nil, e6, e10]) (rsome_any (kn _ _ (hS.ext hW).ro) HSM.out (closM_ltT L s)) fun v w' h hb => hK v w' (h.trans (by rw [HB.out])) hb
 ·intro vs wz hW hT
  obtain ⟨e5, e6, e7, e8, e9, e10, e11, e12, e4, -⟩ := hT
  simp only [AO, Act.put, zz, ze]
  rw [e4]
  go_wp2_with fail
  go_ret
  exact Az.mk (by rw [HG.out]; rfl) (Cw hS.below hW)
theorem K9 {w : World} {x y : Operand} {a b : Array Value} : (eqGuard .neq 50 x y (.agg a) (.agg b)).run Tryz.prog w = .ok () w := by kernel_rfl
theorem run_ncube {w : World} {y n : Nat} {b : Bool} (h : (decide (y = 0) && decide (n = 0)) = b) : (binOp .neq 50 (.agg #[.int .u64 (y : Nat), .int .u64 (n : Nat)]) (.agg #[.int .u64 0, .int .u64 0])).run Tryz.prog w = .ok (.bool (!b)) w := by
 subst h
 by_cases h1 : y = 0 <;> by_cases h2 : n = 0 <;> go_simp <;> simp [h1, h2] <;> omega
set_option maxHeartbeats 4000000 in
theorem rcheck31_any {w0 : World} {D : Nat -> Prop} {v : Value} {p : AV} {L : List (Nat × Nat)} (hp : B9 w0 D v p) (hR : Kj p L) :
  Calls Tryz.prog 14 #[v] w0 (Az (fun x _ => x = .int .i64 (checkE p)) w0) := by
 obtain ⟨R, lk, st, rl, nl, gl⟩ := p
 obtain rfl : lk = some L := hR.links
 obtain ⟨Al, cl, Ar, cr, An, cn, Ag, cg, rfl, -⟩ := Dk hR.links hp
 dsimp only at hp ⊢
 obtain ⟨K, kp, hS⟩ : ∃ K : (Nat -> Prop) -> World -> Prop, (∀ D w, K D w -> B9 w D (.agg #[.int .i64 R, .slice Al L.length cl, .int .u64 (st : Nat), .slice Ar rl.length cr, .slice An nl.length cn, .slice Ag gl.length cg]) ⟨R, some L, st, rl, nl, gl⟩) /\ St w0 w0 [] K := ⟨_, fun _ _ h => h, St.start CH hp⟩
 have kr : ∀ D w, K D w -> Sl w D 5 (.slice Ar rl.length cr) rl.length (AW rl) := fun D w h => (BZ rfl (kp D w h)).2.1
 have HKP := Lib.hid kp
 have HRF := Lib.hid hR
 have hl1 := hR.fits.rlen
 have hl2 := hR.fits.nlen
 have hl3 := hR.fits.glen
 dsimp only at hl1 hl2 hl3
 clear hp kp hR
 have HE := Lib.hid (show checkE ⟨R, some L, st, rl, nl, gl⟩ = if R < 1 \/ 63 < R then 1 else if 64 < rl.length \/ 2000 < nl.length \/ 2000 < gl.length then 3
  else if CO ⟨R, some L, st, rl, nl, gl⟩ L (AX R.toNat) = false then 4 else if ((AV.cubes ⟨R, some L, st, rl, nl, gl⟩).any fun z => z.1 &&& z.2 != 0) = true \/ rl.all JH = false then 6
  else if goodB ⟨R, some L, st, rl, nl, gl⟩ st = false then 7 else 0 from rfl)
 generalize checkE ⟨R, some L, st, rl, nl, gl⟩ = RES at *
 by_cases hRr : R < 1 \/ 63 < R
 ·have hE : RES = 1 := by rw [HE.out, if_pos hRr]
  subst hE
  by_cases hR1 : R < 1
  all_goals
   go_enter Tryz.func14, Tryz.ntmps14
   go_wp2_with (first
    | ((with_reducible refine qA 1 ?_); refine AF hS rfl _ _ rfl (.agg #[.int .i64 R, .slice Al L.length cl, .int .u64 (st : Nat), .slice Ar rl.length cr, .slice An nl.length cn, .slice Ag gl.length cg]) _ rfl rfl ?_; clear hS; intro g1 w_ hS; (try simp only [Act.put, Act.eval, zz, Value.cells] at hS))
    | ((with_reducible refine qK ?_); refine qC hS ?_)
    | ((with_reducible refine qB ?_); refine qc ?_ ?_ <;> intro h_ <;> go_prune)
    )
   go_ret
   exact Az.mk rfl hS.below
 obtain ⟨r, rfl⟩ : ∃ r : Nat, R = (r : Int) := ⟨R.toNat, by omega⟩
 have hr63 : 1 <= r /\ r <= 63 := by omega
 replace HE := Lib.hid (HE.out.trans (if_neg hRr))
 clear hRr
 rw [Int.toNat_natCast] at HE
 by_cases hN : 64 < rl.length \/ 2000 < nl.length \/ 2000 < gl.length
 ·have hE : RES = 3 := by rw [HE.out, if_pos hN]
  subst hE
  have hN1 : 64 < rl.length := by omega
  clear hN
  go_enter Tryz.func14, Tryz.ntmps14
  go_wp2_with (first
   | ((with_reducible refine qA 1 ?_); refine AF hS rfl _ _ rfl (.agg #[.int .i64 (r : Nat), .slice Al L.length cl, .int .u64 (st : Nat), .slice Ar rl.length cr, .slice An nl.length cn, .slice Ag gl.length cg]) _ rfl rfl ?_; clear hS; intro g1 w_ hS; (try simp only [Act.put, Act.eval, zz, Value.cells] at hS))
   | ((with_reducible refine qK ?_); refine qC hS ?_)
   | ((with_reducible refine qB ?_); refine qc ?_ ?_ <;> intro h_ <;> go_prune)
   )
  go_ret
  exact Az.mk rfl hS.below
 have hN1 : rl.length <= 64 /\ nl.length <= 2000 /\ gl.length <= 2000 := by omega
 obtain ⟨hN1, hN2, hN3⟩ := hN1
 replace HE := Lib.hid (HE.out.trans (if_neg hN))
 clear hN
 obtain ⟨kb, hkb⟩ : ∃ kb, CO ⟨(r : Int), some L, st, rl, nl, gl⟩ L (AX r) = kb := ⟨_, rfl⟩
 have HUN : Hid (∀ (w : World) (F : List A7), St w0 w F K -> Calls Tryz.prog 56 #[.agg #[.int .i64 (r : Nat), .slice Al L.length cl, .int .u64 (st : Nat), .slice Ar rl.length cr, .slice An nl.length cn, .slice Ag gl.length cg]] w fun e w' => e = .returned (.bool (!kb)) /\ St w0 w' F K) := Lib.hid fun w F h => by
  rw [<- hkb]
  exact runknown_any HRF.out rfl hr63.1 hr63.2 h HKP.out
 rw [hkb] at HE
 clear hkb
 have HCU : Hid (∀ (w : World) (F : List A7), St w0 w F K -> Calls Tryz.prog 57 #[.agg #[.int .i64 (r : Nat), .slice Al L.length cl, .int .u64 (st : Nat), .slice Ar rl.length cr, .slice An nl.length cn, .slice Ag gl.length cg]] w fun e w' => ∃ u, e = .returned u /\ St w0 w' F fun D w => K D w /\ BW w D u (AV.cubes ⟨(r : Int), some L, st, rl, nl, gl⟩)) := Lib.hid fun w F h => Hd HRF.out h HKP.out
 have HSM := Lib.hid HRF.out.small
 have hcl := cubes_len ⟨(r : Int), some L, st, rl, nl, gl⟩
 dsimp only at hcl
 obtain ⟨cu, hcu⟩ : ∃ cu, AV.cubes ⟨(r : Int), some L, st, rl, nl, gl⟩ = cu := ⟨_, rfl⟩
 rw [hcu] at HE HCU HSM hcl
 clear hcu
 have hcl2 : cu.length <= 5000 := by omega
 clear hcl
 obtain ⟨gb, hgb⟩ : ∃ gb, goodB ⟨(r : Int), some L, st, rl, nl, gl⟩ st = gb := ⟨_, rfl⟩
 have HGB : Hid (∀ (w : World) (D : Nat -> Prop) (v : Value), B9 w D v ⟨(r : Int), some L, st, rl, nl, gl⟩ -> Calls Tryz.prog 28 #[v, .int .u64 (st : Nat)] w (Az (fun x _ => x = .bool gb) w)) := Lib.hid fun w D v h => by
  rw [<- hgb]
  exact rgood31g_any h HRF.out
 rw [hgb] at HE
 clear hgb HRF
 go_enter Tryz.func14, Tryz.ntmps14
 cases kb
 ·have hE : RES = 4 := HE.out.trans (if_pos rfl)
  subst hE
  go_wp2_with (first
   | ((with_reducible refine qA 1 ?_); refine AF hS rfl _ _ rfl (.agg #[.int .i64 (r : Nat), .slice Al L.length cl, .int .u64 (st : Nat), .slice Ar rl.length cr, .slice An nl.length cn, .slice Ag gl.length cg]) _ rfl rfl ?_; clear hS; intro g1 w_ hS; (try simp only [Act.put, Act.eval, zz, Value.cells] at hS))
   | ((with_reducible refine qK ?_); refine qL hS Tryz.underlying30 ?_)
   | (go_at_call 56; refine (HUN.out _ _ hS).mono ?_; clear hS; rintro r_ w_ ⟨rfl, hS⟩)
   | ((with_reducible refine qK ?_); refine qC hS ?_)
   | ((with_reducible refine qB ?_); refine qc ?_ ?_ <;> intro h_ <;> go_prune))
  go_ret
  exact Az.mk rfl hS.below
 replace HE := Lib.hid (HE.out.trans (if_neg (by decide)))
 go_wp2_with (first
  | ((with_reducible refine qA 1 ?_); refine AF hS rfl _ _ rfl (.agg #[.int .i64 (r : Nat), .slice Al L.length cl, .int .u64 (st : Nat), .slice Ar rl.length cr, .slice An nl.length cn, .slice Ag gl.length cg]) _ rfl rfl ?_; clear hS; intro g1 w_ hS; (try simp only [Act.put, Act.eval, zz, Value.cells] at hS))
  | ((with_reducible refine qK ?_); refine qL hS Tryz.underlying30 ?_)
  | (go_at_call 56; refine (HUN.out _ _ hS).mono ?_; clear hS; rintro r_ w_ ⟨rfl, hS⟩)
  | (go_at_call 57; refine (HCU.out _ _ hS).mono ?_; clear hS; rintro r_ w_ ⟨u, rfl, hS⟩; obtain ⟨Au, cuc, rfl, _, _⟩ := Sl.shape hS.ro.2)
  | ((with_reducible refine qK ?_); refine qC hS ?_)
  | ((with_reducible refine qB ?_); refine qc ?_ ?_ <;> intro h_ <;> go_prune))
 obtain ⟨K2, k2, kc, hS2⟩ : ∃ K2 : (Nat -> Prop) -> World -> Prop, (∀ D w, K2 D w -> K D w) /\ (∀ D w, K2 D w -> Sl w D 2 (.slice Au cu.length cuc) cu.length (AH cu)) /\ St w0 w_ [.box g1 30 #[.int .i64 (r : Nat), .slice Al L.length cl, .int .u64 (st : Nat), .slice Ar rl.length cr, .slice An nl.length cn, .slice Ag gl.length cg]] K2 := ⟨_, fun _ _ h => h.1, fun _ _ h => h.2, hS⟩
 clear hS
 have hS := hS2
 clear hS2
 go_loopw [36] (fun i wr => ∃ j : Nat, i = .int .i64 (j : Nat) /\ j <= cu.length /\ Hid (∀ i, i < j -> ∀ z, cu[i]? = some z -> (z.1 &&& z.2 != 0) = false) /\ St w0 wr [.box g1 30 #[.int .i64 (r : Nat), .slice Al L.length cl, .int .u64 (st : Nat), .slice Ar rl.length cr, .slice An nl.length cn, .slice Ag gl.length cg]] K2) (fun i _ => cu.length - (intOf i).toNat)
 case atStart => exact ⟨0, rfl, by omega, Lib.hid fun i h => by omega, hS⟩
 case round =>
  clear hS
  obtain ⟨j, rfl, hj, HZ, hS⟩ := hrel
  by_cases hlj : j < cu.length
  ·obtain ⟨f1, f2⟩ := ED cu j hlj
   have hz : cu[j]? = some (cu.getD j (0, 0)) := C4 (0, 0) hlj
   generalize cu.getD j (0, 0) = z at *
   have HZJ := Lib.hid hz
   have hzs := HSM.out z (List.mem_of_getElem? hz)
   clear hz
   obtain ⟨za, zb⟩ := z
   dsimp only at f1 f2 hzs
   obtain ⟨eb, heb⟩ : ∃ eb, (za &&& zb != 0) = eb := ⟨_, rfl⟩
   have HEM : Hid (∀ w : World, Calls Tryz.prog 58 #[.agg #[.int .u64 (za : Nat), .int .u64 (zb : Nat)]] w (Az (fun x _ => x = .bool eb) w)) := Lib.hid fun w => by rw [<- heb]; exact rempty_any za zb w hzs.1 hzs.2
   have HEB := Lib.hid heb
   clear heb hzs
   cases eb
   ·go_wp2_with (first
     | ((with_reducible refine qB ?_); refine qc ?_ ?_ <;> intro h_ <;> go_prune)
     | ((with_reducible refine qI ?_); refine qj hS Tryz.underlying28 ?_; intro b_ j_ hc0_ hc1_)
     | ((with_reducible refine qA 4 ?_); refine AU hS rfl _ rfl (by kernel_rfl) ?_; clear hS; intro g4 w_ hS; (try simp only [Act.put, Act.eval, zz, Value.cells] at hS))
     | ((with_reducible refine qM ?_); (first | refine qS hS ?_ | refine qT hS ?_); clear hS; intro w_ hS; (try simp only [Act.put, Act.eval, zz, Value.cells] at hS))
     | ((with_reducible refine qK ?_); refine qL hS Tryz.underlying50 ?_)
     | (go_at_call 58; refine (HEM.out _).mono ?_; rintro r_ w_ ⟨_, rfl, rfl, hb_⟩; replace hS := hS.ext hb_; clear hb_)
     | ((with_reducible refine qK ?_); refine qC hS ?_))
    refine ⟨⟨j + 1, by go_num, hlj, Lib.hid fun i hi z hz => ?_, hS.sub (List.sublist_cons_self _ _)⟩, by simp [intOf]; omega⟩
    rcases Nat.lt_or_ge i j with h3 | h3
    ·exact HZ.out i h3 z hz
    ·obtain rfl : i = j := by omega
     rw [HZJ.out] at hz
     obtain rfl := Option.some.inj hz
     exact HEB.out
   ·obtain rfl : RES = 6 := HE.out.trans (if_pos (.inl (List.any_eq_true.2 ⟨_, List.mem_of_getElem? HZJ.out, HEB.out⟩)))
    go_wp2_with (first
     | ((with_reducible refine qB ?_); refine qc ?_ ?_ <;> intro h_ <;> go_prune)
     | ((with_reducible refine qI ?_); refine qj hS Tryz.underlying28 ?_; intro b_ j_ hc0_ hc1_)
     | ((with_reducible refine qA 4 ?_); refine AU hS rfl _ rfl (by kernel_rfl) ?_; clear hS; intro g4 w_ hS; (try simp only [Act.put, Act.eval, zz, Value.cells] at hS))
     | ((with_reducible refine qM ?_); (first | refine qS hS ?_ | refine qT hS ?_); clear hS; intro w_ hS; (try simp only [Act.put, Act.eval, zz, Value.cells] at hS))
     | ((with_reducible refine qK ?_); refine qL hS Tryz.underlying50 ?_)
     | (go_at_call 58; refine (HEM.out _).mono ?_; rintro r_ w_ ⟨_, rfl, rfl, hb_⟩; replace hS := hS.ext hb_; clear hb_)
     | ((with_reducible refine qK ?_); refine qC hS ?_))
    go_ret
    exact Az.mk rfl hS.below
  ·obtain rfl : j = cu.length := by omega
   have HZ1 : Hid ((cu.any fun z => z.1 &&& z.2 != 0) = false) := Lib.hid (by
    rw [List.any_eq_false]
    intro z hz
    obtain ⟨i, hi⟩ := List.mem_iff_getElem?.1 hz
    rw [HZ.out i (List.getElem?_eq_some_iff.1 hi).1 z hi]; decide)
   clear HZ
   go_wp2_with (first | ((with_reducible refine qB ?_); refine qc ?_ ?_ <;> intro h_ <;> go_prune) | ((with_reducible refine qK ?_); refine qC hS ?_))
   go_loopw [46] (fun i wr => ∃ j : Nat, i = .int .i64 (j : Nat) /\ j <= rl.length /\ Hid (∀ i, i < j -> ∀ z, rl[i]? = some z -> JH z = true) /\ St w0 wr [.box g1 30 #[.int .i64 (r : Nat), .slice Al L.length cl, .int .u64 (st : Nat), .slice Ar rl.length cr, .slice An nl.length cn, .slice Ag gl.length cg]] K2) (fun i _ => rl.length - (intOf i).toNat)
   case atStart => exact ⟨0, rfl, by omega, Lib.hid fun i h => by omega, hS⟩
   case round =>
    clear hS
    obtain ⟨j, rfl, hj, HZ, hS⟩ := hrel
    by_cases hlj : j < rl.length
    ·obtain ⟨b, o, rfl, c0, c1, c2, c3, c4⟩ := rr_at (kr _ _ (k2 _ _ hS.ro)) hlj
     have hz : rl[j]? = some (rl.getD j Bg) := C4 Bg hlj
     generalize rl.getD j Bg = z at *
     have HZJ := Lib.hid hz
     clear hz
     obtain ⟨zr, zy, zn, zt, zo⟩ := z
     dsimp only at c0 c1 c2 c3 c4
     obtain ⟨zz, hzz⟩ : ∃ zz, (!(decide (zy = 0) && decide (zn = 0))) = zz := ⟨_, rfl⟩
     have HRV : Hid (JH ⟨zr, zy, zn, zt, zo⟩ = (!zr || !zz)) := Lib.hid (by unfold JH; rw [<- hzz, Bool.not_not]; rfl)
     have HNC : Hid (∀ w : World, (binOp .neq 50 (.agg #[.int .u64 (zy : Nat), .int .u64 (zn : Nat)]) (.agg #[.int .u64 0, .int .u64 0])).run Tryz.prog w = .ok (.bool zz) w) := Lib.hid fun w => by rw [<- hzz]; exact run_ncube rfl
     clear hzz
     cases zr
     ·go_wp2_with (first
       | ((with_reducible refine qB ?_); refine qc ?_ ?_ <;> intro h_ <;> go_prune)
       | ((with_reducible refine qA 49 ?_); refine BigFrame.wpList_want rfl fun _ hK => Bb (cs := [.bool false, .int .u64 (zy : Nat), .int .u64 (zn : Nat), .int .i64 zt, .int .i64 zo]) rfl rfl (JF c0 c1 c2 c3 c4) Tryz.underlying109 rfl (by kernel_rfl) (hK _ _ ?_))
       | ((with_reducible refine qA 6 ?_); refine qa hS #[.bool false, .int .u64 0, .int .u64 0, .int .i64 0, .int .i64 0] ?_; clear hS; intro g6 w_ hS)
       | ((with_reducible refine qM ?_); (first | refine qS hS ?_ | refine qT hS ?_); clear hS; intro w_ hS; (try simp only [Act.put, Act.eval, zz, Value.cells] at hS))
       | ((with_reducible refine qK ?_); refine qC hS ?_))
      refine ⟨⟨j + 1, by go_num, hlj, Lib.hid fun i hi z hz => ?_, hS.sub (List.sublist_cons_self _ _)⟩, by simp [intOf]; omega⟩
      rcases Nat.lt_or_ge i j with h3 | h3
      ·exact HZ.out i h3 z hz
      ·obtain rfl : i = j := by omega
       rw [HZJ.out] at hz
       obtain rfl := Option.some.inj hz
       rfl
     ·cases zz
      ·go_wp2_with (first
        | ((with_reducible refine qA 49 ?_); refine BigFrame.wpList_want rfl fun _ hK => Bb (cs := [.bool true, .int .u64 (zy : Nat), .int .u64 (zn : Nat), .int .i64 zt, .int .i64 zo]) rfl rfl (JF c0 c1 c2 c3 c4) Tryz.underlying109 rfl (by kernel_rfl) (hK _ _ ?_))
        | ((with_reducible refine qA 6 ?_); refine qa hS #[.bool false, .int .u64 0, .int .u64 0, .int .i64 0, .int .i64 0] ?_; clear hS; intro g6 w_ hS)
        | ((with_reducible refine qM ?_); (first | refine qS hS ?_ | refine qT hS ?_); clear hS; intro w_ hS; (try simp only [Act.put, Act.eval, zz, Value.cells] at hS))
        | ((with_reducible refine qk 50 ?_); refine Ey hS 0 rfl _ _ rfl _ _ rfl _ _ rfl _ _ rfl rfl Tryz.underlying50 rfl (by kernel_rfl) ?_)
        | ((with_reducible refine qA 55 ?_); refine BigFrame.wpList_want rfl fun _ hK => CL rfl (ps := []) (by simp) (cells := #[.int .u64 0, .int .u64 0]) (by kernel_rfl) (hK _ _ ?_))
        | ((with_reducible refine qA 56 ?_); refine BigFrame.wpList_want rfl fun _ hK => Ax rfl rfl rfl K9 (HNC.out _) (hK _ _ ?_))
        | ((with_reducible refine qB ?_); refine qc ?_ ?_ <;> intro h_ <;> go_prune)
        | ((with_reducible refine qK ?_); refine qC hS ?_))
       refine ⟨⟨j + 1, by go_num, hlj, Lib.hid fun i hi z hz => ?_, hS.sub (List.sublist_cons_self _ _)⟩, by simp [intOf]; omega⟩
       rcases Nat.lt_or_ge i j with h3 | h3
       ·exact HZ.out i h3 z hz
       ·obtain rfl : i = j := by omega
        rw [HZJ.out] at hz
        obtain rfl := Option.some.inj hz
        exact HRV.out
      ·obtain rfl : RES = 6 := HE.out.trans (if_pos (.inr (List.all_eq_false.2 ⟨_, List.mem_of_getElem? HZJ.out, by rw [HRV.out]; decide⟩)))
       go_wp2_with (first
        | ((with_reducible refine qA 49 ?_); refine BigFrame.wpList_want rfl fun _ hK => Bb (cs := [.bool true, .int .u64 (zy : Nat), .int .u64 (zn : Nat), .int .i64 zt, .int .i64 zo]) rfl rfl (JF c0 c1 c2 c3 c4) Tryz.underlying109 rfl (by kernel_rfl) (hK _ _ ?_))
        | ((with_reducible refine qA 6 ?_); refine qa hS #[.bool false, .int .u64 0, .int .u64 0, .int .i64 0, .int .i64 0] ?_; clear hS; intro g6 w_ hS)
        | ((with_reducible refine qM ?_); (first | refine qS hS ?_ | refine qT hS ?_); clear hS; intro w_ hS; (try simp only [Act.put, Act.eval, zz, Value.cells] at hS))
        | ((with_reducible refine qk 50 ?_); refine Ey hS 0 rfl _ _ rfl _ _ rfl _ _ rfl _ _ rfl rfl Tryz.underlying50 rfl (by kernel_rfl) ?_)
        | ((with_reducible refine qA 55 ?_); refine BigFrame.wpList_want rfl fun _ hK => CL rfl (ps := []) (by simp) (cells := #[.int .u64 0, .int .u64 0]) (by kernel_rfl) (hK _ _ ?_))
        | ((with_reducible refine qA 56 ?_); refine BigFrame.wpList_want rfl fun _ hK => Ax rfl rfl rfl K9 (HNC.out _) (hK _ _ ?_))
        | ((with_reducible refine qB ?_); refine qc ?_ ?_ <;> intro h_ <;> go_prune)
        | ((with_reducible refine qK ?_); refine qC hS ?_))
       go_ret
       exact Az.mk rfl hS.below
    ·obtain rfl : j = rl.length := by omega
     have HZ2 : Hid (rl.all JH = true) := Lib.hid (List.all_eq_true.2 fun z hz => by
      obtain ⟨i, hi⟩ := List.mem_iff_getElem?.1 hz
      exact HZ.out i (List.getElem?_eq_some_iff.1 hi).1 z hi)
     replace HE := Lib.hid (HE.out.trans (if_neg (by rw [HZ1.out, HZ2.out]; simp)))
     clear HZ
     cases gb
     ·obtain rfl : RES = 7 := HE.out
      go_wp2_with (first
       | ((with_reducible refine qB ?_); refine qc ?_ ?_ <;> intro h_ <;> go_prune)
       | ((with_reducible refine qK ?_); refine qL hS Tryz.underlying30 ?_)
       | (go_at_call 28; refine (HGB.out _ _ _ (HKP.out _ _ (k2 _ _ hS.ro))).mono ?_; rintro r_ w_ ⟨_, rfl, rfl, hb_⟩; replace hS := hS.ext hb_; clear hb_)
       | ((with_reducible refine qK ?_); refine qC hS ?_))
      go_ret
      exact Az.mk rfl hS.below
     ·obtain rfl : RES = 0 := HE.out
      go_wp2_with (first
       | ((with_reducible refine qB ?_); refine qc ?_ ?_ <;> intro h_ <;> go_prune)
       | ((with_reducible refine qK ?_); refine qL hS Tryz.underlying30 ?_)
       | (go_at_call 28; refine (HGB.out _ _ _ (HKP.out _ _ (k2 _ _ hS.ro))).mono ?_; rintro r_ w_ ⟨_, rfl, rfl, hb_⟩; replace hS := hS.ext hb_; clear hb_)
       | ((with_reducible refine qK ?_); refine qC hS ?_))
      go_ret
      exact Az.mk rfl hS.below
end
section
open Go.RowKit
attribute [local go_sem ↓] Go.wp_at_zero Go.wp_at_succ
set_option maxRecDepth 20000
set_option exponentiation.threshold 5000
theorem run_snd (g : Nat) (w : World) : (Instr.indexAt 107 (.pointer (some ⟨g, 0, none⟩)) (.int .i64 1)).run Tryz.prog w = .ok (.pointer (some ⟨g, 1, none⟩)) w := by
 go_simp
end
section
open Go.RowKit
attribute [local go_sem ↓] Go.wp_at_zero Go.wp_at_succ
set_option maxRecDepth 20000
theorem Jc : Bi Tryz.prog 37 26 1 8 := ⟨Tryz.underlying37, by kernel_rfl⟩
theorem shl8 {x : Nat} (hx : x < 256) (r : Nat) (h : r < 8) : IntKind.u64.wrap ((x : Int) * 2 ^ (8 * r)) = ((x * 2 ^ (8 * r) : Nat) : Int) /\ x * 2 ^ (8 * r) < AA := by
 have hp : (2 : Nat) ^ (8 * r) <= 2 ^ 56 := Nat.pow_le_pow_right (by decide) (by omega)
 have hy : x * 2 ^ (8 * r) < AA := by
  have : x * 2 ^ (8 * r) <= 255 * 2 ^ 56 := Nat.mul_le_mul (by omega) hp
  unfold AA; omega
 refine ⟨?_, hy⟩
 have e : ((x : Int) * 2 ^ (8 * r)) = ((x * 2 ^ (8 * r) : Nat) : Int) := by push_cast; rfl
 rw [e]
 exact C1 hy
theorem St.put64 {w0 w : World} {F : List A7} {K : (Nat -> Prop) -> World -> Prop} (h : St w0 w F K) (i : Nat) {g n cap : Nat} {e : TypeId} {L : List Nat} (hi : F[i]? = some (.own (.slice (some ⟨g, 0, none⟩) n cap) e 1 n (Ai L))) (k z : Nat) :
  St w0 (w.setCell ⟨g, k, none⟩ (.int .u64 (z : Nat))).drew (F.set i (.own (.slice (some ⟨g, 0, none⟩) n cap) e 1 n (Ai (L.set k z)))) K :=
 (h.upd i hi (.own (.slice (some ⟨g, 0, none⟩) n cap) e 1 n (Ai (L.set k z))) ((h.own i hi).stored k (.int .u64 (z : Nat))).2 (Jf (h.own i hi) (Below.refl _ _)) fun _ e => .inl e).drew
end
section
open Go.RowKit
attribute [local go_sem ↓] Go.wp_at_zero Go.wp_at_succ
set_option maxRecDepth 20000
end
section
open Go.RowKit
set_option maxRecDepth 20000
end
section
open Go.RowKit
attribute [local go_sem ↓] Go.wp_at_zero Go.wp_at_succ
set_option maxRecDepth 20000
def C0 (r : Bool) (pv qv : Value) : Array Value := (Aa (List.replicate 32 0) ++ [.bool r, pv, qv]).toArray
theorem cert_one (r : Bool) (A A' : Option Addr) (n c n' c' : Nat) : (C0 r (.slice A n c) (.slice A' n' c')).all (·.oneCell') = true := by
 refine all_oneCell_toArray fun v hv => ?_
 rcases List.mem_append.1 hv with h | h
 ·exact B3 _ v h
 ·simp at h; rcases h with rfl | rfl | rfl <;> rfl
theorem Ix (r : Bool) (pv qv : Value) : (C0 r pv qv).size = 35 := by simp [C0, Aa]
theorem G4 (r : Bool) (pv qv : Value) : (Tryz.prog.info? 96).map (·.size) = some (C0 r pv qv).size := by
 rw [Ix]; kernel_rfl
theorem Af.none_ {w : World} {D : Nat -> Prop} : Af w D (.slice none 0 0) [] := ⟨[], Sl.none_, fun i y n h => by simp at h⟩
theorem Af.one {w : World} {b : Nat} {t : TypeId} {y n : Value} {Y N : Nat} {D E : Nat -> Prop} (h : AQ w b t #[y, n]) (hy : A5 w D (.agg #[y]) Y) (hn : A5 w E (.agg #[n]) N) : Af w (fun _ => True) (.slice (some ⟨b, 0, none⟩) 1 1) [(Y, N)] :=
 ⟨[y, n], (Sl.of_box (n := 1) (size := 2) h rfl (by omega)).imp fun _ _ _ => trivial, fun i a c hi => by
  match i, hi with
  | 0, hi => simp at hi; obtain ⟨rfl, rfl⟩ := hi; exact ⟨y, n, rfl, rfl, hy.imp fun _ _ _ => trivial, hn.imp fun _ _ _ => trivial⟩⟩
theorem str_eql {a b : ByteArray} (h : (a.toList == b.toList) = true) (w : World) : (binOp .eql 9 (.string a) (.string b)).run Tryz.prog w = .ok (.bool true) w := by
 go_simp
set_option maxHeartbeats 4000000 in
theorem awake_any (w : World) (hT : Iy w) :
  Calls Tryz.prog 39 #[] w (Az (fun x _ => x = .bool true) w) := by
 obtain ⟨i0, hi, hz0, hz1, hz2⟩ := info_parts Hu
 obtain ⟨z, hz⟩ : ∃ z, z = Ff (List.replicate 32 0) := ⟨_, rfl⟩
 have HZ := Lib.hid hz
 clear hz
 go_enter Tryz.func39, Tryz.ntmps39
 go_wp2_with (first
  | (at_make; refine wpList_make_full _ rfl _ _ 22 rfl w.heap.size 5 i0 (.int .u8 0) 1 Tryz.underlying22 hi hz0 hz1 _ _ _ _ 32 rfl rfl (by omega) (by omega) (by rw [hz2]; omega) (by unfold maxLen; omega) (Nat.le_refl _) ?_; intro w1 hown hgrow; rw [Nat.mul_one, show (Value.int .u8 0).cells = #[Value.int .u8 0] from rfl, F4] at hown; have hcv := conv_sl (l := List.replicate 32 0) (Sl.of_own hown) (Dt 32); rw [<- HZ.out] at hcv; have hB := (Below.refl w.heap.size w).grown hgrow (by omega) (by simp); clear hown hgrow)
  | ((with_reducible refine qA 6 ?_); refine Bx rfl _ 3 _ _ rfl Tryz.underlying74 #[.int .i64 2, .int .i64 0] (by kernel_rfl) ?_; intro w2 hX hb; have hl1 := hX.lt; have hP := Sl.of_box (n := 2) (size := 1) hX rfl (by omega); replace hB := hB.trans (hb.mono hB.size); clear hX hb hcv)
  | ((with_reducible refine qA 7 ?_); refine Bo rfl _ _ rfl (C0 true (.slice (some ⟨w1.heap.size, 0, none⟩) 2 2) (.slice none 0 0)) (by kernel_rfl) ?_)
  | ((with_reducible refine qA 2 ?_); refine CV rfl _ rfl (by kernel_rfl) ?_; intro w3 hA hb; replace hP := hP.ext hb; have hl2 := hA.lt; have hl3 := hB.size; replace hB := hB.trans (hb.mono hB.size); clear hb)
  | ((with_reducible refine qN ?_); go_loud (refine CU rfl 96 _ _ rfl w2.heap.size (C0 true (.slice (some ⟨w1.heap.size, 0, none⟩) 2 2) (.slice none 0 0)) rfl rfl _ _ hA (G4 _ _ _) (by rw [Ix]; kernel_rfl) (cert_one _ _ _ _ _ _ _) ?_); go_loud (intro w4 hC hU); replace hP := hP.upd hU (fun b h hl => by omega); replace hB := hU.below hB (by omega); clear hA hU))
 have hS8 := fun (w : World) (x : Int) => Sl.new w 3 (Bk [x]) (by simp [Bk])
 have H8 := Lib.hid hS8
 clear hS8
 have hP5 := hP.ext ((Below.refl _ w4).alloc (Nat.le_refl _) (.cells #[.int .i64 1] 3))
 refine (of_any _ [1] _ _ (H8.out w4 1)).mono ?_
 rintro e w6 ⟨v9, rfl, h9, hb⟩
 replace hb : Below w4.heap.size w4 w6 := ((Below.refl _ w4).alloc (Nat.le_refl _) _).trans (hb.mono (by simp))
 replace hP := hP.ext hb
 replace hC := hC.ext hb
 have hl4 := hC.lt
 have hs6 := hb.size
 replace hB := hB.trans (hb.mono hB.size)
 clear hb hP5
 obtain ⟨A9, c9, l9, rfl, _⟩ := id h9.parts
 go_wp2_with fail
 refine (of_any _ [3] _ _ (H8.out w6 3)).mono ?_
 rintro e w8 ⟨v11, rfl, h11, hb⟩
 replace hb : Below w6.heap.size w6 w8 := ((Below.refl _ w6).alloc (Nat.le_refl _) _).trans (hb.mono (by simp))
 replace hP := hP.ext hb
 replace hC := hC.ext hb
 replace h9 := h9.ext hb
 have hs8 := hb.size
 replace hB := hB.trans (hb.mono hB.size)
 clear hb
 obtain ⟨A11, c11, l11, rfl, _⟩ := id h11.parts
 go_wp2_with (first
  | ((with_reducible refine qA 12 ?_); refine Bo rfl _ _ rfl #[.slice A9 l9.length c9, .slice A11 l11.length c11] (by kernel_rfl) ?_)
  | ((with_reducible refine qA 13 ?_); refine Bx rfl _ 56 _ _ rfl Tryz.underlying41 #[.slice A9 l9.length c9, .slice A11 l11.length c11] (by kernel_rfl) ?_; intro w9 hX hb; have hl8 := hX.lt; have hq := (Af.one hX (h9.ext hb) (h11.ext hb)).imp (D' := (· < w9.heap.size)) (fun _ _ h => h); replace hP := hP.ext hb; replace hC := hC.ext hb; replace hB := hB.trans (hb.mono hB.size); clear hX h9 h11 hb)
  | ((with_reducible refine qA 14 ?_); refine Bo rfl _ _ rfl (C0 false (.slice none 0 0) (.slice (some ⟨w8.heap.size, 0, none⟩) 1 1)) (by kernel_rfl) ?_)
  | ((with_reducible refine qA 3 ?_); refine CV rfl _ rfl (by kernel_rfl) ?_; intro w10 hA hb; have hl9 := hA.lt; have hs9 := hB.size; replace hP := hP.ext hb; replace hC := hC.ext hb; replace hq := hq.ext hb; replace hB := hB.trans (hb.mono hB.size); clear hb)
  | ((with_reducible refine qN ?_); refine CU rfl 96 _ _ rfl w9.heap.size (C0 false (.slice none 0 0) (.slice (some ⟨w8.heap.size, 0, none⟩) 1 1)) rfl rfl _ _ hA (G4 _ _ _) (by rw [Ix]; kernel_rfl) (cert_one _ _ _ _ _ _ _) ?_; intro w11 hC2 hU; replace hP := hP.upd hU (fun b h hl => by omega); replace hC := hC.upd hU (by omega); replace hq := hq.upd hU (fun b h hl => by omega); replace hB := hU.below hB (by omega); clear hA hU))
 have hcA : Ce w11 (fun _ => True) (.agg (C0 true (.slice (some ⟨w1.heap.size, 0, none⟩) 2 2) (.slice none 0 0))) G1 := Ce.of (plan := [2, 0]) (cubes := []) (by simp) (Dt 32) (hP.imp fun _ _ _ => trivial) Af.none_
 have hcB : Ce w11 (fun _ => True) (.agg (C0 false (.slice none 0 0) (.slice (some ⟨w8.heap.size, 0, none⟩) 1 1))) exB := Ce.of (plan := []) (cubes := [(2, 8)]) (by simp) (Dt 32) Sl.none_ (hq.imp fun _ _ _ => trivial)
 replace hT := hT.ext hB
 have hzs : z.size <= 32 := by rw [HZ.out, strOf_size]; simp
 have hqA : ((Ff (AC G1)).toList == (z ++ { data := #[1, 2, 2, 0, 0] }).toList) = true := by rw [HZ.out, exA_bytes]; simp
 have hqB : ((Ff (AC exB)).toList == (z ++ { data := #[0, 0, 1, 1, 2, 1, 8] }).toList) = true := by rw [HZ.out, exB_bytes]; simp
 have cvA := fun (w : World) (D : Nat -> Prop) (v : Value) (h : Sl w D 1 v (AC G1).length (Aa (AC G1))) => conv_sl h exA_by
 have cvB := fun (w : World) (D : Nat -> Prop) (v : Value) (h : Sl w D 1 v (AC exB).length (Aa (AC exB))) => conv_sl h exB_by
 generalize Ff (AC G1) = sA at *
 generalize Ff (AC exB) = sB at *
 have HCA := Lib.hid cvA
 have HCB := Lib.hid cvB
 have heq := exA_id
 have hidl := idC_len G1
 have htl := fun (w : World) => fun (pv p : Value) (D : Nat -> Prop) (hT : Iy w) (h1 : Sl w D 1 pv 1 [p]) (h2 : Sl w D 1 p (AC G1).length (Aa (AC G1))) => Gq G5 pv p (AC G1) w D hT h1 h2 exA_by (by decide) (by have := exA_len; omega)
 rw [<- heq] at htl
 have hidc := fun (w : World) (D : Nat -> Prop) (v : Value) (hT : Iy w) (h : Ce w D v G1) => cid_any v G1 w D hT h
 generalize idC G1 = idl at *
 have kI := fun (w : World) => eql_id w idl idl hidl hidl
 simp only [BEq.rfl] at kI
 have HTL := Lib.hid htl
 have HID := Lib.hid hidc
 have hiA := G4 true (.slice (some ⟨w1.heap.size, 0, none⟩) 2 2) (.slice none 0 0)
 have hiB := G4 false (.slice none 0 0) (.slice (some ⟨w8.heap.size, 0, none⟩) 1 1)
 generalize C0 true (.slice (some ⟨w1.heap.size, 0, none⟩) 2 2) (.slice none 0 0) = cA at *
 generalize C0 false (.slice none 0 0) (.slice (some ⟨w8.heap.size, 0, none⟩) 1 1) = cB at *
 clear hP hq cvA cvB heq hidl htl hidc
 refine Fe (fun i v w => match i with
  | 0 => v = .agg cA
  | 1 => Sl w (fun _ => True) 1 v (AC G1).length (Aa (AC G1))
  | 2 => v = .string sA
  | 3 => v = .string z
  | 4 => v = .string (z ++ { data := #[1, 2, 2, 0, 0] })
  | 5 => v = .bool true
  | 6 => v = .bool true
  | 7 => v = .agg cB
  | 8 => Sl w (fun _ => True) 1 v (AC exB).length (Aa (AC exB))
  | 9 => v = .string sB
  | 10 => v = .string z
  | 11 => v = .string (z ++ { data := #[0, 0, 1, 1, 2, 1, 8] })
  | 12 => v = .bool true
  | 13 => v = .bool true
  | 14 => v = .bool true
  | 15 => v = .agg cA
  | 16 => v = .agg (Aa idl).toArray
  | 17 => v = .agg cA
  | 18 => Sl w (fun _ => True) 1 v (AC G1).length (Aa (AC G1))
  | 19 => ∃ p, Sl w (fun _ => True) 1 v 1 [p] /\ Sl w (fun _ => True) 1 p (AC G1).length (Aa (AC G1))
  | 20 => v = .agg (Aa idl).toArray
  | 21 => v = .bool true
  | 22 => v = .bool true
  | 23 => v = .bool true
  | _ => True) (by kernel_rfl) (by kernel_rfl) ?mono ⟨?r0, ?r1, ?r2, ?r3, ?r4, ?r5, ?r6, ?r7, ?r8, ?r9, ?r10, ?r11, ?r12, ?r13, ?r14, ?r15, ?r16, ?r17, ?r18, ?r19, ?r20, ?r21, ?r22, ?r23, trivial⟩ ?post
 case mono =>
  intro i v w w' h hb
  match i, h with
  | 0, h => exact h
  | 1, h => exact Sl.ext h hb
  | 2, h | 3, h | 4, h | 5, h | 6, h | 7, h => exact h
  | 8, h => exact Sl.ext h hb
  | 9, h | 10, h | 11, h | 12, h | 13, h | 14, h | 15, h | 16, h | 17, h => exact h
  | 18, h => exact Sl.ext h hb
  | 19, h => exact (let ⟨p, h1, h2⟩ := h; ⟨p, h1.ext hb, h2.ext hb⟩)
  | 20, h | 21, h | 22, h | 23, h => exact h
  | _ + 24, h => trivial
 case r0 =>
  refine BO fun b w hW hold hpre => ⟨fun hwant K hK => ?_, fun hwant => ?_⟩
  ·clear hwant
   have e2 : b.eval (.tmp 2) = .pointer (some ⟨w2.heap.size, 0, none⟩) := (hold 2 (by kernel_rfl)).trans rfl
   exact CW rfl e2 (hC.ext (Bh hW)) Tryz.underlying96 rfl hiA (hK _ _ rfl (Below.refl _ _))
  ·exact wo hwant
 case r1 =>
  refine BO fun b w hW hold hpre => ⟨fun hwant K hK => ?_, fun hwant => ?_⟩
  ·clear hwant
   have e15 : b.eval (.tmp 15) = .agg cA := hpre ⟨0, _⟩ (Array.mem_of_getElem? (i := 0) rfl) rfl _ _ rfl rfl
   exact AP rfl (by kernel_rfl) (by simp [e15]) (F9 _ G1 w _ (hcA.ext (Bh hW))) fun v w' h hb => hK v w' (h.imp fun _ _ _ => trivial) hb
  ·exact wo hwant
 case r2 =>
  refine BO fun b w hW hold hpre => ⟨fun hwant K hK => ?_, fun hwant => ?_⟩
  ·clear hwant
   have e16 : (fun (v : Value) (w : World) => Sl w (fun _ => True) 1 v (AC G1).length (Aa (AC G1))) (b.eval (.tmp 16)) w := hpre ⟨1, _⟩ (Array.mem_of_getElem? (i := 0) rfl) rfl _ _ rfl rfl
   exact BR rfl rfl (HCA.out w _ _ e16) (hK _ _ rfl (Below.refl _ _))
  ·exact wo hwant
 case r3 =>
  refine BO fun b w hW hold hpre => ⟨fun hwant K hK => ?_, fun hwant => ?_⟩
  ·clear hwant
   have e1 : b.eval (.tmp 1) = .string z := (hold 1 (by kernel_rfl)).trans rfl
   exact BB rfl e1 (hK _ _ rfl (Below.refl _ _))
  ·exact wo hwant
 case r4 =>
  refine BO fun b w hW hold hpre => ⟨fun hwant K hK => ?_, fun hwant => ?_⟩
  ·clear hwant
   have e18 : b.eval (.tmp 18) = .string z := hpre ⟨3, _⟩ (Array.mem_of_getElem? (i := 0) rfl) rfl _ _ rfl rfl
   exact Ax (vy := .string { data := #[1, 2, 2, 0, 0] }) rfl e18 rfl rfl (by rw [binOp_string_add]; exact run_string_add_sum _ _ _ (by have h5 : ({ data := #[1, 2, 2, 0, 0] } : ByteArray).size = 5 := rfl; omega)) (hK _ _ rfl (Below.refl _ _))
  ·exact wo hwant
 case r5 =>
  refine BO fun b w hW hold hpre => ⟨fun hwant K hK => ?_, fun hwant => ?_⟩
  ·clear hwant
   have e17 : b.eval (.tmp 17) = .string sA := hpre ⟨2, _⟩ (Array.mem_of_getElem? (i := 0) rfl) rfl _ _ rfl rfl
   have e19 : b.eval (.tmp 19) = .string (z ++ { data := #[1, 2, 2, 0, 0] }) := hpre ⟨4, _⟩ (Array.mem_of_getElem? (i := 1) rfl) rfl _ _ rfl rfl
   exact Ax rfl e17 e19 rfl (str_eql hqA w) (hK _ _ rfl (Below.refl _ _))
  ·exact wo hwant
 case r6 =>
  refine BO fun b w hW hold hpre => ⟨fun hwant K hK => ?_, fun hwant => ?_⟩
  ·clear hwant
   have e20 : b.eval (.tmp 20) = .bool true := hpre ⟨5, _⟩ (Array.mem_of_getElem? (i := 0) rfl) rfl _ _ rfl rfl
   exact BB rfl e20 (hK _ _ rfl (Below.refl _ _))
  ·exact wo hwant
 case r7 =>
  refine BO fun b w hW hold hpre => ⟨fun hwant K hK => ?_, fun hwant => ?_⟩
  ·clear hwant
   have e3 : b.eval (.tmp 3) = .pointer (some ⟨w9.heap.size, 0, none⟩) := (hold 3 (by kernel_rfl)).trans rfl
   exact CW rfl e3 (hC2.ext (Bh hW)) Tryz.underlying96 rfl hiB (hK _ _ rfl (Below.refl _ _))
  ·rw [Bn rfl rfl rfl (show b.eval (.tmp 21) = .bool true from hpre ⟨6, _⟩ (Array.mem_of_getElem? (i := 0) rfl) rfl _ _ rfl rfl)] at hwant; cases hwant
 case r8 =>
  refine BO fun b w hW hold hpre => ⟨fun hwant K hK => ?_, fun hwant => ?_⟩
  ·clear hwant
   have e22 : b.eval (.tmp 22) = .agg cB := hpre ⟨7, _⟩ (Array.mem_of_getElem? (i := 0) rfl) rfl _ _ rfl rfl
   exact AP rfl (by kernel_rfl) (by simp [e22]) (F9 _ exB w _ (hcB.ext (Bh hW))) fun v w' h hb => hK v w' (h.imp fun _ _ _ => trivial) hb
  ·rw [Bn rfl rfl rfl (show b.eval (.tmp 21) = .bool true from hpre ⟨6, _⟩ (Array.mem_of_getElem? (i := 1) rfl) rfl _ _ rfl rfl)] at hwant; cases hwant
 case r9 =>
  refine BO fun b w hW hold hpre => ⟨fun hwant K hK => ?_, fun hwant => ?_⟩
  ·clear hwant
   have e23 : (fun (v : Value) (w : World) => Sl w (fun _ => True) 1 v (AC exB).length (Aa (AC exB))) (b.eval (.tmp 23)) w := hpre ⟨8, _⟩ (Array.mem_of_getElem? (i := 0) rfl) rfl _ _ rfl rfl
   exact BR rfl rfl (HCB.out w _ _ e23) (hK _ _ rfl (Below.refl _ _))
  ·rw [Bn rfl rfl rfl (show b.eval (.tmp 21) = .bool true from hpre ⟨6, _⟩ (Array.mem_of_getElem? (i := 1) rfl) rfl _ _ rfl rfl)] at hwant; cases hwant
 case r10 =>
  refine BO fun b w hW hold hpre => ⟨fun hwant K hK => ?_, fun hwant => ?_⟩
  ·clear hwant
   have e1 : b.eval (.tmp 1) = .string z := (hold 1 (by kernel_rfl)).trans rfl
   exact BB rfl e1 (hK _ _ rfl (Below.refl _ _))
  ·rw [Bn rfl rfl rfl (show b.eval (.tmp 21) = .bool true from hpre ⟨6, _⟩ (Array.mem_of_getElem? (i := 0) rfl) rfl _ _ rfl rfl)] at hwant; cases hwant
 case r11 =>
  refine BO fun b w hW hold hpre => ⟨fun hwant K hK => ?_, fun hwant => ?_⟩
  ·clear hwant
   have e25 : b.eval (.tmp 25) = .string z := hpre ⟨10, _⟩ (Array.mem_of_getElem? (i := 0) rfl) rfl _ _ rfl rfl
   exact Ax (vy := .string { data := #[0, 0, 1, 1, 2, 1, 8] }) rfl e25 rfl rfl (by rw [binOp_string_add]; exact run_string_add_sum _ _ _ (by have h7 : ({ data := #[0, 0, 1, 1, 2, 1, 8] } : ByteArray).size = 7 := rfl; omega)) (hK _ _ rfl (Below.refl _ _))
  ·rw [Bn rfl rfl rfl (show b.eval (.tmp 21) = .bool true from hpre ⟨6, _⟩ (Array.mem_of_getElem? (i := 1) rfl) rfl _ _ rfl rfl)] at hwant; cases hwant
 case r12 =>
  refine BO fun b w hW hold hpre => ⟨fun hwant K hK => ?_, fun hwant => ?_⟩
  ·clear hwant
   have e24 : b.eval (.tmp 24) = .string sB := hpre ⟨9, _⟩ (Array.mem_of_getElem? (i := 0) rfl) rfl _ _ rfl rfl
   have e26 : b.eval (.tmp 26) = .string (z ++ { data := #[0, 0, 1, 1, 2, 1, 8] }) := hpre ⟨11, _⟩ (Array.mem_of_getElem? (i := 1) rfl) rfl _ _ rfl rfl
   exact Ax rfl e24 e26 rfl (str_eql hqB w) (hK _ _ rfl (Below.refl _ _))
  ·rw [Bn rfl rfl rfl (show b.eval (.tmp 21) = .bool true from hpre ⟨6, _⟩ (Array.mem_of_getElem? (i := 2) rfl) rfl _ _ rfl rfl)] at hwant; cases hwant
 case r13 =>
  refine BO fun b w hW hold hpre => ⟨fun hwant K hK => ?_, fun hwant => ?_⟩
  ·clear hwant
   have e21 : b.eval (.tmp 21) = .bool true := hpre ⟨6, _⟩ (Array.mem_of_getElem? (i := 0) rfl) rfl _ _ rfl rfl
   have e27 : b.eval (.tmp 27) = .bool true := hpre ⟨12, _⟩ (Array.mem_of_getElem? (i := 1) rfl) rfl _ _ rfl rfl
   exact JS rfl e21 (if_pos rfl) (hK _ _ e27 (Below.refl _ _))
  ·exact wo hwant
 case r14 =>
  refine BO fun b w hW hold hpre => ⟨fun hwant K hK => ?_, fun hwant => ?_⟩
  ·clear hwant
   have e28 : b.eval (.tmp 28) = .bool true := hpre ⟨13, _⟩ (Array.mem_of_getElem? (i := 0) rfl) rfl _ _ rfl rfl
   exact BB rfl e28 (hK _ _ rfl (Below.refl _ _))
  ·exact wo hwant
 case r15 =>
  refine BO fun b w hW hold hpre => ⟨fun hwant K hK => ?_, fun hwant => ?_⟩
  ·clear hwant
   have e2 : b.eval (.tmp 2) = .pointer (some ⟨w2.heap.size, 0, none⟩) := (hold 2 (by kernel_rfl)).trans rfl
   exact CW rfl e2 (hC.ext (Bh hW)) Tryz.underlying96 rfl hiA (hK _ _ rfl (Below.refl _ _))
  ·rw [Bn rfl rfl rfl (show b.eval (.tmp 29) = .bool true from hpre ⟨14, _⟩ (Array.mem_of_getElem? (i := 0) rfl) rfl _ _ rfl rfl)] at hwant; cases hwant
 case r16 =>
  refine BO fun b w hW hold hpre => ⟨fun hwant K hK => ?_, fun hwant => ?_⟩
  ·clear hwant
   have e30 : b.eval (.tmp 30) = .agg cA := hpre ⟨15, _⟩ (Array.mem_of_getElem? (i := 0) rfl) rfl _ _ rfl rfl
   exact AP rfl (by kernel_rfl) (by simp [e30]) (HID.out w _ _ (hT.ext (Bh hW)) (hcA.ext (Bh hW))) fun v w' h hb => hK v w' h hb
  ·rw [Bn rfl rfl rfl (show b.eval (.tmp 29) = .bool true from hpre ⟨14, _⟩ (Array.mem_of_getElem? (i := 1) rfl) rfl _ _ rfl rfl)] at hwant; cases hwant
 case r17 =>
  refine BO fun b w hW hold hpre => ⟨fun hwant K hK => ?_, fun hwant => ?_⟩
  ·clear hwant
   have e2 : b.eval (.tmp 2) = .pointer (some ⟨w2.heap.size, 0, none⟩) := (hold 2 (by kernel_rfl)).trans rfl
   exact CW rfl e2 (hC.ext (Bh hW)) Tryz.underlying96 rfl hiA (hK _ _ rfl (Below.refl _ _))
  ·rw [Bn rfl rfl rfl (show b.eval (.tmp 29) = .bool true from hpre ⟨14, _⟩ (Array.mem_of_getElem? (i := 0) rfl) rfl _ _ rfl rfl)] at hwant; cases hwant
 case r18 =>
  refine BO fun b w hW hold hpre => ⟨fun hwant K hK => ?_, fun hwant => ?_⟩
  ·clear hwant
   have e32 : b.eval (.tmp 32) = .agg cA := hpre ⟨17, _⟩ (Array.mem_of_getElem? (i := 0) rfl) rfl _ _ rfl rfl
   exact AP rfl (by kernel_rfl) (by simp [e32]) (F9 _ G1 w _ (hcA.ext (Bh hW))) fun v w' h hb => hK v w' (h.imp fun _ _ _ => trivial) hb
  ·rw [Bn rfl rfl rfl (show b.eval (.tmp 29) = .bool true from hpre ⟨14, _⟩ (Array.mem_of_getElem? (i := 2) rfl) rfl _ _ rfl rfl)] at hwant; cases hwant
 case r19 =>
  refine BO fun b w hW hold hpre => ⟨fun hwant K hK => ?_, fun hwant => ?_⟩
  ·clear hwant
   have e33 : (fun (v : Value) (w : World) => Sl w (fun _ => True) 1 v (AC G1).length (Aa (AC G1))) (b.eval (.tmp 33)) w := hpre ⟨18, _⟩ (Array.mem_of_getElem? (i := 0) rfl) rfl _ _ rfl rfl
   obtain ⟨A, c, hp, _⟩ := Sl.shape e33
   refine D8 rfl Tryz.underlying166 (ps := [(0, .slice A (AC G1).length c)]) (by simp [hp]) (cells := #[.slice A (AC G1).length c]) (by kernel_rfl) fun w' hX hb => hK _ _ ⟨.slice A (AC G1).length c, (Sl.of_box (n := 1) (size := 1) hX rfl (by omega)).imp fun _ _ _ => trivial, ?_⟩ hb
   rw [<- hp]; exact Sl.ext e33 hb
  ·rw [Bn rfl rfl rfl (show b.eval (.tmp 29) = .bool true from hpre ⟨14, _⟩ (Array.mem_of_getElem? (i := 1) rfl) rfl _ _ rfl rfl)] at hwant; cases hwant
 case r20 =>
  refine BO fun b w hW hold hpre => ⟨fun hwant K hK => ?_, fun hwant => ?_⟩
  ·clear hwant
   have e34 : (fun (v : Value) (w : World) => ∃ p, Sl w (fun _ => True) 1 v 1 [p] /\ Sl w (fun _ => True) 1 p (AC G1).length (Aa (AC G1))) (b.eval (.tmp 34)) w := hpre ⟨19, _⟩ (Array.mem_of_getElem? (i := 0) rfl) rfl _ _ rfl rfl
   obtain ⟨p, h1, h2⟩ := e34
   exact AP (vs := [.string G5, b.eval (.tmp 34)]) rfl (by kernel_rfl) rfl (HTL.out w (b.eval (.tmp 34)) p _ (hT.ext (Bh hW)) h1 h2) fun v w' h hb => hK v w' h hb
  ·rw [Bn rfl rfl rfl (show b.eval (.tmp 29) = .bool true from hpre ⟨14, _⟩ (Array.mem_of_getElem? (i := 2) rfl) rfl _ _ rfl rfl)] at hwant; cases hwant
 case r21 =>
  refine BO fun b w hW hold hpre => ⟨fun hwant K hK => ?_, fun hwant => ?_⟩
  ·clear hwant
   have e31 : b.eval (.tmp 31) = .agg (Aa idl).toArray := hpre ⟨16, _⟩ (Array.mem_of_getElem? (i := 0) rfl) rfl _ _ rfl rfl
   have e35 : b.eval (.tmp 35) = .agg (Aa idl).toArray := hpre ⟨20, _⟩ (Array.mem_of_getElem? (i := 1) rfl) rfl _ _ rfl rfl
   exact Ax rfl e31 e35 rfl (kI w) (hK _ _ rfl (Below.refl _ _))
  ·rw [Bn rfl rfl rfl (show b.eval (.tmp 29) = .bool true from hpre ⟨14, _⟩ (Array.mem_of_getElem? (i := 2) rfl) rfl _ _ rfl rfl)] at hwant; cases hwant
 case r22 =>
  refine BO fun b w hW hold hpre => ⟨fun hwant K hK => ?_, fun hwant => ?_⟩
  ·clear hwant
   have e29 : b.eval (.tmp 29) = .bool true := hpre ⟨14, _⟩ (Array.mem_of_getElem? (i := 0) rfl) rfl _ _ rfl rfl
   have e36 : b.eval (.tmp 36) = .bool true := hpre ⟨21, _⟩ (Array.mem_of_getElem? (i := 1) rfl) rfl _ _ rfl rfl
   exact JS rfl e29 (if_pos rfl) (hK _ _ e36 (Below.refl _ _))
  ·exact wo hwant
 case r23 =>
  refine BO fun b w hW hold hpre => ⟨fun hwant K hK => ?_, fun hwant => ?_⟩
  ·clear hwant
   have e37 : b.eval (.tmp 37) = .bool true := hpre ⟨22, _⟩ (Array.mem_of_getElem? (i := 0) rfl) rfl _ _ rfl rfl
   exact Dl rfl e37 (hK _ _ rfl (Below.refl _ _))
  ·exact wo hwant
 case post =>
  intro b w hW hdf hsz hold hT
  have h0 : b.tmps.getD 0 undef = .bool true := hT 23 _ 0 rfl rfl
  go_wp2_with fail
  refine bodyPost_ret (v := .bool true) ?_ hdf (Az.mk rfl (Cw hB hW))
  rw [results_tmp (t := 0) rfl, h0]
end
section
open Go.RowKit
set_option maxRecDepth 20000
set_option exponentiation.threshold 5000
theorem t64_4096 : AA <= 2 ^ 4096 := by rw [BV]; exact Nat.pow_le_pow_right (by decide) (by decide)
theorem BC {N : Nat} (h : N < AA) : N < 2 ^ 4096 /\ (N ≠ 0 -> N.log2 <= 63) := by
 refine ⟨Nat.lt_of_lt_of_le h t64_4096, fun h0 => ?_⟩
 have := (Nat.log2_lt h0).2 (by rw [BV] at h; exact h)
 omega
end
section
open Go.RowKit
set_option maxRecDepth 20000
set_option exponentiation.threshold 5000
theorem hi7_zero (f : Nat) : hi7 f 0 = [] := by cases f <;> simp [hi7]
end
section
open Go.RowKit
set_option maxRecDepth 20000
set_option exponentiation.threshold 5000
end
section
open Go.RowKit
attribute [local go_sem ↓] Go.wp_at_zero Go.wp_at_succ
set_option maxRecDepth 20000
theorem AL.rep (n : Nat) : AL (List.replicate n 0) := fun x hx => by rw [(List.mem_replicate.1 hx).2]; decide
end
section
open Go.RowKit
attribute [local go_sem ↓] Go.wp_at_zero Go.wp_at_succ
set_option maxRecDepth 20000
set_option exponentiation.threshold 5000
theorem FQ : Bi Tryz.prog 22 5 1 1 := ⟨Tryz.underlying22, by kernel_rfl⟩
end
section
open Go.RowKit
attribute [local go_sem ↓] Go.wp_at_zero Go.wp_at_succ
set_option maxRecDepth 20000
set_option exponentiation.threshold 5000
def Fi (w : World) (base : Nat) (x : Value) (bs : List Nat) : Prop := w.ownsRow base 5 1 x bs.length (Aa bs)
set_option maxHeartbeats 1000000 in
theorem Dv (V : Nat) (hV : V < AA) (w0 : World) : Calls Tryz.prog 161 #[.int .u64 (V : Nat)] w0 (Az (fun x w' => Fi w' w0.heap.size x (Ak V)) w0) := by
 have hS := St.start0 (w := w0)
 have hR : Hid (∃ f, V / 128 < 128 ^ f /\ Ak V = (hi7 f (V / 128)).reverse ++ [V % 128]) := Lib.hid ⟨10, by unfold AA at hV; omega, by simp [Ak]⟩
 have HL := Lib.hid (Aw V)
 generalize Ak V = RES at *
 have h1 := Fq V 128
 have h2 : IntKind.u8.wrap ((V % 128 : Nat) : Int) = ((V % 128 : Nat) : Int) := Iz (by omega)
 have h0 : V % 128 < 256 := by omega
 generalize V % 128 = r0 at *
 go_enter Tryz.func161, Tryz.ntmps161
 go_wp2_with ((with_reducible show wpList _ _ _ (⟨_, .buildSlice _ 1 _, _, _, _, _⟩ :: _) _ _); refine D4 hS rfl _ 5 1 _ rfl Tryz.underlying22 #[.int .u8 (r0 : Nat)] (by kernel_rfl) 1 rfl (by decide) ?_; clear hS; intro g w_ hS)
 go_loopw [0, 3] (fun n out wr => ∃ (v : Nat) (acc : List Nat) (ov : Value), n = .int .u64 (v : Nat) /\ out = ov /\ v < AA /\ St w0 wr [.own ov 5 1 acc.length (Aa acc)] (fun _ _ => True) /\ Hid (∃ f, v / 128 < 128 ^ f /\ RES = (hi7 f (v / 128)).reverse ++ acc)) (fun n _ _ => (intOf n).toNat)
 case atStart => exact ⟨V, [r0], _, rfl, rfl, hV, hS, hR⟩
 case round =>
  clear hS
  obtain ⟨v, acc, ov, rfl, rfl, hv, hS, hR⟩ := hrel
  by_cases hb : v < 128
  ·have hE : RES = acc := by
    obtain ⟨f, _, h⟩ := hR.out
    rw [h, show v / 128 = 0 by omega, hi7_zero]; rfl
   subst hE
   go_wp2_with (first | ((with_reducible refine qB ?_); refine qc ?_ ?_ <;> intro h_ <;> go_prune))
   go_ret
   exact Az.mk (hS.own 0 rfl) hS.below
  ·obtain ⟨q, hqe⟩ : ∃ q, q = v / 128 := ⟨_, rfl⟩
   rw [<- hqe] at hR
   have h1 : ((q : Int)).tmod 128 = ((q % 128 : Nat) : Int) := Fq q 128
   have h2 : (((q % 128 : Nat) : Int)) % 256 = ((q % 128 : Nat) : Int) := by omega
   have h3 : (((q % 128 : Nat) : Int) + 128) % 256 = ((q % 128 : Nat) : Int) + 128 := by omega
   have hw : IntKind.u64.wrap ((v : Int) / 128) = ((q : Nat) : Int) := by
    rw [show (v : Int) / 128 = ((q : Nat) : Int) by rw [hqe]; simp]; exact C1 (by omega)
   have hR2 : Hid (∃ f, q / 128 < 128 ^ f /\ RES = (hi7 f (q / 128)).reverse ++ ((q % 128 + 128) :: acc)) := by
    obtain ⟨f, h, e⟩ := hR.out
    cases f with
    | zero => simp at h; omega
    | succ f =>
     refine Lib.hid ⟨f, by rw [Nat.pow_succ] at h; omega, ?_⟩
     rw [e, hi7, if_neg (by omega)]; simp
   have hlt : q < v := by omega
   have hv2 : q < AA := by omega
   have h0 : q % 128 < 128 := by omega
   generalize q % 128 = r at *
   have hal : acc.length <= 11 := by
    obtain ⟨f, _, e⟩ := hR.out
    have := congrArg List.length e
    rw [List.length_append] at this
    have := HL.out; omega
   have HQ := Lib.hid hqe
   clear hR hqe
   go_wp2_with (first
    | ((with_reducible refine qB ?_); refine qc ?_ ?_ <;> intro h_ <;> go_prune)
    | ((with_reducible show wpList _ _ _ (⟨_, .buildSlice _ 1 _, _, _, _, _⟩ :: _) _ _); refine D4 hS rfl _ 5 1 _ rfl Tryz.underlying22 #[.int .u8 ((r : Int) + 128)] (by kernel_rfl) 1 rfl (by decide) ?_; clear hS; intro g w_ hS)
    | ((with_reducible refine qA 18 ?_); refine Db hS 0 rfl _ _ _ rfl FQ _ 1 [.int .u8 ((r : Int) + 128)] rfl rfl _ _ acc.length (Aa acc) rfl (Sl.of_own (hS.own 1 rfl)) (B3 _) (by unfold maxLen; omega) (by omega) ?_; clear hS; intro v_ w_ hS; (try simp only [Act.put, Act.eval, zz, Value.cells] at hS)))
   refine ⟨⟨q, (r + 128) :: acc, v_, rfl, rfl, hv2, ?_, hR2⟩, by simp [intOf]; exact hlt⟩
   have h := hS.sub (F' := [_]) (.cons_cons _ (.cons _ .slnil))
   rw [Nat.add_comm 1] at h
   simpa [Aa] using h
theorem rflag02_any (b : Bool) (w0 : World) : Calls Tryz.prog 164 #[.bool b] w0 (Az (fun x w' => Fi w' w0.heap.size x (Bw b)) w0) := by
 have hS := St.start0 (w := w0)
 go_enter Tryz.func164, Tryz.ntmps164
 cases b
 ·go_wp2_with ((with_reducible show wpList _ _ _ (⟨_, .buildSlice _ 1 _, _, _, _, _⟩ :: _) _ _); refine D4 hS rfl _ 5 1 _ rfl Tryz.underlying22 #[.int .u8 0] (by kernel_rfl) 1 rfl (by decide) ?_; clear hS; intro g w_ hS)
  go_ret
  exact Az.mk (hS.own 0 rfl) hS.below
 ·go_wp2_with ((with_reducible show wpList _ _ _ (⟨_, .buildSlice _ 1 _, _, _, _, _⟩ :: _) _ _); refine D4 hS rfl _ 5 1 _ rfl Tryz.underlying22 #[.int .u8 1] (by kernel_rfl) 1 rfl (by decide) ?_; clear hS; intro g w_ hS)
  go_ret
  exact Az.mk (hS.own 0 rfl) hS.below
theorem Hi {w : World} {base n : Nat} {v : Value} {xs : List Value} {bs : List Nat} (h : w.ownsRow base 5 1 v n xs) (e : xs = Aa bs) : Fi w base v bs := by
 subst e
 have : bs.length = n := by have := h.1; simpa [Aa] using this
 unfold Fi; rw [this]; exact h
theorem FU (p : Value) (ps : List Nat) (hl : ps.length <= 1000000000) (w0 : World) (D : Nat -> Prop) (hp : Sl w0 D 1 p ps.length (Aa ps)) :
  Calls Tryz.prog 159 #[p] w0 (Az (fun x w' => Fi w' w0.heap.size x (Ak ps.length ++ ps)) w0) := by
 have hS := St.start0 (w := w0)
 obtain ⟨A, c, rfl, _, _⟩ := hp.shape
 have HP := Lib.hid hp
 have hw : IntKind.u64.wrap (ps.length : Int) = (ps.length : Int) := C1 (by unfold AA; omega)
 have hpl := Aw ps.length
 clear hp
 go_enter Tryz.func159, Tryz.ntmps159
 go_wp2_with (first
  | (go_at_call 161; refine (Dv ps.length (by unfold AA; omega) _).mono ?_; rintro r_ w1 ⟨v, rfl, h1, hb1⟩; replace hS := hS.owned hb1 h1; replace HP := Lib.hid (HP.out.ext hb1); clear h1 hb1)
  | ((with_reducible refine qA 8 ?_); refine Db hS 0 rfl _ _ _ rfl FQ _ _ _ rfl rfl _ _ ps.length (Aa ps) rfl HP.out (B3 _) (by unfold maxLen; omega) (by omega) ?_; clear hS; intro v_ w_ hS; (try simp only [Act.put, Act.eval, zz, Value.cells] at hS)))
 go_ret
 exact Az.mk (Hi (hS.own 0 rfl) (by simp [Aa])) hS.below
def C9 (l : List Nat) : Nat := l.foldl (fun M x => M ||| 2 ^ x) 0
theorem orAll_fold (l : List Nat) : ∀ M i, (l.foldl (fun M x => M ||| 2 ^ x) M).testBit i = (M.testBit i || decide (i ∈ l)) := by
 induction l with
 | nil => simp
 | cons x r ih =>
  intro M i
  rw [List.foldl_cons, ih, Nat.testBit_or, Nat.testBit_two_pow]
  by_cases h : x = i
  ·subst h; simp
  ·have : ¬ i = x := fun e => h e.symm
   simp [h, this]
theorem DL (l : List Nat) (i : Nat) : (C9 l).testBit i = decide (i ∈ l) := by simp [C9, orAll_fold]
theorem orAll_members {N : Nat} (h : N < AA) : C9 (Ck N) = N := by
 apply Nat.eq_of_testBit_eq
 intro i
 rw [DL]
 by_cases hi : i < 64
 ·simp [Ck, BS, hi]
 ·rw [Da h (by omega)]; simp [Ck, BS, hi]
def topN (l : List Nat) : Int := l.foldl (fun (t : Int) (x : Nat) => if (x : Int) > t then (x : Int) else t) (-1)
theorem topN_fold (l : List Nat) : ∀ t : Int, -1 <= t -> -1 <= l.foldl (fun (t : Int) (x : Nat) => if (x : Int) > t then (x : Int) else t) t /\ t <= l.foldl (fun (t : Int) (x : Nat) => if (x : Int) > t then (x : Int) else t) t /\ (∀ x ∈ l, (x : Int) <= l.foldl (fun (t : Int) (x : Nat) => if (x : Int) > t then (x : Int) else t) t) /\ (l.foldl (fun (t : Int) (x : Nat) => if (x : Int) > t then (x : Int) else t) t = t \/ ∃ x ∈ l, l.foldl (fun (t : Int) (x : Nat) => if (x : Int) > t then (x : Int) else t) t = (x : Int)) := by
 induction l with
 | nil => intro t h; exact ⟨h, Int.le_refl _, by simp, .inl rfl⟩
 | cons x r ih =>
  intro t h
  rw [List.foldl_cons]
  obtain ⟨h1, h2, h3, h4⟩ := ih (if (x : Int) > t then (x : Int) else t) (by split <;> omega)
  have h5 : (x : Int) <= (if (x : Int) > t then (x : Int) else t) /\ t <= (if (x : Int) > t then (x : Int) else t) /\ ((if (x : Int) > t then (x : Int) else t) = x \/ (if (x : Int) > t then (x : Int) else t) = t) := by
   by_cases hx : (x : Int) > t
   ·rw [if_pos hx]; omega
   ·rw [if_neg hx]; omega
  refine ⟨h1, by omega, ?_, ?_⟩
  ·intro y hy
   rcases List.mem_cons.1 hy with rfl | hy
   ·omega
   ·exact h3 y hy
  ·rcases h4 with h4 | ⟨y, hy, h4⟩
   ·rcases h5.2.2 with e | e
    ·exact .inr ⟨x, by simp, by rw [h4, e]⟩
    ·exact .inl (by rw [h4, e])
   ·exact .inr ⟨y, by simp [hy], h4⟩
theorem topN_log {l : List Nat} : (l = [] /\ topN l = -1) \/ (l ≠ [] /\ C9 l ≠ 0 /\ topN l = ((C9 l).log2 : Nat)) := by
 obtain ⟨h1, h2, h3, h4⟩ := topN_fold l (-1) (by omega)
 cases l with
 | nil => exact .inl ⟨rfl, rfl⟩
 | cons y r =>
  right
  have hy := h3 y (by simp)
  rcases h4 with h4 | ⟨x, hx, h4⟩
  ·rw [h4] at hy; omega
  ·have hb : (C9 (y :: r)).testBit x = true := by rw [DL]; simpa using hx
   have hne : C9 (y :: r) ≠ 0 := fun e => by rw [e] at hb; simp at hb
   refine ⟨by simp, hne, ?_⟩
   have hge := Nat.ge_two_pow_of_testBit hb
   have hlt : C9 (y :: r) < 2 ^ (x + 1) := by
    apply Nat.lt_pow_two_of_testBit
    intro i hi
    rw [DL]
    have : ¬ i ∈ y :: r := fun hm => by have := h3 i hm; rw [h4] at this; omega
    simpa using this
   have h6 : (C9 (y :: r)).log2 = x := by
    have a1 : (C9 (y :: r)).log2 < x + 1 := (Nat.log2_lt hne).2 hlt
    have a2 : ¬ (C9 (y :: r)).log2 < x := fun h => by have := (Nat.log2_lt hne).1 h; omega
    omega
   rw [h6]; exact h4
theorem topN_step {l : List Nat} {k : Nat} (h : k < l.length) : topN (l.take (k + 1)) = if ((l.getD k 0 : Nat) : Int) > topN (l.take k) then ((l.getD k 0 : Nat) : Int) else topN (l.take k) := by
 rw [Eu l k 0 h, topN, List.foldl_append]; rfl
def byB (M m : Nat) : List Nat := (List.range m).map fun j => (M >>> (8 * j)) % 256
theorem byB_zero (m : Nat) : byB 0 m = List.replicate m 0 := by
 unfold byB
 apply List.ext_getElem
 ·simp
 ·intro j h1 h2; simp
theorem byB_at {M m j : Nat} (h : j < m) : (byB M m).getD j 0 = (M >>> (8 * j)) % 256 := by
 rw [byB, Gs, if_pos h]
theorem byB_set {M m x : Nat} (h : x / 8 < m) : (byB M m).set (x / 8) ((byB M m).getD (x / 8) 0 ||| 2 ^ (x % 8)) = byB (M ||| 2 ^ x) m := by
 apply List.ext_getElem
 ·simp [byB]
 ·intro j h1 h2
  have hj : j < m := by simpa [byB] using h2
  rw [List.getElem_set]
  have hat := byB_at (M := M) h
  have key : ∀ i, ((M ||| 2 ^ x) >>> (8 * i)) % 256 = (M >>> (8 * i)) % 256 ||| (if x / 8 = i then 2 ^ (x % 8) else 0) := by
   intro i
   apply Nat.eq_of_testBit_eq
   intro b
   rw [Nat.testBit_or, show (256 : Nat) = 2 ^ 8 from rfl, Nat.testBit_mod_two_pow, Nat.testBit_mod_two_pow, Nat.testBit_shiftRight, Nat.testBit_shiftRight, Nat.testBit_or, Nat.testBit_two_pow]
   by_cases hb : b < 8
   ·by_cases e : x / 8 = i
    ·rw [if_pos e, Nat.testBit_two_pow]
     simp only [hb, decide_true, Bool.true_and]
     congr 1
     by_cases e2 : x = 8 * i + b
     ·rw [decide_eq_true e2, decide_eq_true (by omega)]
     ·rw [decide_eq_false e2, decide_eq_false (by omega)]
    ·rw [if_neg e, Nat.zero_testBit, Bool.or_false, decide_eq_false (show ¬ x = 8 * i + b by omega), Bool.or_false]
   ·simp only [hb, decide_false, Bool.false_and, Bool.false_or]
    split
    ·rw [Nat.testBit_two_pow, decide_eq_false (by omega)]
    ·simp
  by_cases e : x / 8 = j
  ·rw [if_pos e, hat]; simp only [byB, List.getElem_map, List.getElem_range]; rw [key, if_pos e, e]
  ·rw [if_neg e]; simp only [byB, List.getElem_map, List.getElem_range]; rw [key, if_neg e, Nat.or_zero]
theorem orAll_step {l : List Nat} {k : Nat} (h : k < l.length) : C9 (l.take (k + 1)) = C9 (l.take k) ||| 2 ^ (l.getD k 0) := by
 rw [Eu l k 0 h, C9, List.foldl_append]; rfl
theorem setBytes_byB {N : Nat} (h : N ≠ 0) : BA N = byB N (N.log2 / 8 + 1) := by rw [BA, if_neg h]; rfl
theorem ints_nat (l : List Nat) (k : Nat) (h : k < l.length) : (Bk (At l))[k]? = some (.int .i64 (l.getD k 0 : Nat)) := by
 simp [Bk, At, List.getElem?_eq_getElem h, List.getD_eq_getElem?_getD]
theorem CZ : Bi Tryz.prog 22 5 1 1 := ⟨Tryz.underlying22, by kernel_rfl⟩
set_option maxHeartbeats 1000000 in
theorem rsetb_any (p : Value) (l : List Nat) (hl : l.length <= 1000000 /\ ∀ x ∈ l, x < 4096) (w0 : World) (D : Nat -> Prop) (hp : Sl w0 D 1 p l.length (Bk (At l))) :
  Calls Tryz.prog 223 #[p] w0 (Az (fun x w' => Fi w' w0.heap.size x (BA (C9 l))) w0) := by
 obtain ⟨A, c, rfl, _, _⟩ := hp.shape
 obtain ⟨K, hk, hS⟩ : ∃ K, (∀ D w, K D w -> Sl w D 1 (.slice A l.length c) l.length (Bk (At l))) /\ St w0 w0 [] K := ⟨fun D w => Sl w D 1 (.slice A l.length c) l.length (Bk (At l)), fun _ _ h => h, St.start Ao hp⟩
 clear hp
 have HL := Lib.hid hl.2
 obtain ⟨hll, -⟩ := hl
 go_enter Tryz.func223, Tryz.ntmps223
 go_wp2_with fail
 go_loopw [3, 11] (fun t i wr => ∃ k : Nat, k <= l.length /\ i = .int .i64 k /\ t = .int .i64 (topN (l.take k)) /\ St w0 wr [] K) (fun _ i _ => l.length - (intOf i).toNat)
 case atStart => exact ⟨0, by omega, rfl, rfl, hS⟩
 case round =>
  clear hS
  obtain ⟨k, hk2, rfl, rfl, hS⟩ := hrel
  by_cases hlt : k < l.length
  ·have f1 := ints_nat l k hlt
   have HT := Lib.hid (topN_step hlt)
   generalize l.getD k 0 = x at *
   generalize topN (l.take k) = T at *
   go_wp2_with (first | ((with_reducible refine qB ?_); refine qc ?_ ?_ <;> intro h_ <;> go_prune) | ((with_reducible refine qI ?_); refine DJ hS rfl _ _ _ rfl _ rfl rfl (by assumption) Tryz.underlying74 (by kernel_rfl) (by first | assumption | omega) _ (by assumption) ?_; intro p_ hc_))
   ·exact ⟨⟨k + 1, hlt, by go_num, by rw [HT.out, if_pos (by omega)], hS⟩, by simp [intOf]; omega⟩
   ·exact ⟨⟨k + 1, hlt, by go_num, by rw [HT.out, if_neg (by omega)], hS⟩, by simp [intOf]; omega⟩
  ·obtain rfl : k = l.length := by omega
   rw [List.take_length]
   rcases topN_log (l := l) with ⟨rfl, hz⟩ | ⟨hne, h0, ht⟩
   ·rw [hz]
    go_wp2_with (first | ((with_reducible refine qB ?_); refine qc ?_ ?_ <;> intro h_ <;> go_prune))
    go_ret
    exact Az.mk (World.ownsRow_nil _ _ _ _) hS.below
   ·have hlog : (C9 l).log2 < 4096 := by
     have hb : C9 l < 2 ^ 4096 := Nat.lt_pow_two_of_testBit _ fun i hi => by
      rw [DL]
      have : ¬ i ∈ l := fun hm => by have := HL.out i hm; omega
      simpa using this
     exact (Nat.log2_lt h0).2 hb
    have HN := Lib.hid (setBytes_byB h0)
    have HX := Lib.hid (show ∀ x ∈ l, x <= (C9 l).log2 from fun x hx => by
     have hb : (C9 l).testBit x = true := by rw [DL]; simpa using hx
     have := Nat.ge_two_pow_of_testBit hb
     have a2 : ¬ (C9 l).log2 < x := fun h => by have := (Nat.log2_lt h0).1 h; omega
     omega)
    rw [ht]
    generalize hT : (C9 l).log2 = T at *
    obtain ⟨n8, hn8⟩ : ∃ n, n = T / 8 + 1 := ⟨_, rfl⟩
    have hti : (T : Int) / 8 + 1 = (n8 : Int) := by omega
    have HN8 := Lib.hid hn8
    have HH0 := Lib.hid h0
    clear h0 ht hne hT
    have hn8b : n8 <= 600 := by omega
    clear hn8 hlt hk2
    go_wp2_with (first
     | ((with_reducible refine qB ?_); refine qc ?_ ?_ <;> intro h_ <;> go_prune)
     | ((with_reducible show wpList _ _ _ (⟨_, .makeSlice _ _ _, _, _, _, _⟩ :: _) _ _); refine IC hS rfl _ _ _ rfl CZ .i64 .i64 n8 #[.int .u8 0] rfl rfl (by kernel_rfl) (by omega) (by omega) ?_; clear hS; intro g6 w_ hS))
    have hz : (madeCells #[Value.int .u8 0] (n8 * 1)).toList = Aa (byB (C9 (l.take 0)) n8) := by rw [Nat.mul_one, F4]; simp [C9, byB_zero]
    rw [hz] at hS
    clear hz hti
    go_loopw [28] (fun i wr => ∃ k : Nat, k <= l.length /\ i = .int .i64 k /\ St w0 wr [.own (.slice (some ⟨g6, 0, none⟩) n8 n8) 5 1 n8 (Aa (byB (C9 (l.take k)) n8))] K) (fun i _ => l.length - (intOf i).toNat)
    case atStart => exact ⟨0, by omega, rfl, hS⟩
    case round =>
     clear hS
     obtain ⟨k, hk2, rfl, hS⟩ := hrel
     by_cases hlt : k < l.length
     ·have f1 := ints_nat l k hlt
      have HT := Lib.hid (orAll_step hlt)
      have hxT : l.getD k 0 <= T := HX.out _ (by rw [List.getD_eq_getElem?_getD, List.getElem?_eq_getElem hlt]; exact List.getElem_mem hlt)
      generalize l.getD k 0 = x at *
      generalize C9 (l.take k) = M at *
      obtain ⟨q, hq⟩ : ∃ q, q = x / 8 := ⟨_, rfl⟩
      obtain ⟨r, hr⟩ : ∃ r, r = x % 8 := ⟨_, rfl⟩
      have hqn : q < n8 := by have := HN8.out; omega
      have hr8 : r < 8 := by omega
      have hB := byB_set (M := M) (m := n8) (x := x) (by omega)
      rw [<- hq, <- hr] at hB
      have hc : (Aa (byB M n8))[q]? = some (.int .u8 ((byB M n8).getD q 0 : Nat)) := CY _ _ (by simp [byB]; exact hqn)
      have hb256 : (byB M n8).getD q 0 < 256 := by rw [byB_at hqn]; omega
      generalize (byB M n8).getD q 0 = y at *
      have hpow : 2 ^ r < 256 := Nat.pow_lt_pow_right (by decide) hr8
      have hor := u8_or_nat y (2 ^ r) hb256 hpow
      have hq1 : (x : Int) / 8 = (q : Int) := by omega
      have hr1 : ((x : Int)).tmod 8 = (r : Int) := by rw [hr]; exact Fq x 8
      have hsh : IntKind.u8.wrap (2 ^ r : Int) = ((2 ^ r : Nat) : Int) := by
       rw [show (2 ^ r : Int) = ((2 ^ r : Nat) : Int) by simp]; exact Iz hpow
      have HC := Lib.hid hc
      have HB := Lib.hid hB
      have HOr := Lib.hid hor
      generalize 2 ^ r = pw at *
      clear hq hr hB hc hor
      go_wp2_with (first
       | ((with_reducible refine qB ?_); refine qc ?_ ?_ <;> intro h_ <;> go_prune)
       | ((with_reducible refine qI ?_); refine DJ hS rfl _ _ _ rfl _ rfl rfl (by assumption) Tryz.underlying74 (by kernel_rfl) (by first | assumption | omega) _ (by assumption) ?_; intro p_ hc_)
       | ((with_reducible refine qA 39 ?_); refine BigFrame.wpList_want rfl fun _ hK => Ah rfl rfl (by kernel_rfl) (BQ (hS.own 0 rfl) q _ HC.out) (hK _ _ ?_))
       | ((with_reducible refine qm 5 ?_); refine DI hS 0 rfl _ _ _ rfl g6 q (.int .u8 ((y ||| pw : Nat) : Int)) rfl (congrArg (Value.int .u8) HOr.out) rfl (by omega) rfl rfl (by kernel_rfl) ?_; clear hS; intro w_ hS; (try simp only [Act.put, Act.eval, zz, Value.cells] at hS)))
      refine ⟨⟨k + 1, hlt, by go_num, ?_⟩, by simp [intOf]; omega⟩
      rw [<- FO, HB.out, <- HT.out] at hS
      exact hS
     ·obtain rfl : k = l.length := by omega
      rw [List.take_length] at hS
      go_wp2_with (first | ((with_reducible refine qB ?_); refine qc ?_ ?_ <;> intro h_ <;> go_prune))
      go_ret
      rw [HN.out, <- HN8.out]
      have h := hS.own 0 rfl
      exact Az.mk (Hi h rfl) hS.below
theorem Hk {w : World} {b b' : Nat} {e : TypeId} {size n : Nat} {v : Value} {xs : List Value} (h : w.ownsRow b e size v n xs) (hb : b' <= b) : w.ownsRow b' e size v n xs := by
 refine ⟨h.1, ?_⟩
 rcases h.2 with h | ⟨g, cap, cur, h1, h2, h3⟩
 ·exact .inl h
 ·exact .inr ⟨g, cap, cur, h1, Nat.le_trans hb h2, h3⟩
theorem rputs_any (p : Value) (l : List Nat) (hl : l.length <= 1000000 /\ ∀ x ∈ l, x < 4096) (w0 : World) (D : Nat -> Prop) (hp : Sl w0 D 1 p l.length (Bk (At l))) :
  Calls Tryz.prog 203 #[p] w0 (Az (fun x w' => Fi w' w0.heap.size x (AZ (C9 l))) w0) := by
 have hS := St.start0 (w := w0)
 have HC := Lib.hid (rsetb_any p l hl w0 D hp)
 have hsb : (BA (C9 l)).length <= 512 := EQ (Nat.lt_pow_two_of_testBit _ fun i hi => by
  rw [DL]
  have : ¬ i ∈ l := fun hm => by have := hl.2 i hm; omega
  simpa using this)
 clear hp hl
 go_enter Tryz.func203, Tryz.ntmps203
 go_wp2_with (first
  | (go_at_call 223; refine HC.out.mono ?_; rintro r_ w1 ⟨v, rfl, h1, hb1⟩; replace hS := hS.owned hb1 h1; clear hb1)
  | (go_at_call 159; refine (FU v (BA (C9 l)) (by omega) _ _ (Sl.of_own (hS.own 0 rfl))).mono ?_; rintro r_ w2 ⟨v2, rfl, h2, hb2⟩))
 go_ret
 exact Az.mk (Hk h2 hS.size) (hS.ext hb2).below
theorem Gr (N : Nat) (hN : N < AA) (w0 : World) : Calls Tryz.prog 163 #[.int .u64 (N : Nat)] w0 (Az (fun x w' => Fi w' w0.heap.size x (AZ N)) w0) := by
 have hS := St.start0 (w := w0)
 have HO := Lib.hid (orAll_members hN)
 have HL := Lib.hid (show (Ck N).length <= 1000000 /\ ∀ x ∈ Ck N, x < 4096 from ⟨by have := memTo_len N 64; unfold Ck; omega, fun x hx => by
  simp [Ck, BS] at hx; omega⟩)
 go_enter Tryz.func163, Tryz.ntmps163
 go_wp2_with (first
  | (go_at_call 81; refine (IO N _).mono ?_; rintro r_ w1 ⟨v, rfl, h1, hb1⟩; replace hS := hS.ret hb1 Ao h1; clear h1 hb1)
  | (go_at_call 203; refine (rputs_any v (Ck N) HL.out _ _ hS.ro.2).mono ?_; rw [HO.out]; rintro r_ w2 ⟨v2, rfl, h2, hb2⟩))
 go_ret
 exact Az.mk (Hk h2 hS.size) (hS.ext hb2).below
end
section
open Go.RowKit
attribute [local go_sem ↓] Go.wp_at_zero Go.wp_at_succ
set_option maxRecDepth 20000
theorem IE (y n : Nat) (hy : y < AA) (hn : n < AA) (w0 : World) : Calls Tryz.prog 165 #[.agg #[.int .u64 (y : Nat), .int .u64 (n : Nat)]] w0 (Az (fun x w' => Fi w' w0.heap.size x (B5 y n)) w0) := by
 have hS := St.start0 (w := w0)
 have hly := Ba (BC hy).1
 have hln := Ba (BC hn).1
 go_enter Tryz.func165, Tryz.ntmps165
 go_wp2_with (first | ((with_reducible refine qA 1 ?_); refine AF hS rfl _ _ rfl (.agg #[.int .u64 (y : Nat), .int .u64 (n : Nat)]) _ rfl rfl ?_; clear hS; intro g1 w_ hS; (try simp only [Act.put, Act.eval, zz, Value.cells] at hS)))
 refine J1 (fun i__ lo hi v w => match i__ with
  | 0 => v = .pointer (some ⟨g1, 0, none⟩)
  | 1 => v = .int .u64 (y : Nat)
  | 2 => w.ownsRow lo 5 1 v (AZ y).length (Aa (AZ y)) /\ ∀ b, v.ownBlock = some b -> b < hi
  | 3 => v = .pointer (some ⟨g1, 1, none⟩)
  | 4 => v = .int .u64 (n : Nat)
  | 5 => w.ownsRow lo 5 1 v (AZ n).length (Aa (AZ n)) /\ ∀ b, v.ownBlock = some b -> b < hi
  | 6 => True
  | 7 => True
  | _ => True) 6 [7] (by kernel_rfl) (by kernel_rfl) (by kernel_rfl) (by kernel_rfl) (by kernel_rfl) ?mono ⟨.inr ?r0, .inr ?r1, .inr ?r2, .inr ?r3, .inr ?r4, .inr ?r5, .inl (by decide), .inl (by decide), trivial⟩ ?post
 case mono =>
  intro i lo hi v w w' h hb
  match i, h with
  | 0, h | 1, h => exact h
  | 2, h => exact ⟨EW h.1 hb, h.2⟩
  | 3, h | 4, h => exact h
  | 5, h => exact ⟨EW h.1 hb, h.2⟩
  | 6, h | 7, h => exact h
  | _ + 8, h => trivial
 case r0 =>
  refine Ie fun b__ w hW hold hpre => wU rfl fun K hK => ?_
  have e1 : b__.eval (.tmp 1) = .pointer (some ⟨g1, 0, none⟩) := (hold 1 (by kernel_rfl)).trans rfl
  exact DN rfl e1 (by kernel_rfl) (hK _ _ rfl (Below.refl _ _))
 case r1 =>
  refine Ie fun b__ w hW hold hpre => wU rfl fun K hK => ?_
  have e3 : b__.eval (.tmp 3) = .pointer (some ⟨g1, 0, none⟩) := by obtain ⟨_, _, h⟩ := hpre ⟨0, _⟩ (Array.mem_of_getElem? (i := 0) rfl) rfl _ _ rfl rfl; exact h
  exact Ah rfl e3 (by kernel_rfl) ((hS.ext (Bh hW)).shut 0 rfl 0 rfl) (hK _ _ rfl (Below.refl _ _))
 case r2 =>
  refine Ie fun b__ w hW hold hpre => wU rfl fun K hK => ?_
  have e4 : b__.eval (.tmp 4) = .int .u64 (y : Nat) := by obtain ⟨_, _, h⟩ := hpre ⟨1, _⟩ (Array.mem_of_getElem? (i := 0) rfl) rfl _ _ rfl rfl; exact h
  exact AP rfl (by kernel_rfl) (by simp [e4]) (Gr y hy w) fun v w' h hb => hK v w' ⟨h, fun b e => JP h b e⟩ hb
 case r3 =>
  refine Ie fun b__ w hW hold hpre => wU rfl fun K hK => ?_
  have e1 : b__.eval (.tmp 1) = .pointer (some ⟨g1, 0, none⟩) := (hold 1 (by kernel_rfl)).trans rfl
  exact DN rfl e1 (by kernel_rfl) (hK _ _ rfl (Below.refl _ _))
 case r4 =>
  refine Ie fun b__ w hW hold hpre => wU rfl fun K hK => ?_
  have e6 : b__.eval (.tmp 6) = .pointer (some ⟨g1, 1, none⟩) := by obtain ⟨_, _, h⟩ := hpre ⟨3, _⟩ (Array.mem_of_getElem? (i := 0) rfl) rfl _ _ rfl rfl; exact h
  exact Ah rfl e6 (by kernel_rfl) ((hS.ext (Bh hW)).shut 0 rfl 1 rfl) (hK _ _ rfl (Below.refl _ _))
 case r5 =>
  refine Ie fun b__ w hW hold hpre => wU rfl fun K hK => ?_
  have e7 : b__.eval (.tmp 7) = .int .u64 (n : Nat) := by obtain ⟨_, _, h⟩ := hpre ⟨4, _⟩ (Array.mem_of_getElem? (i := 0) rfl) rfl _ _ rfl rfl; exact h
  exact AP rfl (by kernel_rfl) (by simp [e7]) (Gr n hn w) fun v w' h hb => hK v w' ⟨h, fun b e => JP h b e⟩ hb
 case post =>
  intro b__ wz lo hi hW hdf hsz hold hT hap hlim
  have e5 : (fun (v : Value) (w : World) => w.ownsRow (lo 2) 5 1 v (AZ y).length (Aa (AZ y)) /\ ∀ b, v.ownBlock = some b -> b < (hi 2)) (b__.eval (.tmp 5)) wz := hT 2 _ 5 (by decide) rfl rfl
  have e8 : (fun (v : Value) (w : World) => w.ownsRow (lo 5) 5 1 v (AZ n).length (Aa (AZ n)) /\ ∀ b, v.ownBlock = some b -> b < (hi 5)) (b__.eval (.tmp 8)) wz := hT 5 _ 8 (by decide) rfl rfl
  obtain ⟨vs, hvs, hb⟩ := EG hdf hsz hold
  replace e5 := (hvs 5) ▸ e5
  replace e8 := (hvs 8) ▸ e8
  have e3 : vs 3 = .pointer (some ⟨g1, 0, none⟩) := (hvs 3).symm.trans (hT 0 _ 3 (by decide) rfl rfl)
  have e4 : vs 4 = .int .u64 (y : Nat) := (hvs 4).symm.trans (hT 1 _ 4 (by decide) rfl rfl)
  have e6 : vs 6 = .pointer (some ⟨g1, 1, none⟩) := (hvs 6).symm.trans (hT 3 _ 6 (by decide) rfl rfl)
  have e7 : vs 7 = .int .u64 (n : Nat) := (hvs 7).symm.trans (hT 4 _ 7 (by decide) rfl rfl)
  subst hb
  clear hvs hold hT hdf hsz
  simp only [AO, Act.put, zz, ze]
  obtain ⟨h5, b5⟩ := e5
  obtain ⟨h8, b8⟩ := e8
  have a25 := hap 2 5 (by decide) (by decide) (by decide) (by decide) (by decide)
  have L2 := (hlim 2 (by decide) (by decide)).1
  have L5 := (hlim 5 (by decide) (by decide)).1
  have hS2 := hS.new2 hW (.own (vs 5) 5 1 (AZ y).length (Aa (AZ y))) (.own (vs 8) 5 1 (AZ n).length (Aa (AZ n))) (Hk h5 L2) (Hk h8 L5) (fun k e1 e2 => by
   have c1 := own_ge h5 k e1; have c2 := b5 k e1; have c3 := own_ge h8 k e2; have c4 := b8 k e2; omega)
  clear h5 h8 b5 b8 a25 L2 L5 hap hlim
  (intro o_ ho_; simp only [List.getElem?_toArray, List.getElem?_cons_succ, List.getElem?_cons_zero, Option.some.injEq] at ho_; subst ho_)
  refine F3 rfl CZ rfl (hS2.own 0 rfl) rfl (Sl.of_own (hS2.own 1 rfl)) (B3 _) (by omega) (by omega) hS2.size fun v' w4 a1 a2 a3 => ?_
  replace hS2 := hS2.upd 0 rfl (.own v' 5 1 ((AZ y).length + (AZ n).length) (Aa (AZ y) ++ Aa (AZ n))) a2 a1 a3
  (intro o_ ho_; simp only [List.getElem?_toArray, List.getElem?_cons_succ, List.getElem?_cons_zero, Option.some.injEq] at ho_; subst ho_)
  simp only [Act.put, List.setIfInBounds_toArray, List.set_cons_zero, List.set_cons_succ]
  refine Dl rfl rfl ?_
  simp only [CD]
  simp only [Act.put, List.setIfInBounds_toArray, List.set_cons_zero, List.set_cons_succ]
  go_wp2_with fail
  go_ret
  exact Az.mk (Hi (hS2.own 0 rfl) (by simp [Aa, B5])) hS2.below
theorem EH (l : List (Nat × Nat)) (hs : Small l) : (l.flatMap fun z => B5 z.1 z.2).length <= 1046 * l.length := EI l fun z hz => ⟨(BC (hs z hz).1).1, (BC (hs z hz).2).1⟩
set_option maxHeartbeats 1000000 in
theorem Hc (v : Value) (l : List (Nat × Nat)) (w0 : World) (D : Nat -> Prop) (hv : BW w0 D v l) (hs : Small l) (hl : l.length <= 10000) :
  Calls Tryz.prog 166 #[v] w0 (Az (fun x w' => Fi w' w0.heap.size x (AM l)) w0) := by
 obtain ⟨A, c, rfl, _, _⟩ := hv.shape
 obtain ⟨K, hk, hS⟩ : ∃ K, (∀ D w, K D w -> Sl w D 2 (.slice A l.length c) l.length (AH l)) /\ St w0 w0 [] K := ⟨fun D w => Sl w D 2 (.slice A l.length c) l.length (AH l), fun _ _ h => h, St.start Ao hv⟩
 clear hv
 have HS := Lib.hid hs
 clear hs
 have hw : IntKind.u64.wrap (l.length : Int) = (l.length : Int) := C1 (by unfold AA; omega)
 have hpl := Aw l.length
 go_enter Tryz.func166, Tryz.ntmps166
 go_wp2_with (first
  | (go_at_call 161; refine (Dv l.length (by unfold AA; omega) _).mono ?_; rintro r_ w1 ⟨v1, rfl, h1, hb1⟩; replace hS := hS.owned hb1 h1; clear h1 hb1))
 go_loopw [3, 12] (fun o i wr => ∃ (k : Nat) (ov : Value) (bs : List Nat), k <= l.length /\ i = .int .i64 k /\ o = ov /\ bs = Ak l.length ++ (l.take k).flatMap (fun z => B5 z.1 z.2) /\ St w0 wr [.own ov 5 1 bs.length (Aa bs)] K) (fun _ i _ => l.length - (intOf i).toNat)
 case atStart => exact ⟨0, v1, _, by omega, rfl, rfl, rfl, by simpa using hS⟩
 case round =>
  clear hS
  obtain ⟨k, ov, bs, hk2, rfl, rfl, hbs, hS⟩ := hrel
  by_cases hlt : k < l.length
  ·obtain ⟨f1, f2⟩ := ED l k hlt
   have HT := Lib.hid (flat_step l k hlt)
   have hz := HS.out.at_ k hlt
   have hbl : bs.length <= 20000000 := by
    have := EH (l.take k) (fun z hz => HS.out z (List.mem_of_mem_take hz))
    rw [hbs, List.length_append]; rw [List.length_take] at this; omega
   have HB := Lib.hid hbs
   clear hbs
   generalize l.getD k (0, 0) = z at *
   obtain ⟨y, n⟩ := z
   dsimp only at f1 f2 HT hz
   have hcl : (B5 y n).length <= 1046 := by
    have h1 := Ba (BC hz.1).1
    have h2 := Ba (BC hz.2).1
    simp only [B5, List.length_append]; omega
   obtain ⟨pc, hpc⟩ : ∃ x, x = B5 y n := ⟨_, rfl⟩
   rw [<- hpc] at HT hcl
   have HCu : Hid (∀ w, Calls Tryz.prog 165 #[.agg #[.int .u64 (y : Nat), .int .u64 (n : Nat)]] w (Az (fun x w' => Fi w' w.heap.size x pc) w)) := Lib.hid (fun w => by rw [hpc]; exact IE y n hz.1 hz.2 w)
   clear hpc
   go_wp2_with (first
    | ((with_reducible refine qB ?_); refine qc ?_ ?_ <;> intro h_ <;> go_prune)
    | ((with_reducible refine qI ?_); refine qj hS Tryz.underlying28 ?_; intro b_ j_ hc0_ hc1_)
    | ((with_reducible refine qA 5 ?_); refine AU hS rfl _ rfl (by kernel_rfl) ?_; clear hS; intro g5 w_ hS; (try simp only [Act.put, Act.eval, zz, Value.cells] at hS))
    | ((with_reducible refine qM ?_); (first | refine qS hS ?_ | refine qT hS ?_); clear hS; intro w_ hS; (try simp only [Act.put, Act.eval, zz, Value.cells] at hS))
    | ((with_reducible refine qK ?_); refine qL hS Tryz.underlying50 ?_)
    | (go_at_call 165; refine (HCu.out _).mono ?_; rintro r_ w2 ⟨v2, rfl, h2, hb2⟩; replace hS := hS.owned hb2 h2; clear h2 hb2)
    | ((with_reducible refine qA 19 ?_); refine Db hS 2 rfl _ _ _ rfl CZ _ _ _ rfl rfl _ _ _ _ rfl (Sl.of_own (hS.own 0 rfl)) (B3 _) (by unfold maxLen; omega) (by omega) ?_; clear hS; intro v_ w_ hS; (try simp only [Act.put, Act.eval, zz, Value.cells] at hS)))
   refine ⟨⟨k + 1, v_, bs ++ pc, hlt, by go_num, rfl, by rw [HB.out, HT.out, List.append_assoc], ?_⟩, by simp [intOf]; omega⟩
   have h := hS.sub (F' := [_]) (.cons _ (.cons _ (.refl _)))
   simpa [Aa] using h
  ·obtain rfl : k = l.length := by omega
   rw [List.take_length] at hbs
   go_wp2_with (first | ((with_reducible refine qB ?_); refine qc ?_ ?_ <;> intro h_ <;> go_prune))
   go_ret
   subst hbs
   exact Az.mk (hS.own 0 rfl) hS.below
end
section
open Go.RowKit
attribute [local go_sem ↓] Go.wp_at_zero Go.wp_at_succ
set_option maxRecDepth 20000
set_option exponentiation.threshold 5000
theorem run_fst (g : Nat) (w : World) : (Instr.indexAt 107 (.pointer (some ⟨g, 0, none⟩)) (.int .i64 0)).run Tryz.prog w = .ok (.pointer (some ⟨g, 0, none⟩)) w := by
 go_simp
theorem AN_one {kd : List (Nat × (Bool × Nat))} (hk : ∀ x ∈ kd, x.2.1 = true -> 1 <= x.2.2) (w : World) (v : Value) (i : Nat) : AN kd i (w, ⟨[v], []⟩) := by
 unfold AN
 split
 ·rename_i s hs
  unfold Fg at hs
  obtain ⟨y, hy, e⟩ := Option.map_eq_some_iff.1 hs
  have := hk y (List.mem_of_find?_eq_some hy) (by rw [e])
  rw [e] at this
  exact this
 ·simp
 ·trivial
section
variable {w0 : World} {F : List A7} {K : (Nat -> Prop) -> World -> Prop} {d : AD} {p p' : World × AG} {kd : List (Nat × (Bool × Nat))} {i : Nat}
variable {P : Program} {o : Oper} {a : Act} {Kt : Act -> World -> Prop} {Q : Exit -> Act -> World -> Prop}
theorem Kb (hnd : (kd.map (·.2)).Nodup) {j : Nat} (hki : Fg kd i = some (false, j)) {f : FuncId} {xs : Array Operand} {ts : Array TypeId} {vs : List Value} (ho : o.op = .call { callee := .value (.func f), args := xs, argTypes := ts }) (hc : BX P f = true) (hv : xs.toList.map a.eval = vs)
  (h : Calls P f vs.toArray p.1 (Az (fun x w' => (d.src j x).holds p.1.heap.size w') p.1))
  (hK : ∀ v w', (j, v) ∈ w'.2.b -> AR w0 F K d p w' /\ (∀ j, j ≠ i -> AN kd j p -> AN kd j w') -> Kt (a.put o.dst v) w'.1) : o.wp P a p.1 Kt Q :=
 Cv ho hc hv h fun _ w' ⟨x, he, hx, hb⟩ => ⟨x, he, hK x (w', ⟨p.2.r, (j, x) :: p.2.b⟩) (List.mem_cons_self ..) (AR.src hnd hki hb hx)⟩
end
def rbD (bs : List Nat) (za zb : Nat) : AD := ⟨5, 1, 3, fun s => match s with | 0 => bs.length | 1 => bs.length + (Ak za).length | _ => bs.length + (Ak za).length + (Ak zb).length, fun s => match s with | 0 => Aa bs | 1 => Aa bs ++ Aa (Ak za) | _ => Aa bs ++ Aa (Ak za) ++ Aa (Ak zb), fun j v => match j with | 0 => .own v 5 1 (Ak za).length (Aa (Ak za)) | _ => .own v 5 1 (Ak zb).length (Aa (Ak zb))⟩
def rbK : List (Nat × (Bool × Nat)) := [(4, (false, 0)), (5, (true, 1)), (9, (false, 1)), (10, (true, 2))]
set_option maxHeartbeats 1000000 in
theorem rhbytes_any {w0 : World} {D : Nat -> Prop} {pv : Value} {L : List (Nat × Nat)} (h : Sl w0 D 2 pv L.length (A6 L)) (hH : GD L) (hl : L.length <= 900000) : Calls Tryz.prog 162 #[pv] w0 fun e w' => ∃ v, e = .returned v /\ St w0 w' [.own v 5 1 (Cp L).length (Aa (Cp L))] fun _ _ => True := by
 obtain ⟨A, c, rfl, _, _⟩ := h.shape
 obtain ⟨K, kp, hS⟩ : ∃ K : (Nat -> Prop) -> World -> Prop, (∀ D w, K D w -> Sl w D 2 (.slice A L.length c) L.length (A6 L)) /\ St w0 w0 [] K := ⟨_, fun _ _ h => h, St.start (Ao (by decide)) h⟩
 clear h
 have hlT : Hid (L.length < AA) := Lib.hid (by rw [BV]; omega)
 have HQ := Lib.hid (Aw L.length)
 go_enter Tryz.func162, Tryz.ntmps162
 go_wp2_with (first
  | ((with_reducible refine qA 8 ?_); refine BigFrame.wpList_want rfl fun _ hK => BR (vx := .int .i64 (L.length : Nat)) (v := .int .u64 (L.length : Nat)) rfl rfl (BG hlT.out) (hK _ _ ?_))
  | (go_at_call 161; refine (Dv L.length hlT.out _).mono ?_; rintro e w_ ⟨v1, rfl, hs, hb_⟩; replace hS := hS.new hb_ (.own v1 5 1 (Ak L.length).length (Aa (Ak L.length))) hs; clear hs hb_))
 go_loopw [3, 12] (fun ov i wr => ∃ (j : Nat) (sv : Value), i = .int .i64 (j : Nat) /\ sv = ov /\ j <= L.length /\ St w0 wr [.own sv 5 1 (Ak L.length ++ C6 (L.take j)).length (Aa (Ak L.length ++ C6 (L.take j)))] K) (fun _ i _ => L.length - (intOf i).toNat)
 case atStart => exact ⟨0, v1, rfl, rfl, by omega, by simpa [C6] using hS⟩
 case round =>
  clear hS
  obtain ⟨j, sv, rfl, rfl, hj, hS⟩ := hrel
  by_cases hlj : j < L.length
  ·obtain ⟨f1, f2⟩ := Bc L j hlj
   have HST := Lib.hid (IU (C4 (0, 0) hlj))
   have hm := hH.role (L.getD j (0, 0)) (by rw [List.getD_eq_getElem?_getD, List.getElem?_eq_getElem hlj]; exact List.getElem_mem hlj)
   generalize L.getD j (0, 0) = z at *
   obtain ⟨za, zb⟩ := z
   dsimp only at f1 f2 hm HST
   have HA : Hid (za < AA) := Lib.hid (by rw [BV]; omega)
   have HB : Hid (zb < AA) := Lib.hid (by rw [BV]; omega)
   have hLN : (Ak L.length ++ C6 (L.take j)).length <= 11 + 22 * L.length := by
    have h1 := Dn (L.take j)
    have h2 := HQ.out
    rw [List.length_take] at h1
    rw [List.length_append]; omega
   have hpa := Aw za
   have hpb := Aw zb
   generalize hBS : Ak L.length ++ C6 (L.take j) = bs at *
   have HE : Hid (Ak L.length ++ C6 (L.take (j + 1)) = bs ++ Ak za ++ Ak zb) := Lib.hid (by rw [HST.out, <- hBS]; simp)
   have hb0 : Hid (bs.length + (Ak za).length <= 1000000000000 /\ (bs.length + (Ak za).length) * 1 <= 140737488355328 /\ bs.length + (Ak za).length + (Ak zb).length <= 1000000000000 /\ (bs.length + (Ak za).length + (Ak zb).length) * 1 <= 140737488355328) := Lib.hid (by omega)
   clear HST hBS hLN hpa hpb
   go_wp2_with (first
    | ((with_reducible refine qB ?_); refine qc ?_ ?_ <;> intro h_ <;> go_prune)
    | ((with_reducible refine qI ?_); refine qj hS Tryz.underlying25 ?_; intro b_ j_ hc0_ hc1_)
    | ((with_reducible refine qA 5 ?_); refine AU hS rfl _ rfl (by kernel_rfl) ?_; clear hS; intro g5 w_ hS; (try simp only [Act.put, Act.eval, zz, Value.cells] at hS))
    | ((with_reducible refine qM ?_); (first | refine qS hS ?_ | refine qT hS ?_); clear hS; intro w_ hS; (try simp only [Act.put, Act.eval, zz, Value.cells] at hS))
    | ((with_reducible refine qK ?_); refine qL hS Tryz.underlying107 ?_))
   have hA0 : Fj ⟨[sv], []⟩ 0 sv := ⟨[], [], rfl, rfl⟩
   have hJ0 : AJ w0 [.box g5 107 #[.int .i64 (za : Nat), .int .i64 (zb : Nat)]] K (rbD bs za zb) (w_.drew, ⟨[sv], []⟩) := ⟨hS.swap.drew, show 1 <= 3 by decide⟩
   have hN0 := AN_one (kd := rbK) (by decide) w_.drew sv
   have hRr := @AR.refl w0 [.box g5 107 #[.int .i64 (za : Nat), .int .i64 (zb : Nat)]] K (rbD bs za zb)
   have hRt := @AR.trans w0 [.box g5 107 #[.int .i64 (za : Nat), .int .i64 (zb : Nat)]] K (rbD bs za zb)
   clear hS
   refine Fk (AR w0 [.box g5 107 #[.int .i64 (za : Nat), .int .i64 (zb : Nat)]] K (rbD bs za zb)) (AN rbK) (⟨[sv], []⟩) hRr hRt [.i sv, .q g5 0, .n ((za : Nat) : Int), .i (.int .u64 ((za : Nat) : Int)), .s (fun v w => (0, v) ∈ w.2.b) fun v w w' h hb => hb.2.2 _ h, .s (fun v w => Fj w.2 1 v) fun v w w' h hb => h.mono hb.2.1, .q g5 1, .n ((zb : Nat) : Int), .i (.int .u64 ((zb : Nat) : Int)), .s (fun v w => (1, v) ∈ w.2.b) fun v w w' h hb => hb.2.2 _ h, .s (fun v w => Fj w.2 2 v) fun v w w' h hb => h.mono hb.2.1, .s (fun v w => Fj w.2 2 v) fun v w w' h hb => h.mono hb.2.1] ?_ ⟨uM, uI (h := fun w hW hN => run_fst g5 _), uC (h := fun w hW hN => ((hW.1 hJ0).1.holds (.box g5 107 #[.int .i64 (za : Nat), .int .i64 (zb : Nat)]) (List.mem_append_right _ (List.mem_singleton.2 rfl))).2.cell 0), uE (h := fun w hW hN => BG HA.out), ?_, ?_, uI (h := fun w hW hN => run_snd g5 _), uC (h := fun w hW hN => ((hW.1 hJ0).1.holds (.box g5 107 #[.int .i64 (za : Nat), .int .i64 (zb : Nat)]) (List.mem_append_right _ (List.mem_singleton.2 rfl))).2.cell 1), uE (h := fun w hW hN => BG HB.out), ?_, ?_, uA, trivial⟩ ?_
   ·first | assumption | (intro i; (try dsimp only); split <;> first | trivial | assumption | (left; assumption))
   ·refine uG fun b__ w hW hN hE K hK => ?_
    have e19 := hE 19
    exact Kb (kd := rbK) (by decide) rfl rfl (by kernel_rfl) (by simp only [List.map_cons, List.map_nil, e19]) (Dv za HA.out _) hK
   ·refine uG fun b__ w hW hN hE K hK => ?_
    have e16 := hE 16
    have e20 := hE 20
    exact Bu (kd := rbK) (by decide) rfl rfl FQ hN (by rw [e16]; exact hA0.mono hW.2.1) (hW.1 hJ0) (Sl.of_own ((hW.1 hJ0).side e20)) (B3 _) rfl rfl (by exact hb0.out.1) (by exact hb0.out.2.1) (show 0 + 1 < 3 by decide) hK
   ·refine uG fun b__ w hW hN hE K hK => ?_
    have e24 := hE 24
    exact Kb (kd := rbK) (by decide) rfl rfl (by kernel_rfl) (by simp only [List.map_cons, List.map_nil, e24]) (Dv zb HB.out _) hK
   ·refine uG fun b__ w hW hN hE K hK => ?_
    have e21 := hE 21
    have e25 := hE 25
    exact Bu (kd := rbK) (by decide) rfl rfl FQ hN e21 (hW.1 hJ0) (Sl.of_own ((hW.1 hJ0).side e25)) (B3 _) rfl rfl (by exact hb0.out.2.2.1) (by exact hb0.out.2.2.2) (show 1 + 1 < 3 by decide) hK
   ·intro vs wz hW hT
    obtain ⟨e16, e17, e18, e19, e20, e21, e22, e23, e24, e25, e26, e3, -⟩ := hT
    have bx : (fun _ : Nat => True) 0 := trivial
    simp only [AO, Act.put, zz, ze]
    have hJ := (hW.1 hJ0).last e3 rfl
    simp only [rbD] at hJ
    have hS := hJ.sub (F' := [_]) ((List.nil_sublist _).cons_cons _)
    generalize vs 3 = v3 at *
    generalize wz.1 = wf at *
    clear hW hJ0 hRr hRt hN0 hA0 hJ e3
    go_wp2_with fail
    refine ⟨⟨j + 1, v3, by go_num, rfl, hlj, ?_⟩, by simp [intOf]; omega⟩
    rw [HE.out, show Aa (bs ++ Ak za ++ Ak zb) = Aa bs ++ Aa (Ak za) ++ Aa (Ak zb) by simp [Aa], show (bs ++ Ak za ++ Ak zb).length = bs.length + (Ak za).length + (Ak zb).length by rw [List.length_append, List.length_append]]
    exact hS
  ·obtain rfl : j = L.length := by omega
   rw [List.take_length] at hS
   go_wp2_with (first | ((with_reducible refine qB ?_); refine qc ?_ ?_ <;> intro h_ <;> go_prune))
   go_ret
   exact ⟨_, rfl, hS.mono (AE.pure True) fun _ _ _ => trivial⟩
end
section
open Go.RowKit
attribute [local go_sem ↓] Go.wp_at_zero Go.wp_at_succ
set_option maxRecDepth 20000
set_option exponentiation.threshold 5000
theorem JE (x n : Nat) (hx : x < AA) (hn : n < 64) (w : World) :
  Calls Tryz.prog 221 #[.int .u64 (x : Int), .int .i64 (n : Int)] w fun e w' => e = .returned (.int .u64 (Fy x n : Nat)) /\ ∃ m, w' = w.drewN m := by
 obtain ⟨m, hm⟩ : ∃ m, m = 64 - n := ⟨_, rfl⟩
 have h3 : IntKind.i64.wrap (64 - (n : Int)) = (m : Int) := by rw [IntWalk.i64_in _ (by omega)]; omega
 have h4 : (64 : Int) - (n : Int) = (m : Int) := by omega
 have HR := Lib.hid (show bits .or .u64 (IntKind.u64.wrap ((x : Int) * 2 ^ n)) ((x : Int) / 2 ^ m) = ((Fy x n : Nat) : Int) by
  have h6 : IntKind.u64.wrap ((x : Int) * 2 ^ n) = ((x * 2 ^ n % AA : Nat) : Int) := by
   rw [show (x : Int) * 2 ^ n = ((x * 2 ^ n : Nat) : Int) by rw [Int.natCast_mul, Int.natCast_pow]; rfl]
   exact wrap_u64 _
  have h7 : (x : Int) / 2 ^ m = ((x / 2 ^ m : Nat) : Int) := by rw [Int.natCast_ediv, Int.natCast_pow]; rfl
  rw [h6, h7, or64 (Nat.mod_lt _ (by simp [AA])) (Nat.lt_of_le_of_lt (Nat.div_le_self _ _) hx), hm]; rfl)
 have hm64 : m <= 64 := by omega
 clear hm
 go_enter Tryz.func221, Tryz.ntmps221
 go_wp2_with (go_region)
 rw [HR.out]
 go_ret
 exact ⟨rfl, 1, rfl⟩
theorem rotl03_ret (x n : Nat) (hx : x < AA) (hn : n < 64) (w : World) : Calls Tryz.prog 221 #[.int .u64 (x : Int), .int .i64 (n : Int)] w (Az (fun r _ => r = .int .u64 (Fy x n : Nat)) w) :=
 (JE x n hx hn w).mono fun _ _ ⟨h, m, hm⟩ => ⟨_, h, rfl, by rw [hm]; exact DR (Below.refl _ _) m⟩
theorem turns03_any (w0 : World) : Calls Tryz.prog 222 #[] w0 (Az (fun x w' => w'.ownsRow w0.heap.size 3 1 x 25 (i64s Cb)) w0) := by
 have hS := St.start0 (w := w0)
 go_enter Tryz.func222, Tryz.ntmps222
 go_wp2_with ((with_reducible show wpList _ _ _ (⟨_, .buildSlice _ 25 _, _, _, _, _⟩ :: _) _ _); refine D4 hS rfl _ 3 25 _ rfl Tryz.underlying74 (i64s Cb).toArray (by kernel_rfl) 1 (by kernel_rfl) (by decide) ?_; clear hS; intro g w_ hS)
 go_ret
 exact Az.mk (hS.own 0 rfl) hS.below
theorem rounds03_any (w0 : World) : Calls Tryz.prog 201 #[] w0 (Az (fun x w' => w'.ownsRow w0.heap.size 26 1 x 24 (Ai Bf)) w0) := by
 have hS := St.start0 (w := w0)
 go_enter Tryz.func201, Tryz.ntmps201
 go_wp2_with ((with_reducible show wpList _ _ _ (⟨_, .buildSlice _ 24 _, _, _, _, _⟩ :: _) _ _); refine D4 hS rfl _ 26 24 _ rfl Tryz.underlying37 (Ai Bf).toArray (by kernel_rfl) 1 (by kernel_rfl) (by decide) ?_; clear hS; intro g w_ hS)
 go_ret
 exact Az.mk (hS.own 0 rfl) hS.below
def oTo (B : List Nat) (x y : Nat) : List Nat := (List.range 25).map fun i => if i % 5 < x \/ (i % 5 = x /\ i / 5 < y) then ka B i else 0
theorem oTo_len (B : List Nat) (x y : Nat) : (oTo B x y).length = 25 := by simp [oTo]
theorem oTo_zero (B : List Nat) : oTo B 0 0 = List.replicate 25 0 := by
 apply List.ext_getElem
 ·simp [oTo]
 ·intro j h1 h2
  simp only [oTo, List.getElem_map, List.getElem_range, List.getElem_replicate]
  rw [if_neg (by omega)]
theorem oTo_wrap (B : List Nat) (x : Nat) : oTo B x 5 = oTo B (x + 1) 0 := by
 apply List.ext_getElem
 ·simp [oTo]
 ·intro j h1 h2
  simp [oTo] at h1
  simp only [oTo, List.getElem_map, List.getElem_range]
  have : (j % 5 < x \/ (j % 5 = x /\ j / 5 < 5)) ↔ (j % 5 < x + 1 \/ (j % 5 = x + 1 /\ j / 5 < 0)) := by omega
  simp only [this]
theorem oTo_full (B : List Nat) : oTo B 5 0 = (List.range 25).map (ka B) := by
 apply List.ext_getElem
 ·simp [oTo]
 ·intro j h1 h2
  simp only [oTo, List.getElem_map, List.getElem_range]
  rw [if_pos (by omega)]
theorem oTo_step (B : List Nat) {x y : Nat} (hx : x < 5) (hy : y < 5) : (oTo B x y).set (x + 5 * y) (ka B (x + 5 * y)) = oTo B x (y + 1) := by
 apply List.ext_getElem
 ·simp [oTo]
 ·intro j h1 h2
  simp [oTo] at h1
  rw [List.getElem_set]
  simp only [oTo, List.getElem_map, List.getElem_range]
  split
  ·rename_i e; subst e; rw [if_pos (by omega)]
  ·have : (j % 5 < x \/ (j % 5 = x /\ j / 5 < y)) ↔ (j % 5 < x \/ (j % 5 = x /\ j / 5 < y + 1)) := by omega
   simp only [this]
theorem sl_at {w : World} {D : Nat -> Prop} {b o n c : Nat} {l : List Nat} (h : Sl w D 1 (.slice (some ⟨b, o, none⟩) n c) n (Ai l)) (hl : l.length = n) {j : Nat} (hj : j < n) : w.cell? ⟨b, o + j, none⟩ = some (.int .u64 (l.getD j 0 : Nat)) := by
 obtain ⟨_, A', c', e, _, _, h⟩ := h
 injection e with e1 e2 e3
 obtain ⟨b', o', e4, _, _, h⟩ := h (by omega)
 rw [<- e1] at e4
 injection e4 with e4
 injection e4 with e5 e6
 subst e5 e6
 exact h j _ (C2 l j (by omega))
theorem Ij {w : World} {D : Nat -> Prop} {b o n c : Nat} {l : List Nat} (h : Sl w D 1 (.slice (some ⟨b, o, none⟩) n c) n (Ai l)) (hl : l.length = n) {j : Nat} (hj : j < n) : w.cell? ⟨b, o + j * 1, none⟩ = some (.int .u64 (l.getD j 0 : Nat)) := by
 rw [Nat.mul_one]; exact sl_at h hl hj
set_option maxHeartbeats 4000000 in
theorem round03_any (p : Value) (a : List Nat) (c : Nat) (hl : a.length = 25) (hw : Aj a) (hc : c < AA) (w0 : World) (D : Nat -> Prop) (hp : Sl w0 D 1 p 25 (Ai a)) :
  Calls Tryz.prog 202 #[p, .int .u64 (c : Nat)] w0 (Az (fun x w' => w'.ownsRow w0.heap.size 26 1 x 25 (Ai (F6 a c))) w0) := by
 obtain ⟨_, A, ca, rfl, hca, _, hA⟩ := id hp
 obtain ⟨ab, ao, rfl, _, _, _⟩ := hA (by decide)
 obtain ⟨K, hk, hS⟩ : ∃ K, (∀ D w, K D w -> Sl w D 1 (.slice (some ⟨ab, ao, none⟩) 25 ca) 25 (Ai a)) /\ St w0 w0 [] K := ⟨fun D w => Sl w D 1 (.slice (some ⟨ab, ao, none⟩) 25 ca) 25 (Ai a), fun _ _ h => h, St.start Ao hp⟩
 clear hp
 have HK := Lib.hid hk
 clear hk hA
 go_enter Tryz.func202, Tryz.ntmps202
 go_wp2_with fail
 go_loopw [5, 6] (fun o i wr => ∃ (x : Nat) (ov : Value), x <= 5 /\ i = .int .i64 x /\ o = ov /\ St w0 wr [.own ov 26 1 x (Ai ((List.range x).map (kc a)))] K) (fun _ i _ => 5 - (intOf i).toNat)
 case atStart => exact ⟨0, _, by omega, rfl, rfl, hS.nil _ _⟩
 case round =>
  clear hS
  obtain ⟨x, ov, hx, rfl, rfl, hS⟩ := hrel
  by_cases hlt : x < 5
  ·have H0 := Lib.hid (fun (w : World) (h : Below wr.heap.size wr w) => Ij (HK.out _ _ (hS.ext h).ro) hl (j := x) (by omega))
   have H1 := Lib.hid (fun (w : World) (h : Below wr.heap.size wr w) => Ij (HK.out _ _ (hS.ext h).ro) hl (j := x + 5) (by omega))
   have H2 := Lib.hid (fun (w : World) (h : Below wr.heap.size wr w) => Ij (HK.out _ _ (hS.ext h).ro) hl (j := x + 10) (by omega))
   have H3 := Lib.hid (fun (w : World) (h : Below wr.heap.size wr w) => Ij (HK.out _ _ (hS.ext h).ro) hl (j := x + 15) (by omega))
   have H4 := Lib.hid (fun (w : World) (h : Below wr.heap.size wr w) => Ij (HK.out _ _ (hS.ext h).ro) hl (j := x + 20) (by omega))
   have hkc : kc a x = (((a.getD x 0 ^^^ a.getD (x + 5) 0) ^^^ a.getD (x + 10) 0) ^^^ a.getD (x + 15) 0) ^^^ a.getD (x + 20) 0 := rfl
   have l0 := hw.getD x
   have l1 := hw.getD (x + 5)
   have l2 := hw.getD (x + 10)
   have l3 := hw.getD (x + 15)
   have l4 := hw.getD (x + 20)
   generalize a.getD x 0 = a0 at *
   generalize a.getD (x + 5) 0 = a1 at *
   generalize a.getD (x + 10) 0 = a2 at *
   generalize a.getD (x + 15) 0 = a3 at *
   generalize a.getD (x + 20) 0 = a4 at *
   have HKC := Lib.hid hkc
   clear hkc
   go_wp2_with fail
   refine J0 (fun i__ v w => match i__ with
    | 0 => v = u5
    | 1 => v = .slice (some ⟨ab, ao, none⟩) 25 ca
    | 2 => v = .int .i64 ((x : Nat) : Int)
    | 3 => v = .pointer (some ⟨ab, ao + (x) * 1, none⟩)
    | 4 => v = .int .u64 (a0 : Nat)
    | 5 => v = .slice (some ⟨ab, ao, none⟩) 25 ca
    | 6 => v = .int .i64 ((x : Nat) : Int)
    | 7 => v = .int .i64 (((x : Nat) : Int) + (5 : Int))
    | 8 => v = .pointer (some ⟨ab, ao + (x + 5) * 1, none⟩)
    | 9 => v = .int .u64 (a1 : Nat)
    | 10 => v = .int .u64 ((a0 ^^^ a1 : Nat) : Int)
    | 11 => v = .slice (some ⟨ab, ao, none⟩) 25 ca
    | 12 => v = .int .i64 ((x : Nat) : Int)
    | 13 => v = .int .i64 (((x : Nat) : Int) + (10 : Int))
    | 14 => v = .pointer (some ⟨ab, ao + (x + 10) * 1, none⟩)
    | 15 => v = .int .u64 (a2 : Nat)
    | 16 => v = .int .u64 (((a0 ^^^ a1) ^^^ a2 : Nat) : Int)
    | 17 => v = .slice (some ⟨ab, ao, none⟩) 25 ca
    | 18 => v = .int .i64 ((x : Nat) : Int)
    | 19 => v = .int .i64 (((x : Nat) : Int) + (15 : Int))
    | 20 => v = .pointer (some ⟨ab, ao + (x + 15) * 1, none⟩)
    | 21 => v = .int .u64 (a3 : Nat)
    | 22 => v = .int .u64 ((((a0 ^^^ a1) ^^^ a2) ^^^ a3 : Nat) : Int)
    | 23 => v = .slice (some ⟨ab, ao, none⟩) 25 ca
    | 24 => v = .int .i64 ((x : Nat) : Int)
    | 25 => v = .int .i64 (((x : Nat) : Int) + (20 : Int))
    | 26 => v = .pointer (some ⟨ab, ao + (x + 20) * 1, none⟩)
    | 27 => v = .int .u64 (a4 : Nat)
    | 28 => v = .int .u64 (((((a0 ^^^ a1) ^^^ a2) ^^^ a3) ^^^ a4 : Nat) : Int)
    | 29 => Sl w (fun _ => True) 1 v 1 [.int .u64 (kc a x : Nat)]
    | 30 => True
    | 31 => True
    | _ => True) 30 [31] (by kernel_rfl) (by kernel_rfl) (by kernel_rfl) (by kernel_rfl) (by kernel_rfl) ?mono ⟨.inr ?r0, .inr ?r1, .inr ?r2, .inr ?r3, .inr ?r4, .inr ?r5, .inr ?r6, .inr ?r7, .inr ?r8, .inr ?r9, .inr ?r10, .inr ?r11, .inr ?r12, .inr ?r13, .inr ?r14, .inr ?r15, .inr ?r16, .inr ?r17, .inr ?r18, .inr ?r19, .inr ?r20, .inr ?r21, .inr ?r22, .inr ?r23, .inr ?r24, .inr ?r25, .inr ?r26, .inr ?r27, .inr ?r28, .inr ?r29, .inl (by decide), .inl (by decide), trivial⟩ ?post
   case mono =>
    intro i v w w' h hb
    match i, h with
    | 0, h | 1, h | 2, h | 3, h | 4, h | 5, h | 6, h | 7, h | 8, h | 9, h | 10, h | 11, h | 12, h | 13, h | 14, h | 15, h | 16, h | 17, h | 18, h | 19, h | 20, h | 21, h | 22, h | 23, h | 24, h | 25, h | 26, h | 27, h | 28, h => exact h
    | 29, h => exact h.ext hb
    | 30, h | 31, h => exact h
    | _ + 32, h => trivial
   case r0 =>
    refine Bj fun b__ w hW hold hpre => wU rfl fun K hK => ?_
    have e5 : b__.eval (.tmp 5) = u5 := (hold 5 (by kernel_rfl)).trans rfl
    exact BB rfl e5 (hK _ _ rfl (Below.refl _ _))
   case r1 =>
    refine Bj fun b__ w hW hold hpre => wU rfl fun K hK => ?_
    have e0 : b__.eval (.tmp 0) = .slice (some ⟨ab, ao, none⟩) 25 ca := (hold 0 (by kernel_rfl)).trans rfl
    exact BB rfl e0 (hK _ _ rfl (Below.refl _ _))
   case r2 =>
    refine Bj fun b__ w hW hold hpre => wU rfl fun K hK => ?_
    have e6 : b__.eval (.tmp 6) = .int .i64 ((x : Nat) : Int) := (hold 6 (by kernel_rfl)).trans rfl
    exact BB rfl e6 (hK _ _ rfl (Below.refl _ _))
   case r3 =>
    refine Bj fun b__ w hW hold hpre => wU rfl fun K hK => ?_
    have e19 := pq hpre 0 1 19
    have e20 := pq hpre 1 2 20
    exact BD rfl e19 e20 (Ad (m := x) Tryz.underlying37 (by kernel_rfl) (by omega) (by omega)) (hK _ _ rfl (Below.refl _ _))
   case r4 =>
    refine Bj fun b__ w hW hold hpre => wU rfl fun K hK => ?_
    have e21 := pq hpre 0 3 21
    exact Ah rfl e21 (by kernel_rfl) (H0.out w (Bh hW)) (hK _ _ rfl (Below.refl _ _))
   case r5 =>
    refine Bj fun b__ w hW hold hpre => wU rfl fun K hK => ?_
    have e0 : b__.eval (.tmp 0) = .slice (some ⟨ab, ao, none⟩) 25 ca := (hold 0 (by kernel_rfl)).trans rfl
    exact BB rfl e0 (hK _ _ rfl (Below.refl _ _))
   case r6 =>
    refine Bj fun b__ w hW hold hpre => wU rfl fun K hK => ?_
    have e6 : b__.eval (.tmp 6) = .int .i64 ((x : Nat) : Int) := (hold 6 (by kernel_rfl)).trans rfl
    exact BB rfl e6 (hK _ _ rfl (Below.refl _ _))
   case r7 =>
    refine Bj fun b__ w hW hold hpre => wU rfl fun K hK => ?_
    have e24 := pq hpre 0 6 24
    exact Ax (vx := .int .i64 ((x : Nat) : Int)) (vy := .int .i64 (5 : Int)) (v := .int .i64 (((x : Nat) : Int) + (5 : Int))) rfl e24 rfl rfl (Ct (by omega) (by omega)) (hK _ _ rfl (Below.refl _ _))
   case r8 =>
    refine Bj fun b__ w hW hold hpre => wU rfl fun K hK => ?_
    have e23 := pq hpre 0 5 23
    have e25 := pq hpre 1 7 25
    exact BD rfl e23 e25 (Ad (m := x + 5) Tryz.underlying37 (by kernel_rfl) (by omega) (by omega)) (hK _ _ rfl (Below.refl _ _))
   case r9 =>
    refine Bj fun b__ w hW hold hpre => wU rfl fun K hK => ?_
    have e26 := pq hpre 0 8 26
    exact Ah rfl e26 (by kernel_rfl) (H1.out w (Bh hW)) (hK _ _ rfl (Below.refl _ _))
   case r10 =>
    refine Bj fun b__ w hW hold hpre => wU rfl fun K hK => ?_
    have e22 := pq hpre 0 4 22
    have e27 := pq hpre 1 9 27
    exact Ax rfl e22 e27 rfl (Dj l0 l1) (hK _ _ rfl (Below.refl _ _))
   case r11 =>
    refine Bj fun b__ w hW hold hpre => wU rfl fun K hK => ?_
    have e0 : b__.eval (.tmp 0) = .slice (some ⟨ab, ao, none⟩) 25 ca := (hold 0 (by kernel_rfl)).trans rfl
    exact BB rfl e0 (hK _ _ rfl (Below.refl _ _))
   case r12 =>
    refine Bj fun b__ w hW hold hpre => wU rfl fun K hK => ?_
    have e6 : b__.eval (.tmp 6) = .int .i64 ((x : Nat) : Int) := (hold 6 (by kernel_rfl)).trans rfl
    exact BB rfl e6 (hK _ _ rfl (Below.refl _ _))
   case r13 =>
    refine Bj fun b__ w hW hold hpre => wU rfl fun K hK => ?_
    have e30 := pq hpre 0 12 30
    exact Ax (vx := .int .i64 ((x : Nat) : Int)) (vy := .int .i64 (10 : Int)) (v := .int .i64 (((x : Nat) : Int) + (10 : Int))) rfl e30 rfl rfl (Ct (by omega) (by omega)) (hK _ _ rfl (Below.refl _ _))
   case r14 =>
    refine Bj fun b__ w hW hold hpre => wU rfl fun K hK => ?_
    have e29 := pq hpre 0 11 29
    have e31 := pq hpre 1 13 31
    exact BD rfl e29 e31 (Ad (m := x + 10) Tryz.underlying37 (by kernel_rfl) (by omega) (by omega)) (hK _ _ rfl (Below.refl _ _))
   case r15 =>
    refine Bj fun b__ w hW hold hpre => wU rfl fun K hK => ?_
    have e32 := pq hpre 0 14 32
    exact Ah rfl e32 (by kernel_rfl) (H2.out w (Bh hW)) (hK _ _ rfl (Below.refl _ _))
   case r16 =>
    refine Bj fun b__ w hW hold hpre => wU rfl fun K hK => ?_
    have e28 := pq hpre 0 10 28
    have e33 := pq hpre 1 15 33
    exact Ax rfl e28 e33 rfl (Dj (BF l0 l1) l2) (hK _ _ rfl (Below.refl _ _))
   case r17 =>
    refine Bj fun b__ w hW hold hpre => wU rfl fun K hK => ?_
    have e0 : b__.eval (.tmp 0) = .slice (some ⟨ab, ao, none⟩) 25 ca := (hold 0 (by kernel_rfl)).trans rfl
    exact BB rfl e0 (hK _ _ rfl (Below.refl _ _))
   case r18 =>
    refine Bj fun b__ w hW hold hpre => wU rfl fun K hK => ?_
    have e6 : b__.eval (.tmp 6) = .int .i64 ((x : Nat) : Int) := (hold 6 (by kernel_rfl)).trans rfl
    exact BB rfl e6 (hK _ _ rfl (Below.refl _ _))
   case r19 =>
    refine Bj fun b__ w hW hold hpre => wU rfl fun K hK => ?_
    have e36 := pq hpre 0 18 36
    exact Ax (vx := .int .i64 ((x : Nat) : Int)) (vy := .int .i64 (15 : Int)) (v := .int .i64 (((x : Nat) : Int) + (15 : Int))) rfl e36 rfl rfl (Ct (by omega) (by omega)) (hK _ _ rfl (Below.refl _ _))
   case r20 =>
    refine Bj fun b__ w hW hold hpre => wU rfl fun K hK => ?_
    have e35 := pq hpre 0 17 35
    have e37 := pq hpre 1 19 37
    exact BD rfl e35 e37 (Ad (m := x + 15) Tryz.underlying37 (by kernel_rfl) (by omega) (by omega)) (hK _ _ rfl (Below.refl _ _))
   case r21 =>
    refine Bj fun b__ w hW hold hpre => wU rfl fun K hK => ?_
    have e38 := pq hpre 0 20 38
    exact Ah rfl e38 (by kernel_rfl) (H3.out w (Bh hW)) (hK _ _ rfl (Below.refl _ _))
   case r22 =>
    refine Bj fun b__ w hW hold hpre => wU rfl fun K hK => ?_
    have e34 := pq hpre 0 16 34
    have e39 := pq hpre 1 21 39
    exact Ax rfl e34 e39 rfl (Dj (BF (BF l0 l1) l2) l3) (hK _ _ rfl (Below.refl _ _))
   case r23 =>
    refine Bj fun b__ w hW hold hpre => wU rfl fun K hK => ?_
    have e0 : b__.eval (.tmp 0) = .slice (some ⟨ab, ao, none⟩) 25 ca := (hold 0 (by kernel_rfl)).trans rfl
    exact BB rfl e0 (hK _ _ rfl (Below.refl _ _))
   case r24 =>
    refine Bj fun b__ w hW hold hpre => wU rfl fun K hK => ?_
    have e6 : b__.eval (.tmp 6) = .int .i64 ((x : Nat) : Int) := (hold 6 (by kernel_rfl)).trans rfl
    exact BB rfl e6 (hK _ _ rfl (Below.refl _ _))
   case r25 =>
    refine Bj fun b__ w hW hold hpre => wU rfl fun K hK => ?_
    have e42 := pq hpre 0 24 42
    exact Ax (vx := .int .i64 ((x : Nat) : Int)) (vy := .int .i64 (20 : Int)) (v := .int .i64 (((x : Nat) : Int) + (20 : Int))) rfl e42 rfl rfl (Ct (by omega) (by omega)) (hK _ _ rfl (Below.refl _ _))
   case r26 =>
    refine Bj fun b__ w hW hold hpre => wU rfl fun K hK => ?_
    have e41 := pq hpre 0 23 41
    have e43 := pq hpre 1 25 43
    exact BD rfl e41 e43 (Ad (m := x + 20) Tryz.underlying37 (by kernel_rfl) (by omega) (by omega)) (hK _ _ rfl (Below.refl _ _))
   case r27 =>
    refine Bj fun b__ w hW hold hpre => wU rfl fun K hK => ?_
    have e44 := pq hpre 0 26 44
    exact Ah rfl e44 (by kernel_rfl) (H4.out w (Bh hW)) (hK _ _ rfl (Below.refl _ _))
   case r28 =>
    refine Bj fun b__ w hW hold hpre => wU rfl fun K hK => ?_
    have e40 := pq hpre 0 22 40
    have e45 := pq hpre 1 27 45
    exact Ax rfl e40 e45 rfl (Dj (BF (BF (BF l0 l1) l2) l3) l4) (hK _ _ rfl (Below.refl _ _))
   case r29 =>
    refine Bj fun b__ w hW hold hpre => wU rfl fun K hK => ?_
    have e46 : b__.eval (.tmp 46) = .int .u64 (((((a0 ^^^ a1) ^^^ a2) ^^^ a3) ^^^ a4 : Nat) : Int) := pq hpre 0 28 46
    exact D8 rfl Tryz.underlying37 (ps := [(0, .int .u64 (kc a x : Nat))]) (cells := #[.int .u64 (kc a x : Nat)]) (by simp [e46, HKC.out]) (by kernel_rfl) fun w' hbx hbel => hK _ w' (sl_one hbx) hbel
   case post =>
    intro b__ wz hW hdf hsz hold hT
    have e47 : (fun (v : Value) (w : World) => Sl w (fun _ => True) 1 v 1 [.int .u64 (kc a x : Nat)]) (b__.eval (.tmp 47)) wz := hT 29 _ 47 (by decide) rfl rfl
    obtain ⟨vs, hvs, hb⟩ := EG hdf hsz (fun s hs => hold s (noDstS_of hs))
    have e18 : vs 18 = u5 := (hvs 18).symm.trans (hT 0 _ 18 (by decide) rfl rfl)
    replace e47 := (hvs 47) ▸ e47
    have e19 : vs 19 = .slice (some ⟨ab, ao, none⟩) 25 ca := (hvs 19).symm.trans (hT 1 _ 19 (by decide) rfl rfl)
    have e20 : vs 20 = .int .i64 ((x : Nat) : Int) := (hvs 20).symm.trans (hT 2 _ 20 (by decide) rfl rfl)
    have e21 : vs 21 = .pointer (some ⟨ab, ao + (x) * 1, none⟩) := (hvs 21).symm.trans (hT 3 _ 21 (by decide) rfl rfl)
    have e22 : vs 22 = .int .u64 (a0 : Nat) := (hvs 22).symm.trans (hT 4 _ 22 (by decide) rfl rfl)
    have e23 : vs 23 = .slice (some ⟨ab, ao, none⟩) 25 ca := (hvs 23).symm.trans (hT 5 _ 23 (by decide) rfl rfl)
    have e24 : vs 24 = .int .i64 ((x : Nat) : Int) := (hvs 24).symm.trans (hT 6 _ 24 (by decide) rfl rfl)
    have e25 : vs 25 = .int .i64 (((x : Nat) : Int) + (5 : Int)) := (hvs 25).symm.trans (hT 7 _ 25 (by decide) rfl rfl)
    have e26 : vs 26 = .pointer (some ⟨ab, ao + (x + 5) * 1, none⟩) := (hvs 26).symm.trans (hT 8 _ 26 (by decide) rfl rfl)
    have e27 : vs 27 = .int .u64 (a1 : Nat) := (hvs 27).symm.trans (hT 9 _ 27 (by decide) rfl rfl)
    have e28 : vs 28 = .int .u64 ((a0 ^^^ a1 : Nat) : Int) := (hvs 28).symm.trans (hT 10 _ 28 (by decide) rfl rfl)
    have e29 : vs 29 = .slice (some ⟨ab, ao, none⟩) 25 ca := (hvs 29).symm.trans (hT 11 _ 29 (by decide) rfl rfl)
    have e30 : vs 30 = .int .i64 ((x : Nat) : Int) := (hvs 30).symm.trans (hT 12 _ 30 (by decide) rfl rfl)
    have e31 : vs 31 = .int .i64 (((x : Nat) : Int) + (10 : Int)) := (hvs 31).symm.trans (hT 13 _ 31 (by decide) rfl rfl)
    have e32 : vs 32 = .pointer (some ⟨ab, ao + (x + 10) * 1, none⟩) := (hvs 32).symm.trans (hT 14 _ 32 (by decide) rfl rfl)
    have e33 : vs 33 = .int .u64 (a2 : Nat) := (hvs 33).symm.trans (hT 15 _ 33 (by decide) rfl rfl)
    have e34 : vs 34 = .int .u64 (((a0 ^^^ a1) ^^^ a2 : Nat) : Int) := (hvs 34).symm.trans (hT 16 _ 34 (by decide) rfl rfl)
    have e35 : vs 35 = .slice (some ⟨ab, ao, none⟩) 25 ca := (hvs 35).symm.trans (hT 17 _ 35 (by decide) rfl rfl)
    have e36 : vs 36 = .int .i64 ((x : Nat) : Int) := (hvs 36).symm.trans (hT 18 _ 36 (by decide) rfl rfl)
    have e37 : vs 37 = .int .i64 (((x : Nat) : Int) + (15 : Int)) := (hvs 37).symm.trans (hT 19 _ 37 (by decide) rfl rfl)
    have e38 : vs 38 = .pointer (some ⟨ab, ao + (x + 15) * 1, none⟩) := (hvs 38).symm.trans (hT 20 _ 38 (by decide) rfl rfl)
    have e39 : vs 39 = .int .u64 (a3 : Nat) := (hvs 39).symm.trans (hT 21 _ 39 (by decide) rfl rfl)
    have e40 : vs 40 = .int .u64 ((((a0 ^^^ a1) ^^^ a2) ^^^ a3 : Nat) : Int) := (hvs 40).symm.trans (hT 22 _ 40 (by decide) rfl rfl)
    have e41 : vs 41 = .slice (some ⟨ab, ao, none⟩) 25 ca := (hvs 41).symm.trans (hT 23 _ 41 (by decide) rfl rfl)
    have e42 : vs 42 = .int .i64 ((x : Nat) : Int) := (hvs 42).symm.trans (hT 24 _ 42 (by decide) rfl rfl)
    have e43 : vs 43 = .int .i64 (((x : Nat) : Int) + (20 : Int)) := (hvs 43).symm.trans (hT 25 _ 43 (by decide) rfl rfl)
    have e44 : vs 44 = .pointer (some ⟨ab, ao + (x + 20) * 1, none⟩) := (hvs 44).symm.trans (hT 26 _ 44 (by decide) rfl rfl)
    have e45 : vs 45 = .int .u64 (a4 : Nat) := (hvs 45).symm.trans (hT 27 _ 45 (by decide) rfl rfl)
    have e46 : vs 46 = .int .u64 (((((a0 ^^^ a1) ^^^ a2) ^^^ a3) ^^^ a4 : Nat) : Int) := (hvs 46).symm.trans (hT 28 _ 46 (by decide) rfl rfl)
    subst hb
    clear hvs hold hT hdf hsz
    simp only [AO, Act.put, zz, ze]
    (intro o_ ho_; simp only [List.getElem?_toArray, List.getElem?_cons_succ, List.getElem?_cons_zero, Option.some.injEq] at ho_; subst ho_)
    refine F3 (n := x) (m := 1) rfl Jc e18 ((hS.ext hW).own 0 rfl) rfl e47 (by intro u hu; simp at hu; subst hu; rfl) (by omega) (by omega) (hS.ext hW).size fun v' w4 a1 a2 a3 => ?_
    replace hS := (hS.ext hW).upd 0 rfl (.own v' 26 1 (x + 1) (Ai ((List.range x).map (kc a)) ++ [Value.int .u64 ((kc a x : Nat) : Int)])) a2 a1 a3
    (intro o_ ho_; simp only [List.getElem?_toArray, List.getElem?_cons_succ, List.getElem?_cons_zero, Option.some.injEq] at ho_; subst ho_)
    simp only [Act.put, List.setIfInBounds_toArray, List.set_cons_zero, List.set_cons_succ]
    refine Dl rfl rfl ?_
    simp only [CD]
    simp only [Act.put, List.setIfInBounds_toArray, List.set_cons_zero, List.set_cons_succ]
    clear e47
    go_wp2_with fail
    refine ⟨⟨x + 1, v', hlt, by go_num, rfl, ?_⟩, by simp [intOf]; omega⟩
    rw [List.range_succ, List.map_append]
    simpa [Ai] using hS
  ·obtain rfl : x = 5 := by omega
   simp only [show ((5 : Nat) : Int) = 5 from rfl]
   replace hS := hS.freeze 0 (by decide) rfl
   have hwC := Hs hw
   have hlC : ((List.range 5).map (kc a)).length = 5 := by simp
   obtain ⟨_, Ac, cc, rfl, _, _, hcA⟩ := id hS.ro.2
   obtain ⟨cb, co, rfl, _, _, _⟩ := hcA (by decide)
   clear hcA
   obtain ⟨C, hCE⟩ : ∃ C, C = (List.range 5).map (kc a) := ⟨_, rfl⟩
   rw [<- hCE] at hS hwC hlC
   have HCE := Lib.hid hCE
   clear hCE hlt hx
   go_wp2_with (first
    | ((with_reducible show wpList _ _ _ (⟨_, .makeSlice _ _ _, _, _, _, _⟩ :: _) _ _); refine IC hS rfl _ _ _ rfl Jc .i64 .i64 25 #[.int .u64 0] rfl rfl (by kernel_rfl) (by decide) (by decide) ?_; clear hS; intro g7 w_ hS))
   rw [Ho] at hS
   go_loopw [8] (fun i wr => ∃ (x : Nat), x <= 5 /\ i = .int .i64 x /\ St w0 wr [.own (.slice (some ⟨g7, 0, none⟩) 25 25) 26 1 25 (Ai (FD a C x))] (fun D w => K D w /\ Sl w D 1 (.slice (some ⟨cb, co, none⟩) 5 cc) 5 (Ai C))) (fun i _ => 5 - (intOf i).toNat)
   case atStart => exact ⟨0, by omega, rfl, hS⟩
   case round =>
    clear hS
    obtain ⟨x, hx, rfl, hS⟩ := hrel
    by_cases hlt : x < 5
    ·have hsl := hS.ro.2
     have h0 := sl_at hsl hlC (j := (x + 4) % 5) (by omega)
     have h1 := sl_at hsl hlC (j := (x + 1) % 5) (by omega)
     have HD := Lib.hid (show kd C x = C.getD ((x + 4) % 5) 0 ^^^ Fy (C.getD ((x + 1) % 5) 0) 1 from rfl)
     have l0 := hwC.getD ((x + 4) % 5)
     have l1 := hwC.getD ((x + 1) % 5)
     generalize C.getD ((x + 4) % 5) 0 = c0 at *
     generalize C.getD ((x + 1) % 5) 0 = c1 at *
     have ta : IntKind.i64.wrap ((x : Int) + 4) = (x : Int) + 4 := IntWalk.i64_in _ (by omega)
     have tb : IntKind.i64.wrap ((x : Int) + 1) = (x : Int) + 1 := IntWalk.i64_in _ (by omega)
     have tc : ((x : Int) + 4).tmod 5 = (((x + 4) % 5 : Nat) : Int) := by rw [Int.tmod_eq_emod_of_nonneg (by omega)]; omega
     have td : ((x : Int) + 1).tmod 5 = (((x + 1) % 5 : Nat) : Int) := by rw [Int.tmod_eq_emod_of_nonneg (by omega)]; omega
     have q4 : (x + 4) % 5 < 5 := by omega
     have q1 : (x + 1) % 5 < 5 := by omega
     generalize (x + 4) % 5 = x4 at *
     generalize (x + 1) % 5 = x1 at *
     clear hsl
     go_wp2_with (go_quiet ((go_at_call 221; exact Calls.quiet_of (JE _ 1 l1 (by decide) _))))
     have HE := Lib.hid (show bits .xor .u64 (c0 : Int) (Fy c1 1 : Nat) = ((kd C x : Nat) : Int) by rw [E6 l0 (Je l1), HD.out])
     simp only [HE.out]
     have ld := kd_lt hwC x
     replace hS := hS.drewN nq
     clear h0 h1 HD HE l0 l1 ta tb tc td q4 q1
     generalize wr.drewN nq = W2 at *
     have hwB := Dm hw hwC x
     have hlB := Ht a C x
     have HSB := Lib.hid (Iq a C x)
     generalize FD a C x = B at *
     generalize hd0 : kd C x = d0 at *
     have HD0 := Lib.hid hd0
     clear hd0
     go_loopw [10] (fun i wr => ∃ (y : Nat), y <= 5 /\ i = .int .i64 y /\ St w0 wr [.own (.slice (some ⟨g7, 0, none⟩) 25 25) 26 1 25 (Ai (DB a C B x y))] (fun D w => K D w /\ Sl w D 1 (.slice (some ⟨cb, co, none⟩) 5 cc) 5 (Ai C))) (fun i _ => 5 - (intOf i).toNat)
     case atStart => exact ⟨0, by omega, rfl, hS⟩
     case round =>
      clear hS
      obtain ⟨y, hy, rfl, hS⟩ := hrel
      by_cases hlt4 : y < 5
      ·have HA := Lib.hid (fun (w : World) (h : Below wr.heap.size wr w) => Ij (HK.out _ _ (hS.ext h).ro.1) hl (j := x + 5 * y) (by omega))
       have hlR := Ir a C B x y
       have l0 := hw.getD (x + 5 * y)
       have l1 := turns_lt (x + 5 * y)
       have HTU := Lib.hid (show (i64s Cb)[(x + 5 * y) * 1 + 0]? = some (.int .i64 (Cb.getD (x + 5 * y) 0 : Nat)) by
        simp [i64s, List.getD_eq_getElem?_getD, List.getElem?_eq_getElem (show x + 5 * y < Cb.length by show _ < 25; omega)])
       have HKA := Lib.hid (show kbAt a C x (DB a C B x y) y = (DB a C B x y).set (y + 5 * ((2 * x + 3 * y) % 5)) (Fy (a.getD (x + 5 * y) 0 ^^^ kd C x) (Cb.getD (x + 5 * y) 0)) from rfl)
       rw [HD0.out] at HKA
       have HSR := Lib.hid (Gw a C B x y)
       generalize a.getD (x + 5 * y) 0 = a0 at *
       generalize Cb.getD (x + 5 * y) 0 = t0 at *
       generalize DB a C B x y = R at *
       have lx := BF l0 ld
       go_wp2_with fail
       refine wp_zL 28 [] [.i (.slice (some ⟨g7, 0, none⟩) 25 25), .n ((y : Nat) : Int), .n ((x : Nat) : Int), .n ((2 : Int) * ((x : Nat) : Int)), .n ((y : Nat) : Int), .n ((3 : Int) * ((y : Nat) : Int)), .n (((2 : Int) * ((x : Nat) : Int)) + ((3 : Int) * ((y : Nat) : Int))), .n ((((2 : Int) * ((x : Nat) : Int)) + ((3 : Int) * ((y : Nat) : Int))) % (5 : Int)), .n ((5 : Int) * ((((2 : Int) * ((x : Nat) : Int)) + ((3 : Int) * ((y : Nat) : Int))) % (5 : Int))), .n (((y : Nat) : Int) + ((5 : Int) * ((((2 : Int) * ((x : Nat) : Int)) + ((3 : Int) * ((y : Nat) : Int))) % (5 : Int)))), .i (.slice (some ⟨ab, ao, none⟩) 25 ca), .n ((x : Nat) : Int), .n ((y : Nat) : Int), .n ((5 : Int) * ((y : Nat) : Int)), .n (((x : Nat) : Int) + ((5 : Int) * ((y : Nat) : Int))), .q ab (ao + (x + 5 * y) * 1), .i (.int .u64 ((a0 : Nat) : Int)), .i (.int .u64 ((d0 : Nat) : Int)), .i (.int .u64 ((a0 ^^^ d0 : Nat) : Int)), .s (fun v w => Sl w (fun _ => True) 1 v 25 (i64s Cb)) fun v w w' h hb => h.ext hb, .n ((x : Nat) : Int), .n ((y : Nat) : Int), .n ((5 : Int) * ((y : Nat) : Int)), .n (((x : Nat) : Int) + ((5 : Int) * ((y : Nat) : Int))), .s (fun v w => ∃ p : Addr, v = .pointer (some p) /\ w.cell? p = some (.int .i64 ((t0 : Nat) : Int)) /\ p.block < w.heap.size) fun v w w' h hb => by obtain ⟨p, h1, h2, h3⟩ := h; exact ⟨p, h1, (hb.cell h3).trans h2, Nat.lt_of_lt_of_le h3 hb.size⟩, .n ((t0 : Nat) : Int), .i (.int .u64 ((Fy (a0 ^^^ d0) t0 : Nat) : Int)), .q g7 (0 + (y + 5 * ((2 * x + 3 * y) % 5)) * 1), .t] ⟨uM, uM, uM, uB (h := fun w hW hN => DK (by omega) (by omega)), uM, uB (h := fun w hW hN => DK (by omega) (by omega)), uB (h := fun w hW hN => Ct (by omega) (by omega)), uB (h := fun w hW hN => EA (by omega) (by omega)), uB (h := fun w hW hN => DK (by omega) (by omega)), uB (h := fun w hW hN => Ct (by omega) (by omega)), uM, uM, uM, uB (h := fun w hW hN => DK (by omega) (by omega)), uB (h := fun w hW hN => Ct (by omega) (by omega)), uI (h := fun w hW hN => Ad (m := x + 5 * y) Tryz.underlying37 (by kernel_rfl) (by omega) (by omega)), uC (h := fun w hW hN => HA.out w hW), uM, uB (h := fun w hW hN => Dj l0 ld), ?_, uM, uM, uB (h := fun w hW hN => DK (by omega) (by omega)), uB (h := fun w hW hN => Ct (by omega) (by omega)), ?_, ?_, ?_, uI (h := fun w hW hN => Ad (m := y + 5 * ((2 * x + 3 * y) % 5)) Tryz.underlying37 (by kernel_rfl) (by omega) (by omega)), trivial⟩ ?_
       ·refine uT fun b__ w hW hE K hK => ?_
        exact AP rfl (by kernel_rfl) rfl (turns03_any w) fun v w' h hb => hK v w' ((Sl.of_own h).imp fun _ _ _ => trivial) hb
       ·refine uT fun b__ w hW hE K hK => ?_
        have e91 := hE 91
        have e95 := hE 95
        obtain ⟨b1, j1, h1, -, h3, h4⟩ := GZ (P := Tryz.prog) (T := 74) (kk := .i64) (k := x + 5 * y) e91 Tryz.underlying74 (by kernel_rfl) (by omega)
        exact BD rfl rfl (e95.trans (congrArg (Value.int .i64) (by omega))) h1 (hK _ _ ⟨_, rfl, h4 0 _ HTU.out, h3⟩ (Below.refl _ _))
       ·refine uT fun b__ w hW hE K hK => ?_
        have e96 := hE 96
        obtain ⟨p, hp, hc, -⟩ := e96
        exact Ah rfl hp (by kernel_rfl) hc (hK _ _ rfl (Below.refl _ _))
       ·refine uT fun b__ w hW hE K hK => ?_
        have e90 := hE 90
        have e97 := hE 97
        exact AP rfl (by kernel_rfl) (by simp only [List.map_cons, List.map_nil, e90, e97]) (rotl03_ret (a0 ^^^ d0) t0 lx l1 w) fun v w' h hb => hK v w' h hb
       ·intro vs wz hW hT
        obtain ⟨e72, e73, e74, e75, e76, e77, e78, e79, e80, e81, e82, e83, e84, e85, e86, e87, e88, e89, e90, e91, e92, e93, e94, e95, e96, e97, e98, e99, -⟩ := hT
        have bx : (fun _ : Nat => True) 0 := trivial
        simp only [AO, Act.put, zz, ze]
        (intro o_ ho_; simp only [List.getElem?_toArray, List.getElem?_cons_succ, List.getElem?_cons_zero, Option.some.injEq] at ho_; subst ho_)
        refine DY rfl (g := g7) (i := y + 5 * ((2 * x + 3 * y) % 5)) (e99.trans (by rw [Nat.zero_add, Nat.mul_one])) e98 ((hS.ext hW).own 0 rfl) (by omega) rfl rfl (by kernel_rfl) fun w4 h1 hU => ?_
        replace hS := (hS.ext hW).upd 0 rfl (.own (.slice (some ⟨g7, 0, none⟩) 25 25) 26 1 25 ((Ai R).set (y + 5 * ((2 * x + 3 * y) % 5)) (Value.int .u64 ((Fy (a0 ^^^ d0) t0 : Nat) : Int)))) (by simpa [A7.blk, Value.ownBlock] using BK hU) h1 fun _ e => .inl e
        rw [<- DU, <- HKA.out, <- HSR.out] at hS
        simp only [CD]
        simp only [Act.put, List.setIfInBounds_toArray, List.set_cons_zero, List.set_cons_succ]
        clear e98 e99 h1 hU hW
        go_wp2_with fail
        exact ⟨⟨y + 1, hlt4, by go_num, hS⟩, by simp [intOf]; omega⟩
      ·obtain rfl : y = 5 := by omega
       go_wp2_with fail
       exact ⟨⟨x + 1, hlt, by go_num, by rw [HSB.out]; exact hS⟩, by simp [intOf]; omega⟩
    ·obtain rfl : x = 5 := by omega
     simp only [show ((5 : Nat) : Int) = 5 from rfl]
     have hwB := Dm hw hwC 5
     have hlB := Ht a C 5
     have HKR := Lib.hid (show F6 a c = ((List.range 25).map (ka (FD a C 5))).set 0 (ka (FD a C 5) 0 ^^^ c) by rw [HCE.out]; rfl)
     generalize FD a C 5 = B at *
     replace hS := hS.freeze 0 (by decide) rfl
     clear hlt hx hwC hlC
     go_wp2_with (first
      | ((with_reducible show wpList _ _ _ (⟨_, .makeSlice _ _ _, _, _, _, _⟩ :: _) _ _); refine IC hS rfl _ _ _ rfl Jc .i64 .i64 25 #[.int .u64 0] rfl rfl (by kernel_rfl) (by decide) (by decide) ?_; clear hS; intro g11 w_ hS))
     rw [Ho, <- oTo_zero B] at hS
     obtain ⟨K2, hK2, hS⟩ : ∃ K2, (∀ D w, K2 D w -> Sl w D 1 (.slice (some ⟨g7, 0, none⟩) 25 25) 25 (Ai B)) /\ St w0 w_ [.own (.slice (some ⟨g11, 0, none⟩) 25 25) 26 1 25 (Ai (oTo B 0 0))] K2 := ⟨_, fun _ _ h => h.2, hS⟩
     have HK2 := Lib.hid hK2
     clear hK2
     go_loopw [12] (fun i wr => ∃ (x : Nat), x <= 5 /\ i = .int .i64 x /\ St w0 wr [.own (.slice (some ⟨g11, 0, none⟩) 25 25) 26 1 25 (Ai (oTo B x 0))] K2) (fun i _ => 5 - (intOf i).toNat)
     case atStart => exact ⟨0, by omega, rfl, hS⟩
     case round =>
      clear hS
      obtain ⟨x, hx, rfl, hS⟩ := hrel
      by_cases hlt : x < 5
      ·go_wp2_with fail
       go_loopw [13] (fun i wr => ∃ (y : Nat), y <= 5 /\ i = .int .i64 y /\ St w0 wr [.own (.slice (some ⟨g11, 0, none⟩) 25 25) 26 1 25 (Ai (oTo B x y))] K2) (fun i _ => 5 - (intOf i).toNat)
       case atStart => exact ⟨0, by omega, rfl, hS⟩
       case round =>
        clear hS
        obtain ⟨y, hy, rfl, hS⟩ := hrel
        by_cases hlt4 : y < 5
        ·have hsl := HK2.out _ _ hS.ro
         have h0 := sl_at hsl hlB (j := x + 5 * y) (by omega)
         have h1 := sl_at hsl hlB (j := (x + 1) % 5 + 5 * y) (by omega)
         have h2 := sl_at hsl hlB (j := (x + 2) % 5 + 5 * y) (by omega)
         have hown := hS.own 0 rfl
         have h3 := hown.cellAt (x + 5 * y) (by omega)
         rw [C2 _ _ (by rw [oTo_len]; omega)] at h3
         have h4 := hown.frozenAt (x + 5 * y)
         have HSP := Lib.hid (hS.put64 0 rfl (x + 5 * y) (ka B (x + 5 * y)))
         have HOS := Lib.hid (oTo_step B (x := x) (y := y) hlt hlt4)
         have HKA := Lib.hid (show ka B (x + 5 * y) = B.getD (x + 5 * y) 0 ^^^ (Br (B.getD ((x + 1) % 5 + 5 * y) 0) &&& B.getD ((x + 2) % 5 + 5 * y) 0) by
          unfold ka
          rw [show (x + 5 * y) % 5 = x by omega, show (x + 5 * y) / 5 * 5 = 5 * y by omega])
         have l0 := hwB.getD (x + 5 * y)
         have l1 := hwB.getD ((x + 1) % 5 + 5 * y)
         have l2 := hwB.getD ((x + 2) % 5 + 5 * y)
         simp only [Nat.zero_add] at h0 h1 h2
         generalize B.getD (x + 5 * y) 0 = b0 at *
         generalize B.getD ((x + 1) % 5 + 5 * y) 0 = b1 at *
         generalize B.getD ((x + 2) % 5 + 5 * y) 0 = b2 at *
         clear hsl hown
         go_wp2_with (go_region)
         have he : bits .xor .u64 (b0 : Int) (bits .and .u64 (bits .xor .u64 (if IntKind.u64.signed = true then -1 else IntKind.u64.max) (b1 : Int)) (b2 : Int)) = ((ka B (x + 5 * y) : Nat) : Int) := by
          rw [notu l1, Gm (EE _) l2, E6 l0 (and_lt (EE _)), HKA.out]
         rw [he]
         exact ⟨⟨y + 1, hlt4, by go_num, by rw [<- HOS.out]; exact HSP.out⟩, by simp [intOf]; omega⟩
        ·obtain rfl : y = 5 := by omega
         go_wp2_with fail
         exact ⟨⟨x + 1, hlt, by go_num, by rw [<- oTo_wrap]; exact hS⟩, by simp [intOf]; omega⟩
      ·obtain rfl : x = 5 := by omega
       rw [oTo_full] at hS
       have hc0 : (Ai ((List.range 25).map (ka B)))[0]? = some (.int .u64 (ka B 0 : Nat)) := by rw [C2 _ _ (by simp)]; simp
       have hx0 := E6 (ka_lt hwB 0) hc
       have HC0 := Lib.hid hc0
       have HX0 := Lib.hid hx0
       clear hc0 hx0
       generalize ka B 0 = k0 at *
       obtain ⟨M, hM⟩ : ∃ M, M = (List.range 25).map (ka B) := ⟨_, rfl⟩
       rw [<- hM] at hS HC0 HKR
       clear hM
       go_wp2_with (first
        | ((with_reducible refine qA 146 ?_); refine BigFrame.wpList_want rfl fun _ hK => Ah rfl rfl (by kernel_rfl) (BQ (hS.own 0 rfl) 0 _ HC0.out) (hK _ _ ?_))
        | ((with_reducible refine qm 26 ?_); refine DI hS 0 rfl _ _ _ rfl g11 0 (.int .u64 ((k0 ^^^ c : Nat) : Int)) rfl (congrArg (Value.int .u64) HX0.out) rfl (by decide) rfl rfl (by kernel_rfl) ?_; clear hS; intro w_ hS; (try simp only [Act.put, Act.eval, zz, Value.cells] at hS)))
       go_ret
       rw [HKR.out]
       have h := hS.own 0 rfl
       rw [<- DU] at h
       exact Az.mk h hS.below
end
section
open Go.RowKit
attribute [local go_sem ↓] Go.wp_at_zero Go.wp_at_succ
set_option maxRecDepth 20000
set_option exponentiation.threshold 5000
def Fh (l : List Nat) : List Nat := l.take (136 * (l.length / 136)) ++ EF (l.drop (136 * (l.length / 136)))
theorem K0 {r : List Nat} (h : r.length < 136) : EF r = (r ++ 6 :: List.replicate (135 - r.length) 0).set 135 ((r ++ 6 :: List.replicate (135 - r.length) 0).getD 135 0 ^^^ 128) := by
 have e : (r ++ List.replicate (136 - r.length) 0).set r.length 6 = r ++ 6 :: List.replicate (135 - r.length) 0 := by
  rw [show 136 - r.length = (135 - r.length) + 1 by omega, List.replicate_succ, List.set_append_right _ _ (Nat.le_refl _), Nat.sub_self, List.set_cons_zero]
 unfold EF
 dsimp only
 rw [e]
theorem padB_eq (l : List Nat) {z : Nat} (hz : z < 136) (h : (l.length + 1 + z) % 136 = 0) :
  (l ++ 6 :: List.replicate z 0).set (l.length + z) ((l ++ 6 :: List.replicate z 0).getD (l.length + z) 0 ^^^ 128) = Fh l := by
 have hd := Nat.div_add_mod l.length 136
 have hr : (l.drop (136 * (l.length / 136))).length = l.length % 136 := by rw [List.length_drop]; omega
 have hz2 : z = 135 - l.length % 136 := by omega
 have htl : (l.take (136 * (l.length / 136))).length = 136 * (l.length / 136) := by rw [List.length_take]; omega
 have hs : l ++ 6 :: List.replicate z 0 = l.take (136 * (l.length / 136)) ++ (l.drop (136 * (l.length / 136)) ++ 6 :: List.replicate z 0) := by
  rw [<- List.append_assoc, List.take_append_drop]
 unfold Fh
 rw [K0 (by rw [hr]; omega), hr, <- hz2, hs]
 generalize l.take (136 * (l.length / 136)) = A at *
 generalize l.drop (136 * (l.length / 136)) ++ 6 :: List.replicate z 0 = B at *
 have e : l.length + z = A.length + 135 := by omega
 rw [e, List.set_append_right _ _ (by omega), show A.length + 135 - A.length = 135 by omega]
 congr 2
 rw [List.getD_eq_getElem?_getD, List.getElem?_append_right (by omega), show A.length + 135 - A.length = 135 by omega, <- List.getD_eq_getElem?_getD]
theorem padB_len (l : List Nat) : (Fh l).length = 136 * (l.length / 136 + 1) := by
 have hd := Nat.div_add_mod l.length 136
 have hr : (l.drop (136 * (l.length / 136))).length = l.length % 136 := by rw [List.length_drop]; omega
 unfold Fh
 rw [K0 (by rw [hr]; omega), List.length_append, List.length_set, List.length_append, List.length_cons, List.length_replicate, List.length_take, hr]
 omega
theorem padB_bytes {l : List Nat} (h : AL l) : AL (Fh l) := by
 have hr : (l.drop (136 * (l.length / 136))).length = l.length % 136 := by have hd := Nat.div_add_mod l.length 136; rw [List.length_drop]; omega
 have hb : AL (l.drop (136 * (l.length / 136)) ++ 6 :: List.replicate (135 - l.length % 136) 0) := fun x hx => by
  rcases List.mem_append.1 hx with h1 | h1
  ·exact h x (List.mem_of_mem_drop h1)
  ·rcases List.mem_cons.1 h1 with rfl | h1
   ·decide
   ·exact AL.rep _ x h1
 unfold Fh
 rw [K0 (by rw [hr]; omega), hr]
 intro x hx
 rcases List.mem_append.1 hx with h1 | h1
 ·exact h x (List.mem_of_mem_take h1)
 ·rcases List.mem_or_eq_of_mem_set h1 with h2 | h2
  ·exact hb x h2
  ·rw [h2]; exact Nat.xor_lt_two_pow (n := 8) (hb.getD _) (by decide)
set_option maxHeartbeats 1000000 in
theorem pad03_any (p : Value) (l : List Nat) (hb : AL l) (hl : l.length <= 1000000000) (w0 : World) (D : Nat -> Prop) (hp : Sl w0 D 1 p l.length (Aa l)) :
  Calls Tryz.prog 200 #[p] w0 (Az (fun x w' => Fi w' w0.heap.size x (Fh l)) w0) := by
 obtain ⟨A, c, rfl, _, _⟩ := hp.shape
 obtain ⟨K, hk, hS⟩ : ∃ K, (∀ D w, K D w -> Sl w D 1 (.slice A l.length c) l.length (Aa l)) /\ St w0 w0 [] K := ⟨fun D w => Sl w D 1 (.slice A l.length c) l.length (Aa l), fun _ _ h => h, St.start Ao hp⟩
 clear hp
 have HK := Lib.hid hk
 clear hk
 go_enter Tryz.func200, Tryz.ntmps200
 go_wp2_with (first
  | ((with_reducible show wpList _ _ _ (⟨_, .buildSlice _ 0 _, _, _, _, _⟩ :: _) _ _); refine Jr hS rfl _ _ rfl Tryz.underlying22 (by kernel_rfl) 1 ?_; clear hS; intro ge w_ hS)
  | ((with_reducible refine qA 6 ?_); refine Db hS 0 rfl _ _ _ rfl CZ _ 0 [] rfl rfl _ _ l.length (Aa l) rfl (HK.out _ _ hS.ro) (B3 _) (by unfold maxLen; omega) (by omega) ?_; clear hS; intro v_ w_ hS; (try simp only [Act.put, Act.eval, zz, Value.cells] at hS); simp only [List.nil_append, Nat.zero_add] at hS)
  | ((with_reducible refine qA 8 ?_); refine E9 hS 0 rfl rfl _ _ _ _ rfl rfl CZ _ _ _ (.int .u8 6) #[.int .u8 6] rfl (by kernel_rfl) rfl rfl rfl rfl (by intro u hu; simp at hu; subst hu; rfl) (by omega) (by omega) ?_; clear hS; intro z_ v' w_ hS; (try simp only [Act.put, Act.eval, zz, Value.cells] at hS)))
 have hS1 : St w0 w_ [.own v' 5 1 (l.length + 1 + 0) (Aa (l ++ 6 :: List.replicate 0 0))] K := by simpa [Aa] using hS
 clear hS
 obtain ⟨z, hz⟩ : ∃ z, z = (136 - (l.length + 1) % 136) % 136 := ⟨_, rfl⟩
 have hz1 : z < 136 := by omega
 have hz2 : (l.length + 1 + z) % 136 = 0 := by omega
 have hz3 : ∀ j, j < z -> (l.length + 1 + j) % 136 ≠ 0 := fun j hj => by omega
 have HZ := Lib.hid hz2
 have HZ3 := Lib.hid hz3
 clear hz hz2 hz3
 go_loopw [3] (fun o wr => ∃ (j : Nat) (ov : Value), j <= z /\ o = ov /\ (∃ g c, ov = .slice (some ⟨g, 0, none⟩) (l.length + 1 + j) c) /\ St w0 wr [.own ov 5 1 (l.length + 1 + j) (Aa (l ++ 6 :: List.replicate j 0))] K) (fun o _ => match o with | .slice _ n _ => l.length + 1 + z - n | _ => 0)
 case atStart =>
  obtain ⟨g1, c1, e1, _, _⟩ := Ec (hS1.own 0 rfl) (by omega)
  exact ⟨0, v', by omega, rfl, ⟨g1, c1, e1⟩, hS1⟩
 case round =>
  clear hS1
  obtain ⟨j, ov, hj, rfl, ⟨g1, c1, rfl⟩, hS⟩ := hrel
  have hm : ((l.length + 1 + j : Nat) : Int).tmod 136 = (((l.length + 1 + j) % 136 : Nat) : Int) := Fq _ 136
  by_cases hlt : j < z
  ·have hne := HZ3.out j hlt
   go_wp2_with (first
    | ((with_reducible refine qB ?_); refine qc ?_ ?_ <;> intro h_ <;> go_prune)
    | ((with_reducible refine qA 15 ?_); refine E9 hS 0 rfl rfl _ _ _ _ rfl rfl CZ _ _ _ (.int .u8 0) #[.int .u8 0] rfl (by kernel_rfl) rfl rfl rfl rfl (by intro u hu; simp at hu; subst hu; rfl) (by omega) (by omega) ?_; clear hS; intro z_ v' w_ hS; (try simp only [Act.put, Act.eval, zz, Value.cells] at hS)))
   ·obtain ⟨g2, c2, e2, _, _⟩ := Ec (hS.own 0 rfl) (by omega)
    subst e2
    refine ⟨⟨j + 1, _, hlt, rfl, ⟨g2, c2, rfl⟩, ?_⟩, by simp; omega⟩
    rw [List.replicate_succ', <- List.cons_append, <- List.append_assoc]
    have : (Aa (l ++ 6 :: List.replicate j 0 ++ [0])) = Aa (l ++ 6 :: List.replicate j 0) ++ [.int .u8 0] := by simp [Aa]
    rw [this]; exact hS
  ·obtain rfl : j = z := by omega
   have h0 := HZ.out
   rw [h0] at hm
   obtain ⟨k, hk⟩ : ∃ k, k = l.length + j := ⟨_, rfl⟩
   have t1 : (l.length : Int) + 1 + (j : Int) - 1 = (k : Int) := by omega
   have t2 : k < l.length + 1 + j := by omega
   have hc : (Aa (l ++ 6 :: List.replicate j 0))[k]? = some (.int .u8 ((l ++ 6 :: List.replicate j 0).getD k 0 : Nat)) := CY _ _ (by simp; omega)
   have hbb : AL (l ++ 6 :: List.replicate j 0) := fun x hx => by
    rcases List.mem_append.1 hx with h | h
    ·exact hb x h
    ·rcases List.mem_cons.1 h with rfl | h
     ·decide
     ·exact AL.rep _ x h
   have hx := u8_xor_nat _ 128 (hbb.getD k) (by decide)
   have HPE := Lib.hid (padB_eq l hz1 h0)
   rw [<- hk] at HPE
   have HC := Lib.hid hc
   have HX := Lib.hid hx
   clear hc hx hbb hk
   generalize (l ++ 6 :: List.replicate j 0) = L at *
   generalize L.getD k 0 = y at *
   go_wp2_with (first
    | ((with_reducible refine qB ?_); refine qc ?_ ?_ <;> intro h_ <;> go_prune)
    | ((with_reducible refine qA 26 ?_); refine BigFrame.wpList_want rfl fun _ hK => Ah rfl rfl (by kernel_rfl) (BQ (hS.own 0 rfl) k _ HC.out) (hK _ _ ?_))
    | ((with_reducible refine qm 5 ?_); refine DI hS 0 rfl _ _ _ rfl g1 k (.int .u8 ((y ^^^ 128 : Nat) : Int)) rfl (congrArg (Value.int .u8) HX.out) rfl (by omega) rfl rfl (by kernel_rfl) ?_; clear hS; intro w_ hS; (try simp only [Act.put, Act.eval, zz, Value.cells] at hS)))
   go_ret
   rw [<- FO, HPE.out] at hS
   exact Az.mk (Hi (hS.own 0 rfl) rfl) hS.below
end
section
open Go.RowKit
attribute [local go_sem ↓] Go.wp_at_zero Go.wp_at_succ
set_option maxRecDepth 20000
def pw (b : List Nat) (i : Nat) : Nat -> Nat
 | 0 => 0
 | n + 1 => pw b i n + 2 ^ (8 * n) * b.getD (8 * i + n) 0
theorem pw_lt {b : List Nat} (h : ∀ k, b.getD k 0 < 256) (i n : Nat) : pw b i n < 2 ^ (8 * n) := by
 induction n with
 | zero => simp [pw]
 | succ n ih =>
  show pw b i n + 2 ^ (8 * n) * b.getD (8 * i + n) 0 < 2 ^ (8 * (n + 1))
  have h1 := h (8 * i + n)
  have h2 : 2 ^ (8 * (n + 1)) = 2 ^ (8 * n) * 256 := by rw [show 8 * (n + 1) = 8 * n + 8 by omega, Nat.pow_add]
  have h3 : 2 ^ (8 * n) * (b.getD (8 * i + n) 0 + 1) <= 2 ^ (8 * n) * 256 := Nat.mul_le_mul_left _ (by omega)
  rw [Nat.mul_add] at h3
  omega
theorem xor_disj {x i a : Nat} (h : x < 2 ^ i) : x ^^^ (2 ^ i * a) = x + 2 ^ i * a := by
 apply Nat.eq_of_testBit_eq
 intro j
 rw [Nat.testBit_xor, Nat.add_comm x, Nat.testBit_two_pow_mul_add _ h, Nat.testBit_two_pow_mul]
 rcases Nat.lt_or_ge j i with hj | hj
 ·rw [if_pos hj]; simp [show ¬ i <= j by omega]
 ·rw [if_neg (by omega), Nat.testBit_lt_two_pow (Nat.lt_of_lt_of_le h (Nat.pow_le_pow_right (by decide) hj))]; simp [hj]
theorem lew_pw {b : List Nat} (h : ∀ k, b.getD k 0 < 256) (i : Nat) : lew b i 8 = pw b i 8 := by
 have step : ∀ x y : Nat, y < 256 -> x * 256 < AA -> (x * 256) % AA ||| y = x * 256 + y := fun x y hy hx => by
  rw [Nat.mod_eq_of_lt hx, Nat.mul_comm x, show 256 = 2 ^ 8 from rfl, Nat.two_pow_add_eq_or_of_lt hy]
 have h0 := h (8 * i + 0)
 have h1 := h (8 * i + 1)
 have h2 := h (8 * i + 2)
 have h3 := h (8 * i + 3)
 have h4 := h (8 * i + 4)
 have h5 := h (8 * i + 5)
 have h6 := h (8 * i + 6)
 have h7 := h (8 * i + 7)
 simp only [lew, pw]
 simp only [show 7 - 0 = 7 from rfl, show 7 - 1 = 6 from rfl, show 7 - 2 = 5 from rfl, show 7 - 3 = 4 from rfl, show 7 - 4 = 3 from rfl, show 7 - 5 = 2 from rfl, show 7 - 6 = 1 from rfl, show 7 - 7 = 0 from rfl]
 generalize b.getD (8 * i + 0) 0 = y0 at *
 generalize b.getD (8 * i + 1) 0 = y1 at *
 generalize b.getD (8 * i + 2) 0 = y2 at *
 generalize b.getD (8 * i + 3) 0 = y3 at *
 generalize b.getD (8 * i + 4) 0 = y4 at *
 generalize b.getD (8 * i + 5) 0 = y5 at *
 generalize b.getD (8 * i + 6) 0 = y6 at *
 generalize b.getD (8 * i + 7) 0 = y7 at *
 rw [step 0 y7 h7 (by unfold AA; omega)]
 rw [step _ y6 h6 (by unfold AA; omega)]
 rw [step _ y5 h5 (by unfold AA; omega)]
 rw [step _ y4 h4 (by unfold AA; omega)]
 rw [step _ y3 h3 (by unfold AA; omega)]
 rw [step _ y2 h2 (by unfold AA; omega)]
 rw [step _ y1 h1 (by unfold AA; omega)]
 rw [step _ y0 h0 (by unfold AA; omega)]
 omega
def xB (a b : List Nat) (k : Nat) : List Nat := (List.range 25).map fun i => a.getD i 0 ^^^ pw b i (min 8 (k - 8 * i))
theorem xB_len (a b : List Nat) (k : Nat) : (xB a b k).length = 25 := by simp [xB]
theorem xB_at (a b : List Nat) (k i : Nat) (h : i < 25) : (xB a b k).getD i 0 = a.getD i 0 ^^^ pw b i (min 8 (k - 8 * i)) := by
 simp [xB, List.getD_eq_getElem?_getD, h]
theorem xB_zero (a b : List Nat) (h : a.length = 25) : xB a b 0 = a := by
 apply List.ext_getElem
 ·rw [xB_len, h]
 ·intro j h1 h2
  simp [xB, pw, List.getElem?_eq_getElem h2]
theorem xB_step (a : List Nat) {b : List Nat} (hb : ∀ k, b.getD k 0 < 256) {k : Nat} (hk : k < 136) :
  (xB a b k).set (k / 8) ((xB a b k).getD (k / 8) 0 ^^^ (2 ^ (8 * (k % 8)) * b.getD k 0)) = xB a b (k + 1) := by
 apply List.ext_getElem
 ·simp [xB]
 ·intro j h1 h2
  have hj : j < 25 := by simpa [xB] using h2
  have e : (xB a b (k + 1))[j] = a.getD j 0 ^^^ pw b j (min 8 (k + 1 - 8 * j)) := by simp [xB]
  refine Eq.trans ?_ e.symm
  rw [List.getElem_set]
  split
  ·rename_i hkj
   subst hkj
   rw [xB_at _ _ _ _ hj, Nat.xor_assoc]
   congr 1
   rw [show min 8 (k - 8 * (k / 8)) = k % 8 by omega, show min 8 (k + 1 - 8 * (k / 8)) = k % 8 + 1 by omega, xor_disj (pw_lt hb _ _)]
   show _ = pw b (k / 8) (k % 8) + 2 ^ (8 * (k % 8)) * b.getD (8 * (k / 8) + k % 8) 0
   rw [Nat.div_add_mod]
  ·rename_i hkj
   have e2 : (xB a b k)[j]'(by rw [xB_len]; exact hj) = a.getD j 0 ^^^ pw b j (min 8 (k - 8 * j)) := by simp [xB]
   refine e2.trans ?_
   rw [show min 8 (k + 1 - 8 * j) = min 8 (k - 8 * j) by omega]
theorem xB_full (a : List Nat) {b : List Nat} (hb : ∀ k, b.getD k 0 < 256) : xB a b 136 = CN (absW a b) a 17 := by
 unfold xB CN
 apply List.map_congr_left
 intro i hi
 have hi : i < 25 := List.mem_range.1 hi
 split
 ·rename_i h
  rw [show min 8 (136 - 8 * i) = 8 by omega, <- lew_pw hb]
  rfl
 ·rename_i h
  rw [show min 8 (136 - 8 * i) = 0 by omega]
  simp [pw]
theorem lastK_len {r : List Nat} (h : r.length < 136) : (EF r).length = 136 := by
 unfold EF
 simp
 omega
theorem blk_pad (l : List Nat) {j : Nat} (hj : j < l.length / 136) : Eh (Fh l) j = Eh l j := by
 have hd := Nat.div_add_mod l.length 136
 unfold Eh Fh
 have e : (l.take (136 * (l.length / 136))).drop (136 * j) = (l.drop (136 * j)).take (136 * (l.length / 136) - 136 * j) := by rw [List.drop_take]
 rw [List.drop_append_of_le_length (by rw [List.length_take]; omega), e, List.take_append_of_le_length (by rw [List.length_take, List.length_drop]; omega), List.take_take]
 congr 1
 omega
theorem blk_last (l : List Nat) : Eh (Fh l) (l.length / 136) = EF (l.drop (136 * (l.length / 136))) := by
 have hd := Nat.div_add_mod l.length 136
 have hr : (l.drop (136 * (l.length / 136))).length < 136 := by rw [List.length_drop]; omega
 unfold Eh Fh
 have hl : (l.take (136 * (l.length / 136))).length = 136 * (l.length / 136) := by rw [List.length_take]; omega
 rw [List.drop_append, List.drop_eq_nil_of_le (by omega), hl, Nat.sub_self, List.drop_zero, List.nil_append, List.take_of_length_le (by rw [lastK_len hr]; omega)]
theorem stB_pad (st l : List Nat) : ∀ j, j <= l.length / 136 -> stB st (Fh l) j = stB st l j
 | 0, _ => rfl
 | j + 1, h => by
  show Cz (stB st (Fh l) j) (Eh (Fh l) j) = Cz (stB st l j) (Eh l j)
  rw [stB_pad st l j (by omega), blk_pad l h]
theorem sha3_pad (l : List Nat) : CI l = (List.range 32).map (Gt (stB (List.replicate 25 0) (Fh l) (l.length / 136 + 1))) := by
 unfold CI GM
 show _ = (List.range 32).map (Gt (Cz (stB (List.replicate 25 0) (Fh l) (l.length / 136)) (Eh (Fh l) (l.length / 136))))
 rw [stB_pad _ _ _ (Nat.le_refl _), blk_last]
theorem blk_at (M : List Nat) (j k : Nat) (hk : k < 136) : (Eh M j).getD k 0 = M.getD (136 * j + k) 0 := by
 unfold Eh
 rw [List.getD_eq_getElem?_getD, List.getElem?_take, if_pos hk, List.getElem?_drop, <- List.getD_eq_getElem?_getD]
theorem St.putBox {w0 w : World} {F : List A7} {K : (Nat -> Prop) -> World -> Prop} (h : St w0 w F K) (i : Nat) {g : Nat} {t : TypeId} {cs : Array Value} (hi : F[i]? = some (.box g t cs)) (j : Nat) (u : Value) :
  St w0 (w.setCell ⟨g, j, none⟩ u) (F.set i (.box g t (cs.setIfInBounds j u))) K :=
 (h.upd i hi (.box g t (cs.setIfInBounds j u)) (BK (Bz w g j u)) ⟨(h.holds _ (List.mem_of_getElem? hi)).1, (h.box i hi).setC u⟩ fun _ e => .inl e)
theorem sl_byte {w : World} {D : Nat -> Prop} {b o n c : Nat} {l : List Nat} (h : Sl w D 1 (.slice (some ⟨b, o, none⟩) n c) n (Aa l)) (hl : l.length = n) {j : Nat} (hj : j < n) : w.cell? ⟨b, o + j, none⟩ = some (.int .u8 (l.getD j 0 : Nat)) := by
 obtain ⟨_, A, c', e, _, _, h3⟩ := h
 injection e with e1 e2 e3
 obtain ⟨b', o', hA, _, _, h4⟩ := h3 (by omega)
 rw [hA] at e1
 injection e1 with e1
 injection e1 with e1 e2 _
 subst e1 e2
 exact h4 j _ (CY l j (by omega))
theorem run_shl8 {P : Program} {w : World} {t : TypeId} {y k : Nat} {e : Int} (hy : y < 256) (he : e = ((8 * (k % 8) : Nat) : Int)) : (binOp .shl t (.int .u64 (y : Nat)) (.int .i64 e)).run P w = .ok (.int .u64 ((2 ^ (8 * (k % 8)) * y : Nat) : Int)) w := by
 subst he
 have h := (shl8 hy (k % 8) (Nat.mod_lt _ (by decide))).1
 have h1 : (((8 * (k % 8) : Nat) : Int)).toNat = 8 * (k % 8) := by omega
 have h2 : ¬ (((8 * (k % 8) : Nat) : Int)) < 0 := by omega
 go_simp
 rw [show (8 * ((k : Int) % 8)).toNat = 8 * (k % 8) by omega, h]
 rw [Int.natCast_mul, Int.natCast_pow]; exact Int.mul_comm _ _
set_option maxHeartbeats 4000000 in
theorem sum03_any (p : Value) (l : List Nat) (hb : AL l) (hl : l.length <= 100000000) (w0 : World) (D : Nat -> Prop) (hp : Sl w0 D 1 p l.length (Aa l)) :
  Calls Tryz.prog 160 #[p] w0 (Az (fun x _ => x = .agg (Aa (CI l)).toArray) w0) := by
 obtain ⟨K, hk, hS⟩ : ∃ K : (Nat -> Prop) -> World -> Prop, (∀ D w, K D w -> Sl w D 1 p l.length (Aa l)) /\ St w0 w0 [] K := ⟨_, fun _ _ h => h, St.start Ao hp⟩
 clear hp
 have HK := Lib.hid hk
 clear hk
 obtain ⟨M, q, hMb, hMl, hql, HPad, HSH⟩ : ∃ (M : List Nat) (q : Nat), AL M /\ (M.length <= 136 * q /\ 136 * q <= M.length) /\ q <= 1000000 /\ Hid (∀ (w : World) (D : Nat -> Prop), Sl w D 1 p l.length (Aa l) -> Calls Tryz.prog 200 #[p] w (Az (fun x w' => Fi w' w.heap.size x M) w)) /\ Hid (CI l = (List.range 32).map (Gt (stB (List.replicate 25 0) M q)) /\ 0 < q) :=
  ⟨Fh l, l.length / 136 + 1, padB_bytes hb, ⟨Nat.le_of_eq (padB_len l), Nat.le_of_eq (padB_len l).symm⟩, by omega, Lib.hid (fun w D h => pad03_any p l hb (by omega) w D h), Lib.hid ⟨sha3_pad l, by omega⟩⟩
 have HMB := Lib.hid hMb
 clear hMb hb
 obtain ⟨hMl, hMl'⟩ := hMl
 go_enter Tryz.func160, Tryz.ntmps160
 go_wp2_with (first
  | ((with_reducible refine qA 2 ?_); refine D5 hS rfl _ rfl (by kernel_rfl) (Aa (List.replicate 32 0)).toArray (by kernel_rfl) ?_; clear hS; intro g2 w_ hS; (try simp only [Act.put, Act.eval, zz, Value.cells] at hS))
  | ((with_reducible show wpList _ _ _ (⟨_, .makeSlice _ _ _, _, _, _, _⟩ :: _) _ _); refine IC hS rfl _ _ _ rfl Jc .i64 .i64 25 #[.int .u64 0] rfl rfl (by kernel_rfl) (by decide) (by decide) ?_; clear hS; intro g11 w_ hS)
  | (go_at_call 200; refine (HPad.out _ _ (HK.out _ _ hS.ro)).mono ?_; rintro r_ w2 ⟨v2, rfl, h2, hb2⟩; replace hS := hS.owned hb2 h2; clear h2 hb2))
 rw [Ho] at hS
 obtain ⟨mb, mc, rfl, _, _⟩ := Ec (hS.own 0 rfl) (by have := HSH.out.2; omega)
 replace hS := hS.freeze 0 (by decide) rfl
 obtain ⟨K2, hK2, hS2, hS⟩ : ∃ K2 : (Nat -> Prop) -> World -> Prop, (∀ D w, K2 D w -> Sl w D 1 (.slice (some ⟨mb, 0, none⟩) M.length mc) M.length (Aa M)) /\ AE K2 /\ St w0 w2 [.own (.slice (some ⟨g11, 0, none⟩) 25 25) 26 1 25 (Ai (List.replicate 25 0)), .box g2 86 (Aa (List.replicate 32 0)).toArray] K2 := ⟨_, fun _ _ h => h.2, hS.stable, hS⟩
 have HK2 := Lib.hid hK2
 clear hK2 HK HPad
 go_loopw [3, 5] (fun av i wr => ∃ (j at_ g c : Nat), j <= q /\ (at_ <= 136 * j /\ 136 * j <= at_) /\ i = .int .i64 (at_ : Nat) /\ av = .slice (some ⟨g, 0, none⟩) 25 c /\ St w0 wr [.own (.slice (some ⟨g, 0, none⟩) 25 c) 26 1 25 (Ai (stB (List.replicate 25 0) M j)), .box g2 86 (Aa (List.replicate 32 0)).toArray] K2) (fun _ i _ => M.length - (intOf i).toNat)
 case atStart => exact ⟨0, 0, g11, 25, by omega, by omega, rfl, rfl, hS⟩
 case round =>
  clear hS
  obtain ⟨j, at_, g, c, hj, hat, rfl, rfl, hS⟩ := hrel
  obtain ⟨hwA, hlA⟩ := stB_ok (Aj.zeros 25) (by simp) HMB.out j
  by_cases hlt : j < q
  ·obtain ⟨B, hB, hBb, hBn⟩ : ∃ B, B = Eh M j /\ AL B /\ ∀ k, k < 136 -> B.getD k 0 = M.getD (at_ + k) 0 := ⟨_, rfl, (HMB.out.drop _).take _, fun k hk => by rw [show at_ = 136 * j by omega]; exact blk_at M j k hk⟩
   have HST := Lib.hid (show stB (List.replicate 25 0) M (j + 1) = Cz (stB (List.replicate 25 0) M j) B by rw [hB]; rfl)
   generalize stB (List.replicate 25 0) M j = a at *
   have HAB := Lib.hid (show Cz a B = perm (xB a B 136) by rw [xB_full a fun k => hBb.getD k]; rfl)
   have HBB := Lib.hid hBb
   have HBN := Lib.hid hBn
   have HX0 := Lib.hid (xB_zero a B hlA)
   have hwX : ∀ k, Aj (xB a B k) := fun k => Aj.range _ _ fun i _ => BF (hwA.getD i) (Nat.lt_of_lt_of_le (pw_lt (fun k => HBB.out.getD k) i _) (by rw [show AA = 2 ^ 64 from rfl]; exact Nat.pow_le_pow_right (by decide) (by omega)))
   have HWX := Lib.hid hwX
   clear hB hBb hBn hwX
   go_wp2_with (first | ((with_reducible refine qB ?_); refine qc ?_ ?_ <;> intro h_ <;> go_prune))
   rw [<- HX0.out] at hS
   go_loopw [6] (fun i wr => ∃ (k : Nat), k <= 136 /\ i = .int .i64 k /\ St w0 wr [.own (.slice (some ⟨g, 0, none⟩) 25 c) 26 1 25 (Ai (xB a B k)), .box g2 86 (Aa (List.replicate 32 0)).toArray] K2) (fun i _ => 136 - (intOf i).toNat)
   case atStart => exact ⟨0, by omega, rfl, hS⟩
   case round =>
    clear hS
    obtain ⟨k, hk, rfl, hS⟩ := hrel
    by_cases hlk : k < 136
    ·have hb8 := HBB.out.getD k
     have H0 := Lib.hid (fun (w : World) (h : Below wr.heap.size wr w) => sl_byte (HK2.out _ _ (hS.ext h).ro) rfl (j := at_ + k) (by omega))
     rw [<- HBN.out k hlk] at H0
     have H3 := Lib.hid (fun (w : World) (h : Below wr.heap.size wr w) => BQ ((hS.ext h).own 0 rfl) (k / 8) _ (C2 _ (k / 8) (by rw [xB_len]; omega)))
     have HXS := Lib.hid (xB_step a (b := B) (fun k => HBB.out.getD k) hlk)
     have hwk := (HWX.out k).getD (k / 8)
     generalize B.getD k 0 = y at *
     generalize hX : xB a B k = X at *
     have HX := Lib.hid hX
     clear hX
     generalize X.getD (k / 8) 0 = x at *
     have ta : at_ + k < M.length := by omega
     obtain ⟨hsh, hyT⟩ := shl8 hb8 (k % 8) (Nat.mod_lt _ (by decide))
     rw [Nat.mul_comm] at hyT
     go_wp2_with fail
     refine wp_zL 21 [] [.i (.slice (some ⟨g, 0, none⟩) 25 c), .n ((k : Nat) : Int), .n (((k : Nat) : Int) / (8 : Int)), .i (.slice (some ⟨g, 0, none⟩) 25 c), .n ((k : Nat) : Int), .n (((k : Nat) : Int) / (8 : Int)), .q g (0 + (k / 8) * 1), .i (.int .u64 ((x : Nat) : Int)), .i (.slice (some ⟨mb, 0, none⟩) M.length mc), .n ((at_ : Nat) : Int), .n ((k : Nat) : Int), .n (((at_ : Nat) : Int) + ((k : Nat) : Int)), .q mb (0 + (at_ + k) * 1), .i (.int .u8 ((y : Nat) : Int)), .i (.int .u64 ((y : Nat) : Int)), .n ((k : Nat) : Int), .n (((k : Nat) : Int) % (8 : Int)), .n ((8 : Int) * (((k : Nat) : Int) % (8 : Int))), .i (.int .u64 ((2 ^ (8 * (k % 8)) * y : Nat) : Int)), .i (.int .u64 ((x ^^^ (2 ^ (8 * (k % 8)) * y) : Nat) : Int)), .q g (0 + (k / 8) * 1), .t] ⟨uM, uM, uB (h := fun w hW hN => FT (by omega) (by omega)), uM, uM, uB (h := fun w hW hN => FT (by omega) (by omega)), uI (h := fun w hW hN => Ad (m := k / 8) Tryz.underlying37 (by kernel_rfl) (by omega) (by omega)), uC (h := fun w hW hN => by rw [Nat.zero_add, Nat.mul_one]; exact H3.out w hW), uM, uM, uM, uB (h := fun w hW hN => Ct (by omega) (by omega)), uI (h := fun w hW hN => Ad (m := at_ + k) Tryz.underlying22 (by kernel_rfl) (by omega) (by omega)), uC (h := fun w hW hN => by rw [Nat.mul_one]; exact H0.out w hW), uE (h := fun w hW hN => by go_simp; exact C1 (by unfold AA; omega)), uM, uB (h := fun w hW hN => EA (by omega) (by omega)), uB (h := fun w hW hN => DK (by omega) (by omega)), uB (h := fun w hW hN => run_shl8 hb8 (by omega)), uB (h := fun w hW hN => Dj hwk hyT), uI (h := fun w hW hN => Ad (m := k / 8) Tryz.underlying37 (by kernel_rfl) (by omega) (by omega)), trivial⟩ ?_
     ·intro vs wz hW hT
      obtain ⟨e24, e25, e26, e27, e28, e29, e30, e31, e32, e33, e34, e35, e36, e37, e38, e39, e40, e41, e42, e43, e44, -⟩ := hT
      simp only [AO, Act.put, zz, ze]
      (intro o_ ho_; simp only [List.getElem?_toArray, List.getElem?_cons_succ, List.getElem?_cons_zero, Option.some.injEq] at ho_; subst ho_)
      refine DY rfl (g := g) (i := k / 8) (e44.trans (by rw [Nat.zero_add, Nat.mul_one])) e43 ((hS.ext hW).own 0 rfl) (by omega) rfl rfl (by kernel_rfl) fun w4 h1 hU => ?_
      replace hS := (hS.ext hW).upd 0 rfl (.own (.slice (some ⟨g, 0, none⟩) 25 c) 26 1 25 ((Ai X).set (k / 8) (Value.int .u64 ((x ^^^ (2 ^ (8 * (k % 8)) * y) : Nat) : Int)))) (by simpa [A7.blk, Value.ownBlock] using BK hU) h1 fun _ e => .inl e
      rw [<- DU, HXS.out] at hS
      simp only [CD]
      simp only [Act.put, List.setIfInBounds_toArray, List.set_cons_zero, List.set_cons_succ]
      clear e43 e44 h1 hU hW
      go_wp2_with fail
      exact ⟨⟨k + 1, hlk, by go_num, hS⟩, by simp [intOf]; omega⟩
    ·obtain rfl : k = 136 := by omega
     obtain ⟨A, hAE, hAw, hAl⟩ : ∃ A, A = xB a B 136 /\ Aj A /\ A.length = 25 := ⟨_, rfl, HWX.out 136, xB_len _ _ _⟩
     rw [<- hAE] at hS HAB
     clear hAE hlk hk hwA hlA HWX HX0
     go_wp2_with (first
      | ((with_reducible refine qB ?_); refine qc ?_ ?_ <;> intro h_ <;> go_prune)
      | (go_at_call 201; refine (rounds03_any _).mono ?_; rintro r_ w2 ⟨v2, rfl, h2, hb2⟩; replace hS := (hS.owned hb2 h2).freeze 0 (by decide) rfl; obtain ⟨A2, c2, rfl, _, _⟩ := Sl.shape hS.ro.2; clear h2 hb2))
     obtain ⟨K3, hK3, hK32, hS⟩ : ∃ K3 : (Nat -> Prop) -> World -> Prop, (∀ D w, K3 D w -> Sl w D 1 (.slice A2 24 c2) 24 (Ai Bf)) /\ (∀ D w, K3 D w -> K2 D w) /\ St w0 w2 [.own (.slice (some ⟨g, 0, none⟩) 25 c) 26 1 25 (Ai A), .box g2 86 (Aa (List.replicate 32 0)).toArray] K3 := ⟨_, fun _ _ h => h.2, fun _ _ h => h.1, hS⟩
     have HK32 := Lib.hid hK32
     have HK2S := Lib.hid hS2
     clear hK32 hS2
     go_loopw [3, 47] (fun av i wr => ∃ (k g c : Nat), k <= 24 /\ i = .int .i64 k /\ av = .slice (some ⟨g, 0, none⟩) 25 c /\ St w0 wr [.own (.slice (some ⟨g, 0, none⟩) 25 c) 26 1 25 (Ai (En A k)), .box g2 86 (Aa (List.replicate 32 0)).toArray] K3) (fun _ i _ => 24 - (intOf i).toNat)
     case atStart => exact ⟨0, g, c, by omega, rfl, rfl, hS⟩
     case round =>
      clear hS
      obtain ⟨k, g, c, hk, rfl, rfl, hS⟩ := hrel
      by_cases hlk : k < 24
      ·have k3 := hK3
       have f1 : (Ai Bf)[k]? = some (.int .u64 (Bf.getD k 0 : Nat)) := C2 Bf k hlk
       have HP := Lib.hid (FA A k hlk)
       obtain ⟨hwP, hlP⟩ := Io hAw hAl k hk
       have hwr := Il k
       generalize Bf.getD k 0 = rc at *
       generalize En A k = B2 at *
       have HR3 := Lib.hid (fun (w : World) (D : Nat -> Prop) (p : Value) (h : Sl w D 1 p 25 (Ai B2)) => round03_any p B2 rc hlP hwP hwr w D h)
       clear hwP hlP hwr
       go_wp2_with (first
        | ((with_reducible refine qB ?_); refine qc ?_ ?_ <;> intro h_ <;> go_prune)
        | ((with_reducible refine qI ?_); refine DJ hS rfl _ _ _ rfl _ rfl rfl (by assumption) Tryz.underlying37 (by kernel_rfl) (by first | assumption | omega) _ (by assumption) ?_; intro p_ hc_)
        | (go_at_call 202; refine (HR3.out _ _ _ (Sl.of_own (hS.own 0 rfl))).mono ?_; rintro r_ w3 ⟨v3, rfl, h3, hb3⟩; replace hS := (hS.owned hb3 h3).sub (.cons_cons _ (.cons _ (.refl _))); clear h3 hb3))
       obtain ⟨g3, c3, rfl, _, _⟩ := Ec (hS.own 0 rfl) (by omega)
       exact ⟨⟨k + 1, g3, c3, hlk, by go_num, rfl, by rw [HP.out]; exact hS⟩, by simp [intOf]; omega⟩
      ·obtain rfl : k = 24 := by omega
       go_wp2_with (first | ((with_reducible refine qB ?_); refine qc ?_ ?_ <;> intro h_ <;> go_prune))
       refine ⟨⟨j + 1, at_ + 136, g, c, by omega, by omega, by go_num, rfl, ?_⟩, by simp [intOf]; omega⟩
       rw [HST.out, HAB.out, perm_eq]
       exact hS.mono HK2S.out HK32.out
  ·obtain rfl : j = q := by omega
   obtain ⟨A, hAE⟩ : ∃ A, A = stB (List.replicate 25 0) M j := ⟨_, rfl⟩
   rw [<- hAE] at hS HSH hwA hlA
   have HAw := Lib.hid hwA
   have hfz : Bq (Gt A) 0 32 = List.replicate 32 0 := Dy _ _
   clear hAE hlt hj hwA
   go_wp2_with (first
    | ((with_reducible refine qB ?_); refine qc ?_ ?_ <;> intro h_ <;> go_prune)
    | ((with_reducible refine qA 9 ?_); refine D5 hS rfl _ rfl (by kernel_rfl) (Aa (List.replicate 32 0)).toArray (by kernel_rfl) ?_; clear hS; intro g9 w_ hS; (try simp only [Act.put, Act.eval, zz, Value.cells] at hS)))
   rw [<- hfz] at hS
   clear hfz
   go_loopw [10] (fun i wr => ∃ (k : Nat), k <= 32 /\ i = .int .i64 k /\ St w0 wr [.box g9 86 (Aa (Bq (Gt A) k 32)).toArray, .own (.slice (some ⟨g, 0, none⟩) 25 c) 26 1 25 (Ai A), .box g2 86 (Aa (List.replicate 32 0)).toArray] K2) (fun i _ => 32 - (intOf i).toNat)
   case atStart => exact ⟨0, by omega, rfl, hS⟩
   case round =>
    clear hS
    obtain ⟨k, hk, rfl, hS⟩ := hrel
    by_cases hlt : k < 32
    ·have h0 := (hS.own 1 rfl).cellAt (k / 8) (by omega)
     rw [C2 _ _ (by omega)] at h0
     have hO := hS.box 0 rfl
     have h1' := hO.byte (i := k) (by rw [Do]; omega)
     have h2' := hO.free k
     have l0 := HAw.out.getD (k / 8)
     have HO := Lib.hid (show Gt A k = A.getD (k / 8) 0 / 2 ^ (8 * (k % 8)) % 256 from rfl)
     generalize A.getD (k / 8) 0 = x at *
     have s1 : (8 * ((k : Int) % 8)).toNat = 8 * (k % 8) := by omega
     clear hO
     go_wp2_with fail
     have he : (x : Int) / 2 ^ (8 * (k % 8)) % 256 = ((Gt A k : Nat) : Int) := by rw [HO.out, Int.natCast_emod, Int.natCast_ediv, Int.natCast_pow]; rfl
     rw [he]
     have hS' := hS.putBox 0 rfl k (.int .u8 (Gt A k : Nat))
     refine ⟨⟨k + 1, hlt, by go_num, ?_⟩, by simp [intOf]; omega⟩
     rw [<- E0, FO]
     simpa using hS'
    ·obtain rfl : k = 32 := by omega
     rw [D9] at hS
     obtain ⟨L, hL, hLL⟩ : ∃ L, L = (List.range 32).map (Gt A) /\ L.length = 32 := ⟨_, rfl, by simp⟩
     rw [<- hL] at hS HSH
     have hi32 : (Tryz.prog.info? 86).map (·.size) = some (Aa L).toArray.size := by rw [List.size_toArray, Ab, hLL]; kernel_rfl
     have HON := Lib.hid (show (Aa L).toArray.all (·.oneCell') = true from all_oneCell_toArray (B3 _))
     have HI := Lib.hid hi32
     have HOL := Lib.hid (show (Aa (List.replicate 32 0)).toArray.size = (Aa L).toArray.size by simp [Ab, hLL])
     clear hL hLL hi32
     go_wp2_with (first
      | ((with_reducible refine qB ?_); refine qc ?_ ?_ <;> intro h_ <;> go_prune)
      | ((with_reducible refine qA 71 ?_); refine GT hS 0 rfl _ _ rfl g9 rfl _ (Aa L).toArray rfl _ Tryz.underlying86 rfl HI.out ?_)
      | ((with_reducible refine qm 86 ?_); refine Cn hS 2 rfl _ _ _ rfl g2 (Aa L).toArray rfl rfl _ _ rfl HI.out HOL.out HON.out ?_; clear hS; intro w_ hS; (try simp only [Act.put, Act.eval, zz, Value.cells] at hS)))
     refine bodyPost_ret (v := .agg (Aa L).toArray) (by exact results_cell_row rfl _ _ g2 86 _ (0, 0) _ rfl (hS.box 2 rfl) Tryz.underlying86 rfl HI.out) rfl ?_
     exact Az.mk (by rw [HSH.out.1]) hS.below
end
section
open Go.RowKit
attribute [local go_sem ↓] Go.wp_at_zero Go.wp_at_succ
set_option maxRecDepth 20000
set_option exponentiation.threshold 5000
theorem run_conv_sb (w : World) (s : ByteArray) (hs : s.size <= 1000000) : ∃ v w', (convert 9 22 (.string s)).run Tryz.prog w = .ok v w' /\ Sl w' (w.heap.size <= ·) 1 v (sb s).length (Aa (sb s)) /\ Below w.heap.size w w' := by
 have hcv := run_bytes_of_string (P := Tryz.prog) w 9 22 5 s Tryz.underlying9 Tryz.underlying22 Tryz.underlying5
 have hg1 := grownCap_ge w s.size 0 5
 have hg2 := grownCap_le_maxLen w s.size 0 5 (by unfold maxLen; omega)
 generalize grownCap w s.size 0 5 = cap at *
 have hcell : ∀ j, j < s.size -> (bytesRow s cap)[j]? = some (.int .u8 ((sb s).getD j 0 : Nat)) := fun j hj => by
  rw [bytesRow_at s cap j hj, sb, List.getD_eq_getElem?_getD, List.getElem?_map, List.getElem?_eq_getElem (by simpa using hj)]
  rfl
 generalize bytesRow s cap = C at *
 refine ⟨_, _, hcv, ?_, (Below.refl _ _).drew.alloc (Nat.le_refl _) _⟩
 rw [El]
 refine ⟨by simp [Aa, El], _, _, rfl, hg1, hg2, fun _ => ⟨w.heap.size, 0, rfl, Nat.le_refl _, by simp, fun j x hj => ?_⟩⟩
 have hj' : j < s.size := by
  rcases Nat.lt_or_ge j s.size with h | h
  ·exact h
  ·rw [List.getElem?_eq_none (by rw [Ab, El]; exact h)] at hj; cases hj
 rw [Nat.zero_add]
 refine (cell_of_row _ w.heap.size j C 5 _ (heap_alloc_new w.drew _)).trans ((hcell j hj').trans ?_)
 rw [<- hj]
 exact (CY _ _ (by rw [El]; exact hj')).symm
theorem opw_convw {P : Program} {o : Oper} {a : Act} {w w' : World} {K : Act -> World -> Prop} {Q : Exit -> Act -> World -> Prop} {s d : TypeId} {x : Operand} {vx v : Value} (ho : o.op = .convert s d x) (hx : a.eval x = vx) (hr : (convert s d vx).run P w = .ok v w') (hk : K (a.put o.dst v) w') : o.wp P a w K Q := by
 unfold Oper.wp execOp
 simp only [ho, hx, Sem.run_bind, hr, Result.andThen_ok]
 exact hk
theorem st_sconv {ops : Array Oper} {rest : List Oper} {o : Oper} {a : Act} {w0 w : World} {F : List A7} {K : (Nat -> Prop) -> World -> Prop} {Q : Exit -> Act -> World -> Prop} (h : St w0 w F K) (hg : o.guard = none) (x : Operand) (ho : o.op = .convert 9 22 x) (s : ByteArray) (hx : a.eval x = .string s) (hs : s.size <= 1000000)
  (hk : ∀ v w', St w0 w' F (fun D w => K D w /\ Sl w D 1 v (sb s).length (Aa (sb s))) -> wpList Tryz.prog ops Q rest (a.put o.dst v) w') : wpList Tryz.prog ops Q (o :: rest) a w := by
 obtain ⟨v, w', h1, h2, h3⟩ := run_conv_sb w s hs
 exact wpList_plain hg fun _ hK => opw_convw ho hx h1 (hK _ _ (hk v w' (h.ret h3 (Ao (by decide)) h2)))
set_option maxHeartbeats 1000000 in
theorem rtagged_any (s : ByteArray) (hs : s.size <= 1000000) (pv p : Value) (l : List Nat) (hb : AL l) (hl : l.length <= 10000000) (w0 : World) (D : Nat -> Prop) (hpv : Sl w0 D 1 pv 1 [p]) (hp : Sl w0 D 1 p l.length (Aa l)) :
  Calls Tryz.prog 110 #[.string s, pv] w0 (Az (fun x _ => x = .agg (Aa (CI (EO s l))).toArray) w0) := by
 obtain ⟨A, c, rfl, _, _⟩ := hpv.shape
 obtain ⟨K, hk1, hk2, hS⟩ : ∃ K : (Nat -> Prop) -> World -> Prop, (∀ D w, K D w -> Sl w D 1 (.slice A 1 c) 1 [p]) /\ (∀ D w, K D w -> Sl w D 1 p l.length (Aa l)) /\ St w0 w0 [] K := ⟨_, fun _ _ h => h.1, fun _ _ h => h.2, St.start ((Ao (by decide)).and (Ao (by decide))) (D := D) ⟨hpv, hp⟩⟩
 clear hp hpv
 have HK2 := Lib.hid hk2
 have hsl := Lib.hid (El s)
 have hsl1 : (sb s).length <= 1000000 := by rw [hsl.out]; exact hs
 obtain ⟨T, hT, hTB⟩ : ∃ T, T = sb s /\ AL T := ⟨_, rfl, sb_bytes s⟩
 have HTA := Lib.hid (show EO s l = (Ak T.length ++ T) ++ (Ak l.length ++ l) by rw [hT]; rfl)
 have HR : ∀ (w : World) (D : Nat -> Prop) (x : Value) , Sl w D 1 x (sb s).length (Aa (sb s)) -> Calls Tryz.prog 159 #[x] w (Az (fun x w' => Fi w' w.heap.size x (Ak T.length ++ T)) w) := fun w D x h => by
  rw [hT]; exact FU x (sb s) (by omega) w D h
 have HRS := Lib.hid HR
 have hn1 := Aw T.length
 have hn2 := Aw l.length
 have hTl : T.length <= 1000000 := by rw [hT]; exact hsl1
 have HTB := Lib.hid hTB
 clear HR hT hTB hsl1
 have hS0 := hS.stable
 have HB3 := Lib.hid ((((Bt T.length).append HTB.out).append ((Bt l.length).append hb)))
 go_enter Tryz.func110, Tryz.ntmps110
 go_wp2_with (first
  | ((with_reducible refine qA 4 ?_); refine D5 hS rfl _ rfl (by kernel_rfl) (Aa (List.replicate 32 0)).toArray (by kernel_rfl) ?_; clear hS; intro g4 w_ hS; (try simp only [Act.put, Act.eval, zz, Value.cells] at hS))
  | ((with_reducible refine qA 9 ?_); refine st_sconv hS rfl _ rfl s rfl hs ?_; clear hS; intro vs_ w_ hS; (try simp only [Act.put, Act.eval, zz, Value.cells] at hS))
  | (go_at_call 159; refine (HRS.out _ _ _ hS.ro.2).mono ?_; rintro r_ w1 ⟨v1, rfl, h1, hb1⟩; replace hS := hS.owned hb1 h1; clear h1 hb1))
 replace hS := hS.mono (K' := K) hS0 fun _ _ h => h.1
 go_loopw [5, 13] (fun o i wr => ∃ (k : Nat) (ov : Value) (bs : List Nat), k <= 1 /\ i = .int .i64 k /\ o = ov /\ Hid (bs = (Ak T.length ++ T) ++ (if k = 0 then [] else Ak l.length ++ l)) /\ bs.length <= 2000000 + k * 11000000 /\ St w0 wr [.own ov 5 1 bs.length (Aa bs), .box g4 86 (Aa (List.replicate 32 0)).toArray] K) (fun _ i _ => 1 - (intOf i).toNat)
 case atStart => exact ⟨0, v1, _, by omega, rfl, rfl, Lib.hid (by simp), by rw [List.length_append]; omega, hS⟩
 case round =>
  clear hS
  obtain ⟨k, ov, bs, hk, rfl, rfl, HBS, hbl, hS⟩ := hrel
  by_cases hlt : k < 1
  ·obtain rfl : k = 0 := by omega
   have f1 : [p][0]? = some p := rfl
   go_wp2_with (first
    | ((with_reducible refine qB ?_); refine qc ?_ ?_ <;> intro h_ <;> go_prune)
    | ((with_reducible refine qI ?_); refine DJ hS rfl _ _ _ rfl _ rfl rfl (by assumption) Tryz.underlying166 (by kernel_rfl) (by first | assumption | omega) _ (by assumption) ?_; intro p_ hc_)
    | (go_at_call 159; refine (FU p l (by omega) _ _ (HK2.out _ _ hS.ro)).mono ?_; rintro r_ w2 ⟨v2, rfl, h2, hb2⟩; replace hS := hS.owned hb2 h2; clear h2 hb2)
    | ((with_reducible refine qA 20 ?_); refine Db hS 1 rfl _ _ _ rfl CZ _ _ _ rfl rfl _ _ _ _ rfl (Sl.of_own (hS.own 0 rfl)) (B3 _) (by rw [List.length_append]; unfold maxLen; omega) (by rw [List.length_append]; omega) ?_; clear hS; intro v_ w_ hS; (try simp only [Act.put, Act.eval, zz, Value.cells] at hS)))
   replace hS := hS.sub (F' := [_, _]) (.cons _ (.refl _))
   refine ⟨⟨1, v_, bs ++ (Ak l.length ++ l), Nat.le_refl _, rfl, rfl, Lib.hid (by rw [HBS.out]; simp), by rw [List.length_append, List.length_append]; omega, ?_⟩, by simp [intOf]⟩
   rw [show (bs ++ (Ak l.length ++ l)).length = bs.length + (Ak l.length ++ l).length from List.length_append, EM bs]; exact hS
  ·obtain rfl : k = 1 := by omega
   obtain ⟨L, hL, hLL, hLb⟩ : ∃ L, L = EO s l /\ bs = L /\ AL L := ⟨_, rfl, by rw [HBS.out, HTA.out]; simp, by rw [HTA.out]; exact HB3.out⟩
   subst hLL
   have HL := Lib.hid hL
   have HLb := Lib.hid hLb
   have hSL : (CI bs).length = 32 := by simp [CI, GM]
   have HS3 := Lib.hid (fun (w : World) (D : Nat -> Prop) (p : Value) (h : Sl w D 1 p bs.length (Aa bs)) => sum03_any p bs HLb.out (by omega) w D h)
   obtain ⟨R, hR⟩ : ∃ R, R = CI bs := ⟨_, rfl⟩
   rw [<- hR] at HS3 hSL
   have HR := Lib.hid hR
   have hi32 : (Tryz.prog.info? 86).map (·.size) = some (Aa R).toArray.size := by rw [List.size_toArray, Ab, hSL]; kernel_rfl
   have HON := Lib.hid (show (Aa R).toArray.all (·.oneCell') = true from all_oneCell_toArray (B3 _))
   have HI := Lib.hid hi32
   have HOL := Lib.hid (show (Aa (List.replicate 32 0)).toArray.size = (Aa R).toArray.size by simp [Ab, hSL])
   clear hL hR hSL hi32 hLb
   go_wp2_with (first
    | ((with_reducible refine qB ?_); refine qc ?_ ?_ <;> intro h_ <;> go_prune)
    | (go_at_call 160; refine (HS3.out _ _ _ (Sl.of_own (hS.own 0 rfl))).mono ?_; rintro r_ w2 ⟨v2, rfl, rfl, hb2⟩; replace hS := hS.ext hb2; clear hb2)
    | ((with_reducible refine qm 86 ?_); refine Cn hS 1 rfl _ _ _ rfl g4 (Aa R).toArray rfl rfl _ _ rfl HI.out HOL.out HON.out ?_; clear hS; intro w_ hS; (try simp only [Act.put, Act.eval, zz, Value.cells] at hS)))
   refine bodyPost_ret (v := .agg (Aa R).toArray) (by exact results_cell_row rfl _ _ g4 86 _ (0, 0) _ rfl (hS.box 1 rfl) Tryz.underlying86 rfl HI.out) rfl ?_
   exact Az.mk (by rw [<- HL.out, HR.out]) hS.below
end
section
open Go.RowKit
attribute [local go_sem ↓] Go.wp_at_zero Go.wp_at_succ
set_option maxRecDepth 20000
set_option exponentiation.threshold 5000
set_option maxHeartbeats 4000000 in
theorem rpbytes_any {w0 : World} {D : Nat -> Prop} {v : Value} {p : AV} {L : List (Nat × Nat)} (hp : B9 w0 D v p) (hR : Kj p L) (hc : checkE p = 0) :
  Calls Tryz.prog 111 #[v] w0 (Az (fun x w' => Fi w' w0.heap.size x (De p)) w0) := by
 obtain ⟨Al, cl, Ar, cr, An, cn, Ag, cg, rfl, -⟩ := Dk hR.links hp
 obtain ⟨L', r, hL, hr, hr1, hr63, hl1, hl2, hl3, -, htg⟩ := FH hc
 obtain rfl : L = L' := by rw [hR.links] at hL; injection hL
 clear hL hc
 have HTG := Lib.hid htg
 have HPB : Hid (De p = Ak r ++ (Ak (Cp L).length ++ Cp L) ++ AZ p.start ++ Ak p.rules.length ++ BP p.rules ++ AM p.never ++ AM p.goal) := Lib.hid (by unfold De Gv; rw [hR.links, hr]; rfl)
 rw [hr] at hp ⊢
 obtain ⟨K, kl, kr, kn, kg, hS⟩ : ∃ K : (Nat -> Prop) -> World -> Prop, (∀ D w, K D w -> Sl w D 2 (.slice Al L.length cl) L.length (A6 L)) /\ (∀ D w, K D w -> Sl w D 5 (.slice Ar p.rules.length cr) p.rules.length (AW p.rules)) /\ (∀ D w, K D w -> Sl w D 2 (.slice An p.never.length cn) p.never.length (AH p.never)) /\ (∀ D w, K D w -> Sl w D 2 (.slice Ag p.goal.length cg) p.goal.length (AH p.goal)) /\ St w0 w0 [] K := ⟨_, fun _ _ h => (BZ hR.links h).1, fun _ _ h => (BZ hR.links h).2.1, fun _ _ h => (BZ hR.links h).2.2.1, fun _ _ h => (BZ hR.links h).2.2.2, St.start CH hp⟩
 have hlL := hR.len
 have hhl : (Cp L).length <= 23000 := by
  have h1 := Dn L
  have h2 := Aw L.length
  unfold Cp; rw [List.length_append]; omega
 have HSt : Hid (p.start < AA) := Lib.hid hR.fits.start
 have hsl : (AZ p.start).length <= 523 := Ba (BC hR.fits.start).1
 have hnl : (AM p.never).length <= 2200000 := by
  have h1 := EH p.never hR.fits.never
  have h2 := Aw p.never.length
  unfold AM; rw [List.length_append]; omega
 have hgl : (AM p.goal).length <= 2200000 := by
  have h1 := EH p.goal hR.fits.goal
  have h2 := Aw p.goal.length
  unfold AM; rw [List.length_append]; omega
 have HRB : Hid (∀ z ∈ p.rules, z.yes < 2 ^ 4096 /\ z.no < 2 ^ 4096) := Lib.hid fun z hz => ⟨(BC (hR.fits.rules z hz).1).1, (BC (hR.fits.rules z hz).2).1⟩
 have HRT := Lib.hid hR.fits.rules
 have hn1 := Aw r
 have hn2 := Aw (Cp L).length
 have hn3 := Aw p.rules.length
 have hrT : Hid (r < AA) := Lib.hid (by unfold AA; omega)
 have hlT : Hid (p.rules.length < AA) := Lib.hid (by unfold AA; omega)
 have HLB : Hid (∀ (w : World) (D : Nat -> Prop) (pv : Value), Sl w D 2 pv L.length (A6 L) -> Calls Tryz.prog 162 #[pv] w fun e w' => ∃ v, e = .returned v /\ St w w' [.own v 5 1 (Cp L).length (Aa (Cp L))] fun _ _ => True) := Lib.hid fun w D pv h => rhbytes_any h hR.hok (by omega)
 have HCN : Hid (∀ (w : World) (D : Nat -> Prop) (v : Value), Sl w D 2 v p.never.length (AH p.never) -> Calls Tryz.prog 166 #[v] w (Az (fun x w' => Fi w' w.heap.size x (AM p.never)) w)) := Lib.hid fun w D v h => Hc v p.never w D h hR.fits.never (by omega)
 have HCG : Hid (∀ (w : World) (D : Nat -> Prop) (v : Value), Sl w D 2 v p.goal.length (AH p.goal) -> Calls Tryz.prog 166 #[v] w (Az (fun x w' => Fi w' w.heap.size x (AM p.goal)) w)) := Lib.hid fun w D v h => Hc v p.goal w D h hR.fits.goal (by omega)
 clear hp hr htg hR
 obtain ⟨hL2, hhL⟩ : ∃ x, x = Cp L := ⟨_, rfl⟩
 rw [<- hhL] at HPB hhl hn2 HLB
 clear hhL
 obtain ⟨cN, hcN⟩ : ∃ x, x = AM p.never := ⟨_, rfl⟩
 rw [<- hcN] at HPB hnl HCN
 clear hcN
 obtain ⟨cG, hcG⟩ : ∃ x, x = AM p.goal := ⟨_, rfl⟩
 rw [<- hcG] at HPB hgl HCG
 clear hcG
 have hpl : (Ak hL2.length ++ hL2).length <= 24000 := by rw [List.length_append]; omega
 go_enter Tryz.func111, Tryz.ntmps111
 go_wp2_with (first
  | ((with_reducible refine qA 1 ?_); refine AF hS rfl _ _ rfl (.agg #[.int .i64 (r : Nat), .slice Al L.length cl, .int .u64 (p.start : Nat), .slice Ar p.rules.length cr, .slice An p.never.length cn, .slice Ag p.goal.length cg]) _ rfl rfl ?_; clear hS; intro g1 w_ hS; (try simp only [Act.put, Act.eval, zz, Value.cells] at hS))
  | ((with_reducible refine qA 8 ?_); refine BigFrame.wpList_want rfl fun _ hK => BR (vx := .int .i64 (r : Nat)) (v := .int .u64 (r : Nat)) rfl rfl (BG hrT.out) (hK _ _ ?_))
  | ((with_reducible refine qA 25 ?_); refine BigFrame.wpList_want rfl fun _ hK => BR (vx := .int .i64 (p.rules.length : Nat)) (v := .int .u64 (p.rules.length : Nat)) rfl rfl (BG hlT.out) (hK _ _ ?_))
  | (go_at_call 161; first | ((with_reducible show Calls _ _ #[.int .u64 (r : Nat)] _ _); refine (Dv r hrT.out _).mono ?_; rintro r_ w2 ⟨v2, rfl, h2, hb2⟩; replace hS := hS.owned hb2 h2; clear h2 hb2) | (refine (Dv p.rules.length hlT.out _).mono ?_; rintro r_ w2 ⟨v2, rfl, h2, hb2⟩; replace hS := hS.owned hb2 h2; clear h2 hb2))
  | (go_at_call 162; refine (HLB.out _ _ _ (kl _ _ hS.ro)).mono ?_; rintro e w_ ⟨v1, rfl, hs⟩; replace hS := hS.new hs.below (.own v1 5 1 hL2.length (Aa hL2)) (hs.own 0 rfl); clear hs)
  | (go_at_call 159; refine (FU _ hL2 (by omega) _ _ (Sl.of_own (hS.own 0 rfl))).mono ?_; rintro r_ w2 ⟨v2, rfl, h2, hb2⟩; replace hS := hS.owned hb2 h2; replace hS := hS.sub (.cons_cons _ (.cons _ (.refl _))); clear h2 hb2)
  | (go_at_call 163; refine (Gr p.start HSt.out _).mono ?_; rintro r_ w2 ⟨v2, rfl, h2, hb2⟩; replace hS := hS.owned hb2 h2; clear h2 hb2)
  | ((with_reducible refine qA 15 ?_); refine Db hS 1 rfl _ _ _ rfl CZ _ _ _ rfl rfl _ _ _ _ rfl (Sl.of_own (hS.own 0 rfl)) (B3 _) (by unfold maxLen; omega) (by omega) ?_; clear hS; intro v_ w_ hS; (try simp only [Act.put, Act.eval, zz, Value.cells] at hS); replace hS := hS.sub (.cons _ (.refl _)))
  | ((with_reducible refine qA 20 ?_); refine Db hS 1 rfl _ _ _ rfl CZ _ _ _ rfl rfl _ _ _ _ rfl (Sl.of_own (hS.own 0 rfl)) (B3 _) (by unfold maxLen; omega) (by omega) ?_; clear hS; intro v_ w_ hS; (try simp only [Act.put, Act.eval, zz, Value.cells] at hS); replace hS := hS.sub (.cons _ (.refl _)))
  | ((with_reducible refine qA 27 ?_); refine Db hS 1 rfl _ _ _ rfl CZ _ _ _ rfl rfl _ _ _ _ rfl (Sl.of_own (hS.own 0 rfl)) (B3 _) (by unfold maxLen; omega) (by omega) ?_; clear hS; intro v_ w_ hS; (try simp only [Act.put, Act.eval, zz, Value.cells] at hS); replace hS := hS.sub (.cons _ (.refl _)))
  | ((with_reducible refine qK ?_); refine qC hS ?_))
 obtain ⟨B0, hB0⟩ : ∃ x, x = Ak r ++ (Ak hL2.length ++ hL2) ++ AZ p.start ++ Ak p.rules.length := ⟨_, rfl⟩
 have hb0 : B0.length <= 25000 := by rw [hB0]; simp only [List.length_append]; simp only [List.length_append] at hpl; omega
 have hS0 : St w0 w_ [.own v_ 5 1 B0.length (Aa B0), .box g1 30 #[.int .i64 (r : Nat), .slice Al L.length cl, .int .u64 (p.start : Nat), .slice Ar p.rules.length cr, .slice An p.never.length cn, .slice Ag p.goal.length cg]] K := by
  have e1 : (Ak r).length + (Ak hL2.length ++ hL2).length + (AZ p.start).length + (Ak p.rules.length).length = B0.length := by rw [hB0]; simp only [List.length_append]
  have e2 : Aa (Ak r) ++ Aa (Ak hL2.length ++ hL2) ++ Aa (AZ p.start) ++ Aa (Ak p.rules.length) = Aa B0 := by rw [hB0]; simp [Aa]
  rw [e1, e2] at hS; exact hS
 rw [<- hB0] at HPB
 clear hS hB0 hpl hn1 hn2 hn3 hsl hhl
 go_loopw [3, 31] (fun o i wr => ∃ (j : Nat) (ov : Value), j <= p.rules.length /\ i = .int .i64 (j : Nat) /\ o = ov /\ St w0 wr [.own ov 5 1 (B0 ++ BP (p.rules.take j)).length (Aa (B0 ++ BP (p.rules.take j))), .box g1 30 #[.int .i64 (r : Nat), .slice Al L.length cl, .int .u64 (p.start : Nat), .slice Ar p.rules.length cr, .slice An p.never.length cn, .slice Ag p.goal.length cg]] K) (fun _ i _ => p.rules.length - (intOf i).toNat)
 case atStart => exact ⟨0, v_, by omega, rfl, rfl, by simpa [BP] using hS0⟩
 case round =>
  clear hS0
  obtain ⟨j, ov, hj, rfl, rfl, hS⟩ := hrel
  have hrl := ES (l := p.rules.take j) fun z hz => HRB.out z (List.mem_of_mem_take hz)
  rw [List.length_take] at hrl
  have hbl : (B0 ++ BP (p.rules.take j)).length <= 200000 := by rw [List.length_append]; omega
  by_cases hlj : j < p.rules.length
  ·obtain ⟨b, o, rfl, c0, c1, c2, c3, c4⟩ := rr_at (kr _ _ hS.ro) hlj
   have HST := Lib.hid (ID hlj)
   have hzm : p.rules.getD j Bg ∈ p.rules := by rw [List.getD_eq_getElem?_getD, List.getElem?_eq_getElem hlj]; exact List.getElem_mem hlj
   obtain ⟨t, ht, ht64⟩ := HTG.out _ hzm
   obtain ⟨hty, htn⟩ := HRT.out _ hzm
   clear hzm
   generalize p.rules.getD j Bg = z at *
   obtain ⟨zr, zy, zn, zt, zo⟩ := z
   dsimp only at c0 c1 c2 c3 c4 HST ht hty htn
   subst ht
   have htT : Hid (t < AA) := Lib.hid (by unfold AA; omega)
   have HTY := Lib.hid hty
   have HTN := Lib.hid htn
   have hfl := Fz zr
   have hcl : (B5 zy zn).length <= 1046 := by
    have h1 := Ba (BC hty).1
    have h2 := Ba (BC htn).1
    unfold B5; rw [List.length_append]; omega
   have htl := Aw t
   obtain ⟨bs, hbs⟩ : ∃ x, x = B0 ++ BP (p.rules.take j) := ⟨_, rfl⟩
   rw [<- hbs] at hS hbl
   have HE : Hid (B0 ++ BP (p.rules.take (j + 1)) = bs ++ Bw zr ++ B5 zy zn ++ Ak t) := Lib.hid (by rw [HST.out, <- List.append_assoc, <- hbs]; unfold JB; simp)
   clear HST hbs hrl hty htn
   go_wp2_with (first
    | ((with_reducible refine qB ?_); refine qc ?_ ?_ <;> intro h_ <;> go_prune)
    | ((with_reducible refine qA 34 ?_); refine BigFrame.wpList_want rfl fun _ hK => Bb (cs := [.bool zr, .int .u64 (zy : Nat), .int .u64 (zn : Nat), .int .i64 (t : Nat), .int .i64 zo]) rfl rfl (JF c0 c1 c2 c3 c4) Tryz.underlying109 rfl (by kernel_rfl) (hK _ _ ?_))
    | ((with_reducible refine qA 5 ?_); refine qa hS #[.bool false, .int .u64 0, .int .u64 0, .int .i64 0, .int .i64 0] ?_; clear hS; intro g5 w_ hS)
    | ((with_reducible refine qM ?_); (first | refine qS hS ?_ | refine qT hS ?_); clear hS; intro w_ hS; (try simp only [Act.put, Act.eval, zz, Value.cells] at hS))
    | (go_at_call 164; refine (rflag02_any zr _).mono ?_; rintro r_ w2 ⟨v2, rfl, h2, hb2⟩; replace hS := hS.owned hb2 h2; clear h2 hb2)
    | ((with_reducible refine qk 50 ?_); refine Ey hS 1 rfl _ _ rfl _ _ rfl _ _ rfl _ _ rfl rfl Tryz.underlying50 rfl (by kernel_rfl) ?_)
    | (go_at_call 165; refine (IE zy zn HTY.out HTN.out _).mono ?_; rintro r_ w2 ⟨v2, rfl, h2, hb2⟩; replace hS := hS.owned hb2 h2; clear h2 hb2)
    | ((with_reducible refine qA 48 ?_); refine BigFrame.wpList_want rfl fun _ hK => BR (vx := .int .i64 (t : Nat)) (v := .int .u64 (t : Nat)) rfl rfl (BG htT.out) (hK _ _ ?_))
    | (go_at_call 161; refine (Dv t htT.out _).mono ?_; rintro r_ w2 ⟨v2, rfl, h2, hb2⟩; replace hS := hS.owned hb2 h2; clear h2 hb2)
    | ((with_reducible refine qA 39 ?_); refine Db hS 2 rfl _ _ _ rfl CZ _ _ _ rfl rfl _ _ _ _ rfl (Sl.of_own (hS.own 0 rfl)) (B3 _) (by unfold maxLen; omega) (by omega) ?_; clear hS; intro v_ w_ hS; (try simp only [Act.put, Act.eval, zz, Value.cells] at hS); replace hS := (hS.sub (.cons _ (.refl _))).swap)
    | ((with_reducible refine qA 44 ?_); refine Db hS 1 rfl _ _ _ rfl CZ _ _ _ rfl rfl _ _ _ _ rfl (Sl.of_own (hS.own 0 rfl)) (B3 _) (by unfold maxLen; omega) (by omega) ?_; clear hS; intro v_ w_ hS; (try simp only [Act.put, Act.eval, zz, Value.cells] at hS); replace hS := hS.sub (.cons _ (.refl _)))
    | ((with_reducible refine qA 50 ?_); refine Db hS 1 rfl _ _ _ rfl CZ _ _ _ rfl rfl _ _ _ _ rfl (Sl.of_own (hS.own 0 rfl)) (B3 _) (by unfold maxLen; omega) (by omega) ?_; clear hS; intro v_ w_ hS; (try simp only [Act.put, Act.eval, zz, Value.cells] at hS); replace hS := hS.sub (.cons _ (.refl _)))
    | ((with_reducible refine qK ?_); refine qC hS ?_))
   refine ⟨⟨j + 1, v_, hlj, by go_num, rfl, ?_⟩, by simp [intOf]; omega⟩
   rw [HE.out]
   have h := hS.sub (F' := [_, _]) (.cons_cons _ (.cons _ (.refl _)))
   simpa [Aa, Nat.add_assoc] using h
  ·obtain rfl : p.rules.length = j := by omega
   rw [List.take_length] at hS hbl
   clear hrl
   obtain ⟨B1, hB1⟩ : ∃ x, x = B0 ++ BP p.rules := ⟨_, rfl⟩
   rw [<- hB1] at hS HPB hbl
   clear hB1
   go_wp2_with (first
    | ((with_reducible refine qB ?_); refine qc ?_ ?_ <;> intro h_ <;> go_prune)
    | (go_at_call 166; first | ((with_reducible show Calls _ _ #[.slice An _ _] _ _); refine (HCN.out _ _ _ (kn _ _ hS.ro)).mono ?_; rintro r_ w2 ⟨v2, rfl, h2, hb2⟩; replace hS := hS.owned hb2 h2; clear h2 hb2) | (refine (HCG.out _ _ _ (kg _ _ hS.ro)).mono ?_; rintro r_ w2 ⟨v2, rfl, h2, hb2⟩; replace hS := hS.owned hb2 h2; clear h2 hb2))
    | ((with_reducible refine qA 56 ?_); refine Db hS 1 rfl _ _ _ rfl CZ _ _ _ rfl rfl _ _ _ _ rfl (Sl.of_own (hS.own 0 rfl)) (B3 _) (by unfold maxLen; omega) (by omega) ?_; clear hS; intro v_ w_ hS; (try simp only [Act.put, Act.eval, zz, Value.cells] at hS); replace hS := hS.sub (.cons _ (.refl _)))
    | ((with_reducible refine qA 61 ?_); refine Db hS 1 rfl _ _ _ rfl CZ _ _ _ rfl rfl _ _ _ _ rfl (Sl.of_own (hS.own 0 rfl)) (B3 _) (by unfold maxLen; omega) (by omega) ?_; clear hS; intro v_ w_ hS; (try simp only [Act.put, Act.eval, zz, Value.cells] at hS); replace hS := hS.sub (.cons _ (.refl _)))
    | ((with_reducible refine qK ?_); refine qC hS ?_))
   go_ret
   refine Az.mk (Hi (hS.own 0 rfl) ?_) hS.below
   rw [HPB.out]
   simp [Aa]
set_option maxHeartbeats 2000000 in
theorem rpid_any {w0 : World} {D : Nat -> Prop} {v : Value} {p : AV} {L : List (Nat × Nat)} (hp : B9 w0 D v p) (hR : Kj p L) :
  Calls Tryz.prog 41 #[v] w0 (Az (fun x _ => x = .agg (Aa (pidC p)).toArray) w0) := by
 obtain ⟨cs, rfl, hsz, hone⟩ := hp.cells
 have HCk := Lib.hid (fun (w : World) (D' : Nat -> Prop) (v : Value) (h : B9 w D' v p) => rcheck31_any h hR)
 have HL32 := Lib.hid (Hg p)
 have HID := Lib.hid (show pidC p = if checkE p = 0 then CI (EO EU (De p)) else List.replicate 32 0 from rfl)
 have HSz := Lib.hid (show (Tryz.prog.info? 30).map (·.size) = some cs.size by rw [hsz]; kernel_rfl)
 have HBy : checkE p = 0 -> Hid (∀ (w : World) (D' : Nat -> Prop) (v : Value), B9 w D' v p -> Calls Tryz.prog 111 #[v] w (Az (fun x w' => Fi w' w.heap.size x (De p)) w)) := fun h0 => Lib.hid fun w D' v h => rpbytes_any h hR h0
 have hbl : checkE p = 0 -> (De p).length <= 6000000 := fun h0 => by
  obtain ⟨L', r, hL, hr, hr1, hr63, hl1, hl2, hl3, -, -⟩ := FH h0
  obtain rfl : L = L' := by rw [hR.links] at hL; injection hL
  have h1 := Dn L
  have h2 := Aw L.length
  have h3 := Ba (BC hR.fits.start).1
  have h4 := EH p.never hR.fits.never
  have h5 := Aw p.never.length
  have h6 := EH p.goal hR.fits.goal
  have h7 := Aw p.goal.length
  have h8 := Aw p.roles.toNat
  have h9 := Aw (Cp L).length
  have h10 := Aw p.rules.length
  have h11 := ES (l := p.rules) fun z hz => ⟨(BC (hR.fits.rules z hz).1).1, (BC (hR.fits.rules z hz).2).1⟩
  have h12 := hR.len
  unfold De Gv AM
  rw [hR.links]
  dsimp only
  unfold Cp at h9 ⊢
  simp only [List.length_append] at h9 ⊢
  omega
 have HBb := Lib.hid (IG p)
 obtain ⟨K, hkc, hS⟩ : ∃ K : (Nat -> Prop) -> World -> Prop, (∀ D w, K D w -> B9 w D (.agg cs) p) /\ St w0 w0 [] K := ⟨_, fun _ _ h => h, St.start CH hp⟩
 have HK := Lib.hid hkc
 clear hp hkc hsz hone hR
 generalize De p = bs at *
 generalize checkE p = CK at *
 by_cases h0 : CK = 0
 ·subst h0
  rw [if_pos rfl] at HID
  replace HBy := HBy rfl
  replace hbl := hbl rfl
  obtain ⟨R, hR⟩ : ∃ R, R = pidC p := ⟨_, rfl⟩
  rw [<- hR] at HL32 HID ⊢
  have HTg := Lib.hid (fun (w : World) (D : Nat -> Prop) (pv p : Value) (h1 : Sl w D 1 pv 1 [p]) (h2 : Sl w D 1 p bs.length (Aa bs)) => by
   have := rtagged_any EU (by decide) pv p bs HBb.out (by omega) w D h1 h2
   rw [<- HID.out] at this; exact this)
  have hi32 : (Tryz.prog.info? 86).map (·.size) = some (Aa R).toArray.size := by rw [List.size_toArray, Ab, HL32.out]; kernel_rfl
  have HON := Lib.hid (show (Aa R).toArray.all (·.oneCell') = true from all_oneCell_toArray (B3 _))
  have HI := Lib.hid hi32
  have HOL := Lib.hid (show (Aa (List.replicate 32 0)).toArray.size = (Aa R).toArray.size by simp [Ab, HL32.out])
  clear hR hi32
  go_enter Tryz.func41, Tryz.ntmps41
  go_wp2_with (first
   | ((with_reducible refine qA 1 ?_); refine AF hS rfl _ _ rfl (.agg cs) _ rfl rfl ?_; clear hS; intro g1 w_ hS; (try simp only [Act.put, Act.eval, zz, Value.cells] at hS))
   | ((with_reducible refine qA 2 ?_); refine D5 hS rfl _ rfl (by kernel_rfl) (Aa (List.replicate 32 0)).toArray (by kernel_rfl) ?_; clear hS; intro g2 w_ hS; (try simp only [Act.put, Act.eval, zz, Value.cells] at hS))
   | ((with_reducible refine qk 30 ?_); refine GT hS 1 rfl _ _ rfl g1 rfl _ cs rfl _ Tryz.underlying30 rfl HSz.out ?_)
   | (go_at_call 14; refine (HCk.out _ _ _ (HK.out _ _ hS.ro)).mono ?_; rintro r_ w2 ⟨_, rfl, rfl, hb2⟩; replace hS := hS.ext hb2; clear hb2)
   | ((with_reducible refine qB ?_); refine qc ?_ ?_ <;> intro h_ <;> go_prune)
   | (go_at_call 111; refine (HBy.out _ _ _ (HK.out _ _ hS.ro)).mono ?_; rintro r_ w2 ⟨v2, rfl, h2, hb2⟩; replace hS := (hS.owned hb2 h2).freeze 0 (by decide) rfl; obtain ⟨A2, c2, rfl, _, _⟩ := Sl.shape hS.ro.2; clear h2 hb2)
   | ((with_reducible show wpList _ _ _ (⟨_, .buildSlice _ 1 _, _, _, _, _⟩ :: _) _ _); refine D4 hS rfl _ 22 1 _ rfl Tryz.underlying166 #[.slice A2 bs.length c2] (by kernel_rfl) 1 rfl (by decide) ?_; clear hS; intro g w_ hS; replace hS := hS.freeze 0 (by decide) rfl)
   | (go_at_call 110; refine (HTg.out _ _ _ _ hS.ro.2 hS.ro.1.2).mono ?_; rintro r_ w2 ⟨v2, rfl, rfl, hb2⟩; replace hS := hS.ext hb2; clear hb2)
   | ((with_reducible refine qm 86 ?_); refine Cn hS 0 rfl _ _ _ rfl g2 (Aa R).toArray rfl rfl _ _ rfl HI.out HOL.out HON.out ?_; clear hS; intro w_ hS; (try simp only [Act.put, Act.eval, zz, Value.cells] at hS)))
  refine bodyPost_ret (v := .agg (Aa R).toArray) (by exact results_cell_row rfl _ _ g2 86 _ (0, 0) _ rfl (hS.box 0 rfl) Tryz.underlying86 rfl HI.out) rfl ?_
  exact Az.mk rfl hS.below
 ·rw [if_neg h0] at HID
  rw [HID.out]
  have hi32 : (Tryz.prog.info? 86).map (·.size) = some (Aa (List.replicate 32 0)).toArray.size := by kernel_rfl
  go_enter Tryz.func41, Tryz.ntmps41
  go_wp2_with (first
   | ((with_reducible refine qA 1 ?_); refine AF hS rfl _ _ rfl (.agg cs) _ rfl rfl ?_; clear hS; intro g1 w_ hS; (try simp only [Act.put, Act.eval, zz, Value.cells] at hS))
   | ((with_reducible refine qA 2 ?_); refine D5 hS rfl _ rfl (by kernel_rfl) (Aa (List.replicate 32 0)).toArray (by kernel_rfl) ?_; clear hS; intro g2 w_ hS; (try simp only [Act.put, Act.eval, zz, Value.cells] at hS))
   | ((with_reducible refine qk 30 ?_); refine GT hS 1 rfl _ _ rfl g1 rfl _ cs rfl _ Tryz.underlying30 rfl HSz.out ?_)
   | (go_at_call 14; refine (HCk.out _ _ _ (HK.out _ _ hS.ro)).mono ?_; rintro r_ w2 ⟨_, rfl, rfl, hb2⟩; replace hS := hS.ext hb2; clear hb2)
   | ((with_reducible refine qB ?_); refine qc ?_ ?_ <;> intro h_ <;> go_prune)
   | ((with_reducible refine qm 86 ?_); refine Cn hS 0 rfl _ _ _ rfl g2 (Aa (List.replicate 32 0)).toArray rfl rfl _ _ rfl hi32 rfl (by kernel_rfl) ?_; clear hS; intro w_ hS; (try simp only [Act.put, Act.eval, zz, Value.cells] at hS)))
  refine bodyPost_ret (v := .agg (Aa (List.replicate 32 0)).toArray) (by exact results_cell_row rfl _ _ g2 86 _ (0, 0) _ rfl (hS.box 0 rfl) Tryz.underlying86 rfl hi32) rfl ?_
  exact Az.mk rfl hS.below
end
section
open Go.RowKit
attribute [local go_sem ↓] Go.wp_at_zero Go.wp_at_succ
set_option maxRecDepth 20000
set_option exponentiation.threshold 5000
theorem start_bytesP {W : World} {D : Nat -> Prop} {v : Value} {l : List Nat} (h : CM W) (hv : Sl W D 1 v l.length (Aa l)) : ∃ K : (Nat -> Prop) -> World -> Prop, (∀ D w, K D w -> CM w /\ D 0) /\ (∀ D w, K D w -> Sl w D 1 v l.length (Aa l)) /\ St W W [] K :=
 ⟨fun D w => (CM w /\ D 0) /\ Sl w D 1 v l.length (Aa l), fun _ _ h => h.1, fun _ _ h => h.2, St.start (D := fun _ => True) (Ed.and (Ao (by decide))) ⟨⟨h, trivial⟩, hv.imp fun _ _ _ => trivial⟩⟩
theorem guard_id {w : World} {x y : Operand} {a b : Array Value} : (eqGuard .neq 87 x y (.agg a) (.agg b)).run Tryz.prog w = .ok () w := by kernel_rfl
theorem guard_ide {w : World} {x y : Operand} {a b : Array Value} : (eqGuard .eql 87 x y (.agg a) (.agg b)).run Tryz.prog w = .ok () w := by kernel_rfl
theorem run_conv8w {w : World} {n : Nat} (h : n < 256) : (convert 5 26 (.int .u8 (n : Nat))).run Tryz.prog w = .ok (.int .u64 (n : Nat)) w := by
 go_simp
 exact C1 (by unfold AA; omega)
theorem run_andnot1 {P : Program} {w : World} {t : TypeId} {n : Nat} (h : n < 256) : (binOp .andNot t (.int .u64 (n : Nat)) (.int .u64 1)).run P w = .ok (.int .u64 ((n &&& Br 1 : Nat) : Int)) w :=
 ER (y := 1) (by unfold AA; omega) (by decide)
theorem FL.rfit {p : AV} {L : List (Nat × Nat)} {R : Nat} (h : FL p L R) : Kj p L := ⟨h.links, h.hok, by have := h.len; omega, h.fits⟩
theorem FL.rfitS {p : AV} {L : List (Nat × Nat)} {R s : Nat} (h : FL p L R) (hs : s < AA) : Kj ⟨p.roles, p.links, s, p.rules, p.never, p.goal⟩ L := ⟨h.links, h.hok, by have := h.len; omega, ⟨hs, h.fits.rules, h.fits.rlen, h.fits.never, h.fits.nlen, h.fits.goal, h.fits.glen⟩⟩
theorem B9.start {w : World} {D : Nat -> Prop} {av lv sv rv nv gv : Value} {p : AV} (s : Nat) (h : B9 w D (.agg #[av, lv, sv, rv, nv, gv]) p) : B9 w D (.agg #[av, lv, .int .u64 (s : Nat), rv, nv, gv]) ⟨p.roles, p.links, s, p.rules, p.never, p.goal⟩ := by
 obtain ⟨lv, rv, nv, gv, L', e, hl', h1, h2, h3, h4⟩ := h
 injection e with e; injection e with e; injection e with e0 e; injection e with a e; injection e with _ e; injection e with b e; injection e with c e; injection e with d _
 subst e0 a b c d
 exact ⟨_, _, _, _, _, rfl, hl', h1, h2, h3, h4⟩
set_option maxHeartbeats 2000000 in
theorem lprobs_any (v : Value) (l : List Nat) (n : Nat) (W : World) (D : Nat -> Prop) (hl : ∀ x ∈ l, x < 256) (hn : n < 256) (hv : Sl W D 1 v l.length (Aa l)) (hT : CM W) (hTB : Iy W) : Calls Tryz.prog 8 #[v, .int .u8 (n : Nat)] W (Az (fun x _ => x = .bool true) W) := by
 obtain ⟨K, kt, k1, hS⟩ := start_bytesP hT hv
 clear hv
 have HL := Lib.hid hl
 have HDT := Lib.hid hT
 have HTB := Lib.hid hTB
 have HN := Lib.hid hn
 clear hl hT hTB hn
 obtain ⟨s, hs⟩ : ∃ s, n &&& Br 1 = s := ⟨_, rfl⟩
 have HAN : Hid (∀ (w : World) t, (binOp .andNot t (.int .u64 (n : Nat)) (.int .u64 1)).run Tryz.prog w = .ok (.int .u64 (s : Nat)) w) := Lib.hid fun w t => by rw [<- hs]; exact run_andnot1 HN.out
 have HS64 : Hid (s < AA) := Lib.hid (by rw [<- hs]; have := HN.out; exact Nat.lt_of_le_of_lt Nat.and_le_left (by unfold AA; omega))
 clear hs
 go_enter Tryz.func8, Tryz.ntmps8
 go_wp2_with (first
  | (go_at_call 39; refine (awake_any _ (HTB.out.ext hS.below)).mono ?_; rintro e w3 ⟨_, rfl, rfl, hb3⟩; replace hS := hS.ext hb3; clear hb3)
  | (go_at_call 18; refine (lmake31_any HL.out hS k1 kt).mono ?_; clear hS; rintro e w_ ⟨x, u, rfl, p, ⟨L, R, hM⟩, hS⟩; replace hM := Lib.hid hM; obtain ⟨xs, rfl, hx6, hx1⟩ := hS.ro.2.1.cells; replace hx6 := Lib.hid hx6; obtain ⟨Al, cl, Ar, cr, An, cn, Ag, cg, rfl, -⟩ := Dk hM.out.links hS.ro.2.2)
  | ((with_reducible refine qA 5 ?_); refine qa hS #[.int .i64 0, .pointer none, .slice none 0 0, .slice none 0 0, .slice none 0 0, .slice none 0 0] ?_; clear hS; intro g5 w_ hS)
  | ((with_reducible refine qA 6 ?_); refine qa hS #[.int .i64 0, .slice none 0 0, .int .u64 0, .slice none 0 0, .slice none 0 0, .slice none 0 0] ?_; clear hS; intro g6 w_ hS)
  | ((with_reducible refine qm 30 ?_); refine Cn hS 0 rfl _ _ _ rfl _ _ rfl rfl _ _ rfl (by kernel_rfl) rfl (by kernel_rfl) ?_; clear hS; intro w_ hS; (try simp only [Act.put, Act.eval, zz, Value.cells] at hS))
  | ((with_reducible refine qm 43 ?_); refine Cn hS 1 rfl _ _ _ rfl _ _ rfl rfl _ _ rfl (by rw [hx6.out]; kernel_rfl) (by rw [hx6.out]; rfl) hx1 ?_; clear hS; intro w_ hS; (try simp only [Act.put, Act.eval, zz, Value.cells] at hS)))
 obtain ⟨id, hid⟩ : ∃ q, pidC p = q := ⟨_, rfl⟩
 have HIDL : Hid (id.length = 32) := Lib.hid (by rw [<- hid]; exact Hg p)
 have HID := Lib.hid hid
 clear hid
 refine E7 [.b true, .b false, .b false, .i (.agg xs), .i (.agg (Aa id).toArray), .i (.agg #[.int .i64 p.roles, .slice Al L.length cl, .int .u64 (p.start : Nat), .slice Ar p.rules.length cr, .slice An p.never.length cn, .slice Ag p.goal.length cg]), .i (.agg (Aa id).toArray), .b false, .b false] ⟨uM, uU, uM, ?_, ?_, uR (h := fun w hW hN => (hS.ext hW).box 0 rfl), ?_, ?_, uP, trivial⟩ ?_
 ·refine uT fun b__ w hW hE K hK => ?_
  have e5 : b__.eval (.tmp 5) = .pointer (some ⟨g5, 0, none⟩) := hE 5
  exact CW rfl e5 ((hS.ext hW).box 1 rfl) Tryz.underlying43 rfl (by rw [hx6.out]; kernel_rfl) (hK _ _ rfl (Below.refl _ _))
 ·refine uT fun b__ w hW hE K hK => ?_
  have e20 := hE 20
  exact AP rfl (by kernel_rfl) (by simp only [List.map_cons, List.map_nil, e20]) (pid_any (hS.ext hW).ro.2.1 hM.out.ok (HDT.out.ext (hS.ext hW).below) (HTB.out.ext (hS.ext hW).below)) fun v w' h hb => hK v w' (h.trans (by rw [HID.out])) hb
 ·refine uT fun b__ w hW hE K hK => ?_
  have e22 := hE 22
  exact AP rfl (by kernel_rfl) (by simp only [List.map_cons, List.map_nil, e22]) (rpid_any (hS.ext hW).ro.2.2 hM.out.rfit) fun v w' h hb => hK v w' (h.trans (by rw [HID.out])) hb
 ·refine uT fun b__ w hW hE K hK => ?_
  have e21 := hE 21
  have e23 := hE 23
  exact Ax rfl e21 e23 guard_id (by rw [neq_id _ _ _ HIDL.out HIDL.out]; simp) (hK _ _ rfl (Below.refl _ _))
 ·intro vs wz hW hT
  obtain ⟨e17, e18, e19, e20, e21, e22, e23, e24, e25, -⟩ := hT
  simp only [AO, Act.put, zz, ze]
  replace hS := hS.ext hW
  rw [e25]
  obtain ⟨id2, hid⟩ : ∃ q, pidC ⟨p.roles, p.links, s, p.rules, p.never, p.goal⟩ = q := ⟨_, rfl⟩
  have HIDL2 : Hid (id2.length = 32) := Lib.hid (by rw [<- hid]; exact Hg _)
  have HID2 := Lib.hid hid
  clear hid
  go_wp2_with (first
   | ((with_reducible refine qA 27 ?_); refine BigFrame.wpList_want rfl fun _ hK => BR (vx := .int .u8 (n : Nat)) (v := .int .u64 (n : Nat)) rfl rfl (run_conv8w HN.out) (hK _ _ ?_))
   | ((with_reducible refine qA 28 ?_); refine BigFrame.wpList_want rfl fun _ hK => Ax (vy := .int .u64 1) rfl rfl rfl rfl (HAN.out _ _) (hK _ _ ?_))
   | ((with_reducible refine qk 30 ?_); refine GT hS 0 rfl _ _ rfl g6 rfl _ _ rfl _ Tryz.underlying30 rfl (by kernel_rfl) ?_)
   | (go_at_call 16; refine (Hr (p := ⟨p.roles, p.links, s, p.rules, p.never, p.goal⟩) hM.out.links hM.out.hok (by have := hM.out.len; omega) (hM.out.rfitS HS64.out).fits hS (fun D w h => h.2.2.start s) (fun D w h => kt D w h.1)).mono ?_; clear hS; rintro e w_ ⟨x, rfl, hS⟩; obtain ⟨ys, rfl, hy6, hy1⟩ := hS.ro.2.cells; replace hy6 := Lib.hid hy6)
   | ((with_reducible refine qA 8 ?_); refine qa hS #[.int .i64 0, .pointer none, .slice none 0 0, .slice none 0 0, .slice none 0 0, .slice none 0 0] ?_; clear hS; intro g8 w_ hS)
   | ((with_reducible refine qm 43 ?_); refine Cn hS 0 rfl _ _ _ rfl _ _ rfl rfl _ _ rfl (by rw [hy6.out]; kernel_rfl) (by rw [hy6.out]; rfl) hy1 ?_; clear hS; intro w_ hS; (try simp only [Act.put, Act.eval, zz, Value.cells] at hS))
   | ((with_reducible refine qM ?_); (first | refine qS hS ?_ | refine qT hS ?_); clear hS; intro w_ hS; (try simp only [Act.put, Act.eval, zz, Value.cells] at hS)))
  refine E7 [.b true, .b true, .i (.agg ys), .i (.agg (Aa id2).toArray), .i (.agg #[.int .i64 p.roles, .slice Al L.length cl, .int .u64 (s : Nat), .slice Ar p.rules.length cr, .slice An p.never.length cn, .slice Ag p.goal.length cg]), .i (.agg (Aa id2).toArray), .b true, .b true, .b true] ⟨uM, uM, ?_, ?_, uR (h := fun w hW hN => (hS.ext hW).box 1 rfl), ?_, ?_, uP, uA, trivial⟩ ?_
  ·refine uT fun b__ w hW hE K hK => ?_
   have e8 : b__.eval (.tmp 8) = .pointer (some ⟨g8, 0, none⟩) := hE 8
   exact CW rfl e8 ((hS.ext hW).box 0 rfl) Tryz.underlying43 rfl (by rw [hy6.out]; kernel_rfl) (hK _ _ rfl (Below.refl _ _))
  ·refine uT fun b__ w hW hE K hK => ?_
   have e37 := hE 37
   exact AP rfl (by kernel_rfl) (by simp only [List.map_cons, List.map_nil, e37]) (pid_any (hS.ext hW).ro.2 (p := ⟨p.roles, p.links, s, p.rules, p.never, p.goal⟩) ⟨hM.out.ok.rules, hM.out.ok.never, hM.out.ok.goal, hM.out.ok.links⟩ (HDT.out.ext (hS.ext hW).below) (HTB.out.ext (hS.ext hW).below)) fun v w' h hb => hK v w' (h.trans (by rw [HID2.out])) hb
  ·refine uT fun b__ w hW hE K hK => ?_
   have e39 := hE 39
   exact AP rfl (by kernel_rfl) (by simp only [List.map_cons, List.map_nil, e39]) (rpid_any ((hS.ext hW).ro.1.2.2.start s) (hM.out.rfitS HS64.out)) fun v w' h hb => hK v w' (h.trans (by rw [HID2.out])) hb
  ·refine uT fun b__ w hW hE K hK => ?_
   have e38 := hE 38
   have e40 := hE 40
   exact Ax rfl e38 e40 guard_ide (by rw [eql_id _ _ _ HIDL2.out HIDL2.out]; simp) (hK _ _ rfl (Below.refl _ _))
  ·intro vs wz hW hT
   obtain ⟨e35, e36, e37, e38, e39, e40, e41, e42, e4, -⟩ := hT
   simp only [AO, Act.put, zz, ze]
   replace hS := hS.ext hW
   go_wp2_with fail
   go_ret
   exact Az.mk e4 hS.below
end
section
open Go.RowKit Go.ChangeShapes Go.WideShapes
section
variable {H : Type} {enc : TypeId × Value -> H} {P : Program} {w : World} {base : Nat} {sp : Nat -> Bool} {held : Bool}
theorem sl_of_trod {t e : TypeId} {size fuel : Nat} {cs : List Value} {x : DataW H × List MemPlace} (ht : P.underlying t = some (.slice e)) (hc : P.cellsOf e = size) (hsz : 0 < size) (h : DataW.trod enc P w base sp held fuel t cs = some x) :
  ∃ v n xs, cs = [v] /\ Sl w (fun _ => True) size v n xs /\ ∀ k, k < n -> ∃ f' y, DataW.trod enc P w base sp held f' e ((xs.drop (k * size)).take size) = some y := by
 rcases DataW.trod_slice ht h with ⟨rfl, _⟩ | ⟨a, len, cap, elems, rest, n, _, rfl, _, hb, hl, hm, hlen, hel, _⟩
 ·exact ⟨_, 0, [], rfl, ⟨by simp, none, 0, rfl, Nat.le_refl _, Nat.zero_le _, fun h => by omega⟩, fun k hk => by omega⟩
 ·rw [hc] at hel
  have each : ∀ k, k < len -> ∃ ck y, w.cells? base (a.add (k * size)) size = some ck /\ DataW.trod enc P w base sp held n e ck = some y := by
   intro k hk
   have h1 := hel k hk
   rw [List.getElem?_eq_getElem (by omega)] at h1
   obtain ⟨ck, h2, h3⟩ := Option.bind_eq_some_iff.1 h1
   exact ⟨ck, _, h2, h3⟩
  have hadd : ∀ i j, (a.add i).add j = a.add (i + j) := by
   intro i j
   unfold Addr.add
   by_cases h1 : i = 0 <;> by_cases h2 : j = 0 <;> simp [h1, h2, Nat.add_assoc]
  have cell : ∀ j, j < len * size -> ∃ x, w.cell? (a.add j) = some x := by
   intro j hj
   have hk : j / size < len := (Nat.div_lt_iff_lt_mul hsz).2 hj
   obtain ⟨ck, y, h1, h2⟩ := each _ hk
   obtain ⟨_, h3, h4⟩ := World.cells?_some h1
   have h5 := h4 (j % size) (Nat.mod_lt _ hsz)
   rw [hadd, Nat.mul_comm, Nat.div_add_mod] at h5
   rw [h5, List.getElem?_eq_getElem (by rw [h3]; exact Nat.mod_lt _ hsz)]
   exact ⟨_, rfl⟩
  refine ⟨.slice (some a) len cap, len, (List.range (len * size)).map fun j => (w.cell? (a.add j)).getD undef, rfl, ⟨by simp, some a, cap, rfl, hl, hm, fun h0 => ?_⟩, fun k hk => ?_⟩
  ·obtain ⟨x0, hx0⟩ := cell 0 (Nat.mul_pos h0 hsz)
   obtain ⟨b, o, s⟩ := a
   have hs : s = none := cell_spot hx0
   subst hs
   refine ⟨b, o, rfl, trivial, ?_, fun j x hx => ?_⟩
   ·have := hx0
    unfold World.cell? at this
    simp only [Addr.add] at this
    rcases Nat.lt_or_ge b w.heap.size with hlt | hge
    ·exact hlt
    ·simp [Array.getElem?_eq_none hge] at this
   ·simp only [List.getElem?_map, Option.map_eq_some_iff] at hx
    obtain ⟨j', hj', rfl⟩ := hx
    have hjl := (List.getElem?_eq_some_iff.1 hj').1
    rw [List.getElem?_range (by simpa using hjl)] at hj'
    obtain rfl := Option.some.inj hj'
    obtain ⟨y, hy⟩ := cell j (by simpa using hjl)
    rw [hy]
    have e : (⟨b, o, none⟩ : Addr).add j = ⟨b, o + j, none⟩ := by
     unfold Addr.add; split <;> simp [*]
    rw [e] at hy
    exact hy
  ·obtain ⟨ck, y, h1, h2⟩ := each k hk
   obtain ⟨_, h3, h4⟩ := World.cells?_some h1
   refine ⟨n, y, ?_⟩
   rw [<- h2]
   congr 1
   have hle : k * size + size <= len * size := by
    rw [<- Nat.succ_mul]; exact Nat.mul_le_mul_right _ hk
   apply List.ext_getElem?
   intro i
   rcases Nat.lt_or_ge i size with hi | hi
   ·rw [List.getElem?_take_of_lt hi, List.getElem?_drop, List.getElem?_map, List.getElem?_range (by omega)]
    have h5 := h4 i hi
    rw [hadd] at h5
    simp only [Option.map_some]
    rw [h5, List.getElem?_eq_getElem (by omega)]
    simp
   ·rw [List.getElem?_eq_none (by simp; omega), List.getElem?_eq_none (by omega)]
end
theorem u8_nat {n : Int} (h : (Lit.int .u8 n).wf = true) : ∃ m : Nat, n = (m : Int) /\ m < 256 := by
 have := bounds_u8 h
 exact ⟨n.toNat, by omega, by omega⟩
end
section
open Go.ChangeShapes Go.WideShapes Go.ChangeAt Go.RowKit
set_option maxRecDepth 20000 in
theorem bytes_open {H : Type} {enc : TypeId × Value -> H} {W : World} {r : Reach} {b0 base : Nat} {sp : Nat -> Bool} {held : Bool} {v : Value} {d : DataW H} {p : List MemPlace} (hv : Value.okWide Tryz.prog W r b0 22 v) (h : DataW.Trod enc Tryz.prog W base sp held 22 v d p) :
  ∃ l : List Nat, (∀ x ∈ l, x < 256) /\ Sl W (fun _ => True) 1 v l.length (Aa l) := by
 obtain ⟨a0, len0, cap0, rfl⟩ := okWide_slice Tryz.underlying22 hv
 obtain ⟨fuel, hf⟩ := h
 obtain ⟨v, n, xs, e, hs, he⟩ := sl_of_trod Tryz.underlying22 (size := 1) (by kernel_rfl) (by decide) hf
 have hl := hs.1
 have : ∃ zs : List Nat, (∀ x ∈ zs, x < 256) /\ xs = Aa zs := by
  have : ∀ v ∈ xs, ∃ z : Nat, z < 256 /\ v = .int .u8 (z : Nat) := by
   intro v hv
   obtain ⟨k, hk, hkv⟩ := List.mem_iff_getElem.1 hv
   obtain ⟨f', y, hy⟩ := he k (by omega)
   obtain ⟨z, hz, _, hw⟩ := DataW.trod_int Tryz.underlying5 hy
   obtain ⟨m, rfl, hm⟩ := u8_nat hw
   have h0 := congrArg (·[0]?) hz
   simp only [Nat.mul_one, List.getElem?_take_of_lt Nat.zero_lt_one, List.getElem?_drop, Nat.add_zero] at h0
   rw [List.getElem?_eq_getElem hk, hkv] at h0
   exact ⟨m, hm, by simpa using h0⟩
  clear hs he hl
  induction xs with
  | nil => exact ⟨[], fun x hx => by simp at hx, rfl⟩
  | cons a r ih =>
   obtain ⟨zs, hzs, rfl⟩ := ih fun v hv => this v (List.mem_cons_of_mem _ hv)
   obtain ⟨z, hz, rfl⟩ := this a List.mem_cons_self
   exact ⟨z :: zs, fun x hx => by rcases List.mem_cons.1 hx with rfl | hx; exact hz; exact hzs x hx, rfl⟩
 obtain ⟨zs, hzs, rfl⟩ := this
 have hz : zs.length = n := by simpa [Aa] using hl
 obtain rfl : v = .slice a0 len0 cap0 := by simpa [Value.cells] using e.symm
 exact ⟨zs, hzs, hz ▸ hs⟩
end
section
open Go.RowKit Go.ChangeShapes Go.WideShapes
theorem Er {w : World} {n : String} {g : Nat} {t e : TypeId} {m : Nat} {k : IntKind} {zs : List Int} (hg : Tryz.prog.globalNamed n = some g) (hty : (Tryz.prog.globals[g]?).map (·.type) = some t)
  (ht : Tryz.prog.underlying t = some (.array m e)) (he : Tryz.prog.underlying e = some (.int k)) (hce : Tryz.prog.cellsOf e = 1) (hct : Tryz.prog.cellsOf t = m) (h : Lib.VarReads Tryz.prog w n (Lib.tabData k zs)) :
  ∃ t, BoxF w g t (zs.map fun z => Value.int k z).toArray := by
 obtain ⟨g', t', cs, fuel, p, hg', hty', hvar, hd⟩ := h
 obtain rfl := Option.some.inj (hg.symm.trans hg')
 obtain rfl := Option.some.inj (hty.symm.trans hty')
 have hcs := Lib.cells_of_tab ht he hce hct hd
 simp only [World.var?, hg, Option.bind_some] at hvar
 split at hvar
 ·rename_i cs' t'' f heq
  obtain rfl := Option.some.inj hvar
  refine ⟨(t'', f), ?_⟩
  rw [<- hcs]
  exact heq
 ·cases hvar
theorem tab_of_reads {w : World} (h1 : Lib.VarReads Tryz.prog w "arbac/keccak.rounds" Rows.laid_arbac_keccak_rounds) (h2 : Lib.VarReads Tryz.prog w "arbac/keccak.turns" Rows.laid_arbac_keccak_turns) : Iy w := by
 have e1 : (Rows.laid_arbac_keccak_rounds : DataW Unit) = Lib.tabData .u64 (Bf.map fun x : Nat => (x : Int)) := by kernel_rfl
 have e2 : (Rows.laid_arbac_keccak_turns : DataW Unit) = Lib.tabData .i64 (Cb.map fun x : Nat => (x : Int)) := by kernel_rfl
 rw [e1] at h1
 rw [e2] at h2
 obtain ⟨t, b1⟩ := Er (g := 1) (by kernel_rfl) (t := 273) (by kernel_rfl) Tryz.underlying273 Tryz.underlying26 (by kernel_rfl) (by kernel_rfl) h1
 obtain ⟨u, b2⟩ := Er (g := 2) (by kernel_rfl) (t := 275) (by kernel_rfl) Tryz.underlying275 Tryz.underlying3 (by kernel_rfl) (by kernel_rfl) h2
 refine ⟨⟨t, ?_⟩, u, ?_⟩
 ·have : (List.map (fun z => Value.int .u64 z) (Bf.map fun x : Nat => (x : Int))) = Ai Bf := by simp [Ai]
  rw [<- this]; exact b1
 ·have : (List.map (fun z => Value.int .i64 z) (Cb.map fun x : Nat => (x : Int))) = i64s Cb := by simp [i64s]
  rw [<- this]; exact b2
end
section
open Go.RowKit Go.ChangeShapes Go.WideShapes
theorem dtab_of_reads {w : World} (h1 : Lib.VarReads Tryz.prog w "math/bits.deBruijn64tab" Rows.laid_math_bits_deBruijn64tab) : CM w := by
 have e1 : (Rows.laid_math_bits_deBruijn64tab : DataW Unit) = Lib.tabData .u8 (dbL.map fun x : Nat => (x : Int)) := by kernel_rfl
 rw [e1] at h1
 obtain ⟨t, b1⟩ := Er (g := 0) (by kernel_rfl) (t := 225) (by kernel_rfl) Tryz.underlying225 Tryz.underlying5 (by kernel_rfl) (by kernel_rfl) h1
 have e : (List.map (fun z => Value.int .u8 z) (dbL.map fun x : Nat => (x : Int))) = Aa dbL := by simp [Aa]
 rw [e] at b1
 intro q hq
 rw [b1.cell, List.getElem?_toArray]
 exact CY _ _ hq
theorem tabs_of_reads {w : World} (h0 : Lib.VarReads Tryz.prog w "math/bits.deBruijn64tab" Rows.laid_math_bits_deBruijn64tab) (h1 : Lib.VarReads Tryz.prog w "arbac/keccak.rounds" Rows.laid_arbac_keccak_rounds) (h2 : Lib.VarReads Tryz.prog w "arbac/keccak.turns" Rows.laid_arbac_keccak_turns) : CM w /\ Iy w :=
 ⟨dtab_of_reads h0, tab_of_reads h1 h2⟩
end
section
open Go.ChangeShapes Go.WideShapes Go.ChangeAt Go.RowKit
section
variable {P : Program} {H : Type} {enc : TypeId × Value -> H} {W : World} {r : Reach} {b0 base : Nat} {sp : Nat -> Bool} {held : Bool} {v : Value} {d : DataW H} {p : List MemPlace} {t : TypeId}
theorem int_open {k : IntKind} (ht : P.underlying t = some (.int k)) (hv : Value.okWide P W r b0 t v) (h : DataW.Trod enc P W base sp held t v d p) : ∃ n, v = .int k n /\ (Lit.int k n).wf = true := by
 obtain ⟨n, rfl⟩ := okWide_int ht hv
 obtain ⟨fuel, hf⟩ := h
 obtain ⟨m, e, _, w⟩ := DataW.trod_int ht hf
 simp [Value.cells] at e
 subst e
 exact ⟨_, rfl, w⟩
theorem u8_open (ht : P.underlying t = some (.int .u8)) (hv : Value.okWide P W r b0 t v) (h : DataW.Trod enc P W base sp held t v d p) : ∃ n : Nat, v = .int .u8 n /\ n < 256 := by
 obtain ⟨n, rfl, w⟩ := int_open ht hv h
 have := bounds_u8 w
 obtain ⟨m, rfl⟩ := Int.eq_ofNat_of_zero_le (by omega : 0 <= n)
 exact ⟨m, rfl, by omega⟩
end
end
section
open Go.ChangeShapes Go.WideShapes Go.ChangeAt Go.RowKit
theorem Iv (W : World) (h : laidMetH Tryz.prog Rows.certificateProblemsRow.laid W) : CM W /\ Iy W := by
 have h' : laidMetH Tryz.prog [("math/bits.deBruijn64tab", Rows.laid_math_bits_deBruijn64tab), ("arbac/keccak.rounds", Rows.laid_arbac_keccak_rounds), ("arbac/keccak.turns", Rows.laid_arbac_keccak_turns)] W := h
 rw [MakeChecks.laidMetH_plain _ _ _ (by kernel_rfl)] at h'
 exact tabs_of_reads (Lib.laidMet.reads h' (.head _)) (Lib.laidMet.reads h' (.tail _ (.head _))) (Lib.laidMet.reads h' (.tail _ (.tail _ (.head _))))
noncomputable def cprobStart (os : Os) : World := World.laidAll Tryz.prog os Rows.certificateProblemsRow.laid
theorem J3 (os : Os) (args : Array Value) : laidMetH Tryz.prog Rows.certificateProblemsRow.laid ((cprobStart os).forCall (fun _ _ => 0) ⟨#[], args, []⟩).memory := by
 rw [MakeChecks.laidMetH_plain _ _ _ (by kernel_rfl)]
 exact laidMet_laidAll _ (by kernel_rfl) (by kernel_rfl)
theorem cprob_own : ownKnob Tryz.prog.godebug = none := by kernel_rfl
theorem Gl : laidOutB Tryz.prog = true := by kernel_rfl
set_option maxRecDepth 100000 in
theorem cprob_lifted (os : Os) (started : os.Started) (H : Type) (enc : TypeId × Value -> H) :
  ReturnsInHanded {} Tryz.checked os 8 .any (fun w args => (Rows.certificateProblemsSpec.pre enc Tryz.prog Tryz.f8 [] false w args /\ laidMetH Tryz.prog Rows.certificateProblemsRow.laid w) /\ sizedMet enc Tryz.prog Tryz.f8 (OpenSpec.ofChange Rows.certificateProblemsSpec) false w args)
   (Rows.certificateProblemsSpec.post enc Tryz.prog Tryz.f8 false true false false) := by
 refine returnsInHanded_of_change_and (C := Tryz.checked) (X := fun w _ => laidMetH Tryz.prog Rows.certificateProblemsRow.laid w) (fun _ _ _ hh h => h.of_heap hh) cprob_own started (by kernel_rfl) Tryz.func8
  (ChangeSpec.witness_shaped (enc := enc) (C := Tryz.checked) (os := os) (X := fun w _ => laidMetH Tryz.prog Rows.certificateProblemsRow.laid w) false (cprobStart os) #[.slice none 0 0, .int .u8 0] 8 (World.laidAll_os _ _ _) (World.shaped_of_ZipB (by kernel_rfl) (by kernel_rfl)) (by kernel_rfl) (by kernel_rfl) (by kernel_rfl) (J3 os _)) ?_
 intro W base args ds gs before hval0 hW _ _ hL _
 have hval : ∀ (j : Nat) t v, Tryz.f8.params[j]? = some t -> args[j]? = some v -> Value.okWide Tryz.prog W .any base t v := hval0
 have hW' := hW
 obtain ⟨p, q, hA0, hV, rfl, hfz, hnd⟩ := hW
 have hA : DataW.TrodAll enc Tryz.prog W 0 (fun _ => true) true Tryz.f8.params.toList args.toList ds p := hA0
 rw [Tryz.params8] at hA hval
 obtain ⟨v0, v1, d0, d1, p0, p1, rfl, rfl, rfl, h0, h1⟩ := trodAll_two hA
 obtain ⟨rfl, rfl⟩ := trodVars_none hV
 obtain ⟨l, hl, hs⟩ := bytes_open (hval 0 _ v0 rfl rfl) h0
 obtain ⟨a1, rfl, ha1⟩ := u8_open Tryz.underlying5 (hval 1 _ v1 rfl rfl) h1
 have hT := Iv W hL
 have lt : ∀ z ∈ p0 ++ p1, z.block < W.heap.size := fun z hz => by simpa using hW'.lt z (by simpa using hz)
 refine (lprobs_any v0 l a1 W _ hl ha1 hs hT.1 hT.2).mono fun E W' he => ?_
 obtain ⟨r, rfl, rfl, hb⟩ := he
 refine ⟨_, rfl, _, _, _, [], p0 ++ p1, [], hW', ?_, ?_, ?_, hb.frame _, fun h => by cases h⟩
 ·exact trodAll_mk1 (shut_bool Tryz.underlying4 true)
 ·rw [Tryz.params8]
  exact trodAll_mk2 (Below.trod Gl (by kernel_rfl) (of_decide_eq_true (by kernel_rfl)) h0 hb fun z hz => lt z (List.mem_append_left _ hz)) (Below.trod Gl (by kernel_rfl) (of_decide_eq_true (by kernel_rfl)) h1 hb fun z hz => lt z (List.mem_append_right _ hz))
 ·rfl
theorem cprob_holds : Rows.CertificateProblemsSaid :=
 OpenClaim.holds_of_wide 8 Tryz.f8 rfl rfl rfl rfl rfl rfl rfl ⟨rfl, rfl, rfl, rfl, rfl⟩ rfl rfl rfl rfl rfl (by kernel_rfl) Tryz.func8 (by kernel_rfl)
  (of_decide_eq_true (by kernel_rfl)) (by unfold Func.isWrapper; rw [if_neg (by decide +kernel)]; exact ⟨rfl, rfl⟩)
  (fun os started H enc _ => cprob_lifted os started H enc)
end
section
open Go
theorem cprob_card : Rows.CertificateProblemsCardSaid :=
 Claim7.holds_tied_plain_at .later [] [.data, .data, .data] true (true, "2f541ff0f2b150b94377df4c904e54df060b1cc989d168e7cdafb17d6c9b7b94") false
  cprob_holds (fun _ h => by cases h) (by kernel_rfl) (fun _ h => by cases h) certificateProblems_row_tie rfl ⟨rfl, rfl⟩ (by kernel_rfl) rfl
  (fun f fn hf hfn => by
   obtain rfl : f = 8 := Option.some.inj ((show Tryz.prog.funcNamed "arbac/arbaclaw36.CertificateProblems" = some 8 by kernel_rfl).symm.trans hf) |>.symm
   obtain rfl : fn = Tryz.f8 := (Option.some.inj (Tryz.func8.symm.trans hfn)).symm
   exact ⟨by kernel_rfl, fun j t ht => by
    rw [Tryz.params8] at ht
    have h3 : t = 22 \/ t = 5 := by
     rcases j with _ | _ | j
     ·simp at ht; simp [<- ht]
     ·simp at ht; simp [<- ht]
     ·simp at ht
    rcases h3 with rfl | rfl
    ·exact (show Tryz.prog.wantsStandIn 22 = false by kernel_rfl)
    ·exact (show Tryz.prog.wantsStandIn 5 = false by kernel_rfl)⟩)
  (by kernel_rfl)
end
end Go.Proofs.YtchjigffejhmfaaGreatDoor
namespace Go.Proofs.YtchjigffejhmfaaGreatDoor
#print axioms cprob_card
end Go.Proofs.YtchjigffejhmfaaGreatDoor
