/-
  What the statement needs, part 5.
-/
import Derived.Laws.CopyRow
import Derived.Test.YtchjigffejhmfaaGreatDoorCmk4
namespace Go.Proofs.YtchjigffejhmfaaGreatDoor
section
open Go.RowKit
attribute [local go_sem ↓] Go.wp_at_zero Go.wp_at_succ
set_option maxRecDepth 20000
set_option exponentiation.threshold 5000
section
variable {P : Program} {ops : Array Oper} {rest : List Oper} {o : Oper} {a : Act} {Q : Exit -> Act -> World -> Prop} {w : World}
theorem EM (hg : Region.wanted o (yielded ops a.tmps) = true) (op : BinOp) (t t2 : TypeId) (x y : Operand) (ho : o.op = .binOp op t x y t2) {vx vy : Value} (hx : a.eval x = vx) (hy : a.eval y = vy) {k : IntKind} (p : Nat -> Prop) {z : Nat} (he : (eqGuard op t x y vx vy).run P w = .ok () w) (hr : (binOp op t vx vy).run P w = .ok (.int k (z : Nat)) w) (hp : p z)
  (hk : ∀ z : Nat, p z -> wpList P ops Q rest (a.put o.dst (.int k (z : Nat))) w) : wpList P ops Q (o :: rest) a w :=
 BigFrame.wpList_want hg fun _ hK => AA ho hx hy he hr (hK _ _ (hk z hp))
theorem DH (hg : Region.wanted o (yielded ops a.tmps) = true) (t t2 : TypeId) (x y : Operand) (ho : o.op = .binOp .rem t x y t2) {n m : Nat} (hx : a.eval x = .int .i64 (n : Nat)) (hy : a.eval y = .int .i64 (m : Nat)) (hm : 0 < m)
  (hk : ∀ z : Nat, z < m -> wpList P ops Q rest (a.put o.dst (.int .i64 (z : Nat))) w) : wpList P ops Q (o :: rest) a w :=
 EM hg _ t t2 x y ho hx hy (fun z => z < m) (z := n % m) rfl (by rw [ER (by omega) (by omega)]; rfl) (Nat.mod_lt _ hm) hk
theorem st_addN (hg : Region.wanted o (yielded ops a.tmps) = true) (t t2 : TypeId) (x y : Operand) (ho : o.op = .binOp .add t x y t2) {n m : Nat} (p : Nat -> Prop) (hx : a.eval x = .int .i64 (n : Nat)) (hy : a.eval y = .int .i64 (m : Nat)) (hb : n + m < 9223372036854775808) (hp : p (n + m))
  (hk : ∀ z : Nat, p z -> wpList P ops Q rest (a.put o.dst (.int .i64 (z : Nat))) w) : wpList P ops Q (o :: rest) a w :=
 EM hg _ t t2 x y ho hx hy p (z := n + m) rfl (by rw [CG (by omega) (by omega)]; rfl) hp hk
end
theorem st_someB {P : Program} {ops : Array Oper} {rest : List Oper} {o : Oper} {a : Act} {Q : Exit -> Act -> World -> Prop} {w : World} (hg : Region.wanted o (yielded ops a.tmps) = true) (op : BinOp) (t t2 : TypeId) (x y : Operand) (ho : o.op = .binOp op t x y t2) {vx vy : Value} (hx : a.eval x = vx) (hy : a.eval y = vy) {b : Bool} (he : (eqGuard op t x y vx vy).run P w = .ok () w) (hr : (binOp op t vx vy).run P w = .ok (.bool b) w)
  (hk : ∀ b : Bool, wpList P ops Q rest (a.put o.dst (.bool b)) w) : wpList P ops Q (o :: rest) a w :=
 BigFrame.wpList_want hg fun _ hK => AA ho hx hy he hr (hK _ _ (hk b))
theorem K0 {P : Program} {w : World} {g i : Nat} {t ty : TypeId} {cs : Array Value} {u v : Value} (hb : AX w g t cs) (hi : i + 1 < cs.size) (h1 : u.oneCell' = true) (h2 : v.oneCell' = true) (hs : (P.info? ty).map (·.size) = some 2) :
  (Instr.storeAt ty (.pointer (some ⟨g, i, none⟩)) (.agg #[u, v])).run P w = .ok () ((w.setCell ⟨g, i, none⟩ u).setCell ⟨g, i + 1, none⟩ v) := by
 have := run_storeCells_cells (P := P) g i [u, v] 0 w (fun j hj => by have hc := hb.cell (i + j); simp at hj; simp [hc]; omega) (fun j hj => hb.free _) (by simpa using ⟨h1, h2⟩)
 cases hq : P.info? ty with
 | none => simp [hq] at hs
 | some inf =>
  have hs' : inf.size = 2 := by simpa [hq] using hs
  simp only [Nat.add_zero] at this
  simp [Instr.storeAt, Instr.sureAddr, storeVar, sizeOf, typeInfo, hq, Value.cells, hs', this, World.setCells]
theorem st_bstore2 {P : Program} {ops : Array Oper} {rest : List Oper} {o : Oper} {a : Act} {Q : Exit -> Act -> World -> Prop} {w0 w : World} {F : List A7} {K : (Nat -> Prop) -> World -> Prop} (h : St w0 w F K) (i : Nat) (hg : Region.wanted o (yielded ops a.tmps) = true) (ty : TypeId) (x y : Operand) (ho : o.op = .store ty x y) (g j : Nat) (u v : Value) (hx : a.eval x = .pointer (some ⟨g, j, none⟩)) (hy : a.eval y = .agg #[u, v]) {t : TypeId} {cs : Array Value} (hb : F[i]? = some (.box g t cs)) (hi : j + 1 < cs.size)
  (h1 : u.oneCell' = true) (h2 : v.oneCell' = true) (hs : (P.info? ty).map (·.size) = some 2) (hk : ∀ w', St w0 w' (F.set i (.box g t ((cs.setIfInBounds j u).setIfInBounds (j + 1) v))) K -> wpList P ops Q rest (a.put o.dst undef) w') : wpList P ops Q (o :: rest) a w := by
 refine BigFrame.wpList_want hg fun _ hK => ?_
 have hX := h.box i hb
 unfold Oper.wp execOp
 simp only [ho, hx, hy, Sem.run_bind, K0 hX hi h1 h2 hs, Result.andThen_ok]
 refine hK _ _ (hk _ (h.upd i hb _ (BE (IB.trans (BK w g j u) (BK _ g (j + 1) v))) ⟨(h.holds _ (List.mem_of_getElem? hb)).1, (hX.setC u).setC v⟩ fun _ e => .inl e))
theorem ty_rrules : Bi Tryz.prog 27 109 5 40 := ⟨Tryz.underlying27, by kernel_rfl⟩
def ROk (R m : Nat) (z : Br) : Prop := (1 <= z.target /\ z.target <= R) /\ (0 <= z.origin /\ z.origin < 7) /\ z.yes &&& m = z.yes /\ z.no &&& m = z.no /\ z.yes &&& z.no = 0 /\ z.yes < 256 /\ z.no < 256 /\ (z.revoke = true -> z.yes = 0 /\ z.no = 0)
def KOk (m : Nat) (z : Nat × Nat) : Prop := z.1 &&& m = z.1 /\ z.2 &&& m = z.2 /\ z.1 &&& z.2 = 0 /\ z.1 < 256 /\ z.2 < 256
def GH (R : Nat) : Nat := 2 ^ (R + 1) - 2
theorem run_maskshl {w : World} {R : Nat} (h : R <= 5) : (binOp .shl 5 (.int .u8 2) (.int .u64 (R : Nat))).run Tryz.prog w = .ok (.int .u8 ((2 ^ (R + 1) : Nat) : Int)) w := by
 match R, h with
 | 0, _ => go_simp; rfl
 | 1, _ => go_simp; rfl
 | 2, _ => go_simp; rfl
 | 3, _ => go_simp; rfl
 | 4, _ => go_simp; rfl
 | 5, _ => go_simp; rfl
theorem run_msub {w : World} {R : Nat} (h0 : 2 <= R) (h : R <= 5) : (binOp .sub 5 (.int .u8 ((2 ^ (R + 1) : Nat) : Int)) (.int .u8 2)).run Tryz.prog w = .ok (.int .u8 (GH R : Nat)) w := by
 match R, h0, h with
 | 2, _, _ => go_simp; rfl
 | 3, _, _ => go_simp; rfl
 | 4, _, _ => go_simp; rfl
 | 5, _, _ => go_simp; rfl
theorem run_shrN {P : Program} {w : World} {t : TypeId} {n k : Nat} (hk : k < 64) : (binOp .shr t (.int .i64 (n : Nat)) (.int .u64 (k : Nat))).run P w = .ok (.int .i64 ((n / 2 ^ k : Nat) : Int)) w := by
 go_simp
theorem CM {w0 w : World} {F : List A7} {K : (Nat -> Prop) -> World -> Prop} {q c at_ : Nat} {A : Option Addr} {l : List Nat} (hl : ∀ x ∈ l, x < 256) (ha : at_ < 1000000) (hS : St w0 w F K) (i : Nat) (hi : F[i]? = some (.box q 113 #[.slice A l.length c, .int .i64 (at_ : Nat)])) (kp : ∀ D w, K D w -> Sl w D 1 (.slice A l.length c) l.length (Ad l)) :
  Calls Tryz.prog 51 #[.pointer (some ⟨q, 0, none⟩)] w fun e w' => ∃ b : Nat, b < 256 /\ e = .returned (.int .i64 (b : Nat)) /\ St w0 w' (F.set i (.box q 113 #[.slice A l.length c, .int .i64 ((at_ + 1 : Nat) : Int)])) K := by
 refine (next_any hl ha (hS.front hi) kp).mono ?_
 rintro e w' ⟨b, h1, h2, h3⟩
 exact ⟨b, h1, h2, h3.perm (perm_at F i _ _ hi).symm⟩
theorem run_shl2 {w : World} {t : TypeId} {R : Nat} (h : R < 5) : (binOp .shl t (.int .i64 2) (.int .u64 (R : Nat))).run Tryz.prog w = .ok (.int .i64 ((2 ^ (R + 1) : Nat) : Int)) w := by
 match R, h with
 | 0, _ => go_simp; rfl
 | 1, _ => go_simp; rfl
 | 2, _ => go_simp; rfl
 | 3, _ => go_simp; rfl
 | 4, _ => go_simp; rfl
theorem i64_or_nat (a b : Nat) (ha : a < 256) (hb : b < 256) : bits .or .i64 (a : Int) (b : Int) = ((a ||| b : Nat) : Int) := by
 have hx : a ||| b < 2 ^ 8 := Nat.or_lt_two_pow (by omega) (by omega)
 show IntKind.i64.wrap ((BitVec.ofInt 64 (a : Int) ||| BitVec.ofInt 64 (b : Int)).toNat : Int) = _
 rw [BitVec.toNat_or, show BitVec.ofInt 64 (a : Int) = BitVec.ofNat 64 a from BitVec.ofInt_natCast .., show BitVec.ofInt 64 (b : Int) = BitVec.ofNat 64 b from BitVec.ofInt_natCast .., BitVec.toNat_ofNat, BitVec.toNat_ofNat, Nat.mod_eq_of_lt (by omega), Nat.mod_eq_of_lt (by omega)]
 exact wrap_i64_nat (by omega)
theorem run_orN {w : World} {t : TypeId} {a b : Nat} (ha : a < 256) (hb : b < 256) : (binOp .or t (.int .i64 (a : Nat)) (.int .i64 (b : Nat))).run Tryz.prog w = .ok (.int .i64 ((a ||| b : Nat) : Int)) w := by
 go_simp
 exact i64_or_nat a b ha hb
theorem closM_ltT (L : List (Nat × Nat)) (s : Nat) : closM L s < AE := by rw [BZ]; exact Gp L s 64
structure Iz (p : AZ) (L : List (Nat × Nat)) (R : Nat) : Prop where
 links : p.links = some L
 roles : p.roles = (R : Int)
 r2 : 2 <= R
 r5 : R <= 5
 hok : Hf L
 inr : InRol R L
 len : L.length <= 25
 start : p.start &&& GH R = p.start
 rlen : p.rules.length <= 6
 rules : ∀ z ∈ p.rules, ROk R (GH R) z
 nlen : p.never.length <= 3
 never : ∀ z ∈ p.never, KOk (GH R) z /\ C3 z (closM L p.start) = false
 glen : p.goal.length <= 3
 gpos : 1 <= p.goal.length
 goal : ∀ z ∈ p.goal, KOk (GH R) z
theorem Hz (l : List Br) (b : Bool) (y n : Nat) (t o : Int) : B5 (l ++ [⟨b, y, n, t, o⟩]) = B5 l ++ [.bool b, .int .u64 (y : Nat), .int .u64 (n : Nat), .int .i64 t, .int .i64 o] := by rw [Ka]; rfl
theorem FO (l : List (Nat × Nat)) (y n : Nat) : AC (l ++ [(y, n)]) = AC l ++ [.int .u64 (y : Nat), .int .u64 (n : Nat)] := by rw [DI]; rfl
theorem IG : Bi Tryz.prog 28 50 2 16 := ⟨Tryz.underlying28, by kernel_rfl⟩
theorem It {α : Type} {P : α -> Prop} {l : List α} {x : α} (h : ∀ z ∈ l, P z) (hx : P x) : ∀ z ∈ l ++ [x], P z := fun z hz => by
 rcases List.mem_append.1 hz with h1 | h1
 ·exact h z h1
 ·rw [List.mem_singleton.1 h1]; exact hx
set_option maxHeartbeats 4000000 in
theorem rmake31_any {w0 w : World} {F : List A7} {K : (Nat -> Prop) -> World -> Prop} {v : Value} {l : List Nat} (hl : ∀ x ∈ l, x < 256) (hS : St w0 w F K) (kp : ∀ D w, K D w -> Sl w D 1 v l.length (Ad l)) :
  Calls Tryz.prog 13 #[v] w fun e w' => ∃ u p L R, e = .returned u /\ Iz p L R /\ St w0 w' F fun D w => K D w /\ Bj w D u p := by
 obtain ⟨A, c, rfl, hc1, hc2⟩ := (kp _ _ hS.ro).shape
 have HL := Lib.hid hl
 have KS := Lib.hid hS.stable
 clear hl
 go_enter Tryz.func13, Tryz.ntmps13
 go_wp2_with (first
  | ((with_reducible refine qA 2 ?_); refine qa hS #[.int .i64 0, .slice none 0 0, .int .u64 0, .slice none 0 0, .slice none 0 0, .slice none 0 0] ?_; clear hS; intro g2 w_ hS)
  | ((with_reducible refine qA 27 ?_); refine BA rfl _ _ rfl #[.slice A l.length c, .int .i64 0] (by kernel_rfl) ?_; (try simp only [Act.put, List.setIfInBounds_toArray, List.set_cons_zero, List.set_cons_succ]))
  | ((with_reducible refine qA 28 ?_); refine AH hS rfl _ _ rfl (.agg #[.slice A l.length c, .int .i64 0]) _ rfl rfl ?_; clear hS; intro q w_ hS; (try simp only [Act.put, Act.eval, zz, Value.cells] at hS))
  | (go_at_call 51; first
    | (refine (CM (at_ := 0) HL.out (by omega) hS 0 rfl kp).mono ?_; clear hS; rintro e w_ ⟨b, hb, rfl, hS⟩; replace hS : St w0 w_ (.box q 113 #[.slice A l.length c, .int .i64 1] :: .box g2 30 #[.int .i64 0, .slice none 0 0, .int .u64 0, .slice none 0 0, .slice none 0 0, .slice none 0 0] :: F) K := hS)
    | (refine (CM (at_ := 1) HL.out (by omega) hS 1 rfl kp).mono ?_; clear hS; rintro e w_ ⟨lk, hlk, rfl, hS⟩; replace hS : St w0 w_ (.box g4 30 #[.int .i64 (R : Nat), .slice none 0 0, .int .u64 0, .slice none 0 0, .slice none 0 0, .slice none 0 0] :: .box q 113 #[.slice A l.length c, .int .i64 2] :: .box g2 30 #[.int .i64 0, .slice none 0 0, .int .u64 0, .slice none 0 0, .slice none 0 0, .slice none 0 0] :: F) K := hS))
  | ((with_reducible refine qA 31 ?_); refine DH (m := 4) rfl _ _ _ _ rfl rfl rfl (by decide) ?_; intro r4 hr4)
  | ((with_reducible refine qA 32 ?_); refine st_addN (n := 2) rfl _ _ _ _ rfl (fun z => 2 <= z /\ z <= 5) rfl rfl (by omega) (by omega) ?_; intro R hR)
  | ((with_reducible refine qA 33 ?_); refine BA rfl _ _ rfl #[.int .i64 (R : Nat), .slice none 0 0, .int .u64 0, .slice none 0 0, .slice none 0 0, .slice none 0 0] (by kernel_rfl) ?_; (try simp only [Act.put, List.setIfInBounds_toArray, List.set_cons_zero, List.set_cons_succ]))
  | ((with_reducible refine qA 4 ?_); refine qa hS #[.int .i64 0, .slice none 0 0, .int .u64 0, .slice none 0 0, .slice none 0 0, .slice none 0 0] ?_; clear hS; intro g4 w_ hS)
  | ((with_reducible refine qM ?_); (first | refine qS hS ?_ | refine qT hS ?_); clear hS; intro w_ hS; (try simp only [Act.put, Act.eval, zz, Value.cells] at hS))
  | ((with_reducible refine qK ?_); refine qC hS ?_)
  | ((with_reducible refine qA 37 ?_); refine BigFrame.wpList_want rfl fun _ hK => AA (vx := .int .u8 2) (vy := .int .u64 (R : Nat)) rfl rfl rfl rfl (run_maskshl hR.2) (hK _ _ ?_))
  | ((with_reducible refine qA 38 ?_); refine EM (k := .u8) rfl _ _ _ _ _ rfl rfl rfl (fun z => z < 256 /\ Hid (z = GH R)) (z := GH R) rfl (run_msub hR.1 hR.2) ⟨by unfold GH; have := Nat.pow_le_pow_right (n := 2) (by decide) (show R + 1 <= 6 by omega); omega, Lib.hid rfl⟩ ?_; rintro m ⟨hm, HM⟩))
 have h64 : R < 64 := by omega
 replace hS := hS.mono (KS.out.and (Aj (by decide) (size := 2) (v := .slice none 0 0) (n := 0) (xs := A6 []))) fun D w h => ⟨h, Sl.none_⟩
 go_loopw [7, 8, 9] (fun nv av cv wr => ∃ (a n : Nat) (pv : Value) (L : List (Nat × Nat)), av = .int .i64 (a : Nat) /\ nv = .int .i64 (n : Nat) /\ 1 <= a /\ a <= R /\ n <= 5 * (a - 1) /\ L.length <= n /\ Hid (Hf L) /\ Hid (InRol R L) /\ St w0 wr (.box g4 30 #[.int .i64 (R : Nat), pv, .int .u64 0, .slice none 0 0, .slice none 0 0, .slice none 0 0] :: .box q 113 #[.slice A l.length c, .int .i64 2] :: .box g2 30 #[.int .i64 0, .slice none 0 0, .int .u64 0, .slice none 0 0, .slice none 0 0, .slice none 0 0] :: F) fun D w => K D w /\ Sl w D 2 pv L.length (A6 L)) (fun _ av _ _ => R - (intOf av).toNat)
 case atStart => exact ⟨1, 0, _, [], rfl, rfl, by omega, by omega, by omega, by simp, Lib.hid Hf.nil, Lib.hid (fun z hz => by simp at hz), hS⟩
 case round =>
  clear hS
  obtain ⟨a, n, pv, L, rfl, rfl, ha1, haR, hn, hLn, HH, HR, hS⟩ := hrel
  by_cases haR2 : a < R
  ·go_wp2_with (first | ((with_reducible refine qB ?_); refine qc ?_ ?_ <;> intro h_ <;> go_prune) | ((with_reducible refine qK ?_); refine qC hS ?_))
   go_loopw [7, 9] (fun nv cv wr => ∃ (d n : Nat) (pv : Value) (L : List (Nat × Nat)), cv = .int .i64 (d : Nat) /\ nv = .int .i64 (n : Nat) /\ a + 1 <= d /\ d <= R + 1 /\ n + a + 1 <= 5 * (a - 1) + d /\ L.length <= n /\ Hid (Hf L) /\ Hid (InRol R L) /\ St w0 wr (.box g4 30 #[.int .i64 (R : Nat), pv, .int .u64 0, .slice none 0 0, .slice none 0 0, .slice none 0 0] :: .box q 113 #[.slice A l.length c, .int .i64 2] :: .box g2 30 #[.int .i64 0, .slice none 0 0, .int .u64 0, .slice none 0 0, .slice none 0 0, .slice none 0 0] :: F) fun D w => K D w /\ Sl w D 2 pv L.length (A6 L)) (fun _ cv _ => R + 1 - (intOf cv).toNat)
   case atStart => exact ⟨a + 1, n, pv, L, by go_num, rfl, by omega, by omega, by omega, hLn, HH, HR, hS⟩
   case round =>
    clear hS HH HR hLn hn
    obtain ⟨d, n, pv, L, rfl, rfl, hd1, hdR, hn, hLn, HH, HR, hS⟩ := hrel
    by_cases hdR2 : d <= R
    ·go_wp2_with (first
      | ((with_reducible refine qK ?_); refine qC hS ?_)
      | ((with_reducible refine qA 57 ?_); refine DH (m := 8) rfl _ _ _ _ rfl rfl rfl (by decide) ?_; intro z57 h57)
      | ((with_reducible refine qA 59 ?_); refine EM (k := .i64) rfl _ _ _ _ _ rfl rfl rfl (fun _ => True) rfl (run_shrN (k := z57) (by omega)) trivial ?_; intro z59 _)
      | ((with_reducible refine qA 60 ?_); refine DH (m := 2) rfl _ _ _ _ rfl rfl rfl (by decide) ?_; intro z60 h60)
      | ((with_reducible refine qA 64 ?_); refine DH (m := 3) rfl _ _ _ _ rfl rfl rfl (by decide) ?_; intro z64 h64_)
      | ((with_reducible refine qB ?_); refine qc ?_ ?_ <;> intro h_ <;> go_prune)
      | (go_at_call 52; refine (rlink_st HH.out HR.out ha1 (by omega) hdR2 h64 (by omega) hS (fun D w h => h.2)).mono ?_; clear hS; rintro e w_ ⟨v2, z2, L2, rfl, HH2, HR2, hl2, hS⟩; replace HH2 := Lib.hid HH2; replace HR2 := Lib.hid HR2; obtain ⟨A2, c2, rfl, _, _⟩ := hS.ro.2.shape)
      | ((with_reducible refine qM ?_); (first | refine qS hS ?_ | refine qT hS ?_); clear hS; intro w_ hS; (try simp only [Act.put, Act.eval, zz, Value.cells] at hS)))
     all_goals first
      | exact ⟨⟨d + 1, n + 1, _, L2, by go_num, by go_num, by omega, by omega, by omega, by omega, HH2, HR2, hS.mono (KS.out.and (Aj (by decide))) fun D w h => ⟨h.1.1, h.2⟩⟩, by simp [intOf]; omega⟩
      | exact ⟨⟨d + 1, n + 1, pv, L, by go_num, by go_num, by omega, by omega, by omega, by omega, HH, HR, hS⟩, by simp [intOf]; omega⟩
    ·go_wp2_with (first | ((with_reducible refine qB ?_); refine qc ?_ ?_ <;> intro h_ <;> go_prune) | ((with_reducible refine qK ?_); refine qC hS ?_))
     exact ⟨⟨a + 1, n, pv, L, by go_num, rfl, by omega, by omega, by omega, by omega, HH, HR, hS⟩, by simp [intOf]; omega⟩
  ·have hnn : n <= 25 := by omega
   clear ha1 haR hn hc1 hc2
   go_wp2_with (first
    | ((with_reducible refine qB ?_); refine qc ?_ ?_ <;> intro h_ <;> go_prune)
    | ((with_reducible refine qK ?_); refine qC hS ?_)
    | (go_at_call 51; first | (refine (CM (at_ := 2) HL.out (by omega) hS 1 rfl (fun D w h => kp D w h.1)).mono ?_; clear hS; rintro e w_ ⟨b3, hb3, rfl, hS⟩; replace hS : St w0 w_ (.box g4 30 #[.int .i64 (R : Nat), pv, .int .u64 0, .slice none 0 0, .slice none 0 0, .slice none 0 0] :: .box q 113 #[.slice A l.length c, .int .i64 ((2 + 1 : Nat) : Int)] :: .box g2 30 #[.int .i64 0, .slice none 0 0, .int .u64 0, .slice none 0 0, .slice none 0 0, .slice none 0 0] :: F) (fun D w => K D w /\ Sl w D 2 pv L.length (A6 L)) := hS) | (refine (CM (at_ := 2 + 1) HL.out (by omega) hS 1 rfl (fun D w h => kp D w h.1)).mono ?_; clear hS; rintro e w_ ⟨b4, hb4, rfl, hS⟩; replace hS : St w0 w_ (.box g4 30 #[.int .i64 (R : Nat), pv, .int .u64 (s0 : Nat), .slice none 0 0, .slice none 0 0, .slice none 0 0] :: .box q 113 #[.slice A l.length c, .int .i64 ((2 + 1 + 1 : Nat) : Int)] :: .box g2 30 #[.int .i64 0, .slice none 0 0, .int .u64 0, .slice none 0 0, .slice none 0 0, .slice none 0 0] :: F) (fun D w => K D w /\ Sl w D 2 pv L.length (A6 L)) := hS))
    | ((with_reducible refine qA 82 ?_); refine Hq rfl _ _ _ _ rfl _ _ rfl rfl (by omega) (by omega) ?_; intro s0 hs0 es0)
    | ((with_reducible refine qA 87 ?_); refine DH (m := 7) rfl _ _ _ _ rfl rfl rfl (by decide) ?_; intro RU hRU)
    | ((with_reducible refine qM ?_); (first | refine qS hS ?_ | refine qT hS ?_); clear hS; intro w_ hS; (try simp only [Act.put, Act.eval, zz, Value.cells] at hS)))
   have HS0 : Hid (s0 &&& m = s0) := Lib.hid (by have h := es0.out; simp only [Int.toNat_natCast] at h; rw [h, KJ])
   clear es0 hb3 hb4
   obtain ⟨Ap, cp, rfl, _, _⟩ := hS.ro.2.shape
   obtain ⟨K1, k1, kk1, hS2⟩ : ∃ K1 : (Nat -> Prop) -> World -> Prop, (∀ D w, K1 D w -> K D w) /\ (∀ D w, K1 D w -> Sl w D 2 (.slice Ap L.length cp) L.length (A6 L)) /\ St w0 w_ (.box g4 30 #[.int .i64 (R : Nat), .slice Ap L.length cp, .int .u64 (s0 : Nat), .slice none 0 0, .slice none 0 0, .slice none 0 0] :: .box q 113 #[.slice A l.length c, .int .i64 ((2 + 1 + 1 : Nat) : Int)] :: .box g2 30 #[.int .i64 0, .slice none 0 0, .int .u64 0, .slice none 0 0, .slice none 0 0, .slice none 0 0] :: F) K1 := ⟨_, fun _ _ h => h.1, fun _ _ h => h.2, hS⟩
   clear hS
   have hS := hS2.nil 109 5
   clear hS2
   have KS1 := Lib.hid hS.stable
   go_loopw [11] (fun kv wr => ∃ (k t : Nat) (rv : Value) (rs : List Br), kv = .int .i64 (k : Nat) /\ k <= RU /\ t <= 4 + 4 * k /\ Hid (rs.length = k) /\ Hid (∀ z ∈ rs, ROk R m z) /\ St w0 wr (.own rv 109 5 k (B5 rs) :: .box g4 30 #[.int .i64 (R : Nat), .slice Ap L.length cp, .int .u64 (s0 : Nat), rv, .slice none 0 0, .slice none 0 0] :: .box q 113 #[.slice A l.length c, .int .i64 ((t : Nat) : Int)] :: .box g2 30 #[.int .i64 0, .slice none 0 0, .int .u64 0, .slice none 0 0, .slice none 0 0, .slice none 0 0] :: F) K1) (fun kv _ => RU - (intOf kv).toNat)
   case atStart => exact ⟨0, 2 + 1 + 1, _, [], rfl, by omega, by omega, Lib.hid rfl, Lib.hid (fun z hz => by simp at hz), hS⟩
   case round =>
    clear hS
    obtain ⟨k, t, rv, rs, rfl, hk, ht, HRL, HRS, hS⟩ := hrel
    obtain ⟨Ar, cr, rfl, _, _⟩ := C7 (hS.own 0 rfl)
    by_cases hkR : k < RU
    ·have hk7 : k < 7 := by omega
     go_wp2_with (first
      | (go_at_call 51; first | (refine (CM (at_ := t) HL.out (by omega) hS 2 rfl (fun D w h => kp D w (k1 D w h))).mono ?_; clear hS; rintro e w_ ⟨kd, hkd, rfl, hS⟩; simp only [List.set_cons_succ, List.set_cons_zero] at hS) | (refine (CM (at_ := t + 1) HL.out (by omega) hS 2 rfl (fun D w h => kp D w (k1 D w h))).mono ?_; clear hS; rintro e w_ ⟨tg, htg, rfl, hS⟩; simp only [List.set_cons_succ, List.set_cons_zero] at hS) | (refine (CM (at_ := t + 1 + 1) HL.out (by omega) hS 2 rfl (fun D w h => kp D w (k1 D w h))).mono ?_; clear hS; rintro e w_ ⟨cy, hcy, rfl, hS⟩; simp only [List.set_cons_succ, List.set_cons_zero] at hS) | (refine (CM (at_ := t + 1 + 1 + 1) HL.out (by omega) hS 2 rfl (fun D w h => kp D w (k1 D w h))).mono ?_; clear hS; rintro e w_ ⟨cz, hcz, rfl, hS⟩; simp only [List.set_cons_succ, List.set_cons_zero] at hS))
      | ((with_reducible refine qA 102 ?_); refine DH (m := 4) rfl _ _ _ _ rfl rfl rfl (by decide) ?_; intro z102 h102)
      | ((with_reducible refine qA 103 ?_); refine st_someB rfl _ _ _ _ _ rfl rfl rfl rfl (run_eqB rfl) ?_; intro rvk)
      | ((with_reducible refine qA 107 ?_); refine DH (m := R) rfl _ _ _ _ rfl rfl rfl (by omega) ?_; intro z107 h107)
      | ((with_reducible refine qA 108 ?_); refine st_addN (n := 1) rfl _ _ _ _ rfl (fun z => 1 <= z /\ z <= R) rfl rfl (by omega) (by omega) ?_; intro z108 h108)
      | ((with_reducible refine qA 110 ?_); refine BA rfl _ _ rfl #[.bool rvk, .int .u64 0, .int .u64 0, .int .i64 (z108 : Nat), .int .i64 (k : Nat)] (by kernel_rfl) ?_; (try simp only [Act.put, List.setIfInBounds_toArray, List.set_cons_zero, List.set_cons_succ]))
      | ((with_reducible refine qA 16 ?_); refine qa hS #[.bool false, .int .u64 0, .int .u64 0, .int .i64 0, .int .i64 0] ?_; clear hS; intro g16 w_ hS)
      | ((with_reducible refine qm 109 ?_); refine qS hS ?_; clear hS; intro w_ hS; (try simp only [Act.put, Act.eval, zz, Value.cells] at hS); cases rvk)
      | (go_at_call 53; refine (IJ cy cz m hm _).mono ?_; rintro r_ w_ ⟨_, rfl, ⟨ya, na, rfl, s1, s2, s3, s4, s5⟩, hb_⟩; replace hS := hS.ext hb_; clear hb_)
      | ((with_reducible refine qm 50 ?_); refine st_bstore2 hS 0 rfl _ _ _ rfl _ _ _ _ rfl rfl rfl (by simp) rfl rfl (by kernel_rfl) ?_; clear hS; intro w_ hS; (try simp only [Act.put, Act.eval, zz, Value.cells] at hS))
      | ((with_reducible refine qK ?_); refine qL hS Tryz.underlying109 ?_)
      | ((with_reducible refine qA 122 ?_); first | (refine Do hS 1 rfl rfl _ _ _ _ rfl rfl ty_rrules (.slice Ar k cr) k (B5 rs) (.agg #[.bool false, .int .u64 (ya : Nat), .int .u64 (na : Nat), .int .i64 (z108 : Nat), .int .i64 (k : Nat)]) #[.bool false, .int .u64 (ya : Nat), .int .u64 (na : Nat), .int .i64 (z108 : Nat), .int .i64 (k : Nat)] rfl (by kernel_rfl) rfl rfl rfl rfl (by intro u hu; simp at hu; rcases hu with rfl | rfl | rfl | rfl | rfl <;> rfl) (by omega) (by omega) ?_; clear hS; intro z_ v' w_ hS; (try simp only [Act.put, Act.eval, zz, Value.cells] at hS); obtain ⟨A', c', rfl, _, _⟩ := C7 (hS.own 1 rfl)) | (refine Do hS 1 rfl rfl _ _ _ _ rfl rfl ty_rrules (.slice Ar k cr) k (B5 rs) (.agg #[.bool true, .int .u64 0, .int .u64 0, .int .i64 (z108 : Nat), .int .i64 (k : Nat)]) #[.bool true, .int .u64 0, .int .u64 0, .int .i64 (z108 : Nat), .int .i64 (k : Nat)] rfl (by kernel_rfl) rfl rfl rfl rfl (by intro u hu; simp at hu; rcases hu with rfl | rfl | rfl | rfl <;> rfl) (by omega) (by omega) ?_; clear hS; intro z_ v' w_ hS; (try simp only [Act.put, Act.eval, zz, Value.cells] at hS); obtain ⟨A', c', rfl, _, _⟩ := C7 (hS.own 1 rfl)))
      | ((with_reducible refine qB ?_); refine qc ?_ ?_ <;> intro h_ <;> go_prune)
      | ((with_reducible refine qK ?_); refine qC hS ?_)
      | ((with_reducible refine qM ?_); (first | refine qS hS ?_ | refine qT hS ?_); clear hS; intro w_ hS; (try simp only [Act.put, Act.eval, zz, Value.cells] at hS)))
     ·have e : B5 (rs ++ [⟨false, ya, na, (z108 : Nat), (k : Nat)⟩]) = B5 rs ++ [.bool false, .int .u64 (ya : Nat), .int .u64 (na : Nat), .int .i64 (z108 : Nat), .int .i64 (k : Nat)] := Hz ..
      refine ⟨⟨k + 1, _, .slice A' (k + 1) c', rs ++ [⟨false, ya, na, (z108 : Nat), (k : Nat)⟩], by go_num, hkR, ?_, Lib.hid (by rw [List.length_append, HRL.out]; rfl), Lib.hid (It HRS.out ⟨⟨by simp only; omega, by simp only; omega⟩, ⟨by simp only; omega, by simp only; omega⟩, s1, s2, s3, s4, s5, fun h => by cases h⟩), by rw [e]; exact hS.sub (List.sublist_cons_self _ _)⟩, by simp [intOf]; omega⟩
      omega
     ·have e : B5 (rs ++ [⟨true, 0, 0, (z108 : Nat), (k : Nat)⟩]) = B5 rs ++ [.bool true, .int .u64 0, .int .u64 0, .int .i64 (z108 : Nat), .int .i64 (k : Nat)] := Hz ..
      refine ⟨⟨k + 1, _, .slice A' (k + 1) c', rs ++ [⟨true, 0, 0, (z108 : Nat), (k : Nat)⟩], by go_num, hkR, ?_, Lib.hid (by rw [List.length_append, HRL.out]; rfl), Lib.hid (It HRS.out ⟨⟨by simp only; omega, by simp only; omega⟩, ⟨by simp only; omega, by simp only; omega⟩, Nat.zero_and m, Nat.zero_and m, Nat.zero_and 0, Nat.zero_lt_succ _, Nat.zero_lt_succ _, fun _ => ⟨rfl, rfl⟩⟩), by rw [e]; exact hS.sub (List.sublist_cons_self _ _)⟩, by simp [intOf]; omega⟩
      omega
    ·obtain rfl : RU = k := by omega
     go_wp2_with (first
      | (go_at_call 51; first | (refine (CM (at_ := t) HL.out (by omega) hS 2 rfl (fun D w h => kp D w (k1 D w h))).mono ?_; clear hS; rintro e w_ ⟨bv, hbv, rfl, hS⟩; simp only [List.set_cons_succ, List.set_cons_zero] at hS) | (refine (CM (at_ := t + 1) HL.out (by omega) hS 2 rfl (fun D w h => kp D w (k1 D w h))).mono ?_; clear hS; rintro e w_ ⟨bg, hbg, rfl, hS⟩; simp only [List.set_cons_succ, List.set_cons_zero] at hS))
      | ((with_reducible refine qA 127 ?_); refine DH (m := 4) rfl _ _ _ _ rfl rfl rfl (by decide) ?_; intro NV hNV)
      | ((with_reducible refine qA 130 ?_); refine DH (m := 3) rfl _ _ _ _ rfl rfl rfl (by decide) ?_; intro g3 hg3)
      | ((with_reducible refine qA 131 ?_); refine st_addN (n := 1) rfl _ _ _ _ rfl (fun z => 1 <= z /\ z <= 3) rfl rfl (by omega) (by omega) ?_; intro GO hGO)
      | ((with_reducible refine qB ?_); refine qc ?_ ?_ <;> intro h_ <;> go_prune))
     obtain ⟨K2, j1, k2, kr2, hS2⟩ : ∃ K2 : (Nat -> Prop) -> World -> Prop, (∀ D w, K2 D w -> K D w) /\ (∀ D w, K2 D w -> Sl w D 2 (.slice Ap L.length cp) L.length (A6 L)) /\ (∀ D w, K2 D w -> Sl w D 5 (.slice Ar RU cr) RU (B5 rs)) /\ St w0 w_ (.box g4 30 #[.int .i64 (R : Nat), .slice Ap L.length cp, .int .u64 (s0 : Nat), .slice Ar RU cr, .slice none 0 0, .slice none 0 0] :: .box q 113 #[.slice A l.length c, .int .i64 ((t + 1 + 1 : Nat) : Int)] :: .box g2 30 #[.int .i64 0, .slice none 0 0, .int .u64 0, .slice none 0 0, .slice none 0 0, .slice none 0 0] :: F) K2 := ⟨_, fun _ _ h => k1 _ _ h.1, fun _ _ h => kk1 _ _ h.1, fun _ _ h => h.2, hS.freeze 0 (by decide) rfl⟩
     clear hS
     have hS := hS2.nil 50 2
     clear hS2
     have KS2 := Lib.hid hS.stable
     go_loopw [19] (fun jv wr => ∃ (j u : Nat) (nv : Value) (ns : List (Nat × Nat)), jv = .int .i64 (j : Nat) /\ j <= NV /\ u <= 40 + 2 * j /\ ns.length <= j /\ Hid (∀ z ∈ ns, KOk m z /\ C3 z (closM L s0) = false) /\ St w0 wr (.own nv 50 2 ns.length (AC ns) :: .box g4 30 #[.int .i64 (R : Nat), .slice Ap L.length cp, .int .u64 (s0 : Nat), .slice Ar RU cr, nv, .slice none 0 0] :: .box q 113 #[.slice A l.length c, .int .i64 ((u : Nat) : Int)] :: .box g2 30 #[.int .i64 0, .slice none 0 0, .int .u64 0, .slice none 0 0, .slice none 0 0, .slice none 0 0] :: F) K2) (fun jv _ => NV - (intOf jv).toNat)
     case atStart => exact ⟨0, t + 1 + 1, _, [], rfl, by omega, by omega, by simp, Lib.hid (fun z hz => by simp at hz), hS⟩
     case round =>
      clear hS
      obtain ⟨j, u, nv, ns, rfl, hj, hu, hnl, HNS, hS⟩ := hrel
      obtain ⟨An, cn, rfl, _, _⟩ := C7 (hS.own 0 rfl)
      by_cases hjN : j < NV
      ·go_wp2_with (first
        | (go_at_call 51; first | (refine (CM (at_ := u) HL.out (by omega) hS 2 rfl (fun D w h => kp D w (j1 D w h))).mono ?_; clear hS; rintro e w_ ⟨yb, hyb, rfl, hS⟩; simp only [List.set_cons_succ, List.set_cons_zero] at hS) | (refine (CM (at_ := u + 1) HL.out (by omega) hS 2 rfl (fun D w h => kp D w (j1 D w h))).mono ?_; clear hS; rintro e w_ ⟨nb, hnb, rfl, hS⟩; simp only [List.set_cons_succ, List.set_cons_zero] at hS))
        | ((with_reducible refine qA 145 ?_); refine DH (m := R) rfl _ _ _ _ rfl rfl rfl (by omega) ?_; intro z145 h145)
        | ((with_reducible refine qA 147 ?_); refine EM (k := .i64) rfl _ _ _ _ _ rfl rfl rfl (fun z => z < 256) (z := 2 ^ (z145 + 1)) rfl (run_shl2 (by omega)) (Nat.lt_of_le_of_lt (Nat.pow_le_pow_right (by decide) (show z145 + 1 <= 5 by omega)) (by decide)) ?_; intro z147 h147)
        | ((with_reducible refine qA 148 ?_); refine EM (k := .i64) rfl _ _ _ _ _ rfl rfl rfl (fun _ => True) (z := yb ||| z147) rfl (run_orN hyb h147) trivial ?_; intro z148 _)
        | (go_at_call 53; refine (IJ z148 nb m hm _).mono ?_; rintro r_ w_ ⟨_, rfl, ⟨ya, na, rfl, s1, s2, s3, s4, s5⟩, hb_⟩; replace hS := hS.ext hb_; clear hb_)
        | ((with_reducible refine qA 22 ?_); refine qa hS #[.int .u64 0, .int .u64 0] ?_; clear hS; intro g22 w_ hS)
        | ((with_reducible refine qB ?_); refine qc ?_ ?_ <;> intro h_ <;> go_prune)
        | ((with_reducible refine qK ?_); refine qC hS ?_)
        | ((with_reducible refine qM ?_); (first | refine qS hS ?_ | refine qT hS ?_); clear hS; intro w_ hS; (try simp only [Act.put, Act.eval, zz, Value.cells] at hS)))
       obtain ⟨hld, hHb⟩ : ∃ hld : Bool, hld = C3 (ya, na) (closM L s0) := ⟨_, rfl⟩
       have HB := Lib.hid hHb
       clear hHb
       refine Ep [.i (.agg #[.int .u64 (ya : Nat), .int .u64 (na : Nat)]), .q g4 1, .i (.slice Ap L.length cp), .q g4 2, .i (.int .u64 (s0 : Nat)), .i (.int .u64 (closM L s0 : Nat)), .i (.bool hld), .i (.bool (!hld))] ⟨uR (h := fun w hW hN => (hS.ext hW).box 0 rfl), uF, uC (h := fun w hW hN => (hS.ext hW).shut 2 rfl 1 rfl), uF, uC (h := fun w hW hN => (hS.ext hW).shut 2 rfl 2 rfl), ?_, ?_, uU, trivial⟩ ?_
       ·refine uT fun b__ w hW hE K hK => ?_
        have e154 := hE 154
        have e156 := hE 156
        exact AL rfl (by kernel_rfl) (by simp only [List.map_cons, List.map_nil, e154, e156]) (rclos_any (k2 _ _ (hS.ext hW).ro) HH.out.inr (by omega) s0) fun v w' h hb => hK v w' h hb
       ·refine uT fun b__ w hW hE K hK => ?_
        have e152 := hE 152
        have e157 := hE 157
        exact AL rfl (by kernel_rfl) (by simp only [List.map_cons, List.map_nil, e152, e157]) (Kf (y := ya) (n := na) (by unfold AE; omega) (by unfold AE; omega) (closM_ltT L s0) _) fun v w' h hb => hK v w' (h.trans (by rw [HB.out])) hb
       ·intro vs wz hW hT
        obtain ⟨e152, e153, e154, e155, e156, e157, e158, e159, -⟩ := hT
        simp only [AV, Act.put, zz, ze]
        replace hS := hS.ext hW
        rw [e159]
        clear hW e152 e153 e154 e155 e156 e157 e158 e159
        cases hld with
        | true =>
         go_wp2_with fail
         exact ⟨⟨j + 1, u + 1 + 1, _, ns, by go_num, hjN, by omega, by omega, HNS, hS.sub (List.sublist_cons_self _ _)⟩, by simp [intOf]; omega⟩
        | false =>
         go_wp2_with (first
          | ((with_reducible refine qK ?_); refine qC hS ?_)
          | ((with_reducible refine qK ?_); refine qL hS Tryz.underlying50 ?_)
          | ((with_reducible refine qA 163 ?_); refine Do hS 1 rfl rfl _ _ _ _ rfl rfl IG (.slice An ns.length cn) ns.length (AC ns) (.agg #[.int .u64 (ya : Nat), .int .u64 (na : Nat)]) #[.int .u64 (ya : Nat), .int .u64 (na : Nat)] rfl (by kernel_rfl) rfl rfl rfl rfl (by intro u hu; simp at hu; rcases hu with rfl | rfl <;> rfl) (by omega) (by omega) ?_; clear hS; intro z_ v' w_ hS; (try simp only [Act.put, Act.eval, zz, Value.cells] at hS); obtain ⟨A', c', rfl, _, _⟩ := C7 (hS.own 1 rfl))
          | ((with_reducible refine qM ?_); (first | refine qS hS ?_ | refine qT hS ?_); clear hS; intro w_ hS; (try simp only [Act.put, Act.eval, zz, Value.cells] at hS)))
         have e : AC (ns ++ [(ya, na)]) = AC ns ++ [.int .u64 (ya : Nat), .int .u64 (na : Nat)] := FO ..
         exact ⟨⟨j + 1, u + 1 + 1, .slice A' (ns.length + 1) c', ns ++ [(ya, na)], by go_num, hjN, by omega, by simp; omega, Lib.hid (It HNS.out ⟨⟨s1, s2, s3, s4, s5⟩, HB.out.symm⟩), by rw [e, List.length_append]; exact hS.sub (List.sublist_cons_self _ _)⟩, by simp [intOf]; omega⟩
      ·obtain rfl : NV = j := by omega
       go_wp2_with (first | ((with_reducible refine qB ?_); refine qc ?_ ?_ <;> intro h_ <;> go_prune))
       obtain ⟨K3, j3, k3, kr3, kn3, hS2⟩ : ∃ K3 : (Nat -> Prop) -> World -> Prop, (∀ D w, K3 D w -> K D w) /\ (∀ D w, K3 D w -> Sl w D 2 (.slice Ap L.length cp) L.length (A6 L)) /\ (∀ D w, K3 D w -> Sl w D 5 (.slice Ar RU cr) RU (B5 rs)) /\ (∀ D w, K3 D w -> Sl w D 2 (.slice An ns.length cn) ns.length (AC ns)) /\ St w0 wr (.box g4 30 #[.int .i64 (R : Nat), .slice Ap L.length cp, .int .u64 (s0 : Nat), .slice Ar RU cr, .slice An ns.length cn, .slice none 0 0] :: .box q 113 #[.slice A l.length c, .int .i64 ((u : Nat) : Int)] :: .box g2 30 #[.int .i64 0, .slice none 0 0, .int .u64 0, .slice none 0 0, .slice none 0 0, .slice none 0 0] :: F) K3 := ⟨_, fun _ _ h => j1 _ _ h.1, fun _ _ h => k2 _ _ h.1, fun _ _ h => kr2 _ _ h.1, fun _ _ h => h.2, hS.freeze 0 (by decide) rfl⟩
       clear hS
       have hS := hS2.nil 50 2
       clear hS2
       have KS3 := Lib.hid hS.stable
       go_loopw [23] (fun jv wr => ∃ (j x : Nat) (gv : Value) (gs : List (Nat × Nat)), jv = .int .i64 (j : Nat) /\ j <= GO /\ x <= 50 + 2 * j /\ Hid (gs.length = j) /\ Hid (∀ z ∈ gs, KOk m z) /\ St w0 wr (.own gv 50 2 j (AC gs) :: .box g4 30 #[.int .i64 (R : Nat), .slice Ap L.length cp, .int .u64 (s0 : Nat), .slice Ar RU cr, .slice An ns.length cn, gv] :: .box q 113 #[.slice A l.length c, .int .i64 ((x : Nat) : Int)] :: .box g2 30 #[.int .i64 0, .slice none 0 0, .int .u64 0, .slice none 0 0, .slice none 0 0, .slice none 0 0] :: F) K3) (fun jv _ => GO - (intOf jv).toNat)
       case atStart => exact ⟨0, u, _, [], rfl, by omega, by omega, Lib.hid rfl, Lib.hid (fun z hz => by simp at hz), hS⟩
       case round =>
        clear hS
        obtain ⟨j, x, gv, gs, rfl, hj2, hx, HGL, HGS, hS⟩ := hrel
        obtain ⟨Ag, cg, rfl, _, _⟩ := C7 (hS.own 0 rfl)
        by_cases hjG : j < GO
        ·go_wp2_with (first
          | (go_at_call 51; first | (refine (CM (at_ := x) HL.out (by omega) hS 2 rfl (fun D w h => kp D w (j3 D w h))).mono ?_; clear hS; rintro e w_ ⟨yb, hyb, rfl, hS⟩; simp only [List.set_cons_succ, List.set_cons_zero] at hS) | (refine (CM (at_ := x + 1) HL.out (by omega) hS 2 rfl (fun D w h => kp D w (j3 D w h))).mono ?_; clear hS; rintro e w_ ⟨nb, hnb, rfl, hS⟩; simp only [List.set_cons_succ, List.set_cons_zero] at hS))
          | ((with_reducible refine qB ?_); refine qc ?_ ?_ <;> intro h_ <;> go_prune))
         have h0d := hS.drew
         refine wp_zS [5, 6, 7, 9] [some (.pointer (some ⟨g4, 5, none⟩)), some (.slice Ag j cg), some (.int .i64 (yb : Nat)), some (.int .i64 (nb : Nat)), some (.int .u8 (m : Nat)), none, none, none, some (.pointer (some ⟨g4, 5, none⟩)), none] (fun vs w => match vs with | [] => St w0 w (.own (.slice Ag j cg) 50 2 j (AC gs) :: .box g4 30 #[.int .i64 (R : Nat), .slice Ap L.length cp, .int .u64 (s0 : Nat), .slice Ar RU cr, .slice An ns.length cn, .slice Ag j cg] :: .box q 113 #[.slice A l.length c, .int .i64 ((x + 1 + 1 : Nat) : Int)] :: .box g2 30 #[.int .i64 0, .slice none 0 0, .int .u64 0, .slice none 0 0, .slice none 0 0, .slice none 0 0] :: F) K3 | [z] => ∃ a b : Nat, z = .agg #[.int .u64 (a : Nat), .int .u64 (b : Nat)] /\ KOk m (a, b) /\ St w0 w (.own (.slice Ag j cg) 50 2 j (AC gs) :: .box g4 30 #[.int .i64 (R : Nat), .slice Ap L.length cp, .int .u64 (s0 : Nat), .slice Ar RU cr, .slice An ns.length cn, .slice Ag j cg] :: .box q 113 #[.slice A l.length c, .int .i64 ((x + 1 + 1 : Nat) : Int)] :: .box g2 30 #[.int .i64 0, .slice none 0 0, .int .u64 0, .slice none 0 0, .slice none 0 0, .slice none 0 0] :: F) K3 | [_, z] => ∃ a b : Nat, KOk m (a, b) /\ St w0 w (.own (.slice Ag j cg) 50 2 j (AC gs) :: .box g4 30 #[.int .i64 (R : Nat), .slice Ap L.length cp, .int .u64 (s0 : Nat), .slice Ar RU cr, .slice An ns.length cn, .slice Ag j cg] :: .box q 113 #[.slice A l.length c, .int .i64 ((x + 1 + 1 : Nat) : Int)] :: .box g2 30 #[.int .i64 0, .slice none 0 0, .int .u64 0, .slice none 0 0, .slice none 0 0, .slice none 0 0] :: F) (fun D w => K3 D w /\ Sl w D 2 z 1 [.int .u64 (a : Nat), .int .u64 (b : Nat)]) | [_, _, p'] => ∃ a b : Nat, KOk m (a, b) /\ St w0 w (.own p' 50 2 (j + 1) (AC gs ++ [.int .u64 (a : Nat), .int .u64 (b : Nat)]) :: .box g4 30 #[.int .i64 (R : Nat), .slice Ap L.length cp, .int .u64 (s0 : Nat), .slice Ar RU cr, .slice An ns.length cn, .slice Ag j cg] :: .box q 113 #[.slice A l.length c, .int .i64 ((x + 1 + 1 : Nat) : Int)] :: .box g2 30 #[.int .i64 0, .slice none 0 0, .int .u64 0, .slice none 0 0, .slice none 0 0, .slice none 0 0] :: F) K3 | [_, _, p', _] => ∃ a b : Nat, KOk m (a, b) /\ St w0 w (.own p' 50 2 (j + 1) (AC gs ++ [.int .u64 (a : Nat), .int .u64 (b : Nat)]) :: .box g4 30 #[.int .i64 (R : Nat), .slice Ap L.length cp, .int .u64 (s0 : Nat), .slice Ar RU cr, .slice An ns.length cn, p'] :: .box q 113 #[.slice A l.length c, .int .i64 ((x + 1 + 1 : Nat) : Int)] :: .box g2 30 #[.int .i64 0, .slice none 0 0, .int .u64 0, .slice none 0 0, .slice none 0 0, .slice none 0 0] :: F) K3 | _ => False) ?_ ⟨vF, ?_, vM, vM, vM, ?_, ?_, ?_, vF, ?_, trivial⟩ ?_
         ·first | assumption | (dsimp only; assumption)
         ·refine vR 0 2 fun b__ w vs hS h1 h2 hE K hK => ?_
          rcases vs with _ | ⟨x0, _ | ⟨x1, _ | ⟨x2, vs⟩⟩⟩ <;> first | (exfalso; first | exact hS | (revert h1 h2; simp <;> omega); done) | ((have e175 := hE 175); (first | exact Ao rfl e175 (by kernel_rfl) (hS.shut 1 rfl 5 rfl) (hK _ rfl) | (obtain ⟨_, _, _, hS⟩ := hS; exact Ao rfl e175 (by kernel_rfl) (hS.shut 1 rfl 5 rfl) (hK _ rfl)) | (obtain ⟨_, _, _, _, hS⟩ := hS; exact Ao rfl e175 (by kernel_rfl) (hS.shut 1 rfl 5 rfl) (hK _ rfl))))
         ·refine vX 0 fun b__ w vs hS hl hE K hK => ?_
          obtain rfl := vs_len0 hl
          have e177 := hE 177
          have e178 := hE 178
          have e179 := hE 179
          exact CI rfl (by kernel_rfl) (by simp only [List.map_cons, List.map_nil, e177, e178, e179]) (IJ yb nb m hm _) fun e w' ⟨z, he, ⟨a, b, hz, h2, h3, h4, h5, h6⟩, hb_⟩ => ⟨z, he, hK z w' ⟨a, b, hz, ⟨h2, h3, h4, h5, h6⟩, hS.ext hb_⟩⟩
         ·refine vX 1 fun b__ w vs hS hl hE K hK => ?_
          obtain ⟨x0, rfl⟩ := JD hl
          have e180 := hE 180
          obtain ⟨a, b, rfl, hk1, hS⟩ := hS
          refine Dk (ps := [(0, .agg #[.int .u64 (a : Nat), .int .u64 (b : Nat)])]) (cells := #[.int .u64 (a : Nat), .int .u64 (b : Nat)]) rfl Tryz.underlying28 (by simp [e180]) (by kernel_rfl) ?_
          intro w' hbx hbel
          exact hK _ w' ⟨a, b, hk1, hS.ret hbel (Aj (by decide)) (⟨by simp, _, 1, rfl, by omega, by unfold maxLen; omega, fun _ => ⟨w.heap.size, 0, rfl, Nat.le_refl _, hbx.lt, fun j x hj => by rw [Nat.zero_add]; exact (hbx.cell j).trans (by simpa using hj)⟩⟩ : Sl w' (w.heap.size <= ·) 2 (.slice (some ⟨w.heap.size, 0, none⟩) 1 1) 1 [.int .u64 (a : Nat), .int .u64 (b : Nat)])⟩
         ·refine vX 2 fun b__ w vs hS hl hE K hK => ?_
          obtain ⟨x0, x1, rfl⟩ := JC hl
          have e176 := hE 176
          have e181 := hE 181
          obtain ⟨a, b, hk1, h3⟩ := hS
          refine Fg rfl IG e176 (h3.own 0 rfl) e181 h3.ro.2 (by intro u hu; simp at hu; rcases hu with rfl | rfl <;> rfl) (by omega) (by omega) h3.size ?_
          intro v' w' ho hg hat
          exact hK v' w' ⟨a, b, hk1, (h3.upd 0 rfl (.own v' 50 2 (j + 1) (AC gs ++ [Value.int .u64 (a : Nat), Value.int .u64 (b : Nat)])) hg ho hat).mono KS3.out fun D w h => h.1⟩
         ·refine vX 3 fun b__ w vs hS hl hE K hK => ?_
          obtain ⟨x0, x1, x2, rfl⟩ := JB hl
          have e183 := hE 183
          have e182 := hE 182
          obtain ⟨a, b, hk1, h3⟩ := hS
          refine Ff rfl e183 e182 (h3.box 1 rfl) (by simp) (own_cells (h3.own 0 rfl)) (own_one (h3.own 0 rfl)) (by kernel_rfl) ?_
          intro w' hbx hup
          exact hK _ w' ⟨a, b, hk1, h3.upd 1 rfl (.box g4 30 #[.int .i64 (R : Nat), .slice Ap L.length cp, .int .u64 (s0 : Nat), .slice Ar RU cr, .slice An ns.length cn, x2]) (BE hup) ⟨(h3.holds _ (List.mem_of_getElem? (i := 1) rfl)).1, hbx⟩ fun _ e => .inl e⟩
         ·intro us wz vs hS hl hT
          obtain ⟨x0, x1, x2, x3, rfl⟩ := vs_len4 hl
          obtain ⟨e175, e176, e177, e178, e179, e180, e181, e182, e183, -⟩ := hT
          clear hl
          simp only [AV, Act.put, zz, ze]
          obtain ⟨a, b, hk1, hS⟩ := hS
          clear h0d
          go_wp2_with fail
          have e : AC (gs ++ [(a, b)]) = AC gs ++ [.int .u64 (a : Nat), .int .u64 (b : Nat)] := FO ..
          exact ⟨⟨j + 1, x + 1 + 1, _, gs ++ [(a, b)], by go_num, hjG, by omega, Lib.hid (by rw [List.length_append, HGL.out]; rfl), Lib.hid (It HGS.out hk1), by rw [e]; exact hS⟩, by simp [intOf]; omega⟩
        ·obtain rfl : GO = j := by omega
         go_wp2_with (first
          | ((with_reducible refine qB ?_); refine qc ?_ ?_ <;> intro h_ <;> go_prune)
          | ((with_reducible refine qK ?_); refine qL hS Tryz.underlying30 ?_)
          | ((with_reducible refine qM ?_); (first | refine qS hS ?_ | refine qT hS ?_); clear hS; intro w_ hS; (try simp only [Act.put, Act.eval, zz, Value.cells] at hS)))
         have HM : Iz ⟨R, some L, s0, rs, ns, gs⟩ L R := ⟨rfl, rfl, hR.1, hR.2, HH.out, HR.out, by omega, by rw [<- HM.out]; exact HS0.out, by show rs.length <= 6; rw [HRL.out]; omega, by rw [<- HM.out]; exact HRS.out, by show ns.length <= 3; omega, by rw [<- HM.out]; exact HNS.out, by show gs.length <= 3; rw [HGL.out]; omega, by show 1 <= gs.length; rw [HGL.out]; omega, by rw [<- HM.out]; exact HGS.out⟩
         have hS1 := hS.freeze 0 (by decide) rfl
         refine CX Tryz.results13 rfl (hS.box 3 rfl) Tryz.underlying30 rfl (by kernel_rfl) rfl ?_
         refine ⟨_, rfl, _, ⟨L, R, HM⟩, (hS1.sub (F' := F) (((List.sublist_cons_self _ _).trans (List.sublist_cons_self _ _)).trans (List.sublist_cons_self _ _))).mono (KS.out.and D3) fun D w h => ⟨j3 _ _ h.1, ?_⟩⟩
         refine ⟨_, _, _, _, L, rfl, rfl, k3 _ _ h.1, ?_, kn3 _ _ h.1, ?_⟩
         ·show Sl w D 5 _ rs.length _; rw [HRL.out]; exact kr3 _ _ h.1
         ·show Sl w D 2 _ gs.length _; rw [HGL.out]; exact h.2
end
section
open Go.RowKit
structure GK where
 b : Option (Nat × Option (Array Value))
 K : (Nat -> Prop) -> World -> Prop
def GK.F (ty : TypeId) (zs : Array Value) (s : GK) : List A7 := match s.b with
 | none => []
 | some (g, o) => [.box g ty (o.getD zs)]
def GJ (w0 : World) (F : List A7) (ty : TypeId) (zs : Array Value) (s : World × GK) : Prop := St w0 s.1 (s.2.F ty zs ++ F) s.2.K
def GR (w0 : World) (F : List A7) (ty : TypeId) (zs : Array Value) (s s' : World × GK) : Prop :=
 (GJ w0 F ty zs s -> GJ w0 F ty zs s') /\ (∀ D w, s'.2.K D w -> s.2.K D w) /\ (∀ g, s.2.b = some (g, none) -> ∃ o, s'.2.b = some (g, o)) /\ (∀ g cs, s.2.b = some (g, some cs) -> s'.2.b = some (g, some cs))
theorem GR.refl {w0 : World} {F : List A7} {ty : TypeId} {zs : Array Value} : ∀ s, GR w0 F ty zs s s := fun _ => ⟨id, fun _ _ h => h, fun _ h => ⟨_, h⟩, fun _ _ h => h⟩
theorem GR.var {w0 : World} {F : List A7} {ty : TypeId} {zs : Array Value} {s s' : World × GK} (h : GR w0 F ty zs s s') {v : Value} (k : ∃ g o, v = .pointer (some ⟨g, 0, none⟩) /\ s.2.b = some (g, o)) : ∃ g o, v = .pointer (some ⟨g, 0, none⟩) /\ s'.2.b = some (g, o) := by
 obtain ⟨g, o, e, k⟩ := k
 cases o with
 | none => obtain ⟨o, k⟩ := h.2.2.1 g k; exact ⟨g, o, e, k⟩
 | some cs => exact ⟨g, _, e, h.2.2.2 g cs k⟩
theorem GR.trans {w0 : World} {F : List A7} {ty : TypeId} {zs : Array Value} : ∀ a b c, GR w0 F ty zs a b -> GR w0 F ty zs b c -> GR w0 F ty zs a c := fun a b c h k =>
 ⟨fun j => k.1 (h.1 j), fun D w j => h.2.1 D w (k.2.1 D w j), fun g j => by
  obtain ⟨o, j2⟩ := h.2.2.1 g j
  obtain ⟨g', o', e, j3⟩ := k.var ⟨g, o, rfl, j2⟩
  injection e with e; injection e with e; injection e with e; subst e
  exact ⟨o', j3⟩, fun g cs j => k.2.2.2 g cs (h.2.2.2 g cs j)⟩
def GN (ia is : Nat) (i : Nat) (s : World × GK) : Prop := (i = ia -> s.2.b = none) /\ (i = is -> ∀ g cs, s.2.b ≠ some (g, some cs))
theorem GN.start {ia is : Nat} {w : World} {K : (Nat -> Prop) -> World -> Prop} (i : Nat) : GN ia is i (w, ⟨none, K⟩) := ⟨fun _ => rfl, fun _ _ _ h => by cases h⟩
theorem GK.more {w0 : World} {F : List A7} {ty : TypeId} {zs : Array Value} {w : World × GK} {w' : World} {K' : (Nat -> Prop) -> World -> Prop} {ia is i : Nat} (h : St w0 w' (w.2.F ty zs ++ F) K') (hk : ∀ D w1, K' D w1 -> w.2.K D w1) :
  GR w0 F ty zs w (w', { w.2 with K := K' }) /\ ∀ j, j ≠ i -> GN ia is j w -> GN ia is j (w', { w.2 with K := K' }) := ⟨⟨fun _ => h, hk, fun _ h => ⟨_, h⟩, fun _ _ h => h⟩, fun _ _ h => h⟩
theorem GK.made {w0 : World} {F : List A7} {ty : TypeId} {zs : Array Value} {w : World × GK} {w' : World} {g ia is : Nat} (hn : w.2.b = none) (h : St w0 w' (.box g ty zs :: F) w.2.K) :
  GR w0 F ty zs w (w', { w.2 with b := some (g, none) }) /\ ∀ j, j ≠ ia -> GN ia is j w -> GN ia is j (w', { w.2 with b := some (g, none) }) :=
 ⟨⟨fun _ => h, fun _ _ h => h, fun g h => (by rw [hn] at h; cases h), fun g cs h => (by rw [hn] at h; cases h)⟩, fun j hj _ => ⟨fun e => absurd e hj, fun _ g cs e => by cases e⟩⟩
theorem GK.put {w0 : World} {F : List A7} {ty : TypeId} {zs : Array Value} {w : World × GK} {w' : World} {g ia is : Nat} {cs : Array Value} (hn : w.2.b = some (g, none)) (h : St w0 w' (.box g ty cs :: F) w.2.K) :
  GR w0 F ty zs w (w', { w.2 with b := some (g, some cs) }) /\ ∀ j, j ≠ is -> GN ia is j w -> GN ia is j (w', { w.2 with b := some (g, some cs) }) :=
 ⟨⟨fun _ => h, fun _ _ h => h, fun g' h => (by rw [hn] at h; injection h with h; injection h with h1 h2; subst h1; exact ⟨_, rfl⟩), fun g cs h => (by rw [hn] at h; cases h)⟩, fun j hj k => ⟨fun e => absurd (k.1 e) (by rw [hn]; exact nofun), fun e => absurd e hj⟩⟩
section
variable {P : Program} {o : Oper} {a : Act} {w : World × GK} {w0 : World} {F : List A7} {ty : TypeId} {zs : Array Value} {K : Act -> World -> Prop} {Q : Exit -> Act -> World -> Prop}
theorem GJ.none (hJ : GJ w0 F ty zs w) (hn : w.2.b = none) : St w0 w.1 F w.2.K := by
 unfold GJ GK.F at hJ; rw [hn] at hJ; exact hJ
theorem GJ.some {g : Nat} {x : Option (Array Value)} (hJ : GJ w0 F ty zs w) (hn : w.2.b = some (g, x)) : St w0 w.1 (.box g ty (x.getD zs) :: F) w.2.K := by
 unfold GJ GK.F at hJ; rw [hn] at hJ; exact hJ
theorem GJ.cell (hJ : GJ w0 F ty zs w) {g : Nat} {t : TypeId} {cs : Array Value} (i : Nat) (hi : F[i]? = Option.some (A7.box g t cs)) (j : Nat) {x : Value} (hx : cs[j]? = Option.some x) : w.1.cell? ⟨g, j, Option.none⟩ = Option.some x :=
 ((hJ.holds (.box g t cs) (List.mem_append_right _ (List.mem_of_getElem? hi))).2.cell j).trans hx
theorem gk_alloc (ho : o.op = .alloc ty) (hz : ((P.info? ty).bind (·.zero)).isSome = true) (hzs : zeroCells P ty = zs) (hJ : GJ w0 F ty zs w) (hn : w.2.b = Option.none)
  (hK : ∀ g w', St w0 w' (.box g ty zs :: F) w.2.K -> K (a.put o.dst (.pointer (some ⟨g, 0, Option.none⟩))) w') : o.wp P a w.1 K Q :=
 IQ ho hz fun w' hb hbel => hK _ w' ((hJ.none hn).new hbel _ ⟨Nat.le_refl _, hzs ▸ hb⟩)
theorem gk_store {x y : Operand} {g : Nat} {cs : Array Value} (ho : o.op = .store ty x y) (hx : a.eval x = .pointer (some ⟨g, 0, Option.none⟩)) (hy : a.eval y = .agg cs) (hJ : GJ w0 F ty zs w) (hn : w.2.b = Option.some (g, Option.none)) (hi : (P.info? ty).map (·.size) = Option.some cs.size)
  (hold : zs.size = cs.size) (h1 : cs.all (·.oneCell') = true) (hK : ∀ w', St w0 w' (.box g ty cs :: F) w.2.K -> K (a.put o.dst undef) w') : o.wp P a w.1 K Q := by
 have hS := hJ.some hn
 exact Dj ho hx hy (hS.box 0 rfl) hi hold h1 fun w' hb hU => hK w' (hS.upd 0 rfl (.box g ty cs) (BE hU) ⟨(hS.holds _ (List.mem_cons_self ..)).1, hb⟩ fun _ e => .inl e)
end
def SR (w0 : World) (FX : Bool × Bool -> List A7) (K : (Nat -> Prop) -> World -> Prop) (s s' : World × (Bool × Bool)) : Prop :=
 (St w0 s.1 (FX s.2) K -> St w0 s'.1 (FX s'.2) K) /\ (s.2.1 = true -> s'.2.1 = true) /\ (s.2.2 = true -> s'.2.2 = true)
theorem SR.refl {w0 : World} {FX : Bool × Bool -> List A7} {K : (Nat -> Prop) -> World -> Prop} : ∀ s, SR w0 FX K s s := fun _ => ⟨id, id, id⟩
theorem SR.trans {w0 : World} {FX : Bool × Bool -> List A7} {K : (Nat -> Prop) -> World -> Prop} : ∀ a b c, SR w0 FX K a b -> SR w0 FX K b c -> SR w0 FX K a c := fun _ _ _ h k => ⟨fun j => k.1 (h.1 j), fun j => k.2.1 (h.2.1 j), fun j => k.2.2 (h.2.2 j)⟩
end
section
open Go.RowKit
attribute [local go_sem ↓] Go.wp_at_zero Go.wp_at_succ
set_option maxRecDepth 20000
set_option exponentiation.threshold 5000
theorem LinkP.next {w0 w : World} {F : List A7} {K : (Nat -> Prop) -> World -> Prop} {L M : List (Nat × Nat)} {x : Nat × Nat} {r : Value} {z : Int} (h : LinkP w0 F K L (x.1 : Nat) (x.2 : Nat) r z w) {j : Nat} (hx : M[j]? = some x) (hL : ∀ u, u ∈ L ↔ u ∈ M.take j) (hN : M.Nodup) (hR : ∀ u ∈ M, (1 <= u.1 /\ u.1 < 64) /\ 1 <= u.2 /\ u.2 < 64) (hA : En M) :
  z = 0 /\ ∃ L', Hf L' /\ (∀ u, u ∈ L' ↔ u ∈ M.take (j + 1)) /\ St w0 w F fun D w => K D w /\ IsH w D r L' := by
 have hm := List.mem_of_getElem? hx
 have h1 := hR x hm
 have hne := hA.ne hm
 have htk : ∀ u, u ∈ M.take (j + 1) ↔ u ∈ L ++ [x] := fun u => by
  rw [List.take_add_one, hx, List.mem_append, List.mem_append, hL]; simp
 rcases h with ⟨h, _⟩ | ⟨a, b, ha, hb, _, _, _, h⟩
 ·exact absurd ⟨⟨by omega, by omega⟩, ⟨by omega, by omega⟩, by omega⟩ h
 ·obtain rfl : x = (a, b) := Prod.ext (by show x.1 = a; omega) (by show x.2 = b; omega)
  rcases h with ⟨h, _⟩ | ⟨_, h, _⟩ | ⟨_, hz, L', h3, h4, h5⟩
  ·exfalso
   obtain ⟨i, hi, e⟩ := List.getElem_of_mem ((hL _).1 h)
   rw [List.length_take] at hi
   obtain ⟨hj, ej⟩ := List.getElem?_eq_some_iff.1 hx
   rw [List.getElem_take] at e
   exact List.pairwise_iff_getElem.1 hN i j (by omega) hj (by omega) (e.trans ej.symm)
  ·exact absurd (hA.sub fun u hu => List.mem_of_mem_take ((htk u).2 hu)) h
  ·exact ⟨hz, L', h3, fun u => (h4 u).trans (htk u).symm, h5⟩
end
section
open Go.RowKit
attribute [local go_sem ↓] Go.wp_at_zero Go.wp_at_succ
set_option maxRecDepth 20000
set_option exponentiation.threshold 5000
theorem nodup_le : ∀ {T S : List (Nat × Nat)}, T.Nodup -> (∀ y ∈ T, y ∈ S) -> T.length <= S.length
 | [], _, _, _ => by simp
 | t :: T, S, hT, hs => by
  have hT := List.nodup_cons.1 hT
  have ht := hs t (List.mem_cons_self ..)
  have := nodup_le (T := T) (S := S.erase t) hT.2 fun y hy => (List.mem_erase_of_ne (fun e => hT.1 (by rw [<- e]; exact hy))).2 (hs y (List.mem_cons_of_mem _ hy))
  rw [List.length_erase_of_mem ht] at this
  have := List.length_pos_of_mem ht
  rw [List.length_cons]
  omega
def Part (M : List (Nat × Nat)) (j : Nat) (L : List (Nat × Nat)) : Prop := Hf L /\ ∀ u, u ∈ L ↔ u ∈ M.take j
theorem Part.len {M L : List (Nat × Nat)} {j : Nat} (h : Part M j L) : L.length <= M.length := nodup_le h.1.asc.nodup fun y hy => List.mem_of_mem_take ((h.2 y).1 hy)
theorem Part.full {M L : List (Nat × Nat)} (h : Part M M.length L) (hM : Asc M) : L = M := Asc.uniq h.1.asc hM fun u => by rw [h.2, List.take_length]
end
section
open Go.RowKit
attribute [local go_sem ↓] Go.wp_at_zero Go.wp_at_succ
set_option maxRecDepth 20000
set_option exponentiation.threshold 5000
structure Fits (p : AZ) : Prop where
 start : p.start < AE
 rules : ∀ z ∈ p.rules, z.yes < AE /\ z.no < AE
 rlen : p.rules.length <= 1000
 never : Small p.never
 nlen : p.never.length <= 1000
 goal : Small p.goal
 glen : p.goal.length <= 1000
theorem Ex {w : World} {D : Nat -> Prop} {v : Value} {l : List (Nat × Nat)} (h : Af w D v l) : ∃ A c, v = .slice A l.length c := by
 obtain ⟨xs, h1, -⟩ := h
 obtain ⟨A, c, e, _, _⟩ := h1.shape
 exact ⟨A, c, e⟩
theorem ret2_cellM {P : Program} {fn : Func} {p t2 : Tmp} {ty : TypeId} {R : Ending -> World -> Prop} {a : Act} {w : World} {g : Nat} {t : TypeId} {cs : Array Value} {d : TypeDesc} {v : Value} (h : fn.results = #[.cell p ty, .tmp t2]) (hp : a.eval (.tmp p) = .pointer (some ⟨g, 0, none⟩)) (hb : AX w g t cs)
  (hu : P.underlying ty = some d) (hd : (match d with | .struct _ | .array _ _ => true | _ => false) = true) (hi : (P.info? ty).map (·.size) = some cs.size) (hv : a.eval (.tmp t2) = v) (hdf : a.defers = []) (hR : R (.returned (.tuple #[.agg cs, v])) w) : bodyPost P fn R .ret a w := by
 have hr : (results fn a.tmps).run P w = .ok (.tuple #[.agg cs, v]) w := by
  have hp' : a.tmps[p]?.getD undef = .pointer (some ⟨g, 0, none⟩) := by simpa [Act.eval] using hp
  have hv' : a.tmps[t2]?.getD undef = v := by simpa [Act.eval] using hv
  simp [results, h, hp', hv', asAddr, run_loadVar_row w g t ty cs (0, 0) d hb hu hd hi]
 exact bodyPost_ret hr hdf hR
theorem Gn {w : World} {D : Nat -> Prop} {a b : Value} {z : Nat × Nat} (h : Bx w D (.agg #[a, b]) z) : A5 w D (.agg #[a]) z.1 /\ A5 w D (.agg #[b]) z.2 := by
 obtain ⟨_, _, he, h1, h2⟩ := h
 injection he with he; injection he with he; injection he with e1 he; injection he with e2 _
 subst e1 e2
 exact ⟨h1, h2⟩
theorem rr_at {w : World} {D : Nat -> Prop} {l : List Br} {A : Option Addr} {c : Nat} (h : Sl w D 5 (.slice A l.length c) l.length (B5 l)) {k : Nat} (hk : k < l.length) :
  ∃ b o, A = some ⟨b, o, none⟩ /\ w.cell? ⟨b, o + k * 5, none⟩ = some (.bool (l.getD k Bn).revoke) /\ w.cell? ⟨b, o + k * 5 + 1, none⟩ = some (.int .u64 ((l.getD k Bn).yes : Nat)) /\ w.cell? ⟨b, o + k * 5 + 2, none⟩ = some (.int .u64 ((l.getD k Bn).no : Nat)) /\ w.cell? ⟨b, o + k * 5 + 3, none⟩ = some (.int .i64 (l.getD k Bn).target) /\ w.cell? ⟨b, o + k * 5 + 4, none⟩ = some (.int .i64 (l.getD k Bn).origin) := by
 obtain ⟨_, A', c', e, h1, h2, h3⟩ := h
 injection e with e1 e2 e3
 subst e1
 obtain ⟨b, o, h4, _, _, h5⟩ := h3 (by omega)
 obtain ⟨q0, q1, q2, q3, q4⟩ := rrcells_at l k _ (Cf Bn hk)
 exact ⟨b, o, h4, h5 _ _ q0, by rw [Nat.add_assoc]; exact h5 _ _ q1, by rw [Nat.add_assoc]; exact h5 _ _ q2, by rw [Nat.add_assoc]; exact h5 _ _ q3, by rw [Nat.add_assoc]; exact h5 _ _ q4⟩
set_option maxHeartbeats 4000000 in
theorem lproblem_any {w0 w : World} {F : List A7} {K : (Nat -> Prop) -> World -> Prop} {v : Value} {p : AZ} {L : List (Nat × Nat)} (hl : p.links = some L) (hH : Hf L) (hlen : L.length <= 1000) (hB : Fits p) (hS : St w0 w F K) (kp : ∀ D w, K D w -> Bj w D v p) (kt : ∀ D w, K D w -> BD w /\ D 0) :
  Calls Tryz.prog 16 #[v] w fun e w' => ∃ u, e = .returned (.tuple #[u, .bool true]) /\ St w0 w' F fun D w => K D w /\ Bo w D u p := by
 obtain ⟨pr, lk, ps, rl, nl, gl⟩ := p
 dsimp only at hl
 subst hl
 obtain ⟨lv, rv, nv, gv, L', rfl, hl', h1, h2, h3, h4⟩ := kp _ _ hS.ro
 dsimp only at hl' h1 h2 h3 h4
 obtain rfl : L = L' := by injection hl'
 clear hl'
 obtain ⟨Al, cl, rfl, _, _⟩ := h1.shape
 obtain ⟨Ar, cr, rfl, _, _⟩ := h2.shape
 obtain ⟨An, cn, rfl, _, _⟩ := Sl.shape (h3 : Sl _ _ _ _ _ _)
 obtain ⟨Ag, cg, rfl, _, _⟩ := Sl.shape (h4 : Sl _ _ _ _ _ _)
 clear h1 h2 h3 h4
 have KSt := Lib.hid hS.stable
 have k1 : ∀ D w, K D w -> Sl w D 2 (.slice Al L.length cl) L.length (A6 L) := fun D w h => by
  obtain ⟨_, _, _, _, L', e, e2, h1, _, _, _⟩ := kp D w h
  injection e2 with e2; subst e2
  injection e with e; injection e with e; injection e with _ e; injection e with e1 _; subst e1; exact h1
 have k2 : ∀ D w, K D w -> Sl w D 5 (.slice Ar rl.length cr) rl.length (B5 rl) := fun D w h => by
  obtain ⟨_, _, _, _, L', e, e2, _, h1, _, _⟩ := kp D w h
  injection e with e; injection e with e; injection e with _ e; injection e with _ e; injection e with _ e; injection e with e1 _; subst e1; exact h1
 have k3 : ∀ D w, K D w -> BH w D (.slice An nl.length cn) nl := fun D w h => by
  obtain ⟨_, _, _, _, L', e, e2, _, _, h1, _⟩ := kp D w h
  injection e with e; injection e with e; injection e with _ e; injection e with _ e; injection e with _ e; injection e with _ e; injection e with e1 _; subst e1; exact h1
 have k4 : ∀ D w, K D w -> BH w D (.slice Ag gl.length cg) gl := fun D w h => by
  obtain ⟨_, _, _, _, L', e, e2, _, _, _, h1⟩ := kp D w h
  injection e with e; injection e with e; injection e with _ e; injection e with _ e; injection e with _ e; injection e with _ e; injection e with _ e; injection e with e1 _; subst e1; exact h1
 have HF := Lib.hid hB
 have HH := Lib.hid hH
 have hrl1 := HF.out.rlen
 clear hB hH kp
 dsimp only at hrl1
 go_enter Tryz.func16, Tryz.ntmps16
 go_wp2_with (first
  | ((with_reducible refine qA 1 ?_); refine AH hS rfl _ _ rfl (.agg #[.int .i64 pr, .slice Al L.length cl, .int .u64 (ps : Nat), .slice Ar rl.length cr, .slice An nl.length cn, .slice Ag gl.length cg]) _ rfl rfl ?_; clear hS; intro g1 w_ hS; (try simp only [Act.put, Act.eval, zz, Value.cells] at hS))
  | ((with_reducible refine qA 2 ?_); refine qa hS #[.int .i64 0, .pointer none, .slice none 0 0, .slice none 0 0, .slice none 0 0, .slice none 0 0] ?_; clear hS; intro g2 w_ hS))
 have hJ0 : GJ w0 (.box g2 43 #[.int .i64 0, .pointer none, .slice none 0 0, .slice none 0 0, .slice none 0 0, .slice none 0 0] :: .box g1 30 #[.int .i64 pr, .slice Al L.length cl, .int .u64 (ps : Nat), .slice Ar rl.length cr, .slice An nl.length cn, .slice Ag gl.length cg] :: F) 43 #[.int .i64 0, .pointer none, .slice none 0 0, .slice none 0 0, .slice none 0 0, .slice none 0 0] (w_.drew, ⟨none, K⟩) := hS.drew
 have hRr := @GR.refl w0 (.box g2 43 #[.int .i64 0, .pointer none, .slice none 0 0, .slice none 0 0, .slice none 0 0, .slice none 0 0] :: .box g1 30 #[.int .i64 pr, .slice Al L.length cl, .int .u64 (ps : Nat), .slice Ar rl.length cr, .slice An nl.length cn, .slice Ag gl.length cg] :: F) 43 #[.int .i64 0, .pointer none, .slice none 0 0, .slice none 0 0, .slice none 0 0, .slice none 0 0]
 have hRt := @GR.trans w0 (.box g2 43 #[.int .i64 0, .pointer none, .slice none 0 0, .slice none 0 0, .slice none 0 0, .slice none 0 0] :: .box g1 30 #[.int .i64 pr, .slice Al L.length cl, .int .u64 (ps : Nat), .slice Ar rl.length cr, .slice An nl.length cn, .slice Ag gl.length cg] :: F) 43 #[.int .i64 0, .pointer none, .slice none 0 0, .slice none 0 0, .slice none 0 0, .slice none 0 0]
 have hN0 := @GN.start 13 14 w_.drew K
 clear hS
 refine FC (GR w0 (.box g2 43 #[.int .i64 0, .pointer none, .slice none 0 0, .slice none 0 0, .slice none 0 0, .slice none 0 0] :: .box g1 30 #[.int .i64 pr, .slice Al L.length cl, .int .u64 (ps : Nat), .slice Ar rl.length cr, .slice An nl.length cn, .slice Ag gl.length cg] :: F) 43 #[.int .i64 0, .pointer none, .slice none 0 0, .slice none 0 0, .slice none 0 0, .slice none 0 0]) (GN 13 14) (⟨none, K⟩) hRr hRt [.q g1 0, .n pr, .s (fun v w => ∃ q, v = .pointer (some ⟨q, 0, none⟩) /\ ∀ D w1, w.2.K D w1 -> IsH w1 D (.pointer (some ⟨q, 0, none⟩)) []) fun v w w' h hb => by obtain ⟨q, e, h⟩ := h; exact ⟨q, e, fun D w1 h1 => h D w1 (hb.2.1 D w1 h1)⟩, .q g1 2, .i (.int .u64 (ps : Nat)), .s (fun v w => ∃ u, v = .agg #[u] /\ u.oneCell' = true /\ ∀ D w1, w.2.K D w1 -> A5 w1 D (.agg #[u]) ps) fun v w w' h hb => by obtain ⟨u, e, e2, h⟩ := h; exact ⟨u, e, e2, fun D w1 h1 => h D w1 (hb.2.1 D w1 h1)⟩, .q g1 4, .i (.slice An nl.length cn), .s (fun v w => (∃ A c, v = .slice A nl.length c) /\ ∀ D w1, w.2.K D w1 -> Af w1 D v nl) fun v w w' h hb => ⟨h.1, fun D w1 h1 => h.2 D w1 (hb.2.1 D w1 h1)⟩, .q g1 5, .i (.slice Ag gl.length cg), .s (fun v w => (∃ A c, v = .slice A gl.length c) /\ ∀ D w1, w.2.K D w1 -> Af w1 D v gl) fun v w w' h hb => ⟨h.1, fun D w1 h1 => h.2 D w1 (hb.2.1 D w1 h1)⟩, .s (fun v w => ∃ q u A c B d, v = .agg #[.int .i64 pr, .pointer (some ⟨q, 0, none⟩), u, .slice none 0 0, .slice A nl.length c, .slice B gl.length d] /\ u.oneCell' = true /\ ∀ D w1, w.2.K D w1 -> IsH w1 D (.pointer (some ⟨q, 0, none⟩)) [] /\ A5 w1 D (.agg #[u]) ps /\ Af w1 D (.slice A nl.length c) nl /\ Af w1 D (.slice B gl.length d) gl) fun v w w' h hb => by obtain ⟨q, u, A, c, B, d, e, e2, h⟩ := h; exact ⟨q, u, A, c, B, d, e, e2, fun D w1 h1 => h D w1 (hb.2.1 D w1 h1)⟩, .s (fun v w => ∃ g o, v = .pointer (some ⟨g, 0, none⟩) /\ w.2.b = some (g, o)) fun v w w' h hb => hb.var h, .s (fun v w => ∃ g q u A c B d, w.2.b = some (g, some #[.int .i64 pr, .pointer (some ⟨q, 0, none⟩), u, .slice none 0 0, .slice A nl.length c, .slice B gl.length d]) /\ ∀ D w1, w.2.K D w1 -> IsH w1 D (.pointer (some ⟨q, 0, none⟩)) [] /\ A5 w1 D (.agg #[u]) ps /\ Af w1 D (.slice A nl.length c) nl /\ Af w1 D (.slice B gl.length d) gl) fun v w w' h hb => by obtain ⟨g, q, u, A, c, B, d, e, h⟩ := h; exact ⟨g, q, u, A, c, B, d, hb.2.2.2 _ _ e, fun D w1 h1 => h D w1 (hb.2.1 D w1 h1)⟩] ?_ ⟨uF, uC (h := fun w hW hN => (hW.1 hJ0).cell 1 rfl 0 rfl), ?_, uF, uC (h := fun w hW hN => (hW.1 hJ0).cell 1 rfl 2 rfl), ?_, uF, uC (h := fun w hW hN => (hW.1 hJ0).cell 1 rfl 4 rfl), ?_, uF, uC (h := fun w hW hN => (hW.1 hJ0).cell 1 rfl 5 rfl), ?_, ?_, ?_, ?_, trivial⟩ ?_
 ·first | assumption | (intro i; (try dsimp only); split <;> first | trivial | assumption | (left; assumption))
 ·refine uG fun b__ w hW hN hE K hK => ?_
  refine CI rfl (by kernel_rfl) (by simp only [List.map_nil]) (hnew_any (hW.1 hJ0) fun D w1 h => kt D w1 (hW.2.1 D w1 h)) fun e w' ⟨p, he, hs⟩ => ⟨p, he, ?_⟩
  obtain ⟨q, o, rfl, -⟩ := id hs.ro.2
  exact hK _ (w', { w.2 with K := _ }) ⟨q, rfl, fun D w1 h => h.2⟩ (GK.more hs fun D w1 h => h.1)
 ·refine uG fun b__ w hW hN hE K hK => ?_
  have e15 := hE 15
  refine CI rfl (by kernel_rfl) (by simp only [List.map_cons, List.map_nil, e15]) (KA ps HF.out.start w.1) fun e w' ⟨x, he, hx, hb⟩ => ⟨x, he, ?_⟩
  obtain ⟨u, rfl, h1⟩ := Ht hx
  exact hK _ (w', { w.2 with K := _ }) ⟨u, rfl, h1, fun D w1 h => h.2⟩ (GK.more ((hW.1 hJ0).ret hb Ak hx) fun D w1 h => h.1)
 ·refine uG fun b__ w hW hN hE K hK => ?_
  have e18 := hE 18
  refine CI rfl (by kernel_rfl) (by simp only [List.map_cons, List.map_nil, e18]) (Jl _ nl w.1 _ (k3 _ _ (hW.2.1 _ _ (hW.1 hJ0).ro)) HF.out.never (by have := HF.out.nlen; dsimp only at this; omega)) fun e w' ⟨x, he, hx, hb⟩ => ⟨x, he, ?_⟩
  exact hK _ (w', { w.2 with K := _ }) ⟨Ex hx, fun D w1 h => h.2⟩ (GK.more ((hW.1 hJ0).ret hb B9 hx) fun D w1 h => h.1)
 ·refine uG fun b__ w hW hN hE K hK => ?_
  have e21 := hE 21
  refine CI rfl (by kernel_rfl) (by simp only [List.map_cons, List.map_nil, e21]) (Jl _ gl w.1 _ (k4 _ _ (hW.2.1 _ _ (hW.1 hJ0).ro)) HF.out.goal (by have := HF.out.glen; dsimp only at this; omega)) fun e w' ⟨x, he, hx, hb⟩ => ⟨x, he, ?_⟩
  exact hK _ (w', { w.2 with K := _ }) ⟨Ex hx, fun D w1 h => h.2⟩ (GK.more ((hW.1 hJ0).ret hb B9 hx) fun D w1 h => h.1)
 ·refine uG fun b__ w hW hN hE K hK => ?_
  have e12 := hE 12
  have e13 := hE 13
  have e16 := hE 16
  have e19 := hE 19
  have e22 := hE 22
  obtain ⟨q, hq, h1⟩ := e13
  obtain ⟨u, hu, hu1, h2⟩ := e16
  obtain ⟨⟨A, c, ha⟩, h3⟩ := e19
  obtain ⟨⟨B, d, hbb⟩, h4⟩ := e22
  rw [ha] at h3
  rw [hbb] at h4
  exact BP rfl (ps := [(0, .int .i64 pr), (1, .pointer (some ⟨q, 0, none⟩)), (2, .agg #[u]), (4, .slice A nl.length c), (5, .slice B gl.length d)]) (cells := #[.int .i64 pr, .pointer (some ⟨q, 0, none⟩), u, .slice none 0 0, .slice A nl.length c, .slice B gl.length d]) (by simp [e12, hq, hu, ha, hbb]) (by kernel_rfl) (hK _ _ ⟨q, u, A, c, B, d, rfl, hu1, fun D w1 h => ⟨h1 D w1 h, h2 D w1 h, h3 D w1 h, h4 D w1 h⟩⟩ ⟨hRr _, fun _ _ h => h⟩)
 ·refine uG fun b__ w hW hN hE K hK => ?_
  exact gk_alloc rfl (by kernel_rfl) (by kernel_rfl) (hW.1 hJ0) (hN.1 rfl) fun g w' hs => hK _ (w', { w.2 with b := some (g, none) }) ⟨g, none, rfl, rfl⟩ (GK.made (hN.1 rfl) hs)
 ·refine uG fun b__ w hW hN hE K hK => ?_
  have e4 := hE 4
  have e23 := hE 23
  obtain ⟨g, o, hg, hgb⟩ := e4
  obtain ⟨q, u, A, c, B, d, hv, hu1, h1⟩ := e23
  obtain rfl : o = none := (by cases o with | none => rfl | some cs => exact absurd hgb (hN.2 rfl g cs))
  exact gk_store rfl hg hv (hW.1 hJ0) hgb (by kernel_rfl) rfl (by simpa [Value.oneCell'] using hu1) fun w' hs => hK undef (w', { w.2 with b := some (g, some #[.int .i64 pr, .pointer (some ⟨q, 0, none⟩), u, .slice none 0 0, .slice A nl.length c, .slice B gl.length d]) }) ⟨g, q, u, A, c, B, d, rfl, h1⟩ (GK.put hgb hs)
 ·intro vs wz hW hT
  obtain ⟨e11, e12, e13, e14, e15, e16, e17, e18, e19, e20, e21, e22, e23, e4, z14, -⟩ := hT
  have bx : (fun _ : Nat => True) 0 := trivial
  simp only [AV, Act.put, zz, ze]
  obtain ⟨_, g4, q, u, A4, c4, B4, d4, hb4, hK4⟩ := z14
  obtain ⟨g, o, hg, hgb⟩ := e4
  obtain rfl : g = g4 := by rw [hb4] at hgb; injection hgb with h; injection h with h _; exact h.symm
  have hS : St w0 wz.1 (.box g 43 #[.int .i64 pr, .pointer (some ⟨q, 0, none⟩), u, .slice none 0 0, .slice A4 nl.length c4, .slice B4 gl.length d4] :: .box g2 43 #[.int .i64 0, .pointer none, .slice none 0 0, .slice none 0 0, .slice none 0 0, .slice none 0 0] :: .box g1 30 #[.int .i64 pr, .slice Al L.length cl, .int .u64 (ps : Nat), .slice Ar rl.length cr, .slice An nl.length cn, .slice Ag gl.length cg] :: F) wz.2.K := (hW.1 hJ0).some hb4
  obtain ⟨K4, wf, k0, kq, kc, hwf, hS2⟩ : ∃ (K4 : (Nat -> Prop) -> World -> Prop) (wf : World), (∀ D w, K4 D w -> K D w) /\ (∀ D w1, K4 D w1 -> IsH w1 D (.pointer (some ⟨q, 0, none⟩)) []) /\ Hid (∀ D w1, K4 D w1 -> A5 w1 D (.agg #[u]) ps /\ Af w1 D (.slice A4 nl.length c4) nl /\ Af w1 D (.slice B4 gl.length d4) gl) /\ wz.1 = wf /\ St w0 wf (.box g 43 #[.int .i64 pr, .pointer (some ⟨q, 0, none⟩), u, .slice none 0 0, .slice A4 nl.length c4, .slice B4 gl.length d4] :: .box g2 43 #[.int .i64 0, .pointer none, .slice none 0 0, .slice none 0 0, .slice none 0 0, .slice none 0 0] :: .box g1 30 #[.int .i64 pr, .slice Al L.length cl, .int .u64 (ps : Nat), .slice Ar rl.length cr, .slice An nl.length cn, .slice Ag gl.length cg] :: F) K4 := ⟨_, _, hW.2.1, fun D w1 h => (hK4 D w1 h).1, Lib.hid fun D w1 h => (hK4 D w1 h).2, rfl, hS⟩
  rw [hwf]
  simp only [show vs (4 : Nat) = _ from hg]
  clear hS hW hJ0 hRr hRt hN0 e11 e12 e13 e14 e15 e16 e17 e18 e19 e20 e21 e22 e23 hb4 hgb hK4 hg hwf
  have hS := hS2
  clear hS2
  generalize vs 11 = s11, vs 12 = s12, vs 13 = s13, vs 14 = s14, vs 15 = s15, vs 16 = s16, vs 17 = s17, vs 18 = s18, vs 19 = s19, vs 20 = s20, vs 21 = s21, vs 22 = s22, vs 23 = s23
  obtain ⟨Au, cu, lu, hvu, -⟩ := (kc.out _ _ hS.ro).1.parts
  obtain rfl : u = .slice Au lu.length cu := by injection hvu with hvu; simpa using hvu
  clear hvu
  generalize lu.length = nu at *
  have KS4 := Lib.hid hS.stable
  go_wp2_with (first | ((with_reducible refine qK ?_); refine qC hS ?_))
  have HNX : Hid (∀ (j : Nat) (x : Nat × Nat) (L' : List (Nat × Nat)), L[j]? = some x -> Part L j L' -> ∀ (F : List A7) (K : (Nat -> Prop) -> World -> Prop) (w : World) (r : Value) (z : Int), LinkP w0 F K L' (x.1 : Nat) (x.2 : Nat) r z w -> z = 0 /\ ∃ L'', Part L (j + 1) L'' /\ St w0 w F fun D w => K D w /\ IsH w D r L'') := Lib.hid fun j x L' hx hP F K w r z h => by
   obtain ⟨h1, L'', h2, h3, h4⟩ := h.next hx hP.2 HH.out.asc.nodup HH.out.role HH.out.acyc
   exact ⟨h1, L'', ⟨h2, h3⟩, h4⟩
  have HLF : Hid (∀ L', Part L L.length L' -> L' = L) := Lib.hid fun L' h => h.full HH.out.asc
  have hP0 : Part L 0 [] := ⟨Hf.nil, by simp⟩
  have k1' : ∀ D w, K4 D w -> Sl w D 2 (.slice Al L.length cl) L.length (A6 L) := fun D w h => k1 D w (k0 D w h)
  go_loopw [27] (fun i wr => ∃ (j q' : Nat) (L' : List (Nat × Nat)), i = .int .i64 (j : Nat) /\ j <= L.length /\ Hid (Part L j L') /\ St w0 wr (.box g 43 #[.int .i64 pr, .pointer (some ⟨q', 0, none⟩), .slice Au nu cu, .slice none 0 0, .slice A4 nl.length c4, .slice B4 gl.length d4] :: .box g2 43 #[.int .i64 0, .pointer none, .slice none 0 0, .slice none 0 0, .slice none 0 0, .slice none 0 0] :: .box g1 30 #[.int .i64 pr, .slice Al L.length cl, .int .u64 (ps : Nat), .slice Ar rl.length cr, .slice An nl.length cn, .slice Ag gl.length cg] :: F) fun D w => K4 D w /\ IsH w D (.pointer (some ⟨q', 0, none⟩)) L') (fun i _ => L.length - (intOf i).toNat)
  case atStart => exact ⟨0, q, [], rfl, by omega, Lib.hid hP0, hS.mono (KS4.out.and Du) fun D w h => ⟨h, kq D w h⟩⟩
  case round =>
   clear hS hP0
   obtain ⟨j, q', L', rfl, hj, HP, hS⟩ := hrel
   by_cases hlj : j < L.length
   ·obtain ⟨f1, f2⟩ := Bk L j hlj
    have HNY := Lib.hid (HNX.out j _ L' (Cf (0, 0) hlj) HP.out)
    have HLL : Hid (L'.length <= 900000) := Lib.hid (by have := HP.out.len; omega)
    generalize L.getD j (0, 0) = z at *
    obtain ⟨za, zb⟩ := z
    dsimp only at f1 f2 HNY
    have kp2 : ∀ D w, (K4 D w /\ IsH w D (.pointer (some ⟨q', 0, none⟩)) L') -> Sl w D 2 (.slice Al L.length cl) L.length (A6 L) := fun D w h => k1' D w h.1
    go_wp2_with (first
     | ((with_reducible refine qB ?_); refine qc ?_ ?_ <;> intro h_ <;> go_prune)
     | ((with_reducible refine qI ?_); refine qj hS Tryz.underlying25 ?_; intro b_ j_ hc0_ hc1_)
     | ((with_reducible refine qA 6 ?_); refine AY hS rfl _ rfl (by kernel_rfl) ?_; clear hS; intro g6 w_ hS; (try simp only [Act.put, Act.eval, zz, Value.cells] at hS))
     | (go_at_call 60; refine (hlink_any (.pointer (some ⟨q', 0, none⟩)) L' (za : Nat) (zb : Nat) HP.out.1 HLL.out hS (fun D w h => h.2) (fun D w h => kt D w (k0 D w h.1))).mono ?_; clear hS; rintro e w_ ⟨r, z, rfl, hP⟩; obtain ⟨rfl, L'', hP2, hS⟩ := HNY.out _ _ _ _ _ hP; replace hP2 := Lib.hid hP2; clear hP; obtain ⟨q2, _, rfl, -⟩ := id hS.ro.2)
     | ((with_reducible refine qM ?_); (first | refine qS hS ?_ | refine qT hS ?_); clear hS; intro w_ hS; (try simp only [Act.put, Act.eval, zz, Value.cells] at hS))
     | ((with_reducible refine qK ?_); refine qC hS ?_))
    exact ⟨⟨j + 1, q2, L'', by go_num, hlj, hP2, (hS.sub (List.sublist_cons_self _ _)).mono (KS4.out.and Du) fun D w h => ⟨h.1.1, h.2⟩⟩, by simp [intOf]; omega⟩
   ·obtain rfl : L.length = j := by omega
    rw [HLF.out _ HP.out] at hS
    clear HP HNX HLF
    go_wp2_with (first | ((with_reducible refine qB ?_); refine qc ?_ ?_ <;> intro h_ <;> go_prune) | ((with_reducible refine qK ?_); refine qC hS ?_))
    obtain ⟨K5, k5, kh, hS2⟩ : ∃ K5 : (Nat -> Prop) -> World -> Prop, (∀ D w, K5 D w -> K4 D w) /\ Hid (∀ D w, K5 D w -> IsH w D (.pointer (some ⟨q', 0, none⟩)) L) /\ St w0 wr (.box g 43 #[.int .i64 pr, .pointer (some ⟨q', 0, none⟩), .slice Au nu cu, .slice none 0 0, .slice A4 nl.length c4, .slice B4 gl.length d4] :: .box g2 43 #[.int .i64 0, .pointer none, .slice none 0 0, .slice none 0 0, .slice none 0 0, .slice none 0 0] :: .box g1 30 #[.int .i64 pr, .slice Al L.length cl, .int .u64 (ps : Nat), .slice Ar rl.length cr, .slice An nl.length cn, .slice Ag gl.length cg] :: F) K5 := ⟨_, fun _ _ h => h.1, Lib.hid fun _ _ h => h.2, hS⟩
    clear hS
    have hS := hS2.nil 84 5
    clear hS2
    have KS5 := Lib.hid hS.stable
    have kr : ∀ D w, K5 D w -> Sl w D 5 (.slice Ar rl.length cr) rl.length (B5 rl) := fun D w h => k2 D w (k0 D w (k5 D w h))
    go_loopw [50] (fun i wr => ∃ (j : Nat) (rv : Value) (xs : List Value), i = .int .i64 (j : Nat) /\ j <= rl.length /\ St w0 wr (.own rv 84 5 j xs :: .box g 43 #[.int .i64 pr, .pointer (some ⟨q', 0, none⟩), .slice Au nu cu, rv, .slice A4 nl.length c4, .slice B4 gl.length d4] :: .box g2 43 #[.int .i64 0, .pointer none, .slice none 0 0, .slice none 0 0, .slice none 0 0, .slice none 0 0] :: .box g1 30 #[.int .i64 pr, .slice Al L.length cl, .int .u64 (ps : Nat), .slice Ar rl.length cr, .slice An nl.length cn, .slice Ag gl.length cg] :: F) fun D w => K5 D w /\ C1 w D xs (rl.take j)) (fun i _ => rl.length - (intOf i).toNat)
    case atStart => exact ⟨0, _, [], rfl, by omega, hS.mono (KS5.out.and ED) fun D w h => ⟨h, fun i z hi => by simp at hi⟩⟩
    case round =>
     clear hS
     obtain ⟨j, rv, xs, rfl, hj2, hS⟩ := hrel
     obtain ⟨Arv, crv, rfl, _, _⟩ := C7 (hS.own 0 rfl)
     by_cases hlj : j < rl.length
     ·obtain ⟨bk, o, rfl, c0, c1, c2, c3, c4'⟩ := rr_at (kr _ _ hS.ro.1) hlj
      have HT : Hid (rl.take (j + 1) = rl.take j ++ [rl.getD j Bn]) := Lib.hid (EL rl j Bn hlj)
      have HZ : Hid ((rl.getD j Bn).yes < AE /\ (rl.getD j Bn).no < AE) := Lib.hid (HF.out.rules _ (by rw [List.getD_eq_getElem?_getD, List.getElem?_eq_getElem hlj]; exact List.getElem_mem hlj))
      have HLT : Hid ((rl.take j).length = j) := Lib.hid (by rw [List.length_take]; omega)
      generalize rl.getD j Bn = z at *
      obtain ⟨zr, zy, zn, zt, zo⟩ := z
      dsimp only at c0 c1 c2 c3 c4' HZ
      go_wp2_with (first
       | ((with_reducible refine qB ?_); refine qc ?_ ?_ <;> intro h_ <;> go_prune)
       | ((with_reducible refine qA 53 ?_); refine BigFrame.wpList_want rfl fun _ hK => Be (cs := [.bool zr, .int .u64 (zy : Nat), .int .u64 (zn : Nat), .int .i64 zt, .int .i64 zo]) rfl rfl (Ke c0 c1 c2 c3 c4') Tryz.underlying109 rfl (by kernel_rfl) (hK _ _ ?_))
       | ((with_reducible refine qA 10 ?_); refine qa hS #[.bool false, .int .u64 0, .int .u64 0, .int .i64 0, .int .i64 0] ?_; clear hS; intro g10 w_ hS)
       | ((with_reducible refine qM ?_); (first | refine qS hS ?_ | refine qT hS ?_); clear hS; intro w_ hS; (try simp only [Act.put, Act.eval, zz, Value.cells] at hS)))
      obtain ⟨K6, k6, hS2⟩ : ∃ K6 : (Nat -> Prop) -> World -> Prop, Hid (∀ D w, K6 D w -> K5 D w /\ C1 w D xs (rl.take j)) /\ St w0 w_ (.box g10 109 #[.bool zr, .int .u64 (zy : Nat), .int .u64 (zn : Nat), .int .i64 zt, .int .i64 zo] :: .own (.slice Arv j crv) 84 5 j xs :: .box g 43 #[.int .i64 pr, .pointer (some ⟨q', 0, none⟩), .slice Au nu cu, .slice Arv j crv, .slice A4 nl.length c4, .slice B4 gl.length d4] :: .box g2 43 #[.int .i64 0, .pointer none, .slice none 0 0, .slice none 0 0, .slice none 0 0, .slice none 0 0] :: .box g1 30 #[.int .i64 pr, .slice Al L.length cl, .int .u64 (ps : Nat), .slice (some ⟨bk, o, none⟩) rl.length cr, .slice An nl.length cn, .slice Ag gl.length cg] :: F) K6 := ⟨_, Lib.hid fun _ _ h => h, hS⟩
      clear hS
      have hS := hS2
      clear hS2
      have KS6 := Lib.hid hS.stable
      have h0d := hS.drew
      refine wp_zS [6, 11, 12, 13, 15] [some (.pointer (some ⟨g, 3, none⟩)), some (.slice Arv j crv), some (.pointer (some ⟨g10, 0, none⟩)), some (.bool zr), some (.pointer (some ⟨g10, 1, none⟩)), some (.agg #[.int .u64 (zy : Nat), .int .u64 (zn : Nat)]), none, some (.pointer (some ⟨g10, 3, none⟩)), some (.int .i64 zt), some (.pointer (some ⟨g10, 4, none⟩)), some (.int .i64 zo), none, none, none, some (.pointer (some ⟨g, 3, none⟩)), none] (fun vs w => match vs with | [] => St w0 w (.box g10 109 #[.bool zr, .int .u64 (zy : Nat), .int .u64 (zn : Nat), .int .i64 zt, .int .i64 zo] :: .own (.slice Arv j crv) 84 5 j xs :: .box g 43 #[.int .i64 pr, .pointer (some ⟨q', 0, none⟩), .slice Au nu cu, .slice Arv j crv, .slice A4 nl.length c4, .slice B4 gl.length d4] :: .box g2 43 #[.int .i64 0, .pointer none, .slice none 0 0, .slice none 0 0, .slice none 0 0, .slice none 0 0] :: .box g1 30 #[.int .i64 pr, .slice Al L.length cl, .int .u64 (ps : Nat), .slice (some ⟨bk, o, none⟩) rl.length cr, .slice An nl.length cn, .slice Ag gl.length cg] :: F) K6 | [z] => ∃ a b : Value, z = .agg #[a, b] /\ St w0 w (.box g10 109 #[.bool zr, .int .u64 (zy : Nat), .int .u64 (zn : Nat), .int .i64 zt, .int .i64 zo] :: .own (.slice Arv j crv) 84 5 j xs :: .box g 43 #[.int .i64 pr, .pointer (some ⟨q', 0, none⟩), .slice Au nu cu, .slice Arv j crv, .slice A4 nl.length c4, .slice B4 gl.length d4] :: .box g2 43 #[.int .i64 0, .pointer none, .slice none 0 0, .slice none 0 0, .slice none 0 0, .slice none 0 0] :: .box g1 30 #[.int .i64 pr, .slice Al L.length cl, .int .u64 (ps : Nat), .slice (some ⟨bk, o, none⟩) rl.length cr, .slice An nl.length cn, .slice Ag gl.length cg] :: F) (fun D w => K6 D w /\ Bx w D (.agg #[a, b]) (zy, zn)) | [_, z] => ∃ a b : Value, z = .agg #[.bool zr, a, b, .int .i64 zt, .int .i64 zo] /\ St w0 w (.box g10 109 #[.bool zr, .int .u64 (zy : Nat), .int .u64 (zn : Nat), .int .i64 zt, .int .i64 zo] :: .own (.slice Arv j crv) 84 5 j xs :: .box g 43 #[.int .i64 pr, .pointer (some ⟨q', 0, none⟩), .slice Au nu cu, .slice Arv j crv, .slice A4 nl.length c4, .slice B4 gl.length d4] :: .box g2 43 #[.int .i64 0, .pointer none, .slice none 0 0, .slice none 0 0, .slice none 0 0, .slice none 0 0] :: .box g1 30 #[.int .i64 pr, .slice Al L.length cl, .int .u64 (ps : Nat), .slice (some ⟨bk, o, none⟩) rl.length cr, .slice An nl.length cn, .slice Ag gl.length cg] :: F) (fun D w => K6 D w /\ Bx w D (.agg #[a, b]) (zy, zn)) | [_, _, z] => ∃ a b : Value, St w0 w (.box g10 109 #[.bool zr, .int .u64 (zy : Nat), .int .u64 (zn : Nat), .int .i64 zt, .int .i64 zo] :: .own (.slice Arv j crv) 84 5 j xs :: .box g 43 #[.int .i64 pr, .pointer (some ⟨q', 0, none⟩), .slice Au nu cu, .slice Arv j crv, .slice A4 nl.length c4, .slice B4 gl.length d4] :: .box g2 43 #[.int .i64 0, .pointer none, .slice none 0 0, .slice none 0 0, .slice none 0 0, .slice none 0 0] :: .box g1 30 #[.int .i64 pr, .slice Al L.length cl, .int .u64 (ps : Nat), .slice (some ⟨bk, o, none⟩) rl.length cr, .slice An nl.length cn, .slice Ag gl.length cg] :: F) (fun D w => (K6 D w /\ Bx w D (.agg #[a, b]) (zy, zn)) /\ Sl w D 5 z 1 [.bool zr, a, b, .int .i64 zt, .int .i64 zo]) | [_, _, _, p'] => ∃ a b : Value, St w0 w (.box g10 109 #[.bool zr, .int .u64 (zy : Nat), .int .u64 (zn : Nat), .int .i64 zt, .int .i64 zo] :: .own p' 84 5 (j + 1) (xs ++ [.bool zr, a, b, .int .i64 zt, .int .i64 zo]) :: .box g 43 #[.int .i64 pr, .pointer (some ⟨q', 0, none⟩), .slice Au nu cu, .slice Arv j crv, .slice A4 nl.length c4, .slice B4 gl.length d4] :: .box g2 43 #[.int .i64 0, .pointer none, .slice none 0 0, .slice none 0 0, .slice none 0 0, .slice none 0 0] :: .box g1 30 #[.int .i64 pr, .slice Al L.length cl, .int .u64 (ps : Nat), .slice (some ⟨bk, o, none⟩) rl.length cr, .slice An nl.length cn, .slice Ag gl.length cg] :: F) (fun D w => K6 D w /\ Bx w D (.agg #[a, b]) (zy, zn)) | [_, _, _, p', _] => ∃ a b : Value, St w0 w (.box g10 109 #[.bool zr, .int .u64 (zy : Nat), .int .u64 (zn : Nat), .int .i64 zt, .int .i64 zo] :: .own p' 84 5 (j + 1) (xs ++ [.bool zr, a, b, .int .i64 zt, .int .i64 zo]) :: .box g 43 #[.int .i64 pr, .pointer (some ⟨q', 0, none⟩), .slice Au nu cu, p', .slice A4 nl.length c4, .slice B4 gl.length d4] :: .box g2 43 #[.int .i64 0, .pointer none, .slice none 0 0, .slice none 0 0, .slice none 0 0, .slice none 0 0] :: .box g1 30 #[.int .i64 pr, .slice Al L.length cl, .int .u64 (ps : Nat), .slice (some ⟨bk, o, none⟩) rl.length cr, .slice An nl.length cn, .slice Ag gl.length cg] :: F) (fun D w => K6 D w /\ Bx w D (.agg #[a, b]) (zy, zn)) | _ => False) ?_ ⟨vF, ?_, vF, ?_, vF, ?_, ?_, vF, ?_, vF, ?_, ?_, ?_, ?_, vF, ?_, trivial⟩ ?_
      ·first | assumption | (dsimp only; assumption)
      ·refine vR 0 3 fun b__ w vs hS h1 h2 hE K hK => ?_
       rcases vs with _ | ⟨x0, _ | ⟨x1, _ | ⟨x2, _ | ⟨x3, vs⟩⟩⟩⟩ <;> first | (exfalso; first | exact hS | (revert h1 h2; simp <;> omega); done) | ((have e54 := hE 54); (first | exact Ao rfl e54 (by kernel_rfl) (hS.shut 2 rfl 3 rfl) (hK _ rfl) | (obtain ⟨_, _, hS⟩ := hS; exact Ao rfl e54 (by kernel_rfl) (hS.shut 2 rfl 3 rfl) (hK _ rfl)) | (obtain ⟨_, _, _, hS⟩ := hS; exact Ao rfl e54 (by kernel_rfl) (hS.shut 2 rfl 3 rfl) (hK _ rfl))))
      ·refine vR 0 1 fun b__ w vs hS h1 h2 hE K hK => ?_
       rcases vs with _ | ⟨x0, _ | ⟨x1, vs⟩⟩ <;> first | (exfalso; first | exact hS | (revert h1 h2; simp <;> omega); done) | ((have e56 := hE 56); (first | exact Ao rfl e56 (by kernel_rfl) (hS.shut 0 rfl 0 rfl) (hK _ rfl) | (obtain ⟨_, _, _, hS⟩ := hS; exact Ao rfl e56 (by kernel_rfl) (hS.shut 0 rfl 0 rfl) (hK _ rfl))))
      ·refine vR 0 0 fun b__ w vs hS h1 h2 hE K hK => ?_
       rcases vs with _ | ⟨x0, vs⟩ <;> first | (exfalso; first | exact hS | (revert h1 h2; simp <;> omega); done) | ((have e58 := hE 58); (exact Be (cs := [.int .u64 (zy : Nat), .int .u64 (zn : Nat)]) rfl e58 (rng2 (hS.shut 0 rfl 1 rfl) (hS.shut 0 rfl 2 rfl)) Tryz.underlying50 rfl (by kernel_rfl) (hK _ rfl)))
      ·refine vX 0 fun b__ w vs hS hl hE K hK => ?_
       obtain rfl := vs_len0 hl
       have e59 := hE 59
       refine CI rfl (by kernel_rfl) (by simp only [List.map_cons, List.map_nil, e59]) (IV zy zn HZ.out.1 HZ.out.2 _) fun e w' ⟨z, he, hx, hb_⟩ => ⟨z, he, ?_⟩
       obtain ⟨a, b, rfl, -, -⟩ := id hx
       exact hK _ w' ⟨a, b, rfl, hS.ret hb_ CW hx⟩
      ·refine vR 0 1 fun b__ w vs hS h1 h2 hE K hK => ?_
       rcases vs with _ | ⟨x0, _ | ⟨x1, vs⟩⟩ <;> first | (exfalso; first | exact hS | (revert h1 h2; simp <;> omega); done) | ((have e61 := hE 61); (first | exact Ao rfl e61 (by kernel_rfl) (hS.shut 0 rfl 3 rfl) (hK _ rfl) | (obtain ⟨_, _, _, hS⟩ := hS; exact Ao rfl e61 (by kernel_rfl) (hS.shut 0 rfl 3 rfl) (hK _ rfl))))
      ·refine vR 0 1 fun b__ w vs hS h1 h2 hE K hK => ?_
       rcases vs with _ | ⟨x0, _ | ⟨x1, vs⟩⟩ <;> first | (exfalso; first | exact hS | (revert h1 h2; simp <;> omega); done) | ((have e63 := hE 63); (first | exact Ao rfl e63 (by kernel_rfl) (hS.shut 0 rfl 4 rfl) (hK _ rfl) | (obtain ⟨_, _, _, hS⟩ := hS; exact Ao rfl e63 (by kernel_rfl) (hS.shut 0 rfl 4 rfl) (hK _ rfl))))
      ·refine vX 1 fun b__ w vs hS hl hE K hK => ?_
       obtain ⟨x0, rfl⟩ := JD hl
       have e57 := hE 57
       have e60 := hE 60
       have e62 := hE 62
       have e64 := hE 64
       obtain ⟨a, b, rfl, hS⟩ := hS
       exact BP rfl (ps := [(0, .bool zr), (1, .agg #[a, b]), (2, .int .i64 zt), (3, .int .i64 zo)]) (cells := #[.bool zr, a, b, .int .i64 zt, .int .i64 zo]) (by simp [e57, e60, e62, e64]) (by kernel_rfl) (hK _ _ ⟨a, b, rfl, hS⟩)
      ·refine vX 2 fun b__ w vs hS hl hE K hK => ?_
       obtain ⟨x0, x1, rfl⟩ := JC hl
       have e65 := hE 65
       obtain ⟨a, b, rfl, hS⟩ := hS
       refine Dk (ps := [(0, .agg #[.bool zr, a, b, .int .i64 zt, .int .i64 zo])]) (cells := #[.bool zr, a, b, .int .i64 zt, .int .i64 zo]) rfl Tryz.underlying40 (by simp [e65]) (by kernel_rfl) ?_
       intro w' hbx hbel
       exact hK _ w' ⟨a, b, hS.ret hbel (Aj (by decide)) (⟨by simp, _, 1, rfl, by omega, by unfold maxLen; omega, fun _ => ⟨w.heap.size, 0, rfl, Nat.le_refl _, hbx.lt, fun j x hj => by rw [Nat.zero_add]; exact (hbx.cell j).trans (by simpa using hj)⟩⟩ : Sl w' (w.heap.size <= ·) 5 (.slice (some ⟨w.heap.size, 0, none⟩) 1 1) 1 [.bool zr, a, b, .int .i64 zt, .int .i64 zo])⟩
      ·refine vX 3 fun b__ w vs hS hl hE K hK => ?_
       obtain ⟨x0, x1, x2, rfl⟩ := JB hl
       have e55 := hE 55
       have e66 := hE 66
       obtain ⟨a, b, h3⟩ := hS
       refine Fg rfl ty_rules e55 (h3.own 1 rfl) e66 h3.ro.2 (by obtain ⟨_, _, he, hy, hn⟩ := h3.ro.1.2; injection he with he; injection he with he; injection he with e1 he; injection he with e2 he; subst e1 e2; obtain ⟨A8, m8, c8, rfl⟩ := hy.shape; obtain ⟨B8, k8, d8, rfl⟩ := hn.shape; intro u hu; simp at hu; rcases hu with rfl | rfl | rfl | rfl | rfl <;> rfl) (by omega) (by omega) h3.size ?_
       intro v' w' ho hg hat
       exact hK v' w' ⟨a, b, (h3.upd 1 rfl (.own v' 84 5 (j + 1) (xs ++ [.bool zr, a, b, .int .i64 zt, .int .i64 zo])) hg ho hat).mono (KS6.out.and CW) fun D w h => h.1⟩
      ·refine vX 4 fun b__ w vs hS hl hE K hK => ?_
       obtain ⟨x0, x1, x2, x3, rfl⟩ := vs_len4 hl
       have e68 := hE 68
       have e67 := hE 67
       obtain ⟨a, b, h3⟩ := hS
       refine Ff rfl e68 e67 (h3.box 2 rfl) (by simp) (own_cells (h3.own 1 rfl)) (own_one (h3.own 1 rfl)) (by kernel_rfl) ?_
       intro w' hbx hup
       exact hK _ w' ⟨a, b, h3.upd 2 rfl (.box g 43 #[.int .i64 pr, .pointer (some ⟨q', 0, none⟩), .slice Au nu cu, x3, .slice A4 nl.length c4, .slice B4 gl.length d4]) (BE hup) ⟨(h3.holds _ (List.mem_of_getElem? (i := 2) rfl)).1, hbx⟩ fun _ e => .inl e⟩
      ·intro us wz vs hS hl hT
       obtain ⟨x0, x1, x2, x3, x4, rfl⟩ := vs_len5 hl
       obtain ⟨e54, e55, e56, e57, e58, e59, e60, e61, e62, e63, e64, e65, e66, e67, e68, -⟩ := hT
       clear hl
       simp only [AV, Act.put, zz, ze]
       obtain ⟨a, b, hS⟩ := hS
       clear h0d
       go_wp2_with fail
       have hxl := HLT.out
       refine ⟨⟨j + 1, _, xs ++ [.bool zr, a, b, .int .i64 zt, .int .i64 zo], by go_num, hlj, (hS.sub (List.sublist_cons_self _ _)).mono (KS5.out.and ED) fun D w h => ⟨(k6.out _ _ h.1).1, ?_⟩⟩, by simp [intOf]; omega⟩
       rw [HT.out]
       have hz := (hS.own 1 rfl).1
       exact C1.append (by simp at hz; omega) (k6.out _ _ h.1).2 (C1.single (z := ⟨zr, zy, zn, zt, zo⟩) (Gn h.2).1 (Gn h.2).2)
     ·obtain rfl : rl.length = j := by omega
      rw [List.take_length] at hS
      go_wp2_with (first | ((with_reducible refine qB ?_); refine qc ?_ ?_ <;> intro h_ <;> go_prune))
      obtain ⟨K7, k7, ks7, hS2⟩ : ∃ K7 : (Nat -> Prop) -> World -> Prop, Hid (∀ D w, K7 D w -> (K5 D w /\ C1 w D xs rl) /\ Sl w D 5 (.slice Arv rl.length crv) rl.length xs) /\ AF K7 /\ St w0 wr (.box g 43 #[.int .i64 pr, .pointer (some ⟨q', 0, none⟩), .slice Au nu cu, .slice Arv rl.length crv, .slice A4 nl.length c4, .slice B4 gl.length d4] :: .box g2 43 #[.int .i64 0, .pointer none, .slice none 0 0, .slice none 0 0, .slice none 0 0, .slice none 0 0] :: .box g1 30 #[.int .i64 pr, .slice Al L.length cl, .int .u64 (ps : Nat), .slice Ar rl.length cr, .slice An nl.length cn, .slice Ag gl.length cg] :: F) K7 := ⟨_, Lib.hid fun _ _ h => h, (hS.freeze 0 (by decide) rfl).stable, hS.freeze 0 (by decide) rfl⟩
      clear hS
      have hS := hS2
      clear hS2
      have hJ0 : St w0 wr.drew (.box g 43 #[.int .i64 pr, .pointer (some ⟨q', 0, none⟩), .slice Au nu cu, .slice Arv rl.length crv, .slice A4 nl.length c4, .slice B4 gl.length d4] :: .box g2 43 (cond (false, false).1 #[.int .i64 pr, .pointer (some ⟨q', 0, none⟩), .slice Au nu cu, .slice Arv rl.length crv, .slice A4 nl.length c4, .slice B4 gl.length d4] #[.int .i64 0, .pointer none, .slice none 0 0, .slice none 0 0, .slice none 0 0, .slice none 0 0]) :: .box g1 30 #[.int .i64 pr, .slice Al L.length cl, .int .u64 (ps : Nat), .slice Ar rl.length cr, .slice An nl.length cn, .slice Ag gl.length cg] :: F) K7 := hS.drew
      have hRr := @SR.refl w0 (fun s => .box g 43 #[.int .i64 pr, .pointer (some ⟨q', 0, none⟩), .slice Au nu cu, .slice Arv rl.length crv, .slice A4 nl.length c4, .slice B4 gl.length d4] :: .box g2 43 (cond s.1 #[.int .i64 pr, .pointer (some ⟨q', 0, none⟩), .slice Au nu cu, .slice Arv rl.length crv, .slice A4 nl.length c4, .slice B4 gl.length d4] #[.int .i64 0, .pointer none, .slice none 0 0, .slice none 0 0, .slice none 0 0, .slice none 0 0]) :: .box g1 30 #[.int .i64 pr, .slice Al L.length cl, .int .u64 (ps : Nat), .slice Ar rl.length cr, .slice An nl.length cn, .slice Ag gl.length cg] :: F) K7
      have hRt := @SR.trans w0 (fun s => .box g 43 #[.int .i64 pr, .pointer (some ⟨q', 0, none⟩), .slice Au nu cu, .slice Arv rl.length crv, .slice A4 nl.length c4, .slice B4 gl.length d4] :: .box g2 43 (cond s.1 #[.int .i64 pr, .pointer (some ⟨q', 0, none⟩), .slice Au nu cu, .slice Arv rl.length crv, .slice A4 nl.length c4, .slice B4 gl.length d4] #[.int .i64 0, .pointer none, .slice none 0 0, .slice none 0 0, .slice none 0 0, .slice none 0 0]) :: .box g1 30 #[.int .i64 pr, .slice Al L.length cl, .int .u64 (ps : Nat), .slice Ar rl.length cr, .slice An nl.length cn, .slice Ag gl.length cg] :: F) K7
      have hN0 : ∀ _ : Nat, True := fun _ => trivial
      clear hS
      refine FC (SR w0 (fun s => .box g 43 #[.int .i64 pr, .pointer (some ⟨q', 0, none⟩), .slice Au nu cu, .slice Arv rl.length crv, .slice A4 nl.length c4, .slice B4 gl.length d4] :: .box g2 43 (cond s.1 #[.int .i64 pr, .pointer (some ⟨q', 0, none⟩), .slice Au nu cu, .slice Arv rl.length crv, .slice A4 nl.length c4, .slice B4 gl.length d4] #[.int .i64 0, .pointer none, .slice none 0 0, .slice none 0 0, .slice none 0 0, .slice none 0 0]) :: .box g1 30 #[.int .i64 pr, .slice Al L.length cl, .int .u64 (ps : Nat), .slice Ar rl.length cr, .slice An nl.length cn, .slice Ag gl.length cg] :: F) K7) (fun _ _ => True) ((false, false)) hRr hRt [.i (.agg #[.int .i64 pr, .pointer (some ⟨q', 0, none⟩), .slice Au nu cu, .slice Arv rl.length crv, .slice A4 nl.length c4, .slice B4 gl.length d4]), .q g 1, .q q' 0, .b true, .s (fun v w => w.2.1 = true) fun v w w' h hb => hb.2.1 h, .b true] ?_ ⟨uR (h := fun w hW hN => (hW.1 hJ0).box 0 rfl), uF, uC (h := fun w hW hN => (hW.1 hJ0).shut 0 rfl 1 rfl), uB (h := fun w hW hN => run_pnil _ _), ?_, uA, trivial⟩ ?_
      ·first | assumption | (intro i; (try dsimp only); split <;> first | trivial | assumption | (left; assumption))
      ·refine uG fun b__ w hW hN hE K hK => ?_
       have e2 : b__.eval (.tmp 2) = .pointer (some ⟨g2, 0, none⟩) := hE 2
       have e70 := hE 70
       have hS := hW.1 hJ0
       exact Dj rfl e2 e70 (hS.box 1 rfl) (by kernel_rfl) (by cases w.2.1 <;> rfl) (by simp [Value.oneCell']) fun w4 h1 hU => hK undef (w4, (true, w.2.2)) rfl ⟨⟨fun _ => hS.upd 1 rfl (.box g2 43 #[.int .i64 pr, .pointer (some ⟨q', 0, none⟩), .slice Au nu cu, .slice Arv rl.length crv, .slice A4 nl.length c4, .slice B4 gl.length d4]) (BE hU) ⟨(hS.holds _ (List.mem_of_getElem? (i := 1) rfl)).1, h1⟩ fun _ e => .inl e, fun _ => rfl, id⟩, fun _ _ h => h⟩
      ·intro vs wz hW hT
       obtain ⟨e70, e71, e72, e73, z4, e3, -⟩ := hT
       have bx : (fun _ : Nat => True) 0 := trivial
       simp only [AV, Act.put, zz, ze]
       obtain ⟨_, hst⟩ := z4
       have hS : St w0 wz.1 (.box g 43 #[.int .i64 pr, .pointer (some ⟨q', 0, none⟩), .slice Au nu cu, .slice Arv rl.length crv, .slice A4 nl.length c4, .slice B4 gl.length d4] :: .box g2 43 (cond wz.2.1 #[.int .i64 pr, .pointer (some ⟨q', 0, none⟩), .slice Au nu cu, .slice Arv rl.length crv, .slice A4 nl.length c4, .slice B4 gl.length d4] #[.int .i64 0, .pointer none, .slice none 0 0, .slice none 0 0, .slice none 0 0, .slice none 0 0]) :: .box g1 30 #[.int .i64 pr, .slice Al L.length cl, .int .u64 (ps : Nat), .slice Ar rl.length cr, .slice An nl.length cn, .slice Ag gl.length cg] :: F) K7 := hW.1 hJ0
       rw [show wz.2.1 = true from hst] at hS
       dsimp only [cond] at hS
       clear hW hJ0 hRr hRt hN0 hst
       generalize wz.1 = wf at *
       simp only [show vs (3 : Nat) = _ from e3]
       go_wp2_with fail
       refine ret2_cellM Tryz.results16 rfl (hS.box 1 rfl) Tryz.underlying43 rfl (by kernel_rfl) rfl rfl ?_
       refine ⟨_, rfl, (hS.sub (F' := F) (((List.sublist_cons_self _ _).trans (List.sublist_cons_self _ _)).trans (List.sublist_cons_self _ _))).mono (KSt.out.and CV) fun D w h => ?_⟩
       have h := k7.out _ _ h
       have h2 := kc.out _ _ (k5 _ _ h.1.1)
       exact ⟨k0 _ _ (k5 _ _ h.1.1), _, _, _, _, _, rfl, kh.out _ _ h.1.1, h2.1, ⟨_, h.2, h.1.2⟩, h2.2.1, h2.2.2⟩
theorem Iz.fits {p : AZ} {L : List (Nat × Nat)} {R : Nat} (h : Iz p L R) : Fits p := by
 have hm : GH R < AE := by
  have : 2 ^ (R + 1) <= 2 ^ 6 := Nat.pow_le_pow_right (by decide) (by have := h.r5; omega)
  unfold GH AE; omega
 refine ⟨?_, fun z hz => ?_, by have := h.rlen; omega, fun z hz => ?_, by have := h.nlen; omega, fun z hz => ?_, by have := h.glen; omega⟩
 ·rw [<- h.start]; exact Nat.lt_of_le_of_lt Nat.and_le_right hm
 ·have := (h.rules z hz).2.2.2.2.2
  unfold AE; omega
 ·have := (h.never z hz).1.2.2.2
  unfold AE; omega
 ·have := (h.goal z hz).2.2.2
  unfold AE; omega
theorem Iz.ok {p : AZ} {L : List (Nat × Nat)} {R : Nat} (h : Iz p L R) : p.Ok :=
 ⟨by have := h.rlen; omega, by have := h.nlen; omega, by have := h.glen; omega, fun L' e => by rw [h.links] at e; injection e with e; subst e; exact ⟨h.hok, by have := h.len; omega⟩⟩
end
section
open Go.RowKit
attribute [local go_sem ↓] Go.wp_at_zero Go.wp_at_succ
set_option maxRecDepth 20000
set_option exponentiation.threshold 5000
theorem isH_ptr {w : World} {D : Nat -> Prop} {v : Value} {o : Option (List (Nat × Nat))} (h : IsHo w D v o) : ∃ p, v = .pointer p := by
 cases o with
 | none => exact ⟨_, h⟩
 | some L => obtain ⟨q, o, h, _⟩ := h; exact ⟨_, h⟩
theorem Bo.cells {w : World} {D : Nat -> Prop} {v : Value} {p : AZ} (h : Bo w D v p) : ∃ cs, v = .agg cs /\ cs.size = 6 /\ cs.all (·.oneCell') = true := by
 obtain ⟨lp, s, rv, nv, gv, rfl, h1, h2, h3, h4, h5⟩ := h
 obtain ⟨_, rfl⟩ := isH_ptr h1
 obtain ⟨_, _, _, rfl⟩ := h2.shape
 obtain ⟨_, _, rfl, _, _⟩ := h3.shape
 obtain ⟨_, _, rfl⟩ := Ex h4
 obtain ⟨_, _, rfl⟩ := Ex h5
 exact ⟨_, rfl, rfl, by simp [Value.oneCell']⟩
theorem Bj.cells {w : World} {D : Nat -> Prop} {v : Value} {p : AZ} (h : Bj w D v p) : ∃ cs, v = .agg cs /\ cs.size = 6 /\ cs.all (·.oneCell') = true := by
 obtain ⟨lv, rv, nv, gv, L, rfl, _, h1, h2, h3, h4⟩ := h
 obtain ⟨_, _, rfl, _, _⟩ := h1.shape
 obtain ⟨_, _, rfl, _, _⟩ := h2.shape
 obtain ⟨_, _, rfl, _, _⟩ := Sl.shape (h3 : Sl _ _ _ _ _ _)
 obtain ⟨_, _, rfl, _, _⟩ := Sl.shape (h4 : Sl _ _ _ _ _ _)
 exact ⟨_, rfl, rfl, by simp [Value.oneCell']⟩
theorem ret_cct {P : Program} {fn : Func} {p p2 t3 : Tmp} {ty ty2 : TypeId} {R : Ending -> World -> Prop} {a : Act} {w : World} {g g2 : Nat} {t t2 : TypeId} {cs cs2 : Array Value} {d d2 : TypeDesc} {v : Value} (h : fn.results = #[.cell p ty, .cell p2 ty2, .tmp t3]) (hp : a.eval (.tmp p) = .pointer (some ⟨g, 0, none⟩)) (hb : AX w g t cs)
  (hu : P.underlying ty = some d) (hd : (match d with | .struct _ | .array _ _ => true | _ => false) = true) (hi : (P.info? ty).map (·.size) = some cs.size)
  (hp2 : a.eval (.tmp p2) = .pointer (some ⟨g2, 0, none⟩)) (hb2 : AX w g2 t2 cs2) (hu2 : P.underlying ty2 = some d2) (hd2 : (match d2 with | .struct _ | .array _ _ => true | _ => false) = true) (hi2 : (P.info? ty2).map (·.size) = some cs2.size)
  (hv : a.eval (.tmp t3) = v) (hdf : a.defers = []) (hR : R (.returned (.tuple #[.agg cs, .agg cs2, v])) w) : bodyPost P fn R .ret a w := by
 have hr : (results fn a.tmps).run P w = .ok (.tuple #[.agg cs, .agg cs2, v]) w := by
  have hp' : a.tmps[p]?.getD undef = .pointer (some ⟨g, 0, none⟩) := by simpa [Act.eval] using hp
  have hp2' : a.tmps[p2]?.getD undef = .pointer (some ⟨g2, 0, none⟩) := by simpa [Act.eval] using hp2
  have hv' : a.tmps[t3]?.getD undef = v := by simpa [Act.eval] using hv
  simp [results, h, hp', hp2', hv', asAddr, run_loadVar_row w g t ty cs (0, 0) d hb hu hd hi, run_loadVar_row w g2 t2 ty2 cs2 (0, 0) d2 hb2 hu2 hd2 hi2]
 exact bodyPost_ret hr hdf hR
set_option maxHeartbeats 1000000 in
theorem lmake31_any {w0 w : World} {F : List A7} {K : (Nat -> Prop) -> World -> Prop} {v : Value} {l : List Nat} (hl : ∀ x ∈ l, x < 256) (hS : St w0 w F K) (kp : ∀ D w, K D w -> Sl w D 1 v l.length (Ad l)) (kt : ∀ D w, K D w -> BD w /\ D 0) :
  Calls Tryz.prog 18 #[v] w fun e w' => ∃ x u, e = .returned (.tuple #[x, u, .bool true]) /\ ∃ p, (∃ L R, Iz p L R) /\ St w0 w' F fun D w => K D w /\ Bo w D x p /\ Bj w D u p := by
 have HL := Lib.hid hl
 have KS := Lib.hid hS.stable
 go_enter Tryz.func18, Tryz.ntmps18
 go_wp2_with (first
  | ((with_reducible refine qA 2 ?_); refine qa hS #[.int .i64 0, .pointer none, .slice none 0 0, .slice none 0 0, .slice none 0 0, .slice none 0 0] ?_; clear hS; intro g2 w_ hS)
  | ((with_reducible refine qA 3 ?_); refine qa hS #[.int .i64 0, .slice none 0 0, .int .u64 0, .slice none 0 0, .slice none 0 0, .slice none 0 0] ?_; clear hS; intro g3 w_ hS)
  | ((with_reducible refine qA 5 ?_); refine qa hS #[.int .i64 0, .slice none 0 0, .int .u64 0, .slice none 0 0, .slice none 0 0, .slice none 0 0] ?_; clear hS; intro g5 w_ hS)
  | ((with_reducible refine qA 6 ?_); refine qa hS #[.int .i64 0, .pointer none, .slice none 0 0, .slice none 0 0, .slice none 0 0, .slice none 0 0] ?_; clear hS; intro g6 w_ hS)
  | (go_at_call 13; refine (rmake31_any HL.out hS kp).mono ?_; clear hS; rintro e w_ ⟨u, p, L, R, rfl, hM, hS⟩; replace hM := Lib.hid hM; obtain ⟨us, rfl, hu6, hu1⟩ := hS.ro.2.cells; replace hu6 := Lib.hid hu6)
  | (go_at_call 16; refine (lproblem_any hM.out.links hM.out.hok (by have := hM.out.len; omega) hM.out.fits hS (fun D w h => h.2) (fun D w h => kt D w h.1)).mono ?_; clear hS; rintro e w_ ⟨x, rfl, hS⟩; obtain ⟨xs, rfl, hx6, hx1⟩ := hS.ro.2.cells; replace hx6 := Lib.hid hx6)
  | ((with_reducible refine qm 30 ?_); refine Cc hS 0 rfl _ _ _ rfl _ _ rfl rfl _ _ rfl (by rw [hu6.out]; kernel_rfl) (by rw [hu6.out]; rfl) hu1 ?_; clear hS; intro w_ hS; (try simp only [Act.put, Act.eval, zz, Value.cells] at hS))
  | ((with_reducible refine qm 43 ?_); refine Cc hS 0 rfl _ _ _ rfl _ _ rfl rfl _ _ rfl (by rw [hx6.out]; kernel_rfl) (by rw [hx6.out]; rfl) hx1 ?_; clear hS; intro w_ hS; (try simp only [Act.put, Act.eval, zz, Value.cells] at hS))
  | ((with_reducible refine qA 11 ?_); refine BigFrame.wpList_want rfl fun _ hK => CL rfl rfl (hS.box 0 rfl) Tryz.underlying30 rfl (by rw [hu6.out]; kernel_rfl) (hK _ _ ?_)))
 obtain ⟨K7, k7, hJ0⟩ : ∃ K7 : (Nat -> Prop) -> World -> Prop, Hid (∀ D w, K7 D w -> (K D w /\ Bj w D (.agg us) p) /\ Bo w D (.agg xs) p) /\ St w0 w_.drew (.box g6 43 xs :: .box g5 30 us :: .box g3 30 (cond (false, false).2 us #[.int .i64 0, .slice none 0 0, .int .u64 0, .slice none 0 0, .slice none 0 0, .slice none 0 0]) :: .box g2 43 (cond (false, false).1 xs #[.int .i64 0, .pointer none, .slice none 0 0, .slice none 0 0, .slice none 0 0, .slice none 0 0]) :: F) K7 := ⟨_, Lib.hid fun _ _ h => h, hS.drew⟩
 have hRr := @SR.refl w0 (fun s => .box g6 43 xs :: .box g5 30 us :: .box g3 30 (cond s.2 us #[.int .i64 0, .slice none 0 0, .int .u64 0, .slice none 0 0, .slice none 0 0, .slice none 0 0]) :: .box g2 43 (cond s.1 xs #[.int .i64 0, .pointer none, .slice none 0 0, .slice none 0 0, .slice none 0 0, .slice none 0 0]) :: F) K7
 have hRt := @SR.trans w0 (fun s => .box g6 43 xs :: .box g5 30 us :: .box g3 30 (cond s.2 us #[.int .i64 0, .slice none 0 0, .int .u64 0, .slice none 0 0, .slice none 0 0, .slice none 0 0]) :: .box g2 43 (cond s.1 xs #[.int .i64 0, .pointer none, .slice none 0 0, .slice none 0 0, .slice none 0 0, .slice none 0 0]) :: F) K7
 have hN0 : ∀ _ : Nat, True := fun _ => trivial
 clear hS
 refine FC (SR w0 (fun s => .box g6 43 xs :: .box g5 30 us :: .box g3 30 (cond s.2 us #[.int .i64 0, .slice none 0 0, .int .u64 0, .slice none 0 0, .slice none 0 0, .slice none 0 0]) :: .box g2 43 (cond s.1 xs #[.int .i64 0, .pointer none, .slice none 0 0, .slice none 0 0, .slice none 0 0, .slice none 0 0]) :: F) K7) (fun _ _ => True) ((false, false)) hRr hRt [.i (.agg xs), .i (.agg us), .b true, .s (fun v w => w.2.1 = true) fun v w w' h hb => hb.2.1 h, .s (fun v w => w.2.2 = true) fun v w w' h hb => hb.2.2 h, .b true] ?_ ⟨?_, ?_, uM, ?_, ?_, uA, trivial⟩ ?_
 ·first | assumption | (intro i; (try dsimp only); split <;> first | trivial | assumption | (left; assumption))
 ·refine uG fun b__ w hW hN hE K hK => ?_
  have e6 : b__.eval (.tmp 6) = .pointer (some ⟨g6, 0, none⟩) := hE 6
  exact CL rfl e6 ((hW.1 hJ0).box 0 rfl) Tryz.underlying43 rfl (by rw [hx6.out]; kernel_rfl) (hK _ _ rfl ⟨hRr _, fun _ _ h => h⟩)
 ·refine uG fun b__ w hW hN hE K hK => ?_
  have e5 : b__.eval (.tmp 5) = .pointer (some ⟨g5, 0, none⟩) := hE 5
  exact CL rfl e5 ((hW.1 hJ0).box 1 rfl) Tryz.underlying30 rfl (by rw [hu6.out]; kernel_rfl) (hK _ _ rfl ⟨hRr _, fun _ _ h => h⟩)
 ·refine uG fun b__ w hW hN hE K hK => ?_
  have e2 : b__.eval (.tmp 2) = .pointer (some ⟨g2, 0, none⟩) := hE 2
  have e15 := hE 15
  have hS := hW.1 hJ0
  exact Dj rfl e2 e15 (hS.box 3 rfl) (by rw [hx6.out]; kernel_rfl) (by cases w.2.1; exact hx6.out.symm; rfl) hx1 fun w4 h1 hU => hK undef (w4, (true, w.2.2)) rfl ⟨⟨fun _ => hS.upd 3 rfl (.box g2 43 xs) (BE hU) ⟨(hS.holds _ (List.mem_of_getElem? (i := 3) rfl)).1, h1⟩ fun _ e => .inl e, fun _ => rfl, id⟩, fun _ _ h => h⟩
 ·refine uG fun b__ w hW hN hE K hK => ?_
  have e3 : b__.eval (.tmp 3) = .pointer (some ⟨g3, 0, none⟩) := hE 3
  have e16 := hE 16
  have hS := hW.1 hJ0
  exact Dj rfl e3 e16 (hS.box 2 rfl) (by rw [hu6.out]; kernel_rfl) (by cases w.2.2; exact hu6.out.symm; rfl) hu1 fun w4 h1 hU => hK undef (w4, (w.2.1, true)) rfl ⟨⟨fun _ => hS.upd 2 rfl (.box g3 30 us) (BE hU) ⟨(hS.holds _ (List.mem_of_getElem? (i := 2) rfl)).1, h1⟩ fun _ e => .inl e, id, fun _ => rfl⟩, fun _ _ h => h⟩
 ·intro vs wz hW hT
  obtain ⟨e15, e16, e17, z3, z4, e4, -⟩ := hT
  have bx : (fun _ : Nat => True) 0 := trivial
  simp only [AV, Act.put, zz, ze]
  obtain ⟨_, hst⟩ := z3
  obtain ⟨_, hst2⟩ := z4
  have hS : St w0 wz.1 (.box g6 43 xs :: .box g5 30 us :: .box g3 30 (cond wz.2.2 us #[.int .i64 0, .slice none 0 0, .int .u64 0, .slice none 0 0, .slice none 0 0, .slice none 0 0]) :: .box g2 43 (cond wz.2.1 xs #[.int .i64 0, .pointer none, .slice none 0 0, .slice none 0 0, .slice none 0 0, .slice none 0 0]) :: F) K7 := hW.1 hJ0
  rw [show wz.2.1 = true from hst, show wz.2.2 = true from hst2] at hS
  dsimp only [cond] at hS
  clear hW hJ0 hRr hRt hN0 hst hst2
  generalize wz.1 = wf at *
  simp only [show vs (4 : Nat) = _ from e4]
  go_wp2_with fail
  refine ret_cct Tryz.results18 rfl (hS.box 3 rfl) Tryz.underlying43 rfl (by rw [hx6.out]; kernel_rfl) rfl (hS.box 2 rfl) Tryz.underlying30 rfl (by rw [hu6.out]; kernel_rfl) rfl rfl ?_
  exact ⟨_, _, rfl, p, ⟨L, R, hM.out⟩, (hS.sub (F' := F) ((((List.sublist_cons_self _ _).trans (List.sublist_cons_self _ _)).trans (List.sublist_cons_self _ _)).trans (List.sublist_cons_self _ _))).mono (KS.out.and (CV.and D3)) fun D w h => ⟨(k7.out _ _ h).1.1, (k7.out _ _ h).2, (k7.out _ _ h).1.2⟩⟩
end
section
open Go.RowKit
attribute [local go_sem ↓] Go.wp_at_zero Go.wp_at_succ
set_option maxRecDepth 20000
theorem JG : Bi Tryz.prog 37 26 1 8 := ⟨Tryz.underlying37, by kernel_rfl⟩
theorem shl8 {x : Nat} (hx : x < 256) (r : Nat) (h : r < 8) : IntKind.u64.wrap ((x : Int) * 2 ^ (8 * r)) = ((x * 2 ^ (8 * r) : Nat) : Int) /\ x * 2 ^ (8 * r) < AE := by
 have hp : (2 : Nat) ^ (8 * r) <= 2 ^ 56 := Nat.pow_le_pow_right (by decide) (by omega)
 have hy : x * 2 ^ (8 * r) < AE := by
  have : x * 2 ^ (8 * r) <= 255 * 2 ^ 56 := Nat.mul_le_mul (by omega) hp
  unfold AE; omega
 refine ⟨?_, hy⟩
 have e : ((x : Int) * 2 ^ (8 * r)) = ((x * 2 ^ (8 * r) : Nat) : Int) := by push_cast; rfl
 rw [e]
 exact Cv hy
theorem St.put64 {w0 w : World} {F : List A7} {K : (Nat -> Prop) -> World -> Prop} (h : St w0 w F K) (i : Nat) {g n cap : Nat} {e : TypeId} {L : List Nat} (hi : F[i]? = some (.own (.slice (some ⟨g, 0, none⟩) n cap) e 1 n (At L))) (k z : Nat) :
  St w0 (w.setCell ⟨g, k, none⟩ (.int .u64 (z : Nat))).drew (F.set i (.own (.slice (some ⟨g, 0, none⟩) n cap) e 1 n (At (L.set k z)))) K :=
 (h.upd i hi (.own (.slice (some ⟨g, 0, none⟩) n cap) e 1 n (At (L.set k z))) ((h.own i hi).stored k (.int .u64 (z : Nat))).2 (JI (h.own i hi) (Below.refl _ _)) fun _ e => .inl e).drew
end
section
open Go.RowKit
attribute [local go_sem ↓] Go.wp_at_zero Go.wp_at_succ
set_option maxRecDepth 20000
end
section
open Go.RowKit
set_option maxRecDepth 20000
end
section
open Go.RowKit
attribute [local go_sem ↓] Go.wp_at_zero Go.wp_at_succ
set_option maxRecDepth 20000
def Ca (r : Bool) (pv qv : Value) : Array Value := (Ad (List.replicate 32 0) ++ [.bool r, pv, qv]).toArray
theorem cert_one (r : Bool) (A A' : Option Addr) (n c n' c' : Nat) : (Ca r (.slice A n c) (.slice A' n' c')).all (·.oneCell') = true := by
 refine all_oneCell_toArray fun v hv => ?_
 rcases List.mem_append.1 hv with h | h
 ·exact B7 _ v h
 ·simp at h; rcases h with rfl | rfl | rfl <;> rfl
theorem J3 (r : Bool) (pv qv : Value) : (Ca r pv qv).size = 35 := by simp [Ca, Ad]
theorem Gq (r : Bool) (pv qv : Value) : (Tryz.prog.info? 96).map (·.size) = some (Ca r pv qv).size := by
 rw [J3]; kernel_rfl
theorem Af.none_ {w : World} {D : Nat -> Prop} : Af w D (.slice none 0 0) [] := ⟨[], Sl.none_, fun i y n h => by simp at h⟩
theorem Af.one {w : World} {b : Nat} {t : TypeId} {y n : Value} {Y N : Nat} {D E : Nat -> Prop} (h : AX w b t #[y, n]) (hy : A5 w D (.agg #[y]) Y) (hn : A5 w E (.agg #[n]) N) : Af w (fun _ => True) (.slice (some ⟨b, 0, none⟩) 1 1) [(Y, N)] :=
 ⟨[y, n], (Sl.of_box (n := 1) (size := 2) h rfl (by omega)).imp fun _ _ _ => trivial, fun i a c hi => by
  match i, hi with
  | 0, hi => simp at hi; obtain ⟨rfl, rfl⟩ := hi; exact ⟨y, n, rfl, rfl, hy.imp fun _ _ _ => trivial, hn.imp fun _ _ _ => trivial⟩⟩
theorem str_eql {a b : ByteArray} (h : (a.toList == b.toList) = true) (w : World) : (binOp .eql 9 (.string a) (.string b)).run Tryz.prog w = .ok (.bool true) w := by
 go_simp
set_option maxHeartbeats 4000000 in
theorem awake_any (w : World) (hT : Gx w) :
  Calls Tryz.prog 39 #[] w (Aw (fun x _ => x = .bool true) w) := by
 obtain ⟨i0, hi, hz0, hz1, hz2⟩ := info_parts Ik
 obtain ⟨z, hz⟩ : ∃ z, z = Fw (List.replicate 32 0) := ⟨_, rfl⟩
 have HZ := Lib.hid hz
 clear hz
 go_enter Tryz.func39, Tryz.ntmps39
 go_wp2_with (first
  | (at_make; refine wpList_make_full _ rfl _ _ 22 rfl w.heap.size 5 i0 (.int .u8 0) 1 Tryz.underlying22 hi hz0 hz1 _ _ _ _ 32 rfl rfl (by omega) (by omega) (by rw [hz2]; omega) (by unfold maxLen; omega) (Nat.le_refl _) ?_; intro w1 hown hgrow; rw [Nat.mul_one, show (Value.int .u8 0).cells = #[Value.int .u8 0] from rfl, Fi] at hown; have hcv := conv_sl (l := List.replicate 32 0) (Sl.of_own hown) (DL 32); rw [<- HZ.out] at hcv; have hB := (Below.refl w.heap.size w).grown hgrow (by omega) (by simp); clear hown hgrow)
  | ((with_reducible refine qA 6 ?_); refine BJ rfl _ 3 _ _ rfl Tryz.underlying74 #[.int .i64 2, .int .i64 0] (by kernel_rfl) ?_; intro w2 hX hb; have hl1 := hX.lt; have hP := Sl.of_box (n := 2) (size := 1) hX rfl (by omega); replace hB := hB.trans (hb.mono hB.size); clear hX hb hcv)
  | ((with_reducible refine qA 7 ?_); refine BA rfl _ _ rfl (Ca true (.slice (some ⟨w1.heap.size, 0, none⟩) 2 2) (.slice none 0 0)) (by kernel_rfl) ?_)
  | ((with_reducible refine qA 2 ?_); refine Da rfl _ rfl (by kernel_rfl) ?_; intro w3 hA hb; replace hP := hP.ext hb; have hl2 := hA.lt; have hl3 := hB.size; replace hB := hB.trans (hb.mono hB.size); clear hb)
  | ((with_reducible refine qN ?_); go_loud (refine Cy rfl 96 _ _ rfl w2.heap.size (Ca true (.slice (some ⟨w1.heap.size, 0, none⟩) 2 2) (.slice none 0 0)) rfl rfl _ _ hA (Gq _ _ _) (by rw [J3]; kernel_rfl) (cert_one _ _ _ _ _ _ _) ?_); go_loud (intro w4 hC hU); replace hP := hP.upd hU (fun b h hl => by omega); replace hB := hU.below hB (by omega); clear hA hU))
 have hS8 := fun (w : World) (x : Int) => Sl.new w 3 (AM [x]) (by simp [AM])
 have H8 := Lib.hid hS8
 clear hS8
 have hP5 := hP.ext ((Below.refl _ w4).alloc (Nat.le_refl _) (.cells #[.int .i64 1] 3))
 refine (of_any _ [1] _ _ (H8.out w4 1)).mono ?_
 rintro e w6 ⟨v9, rfl, h9, hb⟩
 replace hb : Below w4.heap.size w4 w6 := ((Below.refl _ w4).alloc (Nat.le_refl _) _).trans (hb.mono (by simp))
 replace hP := hP.ext hb
 replace hC := hC.ext hb
 have hl4 := hC.lt
 have hs6 := hb.size
 replace hB := hB.trans (hb.mono hB.size)
 clear hb hP5
 obtain ⟨A9, c9, l9, rfl, _⟩ := id h9.parts
 go_wp2_with fail
 refine (of_any _ [3] _ _ (H8.out w6 3)).mono ?_
 rintro e w8 ⟨v11, rfl, h11, hb⟩
 replace hb : Below w6.heap.size w6 w8 := ((Below.refl _ w6).alloc (Nat.le_refl _) _).trans (hb.mono (by simp))
 replace hP := hP.ext hb
 replace hC := hC.ext hb
 replace h9 := h9.ext hb
 have hs8 := hb.size
 replace hB := hB.trans (hb.mono hB.size)
 clear hb
 obtain ⟨A11, c11, l11, rfl, _⟩ := id h11.parts
 go_wp2_with (first
  | ((with_reducible refine qA 12 ?_); refine BA rfl _ _ rfl #[.slice A9 l9.length c9, .slice A11 l11.length c11] (by kernel_rfl) ?_)
  | ((with_reducible refine qA 13 ?_); refine BJ rfl _ 56 _ _ rfl Tryz.underlying41 #[.slice A9 l9.length c9, .slice A11 l11.length c11] (by kernel_rfl) ?_; intro w9 hX hb; have hl8 := hX.lt; have hq := (Af.one hX (h9.ext hb) (h11.ext hb)).imp (D' := (· < w9.heap.size)) (fun _ _ h => h); replace hP := hP.ext hb; replace hC := hC.ext hb; replace hB := hB.trans (hb.mono hB.size); clear hX h9 h11 hb)
  | ((with_reducible refine qA 14 ?_); refine BA rfl _ _ rfl (Ca false (.slice none 0 0) (.slice (some ⟨w8.heap.size, 0, none⟩) 1 1)) (by kernel_rfl) ?_)
  | ((with_reducible refine qA 3 ?_); refine Da rfl _ rfl (by kernel_rfl) ?_; intro w10 hA hb; have hl9 := hA.lt; have hs9 := hB.size; replace hP := hP.ext hb; replace hC := hC.ext hb; replace hq := hq.ext hb; replace hB := hB.trans (hb.mono hB.size); clear hb)
  | ((with_reducible refine qN ?_); refine Cy rfl 96 _ _ rfl w9.heap.size (Ca false (.slice none 0 0) (.slice (some ⟨w8.heap.size, 0, none⟩) 1 1)) rfl rfl _ _ hA (Gq _ _ _) (by rw [J3]; kernel_rfl) (cert_one _ _ _ _ _ _ _) ?_; intro w11 hC2 hU; replace hP := hP.upd hU (fun b h hl => by omega); replace hC := hC.upd hU (by omega); replace hq := hq.upd hU (fun b h hl => by omega); replace hB := hU.below hB (by omega); clear hA hU))
 have hcA : Ba w11 (fun _ => True) (.agg (Ca true (.slice (some ⟨w1.heap.size, 0, none⟩) 2 2) (.slice none 0 0))) Gl := Ba.of (plan := [2, 0]) (cubes := []) (by simp) (DL 32) (hP.imp fun _ _ _ => trivial) Af.none_
 have hcB : Ba w11 (fun _ => True) (.agg (Ca false (.slice none 0 0) (.slice (some ⟨w8.heap.size, 0, none⟩) 1 1))) exB := Ba.of (plan := []) (cubes := [(2, 8)]) (by simp) (DL 32) Sl.none_ (hq.imp fun _ _ _ => trivial)
 replace hT := hT.ext hB
 have hzs : z.size <= 32 := by rw [HZ.out, strOf_size]; simp
 have hqA : ((Fw (AP Gl)).toList == (z ++ { data := #[1, 2, 2, 0, 0] }).toList) = true := by rw [HZ.out, exA_bytes]; simp
 have hqB : ((Fw (AP exB)).toList == (z ++ { data := #[0, 0, 1, 1, 2, 1, 8] }).toList) = true := by rw [HZ.out, exB_bytes]; simp
 have cvA := fun (w : World) (D : Nat -> Prop) (v : Value) (h : Sl w D 1 v (AP Gl).length (Ad (AP Gl))) => conv_sl h exA_by
 have cvB := fun (w : World) (D : Nat -> Prop) (v : Value) (h : Sl w D 1 v (AP exB).length (Ad (AP exB))) => conv_sl h exB_by
 generalize Fw (AP Gl) = sA at *
 generalize Fw (AP exB) = sB at *
 have HCA := Lib.hid cvA
 have HCB := Lib.hid cvB
 have heq := exA_id
 have hidl := idC_len Gl
 have htl := fun (w : World) => fun (pv p : Value) (D : Nat -> Prop) (hT : Gx w) (h1 : Sl w D 1 pv 1 [p]) (h2 : Sl w D 1 p (AP Gl).length (Ad (AP Gl))) => GS Gr pv p (AP Gl) w D hT h1 h2 exA_by (by decide) (by have := exA_len; omega)
 rw [<- heq] at htl
 have hidc := fun (w : World) (D : Nat -> Prop) (v : Value) (hT : Gx w) (h : Ba w D v Gl) => cid_any v Gl w D hT h
 generalize idC Gl = idl at *
 have kI := fun (w : World) => eql_id w idl idl hidl hidl
 simp only [BEq.rfl] at kI
 have HTL := Lib.hid htl
 have HID := Lib.hid hidc
 have hiA := Gq true (.slice (some ⟨w1.heap.size, 0, none⟩) 2 2) (.slice none 0 0)
 have hiB := Gq false (.slice none 0 0) (.slice (some ⟨w8.heap.size, 0, none⟩) 1 1)
 generalize Ca true (.slice (some ⟨w1.heap.size, 0, none⟩) 2 2) (.slice none 0 0) = cA at *
 generalize Ca false (.slice none 0 0) (.slice (some ⟨w8.heap.size, 0, none⟩) 1 1) = cB at *
 clear hP hq cvA cvB heq hidl htl hidc
 refine Fu (fun i v w => match i with
  | 0 => v = .agg cA
  | 1 => Sl w (fun _ => True) 1 v (AP Gl).length (Ad (AP Gl))
  | 2 => v = .string sA
  | 3 => v = .string z
  | 4 => v = .string (z ++ { data := #[1, 2, 2, 0, 0] })
  | 5 => v = .bool true
  | 6 => v = .bool true
  | 7 => v = .agg cB
  | 8 => Sl w (fun _ => True) 1 v (AP exB).length (Ad (AP exB))
  | 9 => v = .string sB
  | 10 => v = .string z
  | 11 => v = .string (z ++ { data := #[0, 0, 1, 1, 2, 1, 8] })
  | 12 => v = .bool true
  | 13 => v = .bool true
  | 14 => v = .bool true
  | 15 => v = .agg cA
  | 16 => v = .agg (Ad idl).toArray
  | 17 => v = .agg cA
  | 18 => Sl w (fun _ => True) 1 v (AP Gl).length (Ad (AP Gl))
  | 19 => ∃ p, Sl w (fun _ => True) 1 v 1 [p] /\ Sl w (fun _ => True) 1 p (AP Gl).length (Ad (AP Gl))
  | 20 => v = .agg (Ad idl).toArray
  | 21 => v = .bool true
  | 22 => v = .bool true
  | 23 => v = .bool true
  | _ => True) (by kernel_rfl) (by kernel_rfl) ?mono ⟨?r0, ?r1, ?r2, ?r3, ?r4, ?r5, ?r6, ?r7, ?r8, ?r9, ?r10, ?r11, ?r12, ?r13, ?r14, ?r15, ?r16, ?r17, ?r18, ?r19, ?r20, ?r21, ?r22, ?r23, trivial⟩ ?post
 case mono =>
  intro i v w w' h hb
  match i, h with
  | 0, h => exact h
  | 1, h => exact Sl.ext h hb
  | 2, h | 3, h | 4, h | 5, h | 6, h | 7, h => exact h
  | 8, h => exact Sl.ext h hb
  | 9, h | 10, h | 11, h | 12, h | 13, h | 14, h | 15, h | 16, h | 17, h => exact h
  | 18, h => exact Sl.ext h hb
  | 19, h => exact (let ⟨p, h1, h2⟩ := h; ⟨p, h1.ext hb, h2.ext hb⟩)
  | 20, h | 21, h | 22, h | 23, h => exact h
  | _ + 24, h => trivial
 case r0 =>
  refine C2 fun b w hW hold hpre => ⟨fun hwant K hK => ?_, fun hwant => ?_⟩
  ·clear hwant
   have e2 : b.eval (.tmp 2) = .pointer (some ⟨w2.heap.size, 0, none⟩) := (hold 2 (by kernel_rfl)).trans rfl
   exact CL rfl e2 (hC.ext (B3 hW)) Tryz.underlying96 rfl hiA (hK _ _ rfl (Below.refl _ _))
  ·exact wo hwant
 case r1 =>
  refine C2 fun b w hW hold hpre => ⟨fun hwant K hK => ?_, fun hwant => ?_⟩
  ·clear hwant
   have e15 : b.eval (.tmp 15) = .agg cA := hpre ⟨0, _⟩ (Array.mem_of_getElem? (i := 0) rfl) rfl _ _ rfl rfl
   exact AL rfl (by kernel_rfl) (by simp [e15]) (Fo _ Gl w _ (hcA.ext (B3 hW))) fun v w' h hb => hK v w' (h.imp fun _ _ _ => trivial) hb
  ·exact wo hwant
 case r2 =>
  refine C2 fun b w hW hold hpre => ⟨fun hwant K hK => ?_, fun hwant => ?_⟩
  ·clear hwant
   have e16 : (fun (v : Value) (w : World) => Sl w (fun _ => True) 1 v (AP Gl).length (Ad (AP Gl))) (b.eval (.tmp 16)) w := hpre ⟨1, _⟩ (Array.mem_of_getElem? (i := 0) rfl) rfl _ _ rfl rfl
   exact Cd rfl rfl (HCA.out w _ _ e16) (hK _ _ rfl (Below.refl _ _))
  ·exact wo hwant
 case r3 =>
  refine C2 fun b w hW hold hpre => ⟨fun hwant K hK => ?_, fun hwant => ?_⟩
  ·clear hwant
   have e1 : b.eval (.tmp 1) = .string z := (hold 1 (by kernel_rfl)).trans rfl
   exact Bw rfl e1 (hK _ _ rfl (Below.refl _ _))
  ·exact wo hwant
 case r4 =>
  refine C2 fun b w hW hold hpre => ⟨fun hwant K hK => ?_, fun hwant => ?_⟩
  ·clear hwant
   have e18 : b.eval (.tmp 18) = .string z := hpre ⟨3, _⟩ (Array.mem_of_getElem? (i := 0) rfl) rfl _ _ rfl rfl
   exact AA (vy := .string { data := #[1, 2, 2, 0, 0] }) rfl e18 rfl rfl (by rw [binOp_string_add]; exact run_string_add_sum _ _ _ (by have h5 : ({ data := #[1, 2, 2, 0, 0] } : ByteArray).size = 5 := rfl; omega)) (hK _ _ rfl (Below.refl _ _))
  ·exact wo hwant
 case r5 =>
  refine C2 fun b w hW hold hpre => ⟨fun hwant K hK => ?_, fun hwant => ?_⟩
  ·clear hwant
   have e17 : b.eval (.tmp 17) = .string sA := hpre ⟨2, _⟩ (Array.mem_of_getElem? (i := 0) rfl) rfl _ _ rfl rfl
   have e19 : b.eval (.tmp 19) = .string (z ++ { data := #[1, 2, 2, 0, 0] }) := hpre ⟨4, _⟩ (Array.mem_of_getElem? (i := 1) rfl) rfl _ _ rfl rfl
   exact AA rfl e17 e19 rfl (str_eql hqA w) (hK _ _ rfl (Below.refl _ _))
  ·exact wo hwant
 case r6 =>
  refine C2 fun b w hW hold hpre => ⟨fun hwant K hK => ?_, fun hwant => ?_⟩
  ·clear hwant
   have e20 : b.eval (.tmp 20) = .bool true := hpre ⟨5, _⟩ (Array.mem_of_getElem? (i := 0) rfl) rfl _ _ rfl rfl
   exact Bw rfl e20 (hK _ _ rfl (Below.refl _ _))
  ·exact wo hwant
 case r7 =>
  refine C2 fun b w hW hold hpre => ⟨fun hwant K hK => ?_, fun hwant => ?_⟩
  ·clear hwant
   have e3 : b.eval (.tmp 3) = .pointer (some ⟨w9.heap.size, 0, none⟩) := (hold 3 (by kernel_rfl)).trans rfl
   exact CL rfl e3 (hC2.ext (B3 hW)) Tryz.underlying96 rfl hiB (hK _ _ rfl (Below.refl _ _))
  ·rw [Bz rfl rfl rfl (show b.eval (.tmp 21) = .bool true from hpre ⟨6, _⟩ (Array.mem_of_getElem? (i := 0) rfl) rfl _ _ rfl rfl)] at hwant; cases hwant
 case r8 =>
  refine C2 fun b w hW hold hpre => ⟨fun hwant K hK => ?_, fun hwant => ?_⟩
  ·clear hwant
   have e22 : b.eval (.tmp 22) = .agg cB := hpre ⟨7, _⟩ (Array.mem_of_getElem? (i := 0) rfl) rfl _ _ rfl rfl
   exact AL rfl (by kernel_rfl) (by simp [e22]) (Fo _ exB w _ (hcB.ext (B3 hW))) fun v w' h hb => hK v w' (h.imp fun _ _ _ => trivial) hb
  ·rw [Bz rfl rfl rfl (show b.eval (.tmp 21) = .bool true from hpre ⟨6, _⟩ (Array.mem_of_getElem? (i := 1) rfl) rfl _ _ rfl rfl)] at hwant; cases hwant
 case r9 =>
  refine C2 fun b w hW hold hpre => ⟨fun hwant K hK => ?_, fun hwant => ?_⟩
  ·clear hwant
   have e23 : (fun (v : Value) (w : World) => Sl w (fun _ => True) 1 v (AP exB).length (Ad (AP exB))) (b.eval (.tmp 23)) w := hpre ⟨8, _⟩ (Array.mem_of_getElem? (i := 0) rfl) rfl _ _ rfl rfl
   exact Cd rfl rfl (HCB.out w _ _ e23) (hK _ _ rfl (Below.refl _ _))
  ·rw [Bz rfl rfl rfl (show b.eval (.tmp 21) = .bool true from hpre ⟨6, _⟩ (Array.mem_of_getElem? (i := 1) rfl) rfl _ _ rfl rfl)] at hwant; cases hwant
 case r10 =>
  refine C2 fun b w hW hold hpre => ⟨fun hwant K hK => ?_, fun hwant => ?_⟩
  ·clear hwant
   have e1 : b.eval (.tmp 1) = .string z := (hold 1 (by kernel_rfl)).trans rfl
   exact Bw rfl e1 (hK _ _ rfl (Below.refl _ _))
  ·rw [Bz rfl rfl rfl (show b.eval (.tmp 21) = .bool true from hpre ⟨6, _⟩ (Array.mem_of_getElem? (i := 0) rfl) rfl _ _ rfl rfl)] at hwant; cases hwant
 case r11 =>
  refine C2 fun b w hW hold hpre => ⟨fun hwant K hK => ?_, fun hwant => ?_⟩
  ·clear hwant
   have e25 : b.eval (.tmp 25) = .string z := hpre ⟨10, _⟩ (Array.mem_of_getElem? (i := 0) rfl) rfl _ _ rfl rfl
   exact AA (vy := .string { data := #[0, 0, 1, 1, 2, 1, 8] }) rfl e25 rfl rfl (by rw [binOp_string_add]; exact run_string_add_sum _ _ _ (by have h7 : ({ data := #[0, 0, 1, 1, 2, 1, 8] } : ByteArray).size = 7 := rfl; omega)) (hK _ _ rfl (Below.refl _ _))
  ·rw [Bz rfl rfl rfl (show b.eval (.tmp 21) = .bool true from hpre ⟨6, _⟩ (Array.mem_of_getElem? (i := 1) rfl) rfl _ _ rfl rfl)] at hwant; cases hwant
 case r12 =>
  refine C2 fun b w hW hold hpre => ⟨fun hwant K hK => ?_, fun hwant => ?_⟩
  ·clear hwant
   have e24 : b.eval (.tmp 24) = .string sB := hpre ⟨9, _⟩ (Array.mem_of_getElem? (i := 0) rfl) rfl _ _ rfl rfl
   have e26 : b.eval (.tmp 26) = .string (z ++ { data := #[0, 0, 1, 1, 2, 1, 8] }) := hpre ⟨11, _⟩ (Array.mem_of_getElem? (i := 1) rfl) rfl _ _ rfl rfl
   exact AA rfl e24 e26 rfl (str_eql hqB w) (hK _ _ rfl (Below.refl _ _))
  ·rw [Bz rfl rfl rfl (show b.eval (.tmp 21) = .bool true from hpre ⟨6, _⟩ (Array.mem_of_getElem? (i := 2) rfl) rfl _ _ rfl rfl)] at hwant; cases hwant
 case r13 =>
  refine C2 fun b w hW hold hpre => ⟨fun hwant K hK => ?_, fun hwant => ?_⟩
  ·clear hwant
   have e21 : b.eval (.tmp 21) = .bool true := hpre ⟨6, _⟩ (Array.mem_of_getElem? (i := 0) rfl) rfl _ _ rfl rfl
   have e27 : b.eval (.tmp 27) = .bool true := hpre ⟨12, _⟩ (Array.mem_of_getElem? (i := 1) rfl) rfl _ _ rfl rfl
   exact Ks rfl e21 (if_pos rfl) (hK _ _ e27 (Below.refl _ _))
  ·exact wo hwant
 case r14 =>
  refine C2 fun b w hW hold hpre => ⟨fun hwant K hK => ?_, fun hwant => ?_⟩
  ·clear hwant
   have e28 : b.eval (.tmp 28) = .bool true := hpre ⟨13, _⟩ (Array.mem_of_getElem? (i := 0) rfl) rfl _ _ rfl rfl
   exact Bw rfl e28 (hK _ _ rfl (Below.refl _ _))
  ·exact wo hwant
 case r15 =>
  refine C2 fun b w hW hold hpre => ⟨fun hwant K hK => ?_, fun hwant => ?_⟩
  ·clear hwant
   have e2 : b.eval (.tmp 2) = .pointer (some ⟨w2.heap.size, 0, none⟩) := (hold 2 (by kernel_rfl)).trans rfl
   exact CL rfl e2 (hC.ext (B3 hW)) Tryz.underlying96 rfl hiA (hK _ _ rfl (Below.refl _ _))
  ·rw [Bz rfl rfl rfl (show b.eval (.tmp 29) = .bool true from hpre ⟨14, _⟩ (Array.mem_of_getElem? (i := 0) rfl) rfl _ _ rfl rfl)] at hwant; cases hwant
 case r16 =>
  refine C2 fun b w hW hold hpre => ⟨fun hwant K hK => ?_, fun hwant => ?_⟩
  ·clear hwant
   have e30 : b.eval (.tmp 30) = .agg cA := hpre ⟨15, _⟩ (Array.mem_of_getElem? (i := 0) rfl) rfl _ _ rfl rfl
   exact AL rfl (by kernel_rfl) (by simp [e30]) (HID.out w _ _ (hT.ext (B3 hW)) (hcA.ext (B3 hW))) fun v w' h hb => hK v w' h hb
  ·rw [Bz rfl rfl rfl (show b.eval (.tmp 29) = .bool true from hpre ⟨14, _⟩ (Array.mem_of_getElem? (i := 1) rfl) rfl _ _ rfl rfl)] at hwant; cases hwant
 case r17 =>
  refine C2 fun b w hW hold hpre => ⟨fun hwant K hK => ?_, fun hwant => ?_⟩
  ·clear hwant
   have e2 : b.eval (.tmp 2) = .pointer (some ⟨w2.heap.size, 0, none⟩) := (hold 2 (by kernel_rfl)).trans rfl
   exact CL rfl e2 (hC.ext (B3 hW)) Tryz.underlying96 rfl hiA (hK _ _ rfl (Below.refl _ _))
  ·rw [Bz rfl rfl rfl (show b.eval (.tmp 29) = .bool true from hpre ⟨14, _⟩ (Array.mem_of_getElem? (i := 0) rfl) rfl _ _ rfl rfl)] at hwant; cases hwant
 case r18 =>
  refine C2 fun b w hW hold hpre => ⟨fun hwant K hK => ?_, fun hwant => ?_⟩
  ·clear hwant
   have e32 : b.eval (.tmp 32) = .agg cA := hpre ⟨17, _⟩ (Array.mem_of_getElem? (i := 0) rfl) rfl _ _ rfl rfl
   exact AL rfl (by kernel_rfl) (by simp [e32]) (Fo _ Gl w _ (hcA.ext (B3 hW))) fun v w' h hb => hK v w' (h.imp fun _ _ _ => trivial) hb
  ·rw [Bz rfl rfl rfl (show b.eval (.tmp 29) = .bool true from hpre ⟨14, _⟩ (Array.mem_of_getElem? (i := 2) rfl) rfl _ _ rfl rfl)] at hwant; cases hwant
 case r19 =>
  refine C2 fun b w hW hold hpre => ⟨fun hwant K hK => ?_, fun hwant => ?_⟩
  ·clear hwant
   have e33 : (fun (v : Value) (w : World) => Sl w (fun _ => True) 1 v (AP Gl).length (Ad (AP Gl))) (b.eval (.tmp 33)) w := hpre ⟨18, _⟩ (Array.mem_of_getElem? (i := 0) rfl) rfl _ _ rfl rfl
   obtain ⟨A, c, hp, _⟩ := Sl.shape e33
   refine Dk rfl Tryz.underlying166 (ps := [(0, .slice A (AP Gl).length c)]) (by simp [hp]) (cells := #[.slice A (AP Gl).length c]) (by kernel_rfl) fun w' hX hb => hK _ _ ⟨.slice A (AP Gl).length c, (Sl.of_box (n := 1) (size := 1) hX rfl (by omega)).imp fun _ _ _ => trivial, ?_⟩ hb
   rw [<- hp]; exact Sl.ext e33 hb
  ·rw [Bz rfl rfl rfl (show b.eval (.tmp 29) = .bool true from hpre ⟨14, _⟩ (Array.mem_of_getElem? (i := 1) rfl) rfl _ _ rfl rfl)] at hwant; cases hwant
 case r20 =>
  refine C2 fun b w hW hold hpre => ⟨fun hwant K hK => ?_, fun hwant => ?_⟩
  ·clear hwant
   have e34 : (fun (v : Value) (w : World) => ∃ p, Sl w (fun _ => True) 1 v 1 [p] /\ Sl w (fun _ => True) 1 p (AP Gl).length (Ad (AP Gl))) (b.eval (.tmp 34)) w := hpre ⟨19, _⟩ (Array.mem_of_getElem? (i := 0) rfl) rfl _ _ rfl rfl
   obtain ⟨p, h1, h2⟩ := e34
   exact AL (vs := [.string Gr, b.eval (.tmp 34)]) rfl (by kernel_rfl) rfl (HTL.out w (b.eval (.tmp 34)) p _ (hT.ext (B3 hW)) h1 h2) fun v w' h hb => hK v w' h hb
  ·rw [Bz rfl rfl rfl (show b.eval (.tmp 29) = .bool true from hpre ⟨14, _⟩ (Array.mem_of_getElem? (i := 2) rfl) rfl _ _ rfl rfl)] at hwant; cases hwant
 case r21 =>
  refine C2 fun b w hW hold hpre => ⟨fun hwant K hK => ?_, fun hwant => ?_⟩
  ·clear hwant
   have e31 : b.eval (.tmp 31) = .agg (Ad idl).toArray := hpre ⟨16, _⟩ (Array.mem_of_getElem? (i := 0) rfl) rfl _ _ rfl rfl
   have e35 : b.eval (.tmp 35) = .agg (Ad idl).toArray := hpre ⟨20, _⟩ (Array.mem_of_getElem? (i := 1) rfl) rfl _ _ rfl rfl
   exact AA rfl e31 e35 rfl (kI w) (hK _ _ rfl (Below.refl _ _))
  ·rw [Bz rfl rfl rfl (show b.eval (.tmp 29) = .bool true from hpre ⟨14, _⟩ (Array.mem_of_getElem? (i := 2) rfl) rfl _ _ rfl rfl)] at hwant; cases hwant
 case r22 =>
  refine C2 fun b w hW hold hpre => ⟨fun hwant K hK => ?_, fun hwant => ?_⟩
  ·clear hwant
   have e29 : b.eval (.tmp 29) = .bool true := hpre ⟨14, _⟩ (Array.mem_of_getElem? (i := 0) rfl) rfl _ _ rfl rfl
   have e36 : b.eval (.tmp 36) = .bool true := hpre ⟨21, _⟩ (Array.mem_of_getElem? (i := 1) rfl) rfl _ _ rfl rfl
   exact Ks rfl e29 (if_pos rfl) (hK _ _ e36 (Below.refl _ _))
  ·exact wo hwant
 case r23 =>
  refine C2 fun b w hW hold hpre => ⟨fun hwant K hK => ?_, fun hwant => ?_⟩
  ·clear hwant
   have e37 : b.eval (.tmp 37) = .bool true := hpre ⟨22, _⟩ (Array.mem_of_getElem? (i := 0) rfl) rfl _ _ rfl rfl
   exact DA rfl e37 (hK _ _ rfl (Below.refl _ _))
  ·exact wo hwant
 case post =>
  intro b w hW hdf hsz hold hT
  have h0 : b.tmps.getD 0 undef = .bool true := hT 23 _ 0 rfl rfl
  go_wp2_with fail
  refine bodyPost_ret (v := .bool true) ?_ hdf (Aw.mk rfl (Cj hB hW))
  rw [results_tmp (t := 0) rfl, h0]
end
section
open Go.RowKit
attribute [local go_sem ↓] Go.wp_at_zero Go.wp_at_succ
set_option maxRecDepth 20000
theorem Ba.row {w : World} {D : Nat -> Prop} {v : Value} {c : CD} (h : Ba w D v c) : ∃ cs : Array Value, v = .agg cs /\ cs.size = 35 /\ cs.all (·.oneCell') = true := by
 obtain ⟨pv, qv, rfl, h32, _, hp, hq⟩ := h.cc
 obtain ⟨A, c1, rfl, _, _⟩ := hp.shape
 obtain ⟨B, c2, rfl, _, _⟩ := hq.shape
 exact ⟨_, rfl, CN _ _ _ _ h32, cc_one _ _ _ _ _ _ _ _⟩
theorem eqC_self (a : CD) : eqC a a = true := by simp [eqC]
end
section
open Go.RowKit
set_option maxRecDepth 20000
set_option exponentiation.threshold 5000
theorem t64_4096 : AE <= 2 ^ 4096 := by rw [BZ]; exact Nat.pow_le_pow_right (by decide) (by decide)
theorem BO {N : Nat} (h : N < AE) : N < 2 ^ 4096 /\ (N ≠ 0 -> N.log2 <= 63) := by
 refine ⟨Nat.lt_of_lt_of_le h t64_4096, fun h0 => ?_⟩
 have := (Nat.log2_lt h0).2 (by rw [BZ] at h; exact h)
 omega
end
section
open Go.RowKit
set_option maxRecDepth 20000
set_option exponentiation.threshold 5000
theorem hi7_zero (f : Nat) : hi7 f 0 = [] := by cases f <;> simp [hi7]
end
section
open Go.RowKit
set_option maxRecDepth 20000
set_option exponentiation.threshold 5000
end
section
open Go.RowKit
attribute [local go_sem ↓] Go.wp_at_zero Go.wp_at_succ
set_option maxRecDepth 20000
theorem Ba.of_cc {w : World} {D : Nat -> Prop} {prob : List Nat} {reach : Bool} {pv qv : Value} {plan : List Int} {cubes : List (Nat × Nat)} (h32 : prob.length = 32) (hb : AK prob) (hp : Sl w D 1 pv plan.length (AM plan)) (hq : Af w D qv cubes) : Ba w D (.agg (Go.Proofs.YtchjigffejhmfaaGreatDoor.cc prob reach pv qv)) ⟨prob, reach, plan, cubes⟩ := by
 refine ⟨_, pv, qv, rfl, CN _ _ _ _ h32, h32, hb, fun i hi => ?_, (cc_at _ _ _ _ h32).1, (cc_at _ _ _ _ h32).2.1, (cc_at _ _ _ _ h32).2.2, hp, hq⟩
 simp only [Go.Proofs.YtchjigffejhmfaaGreatDoor.cc, List.getElem?_toArray]
 rw [List.getElem?_append_left (by simp [Ad]; omega)]
 exact CU _ _ (by omega)
theorem AK.rep (n : Nat) : AK (List.replicate n 0) := fun x hx => by rw [(List.mem_replicate.1 hx).2]; decide
end
section
open Go.RowKit
attribute [local go_sem ↓] Go.wp_at_zero Go.wp_at_succ
set_option maxRecDepth 20000
set_option exponentiation.threshold 5000
theorem built_reached (prob : List Nat) (A : Option Addr) (n c : Nat) (h : prob.length = 32) :
  Tryz.prog.built 96 [(0, .agg (Ad prob).toArray), (1, .bool true), (2, .slice A n c)] = some (cc prob true (.slice A n c) (.slice none 0 0)) := by
 match prob, h with
 | [a0, a1, a2, a3, a4, a5, a6, a7, a8, a9, a10, a11, a12, a13, a14, a15, a16, a17, a18, a19, a20, a21, a22, a23, a24, a25, a26, a27, a28, a29, a30, a31], _ =>
  show _ = _
  kernel_rfl
theorem built_closed (prob : List Nat) (A : Option Addr) (n c : Nat) (h : prob.length = 32) :
  Tryz.prog.built 96 [(0, .agg (Ad prob).toArray), (3, .slice A n c)] = some (cc prob false (.slice none 0 0) (.slice A n c)) := by
 match prob, h with
 | [a0, a1, a2, a3, a4, a5, a6, a7, a8, a9, a10, a11, a12, a13, a14, a15, a16, a17, a18, a19, a20, a21, a22, a23, a24, a25, a26, a27, a28, a29, a30, a31], _ =>
  show _ = _
  kernel_rfl
theorem sha3_bytes (l : List Nat) : AK (CQ l) := by
 intro x hx
 unfold CQ GT at hx
 simp only [List.mem_map] at hx
 obtain ⟨i, _, rfl⟩ := hx
 unfold Gw
 omega
theorem Kk (p : AZ) : AK (pidC p) := by
 unfold pidC
 split
 ·exact sha3_bytes _
 ·intro x hx; rw [List.mem_replicate] at hx; omega
set_option maxHeartbeats 1000000 in
theorem creached_any {w0 : World} {D E : Nat -> Prop} {v pv : Value} {p : AZ} {plan : List Int} (hp : Bo w0 D v p) (hP : p.Ok) (hT : BD w0) (hTB : Gx w0) (hl : Sl w0 E 1 pv plan.length (AM plan)) (hn : plan.length <= 1000000) :
  Calls Tryz.prog 44 #[v, pv] w0 (Aw (fun x w' => Ba w' (w0.heap.size <= ·) x ⟨pidC p, true, plan, []⟩) w0) := by
 obtain ⟨xs, rfl, hx6, hx1⟩ := hp.cells
 have HX6 := Lib.hid hx6
 have HI6 := Lib.hid (show (Tryz.prog.info? 43).map (·.size) = some xs.size by rw [hx6]; kernel_rfl)
 obtain ⟨A, c, rfl, _, _⟩ := hl.shape
 obtain ⟨K, kp, kl, hS⟩ : ∃ K : (Nat -> Prop) -> World -> Prop, (∀ D w, K D w -> Bo w D (.agg xs) p) /\ (∀ D w, K D w -> Sl w D 1 (.slice A plan.length c) plan.length (AM plan)) /\ St w0 w0 [] K := ⟨fun D w => Bo w D (.agg xs) p /\ Sl w D 1 (.slice A plan.length c) plan.length (AM plan), fun _ _ h => h.1, fun _ _ h => h.2, St.start (D := fun _ => True) (CV.and (Aj (by decide))) ⟨CV D _ w0 w0 hp (Nat.le_refl _) (fun _ _ _ _ h => h) fun _ _ _ _ => trivial, hl.imp fun _ _ _ => trivial⟩⟩
 have HDT := Lib.hid hT
 have HTB := Lib.hid hTB
 have HPD := Lib.hid (fun (w : World) (D : Nat -> Prop) (h1 : Bo w D (.agg xs) p) (h2 : BD w) (h3 : Gx w) => pid_any h1 hP h2 h3)
 obtain ⟨q, hq⟩ : ∃ q, pidC p = q := ⟨_, rfl⟩
 have H32 : Hid (q.length = 32) := Lib.hid (by rw [<- hq]; exact FR p)
 have HBY : Hid (AK q) := Lib.hid (by rw [<- hq]; exact Kk p)
 rw [hq] at HPD ⊢
 clear hp hP hT hTB hl hq hx6
 have HOne := Lib.hid (ints_one plan)
 have HSZ : Hid ((Tryz.prog.info? 96).map (·.size) = some 35) := Lib.hid (by kernel_rfl)
 go_enter Tryz.func44, Tryz.ntmps44
 go_wp2_with (first
  | ((with_reducible refine qA 2 ?_); refine AH hS rfl _ _ rfl (.agg xs) _ rfl rfl ?_; clear hS; intro g2 w_ hS; (try simp only [Act.put, Act.eval, zz, Value.cells] at hS))
  | ((with_reducible refine qA 4 ?_); refine Cp hS rfl _ rfl (by kernel_rfl) (cc (List.replicate 32 0) false (.slice none 0 0) (.slice none 0 0)) (by kernel_rfl) ?_; clear hS; intro g4 w_ hS; (try simp only [Act.put, Act.eval, zz, Value.cells] at hS))
  | ((with_reducible refine qk 43 ?_); refine DU hS 1 rfl _ _ rfl g2 rfl _ xs rfl _ Tryz.underlying43 rfl HI6.out ?_)
  | (go_at_call 40; refine (HPD.out _ _ (kp _ _ hS.ro) (HDT.out.ext hS.below) (HTB.out.ext hS.below)).mono ?_; rintro r_ w2 ⟨_, rfl, rfl, hb2⟩; replace hS := hS.ext hb2; clear hb2)
  | (go_at_call 113; refine (iclone_any (kl _ _ hS.ro) HOne.out (by omega)).mono ?_; rintro e w_ ⟨cv, rfl, hs_⟩; replace hS := hS.new hs_.below (.own cv 3 1 plan.length (AM plan)) (hs_.own 0 rfl); clear hs_; obtain ⟨A8, c8, rfl, _, _⟩ := C7 (hS.own 0 rfl))
  | ((with_reducible refine qA 9 ?_); refine BigFrame.wpList_want rfl fun _ hK => BP rfl (ps := [(0, .agg (Ad q).toArray), (1, .bool true), (2, .slice A8 plan.length c8)]) (by simp [Act.eval]) (built_reached q A8 plan.length c8 H32.out) (hK _ _ ?_))
  | ((with_reducible refine qm 96 ?_); refine Cc hS 1 rfl _ _ _ rfl g4 (cc q true (.slice A8 plan.length c8) (.slice none 0 0)) rfl rfl _ _ rfl (by rw [CN _ _ _ _ H32.out]; exact HSZ.out) (by rw [CN _ _ _ _ H32.out, CN _ _ _ _ (by simp)]) (cc_one _ _ _ _ _ _ _ _) ?_; clear hS; intro w_ hS; (try simp only [Act.put, Act.eval, zz, Value.cells] at hS)))
 refine CX rfl rfl (hS.box 1 rfl) Tryz.underlying96 rfl (by rw [CN _ _ _ _ H32.out]; exact HSZ.out) rfl (Aw.mk ?_ hS.below)
 exact Ba.of H32.out HBY.out (Sl.of_own (hS.own 0 rfl)) Af.nil
set_option maxHeartbeats 1000000 in
theorem cclosed_any {w0 : World} {D E : Nat -> Prop} {v qv : Value} {p : AZ} {cubes : List (Nat × Nat)} {ys : List Value} (hp : Bo w0 D v p) (hP : p.Ok) (hT : BD w0) (hTB : Gx w0) (hl : Sl w0 E 2 qv cubes.length ys) (ho : ∀ u ∈ ys, u.oneCell' = true) (hn : cubes.length <= 1000000) :
  Calls Tryz.prog 45 #[v, qv] w0 (Aw (fun x w' => ∃ A c, x = .agg (cc (pidC p) false (.slice none 0 0) (.slice A cubes.length c)) /\ Sl w' (w0.heap.size <= ·) 2 (.slice A cubes.length c) cubes.length ys) w0) := by
 obtain ⟨xs, rfl, hx6, hx1⟩ := hp.cells
 have HI6 := Lib.hid (show (Tryz.prog.info? 43).map (·.size) = some xs.size by rw [hx6]; kernel_rfl)
 obtain ⟨A, c, rfl, _, _⟩ := hl.shape
 obtain ⟨K, kp, kl, hS⟩ : ∃ K : (Nat -> Prop) -> World -> Prop, (∀ D w, K D w -> Bo w D (.agg xs) p) /\ (∀ D w, K D w -> Sl w D 2 (.slice A cubes.length c) cubes.length ys) /\ St w0 w0 [] K := ⟨fun D w => Bo w D (.agg xs) p /\ Sl w D 2 (.slice A cubes.length c) cubes.length ys, fun _ _ h => h.1, fun _ _ h => h.2, St.start (D := fun _ => True) (CV.and (Aj (by decide))) ⟨CV D _ w0 w0 hp (Nat.le_refl _) (fun _ _ _ _ h => h) fun _ _ _ _ => trivial, hl.imp fun _ _ _ => trivial⟩⟩
 have HDT := Lib.hid hT
 have HTB := Lib.hid hTB
 have HPD := Lib.hid (fun (w : World) (D : Nat -> Prop) (h1 : Bo w D (.agg xs) p) (h2 : BD w) (h3 : Gx w) => pid_any h1 hP h2 h3)
 obtain ⟨q, hq⟩ : ∃ q, pidC p = q := ⟨_, rfl⟩
 have H32 : Hid (q.length = 32) := Lib.hid (by rw [<- hq]; exact FR p)
 rw [hq] at HPD ⊢
 clear hp hP hT hTB hl hq hx6
 have HOne := Lib.hid ho
 have HSZ : Hid ((Tryz.prog.info? 96).map (·.size) = some 35) := Lib.hid (by kernel_rfl)
 generalize cubes.length = n at *
 clear ho
 go_enter Tryz.func45, Tryz.ntmps45
 go_wp2_with (first
  | ((with_reducible refine qA 2 ?_); refine AH hS rfl _ _ rfl (.agg xs) _ rfl rfl ?_; clear hS; intro g2 w_ hS; (try simp only [Act.put, Act.eval, zz, Value.cells] at hS))
  | ((with_reducible refine qA 4 ?_); refine Cp hS rfl _ rfl (by kernel_rfl) (cc (List.replicate 32 0) false (.slice none 0 0) (.slice none 0 0)) (by kernel_rfl) ?_; clear hS; intro g4 w_ hS; (try simp only [Act.put, Act.eval, zz, Value.cells] at hS))
  | ((with_reducible refine qk 43 ?_); refine DU hS 1 rfl _ _ rfl g2 rfl _ xs rfl _ Tryz.underlying43 rfl HI6.out ?_)
  | (go_at_call 40; refine (HPD.out _ _ (kp _ _ hS.ro) (HDT.out.ext hS.below) (HTB.out.ext hS.below)).mono ?_; rintro r_ w2 ⟨_, rfl, rfl, hb2⟩; replace hS := hS.ext hb2; clear hb2)
  | (go_at_call 114; refine (kclone_any (kl _ _ hS.ro) HOne.out (by omega)).mono ?_; rintro e w_ ⟨cv, rfl, hs_⟩; replace hS := hS.new hs_.below (.own cv 56 2 n ys) (hs_.own 0 rfl); clear hs_; obtain ⟨A8, c8, rfl, _, _⟩ := C7 (hS.own 0 rfl))
  | ((with_reducible refine qA 9 ?_); refine BigFrame.wpList_want rfl fun _ hK => BP rfl (ps := [(0, .agg (Ad q).toArray), (3, .slice A8 n c8)]) (by simp [Act.eval]) (built_closed q A8 n c8 H32.out) (hK _ _ ?_))
  | ((with_reducible refine qm 96 ?_); refine Cc hS 1 rfl _ _ _ rfl g4 (cc q false (.slice none 0 0) (.slice A8 n c8)) rfl rfl _ _ rfl (by rw [CN _ _ _ _ H32.out]; exact HSZ.out) (by rw [CN _ _ _ _ H32.out, CN _ _ _ _ (by simp)]) (cc_one _ _ _ _ _ _ _ _) ?_; clear hS; intro w_ hS; (try simp only [Act.put, Act.eval, zz, Value.cells] at hS)))
 refine CX rfl rfl (hS.box 1 rfl) Tryz.underlying96 rfl (by rw [CN _ _ _ _ H32.out]; exact HSZ.out) rfl (Aw.mk ?_ hS.below)
 exact ⟨A8, c8, rfl, Sl.of_own (hS.own 0 rfl)⟩
end
section
open Go.RowKit
attribute [local go_sem ↓] Go.wp_at_zero Go.wp_at_succ
set_option maxRecDepth 20000
set_option exponentiation.threshold 5000
theorem Ga : Bi Tryz.prog 22 5 1 1 := ⟨Tryz.underlying22, by kernel_rfl⟩
end
section
open Go.RowKit
attribute [local go_sem ↓] Go.wp_at_zero Go.wp_at_succ
set_option maxRecDepth 20000
set_option exponentiation.threshold 5000
def FA (w : World) (base : Nat) (x : Value) (bs : List Nat) : Prop := w.ownsRow base 5 1 x bs.length (Ad bs)
set_option maxHeartbeats 1000000 in
theorem DM (V : Nat) (hV : V < AE) (w0 : World) : Calls Tryz.prog 161 #[.int .u64 (V : Nat)] w0 (Aw (fun x w' => FA w' w0.heap.size x (Az V)) w0) := by
 have hS := St.start0 (w := w0)
 have hR : Hid (∃ f, V / 128 < 128 ^ f /\ Az V = (hi7 f (V / 128)).reverse ++ [V % 128]) := Lib.hid ⟨10, by unfold AE at hV; omega, by simp [Az]⟩
 have HL := Lib.hid (AB V)
 generalize Az V = RES at *
 have h1 := FI V 128
 have h2 : IntKind.u8.wrap ((V % 128 : Nat) : Int) = ((V % 128 : Nat) : Int) := J4 (by omega)
 have h0 : V % 128 < 256 := by omega
 generalize V % 128 = r0 at *
 go_enter Tryz.func161, Tryz.ntmps161
 go_wp2_with ((with_reducible show wpList _ _ _ (⟨_, .buildSlice _ 1 _, _, _, _, _⟩ :: _) _ _); refine Dg hS rfl _ 5 1 _ rfl Tryz.underlying22 #[.int .u8 (r0 : Nat)] (by kernel_rfl) 1 rfl (by decide) ?_; clear hS; intro g w_ hS)
 go_loopw [0, 3] (fun n out wr => ∃ (v : Nat) (acc : List Nat) (ov : Value), n = .int .u64 (v : Nat) /\ out = ov /\ v < AE /\ St w0 wr [.own ov 5 1 acc.length (Ad acc)] (fun _ _ => True) /\ Hid (∃ f, v / 128 < 128 ^ f /\ RES = (hi7 f (v / 128)).reverse ++ acc)) (fun n _ _ => (intOf n).toNat)
 case atStart => exact ⟨V, [r0], _, rfl, rfl, hV, hS, hR⟩
 case round =>
  clear hS
  obtain ⟨v, acc, ov, rfl, rfl, hv, hS, hR⟩ := hrel
  by_cases hb : v < 128
  ·have hE : RES = acc := by
    obtain ⟨f, _, h⟩ := hR.out
    rw [h, show v / 128 = 0 by omega, hi7_zero]; rfl
   subst hE
   go_wp2_with (first | ((with_reducible refine qB ?_); refine qc ?_ ?_ <;> intro h_ <;> go_prune))
   go_ret
   exact Aw.mk (hS.own 0 rfl) hS.below
  ·obtain ⟨q, hqe⟩ : ∃ q, q = v / 128 := ⟨_, rfl⟩
   rw [<- hqe] at hR
   have h1 : ((q : Int)).tmod 128 = ((q % 128 : Nat) : Int) := FI q 128
   have h2 : (((q % 128 : Nat) : Int)) % 256 = ((q % 128 : Nat) : Int) := by omega
   have h3 : (((q % 128 : Nat) : Int) + 128) % 256 = ((q % 128 : Nat) : Int) + 128 := by omega
   have hw : IntKind.u64.wrap ((v : Int) / 128) = ((q : Nat) : Int) := by
    rw [show (v : Int) / 128 = ((q : Nat) : Int) by rw [hqe]; simp]; exact Cv (by omega)
   have hR2 : Hid (∃ f, q / 128 < 128 ^ f /\ RES = (hi7 f (q / 128)).reverse ++ ((q % 128 + 128) :: acc)) := by
    obtain ⟨f, h, e⟩ := hR.out
    cases f with
    | zero => simp at h; omega
    | succ f =>
     refine Lib.hid ⟨f, by rw [Nat.pow_succ] at h; omega, ?_⟩
     rw [e, hi7, if_neg (by omega)]; simp
   have hlt : q < v := by omega
   have hv2 : q < AE := by omega
   have h0 : q % 128 < 128 := by omega
   generalize q % 128 = r at *
   have hal : acc.length <= 11 := by
    obtain ⟨f, _, e⟩ := hR.out
    have := congrArg List.length e
    rw [List.length_append] at this
    have := HL.out; omega
   have HQ := Lib.hid hqe
   clear hR hqe
   go_wp2_with (first
    | ((with_reducible refine qB ?_); refine qc ?_ ?_ <;> intro h_ <;> go_prune)
    | ((with_reducible show wpList _ _ _ (⟨_, .buildSlice _ 1 _, _, _, _, _⟩ :: _) _ _); refine Dg hS rfl _ 5 1 _ rfl Tryz.underlying22 #[.int .u8 ((r : Int) + 128)] (by kernel_rfl) 1 rfl (by decide) ?_; clear hS; intro g w_ hS)
    | ((with_reducible refine qA 18 ?_); refine Dp hS 0 rfl _ _ _ rfl Ga _ 1 [.int .u8 ((r : Int) + 128)] rfl rfl _ _ acc.length (Ad acc) rfl (Sl.of_own (hS.own 1 rfl)) (B7 _) (by unfold maxLen; omega) (by omega) ?_; clear hS; intro v_ w_ hS; (try simp only [Act.put, Act.eval, zz, Value.cells] at hS)))
   refine ⟨⟨q, (r + 128) :: acc, v_, rfl, rfl, hv2, ?_, hR2⟩, by simp [intOf]; exact hlt⟩
   have h := hS.sub (F' := [_]) (.cons_cons _ (.cons _ .slnil))
   rw [Nat.add_comm 1] at h
   simpa [Ad] using h
theorem rflag02_any (b : Bool) (w0 : World) : Calls Tryz.prog 164 #[.bool b] w0 (Aw (fun x w' => FA w' w0.heap.size x (BI b)) w0) := by
 have hS := St.start0 (w := w0)
 go_enter Tryz.func164, Tryz.ntmps164
 cases b
 ·go_wp2_with ((with_reducible show wpList _ _ _ (⟨_, .buildSlice _ 1 _, _, _, _, _⟩ :: _) _ _); refine Dg hS rfl _ 5 1 _ rfl Tryz.underlying22 #[.int .u8 0] (by kernel_rfl) 1 rfl (by decide) ?_; clear hS; intro g w_ hS)
  go_ret
  exact Aw.mk (hS.own 0 rfl) hS.below
 ·go_wp2_with ((with_reducible show wpList _ _ _ (⟨_, .buildSlice _ 1 _, _, _, _, _⟩ :: _) _ _); refine Dg hS rfl _ 5 1 _ rfl Tryz.underlying22 #[.int .u8 1] (by kernel_rfl) 1 rfl (by decide) ?_; clear hS; intro g w_ hS)
  go_ret
  exact Aw.mk (hS.own 0 rfl) hS.below
theorem I7 {w : World} {base n : Nat} {v : Value} {xs : List Value} {bs : List Nat} (h : w.ownsRow base 5 1 v n xs) (e : xs = Ad bs) : FA w base v bs := by
 subst e
 have : bs.length = n := by have := h.1; simpa [Ad] using this
 unfold FA; rw [this]; exact h
theorem Gf (p : Value) (ps : List Nat) (hl : ps.length <= 1000000000) (w0 : World) (D : Nat -> Prop) (hp : Sl w0 D 1 p ps.length (Ad ps)) :
  Calls Tryz.prog 159 #[p] w0 (Aw (fun x w' => FA w' w0.heap.size x (Az ps.length ++ ps)) w0) := by
 have hS := St.start0 (w := w0)
 obtain ⟨A, c, rfl, _, _⟩ := hp.shape
 have HP := Lib.hid hp
 have hw : IntKind.u64.wrap (ps.length : Int) = (ps.length : Int) := Cv (by unfold AE; omega)
 have hpl := AB ps.length
 clear hp
 go_enter Tryz.func159, Tryz.ntmps159
 go_wp2_with (first
  | (go_at_call 161; refine (DM ps.length (by unfold AE; omega) _).mono ?_; rintro r_ w1 ⟨v, rfl, h1, hb1⟩; replace hS := hS.owned hb1 h1; replace HP := Lib.hid (HP.out.ext hb1); clear h1 hb1)
  | ((with_reducible refine qA 8 ?_); refine Dp hS 0 rfl _ _ _ rfl Ga _ _ _ rfl rfl _ _ ps.length (Ad ps) rfl HP.out (B7 _) (by unfold maxLen; omega) (by omega) ?_; clear hS; intro v_ w_ hS; (try simp only [Act.put, Act.eval, zz, Value.cells] at hS)))
 go_ret
 exact Aw.mk (I7 (hS.own 0 rfl) (by simp [Ad])) hS.below
def Ck (l : List Nat) : Nat := l.foldl (fun M x => M ||| 2 ^ x) 0
theorem orAll_fold (l : List Nat) : ∀ M i, (l.foldl (fun M x => M ||| 2 ^ x) M).testBit i = (M.testBit i || decide (i ∈ l)) := by
 induction l with
 | nil => simp
 | cons x r ih =>
  intro M i
  rw [List.foldl_cons, ih, Nat.testBit_or, Nat.testBit_two_pow]
  by_cases h : x = i
  ·subst h; simp
  ·have : ¬ i = x := fun e => h e.symm
   simp [h, this]
theorem E1 (l : List Nat) (i : Nat) : (Ck l).testBit i = decide (i ∈ l) := by simp [Ck, orAll_fold]
theorem orAll_members {N : Nat} (h : N < AE) : Ck (AW N) = N := by
 apply Nat.eq_of_testBit_eq
 intro i
 rw [E1]
 by_cases hi : i < 64
 ·simp [AW, C0, hi]
 ·rw [Dn h (by omega)]; simp [AW, C0, hi]
def topN (l : List Nat) : Int := l.foldl (fun (t : Int) (x : Nat) => if (x : Int) > t then (x : Int) else t) (-1)
theorem topN_fold (l : List Nat) : ∀ t : Int, -1 <= t -> -1 <= l.foldl (fun (t : Int) (x : Nat) => if (x : Int) > t then (x : Int) else t) t /\ t <= l.foldl (fun (t : Int) (x : Nat) => if (x : Int) > t then (x : Int) else t) t /\ (∀ x ∈ l, (x : Int) <= l.foldl (fun (t : Int) (x : Nat) => if (x : Int) > t then (x : Int) else t) t) /\ (l.foldl (fun (t : Int) (x : Nat) => if (x : Int) > t then (x : Int) else t) t = t \/ ∃ x ∈ l, l.foldl (fun (t : Int) (x : Nat) => if (x : Int) > t then (x : Int) else t) t = (x : Int)) := by
 induction l with
 | nil => intro t h; exact ⟨h, Int.le_refl _, by simp, .inl rfl⟩
 | cons x r ih =>
  intro t h
  rw [List.foldl_cons]
  obtain ⟨h1, h2, h3, h4⟩ := ih (if (x : Int) > t then (x : Int) else t) (by split <;> omega)
  have h5 : (x : Int) <= (if (x : Int) > t then (x : Int) else t) /\ t <= (if (x : Int) > t then (x : Int) else t) /\ ((if (x : Int) > t then (x : Int) else t) = x \/ (if (x : Int) > t then (x : Int) else t) = t) := by
   by_cases hx : (x : Int) > t
   ·rw [if_pos hx]; omega
   ·rw [if_neg hx]; omega
  refine ⟨h1, by omega, ?_, ?_⟩
  ·intro y hy
   rcases List.mem_cons.1 hy with rfl | hy
   ·omega
   ·exact h3 y hy
  ·rcases h4 with h4 | ⟨y, hy, h4⟩
   ·rcases h5.2.2 with e | e
    ·exact .inr ⟨x, by simp, by rw [h4, e]⟩
    ·exact .inl (by rw [h4, e])
   ·exact .inr ⟨y, by simp [hy], h4⟩
theorem topN_log {l : List Nat} : (l = [] /\ topN l = -1) \/ (l ≠ [] /\ Ck l ≠ 0 /\ topN l = ((Ck l).log2 : Nat)) := by
 obtain ⟨h1, h2, h3, h4⟩ := topN_fold l (-1) (by omega)
 cases l with
 | nil => exact .inl ⟨rfl, rfl⟩
 | cons y r =>
  right
  have hy := h3 y (by simp)
  rcases h4 with h4 | ⟨x, hx, h4⟩
  ·rw [h4] at hy; omega
  ·have hb : (Ck (y :: r)).testBit x = true := by rw [E1]; simpa using hx
   have hne : Ck (y :: r) ≠ 0 := fun e => by rw [e] at hb; simp at hb
   refine ⟨by simp, hne, ?_⟩
   have hge := Nat.ge_two_pow_of_testBit hb
   have hlt : Ck (y :: r) < 2 ^ (x + 1) := by
    apply Nat.lt_pow_two_of_testBit
    intro i hi
    rw [E1]
    have : ¬ i ∈ y :: r := fun hm => by have := h3 i hm; rw [h4] at this; omega
    simpa using this
   have h6 : (Ck (y :: r)).log2 = x := by
    have a1 : (Ck (y :: r)).log2 < x + 1 := (Nat.log2_lt hne).2 hlt
    have a2 : ¬ (Ck (y :: r)).log2 < x := fun h => by have := (Nat.log2_lt hne).1 h; omega
    omega
   rw [h6]; exact h4
theorem topN_step {l : List Nat} {k : Nat} (h : k < l.length) : topN (l.take (k + 1)) = if ((l.getD k 0 : Nat) : Int) > topN (l.take k) then ((l.getD k 0 : Nat) : Int) else topN (l.take k) := by
 rw [EL l k 0 h, topN, List.foldl_append]; rfl
def byB (M m : Nat) : List Nat := (List.range m).map fun j => (M >>> (8 * j)) % 256
theorem byB_zero (m : Nat) : byB 0 m = List.replicate m 0 := by
 unfold byB
 apply List.ext_getElem
 ·simp
 ·intro j h1 h2; simp
theorem byB_at {M m j : Nat} (h : j < m) : (byB M m).getD j 0 = (M >>> (8 * j)) % 256 := by
 rw [byB, GX, if_pos h]
theorem byB_set {M m x : Nat} (h : x / 8 < m) : (byB M m).set (x / 8) ((byB M m).getD (x / 8) 0 ||| 2 ^ (x % 8)) = byB (M ||| 2 ^ x) m := by
 apply List.ext_getElem
 ·simp [byB]
 ·intro j h1 h2
  have hj : j < m := by simpa [byB] using h2
  rw [List.getElem_set]
  have hat := byB_at (M := M) h
  have key : ∀ i, ((M ||| 2 ^ x) >>> (8 * i)) % 256 = (M >>> (8 * i)) % 256 ||| (if x / 8 = i then 2 ^ (x % 8) else 0) := by
   intro i
   apply Nat.eq_of_testBit_eq
   intro b
   rw [Nat.testBit_or, show (256 : Nat) = 2 ^ 8 from rfl, Nat.testBit_mod_two_pow, Nat.testBit_mod_two_pow, Nat.testBit_shiftRight, Nat.testBit_shiftRight, Nat.testBit_or, Nat.testBit_two_pow]
   by_cases hb : b < 8
   ·by_cases e : x / 8 = i
    ·rw [if_pos e, Nat.testBit_two_pow]
     simp only [hb, decide_true, Bool.true_and]
     congr 1
     by_cases e2 : x = 8 * i + b
     ·rw [decide_eq_true e2, decide_eq_true (by omega)]
     ·rw [decide_eq_false e2, decide_eq_false (by omega)]
    ·rw [if_neg e, Nat.zero_testBit, Bool.or_false, decide_eq_false (show ¬ x = 8 * i + b by omega), Bool.or_false]
   ·simp only [hb, decide_false, Bool.false_and, Bool.false_or]
    split
    ·rw [Nat.testBit_two_pow, decide_eq_false (by omega)]
    ·simp
  by_cases e : x / 8 = j
  ·rw [if_pos e, hat]; simp only [byB, List.getElem_map, List.getElem_range]; rw [key, if_pos e, e]
  ·rw [if_neg e]; simp only [byB, List.getElem_map, List.getElem_range]; rw [key, if_neg e, Nat.or_zero]
theorem orAll_step {l : List Nat} {k : Nat} (h : k < l.length) : Ck (l.take (k + 1)) = Ck (l.take k) ||| 2 ^ (l.getD k 0) := by
 rw [EL l k 0 h, Ck, List.foldl_append]; rfl
theorem setBytes_byB {N : Nat} (h : N ≠ 0) : BL N = byB N (N.log2 / 8 + 1) := by rw [BL, if_neg h]; rfl
theorem ints_nat (l : List Nat) (k : Nat) (h : k < l.length) : (AM (Ah l))[k]? = some (.int .i64 (l.getD k 0 : Nat)) := by
 simp [AM, Ah, List.getElem?_eq_getElem h, List.getD_eq_getElem?_getD]
theorem Dc : Bi Tryz.prog 22 5 1 1 := ⟨Tryz.underlying22, by kernel_rfl⟩
set_option maxHeartbeats 1000000 in
theorem rsetb_any (p : Value) (l : List Nat) (hl : l.length <= 1000000 /\ ∀ x ∈ l, x < 4096) (w0 : World) (D : Nat -> Prop) (hp : Sl w0 D 1 p l.length (AM (Ah l))) :
  Calls Tryz.prog 223 #[p] w0 (Aw (fun x w' => FA w' w0.heap.size x (BL (Ck l))) w0) := by
 obtain ⟨A, c, rfl, _, _⟩ := hp.shape
 obtain ⟨K, hk, hS⟩ : ∃ K, (∀ D w, K D w -> Sl w D 1 (.slice A l.length c) l.length (AM (Ah l))) /\ St w0 w0 [] K := ⟨fun D w => Sl w D 1 (.slice A l.length c) l.length (AM (Ah l)), fun _ _ h => h, St.start Aj hp⟩
 clear hp
 have HL := Lib.hid hl.2
 obtain ⟨hll, -⟩ := hl
 go_enter Tryz.func223, Tryz.ntmps223
 go_wp2_with fail
 go_loopw [3, 11] (fun t i wr => ∃ k : Nat, k <= l.length /\ i = .int .i64 k /\ t = .int .i64 (topN (l.take k)) /\ St w0 wr [] K) (fun _ i _ => l.length - (intOf i).toNat)
 case atStart => exact ⟨0, by omega, rfl, rfl, hS⟩
 case round =>
  clear hS
  obtain ⟨k, hk2, rfl, rfl, hS⟩ := hrel
  by_cases hlt : k < l.length
  ·have f1 := ints_nat l k hlt
   have HT := Lib.hid (topN_step hlt)
   generalize l.getD k 0 = x at *
   generalize topN (l.take k) = T at *
   go_wp2_with (first | ((with_reducible refine qB ?_); refine qc ?_ ?_ <;> intro h_ <;> go_prune) | ((with_reducible refine qI ?_); refine Dx hS rfl _ _ _ rfl _ rfl rfl (by assumption) Tryz.underlying74 (by kernel_rfl) (by first | assumption | omega) _ (by assumption) ?_; intro p_ hc_))
   ·exact ⟨⟨k + 1, hlt, by go_num, by rw [HT.out, if_pos (by omega)], hS⟩, by simp [intOf]; omega⟩
   ·exact ⟨⟨k + 1, hlt, by go_num, by rw [HT.out, if_neg (by omega)], hS⟩, by simp [intOf]; omega⟩
  ·obtain rfl : k = l.length := by omega
   rw [List.take_length]
   rcases topN_log (l := l) with ⟨rfl, hz⟩ | ⟨hne, h0, ht⟩
   ·rw [hz]
    go_wp2_with (first | ((with_reducible refine qB ?_); refine qc ?_ ?_ <;> intro h_ <;> go_prune))
    go_ret
    exact Aw.mk (World.ownsRow_nil _ _ _ _) hS.below
   ·have hlog : (Ck l).log2 < 4096 := by
     have hb : Ck l < 2 ^ 4096 := Nat.lt_pow_two_of_testBit _ fun i hi => by
      rw [E1]
      have : ¬ i ∈ l := fun hm => by have := HL.out i hm; omega
      simpa using this
     exact (Nat.log2_lt h0).2 hb
    have HN := Lib.hid (setBytes_byB h0)
    have HX := Lib.hid (show ∀ x ∈ l, x <= (Ck l).log2 from fun x hx => by
     have hb : (Ck l).testBit x = true := by rw [E1]; simpa using hx
     have := Nat.ge_two_pow_of_testBit hb
     have a2 : ¬ (Ck l).log2 < x := fun h => by have := (Nat.log2_lt h0).1 h; omega
     omega)
    rw [ht]
    generalize hT : (Ck l).log2 = T at *
    obtain ⟨n8, hn8⟩ : ∃ n, n = T / 8 + 1 := ⟨_, rfl⟩
    have hti : (T : Int) / 8 + 1 = (n8 : Int) := by omega
    have HN8 := Lib.hid hn8
    have HH0 := Lib.hid h0
    clear h0 ht hne hT
    have hn8b : n8 <= 600 := by omega
    clear hn8 hlt hk2
    go_wp2_with (first
     | ((with_reducible refine qB ?_); refine qc ?_ ?_ <;> intro h_ <;> go_prune)
     | ((with_reducible show wpList _ _ _ (⟨_, .makeSlice _ _ _, _, _, _, _⟩ :: _) _ _); refine J8 hS rfl _ _ _ rfl Dc .i64 .i64 n8 #[.int .u8 0] rfl rfl (by kernel_rfl) (by omega) (by omega) ?_; clear hS; intro g6 w_ hS))
    have hz : (madeCells #[Value.int .u8 0] (n8 * 1)).toList = Ad (byB (Ck (l.take 0)) n8) := by rw [Nat.mul_one, Fi]; simp [Ck, byB_zero]
    rw [hz] at hS
    clear hz hti
    go_loopw [28] (fun i wr => ∃ k : Nat, k <= l.length /\ i = .int .i64 k /\ St w0 wr [.own (.slice (some ⟨g6, 0, none⟩) n8 n8) 5 1 n8 (Ad (byB (Ck (l.take k)) n8))] K) (fun i _ => l.length - (intOf i).toNat)
    case atStart => exact ⟨0, by omega, rfl, hS⟩
    case round =>
     clear hS
     obtain ⟨k, hk2, rfl, hS⟩ := hrel
     by_cases hlt : k < l.length
     ·have f1 := ints_nat l k hlt
      have HT := Lib.hid (orAll_step hlt)
      have hxT : l.getD k 0 <= T := HX.out _ (by rw [List.getD_eq_getElem?_getD, List.getElem?_eq_getElem hlt]; exact List.getElem_mem hlt)
      generalize l.getD k 0 = x at *
      generalize Ck (l.take k) = M at *
      obtain ⟨q, hq⟩ : ∃ q, q = x / 8 := ⟨_, rfl⟩
      obtain ⟨r, hr⟩ : ∃ r, r = x % 8 := ⟨_, rfl⟩
      have hqn : q < n8 := by have := HN8.out; omega
      have hr8 : r < 8 := by omega
      have hB := byB_set (M := M) (m := n8) (x := x) (by omega)
      rw [<- hq, <- hr] at hB
      have hc : (Ad (byB M n8))[q]? = some (.int .u8 ((byB M n8).getD q 0 : Nat)) := CU _ _ (by simp [byB]; exact hqn)
      have hb256 : (byB M n8).getD q 0 < 256 := by rw [byB_at hqn]; omega
      generalize (byB M n8).getD q 0 = y at *
      have hpow : 2 ^ r < 256 := Nat.pow_lt_pow_right (by decide) hr8
      have hor := u8_or_nat y (2 ^ r) hb256 hpow
      have hq1 : (x : Int) / 8 = (q : Int) := by omega
      have hr1 : ((x : Int)).tmod 8 = (r : Int) := by rw [hr]; exact FI x 8
      have hsh : IntKind.u8.wrap (2 ^ r : Int) = ((2 ^ r : Nat) : Int) := by
       rw [show (2 ^ r : Int) = ((2 ^ r : Nat) : Int) by simp]; exact J4 hpow
      have HC := Lib.hid hc
      have HB := Lib.hid hB
      have HOr := Lib.hid hor
      generalize 2 ^ r = pw at *
      clear hq hr hB hc hor
      go_wp2_with (first
       | ((with_reducible refine qB ?_); refine qc ?_ ?_ <;> intro h_ <;> go_prune)
       | ((with_reducible refine qI ?_); refine Dx hS rfl _ _ _ rfl _ rfl rfl (by assumption) Tryz.underlying74 (by kernel_rfl) (by first | assumption | omega) _ (by assumption) ?_; intro p_ hc_)
       | ((with_reducible refine qA 39 ?_); refine BigFrame.wpList_want rfl fun _ hK => Ao rfl rfl (by kernel_rfl) (BV (hS.own 0 rfl) q _ HC.out) (hK _ _ ?_))
       | ((with_reducible refine qm 5 ?_); refine Dw hS 0 rfl _ _ _ rfl g6 q (.int .u8 ((y ||| pw : Nat) : Int)) rfl (congrArg (Value.int .u8) HOr.out) rfl (by omega) rfl rfl (by kernel_rfl) ?_; clear hS; intro w_ hS; (try simp only [Act.put, Act.eval, zz, Value.cells] at hS)))
      refine ⟨⟨k + 1, hlt, by go_num, ?_⟩, by simp [intOf]; omega⟩
      rw [<- G9, HB.out, <- HT.out] at hS
      exact hS
     ·obtain rfl : k = l.length := by omega
      rw [List.take_length] at hS
      go_wp2_with (first | ((with_reducible refine qB ?_); refine qc ?_ ?_ <;> intro h_ <;> go_prune))
      go_ret
      rw [HN.out, <- HN8.out]
      have h := hS.own 0 rfl
      exact Aw.mk (I7 h rfl) hS.below
theorem I9 {w : World} {b b' : Nat} {e : TypeId} {size n : Nat} {v : Value} {xs : List Value} (h : w.ownsRow b e size v n xs) (hb : b' <= b) : w.ownsRow b' e size v n xs := by
 refine ⟨h.1, ?_⟩
 rcases h.2 with h | ⟨g, cap, cur, h1, h2, h3⟩
 ·exact .inl h
 ·exact .inr ⟨g, cap, cur, h1, Nat.le_trans hb h2, h3⟩
theorem rputs_any (p : Value) (l : List Nat) (hl : l.length <= 1000000 /\ ∀ x ∈ l, x < 4096) (w0 : World) (D : Nat -> Prop) (hp : Sl w0 D 1 p l.length (AM (Ah l))) :
  Calls Tryz.prog 203 #[p] w0 (Aw (fun x w' => FA w' w0.heap.size x (Bc (Ck l))) w0) := by
 have hS := St.start0 (w := w0)
 have HC := Lib.hid (rsetb_any p l hl w0 D hp)
 have hsb : (BL (Ck l)).length <= 512 := F8 (Nat.lt_pow_two_of_testBit _ fun i hi => by
  rw [E1]
  have : ¬ i ∈ l := fun hm => by have := hl.2 i hm; omega
  simpa using this)
 clear hp hl
 go_enter Tryz.func203, Tryz.ntmps203
 go_wp2_with (first
  | (go_at_call 223; refine HC.out.mono ?_; rintro r_ w1 ⟨v, rfl, h1, hb1⟩; replace hS := hS.owned hb1 h1; clear hb1)
  | (go_at_call 159; refine (Gf v (BL (Ck l)) (by omega) _ _ (Sl.of_own (hS.own 0 rfl))).mono ?_; rintro r_ w2 ⟨v2, rfl, h2, hb2⟩))
 go_ret
 exact Aw.mk (I9 h2 hS.size) (hS.ext hb2).below
theorem GW (N : Nat) (hN : N < AE) (w0 : World) : Calls Tryz.prog 163 #[.int .u64 (N : Nat)] w0 (Aw (fun x w' => FA w' w0.heap.size x (Bc N)) w0) := by
 have hS := St.start0 (w := w0)
 have HO := Lib.hid (orAll_members hN)
 have HL := Lib.hid (show (AW N).length <= 1000000 /\ ∀ x ∈ AW N, x < 4096 from ⟨by have := IU N 64; unfold AW; omega, fun x hx => by
  simp [AW, C0] at hx; omega⟩)
 go_enter Tryz.func163, Tryz.ntmps163
 go_wp2_with (first
  | (go_at_call 81; refine (FV N _).mono ?_; rintro r_ w1 ⟨v, rfl, h1, hb1⟩; replace hS := hS.ret hb1 Aj h1; clear h1 hb1)
  | (go_at_call 203; refine (rputs_any v (AW N) HL.out _ _ hS.ro.2).mono ?_; rw [HO.out]; rintro r_ w2 ⟨v2, rfl, h2, hb2⟩))
 go_ret
 exact Aw.mk (I9 h2 hS.size) (hS.ext hb2).below
end
section
open Go.RowKit
attribute [local go_sem ↓] Go.wp_at_zero Go.wp_at_succ
set_option maxRecDepth 20000
theorem Ja (y n : Nat) (hy : y < AE) (hn : n < AE) (w0 : World) : Calls Tryz.prog 165 #[.agg #[.int .u64 (y : Nat), .int .u64 (n : Nat)]] w0 (Aw (fun x w' => FA w' w0.heap.size x (Bd y n)) w0) := by
 have hS := St.start0 (w := w0)
 have hly := Bh (BO hy).1
 have hln := Bh (BO hn).1
 go_enter Tryz.func165, Tryz.ntmps165
 go_wp2_with (first | ((with_reducible refine qA 1 ?_); refine AH hS rfl _ _ rfl (.agg #[.int .u64 (y : Nat), .int .u64 (n : Nat)]) _ rfl rfl ?_; clear hS; intro g1 w_ hS; (try simp only [Act.put, Act.eval, zz, Value.cells] at hS)))
 refine Fv (fun i__ lo hi v w => match i__ with
  | 0 => v = .pointer (some ⟨g1, 0, none⟩)
  | 1 => v = .int .u64 (y : Nat)
  | 2 => w.ownsRow lo 5 1 v (Bc y).length (Ad (Bc y)) /\ ∀ b, v.ownBlock = some b -> b < hi
  | 3 => v = .pointer (some ⟨g1, 1, none⟩)
  | 4 => v = .int .u64 (n : Nat)
  | 5 => w.ownsRow lo 5 1 v (Bc n).length (Ad (Bc n)) /\ ∀ b, v.ownBlock = some b -> b < hi
  | 6 => True
  | 7 => True
  | _ => True) 6 [7] (by kernel_rfl) (by kernel_rfl) (by kernel_rfl) (by kernel_rfl) (by kernel_rfl) ?mono ⟨.inr ?r0, .inr ?r1, .inr ?r2, .inr ?r3, .inr ?r4, .inr ?r5, .inl (by decide), .inl (by decide), trivial⟩ ?post
 case mono =>
  intro i lo hi v w w' h hb
  match i, h with
  | 0, h | 1, h => exact h
  | 2, h => exact ⟨Fd h.1 hb, h.2⟩
  | 3, h | 4, h => exact h
  | 5, h => exact ⟨Fd h.1 hb, h.2⟩
  | 6, h | 7, h => exact h
  | _ + 8, h => trivial
 case r0 =>
  refine Dm fun b__ w hW hold hpre => wU rfl fun K hK => ?_
  have e1 : b__.eval (.tmp 1) = .pointer (some ⟨g1, 0, none⟩) := (hold 1 (by kernel_rfl)).trans rfl
  exact E2 rfl e1 (by kernel_rfl) (hK _ _ rfl (Below.refl _ _))
 case r1 =>
  refine Dm fun b__ w hW hold hpre => wU rfl fun K hK => ?_
  have e3 : b__.eval (.tmp 3) = .pointer (some ⟨g1, 0, none⟩) := by obtain ⟨_, _, h⟩ := hpre ⟨0, _⟩ (Array.mem_of_getElem? (i := 0) rfl) rfl _ _ rfl rfl; exact h
  exact Ao rfl e3 (by kernel_rfl) ((hS.ext (B3 hW)).shut 0 rfl 0 rfl) (hK _ _ rfl (Below.refl _ _))
 case r2 =>
  refine Dm fun b__ w hW hold hpre => wU rfl fun K hK => ?_
  have e4 : b__.eval (.tmp 4) = .int .u64 (y : Nat) := by obtain ⟨_, _, h⟩ := hpre ⟨1, _⟩ (Array.mem_of_getElem? (i := 0) rfl) rfl _ _ rfl rfl; exact h
  exact AL rfl (by kernel_rfl) (by simp [e4]) (GW y hy w) fun v w' h hb => hK v w' ⟨h, fun b e => Kq h b e⟩ hb
 case r3 =>
  refine Dm fun b__ w hW hold hpre => wU rfl fun K hK => ?_
  have e1 : b__.eval (.tmp 1) = .pointer (some ⟨g1, 0, none⟩) := (hold 1 (by kernel_rfl)).trans rfl
  exact E2 rfl e1 (by kernel_rfl) (hK _ _ rfl (Below.refl _ _))
 case r4 =>
  refine Dm fun b__ w hW hold hpre => wU rfl fun K hK => ?_
  have e6 : b__.eval (.tmp 6) = .pointer (some ⟨g1, 1, none⟩) := by obtain ⟨_, _, h⟩ := hpre ⟨3, _⟩ (Array.mem_of_getElem? (i := 0) rfl) rfl _ _ rfl rfl; exact h
  exact Ao rfl e6 (by kernel_rfl) ((hS.ext (B3 hW)).shut 0 rfl 1 rfl) (hK _ _ rfl (Below.refl _ _))
 case r5 =>
  refine Dm fun b__ w hW hold hpre => wU rfl fun K hK => ?_
  have e7 : b__.eval (.tmp 7) = .int .u64 (n : Nat) := by obtain ⟨_, _, h⟩ := hpre ⟨4, _⟩ (Array.mem_of_getElem? (i := 0) rfl) rfl _ _ rfl rfl; exact h
  exact AL rfl (by kernel_rfl) (by simp [e7]) (GW n hn w) fun v w' h hb => hK v w' ⟨h, fun b e => Kq h b e⟩ hb
 case post =>
  intro b__ wz lo hi hW hdf hsz hold hT hap hlim
  have e5 : (fun (v : Value) (w : World) => w.ownsRow (lo 2) 5 1 v (Bc y).length (Ad (Bc y)) /\ ∀ b, v.ownBlock = some b -> b < (hi 2)) (b__.eval (.tmp 5)) wz := hT 2 _ 5 (by decide) rfl rfl
  have e8 : (fun (v : Value) (w : World) => w.ownsRow (lo 5) 5 1 v (Bc n).length (Ad (Bc n)) /\ ∀ b, v.ownBlock = some b -> b < (hi 5)) (b__.eval (.tmp 8)) wz := hT 5 _ 8 (by decide) rfl rfl
  obtain ⟨vs, hvs, hb⟩ := Ej hdf hsz hold
  replace e5 := (hvs 5) ▸ e5
  replace e8 := (hvs 8) ▸ e8
  have e3 : vs 3 = .pointer (some ⟨g1, 0, none⟩) := (hvs 3).symm.trans (hT 0 _ 3 (by decide) rfl rfl)
  have e4 : vs 4 = .int .u64 (y : Nat) := (hvs 4).symm.trans (hT 1 _ 4 (by decide) rfl rfl)
  have e6 : vs 6 = .pointer (some ⟨g1, 1, none⟩) := (hvs 6).symm.trans (hT 3 _ 6 (by decide) rfl rfl)
  have e7 : vs 7 = .int .u64 (n : Nat) := (hvs 7).symm.trans (hT 4 _ 7 (by decide) rfl rfl)
  subst hb
  clear hvs hold hT hdf hsz
  simp only [AV, Act.put, zz, ze]
  obtain ⟨h5, b5⟩ := e5
  obtain ⟨h8, b8⟩ := e8
  have a25 := hap 2 5 (by decide) (by decide) (by decide) (by decide) (by decide)
  have L2 := (hlim 2 (by decide) (by decide)).1
  have L5 := (hlim 5 (by decide) (by decide)).1
  have hS2 := hS.new2 hW (.own (vs 5) 5 1 (Bc y).length (Ad (Bc y))) (.own (vs 8) 5 1 (Bc n).length (Ad (Bc n))) (I9 h5 L2) (I9 h8 L5) (fun k e1 e2 => by
   have c1 := own_ge h5 k e1; have c2 := b5 k e1; have c3 := own_ge h8 k e2; have c4 := b8 k e2; omega)
  clear h5 h8 b5 b8 a25 L2 L5 hap hlim
  (intro o_ ho_; simp only [List.getElem?_toArray, List.getElem?_cons_succ, List.getElem?_cons_zero, Option.some.injEq] at ho_; subst ho_)
  refine Fg rfl Dc rfl (hS2.own 0 rfl) rfl (Sl.of_own (hS2.own 1 rfl)) (B7 _) (by omega) (by omega) hS2.size fun v' w4 a1 a2 a3 => ?_
  replace hS2 := hS2.upd 0 rfl (.own v' 5 1 ((Bc y).length + (Bc n).length) (Ad (Bc y) ++ Ad (Bc n))) a2 a1 a3
  (intro o_ ho_; simp only [List.getElem?_toArray, List.getElem?_cons_succ, List.getElem?_cons_zero, Option.some.injEq] at ho_; subst ho_)
  simp only [Act.put, List.setIfInBounds_toArray, List.set_cons_zero, List.set_cons_succ]
  refine DA rfl rfl ?_
  simp only [CJ]
  simp only [Act.put, List.setIfInBounds_toArray, List.set_cons_zero, List.set_cons_succ]
  go_wp2_with fail
  go_ret
  exact Aw.mk (I7 (hS2.own 0 rfl) (by simp [Ad, Bd])) hS2.below
theorem EX (l : List (Nat × Nat)) (hs : Small l) : (l.flatMap fun z => Bd z.1 z.2).length <= 1046 * l.length := EY l fun z hz => ⟨(BO (hs z hz).1).1, (BO (hs z hz).2).1⟩
set_option maxHeartbeats 1000000 in
theorem I2 (v : Value) (l : List (Nat × Nat)) (w0 : World) (D : Nat -> Prop) (hv : BH w0 D v l) (hs : Small l) (hl : l.length <= 10000) :
  Calls Tryz.prog 166 #[v] w0 (Aw (fun x w' => FA w' w0.heap.size x (AU l)) w0) := by
 obtain ⟨A, c, rfl, _, _⟩ := hv.shape
 obtain ⟨K, hk, hS⟩ : ∃ K, (∀ D w, K D w -> Sl w D 2 (.slice A l.length c) l.length (AC l)) /\ St w0 w0 [] K := ⟨fun D w => Sl w D 2 (.slice A l.length c) l.length (AC l), fun _ _ h => h, St.start Aj hv⟩
 clear hv
 have HS := Lib.hid hs
 clear hs
 have hw : IntKind.u64.wrap (l.length : Int) = (l.length : Int) := Cv (by unfold AE; omega)
 have hpl := AB l.length
 go_enter Tryz.func166, Tryz.ntmps166
 go_wp2_with (first
  | (go_at_call 161; refine (DM l.length (by unfold AE; omega) _).mono ?_; rintro r_ w1 ⟨v1, rfl, h1, hb1⟩; replace hS := hS.owned hb1 h1; clear h1 hb1))
 go_loopw [3, 12] (fun o i wr => ∃ (k : Nat) (ov : Value) (bs : List Nat), k <= l.length /\ i = .int .i64 k /\ o = ov /\ bs = Az l.length ++ (l.take k).flatMap (fun z => Bd z.1 z.2) /\ St w0 wr [.own ov 5 1 bs.length (Ad bs)] K) (fun _ i _ => l.length - (intOf i).toNat)
 case atStart => exact ⟨0, v1, _, by omega, rfl, rfl, rfl, by simpa using hS⟩
 case round =>
  clear hS
  obtain ⟨k, ov, bs, hk2, rfl, rfl, hbs, hS⟩ := hrel
  by_cases hlt : k < l.length
  ·obtain ⟨f1, f2⟩ := Dz l k hlt
   have HT := Lib.hid (flat_step l k hlt)
   have hz := HS.out.at_ k hlt
   have hbl : bs.length <= 20000000 := by
    have := EX (l.take k) (fun z hz => HS.out z (List.mem_of_mem_take hz))
    rw [hbs, List.length_append]; rw [List.length_take] at this; omega
   have HB := Lib.hid hbs
   clear hbs
   generalize l.getD k (0, 0) = z at *
   obtain ⟨y, n⟩ := z
   dsimp only at f1 f2 HT hz
   have hcl : (Bd y n).length <= 1046 := by
    have h1 := Bh (BO hz.1).1
    have h2 := Bh (BO hz.2).1
    simp only [Bd, List.length_append]; omega
   obtain ⟨pc, hpc⟩ : ∃ x, x = Bd y n := ⟨_, rfl⟩
   rw [<- hpc] at HT hcl
   have HCu : Hid (∀ w, Calls Tryz.prog 165 #[.agg #[.int .u64 (y : Nat), .int .u64 (n : Nat)]] w (Aw (fun x w' => FA w' w.heap.size x pc) w)) := Lib.hid (fun w => by rw [hpc]; exact Ja y n hz.1 hz.2 w)
   clear hpc
   go_wp2_with (first
    | ((with_reducible refine qB ?_); refine qc ?_ ?_ <;> intro h_ <;> go_prune)
    | ((with_reducible refine qI ?_); refine qj hS Tryz.underlying28 ?_; intro b_ j_ hc0_ hc1_)
    | ((with_reducible refine qA 5 ?_); refine AY hS rfl _ rfl (by kernel_rfl) ?_; clear hS; intro g5 w_ hS; (try simp only [Act.put, Act.eval, zz, Value.cells] at hS))
    | ((with_reducible refine qM ?_); (first | refine qS hS ?_ | refine qT hS ?_); clear hS; intro w_ hS; (try simp only [Act.put, Act.eval, zz, Value.cells] at hS))
    | ((with_reducible refine qK ?_); refine qL hS Tryz.underlying50 ?_)
    | (go_at_call 165; refine (HCu.out _).mono ?_; rintro r_ w2 ⟨v2, rfl, h2, hb2⟩; replace hS := hS.owned hb2 h2; clear h2 hb2)
    | ((with_reducible refine qA 19 ?_); refine Dp hS 2 rfl _ _ _ rfl Dc _ _ _ rfl rfl _ _ _ _ rfl (Sl.of_own (hS.own 0 rfl)) (B7 _) (by unfold maxLen; omega) (by omega) ?_; clear hS; intro v_ w_ hS; (try simp only [Act.put, Act.eval, zz, Value.cells] at hS)))
   refine ⟨⟨k + 1, v_, bs ++ pc, hlt, by go_num, rfl, by rw [HB.out, HT.out, List.append_assoc], ?_⟩, by simp [intOf]; omega⟩
   have h := hS.sub (F' := [_]) (.cons _ (.cons _ (.refl _)))
   simpa [Ad] using h
  ·obtain rfl : k = l.length := by omega
   rw [List.take_length] at hbs
   go_wp2_with (first | ((with_reducible refine qB ?_); refine qc ?_ ?_ <;> intro h_ <;> go_prune))
   go_ret
   subst hbs
   exact Aw.mk (hS.own 0 rfl) hS.below
end
section
open Go.RowKit
attribute [local go_sem ↓] Go.wp_at_zero Go.wp_at_succ
set_option maxRecDepth 20000
set_option exponentiation.threshold 5000
theorem Kc (x n : Nat) (hx : x < AE) (hn : n < 64) (w : World) :
  Calls Tryz.prog 221 #[.int .u64 (x : Int), .int .i64 (n : Int)] w fun e w' => e = .returned (.int .u64 (FN x n : Nat)) /\ ∃ m, w' = w.drewN m := by
 obtain ⟨m, hm⟩ : ∃ m, m = 64 - n := ⟨_, rfl⟩
 have h3 : IntKind.i64.wrap (64 - (n : Int)) = (m : Int) := by rw [IntWalk.i64_in _ (by omega)]; omega
 have h4 : (64 : Int) - (n : Int) = (m : Int) := by omega
 have HR := Lib.hid (show bits .or .u64 (IntKind.u64.wrap ((x : Int) * 2 ^ n)) ((x : Int) / 2 ^ m) = ((FN x n : Nat) : Int) by
  have h6 : IntKind.u64.wrap ((x : Int) * 2 ^ n) = ((x * 2 ^ n % AE : Nat) : Int) := by
   rw [show (x : Int) * 2 ^ n = ((x * 2 ^ n : Nat) : Int) by rw [Int.natCast_mul, Int.natCast_pow]; rfl]
   exact wrap_u64 _
  have h7 : (x : Int) / 2 ^ m = ((x / 2 ^ m : Nat) : Int) := by rw [Int.natCast_ediv, Int.natCast_pow]; rfl
  rw [h6, h7, or64 (Nat.mod_lt _ (by simp [AE])) (Nat.lt_of_le_of_lt (Nat.div_le_self _ _) hx), hm]; rfl)
 have hm64 : m <= 64 := by omega
 clear hm
 go_enter Tryz.func221, Tryz.ntmps221
 go_wp2_with (go_region)
 rw [HR.out]
 go_ret
 exact ⟨rfl, 1, rfl⟩
theorem rotl03_ret (x n : Nat) (hx : x < AE) (hn : n < 64) (w : World) : Calls Tryz.prog 221 #[.int .u64 (x : Int), .int .i64 (n : Int)] w (Aw (fun r _ => r = .int .u64 (FN x n : Nat)) w) :=
 (Kc x n hx hn w).mono fun _ _ ⟨h, m, hm⟩ => ⟨_, h, rfl, by rw [hm]; exact DG (Below.refl _ _) m⟩
theorem turns03_any (w0 : World) : Calls Tryz.prog 222 #[] w0 (Aw (fun x w' => w'.ownsRow w0.heap.size 3 1 x 25 (i64s Co)) w0) := by
 have hS := St.start0 (w := w0)
 go_enter Tryz.func222, Tryz.ntmps222
 go_wp2_with ((with_reducible show wpList _ _ _ (⟨_, .buildSlice _ 25 _, _, _, _, _⟩ :: _) _ _); refine Dg hS rfl _ 3 25 _ rfl Tryz.underlying74 (i64s Co).toArray (by kernel_rfl) 1 (by kernel_rfl) (by decide) ?_; clear hS; intro g w_ hS)
 go_ret
 exact Aw.mk (hS.own 0 rfl) hS.below
theorem rounds03_any (w0 : World) : Calls Tryz.prog 201 #[] w0 (Aw (fun x w' => w'.ownsRow w0.heap.size 26 1 x 24 (At Bm)) w0) := by
 have hS := St.start0 (w := w0)
 go_enter Tryz.func201, Tryz.ntmps201
 go_wp2_with ((with_reducible show wpList _ _ _ (⟨_, .buildSlice _ 24 _, _, _, _, _⟩ :: _) _ _); refine Dg hS rfl _ 26 24 _ rfl Tryz.underlying37 (At Bm).toArray (by kernel_rfl) 1 (by kernel_rfl) (by decide) ?_; clear hS; intro g w_ hS)
 go_ret
 exact Aw.mk (hS.own 0 rfl) hS.below
def oTo (B : List Nat) (x y : Nat) : List Nat := (List.range 25).map fun i => if i % 5 < x \/ (i % 5 = x /\ i / 5 < y) then ka B i else 0
theorem oTo_len (B : List Nat) (x y : Nat) : (oTo B x y).length = 25 := by simp [oTo]
theorem oTo_zero (B : List Nat) : oTo B 0 0 = List.replicate 25 0 := by
 apply List.ext_getElem
 ·simp [oTo]
 ·intro j h1 h2
  simp only [oTo, List.getElem_map, List.getElem_range, List.getElem_replicate]
  rw [if_neg (by omega)]
theorem oTo_wrap (B : List Nat) (x : Nat) : oTo B x 5 = oTo B (x + 1) 0 := by
 apply List.ext_getElem
 ·simp [oTo]
 ·intro j h1 h2
  simp [oTo] at h1
  simp only [oTo, List.getElem_map, List.getElem_range]
  have : (j % 5 < x \/ (j % 5 = x /\ j / 5 < 5)) ↔ (j % 5 < x + 1 \/ (j % 5 = x + 1 /\ j / 5 < 0)) := by omega
  simp only [this]
theorem oTo_full (B : List Nat) : oTo B 5 0 = (List.range 25).map (ka B) := by
 apply List.ext_getElem
 ·simp [oTo]
 ·intro j h1 h2
  simp only [oTo, List.getElem_map, List.getElem_range]
  rw [if_pos (by omega)]
theorem oTo_step (B : List Nat) {x y : Nat} (hx : x < 5) (hy : y < 5) : (oTo B x y).set (x + 5 * y) (ka B (x + 5 * y)) = oTo B x (y + 1) := by
 apply List.ext_getElem
 ·simp [oTo]
 ·intro j h1 h2
  simp [oTo] at h1
  rw [List.getElem_set]
  simp only [oTo, List.getElem_map, List.getElem_range]
  split
  ·rename_i e; subst e; rw [if_pos (by omega)]
  ·have : (j % 5 < x \/ (j % 5 = x /\ j / 5 < y)) ↔ (j % 5 < x \/ (j % 5 = x /\ j / 5 < y + 1)) := by omega
   simp only [this]
theorem sl_at {w : World} {D : Nat -> Prop} {b o n c : Nat} {l : List Nat} (h : Sl w D 1 (.slice (some ⟨b, o, none⟩) n c) n (At l)) (hl : l.length = n) {j : Nat} (hj : j < n) : w.cell? ⟨b, o + j, none⟩ = some (.int .u64 (l.getD j 0 : Nat)) := by
 obtain ⟨_, A', c', e, _, _, h⟩ := h
 injection e with e1 e2 e3
 obtain ⟨b', o', e4, _, _, h⟩ := h (by omega)
 rw [<- e1] at e4
 injection e4 with e4
 injection e4 with e5 e6
 subst e5 e6
 exact h j _ (C6 l j (by omega))
theorem IK {w : World} {D : Nat -> Prop} {b o n c : Nat} {l : List Nat} (h : Sl w D 1 (.slice (some ⟨b, o, none⟩) n c) n (At l)) (hl : l.length = n) {j : Nat} (hj : j < n) : w.cell? ⟨b, o + j * 1, none⟩ = some (.int .u64 (l.getD j 0 : Nat)) := by
 rw [Nat.mul_one]; exact sl_at h hl hj
set_option maxHeartbeats 4000000 in
theorem round03_any (p : Value) (a : List Nat) (c : Nat) (hl : a.length = 25) (hw : Ax a) (hc : c < AE) (w0 : World) (D : Nat -> Prop) (hp : Sl w0 D 1 p 25 (At a)) :
  Calls Tryz.prog 202 #[p, .int .u64 (c : Nat)] w0 (Aw (fun x w' => w'.ownsRow w0.heap.size 26 1 x 25 (At (Fk a c))) w0) := by
 obtain ⟨_, A, ca, rfl, hca, _, hA⟩ := id hp
 obtain ⟨ab, ao, rfl, _, _, _⟩ := hA (by decide)
 obtain ⟨K, hk, hS⟩ : ∃ K, (∀ D w, K D w -> Sl w D 1 (.slice (some ⟨ab, ao, none⟩) 25 ca) 25 (At a)) /\ St w0 w0 [] K := ⟨fun D w => Sl w D 1 (.slice (some ⟨ab, ao, none⟩) 25 ca) 25 (At a), fun _ _ h => h, St.start Aj hp⟩
 clear hp
 have HK := Lib.hid hk
 clear hk hA
 go_enter Tryz.func202, Tryz.ntmps202
 go_wp2_with fail
 go_loopw [5, 6] (fun o i wr => ∃ (x : Nat) (ov : Value), x <= 5 /\ i = .int .i64 x /\ o = ov /\ St w0 wr [.own ov 26 1 x (At ((List.range x).map (kc a)))] K) (fun _ i _ => 5 - (intOf i).toNat)
 case atStart => exact ⟨0, _, by omega, rfl, rfl, hS.nil _ _⟩
 case round =>
  clear hS
  obtain ⟨x, ov, hx, rfl, rfl, hS⟩ := hrel
  by_cases hlt : x < 5
  ·have H0 := Lib.hid (fun (w : World) (h : Below wr.heap.size wr w) => IK (HK.out _ _ (hS.ext h).ro) hl (j := x) (by omega))
   have H1 := Lib.hid (fun (w : World) (h : Below wr.heap.size wr w) => IK (HK.out _ _ (hS.ext h).ro) hl (j := x + 5) (by omega))
   have H2 := Lib.hid (fun (w : World) (h : Below wr.heap.size wr w) => IK (HK.out _ _ (hS.ext h).ro) hl (j := x + 10) (by omega))
   have H3 := Lib.hid (fun (w : World) (h : Below wr.heap.size wr w) => IK (HK.out _ _ (hS.ext h).ro) hl (j := x + 15) (by omega))
   have H4 := Lib.hid (fun (w : World) (h : Below wr.heap.size wr w) => IK (HK.out _ _ (hS.ext h).ro) hl (j := x + 20) (by omega))
   have hkc : kc a x = (((a.getD x 0 ^^^ a.getD (x + 5) 0) ^^^ a.getD (x + 10) 0) ^^^ a.getD (x + 15) 0) ^^^ a.getD (x + 20) 0 := rfl
   have l0 := hw.getD x
   have l1 := hw.getD (x + 5)
   have l2 := hw.getD (x + 10)
   have l3 := hw.getD (x + 15)
   have l4 := hw.getD (x + 20)
   generalize a.getD x 0 = a0 at *
   generalize a.getD (x + 5) 0 = a1 at *
   generalize a.getD (x + 10) 0 = a2 at *
   generalize a.getD (x + 15) 0 = a3 at *
   generalize a.getD (x + 20) 0 = a4 at *
   have HKC := Lib.hid hkc
   clear hkc
   go_wp2_with fail
   refine Ju (fun i__ v w => match i__ with
    | 0 => v = u5
    | 1 => v = .slice (some ⟨ab, ao, none⟩) 25 ca
    | 2 => v = .int .i64 ((x : Nat) : Int)
    | 3 => v = .pointer (some ⟨ab, ao + (x) * 1, none⟩)
    | 4 => v = .int .u64 (a0 : Nat)
    | 5 => v = .slice (some ⟨ab, ao, none⟩) 25 ca
    | 6 => v = .int .i64 ((x : Nat) : Int)
    | 7 => v = .int .i64 (((x : Nat) : Int) + (5 : Int))
    | 8 => v = .pointer (some ⟨ab, ao + (x + 5) * 1, none⟩)
    | 9 => v = .int .u64 (a1 : Nat)
    | 10 => v = .int .u64 ((a0 ^^^ a1 : Nat) : Int)
    | 11 => v = .slice (some ⟨ab, ao, none⟩) 25 ca
    | 12 => v = .int .i64 ((x : Nat) : Int)
    | 13 => v = .int .i64 (((x : Nat) : Int) + (10 : Int))
    | 14 => v = .pointer (some ⟨ab, ao + (x + 10) * 1, none⟩)
    | 15 => v = .int .u64 (a2 : Nat)
    | 16 => v = .int .u64 (((a0 ^^^ a1) ^^^ a2 : Nat) : Int)
    | 17 => v = .slice (some ⟨ab, ao, none⟩) 25 ca
    | 18 => v = .int .i64 ((x : Nat) : Int)
    | 19 => v = .int .i64 (((x : Nat) : Int) + (15 : Int))
    | 20 => v = .pointer (some ⟨ab, ao + (x + 15) * 1, none⟩)
    | 21 => v = .int .u64 (a3 : Nat)
    | 22 => v = .int .u64 ((((a0 ^^^ a1) ^^^ a2) ^^^ a3 : Nat) : Int)
    | 23 => v = .slice (some ⟨ab, ao, none⟩) 25 ca
    | 24 => v = .int .i64 ((x : Nat) : Int)
    | 25 => v = .int .i64 (((x : Nat) : Int) + (20 : Int))
    | 26 => v = .pointer (some ⟨ab, ao + (x + 20) * 1, none⟩)
    | 27 => v = .int .u64 (a4 : Nat)
    | 28 => v = .int .u64 (((((a0 ^^^ a1) ^^^ a2) ^^^ a3) ^^^ a4 : Nat) : Int)
    | 29 => Sl w (fun _ => True) 1 v 1 [.int .u64 (kc a x : Nat)]
    | 30 => True
    | 31 => True
    | _ => True) 30 [31] (by kernel_rfl) (by kernel_rfl) (by kernel_rfl) (by kernel_rfl) (by kernel_rfl) ?mono ⟨.inr ?r0, .inr ?r1, .inr ?r2, .inr ?r3, .inr ?r4, .inr ?r5, .inr ?r6, .inr ?r7, .inr ?r8, .inr ?r9, .inr ?r10, .inr ?r11, .inr ?r12, .inr ?r13, .inr ?r14, .inr ?r15, .inr ?r16, .inr ?r17, .inr ?r18, .inr ?r19, .inr ?r20, .inr ?r21, .inr ?r22, .inr ?r23, .inr ?r24, .inr ?r25, .inr ?r26, .inr ?r27, .inr ?r28, .inr ?r29, .inl (by decide), .inl (by decide), trivial⟩ ?post
   case mono =>
    intro i v w w' h hb
    match i, h with
    | 0, h | 1, h | 2, h | 3, h | 4, h | 5, h | 6, h | 7, h | 8, h | 9, h | 10, h | 11, h | 12, h | 13, h | 14, h | 15, h | 16, h | 17, h | 18, h | 19, h | 20, h | 21, h | 22, h | 23, h | 24, h | 25, h | 26, h | 27, h | 28, h => exact h
    | 29, h => exact h.ext hb
    | 30, h | 31, h => exact h
    | _ + 32, h => trivial
   case r0 =>
    refine Bq fun b__ w hW hold hpre => wU rfl fun K hK => ?_
    have e5 : b__.eval (.tmp 5) = u5 := (hold 5 (by kernel_rfl)).trans rfl
    exact Bw rfl e5 (hK _ _ rfl (Below.refl _ _))
   case r1 =>
    refine Bq fun b__ w hW hold hpre => wU rfl fun K hK => ?_
    have e0 : b__.eval (.tmp 0) = .slice (some ⟨ab, ao, none⟩) 25 ca := (hold 0 (by kernel_rfl)).trans rfl
    exact Bw rfl e0 (hK _ _ rfl (Below.refl _ _))
   case r2 =>
    refine Bq fun b__ w hW hold hpre => wU rfl fun K hK => ?_
    have e6 : b__.eval (.tmp 6) = .int .i64 ((x : Nat) : Int) := (hold 6 (by kernel_rfl)).trans rfl
    exact Bw rfl e6 (hK _ _ rfl (Below.refl _ _))
   case r3 =>
    refine Bq fun b__ w hW hold hpre => wU rfl fun K hK => ?_
    have e19 := pq hpre 0 1 19
    have e20 := pq hpre 1 2 20
    exact Bp rfl e19 e20 (Ai (m := x) Tryz.underlying37 (by kernel_rfl) (by omega) (by omega)) (hK _ _ rfl (Below.refl _ _))
   case r4 =>
    refine Bq fun b__ w hW hold hpre => wU rfl fun K hK => ?_
    have e21 := pq hpre 0 3 21
    exact Ao rfl e21 (by kernel_rfl) (H0.out w (B3 hW)) (hK _ _ rfl (Below.refl _ _))
   case r5 =>
    refine Bq fun b__ w hW hold hpre => wU rfl fun K hK => ?_
    have e0 : b__.eval (.tmp 0) = .slice (some ⟨ab, ao, none⟩) 25 ca := (hold 0 (by kernel_rfl)).trans rfl
    exact Bw rfl e0 (hK _ _ rfl (Below.refl _ _))
   case r6 =>
    refine Bq fun b__ w hW hold hpre => wU rfl fun K hK => ?_
    have e6 : b__.eval (.tmp 6) = .int .i64 ((x : Nat) : Int) := (hold 6 (by kernel_rfl)).trans rfl
    exact Bw rfl e6 (hK _ _ rfl (Below.refl _ _))
   case r7 =>
    refine Bq fun b__ w hW hold hpre => wU rfl fun K hK => ?_
    have e24 := pq hpre 0 6 24
    exact AA (vx := .int .i64 ((x : Nat) : Int)) (vy := .int .i64 (5 : Int)) (v := .int .i64 (((x : Nat) : Int) + (5 : Int))) rfl e24 rfl rfl (CG (by omega) (by omega)) (hK _ _ rfl (Below.refl _ _))
   case r8 =>
    refine Bq fun b__ w hW hold hpre => wU rfl fun K hK => ?_
    have e23 := pq hpre 0 5 23
    have e25 := pq hpre 1 7 25
    exact Bp rfl e23 e25 (Ai (m := x + 5) Tryz.underlying37 (by kernel_rfl) (by omega) (by omega)) (hK _ _ rfl (Below.refl _ _))
   case r9 =>
    refine Bq fun b__ w hW hold hpre => wU rfl fun K hK => ?_
    have e26 := pq hpre 0 8 26
    exact Ao rfl e26 (by kernel_rfl) (H1.out w (B3 hW)) (hK _ _ rfl (Below.refl _ _))
   case r10 =>
    refine Bq fun b__ w hW hold hpre => wU rfl fun K hK => ?_
    have e22 := pq hpre 0 4 22
    have e27 := pq hpre 1 9 27
    exact AA rfl e22 e27 rfl (Dy l0 l1) (hK _ _ rfl (Below.refl _ _))
   case r11 =>
    refine Bq fun b__ w hW hold hpre => wU rfl fun K hK => ?_
    have e0 : b__.eval (.tmp 0) = .slice (some ⟨ab, ao, none⟩) 25 ca := (hold 0 (by kernel_rfl)).trans rfl
    exact Bw rfl e0 (hK _ _ rfl (Below.refl _ _))
   case r12 =>
    refine Bq fun b__ w hW hold hpre => wU rfl fun K hK => ?_
    have e6 : b__.eval (.tmp 6) = .int .i64 ((x : Nat) : Int) := (hold 6 (by kernel_rfl)).trans rfl
    exact Bw rfl e6 (hK _ _ rfl (Below.refl _ _))
   case r13 =>
    refine Bq fun b__ w hW hold hpre => wU rfl fun K hK => ?_
    have e30 := pq hpre 0 12 30
    exact AA (vx := .int .i64 ((x : Nat) : Int)) (vy := .int .i64 (10 : Int)) (v := .int .i64 (((x : Nat) : Int) + (10 : Int))) rfl e30 rfl rfl (CG (by omega) (by omega)) (hK _ _ rfl (Below.refl _ _))
   case r14 =>
    refine Bq fun b__ w hW hold hpre => wU rfl fun K hK => ?_
    have e29 := pq hpre 0 11 29
    have e31 := pq hpre 1 13 31
    exact Bp rfl e29 e31 (Ai (m := x + 10) Tryz.underlying37 (by kernel_rfl) (by omega) (by omega)) (hK _ _ rfl (Below.refl _ _))
   case r15 =>
    refine Bq fun b__ w hW hold hpre => wU rfl fun K hK => ?_
    have e32 := pq hpre 0 14 32
    exact Ao rfl e32 (by kernel_rfl) (H2.out w (B3 hW)) (hK _ _ rfl (Below.refl _ _))
   case r16 =>
    refine Bq fun b__ w hW hold hpre => wU rfl fun K hK => ?_
    have e28 := pq hpre 0 10 28
    have e33 := pq hpre 1 15 33
    exact AA rfl e28 e33 rfl (Dy (BR l0 l1) l2) (hK _ _ rfl (Below.refl _ _))
   case r17 =>
    refine Bq fun b__ w hW hold hpre => wU rfl fun K hK => ?_
    have e0 : b__.eval (.tmp 0) = .slice (some ⟨ab, ao, none⟩) 25 ca := (hold 0 (by kernel_rfl)).trans rfl
    exact Bw rfl e0 (hK _ _ rfl (Below.refl _ _))
   case r18 =>
    refine Bq fun b__ w hW hold hpre => wU rfl fun K hK => ?_
    have e6 : b__.eval (.tmp 6) = .int .i64 ((x : Nat) : Int) := (hold 6 (by kernel_rfl)).trans rfl
    exact Bw rfl e6 (hK _ _ rfl (Below.refl _ _))
   case r19 =>
    refine Bq fun b__ w hW hold hpre => wU rfl fun K hK => ?_
    have e36 := pq hpre 0 18 36
    exact AA (vx := .int .i64 ((x : Nat) : Int)) (vy := .int .i64 (15 : Int)) (v := .int .i64 (((x : Nat) : Int) + (15 : Int))) rfl e36 rfl rfl (CG (by omega) (by omega)) (hK _ _ rfl (Below.refl _ _))
   case r20 =>
    refine Bq fun b__ w hW hold hpre => wU rfl fun K hK => ?_
    have e35 := pq hpre 0 17 35
    have e37 := pq hpre 1 19 37
    exact Bp rfl e35 e37 (Ai (m := x + 15) Tryz.underlying37 (by kernel_rfl) (by omega) (by omega)) (hK _ _ rfl (Below.refl _ _))
   case r21 =>
    refine Bq fun b__ w hW hold hpre => wU rfl fun K hK => ?_
    have e38 := pq hpre 0 20 38
    exact Ao rfl e38 (by kernel_rfl) (H3.out w (B3 hW)) (hK _ _ rfl (Below.refl _ _))
   case r22 =>
    refine Bq fun b__ w hW hold hpre => wU rfl fun K hK => ?_
    have e34 := pq hpre 0 16 34
    have e39 := pq hpre 1 21 39
    exact AA rfl e34 e39 rfl (Dy (BR (BR l0 l1) l2) l3) (hK _ _ rfl (Below.refl _ _))
   case r23 =>
    refine Bq fun b__ w hW hold hpre => wU rfl fun K hK => ?_
    have e0 : b__.eval (.tmp 0) = .slice (some ⟨ab, ao, none⟩) 25 ca := (hold 0 (by kernel_rfl)).trans rfl
    exact Bw rfl e0 (hK _ _ rfl (Below.refl _ _))
   case r24 =>
    refine Bq fun b__ w hW hold hpre => wU rfl fun K hK => ?_
    have e6 : b__.eval (.tmp 6) = .int .i64 ((x : Nat) : Int) := (hold 6 (by kernel_rfl)).trans rfl
    exact Bw rfl e6 (hK _ _ rfl (Below.refl _ _))
   case r25 =>
    refine Bq fun b__ w hW hold hpre => wU rfl fun K hK => ?_
    have e42 := pq hpre 0 24 42
    exact AA (vx := .int .i64 ((x : Nat) : Int)) (vy := .int .i64 (20 : Int)) (v := .int .i64 (((x : Nat) : Int) + (20 : Int))) rfl e42 rfl rfl (CG (by omega) (by omega)) (hK _ _ rfl (Below.refl _ _))
   case r26 =>
    refine Bq fun b__ w hW hold hpre => wU rfl fun K hK => ?_
    have e41 := pq hpre 0 23 41
    have e43 := pq hpre 1 25 43
    exact Bp rfl e41 e43 (Ai (m := x + 20) Tryz.underlying37 (by kernel_rfl) (by omega) (by omega)) (hK _ _ rfl (Below.refl _ _))
   case r27 =>
    refine Bq fun b__ w hW hold hpre => wU rfl fun K hK => ?_
    have e44 := pq hpre 0 26 44
    exact Ao rfl e44 (by kernel_rfl) (H4.out w (B3 hW)) (hK _ _ rfl (Below.refl _ _))
   case r28 =>
    refine Bq fun b__ w hW hold hpre => wU rfl fun K hK => ?_
    have e40 := pq hpre 0 22 40
    have e45 := pq hpre 1 27 45
    exact AA rfl e40 e45 rfl (Dy (BR (BR (BR l0 l1) l2) l3) l4) (hK _ _ rfl (Below.refl _ _))
   case r29 =>
    refine Bq fun b__ w hW hold hpre => wU rfl fun K hK => ?_
    have e46 : b__.eval (.tmp 46) = .int .u64 (((((a0 ^^^ a1) ^^^ a2) ^^^ a3) ^^^ a4 : Nat) : Int) := pq hpre 0 28 46
    exact Dk rfl Tryz.underlying37 (ps := [(0, .int .u64 (kc a x : Nat))]) (cells := #[.int .u64 (kc a x : Nat)]) (by simp [e46, HKC.out]) (by kernel_rfl) fun w' hbx hbel => hK _ w' (sl_one hbx) hbel
   case post =>
    intro b__ wz hW hdf hsz hold hT
    have e47 : (fun (v : Value) (w : World) => Sl w (fun _ => True) 1 v 1 [.int .u64 (kc a x : Nat)]) (b__.eval (.tmp 47)) wz := hT 29 _ 47 (by decide) rfl rfl
    obtain ⟨vs, hvs, hb⟩ := Ej hdf hsz (fun s hs => hold s (noDstS_of hs))
    have e18 : vs 18 = u5 := (hvs 18).symm.trans (hT 0 _ 18 (by decide) rfl rfl)
    replace e47 := (hvs 47) ▸ e47
    have e19 : vs 19 = .slice (some ⟨ab, ao, none⟩) 25 ca := (hvs 19).symm.trans (hT 1 _ 19 (by decide) rfl rfl)
    have e20 : vs 20 = .int .i64 ((x : Nat) : Int) := (hvs 20).symm.trans (hT 2 _ 20 (by decide) rfl rfl)
    have e21 : vs 21 = .pointer (some ⟨ab, ao + (x) * 1, none⟩) := (hvs 21).symm.trans (hT 3 _ 21 (by decide) rfl rfl)
    have e22 : vs 22 = .int .u64 (a0 : Nat) := (hvs 22).symm.trans (hT 4 _ 22 (by decide) rfl rfl)
    have e23 : vs 23 = .slice (some ⟨ab, ao, none⟩) 25 ca := (hvs 23).symm.trans (hT 5 _ 23 (by decide) rfl rfl)
    have e24 : vs 24 = .int .i64 ((x : Nat) : Int) := (hvs 24).symm.trans (hT 6 _ 24 (by decide) rfl rfl)
    have e25 : vs 25 = .int .i64 (((x : Nat) : Int) + (5 : Int)) := (hvs 25).symm.trans (hT 7 _ 25 (by decide) rfl rfl)
    have e26 : vs 26 = .pointer (some ⟨ab, ao + (x + 5) * 1, none⟩) := (hvs 26).symm.trans (hT 8 _ 26 (by decide) rfl rfl)
    have e27 : vs 27 = .int .u64 (a1 : Nat) := (hvs 27).symm.trans (hT 9 _ 27 (by decide) rfl rfl)
    have e28 : vs 28 = .int .u64 ((a0 ^^^ a1 : Nat) : Int) := (hvs 28).symm.trans (hT 10 _ 28 (by decide) rfl rfl)
    have e29 : vs 29 = .slice (some ⟨ab, ao, none⟩) 25 ca := (hvs 29).symm.trans (hT 11 _ 29 (by decide) rfl rfl)
    have e30 : vs 30 = .int .i64 ((x : Nat) : Int) := (hvs 30).symm.trans (hT 12 _ 30 (by decide) rfl rfl)
    have e31 : vs 31 = .int .i64 (((x : Nat) : Int) + (10 : Int)) := (hvs 31).symm.trans (hT 13 _ 31 (by decide) rfl rfl)
    have e32 : vs 32 = .pointer (some ⟨ab, ao + (x + 10) * 1, none⟩) := (hvs 32).symm.trans (hT 14 _ 32 (by decide) rfl rfl)
    have e33 : vs 33 = .int .u64 (a2 : Nat) := (hvs 33).symm.trans (hT 15 _ 33 (by decide) rfl rfl)
    have e34 : vs 34 = .int .u64 (((a0 ^^^ a1) ^^^ a2 : Nat) : Int) := (hvs 34).symm.trans (hT 16 _ 34 (by decide) rfl rfl)
    have e35 : vs 35 = .slice (some ⟨ab, ao, none⟩) 25 ca := (hvs 35).symm.trans (hT 17 _ 35 (by decide) rfl rfl)
    have e36 : vs 36 = .int .i64 ((x : Nat) : Int) := (hvs 36).symm.trans (hT 18 _ 36 (by decide) rfl rfl)
    have e37 : vs 37 = .int .i64 (((x : Nat) : Int) + (15 : Int)) := (hvs 37).symm.trans (hT 19 _ 37 (by decide) rfl rfl)
    have e38 : vs 38 = .pointer (some ⟨ab, ao + (x + 15) * 1, none⟩) := (hvs 38).symm.trans (hT 20 _ 38 (by decide) rfl rfl)
    have e39 : vs 39 = .int .u64 (a3 : Nat) := (hvs 39).symm.trans (hT 21 _ 39 (by decide) rfl rfl)
    have e40 : vs 40 = .int .u64 ((((a0 ^^^ a1) ^^^ a2) ^^^ a3 : Nat) : Int) := (hvs 40).symm.trans (hT 22 _ 40 (by decide) rfl rfl)
    have e41 : vs 41 = .slice (some ⟨ab, ao, none⟩) 25 ca := (hvs 41).symm.trans (hT 23 _ 41 (by decide) rfl rfl)
    have e42 : vs 42 = .int .i64 ((x : Nat) : Int) := (hvs 42).symm.trans (hT 24 _ 42 (by decide) rfl rfl)
    have e43 : vs 43 = .int .i64 (((x : Nat) : Int) + (20 : Int)) := (hvs 43).symm.trans (hT 25 _ 43 (by decide) rfl rfl)
    have e44 : vs 44 = .pointer (some ⟨ab, ao + (x + 20) * 1, none⟩) := (hvs 44).symm.trans (hT 26 _ 44 (by decide) rfl rfl)
    have e45 : vs 45 = .int .u64 (a4 : Nat) := (hvs 45).symm.trans (hT 27 _ 45 (by decide) rfl rfl)
    have e46 : vs 46 = .int .u64 (((((a0 ^^^ a1) ^^^ a2) ^^^ a3) ^^^ a4 : Nat) : Int) := (hvs 46).symm.trans (hT 28 _ 46 (by decide) rfl rfl)
    subst hb
    clear hvs hold hT hdf hsz
    simp only [AV, Act.put, zz, ze]
    (intro o_ ho_; simp only [List.getElem?_toArray, List.getElem?_cons_succ, List.getElem?_cons_zero, Option.some.injEq] at ho_; subst ho_)
    refine Fg (n := x) (m := 1) rfl JG e18 ((hS.ext hW).own 0 rfl) rfl e47 (by intro u hu; simp at hu; subst hu; rfl) (by omega) (by omega) (hS.ext hW).size fun v' w4 a1 a2 a3 => ?_
    replace hS := (hS.ext hW).upd 0 rfl (.own v' 26 1 (x + 1) (At ((List.range x).map (kc a)) ++ [Value.int .u64 ((kc a x : Nat) : Int)])) a2 a1 a3
    (intro o_ ho_; simp only [List.getElem?_toArray, List.getElem?_cons_succ, List.getElem?_cons_zero, Option.some.injEq] at ho_; subst ho_)
    simp only [Act.put, List.setIfInBounds_toArray, List.set_cons_zero, List.set_cons_succ]
    refine DA rfl rfl ?_
    simp only [CJ]
    simp only [Act.put, List.setIfInBounds_toArray, List.set_cons_zero, List.set_cons_succ]
    clear e47
    go_wp2_with fail
    refine ⟨⟨x + 1, v', hlt, by go_num, rfl, ?_⟩, by simp [intOf]; omega⟩
    rw [List.range_succ, List.map_append]
    simpa [At] using hS
  ·obtain rfl : x = 5 := by omega
   simp only [show ((5 : Nat) : Int) = 5 from rfl]
   replace hS := hS.freeze 0 (by decide) rfl
   have hwC := Ii hw
   have hlC : ((List.range 5).map (kc a)).length = 5 := by simp
   obtain ⟨_, Ac, cc, rfl, _, _, hcA⟩ := id hS.ro.2
   obtain ⟨cb, co, rfl, _, _, _⟩ := hcA (by decide)
   clear hcA
   obtain ⟨C, hCE⟩ : ∃ C, C = (List.range 5).map (kc a) := ⟨_, rfl⟩
   rw [<- hCE] at hS hwC hlC
   have HCE := Lib.hid hCE
   clear hCE hlt hx
   go_wp2_with (first
    | ((with_reducible show wpList _ _ _ (⟨_, .makeSlice _ _ _, _, _, _, _⟩ :: _) _ _); refine J8 hS rfl _ _ _ rfl JG .i64 .i64 25 #[.int .u64 0] rfl rfl (by kernel_rfl) (by decide) (by decide) ?_; clear hS; intro g7 w_ hS))
   rw [Id] at hS
   go_loopw [8] (fun i wr => ∃ (x : Nat), x <= 5 /\ i = .int .i64 x /\ St w0 wr [.own (.slice (some ⟨g7, 0, none⟩) 25 25) 26 1 25 (At (FY a C x))] (fun D w => K D w /\ Sl w D 1 (.slice (some ⟨cb, co, none⟩) 5 cc) 5 (At C))) (fun i _ => 5 - (intOf i).toNat)
   case atStart => exact ⟨0, by omega, rfl, hS⟩
   case round =>
    clear hS
    obtain ⟨x, hx, rfl, hS⟩ := hrel
    by_cases hlt : x < 5
    ·have hsl := hS.ro.2
     have h0 := sl_at hsl hlC (j := (x + 4) % 5) (by omega)
     have h1 := sl_at hsl hlC (j := (x + 1) % 5) (by omega)
     have HD := Lib.hid (show kd C x = C.getD ((x + 4) % 5) 0 ^^^ FN (C.getD ((x + 1) % 5) 0) 1 from rfl)
     have l0 := hwC.getD ((x + 4) % 5)
     have l1 := hwC.getD ((x + 1) % 5)
     generalize C.getD ((x + 4) % 5) 0 = c0 at *
     generalize C.getD ((x + 1) % 5) 0 = c1 at *
     have ta : IntKind.i64.wrap ((x : Int) + 4) = (x : Int) + 4 := IntWalk.i64_in _ (by omega)
     have tb : IntKind.i64.wrap ((x : Int) + 1) = (x : Int) + 1 := IntWalk.i64_in _ (by omega)
     have tc : ((x : Int) + 4).tmod 5 = (((x + 4) % 5 : Nat) : Int) := by rw [Int.tmod_eq_emod_of_nonneg (by omega)]; omega
     have td : ((x : Int) + 1).tmod 5 = (((x + 1) % 5 : Nat) : Int) := by rw [Int.tmod_eq_emod_of_nonneg (by omega)]; omega
     have q4 : (x + 4) % 5 < 5 := by omega
     have q1 : (x + 1) % 5 < 5 := by omega
     generalize (x + 4) % 5 = x4 at *
     generalize (x + 1) % 5 = x1 at *
     clear hsl
     go_wp2_with (go_quiet ((go_at_call 221; exact Calls.quiet_of (Kc _ 1 l1 (by decide) _))))
     have HE := Lib.hid (show bits .xor .u64 (c0 : Int) (FN c1 1 : Nat) = ((kd C x : Nat) : Int) by rw [Eo l0 (JH l1), HD.out])
     simp only [HE.out]
     have ld := kd_lt hwC x
     replace hS := hS.drewN nq
     clear h0 h1 HD HE l0 l1 ta tb tc td q4 q1
     generalize wr.drewN nq = W2 at *
     have hwB := DB hw hwC x
     have hlB := Ij a C x
     have HSB := Lib.hid (IX a C x)
     generalize FY a C x = B at *
     generalize hd0 : kd C x = d0 at *
     have HD0 := Lib.hid hd0
     clear hd0
     go_loopw [10] (fun i wr => ∃ (y : Nat), y <= 5 /\ i = .int .i64 y /\ St w0 wr [.own (.slice (some ⟨g7, 0, none⟩) 25 25) 26 1 25 (At (DR a C B x y))] (fun D w => K D w /\ Sl w D 1 (.slice (some ⟨cb, co, none⟩) 5 cc) 5 (At C))) (fun i _ => 5 - (intOf i).toNat)
     case atStart => exact ⟨0, by omega, rfl, hS⟩
     case round =>
      clear hS
      obtain ⟨y, hy, rfl, hS⟩ := hrel
      by_cases hlt4 : y < 5
      ·have HA := Lib.hid (fun (w : World) (h : Below wr.heap.size wr w) => IK (HK.out _ _ (hS.ext h).ro.1) hl (j := x + 5 * y) (by omega))
       have hlR := IY a C B x y
       have l0 := hw.getD (x + 5 * y)
       have l1 := turns_lt (x + 5 * y)
       have HTU := Lib.hid (show (i64s Co)[(x + 5 * y) * 1 + 0]? = some (.int .i64 (Co.getD (x + 5 * y) 0 : Nat)) by
        simp [i64s, List.getD_eq_getElem?_getD, List.getElem?_eq_getElem (show x + 5 * y < Co.length by show _ < 25; omega)])
       have HKA := Lib.hid (show kbAt a C x (DR a C B x y) y = (DR a C B x y).set (y + 5 * ((2 * x + 3 * y) % 5)) (FN (a.getD (x + 5 * y) 0 ^^^ kd C x) (Co.getD (x + 5 * y) 0)) from rfl)
       rw [HD0.out] at HKA
       have HSR := Lib.hid (H7 a C B x y)
       generalize a.getD (x + 5 * y) 0 = a0 at *
       generalize Co.getD (x + 5 * y) 0 = t0 at *
       generalize DR a C B x y = R at *
       have lx := BR l0 ld
       go_wp2_with fail
       refine wp_zL 28 [] [.i (.slice (some ⟨g7, 0, none⟩) 25 25), .n ((y : Nat) : Int), .n ((x : Nat) : Int), .n ((2 : Int) * ((x : Nat) : Int)), .n ((y : Nat) : Int), .n ((3 : Int) * ((y : Nat) : Int)), .n (((2 : Int) * ((x : Nat) : Int)) + ((3 : Int) * ((y : Nat) : Int))), .n ((((2 : Int) * ((x : Nat) : Int)) + ((3 : Int) * ((y : Nat) : Int))) % (5 : Int)), .n ((5 : Int) * ((((2 : Int) * ((x : Nat) : Int)) + ((3 : Int) * ((y : Nat) : Int))) % (5 : Int))), .n (((y : Nat) : Int) + ((5 : Int) * ((((2 : Int) * ((x : Nat) : Int)) + ((3 : Int) * ((y : Nat) : Int))) % (5 : Int)))), .i (.slice (some ⟨ab, ao, none⟩) 25 ca), .n ((x : Nat) : Int), .n ((y : Nat) : Int), .n ((5 : Int) * ((y : Nat) : Int)), .n (((x : Nat) : Int) + ((5 : Int) * ((y : Nat) : Int))), .q ab (ao + (x + 5 * y) * 1), .i (.int .u64 ((a0 : Nat) : Int)), .i (.int .u64 ((d0 : Nat) : Int)), .i (.int .u64 ((a0 ^^^ d0 : Nat) : Int)), .s (fun v w => Sl w (fun _ => True) 1 v 25 (i64s Co)) fun v w w' h hb => h.ext hb, .n ((x : Nat) : Int), .n ((y : Nat) : Int), .n ((5 : Int) * ((y : Nat) : Int)), .n (((x : Nat) : Int) + ((5 : Int) * ((y : Nat) : Int))), .s (fun v w => ∃ p : Addr, v = .pointer (some p) /\ w.cell? p = some (.int .i64 ((t0 : Nat) : Int)) /\ p.block < w.heap.size) fun v w w' h hb => by obtain ⟨p, h1, h2, h3⟩ := h; exact ⟨p, h1, (hb.cell h3).trans h2, Nat.lt_of_lt_of_le h3 hb.size⟩, .n ((t0 : Nat) : Int), .i (.int .u64 ((FN (a0 ^^^ d0) t0 : Nat) : Int)), .q g7 (0 + (y + 5 * ((2 * x + 3 * y) % 5)) * 1), .t] ⟨uM, uM, uM, uB (h := fun w hW hN => E0 (by omega) (by omega)), uM, uB (h := fun w hW hN => E0 (by omega) (by omega)), uB (h := fun w hW hN => CG (by omega) (by omega)), uB (h := fun w hW hN => ER (by omega) (by omega)), uB (h := fun w hW hN => E0 (by omega) (by omega)), uB (h := fun w hW hN => CG (by omega) (by omega)), uM, uM, uM, uB (h := fun w hW hN => E0 (by omega) (by omega)), uB (h := fun w hW hN => CG (by omega) (by omega)), uI (h := fun w hW hN => Ai (m := x + 5 * y) Tryz.underlying37 (by kernel_rfl) (by omega) (by omega)), uC (h := fun w hW hN => HA.out w hW), uM, uB (h := fun w hW hN => Dy l0 ld), ?_, uM, uM, uB (h := fun w hW hN => E0 (by omega) (by omega)), uB (h := fun w hW hN => CG (by omega) (by omega)), ?_, ?_, ?_, uI (h := fun w hW hN => Ai (m := y + 5 * ((2 * x + 3 * y) % 5)) Tryz.underlying37 (by kernel_rfl) (by omega) (by omega)), trivial⟩ ?_
       ·refine uT fun b__ w hW hE K hK => ?_
        exact AL rfl (by kernel_rfl) rfl (turns03_any w) fun v w' h hb => hK v w' ((Sl.of_own h).imp fun _ _ _ => trivial) hb
       ·refine uT fun b__ w hW hE K hK => ?_
        have e91 := hE 91
        have e95 := hE 95
        obtain ⟨b1, j1, h1, -, h3, h4⟩ := Hv (P := Tryz.prog) (T := 74) (kk := .i64) (k := x + 5 * y) e91 Tryz.underlying74 (by kernel_rfl) (by omega)
        exact Bp rfl rfl (e95.trans (congrArg (Value.int .i64) (by omega))) h1 (hK _ _ ⟨_, rfl, h4 0 _ HTU.out, h3⟩ (Below.refl _ _))
       ·refine uT fun b__ w hW hE K hK => ?_
        have e96 := hE 96
        obtain ⟨p, hp, hc, -⟩ := e96
        exact Ao rfl hp (by kernel_rfl) hc (hK _ _ rfl (Below.refl _ _))
       ·refine uT fun b__ w hW hE K hK => ?_
        have e90 := hE 90
        have e97 := hE 97
        exact AL rfl (by kernel_rfl) (by simp only [List.map_cons, List.map_nil, e90, e97]) (rotl03_ret (a0 ^^^ d0) t0 lx l1 w) fun v w' h hb => hK v w' h hb
       ·intro vs wz hW hT
        obtain ⟨e72, e73, e74, e75, e76, e77, e78, e79, e80, e81, e82, e83, e84, e85, e86, e87, e88, e89, e90, e91, e92, e93, e94, e95, e96, e97, e98, e99, -⟩ := hT
        have bx : (fun _ : Nat => True) 0 := trivial
        simp only [AV, Act.put, zz, ze]
        (intro o_ ho_; simp only [List.getElem?_toArray, List.getElem?_cons_succ, List.getElem?_cons_zero, Option.some.injEq] at ho_; subst ho_)
        refine Eh rfl (g := g7) (i := y + 5 * ((2 * x + 3 * y) % 5)) (e99.trans (by rw [Nat.zero_add, Nat.mul_one])) e98 ((hS.ext hW).own 0 rfl) (by omega) rfl rfl (by kernel_rfl) fun w4 h1 hU => ?_
        replace hS := (hS.ext hW).upd 0 rfl (.own (.slice (some ⟨g7, 0, none⟩) 25 25) 26 1 25 ((At R).set (y + 5 * ((2 * x + 3 * y) % 5)) (Value.int .u64 ((FN (a0 ^^^ d0) t0 : Nat) : Int)))) (by simpa [A7.blk, Value.ownBlock] using BE hU) h1 fun _ e => .inl e
        rw [<- Eb, <- HKA.out, <- HSR.out] at hS
        simp only [CJ]
        simp only [Act.put, List.setIfInBounds_toArray, List.set_cons_zero, List.set_cons_succ]
        clear e98 e99 h1 hU hW
        go_wp2_with fail
        exact ⟨⟨y + 1, hlt4, by go_num, hS⟩, by simp [intOf]; omega⟩
      ·obtain rfl : y = 5 := by omega
       go_wp2_with fail
       exact ⟨⟨x + 1, hlt, by go_num, by rw [HSB.out]; exact hS⟩, by simp [intOf]; omega⟩
    ·obtain rfl : x = 5 := by omega
     simp only [show ((5 : Nat) : Int) = 5 from rfl]
     have hwB := DB hw hwC 5
     have hlB := Ij a C 5
     have HKR := Lib.hid (show Fk a c = ((List.range 25).map (ka (FY a C 5))).set 0 (ka (FY a C 5) 0 ^^^ c) by rw [HCE.out]; rfl)
     generalize FY a C 5 = B at *
     replace hS := hS.freeze 0 (by decide) rfl
     clear hlt hx hwC hlC
     go_wp2_with (first
      | ((with_reducible show wpList _ _ _ (⟨_, .makeSlice _ _ _, _, _, _, _⟩ :: _) _ _); refine J8 hS rfl _ _ _ rfl JG .i64 .i64 25 #[.int .u64 0] rfl rfl (by kernel_rfl) (by decide) (by decide) ?_; clear hS; intro g11 w_ hS))
     rw [Id, <- oTo_zero B] at hS
     obtain ⟨K2, hK2, hS⟩ : ∃ K2, (∀ D w, K2 D w -> Sl w D 1 (.slice (some ⟨g7, 0, none⟩) 25 25) 25 (At B)) /\ St w0 w_ [.own (.slice (some ⟨g11, 0, none⟩) 25 25) 26 1 25 (At (oTo B 0 0))] K2 := ⟨_, fun _ _ h => h.2, hS⟩
     have HK2 := Lib.hid hK2
     clear hK2
     go_loopw [12] (fun i wr => ∃ (x : Nat), x <= 5 /\ i = .int .i64 x /\ St w0 wr [.own (.slice (some ⟨g11, 0, none⟩) 25 25) 26 1 25 (At (oTo B x 0))] K2) (fun i _ => 5 - (intOf i).toNat)
     case atStart => exact ⟨0, by omega, rfl, hS⟩
     case round =>
      clear hS
      obtain ⟨x, hx, rfl, hS⟩ := hrel
      by_cases hlt : x < 5
      ·go_wp2_with fail
       go_loopw [13] (fun i wr => ∃ (y : Nat), y <= 5 /\ i = .int .i64 y /\ St w0 wr [.own (.slice (some ⟨g11, 0, none⟩) 25 25) 26 1 25 (At (oTo B x y))] K2) (fun i _ => 5 - (intOf i).toNat)
       case atStart => exact ⟨0, by omega, rfl, hS⟩
       case round =>
        clear hS
        obtain ⟨y, hy, rfl, hS⟩ := hrel
        by_cases hlt4 : y < 5
        ·have hsl := HK2.out _ _ hS.ro
         have h0 := sl_at hsl hlB (j := x + 5 * y) (by omega)
         have h1 := sl_at hsl hlB (j := (x + 1) % 5 + 5 * y) (by omega)
         have h2 := sl_at hsl hlB (j := (x + 2) % 5 + 5 * y) (by omega)
         have hown := hS.own 0 rfl
         have h3 := hown.cellAt (x + 5 * y) (by omega)
         rw [C6 _ _ (by rw [oTo_len]; omega)] at h3
         have h4 := hown.frozenAt (x + 5 * y)
         have HSP := Lib.hid (hS.put64 0 rfl (x + 5 * y) (ka B (x + 5 * y)))
         have HOS := Lib.hid (oTo_step B (x := x) (y := y) hlt hlt4)
         have HKA := Lib.hid (show ka B (x + 5 * y) = B.getD (x + 5 * y) 0 ^^^ (BM (B.getD ((x + 1) % 5 + 5 * y) 0) &&& B.getD ((x + 2) % 5 + 5 * y) 0) by
          unfold ka
          rw [show (x + 5 * y) % 5 = x by omega, show (x + 5 * y) / 5 * 5 = 5 * y by omega])
         have l0 := hwB.getD (x + 5 * y)
         have l1 := hwB.getD ((x + 1) % 5 + 5 * y)
         have l2 := hwB.getD ((x + 2) % 5 + 5 * y)
         simp only [Nat.zero_add] at h0 h1 h2
         generalize B.getD (x + 5 * y) 0 = b0 at *
         generalize B.getD ((x + 1) % 5 + 5 * y) 0 = b1 at *
         generalize B.getD ((x + 2) % 5 + 5 * y) 0 = b2 at *
         clear hsl hown
         go_wp2_with (go_region)
         have he : bits .xor .u64 (b0 : Int) (bits .and .u64 (bits .xor .u64 (if IntKind.u64.signed = true then -1 else IntKind.u64.max) (b1 : Int)) (b2 : Int)) = ((ka B (x + 5 * y) : Nat) : Int) := by
          rw [notu l1, GM (EV _) l2, Eo l0 (and_lt (EV _)), HKA.out]
         rw [he]
         exact ⟨⟨y + 1, hlt4, by go_num, by rw [<- HOS.out]; exact HSP.out⟩, by simp [intOf]; omega⟩
        ·obtain rfl : y = 5 := by omega
         go_wp2_with fail
         exact ⟨⟨x + 1, hlt, by go_num, by rw [<- oTo_wrap]; exact hS⟩, by simp [intOf]; omega⟩
      ·obtain rfl : x = 5 := by omega
       rw [oTo_full] at hS
       have hc0 : (At ((List.range 25).map (ka B)))[0]? = some (.int .u64 (ka B 0 : Nat)) := by rw [C6 _ _ (by simp)]; simp
       have hx0 := Eo (ka_lt hwB 0) hc
       have HC0 := Lib.hid hc0
       have HX0 := Lib.hid hx0
       clear hc0 hx0
       generalize ka B 0 = k0 at *
       obtain ⟨M, hM⟩ : ∃ M, M = (List.range 25).map (ka B) := ⟨_, rfl⟩
       rw [<- hM] at hS HC0 HKR
       clear hM
       go_wp2_with (first
        | ((with_reducible refine qA 146 ?_); refine BigFrame.wpList_want rfl fun _ hK => Ao rfl rfl (by kernel_rfl) (BV (hS.own 0 rfl) 0 _ HC0.out) (hK _ _ ?_))
        | ((with_reducible refine qm 26 ?_); refine Dw hS 0 rfl _ _ _ rfl g11 0 (.int .u64 ((k0 ^^^ c : Nat) : Int)) rfl (congrArg (Value.int .u64) HX0.out) rfl (by decide) rfl rfl (by kernel_rfl) ?_; clear hS; intro w_ hS; (try simp only [Act.put, Act.eval, zz, Value.cells] at hS)))
       go_ret
       rw [HKR.out]
       have h := hS.own 0 rfl
       rw [<- Eb] at h
       exact Aw.mk h hS.below
end
section
open Go.RowKit
attribute [local go_sem ↓] Go.wp_at_zero Go.wp_at_succ
set_option maxRecDepth 20000
set_option exponentiation.threshold 5000
def Fz (l : List Nat) : List Nat := l.take (136 * (l.length / 136)) ++ EW (l.drop (136 * (l.length / 136)))
theorem KB {r : List Nat} (h : r.length < 136) : EW r = (r ++ 6 :: List.replicate (135 - r.length) 0).set 135 ((r ++ 6 :: List.replicate (135 - r.length) 0).getD 135 0 ^^^ 128) := by
 have e : (r ++ List.replicate (136 - r.length) 0).set r.length 6 = r ++ 6 :: List.replicate (135 - r.length) 0 := by
  rw [show 136 - r.length = (135 - r.length) + 1 by omega, List.replicate_succ, List.set_append_right _ _ (Nat.le_refl _), Nat.sub_self, List.set_cons_zero]
 unfold EW
 dsimp only
 rw [e]
theorem padB_eq (l : List Nat) {z : Nat} (hz : z < 136) (h : (l.length + 1 + z) % 136 = 0) :
  (l ++ 6 :: List.replicate z 0).set (l.length + z) ((l ++ 6 :: List.replicate z 0).getD (l.length + z) 0 ^^^ 128) = Fz l := by
 have hd := Nat.div_add_mod l.length 136
 have hr : (l.drop (136 * (l.length / 136))).length = l.length % 136 := by rw [List.length_drop]; omega
 have hz2 : z = 135 - l.length % 136 := by omega
 have htl : (l.take (136 * (l.length / 136))).length = 136 * (l.length / 136) := by rw [List.length_take]; omega
 have hs : l ++ 6 :: List.replicate z 0 = l.take (136 * (l.length / 136)) ++ (l.drop (136 * (l.length / 136)) ++ 6 :: List.replicate z 0) := by
  rw [<- List.append_assoc, List.take_append_drop]
 unfold Fz
 rw [KB (by rw [hr]; omega), hr, <- hz2, hs]
 generalize l.take (136 * (l.length / 136)) = A at *
 generalize l.drop (136 * (l.length / 136)) ++ 6 :: List.replicate z 0 = B at *
 have e : l.length + z = A.length + 135 := by omega
 rw [e, List.set_append_right _ _ (by omega), show A.length + 135 - A.length = 135 by omega]
 congr 2
 rw [List.getD_eq_getElem?_getD, List.getElem?_append_right (by omega), show A.length + 135 - A.length = 135 by omega, <- List.getD_eq_getElem?_getD]
theorem padB_len (l : List Nat) : (Fz l).length = 136 * (l.length / 136 + 1) := by
 have hd := Nat.div_add_mod l.length 136
 have hr : (l.drop (136 * (l.length / 136))).length = l.length % 136 := by rw [List.length_drop]; omega
 unfold Fz
 rw [KB (by rw [hr]; omega), List.length_append, List.length_set, List.length_append, List.length_cons, List.length_replicate, List.length_take, hr]
 omega
theorem padB_bytes {l : List Nat} (h : AK l) : AK (Fz l) := by
 have hr : (l.drop (136 * (l.length / 136))).length = l.length % 136 := by have hd := Nat.div_add_mod l.length 136; rw [List.length_drop]; omega
 have hb : AK (l.drop (136 * (l.length / 136)) ++ 6 :: List.replicate (135 - l.length % 136) 0) := fun x hx => by
  rcases List.mem_append.1 hx with h1 | h1
  ·exact h x (List.mem_of_mem_drop h1)
  ·rcases List.mem_cons.1 h1 with rfl | h1
   ·decide
   ·exact AK.rep _ x h1
 unfold Fz
 rw [KB (by rw [hr]; omega), hr]
 intro x hx
 rcases List.mem_append.1 hx with h1 | h1
 ·exact h x (List.mem_of_mem_take h1)
 ·rcases List.mem_or_eq_of_mem_set h1 with h2 | h2
  ·exact hb x h2
  ·rw [h2]; exact Nat.xor_lt_two_pow (n := 8) (hb.getD _) (by decide)
set_option maxHeartbeats 1000000 in
theorem pad03_any (p : Value) (l : List Nat) (hb : AK l) (hl : l.length <= 1000000000) (w0 : World) (D : Nat -> Prop) (hp : Sl w0 D 1 p l.length (Ad l)) :
  Calls Tryz.prog 200 #[p] w0 (Aw (fun x w' => FA w' w0.heap.size x (Fz l)) w0) := by
 obtain ⟨A, c, rfl, _, _⟩ := hp.shape
 obtain ⟨K, hk, hS⟩ : ∃ K, (∀ D w, K D w -> Sl w D 1 (.slice A l.length c) l.length (Ad l)) /\ St w0 w0 [] K := ⟨fun D w => Sl w D 1 (.slice A l.length c) l.length (Ad l), fun _ _ h => h, St.start Aj hp⟩
 clear hp
 have HK := Lib.hid hk
 clear hk
 go_enter Tryz.func200, Tryz.ntmps200
 go_wp2_with (first
  | ((with_reducible show wpList _ _ _ (⟨_, .buildSlice _ 0 _, _, _, _, _⟩ :: _) _ _); refine EO hS rfl _ _ rfl Tryz.underlying22 (by kernel_rfl) 1 ?_; clear hS; intro ge w_ hS)
  | ((with_reducible refine qA 6 ?_); refine Dp hS 0 rfl _ _ _ rfl Dc _ 0 [] rfl rfl _ _ l.length (Ad l) rfl (HK.out _ _ hS.ro) (B7 _) (by unfold maxLen; omega) (by omega) ?_; clear hS; intro v_ w_ hS; (try simp only [Act.put, Act.eval, zz, Value.cells] at hS); simp only [List.nil_append, Nat.zero_add] at hS)
  | ((with_reducible refine qA 8 ?_); refine Do hS 0 rfl rfl _ _ _ _ rfl rfl Dc _ _ _ (.int .u8 6) #[.int .u8 6] rfl (by kernel_rfl) rfl rfl rfl rfl (by intro u hu; simp at hu; subst hu; rfl) (by omega) (by omega) ?_; clear hS; intro z_ v' w_ hS; (try simp only [Act.put, Act.eval, zz, Value.cells] at hS)))
 have hS1 : St w0 w_ [.own v' 5 1 (l.length + 1 + 0) (Ad (l ++ 6 :: List.replicate 0 0))] K := by simpa [Ad] using hS
 clear hS
 obtain ⟨z, hz⟩ : ∃ z, z = (136 - (l.length + 1) % 136) % 136 := ⟨_, rfl⟩
 have hz1 : z < 136 := by omega
 have hz2 : (l.length + 1 + z) % 136 = 0 := by omega
 have hz3 : ∀ j, j < z -> (l.length + 1 + j) % 136 ≠ 0 := fun j hj => by omega
 have HZ := Lib.hid hz2
 have HZ3 := Lib.hid hz3
 clear hz hz2 hz3
 go_loopw [3] (fun o wr => ∃ (j : Nat) (ov : Value), j <= z /\ o = ov /\ (∃ g c, ov = .slice (some ⟨g, 0, none⟩) (l.length + 1 + j) c) /\ St w0 wr [.own ov 5 1 (l.length + 1 + j) (Ad (l ++ 6 :: List.replicate j 0))] K) (fun o _ => match o with | .slice _ n _ => l.length + 1 + z - n | _ => 0)
 case atStart =>
  obtain ⟨g1, c1, e1, _, _⟩ := DV (hS1.own 0 rfl) (by omega)
  exact ⟨0, v', by omega, rfl, ⟨g1, c1, e1⟩, hS1⟩
 case round =>
  clear hS1
  obtain ⟨j, ov, hj, rfl, ⟨g1, c1, rfl⟩, hS⟩ := hrel
  have hm : ((l.length + 1 + j : Nat) : Int).tmod 136 = (((l.length + 1 + j) % 136 : Nat) : Int) := FI _ 136
  by_cases hlt : j < z
  ·have hne := HZ3.out j hlt
   go_wp2_with (first
    | ((with_reducible refine qB ?_); refine qc ?_ ?_ <;> intro h_ <;> go_prune)
    | ((with_reducible refine qA 15 ?_); refine Do hS 0 rfl rfl _ _ _ _ rfl rfl Dc _ _ _ (.int .u8 0) #[.int .u8 0] rfl (by kernel_rfl) rfl rfl rfl rfl (by intro u hu; simp at hu; subst hu; rfl) (by omega) (by omega) ?_; clear hS; intro z_ v' w_ hS; (try simp only [Act.put, Act.eval, zz, Value.cells] at hS)))
   ·obtain ⟨g2, c2, e2, _, _⟩ := DV (hS.own 0 rfl) (by omega)
    subst e2
    refine ⟨⟨j + 1, _, hlt, rfl, ⟨g2, c2, rfl⟩, ?_⟩, by simp; omega⟩
    rw [List.replicate_succ', <- List.cons_append, <- List.append_assoc]
    have : (Ad (l ++ 6 :: List.replicate j 0 ++ [0])) = Ad (l ++ 6 :: List.replicate j 0) ++ [.int .u8 0] := by simp [Ad]
    rw [this]; exact hS
  ·obtain rfl : j = z := by omega
   have h0 := HZ.out
   rw [h0] at hm
   obtain ⟨k, hk⟩ : ∃ k, k = l.length + j := ⟨_, rfl⟩
   have t1 : (l.length : Int) + 1 + (j : Int) - 1 = (k : Int) := by omega
   have t2 : k < l.length + 1 + j := by omega
   have hc : (Ad (l ++ 6 :: List.replicate j 0))[k]? = some (.int .u8 ((l ++ 6 :: List.replicate j 0).getD k 0 : Nat)) := CU _ _ (by simp; omega)
   have hbb : AK (l ++ 6 :: List.replicate j 0) := fun x hx => by
    rcases List.mem_append.1 hx with h | h
    ·exact hb x h
    ·rcases List.mem_cons.1 h with rfl | h
     ·decide
     ·exact AK.rep _ x h
   have hx := u8_xor_nat _ 128 (hbb.getD k) (by decide)
   have HPE := Lib.hid (padB_eq l hz1 h0)
   rw [<- hk] at HPE
   have HC := Lib.hid hc
   have HX := Lib.hid hx
   clear hc hx hbb hk
   generalize (l ++ 6 :: List.replicate j 0) = L at *
   generalize L.getD k 0 = y at *
   go_wp2_with (first
    | ((with_reducible refine qB ?_); refine qc ?_ ?_ <;> intro h_ <;> go_prune)
    | ((with_reducible refine qA 26 ?_); refine BigFrame.wpList_want rfl fun _ hK => Ao rfl rfl (by kernel_rfl) (BV (hS.own 0 rfl) k _ HC.out) (hK _ _ ?_))
    | ((with_reducible refine qm 5 ?_); refine Dw hS 0 rfl _ _ _ rfl g1 k (.int .u8 ((y ^^^ 128 : Nat) : Int)) rfl (congrArg (Value.int .u8) HX.out) rfl (by omega) rfl rfl (by kernel_rfl) ?_; clear hS; intro w_ hS; (try simp only [Act.put, Act.eval, zz, Value.cells] at hS)))
   go_ret
   rw [<- G9, HPE.out] at hS
   exact Aw.mk (I7 (hS.own 0 rfl) rfl) hS.below
end
section
open Go.RowKit
attribute [local go_sem ↓] Go.wp_at_zero Go.wp_at_succ
set_option maxRecDepth 20000
def pw (b : List Nat) (i : Nat) : Nat -> Nat
 | 0 => 0
 | n + 1 => pw b i n + 2 ^ (8 * n) * b.getD (8 * i + n) 0
theorem pw_lt {b : List Nat} (h : ∀ k, b.getD k 0 < 256) (i n : Nat) : pw b i n < 2 ^ (8 * n) := by
 induction n with
 | zero => simp [pw]
 | succ n ih =>
  show pw b i n + 2 ^ (8 * n) * b.getD (8 * i + n) 0 < 2 ^ (8 * (n + 1))
  have h1 := h (8 * i + n)
  have h2 : 2 ^ (8 * (n + 1)) = 2 ^ (8 * n) * 256 := by rw [show 8 * (n + 1) = 8 * n + 8 by omega, Nat.pow_add]
  have h3 : 2 ^ (8 * n) * (b.getD (8 * i + n) 0 + 1) <= 2 ^ (8 * n) * 256 := Nat.mul_le_mul_left _ (by omega)
  rw [Nat.mul_add] at h3
  omega
theorem xor_disj {x i a : Nat} (h : x < 2 ^ i) : x ^^^ (2 ^ i * a) = x + 2 ^ i * a := by
 apply Nat.eq_of_testBit_eq
 intro j
 rw [Nat.testBit_xor, Nat.add_comm x, Nat.testBit_two_pow_mul_add _ h, Nat.testBit_two_pow_mul]
 rcases Nat.lt_or_ge j i with hj | hj
 ·rw [if_pos hj]; simp [show ¬ i <= j by omega]
 ·rw [if_neg (by omega), Nat.testBit_lt_two_pow (Nat.lt_of_lt_of_le h (Nat.pow_le_pow_right (by decide) hj))]; simp [hj]
theorem lew_pw {b : List Nat} (h : ∀ k, b.getD k 0 < 256) (i : Nat) : lew b i 8 = pw b i 8 := by
 have step : ∀ x y : Nat, y < 256 -> x * 256 < AE -> (x * 256) % AE ||| y = x * 256 + y := fun x y hy hx => by
  rw [Nat.mod_eq_of_lt hx, Nat.mul_comm x, show 256 = 2 ^ 8 from rfl, Nat.two_pow_add_eq_or_of_lt hy]
 have h0 := h (8 * i + 0)
 have h1 := h (8 * i + 1)
 have h2 := h (8 * i + 2)
 have h3 := h (8 * i + 3)
 have h4 := h (8 * i + 4)
 have h5 := h (8 * i + 5)
 have h6 := h (8 * i + 6)
 have h7 := h (8 * i + 7)
 simp only [lew, pw]
 simp only [show 7 - 0 = 7 from rfl, show 7 - 1 = 6 from rfl, show 7 - 2 = 5 from rfl, show 7 - 3 = 4 from rfl, show 7 - 4 = 3 from rfl, show 7 - 5 = 2 from rfl, show 7 - 6 = 1 from rfl, show 7 - 7 = 0 from rfl]
 generalize b.getD (8 * i + 0) 0 = y0 at *
 generalize b.getD (8 * i + 1) 0 = y1 at *
 generalize b.getD (8 * i + 2) 0 = y2 at *
 generalize b.getD (8 * i + 3) 0 = y3 at *
 generalize b.getD (8 * i + 4) 0 = y4 at *
 generalize b.getD (8 * i + 5) 0 = y5 at *
 generalize b.getD (8 * i + 6) 0 = y6 at *
 generalize b.getD (8 * i + 7) 0 = y7 at *
 rw [step 0 y7 h7 (by unfold AE; omega)]
 rw [step _ y6 h6 (by unfold AE; omega)]
 rw [step _ y5 h5 (by unfold AE; omega)]
 rw [step _ y4 h4 (by unfold AE; omega)]
 rw [step _ y3 h3 (by unfold AE; omega)]
 rw [step _ y2 h2 (by unfold AE; omega)]
 rw [step _ y1 h1 (by unfold AE; omega)]
 rw [step _ y0 h0 (by unfold AE; omega)]
 omega
def xB (a b : List Nat) (k : Nat) : List Nat := (List.range 25).map fun i => a.getD i 0 ^^^ pw b i (min 8 (k - 8 * i))
theorem xB_len (a b : List Nat) (k : Nat) : (xB a b k).length = 25 := by simp [xB]
theorem xB_at (a b : List Nat) (k i : Nat) (h : i < 25) : (xB a b k).getD i 0 = a.getD i 0 ^^^ pw b i (min 8 (k - 8 * i)) := by
 simp [xB, List.getD_eq_getElem?_getD, h]
theorem xB_zero (a b : List Nat) (h : a.length = 25) : xB a b 0 = a := by
 apply List.ext_getElem
 ·rw [xB_len, h]
 ·intro j h1 h2
  simp [xB, pw, List.getElem?_eq_getElem h2]
theorem xB_step (a : List Nat) {b : List Nat} (hb : ∀ k, b.getD k 0 < 256) {k : Nat} (hk : k < 136) :
  (xB a b k).set (k / 8) ((xB a b k).getD (k / 8) 0 ^^^ (2 ^ (8 * (k % 8)) * b.getD k 0)) = xB a b (k + 1) := by
 apply List.ext_getElem
 ·simp [xB]
 ·intro j h1 h2
  have hj : j < 25 := by simpa [xB] using h2
  have e : (xB a b (k + 1))[j] = a.getD j 0 ^^^ pw b j (min 8 (k + 1 - 8 * j)) := by simp [xB]
  refine Eq.trans ?_ e.symm
  rw [List.getElem_set]
  split
  ·rename_i hkj
   subst hkj
   rw [xB_at _ _ _ _ hj, Nat.xor_assoc]
   congr 1
   rw [show min 8 (k - 8 * (k / 8)) = k % 8 by omega, show min 8 (k + 1 - 8 * (k / 8)) = k % 8 + 1 by omega, xor_disj (pw_lt hb _ _)]
   show _ = pw b (k / 8) (k % 8) + 2 ^ (8 * (k % 8)) * b.getD (8 * (k / 8) + k % 8) 0
   rw [Nat.div_add_mod]
  ·rename_i hkj
   have e2 : (xB a b k)[j]'(by rw [xB_len]; exact hj) = a.getD j 0 ^^^ pw b j (min 8 (k - 8 * j)) := by simp [xB]
   refine e2.trans ?_
   rw [show min 8 (k + 1 - 8 * j) = min 8 (k - 8 * j) by omega]
theorem xB_full (a : List Nat) {b : List Nat} (hb : ∀ k, b.getD k 0 < 256) : xB a b 136 = D5 (absW a b) a 17 := by
 unfold xB D5
 apply List.map_congr_left
 intro i hi
 have hi : i < 25 := List.mem_range.1 hi
 split
 ·rename_i h
  rw [show min 8 (136 - 8 * i) = 8 by omega, <- lew_pw hb]
  rfl
 ·rename_i h
  rw [show min 8 (136 - 8 * i) = 0 by omega]
  simp [pw]
theorem lastK_len {r : List Nat} (h : r.length < 136) : (EW r).length = 136 := by
 unfold EW
 simp
 omega
theorem blk_pad (l : List Nat) {j : Nat} (hj : j < l.length / 136) : EA (Fz l) j = EA l j := by
 have hd := Nat.div_add_mod l.length 136
 unfold EA Fz
 have e : (l.take (136 * (l.length / 136))).drop (136 * j) = (l.drop (136 * j)).take (136 * (l.length / 136) - 136 * j) := by rw [List.drop_take]
 rw [List.drop_append_of_le_length (by rw [List.length_take]; omega), e, List.take_append_of_le_length (by rw [List.length_take, List.length_drop]; omega), List.take_take]
 congr 1
 omega
theorem blk_last (l : List Nat) : EA (Fz l) (l.length / 136) = EW (l.drop (136 * (l.length / 136))) := by
 have hd := Nat.div_add_mod l.length 136
 have hr : (l.drop (136 * (l.length / 136))).length < 136 := by rw [List.length_drop]; omega
 unfold EA Fz
 have hl : (l.take (136 * (l.length / 136))).length = 136 * (l.length / 136) := by rw [List.length_take]; omega
 rw [List.drop_append, List.drop_eq_nil_of_le (by omega), hl, Nat.sub_self, List.drop_zero, List.nil_append, List.take_of_length_le (by rw [lastK_len hr]; omega)]
theorem stB_pad (st l : List Nat) : ∀ j, j <= l.length / 136 -> stB st (Fz l) j = stB st l j
 | 0, _ => rfl
 | j + 1, h => by
  show CO (stB st (Fz l) j) (EA (Fz l) j) = CO (stB st l j) (EA l j)
  rw [stB_pad st l j (by omega), blk_pad l h]
theorem sha3_pad (l : List Nat) : CQ l = (List.range 32).map (Gw (stB (List.replicate 25 0) (Fz l) (l.length / 136 + 1))) := by
 unfold CQ GT
 show _ = (List.range 32).map (Gw (CO (stB (List.replicate 25 0) (Fz l) (l.length / 136)) (EA (Fz l) (l.length / 136))))
 rw [stB_pad _ _ _ (Nat.le_refl _), blk_last]
theorem blk_at (M : List Nat) (j k : Nat) (hk : k < 136) : (EA M j).getD k 0 = M.getD (136 * j + k) 0 := by
 unfold EA
 rw [List.getD_eq_getElem?_getD, List.getElem?_take, if_pos hk, List.getElem?_drop, <- List.getD_eq_getElem?_getD]
theorem St.putBox {w0 w : World} {F : List A7} {K : (Nat -> Prop) -> World -> Prop} (h : St w0 w F K) (i : Nat) {g : Nat} {t : TypeId} {cs : Array Value} (hi : F[i]? = some (.box g t cs)) (j : Nat) (u : Value) :
  St w0 (w.setCell ⟨g, j, none⟩ u) (F.set i (.box g t (cs.setIfInBounds j u))) K :=
 (h.upd i hi (.box g t (cs.setIfInBounds j u)) (BE (BK w g j u)) ⟨(h.holds _ (List.mem_of_getElem? hi)).1, (h.box i hi).setC u⟩ fun _ e => .inl e)
theorem sl_byte {w : World} {D : Nat -> Prop} {b o n c : Nat} {l : List Nat} (h : Sl w D 1 (.slice (some ⟨b, o, none⟩) n c) n (Ad l)) (hl : l.length = n) {j : Nat} (hj : j < n) : w.cell? ⟨b, o + j, none⟩ = some (.int .u8 (l.getD j 0 : Nat)) := by
 obtain ⟨_, A, c', e, _, _, h3⟩ := h
 injection e with e1 e2 e3
 obtain ⟨b', o', hA, _, _, h4⟩ := h3 (by omega)
 rw [hA] at e1
 injection e1 with e1
 injection e1 with e1 e2 _
 subst e1 e2
 exact h4 j _ (CU l j (by omega))
theorem run_shl8 {P : Program} {w : World} {t : TypeId} {y k : Nat} {e : Int} (hy : y < 256) (he : e = ((8 * (k % 8) : Nat) : Int)) : (binOp .shl t (.int .u64 (y : Nat)) (.int .i64 e)).run P w = .ok (.int .u64 ((2 ^ (8 * (k % 8)) * y : Nat) : Int)) w := by
 subst he
 have h := (shl8 hy (k % 8) (Nat.mod_lt _ (by decide))).1
 have h1 : (((8 * (k % 8) : Nat) : Int)).toNat = 8 * (k % 8) := by omega
 have h2 : ¬ (((8 * (k % 8) : Nat) : Int)) < 0 := by omega
 go_simp
 rw [show (8 * ((k : Int) % 8)).toNat = 8 * (k % 8) by omega, h]
 rw [Int.natCast_mul, Int.natCast_pow]; exact Int.mul_comm _ _
set_option maxHeartbeats 4000000 in
theorem sum03_any (p : Value) (l : List Nat) (hb : AK l) (hl : l.length <= 100000000) (w0 : World) (D : Nat -> Prop) (hp : Sl w0 D 1 p l.length (Ad l)) :
  Calls Tryz.prog 160 #[p] w0 (Aw (fun x _ => x = .agg (Ad (CQ l)).toArray) w0) := by
 obtain ⟨K, hk, hS⟩ : ∃ K : (Nat -> Prop) -> World -> Prop, (∀ D w, K D w -> Sl w D 1 p l.length (Ad l)) /\ St w0 w0 [] K := ⟨_, fun _ _ h => h, St.start Aj hp⟩
 clear hp
 have HK := Lib.hid hk
 clear hk
 obtain ⟨M, q, hMb, hMl, hql, HPad, HSH⟩ : ∃ (M : List Nat) (q : Nat), AK M /\ (M.length <= 136 * q /\ 136 * q <= M.length) /\ q <= 1000000 /\ Hid (∀ (w : World) (D : Nat -> Prop), Sl w D 1 p l.length (Ad l) -> Calls Tryz.prog 200 #[p] w (Aw (fun x w' => FA w' w.heap.size x M) w)) /\ Hid (CQ l = (List.range 32).map (Gw (stB (List.replicate 25 0) M q)) /\ 0 < q) :=
  ⟨Fz l, l.length / 136 + 1, padB_bytes hb, ⟨Nat.le_of_eq (padB_len l), Nat.le_of_eq (padB_len l).symm⟩, by omega, Lib.hid (fun w D h => pad03_any p l hb (by omega) w D h), Lib.hid ⟨sha3_pad l, by omega⟩⟩
 have HMB := Lib.hid hMb
 clear hMb hb
 obtain ⟨hMl, hMl'⟩ := hMl
 go_enter Tryz.func160, Tryz.ntmps160
 go_wp2_with (first
  | ((with_reducible refine qA 2 ?_); refine Cp hS rfl _ rfl (by kernel_rfl) (Ad (List.replicate 32 0)).toArray (by kernel_rfl) ?_; clear hS; intro g2 w_ hS; (try simp only [Act.put, Act.eval, zz, Value.cells] at hS))
  | ((with_reducible show wpList _ _ _ (⟨_, .makeSlice _ _ _, _, _, _, _⟩ :: _) _ _); refine J8 hS rfl _ _ _ rfl JG .i64 .i64 25 #[.int .u64 0] rfl rfl (by kernel_rfl) (by decide) (by decide) ?_; clear hS; intro g11 w_ hS)
  | (go_at_call 200; refine (HPad.out _ _ (HK.out _ _ hS.ro)).mono ?_; rintro r_ w2 ⟨v2, rfl, h2, hb2⟩; replace hS := hS.owned hb2 h2; clear h2 hb2))
 rw [Id] at hS
 obtain ⟨mb, mc, rfl, _, _⟩ := DV (hS.own 0 rfl) (by have := HSH.out.2; omega)
 replace hS := hS.freeze 0 (by decide) rfl
 obtain ⟨K2, hK2, hS2, hS⟩ : ∃ K2 : (Nat -> Prop) -> World -> Prop, (∀ D w, K2 D w -> Sl w D 1 (.slice (some ⟨mb, 0, none⟩) M.length mc) M.length (Ad M)) /\ AF K2 /\ St w0 w2 [.own (.slice (some ⟨g11, 0, none⟩) 25 25) 26 1 25 (At (List.replicate 25 0)), .box g2 86 (Ad (List.replicate 32 0)).toArray] K2 := ⟨_, fun _ _ h => h.2, hS.stable, hS⟩
 have HK2 := Lib.hid hK2
 clear hK2 HK HPad
 go_loopw [3, 5] (fun av i wr => ∃ (j at_ g c : Nat), j <= q /\ (at_ <= 136 * j /\ 136 * j <= at_) /\ i = .int .i64 (at_ : Nat) /\ av = .slice (some ⟨g, 0, none⟩) 25 c /\ St w0 wr [.own (.slice (some ⟨g, 0, none⟩) 25 c) 26 1 25 (At (stB (List.replicate 25 0) M j)), .box g2 86 (Ad (List.replicate 32 0)).toArray] K2) (fun _ i _ => M.length - (intOf i).toNat)
 case atStart => exact ⟨0, 0, g11, 25, by omega, by omega, rfl, rfl, hS⟩
 case round =>
  clear hS
  obtain ⟨j, at_, g, c, hj, hat, rfl, rfl, hS⟩ := hrel
  obtain ⟨hwA, hlA⟩ := stB_ok (Ax.zeros 25) (by simp) HMB.out j
  by_cases hlt : j < q
  ·obtain ⟨B, hB, hBb, hBn⟩ : ∃ B, B = EA M j /\ AK B /\ ∀ k, k < 136 -> B.getD k 0 = M.getD (at_ + k) 0 := ⟨_, rfl, (HMB.out.drop _).take _, fun k hk => by rw [show at_ = 136 * j by omega]; exact blk_at M j k hk⟩
   have HST := Lib.hid (show stB (List.replicate 25 0) M (j + 1) = CO (stB (List.replicate 25 0) M j) B by rw [hB]; rfl)
   generalize stB (List.replicate 25 0) M j = a at *
   have HAB := Lib.hid (show CO a B = perm (xB a B 136) by rw [xB_full a fun k => hBb.getD k]; rfl)
   have HBB := Lib.hid hBb
   have HBN := Lib.hid hBn
   have HX0 := Lib.hid (xB_zero a B hlA)
   have hwX : ∀ k, Ax (xB a B k) := fun k => Ax.range _ _ fun i _ => BR (hwA.getD i) (Nat.lt_of_lt_of_le (pw_lt (fun k => HBB.out.getD k) i _) (by rw [show AE = 2 ^ 64 from rfl]; exact Nat.pow_le_pow_right (by decide) (by omega)))
   have HWX := Lib.hid hwX
   clear hB hBb hBn hwX
   go_wp2_with (first | ((with_reducible refine qB ?_); refine qc ?_ ?_ <;> intro h_ <;> go_prune))
   rw [<- HX0.out] at hS
   go_loopw [6] (fun i wr => ∃ (k : Nat), k <= 136 /\ i = .int .i64 k /\ St w0 wr [.own (.slice (some ⟨g, 0, none⟩) 25 c) 26 1 25 (At (xB a B k)), .box g2 86 (Ad (List.replicate 32 0)).toArray] K2) (fun i _ => 136 - (intOf i).toNat)
   case atStart => exact ⟨0, by omega, rfl, hS⟩
   case round =>
    clear hS
    obtain ⟨k, hk, rfl, hS⟩ := hrel
    by_cases hlk : k < 136
    ·have hb8 := HBB.out.getD k
     have H0 := Lib.hid (fun (w : World) (h : Below wr.heap.size wr w) => sl_byte (HK2.out _ _ (hS.ext h).ro) rfl (j := at_ + k) (by omega))
     rw [<- HBN.out k hlk] at H0
     have H3 := Lib.hid (fun (w : World) (h : Below wr.heap.size wr w) => BV ((hS.ext h).own 0 rfl) (k / 8) _ (C6 _ (k / 8) (by rw [xB_len]; omega)))
     have HXS := Lib.hid (xB_step a (b := B) (fun k => HBB.out.getD k) hlk)
     have hwk := (HWX.out k).getD (k / 8)
     generalize B.getD k 0 = y at *
     generalize hX : xB a B k = X at *
     have HX := Lib.hid hX
     clear hX
     generalize X.getD (k / 8) 0 = x at *
     have ta : at_ + k < M.length := by omega
     obtain ⟨hsh, hyT⟩ := shl8 hb8 (k % 8) (Nat.mod_lt _ (by decide))
     rw [Nat.mul_comm] at hyT
     go_wp2_with fail
     refine wp_zL 21 [] [.i (.slice (some ⟨g, 0, none⟩) 25 c), .n ((k : Nat) : Int), .n (((k : Nat) : Int) / (8 : Int)), .i (.slice (some ⟨g, 0, none⟩) 25 c), .n ((k : Nat) : Int), .n (((k : Nat) : Int) / (8 : Int)), .q g (0 + (k / 8) * 1), .i (.int .u64 ((x : Nat) : Int)), .i (.slice (some ⟨mb, 0, none⟩) M.length mc), .n ((at_ : Nat) : Int), .n ((k : Nat) : Int), .n (((at_ : Nat) : Int) + ((k : Nat) : Int)), .q mb (0 + (at_ + k) * 1), .i (.int .u8 ((y : Nat) : Int)), .i (.int .u64 ((y : Nat) : Int)), .n ((k : Nat) : Int), .n (((k : Nat) : Int) % (8 : Int)), .n ((8 : Int) * (((k : Nat) : Int) % (8 : Int))), .i (.int .u64 ((2 ^ (8 * (k % 8)) * y : Nat) : Int)), .i (.int .u64 ((x ^^^ (2 ^ (8 * (k % 8)) * y) : Nat) : Int)), .q g (0 + (k / 8) * 1), .t] ⟨uM, uM, uB (h := fun w hW hN => Ge (by omega) (by omega)), uM, uM, uB (h := fun w hW hN => Ge (by omega) (by omega)), uI (h := fun w hW hN => Ai (m := k / 8) Tryz.underlying37 (by kernel_rfl) (by omega) (by omega)), uC (h := fun w hW hN => by rw [Nat.zero_add, Nat.mul_one]; exact H3.out w hW), uM, uM, uM, uB (h := fun w hW hN => CG (by omega) (by omega)), uI (h := fun w hW hN => Ai (m := at_ + k) Tryz.underlying22 (by kernel_rfl) (by omega) (by omega)), uC (h := fun w hW hN => by rw [Nat.mul_one]; exact H0.out w hW), uE (h := fun w hW hN => by go_simp; exact Cv (by unfold AE; omega)), uM, uB (h := fun w hW hN => ER (by omega) (by omega)), uB (h := fun w hW hN => E0 (by omega) (by omega)), uB (h := fun w hW hN => run_shl8 hb8 (by omega)), uB (h := fun w hW hN => Dy hwk hyT), uI (h := fun w hW hN => Ai (m := k / 8) Tryz.underlying37 (by kernel_rfl) (by omega) (by omega)), trivial⟩ ?_
     ·intro vs wz hW hT
      obtain ⟨e24, e25, e26, e27, e28, e29, e30, e31, e32, e33, e34, e35, e36, e37, e38, e39, e40, e41, e42, e43, e44, -⟩ := hT
      simp only [AV, Act.put, zz, ze]
      (intro o_ ho_; simp only [List.getElem?_toArray, List.getElem?_cons_succ, List.getElem?_cons_zero, Option.some.injEq] at ho_; subst ho_)
      refine Eh rfl (g := g) (i := k / 8) (e44.trans (by rw [Nat.zero_add, Nat.mul_one])) e43 ((hS.ext hW).own 0 rfl) (by omega) rfl rfl (by kernel_rfl) fun w4 h1 hU => ?_
      replace hS := (hS.ext hW).upd 0 rfl (.own (.slice (some ⟨g, 0, none⟩) 25 c) 26 1 25 ((At X).set (k / 8) (Value.int .u64 ((x ^^^ (2 ^ (8 * (k % 8)) * y) : Nat) : Int)))) (by simpa [A7.blk, Value.ownBlock] using BE hU) h1 fun _ e => .inl e
      rw [<- Eb, HXS.out] at hS
      simp only [CJ]
      simp only [Act.put, List.setIfInBounds_toArray, List.set_cons_zero, List.set_cons_succ]
      clear e43 e44 h1 hU hW
      go_wp2_with fail
      exact ⟨⟨k + 1, hlk, by go_num, hS⟩, by simp [intOf]; omega⟩
    ·obtain rfl : k = 136 := by omega
     obtain ⟨A, hAE, hAw, hAl⟩ : ∃ A, A = xB a B 136 /\ Ax A /\ A.length = 25 := ⟨_, rfl, HWX.out 136, xB_len _ _ _⟩
     rw [<- hAE] at hS HAB
     clear hAE hlk hk hwA hlA HWX HX0
     go_wp2_with (first
      | ((with_reducible refine qB ?_); refine qc ?_ ?_ <;> intro h_ <;> go_prune)
      | (go_at_call 201; refine (rounds03_any _).mono ?_; rintro r_ w2 ⟨v2, rfl, h2, hb2⟩; replace hS := (hS.owned hb2 h2).freeze 0 (by decide) rfl; obtain ⟨A2, c2, rfl, _, _⟩ := Sl.shape hS.ro.2; clear h2 hb2))
     obtain ⟨K3, hK3, hK32, hS⟩ : ∃ K3 : (Nat -> Prop) -> World -> Prop, (∀ D w, K3 D w -> Sl w D 1 (.slice A2 24 c2) 24 (At Bm)) /\ (∀ D w, K3 D w -> K2 D w) /\ St w0 w2 [.own (.slice (some ⟨g, 0, none⟩) 25 c) 26 1 25 (At A), .box g2 86 (Ad (List.replicate 32 0)).toArray] K3 := ⟨_, fun _ _ h => h.2, fun _ _ h => h.1, hS⟩
     have HK32 := Lib.hid hK32
     have HK2S := Lib.hid hS2
     clear hK32 hS2
     go_loopw [3, 47] (fun av i wr => ∃ (k g c : Nat), k <= 24 /\ i = .int .i64 k /\ av = .slice (some ⟨g, 0, none⟩) 25 c /\ St w0 wr [.own (.slice (some ⟨g, 0, none⟩) 25 c) 26 1 25 (At (EG A k)), .box g2 86 (Ad (List.replicate 32 0)).toArray] K3) (fun _ i _ => 24 - (intOf i).toNat)
     case atStart => exact ⟨0, g, c, by omega, rfl, rfl, hS⟩
     case round =>
      clear hS
      obtain ⟨k, g, c, hk, rfl, rfl, hS⟩ := hrel
      by_cases hlk : k < 24
      ·have k3 := hK3
       have f1 : (At Bm)[k]? = some (.int .u64 (Bm.getD k 0 : Nat)) := C6 Bm k hlk
       have HP := Lib.hid (FS A k hlk)
       obtain ⟨hwP, hlP⟩ := IP hAw hAl k hk
       have hwr := IM k
       generalize Bm.getD k 0 = rc at *
       generalize EG A k = B2 at *
       have HR3 := Lib.hid (fun (w : World) (D : Nat -> Prop) (p : Value) (h : Sl w D 1 p 25 (At B2)) => round03_any p B2 rc hlP hwP hwr w D h)
       clear hwP hlP hwr
       go_wp2_with (first
        | ((with_reducible refine qB ?_); refine qc ?_ ?_ <;> intro h_ <;> go_prune)
        | ((with_reducible refine qI ?_); refine Dx hS rfl _ _ _ rfl _ rfl rfl (by assumption) Tryz.underlying37 (by kernel_rfl) (by first | assumption | omega) _ (by assumption) ?_; intro p_ hc_)
        | (go_at_call 202; refine (HR3.out _ _ _ (Sl.of_own (hS.own 0 rfl))).mono ?_; rintro r_ w3 ⟨v3, rfl, h3, hb3⟩; replace hS := (hS.owned hb3 h3).sub (.cons_cons _ (.cons _ (.refl _))); clear h3 hb3))
       obtain ⟨g3, c3, rfl, _, _⟩ := DV (hS.own 0 rfl) (by omega)
       exact ⟨⟨k + 1, g3, c3, hlk, by go_num, rfl, by rw [HP.out]; exact hS⟩, by simp [intOf]; omega⟩
      ·obtain rfl : k = 24 := by omega
       go_wp2_with (first | ((with_reducible refine qB ?_); refine qc ?_ ?_ <;> intro h_ <;> go_prune))
       refine ⟨⟨j + 1, at_ + 136, g, c, by omega, by omega, by go_num, rfl, ?_⟩, by simp [intOf]; omega⟩
       rw [HST.out, HAB.out, perm_eq]
       exact hS.mono HK2S.out HK32.out
  ·obtain rfl : j = q := by omega
   obtain ⟨A, hAE⟩ : ∃ A, A = stB (List.replicate 25 0) M j := ⟨_, rfl⟩
   rw [<- hAE] at hS HSH hwA hlA
   have HAw := Lib.hid hwA
   have hfz : BC (Gw A) 0 32 = List.replicate 32 0 := DO _ _
   clear hAE hlt hj hwA
   go_wp2_with (first
    | ((with_reducible refine qB ?_); refine qc ?_ ?_ <;> intro h_ <;> go_prune)
    | ((with_reducible refine qA 9 ?_); refine Cp hS rfl _ rfl (by kernel_rfl) (Ad (List.replicate 32 0)).toArray (by kernel_rfl) ?_; clear hS; intro g9 w_ hS; (try simp only [Act.put, Act.eval, zz, Value.cells] at hS)))
   rw [<- hfz] at hS
   clear hfz
   go_loopw [10] (fun i wr => ∃ (k : Nat), k <= 32 /\ i = .int .i64 k /\ St w0 wr [.box g9 86 (Ad (BC (Gw A) k 32)).toArray, .own (.slice (some ⟨g, 0, none⟩) 25 c) 26 1 25 (At A), .box g2 86 (Ad (List.replicate 32 0)).toArray] K2) (fun i _ => 32 - (intOf i).toNat)
   case atStart => exact ⟨0, by omega, rfl, hS⟩
   case round =>
    clear hS
    obtain ⟨k, hk, rfl, hS⟩ := hrel
    by_cases hlt : k < 32
    ·have h0 := (hS.own 1 rfl).cellAt (k / 8) (by omega)
     rw [C6 _ _ (by omega)] at h0
     have hO := hS.box 0 rfl
     have h1' := hO.byte (i := k) (by rw [DE]; omega)
     have h2' := hO.free k
     have l0 := HAw.out.getD (k / 8)
     have HO := Lib.hid (show Gw A k = A.getD (k / 8) 0 / 2 ^ (8 * (k % 8)) % 256 from rfl)
     generalize A.getD (k / 8) 0 = x at *
     have s1 : (8 * ((k : Int) % 8)).toNat = 8 * (k % 8) := by omega
     clear hO
     go_wp2_with fail
     have he : (x : Int) / 2 ^ (8 * (k % 8)) % 256 = ((Gw A k : Nat) : Int) := by rw [HO.out, Int.natCast_emod, Int.natCast_ediv, Int.natCast_pow]; rfl
     rw [he]
     have hS' := hS.putBox 0 rfl k (.int .u8 (Gw A k : Nat))
     refine ⟨⟨k + 1, hlt, by go_num, ?_⟩, by simp [intOf]; omega⟩
     rw [<- Ek, G9]
     simpa using hS'
    ·obtain rfl : k = 32 := by omega
     rw [Dl] at hS
     obtain ⟨L, hL, hLL⟩ : ∃ L, L = (List.range 32).map (Gw A) /\ L.length = 32 := ⟨_, rfl, by simp⟩
     rw [<- hL] at hS HSH
     have hi32 : (Tryz.prog.info? 86).map (·.size) = some (Ad L).toArray.size := by rw [List.size_toArray, Ae, hLL]; kernel_rfl
     have HON := Lib.hid (show (Ad L).toArray.all (·.oneCell') = true from all_oneCell_toArray (B7 _))
     have HI := Lib.hid hi32
     have HOL := Lib.hid (show (Ad (List.replicate 32 0)).toArray.size = (Ad L).toArray.size by simp [Ae, hLL])
     clear hL hLL hi32
     go_wp2_with (first
      | ((with_reducible refine qB ?_); refine qc ?_ ?_ <;> intro h_ <;> go_prune)
      | ((with_reducible refine qA 71 ?_); refine DU hS 0 rfl _ _ rfl g9 rfl _ (Ad L).toArray rfl _ Tryz.underlying86 rfl HI.out ?_)
      | ((with_reducible refine qm 86 ?_); refine Cc hS 2 rfl _ _ _ rfl g2 (Ad L).toArray rfl rfl _ _ rfl HI.out HOL.out HON.out ?_; clear hS; intro w_ hS; (try simp only [Act.put, Act.eval, zz, Value.cells] at hS)))
     refine bodyPost_ret (v := .agg (Ad L).toArray) (by exact results_cell_row rfl _ _ g2 86 _ (0, 0) _ rfl (hS.box 2 rfl) Tryz.underlying86 rfl HI.out) rfl ?_
     exact Aw.mk (by rw [HSH.out.1]) hS.below
end
section
open Go.RowKit
attribute [local go_sem ↓] Go.wp_at_zero Go.wp_at_succ
set_option maxRecDepth 20000
set_option exponentiation.threshold 5000
theorem run_conv_sb (w : World) (s : ByteArray) (hs : s.size <= 1000000) : ∃ v w', (convert 9 22 (.string s)).run Tryz.prog w = .ok v w' /\ Sl w' (w.heap.size <= ·) 1 v (sb s).length (Ad (sb s)) /\ Below w.heap.size w w' := by
 have hcv := run_bytes_of_string (P := Tryz.prog) w 9 22 5 s Tryz.underlying9 Tryz.underlying22 Tryz.underlying5
 have hg1 := grownCap_ge w s.size 0 5
 have hg2 := grownCap_le_maxLen w s.size 0 5 (by unfold maxLen; omega)
 generalize grownCap w s.size 0 5 = cap at *
 have hcell : ∀ j, j < s.size -> (bytesRow s cap)[j]? = some (.int .u8 ((sb s).getD j 0 : Nat)) := fun j hj => by
  rw [bytesRow_at s cap j hj, sb, List.getD_eq_getElem?_getD, List.getElem?_map, List.getElem?_eq_getElem (by simpa using hj)]
  rfl
 generalize bytesRow s cap = C at *
 refine ⟨_, _, hcv, ?_, (Below.refl _ _).drew.alloc (Nat.le_refl _) _⟩
 rw [EE]
 refine ⟨by simp [Ad, EE], _, _, rfl, hg1, hg2, fun _ => ⟨w.heap.size, 0, rfl, Nat.le_refl _, by simp, fun j x hj => ?_⟩⟩
 have hj' : j < s.size := by
  rcases Nat.lt_or_ge j s.size with h | h
  ·exact h
  ·rw [List.getElem?_eq_none (by rw [Ae, EE]; exact h)] at hj; cases hj
 rw [Nat.zero_add]
 refine (cell_of_row _ w.heap.size j C 5 _ (heap_alloc_new w.drew _)).trans ((hcell j hj').trans ?_)
 rw [<- hj]
 exact (CU _ _ (by rw [EE]; exact hj')).symm
theorem opw_convw {P : Program} {o : Oper} {a : Act} {w w' : World} {K : Act -> World -> Prop} {Q : Exit -> Act -> World -> Prop} {s d : TypeId} {x : Operand} {vx v : Value} (ho : o.op = .convert s d x) (hx : a.eval x = vx) (hr : (convert s d vx).run P w = .ok v w') (hk : K (a.put o.dst v) w') : o.wp P a w K Q := by
 unfold Oper.wp execOp
 simp only [ho, hx, Sem.run_bind, hr, Result.andThen_ok]
 exact hk
theorem st_sconv {ops : Array Oper} {rest : List Oper} {o : Oper} {a : Act} {w0 w : World} {F : List A7} {K : (Nat -> Prop) -> World -> Prop} {Q : Exit -> Act -> World -> Prop} (h : St w0 w F K) (hg : o.guard = none) (x : Operand) (ho : o.op = .convert 9 22 x) (s : ByteArray) (hx : a.eval x = .string s) (hs : s.size <= 1000000)
  (hk : ∀ v w', St w0 w' F (fun D w => K D w /\ Sl w D 1 v (sb s).length (Ad (sb s))) -> wpList Tryz.prog ops Q rest (a.put o.dst v) w') : wpList Tryz.prog ops Q (o :: rest) a w := by
 obtain ⟨v, w', h1, h2, h3⟩ := run_conv_sb w s hs
 exact wpList_plain hg fun _ hK => opw_convw ho hx h1 (hK _ _ (hk v w' (h.ret h3 (Aj (by decide)) h2)))
set_option maxHeartbeats 1000000 in
theorem rtagged_any (s : ByteArray) (hs : s.size <= 1000000) (pv p : Value) (l : List Nat) (hb : AK l) (hl : l.length <= 10000000) (w0 : World) (D : Nat -> Prop) (hpv : Sl w0 D 1 pv 1 [p]) (hp : Sl w0 D 1 p l.length (Ad l)) :
  Calls Tryz.prog 110 #[.string s, pv] w0 (Aw (fun x _ => x = .agg (Ad (CQ (F6 s l))).toArray) w0) := by
 obtain ⟨A, c, rfl, _, _⟩ := hpv.shape
 obtain ⟨K, hk1, hk2, hS⟩ : ∃ K : (Nat -> Prop) -> World -> Prop, (∀ D w, K D w -> Sl w D 1 (.slice A 1 c) 1 [p]) /\ (∀ D w, K D w -> Sl w D 1 p l.length (Ad l)) /\ St w0 w0 [] K := ⟨_, fun _ _ h => h.1, fun _ _ h => h.2, St.start ((Aj (by decide)).and (Aj (by decide))) (D := D) ⟨hpv, hp⟩⟩
 clear hp hpv
 have HK2 := Lib.hid hk2
 have hsl := Lib.hid (EE s)
 have hsl1 : (sb s).length <= 1000000 := by rw [hsl.out]; exact hs
 obtain ⟨T, hT, hTB⟩ : ∃ T, T = sb s /\ AK T := ⟨_, rfl, sb_bytes s⟩
 have HTA := Lib.hid (show F6 s l = (Az T.length ++ T) ++ (Az l.length ++ l) by rw [hT]; rfl)
 have HR : ∀ (w : World) (D : Nat -> Prop) (x : Value) , Sl w D 1 x (sb s).length (Ad (sb s)) -> Calls Tryz.prog 159 #[x] w (Aw (fun x w' => FA w' w.heap.size x (Az T.length ++ T)) w) := fun w D x h => by
  rw [hT]; exact Gf x (sb s) (by omega) w D h
 have HRS := Lib.hid HR
 have hn1 := AB T.length
 have hn2 := AB l.length
 have hTl : T.length <= 1000000 := by rw [hT]; exact hsl1
 have HTB := Lib.hid hTB
 clear HR hT hTB hsl1
 have hS0 := hS.stable
 have HB3 := Lib.hid ((((BF T.length).append HTB.out).append ((BF l.length).append hb)))
 go_enter Tryz.func110, Tryz.ntmps110
 go_wp2_with (first
  | ((with_reducible refine qA 4 ?_); refine Cp hS rfl _ rfl (by kernel_rfl) (Ad (List.replicate 32 0)).toArray (by kernel_rfl) ?_; clear hS; intro g4 w_ hS; (try simp only [Act.put, Act.eval, zz, Value.cells] at hS))
  | ((with_reducible refine qA 9 ?_); refine st_sconv hS rfl _ rfl s rfl hs ?_; clear hS; intro vs_ w_ hS; (try simp only [Act.put, Act.eval, zz, Value.cells] at hS))
  | (go_at_call 159; refine (HRS.out _ _ _ hS.ro.2).mono ?_; rintro r_ w1 ⟨v1, rfl, h1, hb1⟩; replace hS := hS.owned hb1 h1; clear h1 hb1))
 replace hS := hS.mono (K' := K) hS0 fun _ _ h => h.1
 go_loopw [5, 13] (fun o i wr => ∃ (k : Nat) (ov : Value) (bs : List Nat), k <= 1 /\ i = .int .i64 k /\ o = ov /\ Hid (bs = (Az T.length ++ T) ++ (if k = 0 then [] else Az l.length ++ l)) /\ bs.length <= 2000000 + k * 11000000 /\ St w0 wr [.own ov 5 1 bs.length (Ad bs), .box g4 86 (Ad (List.replicate 32 0)).toArray] K) (fun _ i _ => 1 - (intOf i).toNat)
 case atStart => exact ⟨0, v1, _, by omega, rfl, rfl, Lib.hid (by simp), by rw [List.length_append]; omega, hS⟩
 case round =>
  clear hS
  obtain ⟨k, ov, bs, hk, rfl, rfl, HBS, hbl, hS⟩ := hrel
  by_cases hlt : k < 1
  ·obtain rfl : k = 0 := by omega
   have f1 : [p][0]? = some p := rfl
   go_wp2_with (first
    | ((with_reducible refine qB ?_); refine qc ?_ ?_ <;> intro h_ <;> go_prune)
    | ((with_reducible refine qI ?_); refine Dx hS rfl _ _ _ rfl _ rfl rfl (by assumption) Tryz.underlying166 (by kernel_rfl) (by first | assumption | omega) _ (by assumption) ?_; intro p_ hc_)
    | (go_at_call 159; refine (Gf p l (by omega) _ _ (HK2.out _ _ hS.ro)).mono ?_; rintro r_ w2 ⟨v2, rfl, h2, hb2⟩; replace hS := hS.owned hb2 h2; clear h2 hb2)
    | ((with_reducible refine qA 20 ?_); refine Dp hS 1 rfl _ _ _ rfl Dc _ _ _ rfl rfl _ _ _ _ rfl (Sl.of_own (hS.own 0 rfl)) (B7 _) (by rw [List.length_append]; unfold maxLen; omega) (by rw [List.length_append]; omega) ?_; clear hS; intro v_ w_ hS; (try simp only [Act.put, Act.eval, zz, Value.cells] at hS)))
   replace hS := hS.sub (F' := [_, _]) (.cons _ (.refl _))
   refine ⟨⟨1, v_, bs ++ (Az l.length ++ l), Nat.le_refl _, rfl, rfl, Lib.hid (by rw [HBS.out]; simp), by rw [List.length_append, List.length_append]; omega, ?_⟩, by simp [intOf]⟩
   rw [show (bs ++ (Az l.length ++ l)).length = bs.length + (Az l.length ++ l).length from List.length_append, F4 bs]; exact hS
  ·obtain rfl : k = 1 := by omega
   obtain ⟨L, hL, hLL, hLb⟩ : ∃ L, L = F6 s l /\ bs = L /\ AK L := ⟨_, rfl, by rw [HBS.out, HTA.out]; simp, by rw [HTA.out]; exact HB3.out⟩
   subst hLL
   have HL := Lib.hid hL
   have HLb := Lib.hid hLb
   have hSL : (CQ bs).length = 32 := by simp [CQ, GT]
   have HS3 := Lib.hid (fun (w : World) (D : Nat -> Prop) (p : Value) (h : Sl w D 1 p bs.length (Ad bs)) => sum03_any p bs HLb.out (by omega) w D h)
   obtain ⟨R, hR⟩ : ∃ R, R = CQ bs := ⟨_, rfl⟩
   rw [<- hR] at HS3 hSL
   have HR := Lib.hid hR
   have hi32 : (Tryz.prog.info? 86).map (·.size) = some (Ad R).toArray.size := by rw [List.size_toArray, Ae, hSL]; kernel_rfl
   have HON := Lib.hid (show (Ad R).toArray.all (·.oneCell') = true from all_oneCell_toArray (B7 _))
   have HI := Lib.hid hi32
   have HOL := Lib.hid (show (Ad (List.replicate 32 0)).toArray.size = (Ad R).toArray.size by simp [Ae, hSL])
   clear hL hR hSL hi32 hLb
   go_wp2_with (first
    | ((with_reducible refine qB ?_); refine qc ?_ ?_ <;> intro h_ <;> go_prune)
    | (go_at_call 160; refine (HS3.out _ _ _ (Sl.of_own (hS.own 0 rfl))).mono ?_; rintro r_ w2 ⟨v2, rfl, rfl, hb2⟩; replace hS := hS.ext hb2; clear hb2)
    | ((with_reducible refine qm 86 ?_); refine Cc hS 1 rfl _ _ _ rfl g4 (Ad R).toArray rfl rfl _ _ rfl HI.out HOL.out HON.out ?_; clear hS; intro w_ hS; (try simp only [Act.put, Act.eval, zz, Value.cells] at hS)))
   refine bodyPost_ret (v := .agg (Ad R).toArray) (by exact results_cell_row rfl _ _ g4 86 _ (0, 0) _ rfl (hS.box 1 rfl) Tryz.underlying86 rfl HI.out) rfl ?_
   exact Aw.mk (by rw [<- HL.out, HR.out]) hS.below
end
section
open Go.RowKit
set_option exponentiation.threshold 5000
theorem sl_pos {w : World} {D : Nat -> Prop} {size n c : Nat} {A : Option Addr} {xs : List Value} (h : Sl w D size (.slice A n c) n xs) (hn : 0 < n) : ∃ b o, A = some ⟨b, o, none⟩ := by
 obtain ⟨_, A', c', e, _, _, h3⟩ := h
 injection e with e _ _
 subst e
 obtain ⟨b, o, e, _⟩ := h3 hn
 exact ⟨b, o, e⟩
end
section
open Go.RowKit
attribute [local go_sem ↓] Go.wp_at_zero Go.wp_at_succ
set_option maxRecDepth 20000
set_option exponentiation.threshold 5000
def M3 : List (Nat × Nat) := [(1, 2), (2, 3), (1, 3)]
end
section
open Go.RowKit
attribute [local go_sem ↓] Go.wp_at_zero Go.wp_at_succ
set_option maxRecDepth 20000
set_option exponentiation.threshold 5000
theorem Hy {P : Program} {w : World} {t : TypeId} {x y : Nat} (hx : x < AE) (hy : y < AE) : (binOp .andNot t (.int .u64 (x : Nat)) (.int .u64 (y : Nat))).run P w = .ok (.int .u64 ((x &&& BM y : Nat) : Int)) w := by
 go_simp; rw [KL hx hy]
end
section
open Go.RowKit
attribute [local go_sem ↓] Go.wp_at_zero Go.wp_at_succ
set_option maxRecDepth 20000
set_option exponentiation.threshold 5000
theorem run_shlU {P : Program} {w : World} {t : TypeId} {r : Nat} (hr : r < 64) : (binOp .shl t (.int .u64 1) (.int .u64 (r : Nat))).run P w = .ok (.int .u64 ((2 ^ r : Nat) : Int)) w := by
 go_simp
 rw [shl64 r hr]
 simp
theorem run_convU {P : Program} {w : World} {n : Nat} (hn : n < AE) : (convert 3 58 (.int .i64 (n : Nat))).run Tryz.prog w = .ok (.int .u64 (n : Nat)) w := by
 go_simp
 exact Cv hn
end
section
open Go.RowKit
attribute [local go_sem ↓] Go.wp_at_zero Go.wp_at_succ
set_option maxRecDepth 20000
set_option exponentiation.threshold 5000
structure RFit (p : AZ) (L : List (Nat × Nat)) : Prop where
 links : p.links = some L
 hok : Hf L
 len : L.length <= 1000
 fits : Fits p
theorem rolesN_pow : ∀ r, r < 64 -> B6 r = 2 ^ (r + 1) - 2 := by decide
theorem IO : ∀ r, r < 64 -> B6 r < AE := by decide
theorem roles_step : ∀ j, j < 64 -> 1 <= j -> (2 ^ j - 2) ||| 2 ^ j = 2 ^ (j + 1) - 2 := by decide
theorem pow_both : ∀ j, j < 64 -> 2 ^ j < AE /\ 2 ^ j - 2 < AE := by decide
theorem roles_bit : ∀ r, r < 64 -> ∀ i, i < 64 -> (B6 r).testBit i = decide (1 <= i /\ i <= r) := by decide +kernel
theorem Gg {r : Nat} (h : r <= 63) (z : Int) : Cr (B6 r) z = decide (1 <= z /\ z <= (r : Int)) := by
 unfold Cr
 by_cases h0 : 0 <= z
 ·obtain ⟨n, rfl⟩ := Int.eq_ofNat_of_zero_le h0
  rw [Int.toNat_natCast]
  rcases Nat.lt_or_ge n 64 with h1 | h1
  ·rw [roles_bit r (by omega) n h1, decide_eq_true h0, Bool.true_and]
   exact decide_eq_decide.2 (by omega)
  ·rw [Dn (IO r (by omega)) h1, Bool.and_false, eq_comm, decide_eq_false_iff_not]; omega
 ·rw [decide_eq_false h0, Bool.false_and, eq_comm, decide_eq_false_iff_not]; omega
theorem Js {x N : Nat} (hx : x < AE) (hN : N < AE) : (x &&& BM N = 0) ↔ x &&& N = x := by
 constructor
 ·intro h
  refine CA fun i => ?_
  rw [Nat.testBit_and]
  cases h1 : x.testBit i with
  | false => simp
  | true =>
   have h2 : (x &&& BM N).testBit i = false := by rw [h]; exact Nat.zero_testBit i
   have h3 : i < 64 := by
    rcases Nat.lt_or_ge i 64 with h3 | h3
    ·exact h3
    ·rw [Dn hx h3] at h1; cases h1
   rw [Nat.testBit_and, h1, CF hN i h3] at h2
   simpa using h2
 ·intro h
  refine Nat.eq_of_testBit_eq fun i => ?_
  rw [Nat.zero_testBit, Nat.testBit_and]
  cases h1 : x.testBit i with
  | false => rfl
  | true =>
   have h3 : i < 64 := by
    rcases Nat.lt_or_ge i 64 with h3 | h3
    ·exact h3
    ·rw [Dn hx h3] at h1; cases h1
   rw [CF hN i h3]
   rw [<- h, Nat.testBit_and, Bool.and_eq_true] at h1
   rw [h1.2]; rfl
theorem beqD (a b : Nat) : (a == b) = decide (a = b) := by rw [Bool.eq_iff_iff]; simp
theorem RFit.small {p : AZ} {L : List (Nat × Nat)} (h : RFit p L) : Small p.cubes := fun z hz => by
 unfold AZ.cubes at hz
 rcases List.mem_append.1 hz with hz | hz
 ·rcases List.mem_append.1 hz with hz | hz
  ·obtain ⟨r, hr, rfl⟩ := List.mem_map.1 hz
   exact h.fits.rules r hr
  ·exact h.fits.never z hz
 ·exact h.fits.goal z hz
theorem cubes_len (p : AZ) : p.cubes.length = p.rules.length + p.never.length + p.goal.length := by unfold AZ.cubes; simp; omega
theorem known_parts {p : AZ} {L : List (Nat × Nat)} {r : Nat} (h : RFit p L) (hr : r <= 63) :
  (∀ z ∈ L, (r < z.1 \/ r < z.2) -> D6 p L (B6 r) = false) /\ (∀ z ∈ p.rules, (z.target < 1 \/ (r : Int) < z.target) -> D6 p L (B6 r) = false) /\ (∀ z ∈ p.cubes, (z.1 ||| z.2) &&& BM (B6 r) ≠ 0 -> D6 p L (B6 r) = false) /\
  ((∀ z ∈ L, z.1 <= r /\ z.2 <= r) -> (∀ z ∈ p.rules, 1 <= z.target /\ z.target <= (r : Int)) -> (∀ z ∈ p.cubes, (z.1 ||| z.2) &&& BM (B6 r) = 0) -> D6 p L (B6 r) = decide (p.start &&& BM (B6 r) = 0)) := by
 have hN := IO r (by omega)
 have e1 : ∀ z ∈ L, (Cr (B6 r) z.1 && Cr (B6 r) z.2) = decide (z.1 <= r /\ z.2 <= r) := fun z hz => by
  have := h.hok.role z hz
  rw [Gg hr, Gg hr, <- Bool.decide_and]
  exact decide_eq_decide.2 (by omega)
 have e2 : ∀ z ∈ p.cubes, GG (B6 r) z = decide ((z.1 ||| z.2) &&& BM (B6 r) = 0) := fun z hz => by
  have := h.small z hz
  unfold GG
  rw [<- decide_eq_decide.2 (Js (Kr this.1 this.2) hN).symm, beqD]
 unfold D6
 refine ⟨fun z hz hh => ?_, fun z hz hh => ?_, fun z hz hh => ?_, fun h1 h2 h3 => ?_⟩
 ·have : (L.all fun z => Cr (B6 r) z.1 && Cr (B6 r) z.2) = false := by
   rw [List.all_eq_false]
   exact ⟨z, hz, by rw [e1 z hz, decide_eq_true_eq]; omega⟩
  rw [this]; simp
 ·have : (p.rules.all fun z => Cr (B6 r) z.target) = false := by
   rw [List.all_eq_false]
   exact ⟨z, hz, by rw [Gg hr, decide_eq_true_eq]; omega⟩
  rw [this]; simp
 ·have : p.cubes.all (GG (B6 r)) = false := by
   rw [List.all_eq_false]
   exact ⟨z, hz, by rw [e2 z hz, decide_eq_true_eq]; exact hh⟩
  rw [this]; simp
 ·have a1 : (L.all fun z => Cr (B6 r) z.1 && Cr (B6 r) z.2) = true := List.all_eq_true.2 fun z hz => by rw [e1 z hz]; exact decide_eq_true (h1 z hz)
  have a2 : (p.rules.all fun z => Cr (B6 r) z.target) = true := List.all_eq_true.2 fun z hz => by rw [Gg hr]; exact decide_eq_true (h2 z hz)
  have a3 : p.cubes.all (GG (B6 r)) = true := List.all_eq_true.2 fun z hz => by rw [e2 z hz]; exact decide_eq_true (h3 z hz)
  rw [a1, a2, a3, Bool.and_self, Bool.and_self, Bool.and_true, <- decide_eq_decide.2 (Js h.fits.start hN).symm, beqD]
section
variable {P : Program} {w : World} {t : TypeId} {x y : Nat}
theorem run_orW (hx : x < AE) (hy : y < AE) : (binOp .or t (.int .u64 (x : Nat)) (.int .u64 (y : Nat))).run P w = .ok (.int .u64 ((x ||| y : Nat) : Int)) w := by
 go_simp
 rw [or64 hx hy]
end
theorem Ed {w0 : World} {D : Nat -> Prop} {v : Value} {p : AZ} {L : List (Nat × Nat)} (hl : p.links = some L) (h : Bj w0 D v p) :
  ∃ Al cl Ar cr An cn Ag cg, v = .agg #[.int .i64 p.roles, .slice Al L.length cl, .int .u64 (p.start : Nat), .slice Ar p.rules.length cr, .slice An p.never.length cn, .slice Ag p.goal.length cg] /\ Sl w0 D 2 (.slice Al L.length cl) L.length (A6 L) /\ Sl w0 D 5 (.slice Ar p.rules.length cr) p.rules.length (B5 p.rules) /\ Sl w0 D 2 (.slice An p.never.length cn) p.never.length (AC p.never) /\ Sl w0 D 2 (.slice Ag p.goal.length cg) p.goal.length (AC p.goal) := by
 obtain ⟨lv, rv, nv, gv, L', rfl, hl', h1, h2, h3, h4⟩ := h
 obtain rfl : L = L' := by rw [hl] at hl'; injection hl'
 obtain ⟨Al, cl, rfl, _, _⟩ := h1.shape
 obtain ⟨Ar, cr, rfl, _, _⟩ := h2.shape
 obtain ⟨An, cn, rfl, _, _⟩ := Sl.shape (h3 : Sl _ _ _ _ _ _)
 obtain ⟨Ag, cg, rfl, _, _⟩ := Sl.shape (h4 : Sl _ _ _ _ _ _)
 exact ⟨_, _, _, _, _, _, _, _, rfl, h1, h2, h3, h4⟩
theorem C9 {w0 : World} {D : Nat -> Prop} {av lv sv rv nv gv : Value} {p : AZ} {L : List (Nat × Nat)} (hl : p.links = some L) (h : Bj w0 D (.agg #[av, lv, sv, rv, nv, gv]) p) :
  Sl w0 D 2 lv L.length (A6 L) /\ Sl w0 D 5 rv p.rules.length (B5 p.rules) /\ Sl w0 D 2 nv p.never.length (AC p.never) /\ Sl w0 D 2 gv p.goal.length (AC p.goal) := by
 obtain ⟨lv, rv, nv, gv, L', e, hl', h1, h2, h3, h4⟩ := h
 obtain rfl : L = L' := by rw [hl] at hl'; injection hl'
 injection e with e; injection e with e; injection e with _ e; injection e with a e; injection e with _ e; injection e with b e; injection e with c e; injection e with d _
 subst a b c d
 exact ⟨h1, h2, h3, h4⟩
theorem rroles31_any {w0 : World} {D : Nat -> Prop} {v : Value} {p : AZ} {r : Nat} (hp : Bj w0 D v p) (hr : p.roles = (r : Int)) (h1 : 1 <= r) (h63 : r <= 63) :
  Calls Tryz.prog 129 #[v] w0 (Aw (fun x _ => x = .int .u64 (B6 r : Nat)) w0) := by
 obtain ⟨lv, rv, nv, gv, L, rfl, -⟩ := hp
 rw [hr]
 have HP := Lib.hid (rolesN_pow r (by omega))
 have hS : St w0 w0 [] fun _ _ => True := St.start0
 clear hr
 go_enter Tryz.func129, Tryz.ntmps129
 go_wp2_with (first | ((with_reducible refine qA 1 ?_); refine AH hS rfl _ _ rfl (.agg #[.int .i64 (r : Nat), lv, .int .u64 (p.start : Nat), rv, nv, gv]) _ rfl rfl ?_; clear hS; intro g1 w_ hS; (try simp only [Act.put, Act.eval, zz, Value.cells] at hS)))
 go_loopw [3, 4] (fun ov iv wr => ∃ j : Nat, iv = .int .i64 (j : Nat) /\ ov = .int .u64 ((2 ^ j - 2 : Nat) : Int) /\ 1 <= j /\ j <= r + 1 /\ St w0 wr [.box g1 30 #[.int .i64 (r : Nat), lv, .int .u64 (p.start : Nat), rv, nv, gv]] fun _ _ => True) (fun _ i _ => r + 1 - (intOf i).toNat)
 case atStart => exact ⟨1, rfl, rfl, by omega, by omega, hS⟩
 case round =>
  clear hS
  obtain ⟨j, rfl, rfl, hj1, hj2, hS⟩ := hrel
  by_cases hj : j <= r
  ·have h64 : j < 64 := by omega
   have HST := Lib.hid (roles_step j h64 hj1)
   have HPW := Lib.hid (pow_both j h64)
   obtain ⟨m, hm⟩ : ∃ m, m = 2 ^ j - 2 := ⟨_, rfl⟩
   have HPS : Hid (2 ^ j < AE) := Lib.hid HPW.out.1
   have HMM : Hid (m < AE) := Lib.hid (by rw [hm]; exact HPW.out.2)
   rw [<- hm] at HST ⊢
   clear hm HPW
   have hjT : Hid (j < AE) := Lib.hid (by unfold AE; omega)
   go_wp2_with (first
    | ((with_reducible refine qB ?_); refine qc ?_ ?_ <;> intro h_ <;> go_prune)
    | ((with_reducible refine qA 17 ?_); refine BigFrame.wpList_want rfl fun _ hK => Cd (vx := .int .i64 (j : Nat)) (v := .int .u64 (j : Nat)) rfl rfl (run_convU hjT.out) (hK _ _ ?_))
    | ((with_reducible refine qA 18 ?_); refine BigFrame.wpList_want rfl fun _ hK => AA rfl rfl rfl rfl (run_shlU h64) (hK _ _ ?_))
    | ((with_reducible refine qA 19 ?_); refine BigFrame.wpList_want rfl fun _ hK => AA rfl rfl rfl rfl (run_orW HMM.out HPS.out) (hK _ _ ?_))
    | ((with_reducible refine qK ?_); refine qC hS ?_))
   refine ⟨⟨j + 1, by go_num, by rw [HST.out], by omega, by omega, hS⟩, by simp [intOf]; omega⟩
  ·obtain rfl : j = r + 1 := by omega
   rw [<- HP.out]
   go_wp2_with (first | ((with_reducible refine qB ?_); refine qc ?_ ?_ <;> intro h_ <;> go_prune) | ((with_reducible refine qK ?_); refine qC hS ?_))
   go_ret
   exact Aw.mk rfl hS.below
def rcD (n m k : Nat) (a b c : List (Nat × Nat)) : AD := ⟨50, 2, 3, fun s => match s with | 0 => n | 1 => n + m | _ => n + m + k, fun s => match s with | 0 => AC a | 1 => AC a ++ AC b | _ => AC a ++ AC b ++ AC c, fun _ v => .own v 50 2 0 []⟩
set_option maxHeartbeats 1000000 in
theorem I3 {w0 w : World} {F : List A7} {K : (Nat -> Prop) -> World -> Prop} {v : Value} {p : AZ} {L : List (Nat × Nat)} (hR : RFit p L) (hS : St w0 w F K) (kp : ∀ D w, K D w -> Bj w D v p) :
  Calls Tryz.prog 57 #[v] w fun e w' => ∃ u, e = .returned u /\ St w0 w' F fun D w => K D w /\ BH w D u p.cubes := by
 obtain ⟨Al, cl, Ar, cr, An, cn, Ag, cg, rfl, -⟩ := Ed hR.links (kp _ _ hS.ro)
 have KS := Lib.hid hS.stable
 have kr : ∀ D w, K D w -> Sl w D 5 (.slice Ar p.rules.length cr) p.rules.length (B5 p.rules) := fun D w h => (C9 hR.links (kp D w h)).2.1
 have kn : ∀ D w, K D w -> Sl w D 2 (.slice An p.never.length cn) p.never.length (AC p.never) := fun D w h => (C9 hR.links (kp D w h)).2.2.1
 have kg : ∀ D w, K D w -> Sl w D 2 (.slice Ag p.goal.length cg) p.goal.length (AC p.goal) := fun D w h => (C9 hR.links (kp D w h)).2.2.2
 have hl1 := hR.fits.rlen
 have hl2 := hR.fits.nlen
 have hl3 := hR.fits.glen
 clear kp
 have HCU := Lib.hid (show p.cubes = (p.rules.map fun r => (r.yes, r.no)) ++ p.never ++ p.goal from rfl)
 obtain ⟨rl, hrl⟩ : ∃ rl, p.rules = rl := ⟨_, rfl⟩
 obtain ⟨nl, hnl⟩ : ∃ nl, p.never = nl := ⟨_, rfl⟩
 obtain ⟨gl, hgl⟩ : ∃ gl, p.goal = gl := ⟨_, rfl⟩
 obtain ⟨cu, hcu⟩ : ∃ cu, p.cubes = cu := ⟨_, rfl⟩
 obtain ⟨st, hst⟩ : ∃ st, p.start = st := ⟨_, rfl⟩
 obtain ⟨R, hro⟩ : ∃ R, p.roles = R := ⟨_, rfl⟩
 rw [hrl, hnl, hgl, hcu] at HCU
 rw [hrl] at kr hl1
 rw [hnl] at kn hl2
 rw [hgl] at kg hl3
 rw [hrl, hnl, hgl, hst, hcu, hro]
 clear hrl hnl hgl hcu hst hro hR
 obtain ⟨CS, hCS⟩ : ∃ CS : List (Nat × Nat), CS = rl.map fun r => (r.yes, r.no) := ⟨_, rfl⟩
 rw [<- hCS] at HCU
 have HCS := Lib.hid hCS
 have hlC : CS.length = rl.length := by rw [hCS]; simp
 have HLC := Lib.hid hlC
 clear hCS hlC
 go_enter Tryz.func57, Tryz.ntmps57
 go_wp2_with (first
  | ((with_reducible refine qA 1 ?_); refine AH hS rfl _ _ rfl (.agg #[.int .i64 R, .slice Al L.length cl, .int .u64 (st : Nat), .slice Ar rl.length cr, .slice An nl.length cn, .slice Ag gl.length cg]) _ rfl rfl ?_; clear hS; intro g1 w_ hS; (try simp only [Act.put, Act.eval, zz, Value.cells] at hS))
  | ((with_reducible refine qK ?_); refine qC hS ?_))
 replace hS := hS.nil 50 2
 go_loopw [3, 9] (fun ov i wr => ∃ (j : Nat) (sv : Value), i = .int .i64 (j : Nat) /\ sv = ov /\ j <= rl.length /\ St w0 wr (.own sv 50 2 j (AC (CS.take j)) :: .box g1 30 #[.int .i64 R, .slice Al L.length cl, .int .u64 (st : Nat), .slice Ar rl.length cr, .slice An nl.length cn, .slice Ag gl.length cg] :: F) K) (fun _ i _ => rl.length - (intOf i).toNat)
 case atStart => exact ⟨0, _, rfl, rfl, by omega, hS⟩
 case round =>
  clear hS
  obtain ⟨j, sv, rfl, rfl, hj, hS⟩ := hrel
  by_cases hlj : j < rl.length
  ·obtain ⟨b, o, rfl, c0, c1, c2, c3, c4⟩ := rr_at (kr _ _ hS.ro) hlj
   have HT : Hid (AC (CS.take (j + 1)) = AC (CS.take j) ++ [.int .u64 ((rl.getD j Bn).yes : Nat), .int .u64 ((rl.getD j Bn).no : Nat)]) := Lib.hid (by
    rw [HCS.out, List.take_add_one, List.getElem?_map, List.getElem?_eq_getElem hlj, List.getD_eq_getElem?_getD, List.getElem?_eq_getElem hlj, DI]; rfl)
   generalize rl.getD j Bn = z at *
   obtain ⟨zr, zy, zn, zt, zo⟩ := z
   dsimp only at c0 c1 c2 c3 c4 HT
   have hj1 : j <= 100000 := by omega
   go_wp2_with (first
    | ((with_reducible refine qB ?_); refine qc ?_ ?_ <;> intro h_ <;> go_prune)
    | ((with_reducible refine qA 12 ?_); refine BigFrame.wpList_want rfl fun _ hK => Be (cs := [.bool zr, .int .u64 (zy : Nat), .int .u64 (zn : Nat), .int .i64 zt, .int .i64 zo]) rfl rfl (Ke c0 c1 c2 c3 c4) Tryz.underlying109 rfl (by kernel_rfl) (hK _ _ ?_))
    | ((with_reducible refine qA 5 ?_); refine qa hS #[.bool false, .int .u64 0, .int .u64 0, .int .i64 0, .int .i64 0] ?_; clear hS; intro g5 w_ hS)
    | ((with_reducible refine qM ?_); (first | refine qS hS ?_ | refine qT hS ?_); clear hS; intro w_ hS; (try simp only [Act.put, Act.eval, zz, Value.cells] at hS))
    | ((with_reducible refine qk 50 ?_); refine EP hS 0 rfl _ _ rfl _ _ rfl _ _ rfl _ _ rfl rfl Tryz.underlying50 rfl (by kernel_rfl) ?_)
    | ((with_reducible show wpList _ _ _ (⟨_, .buildSlice _ 1 _, _, _, _, _⟩ :: _) _ _); refine Do hS 1 rfl rfl _ _ _ _ rfl rfl IG _ _ _ (.agg #[.int .u64 (zy : Nat), .int .u64 (zn : Nat)]) #[.int .u64 (zy : Nat), .int .u64 (zn : Nat)] rfl (by kernel_rfl) rfl rfl rfl rfl (by intro u hu; simp at hu; first | (subst hu; rfl) | (rcases hu with rfl | rfl <;> rfl)) (by omega) (by omega) ?_; clear hS; intro z_ v_ w_ hS; (try simp only [Act.put, Act.eval, zz, Value.cells] at hS)))
   refine ⟨⟨j + 1, _, by go_num, rfl, hlj, ?_⟩, by simp [intOf]; omega⟩
   rw [HT.out]
   exact hS.sub (F' := _ :: _ :: F) (List.sublist_cons_self _ _)
  ·obtain rfl : rl.length = j := by omega
   have hCT : CS.take rl.length = CS := by rw [<- HLC.out, List.take_length]
   rw [hCT] at hS
   clear hCT
   go_wp2_with (first | ((with_reducible refine qB ?_); refine qc ?_ ?_ <;> intro h_ <;> go_prune))
   have hA0 : FB ⟨[sv], []⟩ 0 sv := ⟨[], [], rfl, rfl⟩
   have hJ0 : AJ w0 (.box g1 30 #[.int .i64 R, .slice Al L.length cl, .int .u64 (st : Nat), .slice Ar rl.length cr, .slice An nl.length cn, .slice Ag gl.length cg] :: F) K (rcD rl.length nl.length gl.length CS nl gl) (wr.drew, ⟨[sv], []⟩) := ⟨hS.drew, show 1 <= 3 by decide⟩
   have hN0 := AN_one1 (kd := cbK) (by decide) wr.drew sv
   have hRr := @AR.refl w0 (.box g1 30 #[.int .i64 R, .slice Al L.length cl, .int .u64 (st : Nat), .slice Ar rl.length cr, .slice An nl.length cn, .slice Ag gl.length cg] :: F) K (rcD rl.length nl.length gl.length CS nl gl)
   have hRt := @AR.trans w0 (.box g1 30 #[.int .i64 R, .slice Al L.length cl, .int .u64 (st : Nat), .slice Ar rl.length cr, .slice An nl.length cn, .slice Ag gl.length cg] :: F) K (rcD rl.length nl.length gl.length CS nl gl)
   have hb0 : Hid (rl.length + nl.length <= 1000000000000 /\ (rl.length + nl.length) * 16 <= 140737488355328 /\ rl.length + nl.length + gl.length <= 1000000000000 /\ (rl.length + nl.length + gl.length) * 16 <= 140737488355328) := Lib.hid (by omega)
   clear hS
   refine FC (AR w0 (.box g1 30 #[.int .i64 R, .slice Al L.length cl, .int .u64 (st : Nat), .slice Ar rl.length cr, .slice An nl.length cn, .slice Ag gl.length cg] :: F) K (rcD rl.length nl.length gl.length CS nl gl)) (AN cbK) (⟨[sv], []⟩) hRr hRt [.i sv, .q g1 4, .i (.slice An nl.length cn), .s (fun v w => FB w.2 1 v) fun v w w' h hb => h.mono hb.2.1, .q g1 5, .i (.slice Ag gl.length cg), .s (fun v w => FB w.2 2 v) fun v w w' h hb => h.mono hb.2.1, .s (fun v w => FB w.2 2 v) fun v w w' h hb => h.mono hb.2.1] ?_ ⟨uM, uF, uC (h := fun w hW hN => ((hW.1 hJ0).1.holds (.box g1 30 #[.int .i64 R, .slice Al L.length cl, .int .u64 (st : Nat), .slice Ar rl.length cr, .slice An nl.length cn, .slice Ag gl.length cg]) (List.mem_append_right _ (List.mem_cons_self ..))).2.cell 4), ?_, uF, uC (h := fun w hW hN => ((hW.1 hJ0).1.holds (.box g1 30 #[.int .i64 R, .slice Al L.length cl, .int .u64 (st : Nat), .slice Ar rl.length cr, .slice An nl.length cn, .slice Ag gl.length cg]) (List.mem_append_right _ (List.mem_cons_self ..))).2.cell 5), ?_, uA, trivial⟩ ?_
   ·first | assumption | (intro i; (try dsimp only); split <;> first | trivial | assumption | (left; assumption))
   ·refine uG fun b__ w hW hN hE K hK => ?_
    have e19 := hE 19
    have e21 := hE 21
    exact BG (kd := cbK) (by decide) rfl rfl IG hN (by rw [e19]; exact hA0.mono hW.2.1) (hW.1 hJ0) (by rw [e21]; exact kn _ _ (hW.1 hJ0).1.ro) (Kh _) rfl rfl (by exact hb0.out.1) (by exact hb0.out.2.1) (show 0 + 1 < 3 by decide) hK
   ·refine uG fun b__ w hW hN hE K hK => ?_
    have e22 := hE 22
    have e24 := hE 24
    exact BG (kd := cbK) (by decide) rfl rfl IG hN e22 (hW.1 hJ0) (by rw [e24]; exact kg _ _ (hW.1 hJ0).1.ro) (Kh _) rfl rfl (by exact hb0.out.2.2.1) (by exact hb0.out.2.2.2) (show 1 + 1 < 3 by decide) hK
   ·intro vs wz hW hT
    obtain ⟨e19, e20, e21, e22, e23, e24, e25, e2, -⟩ := hT
    have bx : (fun _ : Nat => True) 0 := trivial
    simp only [AV, Act.put, zz, ze]
    have hJ := (hW.1 hJ0).last e2 rfl
    simp only [rcD] at hJ
    have hS := (hJ.freeze 0 (by decide) rfl).sub (F' := F) (List.sublist_cons_self _ _)
    generalize vs 2 = v2 at *
    generalize wz.1 = wf at *
    clear hW hJ0 hRr hRt hN0 hA0 hJ e2
    go_wp2_with fail
    go_ret
    refine ⟨_, rfl, hS.mono (KS.out.and EC) fun D w h => ⟨h.1, ?_⟩⟩
    have el : (CS ++ nl ++ gl).length = rl.length + nl.length + gl.length := by rw [List.length_append, List.length_append, HLC.out]
    rw [HCU.out]
    unfold BH
    rw [el, DI, DI]
    exact h.2
end
end Go.Proofs.YtchjigffejhmfaaGreatDoor
