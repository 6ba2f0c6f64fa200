/-
  What the statement needs, part 3.
-/
import Derived.Deep.Cut
import Derived.Deep.CutBlock
import Derived.Deep.MidRow
import Derived.Laws.CopyRow
import Derived.Laws.CopyOwn
import Derived.Laws.IdiomStrings
import Derived.Test.YtchjigffejhmfaaGreatDoorCnm2
namespace Go.Proofs.YtchjigffejhmfaaGreatDoor
section
open Go.RowKit
attribute [local go_sem ↓] Go.wp_at_zero Go.wp_at_succ
set_option maxRecDepth 20000
set_option exponentiation.threshold 5000
def Cmp (M C : List (Nat × Nat)) (j : Nat) : Prop := Asc C /\ ∀ x, x ∈ C ↔ x ∈ M.take j
theorem G2 {M : List (Nat × Nat)} {j : Nat} (hj : j < M.length) : M.take (j + 1) = M.take j ++ [M.getD j (0, 0)] := by
 rw [List.take_add_one, C3 (0, 0) hj]; rfl
theorem Cmp.one {M : List (Nat × Nat)} (h : 0 < M.length) : Cmp M (M.take 1) 1 := by
 refine ⟨?_, fun x => Iff.rfl⟩
 rw [show M.take 1 = M.take 0 ++ [M.getD 0 (0, 0)] from G2 h]
 simp [Asc]
theorem mem_takeD {M : List (Nat × Nat)} {j : Nat} (h0 : 0 < j) (hj : j <= M.length) : M.getD (j - 1) (0, 0) ∈ M.take j := by
 obtain ⟨k, rfl⟩ : ∃ k, j = k + 1 := ⟨j - 1, by omega⟩
 rw [G2 (by omega)]
 simp
theorem Cmp.same {M C : List (Nat × Nat)} {j : Nat} (h : Cmp M C j) (h0 : 0 < j) (hj : j < M.length) (he : M.getD j (0, 0) = M.getD (j - 1) (0, 0)) : Cmp M C (j + 1) := by
 refine ⟨h.1, fun x => ?_⟩
 rw [G2 hj, List.mem_append, h.2, List.mem_singleton]
 constructor
 ·exact .inl
 ·rintro (h1 | rfl)
  ·exact h1
  ·rw [he]; exact mem_takeD h0 (by omega)
theorem Cmp.step {M C : List (Nat × Nat)} {j : Nat} (hM : M.Pairwise fun x y => ¬ IY y x) (h : Cmp M C j) (h0 : 0 < j) (hj : j < M.length) (he : M.getD j (0, 0) ≠ M.getD (j - 1) (0, 0)) : Cmp M (C ++ [M.getD j (0, 0)]) (j + 1) := by
 have hp : ∀ a b, a < b -> b < M.length -> ¬ IY (M.getD b (0, 0)) (M.getD a (0, 0)) := fun a b hab hb => by
  have := List.pairwise_iff_getElem.1 hM a b (by omega) hb hab
  rw [List.getD_eq_getElem?_getD, List.getD_eq_getElem?_getD, List.getElem?_eq_getElem hb, List.getElem?_eq_getElem (by omega)]
  exact this
 refine ⟨?_, fun x => by rw [G2 hj, List.mem_append, List.mem_append, h.2]⟩
 refine List.pairwise_append.2 ⟨h.1, by simp, fun x hx y hy => ?_⟩
 rw [List.mem_singleton] at hy
 subst hy
 obtain ⟨i, hi⟩ := List.mem_iff_getElem?.1 ((h.2 x).1 hx)
 have hij : i < j := by
  have := (List.getElem?_eq_some_iff.1 hi).1
  rw [List.length_take] at this; omega
 have hx2 : x = M.getD i (0, 0) := by
  rw [List.getElem?_take_of_lt hij] at hi
  rw [List.getD_eq_getElem?_getD, hi]; rfl
 rcases G4 (hp i j hij hj) with h1 | h1
 ·rw [hx2]; exact h1
 ·exfalso
  have h2 : i ≠ j - 1 := fun e => he (by rw [h1, e])
  have h3 := hp i (j - 1) (by omega) (by omega)
  have h4 := hp (j - 1) j (by omega) hj
  rw [h1] at h4
  rcases G4 h3 with h5 | h5
  ·exact h4 h5
  ·exact he (by rw [h1, <- h5])
theorem K8 : ∀ (L : List (Nat × Nat)) (k : Nat) (x : Nat × Nat), ((A6 L).set (k * 2) (.int .i64 (x.1 : Nat))).set (k * 2 + 1) (.int .i64 (x.2 : Nat)) = A6 (L.set k x)
 | [], k, x => by simp [A6]
 | y :: L, 0, x => by simp [A6]
 | y :: L, k + 1, x => by
  rw [Eh, show (k + 1) * 2 = k * 2 + 1 + 1 by omega, show k * 2 + 1 + 1 + 1 = k * 2 + 1 + 1 + 1 from rfl]
  simp only [List.set_cons_succ, Eh]
  rw [K8 L k x]
theorem Eg (L : List (Nat × Nat)) (k : Nat) : (A6 L).take (k * 2) = A6 (L.take k) := by
 refine List.ext_getElem? fun t => ?_
 by_cases ht : t < k * 2
 ·rw [List.getElem?_take_of_lt ht]
  by_cases h1 : t / 2 < L.length
  ·have h2 := Bf L (t / 2) h1
   have h3 := Bf (L.take k) (t / 2) (by rw [List.length_take]; omega)
   rw [show (L.take k).getD (t / 2) (0, 0) = L.getD (t / 2) (0, 0) by rw [List.getD_eq_getElem?_getD, List.getD_eq_getElem?_getD, List.getElem?_take_of_lt (by omega)]] at h3
   rcases Nat.mod_two_eq_zero_or_one t with h5 | h5
   ·rw [show t / 2 * 2 = t by omega] at h2 h3; rw [h2.1, h3.1]
   ·rw [show t / 2 * 2 + 1 = t by omega] at h2 h3; rw [h2.2, h3.2]
  ·rw [List.getElem?_eq_none (by rw [F4]; omega), List.getElem?_eq_none (by rw [F4, List.length_take]; omega)]
 ·rw [List.getElem?_eq_none (by rw [List.length_take]; omega), List.getElem?_eq_none (by rw [F4, List.length_take]; omega)]
theorem I8 (w : World) (x y : Nat × Nat) : (binOp .eql 107 (.agg #[.int .i64 (x.1 : Nat), .int .i64 (x.2 : Nat)]) (.agg #[.int .i64 (y.1 : Nat), .int .i64 (y.2 : Nat)])).run Tryz.prog w = .ok (.bool (decide (x = y))) w := by
 obtain ⟨i, hi⟩ : ∃ i, Tryz.prog.info? 3 = some i := Option.isSome_iff_exists.1 (show (Tryz.prog.info? 3).isSome = true by kernel_rfl)
 exact pairs_eql Tryz.underlying107 i hi Tryz.underlying3 (by kernel_rfl) x y
theorem Kj (w : World) (x y : Nat × Nat) : (binOp .neq 107 (.agg #[.int .i64 (x.1 : Nat), .int .i64 (x.2 : Nat)]) (.agg #[.int .i64 (y.1 : Nat), .int .i64 (y.2 : Nat)])).run Tryz.prog w = .ok (.bool (decide (x ≠ y))) w := by
 obtain ⟨i, hi⟩ : ∃ i, Tryz.prog.info? 3 = some i := Option.isSome_iff_exists.1 (show (Tryz.prog.info? 3).isSome = true by kernel_rfl)
 exact pairs_neq Tryz.underlying107 i hi Tryz.underlying3 (by kernel_rfl) x y
theorem opw_clear {P : Program} {o : Oper} {a : Act} {w w' : World} {K : Act -> World -> Prop} {Q : Exit -> Act -> World -> Prop} {t : TypeId} {x : Operand} {u v : Value} (ho : o.op = .call { callee := .builtin .clear, args := #[x], argTypes := #[t] }) (hx : a.eval x = u) (hr : (Builtin.clear_ #[t] o.type #[u]).run P w = .ok v w') (hk : K (a.put o.dst v) w') : o.wp P a w K Q := by
 unfold Oper.wp execOp
 simp only [ho, resolve, invoke, builtin, Sem.run_bind, Sem.run_pure, Result.andThen_ok, List.map_toArray, List.map_cons, List.map_nil, hx, hr]
 exact hk
theorem compactp_any {w0 w : World} {F0 : List A7} {K : (Nat -> Prop) -> World -> Prop} (g n cap : Nat) (M : List (Nat × Nat)) (hl : M.length = n) (hn : n <= 1000000) (hM : M.Pairwise fun x y => ¬ IY y x) (hS : St w0 w (.own (.slice (some ⟨g, 0, none⟩) n cap) 107 2 n (A6 M) :: F0) K) :
  Calls Tryz.prog 181 #[.slice (some ⟨g, 0, none⟩) n cap] w fun e w' => ∃ (C : List (Nat × Nat)), e = .returned (.slice (some ⟨g, 0, none⟩) C.length cap) /\ Cmp M C n /\ C.length <= n /\ St w0 w' (.own (.slice (some ⟨g, 0, none⟩) C.length cap) 107 2 C.length (A6 C) :: F0) K := by
 have HM := Lib.hid hM
 clear hM
 obtain ⟨hc1, hc2⟩ : n <= cap /\ cap <= 9223372036854775807 := by
  obtain ⟨A, c, he, h1, h2⟩ := Cu (hS.own 0 rfl)
  injection he with _ _ he
  subst he
  exact ⟨h1, h2⟩
 by_cases hn2 : n < 2
 ·have H1 : Hid (Cmp M M n) := Lib.hid ⟨by
   match M, hl with
   | [], _ => exact List.Pairwise.nil
   | [x], _ => simp [Asc]
   | x :: y :: r, h => simp at h; omega, fun x => by rw [<- hl, List.take_length]⟩
  go_enter Tryz.func181, Tryz.ntmps181
  go_wp2_with (first | ((with_reducible refine qB ?_); refine qc ?_ ?_ <;> intro h_ <;> go_prune))
  go_ret
  subst hl
  exact ⟨M, rfl, H1.out, Nat.le_refl _, hS⟩
 ·have H1 := Lib.hid (Cmp.one (M := M) (by omega))
  go_enter Tryz.func181, Tryz.ntmps181
  go_wp2_with (first | ((with_reducible refine qB ?_); refine qc ?_ ?_ <;> intro h_ <;> go_prune))
  go_loopw [3] (fun i wr => ∃ j : Nat, 1 <= j /\ j <= n /\ i = .int .i64 j /\ Hid (Cmp M (M.take j) j) /\ St w0 wr (.own (.slice (some ⟨g, 0, none⟩) n cap) 107 2 n (A6 M) :: F0) K) (fun i _ => n - (intOf i).toNat)
  case atStart => exact ⟨1, by omega, by omega, rfl, H1, hS⟩
  case round =>
   clear hS H1
   obtain ⟨j, hj1, hj, rfl, HC, hS⟩ := hrel
   by_cases hlj : j < n
   ·have e1 := Lib.hid (fun w => I8 w (M.getD j (0, 0)) (M.getD (j - 1) (0, 0)))
    by_cases hx : M.getD j (0, 0) = M.getD (j - 1) (0, 0)
    ·have HC2 := Lib.hid (HC.out.same hj1 (by omega) hx)
     go_wp2_with (first | ((with_reducible refine qB ?_); refine qc ?_ ?_ <;> intro h_ <;> go_prune))
     refine EB [.i (.slice (some ⟨g, 0, none⟩) n cap), .n ((j : Nat) : Int), .q g (0 + (j) * 2), .i (.agg #[.int .i64 ((M.getD j (0, 0)).1 : Nat), .int .i64 ((M.getD j (0, 0)).2 : Nat)]), .i (.slice (some ⟨g, 0, none⟩) n cap), .n ((j : Nat) : Int), .n (((j : Nat) : Int) - (1 : Int)), .q g (0 + (j - 1) * 2), .i (.agg #[.int .i64 ((M.getD (j - 1) (0, 0)).1 : Nat), .int .i64 ((M.getD (j - 1) (0, 0)).2 : Nat)]), .i (.bool (decide (M.getD j (0, 0) = M.getD (j - 1) (0, 0))))] ⟨uM, uM, uI (h := fun w hW hN => Af (m := j) Tryz.underlying25 (by kernel_rfl) (by omega) (by omega)), uD (h := fun w hW hN => by rw [Nat.zero_add]; exact Dl ((hS.ext hW).own 0 rfl) (by omega)), uM, uM, uB (h := fun w hW hN => EF (by omega) (by omega)), uI (h := fun w hW hN => Af (m := j - 1) Tryz.underlying25 (by kernel_rfl) (by omega) (by omega)), uD (h := fun w hW hN => by rw [Nat.zero_add]; exact Dl ((hS.ext hW).own 0 rfl) (by omega)), uB (h := fun w hW hN => I8 _ _ _), trivial⟩ ?_
     ·intro vs wz hW hT
      obtain ⟨e16, e17, e18, e19, e20, e21, e22, e23, e24, e25, -⟩ := hT
      simp only [AL, Act.put, zz, ze]
      replace hS := hS.ext hW
      rw [e25, decide_eq_true hx]
      clear hW e25 e1 hx HC e16 e17 e18 e19 e20 e21 e22 e23 e24
      go_wp2_with (first | ((with_reducible refine qB ?_); refine qc ?_ ?_ <;> intro h_ <;> go_prune))
      have hCl : (M.take j).length = j := by rw [List.length_take]; omega
      go_loopw [3, 5] (fun i kv wr => ∃ (k : Nat) (R C : List (Nat × Nat)), 1 <= k /\ k <= n - j /\ i = .int .i64 (C.length : Nat) /\ kv = .int .i64 (k : Nat) /\ C.length <= j + k - 1 /\ R.length = n /\ Hid (Cmp M C (j + k) /\ R.take C.length = C /\ ∀ t, j + k - 1 <= t -> R.getD t (0, 0) = M.getD t (0, 0)) /\ St w0 wr (.own (.slice (some ⟨g, 0, none⟩) n cap) 107 2 n (A6 R) :: F0) K) (fun _ kv _ => n - j - (intOf kv).toNat)
      case atStart => exact ⟨1, M, M.take j, by omega, by omega, by rw [hCl], rfl, by omega, hl, Lib.hid ⟨HC2.out, by rw [hCl], fun _ _ => rfl⟩, hS⟩
      case round =>
       clear hS HC2 hCl
       obtain ⟨k, R, C, hk1, hk, rfl, rfl, hCl, hR, HI, hS⟩ := hrel
       by_cases hkj : k < n - j
       ·have e2 := Lib.hid (fun w => Kj w (R.getD (j + k) (0, 0)) (R.getD (j + k - 1) (0, 0)))
        have HE1 := Lib.hid (HI.out.2.2 (j + k) (by omega))
        have HE2 := Lib.hid (HI.out.2.2 (j + k - 1) (by omega))
        by_cases hx : R.getD (j + k) (0, 0) = R.getD (j + k - 1) (0, 0)
        ·have HI2 := Lib.hid (show Cmp M C (j + (k + 1)) /\ R.take C.length = C /\ ∀ t, j + (k + 1) - 1 <= t -> R.getD t (0, 0) = M.getD t (0, 0) from ⟨HI.out.1.same (by omega) (by omega) (by rw [<- HE1.out, <- HE2.out]; exact hx), HI.out.2.1, fun t ht => HI.out.2.2 t (by omega)⟩)
         clear HI HE1 HE2
         go_wp2_with (first | ((with_reducible refine qB ?_); refine qc ?_ ?_ <;> intro h_ <;> go_prune))
         refine EB [.i (.slice (some ⟨g, j * 2, none⟩) (n - j) (cap - j)), .n ((k : Nat) : Int), .q g (j * 2 + (k) * 2), .i (.agg #[.int .i64 ((R.getD (j + k) (0, 0)).1 : Nat), .int .i64 ((R.getD (j + k) (0, 0)).2 : Nat)]), .i (.slice (some ⟨g, j * 2, none⟩) (n - j) (cap - j)), .n ((k : Nat) : Int), .n (((k : Nat) : Int) - (1 : Int)), .q g (j * 2 + (k - 1) * 2), .i (.agg #[.int .i64 ((R.getD (j + k - 1) (0, 0)).1 : Nat), .int .i64 ((R.getD (j + k - 1) (0, 0)).2 : Nat)]), .i (.bool (decide (R.getD (j + k) (0, 0) ≠ R.getD (j + k - 1) (0, 0))))] ⟨uM, uM, uI (h := fun w hW hN => Af (m := k) Tryz.underlying25 (by kernel_rfl) (by omega) (by omega)), uD (h := fun w hW hN => by rw [<- Nat.add_mul]; exact Dl ((hS.ext hW).own 0 rfl) (by omega)), uM, uM, uB (h := fun w hW hN => EF (by omega) (by omega)), uI (h := fun w hW hN => Af (m := k - 1) Tryz.underlying25 (by kernel_rfl) (by omega) (by omega)), uD (h := fun w hW hN => by rw [<- Nat.add_mul, show j + (k - 1) = j + k - 1 by omega]; exact Dl ((hS.ext hW).own 0 rfl) (by omega)), uB (h := fun w hW hN => Kj _ _ _), trivial⟩ ?_
         ·intro vs wz hW hT
          obtain ⟨e35, e36, e37, e38, e39, e40, e41, e42, e43, e44, -⟩ := hT
          simp only [AL, Act.put, zz, ze]
          replace hS := hS.ext hW
          rw [e44, decide_eq_false (fun h => h hx)]
          clear hW e44 e2 hx e35 e36 e37 e38 e39 e40 e41 e42 e43
          go_wp2_with (first | ((with_reducible refine qB ?_); refine qc ?_ ?_ <;> intro h_ <;> go_prune))
          exact ⟨⟨k + 1, R, C, by omega, by omega, rfl, by go_num, by omega, hR, HI2, hS⟩, by simp [intOf]; omega⟩
        ·have HI2 := Lib.hid (show Cmp M (C ++ [R.getD (j + k) (0, 0)]) (j + (k + 1)) /\ (R.set C.length (R.getD (j + k) (0, 0))).take (C.length + 1) = C ++ [R.getD (j + k) (0, 0)] /\ ∀ t, j + (k + 1) - 1 <= t -> (R.set C.length (R.getD (j + k) (0, 0))).getD t (0, 0) = M.getD t (0, 0) from by
          refine ⟨?_, ?_, fun t ht => ?_⟩
          ·rw [HE1.out]; exact HI.out.1.step HM.out (by omega) (by omega) (by rw [<- HE1.out, <- HE2.out]; exact hx)
          ·rw [G2 (by rw [List.length_set]; omega), List.take_set_of_le (Nat.le_refl _), HI.out.2.1]
           simp [List.getD_eq_getElem?_getD, show C.length < R.length by omega]
          ·rw [<- HI.out.2.2 t (by omega), List.getD_eq_getElem?_getD, List.getElem?_set_ne (by omega), List.getD_eq_getElem?_getD])
         clear HI HE1 HE2
         go_wp2_with (first | ((with_reducible refine qB ?_); refine qc ?_ ?_ <;> intro h_ <;> go_prune))
         refine EB [.i (.slice (some ⟨g, j * 2, none⟩) (n - j) (cap - j)), .n ((k : Nat) : Int), .q g (j * 2 + (k) * 2), .i (.agg #[.int .i64 ((R.getD (j + k) (0, 0)).1 : Nat), .int .i64 ((R.getD (j + k) (0, 0)).2 : Nat)]), .i (.slice (some ⟨g, j * 2, none⟩) (n - j) (cap - j)), .n ((k : Nat) : Int), .n (((k : Nat) : Int) - (1 : Int)), .q g (j * 2 + (k - 1) * 2), .i (.agg #[.int .i64 ((R.getD (j + k - 1) (0, 0)).1 : Nat), .int .i64 ((R.getD (j + k - 1) (0, 0)).2 : Nat)]), .i (.bool (decide (R.getD (j + k) (0, 0) ≠ R.getD (j + k - 1) (0, 0))))] ⟨uM, uM, uI (h := fun w hW hN => Af (m := k) Tryz.underlying25 (by kernel_rfl) (by omega) (by omega)), uD (h := fun w hW hN => by rw [<- Nat.add_mul]; exact Dl ((hS.ext hW).own 0 rfl) (by omega)), uM, uM, uB (h := fun w hW hN => EF (by omega) (by omega)), uI (h := fun w hW hN => Af (m := k - 1) Tryz.underlying25 (by kernel_rfl) (by omega) (by omega)), uD (h := fun w hW hN => by rw [<- Nat.add_mul, show j + (k - 1) = j + k - 1 by omega]; exact Dl ((hS.ext hW).own 0 rfl) (by omega)), uB (h := fun w hW hN => Kj _ _ _), trivial⟩ ?_
         ·intro vs wz hW hT
          obtain ⟨e35, e36, e37, e38, e39, e40, e41, e42, e43, e44, -⟩ := hT
          simp only [AL, Act.put, zz, ze]
          replace hS := hS.ext hW
          rw [e44, decide_eq_true hx]
          clear hW e44 e2 hx e35 e36 e37 e38 e39 e40 e41 e42 e43
          obtain ⟨x, hxd⟩ : ∃ x, Hid (x = R.getD (j + k) (0, 0)) := ⟨_, Lib.hid rfl⟩
          rw [<- hxd.out] at HI2
          go_wp2_with (first
           | ((with_reducible refine qB ?_); refine qc ?_ ?_ <;> intro h_ <;> go_prune)
           | ((with_reducible refine qA 50 ?_); refine BigFrame.wpList_want rfl fun _ hK => Bb (cs := [.int .i64 (x.1 : Nat), .int .i64 (x.2 : Nat)]) rfl rfl (by rw [<- Nat.add_mul, hxd.out]; exact Dl (hS.own 0 rfl) (by omega)) Tryz.underlying107 rfl (by kernel_rfl) (hK _ _ ?_))
           | ((with_reducible refine qM ?_); refine BigFrame.wpList_want rfl fun _ hK => opw_ostore2 (i := C.length * 2) rfl rfl rfl (hS.own 0 rfl) (by omega) rfl rfl (by kernel_rfl) fun w3 hX hU => hK _ _ ?_; replace hS := hS.upd 0 rfl (.own (.slice (some ⟨g, 0, none⟩) n cap) 107 2 n _) (Bv hU) hX (fun _ e => .inl e)))
          rw [K8] at hS
          exact ⟨⟨k + 1, R.set C.length x, C ++ [x], by omega, by omega, by simp, by go_num, by simp; omega, by simp [hR], by rw [List.length_append, List.length_singleton]; exact HI2, hS⟩, by simp [intOf]; omega⟩
       ·obtain rfl : k = n - j := by omega
        have HC := Lib.hid (show Cmp M C n from by have := HI.out.1; rwa [show j + (n - j) = n by omega] at this)
        have HT := Lib.hid HI.out.2.1
        obtain ⟨w2, ys, hrun, hX, hys, hG⟩ := run_clear_own (ty := 0) (c := cap - C.length) (hS.own 0 rfl) Tryz.underlying25 (Tryz.zeroValue107 wr) rfl (by simp [Value.oneCell']) (show C.length + (n - C.length) = n by omega)
        replace hS := hS.upd 0 rfl (.own (.slice (some ⟨g, 0, none⟩) C.length cap) 107 2 C.length (A6 C)) hG (by
         have := own_short hX (show C.length <= n by omega)
         rwa [hys, Eg, HT.out] at this) (fun _ e => .inl e)
        clear hX hG hys HI
        go_wp2_with (first | ((with_reducible refine qB ?_); refine qc ?_ ?_ <;> intro h_ <;> go_prune) | ((with_reducible show wpList _ _ _ (⟨_, .call _, _, _, _, _⟩ :: _) _ _); refine BigFrame.wpList_want rfl fun _ hK => opw_clear (w' := w2) rfl rfl hrun (hK _ _ ?_)))
        go_ret
        exact ⟨C, rfl, HC.out, by omega, hS⟩
    ·have HC2 := Lib.hid (HC.out.step HM.out hj1 (by omega) hx)
     rw [<- G2 (by omega)] at HC2
     go_wp2_with (first | ((with_reducible refine qB ?_); refine qc ?_ ?_ <;> intro h_ <;> go_prune))
     refine EB [.i (.slice (some ⟨g, 0, none⟩) n cap), .n ((j : Nat) : Int), .q g (0 + (j) * 2), .i (.agg #[.int .i64 ((M.getD j (0, 0)).1 : Nat), .int .i64 ((M.getD j (0, 0)).2 : Nat)]), .i (.slice (some ⟨g, 0, none⟩) n cap), .n ((j : Nat) : Int), .n (((j : Nat) : Int) - (1 : Int)), .q g (0 + (j - 1) * 2), .i (.agg #[.int .i64 ((M.getD (j - 1) (0, 0)).1 : Nat), .int .i64 ((M.getD (j - 1) (0, 0)).2 : Nat)]), .i (.bool (decide (M.getD j (0, 0) = M.getD (j - 1) (0, 0))))] ⟨uM, uM, uI (h := fun w hW hN => Af (m := j) Tryz.underlying25 (by kernel_rfl) (by omega) (by omega)), uD (h := fun w hW hN => by rw [Nat.zero_add]; exact Dl ((hS.ext hW).own 0 rfl) (by omega)), uM, uM, uB (h := fun w hW hN => EF (by omega) (by omega)), uI (h := fun w hW hN => Af (m := j - 1) Tryz.underlying25 (by kernel_rfl) (by omega) (by omega)), uD (h := fun w hW hN => by rw [Nat.zero_add]; exact Dl ((hS.ext hW).own 0 rfl) (by omega)), uB (h := fun w hW hN => I8 _ _ _), trivial⟩ ?_
     ·intro vs wz hW hT
      obtain ⟨e16, e17, e18, e19, e20, e21, e22, e23, e24, e25, -⟩ := hT
      simp only [AL, Act.put, zz, ze]
      replace hS := hS.ext hW
      rw [e25, decide_eq_false hx]
      clear hW e25 e1 hx e16 e17 e18 e19 e20 e21 e22 e23 e24
      go_wp2_with (first | ((with_reducible refine qB ?_); refine qc ?_ ?_ <;> intro h_ <;> go_prune))
      exact ⟨⟨j + 1, by omega, hlj, by go_num, HC2, hS⟩, by simp [intOf]; omega⟩
   ·obtain rfl : j = n := by omega
    go_wp2_with (first | ((with_reducible refine qB ?_); refine qc ?_ ?_ <;> intro h_ <;> go_prune))
    go_ret
    have hM : M.take j = M := by rw [<- hl, List.take_length]
    rw [hM] at HC
    subst hl
    exact ⟨M, rfl, HC.out, Nat.le_refl _, hS⟩
end
section
open Go.RowKit
attribute [local go_sem ↓] Go.wp_at_zero Go.wp_at_succ
set_option maxRecDepth 20000
set_option exponentiation.threshold 5000
theorem clip_any (A : Option Addr) (n c : Nat) (hc : n <= c) (hm : c <= 9223372036854775807) (w : World) : Calls Tryz.prog 180 #[.slice A n c] w fun e w' => e = .returned (.slice A n n) /\ w' = w := by
 go_enter Tryz.func180, Tryz.ntmps180
 go_wp2_with fail
 go_ret
 exact ⟨rfl, rfl⟩
theorem own_cap {w : World} {base g size n cap : Nat} {e : TypeId} {xs : List Value} (h : w.ownsRow base e size (.slice (some ⟨g, 0, none⟩) n cap) n xs) : n <= cap /\ cap <= 9223372036854775807 := by
 obtain ⟨A, c, he, h1, h2⟩ := Cu h
 injection he with _ _ he
 subst he
 exact ⟨h1, h2⟩
theorem sl_clip {w : World} {D : Nat -> Prop} {size n c : Nat} {A : Option Addr} {xs : List Value} (h : Sl w D size (.slice A n c) n xs) : Sl w D size (.slice A n n) n xs := by
 obtain ⟨h1, A2, c2, h2, h3, h4, h5⟩ := h
 injection h2 with h2 h6 h7
 subst h2
 exact ⟨h1, A, n, rfl, Nat.le_refl _, Nat.le_trans h3 h4, h5⟩
def CH (w : World) (D : Nat -> Prop) (g : Nat) (cs : Array Value) : Prop := D g /\ g < w.heap.size /\ 0 < cs.size /\ ∀ j x, cs[j]? = some x -> w.cell? ⟨g, j, none⟩ = some x
theorem Be {g : Nat} {cs : Array Value} : AF fun D w => CH w D g cs := fun D D' w w' h a b c => by
 obtain ⟨h1, h2, h3, h4⟩ := h
 have h5 : cs[0]? = some (cs[0]'h3) := Array.getElem?_eq_getElem h3
 exact ⟨c g h1 h2 (Gc (h4 0 _ h5)), Nat.lt_of_lt_of_le h2 a, h3, fun j x hj => b _ x h1 h2 (h4 j x hj)⟩
theorem CH.cell {w : World} {D : Nat -> Prop} {g : Nat} {cs : Array Value} (h : CH w D g cs) (j : Nat) {x : Value} (hx : cs[j]? = some x) : w.cell? ⟨g, j, none⟩ = some x := h.2.2.2 j x hx
theorem St.sealB {w0 w : World} {F : List A7} {K : (Nat -> Prop) -> World -> Prop} (h : St w0 w F K) (i : Nat) {g : Nat} {t : TypeId} {cs : Array Value} (h0 : 0 < cs.size) (hi : F[i]? = some (.box g t cs)) : St w0 w (F.eraseIdx i) fun D w => K D w /\ CH w D g cs := by
 have hlt := (List.getElem?_eq_some_iff.1 hi).1
 have hfF : A7.box g t cs ∈ F := List.mem_of_getElem? hi
 have hbx := h.box i hi
 refine (h.sub (List.eraseIdx_sublist _ _)).add (D := fun b => b = g) Be ⟨rfl, hbx.lt, h0, fun j x hj => (hbx.cell j).trans hj⟩ fun b hb _ f hf e => ?_
 obtain ⟨j, hj⟩ := List.mem_iff_getElem?.1 hf
 rw [List.getElem?_eraseIdx] at hj
 have e1 : F[i] = A7.box g t cs := (List.getElem?_eq_some_iff.1 hi).2
 have hb' : some b = some g := by rw [hb]
 split at hj
 ·have := List.pairwise_iff_getElem.1 h.apart j i (by omega) hlt (by omega) b (by rw [(List.getElem?_eq_some_iff.1 hj).2]; exact e)
  rw [e1] at this; exact this hb'.symm
 ·have hjl := (List.getElem?_eq_some_iff.1 hj).1
  have := List.pairwise_iff_getElem.1 h.apart i (j + 1) hlt hjl (by omega) b (by rw [e1]; exact hb'.symm)
  rw [(List.getElem?_eq_some_iff.1 hj).2] at this; exact this e
theorem set_same {α : Type} {l : List α} {i : Nat} {x : α} (h : l[i]? = some x) : l.set i x = l := by
 obtain ⟨h1, h2⟩ := List.getElem?_eq_some_iff.1 h
 subst h2
 exact List.set_getElem_self h1
theorem st_appf {P : Program} {ops : Array Oper} {rest : List Oper} {o : Oper} {a : Act} {Q : Exit -> Act -> World -> Prop} {w0 w : World} {F : List A7} {K : (Nat -> Prop) -> World -> Prop} (h : St w0 w F K) (i : Nat) (hg : o.guard = none) (s x : Operand) (t : TypeId) (ho : o.op = .call { callee := .builtin .append, args := #[s, x], argTypes := #[t, t] }) {e : TypeId} {size bytes : Nat} (hT : Bn P t e size bytes)
  (g : Nat) (hs : a.eval s = .slice (some ⟨g, 0, none⟩) 0 0) (hb : F[i]? = some (.own (.slice (some ⟨g, 0, none⟩) 0 0) e size 0 [])) (D : Nat -> Prop) (y : Value) (m : Nat) (news : List Value) (hx : a.eval x = y) (hr : Sl w D size y m news)
  (h1 : ∀ u ∈ news, u.oneCell' = true) (hm : m <= 1000000000000) (hbytes : m * bytes <= 140737488355328)
  (hk : ∀ g' c w', St w0 w' (F.set i (.own (.slice (some ⟨g', 0, none⟩) m c) e size m news)) K -> wpList P ops Q rest (a.put o.dst (.slice (some ⟨g', 0, none⟩) m c)) w') : wpList P ops Q (o :: rest) a w := by
 rcases Nat.eq_zero_or_pos m with h0 | h0
 ·subst h0
  obtain ⟨j, z, hi, hz, h2, h3, h4, h5⟩ := hT.get
  obtain ⟨hl, A, c, rfl, _, _, hc⟩ := hr
  have hn : news = [] := List.eq_nil_of_length_eq_zero (by simpa using hl)
  subst hn
  have hrun : (Builtin.append_ #[t, t] o.type #[.slice (some ⟨g, 0, none⟩) 0 0, .slice A 0 c]).run P w = .ok (.slice (some ⟨g, 0, none⟩) 0 0) w := by
   cases A with
   | none => simp [Builtin.append_, run_underlying hT.under, sizeOf, typeInfo, hi, Builtin.lenOf, Builtin.firstCells, storeCells]
   | some ad => simp [Builtin.append_, run_underlying hT.under, sizeOf, typeInfo, hi, Builtin.lenOf, Builtin.firstCells, storeCells, loadCells, loadCellsFrom]
  refine wpList_plain hg fun _ hK => ?_
  unfold Oper.wp execOp
  simp only [ho, resolve, invoke, builtin, Sem.run_bind, Sem.run_pure, Result.andThen_ok, List.map_toArray, List.map_cons, List.map_nil, hs, hx, hrun]
  refine hK _ _ (hk g 0 w ?_)
  rw [set_same hb]
  exact h
 ·refine Dk h i hg s x t ho hT _ 0 [] hs hb D y m news hx hr h1 (by unfold maxLen; omega) (by rw [Nat.zero_add]; exact hbytes) fun v' w' hS => ?_
  rw [Nat.zero_add, List.nil_append] at hS
  have hlt := (List.getElem?_eq_some_iff.1 hb).1
  obtain ⟨g', c', rfl, _, _⟩ := DK (hS.own i (by rw [List.getElem?_set_self hlt])) h0
  exact hk _ _ _ hS
def OrdX (q : Nat) (gp : Nat) (av bv sv : Value) (xa xb : List Value) (n : Nat) (L : List (Nat × Nat)) (D : Nat -> Prop) (w : World) : Prop :=
 CH w D q #[.int .i64 (n : Nat), .slice (some ⟨gp, 0, none⟩) L.length L.length, av, bv, sv] /\ Sl w D 2 (.slice (some ⟨gp, 0, none⟩) L.length L.length) L.length (A6 L) /\ (Sl w D 1 av n xa /\ Cl xa n (aboveM n L) D w) /\ (Sl w D 1 bv n xb /\ Cl xb n (belowM n L) D w)
theorem Fz {q gp : Nat} {av bv sv : Value} {xa xb : List Value} {n : Nat} {L : List (Nat × Nat)} : AF (OrdX q gp av bv sv xa xb n L) := fun D D' w w' h a b c => by
 obtain ⟨h2, h3, ⟨h4, h5⟩, h6, h7⟩ := h
 exact ⟨Be D D' w w' h2 a b c, Aj (by decide) D D' w w' h3 a b c, ⟨Aj (by decide) D D' w w' h4 a b c, Bj D D' w w' h5 a b c⟩, Aj (by decide) D D' w w' h6 a b c, Bj D D' w w' h7 a b c⟩
def Ik (w : World) (D : Nat -> Prop) (p : Value) (n : Nat) (L : List (Nat × Nat)) : Prop :=
 ∃ (q gp : Nat) (av bv sv : Value) (xa xb : List Value), p = .pointer (some ⟨q, 0, none⟩) /\ OrdX q gp av bv sv xa xb n L D w
theorem OrdX.ord {q gp : Nat} {av bv sv : Value} {xa xb : List Value} {n : Nat} {L : List (Nat × Nat)} {D : Nat -> Prop} {w : World} (h : OrdX q gp av bv sv xa xb n L D w) : Ik w D (.pointer (some ⟨q, 0, none⟩)) n L := ⟨q, gp, av, bv, sv, xa, xb, rfl, h⟩
theorem Do {p : Value} {n : Nat} {L : List (Nat × Nat)} : AF fun D w => Ik w D p n L := fun D D' w w' h a b c => by
 obtain ⟨q, gp, av, bv, sv, xa, xb, h1, h2⟩ := h
 exact ⟨q, gp, av, bv, sv, xa, xb, h1, Fz D D' w w' h2 a b c⟩
theorem Gh.le {n m : Nat} {L : List (Nat × Nat)} (h : Gh n L) (hn : n <= m) : Gh m L := fun x hx => ⟨Nat.lt_of_lt_of_le (h x hx).1 hn, Nat.lt_of_lt_of_le (h x hx).2 hn⟩
theorem BL (L : List (Nat × Nat)) : ∀ u ∈ A6 L, u.oneCell' = true := fun u hu => by
 simp only [A6, List.mem_flatMap, List.mem_cons, List.not_mem_nil, or_false] at hu
 obtain ⟨x, _, rfl | rfl⟩ := hu <;> rfl
theorem cmp_mem {L0 M C : List (Nat × Nat)} (hp : M.Perm L0) (hC : Cmp M C L0.length) (x : Nat × Nat) : x ∈ C ↔ x ∈ L0 := by
 rw [hC.2, List.take_of_length_le (Nat.le_of_eq hp.length_eq), hp.mem_iff]
theorem inr_of {n : Nat} {L0 M C : List (Nat × Nat)} (h : Gh n L0) (hp : M.Perm L0) (hC : Cmp M C L0.length) : Gh n C := fun x hx => h x ((cmp_mem hp hC x).1 hx)
theorem acyc_mem {L M : List (Nat × Nat)} (h : ∀ x, x ∈ L ↔ x ∈ M) : Eb L ↔ Eb M := ⟨fun k => k.sub fun x hx => (h x).2 hx, fun k => k.sub fun x hx => (h x).1 hx⟩
theorem onew_any {w0 w : World} {F : List A7} {K : (Nat -> Prop) -> World -> Prop} (n : Nat) (L0 : List (Nat × Nat)) (pv : Value) (hn : n <= 256) (hL : Gh n L0) (hl : L0.length <= 1000000) (hS : St w0 w F K)
  (kp : ∀ D w, K D w -> Sl w D 2 pv L0.length (A6 L0)) (kt : ∀ D w, K D w -> Cw w /\ D 0) :
  Calls Tryz.prog 130 #[.int .i64 (n : Nat), pv] w fun e w' =>
   (¬ Eb L0 /\ e = .returned (.tuple #[.pointer none, .int .i64 16]) /\ St w0 w' F K) \/
   ∃ (p : Value) (L : List (Nat × Nat)), e = .returned (.tuple #[p, .int .i64 0]) /\ Asc L /\ (∀ x, x ∈ L ↔ x ∈ L0) /\ Eb L /\ St w0 w' F fun D w => K D w /\ Ik w D p n L := by
 obtain ⟨A, c, rfl, _, _⟩ := (kp _ _ hS.ro).shape
 have HL := Lib.hid hL
 clear hL
 go_enter Tryz.func130, Tryz.ntmps130
 go_wp2_with (first | ((with_reducible refine qB ?_); refine qc ?_ ?_ <;> intro h_ <;> go_prune))
 go_loopw [18] (fun i wr => ∃ j : Nat, j <= L0.length /\ i = .int .i64 j /\ St w0 wr F K) (fun i _ => L0.length - (intOf i).toNat)
 case atStart => exact ⟨0, by omega, rfl, hS⟩
 case round =>
  clear hS
  obtain ⟨j, hj, rfl, hS⟩ := hrel
  by_cases hlj : j < L0.length
  ·obtain ⟨f1, f2⟩ := Bf L0 j hlj
   have hm := HL.out (L0.getD j (0, 0)) (by rw [List.getD_eq_getElem?_getD, List.getElem?_eq_getElem hlj]; exact List.getElem_mem hlj)
   generalize L0.getD j (0, 0) = x at *
   obtain ⟨xa, xb⟩ := x
   dsimp only at f1 f2 hm
   obtain ⟨ha, hxb⟩ := hm
   go_wp2_with (first
    | ((with_reducible refine qB ?_); refine qc ?_ ?_ <;> intro h_ <;> go_prune)
    | ((with_reducible refine qI ?_); refine qj hS Tryz.underlying25 ?_; intro b_ j_ hc0_ hc1_)
    | ((with_reducible refine qA 7 ?_); refine AU hS rfl _ rfl (by kernel_rfl) ?_; clear hS; intro g4 w_ hS; (try simp only [Act.put, Act.eval, zz, Value.cells] at hS))
    | ((with_reducible refine qM ?_); (first | refine qS hS ?_ | refine qT hS ?_); clear hS; intro w_ hS; (try simp only [Act.put, Act.eval, zz, Value.cells] at hS))
    | ((with_reducible refine qK ?_); refine qC hS ?_))
   exact ⟨⟨j + 1, hlj, by go_num, hS.sub (List.sublist_cons_self _ _)⟩, by simp [intOf]; omega⟩
  ·obtain rfl : j = L0.length := by omega
   obtain ⟨DD, hDD, hK0⟩ := hS.dom
   have KS := hS.stable
   go_wp2_with (first
    | ((with_reducible refine qB ?_); refine qc ?_ ?_ <;> intro h_ <;> go_prune)
    | ((with_reducible show wpList _ _ _ (⟨_, .buildSlice _ 0 _, _, _, _, _⟩ :: _) _ _); refine JH hS rfl _ _ rfl Tryz.underlying25 (by kernel_rfl) 2 ?_; clear hS; intro ge w_ hS)
    | ((with_reducible refine qA 40 ?_); refine st_appf hS 0 rfl _ _ _ rfl Cx _ rfl rfl _ _ _ _ rfl (kp _ _ hS.ro) (BL L0) (by omega) (by omega) ?_; clear hS; intro g cap w_ hS)
    | (go_at_call 178; refine (sortp_any 0 g L0.length cap L0 (HL.out.le hn) rfl (by omega) hS rfl).mono ?_; rintro e w_ ⟨M, rfl, hMp, hMs, hS⟩; replace hMp := Lib.hid hMp; replace hMs := Lib.hid hMs)
    | (go_at_call 181; refine (compactp_any g L0.length cap M hMp.out.length_eq hl hMs.out hS).mono ?_; rintro e w_ ⟨C, rfl, hC, hCl, hS⟩; obtain ⟨hc2, hm2⟩ := own_cap (hS.own 0 rfl); replace hC := Lib.hid hC; replace hS := hS.freeze 0 (by decide) rfl)
    | (go_at_call 180; refine (clip_any (some ⟨g, 0, none⟩) C.length cap hc2 hm2 _).mono ?_; rintro e w_ ⟨rfl, rfl⟩)
    | ((with_reducible refine qA 48 ?_); refine AH hS rfl _ _ rfl (.agg #[.int .i64 (n : Nat), .slice (some ⟨g, 0, none⟩) C.length C.length, .slice none 0 0, .slice none 0 0, .slice none 0 0]) _ rfl rfl ?_; clear hS; intro q w_ hS; (try simp only [Act.put, Act.eval, zz, Value.cells] at hS))
    | (go_at_call 182; refine (osort_any q n C (.slice (some ⟨g, 0, none⟩) C.length C.length) hn (inr_of HL.out hMp.out hC.out) (by omega) hS (fun D w h => sl_clip h.2)).mono ?_; rintro e w_ ⟨b, S, sv, rfl, hb1, hb2, hS⟩; cases b <;> (replace hb1 := Lib.hid hb1; replace hb2 := Lib.hid hb2))
    | (go_at_call 183; refine (orelate_any q n C S (.slice (some ⟨g, 0, none⟩) C.length C.length) sv hn (inr_of HL.out hMp.out hC.out) (by omega) (hb1.out (by simp)).2.1 (hb1.out (by simp)).2.2.1 (hb1.out (by simp)).2.2.2 hS (fun D w h => sl_clip h.2) (fun D w h => kt D w h.1)).mono ?_; rintro e w_ ⟨av, bv, xa, xb, rfl, hS⟩))
   ·go_ret2
    refine .inl ⟨fun h => hb2.out (by simp) ((acyc_mem (cmp_mem hMp.out hC.out)).2 h), rfl, ?_⟩
    exact (hS.sub (.cons _ (.cons _ (List.Sublist.refl _)))).mono KS fun D w h => h.1
   ·go_ret2
    refine .inr ⟨_, C, rfl, hC.out.1, cmp_mem hMp.out hC.out, (hb1.out (by simp)).1, ?_⟩
    have hS1 := hS.sealB 0 (by simp) rfl
    exact hS1.mono (KS.and Do) fun D w h => ⟨h.1.1.1, q, _, av, bv, sv, xa, xb, rfl, h.2, sl_clip h.1.1.2, h.1.2.1, h.1.2.2⟩
end
section
open Go.RowKit
attribute [local go_sem ↓] Go.wp_at_zero Go.wp_at_succ
set_option maxRecDepth 20000
set_option exponentiation.threshold 5000
theorem oin_any {w0 : World} {D : Nat -> Prop} {p : Value} {n : Nat} {L : List (Nat × Nat)} (h : Ik w0 D p n L) (a : Int) : Calls Tryz.prog 184 #[p, .int .i64 a] w0 (Ax (fun x _ => x = .bool (decide (0 <= a /\ a < n))) w0) := by
 obtain ⟨q, gp, av, bv, sv, xa, xb, rfl, hb, _⟩ := h
 obtain ⟨K, k0, hS⟩ : ∃ K : (Nat -> Prop) -> World -> Prop, (∀ D w, K D w -> w.cell? ⟨q, 0, none⟩ = some (.int .i64 (n : Nat))) /\ St w0 w0 [] K := ⟨_, fun _ _ h => CH.cell h 0 rfl, St.start Be hb⟩
 clear hb
 by_cases h1 : 0 <= a
 ·by_cases h2 : a < n
  ·have HR := Lib.hid (show decide (0 <= a /\ a < (n : Int)) = true by simp [h1, h2])
   generalize decide (0 <= a /\ a < (n : Int)) = R at *
   go_enter Tryz.func184, Tryz.ntmps184
   go_wp2_with (first | ((with_reducible refine qB ?_); refine qc ?_ ?_ <;> intro h_ <;> go_prune) | ((with_reducible refine qK ?_); refine E0 hS rfl _ _ rfl _ rfl _ k0 (by kernel_rfl) ?_))
   go_ret
   exact Ax.mk (congrArg Value.bool HR.out.symm) hS.below
  ·have HR := Lib.hid (show decide (0 <= a /\ a < (n : Int)) = false by simp [h2])
   generalize decide (0 <= a /\ a < (n : Int)) = R at *
   go_enter Tryz.func184, Tryz.ntmps184
   go_wp2_with (first | ((with_reducible refine qB ?_); refine qc ?_ ?_ <;> intro h_ <;> go_prune) | ((with_reducible refine qK ?_); refine E0 hS rfl _ _ rfl _ rfl _ k0 (by kernel_rfl) ?_))
   go_ret
   exact Ax.mk (congrArg Value.bool HR.out.symm) hS.below
 ·have HR := Lib.hid (show decide (0 <= a /\ a < (n : Int)) = false by simp [h1])
  generalize decide (0 <= a /\ a < (n : Int)) = R at *
  go_enter Tryz.func184, Tryz.ntmps184
  go_wp2_with (first | ((with_reducible refine qB ?_); refine qc ?_ ?_ <;> intro h_ <;> go_prune) | ((with_reducible refine qK ?_); refine E0 hS rfl _ _ rfl _ rfl _ k0 (by kernel_rfl) ?_))
  go_ret
  exact Ax.mk (congrArg Value.bool HR.out.symm) hS.below
theorem pclone_any {w0 : World} {D : Nat -> Prop} {pv : Value} {L : List (Nat × Nat)} (h : Sl w0 D 2 pv L.length (A6 L)) (hl : L.length <= 1000000) : Calls Tryz.prog 195 #[pv] w0 fun e w' => ∃ v, e = .returned v /\ St w0 w' [.own v 107 2 L.length (A6 L)] fun _ _ => True := by
 obtain ⟨A, c, rfl, hc1, hc2⟩ := h.shape
 obtain ⟨K, kp, hS⟩ : ∃ K : (Nat -> Prop) -> World -> Prop, (∀ D w, K D w -> Sl w D 2 (.slice A L.length c) L.length (A6 L)) /\ St w0 w0 [] K := ⟨_, fun _ _ h => h, St.start (Aj (by decide)) h⟩
 clear h
 cases A with
 | none =>
  have h0 : L.length = 0 := by
   obtain ⟨_, A, c2, h2, _, _, h5⟩ := kp _ _ hS.ro
   rcases Nat.eq_zero_or_pos L.length with h | h
   ·exact h
   ·obtain ⟨b, o, h6, _⟩ := h5 h
    injection h2 with h2; rw [<- h2] at h6; cases h6
  have hL : L = [] := List.length_eq_zero_iff.1 h0
  subst hL
  go_enter Tryz.func195, Tryz.ntmps195
  go_wp2_with (first
   | ((with_reducible refine qB ?_); refine qc ?_ ?_ <;> intro h_ <;> go_prune)
   | ((with_reducible refine qA 4 ?_); refine BigFrame.wpList_want rfl fun _ hK => Az (vx := .slice none _ c) (vy := .slice none 0 0) (v := .bool true) rfl rfl rfl rfl (Lib.run_eql_slice_nil _ _ _ _ _ _ _ _ Tryz.underlying25) (hK _ _ ?_)))
  go_ret
  exact ⟨_, rfl, ((hS.nil 107 2)).mono (AF.pure True) fun _ _ _ => trivial⟩
 | some ad =>
  go_enter Tryz.func195, Tryz.ntmps195
  go_wp2_with (first
   | ((with_reducible refine qA 4 ?_); refine BigFrame.wpList_want rfl fun _ hK => Az (vx := .slice (some ad) L.length c) (vy := .slice none 0 0) (v := .bool false) rfl rfl rfl rfl (Lib.run_eql_slice_nil _ _ _ _ _ _ _ _ Tryz.underlying25) (hK _ _ ?_))
   | ((with_reducible show wpList _ _ _ (⟨_, .buildSlice _ 0 _, _, _, _, _⟩ :: _) _ _); refine JH hS rfl _ _ rfl Tryz.underlying25 (by kernel_rfl) 2 ?_; clear hS; intro ge w_ hS)
   | ((with_reducible refine qA 7 ?_); refine st_appf hS 0 rfl _ _ _ rfl Cx _ rfl rfl _ _ _ _ rfl (kp _ _ hS.ro) (BL L) (by omega) (by omega) ?_; clear hS; intro g cap w_ hS))
  go_ret
  exact ⟨_, rfl, hS.mono (AF.pure True) fun _ _ _ => trivial⟩
theorem Kg {w0 : World} {D : Nat -> Prop} {p : Value} {n : Nat} {L : List (Nat × Nat)} (h : Ik w0 D p n L) (hl : L.length <= 1000000) : Calls Tryz.prog 153 #[p] w0 fun e w' => ∃ v, e = .returned v /\ St w0 w' [.own v 107 2 L.length (A6 L)] fun _ _ => True := by
 obtain ⟨q, gp, av, bv, sv, xa, xb, rfl, hb, hp, _⟩ := h
 have k0 := Lib.hid (hb.cell 1 (x := .slice (some ⟨gp, 0, none⟩) L.length L.length) rfl)
 have HC := Lib.hid (pclone_any hp hl)
 clear hb hp
 go_enter Tryz.func153, Tryz.ntmps153
 go_wp2_with (first
  | ((with_reducible refine qB ?_); refine qc ?_ ?_ <;> intro h_ <;> go_prune)
  | ((with_reducible refine qK ?_); refine BigFrame.wpList_want rfl fun _ hK => Ad rfl rfl (by kernel_rfl) k0.out (hK _ _ ?_))
  | (go_at_call 195; refine HC.out.mono ?_; rintro e w_ ⟨v, rfl, hS⟩))
 go_ret
 exact ⟨v, rfl, hS⟩
theorem rng1 {w : World} {g i : Nat} {u : Value} (h : w.cell? ⟨g, i + 0, none⟩ = some u) : w.rangeAt g i [u] := fun j v hj => by
 match j, hj with
 | 0, hj => simp at hj; subst hj; exact h
 | j + 1, hj => simp at hj
theorem obelow_any {w0 : World} {D : Nat -> Prop} {p : Value} {n : Nat} {L : List (Nat × Nat)} (h : Ik w0 D p n L) (hL : Gh n L) (a : Int) : Calls Tryz.prog 152 #[p, .int .i64 a] w0 (Ax (fun x w => ∃ N, A5 w D x N /\ ∀ i : Nat, N.testBit i = true ↔ ∃ b : Nat, a = (b : Int) /\ TC L b i) w0) := by
 obtain ⟨q, gp, av, bv, sv, xa, xb, rfl, h⟩ := h
 have HA := Lib.hid h.2.2.2.2
 obtain ⟨A, c, rfl, _, _⟩ := h.2.2.2.1.shape
 obtain ⟨K, ko, hS⟩ : ∃ K : (Nat -> Prop) -> World -> Prop, (∀ D w, K D w -> OrdX q gp av (.slice A n c) sv xa xb n L D w) /\ St w0 w0 [] K := ⟨_, fun _ _ h => h, St.start Fz h⟩
 clear h
 by_cases hin : 0 <= a /\ a < (n : Int)
 ·obtain ⟨k, rfl⟩ : ∃ k : Nat, a = (k : Int) := ⟨a.toNat, by omega⟩
  have hk : k < n := by omega
  obtain ⟨u, hu1, hu2⟩ := HA.out k hk
  obtain ⟨A3, c3, l3, he, _⟩ := hu2.parts
  obtain rfl : u = .slice A3 l3.length c3 := by injection he with he; simpa using he
  clear he
  have HU := Lib.hid hu2
  have HD := Lib.hid (decide_eq_true hin)
  clear hu2 hin
  go_enter Tryz.func152, Tryz.ntmps152
  go_wp2_with (first
   | ((with_reducible refine qA 4 ?_); refine AU hS rfl _ rfl (by kernel_rfl) ?_; clear hS; intro g w_ hS; (try simp only [Act.put, Act.eval, zz, Value.cells] at hS))
   | (go_at_call 184; refine (oin_any (ko _ _ hS.ro).ord _).mono ?_; rw [HD.out]; rintro r_ w_ ⟨_, rfl, rfl, hb_⟩; replace hS := hS.ext hb_; clear hb_)
   | ((with_reducible refine qA 13 ?_); refine E0 hS rfl _ _ rfl _ rfl _ (fun D w h => (ko D w h).1.cell 3 rfl) (by kernel_rfl) ?_)
   | ((with_reducible refine qA 15 ?_); refine JG rfl _ _ _ rfl _ rfl rfl (ko _ _ hS.ro).2.2.2.1 Tryz.underlying220 (by kernel_rfl) hk ?_; intro b_ j_ _ _ hc_)
   | ((with_reducible refine qA 16 ?_); refine BigFrame.wpList_want rfl fun _ hK => Bb (cs := [.slice A3 l3.length c3]) rfl rfl (rng1 (hc_ 0 _ (by simpa using hu1))) Tryz.underlying39 rfl (by kernel_rfl) (hK _ _ ?_))
   | ((with_reducible refine qM ?_); (first | refine qS hS ?_ | refine qT hS ?_); clear hS; intro w_ hS; (try simp only [Act.put, Act.eval, zz, Value.cells] at hS)))
  refine DB Tryz.results152 rfl (hS.box 0 rfl) Tryz.underlying39 rfl (by kernel_rfl) rfl ?_
  refine Ax.mk ⟨_, HU.out.ext hS.below, fun i => (tb_below hL).trans ⟨fun h => ⟨k, rfl, h⟩, fun ⟨b, e, h⟩ => ?_⟩⟩ hS.below
  obtain rfl : k = b := by omega
  exact h
 ·have HD := Lib.hid (decide_eq_false hin)
  go_enter Tryz.func152, Tryz.ntmps152
  go_wp2_with (first
   | ((with_reducible refine qA 4 ?_); refine AU hS rfl _ rfl (by kernel_rfl) ?_; clear hS; intro g w_ hS; (try simp only [Act.put, Act.eval, zz, Value.cells] at hS))
   | (go_at_call 184; refine (oin_any (ko _ _ hS.ro).ord _).mono ?_; rw [HD.out]; rintro r_ w_ ⟨_, rfl, rfl, hb_⟩; replace hS := hS.ext hb_; clear hb_)
   | ((with_reducible show wpList _ _ _ (⟨_, .build _ _, _, _, _, _⟩ :: _) _ _); refine Bt rfl _ _ rfl #[.slice none 0 0] (by kernel_rfl) ?_)
   | ((with_reducible refine qM ?_); (first | refine qS hS ?_ | refine qT hS ?_); clear hS; intro w_ hS; (try simp only [Act.put, Act.eval, zz, Value.cells] at hS)))
  refine DB Tryz.results152 rfl (hS.box 0 rfl) Tryz.underlying39 rfl (by kernel_rfl) rfl ?_
  refine Ax.mk ⟨0, A5.empty, fun i => ⟨fun h => by simp at h, fun ⟨b, e, h⟩ => ?_⟩⟩ hS.below
  have := (h.lt hL).1
  omega
def encP (x : Nat × Nat) : List Value := [.int .i64 (x.1 : Nat), .int .i64 (x.2 : Nat)]
theorem eqlP : EqlAt Tryz.prog 107 (fun x => .agg (encP x).toArray) (fun x y : Nat × Nat => decide (x = y)) := ⟨fun x y w => I8 w x y, GuardAt.agg _ (by kernel_rfl)⟩
theorem cellsP {w : World} {D : Nat -> Prop} {g c : Nat} {L : List (Nat × Nat)} (h : Sl w D 2 (.slice (some ⟨g, 0, none⟩) L.length c) L.length (A6 L)) : ∀ j, j < L.length -> ∀ i v, (encP L[j]!)[i]? = some v -> w.cell? ⟨g, 0 + j * 2 + i, none⟩ = some v := fun j hj i v hv => by
 obtain ⟨_, A, c2, h2, _, _, h5⟩ := h
 injection h2 with h2
 obtain ⟨b, o, h6, _, _, h8⟩ := h5 (by omega)
 rw [<- h2] at h6
 injection h6 with h6; injection h6 with h6 h7
 subst h6; subst h7
 have h3 := Bf L j hj
 have h4 : L.getD j (0, 0) = L[j]! := by rw [getElem!_pos L j hj, List.getD_eq_getElem?_getD, List.getElem?_eq_getElem hj]; rfl
 rw [h4] at h3
 rw [Nat.add_assoc]
 generalize L[j]! = y at *
 match i, hv with
 | 0, hv => simp [encP] at hv; subst hv; exact h8 _ _ h3.1
 | 1, hv => simp [encP] at hv; subst hv; exact h8 _ _ h3.2
 | i + 2, hv => simp [encP] at hv
theorem pcontains_any {w : World} {D : Nat -> Prop} {g c : Nat} {L : List (Nat × Nat)} (hl : L.length <= 1000000) (h : Sl w D 2 (.slice (some ⟨g, 0, none⟩) L.length c) L.length (A6 L)) (x : Nat × Nat) :
  Calls Tryz.prog 185 #[.slice (some ⟨g, 0, none⟩) L.length c, .agg #[.int .i64 (x.1 : Nat), .int .i64 (x.2 : Nat)]] w (Ax (fun r _ => r = .bool (decide (x ∈ L))) w) := by
 have := AnyQ.slices_Contains Tryz.containsPairs 2 Tryz.isAgg107 Tryz.sizeOf107 encP (fun _ => rfl) _ eqlP g 0 L.length c L x w (Nat.le_refl _) (by omega) (cellsP h)
 refine this.mono ?_
 rintro e w' ⟨rfl, hb⟩
 refine Ax.mk ?_ hb
 rw [List.take_length]
 congr 1
 rw [Bool.eq_iff_iff, List.any_eq_true, decide_eq_true_eq]
 exact ⟨fun ⟨y, h1, h2⟩ => by rw [decide_eq_true_eq] at h2; rw [h2]; exact h1, fun h => ⟨x, h, by simp⟩⟩
end
section
open Go.RowKit
attribute [local go_sem ↓] Go.wp_at_zero Go.wp_at_succ
set_option maxRecDepth 20000
structure AG where
 r : List Value
 b : List (Nat × Value)
def Fo (g : AG) (s : Nat) (v : Value) : Prop := ∃ pre post, g.r = pre ++ v :: post /\ post.length = s
structure AD where
 e : TypeId
 size : Nat
 top : Nat
 cnt : Nat -> Nat
 cont : Nat -> List Value
 src : Nat -> Value -> A7
def AG.main (d : AD) (g : AG) : List A7 := match g.r with
 | [] => []
 | v :: r => [.own v d.e d.size (d.cnt r.length) (d.cont r.length)]
def AG.F (d : AD) (g : AG) : List A7 := (g.b.map fun x => d.src x.1 x.2) ++ g.main d
def AJ (w0 : World) (F : List A7) (K : (Nat -> Prop) -> World -> Prop) (d : AD) (p : World × AG) : Prop := St w0 p.1 (p.2.F d ++ F) K /\ p.2.r.length <= d.top
def AR (w0 : World) (F : List A7) (K : (Nat -> Prop) -> World -> Prop) (d : AD) (p p' : World × AG) : Prop := (AJ w0 F K d p -> AJ w0 F K d p') /\ (∃ s, p'.2.r = s ++ p.2.r) /\ ∀ x, x ∈ p.2.b -> x ∈ p'.2.b
def Fl (kd : List (Nat × (Bool × Nat))) (i : Nat) : Option (Bool × Nat) := (kd.find? fun x => x.1 == i).map (·.2)
def AN (kd : List (Nat × (Bool × Nat))) (i : Nat) (p : World × AG) : Prop := match Fl kd i with
 | some (true, s) => p.2.r.length <= s
 | some (false, j) => ∀ v, (j, v) ∉ p.2.b
 | none => True
theorem akind_inj {kd : List (Nat × (Bool × Nat))} (h : (kd.map (·.2)).Nodup) {i j : Nat} {x : Bool × Nat} (hi : Fl kd i = some x) (hj : Fl kd j = some x) : i = j := by
 unfold Fl at hi hj
 obtain ⟨y, hy, rfl⟩ := Option.map_eq_some_iff.1 hi
 obtain ⟨z, hz, he⟩ := Option.map_eq_some_iff.1 hj
 have e1 : y.1 = i := by simpa using List.find?_some hy
 have e2 : z.1 = j := by simpa using List.find?_some hz
 have m1 := List.mem_of_find?_eq_some hy
 have m2 := List.mem_of_find?_eq_some hz
 obtain ⟨a, ha, ea⟩ := List.getElem_of_mem m1
 obtain ⟨b, hb, eb⟩ := List.getElem_of_mem m2
 have hp := List.pairwise_iff_getElem.1 h
 have key : a = b := by
  rcases Nat.lt_trichotomy a b with q | q | q
  ·have := hp a b (by simpa using ha) (by simpa using hb) q
   simp [ea, eb, he] at this
  ·exact q
  ·have := hp b a (by simpa using hb) (by simpa using ha) q
   simp [ea, eb, he] at this
 subst key
 rw [ea] at eb
 rw [<- e1, <- e2, eb]
theorem KA (kd : List (Nat × (Bool × Nat))) (w : World) (i : Nat) : AN kd i (w, ⟨[], []⟩) := by
 unfold AN
 split
 ·exact Nat.zero_le _
 ·simp
 ·trivial
theorem Fo.mono {g g' : AG} {s : Nat} {v : Value} (h : Fo g s v) (k : ∃ t, g'.r = t ++ g.r) : Fo g' s v := by
 obtain ⟨pre, post, h1, h2⟩ := h
 obtain ⟨t, k⟩ := k
 exact ⟨t ++ pre, post, by rw [k, h1, List.append_assoc], h2⟩
theorem Fo.head {g : AG} {s : Nat} {v : Value} (h : Fo g s v) (hl : g.r.length <= s + 1) : ∃ post, g.r = v :: post /\ post.length = s := by
 obtain ⟨pre, post, h1, h2⟩ := h
 rw [h1, List.length_append, List.length_cons] at hl
 have : pre = [] := List.eq_nil_of_length_eq_zero (by omega)
 subst this
 exact ⟨post, h1, h2⟩
theorem St.permC {w0 w : World} {F F' : List A7} {K : (Nat -> Prop) -> World -> Prop} (h : St w0 w F K) (hp : F.Perm F') : St w0 w F' K := by
 refine ⟨h.below, fun f hf => h.holds f (hp.mem_iff.2 hf), hp.pairwise h.apart fun {a b} q k hk e => q k e hk, h.stable, h.stable _ _ _ _ h.ro (Nat.le_refl _) (fun _ _ _ _ h => h) fun k h1 _ _ f hf => h1 f (hp.mem_iff.2 hf)⟩
section
variable {w0 : World} {F : List A7} {K : (Nat -> Prop) -> World -> Prop} {d : AD} {p p' : World × AG} {kd : List (Nat × (Bool × Nat))} {i : Nat}
theorem AR.refl (p : World × AG) : AR w0 F K d p p := ⟨id, ⟨[], rfl⟩, fun _ h => h⟩
theorem AR.trans (a b c : World × AG) (h : AR w0 F K d a b) (k : AR w0 F K d b c) : AR w0 F K d a c := by
 obtain ⟨s, hs⟩ := h.2.1
 obtain ⟨t, ht⟩ := k.2.1
 exact ⟨fun y => k.1 (h.1 y), ⟨t ++ s, by rw [ht, hs, List.append_assoc]⟩, fun x hx => k.2.2 x (h.2.2 x hx)⟩
theorem AR.src (hnd : (kd.map (·.2)).Nodup) {j : Nat} (hki : Fl kd i = some (false, j)) {w' : World} {v : Value} (hb : Below p.1.heap.size p.1 w') (hf : (d.src j v).holds p.1.heap.size w') : AR w0 F K d p (w', ⟨p.2.r, (j, v) :: p.2.b⟩) /\ ∀ t, t ≠ i -> AN kd t p -> AN kd t (w', ⟨p.2.r, (j, v) :: p.2.b⟩) := by
 refine ⟨⟨fun h => ⟨h.1.new hb _ hf, h.2⟩, ⟨[], rfl⟩, fun _ h => List.mem_cons_of_mem _ h⟩, fun t ht h => ?_⟩
 unfold AN at *
 split
 ·rename_i s hs
  rw [hs] at h
  exact h
 ·rename_i q hq
  rw [hq] at h
  intro v' hv'
  rcases List.mem_cons.1 hv' with e | e
  ·injection e with e _
   subst e
   exact ht (akind_inj hnd hq hki)
  ·exact h v' e
 ·trivial
theorem AR.main (hnd : (kd.map (·.2)).Nodup) {s : Nat} (hki : Fl kd i = some (true, s)) {w' : World} {v : Value} (hl : p.2.r.length = s) (hJ : AJ w0 F K d p -> AJ w0 F K d (w', ⟨v :: p.2.r, p.2.b⟩)) : AR w0 F K d p (w', ⟨v :: p.2.r, p.2.b⟩) /\ ∀ t, t ≠ i -> AN kd t p -> AN kd t (w', ⟨v :: p.2.r, p.2.b⟩) := by
 refine ⟨⟨hJ, ⟨[v], rfl⟩, fun _ h => h⟩, fun t ht h => ?_⟩
 unfold AN at *
 split
 ·rename_i q hq
  rw [hq] at h
  have : q ≠ s := fun e => ht (akind_inj hnd (e ▸ hq) hki)
  show p.2.r.length + 1 <= q
  have : p.2.r.length <= q := h
  omega
 ·rename_i q hq
  rw [hq] at h
  exact h
 ·trivial
theorem AJ.start {w' : World} {v : Value} (h : AJ w0 F K d p) (h0 : p.2.r = []) (hb : Below p.1.heap.size p.1 w') (hf : (A7.own v d.e d.size (d.cnt 0) (d.cont 0)).holds p.1.heap.size w') (ht : 0 < d.top) : AJ w0 F K d (w', ⟨v :: p.2.r, p.2.b⟩) := by
 obtain ⟨w, r, b⟩ := p
 dsimp only at h0
 subst h0
 refine ⟨(h.1.new hb _ hf).permC ?_, ht⟩
 simp only [AG.F, AG.main, List.append_nil, List.append_assoc]
 exact List.perm_middle.symm
theorem AJ.row {v : Value} {post : List Value} (h : AJ w0 F K d p) (hr : p.2.r = v :: post) : p.1.ownsRow w0.heap.size d.e d.size v (d.cnt post.length) (d.cont post.length) /\ w0.heap.size <= p.1.heap.size := by
 obtain ⟨w, r, b⟩ := p
 dsimp only at hr
 subst hr
 exact ⟨h.1.holds (.own v d.e d.size (d.cnt post.length) (d.cont post.length)) (by simp [AG.F, AG.main]), h.1.size⟩
theorem AJ.next {w' : World} {v u : Value} {post : List Value} (h : AJ w0 F K d p) (hr : p.2.r = v :: post) (ho : w'.ownsRow w0.heap.size d.e d.size u (d.cnt (post.length + 1)) (d.cont (post.length + 1))) (hg : p.1.grownBy w' v.ownBlock) (hb : ∀ k, u.ownBlock = some k -> v.ownBlock = some k \/ p.1.heap.size <= k) (ht : post.length + 1 < d.top) : AJ w0 F K d (w', ⟨u :: p.2.r, p.2.b⟩) := by
 obtain ⟨w, r, b⟩ := p
 dsimp only at hr
 subst hr
 refine ⟨?_, by simp; omega⟩
 have h1 := h.1
 simp only [AG.F, AG.main, List.append_assoc] at h1
 have h2 := h1.upd b.length (f := .own v d.e d.size (d.cnt post.length) (d.cont post.length)) (by simp) (.own u d.e d.size (d.cnt (post.length + 1)) (d.cont (post.length + 1))) hg ho hb
 rw [show ((b.map fun x => d.src x.1 x.2) ++ ([A7.own v d.e d.size (d.cnt post.length) (d.cont post.length)] ++ F)).set b.length (.own u d.e d.size (d.cnt (post.length + 1)) (d.cont (post.length + 1))) = (b.map fun x => d.src x.1 x.2) ++ ([A7.own u d.e d.size (d.cnt (post.length + 1)) (d.cont (post.length + 1))] ++ F) from by
  rw [List.set_append_right _ _ (by simp)]; simp] at h2
 simpa [AG.F, AG.main, List.append_assoc] using h2
theorem AJ.side {j : Nat} {v : Value} (h : AJ w0 F K d p) (hm : (j, v) ∈ p.2.b) : (d.src j v).holds w0.heap.size p.1 :=
 h.1.holds _ (List.mem_append_left _ (List.mem_append_left _ (List.mem_map.2 ⟨_, hm, rfl⟩)))
theorem AJ.last {v : Value} {s : Nat} (h : AJ w0 F K d p) (hs : Fo p.2 s v) (ht : d.top = s + 1) : St w0 p.1 (.own v d.e d.size (d.cnt s) (d.cont s) :: F) K := by
 obtain ⟨post, h1, h2⟩ := hs.head (by have := h.2; omega)
 obtain ⟨w, r, b⟩ := p
 dsimp only at h1
 subst h1
 subst h2
 have h3 := h.1
 simp only [AG.F, AG.main, List.append_assoc] at h3
 exact h3.sub (List.sublist_append_right _ _)
variable {P : Program} {o : Oper} {a : Act} {Kt : Act -> World -> Prop} {Q : Exit -> Act -> World -> Prop}
theorem FN (hnd : (kd.map (·.2)).Nodup) (hki : Fl kd i = some (true, 0)) {t : TypeId} (ho : o.op = .buildSlice t 0 #[]) (ht : P.underlying t = some (.slice d.e)) (hb : Cd P d.e 0 [] = some #[]) (hN : AN kd i p) (h0 : d.cnt 0 = 0) (h1 : d.cont 0 = []) (hlt : 0 < d.top)
  (hK : ∀ v w', Fo w'.2 0 v -> AR w0 F K d p w' /\ (∀ j, j ≠ i -> AN kd j p -> AN kd j w') -> Kt (a.put o.dst v) w'.1) : o.wp P a p.1 Kt Q := by
 have hl : p.2.r.length <= 0 := by unfold AN at hN; rw [hki] at hN; exact hN
 have hr : p.2.r = [] := List.eq_nil_of_length_eq_zero (by omega)
 refine CX (ps := []) (cells := #[]) ho ht (by simp) hb fun w' hx hB => ?_
 refine hK _ (w', ⟨_ :: p.2.r, p.2.b⟩) ⟨[], p.2.r, rfl, by rw [hr]; rfl⟩ (AR.main hnd hki (by omega) fun hJ => hJ.start hr hB ?_ hlt)
 rw [h0, h1]
 exact ⟨by simp, .inr ⟨p.1.heap.size, 0, #[], rfl, Nat.le_refl _, hx, Nat.le_refl _, by simp [maxLen], by simp, by simp⟩⟩
theorem GF (hnd : (kd.map (·.2)).Nodup) {j : Nat} (hki : Fl kd i = some (false, j)) {t e : TypeId} {len : Nat} {parts : Array (Nat × Operand)} (ho : o.op = .buildSlice t len parts) (ht : P.underlying t = some (.slice e)) {ps : List (Nat × Value)} {cells : Array Value} (hp : (parts.map fun (i, x) => (i, a.eval x)).toList = ps) (hb : Cd P e len ps = some cells) {size : Nat} (hsrc : ∀ v, d.src j v = .own v e size len cells.toList) (hs : cells.size = len * size) (hm : len <= 1000000000000)
  (hK : ∀ v w', (j, v) ∈ w'.2.b -> AR w0 F K d p w' /\ (∀ j, j ≠ i -> AN kd j p -> AN kd j w') -> Kt (a.put o.dst v) w'.1) : o.wp P a p.1 Kt Q := by
 refine CX (ps := ps) (cells := cells) ho ht hp hb fun w' hx hB => ?_
 refine hK _ (w', ⟨p.2.r, (j, _) :: p.2.b⟩) (List.mem_cons_self ..) (AR.src hnd hki hB ?_)
 rw [hsrc]
 exact ⟨by simpa using hs, .inr ⟨p.1.heap.size, len, cells, rfl, Nat.le_refl _, hx, Nat.le_refl _, by unfold maxLen; omega, hs, by rw [<- hs, show cells.size = cells.toList.length by simp, List.take_length]⟩⟩
theorem BA (hnd : (kd.map (·.2)).Nodup) {s : Nat} (hki : Fl kd i = some (true, s + 1)) {s1 x1 : Operand} {t : TypeId} {bytes m : Nat} {news : List Value} {D : Nat -> Prop} (ho : o.op = .call { callee := .builtin .append, args := #[s1, x1], argTypes := #[t, t] }) (hT : Bn P t d.e d.size bytes) (hN : AN kd i p) (hs : Fo p.2 s (a.eval s1)) (hJ : AJ w0 F K d p)
  (hr : Sl p.1 D d.size (a.eval x1) m news) (h1 : ∀ u ∈ news, u.oneCell' = true) (hc : d.cont (s + 1) = d.cont s ++ news) (hcn : d.cnt (s + 1) = d.cnt s + m) (hb : d.cnt s + m <= 1000000000000) (hby : (d.cnt s + m) * bytes <= 140737488355328) (hlt : s + 1 < d.top)
  (hK : ∀ v w', Fo w'.2 (s + 1) v -> AR w0 F K d p w' /\ (∀ j, j ≠ i -> AN kd j p -> AN kd j w') -> Kt (a.put o.dst v) w'.1) : o.wp P a p.1 Kt Q := by
 have hl : p.2.r.length <= s + 1 := by unfold AN at hN; rw [hki] at hN; exact hN
 obtain ⟨post, e1, e2⟩ := hs.head hl
 obtain ⟨hown, hsz⟩ := hJ.row e1
 rw [e2] at hown
 refine Ei ho hT rfl hown rfl hr h1 hb hby hsz fun v' w' a1 a2 a3 => ?_
 refine hK v' (w', ⟨v' :: p.2.r, p.2.b⟩) ⟨[], p.2.r, rfl, by rw [e1, List.length_cons, e2]⟩ (AR.main hnd hki (by rw [e1, List.length_cons, e2]) fun hJ => hJ.next e1 ?_ a2 a3 (by omega))
 rw [e2, hc, hcn]
 exact a1
end
section
variable {P : Program} {o : Oper} {a : Act} {w : World} {Kt : Act -> World -> Prop} {Q : Exit -> Act -> World -> Prop}
theorem opw_slh {t e : TypeId} {x h : Operand} {A : Option Addr} {n c k : Nat} (ho : o.op = .slice t x none (some h) none) (ht : P.underlying t = some (.slice e)) (hi : ∃ size, (P.info? e).map (·.size) = some size) (hx : a.eval x = .slice A n c) (hh : a.eval h = .int .i64 (k : Nat)) (hk : k <= c)
  (hK : Kt (a.put o.dst (.slice A k c)) w) : o.wp P a w Kt Q := by
 obtain ⟨size, hi⟩ := hi
 refine CV (v := .slice A k c) ?_ hK
 cases hz : P.info? e with
 | none => rw [hz] at hi; cases hi
 | some z =>
  have hke : ((k : Nat) : Int) <= c := by omega
  have : A.map (·.add (0 * z.size)) = A := by cases A <;> simp [Addr.add]
  simp [execOp, ho, hx, hh, Instr.sliceAt, Instr.slice, run_underlying ht, Instr.sliceBounds, run_sliceBound, sizeOf, typeInfo, hz, hke, Addr.add]
theorem opw_sll {t e : TypeId} {x h : Operand} {A : Option Addr} {n c k size : Nat} (ho : o.op = .slice t x (some h) none none) (ht : P.underlying t = some (.slice e)) (hi : (P.info? e).map (·.size) = some size) (hx : a.eval x = .slice A n c) (hh : a.eval h = .int .i64 (k : Nat)) (hk : k <= n) (hn : n <= c)
  (hK : Kt (a.put o.dst (sliced A k n c size)) w) : o.wp P a w Kt Q := by
 refine CV (v := sliced A k n c size) ?_ hK
 cases hz : P.info? e with
 | none => rw [hz] at hi; cases hi
 | some z =>
  have hs : z.size = size := by simpa [hz] using hi
  have hke : ((k : Nat) : Int) <= n := by omega
  simp [execOp, ho, hx, hh, Instr.sliceAt, Instr.slice, run_underlying ht, Instr.sliceBounds, run_sliceBound, sizeOf, typeInfo, hz, hke, sliced, hs, hn]
end
section
variable {P : Program} {w : World} {t : TypeId} {k : IntKind} {m n : Int} {b : Bool}
theorem run_eqB (h : decide (m = n) = b) : (binOp .eql t (.int k m) (.int k n)).run P w = .ok (.bool b) w := by
 rw [binOp_eql, <- h]; simp [BEq.beq]
theorem run_gtB (h : decide (m > n) = b) : (binOp .gtr t (.int k m) (.int k n)).run P w = .ok (.bool b) w := by
 rw [binOp_gtr, <- h]; simp
end
theorem JJ {w : World} {D : Nat -> Prop} {size n c k : Nat} {A : Option Addr} {xs : List Value} (h : Sl w D size (.slice A n c) n xs) (hk : k <= n) : Sl w D size (.slice A k c) k (xs.take (k * size)) := by
 obtain ⟨h1, A2, c2, h2, h3, h4, h5⟩ := h
 injection h2 with h2 h6 h7
 subst h2 h7
 have hle : k * size <= n * size := Nat.mul_le_mul_right _ hk
 refine ⟨by rw [List.length_take]; omega, A, c, rfl, by omega, h4, fun hp => ?_⟩
 obtain ⟨b, o, q1, q2, q3, q4⟩ := h5 (by omega)
 refine ⟨b, o, q1, q2, q3, fun j x hj => q4 j x ?_⟩
 rw [List.getElem?_take] at hj
 split at hj
 ·exact hj
 ·cases hj
theorem JK {w : World} {D : Nat -> Prop} {size n c k : Nat} {A : Option Addr} {xs : List Value} (h : Sl w D size (.slice A n c) n xs) (hk : k <= n) : Sl w D size (sliced A k n c size) (n - k) (xs.drop (k * size)) := by
 obtain ⟨h1, A2, c2, h2, h3, h4, h5⟩ := h
 injection h2 with h2 h6 h7
 subst h2 h7
 have hle : k * size <= n * size := Nat.mul_le_mul_right _ hk
 refine ⟨by rw [List.length_drop, h1, Nat.sub_mul], _, c - k, rfl, by omega, by omega, fun hp => ?_⟩
 obtain ⟨b, o, rfl, q2, q3, q4⟩ := h5 (by omega)
 rw [if_neg (by omega)]
 refine ⟨b, o + k * size, ?_, q2, q3, fun j x hj => ?_⟩
 ·simp only [Option.map_some, Addr.add]
  split
  ·rename_i h0; rw [h0]; rfl
  ·rfl
 ·rw [List.getElem?_drop] at hj
  have := q4 _ x hj
  rw [<- Nat.add_assoc] at this
  exact this
end
section
open Go.RowKit
attribute [local go_sem ↓] Go.wp_at_zero Go.wp_at_succ
set_option maxRecDepth 20000
set_option exponentiation.threshold 5000
structure WG where
 a : Option Value
 b : Option Value
 c : Option Value
 d : Option Value
 e : Bool
def ownP (L : List (Nat × Nat)) : Option Value -> List A7
 | some v => [.own v 107 2 L.length (A6 L)]
 | none => []
def WG.F (L : List (Nat × Nat)) (x : Nat × Nat) (g : WG) : List A7 := match g.c with
 | some v => [.own v 107 2 (L.length + 1) (A6 (L ++ [x]))]
 | none => ownP L g.a ++ ownP [x] g.b
def NewP (w0 : World) (F : List A7) (K : (Nat -> Prop) -> World -> Prop) (n : Nat) (M : List (Nat × Nat)) (r : Value) (w : World) : Prop :=
 (¬ Eb M /\ r = .tuple #[.pointer none, .int .i64 16] /\ St w0 w F K) \/
 ∃ (p : Value) (L : List (Nat × Nat)), r = .tuple #[p, .int .i64 0] /\ Asc L /\ (∀ x, x ∈ L ↔ x ∈ M) /\ Eb L /\ St w0 w F fun D w => K D w /\ Ik w D p n L
theorem NewP.shape {w0 w : World} {F : List A7} {K : (Nat -> Prop) -> World -> Prop} {n : Nat} {M : List (Nat × Nat)} {r : Value} (h : NewP w0 F K n M r w) : ∃ (p : Value) (e : Int), r = .tuple #[p, .int .i64 e] := by
 rcases h with ⟨_, rfl, _⟩ | ⟨p, L, rfl, _⟩ <;> exact ⟨_, _, rfl⟩
theorem NewP.mono {w0 w : World} {F : List A7} {K K' : (Nat -> Prop) -> World -> Prop} {n : Nat} {M : List (Nat × Nat)} {r : Value} (h : NewP w0 F K n M r w) (hs : AF K') (hk : ∀ D w, K D w -> K' D w) : NewP w0 F K' n M r w := by
 rcases h with ⟨h1, h2, h3⟩ | ⟨p, L, h1, h2, h3, h4, h5⟩
 ·exact .inl ⟨h1, h2, h3.mono hs hk⟩
 ·exact .inr ⟨p, L, h1, h2, h3, h4, h5.mono (hs.and Do) fun D w h => ⟨hk D w h.1, h.2⟩⟩
theorem onew_own {w0 w : World} {F : List A7} {K : (Nat -> Prop) -> World -> Prop} (n : Nat) (L0 : List (Nat × Nat)) (pv : Value) (hn : n <= 256) (hL : Gh n L0) (hl : L0.length <= 1000000) (hS : St w0 w (.own pv 107 2 L0.length (A6 L0) :: F) K)
  (kt : ∀ D w, K D w -> Cw w /\ D 0) :
  Calls Tryz.prog 130 #[.int .i64 (n : Nat), pv] w fun e w' => ∃ v, e = .returned v /\ NewP w0 F K n L0 v w' := by
 have KS := hS.stable
 refine (onew_any n L0 pv hn hL hl (hS.freeze 0 (by decide) rfl) (fun D w h => h.2) fun D w h => kt D w h.1).mono ?_
 rintro e w' (⟨h1, rfl, h2⟩ | ⟨p, L, rfl, h1, h2, h3, h4⟩)
 ·exact ⟨_, rfl, .inl ⟨h1, rfl, h2.mono KS fun _ _ h => h.1⟩⟩
 ·exact ⟨_, rfl, .inr ⟨p, L, rfl, h1, h2, h3, h4.mono (KS.and Do) fun _ _ h => ⟨h.1.1, h.2⟩⟩⟩
section
variable {w0 : World} {F : List A7} {K : (Nat -> Prop) -> World -> Prop} {n : Nat} {L : List (Nat × Nat)} {x : Nat × Nat} {p p' : World × WG}
def WJ (w0 : World) (F : List A7) (K : (Nat -> Prop) -> World -> Prop) (n : Nat) (L : List (Nat × Nat)) (x : Nat × Nat) (p : World × WG) : Prop := match p.2.d with
 | none => St w0 p.1 (p.2.F L x ++ F) K
 | some r => NewP w0 F K n (L ++ [x]) r p.1
def WR (w0 : World) (F : List A7) (K : (Nat -> Prop) -> World -> Prop) (n : Nat) (L : List (Nat × Nat)) (x : Nat × Nat) (p p' : World × WG) : Prop :=
 (WJ w0 F K n L x p -> WJ w0 F K n L x p') /\ (∀ v, p.2.a = some v -> p'.2.a = some v) /\ (∀ v, p.2.b = some v -> p'.2.b = some v) /\ (∀ v, p.2.c = some v -> p'.2.c = some v) /\ (∀ v, p.2.d = some v -> p'.2.d = some v) /\ (p.2.e = true -> p'.2.e = true)
theorem WR.refl (p : World × WG) : WR w0 F K n L x p p := ⟨id, fun _ h => h, fun _ h => h, fun _ h => h, fun _ h => h, id⟩
theorem WR.trans (a b c : World × WG) (h : WR w0 F K n L x a b) (k : WR w0 F K n L x b c) : WR w0 F K n L x a c :=
 ⟨fun y => k.1 (h.1 y), fun g y => k.2.1 g (h.2.1 g y), fun g y => k.2.2.1 g (h.2.2.1 g y), fun g y => k.2.2.2.1 g (h.2.2.2.1 g y), fun g y => k.2.2.2.2.1 g (h.2.2.2.2.1 g y), fun y => k.2.2.2.2.2 (h.2.2.2.2.2 y)⟩
theorem WJ.st (h : WJ w0 F K n L x p) (hd : p.2.d = none) : St w0 p.1 (p.2.F L x ++ F) K := by unfold WJ at h; rw [hd] at h; exact h
theorem WJ.mk {w : World} {g : WG} (hd : g.d = none) (h : St w0 w (g.F L x ++ F) K) : WJ w0 F K n L x (w, g) := by unfold WJ; dsimp only; rw [hd]; exact h
theorem WJ.mkA {w' : World} {v : Value} (h : WJ w0 F K n L x p) (hn : p.2.a = none /\ p.2.c = none /\ p.2.d = none) (hs : St p.1 w' [.own v 107 2 L.length (A6 L)] fun _ _ => True) : WJ w0 F K n L x (w', { p.2 with a := some v }) := by
 obtain ⟨w, a, b, c, d, e⟩ := p
 obtain ⟨rfl, rfl, rfl⟩ := hn
 exact WJ.mk rfl (St.new (h.st rfl) hs.below (.own v 107 2 L.length (A6 L)) (hs.own 0 rfl))
theorem WJ.mkB {w' : World} (h : WJ w0 F K n L x p) (hn : p.2.b = none /\ p.2.c = none /\ p.2.d = none) (hb : Below p.1.heap.size p.1 w') (hx : AW w' p.1.heap.size 107 #[.int .i64 (x.1 : Nat), .int .i64 (x.2 : Nat)]) : WJ w0 F K n L x (w', { p.2 with b := some (.slice (some ⟨p.1.heap.size, 0, none⟩) 1 1) }) := by
 obtain ⟨w, a, b, c, d, e⟩ := p
 obtain ⟨rfl, rfl, rfl⟩ := hn
 have h1 := St.new (h.st rfl) hb (.own (.slice (some ⟨w.heap.size, 0, none⟩) 1 1) 107 2 [x].length (A6 [x])) ⟨rfl, .inr ⟨w.heap.size, 1, _, rfl, Nat.le_refl _, hx, Nat.le_refl _, by simp [maxLen], rfl, rfl⟩⟩
 refine WJ.mk rfl ?_
 cases a with
 | none => exact h1
 | some v => exact h1.swap
theorem WJ.mkC {w' : World} {u v l : Value} (h : WJ w0 F K n L x p) (hn : p.2.c = none /\ p.2.d = none) (ha : p.2.a = some v) (hb : p.2.b = some l) (h1 : w'.ownsRow w0.heap.size 107 2 u (L.length + 1) (A6 L ++ A6 [x])) (h2 : p.1.grownBy w' v.ownBlock) (h3 : ∀ k, u.ownBlock = some k -> v.ownBlock = some k \/ p.1.heap.size <= k) : WJ w0 F K n L x (w', { p.2 with c := some u }) := by
 obtain ⟨w, a, b, c, d, e⟩ := p
 obtain ⟨rfl, rfl⟩ := hn
 dsimp only at ha hb
 subst ha hb
 refine WJ.mk rfl ?_
 rw [<- Dc] at h1
 exact ((h.st rfl).upd 0 rfl (.own u 107 2 (L.length + 1) (A6 (L ++ [x]))) h2 h1 h3).sub (.cons_cons _ (.cons _ (List.Sublist.refl _)))
theorem WJ.own (h : WJ w0 F K n L x p) (hn : p.2.c = none /\ p.2.d = none) {v l : Value} (ha : p.2.a = some v) (hb : p.2.b = some l) : p.1.ownsRow w0.heap.size 107 2 v L.length (A6 L) /\ p.1.ownsRow w0.heap.size 107 2 l 1 (A6 [x]) /\ w0.heap.size <= p.1.heap.size := by
 obtain ⟨w, a, b, c, d, e⟩ := p
 obtain ⟨rfl, rfl⟩ := hn
 dsimp only at ha hb
 subst ha hb
 exact ⟨(h.st rfl).own 0 rfl, (h.st rfl).own 1 rfl, (h.st rfl).size⟩
theorem WJ.last (h : WJ w0 F K n L x p) (hd : p.2.d = none) {v : Value} (hc : p.2.c = some v) : St w0 p.1 (.own v 107 2 (L ++ [x]).length (A6 (L ++ [x])) :: F) K := by
 obtain ⟨w, a, b, c, d, e⟩ := p
 dsimp only at hd hc
 subst hd hc
 have := h.st rfl
 rw [List.length_append]
 exact this
end
theorem owith_any {w0 w : World} {F : List A7} {K : (Nat -> Prop) -> World -> Prop} (p : Value) (n : Nat) (L : List (Nat × Nat)) (a b : Nat) (hn : n <= 256) (hL : Gh n L) (hl : L.length <= 900000) (ha : a < n) (hb : b < n) (hS : St w0 w F K)
  (ko : ∀ D w, K D w -> Ik w D p n L) (kt : ∀ D w, K D w -> Cw w /\ D 0) :
  Calls Tryz.prog 132 #[p, .int .i64 (a : Nat), .int .i64 (b : Nat)] w fun e w' =>
   ((a, b) ∈ L /\ e = .returned (.tuple #[.pointer none, .int .i64 5]) /\ St w0 w' F K) \/ (a, b) ∉ L /\ ∃ v, e = .returned v /\ NewP w0 F K n (L ++ [(a, b)]) v w' := by
 have KS := hS.stable
 obtain ⟨q, gp, av, bv, sv, xa, xb, rfl, hX⟩ := ko _ _ hS.ro
 have hS := hS.add Fz hX fun b h _ => h
 clear hX
 have HIN := Lib.hid (fun (c : Int) (w : World) (hc : 0 <= c /\ c < (n : Int)) (h : OrdX q gp av bv sv xa xb n L (EA F) w) => show Calls Tryz.prog 184 #[.pointer (some ⟨q, 0, none⟩), .int .i64 c] w (Ax (fun x _ => x = .bool true) w) from by rw [<- decide_eq_true hc]; exact oin_any h.ord _)
 have HCN := Lib.hid (fun (w : World) (h : OrdX q gp av bv sv xa xb n L (EA F) w) => show Calls Tryz.prog 185 #[.slice (some ⟨gp, 0, none⟩) L.length L.length, .agg #[.int .i64 (a : Nat), .int .i64 (b : Nat)]] w (Ax (fun r _ => r = .bool (decide ((a, b) ∈ L))) w) from pcontains_any (by omega) h.2.1 (a, b))
 have HL := Lib.hid hL
 clear hL
 go_enter Tryz.func132, Tryz.ntmps132
 go_wp2_with (first
  | ((with_reducible refine qB ?_); refine qc ?_ ?_ <;> intro h_ <;> go_prune)
  | (go_at_call 184; refine (HIN.out _ _ (by omega) hS.ro.2).mono ?_; rintro r_ w_ ⟨_, rfl, rfl, hb_⟩; replace hS := hS.ext hb_; clear hb_)
  | ((with_reducible refine qA 23 ?_); refine E0 hS rfl _ _ rfl _ rfl _ (fun D w h => h.2.1.cell 1 rfl) (by kernel_rfl) ?_)
  | (go_at_call 185; refine (HCN.out _ hS.ro.2).mono ?_; rintro r_ w_ ⟨_, rfl, rfl, hb_⟩; replace hS := hS.ext hb_; clear hb_; by_cases hx : (a, b) ∈ L <;> (first | rw [decide_eq_true hx] | rw [decide_eq_false hx])))
 ·go_ret2
  exact .inl ⟨hx, rfl, hS.mono KS fun _ _ h => h.1⟩
 ·obtain ⟨KX, k1, k2, hS⟩ : ∃ KX : (Nat -> Prop) -> World -> Prop, (∀ D w, KX D w -> K D w) /\ (∀ D w, KX D w -> OrdX q gp av bv sv xa xb n L D w) /\ St w0 w_ F KX := ⟨_, fun _ _ h => h.1, fun _ _ h => h.2, hS⟩
  have hJ0 : WJ w0 F KX n L (a, b) (w_.drew, ⟨none, none, none, none, false⟩) := WJ.mk rfl hS.drew
  have hRr := @WR.refl w0 F KX n L (a, b)
  have hRt := @WR.trans w0 F KX n L (a, b)
  have hLx : Hid (Gh n (L ++ [(a, b)])) := Lib.hid fun y hy => by
   rcases List.mem_append.1 hy with h | h
   ·exact HL.out y h
   ·rw [List.mem_singleton] at h; subst h; exact ⟨ha, hb⟩
  replace ha := Lib.hid ha
  replace hb := Lib.hid hb
  clear HIN HCN
  refine Ed (WR w0 F KX n L (a, b)) (fun i p => match i with | 3 => p.2.e = false /\ p.2.d = none | 5 => p.2.a = none /\ p.2.c = none /\ p.2.d = none | 9 => p.2.b = none /\ p.2.c = none /\ p.2.d = none | 10 => p.2.c = none /\ p.2.d = none | 11 => p.2.d = none | _ => True) (⟨none, none, none, none, false⟩) hRr hRt [.q q 0, .q q 0, .q q 0, .s (fun v w => w.2.e = true /\ v = .int .i64 ((n : Nat) : Int)) fun v w w' h hb => ⟨hb.2.2.2.2.2 h.1, h.2⟩, .q q 0, .s (fun v w => w.2.a = some v) fun v w w' h hb => hb.2.1 _ h, .n ((a : Nat) : Int), .n ((b : Nat) : Int), .i (.agg #[.int .i64 ((a : Nat) : Int), .int .i64 ((b : Nat) : Int)]), .s (fun v w => w.2.b = some v) fun v w w' h hb => hb.2.2.1 _ h, .s (fun v w => w.2.c = some v) fun v w w' h hb => hb.2.2.2.1 _ h, .s (fun v w => w.2.d = some v /\ ∃ (p : Value) (e : Int), v = .tuple #[p, .int .i64 e]) fun v w w' h hb => ⟨hb.2.2.2.2.1 _ h.1, h.2⟩, .s (fun v w => ∃ (p : Value) (e : Int), w.2.d = some (.tuple #[p, .int .i64 e]) /\ v = p) fun v w w' h hb => by obtain ⟨p, e, h1, h2⟩ := h; exact ⟨p, e, hb.2.2.2.2.1 _ h1, h2⟩, .s (fun v w => ∃ (p : Value) (e : Int), w.2.d = some (.tuple #[p, .int .i64 e]) /\ v = .int .i64 e) fun v w w' h hb => by obtain ⟨p, e, h1, h2⟩ := h; exact ⟨p, e, hb.2.2.2.2.1 _ h1, h2⟩, .s (fun v w => ∃ (p : Value) (e : Int), w.2.d = some (.tuple #[p, .int .i64 e]) /\ v = p) fun v w w' h hb => by obtain ⟨p, e, h1, h2⟩ := h; exact ⟨p, e, hb.2.2.2.2.1 _ h1, h2⟩, .s (fun v w => ∃ (p : Value) (e : Int), w.2.d = some (.tuple #[p, .int .i64 e]) /\ v = .int .i64 e) fun v w w' h hb => by obtain ⟨p, e, h1, h2⟩ := h; exact ⟨p, e, hb.2.2.2.2.1 _ h1, h2⟩] ?_ ⟨uM, uN, uF, ?_, uM, ?_, uM, uM, ?_, ?_, ?_, ?_, ?_, ?_, uA, uA, trivial⟩ ?_
  ·first | assumption | (intro i; (try dsimp only); split <;> first | trivial | assumption | (left; assumption))
  ·refine uG fun b__ w hW hN hE K hK => ?_
   have e30 := hE 30
   exact Ad rfl e30 (by kernel_rfl) ((k2 _ _ ((hW.1 hJ0).st hN.2).ro).1.cell 0 rfl) (hK (.int .i64 (n : Nat)) (w.1, { w.2 with e := true }) ⟨rfl, rfl⟩ ⟨⟨fun hj => hj, (fun _ h => h), (fun _ h => h), (fun _ h => h), (fun _ h => h), (fun _ => rfl)⟩, fun j hj hn => by split <;> first | exact absurd rfl hj | exact hn | trivial⟩)
  ·refine uG fun b__ w hW hN hE K hK => ?_
   have e32 := hE 32
   exact Bz rfl (by kernel_rfl) (by simp only [List.map_cons, List.map_nil, e32]) (Kg (k2 _ _ ((hW.1 hJ0).st hN.2.2).ro).ord (by omega)) fun e w' ⟨v, he, hs⟩ => ⟨v, he, hK v (w', { w.2 with a := some v }) rfl ⟨⟨fun hj => hj.mkA hN hs, (fun g h => by rw [hN.1] at h; cases h), (fun _ h => h), (fun _ h => h), (fun _ h => h), id⟩, fun j hj hn => by split <;> first | exact absurd rfl hj | exact hn | trivial⟩⟩
  ·refine uG fun b__ w hW hN hE K hK => ?_
   have e34 := hE 34
   have e35 := hE 35
   exact Ch rfl (ps := [(0, .int .i64 ((a : Nat) : Int)), (1, .int .i64 ((b : Nat) : Int))]) (cells := #[.int .i64 ((a : Nat) : Int), .int .i64 ((b : Nat) : Int)]) (by simp [e34, e35]) (by kernel_rfl) (hK _ _ rfl ⟨hRr _, fun _ _ h => h⟩)
  ·refine uG fun b__ w hW hN hE K hK => ?_
   have e36 := hE 36
   exact CX rfl Tryz.underlying25 (ps := [(0, .agg #[.int .i64 ((a : Nat) : Int), .int .i64 ((b : Nat) : Int)])]) (cells := #[.int .i64 ((a : Nat) : Int), .int .i64 ((b : Nat) : Int)]) (by simp [e36]) (by kernel_rfl) fun w' hbx hbel => hK _ (w', { w.2 with b := some (.slice (some ⟨w.1.heap.size, 0, none⟩) 1 1) }) rfl ⟨⟨fun hj => hj.mkB hN hbel hbx, (fun _ h => h), (fun g h => by rw [hN.1] at h; cases h), (fun _ h => h), (fun _ h => h), id⟩, fun j hj hn => by split <;> first | exact absurd rfl hj | exact hn | trivial⟩
  ·refine uG fun b__ w hW hN hE K hK => ?_
   have e33 := hE 33
   have e37 := hE 37
   obtain ⟨o1, o2, o3⟩ := (hW.1 hJ0).own hN e33 e37
   exact Ei (n := L.length) (m := 1) rfl Cx rfl o1 rfl (Sl.of_own o2) (BL _) (by omega) (by omega) o3 fun v' w' a1 a2 a3 => hK v' (w', { w.2 with c := some v' }) rfl ⟨⟨fun hj => hj.mkC hN e33 e37 a1 a2 a3, (fun _ h => h), (fun _ h => h), (fun g h => by rw [hN.1] at h; cases h), (fun _ h => h), id⟩, fun j hj hn => by split <;> first | exact absurd rfl hj | exact hn | exact absurd (hn.1.symm.trans e33) nofun | exact absurd (hn.1.symm.trans e37) nofun | trivial⟩
  ·refine uG fun b__ w hW hN hE K hK => ?_
   have e31 := hE 31
   have e38 := hE 38
   refine Bz rfl (by kernel_rfl) (by simp only [List.map_cons, List.map_nil, e31.2]) (onew_own n (L ++ [(a, b)]) _ hn hLx.out (by simp; omega) ((hW.1 hJ0).last hN e38) (fun D w h => kt D w (k1 D w h))) fun e w' h => ?_
   obtain ⟨v, he, hP⟩ := h
   exact ⟨v, he, hK v (w', { w.2 with d := some v }) ⟨rfl, hP.shape⟩ ⟨⟨fun _ => hP, (fun _ h => h), (fun _ h => h), (fun _ h => h), (fun g h => by rw [hN] at h; cases h), id⟩, fun j hj hn => by split <;> first | exact absurd rfl hj | exact hn | exact absurd (hn.1.symm.trans e31.1) nofun | exact absurd (hn.2.1.symm.trans e38) nofun | exact absurd (hn.1.symm.trans e38) nofun | trivial⟩⟩
  ·refine uG fun b__ w hW hN hE K hK => ?_
   have e39 := hE 39
   obtain ⟨hd, p, e, hv⟩ := e39
   rw [hv] at hd
   exact J0 rfl hv rfl (hK _ _ ⟨p, e, hd, rfl⟩ ⟨hRr _, fun _ _ h => h⟩)
  ·refine uG fun b__ w hW hN hE K hK => ?_
   have e39 := hE 39
   obtain ⟨hd, p, e, hv⟩ := e39
   rw [hv] at hd
   exact J0 rfl hv rfl (hK _ _ ⟨p, e, hd, rfl⟩ ⟨hRr _, fun _ _ h => h⟩)
  ·intro vs wz hW hT
   obtain ⟨e28, e29, e30, e31, e32, e33, e34, e35, e36, e37, e38, e39, e40, e41, e6, e7, -⟩ := hT
   have bx : (fun _ : Nat => True) 0 := trivial
   simp only [AL, Act.put, zz, ze]
   obtain ⟨r1, z1, hd1, e6⟩ := e6
   obtain ⟨r2, z2, hd2, e7⟩ := e7
   rw [hd1] at hd2
   obtain ⟨rfl, rfl⟩ : r1 = r2 /\ z1 = z2 := by simpa using hd2
   have hJ := hW.1 hJ0
   unfold WJ at hJ
   rw [hd1] at hJ
   have hP := hJ.mono KS k1
   rw [e6, e7]
   generalize wz.1 = wf at *
   clear hJ hJ0 hRr hRt hW hd1 hd2 e6 e7
   go_wp2_with fail
   go_ret2
   exact ⟨_, rfl, hP⟩
end
section
open Go.RowKit
structure TInvS (ops : Array Oper) (T : Nat -> Value -> World -> Prop) (sk : List Nat) (a0 : Act) (W : World) (listed : Array Bool) (a : Act) (w : World) : Prop where
 bel : Below W.heap.size W w
 defers : a.defers = a0.defers
 size : a.tmps.size = a0.tmps.size
 old : ∀ t, (∀ (i : Nat) (o : Oper), sk.contains i = false -> ops[i]? = some o -> o.dst ≠ some t) -> a.tmps.getD t undef = a0.tmps.getD t undef
 typ : ∀ (i : Nat) (o : Oper) (d : Tmp), ops[i]? = some o -> listed.getD i false = true -> o.dst = some d -> T i (a.tmps.getD d undef) w
def TRuleS (P : Program) (ops : Array Oper) (T : Nat -> Value -> World -> Prop) (sk : List Nat) (a0 : Act) (W : World) (Q : Exit -> Act -> World -> Prop) (i : Nat) (o : Oper) : Prop :=
 ∀ a w, Below W.heap.size W w -> (∀ t, (∀ (i : Nat) (o : Oper), sk.contains i = false -> ops[i]? = some o -> o.dst ≠ some t) -> a.tmps.getD t undef = a0.tmps.getD t undef) ->
  (∀ e ∈ o.after, Region.binds .any e = true -> ∀ (oj : Oper) (d : Tmp), ops[e.on]? = some oj -> oj.dst = some d -> T e.on (a.tmps.getD d undef) w) ->
  (Region.wanted o (yielded ops a.tmps) = true -> ∀ K : Act -> World -> Prop, (∀ v w', T i v w' -> Below w.heap.size w w' -> K (a.put o.dst v) w') -> o.wp P a w K Q) /\
  (Region.wanted o (yielded ops a.tmps) = false -> T i undef w)
def Ki (ops : Array Oper) (sk : List Nat) (t : Tmp) : Bool := (List.range ops.size).all fun i => sk.contains i || match ops[i]? with | some o => o.dst != some t | none => true
theorem J1 {ops : Array Oper} {sk : List Nat} {t : Tmp} (h : Ki ops sk t = true) (i : Nat) (o : Oper) (hs : sk.contains i = false) (ho : ops[i]? = some o) : o.dst ≠ some t := by
 have h1 := (List.all_eq_true.1 h) i (by simpa using (Array.getElem?_eq_some_iff.1 ho).1)
 simpa only [hs, ho, Bool.false_or, bne_iff_ne] using h1
theorem noDstS_of {ops : Array Oper} {sk : List Nat} {t : Tmp} (h : DC ops t = true) : Ki ops sk t = true := by
 rw [Ki, List.all_eq_true]
 intro i hi
 rw [Bool.or_eq_true]; right
 cases ho : ops[i]? with
 | none => rfl
 | some o => simpa using BM h i o ho
section
variable {P : Program} {ops : Array Oper} {T : Nat -> Value -> World -> Prop} {a0 : Act} {W : World} {Q : Exit -> Act -> World -> Prop}
theorem GS {t : Nat} {r : List Nat} {o1 : Oper} (h1 : ops[t]? = some o1) (hc1 : Fw ops (t :: r) o1 = true) (hch : Cq ops t r = true) (htr : r.contains t = false)
  (hmono : ∀ i v w w', T i v w -> Below w.heap.size w w' -> T i v w') (hk : tOk ops a0.tmps.size = true) (hr : ∀ i o, (t :: r).contains i = false -> ops[i]? = some o -> TRuleS P ops T (t :: r) a0 W Q i o)
  (hpost : ∀ (b : Act) (w : World), Below W.heap.size W w -> b.defers = a0.defers -> b.tmps.size = a0.tmps.size -> (∀ s, (∀ (i : Nat) (o : Oper), (t :: r).contains i = false -> ops[i]? = some o -> o.dst ≠ some s) -> b.tmps.getD s undef = a0.tmps.getD s undef) ->
   (∀ (i : Nat) (o : Oper) (d : Tmp), (t :: r).contains i = false -> ops[i]? = some o -> o.dst = some d -> T i (b.tmps.getD d undef) w) -> CO P ops Q (t :: r) b w) :
  ∀ (fuel : Nat) (listed : Array Bool) (b : Act) (w : World), listed.size = ops.size -> (∀ i ∈ t :: r, listed.getD i true = false) -> Bp ops listed <= fuel -> DN ops listed -> TInvS ops T (t :: r) a0 W listed b w -> wpAny P .any ops Q fuel listed b w := by
 simp only [Fw, Bool.and_eq_true] at hc1
 obtain ⟨hguard1, hcov1⟩ := hc1
 have htlt := (Array.getElem?_eq_some_iff.1 h1).1
 intro fuel
 induction fuel with
 | zero =>
  intro listed b w hsz hin hu hcl hI
  exfalso
  have := AC (ops := ops) (i := t) htlt (hin t List.mem_cons_self)
  omega
 | succ fuel ih =>
  intro listed b w hsz hin hu hcl hI
  refine ⟨fun h => ?_, fun i hi => ?_⟩
  ·exfalso
   have := Dh hk h t htlt
   rw [hin t List.mem_cons_self] at this
   cases this
  rw [mem_ready] at hi
  obtain ⟨h0, o, ho, haf⟩ := hi
  have hlt := (Array.getElem?_eq_some_iff.1 ho).1
  by_cases hir : i ∈ r
  ·exfalso
   obtain ⟨p, hp, o', ho', _, e, he, hb, hep⟩ := C0 r t hch i hir
   obtain rfl : o = o' := by rw [ho] at ho'; exact Option.some.inj ho'
   have := Fb (haf e he hb)
   rw [hep, hin p (by rcases hp with rfl | hp; exact List.mem_cons_self; exact List.mem_cons_of_mem _ hp)] at this
   cases this
  by_cases hit : i = t
  ·subst hit
   obtain rfl : o = o1 := by rw [h1] at ho; exact (Option.some.inj ho).symm
   have hall : ∀ j, j < ops.size -> (i :: r).contains j = false -> listed.getD j false = true := by
    intro j hj hne
    have h3 := (List.all_eq_true.1 hcov1) j (by simpa using hj)
    simp only [Bool.or_eq_true, hne, Bool.false_eq_true, false_or] at h3
    exact D6 hcl _ o j h3 haf
   have hw : Region.wanted o (yielded ops b.tmps) = true := CR (by cases hg : o.guard with | none => rfl | some x => simp [hg] at hguard1)
   unfold wpOp
   simp only [ho, hw, if_true]
   refine .inl (Oper.wp_mono (fun b1 w1 hq => ?_) (hpost b w hI.bel hI.defers hI.size hI.old (fun j oj d hj hoj hd => hI.typ j oj d hoj (hall j (Array.getElem?_eq_some_iff.1 hoj).1 hj) hd) o ho))
   have hrlen : r.length <= fuel := by
    -- the tail is not listed
    have key : ∀ (l : List Nat) (ls : Array Bool), l.Nodup -> (∀ x ∈ l, x < ops.size /\ ls.getD x true = false) -> l.length <= Bp ops ls := by
     intro l
     induction l with
     | nil => intro _ _ _; exact Nat.zero_le _
     | cons x l ih2 =>
      intro ls hnd hx
      have q1 := AC (ops := ops) (hx x List.mem_cons_self).1 (hx x List.mem_cons_self).2
      have q2 := ih2 (ls.setIfInBounds x true) (List.nodup_cons.1 hnd).2 (fun y hy => ⟨(hx y (List.mem_cons_of_mem _ hy)).1, by rw [getD_set_ne true (by rintro rfl; exact (List.nodup_cons.1 hnd).1 hy)]; exact (hx y (List.mem_cons_of_mem _ hy)).2⟩)
      simp; omega
    have hnd : ∀ (r : List Nat) (t : Nat), Cq ops t r = true -> r.Nodup := by
     intro r
     induction r with
     | nil => intro _ _; exact List.nodup_nil
     | cons u r ih2 =>
      intro t h
      simp only [Cq, Bool.and_eq_true] at h
      exact List.nodup_cons.2 ⟨by simpa using h.1.2, ih2 u h.2⟩
    have q1 := AC (ops := ops) hlt h0
    have q2 := key r (listed.setIfInBounds i true) (hnd r i hch) (fun x hx => ⟨by
     obtain ⟨_, _, o', ho', _⟩ := C0 r i hch x hx
     exact (Array.getElem?_eq_some_iff.1 ho').1, by
     have : x ≠ i := fun e => hir (e ▸ hx)
     rw [getD_set_ne true (Ne.symm this)]; exact hin x (List.mem_cons_of_mem _ hx)⟩)
    omega
   refine Gv hk r i fuel _ b1 w1 (by simpa using hsz) hch (fun j hj hn => EW ?_) (fun j hj => ?_) hrlen hq
   ·by_cases e : j = i
    ·exact .inl e
    ·exact .inr (Fb (hall j hj (by simp [e, hn])))
   ·have : j ≠ i := fun e => hir (e ▸ hj)
    rw [getD_set_ne true (Ne.symm this)]
    exact hin j (List.mem_cons_of_mem _ hj)
  ·have hnt : (t :: r).contains i = false := by simp [hit, hir]
   have hdst := Ee hk ho
   have hrule := hr i o hnt ho b w hI.bel hI.old (fun e he hbd oj d hoj hd => hI.typ e.on oj d hoj (haf e he hbd) hd)
   have hcl' : DN ops (listed.setIfInBounds i true) := by
    intro j oj hj hlj e he hb
    by_cases e2 : j = i
    ·subst e2
     obtain rfl : oj = o := by rw [ho] at hj; exact (Option.some.inj hj).symm
     exact getD_set_true (haf e he hb)
    ·rw [getD_set_ne false (Ne.symm e2)] at hlj
     exact getD_set_true (hcl j oj hj hlj e he hb)
   have next : ∀ v w', T i v w' -> Below w.heap.size w w' -> wpAny P .any ops Q fuel (listed.setIfInBounds i true) (b.put o.dst v) w' := by
    intro v w' hT hb
    refine ih _ _ _ (by simpa using hsz) (fun j hj => by
     have : j ≠ i := fun e => by subst e; simp at hj; rcases hj with e | e; exact hit e; exact hir e
     rw [getD_set_ne true (Ne.symm this)]; exact hin j hj) (by have := AC (ops := ops) hlt h0; omega) hcl' ⟨hI.bel.trans (hb.mono hI.bel.size), ?_, ?_, ?_, ?_⟩
    ·rw [<- hI.defers]; cases o.dst <;> rfl
    ·rw [<- hI.size]; cases o.dst <;> simp [Act.put]
    ·intro t ht
     rw [<- hI.old t ht]
     have h2 := ht i o hnt ho
     cases hd : o.dst with
     | none => rfl
     | some d =>
      have : d ≠ t := fun e => h2 (by rw [hd, e])
      simp [Act.put, Array.getElem?_setIfInBounds_ne this]
    ·intro j oj d hj hlj hdj
     by_cases e : j = i
     ·subst e
      obtain rfl : oj = o := by rw [ho] at hj; exact (Option.some.inj hj).symm
      have hd1 := hdst.1 d hdj
      rw [hdj]
      have hlt2 : d < b.tmps.size := by rw [hI.size]; exact hd1
      simpa [Act.put, hlt2] using hT
     ·have hlj' : listed.getD j false = true := by rwa [getD_set_ne false (Ne.symm e)] at hlj
      have h3 := hmono j _ w w' (hI.typ j oj d hj hlj' hdj) hb
      have h4 : (b.put o.dst v).tmps.getD d undef = b.tmps.getD d undef := by
       cases hd : o.dst with
       | none => rfl
       | some d' =>
        have : d' ≠ d := fun e2 => hdst.2.2 j oj d' e hj hd (by rw [hdj, e2])
        simp [Act.put, Array.getElem?_setIfInBounds_ne this]
      rw [h4]; exact h3
   unfold wpOp
   simp only [ho]
   split
   ·rename_i hw
    exact .inl (hrule.1 hw _ next)
   ·rename_i hw
    exact next undef w (hrule.2 (by simpa using hw)) (Below.refl _ _)
def Ge (P : Program) (ops : Array Oper) (T : Nat -> Value -> World -> Prop) (a0 : Act) (W : World) (Q : Exit -> Act -> World -> Prop) (skip : List Nat) : Nat -> List Oper -> Prop
 | _, [] => True
 | i, o :: r => (skip.contains i = true \/ TRuleS P ops T skip a0 W Q i o) /\ Ge P ops T a0 W Q skip (i + 1) r
theorem Ge.at {skip : List Nat} : ∀ (l : List Oper) (k : Nat), Ge P ops T a0 W Q skip k l -> ∀ i o, l[i]? = some o -> skip.contains (k + i) = true \/ TRuleS P ops T skip a0 W Q (k + i) o
 | [], _, _, i, o, h => by simp at h
 | x :: r, k, hr, 0, o, h => by simp at h; subst h; exact hr.1
 | x :: r, k, hr, i + 1, o, h => by
  have := Ge.at r (k + 1) hr.2 i o (by simpa using h)
  rwa [show k + 1 + i = k + (i + 1) by omega] at this
theorem Jd {id : Nat} {a : Act} (T : Nat -> Value -> World -> Prop) (t : Nat) (r : List Nat) (hm : P.follows .mixedOrders = true)
  (hc1 : (match ops[t]? with | some o => Fw ops (t :: r) o | none => false) = true) (hch : Cq ops t r = true) (htr : r.contains t = false)
  (hk : tOk ops a.tmps.size = true) (hmono : ∀ i v w w', T i v w -> Below w.heap.size w w' -> T i v w') (hr : Ge P ops T a W.drew Q (t :: r) 0 ops.toList)
  (hpost : ∀ (b : Act) (w : World), Below W.heap.size W w -> b.defers = a.defers -> b.tmps.size = a.tmps.size -> (∀ s, Ki ops (t :: r) s = true -> b.tmps.getD s undef = a.tmps.getD s undef) ->
   (∀ (i : Nat) (o : Oper) (d : Tmp), (t :: r).contains i = false -> ops[i]? = some o -> o.dst = some d -> T i (b.tmps.getD d undef) w) -> CO P ops Q (t :: r) b w) : (Code.region id ops true).wp P Q a W := by
 refine wp_region_any hm ?_
 cases h1 : ops[t]? with
 | none => simp [h1] at hc1
 | some o1 =>
  simp only [h1] at hc1
  refine GS (T := T) (W := W.drew) (a0 := a) h1 hc1 hch htr hmono hk (fun i o a1 a2 => ?_) (fun b w h1 h2 h3 h4 h5 => hpost b w (Bl h1) h2 h3 (fun s hs => h4 s (J1 hs)) h5) _ _ _ _ (by simp) (fun i hi => ?_) ?_ ?_ ⟨Below.refl _ _, rfl, rfl, fun _ _ => rfl, fun i o d ho hl _ => ?_⟩
  ·have := Ge.at ops.toList 0 hr i o (by simpa using a2)
   rw [Nat.zero_add] at this
   rcases this with h | h
   ·rw [a1] at h; cases h
   ·exact h
  ·have : i < ops.size := by
    rcases List.mem_cons.1 hi with rfl | hi
    ·exact (Array.getElem?_eq_some_iff.1 h1).1
    ·obtain ⟨_, _, o', ho', _⟩ := C0 r t hch i hi
     exact (Array.getElem?_eq_some_iff.1 ho').1
   simp [this]
  ·unfold Bp; exact Nat.le_trans (List.length_filter_le _ _) (by simp)
  ·intro i o ho hl e he hb
   exfalso
   have hlt := (Array.getElem?_eq_some_iff.1 ho).1
   simp [hlt] at hl
  ·exfalso
   have hlt := (Array.getElem?_eq_some_iff.1 ho).1
   simp [hlt] at hl
theorem Bo {a : Act} {o : Oper} {sk : List Nat} {i : Nat}
  (h : ∀ (b : Act) (w : World), Below W.heap.size W w -> (∀ t, Ki ops sk t = true -> b.eval (.tmp t) = a.eval (.tmp t)) ->
   (∀ e ∈ o.after, Region.binds .any e = true -> ∀ (oj : Oper) (d : Tmp), ops[e.on]? = some oj -> oj.dst = some d -> T e.on (b.eval (.tmp d)) w) ->
   (Region.wanted o (yielded ops b.tmps) = true -> ∀ K : Act -> World -> Prop, (∀ v w', T i v w' -> Below w.heap.size w w' -> K (b.put o.dst v) w') -> o.wp P b w K Q) /\ (Region.wanted o (yielded ops b.tmps) = false -> T i undef w)) :
  TRuleS P ops T sk a W Q i o := fun b w h1 h2 h3 => h b w h1 (fun t ht => h2 t (J1 ht)) h3
end
end
section
open Go.RowKit
attribute [local go_sem ↓] Go.wp_at_zero Go.wp_at_succ
set_option maxRecDepth 20000
set_option exponentiation.threshold 5000
theorem EI (r : Int) (w : World) : Calls Tryz.prog 131 #[.int .i64 r] w (Ax (fun x _ => x = .bool (decide (1 <= r /\ r <= 63))) w) := by
 by_cases h1 : 1 <= r
 ·by_cases h2 : r <= 63
  ·have HR := Lib.hid (show decide (1 <= r /\ r <= 63) = true by simp [h1, h2])
   generalize decide (1 <= r /\ r <= 63) = R at *
   go_enter Tryz.func131, Tryz.ntmps131
   go_wp2_with (first | ((with_reducible refine qB ?_); refine qc ?_ ?_ <;> intro h_ <;> go_prune))
   go_ret
   exact Ax.mk (congrArg Value.bool HR.out.symm) (Below.refl _ _)
  ·have HR := Lib.hid (show decide (1 <= r /\ r <= 63) = false by simp [h2])
   generalize decide (1 <= r /\ r <= 63) = R at *
   go_enter Tryz.func131, Tryz.ntmps131
   go_wp2_with (first | ((with_reducible refine qB ?_); refine qc ?_ ?_ <;> intro h_ <;> go_prune))
   go_ret
   exact Ax.mk (congrArg Value.bool HR.out.symm) (Below.refl _ _)
 ·have HR := Lib.hid (show decide (1 <= r /\ r <= 63) = false by simp [h1])
  generalize decide (1 <= r /\ r <= 63) = R at *
  go_enter Tryz.func131, Tryz.ntmps131
  go_wp2_with (first | ((with_reducible refine qB ?_); refine qc ?_ ?_ <;> intro h_ <;> go_prune))
  go_ret
  exact Ax.mk (congrArg Value.bool HR.out.symm) (Below.refl _ _)
def HierX (q : Nat) (o : Value) (L : List (Nat × Nat)) (D : Nat -> Prop) (w : World) : Prop := CH w D q #[o] /\ Ik w D o 64 L
theorem DJ {q : Nat} {o : Value} {L : List (Nat × Nat)} : AF (HierX q o L) := Be.and Do
def Il (w : World) (D : Nat -> Prop) (p : Value) (L : List (Nat × Nat)) : Prop := ∃ (q : Nat) (o : Value), p = .pointer (some ⟨q, 0, none⟩) /\ HierX q o L D w
theorem CJ {p : Value} {L : List (Nat × Nat)} : AF fun D w => Il w D p L := fun D D' w w' h a b c => by
 obtain ⟨q, o, h1, h2⟩ := h
 exact ⟨q, o, h1, DJ D D' w w' h2 a b c⟩
structure Gi (L : List (Nat × Nat)) : Prop where
 asc : Asc L
 role : ∀ x ∈ L, (1 <= x.1 /\ x.1 < 64) /\ 1 <= x.2 /\ x.2 < 64
 acyc : Eb L
theorem Gi.inr {L : List (Nat × Nat)} (h : Gi L) : Gh 64 L := fun x hx => ⟨(h.role x hx).1.2, (h.role x hx).2.2⟩
theorem Gi.nil : Gi [] := ⟨.nil, by simp, fun a h => by obtain ⟨y, h, _⟩ := h.first; simp at h⟩
theorem hnew_any {w0 w : World} {F : List A7} {K : (Nat -> Prop) -> World -> Prop} (hS : St w0 w F K) (kt : ∀ D w, K D w -> Cw w /\ D 0) :
  Calls Tryz.prog 59 #[] w fun e w' => ∃ p, e = .returned p /\ St w0 w' F fun D w => K D w /\ Il w D p [] := by
 have KS := hS.stable
 have HN := Lib.hid (onew_any 64 [] (.slice none 0 0) (by omega) (by intro x hx; simp at hx) (by simp) hS (fun D w _ => ⟨rfl, none, 0, rfl, by simp, by simp, fun h => by simp at h⟩) kt)
 clear hS
 go_enter Tryz.func59, Tryz.ntmps59
 go_wp2_with (first
  | (go_at_call 130; refine HN.out.mono ?_; rintro e w_ (⟨h1, -, -⟩ | ⟨p, L, rfl, hA, hm, hc, hS⟩); · exact absurd Gi.nil.acyc h1
     obtain rfl : L = [] := by
       cases L with
       | nil => rfl
       | cons x r => exact absurd ((hm x).1 (by simp)) (by simp)
     clear hA hm hc
     obtain ⟨qo, _, _, _, _, _, _, rfl, -⟩ := hS.ro.2)
  | ((with_reducible refine qA 9 ?_); refine AH hS rfl _ _ rfl (.agg #[.pointer (some ⟨qo, 0, none⟩)]) _ rfl rfl ?_; clear hS; intro q w_ hS; (try simp only [Act.put, Act.eval, zz, Value.cells] at hS)))
 go_ret
 exact ⟨_, rfl, (hS.sealB 0 (by simp) rfl).mono (KS.and CJ) fun D w h => ⟨h.1.1, q, _, rfl, h.2, h.1.2⟩⟩
theorem Kn {w0 : World} {D : Nat -> Prop} {p : Value} {L : List (Nat × Nat)} (h : Il w0 D p L) (hl : L.length <= 1000000) : Calls Tryz.prog 96 #[p] w0 fun e w' => ∃ v, e = .returned v /\ St w0 w' [.own v 107 2 L.length (A6 L)] fun _ _ => True := by
 obtain ⟨q, o, rfl, hb, ho⟩ := h
 have k0 := Lib.hid (hb.cell 0 (x := o) rfl)
 have HC := Lib.hid (Kg ho hl)
 clear hb ho
 go_enter Tryz.func96, Tryz.ntmps96
 go_wp2_with (first
  | ((with_reducible refine qB ?_); refine qc ?_ ?_ <;> intro h_ <;> go_prune)
  | ((with_reducible refine qK ?_); refine BigFrame.wpList_want rfl fun _ hK => Ad rfl rfl (by kernel_rfl) k0.out (hK _ _ ?_))
  | (go_at_call 153; refine HC.out.mono ?_; rintro e w_ ⟨v, rfl, hS⟩))
 go_ret
 exact ⟨v, rfl, hS⟩
def LinkP (w0 : World) (F : List A7) (K : (Nat -> Prop) -> World -> Prop) (L : List (Nat × Nat)) (a b : Int) (r : Value) (z : Int) (w : World) : Prop :=
 (¬ ((1 <= a /\ a <= 63) /\ (1 <= b /\ b <= 63) /\ a ≠ b) /\ r = .pointer none /\ z = 1 /\ St w0 w F K) \/
 ∃ x y : Nat, a = (x : Int) /\ b = (y : Int) /\ (1 <= x /\ x < 64) /\ (1 <= y /\ y < 64) /\ x ≠ y /\
  (((x, y) ∈ L /\ r = .pointer none /\ z = 5 /\ St w0 w F K) \/ ((x, y) ∉ L /\ ¬ Eb (L ++ [(x, y)]) /\ r = .pointer none /\ z = 16 /\ St w0 w F K) \/
   ((x, y) ∉ L /\ z = 0 /\ ∃ L' : List (Nat × Nat), Gi L' /\ (∀ u, u ∈ L' ↔ u ∈ L ++ [(x, y)]) /\ St w0 w F fun D w => K D w /\ Il w D r L'))
theorem hlink_any {w0 w : World} {F : List A7} {K : (Nat -> Prop) -> World -> Prop} (p : Value) (L : List (Nat × Nat)) (a b : Int) (hH : Gi L) (hl : L.length <= 900000) (hS : St w0 w F K)
  (ko : ∀ D w, K D w -> Il w D p L) (kt : ∀ D w, K D w -> Cw w /\ D 0) :
  Calls Tryz.prog 60 #[p, .int .i64 a, .int .i64 b] w fun e w' => ∃ (r : Value) (z : Int), e = .returned (.tuple #[r, .int .i64 z]) /\ LinkP w0 F K L a b r z w' := by
 have KS := hS.stable
 obtain ⟨q, o, rfl, hX⟩ := ko _ _ hS.ro
 have hS := hS.add DJ hX fun b h _ => h
 clear hX
 have HH := Lib.hid hH
 clear hH
 by_cases hra : 1 <= a /\ a <= 63
 ·have HRA := Lib.hid (decide_eq_true hra)
  by_cases hrb : 1 <= b /\ b <= 63
  ·have HRB := Lib.hid (decide_eq_true hrb)
   by_cases hab : a = b
   ·subst hab
    have HNO : Hid (¬ ((1 <= a /\ a <= 63) /\ (1 <= a /\ a <= 63) /\ a ≠ a)) := Lib.hid fun h => h.2.2 rfl
    clear hra hrb
    go_enter Tryz.func60, Tryz.ntmps60
    go_wp2_with (first
     | ((with_reducible refine qB ?_); refine qc ?_ ?_ <;> intro h_ <;> go_prune)
     | (go_at_call 131; refine (EI _ _).mono ?_; (first | rw [HRA.out] | rw [HRB.out]); rintro r_ w_ ⟨_, rfl, rfl, hb_⟩; replace hS := hS.ext hb_; clear hb_))
    go_ret2
    exact ⟨_, _, rfl, .inl ⟨HNO.out, rfl, rfl, hS.mono KS fun _ _ h => h.1⟩⟩
   ·obtain ⟨x, rfl⟩ : ∃ x : Nat, a = (x : Int) := ⟨a.toNat, by omega⟩
    obtain ⟨y, rfl⟩ : ∃ y : Nat, b = (y : Int) := ⟨b.toNat, by omega⟩
    have hx1 : Hid (1 <= x /\ x < 64) := Lib.hid (by omega)
    have hy1 : Hid (1 <= y /\ y < 64) := Lib.hid (by omega)
    have hxy : Hid (x ≠ y) := Lib.hid (by omega)
    clear hra hrb
    have HW := Lib.hid (fun (w : World) (h : St w0 w F fun D w => K D w /\ HierX q o L D w) => owith_any o 64 L x y (by omega) HH.out.inr hl hx1.out.2 hy1.out.2 h (fun D w h => h.2.2) (fun D w h => kt D w h.1))
    go_enter Tryz.func60, Tryz.ntmps60
    go_wp2_with (first
     | ((with_reducible refine qB ?_); refine qc ?_ ?_ <;> intro h_ <;> go_prune)
     | (go_at_call 131; refine (EI _ _).mono ?_; (first | rw [HRA.out] | rw [HRB.out]); rintro r_ w_ ⟨_, rfl, rfl, hb_⟩; replace hS := hS.ext hb_; clear hb_)
     | ((with_reducible refine qK ?_); refine E0 hS rfl _ _ rfl _ rfl _ (fun D w h => h.2.1.cell 0 rfl) (by kernel_rfl) ?_)
     | (go_at_call 132; refine (HW.out _ hS).mono ?_; rintro e w_ (⟨hm, rfl, hS⟩ | ⟨hm, v, rfl, (⟨hc, rfl, hS⟩ | ⟨pp, L', rfl, hA, hmm, hc, hS⟩)⟩) <;> (try obtain ⟨qo, _, _, _, _, _, _, rfl, -⟩ := hS.ro.2))
     | ((with_reducible refine qA 42 ?_); refine AH hS rfl _ _ rfl (.agg #[.pointer (some ⟨qo, 0, none⟩)]) _ rfl rfl ?_; clear hS; intro g w_ hS; (try simp only [Act.put, Act.eval, zz, Value.cells] at hS)))
    ·go_ret2
     exact ⟨_, _, rfl, .inr ⟨x, y, rfl, rfl, hx1.out, hy1.out, hxy.out, .inl ⟨hm, rfl, rfl, hS.mono KS fun _ _ h => h.1⟩⟩⟩
    ·go_ret2
     exact ⟨_, _, rfl, .inr ⟨x, y, rfl, rfl, hx1.out, hy1.out, hxy.out, .inr (.inl ⟨hm, hc, rfl, rfl, hS.mono KS fun _ _ h => h.1⟩)⟩⟩
    ·go_ret2
     refine ⟨_, _, rfl, .inr ⟨x, y, rfl, rfl, hx1.out, hy1.out, hxy.out, .inr (.inr ⟨hm, rfl, L', ⟨hA, fun u hu => ?_, hc⟩, hmm, (hS.sealB 0 (by simp) rfl).mono (KS.and CJ) fun D w h => ⟨h.1.1.1, g, _, rfl, h.2, h.1.2⟩⟩)⟩⟩
     rcases List.mem_append.1 ((hmm u).1 hu) with h | h
     ·exact HH.out.role u h
     ·rw [List.mem_singleton] at h; subst h; exact ⟨hx1.out, hy1.out⟩
  ·have HRB := Lib.hid (decide_eq_false hrb)
   have HNO : Hid (¬ ((1 <= a /\ a <= 63) /\ (1 <= b /\ b <= 63) /\ a ≠ b)) := Lib.hid fun h => hrb h.2.1
   clear hra hrb
   go_enter Tryz.func60, Tryz.ntmps60
   go_wp2_with (first
    | ((with_reducible refine qB ?_); refine qc ?_ ?_ <;> intro h_ <;> go_prune)
    | (go_at_call 131; refine (EI _ _).mono ?_; (first | rw [HRA.out] | rw [HRB.out]); rintro r_ w_ ⟨_, rfl, rfl, hb_⟩; replace hS := hS.ext hb_; clear hb_))
   go_ret2
   exact ⟨_, _, rfl, .inl ⟨HNO.out, rfl, rfl, hS.mono KS fun _ _ h => h.1⟩⟩
 ·have HRA := Lib.hid (decide_eq_false hra)
  have HRB := HRA
  have HNO : Hid (¬ ((1 <= a /\ a <= 63) /\ (1 <= b /\ b <= 63) /\ a ≠ b)) := Lib.hid fun h => hra h.1
  clear hra
  go_enter Tryz.func60, Tryz.ntmps60
  go_wp2_with (first
   | ((with_reducible refine qB ?_); refine qc ?_ ?_ <;> intro h_ <;> go_prune)
   | (go_at_call 131; refine (EI _ _).mono ?_; (first | rw [HRA.out] | rw [HRB.out]); rintro r_ w_ ⟨_, rfl, rfl, hb_⟩; replace hS := hS.ext hb_; clear hb_))
  go_ret2
  exact ⟨_, _, rfl, .inl ⟨HNO.out, rfl, rfl, hS.mono KS fun _ _ h => h.1⟩⟩
end
section
open Go.RowKit
attribute [local go_sem ↓] Go.wp_at_zero Go.wp_at_succ
set_option maxRecDepth 20000
set_option exponentiation.threshold 5000
theorem withN_nat {N r : Nat} (h : r < 64) : DY N (r : Int) = N ||| 2 ^ r := by
 unfold DY
 rw [if_pos (by omega), Int.toNat_natCast]
theorem free1 {w0 w : World} {g z : Nat} {t : TypeId} {cs : Array Value} {K : (Nat -> Prop) -> World -> Prop} (h : St w0 w [.box g t cs] K) (hz : z < w0.heap.size) : EA [.box g t cs] z := fun f hf e => by
 rw [List.mem_singleton] at hf
 subst hf
 have := A7.ge (h.holds _ (List.mem_singleton.2 rfl)) e
 omega
theorem H7 {r : (Nat -> Prop) -> World -> Prop} (hr : AF r) (E : Nat -> Prop) : AF fun D w => r (fun z => D z /\ E z) w := fun D D' w w' h a b c =>
 hr _ _ w w' h a (fun p x hp => b p x hp.1) fun z hz h1 h2 => ⟨c z hz.1 h1 h2, hz.2⟩
theorem hjun_any {w0 : World} {D : Nat -> Prop} {p : Value} {L : List (Nat × Nat)} (h : Il w0 D p L) (hH : Gi L) (r : Int) : Calls Tryz.prog 87 #[p, .int .i64 r] w0 (Ax (fun x w => A5 w (fun z => D z \/ w0.heap.size <= z) x (if 1 <= r /\ r <= 63 then junM L r.toNat else 0)) w0) := by
 obtain ⟨q, o, rfl, hb, ho⟩ := h
 have HO := Lib.hid (Do D (fun z => D z /\ z < w0.heap.size) w0 w0 ho (Nat.le_refl _) (fun _ _ _ _ h => h) fun b h1 h2 _ => ⟨h1, h2⟩)
 obtain ⟨K, k0, hS⟩ : ∃ K : (Nat -> Prop) -> World -> Prop, (∀ D w, K D w -> w.cell? ⟨q, 0, none⟩ = some o) /\ St w0 w0 [] K := ⟨_, fun _ _ h => CH.cell h 0 rfl, St.start Be hb⟩
 have HH := Lib.hid hH
 clear hb hH ho
 by_cases hr : 1 <= r /\ r <= 63
 ·obtain ⟨k, rfl⟩ : ∃ k : Nat, r = (k : Int) := ⟨r.toNat, by omega⟩
  have HR := Lib.hid (decide_eq_true hr)
  have HM := Lib.hid (fun (N : Nat) (h : ∀ i : Nat, N.testBit i = true ↔ ∃ b : Nat, (k : Int) = (b : Int) /\ TC L b i) => show DY N (k : Int) = junM L k from by
   rw [withN_nat (by omega)]
   refine Cy fun i => ?_
   rw [JD, It, h, tb_jun HH.out.inr (by omega)]
   constructor
   ·rintro (⟨b, e, h⟩ | h)
    ·obtain rfl : k = b := by omega
     exact .inr h
    ·exact .inl h
   ·rintro (h | h)
    ·exact .inr h
    ·exact .inl ⟨k, rfl, h⟩)
  rw [if_pos hr, Int.toNat_natCast]
  clear hr
  go_enter Tryz.func87, Tryz.ntmps87
  go_wp2_with (first
   | ((with_reducible refine qB ?_); refine qc ?_ ?_ <;> intro h_ <;> go_prune)
   | ((with_reducible refine qA 4 ?_); refine AU hS rfl _ rfl (by kernel_rfl) ?_; clear hS; intro g w_ hS; (try simp only [Act.put, Act.eval, zz, Value.cells] at hS))
   | (go_at_call 131; refine (EI _ _).mono ?_; rw [HR.out]; rintro r_ w_ ⟨_, rfl, rfl, hb_⟩; replace hS := hS.ext hb_; clear hb_)
   | ((with_reducible refine qA 16 ?_); refine E0 hS rfl _ _ rfl _ rfl _ k0 (by kernel_rfl) ?_)
   | (go_at_call 152; refine (obelow_any (Do _ _ _ _ HO.out hS.size (fun _ _ _ hp hc => (hS.below.cell hp).trans hc) fun _ h _ _ => h) HH.out.inr _).mono ?_; rintro r_ w_ ⟨_, rfl, ⟨N, hN, hs⟩, hb_⟩; replace hs := Lib.hid hs; replace hS := hS.ext hb_; clear hb_)
   | (go_at_call 75; refine (JB _ N _ _ _ hN).mono ?_; rintro r_ w1 ⟨_, rfl, hM, hb_⟩; rw [HM.out N hs.out] at hM; obtain ⟨A3, c3, l3, rfl, -⟩ := hM.parts; replace hS := hS.ret2 hb_ (H7 Ah fun z => D z \/ w0.heap.size <= z) (hM.imp fun z hz _ => ⟨hz.imp (fun hz => free1 hS hz.2) id, hz.elim (fun hz => .inl hz.1) fun hz => .inr (Nat.le_trans hS.size hz)⟩); clear hb_)
   | ((with_reducible refine qM ?_); (first | refine qS hS ?_ | refine qT hS ?_); clear hS; intro w_ hS; (try simp only [Act.put, Act.eval, zz, Value.cells] at hS)))
  refine DB Tryz.results87 rfl (hS.box 0 rfl) Tryz.underlying39 rfl (by kernel_rfl) rfl ?_
  exact Ax.mk (hS.ro.2.imp fun z hz _ => hz.2) hS.below
 ·have HR := Lib.hid (decide_eq_false hr)
  rw [if_neg hr]
  clear hr
  go_enter Tryz.func87, Tryz.ntmps87
  go_wp2_with (first
   | ((with_reducible refine qB ?_); refine qc ?_ ?_ <;> intro h_ <;> go_prune)
   | ((with_reducible refine qA 4 ?_); refine AU hS rfl _ rfl (by kernel_rfl) ?_; clear hS; intro g w_ hS; (try simp only [Act.put, Act.eval, zz, Value.cells] at hS))
   | (go_at_call 131; refine (EI _ _).mono ?_; rw [HR.out]; rintro r_ w_ ⟨_, rfl, rfl, hb_⟩; replace hS := hS.ext hb_; clear hb_)
   | ((with_reducible show wpList _ _ _ (⟨_, .build _ _, _, _, _, _⟩ :: _) _ _); refine Bt rfl _ _ rfl #[.slice none 0 0] (by kernel_rfl) ?_)
   | ((with_reducible refine qM ?_); (first | refine qS hS ?_ | refine qT hS ?_); clear hS; intro w_ hS; (try simp only [Act.put, Act.eval, zz, Value.cells] at hS)))
  refine DB Tryz.results87 rfl (hS.box 0 rfl) Tryz.underlying39 rfl (by kernel_rfl) rfl ?_
  exact Ax.mk A5.empty hS.below
end
section
open Go.RowKit
set_option maxRecDepth 20000
def ON (k : Nat) (i : Nat) (p : World × Option Value) : Prop := i = k -> p.2 = none
section
variable {C : World -> Prop} {S : Value -> World -> Prop} {p p' : World × Option Value} {k : Nat}
end
end
section
open Go.RowKit
attribute [local go_sem ↓] Go.wp_at_zero Go.wp_at_succ
set_option maxRecDepth 20000
set_option exponentiation.threshold 5000
theorem CD (r : Int) (w : World) : Calls Tryz.prog 126 #[.int .i64 r] w (Ax (fun x _ => x = .bool (decide (1 <= r /\ r <= 63))) w) := by
 by_cases h1 : 1 <= r
 ·by_cases h2 : r <= 63
  ·have HR := Lib.hid (show decide (1 <= r /\ r <= 63) = true by simp [h1, h2])
   generalize decide (1 <= r /\ r <= 63) = R at *
   go_enter Tryz.func126, Tryz.ntmps126
   go_wp2_with (first | ((with_reducible refine qB ?_); refine qc ?_ ?_ <;> intro h_ <;> go_prune))
   go_ret
   exact Ax.mk (congrArg Value.bool HR.out.symm) (Below.refl _ _)
  ·have HR := Lib.hid (show decide (1 <= r /\ r <= 63) = false by simp [h2])
   generalize decide (1 <= r /\ r <= 63) = R at *
   go_enter Tryz.func126, Tryz.ntmps126
   go_wp2_with (first | ((with_reducible refine qB ?_); refine qc ?_ ?_ <;> intro h_ <;> go_prune))
   go_ret
   exact Ax.mk (congrArg Value.bool HR.out.symm) (Below.refl _ _)
 ·have HR := Lib.hid (show decide (1 <= r /\ r <= 63) = false by simp [h1])
  generalize decide (1 <= r /\ r <= 63) = R at *
  go_enter Tryz.func126, Tryz.ntmps126
  go_wp2_with (first | ((with_reducible refine qB ?_); refine qc ?_ ?_ <;> intro h_ <;> go_prune))
  go_ret
  exact Ax.mk (congrArg Value.bool HR.out.symm) (Below.refl _ _)
theorem rhas_any {w0 : World} {D : Nat -> Prop} {pv : Value} {L : List (Nat × Nat)} (h : Sl w0 D 2 pv L.length (A6 L)) (hl : L.length <= 1000000) (a b : Int) :
  Calls Tryz.prog 127 #[pv, .int .i64 a, .int .i64 b] w0 (Ax (fun x _ => ∃ c : Bool, x = .bool c /\ (c = true ↔ ∃ x ∈ L, a = (x.1 : Int) /\ b = (x.2 : Int))) w0) := by
 obtain ⟨A, c, rfl, _, _⟩ := h.shape
 obtain ⟨K, kp, hS⟩ : ∃ K : (Nat -> Prop) -> World -> Prop, (∀ D w, K D w -> Sl w D 2 (.slice A L.length c) L.length (A6 L)) /\ St w0 w0 [] K := ⟨_, fun _ _ h => h, St.start (Aj (by decide)) h⟩
 clear h
 go_enter Tryz.func127, Tryz.ntmps127
 go_wp2_with (first | ((with_reducible refine qB ?_); refine qc ?_ ?_ <;> intro h_ <;> go_prune))
 go_loopw [11] (fun i wr => ∃ j : Nat, j <= L.length /\ i = .int .i64 j /\ Hid (∀ t, t < j -> ¬ (a = ((L.getD t (0, 0)).1 : Int) /\ b = ((L.getD t (0, 0)).2 : Int))) /\ St w0 wr [] K) (fun i _ => L.length - (intOf i).toNat)
 case atStart => exact ⟨0, by omega, rfl, Lib.hid (fun t h => absurd h (by omega)), hS⟩
 case round =>
  clear hS
  obtain ⟨j, hj, rfl, HJ, hS⟩ := hrel
  by_cases hlj : j < L.length
  ·obtain ⟨f1, f2⟩ := Bf L j hlj
   have hm : Hid (L.getD j (0, 0) ∈ L) := Lib.hid (by rw [List.getD_eq_getElem?_getD, List.getElem?_eq_getElem hlj]; exact List.getElem_mem hlj)
   have HJ2 : Hid (¬ (a = ((L.getD j (0, 0)).1 : Int) /\ b = ((L.getD j (0, 0)).2 : Int)) -> ∀ t, t < j + 1 -> ¬ (a = ((L.getD t (0, 0)).1 : Int) /\ b = ((L.getD t (0, 0)).2 : Int))) := Lib.hid fun h t ht => if e : t = j then e ▸ h else HJ.out t (by omega)
   generalize L.getD j (0, 0) = x at *
   obtain ⟨xa, xb⟩ := x
   dsimp only at f1 f2 HJ2
   by_cases hx : a = (xa : Int)
   ·by_cases hy : b = (xb : Int)
    ·subst hx hy
     go_wp2_with (first
      | ((with_reducible refine qB ?_); refine qc ?_ ?_ <;> intro h_ <;> go_prune)
      | ((with_reducible refine qI ?_); refine qj hS Tryz.underlying25 ?_; intro b_ j_ hc0_ hc1_)
      | ((with_reducible refine qA 8 ?_); refine AU hS rfl _ rfl (by kernel_rfl) ?_; clear hS; intro g4 w_ hS; (try simp only [Act.put, Act.eval, zz, Value.cells] at hS))
      | ((with_reducible refine qM ?_); (first | refine qS hS ?_ | refine qT hS ?_); clear hS; intro w_ hS; (try simp only [Act.put, Act.eval, zz, Value.cells] at hS))
      | ((with_reducible refine qK ?_); refine qC hS ?_))
     go_ret
     exact Ax.mk (v := .bool true) (by first | exact ⟨true, rfl, fun _ => ⟨_, hm.out, rfl, rfl⟩, fun _ => rfl⟩ | exact .inr ⟨rfl, _, _, hm.out, rfl, rfl⟩) hS.below
    ·have HJ3 := Lib.hid (HJ2.out fun h => hy h.2)
     subst hx
     clear HJ2
     have hy' : ¬ ((xb : Nat) : Int) = b := fun e => hy e.symm
     go_wp2_with (first
      | ((with_reducible refine qB ?_); refine qc ?_ ?_ <;> intro h_ <;> go_prune)
      | ((with_reducible refine qI ?_); refine qj hS Tryz.underlying25 ?_; intro b_ j_ hc0_ hc1_)
      | ((with_reducible refine qA 8 ?_); refine AU hS rfl _ rfl (by kernel_rfl) ?_; clear hS; intro g4 w_ hS; (try simp only [Act.put, Act.eval, zz, Value.cells] at hS))
      | ((with_reducible refine qM ?_); (first | refine qS hS ?_ | refine qT hS ?_); clear hS; intro w_ hS; (try simp only [Act.put, Act.eval, zz, Value.cells] at hS))
      | ((with_reducible refine qK ?_); refine qC hS ?_))
     exact ⟨⟨j + 1, hlj, by go_num, HJ3, hS.sub (List.sublist_cons_self _ _)⟩, by simp [intOf]; omega⟩
   ·have HJ3 := Lib.hid (HJ2.out fun h => hx h.1)
    clear HJ2
    have hx' : ¬ ((xa : Nat) : Int) = a := fun e => hx e.symm
    go_wp2_with (first
     | ((with_reducible refine qB ?_); refine qc ?_ ?_ <;> intro h_ <;> go_prune)
     | ((with_reducible refine qI ?_); refine qj hS Tryz.underlying25 ?_; intro b_ j_ hc0_ hc1_)
     | ((with_reducible refine qA 8 ?_); refine AU hS rfl _ rfl (by kernel_rfl) ?_; clear hS; intro g4 w_ hS; (try simp only [Act.put, Act.eval, zz, Value.cells] at hS))
     | ((with_reducible refine qM ?_); (first | refine qS hS ?_ | refine qT hS ?_); clear hS; intro w_ hS; (try simp only [Act.put, Act.eval, zz, Value.cells] at hS))
     | ((with_reducible refine qK ?_); refine qC hS ?_))
    exact ⟨⟨j + 1, hlj, by go_num, HJ3, hS.sub (List.sublist_cons_self _ _)⟩, by simp [intOf]; omega⟩
  ·obtain rfl : j = L.length := by omega
   have HN : Hid (¬ ∃ x ∈ L, a = (x.1 : Int) /\ b = (x.2 : Int)) := Lib.hid fun ⟨x, hx, h⟩ => by
    obtain ⟨k, hk, e⟩ := List.getElem_of_mem hx
    refine HJ.out k hk ?_
    rw [List.getD_eq_getElem?_getD, List.getElem?_eq_getElem hk, Option.getD_some, e]
    exact h
   go_wp2_with (first | ((with_reducible refine qB ?_); refine qc ?_ ?_ <;> intro h_ <;> go_prune))
   go_ret
   exact Ax.mk (v := .bool false) (by first | exact ⟨false, rfl, fun h => by simp at h, fun h => absurd h HN.out⟩ | exact .inl ⟨rfl, by simpa using HN.out⟩) hS.below
end
section
open Go.RowKit
attribute [local go_sem ↓] Go.wp_at_zero Go.wp_at_succ
set_option maxRecDepth 20000
def shrN (s r : Nat) : Nat := s / 2 ^ r
def rem2 (m : Nat) : Nat := m % 2
theorem bit_of {s r : Nat} : rem2 (shrN s r) = if s.testBit r then 1 else 0 := by
 unfold rem2 shrN
 rw [Nat.testBit_eq_decide_div_mod_eq]
 by_cases h : s / 2 ^ r % 2 = 1
 ·simp [h]
 ·have : s / 2 ^ r % 2 = 0 := by omega
  simp [this]
theorem pow_lt_64 {r : Nat} (h : r < 64) : 2 ^ r < AA := by rw [C1]; exact Nat.pow_lt_pow_right (by decide) h
section
variable {P : Program} {ops : Array Oper} {rest : List Oper} {o : Oper} {a : Act} {w : World} {Q : Exit -> Act -> World -> Prop}
theorem H9 (hg : Region.wanted o (yielded ops a.tmps) = true) (t t2 : TypeId) (x y : Operand) (ho : o.op = .binOp .shr t x y t2) (s r : Nat) (hx : a.eval x = .int .u64 (s : Nat)) (hy : a.eval y = .int .i64 (r : Nat)) (hr : r <= 64)
  (hk : wpList P ops Q rest (a.put o.dst (.int .u64 (shrN s r : Nat))) w) : wpList P ops Q (o :: rest) a w := by
 refine BigFrame.wpList_want hg fun _ hK => Az (v := .int .u64 (shrN s r : Nat)) ho hx hy (by simp [eqGuard]) ?_ (hK _ _ hk)
 rw [binOp_shr, shift_shr _ _ _ _ (by omega) (by show (r : Int) <= 64; omega)]
 simp [shrN]
theorem Ha (hg : Region.wanted o (yielded ops a.tmps) = true) (t t2 : TypeId) (x y : Operand) (ho : o.op = .binOp .rem t x y t2) (m : Nat) (hx : a.eval x = .int .u64 (m : Nat)) (hy : a.eval y = .int .u64 2)
  (hk : wpList P ops Q rest (a.put o.dst (.int .u64 (rem2 m : Nat))) w) : wpList P ops Q (o :: rest) a w := by
 refine BigFrame.wpList_want hg fun _ hK => Az (v := .int .u64 (rem2 m : Nat)) ho hx hy (by simp [eqGuard]) ?_ (hK _ _ hk)
 go_simp
 exact Fv m 2
theorem FA (hg : Region.wanted o (yielded ops a.tmps) = true) (t t2 : TypeId) (x y : Operand) (ho : o.op = .binOp .eql t x y t2) (s r : Nat) (hx : a.eval x = .int .u64 (rem2 (shrN s r) : Nat)) (hy : a.eval y = .int .u64 1) {b : Bool} (hb : s.testBit r = b)
  (hk : wpList P ops Q rest (a.put o.dst (.bool b)) w) : wpList P ops Q (o :: rest) a w := by
 refine BigFrame.wpList_want hg fun _ hK => Az (v := .bool b) ho hx hy (by simp [eqGuard]) ?_ (hK _ _ hk)
 rw [binOp_eql, bit_of, hb]
 cases b <;> simp
theorem st_shl1 (hg : Region.wanted o (yielded ops a.tmps) = true) (t t2 : TypeId) (x y : Operand) (ho : o.op = .binOp .shl t x y t2) (r : Nat) (hx : a.eval x = .int .u64 1) (hy : a.eval y = .int .i64 (r : Nat)) (hr : r < 64)
  (hk : wpList P ops Q rest (a.put o.dst (.int .u64 (2 ^ r : Nat))) w) : wpList P ops Q (o :: rest) a w := by
 have h := JO (P := P) (w := w) (t := t) (r := r) (e := (r : Nat)) (by rw [Nat.mod_eq_of_lt hr])
 rw [Nat.mod_eq_of_lt hr] at h
 exact BigFrame.wpList_want hg fun _ hK => Az (v := .int .u64 (2 ^ r : Nat)) ho hx hy (by simp [eqGuard]) h (hK _ _ hk)
theorem st_orN (hg : Region.wanted o (yielded ops a.tmps) = true) (t t2 : TypeId) (x y : Operand) (ho : o.op = .binOp .or t x y t2) (m n : Nat) (hx : a.eval x = .int .u64 (m : Nat)) (hy : a.eval y = .int .u64 (n : Nat)) (hm : m < AA) (hn : n < AA)
  (hk : wpList P ops Q rest (a.put o.dst (.int .u64 (m ||| n : Nat))) w) : wpList P ops Q (o :: rest) a w :=
 BigFrame.wpList_want hg fun _ hK => Az (v := .int .u64 (m ||| n : Nat)) ho hx hy (by simp [eqGuard]) (Ix hm hn) (hK _ _ hk)
end
end
section
open Go.RowKit
attribute [local go_sem ↓] Go.wp_at_zero Go.wp_at_succ
set_option maxRecDepth 20000
set_option exponentiation.threshold 5000
def J6 (L : List (Nat × Nat)) (r s : Int) : Prop := ∃ i j : Nat, r = (i : Int) /\ s = (j : Int) /\ (1 <= i /\ i < 64) /\ (1 <= j /\ j < 64) /\ (i = j \/ TC L i j)
noncomputable def junR (L : List (Nat × Nat)) (r : Int) : Nat := if 1 <= r /\ r <= 63 then junM L r.toNat else 0
theorem rjun_any {w0 : World} {D : Nat -> Prop} {pv : Value} {L : List (Nat × Nat)} (h : Sl w0 D 2 pv L.length (A6 L)) (hL : Gh 64 L) (hl : L.length <= 1000000) (r : Int) :
  Calls Tryz.prog 128 #[pv, .int .i64 r] w0 (Ax (fun x _ => x = .int .u64 (junR L r : Nat)) w0) := by
 obtain ⟨A, c, rfl, _, _⟩ := h.shape
 obtain ⟨K, kp, hS⟩ : ∃ K : (Nat -> Prop) -> World -> Prop, (∀ D w, K D w -> Sl w D 2 (.slice A L.length c) L.length (A6 L)) /\ St w0 w0 [] K := ⟨_, fun _ _ h => h, St.start (Aj (by decide)) h⟩
 clear h
 by_cases hr : 1 <= r /\ r <= 63
 ·obtain ⟨k, rfl⟩ : ∃ k : Nat, r = (k : Int) := ⟨r.toNat, by omega⟩
  have HR := Lib.hid (decide_eq_true hr)
  have hk : k < 64 := by omega
  have HJ := Lib.hid (show junR L (k : Int) = junM L k by rw [junR, if_pos hr, Int.toNat_natCast])
  have HL := Lib.hid hL
  have H0 : Hid (FR L k (2 ^ k) /\ 2 ^ k < 2 ^ 64) := Lib.hid ⟨FR.start L k, Nat.pow_lt_pow_right (by decide) hk⟩
  clear hr hL
  go_enter Tryz.func128, Tryz.ntmps128
  go_wp2_with (first
   | (go_at_call 126; refine (CD _ _).mono ?_; rw [HR.out]; rintro r_ w_ ⟨_, rfl, rfl, hb_⟩; replace hS := hS.ext hb_; clear hb_)
   | ((with_reducible refine qb .shl ?_); refine st_shl1 rfl _ _ _ _ rfl _ rfl rfl hk ?_))
  go_loopw [5] (fun v wr => ∃ s : Nat, v = .int .u64 (s : Nat) /\ Hid (FR L k s /\ s < 2 ^ 64) /\ St w0 wr [] K) (fun v _ => outN (intOf v).toNat)
  case atStart => exact ⟨_, rfl, H0, hS⟩
  case round =>
   clear hS H0
   obtain ⟨s, rfl, HS, hS⟩ := hrel
   go_wp2_with (first | ((with_reducible refine qB ?_); refine qc ?_ ?_ <;> intro h_ <;> go_prune))
   go_loopw [6, 17] (fun m i wr => ∃ j : Nat, j <= L.length /\ i = .int .i64 (j : Nat) /\ m = .int .u64 (jTo L s j : Nat) /\ St w0 wr [] K) (fun _ i _ => L.length - (intOf i).toNat)
   case atStart => exact ⟨0, by omega, rfl, by simp [jTo], hS⟩
   case round =>
    clear hS
    obtain ⟨j, hj, rfl, rfl, hS⟩ := hrel
    by_cases hlj : j < L.length
    ·obtain ⟨f1, f2⟩ := Bf L j hlj
     have HG := Lib.hid (C3 (0, 0) hlj)
     have hm := HL.out (L.getD j (0, 0)) (by rw [List.getD_eq_getElem?_getD, List.getElem?_eq_getElem hlj]; exact List.getElem_mem hlj)
     have HSt := Lib.hid (jTo_step (s := s) HG.out)
     have hM : jTo L s j < AA := by rw [C1]; exact jTo_lt HL.out HS.out.2
     generalize L.getD j (0, 0) = x at *
     generalize jTo L s j = M at *
     obtain ⟨xa, xb⟩ := x
     dsimp only at f1 f2 hm HSt
     obtain ⟨hxa, hxb⟩ := hm
     cases hbit : s.testBit xa
     ·rw [hbit] at HSt
      have HE := Lib.hid (HSt.out.trans (if_neg (by simp)))
      go_wp2_with (first
       | ((with_reducible refine qb .shr ?_); refine H9 rfl _ _ _ _ rfl _ _ rfl rfl (by omega) ?_)
       | ((with_reducible refine qb .rem ?_); refine Ha rfl _ _ _ _ rfl _ rfl rfl ?_)
       | ((with_reducible refine qA 26 ?_); refine FA rfl _ _ _ _ rfl _ _ rfl rfl hbit ?_)
       | ((with_reducible refine qB ?_); refine qc ?_ ?_ <;> intro h_ <;> go_prune)
       | ((with_reducible refine qI ?_); refine qj hS Tryz.underlying25 ?_; intro b_ j_ hc0_ hc1_)
       | ((with_reducible refine qA 8 ?_); refine AU hS rfl _ rfl (by kernel_rfl) ?_; clear hS; intro g4 w_ hS; (try simp only [Act.put, Act.eval, zz, Value.cells] at hS))
       | ((with_reducible refine qM ?_); (first | refine qS hS ?_ | refine qT hS ?_); clear hS; intro w_ hS; (try simp only [Act.put, Act.eval, zz, Value.cells] at hS))
       | ((with_reducible refine qK ?_); refine qC hS ?_))
      exact ⟨⟨j + 1, hlj, by go_num, by rw [HE.out], hS.sub (List.sublist_cons_self _ _)⟩, by simp [intOf]; omega⟩
     ·rw [hbit] at HSt
      have HE := Lib.hid (HSt.out.trans (if_pos rfl))
      go_wp2_with (first
       | ((with_reducible refine qb .shr ?_); refine H9 rfl _ _ _ _ rfl _ _ rfl rfl (by omega) ?_)
       | ((with_reducible refine qb .rem ?_); refine Ha rfl _ _ _ _ rfl _ rfl rfl ?_)
       | ((with_reducible refine qb .shl ?_); refine st_shl1 rfl _ _ _ _ rfl _ rfl rfl hxb ?_)
       | ((with_reducible refine qb .or ?_); refine st_orN rfl _ _ _ _ rfl _ _ rfl rfl hM (pow_lt_64 hxb) ?_)
       | ((with_reducible refine qA 26 ?_); refine FA rfl _ _ _ _ rfl _ _ rfl rfl hbit ?_)
       | ((with_reducible refine qB ?_); refine qc ?_ ?_ <;> intro h_ <;> go_prune)
       | ((with_reducible refine qI ?_); refine qj hS Tryz.underlying25 ?_; intro b_ j_ hc0_ hc1_)
       | ((with_reducible refine qA 8 ?_); refine AU hS rfl _ rfl (by kernel_rfl) ?_; clear hS; intro g4 w_ hS; (try simp only [Act.put, Act.eval, zz, Value.cells] at hS))
       | ((with_reducible refine qM ?_); (first | refine qS hS ?_ | refine qT hS ?_); clear hS; intro w_ hS; (try simp only [Act.put, Act.eval, zz, Value.cells] at hS))
       | ((with_reducible refine qK ?_); refine qC hS ?_))
      exact ⟨⟨j + 1, hlj, by go_num, by rw [HE.out], hS.sub (List.sublist_cons_self _ _)⟩, by simp [intOf]; omega⟩
    ·obtain rfl : j = L.length := by omega
     have HM : Hid (jTo L s L.length < 2 ^ 64 /\ FR L k (jTo L s L.length) /\ (∀ i, s.testBit i = true -> (jTo L s L.length).testBit i = true)) := Lib.hid ⟨jTo_lt HL.out HS.out.2, HS.out.1.next, fun i hi => (JE (Nat.le_refl _)).2 (.inl hi)⟩
     by_cases he : jTo L s L.length = s
     ·have HF := Lib.hid (HS.out.1.stop HL.out hk he)
      rw [he]
      go_wp2_with (first | ((with_reducible refine qB ?_); refine qc ?_ ?_ <;> intro h_ <;> go_prune))
      go_ret
      exact Ax.mk (by rw [HJ.out, <- HF.out]; rfl) hS.below
     ·have HO := Lib.hid (outN_lt HS.out.2 HM.out.1 HM.out.2.2 he)
      generalize jTo L s L.length = M at *
      have he2 : ¬ (M : Int) = (s : Int) := by omega
      go_wp2_with (first | ((with_reducible refine qB ?_); refine qc ?_ ?_ <;> intro h_ <;> go_prune))
      exact ⟨⟨M, rfl, Lib.hid ⟨HM.out.2.1, HM.out.1⟩, hS⟩, by simpa [intOf] using HO.out⟩
 ·have HR := Lib.hid (decide_eq_false hr)
  have HJ := Lib.hid (show junR L r = 0 by rw [junR, if_neg hr])
  rw [HJ.out]
  clear hr
  go_enter Tryz.func128, Tryz.ntmps128
  go_wp2_with (first
   | (go_at_call 126; refine (CD _ _).mono ?_; rw [HR.out]; rintro r_ w_ ⟨_, rfl, rfl, hb_⟩; replace hS := hS.ext hb_; clear hb_))
  go_ret
  exact Ax.mk rfl hS.below
theorem impl_junR {L : List (Nat × Nat)} (hL : Gh 64 L) (r s : Int) : (1 <= s /\ s <= 63) /\ (junR L r).testBit s.toNat = true ↔ J6 L r s := by
 unfold junR J6
 constructor
 ·rintro ⟨h1, h2⟩
  by_cases hr : 1 <= r /\ r <= 63
  ·rw [if_pos hr, tb_jun hL (by omega)] at h2
   exact ⟨r.toNat, s.toNat, by omega, by omega, by omega, by omega, h2.imp (fun h => h.symm) id⟩
  ·rw [if_neg hr, Nat.zero_testBit] at h2; cases h2
 ·rintro ⟨i, j, rfl, rfl, h1, h2, h3⟩
  refine ⟨by omega, ?_⟩
  rw [if_pos (by omega), Int.toNat_natCast, Int.toNat_natCast, tb_jun hL (by omega)]
  exact h3.imp (fun h => h.symm) id
theorem rimpl_any {w0 : World} {D : Nat -> Prop} {pv : Value} {L : List (Nat × Nat)} (h : Sl w0 D 2 pv L.length (A6 L)) (hL : Gh 64 L) (hl : L.length <= 1000000) (r s : Int) :
  Calls Tryz.prog 83 #[pv, .int .i64 r, .int .i64 s] w0 (Ax (fun x _ => ∃ c : Bool, x = .bool c /\ (c = true ↔ J6 L r s)) w0) := by
 have HJ := Lib.hid (fun w (hb : Below w0.heap.size w0 w) => rjun_any (h.ext hb) hL hl r)
 have HI := Lib.hid (impl_junR hL r s)
 by_cases hs : 1 <= s /\ s <= 63
 ·obtain ⟨k, rfl⟩ : ∃ k : Nat, s = (k : Int) := ⟨s.toNat, by omega⟩
  have HR := Lib.hid (decide_eq_true hs)
  have hk : k < 64 := by omega
  rw [Int.toNat_natCast] at HI
  have HI2 : Hid ((junR L r).testBit k = true ↔ J6 L r k) := Lib.hid ⟨fun h => HI.out.1 ⟨hs, h⟩, fun h => (HI.out.2 h).2⟩
  clear hs HI
  obtain ⟨b, hb0⟩ : ∃ b, (junR L r).testBit k = b := ⟨_, rfl⟩
  have hb := Lib.hid hb0
  rw [hb0] at HI2
  generalize junR L r = J at *
  clear hb0
  go_enter Tryz.func83, Tryz.ntmps83
  go_wp2_with (first
   | (go_at_call 126; refine (CD _ _).mono ?_; rw [HR.out]; rintro r_ w_ ⟨_, rfl, rfl, hb_⟩)
   | (go_at_call 128; refine (HJ.out _ hb_).mono ?_; rintro r_ w2 ⟨_, rfl, rfl, hb2⟩)
   | ((with_reducible refine qb .shr ?_); refine H9 rfl _ _ _ _ rfl _ _ rfl rfl (by omega) ?_)
   | ((with_reducible refine qb .rem ?_); refine Ha rfl _ _ _ _ rfl _ rfl rfl ?_)
   | ((with_reducible refine qA 16 ?_); refine FA rfl _ _ _ _ rfl _ _ rfl rfl hb.out ?_))
  go_ret
  exact Ax.mk ⟨b, rfl, HI2.out⟩ (CE hb_ hb2)
 ·have HR := Lib.hid (decide_eq_false hs)
  have HI2 : Hid (¬ J6 L r s) := Lib.hid fun h => hs (HI.out.2 h).1
  clear hs HI
  go_enter Tryz.func83, Tryz.ntmps83
  go_wp2_with (first
   | (go_at_call 126; refine (CD _ _).mono ?_; rw [HR.out]; rintro r_ w_ ⟨_, rfl, rfl, hb_⟩))
  go_ret
  exact Ax.mk ⟨false, rfl, fun h => by simp at h, fun h => absurd h HI2.out⟩ hb_
noncomputable def closTo (L : List (Nat × Nat)) (s k : Nat) : Nat := (List.range k).foldl (fun m r => if 1 <= r /\ s.testBit r then m ||| junM L r else m) 0
theorem El (L : List (Nat × Nat)) (s k : Nat) : closTo L s (k + 1) = if 1 <= k /\ s.testBit k then closTo L s k ||| junM L k else closTo L s k := by
 unfold closTo; rw [List.range_succ, List.foldl_append]; rfl
theorem Iu {L : List (Nat × Nat)} {s i : Nat} : ∀ {k : Nat}, (closTo L s k).testBit i = true ↔ ∃ r, r < k /\ 1 <= r /\ s.testBit r = true /\ (junM L r).testBit i = true
 | 0 => by simp [closTo]
 | k + 1 => by
  rw [El]
  split
  ·rename_i h
   rw [JD, Iu]
   constructor
   ·rintro (⟨r, h1, h2⟩ | h1)
    ·exact ⟨r, by omega, h2⟩
    ·exact ⟨k, by omega, h.1, h.2, h1⟩
   ·rintro ⟨r, h1, h2, h3, h4⟩
    rcases Nat.lt_or_ge r k with h5 | h5
    ·exact .inl ⟨r, h5, h2, h3, h4⟩
    ·obtain rfl : r = k := by omega
     exact .inr h4
  ·rename_i h
   rw [Iu]
   constructor
   ·rintro ⟨r, h1, h2⟩
    exact ⟨r, by omega, h2⟩
   ·rintro ⟨r, h1, h2, h3, h4⟩
    rcases Nat.lt_or_ge r k with h5 | h5
    ·exact ⟨r, h5, h2, h3, h4⟩
    ·obtain rfl : r = k := by omega
     exact absurd ⟨h2, h3⟩ h
theorem junM_lt (L : List (Nat × Nat)) (r : Nat) : junM L r < 2 ^ 64 := by
 apply Nat.lt_pow_two_of_testBit
 intro i hi
 cases e : (junM L r).testBit i with
 | false => rfl
 | true => rw [junM, Cf] at e; omega
theorem G9 (L : List (Nat × Nat)) (s : Nat) : ∀ k, closTo L s k < 2 ^ 64
 | 0 => by simp [closTo]
 | k + 1 => by
  rw [El]
  split
  ·exact Nat.or_lt_two_pow (G9 L s k) (junM_lt L k)
  ·exact G9 L s k
noncomputable def closM (L : List (Nat × Nat)) (s : Nat) : Nat := closTo L s 64
theorem rclos_any {w0 : World} {D : Nat -> Prop} {pv : Value} {L : List (Nat × Nat)} (h : Sl w0 D 2 pv L.length (A6 L)) (hL : Gh 64 L) (hl : L.length <= 1000000) (s : Nat) :
  Calls Tryz.prog 55 #[pv, .int .u64 (s : Nat)] w0 (Ax (fun x _ => x = .int .u64 (closM L s : Nat)) w0) := by
 obtain ⟨A, c, rfl, _, _⟩ := h.shape
 have HJ := Lib.hid (fun w (hb : Below w0.heap.size w0 w) (r : Int) => rjun_any (h.ext hb) hL hl r)
 have hB := Below.refl w0.heap.size w0
 clear h
 go_enter Tryz.func55, Tryz.ntmps55
 go_wp2_with fail
 go_loopw [5, 6] (fun m i wr => ∃ k : Nat, 1 <= k /\ k <= 64 /\ i = .int .i64 (k : Nat) /\ m = .int .u64 (closTo L s k : Nat) /\ Below w0.heap.size w0 wr) (fun _ i _ => 64 - (intOf i).toNat)
 case atStart => exact ⟨1, by omega, by omega, rfl, by rw [El]; simp [closTo], hB⟩
 case round =>
  clear hB
  obtain ⟨k, hk1, hk2, rfl, rfl, hB⟩ := hrel
  have hM : closTo L s k < AA := by rw [C1]; exact G9 L s k
  by_cases hk : k < 64
  ·have HSt := Lib.hid (El L s k)
   have hJ2 : junM L k < AA := by rw [C1]; exact junM_lt L k
   have HJ3 := Lib.hid (show junR L (k : Int) = junM L k by rw [junR, if_pos (by omega), Int.toNat_natCast])
   generalize closTo L s k = M at *
   generalize junM L k = J at *
   cases hbit : s.testBit k
   ·rw [hbit] at HSt
    have HE := Lib.hid (HSt.out.trans (if_neg (by simp)))
    go_wp2_with (first
     | ((with_reducible refine qb .shr ?_); refine H9 rfl _ _ _ _ rfl _ _ rfl rfl (by omega) ?_)
     | ((with_reducible refine qb .rem ?_); refine Ha rfl _ _ _ _ rfl _ rfl rfl ?_)
     | ((with_reducible refine qA 15 ?_); refine FA rfl _ _ _ _ rfl _ _ rfl rfl hbit ?_)
     | ((with_reducible refine qB ?_); refine qc ?_ ?_ <;> intro h_ <;> go_prune))
    exact ⟨⟨k + 1, by omega, by omega, by go_num, by rw [HE.out], hB⟩, by simp [intOf]; omega⟩
   ·rw [hbit] at HSt
    have HE := Lib.hid (HSt.out.trans (if_pos ⟨hk1, rfl⟩))
    go_wp2_with (first
     | ((with_reducible refine qb .shr ?_); refine H9 rfl _ _ _ _ rfl _ _ rfl rfl (by omega) ?_)
     | ((with_reducible refine qb .rem ?_); refine Ha rfl _ _ _ _ rfl _ rfl rfl ?_)
     | ((with_reducible refine qb .or ?_); refine st_orN rfl _ _ _ _ rfl _ _ rfl rfl hM hJ2 ?_)
     | ((with_reducible refine qA 15 ?_); refine FA rfl _ _ _ _ rfl _ _ rfl rfl hbit ?_)
     | (go_at_call 128; refine (HJ.out _ hB _).mono ?_; rw [HJ3.out]; rintro r_ w2 ⟨_, rfl, rfl, hb2⟩)
     | ((with_reducible refine qB ?_); refine qc ?_ ?_ <;> intro h_ <;> go_prune))
    exact ⟨⟨k + 1, by omega, by omega, by go_num, by rw [HE.out], CE hB hb2⟩, by simp [intOf]; omega⟩
  ·obtain rfl : k = 64 := by omega
   go_wp2_with (first | ((with_reducible refine qB ?_); refine qc ?_ ?_ <;> intro h_ <;> go_prune))
   go_ret
   exact Ax.mk rfl hB
end
section
open Go.RowKit
attribute [local go_sem ↓] Go.wp_at_zero Go.wp_at_succ
set_option maxRecDepth 20000
set_option exponentiation.threshold 5000
def twoR (a b : Int) : Prop := (1 <= a /\ a <= 63) /\ (1 <= b /\ b <= 63) /\ a ≠ b
def RLinkP (w0 : World) (pv : Value) (L : List (Nat × Nat)) (a b : Int) (e : Ending) (w' : World) : Prop :=
 (¬ twoR a b /\ e = .returned (.tuple #[pv, .int .i64 1]) /\ Below w0.heap.size w0 w') \/
 ∃ x y : Nat, a = (x : Int) /\ b = (y : Int) /\ (1 <= x /\ x < 64) /\ (1 <= y /\ y < 64) /\ x ≠ y /\
  (((x, y) ∈ L /\ e = .returned (.tuple #[pv, .int .i64 5]) /\ Below w0.heap.size w0 w') \/
   ((x, y) ∉ L /\ TC L y x /\ e = .returned (.tuple #[pv, .int .i64 16]) /\ Below w0.heap.size w0 w') \/
   ((x, y) ∉ L /\ ¬ TC L y x /\ ∃ v, e = .returned (.tuple #[v, .int .i64 0]) /\ St w0 w' [.own v 107 2 (L.length + 1) (A6 (ins L (x, y)))] fun _ _ => True))
theorem ins_at {L : List (Nat × Nat)} {y : Nat × Nat} {i : Nat} (h : i <= Dm L y) {x : Nat × Nat} (hx : L[i]? = some x) : (IY x y -> i + 1 <= Dm L y) /\ (¬ IY x y -> i = Dm L y) := by
 constructor
 ·intro hp
  rcases Nat.lt_or_ge i (Dm L y) with h1 | h1
  ·exact h1
  ·obtain rfl : i = Dm L y := by omega
   exact absurd hp (insAt_stop hx)
 ·intro hp
  rcases Nat.lt_or_ge i (Dm L y) with h1 | h1
  ·obtain ⟨z, h2, h3⟩ := insAt_lt h1
   rw [hx] at h2
   cases h2
   exact absurd h3 hp
  ·omega
theorem FF (L : List (Nat × Nat)) : ∀ k, (A6 L).drop (k * 2) = A6 (L.drop k) := by
 induction L with
 | nil => intro k; simp [A6]
 | cons x L ih =>
  intro k
  cases k with
  | zero => simp [A6]
  | succ k => rw [show (k + 1) * 2 = k * 2 + 1 + 1 by omega, Eh]; simp [ih]
def BP (L : List (Nat × Nat)) (z : Nat × Nat) (i : Nat) : AD := ⟨107, 2, 4, fun s => match s with | 0 => 0 | 1 => 0 + i | 2 => 0 + i + 1 | _ => 0 + i + 1 + (L.length - i), fun s => match s with | 0 => [] | 1 => [] ++ (A6 L).take (i * 2) | 2 => [] ++ (A6 L).take (i * 2) ++ A6 [z] | _ => [] ++ (A6 L).take (i * 2) ++ A6 [z] ++ (A6 L).drop (i * 2), fun _ v => .own v 107 2 1 (A6 [z])⟩
def D5 : List (Nat × (Bool × Nat)) := [(0, (true, 0)), (4, (true, 1)), (8, (false, 0)), (9, (true, 2)), (13, (true, 3))]
set_option maxHeartbeats 2000000 in
theorem rlink_any {w0 : World} {D : Nat -> Prop} {pv : Value} {L : List (Nat × Nat)} (h : Sl w0 D 2 pv L.length (A6 L)) (hL : Gh 64 L) (hl : L.length <= 1000000) (a b : Int) :
  Calls Tryz.prog 52 #[pv, .int .i64 a, .int .i64 b] w0 (RLinkP w0 pv L a b) := by
 obtain ⟨A, c, rfl, hc1, _⟩ := h.shape
 obtain ⟨K, kp, hS⟩ : ∃ K : (Nat -> Prop) -> World -> Prop, (∀ D w, K D w -> Sl w D 2 (.slice A L.length c) L.length (A6 L)) /\ St w0 w0 [] K := ⟨_, fun _ _ h => h, St.start (Aj (by decide)) h⟩
 clear h
 have HH := Lib.hid (fun (w : World) (D : Nat -> Prop) (h : Sl w D 2 (.slice A L.length c) L.length (A6 L)) => rhas_any h hl a b)
 have HI := Lib.hid (fun (w : World) (D : Nat -> Prop) (h : Sl w D 2 (.slice A L.length c) L.length (A6 L)) => rimpl_any h hL hl b a)
 by_cases hra : 1 <= a /\ a <= 63
 ·have HRA := Lib.hid (decide_eq_true hra)
  by_cases hrb : 1 <= b /\ b <= 63
  ·have HRB := Lib.hid (decide_eq_true hrb)
   by_cases hab : a = b
   ·subst hab
    have HNO : Hid (¬ twoR a a) := Lib.hid fun h => h.2.2 rfl
    clear hra hrb
    go_enter Tryz.func52, Tryz.ntmps52
    go_wp2_with (first
     | ((with_reducible refine qB ?_); refine qc ?_ ?_ <;> intro h_ <;> go_prune)
     | (go_at_call 126; refine (CD _ _).mono ?_; (first | rw [HRA.out] | rw [HRB.out]); rintro r_ w_ ⟨_, rfl, rfl, hb_⟩; replace hS := hS.ext hb_; clear hb_))
    go_ret2
    exact .inl ⟨HNO.out, rfl, hS.below⟩
   ·obtain ⟨x, rfl⟩ : ∃ x : Nat, a = (x : Int) := ⟨a.toNat, by omega⟩
    obtain ⟨y, rfl⟩ : ∃ y : Nat, b = (y : Int) := ⟨b.toNat, by omega⟩
    have hx1 : Hid (1 <= x /\ x < 64) := Lib.hid (by omega)
    have hy1 : Hid (1 <= y /\ y < 64) := Lib.hid (by omega)
    have hxy : Hid (x ≠ y) := Lib.hid (by omega)
    have HC1 : Hid (∀ c : Bool, (c = true ↔ ∃ z ∈ L, (x : Int) = (z.1 : Int) /\ (y : Int) = (z.2 : Int)) -> c = decide ((x, y) ∈ L)) := Lib.hid fun c hc => by
     rw [Bool.eq_iff_iff, hc, decide_eq_true_iff]
     constructor
     ·rintro ⟨⟨za, zb⟩, h1, h2, h3⟩
      dsimp only at h2 h3
      obtain rfl : x = za := by omega
      obtain rfl : y = zb := by omega
      exact h1
     ·intro h; exact ⟨_, h, rfl, rfl⟩
    have HC2 : Hid (∀ c : Bool, (c = true ↔ J6 L (y : Nat) (x : Nat)) -> (c = true ↔ TC L y x)) := Lib.hid fun c hc => hc.trans ⟨fun ⟨i, j, h1, h2, _, _, h3⟩ => by
      obtain rfl : y = i := by omega
      obtain rfl : x = j := by omega
      exact h3.resolve_left fun e => hxy.out e.symm, fun h => ⟨y, x, rfl, rfl, hy1.out, hx1.out, .inr h⟩⟩
    clear hra hrb
    by_cases hm : (x, y) ∈ L
    ·go_enter Tryz.func52, Tryz.ntmps52
     go_wp2_with (first
      | ((with_reducible refine qB ?_); refine qc ?_ ?_ <;> intro h_ <;> go_prune)
      | (go_at_call 126; refine (CD _ _).mono ?_; (first | rw [HRA.out] | rw [HRB.out]); rintro r_ w_ ⟨_, rfl, rfl, hb_⟩; replace hS := hS.ext hb_; clear hb_)
      | (go_at_call 127; refine (HH.out _ _ (kp _ _ hS.ro)).mono ?_; rintro r_ w_ ⟨_, rfl, ⟨c, rfl, hc⟩, hb_⟩; replace hc := HC1.out c hc; rw [decide_eq_true hm] at hc; subst hc; replace hS := hS.ext hb_; clear hb_))
     go_ret2
     exact .inr ⟨x, y, rfl, rfl, hx1.out, hy1.out, hxy.out, .inl ⟨hm, rfl, hS.below⟩⟩
    ·by_cases ht : TC L y x
     ·have HT := Lib.hid ht
      have HC3 : Hid (∀ c : Bool, (c = true ↔ J6 L (y : Nat) (x : Nat)) -> c = true) := Lib.hid fun c hc => (HC2.out c hc).2 ht
      clear ht
      go_enter Tryz.func52, Tryz.ntmps52
      go_wp2_with (first
       | ((with_reducible refine qB ?_); refine qc ?_ ?_ <;> intro h_ <;> go_prune)
       | (go_at_call 126; refine (CD _ _).mono ?_; (first | rw [HRA.out] | rw [HRB.out]); rintro r_ w_ ⟨_, rfl, rfl, hb_⟩; replace hS := hS.ext hb_; clear hb_)
       | (go_at_call 127; refine (HH.out _ _ (kp _ _ hS.ro)).mono ?_; rintro r_ w_ ⟨_, rfl, ⟨c, rfl, hc⟩, hb_⟩; replace hc := HC1.out c hc; rw [decide_eq_false hm] at hc; subst hc; replace hS := hS.ext hb_; clear hb_)
       | (go_at_call 83; refine (HI.out _ _ (kp _ _ hS.ro)).mono ?_; rintro r_ w_ ⟨_, rfl, ⟨c, rfl, hc⟩, hb_⟩; obtain rfl := HC3.out c hc; clear hc; replace hS := hS.ext hb_; clear hb_))
      go_ret2
      exact .inr ⟨x, y, rfl, rfl, hx1.out, hy1.out, hxy.out, .inr (.inl ⟨hm, HT.out, rfl, hS.below⟩)⟩
     ·have HT := Lib.hid ht
      have HC3 : Hid (∀ c : Bool, (c = true ↔ J6 L (y : Nat) (x : Nat)) -> c = false) := Lib.hid fun c hc => by
       cases c with
       | true => exact absurd ((HC2.out true hc).1 rfl) ht
       | false => rfl
      clear ht
      go_enter Tryz.func52, Tryz.ntmps52
      go_wp2_with (first
       | ((with_reducible refine qB ?_); refine qc ?_ ?_ <;> intro h_ <;> go_prune)
       | (go_at_call 126; refine (CD _ _).mono ?_; (first | rw [HRA.out] | rw [HRB.out]); rintro r_ w_ ⟨_, rfl, rfl, hb_⟩; replace hS := hS.ext hb_; clear hb_)
       | (go_at_call 127; refine (HH.out _ _ (kp _ _ hS.ro)).mono ?_; rintro r_ w_ ⟨_, rfl, ⟨c, rfl, hc⟩, hb_⟩; replace hc := HC1.out c hc; rw [decide_eq_false hm] at hc; subst hc; replace hS := hS.ext hb_; clear hb_)
       | (go_at_call 83; refine (HI.out _ _ (kp _ _ hS.ro)).mono ?_; rintro r_ w_ ⟨_, rfl, ⟨c, rfl, hc⟩, hb_⟩; obtain rfl := HC3.out c hc; clear hc; replace hS := hS.ext hb_; clear hb_))
      go_loopw [8] (fun v wr => ∃ i : Nat, v = .int .i64 (i : Nat) /\ i <= L.length /\ Hid (i <= Dm L (x, y)) /\ St w0 wr [] K) (fun v _ => L.length - (intOf v).toNat)
      case atStart => exact ⟨0, rfl, by omega, Lib.hid (Nat.zero_le _), hS⟩
      case round =>
       clear hS HH HI
       obtain ⟨i, rfl, hil, HIA, hS⟩ := hrel
       by_cases hlt : i < L.length
       ·obtain ⟨f1, f2⟩ := Bf L i hlt
        have HST := Lib.hid (ins_at HIA.out (C3 (0, 0) hlt))
        generalize L.getD i (0, 0) = z at *
        obtain ⟨za, zb⟩ := z
        dsimp only at f1 f2
        rcases Nat.lt_trichotomy za x with h1 | h1 | h1
        ·have HN := Lib.hid (HST.out.1 (.inl h1))
         clear HST
         go_wp2_with (first
          | ((with_reducible refine qB ?_); refine qc ?_ ?_ <;> intro h_ <;> go_prune)
          | ((with_reducible refine qI ?_); refine qj hS Tryz.underlying25 ?_; intro b_ j_ hc0_ hc1_)
          | ((with_reducible refine qK ?_); first | refine BigFrame.wpList_want rfl fun _ hK => Ad rfl rfl (by kernel_rfl) hc0_ (hK _ _ ?_) | refine BigFrame.wpList_want rfl fun _ hK => Ad rfl rfl (by kernel_rfl) hc1_ (hK _ _ ?_)))
         exact ⟨⟨i + 1, by go_num, hlt, HN, hS⟩, by simp [intOf]; omega⟩
        ·by_cases h2 : zb < y
         ·have HN := Lib.hid (HST.out.1 (.inr ⟨h1, h2⟩))
          clear HST
          go_wp2_with (first
           | ((with_reducible refine qB ?_); refine qc ?_ ?_ <;> intro h_ <;> go_prune)
           | ((with_reducible refine qI ?_); refine qj hS Tryz.underlying25 ?_; intro b_ j_ hc0_ hc1_)
           | ((with_reducible refine qK ?_); first | refine BigFrame.wpList_want rfl fun _ hK => Ad rfl rfl (by kernel_rfl) hc0_ (hK _ _ ?_) | refine BigFrame.wpList_want rfl fun _ hK => Ad rfl rfl (by kernel_rfl) hc1_ (hK _ _ ?_)))
          exact ⟨⟨i + 1, by go_num, hlt, HN, hS⟩, by simp [intOf]; omega⟩
         ·have HE := Lib.hid (HST.out.2 (by rintro (h | h) <;> dsimp only at h <;> omega))
          clear HST
          go_wp2_with (first
           | ((with_reducible refine qB ?_); refine qc ?_ ?_ <;> intro h_ <;> go_prune)
           | ((with_reducible refine qI ?_); refine qj hS Tryz.underlying25 ?_; intro b_ j_ hc0_ hc1_)
           | ((with_reducible refine qK ?_); first | refine BigFrame.wpList_want rfl fun _ hK => Ad rfl rfl (by kernel_rfl) hc0_ (hK _ _ ?_) | refine BigFrame.wpList_want rfl fun _ hK => Ad rfl rfl (by kernel_rfl) hc1_ (hK _ _ ?_)))
          have hic : i <= c := by omega
          have hJ0 : AJ w0 [] K (BP L (x, y) i) (wr.drew, ⟨[], []⟩) := ⟨hS.drew, Nat.zero_le _⟩
          have hN0 := KA D5 wr.drew
          have hRr := @AR.refl w0 [] K (BP L (x, y) i)
          have hRt := @AR.trans w0 [] K (BP L (x, y) i)
          refine Ed (AR w0 [] K (BP L (x, y) i)) (AN D5) (⟨[], []⟩) hRr hRt [.s (fun v w => Fo w.2 0 v) fun v w w' h hb => h.mono hb.2.1, .i (.slice A L.length c), .n ((i : Nat) : Int), .i (.slice A i c), .s (fun v w => Fo w.2 1 v) fun v w w' h hb => h.mono hb.2.1, .n ((x : Nat) : Int), .n ((y : Nat) : Int), .i (.agg #[.int .i64 ((x : Nat) : Int), .int .i64 ((y : Nat) : Int)]), .s (fun v w => (0, v) ∈ w.2.b) fun v w w' h hb => hb.2.2 _ h, .s (fun v w => Fo w.2 2 v) fun v w w' h hb => h.mono hb.2.1, .i (.slice A L.length c), .n ((i : Nat) : Int), .i (sliced A i L.length c 2), .s (fun v w => Fo w.2 3 v) fun v w w' h hb => h.mono hb.2.1, .s (fun v w => Fo w.2 3 v) fun v w w' h hb => h.mono hb.2.1, .n 0] ?_ ⟨?_, uM, uM, ?_, ?_, uM, uM, ?_, ?_, ?_, uM, uM, ?_, ?_, uA, uA, trivial⟩ ?_
          ·first | assumption | (intro i; (try dsimp only); split <;> first | trivial | assumption | (left; assumption))
          ·refine uG fun b__ w hW hN hE K hK => ?_
           exact FN (kd := D5) (by decide) rfl rfl Tryz.underlying25 (by kernel_rfl) hN rfl rfl (show 0 < 4 by decide) hK
          ·refine uG fun b__ w hW hN hE K hK => ?_
           have e67 := hE 67
           have e68 := hE 68
           exact opw_slh rfl Tryz.underlying25 ⟨2, by kernel_rfl⟩ e67 e68 hic (hK _ _ rfl ⟨hRr _, fun _ _ h => h⟩)
          ·refine uG fun b__ w hW hN hE K hK => ?_
           have e66 := hE 66
           have e69 := hE 69
           exact BA (kd := D5) (by decide) rfl rfl Cx hN e66 (hW.1 hJ0) (by rw [e69]; exact JJ (kp _ _ (hW.1 hJ0).1.ro) hil) (fun u hu => BL L u (List.mem_of_mem_take hu)) rfl rfl (by simp [BP]; omega) (by simp [BP]; omega) (show 0 + 1 < 4 by decide) hK
          ·refine uG fun b__ w hW hN hE K hK => ?_
           have e71 := hE 71
           have e72 := hE 72
           exact Ch rfl (ps := [(0, .int .i64 ((x : Nat) : Int)), (1, .int .i64 ((y : Nat) : Int))]) (cells := #[.int .i64 ((x : Nat) : Int), .int .i64 ((y : Nat) : Int)]) (by simp [e71, e72]) (by kernel_rfl) (hK _ _ rfl ⟨hRr _, fun _ _ h => h⟩)
          ·refine uG fun b__ w hW hN hE K hK => ?_
           have e73 := hE 73
           exact GF (kd := D5) (by decide) rfl rfl Tryz.underlying25 (ps := [(0, .agg #[.int .i64 ((x : Nat) : Int), .int .i64 ((y : Nat) : Int)])]) (cells := #[.int .i64 ((x : Nat) : Int), .int .i64 ((y : Nat) : Int)]) (by simp [e73]) (by kernel_rfl) (fun _ => rfl) rfl (by decide) hK
          ·refine uG fun b__ w hW hN hE K hK => ?_
           have e70 := hE 70
           have e74 := hE 74
           exact BA (kd := D5) (by decide) rfl rfl Cx hN e70 (hW.1 hJ0) (Sl.of_own ((hW.1 hJ0).side e74)) (BL [(x, y)]) rfl rfl (by simp [BP]; omega) (by simp [BP]; omega) (show 1 + 1 < 4 by decide) hK
          ·refine uG fun b__ w hW hN hE K hK => ?_
           have e76 := hE 76
           have e77 := hE 77
           exact opw_sll rfl Tryz.underlying25 (by kernel_rfl) e76 e77 hil hc1 (hK _ _ rfl ⟨hRr _, fun _ _ h => h⟩)
          ·refine uG fun b__ w hW hN hE K hK => ?_
           have e75 := hE 75
           have e78 := hE 78
           exact BA (kd := D5) (by decide) rfl rfl Cx hN e75 (hW.1 hJ0) (by rw [e78]; exact JK (kp _ _ (hW.1 hJ0).1.ro) hil) (fun u hu => BL L u (List.mem_of_mem_drop hu)) rfl rfl (by simp [BP]; omega) (by simp [BP]; omega) (show 2 + 1 < 4 by decide) hK
          ·intro vs wz hW hT
           obtain ⟨e66, e67, e68, e69, e70, e71, e72, e73, e74, e75, e76, e77, e78, e79, e6, e7, -⟩ := hT
           have bx : (fun _ : Nat => True) 0 := trivial
           simp only [AL, Act.put, zz, ze]
           have hJ := (hW.1 hJ0).last e6 rfl
           replace hJ : St w0 wz.1 [.own (vs 6) 107 2 (L.length + 1) (A6 (ins L (x, y)))] fun _ _ => True := by
            have e1 : 0 + i + 1 + (L.length - i) = L.length + 1 := by omega
            have e2 : [] ++ (A6 L).take (i * 2) ++ A6 [(x, y)] ++ (A6 L).drop (i * 2) = A6 (ins L (x, y)) := by
             rw [List.nil_append, Eg, FF, <- Dc, <- Dc, ins, <- HE.out, List.append_assoc]; rfl
            simp only [BP] at hJ
            rw [e1, e2] at hJ
            exact hJ.mono (AF.pure True) fun _ _ _ => trivial
           rw [e7]
           generalize vs 6 = v6 at *
           generalize wz.1 = wf at *
           clear hW hJ0 hRr hRt e6 e7
           go_wp2_with fail
           all_goals
            go_ret2
            exact .inr ⟨x, y, rfl, rfl, hx1.out, hy1.out, hxy.out, .inr (.inr ⟨hm, HT.out, _, rfl, hJ⟩)⟩
        ·have HE := Lib.hid (HST.out.2 (by rintro (h | h) <;> dsimp only at h <;> omega))
         clear HST
         go_wp2_with (first
          | ((with_reducible refine qB ?_); refine qc ?_ ?_ <;> intro h_ <;> go_prune)
          | ((with_reducible refine qI ?_); refine qj hS Tryz.underlying25 ?_; intro b_ j_ hc0_ hc1_)
          | ((with_reducible refine qK ?_); first | refine BigFrame.wpList_want rfl fun _ hK => Ad rfl rfl (by kernel_rfl) hc0_ (hK _ _ ?_) | refine BigFrame.wpList_want rfl fun _ hK => Ad rfl rfl (by kernel_rfl) hc1_ (hK _ _ ?_)))
         have hic : i <= c := by omega
         have hJ0 : AJ w0 [] K (BP L (x, y) i) (wr.drew, ⟨[], []⟩) := ⟨hS.drew, Nat.zero_le _⟩
         have hN0 := KA D5 wr.drew
         have hRr := @AR.refl w0 [] K (BP L (x, y) i)
         have hRt := @AR.trans w0 [] K (BP L (x, y) i)
         refine Ed (AR w0 [] K (BP L (x, y) i)) (AN D5) (⟨[], []⟩) hRr hRt [.s (fun v w => Fo w.2 0 v) fun v w w' h hb => h.mono hb.2.1, .i (.slice A L.length c), .n ((i : Nat) : Int), .i (.slice A i c), .s (fun v w => Fo w.2 1 v) fun v w w' h hb => h.mono hb.2.1, .n ((x : Nat) : Int), .n ((y : Nat) : Int), .i (.agg #[.int .i64 ((x : Nat) : Int), .int .i64 ((y : Nat) : Int)]), .s (fun v w => (0, v) ∈ w.2.b) fun v w w' h hb => hb.2.2 _ h, .s (fun v w => Fo w.2 2 v) fun v w w' h hb => h.mono hb.2.1, .i (.slice A L.length c), .n ((i : Nat) : Int), .i (sliced A i L.length c 2), .s (fun v w => Fo w.2 3 v) fun v w w' h hb => h.mono hb.2.1, .s (fun v w => Fo w.2 3 v) fun v w w' h hb => h.mono hb.2.1, .n 0] ?_ ⟨?_, uM, uM, ?_, ?_, uM, uM, ?_, ?_, ?_, uM, uM, ?_, ?_, uA, uA, trivial⟩ ?_
         ·first | assumption | (intro i; (try dsimp only); split <;> first | trivial | assumption | (left; assumption))
         ·refine uG fun b__ w hW hN hE K hK => ?_
          exact FN (kd := D5) (by decide) rfl rfl Tryz.underlying25 (by kernel_rfl) hN rfl rfl (show 0 < 4 by decide) hK
         ·refine uG fun b__ w hW hN hE K hK => ?_
          have e67 := hE 67
          have e68 := hE 68
          exact opw_slh rfl Tryz.underlying25 ⟨2, by kernel_rfl⟩ e67 e68 hic (hK _ _ rfl ⟨hRr _, fun _ _ h => h⟩)
         ·refine uG fun b__ w hW hN hE K hK => ?_
          have e66 := hE 66
          have e69 := hE 69
          exact BA (kd := D5) (by decide) rfl rfl Cx hN e66 (hW.1 hJ0) (by rw [e69]; exact JJ (kp _ _ (hW.1 hJ0).1.ro) hil) (fun u hu => BL L u (List.mem_of_mem_take hu)) rfl rfl (by simp [BP]; omega) (by simp [BP]; omega) (show 0 + 1 < 4 by decide) hK
         ·refine uG fun b__ w hW hN hE K hK => ?_
          have e71 := hE 71
          have e72 := hE 72
          exact Ch rfl (ps := [(0, .int .i64 ((x : Nat) : Int)), (1, .int .i64 ((y : Nat) : Int))]) (cells := #[.int .i64 ((x : Nat) : Int), .int .i64 ((y : Nat) : Int)]) (by simp [e71, e72]) (by kernel_rfl) (hK _ _ rfl ⟨hRr _, fun _ _ h => h⟩)
         ·refine uG fun b__ w hW hN hE K hK => ?_
          have e73 := hE 73
          exact GF (kd := D5) (by decide) rfl rfl Tryz.underlying25 (ps := [(0, .agg #[.int .i64 ((x : Nat) : Int), .int .i64 ((y : Nat) : Int)])]) (cells := #[.int .i64 ((x : Nat) : Int), .int .i64 ((y : Nat) : Int)]) (by simp [e73]) (by kernel_rfl) (fun _ => rfl) rfl (by decide) hK
         ·refine uG fun b__ w hW hN hE K hK => ?_
          have e70 := hE 70
          have e74 := hE 74
          exact BA (kd := D5) (by decide) rfl rfl Cx hN e70 (hW.1 hJ0) (Sl.of_own ((hW.1 hJ0).side e74)) (BL [(x, y)]) rfl rfl (by simp [BP]; omega) (by simp [BP]; omega) (show 1 + 1 < 4 by decide) hK
         ·refine uG fun b__ w hW hN hE K hK => ?_
          have e76 := hE 76
          have e77 := hE 77
          exact opw_sll rfl Tryz.underlying25 (by kernel_rfl) e76 e77 hil hc1 (hK _ _ rfl ⟨hRr _, fun _ _ h => h⟩)
         ·refine uG fun b__ w hW hN hE K hK => ?_
          have e75 := hE 75
          have e78 := hE 78
          exact BA (kd := D5) (by decide) rfl rfl Cx hN e75 (hW.1 hJ0) (by rw [e78]; exact JK (kp _ _ (hW.1 hJ0).1.ro) hil) (fun u hu => BL L u (List.mem_of_mem_drop hu)) rfl rfl (by simp [BP]; omega) (by simp [BP]; omega) (show 2 + 1 < 4 by decide) hK
         ·intro vs wz hW hT
          obtain ⟨e66, e67, e68, e69, e70, e71, e72, e73, e74, e75, e76, e77, e78, e79, e6, e7, -⟩ := hT
          have bx : (fun _ : Nat => True) 0 := trivial
          simp only [AL, Act.put, zz, ze]
          have hJ := (hW.1 hJ0).last e6 rfl
          replace hJ : St w0 wz.1 [.own (vs 6) 107 2 (L.length + 1) (A6 (ins L (x, y)))] fun _ _ => True := by
           have e1 : 0 + i + 1 + (L.length - i) = L.length + 1 := by omega
           have e2 : [] ++ (A6 L).take (i * 2) ++ A6 [(x, y)] ++ (A6 L).drop (i * 2) = A6 (ins L (x, y)) := by
            rw [List.nil_append, Eg, FF, <- Dc, <- Dc, ins, <- HE.out, List.append_assoc]; rfl
           simp only [BP] at hJ
           rw [e1, e2] at hJ
           exact hJ.mono (AF.pure True) fun _ _ _ => trivial
          rw [e7]
          generalize vs 6 = v6 at *
          generalize wz.1 = wf at *
          clear hW hJ0 hRr hRt e6 e7
          go_wp2_with fail
          all_goals
           go_ret2
           exact .inr ⟨x, y, rfl, rfl, hx1.out, hy1.out, hxy.out, .inr (.inr ⟨hm, HT.out, _, rfl, hJ⟩)⟩
       ·have HE : Hid (i = Dm L (x, y)) := Lib.hid (Nat.le_antisymm HIA.out (by have := insAt_le L (x, y); omega))
        go_wp2_with (first | ((with_reducible refine qB ?_); refine qc ?_ ?_ <;> intro h_ <;> go_prune))
        have hic : i <= c := by omega
        have hJ0 : AJ w0 [] K (BP L (x, y) i) (wr.drew, ⟨[], []⟩) := ⟨hS.drew, Nat.zero_le _⟩
        have hN0 := KA D5 wr.drew
        have hRr := @AR.refl w0 [] K (BP L (x, y) i)
        have hRt := @AR.trans w0 [] K (BP L (x, y) i)
        refine Ed (AR w0 [] K (BP L (x, y) i)) (AN D5) (⟨[], []⟩) hRr hRt [.s (fun v w => Fo w.2 0 v) fun v w w' h hb => h.mono hb.2.1, .i (.slice A L.length c), .n ((i : Nat) : Int), .i (.slice A i c), .s (fun v w => Fo w.2 1 v) fun v w w' h hb => h.mono hb.2.1, .n ((x : Nat) : Int), .n ((y : Nat) : Int), .i (.agg #[.int .i64 ((x : Nat) : Int), .int .i64 ((y : Nat) : Int)]), .s (fun v w => (0, v) ∈ w.2.b) fun v w w' h hb => hb.2.2 _ h, .s (fun v w => Fo w.2 2 v) fun v w w' h hb => h.mono hb.2.1, .i (.slice A L.length c), .n ((i : Nat) : Int), .i (sliced A i L.length c 2), .s (fun v w => Fo w.2 3 v) fun v w w' h hb => h.mono hb.2.1, .s (fun v w => Fo w.2 3 v) fun v w w' h hb => h.mono hb.2.1, .n 0] ?_ ⟨?_, uM, uM, ?_, ?_, uM, uM, ?_, ?_, ?_, uM, uM, ?_, ?_, uA, uA, trivial⟩ ?_
        ·first | assumption | (intro i; (try dsimp only); split <;> first | trivial | assumption | (left; assumption))
        ·refine uG fun b__ w hW hN hE K hK => ?_
         exact FN (kd := D5) (by decide) rfl rfl Tryz.underlying25 (by kernel_rfl) hN rfl rfl (show 0 < 4 by decide) hK
        ·refine uG fun b__ w hW hN hE K hK => ?_
         have e67 := hE 67
         have e68 := hE 68
         exact opw_slh rfl Tryz.underlying25 ⟨2, by kernel_rfl⟩ e67 e68 hic (hK _ _ rfl ⟨hRr _, fun _ _ h => h⟩)
        ·refine uG fun b__ w hW hN hE K hK => ?_
         have e66 := hE 66
         have e69 := hE 69
         exact BA (kd := D5) (by decide) rfl rfl Cx hN e66 (hW.1 hJ0) (by rw [e69]; exact JJ (kp _ _ (hW.1 hJ0).1.ro) hil) (fun u hu => BL L u (List.mem_of_mem_take hu)) rfl rfl (by simp [BP]; omega) (by simp [BP]; omega) (show 0 + 1 < 4 by decide) hK
        ·refine uG fun b__ w hW hN hE K hK => ?_
         have e71 := hE 71
         have e72 := hE 72
         exact Ch rfl (ps := [(0, .int .i64 ((x : Nat) : Int)), (1, .int .i64 ((y : Nat) : Int))]) (cells := #[.int .i64 ((x : Nat) : Int), .int .i64 ((y : Nat) : Int)]) (by simp [e71, e72]) (by kernel_rfl) (hK _ _ rfl ⟨hRr _, fun _ _ h => h⟩)
        ·refine uG fun b__ w hW hN hE K hK => ?_
         have e73 := hE 73
         exact GF (kd := D5) (by decide) rfl rfl Tryz.underlying25 (ps := [(0, .agg #[.int .i64 ((x : Nat) : Int), .int .i64 ((y : Nat) : Int)])]) (cells := #[.int .i64 ((x : Nat) : Int), .int .i64 ((y : Nat) : Int)]) (by simp [e73]) (by kernel_rfl) (fun _ => rfl) rfl (by decide) hK
        ·refine uG fun b__ w hW hN hE K hK => ?_
         have e70 := hE 70
         have e74 := hE 74
         exact BA (kd := D5) (by decide) rfl rfl Cx hN e70 (hW.1 hJ0) (Sl.of_own ((hW.1 hJ0).side e74)) (BL [(x, y)]) rfl rfl (by simp [BP]; omega) (by simp [BP]; omega) (show 1 + 1 < 4 by decide) hK
        ·refine uG fun b__ w hW hN hE K hK => ?_
         have e76 := hE 76
         have e77 := hE 77
         exact opw_sll rfl Tryz.underlying25 (by kernel_rfl) e76 e77 hil hc1 (hK _ _ rfl ⟨hRr _, fun _ _ h => h⟩)
        ·refine uG fun b__ w hW hN hE K hK => ?_
         have e75 := hE 75
         have e78 := hE 78
         exact BA (kd := D5) (by decide) rfl rfl Cx hN e75 (hW.1 hJ0) (by rw [e78]; exact JK (kp _ _ (hW.1 hJ0).1.ro) hil) (fun u hu => BL L u (List.mem_of_mem_drop hu)) rfl rfl (by simp [BP]; omega) (by simp [BP]; omega) (show 2 + 1 < 4 by decide) hK
        ·intro vs wz hW hT
         obtain ⟨e66, e67, e68, e69, e70, e71, e72, e73, e74, e75, e76, e77, e78, e79, e6, e7, -⟩ := hT
         have bx : (fun _ : Nat => True) 0 := trivial
         simp only [AL, Act.put, zz, ze]
         have hJ := (hW.1 hJ0).last e6 rfl
         replace hJ : St w0 wz.1 [.own (vs 6) 107 2 (L.length + 1) (A6 (ins L (x, y)))] fun _ _ => True := by
          have e1 : 0 + i + 1 + (L.length - i) = L.length + 1 := by omega
          have e2 : [] ++ (A6 L).take (i * 2) ++ A6 [(x, y)] ++ (A6 L).drop (i * 2) = A6 (ins L (x, y)) := by
           rw [List.nil_append, Eg, FF, <- Dc, <- Dc, ins, <- HE.out, List.append_assoc]; rfl
          simp only [BP] at hJ
          rw [e1, e2] at hJ
          exact hJ.mono (AF.pure True) fun _ _ _ => trivial
         rw [e7]
         generalize vs 6 = v6 at *
         generalize wz.1 = wf at *
         clear hW hJ0 hRr hRt e6 e7
         go_wp2_with fail
         all_goals
          go_ret2
          exact .inr ⟨x, y, rfl, rfl, hx1.out, hy1.out, hxy.out, .inr (.inr ⟨hm, HT.out, _, rfl, hJ⟩)⟩
  ·have HRB := Lib.hid (decide_eq_false hrb)
   have HNO : Hid (¬ twoR a b) := Lib.hid fun h => hrb h.2.1
   go_enter Tryz.func52, Tryz.ntmps52
   go_wp2_with (first
    | ((with_reducible refine qB ?_); refine qc ?_ ?_ <;> intro h_ <;> go_prune)
    | (go_at_call 126; refine (CD _ _).mono ?_; (first | rw [HRA.out] | rw [HRB.out]); rintro r_ w_ ⟨_, rfl, rfl, hb_⟩; replace hS := hS.ext hb_; clear hb_))
   go_ret2
   exact .inl ⟨HNO.out, rfl, hS.below⟩
 ·have HRA := Lib.hid (decide_eq_false hra)
  have HRB := HRA
  have HNO : Hid (¬ twoR a b) := Lib.hid fun h => hra h.1
  go_enter Tryz.func52, Tryz.ntmps52
  go_wp2_with (first
   | ((with_reducible refine qB ?_); refine qc ?_ ?_ <;> intro h_ <;> go_prune)
   | (go_at_call 126; refine (CD _ _).mono ?_; (first | rw [HRA.out] | rw [HRB.out]); rintro r_ w_ ⟨_, rfl, rfl, hb_⟩; replace hS := hS.ext hb_; clear hb_))
  go_ret2
  exact .inl ⟨HNO.out, rfl, hS.below⟩
end
section
open Go.RowKit
attribute [local go_sem ↓] Go.wp_at_zero Go.wp_at_succ
set_option maxRecDepth 20000
set_option exponentiation.threshold 5000
noncomputable def closPre (L : List (Nat × Nat)) (pre : List Int) : Nat := pre.foldl (fun m x => m ||| junR L x) 0
theorem closPre_snoc (L : List (Nat × Nat)) (pre : List Int) (x : Int) : closPre L (pre ++ [x]) = closPre L pre ||| junR L x := by
 unfold closPre; rw [List.foldl_append]; rfl
theorem tb_foldor (f : Int -> Nat) (i : Nat) : ∀ (l : List Int) (m : Nat), (l.foldl (fun m x => m ||| f x) m).testBit i = true ↔ m.testBit i = true \/ ∃ x ∈ l, (f x).testBit i = true
 | [], m => by simp
 | x :: l, m => by
  rw [List.foldl_cons, tb_foldor f i l, JD]
  constructor
  ·rintro ((h | h) | ⟨y, h1, h2⟩)
   ·exact .inl h
   ·exact .inr ⟨x, List.mem_cons_self .., h⟩
   ·exact .inr ⟨y, List.mem_cons_of_mem _ h1, h2⟩
  ·rintro (h | ⟨y, h1, h2⟩)
   ·exact .inl (.inl h)
   ·rcases List.mem_cons.1 h1 with rfl | h1
    ·exact .inl (.inr h2)
    ·exact .inr ⟨y, h1, h2⟩
theorem closPre_full {L : List (Nat × Nat)} {ws : List Nat} (hw : Ak ws) : closPre L (D4 ws) = closM L (BS ws) := Cy fun i => by
 unfold closPre closM
 rw [tb_foldor, Iu, Nat.zero_testBit]
 constructor
 ·rintro (h | ⟨x, h1, h2⟩)
  ·cases h
  ·obtain ⟨k, rfl⟩ := memL_nat h1
   have h3 := (Hz hw).1 h1
   unfold junR at h2
   split at h2
   ·rename_i h4
    exact ⟨k, by omega, by omega, h3, by simpa using h2⟩
   ·rw [Nat.zero_testBit] at h2; cases h2
 ·rintro ⟨r, h1, h2, h3, h4⟩
  refine .inr ⟨(r : Int), (Hz hw).2 h3, ?_⟩
  rw [junR, if_pos (by omega), Int.toNat_natCast]
  exact h4
set_option maxHeartbeats 2000000 in
theorem hclos_any {w0 : World} {D E : Nat -> Prop} {p v : Value} {L : List (Nat × Nat)} {N : Nat} (h : Il w0 D p L) (hT : Cw w0) (hH : Gi L) (hv : A5 w0 E v N) : Calls Tryz.prog 26 #[p, v] w0 (Ax (fun x w' => A5 w' (w0.heap.size <= ·) x (closM L N)) w0) := by
 obtain ⟨q, o, rfl, hX⟩ := h
 obtain ⟨A, c, l, rfl, hl, rfl, _, _, hs⟩ := hv.parts
 obtain ⟨K, k1, ko, kt, hS⟩ : ∃ K : (Nat -> Prop) -> World -> Prop, (∀ D w, K D w -> A5 w D (.agg #[.slice A l.length c]) (BS l)) /\ (∀ D w, K D w -> HierX q o L D w) /\ (∀ D w, K D w -> Cw w /\ D 0) /\ St w0 w0 [] K :=
  ⟨fun D w => (A5 w D (.agg #[.slice A l.length c]) (BS l) /\ HierX q o L D w) /\ Cw w /\ D 0, fun _ _ h => h.1.1, fun _ _ h => h.1.2, fun _ _ h => h.2, St.start (D := fun _ => True) ((Ah.and DJ).and Ek) ⟨⟨hv.imp fun _ _ _ => trivial, DJ D _ w0 w0 hX (Nat.le_refl _) (fun _ _ _ _ h => h) fun _ _ _ _ => trivial⟩, hT, trivial⟩⟩
 have HH := Lib.hid hH
 clear hs hv hT hX hH
 refine (callsIn_wide (n := 6)).1 (callsIn_of_wp_marks Tryz.func26 rfl trivial ?_ rfl)
 simp only [Tryz.ntmps26, List.size_toArray, List.length_cons, List.length_nil, Nat.reduceAdd, Nat.reduceSub, Array.replicate_succ, Array.replicate_zero, List.push_toArray, List.append_toArray, List.nil_append, List.cons_append]
 refine wpIn_wide.2 ?_
 go_wp2_with (first
  | ((with_reducible refine qA 2 ?_); refine AH hS rfl _ _ rfl (.pointer (some ⟨q, 0, none⟩)) _ rfl rfl ?_; clear hS; intro g2 w_ hS; (try simp only [Act.put, Act.eval, zz, Value.cells] at hS))
  | ((with_reducible refine qA 3 ?_); refine AH hS rfl _ _ rfl (.agg #[.slice A l.length c]) _ rfl rfl ?_; clear hS; intro g3 w_ hS; (try simp only [Act.put, Act.eval, zz, Value.cells] at hS))
  | ((with_reducible refine qA 4 ?_); refine qa hS #[.slice none 0 0] ?_; clear hS; intro g4 w_ hS)
  | ((with_reducible refine qA 5 ?_); refine qa hS #[.slice none 0 0] ?_; clear hS; intro g5 w_ hS)
  | ((with_reducible refine qK ?_); refine qL hS Tryz.underlying39 ?_))
 refine (sall_any _ _ _ _ (k1 _ _ hS.ro)).mono ?_
 rintro e w3 ⟨_, rfl, ⟨Bs, A', cap, ws, rfl, e1, hcn, hvN, hsl, hBs, hX⟩, hb3⟩
 obtain rfl := canon_eq hcn hl hvN
 obtain ⟨rfl, rfl⟩ : A = A' /\ c = cap := by simpa using e1
 clear e1 hvN
 obtain ⟨hT, hT0⟩ := kt _ _ hS.ro
 replace hS := hS.good hb3 hsl hT hT0 hBs hX
 obtain ⟨KK, ko, kG, KKS, hS⟩ : ∃ KK : (Nat -> Prop) -> World -> Prop, (∀ D w, KK D w -> HierX q o L D w) /\ (∀ D w, KK D w -> Jl Bs A c ws w) /\ AF KK /\ St w0 w3 [.box g5 39 #[.slice none 0 0], .box g4 39 #[.slice none 0 0], .box g3 39 #[.slice A ws.length c], .box g2 36 #[.pointer (some ⟨q, 0, none⟩)]] KK := ⟨_, fun D w h => ko D w h.1, fun D w h => h.2.1, hS.stable, hS⟩
 have HCN := Lib.hid hcn
 have HCF := Lib.hid (closPre_full (L := L) hcn.1)
 clear hsl hX hT hT0 hb3 kt k1 hcn hl
 go_wp2_with fail
 have hsz := hS.size
 refine (wpIn_wide (n := 6)).1 ?_
 refine wpIn_act fun act hact => ?_
 refine JY hS HCN.out.1 HCN.out.2.2 kG (by rw [hact]; rfl) rfl
  (fun pre F' K' => ∃ u, F' = [.box g5 39 #[u], .box g4 39 #[.slice none 0 0], .box g3 39 #[.slice A ws.length c], .box g2 36 #[.pointer (some ⟨q, 0, none⟩)]] /\ AF K' /\ ∀ D w, K' D w -> KK D w /\ A5 w (fun z => D z /\ w0.heap.size <= z) (.agg #[u]) (closPre L pre))
  (fun _ _ _ _ => False) (fun s F K' h D w hk => by obtain ⟨_, _, _, h4⟩ := h; exact (h4 D w hk).1) ?hr (fun _ _ _ _ h => h.elim) ⟨_, rfl, KKS, fun D w h => ⟨h, A5.empty⟩⟩
  (fun x => { tmps := (act.tmps.setIfInBounds 9 (.int .i64 x)).setIfInBounds 6 (.int .i64 x), defers := [] }) ?assign ?body ?done (fun _ _ _ _ _ _ _ _ h _ _ => h.elim)
 case hr =>
  rintro s F K' ⟨u, rfl, _⟩ f hf
  simp only [List.mem_cons, List.not_mem_nil, or_false] at hf
  rcases hf with rfl | rfl | rfl | rfl <;> exact .inl rfl
 case assign =>
  intro l x W K hK
  subst hact
  rw [zip_one]
  refine wpIn_region_lit ?_
  refine listIn_of (by intro _ _ h; exact h) _ _ _ (by rfl) _ _ ?_
  refine wpList_plain rfl fun _ hK' => Dr (v := .int .i64 x) rfl (by rfl) (hK' _ _ ?_)
  exact wpList_nil hK
 case body =>
  rintro l pre x hx W F' Xo K' ⟨ub, rfl, hKs, hk'⟩ hS hlt
  subst hact
  have HW := Lib.hid (closPre_snoc L pre x)
  generalize closPre L pre = N0 at *
  have HKP := Lib.hid hk'
  have hWs : W.heap.size <= W.heap.size := Nat.le_refl _
  clear hx hk'
  simp only [Act.put, List.setIfInBounds_toArray, List.set_cons_zero, List.set_cons_succ]
  refine wpIn_block ?_
  refine Fp (by kernel_rfl) (by intro _ _ h; exact h) (by rfl) ?_
  refine any_zL 5 [] [.i (.agg #[ub]), .q q 0, .n x, .s (fun v w => A5 w (fun _ => True) v (junR L x)) fun v w w' h hb => h.ext hb, .s (fun v w => ∃ u, v = .agg #[u] /\ u.oneCell' = true /\ A5 w (fun z => W.heap.size <= z) (.agg #[u]) (N0 ||| junR L x)) fun v w w' h hb => ⟨_, h.choose_spec.1, h.choose_spec.2.1, h.choose_spec.2.2.ext hb⟩, .t] ⟨uR (h := fun w hW hN => (hS.ext hW).box 0 rfl), uC (h := fun w hW hN => ((hS.ext hW).box 3 rfl).cell 0), uM, ?_, ?_, trivial⟩ ?_
  ·refine uT fun b__ w hW hE K hK => ?_
   have e11 := hE 11
   have e12 := hE 12
   refine AV rfl (by kernel_rfl) (by simp only [List.map_cons, List.map_nil, e11, e12]) (hjun_any (w0 := w) ⟨q, o, rfl, ko _ _ (HKP.out _ _ (hS.ext hW).ro.1).1⟩ HH.out x) fun v w' h hb => ?_
   exact hK v w' (h.imp fun _ _ _ => trivial) hb
  ·refine uT fun b__ w hW hE K hK => ?_
   have e10 := hE 10
   have e13 := hE 13
   refine AV rfl (by kernel_rfl) (by simp only [List.map_cons, List.map_nil, e10]) (or_any (.agg #[ub]) _ N0 _ w _ _ (HKP.out _ _ (hS.ext hW).ro.1).2 e13) fun v w' h hb => ?_
   obtain ⟨u, rfl, h1⟩ := FY h
   exact hK _ w' ⟨u, rfl, h1, h.imp fun z hz _ => Nat.le_trans hW.size hz⟩ hb
  ·intro vs wz hW hT
   obtain ⟨e10, e11, e12, e13, e14, -⟩ := hT
   have bx : (fun _ : Nat => True) 0 := trivial
   simp only [AL, Act.put, zz, ze]
   (intro o_ ho_; simp only [List.getElem?_toArray, List.getElem?_cons_succ, List.getElem?_cons_zero, Option.some.injEq] at ho_; subst ho_)
   obtain ⟨un, e14, hu1, hun⟩ := e14
   have hsW := hS.size
   have hS1 := hS.ret hW (H7 (Ah (v := .agg #[un]) (N := N0 ||| junR L x)) fun z => w0.heap.size <= z) (hun.imp fun z hz _ => ⟨hz, Nat.le_trans hsW hz⟩)
   refine CW rfl rfl e14 (hS1.box 0 rfl) (by kernel_rfl) rfl (by simpa using hu1) fun w4 h1 hU => ?_
   have hS2 := (hS1.upd 0 rfl (.box g5 39 #[un]) (Bv hU) ⟨(hS1.holds (.box g5 39 #[ub]) (by simp)).1, h1⟩ fun _ e => .inl e)
   refine ⟨_, _, ⟨un, rfl, hS2.stable, fun D w h => ⟨(HKP.out D w h.1.1).1, by rw [HW.out]; exact h.2⟩⟩, by rw [hU.size]; exact hW.size, hS2⟩
 case done =>
  rintro D W F' K' hD ⟨u, rfl, hKs, hk'⟩ hS hK
  subst hact
  obtain ⟨A3, c3, l3, he, -⟩ := ((hk' _ _ hS.ro).2).parts
  obtain rfl : u = .slice A3 l3.length c3 := by injection he with he; simpa using he
  clear he
  have hM := hS.mark hsz hD (by
   intro f hf
   simp only [List.mem_cons, List.not_mem_nil, or_false] at hf
   rcases hf with rfl | rfl | rfl | rfl <;> exact .inl rfl) hK rfl
  have HKP := Lib.hid hk'
  clear hk' hS hK
  have hS := hM
  clear hM
  simp only [List.cons_append, List.nil_append] at hS
  go_wp2_with (first
   | ((with_reducible refine qK ?_); refine qL hS Tryz.underlying39 ?_)
   | ((with_reducible refine qM ?_); (first | refine qS hS ?_ | refine qT hS ?_); clear hS; intro w_ hS; (try simp only [Act.put, Act.eval, zz, Value.cells] at hS)))
  refine F9 (F := [.box g5 39 #[.slice A3 l3.length c3], .box g4 39 #[.slice A3 l3.length c3], .box g3 39 #[.slice A ws.length c], .box g2 36 #[.pointer (some ⟨q, 0, none⟩)]]) ?_ [D] _ hS
  intro w' h
  refine ⟨_, results_cell_row rfl _ _ g4 39 _ (0, 0) _ rfl (h.box 1 rfl) Tryz.underlying39 rfl (by kernel_rfl), ?_⟩
  exact Ax.mk (by rw [<- HCF.out]; exact (HKP.out _ _ h.ro).2.imp fun z hz _ => hz.2) h.below
end
section
open Go.RowKit
attribute [local go_sem ↓] Go.wp_at_zero Go.wp_at_succ
set_option maxRecDepth 20000
def AM (l : List (Nat × Nat)) : List Value := l.flatMap fun z => [.int .u64 (z.1 : Nat), .int .u64 (z.2 : Nat)]
theorem EJ (l : List (Nat × Nat)) (k : Nat) (h : k < l.length) : (AM l)[k * 2]? = some (.int .u64 ((l.getD k (0, 0)).1 : Nat)) /\ (AM l)[k * 2 + 1]? = some (.int .u64 ((l.getD k (0, 0)).2 : Nat)) := by
 induction l generalizing k with
 | nil => simp at h
 | cons z r ih =>
  cases k with
  | zero => simp [AM]
  | succ k =>
   have := ih k (by simpa using h)
   rw [show (k + 1) * 2 = k * 2 + 2 by omega]
   simpa [AM] using this
theorem JW (l : List (Nat × Nat)) : ∀ u ∈ AM l, u.oneCell' = true := by
 intro u hu; simp [AM] at hu; obtain ⟨a, b, _, h⟩ := hu; rcases h with rfl | rfl <;> rfl
theorem Dw (a b : List (Nat × Nat)) : AM (a ++ b) = AM a ++ AM b := by simp [AM]
def BN (w : World) (D : Nat -> Prop) (v : Value) (l : List (Nat × Nat)) : Prop := Sl w D 2 v l.length (AM l)
theorem BN.keep {w w' : World} {D : Nat -> Prop} {v : Value} {l : List (Nat × Nat)} (h : BN w D v l) (hsz : w.heap.size <= w'.heap.size) (hk : ∀ p : Addr, D p.block -> p.block < w.heap.size -> w'.cell? p = w.cell? p) : BN w' D v l := Sl.keep h hsz hk
theorem BN.ext {w w' : World} {D : Nat -> Prop} {v : Value} {l : List (Nat × Nat)} (h : BN w D v l) (hb : Below w.heap.size w w') : BN w' D v l := h.keep hb.size fun _ _ hp => hb.cell hp
theorem BN.shape {w : World} {D : Nat -> Prop} {v : Value} {l : List (Nat × Nat)} (h : BN w D v l) : ∃ A c, v = .slice A l.length c /\ l.length <= c /\ c <= 9223372036854775807 := Sl.shape h
theorem BN.at_ {w : World} {D : Nat -> Prop} {A : Option Addr} {c : Nat} {l : List (Nat × Nat)} (h : BN w D (.slice A l.length c) l) {k : Nat} (hk : k < l.length) :
  ∃ b o, A = some ⟨b, o, none⟩ /\ D b /\ b < w.heap.size /\ w.cell? ⟨b, o + k * 2, none⟩ = some (.int .u64 ((l.getD k (0, 0)).1 : Nat)) /\ w.cell? ⟨b, o + k * 2 + 1, none⟩ = some (.int .u64 ((l.getD k (0, 0)).2 : Nat)) := by
 obtain ⟨_, A', c', h1, _, _, h2⟩ := h
 obtain ⟨b, o, h3, h4, h6, h5⟩ := h2 (by omega)
 injection h1 with h1
 obtain ⟨g1, g2⟩ := EJ l k hk
 exact ⟨b, o, h1.trans h3, h4, h6, h5 _ _ g1, by have := h5 _ _ g2; rw [<- Nat.add_assoc] at this; exact this⟩
def Aq (w : World) (D : Nat -> Prop) (xs : List Value) (l : List (Nat × Nat)) : Prop :=
 ∀ i y n, l[i]? = some (y, n) -> ∃ a b, xs[i * 2]? = some a /\ xs[i * 2 + 1]? = some b /\ A5 w D (.agg #[a]) y /\ A5 w D (.agg #[b]) n
theorem Aq.keep {w w' : World} {D : Nat -> Prop} {xs : List Value} {l : List (Nat × Nat)} (h : Aq w D xs l) (hsz : w.heap.size <= w'.heap.size) (hk : ∀ p : Addr, D p.block -> p.block < w.heap.size -> w'.cell? p = w.cell? p) : Aq w' D xs l := fun i y n hi => by
 obtain ⟨a, b, h1, h2, h3, h4⟩ := h i y n hi
 exact ⟨a, b, h1, h2, h3.keep hsz hk, h4.keep hsz hk⟩
theorem Aq.imp {w : World} {D D' : Nat -> Prop} {xs : List Value} {l : List (Nat × Nat)} (h : Aq w D xs l) (hD : ∀ b, D b -> b < w.heap.size -> D' b) : Aq w D' xs l := fun i y n hi => by
 obtain ⟨a, b, h1, h2, h3, h4⟩ := h i y n hi
 exact ⟨a, b, h1, h2, h3.imp hD, h4.imp hD⟩
theorem Aq.ext {w w' : World} {D : Nat -> Prop} {xs : List Value} {l : List (Nat × Nat)} (h : Aq w D xs l) (hb : Below w.heap.size w w') : Aq w' D xs l := h.keep hb.size fun _ _ hp => hb.cell hp
theorem Aq.app {w w' : World} {base : Nat} {v0 v1 : Value} {xs : List Value} {l : List (Nat × Nat)} (h : Aq w (GD base v0) xs l) (hg : w.grownBy w' v0.ownBlock) (hat : ∀ k, v1.ownBlock = some k -> v0.ownBlock = some k \/ w.heap.size <= k) : Aq w' (GD base v1) xs l :=
 ((h.imp (D' := fun b => (base <= b /\ v0.ownBlock ≠ some b) /\ b < w.heap.size) fun _ h1 h2 => ⟨h1, h2⟩).keep hg.size fun _ h1 h2 => Kp hg h2 h1.1.2).imp fun b h1 _ => ⟨h1.1.1, fun e => by
  rcases hat b e with h | h
  ·exact h1.1.2 h
  ·have := h1.2; omega⟩
theorem Aq.nil {w : World} {D : Nat -> Prop} : Aq w D [] [] := fun i y n h => by simp at h
theorem Aq.push {w : World} {D : Nat -> Prop} {xs : List Value} {l : List (Nat × Nat)} {a b : Value} {y n : Nat} (h : Aq w D xs l) (hl : xs.length = l.length * 2) (ha : A5 w D (.agg #[a]) y) (hb : A5 w D (.agg #[b]) n) : Aq w D (xs ++ [a, b]) (l ++ [(y, n)]) := fun i y' n' hi => by
 rcases Nat.lt_or_ge i l.length with hlt | hge
 ·rw [List.getElem?_append_left hlt] at hi
  obtain ⟨a', b', h1, h2, h3, h4⟩ := h i y' n' hi
  exact ⟨a', b', by rw [List.getElem?_append_left (by omega)]; exact h1, by rw [List.getElem?_append_left (by omega)]; exact h2, h3, h4⟩
 ·have hi2 : i = l.length := by
   have := (List.getElem?_eq_some_iff.1 hi).1
   simp at this; omega
  subst hi2
  simp at hi
  obtain ⟨rfl, rfl⟩ := hi
  exact ⟨a, b, by rw [List.getElem?_append_right (by omega), hl]; simp, by rw [List.getElem?_append_right (by omega), show l.length * 2 + 1 - xs.length = 1 by omega]; rfl, ha, hb⟩
theorem Aq.cubes {w : World} {base : Nat} {v : Value} {xs : List Value} {l : List (Nat × Nat)} {e : TypeId} {D : Nat -> Prop} (h : Aq w D xs l) (ho : w.ownsRow base e 2 v l.length xs) (hD : ∀ b, base <= b -> D b) : Ab w D v l := ⟨xs, (Sl.of_own ho).imp fun b h1 _ => hD b h1, h⟩
theorem GY : Bn Tryz.prog 41 56 2 48 := ⟨Tryz.underlying41, by kernel_rfl⟩
theorem DO {α : Type} (l : List α) (k : Nat) (d : α) (h : k < l.length) : l.take (k + 1) = l.take k ++ [l.getD k d] := by
 rw [List.take_succ_eq_append_getElem h, List.getD_eq_getElem?_getD, List.getElem?_eq_getElem h]; rfl
def Small (l : List (Nat × Nat)) : Prop := ∀ z ∈ l, z.1 < AA /\ z.2 < AA
theorem Small.at_ {l : List (Nat × Nat)} (h : Small l) (k : Nat) (hk : k < l.length) : (l.getD k (0, 0)).1 < AA /\ (l.getD k (0, 0)).2 < AA := h _ (by rw [List.getD_eq_getElem?_getD, List.getElem?_eq_getElem hk]; exact List.getElem_mem hk)
theorem Ej (v : Value) (l : List (Nat × Nat)) (w : World) (D : Nat -> Prop) (hv : BN w D v l) (hl : Small l) (hn : l.length <= 1000000) :
  Calls Tryz.prog 43 #[v] w (Ax (fun x w' => Ab w' (w.heap.size <= ·) x l) w) := by
 obtain ⟨A, c, rfl, _, _⟩ := hv.shape
 have HL := Lib.hid hl
 clear hl
 go_enter Tryz.func43, Tryz.ntmps43
 go_wp2
 go_loopw [3, 8] (fun u i wr => ∃ k : Nat, k <= l.length /\ i = .int .i64 k /\ Below w.heap.size w wr /\ ∃ xs, wr.ownsRow w.heap.size 56 2 u k xs /\ Aq wr (GD w.heap.size u) xs (l.take k) /\ ∀ b, u.ownBlock = some b -> w.heap.size <= b) (fun _ i _ => l.length - (intOf i).toNat)
 case atStart => exact ⟨0, by omega, rfl, Below.refl _ _, [], World.ownsRow_nil _ _ _ _, Aq.nil, by simp [Value.ownBlock]⟩
 case round =>
  obtain ⟨k, hk, rfl, hB, xs, hown, hC, hge⟩ := hrel
  have HO := Lib.hid hown
  have HG := Lib.hid hge
  clear hown hge
  by_cases hlt : k < l.length
  ·obtain ⟨b, o, rfl, _, hb, hc0, hc1⟩ := (hv.ext hB).at_ hlt
   have hs := HL.out.at_ k hlt
   have HT := Lib.hid (DO l k (0, 0) hlt)
   have hsz := hB.size
   generalize (l.getD k (0, 0)) = z at *
   obtain ⟨y, n⟩ := z
   go_wp2_with fail
   refine (ID y n hs.1 hs.2 _).mono ?_
   rintro e w2 ⟨v2, rfl, ⟨a2, b2, rfl, ha, hb⟩, hb2⟩
   obtain ⟨A2, m2, c2, rfl⟩ := ha.shape
   obtain ⟨A3, m3, c3, rfl⟩ := hb.shape
   replace hb2 := bel_al hb2
   have hC2 := hC.ext hb2
   have HO2 := Lib.hid (F5 HO.out hb2)
   have hB2 := CE hB hb2
   have hsz2 := hB2.size
   have hs2 := hb2.size
   have ha2 := ha.imp (D' := GD w.heap.size u3) fun b h1 _ => ⟨by simp at h1; omega, fun e => by have := (Kb HO.out b e); simp at h1; omega⟩
   have hb3 := hb.imp (D' := GD w.heap.size u3) fun b h1 _ => ⟨by simp at h1; omega, fun e => by have := (Kb HO.out b e); simp at h1; omega⟩
   clear hb2 hC ha hb hB
   go_wp2_with ((with_reducible refine qA 15 ?_); refine DX rfl rfl _ _ _ _ rfl rfl GY w.heap.size _ k xs (.agg #[.slice A2 m2 c2, .slice A3 m3 c3]) #[.slice A2 m2 c2, .slice A3 m3 c3] rfl (by kernel_rfl) rfl rfl rfl HO2.out (by intro u hu; simp at hu; rcases hu with rfl | rfl <;> rfl) (by omega) (by omega) hsz2 ?_; intro v' w3 ho hg hat; have HO3 := Lib.hid ho; have HG3 := Lib.hid hg; have HA := Lib.hid hat; clear ho hg hat)
   refine ⟨⟨k + 1, hlt, by go_num, J8 HG3.out hB2 hsz2 HG.out, _, HO3.out, ?_, fun b h => by rcases HA.out b h with h | h; exact HG.out b h; omega⟩, by simp [intOf]; omega⟩
   rw [HT.out]
   exact (hC2.app HG3.out HA.out).push (by rw [HO2.out.1]; simp; omega) (ha2.app HG3.out HA.out) (hb3.app HG3.out HA.out)
  ·obtain rfl : k = l.length := by omega
   rw [List.take_length] at hC
   go_wp2_with fail
   go_ret
   exact Ax.mk ((hC.imp fun b h1 _ => h1.1).cubes HO.out fun b h => h) hB
end
section
open Go.RowKit
attribute [local go_sem ↓] Go.wp_at_zero Go.wp_at_succ
set_option maxRecDepth 20000
def cc (prob : List Nat) (r : Bool) (pv qv : Value) : Array Value := (Aa prob ++ [.bool r, pv, qv]).toArray
theorem cc_size (prob : List Nat) (r : Bool) (pv qv : Value) (h : prob.length = 32) : (cc prob r pv qv).size = 35 := by simp [cc, Aa, h]
theorem cc_at (prob : List Nat) (r : Bool) (pv qv : Value) (h : prob.length = 32) : (cc prob r pv qv)[32]? = some (.bool r) /\ (cc prob r pv qv)[33]? = some pv /\ (cc prob r pv qv)[34]? = some qv := by
 refine ⟨?_, ?_, ?_⟩ <;> simp [cc, Aa, h, List.getElem?_append]
theorem K9 {w : World} {base : Nat} {e : TypeId} {size n : Nat} {v : Value} {xs : List Value} (h : w.ownsRow base e size v n xs) : ∃ A c, v = .slice A n c := by
 rcases h.2 with ⟨rfl, rfl⟩ | ⟨g, cap, cur, rfl, _⟩
 ·exact ⟨_, _, rfl⟩
 ·exact ⟨_, _, rfl⟩
theorem IB {w : World} {base : Nat} {e : TypeId} {size n : Nat} {v : Value} {xs : List Value} (h : w.ownsRow base e size v n xs) : v.cells = #[v] := by obtain ⟨A, c, rfl⟩ := K9 h; rfl
theorem own_one {w : World} {base : Nat} {e : TypeId} {size n : Nat} {v : Value} {xs : List Value} (h : w.ownsRow base e size v n xs) : v.oneCell' = true := by obtain ⟨A, c, rfl⟩ := K9 h; rfl
section
variable {w wr w1 w2 : World} {C : Nat} {par z : Array Value} {P : List Nat} {r : Bool} {plan plan' : List Int} {cubes cubes' : List (Nat × Nat)} {pv qv v : Value}
end
end
section
open Go.RowKit
attribute [local go_sem ↓] Go.wp_at_zero Go.wp_at_succ
def DL (k : Int) : Bool := decide (k < 0) || decide (64 <= k)
theorem out_any (k : Int) (w : World) : Calls Tryz.prog 124 #[.int .i64 k] w fun e w' => e = .returned (.bool (DL k)) /\ w = w' := by
 by_cases h0 : k < 0
 ·have HR := Lib.hid (show DL k = true by simp [DL, h0])
  go_enter Tryz.func124, Tryz.ntmps124
  go_wp2
  rw [HR.out]
  go_ret
  exact ⟨rfl, rfl⟩
 ·by_cases h1 : 64 <= k
  ·have HR := Lib.hid (show DL k = true by simp [DL, h1])
   go_enter Tryz.func124, Tryz.ntmps124
   go_wp2
   rw [HR.out]
   go_ret
   exact ⟨rfl, rfl⟩
  ·have HR := Lib.hid (show DL k = false by simp [DL, h0, h1])
   go_enter Tryz.func124, Tryz.ntmps124
   go_wp2
   rw [HR.out]
   go_ret
   exact ⟨rfl, rfl⟩
def E8 : List Int -> Int
 | [] => -1
 | x :: r => if DL x then 0 else if E8 r < 0 then -1 else E8 r + 1
theorem idx_yes {l : List Int} {k : Nat} (hk : k < l.length) (h : ∀ j, j < k -> DL (l.getD j 0) = false) (hx : DL (l.getD k 0) = true) : E8 l = k := by
 induction l generalizing k with
 | nil => simp at hk
 | cons y r ih =>
  cases k with
  | zero => simp at hx; simp [E8, hx]
  | succ k =>
   have h0 := h 0 (by omega)
   simp at h0
   have := ih (k := k) (by simp at hk; omega) (fun j hj => by simpa using h (j + 1) (by omega)) (by simpa using hx)
   simp only [E8, h0, this]
   simp
   omega
theorem idx_no {l : List Int} (h : ∀ j, j < l.length -> DL (l.getD j 0) = false) : E8 l = -1 := by
 induction l with
 | nil => rfl
 | cons y r ih =>
  have h0 := h 0 (by simp)
  simp at h0
  have := ih (fun j hj => by simpa using h (j + 1) (by simp; omega))
  simp [E8, h0, this]
theorem idx_any (l : List Int) : decide (0 <= E8 l) = l.any DL := by
 induction l with
 | nil => rfl
 | cons y r ih =>
  simp only [E8, List.any_cons, <- ih]
  by_cases hy : DL y = true
  ·simp [hy]
  ·by_cases h : E8 r < 0
   ·simp [hy, h]
   ·simp [hy, h]; omega
theorem index_any (v : Value) (l : List Int) (w : World) (D : Nat -> Prop) (hs : Sl w D 1 v l.length (Bm l)) :
  Calls Tryz.prog 177 #[v, .func (.func 124) #[] #[]] w fun e w' => e = .returned (.int .i64 (E8 l)) /\ w = w' := by
 have hs0 := hs
 obtain ⟨_, A, c, rfl, hc1, hc2, _⟩ := hs0
 unfold maxLen at hc2
 have HY := Lib.hid fun k => @idx_yes l k
 have HN := Lib.hid (@idx_no l)
 go_enter Tryz.func177, Tryz.ntmps177
 go_wp2
 go_loop [8] (fun i => ∃ k : Nat, k <= l.length /\ i = .int .i64 k /\ Hid (∀ j, j < k -> DL (l.getD j 0) = false)) (fun i => l.length - (intOf i).toNat)
 case atStart => exact ⟨0, by omega, rfl, fun j hj => absurd hj (by omega)⟩
 case round =>
  obtain ⟨k, hk, rfl, hz⟩ := hrel
  by_cases hlt : k < l.length
  ·obtain ⟨b, o, rfl, _, hb, hc⟩ := hs.int hlt
   have hx := hc k hlt
   have HYk := Lib.hid (HY.out k hlt hz.out)
   have HZ := Lib.hid (show DL (l.getD k 0) = false -> ∀ j, j < k + 1 -> DL (l.getD j 0) = false from fun h0 j hj => by
    rcases Nat.lt_or_ge j k with h | h
    ·exact hz.out j h
    ·obtain rfl : j = k := by omega
     exact h0)
   clear hc hz
   generalize l.getD k 0 = x at *
   go_wp2_with (go_at_call 124; refine (out_any _ _).mono ?_; rintro e w' ⟨rfl, rfl⟩)
   ·rename_i hq
    rw [HYk.out (by assumption)]
    go_ret
    exact ⟨rfl, rfl⟩
   ·go_round
    case rel => exact ⟨k + 1, hlt, by go_num, HZ.out (by assumption)⟩
    case measure => simp [intOf]; omega
  ·have HR := Lib.hid (HN.out fun j hj => hz.out j (by omega))
   go_wp2
   rw [HR.out]
   go_ret
   exact ⟨rfl, rfl⟩
theorem I9 (v : Value) (l : List Int) (w : World) (D : Nat -> Prop) (hs : Sl w D 1 v l.length (Bm l)) :
  Calls Tryz.prog 123 #[v, .func (.func 124) #[] #[]] w fun e w' => e = .returned (.bool (l.any DL)) /\ w = w' := by
 have HR := Lib.hid (idx_any l)
 go_enter Tryz.func123, Tryz.ntmps123
 go_wp2_with (go_at_call 177; refine (index_any _ l _ D hs).mono ?_; rintro e w' ⟨rfl, rfl⟩)
 go_ret
 exact ⟨by rw [<- HR.out]; rfl, rfl⟩
theorem FL (y n : Value) (Y N : Nat) (w : World) (D E : Nat -> Prop) (hy : A5 w D (.agg #[y]) Y) (hn : A5 w E (.agg #[n]) N) :
  Calls Tryz.prog 66 #[.agg #[y, n]] w (Ax (fun u _ => u = .bool (Y &&& N != 0)) w) := by
 obtain ⟨A, l, c, rfl⟩ := hy.shape
 obtain ⟨A', l', c', rfl⟩ := hn.shape
 go_enter Tryz.func66, Tryz.ntmps66
 go_wp2_with (go_at_call 86; refine (meets_any _ _ Y N _ D E (hy.alloc _) (hn.alloc _)).mono ?_; rintro e w' ⟨_, rfl, rfl, hb⟩)
 go_ret
 exact Ax.mk rfl (((Below.refl _ _).alloc (Nat.le_refl _) _).trans (hb.mono (by simp)))
end
section
open Go.RowKit
attribute [local go_sem ↓] Go.wp_at_zero Go.wp_at_succ
set_option maxRecDepth 20000
def roles : Nat := del (2 ^ 64 - 1) 0
def Gs (y n : Nat) : Int := if (y ||| n) &&& roles == (y ||| n) then (if y &&& n != 0 then 6 else 0) else 2
def Fc : List (Nat × Nat) -> Int
 | [] => 0
 | (y, n) :: r => if Gs y n = 0 then Fc r else Gs y n
theorem cubesE_at {l : List (Nat × Nat)} {k : Nat} (hk : k < l.length) (h : ∀ j, j < k -> Gs (l.getD j (0, 0)).1 (l.getD j (0, 0)).2 = 0) (hx : Gs (l.getD k (0, 0)).1 (l.getD k (0, 0)).2 ≠ 0) : Fc l = Gs (l.getD k (0, 0)).1 (l.getD k (0, 0)).2 := by
 induction l generalizing k with
 | nil => simp at hk
 | cons z r ih =>
  obtain ⟨y, n⟩ := z
  cases k with
  | zero => simp at hx; simp [Fc, hx]
  | succ k =>
   have h0 := h 0 (by omega)
   simp at h0
   simp only [Fc, h0, if_true]
   exact ih (by simpa using hk) (fun j hj => by simpa using h (j + 1) (by omega)) (by simpa using hx)
theorem cubesE_none {l : List (Nat × Nat)} (h : ∀ j, j < l.length -> Gs (l.getD j (0, 0)).1 (l.getD j (0, 0)).2 = 0) : Fc l = 0 := by
 induction l with
 | nil => rfl
 | cons z r ih =>
  obtain ⟨y, n⟩ := z
  have h0 := h 0 (by simp)
  simp at h0
  simp only [Fc, h0, if_true]
  exact ih (fun j hj => by simpa using h (j + 1) (by simpa using hj))
def BQ (c : Dn) : Int :=
 if 10000 < c.plan.length \/ 2000 < c.cubes.length then 3
 else if (c.reach = true /\ 0 < c.cubes.length) \/ (c.reach = false /\ 0 < c.plan.length) then 6
 else if c.plan.any DL then 2 else Fc c.cubes
set_option maxHeartbeats 4000000 in
theorem check_late (r : Bool) (c : Dn) (w : World) (D : Nat -> Prop) (cs : Array Value) (A A' : Option Addr) (cp cq : Nat) (hr : c.reach = r) (hrc : (r = true /\ ¬ 0 < c.cubes.length) \/ (r = false /\ ¬ 0 < c.plan.length))
  (h1 : ¬ 10000 < c.plan.length) (h2 : ¬ 2000 < c.cubes.length) (h5 : c.plan.any DL = false) (hR : BQ c = Fc c.cubes)
  (c32 : (w.alloc (.cells cs 96)).cell? ⟨w.heap.size, 32, none⟩ = some (.bool r))
  (c33 : (w.alloc (.cells cs 96)).cell? ⟨w.heap.size, 33, none⟩ = some (.slice A c.plan.length cp))
  (c34 : (w.alloc (.cells cs 96)).cell? ⟨w.heap.size, 34, none⟩ = some (.slice A' c.cubes.length cq))
  (hb0 : Below w.heap.size w (w.alloc (.cells cs 96)))
  (hp1 : Sl (w.alloc (.cells cs 96)) D 1 (.slice A c.plan.length cp) c.plan.length (Bm c.plan))
  (hq1 : Ab (w.alloc (.cells cs 96)) D (.slice A' c.cubes.length cq) c.cubes) :
  Calls Tryz.prog 49 #[.agg cs] w (Ax (fun x _ => x = .int .i64 (BQ c)) w) := by
 have HR := Lib.hid hR
 have H5 := Lib.hid h5
 clear hr h5 hR
 have HA := Lib.hid fun k => @cubesE_at c.cubes k
 have HN := Lib.hid (@cubesE_none c.cubes)
 generalize hW : w.alloc (.cells cs 96) = W at *
 rcases hrc with ⟨rfl, h6⟩ | ⟨rfl, h6⟩
 all_goals
  go_enter Tryz.func49, Tryz.ntmps49
  go_wp2_with fail
  refine (I9 _ c.plan _ D hp1).mono ?_
  rintro e w1 ⟨rfl, rfl⟩
  rw [H5.out]
  go_wp2_with fail
  refine (below_any 64 _ (by decide)).mono ?_
  rintro e w2 ⟨m, rfl, hm, hb2⟩
  go_wp2_with fail
  refine (IM m _ 0 _ _ hm).mono ?_
  rintro e w3 ⟨m3, rfl, hm3, hb3⟩
  obtain ⟨A3, c3, l3, rfl, _, _, _, _, _⟩ := id hm3.parts
  have hb23 := hb2.trans (hb3.mono hb2.size)
  have hlw : w.heap.size < W.heap.size := World.block_lt_of_cell? _ _ c34
  have c34' : (w3.alloc (.cells #[.slice A3 l3.length c3] 39)).cell? ⟨w.heap.size, 34, none⟩ = some (.slice A' c.cubes.length cq) :=
   (World.cell?_alloc_lt _ _ _ (by show w.heap.size < w3.heap.size; have := hb23.size; omega)).trans ((hb23.cell (p := ⟨w.heap.size, 34, none⟩) hlw).trans c34)
  go_wp2_with fail
  have hk3 : (w3.alloc (.cells #[.slice A3 l3.length c3] 39)).cell? ⟨w3.heap.size, 0, none⟩ = some (.slice A3 l3.length c3) := by go_simp
  have hm4 := hm3.alloc (.cells #[.slice A3 l3.length c3] 39)
  have hq4 := (hq1.ext hb23).ext ((Below.refl _ w3).alloc (Nat.le_refl _) (.cells #[.slice A3 l3.length c3] 39))
  have hb4 : Below w.heap.size w (w3.alloc (.cells #[.slice A3 l3.length c3] 39)) := (hb0.trans (hb23.mono (by omega))).alloc (by have := hb23.size; omega) _
  have hl3 : w3.heap.size < (w3.alloc (.cells #[.slice A3 l3.length c3] 39)).heap.size := by simp
  clear hb2 hb3 hb23 hm hm3 hq1 hp1 c34 c34' c32 c33
  generalize (w3.alloc (.cells #[.slice A3 l3.length c3] 39)) = W4 at *
  have hsz4 := hb4.size
  go_loopw [46] (fun i wr => ∃ k : Nat, k <= c.cubes.length /\ i = .int .i64 k /\ Below W4.heap.size W4 wr /\ Hid (∀ j, j < k -> Gs (c.cubes.getD j (0, 0)).1 (c.cubes.getD j (0, 0)).2 = 0)) (fun i _ => c.cubes.length - (intOf i).toNat)
  case atStart => exact ⟨0, by omega, rfl, Below.refl _ _, fun j hj => absurd hj (by omega)⟩
  case round =>
   obtain ⟨k, hk, rfl, hbr, hz⟩ := hrel
   by_cases hlt : k < c.cubes.length
   ·have hqr := hq4.ext hbr
    obtain ⟨b, o, y, n, rfl, _, hb, hcy, hcn, hy, hn⟩ := hqr.at_ hlt
    obtain ⟨Ay, ny, cy, rfl⟩ := hy.shape
    obtain ⟨An, nn, cn, rfl⟩ := hn.shape
    have hk3r := (hbr.cell (p := ⟨w3.heap.size, 0, none⟩) hl3).trans hk3
    have hmr := hm4.ext hbr
    have HAk := Lib.hid (HA.out k hlt hz.out)
    have HZ := Lib.hid (show Gs (c.cubes.getD k (0, 0)).1 (c.cubes.getD k (0, 0)).2 = 0 -> ∀ j, j < k + 1 -> Gs (c.cubes.getD j (0, 0)).1 (c.cubes.getD j (0, 0)).2 = 0 from fun h0 j hj => by
     rcases Nat.lt_or_ge j k with h | h
     ·exact hz.out j h
     ·obtain rfl : j = k := by omega
      exact h0)
    clear hz
    generalize (c.cubes.getD k (0, 0)).1 = y at *
    generalize (c.cubes.getD k (0, 0)).2 = n at *
    first | (exfalso; omega) | skip
    all_goals
     go_wp2_with fail
     have k5a : (wr.alloc (.cells #[.slice Ay ny cy, .slice An nn cn] 56)).cell? ⟨wr.heap.size, 0, none⟩ = some (.slice Ay ny cy) := by go_simp
     have k5b : (wr.alloc (.cells #[.slice Ay ny cy, .slice An nn cn] 56)).cell? ⟨wr.heap.size, 1, none⟩ = some (.slice An nn cn) := by go_simp
     have hw3r : w3.heap.size < wr.heap.size := World.block_lt_of_cell? _ _ hk3r
     have k5c : (wr.alloc (.cells #[.slice Ay ny cy, .slice An nn cn] 56)).cell? ⟨w3.heap.size, 0, none⟩ = some (.slice A3 l3.length c3) := (World.cell?_alloc_lt _ _ _ hw3r).trans hk3r
     have hy5 := (hy.alloc (.cells #[.slice Ay ny cy, .slice An nn cn] 56)).drew
     have hn5 := (hn.alloc (.cells #[.slice Ay ny cy, .slice An nn cn] 56)).drew
     have hm5 := (hmr.alloc (.cells #[.slice Ay ny cy, .slice An nn cn] 56)).drew
     have hy6 := hy.alloc (.cells #[.slice Ay ny cy, .slice An nn cn] 56)
     have hn6 := hn.alloc (.cells #[.slice Ay ny cy, .slice An nn cn] 56)
     have hb5 : Below W4.heap.size W4 (wr.alloc (.cells #[.slice Ay ny cy, .slice An nn cn] 56)) := hbr.alloc hbr.size _
     have hl5 : wr.heap.size < (wr.alloc (.cells #[.slice Ay ny cy, .slice An nn cn] 56)).heap.size := by simp
     clear hcy hcn hy hn hmr hqr hk3r hbr
     generalize (wr.alloc (.cells #[.slice Ay ny cy, .slice An nn cn] 56)) = W5 at *
     go_region_held3 (fun w' => w'.cell? ⟨wr.heap.size, 0, none⟩ = some (.slice Ay ny cy) /\ w'.cell? ⟨wr.heap.size, 1, none⟩ = some (.slice An nn cn) /\ w'.cell? ⟨w3.heap.size, 0, none⟩ = some (.slice A3 l3.length c3)) (first | go_keep) (first
      | (go_simp; go_at_call 70; (with_reducible refine (or_any (.agg #[.slice Ay ny cy]) (.agg #[.slice An nn cn]) y n _ D D hy5 hn5).mono ?_); rintro e x1 ⟨u1, rfl, hu1, hx1⟩; have k6a := (hx1.cell (p := ⟨wr.heap.size, 0, none⟩) hl5).trans k5a; have k6b := (hx1.cell (p := ⟨wr.heap.size, 1, none⟩) hl5).trans k5b; have k6c := (hx1.cell (p := ⟨w3.heap.size, 0, none⟩) (by simp; omega)).trans k5c)
      | (go_simp; go_at_call 71; (with_reducible refine (EQ u1 (.agg #[.slice A3 l3.length c3]) (y ||| n) roles _ _ _ hu1 (hm5.ext hx1)).mono ?_); rintro e x2 ⟨_, rfl, rfl, hx2⟩; have hx := hx1.trans (hx2.mono hx1.size); have k6a := (hx.cell (p := ⟨wr.heap.size, 0, none⟩) hl5).trans k5a; have k6b := (hx.cell (p := ⟨wr.heap.size, 1, none⟩) hl5).trans k5b; have k6c := (hx.cell (p := ⟨w3.heap.size, 0, none⟩) (by simp; omega)).trans k5c))
     have hx := hx1.trans (hx2.mono hx1.size)
     have hbx : Below W4.heap.size W4 x2 := hb5.trans ((Bl hx).mono hb5.size)
     have hy7 := hy6.ext (Bl hx)
     have hn7 := hn6.ext (Bl hx)
     have hC := Lib.hid (show Gs y n = if ((y ||| n) &&& roles == (y ||| n)) = true then (if (y &&& n != 0) = true then 6 else 0) else 2 from rfl)
     generalize ((y ||| n) &&& roles == (y ||| n)) = bw at *
     cases bw
     ·have HE := Lib.hid (hC.out.trans (if_neg (by simp)))
      have HF := Lib.hid (HAk.out (by rw [HE.out]; decide))
      go_wp2
      rw [HR.out, HF.out, HE.out]
      go_ret
      exact Ax.mk rfl (hb4.trans (hbx.mono (by omega)))
     ·have HE := Lib.hid (hC.out.trans (if_pos rfl))
      go_wp2_with fail
      refine (FL _ _ y n _ D D hy7 hn7).mono ?_
      rintro e x3 ⟨_, rfl, rfl, hx3⟩
      have hbx3 := hbx.trans (hx3.mono hbx.size)
      generalize (y &&& n != 0) = be at *
      cases be
      ·have HE2 := Lib.hid (HE.out.trans (if_neg (by simp)))
       have HZ2 := Lib.hid (HZ.out HE2.out)
       go_wp2
       exact ⟨⟨k + 1, hlt, by go_num, hbx3, HZ2.out⟩, by simp [intOf]; omega⟩
      ·have HE2 := Lib.hid (HE.out.trans (if_pos rfl))
       have HF := Lib.hid (HAk.out (by rw [HE2.out]; decide))
       go_wp2
       rw [HR.out, HF.out, HE2.out]
       go_ret
       exact Ax.mk rfl (hb4.trans (hbx3.mono (by omega)))
   ·have HF := Lib.hid (HN.out fun j hj => hz.out j (by omega))
    go_wp2
    rw [HR.out, HF.out]
    go_ret
    exact Ax.mk rfl (hb4.trans (hbr.mono (by omega)))
theorem IJ (v : Value) (c : Dn) (w : World) (D : Nat -> Prop) (hv : C5 w D v c) :
  Calls Tryz.prog 49 #[v] w (Ax (fun x _ => x = .int .i64 (BQ c)) w) := by
 obtain ⟨cs, pv, qv, rfl, hsz, _, _, _, h32, h33, h34, hp, hq⟩ := hv
 obtain ⟨A, cp, rfl, _, _⟩ := hp.shape
 obtain ⟨A', cq, rfl, _, _⟩ := hq.shape
 have hbox := AW.new w 96 cs
 have hW : ∃ W, W = w.alloc (.cells cs 96) := ⟨_, rfl⟩
 have c32 := (hbox.cell 32).trans h32
 have c33 := (hbox.cell 33).trans h33
 have c34 := (hbox.cell 34).trans h34
 have hb0 : Below w.heap.size w (w.alloc (.cells cs 96)) := (Below.refl _ _).alloc (Nat.le_refl _) _
 have hp1 := hp.alloc (.cells cs 96)
 have hq1 := hq.ext hb0
 clear h32 h33 h34 hp hq hW hbox
 generalize hr : c.reach = r at *
 have HRl := Lib.hid hr
 clear hr
 by_cases h1 : 10000 < c.plan.length
 ·have HR := Lib.hid (show BQ c = 3 by rw [BQ, if_pos (.inl h1)])
  go_enter Tryz.func49, Tryz.ntmps49
  go_wp2
  rw [HR.out]
  go_ret
  exact Ax.mk rfl hb0
 by_cases h2 : 2000 < c.cubes.length
 ·have HR := Lib.hid (show BQ c = 3 by rw [BQ, if_pos (.inr h2)])
  go_enter Tryz.func49, Tryz.ntmps49
  go_wp2
  rw [HR.out]
  go_ret
  exact Ax.mk rfl hb0
 by_cases h3 : r = true /\ 0 < c.cubes.length
 ·obtain ⟨rfl, h3⟩ := h3
  have HR := Lib.hid (show BQ c = 6 by rw [BQ, if_neg (by omega), if_pos (.inl ⟨HRl.out, h3⟩)])
  go_enter Tryz.func49, Tryz.ntmps49
  go_wp2
  rw [HR.out]
  go_ret
  exact Ax.mk rfl hb0
 by_cases h4 : r = false /\ 0 < c.plan.length
 ·obtain ⟨rfl, h4⟩ := h4
  have HR := Lib.hid (show BQ c = 6 by rw [BQ, if_neg (by omega), if_pos (.inr ⟨HRl.out, h4⟩)])
  go_enter Tryz.func49, Tryz.ntmps49
  go_wp2
  rw [HR.out]
  go_ret
  exact Ax.mk rfl hb0
 have HK := Lib.hid (show BQ c = if c.plan.any DL then 2 else Fc c.cubes by rw [BQ, if_neg (by omega), if_neg (by rw [HRl.out]; intro h; rcases h with h | h; exact h3 h; exact h4 h)])
 have hrc : (r = true /\ ¬ 0 < c.cubes.length) \/ (r = false /\ ¬ 0 < c.plan.length) := by
  cases r
  ·right; exact ⟨rfl, fun h => h4 ⟨rfl, h⟩⟩
  ·left; exact ⟨rfl, fun h => h3 ⟨rfl, h⟩⟩
 clear h3 h4
 by_cases h5 : c.plan.any DL = true
 ·have HR := Lib.hid (show BQ c = 2 by rw [HK.out, if_pos h5])
  have H5 := Lib.hid h5
  clear h5
  rcases hrc with ⟨rfl, h6⟩ | ⟨rfl, h6⟩
  all_goals
   go_enter Tryz.func49, Tryz.ntmps49
   go_wp2_with fail
   refine (I9 _ c.plan _ D hp1).mono ?_
   rintro e w1 ⟨rfl, rfl⟩
   rw [H5.out]
   go_wp2_with fail
   rw [HR.out]
   go_ret
   exact Ax.mk rfl hb0
 exact check_late r c w D cs A A' cp cq HRl.out hrc h1 h2 (by simpa using h5) (HK.out.trans (if_neg h5)) c32 c33 c34 hb0 hp1 hq1
end
section
open Go.RowKit
attribute [local go_sem ↓] Go.wp_at_zero Go.wp_at_succ
set_option maxRecDepth 20000
def Ba (y n : Nat) : List Nat := B9 y ++ B9 n
theorem Bg {N : Nat} (h : N < 2 ^ 4096) : (B9 N).length <= 523 := by
 have := EX h
 have := Aw (BE N).length
 simp [B9]; omega
theorem put_any (q : Nat) (y n : Value) (Y N : Nat) (bs : List Nat) (w : World) (R D : Nat -> Prop) (hW : GI w R q bs) (hy : A5 w D (.agg #[y]) Y) (hn : A5 w D (.agg #[n]) N)
  (hD : ∀ b, D b -> b < w.heap.size -> b ≠ q /\ ¬ R b) (hlen : bs.length <= 9000000000) :
  Calls Tryz.prog 107 #[.pointer (some ⟨q, 0, none⟩), .agg #[y, n]] w (WRet R q (bs ++ Ba Y N) w) := by
 obtain ⟨A, l, c, rfl⟩ := hy.shape
 obtain ⟨A', l', c', rfl⟩ := hn.shape
 have hlq := hW.lt
 have hsl := Bg hy.bound
 have hbox := AW.new w 56 #[.slice A l c, .slice A' l' c']
 have hn1 := (hn.imp (D' := fun b => D b /\ b < w.heap.size) fun b h1 h2 => ⟨h1, h2⟩).alloc (.cells #[.slice A l c, .slice A' l' c'] 56)
 have hW1 := (hW.imp (R' := fun k => R k /\ k < w.heap.size) fun k h1 h2 => ⟨h1, h2⟩).alloc (.cells #[.slice A l c, .slice A' l' c'] 56)
 go_enter Tryz.func107, Tryz.ntmps107
 go_wp2_with fail
 refine (Jw q _ Y bs _ _ D hW1 (hy.alloc _) (by omega)).mono ?_
 rintro e w1 ⟨rfl, hW2, hF⟩
 have hb1 := hF.box hbox (by omega) (by decide)
 have hc1 := hb1.cell 1
 simp at hc1
 have hn2 := hn1.wf hF (fun b hb _ => ⟨(hD b hb.1 hb.2).1, fun h => (hD b hb.1 hb.2).2 h.1⟩)
 go_wp2_with fail
 refine (Jw q _ N _ _ _ _ hW2 hn2 (by simp; omega)).mono ?_
 rintro e w2 ⟨rfl, hW3, hF2⟩
 have hF3 := hF.trans hF2
 go_wp2_with fail
 refine bodyPost_end (results_none rfl _ _ _) rfl ⟨rfl, ?_, (WF.of_below ((Below.refl _ _).alloc (Nat.le_refl _) _)).trans (hF3.imp fun k hk _ => .inl hk.1)⟩
 rw [Ba, <- List.append_assoc]
 refine hW3.imp fun k hk _ => ?_
 rcases Dg hF.size k hk with h | h
 ·exact .inl h.1
 ·exact .inr (by simp at h; omega)
def AQ (l : List (Nat × Nat)) : List Nat := Ao l.length ++ l.flatMap fun z => Ba z.1 z.2
theorem flat_step (l : List (Nat × Nat)) (k : Nat) (h : k < l.length) : (l.take (k + 1)).flatMap (fun z => Ba z.1 z.2) = (l.take k).flatMap (fun z => Ba z.1 z.2) ++ Ba (l.getD k (0, 0)).1 (l.getD k (0, 0)).2 := by
 rw [List.take_succ_eq_append_getElem h, List.flatMap_append, List.getD_eq_getElem?_getD, List.getElem?_eq_getElem h]; simp
set_option exponentiation.threshold 5000 in
theorem EO (l : List (Nat × Nat)) (h : ∀ z ∈ l, z.1 < 2 ^ 4096 /\ z.2 < 2 ^ 4096) : (l.flatMap fun z => Ba z.1 z.2).length <= 1046 * l.length := by
 induction l with
 | nil => simp
 | cons z r ih =>
  have h1 := h z (by simp)
  have h2 := ih fun x hx => h x (by simp [hx])
  have h3 := Bg h1.1
  have h4 := Bg h1.2
  simp [List.flatMap_cons, Ba] at *
  omega
theorem Ab.bound {w : World} {D : Nat -> Prop} {v : Value} {l : List (Nat × Nat)} (h : Ab w D v l) : ∀ z ∈ l, z.1 < 2 ^ 4096 /\ z.2 < 2 ^ 4096 := by
 intro z hz
 obtain ⟨i, hi, rfl⟩ := List.getElem_of_mem hz
 obtain ⟨xs, _, h2⟩ := h
 obtain ⟨a, b, _, _, h5, h6⟩ := h2 i l[i].1 l[i].2 (by simp [List.getElem?_eq_getElem hi])
 exact ⟨h5.bound, h6.bound⟩
theorem list_any (q : Nat) (v : Value) (l : List (Nat × Nat)) (bs : List Nat) (w : World) (R D : Nat -> Prop) (hW : GI w R q bs) (hv : Ab w D v l)
  (hD : ∀ b, D b -> b < w.heap.size -> b ≠ q /\ ¬ R b) (hlen : bs.length <= 1000000000) (hll : l.length <= 2000) :
  Calls Tryz.prog 108 #[.pointer (some ⟨q, 0, none⟩), v] w (WRet R q (bs ++ AQ l) w) := by
 obtain ⟨A, c, rfl, _, _⟩ := hv.shape
 have hlq := hW.lt
 have hbd := Lib.hid hv.bound
 have hpn := Aw l.length
 have hv1 := hv.imp (D' := fun b => D b /\ b < w.heap.size) fun b h1 h2 => ⟨h1, h2⟩
 have hW1 := hW.imp (R' := fun k => R k /\ k < w.heap.size) fun k h1 h2 => ⟨h1, h2⟩
 have hD1 : ∀ b, (D b /\ b < w.heap.size) -> b ≠ q /\ ¬ (R b /\ b < w.heap.size) := fun b hb => ⟨(hD b hb.1 hb.2).1, fun h => (hD b hb.1 hb.2).2 h.1⟩
 have HD1 := Lib.hid hD1
 go_enter Tryz.func108, Tryz.ntmps108
 go_wp2_with fail
 refine (Ft q l.length bs _ _ hW1 (by unfold AA; omega) (by omega)).mono ?_
 rintro e w1 ⟨rfl, hW2, hF⟩
 have hv2 := hv1.wf hF (fun b hb _ => HD1.out b hb)
 go_wp2_with fail
 go_loopw [13] (fun i wr => ∃ k : Nat, k <= l.length /\ i = .int .i64 k /\ GI wr (Jc (fun k => R k /\ k < w.heap.size) w) q (bs ++ Ao l.length ++ (l.take k).flatMap fun z => Ba z.1 z.2) /\ WF (fun k => R k /\ k < w.heap.size) q w wr /\ Ab wr (fun b => D b /\ b < w.heap.size) (.slice A l.length c) l) (fun i _ => l.length - (intOf i).toNat)
 case atStart => exact ⟨0, by omega, rfl, by simpa using hW2, hF, hv2⟩
 case round =>
  clear hW2 hF hv2 hv1 hW1 hv hW
  obtain ⟨k, hk, rfl, hWr, hFr, hvr⟩ := hrel
  by_cases hlt : k < l.length
  ·obtain ⟨b, o, y, n, rfl, _, hb, hcy, hcn, hy, hn⟩ := hvr.at_ hlt
   obtain ⟨Ay, ny, cy, rfl⟩ := hy.shape
   obtain ⟨An, nn, cn, rfl⟩ := hn.shape
   have HS := Lib.hid (flat_step l k hlt)
   have hfl := EO (l.take k) (fun z hz => hbd.out z (List.mem_of_mem_take hz))
   have htk : (l.take k).length <= 2000 := by simp; omega
   have hlr := hWr.lt
   have hFs := hFr.size
   have hWb := hWr.alloc (.cells #[.slice Ay ny cy, .slice An nn cn] 56)
   have hyb := hy.alloc (.cells #[.slice Ay ny cy, .slice An nn cn] 56)
   have hnb := hn.alloc (.cells #[.slice Ay ny cy, .slice An nn cn] 56)
   have hvb := hvr.ext ((Below.refl _ wr).alloc (Nat.le_refl _) (.cells #[.slice Ay ny cy, .slice An nn cn] 56))
   go_wp2_with fail
   refine (put_any q _ _ _ _ _ _ _ _ hWb hyb hnb (fun b hb _ => ⟨(HD1.out b hb).1, fun h => by rcases h with h | h; exact (HD1.out b hb).2 h; omega⟩) (by rw [List.length_append, List.length_append]; omega)).mono ?_
   rintro e w2 ⟨rfl, hW3, hF3⟩
   have hv3 := hvb.wf hF3 (fun b hb _ => ⟨(HD1.out b hb).1, fun h => by rcases h with h | h; exact (HD1.out b hb).2 h; omega⟩)
   go_wp2_with fail
   refine ⟨⟨k + 1, hlt, by go_num, ?_, ?_, hv3⟩, by simp [intOf]; omega⟩
   ·rw [HS.out, <- List.append_assoc]
    refine hW3.imp fun j hj _ => ?_
    rcases hj with hj | hj
    ·exact hj
    ·exact .inr (by simp at hj; omega)
   ·exact hFr.trans ((WF.of_below ((Below.refl _ wr).alloc (Nat.le_refl _) _)).trans (hF3.imp fun j hj _ => .inl hj))
  ·obtain rfl : k = l.length := by omega
   rw [List.take_length] at hWr
   go_wp2_with fail
   refine bodyPost_end (results_none rfl _ _ _) rfl ⟨rfl, ?_, hFr.imp fun k hk _ => hk.1⟩
   rw [AQ, <- List.append_assoc]
   refine hWr.imp fun k hk _ => ?_
   rcases hk with h | h
   ·exact .inl h.1
   ·exact .inr h
end
section
open Go.RowKit
attribute [local go_sem ↓] Go.wp_at_zero Go.wp_at_succ
set_option maxRecDepth 20000
def AE (c : Dn) : List Nat :=
 if BQ c = 0 then c.prob ++ (BB c.reach ++ (Ao c.plan.length ++ ((c.plan.flatMap fun k => Ao k.toNat) ++ AQ c.cubes))) else []
theorem plan_ok {c : Dn} (h : BQ c = 0) : c.plan.length <= 10000 /\ c.cubes.length <= 2000 /\ ∀ k ∈ c.plan, 0 <= k /\ k < 64 := by
 unfold BQ at h
 split at h
 ·omega
 ·split at h
  ·omega
  ·split at h
   ·omega
   ·rename_i h1 _ h2
    refine ⟨by omega, by omega, fun k hk => ?_⟩
    have h3 : DL k = false := by
     cases hb : DL k
     ·rfl
     ·exact absurd (List.any_eq_true.2 ⟨k, hk, hb⟩) h2
    simp [DL] at h3
    omega
theorem plan_step (l : List Int) (k : Nat) (h : k < l.length) : (l.take (k + 1)).flatMap (fun x => Ao x.toNat) = (l.take k).flatMap (fun x => Ao x.toNat) ++ Ao (l.getD k 0).toNat := by
 rw [List.take_succ_eq_append_getElem h, List.flatMap_append, List.getD_eq_getElem?_getD, List.getElem?_eq_getElem h]; simp
theorem JZ (l : List Int) : (l.flatMap fun x => Ao x.toNat).length <= 11 * l.length := by
 induction l with
 | nil => simp
 | cons z r ih =>
  have h3 := Aw z.toNat
  simp [List.flatMap_cons] at *
  omega
theorem cbytes_own (v : Value) (c : Dn) (w : World) (D : Nat -> Prop) (hv : C5 w D v c) :
  Calls Tryz.prog 48 #[v] w (Ax (fun x w' => OwnB w' w.heap.size x (AE c)) w) := by
 obtain ⟨cs, pv, qv, rfl, hsz, hl32, hby, hpr, h32, h33, h34, hp, hq⟩ := id hv
 obtain ⟨A, cp, rfl, _, _⟩ := hp.shape
 obtain ⟨A', cq, rfl, _, _⟩ := hq.shape
 have hbox := AW.new w 96 cs
 have hb0 : Below w.heap.size w (w.alloc (.cells cs 96)) := (Below.refl _ _).alloc (Nat.le_refl _) _
 have hv1 := (hv.imp (D' := (· < w.heap.size)) fun b _ h => h).ext hb0
 have hp1 := (hp.imp (D' := (· < w.heap.size)) fun b _ h => h).ext hb0
 have hq1 := (hq.imp (D' := (· < w.heap.size)) fun b _ h => h).ext hb0
 have HSZ := Lib.hid hsz
 have HPR := Lib.hid hpr
 have H32 := Lib.hid h32
 have H33 := Lib.hid h33
 have H34 := Lib.hid h34
 have HL := Lib.hid hl32
 have HX := Lib.hid hbox
 have hi35 : (Tryz.prog.info? 96).map (·.size) = some cs.size := by rw [hsz]; kernel_rfl
 have HI := Lib.hid hi35
 clear hsz hpr h32 h33 h34 hp hq hv hl32 hbox hi35
 by_cases hc : BQ c = 0
 ·have hok := plan_ok hc
  obtain ⟨hpl, hcl, hpk⟩ := hok
  have HB := Lib.hid (show AE c = c.prob ++ (BB c.reach ++ (Ao c.plan.length ++ ((c.plan.flatMap fun k => Ao k.toNat) ++ AQ c.cubes))) by rw [AE, if_pos hc])
  have heq : (BQ c != 0) = false := by simpa using hc
  have HPK := Lib.hid hpk
  have hp32a : c.prob.length <= 32 := by have := HL.out; omega
  have hp32b : 32 <= c.prob.length := by have := HL.out; omega
  clear hc hpk
  go_enter Tryz.func48, Tryz.ntmps48
  go_wp2_with ((with_reducible refine qA 6 ?_); refine wpList_load_row rfl 96 _ rfl w.heap.size rfl 96 cs (0, 0) _ HX.out Tryz.underlying96 rfl HI.out ?_)
  refine (IJ _ c _ _ hv1).mono ?_
  rintro e w1 ⟨_, rfl, rfl, hb1⟩
  have hX1 := HX.out.ext hb1
  have hbw1 := hb0.trans (hb1.mono (by simp))
  have hp2 := hp1.ext hb1
  have hq2 := hq1.ext hb1
  have hH1 := hX1.lt
  clear hb1 hp1 hq1 hv1 hb0
  go_wp2_with fail
  refine (Ex _).mono ?_
  rintro e w2 ⟨rfl, rfl⟩
  have hW2 := GI.new w1 (fun _ => False)
  have hX2 := hX1.alloc (.cells #[.slice none 0 0] 198)
  have hWl := hW2.lt
  have hp3 := hp2.alloc (.cells #[.slice none 0 0] 198)
  have hq3 := hq2.ext ((Below.refl _ w1).alloc (Nat.le_refl _) (.cells #[.slice none 0 0] 198))
  have hs3 : Sl (w1.alloc (.cells #[.slice none 0 0] 198)) (· = w.heap.size) 1 (.slice (some ⟨w.heap.size, 0, none⟩) 32 32) c.prob.length (Aa c.prob) := by
   refine ⟨by simp [Aa], _, 32, by rw [HL.out], by omega, by simp [maxLen], fun _ => ⟨w.heap.size, 0, rfl, rfl, hX2.lt, fun j x hj => ?_⟩⟩
   have hj32 : j < 32 := by
    rcases Nat.lt_or_ge j 32 with h | h
    ·exact h
    ·rw [List.getElem?_eq_none (by rw [Ae, HL.out]; exact h)] at hj; cases hj
   rw [Nat.zero_add, hX2.cell, HPR.out j hj32]
   rw [CZ _ _ (by rw [HL.out]; exact hj32)] at hj
   exact hj
  have hbw2 := hbw1.alloc (by omega) (.cells #[.slice none 0 0] 198)
  have hq1 : w.heap.size < w1.heap.size := hH1
  clear hX1 hp2 hq2
  generalize hW1e : (w1.alloc (.cells #[.slice none 0 0] 198)) = W at *
  clear hW1e
  go_wp2_with fail
  refine (Hp w1.heap.size _ [] c.prob _ _ _ hW2 hs3 (by simp; omega)).mono ?_
  rintro e w3 ⟨rfl, hW3, hF3⟩
  have hX3 := hF3.box hX2 (by omega) (by decide)
  have hc32 := (hX3.cell 32).trans H32.out
  go_wp2_with fail
  refine (flag_any w1.heap.size _ _ _ _ hW3 (by simp; omega)).mono ?_
  rintro e w4 ⟨rfl, hW4, hF4⟩
  have hF4' := hF3.trans hF4
  have hX4 := hF4.box hX3 (by omega) (by decide)
  have hc33 := (hX4.cell 33).trans H33.out
  go_wp2_with fail
  have hfl : (BB c.reach).length = 1 := by unfold BB; split <;> rfl
  refine (Ft w1.heap.size c.plan.length _ _ _ hW4 (by unfold AA; omega) (by simp; omega)).mono ?_
  rintro e w5 ⟨rfl, hW5, hF5⟩
  have hpn := Aw c.plan.length
  have hF5' := hF4'.trans (hF5.imp fun k hk _ => Dg hF3.size k hk)
  have hX5 := hF5.box hX4 (by omega) (by decide)
  have hc33' := (hX5.cell 33).trans H33.out
  have hW5' := hW5.imp fun k hk _ => Dg hF3.size k (Dg hF4.size k hk)
  clear hW2 hW3 hW4 hW5 hF3 hF4 hF4' hF5 hX3 hX4 hc32 hc33 hs3
  have hfin : ∀ b, b < w.heap.size -> b < W.heap.size -> b ≠ w1.heap.size /\ ¬ (fun _ : Nat => False) b := fun b hb _ => ⟨by omega, fun h => h⟩
  have HFIN := Lib.hid hfin
  clear hfin
  have hP : ([] ++ c.prob ++ BB c.reach ++ Ao c.plan.length).length <= 50 := by simp only [List.length_append, List.length_nil]; omega
  go_wp2_with fail
  go_loopw [27] (fun i wr => ∃ k : Nat, k <= c.plan.length /\ i = .int .i64 k /\ GI wr (Jc (fun _ => False) W) w1.heap.size (([] ++ c.prob ++ BB c.reach ++ Ao c.plan.length) ++ (c.plan.take k).flatMap fun x => Ao x.toNat) /\ WF (fun _ => False) w1.heap.size W wr) (fun i _ => c.plan.length - (intOf i).toNat)
  case atStart => exact ⟨0, by omega, rfl, by simpa using hW5', hF5'⟩
  case round =>
   clear hW5' hF5' hX5 hc33'
   obtain ⟨k, hk, rfl, hWr, hFr⟩ := hrel
   by_cases hlt : k < c.plan.length
   ·obtain ⟨b, o, rfl, _, hb, hcell⟩ := (hp3.wf hFr (fun b hb hl => HFIN.out b hb hl)).int hlt
    have hck := hcell k hlt
    have HS := Lib.hid (plan_step c.plan k hlt)
    have hfl2 := JZ (c.plan.take k)
    have htk : (c.plan.take k).length <= 10000 := by simp; omega
    have hxr := HPK.out (c.plan.getD k 0) (by rw [List.getD_eq_getElem?_getD, List.getElem?_eq_getElem hlt]; exact List.getElem_mem hlt)
    generalize c.plan.getD k 0 = x at *
    obtain ⟨x, rfl⟩ := Int.eq_ofNat_of_zero_le hxr.1
    have hx64 : x < 64 := by omega
    have hlr := hWr.lt
    have hFs := hFr.size
    clear hcell
    go_wp2_with fail
    refine (Ft w1.heap.size x _ _ _ hWr (by unfold AA; omega) (by rw [List.length_append]; omega)).mono ?_
    rintro e w7 ⟨rfl, hW7, hF7⟩
    go_wp2_with fail
    refine ⟨⟨k + 1, hlt, by go_num, ?_, hFr.trans hF7⟩, by simp [intOf]; omega⟩
    rw [HS.out, <- List.append_assoc]
    exact hW7.imp fun j hj _ => Dg hFs j hj
   ·obtain rfl : k = c.plan.length := by omega
    rw [List.take_length] at hWr
    have hfl2 := JZ c.plan
    have hXr := hFr.box hX2 (by omega) (by decide)
    have hc34 := (hXr.cell 34).trans H34.out
    have hqr := hq3.wf hFr (fun b hb hl => HFIN.out b hb hl)
    have hFs := hFr.size
    go_wp2_with fail
    refine (list_any w1.heap.size _ c.cubes _ _ _ _ hWr hqr (fun b hb _ => ⟨by have : b < w.heap.size := hb; omega, fun h => by rcases h with h | h; exact h; have : b < w.heap.size := hb; have := hX2.lt; omega⟩) (by rw [List.length_append]; omega) hcl).mono ?_
    rintro e w8 ⟨rfl, hW8, hF8⟩
    go_wp2_with fail
    have hcub : (AQ c.cubes).length <= 3000000 := by
     have h1 := EO c.cubes hqr.bound
     have h2 := Aw c.cubes.length
     rw [AQ, List.length_append]; omega
    refine (JA w1.heap.size _ _ _ hW8 (by rw [List.length_append, List.length_append]; omega)).mono ?_
    rintro e w9 ⟨v9, rfl, hv9, hb9⟩
    go_wp2_with fail
    go_ret
    have hFF := hFr.trans hF8
    have hs8 := hF8.size
    refine Ax.mk ?_ ((hbw2.trans (hFF.below (by omega) (fun _ h => h.elim) (by omega))).trans (hb9.mono (by omega)))
    rw [HB.out]
    have he : ([] ++ c.prob ++ BB c.reach ++ Ao c.plan.length) ++ (c.plan.flatMap fun x => Ao x.toNat) ++ AQ c.cubes = c.prob ++ (BB c.reach ++ (Ao c.plan.length ++ ((c.plan.flatMap fun k => Ao k.toNat) ++ AQ c.cubes))) := by simp
    rw [<- he]
    exact hv9.down (by have := hbw2.size; omega)
 ·have HB := Lib.hid (show AE c = [] by rw [AE, if_neg hc])
  have hne : (BQ c != 0) = true := by simpa using hc
  clear hc
  go_enter Tryz.func48, Tryz.ntmps48
  go_wp2_with ((with_reducible refine qA 6 ?_); refine wpList_load_row rfl 96 _ rfl w.heap.size rfl 96 cs (0, 0) _ HX.out Tryz.underlying96 rfl HI.out ?_)
  refine (IJ _ c _ _ hv1).mono ?_
  rintro e w1 ⟨_, rfl, rfl, hb1⟩
  go_wp2_with fail
  go_ret
  rw [HB.out]
  exact Ax.mk OwnB.nil (hb0.trans (hb1.mono (by simp)))
theorem Fe (v : Value) (c : Dn) (w : World) (D : Nat -> Prop) (hv : C5 w D v c) :
  Calls Tryz.prog 48 #[v] w (Ax (fun x w' => Sl w' (w.heap.size <= ·) 1 x (AE c).length (Aa (AE c))) w) :=
 (cbytes_own v c w D hv).mono fun _ _ ⟨v, h1, h2, h3⟩ => ⟨v, h1, h2.1, h3⟩
end
section
open Go.RowKit
attribute [local go_sem ↓] Go.wp_at_zero Go.wp_at_succ
set_option maxRecDepth 20000
theorem JQ {P : Program} (w : World) (T e : TypeId) (len : Nat) (cs : Array Value) (k : Nat) (x : Value) (ht : P.underlying T = some (.array len e)) (he : P.plainKey e = true) (hi : (P.info? e).isSome = true) (hs : P.cellsOf e = 1) (hk : k < len) (hc : cs[k]? = some x) :
  (Instr.index T (.agg cs) (.int .i64 (k : Int))).run P w = .ok x w := by
 obtain ⟨i, hi⟩ := Option.isSome_iff_exists.1 hi
 have h1 : ((k : Int) < (len : Int)) := by omega
 simp [Instr.index, run_underlying ht, asIntOf, run_sizeOf w hi, hs, h1]
 rw [if_pos hk]
 exact run_part_plain w he hc
set_option maxHeartbeats 4000000 in
theorem permute_any (b : Nat) (t : TypeId) (a : List Nat) (rest : List Value) (w : World) (hT : GM w) (hA : AW w b t (Ai a ++ rest).toArray) (hl : a.length = 25) (hw : Ak a)
  (hb1 : 1 ≠ b /\ 2 ≠ b) :
  Calls Tryz.prog 237 #[.pointer (some ⟨b, 0, none⟩)] w (fun e w' => e = .returned (.tuple #[]) /\ AW w' b t (Ai (perm a) ++ rest).toArray /\ WF (fun _ => False) b w w') := by
 obtain ⟨⟨tr, hR⟩, tt, hTT⟩ := id hT
 have HR := Lib.hid hR
 have hi : (Tryz.prog.info? 273).map (·.size) = some (Ai Bk).toArray.size := by kernel_rfl
 have HI := Lib.hid hi
 have hcs : ∀ k : Nat, k < 24 -> (Ai Bk).toArray[k]? = some (.int .u64 (Bk.getD k 0 : Nat)) := fun k hk => by rw [List.getElem?_toArray]; exact C8 _ _ hk
 have HCS := Lib.hid hcs
 have hsz : (Ai Bk).toArray.size = 24 := rfl
 generalize (Ai Bk).toArray = cs at *
 clear hR hTT hi hcs
 go_enter Tryz.func237, Tryz.ntmps237
 go_wp2_with ((with_reducible refine qA 12 ?_); refine wpList_load_row rfl 273 _ rfl 1 rfl tr.1 cs tr.2 _ HR.out Tryz.underlying273 rfl HI.out ?_)
 go_loopw [13] (fun i wr => ∃ k : Nat, k <= 24 /\ i = .int .i64 k /\ AW wr b t (Ai (Ew a k) ++ rest).toArray /\ WF (fun _ => False) b w wr) (fun i _ => 24 - (intOf i).toNat)
 case atStart => exact ⟨0, by omega, rfl, hA, WF.refl _ _ _⟩
 case round =>
  clear hA
  obtain ⟨k, hk, rfl, hA, hF⟩ := hrel
  generalize wr = W0 at *
  by_cases hlt : k < 24
  ·have hck : ∀ wx, (Instr.index 273 (.agg cs) (.int .i64 (k : Int))).run Tryz.prog wx = .ok (.int .u64 (Bk.getD k 0 : Nat)) wx := fun wx => JQ wx _ 26 24 cs k _ Tryz.underlying273 (by kernel_rfl) (by kernel_rfl) (by kernel_rfl) hlt (HCS.out k hlt)
   have hok := IA hw hl k hk
   have hrl := Iy k
   obtain ⟨hwk, hlk⟩ := hok
   have HS := Lib.hid (FE a k hlt)
   generalize Ew a k = A at *
   generalize Bk.getD k 0 = c at *
   have hTr := hT.wf hF hb1
   have HTr := Lib.hid hTr
   have HF := Lib.hid hF
   clear hTr hF
   go_wp2_with fail
   have hdk : decide ((k : Int) < 24) = true := by simp; omega
   simp only [hdk]
   clear hdk
   have hC := AW.new W0 274 #[.int .u64 0, .int .u64 0, .int .u64 0, .int .u64 0, .int .u64 0]
   have hA1 := hA.alloc (.cells #[.int .u64 0, .int .u64 0, .int .u64 0, .int .u64 0, .int .u64 0] 274)
   have hB1 : Below W0.heap.size W0 (W0.alloc (.cells #[.int .u64 0, .int .u64 0, .int .u64 0, .int .u64 0, .int .u64 0] 274)) := (Below.refl _ _).alloc (Nat.le_refl _) _
   have hbl := hA.lt
   go_loopw [16] (fun i wc => ∃ x : Nat, x <= 5 /\ i = .int .i64 x /\ AW wc W0.heap.size 274 (Ai (Bw (kc A) x 5) ++ []).toArray /\ AW wc b t (Ai A ++ rest).toArray /\ Below W0.heap.size W0 wc) (fun i _ => 5 - (intOf i).toNat)
   case atStart => exact ⟨0, by omega, rfl, hC, hA1, hB1⟩
   case round =>
    clear hA1 hC hB1 hA
    obtain ⟨x, hx, rfl, hC, hA, hB⟩ := hrel
    by_cases hlt2 : x < 5
    ·
     have h0 := hA.word (i := x) (by omega)
     have h1 := hA.word (i := x + 5) (by omega)
     have h2 := hA.word (i := x + 10) (by omega)
     have h3 := hA.word (i := x + 15) (by omega)
     have h4 := hA.word (i := x + 20) (by omega)
     have h5 := hC.word (i := x) (by rw [Du]; omega)
     have h6 := hC.free x
     have hkc : kc A x = (((A.getD x 0 ^^^ A.getD (x + 5) 0) ^^^ A.getD (x + 10) 0) ^^^ A.getD (x + 15) 0) ^^^ A.getD (x + 20) 0 := rfl
     have l0 := hwk.getD x
     have l1 := hwk.getD (x + 5)
     have l2 := hwk.getD (x + 10)
     have l3 := hwk.getD (x + 15)
     have l4 := hwk.getD (x + 20)
     generalize A.getD x 0 = a0 at *
     generalize A.getD (x + 5) 0 = a1 at *
     generalize A.getD (x + 10) 0 = a2 at *
     generalize A.getD (x + 15) 0 = a3 at *
     generalize A.getD (x + 20) 0 = a4 at *
     have HK := Lib.hid hkc
     clear hkc
     go_wp2_with (go_region)
     have he : bits .xor .u64 (bits .xor .u64 (bits .xor .u64 (bits .xor .u64 (a0 : Int) (a1 : Int)) (a2 : Int)) (a3 : Int)) (a4 : Int) = ((kc A x : Nat) : Int) := by
      rw [Ec l0 l1, Ec (BJ l0 l1) l2, Ec (BJ (BJ l0 l1) l2) l3, Ec (BJ (BJ (BJ l0 l1) l2) l3) l4, HK.out]
     rw [he]
     refine ⟨⟨x + 1, hlt2, by go_num, ?_, (hA.far (by show b ≠ W0.heap.size; omega) _).drew, (hB.setCell (Nat.le_refl _) _).drew⟩, by simp [intOf]; omega⟩
     have := (hC.setW (i := x) (by rw [Du]; omega) (kc A x)).drew
     rw [E9] at this
     exact this
    ·have hx5 : x = 5 := by omega
     rw [hx5] at hC
     go_wp2_with fail
     clear hx5 hlt2 hx
     have hD := AW.new wr 251 (Ai (List.replicate 25 0) ++ []).toArray
     have hA1 := hA.alloc (.cells (Ai (List.replicate 25 0) ++ []).toArray 251)
     have hC1 := hC.alloc (.cells (Ai (List.replicate 25 0) ++ []).toArray 251)
     have hB1 := hB.alloc (by exact hB.size) (.cells (Ai (List.replicate 25 0) ++ []).toArray 251)
     rw [Di] at hC1
     have hwC := I2 hwk
     have hlC : ((List.range 5).map (kc A)).length = 5 := by simp
     obtain ⟨C, hCE⟩ : ∃ C, C = (List.range 5).map (kc A) := ⟨_, rfl⟩
     rw [<- hCE] at hC1 hwC hlC
     have HCE := Lib.hid hCE
     clear hCE
     have hcl := hC.lt
     have hal := hA.lt
     clear hC hA hB hck
     generalize wr = W1 at *
     go_loopw [55] (fun i wd => ∃ x : Nat, x <= 5 /\ i = .int .i64 x /\ AW wd W1.heap.size 251 (Ai (FI A C x) ++ []).toArray /\ AW wd W0.heap.size 274 (Ai C ++ []).toArray /\ AW wd b t (Ai A ++ rest).toArray /\ Below W0.heap.size W0 wd) (fun i _ => 5 - (intOf i).toNat)
     case atStart => exact ⟨0, by omega, rfl, hD, hC1, hA1, hB1⟩
     case round =>
      clear hA1 hC1 hB1 hD
      obtain ⟨x, hx, rfl, hD, hC, hA, hB⟩ := hrel
      by_cases hlt3 : x < 5
      ·have h0 := hC.word (i := (x + 4) % 5) (by omega)
       have h1 := hC.word (i := (x + 1) % 5) (by omega)
       have HD := Lib.hid (show kd C x = C.getD ((x + 4) % 5) 0 ^^^ FC (C.getD ((x + 1) % 5) 0) 1 from rfl)
       have l0 := hwC.getD ((x + 4) % 5)
       have l1 := hwC.getD ((x + 1) % 5)
       generalize C.getD ((x + 4) % 5) 0 = c0 at *
       generalize C.getD ((x + 1) % 5) 0 = c1 at *
       go_wp2_with (go_quiet ((go_at_call 242; exact Calls.quiet_of_same (rotl_one _ _ l1))))
       have HE := Lib.hid (show bits .xor .u64 (c0 : Int) (FC c1 1 : Nat) = ((kd C x : Nat) : Int) by rw [Ec l0 (Jt l1), HD.out])
       have hdx : decide ((x : Int) < 5) = true := by simp; omega
       simp only [HE.out, hdx]
       clear hdx
       have ld := kd_lt hwC x
       clear h0 h1 HD HE l0 l1
       have hD1 := hD.drewN nq
       have hC1 := hC.drewN nq
       have hA1 := hA.drewN nq
       have hB1 := DW hB nq
       generalize wr.drewN nq = W2 at *
       have hwB := Ds hwk hwC x
       have hlB := I3 A C x
       have HSB := Lib.hid (IE A C x)
       generalize FI A C x = B at *
       clear hD hC hA hB
       go_loopw [70] (fun i we => ∃ y : Nat, y <= 5 /\ i = .int .i64 y /\ AW we W1.heap.size 251 (Ai (DH A C B x y) ++ []).toArray /\ AW we W0.heap.size 274 (Ai C ++ []).toArray /\ AW we b t (Ai A ++ rest).toArray /\ Below W0.heap.size W0 we) (fun i _ => 5 - (intOf i).toNat)
       case atStart => exact ⟨0, by omega, rfl, hD1, hC1, hA1, hB1⟩
       case round =>
        clear hA1 hC1 hB1 hD1
        obtain ⟨y, hy, rfl, hD, hC, hA, hB⟩ := hrel
        by_cases hlt4 : y < 5
        ·have hlR := IF A C B x y
         have h0 := hA.word (i := x + 5 * y) (by omega)
         have h1 := (HTr.out.ext hB).turn (k := x + 5 * y) (by omega)
         have h2 := hD.word (i := y + 5 * ((2 * x + 3 * y) % 5)) (by omega)
         have h3 := hD.free (y + 5 * ((2 * x + 3 * y) % 5))
         have l0 := hwk.getD (x + 5 * y)
         have l1 := turns_lt (x + 5 * y)
         have HK := Lib.hid (show kbAt A C x (DH A C B x y) y = (DH A C B x y).set (y + 5 * ((2 * x + 3 * y) % 5)) (FC (A.getD (x + 5 * y) 0 ^^^ kd C x) (Cg.getD (x + 5 * y) 0)) from rfl)
         have HSR := Lib.hid (GE A C B x y)
         generalize A.getD (x + 5 * y) 0 = a0 at *
         generalize Cg.getD (x + 5 * y) 0 = t0 at *
         generalize DH A C B x y = R at *
         have lx := BJ l0 ld
         have hcall : ∀ wx, Calls Tryz.prog 242 #[.int .u64 (bits .xor .u64 (a0 : Int) (kd C x : Nat)), .int .i64 (t0 : Int)] wx (fun e w' => e = .returned (.int .u64 (FC (a0 ^^^ kd C x) t0 : Nat)) /\ w' = wx) := fun wx => by rw [Ec l0 ld]; exact rotl_any _ _ _ lx l1
         clear l0 l1 lx ld
         have s1 : IntKind.i64.wrap (5 * (y : Int)) = 5 * (y : Int) := IntWalk.i64_in _ (by omega)
         have s2 : IntKind.i64.wrap ((x : Int) + 5 * (y : Int)) = (x : Int) + 5 * (y : Int) := IntWalk.i64_in _ (by omega)
         have s3 : 0 <= (x : Int) + 5 * (y : Int) := by omega
         have s4 : (x : Int) + 5 * (y : Int) < 25 := by omega
         have s5 : ((x : Int) + 5 * (y : Int)).toNat = x + 5 * y := by omega
         have s6 : IntKind.i64.wrap (2 * (x : Int)) = 2 * (x : Int) := IntWalk.i64_in _ (by omega)
         have s7 : IntKind.i64.wrap (3 * (y : Int)) = 3 * (y : Int) := IntWalk.i64_in _ (by omega)
         have s8 : IntKind.i64.wrap (2 * (x : Int) + 3 * (y : Int)) = 2 * (x : Int) + 3 * (y : Int) := IntWalk.i64_in _ (by omega)
         have s9 : (2 * (x : Int) + 3 * (y : Int)).tmod 5 = (2 * (x : Int) + 3 * (y : Int)) % 5 := Int.tmod_eq_emod_of_nonneg (by omega)
         have s10 : IntKind.i64.wrap ((2 * (x : Int) + 3 * (y : Int)) % 5) = (2 * (x : Int) + 3 * (y : Int)) % 5 := IntWalk.i64_in _ (by omega)
         have s11 : IntKind.i64.wrap (5 * ((2 * (x : Int) + 3 * (y : Int)) % 5)) = 5 * ((2 * (x : Int) + 3 * (y : Int)) % 5) := IntWalk.i64_in _ (by omega)
         have s12 : IntKind.i64.wrap ((y : Int) + 5 * ((2 * (x : Int) + 3 * (y : Int)) % 5)) = (y : Int) + 5 * ((2 * (x : Int) + 3 * (y : Int)) % 5) := IntWalk.i64_in _ (by omega)
         have s13 : 0 <= (y : Int) + 5 * ((2 * (x : Int) + 3 * (y : Int)) % 5) := by omega
         have s14 : (y : Int) + 5 * ((2 * (x : Int) + 3 * (y : Int)) % 5) < 25 := by omega
         have s15 : ((y : Int) + 5 * ((2 * (x : Int) + 3 * (y : Int)) % 5)).toNat = y + 5 * ((2 * x + 3 * y) % 5) := by omega
         go_wp2_with fail
         go_still_tail 27, (by kernel_rfl)
         still_call (hcall _)
         repeat still_step
         refine wpStill_nil ?_
         clear s1 s2 s3 s4 s5 s6 s7 s8 s9 s10 s11 s12 s13 s14 s15 hcall
         change wpList _ _ _ _ _ wr.drew
         have h2' : wr.drew.cell? ⟨W1.heap.size, y + 5 * ((2 * x + 3 * y) % 5), none⟩ = _ := h2
         have h3' : wr.drew.frozen? ⟨W1.heap.size, y + 5 * ((2 * x + 3 * y) % 5), none⟩ = false := h3
         have hD' : AW wr.drew _ _ _ := hD.drew
         have hC' : AW wr.drew _ _ _ := hC.drew
         have hA' : AW wr.drew _ _ _ := hA.drew
         have hB' := hB.drew
         clear h0 h1 h2 h3 hD hC hA hB
         generalize wr.drew = w5 at *
         go_wp2_with fail
         go_round
         case rel =>
          refine ⟨y + 1, hlt4, by go_num, ?_, hC'.far (by show W0.heap.size ≠ W1.heap.size; omega) _, hA'.far (by show b ≠ W1.heap.size; omega) _, hB'.setCell (by show W0.heap.size <= W1.heap.size; omega) _⟩
          rw [HSR.out, HK.out]
          exact hD'.setW (by omega) _
         case measure => simp [intOf]; omega
        ·have hy5 : y = 5 := by omega
         rw [hy5] at hD
         clear hy5
         go_wp2_with fail
         go_round
         case rel => exact ⟨x + 1, hlt3, by go_num, by rw [HSB.out]; exact hD, hC, hA, hB⟩
         case measure => simp [intOf]; omega
      ·have hx5 : x = 5 := by omega
       rw [hx5] at hD
       go_wp2_with fail
       clear hx5 hlt3 hx
       have hwB := Ds hwk hwC 5
       have HKR := Lib.hid (show Fa A c = ((List.range 25).map (ka (FI A C 5))).set 0 (ka (FI A C 5) 0 ^^^ c) by rw [HCE.out]; rfl)
       have hlB := I3 A C 5
       have hF5 : WF (fun _ => False) b W0 wr := WF.of_below hB
       generalize FI A C 5 = B at *
       clear hC hB hwC hlC HCE
       go_loopw [10] (fun i wc => ∃ r : Nat, r <= 5 /\ i = .int .i64 ((5 * r : Nat) : Int) /\ AW wc b t (Ai (CY (ka B) A (5 * r)) ++ rest).toArray /\ AW wc W1.heap.size 251 (Ai B ++ []).toArray /\ WF (fun _ => False) b W0 wc) (fun i _ => 25 - (intOf i).toNat)
       case atStart => exact ⟨0, by omega, rfl, by rw [Kk _ _ hlk]; exact hA, hD, hF5⟩
       case round =>
        clear hA hD hF5
        obtain ⟨r, hr, rfl, hA, hD, hF⟩ := hrel
        by_cases hltr : r < 5
        ·have h25 : ((5 * r : Nat) : Int) < 25 := by omega
         go_wp2_with fail
         have hF0 := hF
         go_loopw [106] (fun i wc => ∃ x : Nat, x <= 5 /\ i = .int .i64 x /\ AW wc b t (Ai (CY (ka B) A (5 * r + x)) ++ rest).toArray /\ AW wc W1.heap.size 251 (Ai B ++ []).toArray /\ WF (fun _ => False) b W0 wc) (fun i _ => 5 - (intOf i).toNat)
         case atStart => exact ⟨0, by omega, rfl, hA, hD, hF⟩
         case round =>
          clear hA hD hF hF0
          obtain ⟨x, hx, rfl, hA, hD, hF⟩ := hrel
          by_cases hltx : x < 5
          ·have h0 := hD.word (i := x + 5 * r) (by omega)
           have h1 := hD.word (i := (x + 1) % 5 + 5 * r) (by omega)
           have h2 := hD.word (i := (x + 2) % 5 + 5 * r) (by omega)
           have h3 := hA.word (i := x + 5 * r) (by rw [DU]; omega)
           have h4 := hA.free (x + 5 * r)
           have HK := Lib.hid (show ka B (5 * r + x) = B.getD (x + 5 * r) 0 ^^^ (BG (B.getD ((x + 1) % 5 + 5 * r) 0) &&& B.getD ((x + 2) % 5 + 5 * r) 0) by
            unfold ka
            rw [show 5 * r + x = x + 5 * r by omega, show (x + 5 * r) % 5 = x by omega, show (x + 5 * r) / 5 * 5 = 5 * r by omega])
           have l0 := hwB.getD (x + 5 * r)
           have l1 := hwB.getD ((x + 1) % 5 + 5 * r)
           have l2 := hwB.getD ((x + 2) % 5 + 5 * r)
           generalize B.getD (x + 5 * r) 0 = b0 at *
           generalize B.getD ((x + 1) % 5 + 5 * r) 0 = b1 at *
           generalize B.getD ((x + 2) % 5 + 5 * r) 0 = b2 at *
           go_wp2_with (go_region)
           have he : bits .xor .u64 (b0 : Int) (bits .and .u64 (bits .xor .u64 (if IntKind.u64.signed = true then -1 else IntKind.u64.max) (b1 : Int)) (b2 : Int)) = ((ka B (5 * r + x) : Nat) : Int) := by
            rw [notu l1, Gt (EK _) l2, Ec l0 (and_lt (EK _)), HK.out]
           rw [he]
           refine ⟨⟨x + 1, hltx, by go_num, ?_, (hD.far (by show W1.heap.size ≠ b; omega) _).drew, hF.trans (WF.trans (WF.set _ _ _ _ _) (WF.of_below (Below.refl _ _).drew))⟩, by simp [intOf]; omega⟩
           have := (hA.setW (i := x + 5 * r) (by rw [DU]; omega) (ka B (5 * r + x))).drew
           rw [show x + 5 * r = 5 * r + x by omega, Kl _ _ _ (by omega)] at this
           rw [show x + 5 * r = 5 * r + x by omega]
           exact this
          ·have hx5 : x = 5 := by omega
           rw [hx5] at hA
           go_wp2_with fail
           clear hx5 hltx hx
           go_round
           case rel => exact ⟨r + 1, hltr, by go_num, hA, hD, hF⟩
           case measure => simp [intOf]; omega
        ·have hr5 : r = 5 := by omega
         rw [hr5] at hA
         have h25 : ¬ ((5 * r : Nat) : Int) < 25 := by omega
         have hm := mixTo_full (ka B) A
         rw [show 5 * 5 = 25 from rfl, hm] at hA
         have hka : (((List.range 25).map (ka B)).getD 0 0) = ka B 0 := by simp
         have h0 := hA.word (i := 0) (by simp)
         have h1 := hA.free 0
         rw [hka] at h0
         have l0 := ka_lt hwB 0
         have hx0 := Ec l0 hrl
         have HX := Lib.hid hx0
         have HM := Lib.hid (show ((List.range 25).map (ka B)).length = 25 by simp)
         clear hx0 hka hm
         generalize ka B 0 = k0 at *
         generalize (List.range 25).map (ka B) = M at *
         go_wp2_with (go_region)
         rw [HX.out]
         have hset := (hA.setW (i := 0) (by rw [HM.out]; simp) (k0 ^^^ c)).drew
         refine ⟨⟨k + 1, hlt, by go_num, ?_, HF.out.trans ((hF.trans (WF.trans (WF.set _ _ _ _ _) (WF.of_below (Below.refl _ _).drew))).imp fun _ h _ => h.elim)⟩, by simp [intOf]; omega⟩
         rw [HS.out, HKR.out]
         exact hset
  ·have hk24 : k = 24 := by omega
   rw [hk24] at hA
   go_wp2_with fail
   exact bodyPost_end (results_none rfl _ _ _) rfl ⟨rfl, by rw [perm_eq]; exact hA, hF⟩
end
section
open Go.RowKit
attribute [local go_sem ↓] Go.wp_at_zero Go.wp_at_succ
set_option maxRecDepth 20000
def lew (l : List Nat) (i : Nat) : Nat -> Nat
 | 0 => 0
 | n + 1 => (lew l i n * 256) % AA ||| l.getD (8 * i + (7 - n)) 0
theorem AK.getD {l : List Nat} (h : AK l) (k : Nat) : l.getD k 0 < 256 := by
 rcases Nat.lt_or_ge k l.length with h1 | h1
 ·rw [List.getD_eq_getElem?_getD, List.getElem?_eq_getElem h1]; exact h _ (List.getElem_mem h1)
 ·rw [List.getD_eq_getElem?_getD, List.getElem?_eq_none h1]; simp
theorem lew_lt {l : List Nat} (h : AK l) (i n : Nat) : lew l i n < AA := by
 cases n with
 | zero => simp [lew, AA]
 | succ n => exact Kc (Nat.mod_lt _ (by simp [AA])) (Nat.lt_trans (h.getD _) (by unfold AA; omega))
def absW (a l : List Nat) (i : Nat) : Nat := a.getD i 0 ^^^ lew l i 8
def CG (a l : List Nat) : List Nat := perm (CY (absW a l) a 17)
theorem mixTo_at (f : Nat -> Nat) (a : List Nat) (k : Nat) (h : k < 25) : (CY f a k).getD k 0 = a.getD k 0 := by
 simp [CY, List.getD_eq_getElem?_getD, h]
theorem J3 {f : Nat -> Nat} {a : List Nat} (hf : ∀ i, f i < AA) (ha : Ak a) (k : Nat) : Ak (CY f a k) :=
 Ak.range _ _ fun j _ => by split; exact hf j; exact ha.getD j
set_option maxHeartbeats 4000000 in
theorem GH (b : Nat) (t : TypeId) (a : List Nat) (rest : List Value) (d o cap : Nat) (l : List Nat) (w : World) (hT : GM w) (hA : AW w b t (Ai a ++ rest).toArray) (hl : a.length = 25) (hw : Ak a)
  (hb1 : 1 ≠ b /\ 2 ≠ b) (hl2 : l.length = 136) (hby : AK l) (hc : 136 <= cap) (hc2 : cap <= 9223372036854775807) (hne : d ≠ b \/ 25 <= o)
  (hcell : ∀ j, j < 136 -> w.cell? ⟨d, o + j, none⟩ = some (.int .u8 (l.getD j 0 : Nat))) :
  Calls Tryz.prog 220 #[.pointer (some ⟨b, 0, none⟩), .slice (some ⟨d, o, none⟩) 136 cap] w (fun e w' => e = .returned (.tuple #[]) /\ AW w' b t (Ai (CG a l) ++ rest).toArray /\ WF (fun _ => False) b w w') := by
 have hcs : ∀ wr : World, (∀ q : Addr, (q.block ≠ b \/ 25 <= q.off) -> wr.cell? q = w.cell? q) -> ∀ j, j < 136 -> wr.cell? ⟨d, o + j, none⟩ = some (.int .u8 (l.getD j 0 : Nat)) := fun wr h j hj => (h ⟨d, o + j, none⟩ (by rcases hne with h1 | h1; exact .inl h1; exact .inr (by show 25 <= o + j; omega))).trans (hcell j hj)
 have HCS := Lib.hid hcs
 clear hcs hcell
 go_enter Tryz.func220, Tryz.ntmps220
 go_wp2_with fail
 go_loopw [7] (fun i wr => ∃ k : Nat, k <= 17 /\ i = .int .i64 k /\ AW wr b t (Ai (CY (absW a l) a k) ++ rest).toArray /\ WF (fun _ => False) b w wr /\ ∀ q : Addr, (q.block ≠ b \/ 25 <= q.off) -> wr.cell? q = w.cell? q) (fun i _ => 17 - (intOf i).toNat)
 case atStart => exact ⟨0, by omega, rfl, by rw [Kk _ _ hl]; exact hA, WF.refl _ _ _, fun q _ => rfl⟩
 case round =>
  clear hA
  obtain ⟨k, hk, rfl, hA, hF, hq⟩ := hrel
  by_cases hlt : k < 17
  ·have HC := Lib.hid (HCS.out wr hq)
   have HQ := Lib.hid hq
   clear hq
   have hdk : decide ((k : Int) < 17) = true := by simp; omega
   go_wp2_with fail
   try simp only [hdk]
   clear hdk
   go_loop [5, 6] (fun u i => ∃ n : Nat, n <= 8 /\ i = .int .i64 (7 - (n : Int)) /\ u = .int .u64 (lew l k n : Nat)) (fun _ i => (intOf i + 1).toNat)
   case atStart => exact ⟨0, by omega, rfl, rfl⟩
   case round =>
    obtain ⟨n, hn, rfl, rfl⟩ := hrel
    by_cases hltn : n < 8
    ·have hb := HC.out (8 * k + (7 - n)) (by omega)
     have HL := Lib.hid (show lew l k (n + 1) = (lew l k n * 256) % AA ||| l.getD (8 * k + (7 - n)) 0 from rfl)
     have l0 := lew_lt hby k n
     have l1 := hby.getD (8 * k + (7 - n))
     generalize lew l k n = x at *
     generalize l.getD (8 * k + (7 - n)) 0 = y at *
     have s1 : (8 * (k : Int) + (7 - (n : Int))).toNat = 8 * k + (7 - n) := by omega
     go_wp2_with fail
     refine ⟨⟨n + 1, hltn, by congr 1; omega, ?_⟩, by simp [intOf]; omega⟩
     have h1 : IntKind.u64.wrap ((x : Int) * 256) = ((x * 256 % AA : Nat) : Int) := by
      rw [show (x : Int) * 256 = ((x * 256 : Nat) : Int) by omega]
      exact wrap_u64 _
     rw [HL.out, h1, or64 (Nat.mod_lt _ (by simp [AA])) (Nat.lt_trans l1 (by unfold AA; omega))]
    ·have hn8 : n = 8 := by omega
     have l0 := hw.getD k
     have l1 := lew_lt hby k 8
     have HM := Lib.hid (Kl (absW a l) a k (by omega))
     have hx := Ec l0 l1
     have HX := Lib.hid (show bits .xor .u64 (a.getD k 0 : Nat) (lew l k 8 : Nat) = ((absW a l k : Nat) : Int) from hx)
     have h0 := hA.word (i := k) (by rw [DU]; omega)
     rw [mixTo_at _ _ _ (by omega)] at h0
     have h1 := hA.free k
     clear hx
     go_wp2_with fail
     clear hn8 hltn hn
     generalize lew l k 8 = L at *
     generalize a.getD k 0 = A0 at *
     go_wp2_with (go_region)
     rw [HX.out]
     refine ⟨⟨k + 1, hlt, by go_num, ?_, hF.trans (WF.trans (WF.set _ _ _ _ _) (WF.of_below (Below.refl _ _).drew)), fun q hq => ?_⟩, by simp [intOf]; omega⟩
     ·rw [<- HM.out]
      exact (hA.setW (by rw [DU]; omega) _).drew
     ·refine Eq.trans ?_ (HQ.out q hq)
      exact World.cell?_setCell_other _ _ _ _ (by rintro rfl; rcases hq with h | h; exact h rfl; have : 25 <= k := h; omega)
  ·have hk17 : k = 17 := by omega
   rw [hk17] at hA
   go_wp2_with fail
   refine (permute_any b t _ rest wr (hT.wf hF hb1) hA (DU _ _ _) (J3 (fun i => BJ (hw.getD i) (lew_lt hby i 8)) hw 17) hb1).mono ?_
   rintro e w2 ⟨rfl, hA2, hF2⟩
   go_wp2_with fail
   exact bodyPost_end (results_none rfl _ _ _) rfl ⟨rfl, hA2, hF.trans (hF2.imp fun _ h _ => h.elim)⟩
end
section
open Go.RowKit
attribute [local go_sem ↓] Go.wp_at_zero Go.wp_at_succ
set_option maxRecDepth 20000
def Bu (st blk : List Nat) (u tot : Nat) : List Value := Ai st ++ (Aa blk ++ [.int .i64 (u : Int), .int .u64 (tot : Int)])
set_option maxHeartbeats 4000000 in
theorem new_any (w : World) :
  Calls Tryz.prog 196 #[] w (fun e w' => e = .returned (.pointer (some ⟨w.heap.size, 0, none⟩)) /\ w' = w.alloc (.cells (Bu (List.replicate 25 0) (List.replicate 136 0) 0 0).toArray 254)) := by
 go_enter Tryz.func196, Tryz.ntmps196
 go_wp2_with fail
 go_ret
 exact ⟨rfl, rfl⟩
section
variable {w : World} {h : Nat} {t : TypeId} {st blk : List Nat} {u tot : Nat}
theorem DV (hH : AW w h t (Bu st blk u tot).toArray) (h1 : st.length = 25) (h2 : blk.length = 136) : w.cell? ⟨h, 161, none⟩ = some (.int .i64 (u : Int)) := by
 rw [hH.cell, List.getElem?_toArray, Bu, List.getElem?_append_right (by rw [AO]; omega), List.getElem?_append_right (by rw [Ae, AO]; omega), Ae, AO, h1, h2]
 rfl
theorem hash_tot (hH : AW w h t (Bu st blk u tot).toArray) (h1 : st.length = 25) (h2 : blk.length = 136) : w.cell? ⟨h, 162, none⟩ = some (.int .u64 (tot : Int)) := by
 rw [hH.cell, List.getElem?_toArray, Bu, List.getElem?_append_right (by rw [AO]; omega), List.getElem?_append_right (by rw [Ae, AO]; omega), Ae, AO, h1, h2]
 rfl
theorem IH (hH : AW w h t (Bu st blk u tot).toArray) (h1 : st.length = 25) (h2 : blk.length = 136) (j : Nat) (hj : j < 136) : w.cell? ⟨h, 25 + j, none⟩ = some (.int .u8 (blk.getD j 0 : Nat)) := by
 rw [hH.cell, List.getElem?_toArray, Bu, List.getElem?_append_right (by rw [AO]; omega), AO, h1, show 25 + j - 25 = j by omega, List.getElem?_append_left (by rw [Ae]; omega), CZ _ _ (by omega)]
theorem IG (hH : AW w h t (Bu st blk u tot).toArray) (h1 : st.length = 25) (h2 : blk.length = 136) (v : Nat) : AW (w.setCell ⟨h, 161, none⟩ (.int .i64 (v : Int))) h t (Bu st blk v tot).toArray := by
 have := hH.set 161 (.int .i64 (v : Int))
 rw [List.setIfInBounds_toArray, Bu, List.set_append_right _ _ (by rw [AO]; omega), List.set_append_right _ _ (by rw [Ae, AO]; omega), Ae, AO, h1, h2] at this
 exact this
theorem hash_setT (hH : AW w h t (Bu st blk u tot).toArray) (h1 : st.length = 25) (h2 : blk.length = 136) (v : Nat) : AW (w.setCell ⟨h, 162, none⟩ (.int .u64 (v : Int))) h t (Bu st blk u v).toArray := by
 have := hH.set 162 (.int .u64 (v : Int))
 rw [List.setIfInBounds_toArray, Bu, List.set_append_right _ _ (by rw [AO]; omega), List.set_append_right _ _ (by rw [Ae, AO]; omega), Ae, AO, h1, h2] at this
 exact this
theorem hash_lay (h1 : st.length = 25) (h2 : blk.length = 136) (l : List Nat) (hl : l.length <= 136) :
  ((Bu st blk u tot).toArray.toList.take 25 ++ Aa l ++ (Bu st blk u tot).toArray.toList.drop (25 + (Aa l).length)).toArray = (Bu st (l ++ blk.drop l.length) u tot).toArray := by
 congr 1
 have e1 : (Ai st).length = 25 := by rw [AO, h1]
 rw [Ae]
 simp only [Bu]
 rw [List.take_append_of_le_length (by omega), List.take_of_length_le (by omega), List.drop_append, List.drop_eq_nil_of_le (show (Ai st).length <= 25 + l.length by omega), e1, show 25 + l.length - 25 = l.length by omega,
  List.nil_append, List.drop_append_of_le_length (by rw [Ae]; omega), ES]
 simp [Aa, List.map_drop]
end
def En (l : List Nat) (j : Nat) : List Nat := (l.drop (136 * j)).take 136
def stB (st l : List Nat) : Nat -> List Nat
 | 0 => st
 | j + 1 => CG (stB st l j) (En l j)
theorem perm_ok {a : List Nat} (h : Ak a) (hl : a.length = 25) : Ak (perm a) /\ (perm a).length = 25 := IA h hl 24 (Nat.le_refl _)
theorem Fg {a l : List Nat} (h : Ak a) (hb : AK l) : Ak (CG a l) /\ (CG a l).length = 25 :=
 perm_ok (J3 (fun i => BJ (h.getD i) (lew_lt hb i 8)) h 17) (DU _ _ _)
theorem AK.take {l : List Nat} (h : AK l) (k : Nat) : AK (l.take k) := fun x hx => h x (List.mem_of_mem_take hx)
theorem AK.drop {l : List Nat} (h : AK l) (k : Nat) : AK (l.drop k) := fun x hx => h x (List.mem_of_mem_drop hx)
theorem AK.append {a b : List Nat} (h : AK a) (k : AK b) : AK (a ++ b) := fun x hx => by rcases List.mem_append.1 hx with h1 | h1; exact h x h1; exact k x h1
theorem stB_ok {st l : List Nat} (h : Ak st) (hl : st.length = 25) (hb : AK l) (j : Nat) : Ak (stB st l j) /\ (stB st l j).length = 25 := by
 induction j with
 | zero => exact ⟨h, hl⟩
 | succ j ih => exact Fg ih.1 ((hb.drop _).take _)
theorem WF.tr {q : Nat} {a b c : World} (h : WF (fun _ => False) q a b) (k : WF (fun _ => False) q b c) : WF (fun _ => False) q a c := h.trans (k.imp fun _ h _ => h.elim)
theorem WF.row (w : World) (h : Nat) (cs : Array Value) : WF (fun _ => False) h w (w.setRow h cs) :=
 ⟨rfl, rfl, rfl, by simp, fun k _ hq _ => setRow_other w h k cs hq, fun k cs' t fr hk _ h3 => (setRow_other w h k cs hk).trans h3⟩
set_option maxHeartbeats 4000000 in
theorem hwrite_any (h : Nat) (p : Value) (st l blk0 : List Nat) (tot : Nat) (w : World) (D : Nat -> Prop) (hT : GM w) (hH : AW w h 254 (Bu st blk0 0 tot).toArray) (h1 : st.length = 25) (hw : Ak st) (h2 : blk0.length = 136) (hb0 : AK blk0)
  (hp : Sl w D 1 p l.length (Aa l)) (hby : AK l) (hD : ∀ b, D b -> b < w.heap.size -> b ≠ h) (hb1 : 1 ≠ h /\ 2 ≠ h) (htot : tot + l.length < AA) :
  Calls Tryz.prog 197 #[.pointer (some ⟨h, 0, none⟩), p] w (fun e w' => e = .returned (.tuple #[]) /\
   (∃ blk, blk.length = 136 /\ AK blk /\ (∀ i, i < l.length % 136 -> blk.getD i 0 = l.getD (136 * (l.length / 136) + i) 0) /\ AW w' h 254 (Bu (stB st l (l.length / 136)) blk (l.length % 136) (tot + l.length)).toArray) /\ WF (fun _ => False) h w w') := by
 obtain ⟨A, c, rfl, hc, hc2⟩ := hp.shape
 have htc := hash_tot hH h1 h2
 have htf := hH.free 162
 have htw : IntKind.u64.wrap ((tot : Int) + (l.length : Int)) = ((tot + l.length : Nat) : Int) := by rw [IntWalk.u64_in _ (by unfold AA at htot; omega)]; omega
 have hlw : IntKind.u64.wrap (l.length : Int) = (l.length : Int) := IntWalk.u64_in _ (by unfold AA at htot; omega)
 go_enter Tryz.func197, Tryz.ntmps197
 go_wp2_with fail
 have hH1 := hash_setT hH h1 h2 (tot + l.length)
 have hp1 := (hp.imp (D' := fun b => D b /\ b ≠ h) fun b ha hb => ⟨ha, hD b ha hb⟩).setCell (q := ⟨h, 162, none⟩) (fun e => e.2 rfl) (.int .u64 ((tot + l.length : Nat) : Int))
 have hF1 := WF.set (fun _ => False) h w 162 (.int .u64 ((tot + l.length : Nat) : Int))
 rw [Int.natCast_add] at hH1 hp1 hF1
 have hw0 : w.heap.size = (w.setCell ⟨h, 162, none⟩ (.int .u64 ((tot : Int) + (l.length : Int)))).heap.size := by simp
 clear htc htf htw hlw hH hp
 generalize w.setCell ⟨h, 162, none⟩ (.int .u64 ((tot : Int) + (l.length : Int))) = W1 at *
 obtain ⟨tot1, htot1⟩ : ∃ tot1, tot1 = tot + l.length := ⟨_, rfl⟩
 rw [<- htot1] at hH1
 have HT1 := Lib.hid htot1
 clear htot1
 have hlen : l.length <= 9223372036854775807 := by omega
 go_loopw [1] (fun pv wr => ∃ (j m u : Nat) (blk : List Nat), 136 * j + u + m = l.length /\ u < 136 /\ (0 < m -> u = 0) /\ blk.length = 136 /\ AK blk /\ (∀ i, i < u -> blk.getD i 0 = l.getD (136 * j + i) 0) /\
   Sl wr (fun b => D b /\ b ≠ h) 1 pv m (Aa (l.drop (l.length - m))) /\ AW wr h 254 (Bu (stB st l j) blk u tot1).toArray /\ WF (fun _ => False) h w wr) (fun pv _ => match pv with | .slice _ n _ => n | _ => 0)
 case atStart => exact ⟨0, l.length, 0, blk0, by omega, by omega, fun _ => rfl, h2, hb0, fun i hi => by omega, by rw [Nat.sub_self, List.drop_zero]; exact hp1, hH1, hF1⟩
 case round =>
  clear hp1 hH1 hF1
  obtain ⟨j, m, u, blk, hjm, hu, hum, hbl, hbb, hbi, hp, hH, hF⟩ := hrel
  obtain ⟨A', c', rfl, hc', hc2'⟩ := hp.shape
  rcases Nat.eq_zero_or_pos m with rfl | hm
  ·go_wp2_with fail
   have hj : j = l.length / 136 := by omega
   have hu2 : u = l.length % 136 := by omega
   rw [<- HT1.out]
   exact bodyPost_end (results_none rfl _ _ _) rfl ⟨rfl, ⟨blk, hbl, hbb, by rw [<- hj, <- hu2]; exact hbi, by rw [<- hj, <- hu2]; exact hH⟩, hF⟩
  ·obtain rfl := hum hm
   have hst := stB_ok hw h1 hby j
   have huc := DV hH hst.2 hbl
   obtain ⟨hlx, A0, c0, he, _, _, hcells⟩ := id hp
   injection he with he1 he2 he3
   subst he1 he3
   obtain ⟨b, o, rfl, hDb, hbs, hcell⟩ := hcells hm
   obtain ⟨n, hn⟩ : ∃ n, n = min 136 m := ⟨_, rfl⟩
   obtain ⟨X, hXe⟩ : ∃ X, X = (l.drop (l.length - m)).take 136 := ⟨_, rfl⟩
   have hX : X.length = n := by rw [hXe, hn]; simp; omega
   have hXb : AK X := by rw [hXe]; exact (hby.drop _).take _
   have hcopy : (Builtin.copy_ #[22, 22] 3 #[.slice (some ⟨h, 25, none⟩) 136 136, .slice (some ⟨b, o, none⟩) m c']).run Tryz.prog wr.drew =
     .ok (goInt (n : Nat)) (wr.drew.setRow h (Bu (stB st l j) (X ++ blk.drop n) 0 tot1).toArray) := by
    have := run_copy_row (P := Tryz.prog) wr.drew 22 22 3 5 h 25 136 136 ⟨b, o, none⟩ m c' _ _ (Aa X) Tryz.underlying22 (by kernel_rfl) hH
     (by rw [Ae, hX, hn, Nat.min_comm]) (fun i v hv => ?_) (by rw [Ae, hX]; simp [Bu, AO, Ae, hst.2, hbl]; omega) (B6 _)
    ·rw [hash_lay hst.2 hbl _ (by omega), Ae, hX] at this
     exact this
    ·have hadd : (⟨b, o, none⟩ : Addr).add i = ⟨b, o + i, none⟩ := by unfold Addr.add; split <;> simp_all
     rw [hadd]
     refine hcell i v ?_
     rw [<- hv, hXe, Aa, Aa, List.map_take]
     have : i < n := by
      rcases Nat.lt_or_ge i n with h | h
      ·exact h
      ·rw [List.getElem?_eq_none (by rw [Ae, hX]; exact h)] at hv; cases hv
     rw [List.getElem?_take, if_pos (by omega)]
   have hblk1 : (X ++ blk.drop n).length = 136 := by simp; omega
   have hbb1 : AK (X ++ blk.drop n) := hXb.append (hbb.drop _)
   have hH2 : AW (wr.drew.setRow h (Bu (stB st l j) (X ++ blk.drop n) 0 tot1).toArray) h 254 (Bu (stB st l j) (X ++ blk.drop n) 0 tot1).toArray := setRow_heap _ _ _ _ _ _ hH
   have hF2 : WF (fun _ => False) h wr (wr.drew.setRow h (Bu (stB st l j) (X ++ blk.drop n) 0 tot1).toArray) := WF.trans (WF.of_below (Below.refl _ _).drew) ((WF.row _ _ _).imp fun _ h _ => h.elim)
   generalize wr.drew.setRow h (Bu (stB st l j) (X ++ blk.drop n) 0 tot1).toArray = W2 at *
   have huc2 := DV hH2 hst.2 hblk1
   have huf2 := hH2.free 161
   have hH3 := IG hH2 hst.2 hblk1 n
   have hF3 := hF2.trans ((WF.set (fun _ => False) h W2 161 (.int .i64 (n : Int))).imp fun _ h _ => h.elim)
   have hnm : n <= m := by omega
   have hnc : n <= c' := by omega
   have hn136 : n <= 136 := by omega
   have hbi2 : ∀ i, i < n -> (X ++ blk.drop n).getD i 0 = l.getD (136 * j + i) 0 := fun i hi => by
    rw [List.getD_eq_getElem?_getD, List.getElem?_append_left (by omega), hXe, List.getElem?_take, if_pos (by omega), List.getElem?_drop, <- List.getD_eq_getElem?_getD]
    congr 1; omega
   have HB2 := Lib.hid hbi2
   have hcase : (n = 136 /\ 136 <= m) \/ (n < 136 /\ n = m) := by omega
   have hXB := Lib.hid (show 136 <= m -> X = En l j from fun h136 => by rw [hXe, En]; congr 2; omega)
   have hslc : Sl wr (fun b => D b /\ b ≠ h) 1 (.slice (some ⟨b, o + n, none⟩) (m - n) (c' - n)) (m - n) (Aa (l.drop (l.length - (m - n)))) := by
    refine ⟨by simp [Aa]; omega, _, _, rfl, by omega, by unfold maxLen; omega, fun h0 => ⟨b, o + n, rfl, hDb, hbs, fun i v hv => ?_⟩⟩
    rw [Nat.add_assoc]
    refine hcell (n + i) v ?_
    rw [<- hv, Aa, Aa, List.map_drop, List.map_drop, List.getElem?_drop, List.getElem?_drop]
    congr 1; omega
   have hlen1 := hH3.lt
   clear hn hXe hbi2 hcells hcell hlx hbi hp hum he2
   rcases Nat.eq_zero_or_pos (c' - n) with hz | hz
   ·have hmz : m - n = 0 := by omega
    have hslz : Sl wr (fun b => D b /\ b ≠ h) 1 (.slice (some ⟨b, o, none⟩) (m - n) 0) (m - n) (Aa (l.drop (l.length - (m - n)))) := ⟨by simp [Aa]; omega, _, _, rfl, by omega, by simp [maxLen], fun h0 => absurd h0 (by omega)⟩
    rcases hcase with ⟨rfl, hm136⟩ | ⟨hn1, rfl⟩
    ·go_wp2_with (go_region)
     go_still_tail 7, (by kernel_rfl)
     change wpList _ _ _ _ _ (W2.setCell ⟨h, 161, none⟩ (.int .i64 ((136 : Nat) : Int))).drew
     have hHd : AW (W2.setCell ⟨h, 161, none⟩ (.int .i64 ((136 : Nat) : Int))).drew h 254 (Bu (stB st l j) (X ++ blk.drop 136) 136 tot1).toArray := hH3
     have hFd : WF (fun _ => False) h w (W2.setCell ⟨h, 161, none⟩ (.int .i64 ((136 : Nat) : Int))).drew := (hF.trans (hF3.imp fun _ h _ => h.elim)).trans (WF.of_below (Below.refl _ _).drew)
     have hFe : WF (fun _ => False) h wr (W2.setCell ⟨h, 161, none⟩ (.int .i64 ((136 : Nat) : Int))).drew := hF3.trans (WF.of_below (Below.refl _ _).drew)
     generalize (W2.setCell ⟨h, 161, none⟩ (.int .i64 ((136 : Nat) : Int))).drew = W3 at *
     clear huc2 huf2 hH2 hF2 hH3 hF3
     go_wp2_with fail
     refine (GH h 254 (stB st l j) _ h 25 136 X W3 (hT.wf hFd hb1) hHd hst.2 hst.1 hb1 hX hXb (Nat.le_refl _) (by omega) (.inr (Nat.le_refl _)) (fun i hi => by
      rw [IH hHd hst.2 hblk1 i hi, List.getD_eq_getElem?_getD, List.getElem?_append_left (by omega), <- List.getD_eq_getElem?_getD])).mono ?_
     rintro e w4 ⟨rfl, hA4, hF4⟩
     have hst4 := Fg (l := X) hst.1 hXb
     have hH4 : AW w4 h 254 (Bu (CG (stB st l j) X) (X ++ blk.drop 136) 136 tot1).toArray := hA4
     have huc4 := DV hH4 hst4.2 hblk1
     have huf4 := hH4.free 161
     clear hA4 hHd
     go_wp2_with fail
     have hF5 : WF (fun _ => False) h wr (w4.setCell ⟨h, 161, none⟩ (.int .i64 ((0 : Nat) : Int))) := hFe.tr (hF4.tr (WF.set _ _ _ _ _))
     refine ⟨⟨j + 1, m - 136, 0, X ++ blk.drop 136, by omega, by omega, fun _ => rfl, hblk1, hbb1, fun i hi => by omega, by have hx := hslz.wf hF5 (fun b hb _ => ⟨hb.2, fun h => h⟩); rw [hmz] at hx ⊢; exact hx, ?_, hF.trans (hF5.imp fun _ h _ => h.elim)⟩, by show 0 < m; omega⟩
     have := IG hH4 hst4.2 hblk1 0
     rw [stB, <- hXB.out hm136]
     exact this
    ·go_wp2_with (go_region)
     refine ⟨⟨j, 0, n, X ++ blk.drop n, by omega, hn1, fun h => absurd h (by omega), hblk1, hbb1, HB2.out, ?_, hH3, hF.trans (hF3.imp fun _ h _ => h.elim)⟩, by first | (show 0 < n; omega) | (show n - n < n; omega)⟩
     refine Sl.wf ?_ hF3 (fun b hb _ => ⟨hb.2, fun h => h⟩)
     rw [Nat.sub_self] at hslz
     exact hslz
   ·obtain ⟨z, hz⟩ : ∃ z, c' - n = z + 1 := ⟨c' - n - 1, by omega⟩
    have hslz := hslc
    rw [hz] at hslz
    rcases hcase with ⟨rfl, hm136⟩ | ⟨hn1, rfl⟩
    ·go_wp2_with (go_region)
     go_still_tail 7, (by kernel_rfl)
     change wpList _ _ _ _ _ (W2.setCell ⟨h, 161, none⟩ (.int .i64 ((136 : Nat) : Int))).drew
     have hHd : AW (W2.setCell ⟨h, 161, none⟩ (.int .i64 ((136 : Nat) : Int))).drew h 254 (Bu (stB st l j) (X ++ blk.drop 136) 136 tot1).toArray := hH3
     have hFd : WF (fun _ => False) h w (W2.setCell ⟨h, 161, none⟩ (.int .i64 ((136 : Nat) : Int))).drew := (hF.trans (hF3.imp fun _ h _ => h.elim)).trans (WF.of_below (Below.refl _ _).drew)
     have hFe : WF (fun _ => False) h wr (W2.setCell ⟨h, 161, none⟩ (.int .i64 ((136 : Nat) : Int))).drew := hF3.trans (WF.of_below (Below.refl _ _).drew)
     generalize (W2.setCell ⟨h, 161, none⟩ (.int .i64 ((136 : Nat) : Int))).drew = W3 at *
     clear huc2 huf2 hH2 hF2 hH3 hF3
     go_wp2_with fail
     refine (GH h 254 (stB st l j) _ h 25 136 X W3 (hT.wf hFd hb1) hHd hst.2 hst.1 hb1 hX hXb (Nat.le_refl _) (by omega) (.inr (Nat.le_refl _)) (fun i hi => by
      rw [IH hHd hst.2 hblk1 i hi, List.getD_eq_getElem?_getD, List.getElem?_append_left (by omega), <- List.getD_eq_getElem?_getD])).mono ?_
     rintro e w4 ⟨rfl, hA4, hF4⟩
     have hst4 := Fg (l := X) hst.1 hXb
     have hH4 : AW w4 h 254 (Bu (CG (stB st l j) X) (X ++ blk.drop 136) 136 tot1).toArray := hA4
     have huc4 := DV hH4 hst4.2 hblk1
     have huf4 := hH4.free 161
     clear hA4 hHd
     go_wp2_with fail
     have hF5 : WF (fun _ => False) h wr (w4.setCell ⟨h, 161, none⟩ (.int .i64 ((0 : Nat) : Int))) := hFe.tr (hF4.tr (WF.set _ _ _ _ _))
     refine ⟨⟨j + 1, m - 136, 0, X ++ blk.drop 136, by omega, by omega, fun _ => rfl, hblk1, hbb1, fun i hi => by omega, hslz.wf hF5 (fun b hb _ => ⟨hb.2, fun h => h⟩), ?_, hF.trans (hF5.imp fun _ h _ => h.elim)⟩, by show m - 136 < m; omega⟩
     have := IG hH4 hst4.2 hblk1 0
     rw [stB, <- hXB.out hm136]
     exact this
    ·go_wp2_with (go_region)
     refine ⟨⟨j, 0, n, X ++ blk.drop n, by omega, hn1, fun h => absurd h (by omega), hblk1, hbb1, HB2.out, ?_, hH3, hF.trans (hF3.imp fun _ h _ => h.elim)⟩, by first | (show 0 < n; omega) | (show n - n < n; omega)⟩
     refine Sl.wf ?_ hF3 (fun b hb _ => ⟨hb.2, fun h => h⟩)
     rw [Nat.sub_self] at hslz
     exact hslz
end
section
open Go.RowKit
attribute [local go_sem ↓] Go.wp_at_zero Go.wp_at_succ
set_option maxRecDepth 20000
def EL (r : List Nat) : List Nat :=
 let l := (r ++ List.replicate (136 - r.length) 0).set r.length 6
 l.set 135 (l.getD 135 0 ^^^ 128)
def GC (a : List Nat) (i : Nat) : Nat := a.getD (i / 8) 0 / 2 ^ (8 * (i % 8)) % 256
def H6 (st r : List Nat) : List Nat := (List.range 32).map (GC (CG st (EL r)))
section
variable {w : World} {b : Nat} {t : TypeId} {l : List Nat}
theorem AW.byte (h : AW w b t (Aa l).toArray) {i : Nat} (hi : i < l.length) : w.cell? ⟨b, i, none⟩ = some (.int .u8 (l.getD i 0 : Nat)) := by
 rw [h.cell, List.getElem?_toArray, CZ _ _ hi]
theorem AW.setB (h : AW w b t (Aa l).toArray) (i : Nat) (x : Nat) : AW (w.setCell ⟨b, i, none⟩ (.int .u8 (x : Int))) b t (Aa (l.set i x)).toArray := by
 have := h.set i (.int .u8 (x : Int))
 rw [List.setIfInBounds_toArray, <- FT] at this
 exact this
end
theorem lay0 (l : List Nat) (u : Nat) : ((Aa (List.replicate 136 0)).toArray.toList.take 0 ++ Aa l ++ (Aa (List.replicate 136 0)).toArray.toList.drop (0 + u)).toArray = (Aa (l ++ List.replicate (136 - u) 0)).toArray := by
 congr 1
 rw [List.take_zero, List.nil_append, ES, Nat.zero_add]
 congr 1
 show (Aa (List.replicate 136 0)).drop u = _
 rw [Aa, <- List.map_drop, List.drop_replicate]
 rfl
set_option maxHeartbeats 4000000 in
theorem hsum_any (h : Nat) (st blk : List Nat) (u tot : Nat) (w : World) (hT : GM w) (hH : AW w h 254 (Bu st blk u tot).toArray) (h1 : st.length = 25) (hw : Ak st) (h2 : blk.length = 136) (hb : AK blk) (hu : u < 136) :
  Calls Tryz.prog 198 #[.pointer (some ⟨h, 0, none⟩)] w (Ax (fun x _ => x = .agg (Aa (H6 st (blk.take u))).toArray) w) := by
 have hH0 := hH.alloc (.cells (Aa (List.replicate 32 0)).toArray 87)
 have hr0 := AW.new w 87 (Aa (List.replicate 32 0)).toArray
 have hB0 : Below w.heap.size w (w.alloc (.cells (Aa (List.replicate 32 0)).toArray 87)) := (Below.refl _ _).alloc (Nat.le_refl _) _
 have hrange : (w.alloc (.cells (Aa (List.replicate 32 0)).toArray 87)).rangeAt h 0 (Ai st) := fun j v hv => by
  have hj : j < st.length := by
   rcases Nat.lt_or_ge j st.length with h | h
   ·exact h
   ·rw [List.getElem?_eq_none (by rw [AO]; exact h)] at hv; cases hv
  rw [Nat.zero_add]
  rw [C8 _ _ hj] at hv
  rw [<- hv]
  exact AW.word hH0 hj
 have hi127 : (Tryz.prog.info? 251).map (·.size) = some (Ai st).length := by rw [AO, h1]; kernel_rfl
 have hi127' : (Tryz.prog.info? 251).map (·.size) = some (Ai st).toArray.size := by simpa using hi127
 have h25 : (Ai (List.replicate 25 0)).toArray.size = (Ai st).toArray.size := by simp [AO, h1]
 have hone : (Ai st).toArray.all (·.oneCell') = true := all_oneCell_toArray (by intro v hv; simp [Ai] at hv; obtain ⟨x, _, rfl⟩ := hv; rfl)
 have hbx1 : AW ((w.alloc (.cells (Aa (List.replicate 32 0)).toArray 87)).alloc (.cells (Ai (List.replicate 25 0)).toArray 251)) (w.heap.size + 1) 251 (Ai (List.replicate 25 0)).toArray := by
  have := AW.new (w.alloc (.cells (Aa (List.replicate 32 0)).toArray 87)) 251 (Ai (List.replicate 25 0)).toArray
  rw [World.size_alloc] at this
  exact this
 have HBX := Lib.hid hbx1
 clear hbx1
 have HR := Lib.hid hrange
 have HI := Lib.hid hi127
 have HI' := Lib.hid hi127'
 have H25 := Lib.hid h25
 have HO := Lib.hid hone
 clear hrange hi127 hi127' h25 hone
 go_enter Tryz.func198, Tryz.ntmps198
 go_upto_region 4 with (first
  | ((with_reducible refine qA 13 ?_); refine wpList_load_mid rfl 251 _ rfl h 0 rfl (Ai st) _ HR.out Tryz.underlying251 rfl HI.out ?_)
  | ((with_reducible show wpList _ _ _ (⟨none, .store 251 _ _, _, _, _, _⟩ :: _) _ _); refine wpList_store_row rfl 251 _ _ rfl (w.heap.size + 1) (Ai st).toArray rfl rfl 251 (Ai (List.replicate 25 0)).toArray HBX.out HI'.out H25.out HO.out ?_))
 change Code.wp _ _ _ _ (((w.alloc (.cells (Aa (List.replicate 32 0)).toArray 87)).alloc (.cells (Ai (List.replicate 25 0)).toArray 251)).setRow (w.heap.size + 1) (Ai st).toArray)
 have hS2 : AW (((w.alloc (.cells (Aa (List.replicate 32 0)).toArray 87)).alloc (.cells (Ai (List.replicate 25 0)).toArray 251)).setRow (w.heap.size + 1) (Ai st).toArray) (w.heap.size + 1) 251 (Ai st).toArray := setRow_heap _ _ _ _ _ _ HBX.out
 have hH2 : AW (((w.alloc (.cells (Aa (List.replicate 32 0)).toArray 87)).alloc (.cells (Ai (List.replicate 25 0)).toArray 251)).setRow (w.heap.size + 1) (Ai st).toArray) h 254 (Bu st blk u tot).toArray := (setRow_other _ _ _ _ (by have := hH.lt; omega)).trans (hH0.alloc _)
 have hr2 : AW (((w.alloc (.cells (Aa (List.replicate 32 0)).toArray 87)).alloc (.cells (Ai (List.replicate 25 0)).toArray 251)).setRow (w.heap.size + 1) (Ai st).toArray) w.heap.size 87 (Aa (List.replicate 32 0)).toArray := (setRow_other _ _ _ _ (by omega)).trans (hr0.alloc _)
 have hB2 : Below w.heap.size w (((w.alloc (.cells (Aa (List.replicate 32 0)).toArray 87)).alloc (.cells (Ai (List.replicate 25 0)).toArray 251)).setRow (w.heap.size + 1) (Ai st).toArray) := below_setRow (hB0.alloc (by simp) _) (by omega) _
 have hsz2 : (((w.alloc (.cells (Aa (List.replicate 32 0)).toArray 87)).alloc (.cells (Ai (List.replicate 25 0)).toArray 251)).setRow (w.heap.size + 1) (Ai st).toArray).heap.size = w.heap.size + 2 := by simp
 generalize (((w.alloc (.cells (Aa (List.replicate 32 0)).toArray 87)).alloc (.cells (Ai (List.replicate 25 0)).toArray 251)).setRow (w.heap.size + 1) (Ai st).toArray) = W2 at *
 have hhl := hH.lt
 clear hH0 hr0 hB0 HBX HR HI HI' H25 HO
 go_wp2_with fail
 change Code.wp _ _ _ _ (W2.alloc (.cells (Aa (List.replicate 136 0)).toArray 252))
 have hL3 : AW (W2.alloc (.cells (Aa (List.replicate 136 0)).toArray 252)) (w.heap.size + 2) 252 (Aa (List.replicate 136 0)).toArray := by
  have := AW.new W2 252 (Aa (List.replicate 136 0)).toArray
  rw [hsz2] at this
  exact this
 have hS3 : AW (W2.alloc (.cells (Aa (List.replicate 136 0)).toArray 252)) _ _ _ := hS2.alloc _
 have hH3 : AW (W2.alloc (.cells (Aa (List.replicate 136 0)).toArray 252)) _ _ _ := hH2.alloc _
 have hr3 : AW (W2.alloc (.cells (Aa (List.replicate 136 0)).toArray 252)) _ _ _ := hr2.alloc _
 have hB3 : Below w.heap.size w (W2.alloc (.cells (Aa (List.replicate 136 0)).toArray 252)) := hB2.alloc (by rw [hsz2]; omega) _
 have hsz3 : (W2.alloc (.cells (Aa (List.replicate 136 0)).toArray 252)).heap.size = w.heap.size + 3 := by simp [hsz2]
 generalize (W2.alloc (.cells (Aa (List.replicate 136 0)).toArray 252)) = W3 at *
 clear hS2 hH2 hr2 hB2 hsz2
 have huc := DV hH3 h1 h2
 have hcopy : (Builtin.copy_ #[22, 22] 3 #[.slice (some ⟨(w.heap.size + 2), 0, none⟩) 136 136, .slice (some ⟨h, 25, none⟩) u 136]).run Tryz.prog W3.drew =
   .ok (goInt (u : Nat)) (W3.drew.setRow (w.heap.size + 2) (Aa (blk.take u ++ List.replicate (136 - u) 0)).toArray) := by
  have hlt : (blk.take u).length = u := by simp; omega
  have := run_copy_row (P := Tryz.prog) W3.drew 22 22 3 5 (w.heap.size + 2) 0 136 136 ⟨h, 25, none⟩ u 136 _ _ (Aa (blk.take u)) Tryz.underlying22 (by kernel_rfl) hL3
   (by rw [Ae, hlt]; exact (Nat.min_eq_left (by omega)).symm) (fun i v hv => ?_) (by rw [Ae, hlt]; simp [Ae]; omega) (B6 _)
  ·rw [Ae, hlt, lay0] at this
   exact this
  ·have hadd : (⟨h, 25, none⟩ : Addr).add i = ⟨h, 25 + i, none⟩ := by unfold Addr.add; split <;> simp_all
   rw [hadd]
   have : i < u := by
    rcases Nat.lt_or_ge i u with h | h
    ·exact h
    ·rw [List.getElem?_eq_none (by rw [Ae, hlt]; exact h)] at hv; cases hv
   refine (IH hH3 h1 h2 i (by omega)).trans ?_
   rw [<- hv, Aa, List.map_take, List.getElem?_take, if_pos this]
   exact (CZ blk i (by omega)).symm
 have hL4 : AW (W3.drew.setRow (w.heap.size + 2) (Aa (blk.take u ++ List.replicate (136 - u) 0)).toArray) (w.heap.size + 2) 252 (Aa (blk.take u ++ List.replicate (136 - u) 0)).toArray := setRow_heap _ _ _ _ _ _ hL3
 have hS4 : AW (W3.drew.setRow (w.heap.size + 2) (Aa (blk.take u ++ List.replicate (136 - u) 0)).toArray) (w.heap.size + 1) 251 (Ai st).toArray := (setRow_other _ _ _ _ (by omega)).trans hS3
 have hH4 : AW (W3.drew.setRow (w.heap.size + 2) (Aa (blk.take u ++ List.replicate (136 - u) 0)).toArray) h 254 (Bu st blk u tot).toArray := (setRow_other _ _ _ _ (by omega)).trans hH3
 have hr4 : AW (W3.drew.setRow (w.heap.size + 2) (Aa (blk.take u ++ List.replicate (136 - u) 0)).toArray) w.heap.size 87 (Aa (List.replicate 32 0)).toArray := (setRow_other _ _ _ _ (by omega)).trans hr3
 have hB4 : Below w.heap.size w (W3.drew.setRow (w.heap.size + 2) (Aa (blk.take u ++ List.replicate (136 - u) 0)).toArray) := below_setRow hB3.drew (by omega) _
 have hsz4 : (W3.drew.setRow (w.heap.size + 2) (Aa (blk.take u ++ List.replicate (136 - u) 0)).toArray).heap.size = w.heap.size + 3 := by simp [hsz3]
 obtain ⟨W4, hW4⟩ : ∃ W4, W4 = (W3.drew.setRow (w.heap.size + 2) (Aa (blk.take u ++ List.replicate (136 - u) 0)).toArray) := ⟨_, rfl⟩
 rw [<- hW4] at hcopy hL4 hS4 hH4 hr4 hB4 hsz4
 clear hW4 hL3 hS3 hH3 hr3 hB3
 have huc4 := DV hH4 h1 h2
 have hlen4 : (blk.take u ++ List.replicate (136 - u) 0).length = 136 := by simp; omega
 have hl0 := hL4.byte (i := u) (by omega)
 have hf0 := hL4.free u
 have hsl : ∀ wx, (Instr.sliceAt 252 (.pointer (some ⟨h, 25, none⟩)) none (some (.int .i64 (u : Int))) none).run Tryz.prog wx = .ok (.slice (some ⟨h, 25, none⟩) u 136) wx := fun wx => by
  have hal : Tryz.prog.arrayLen 252 = 136 := by kernel_rfl
  have := run_sliceAt_array_h (P := Tryz.prog) (w := wx) (t := 252) (h := u) ⟨h, 25, none⟩ Tryz.underlying252 .i64 (by omega) (by rw [hal]; omega)
  rw [hal] at this
  exact this
 obtain ⟨l1, hl1e⟩ : ∃ l1, l1 = (blk.take u ++ List.replicate (136 - u) 0).set u 6 := ⟨_, rfl⟩
 have hL5 : AW (W4.setCell ⟨w.heap.size + 2, u, none⟩ (.int .u8 6)) (w.heap.size + 2) 252 (Aa l1).toArray := by rw [hl1e]; exact hL4.setB u 6
 have hlen1 : l1.length = 136 := by rw [hl1e, List.length_set]; exact hlen4
 have hby1 : AK l1 := by
  rw [hl1e]
  intro x hx
  rcases List.mem_or_eq_of_mem_set hx with h | h
  ·rcases List.mem_append.1 h with h | h
   ·exact hb x (List.mem_of_mem_take h)
   ·rw [List.eq_of_mem_replicate h]; omega
  ·omega
 have hl5 := hL5.byte (i := 135) (by omega)
 have hf5 := hL5.free 135
 have hxl := hby1.getD 135
 have hx8 : bits .xor .u8 (l1.getD 135 0 : Nat) 128 = ((l1.getD 135 0 ^^^ 128 : Nat) : Int) := u8_xor_nat _ 128 (by omega) (by omega)
 have HL6 := Lib.hid ((hL5.setB 135 (l1.getD 135 0 ^^^ 128)))
 have HE := Lib.hid (show EL (blk.take u) = l1.set 135 (l1.getD 135 0 ^^^ 128) by
  have hlt : (blk.take u).length = u := by simp; omega
  rw [EL, hlt, hl1e])
 have hxb : l1.getD 135 0 ^^^ 128 < 256 := Nat.xor_lt_two_pow (n := 8) hxl (by omega)
 generalize l1.getD 135 0 = y at *
 have hS5 := (hS4.far (q := ⟨w.heap.size + 2, u, none⟩) (by show w.heap.size + 1 ≠ w.heap.size + 2; omega) (.int .u8 6)).far (q := ⟨w.heap.size + 2, 135, none⟩) (by show w.heap.size + 1 ≠ w.heap.size + 2; omega) (.int .u8 ((y ^^^ 128 : Nat) : Int))
 have hr5 := (hr4.far (q := ⟨w.heap.size + 2, u, none⟩) (by show w.heap.size ≠ w.heap.size + 2; omega) (.int .u8 6)).far (q := ⟨w.heap.size + 2, 135, none⟩) (by show w.heap.size ≠ w.heap.size + 2; omega) (.int .u8 ((y ^^^ 128 : Nat) : Int))
 have hB5 := (hB4.setCell (p := ⟨w.heap.size + 2, u, none⟩) (by show w.heap.size <= w.heap.size + 2; omega) (.int .u8 6)).setCell (p := ⟨w.heap.size + 2, 135, none⟩) (by show w.heap.size <= w.heap.size + 2; omega) (.int .u8 ((y ^^^ 128 : Nat) : Int))
 have HX8 := Lib.hid hx8
 have HS5 := Lib.hid hS5
 have HR5 := Lib.hid hr5
 have HB5 := Lib.hid hB5
 clear hx8 hS5 hr5 hB5
 go_wp2_with (go_region)
 rw [HX8.out]
 have hL6 := HL6.out
 have hS6 := HS5.out
 have hr6 := HR5.out
 have hB6 := HB5.out
 have hsz6 : ((W4.setCell ⟨w.heap.size + 2, u, none⟩ (.int .u8 6)).setCell ⟨w.heap.size + 2, 135, none⟩ (.int .u8 ((y ^^^ 128 : Nat) : Int))).heap.size = w.heap.size + 3 := by simp [hsz4]
 generalize (W4.setCell ⟨w.heap.size + 2, u, none⟩ (.int .u8 6)).setCell ⟨w.heap.size + 2, 135, none⟩ (.int .u8 ((y ^^^ 128 : Nat) : Int)) = W6 at *
 rw [<- HE.out] at hL6
 have hblk : AK (EL (blk.take u)) := by rw [HE.out]; intro x hx; rcases List.mem_or_eq_of_mem_set hx with h | h; exact hby1 x h; omega
 have hlk : (EL (blk.take u)).length = 136 := by rw [HE.out, List.length_set]; exact hlen1
 clear HL6 HS5 HR5 HB5 hl5 hf5 hL5 hL4 hS4 hH4 hr4 hB4 hcopy hsl huc4 hl0 hf0
 have HSUM := Lib.hid (show H6 st (blk.take u) = (List.range 32).map (GC (CG st (EL (blk.take u)))) from rfl)
 generalize EL (blk.take u) = lk at *
 obtain ⟨⟨_, ht1⟩, _, ht2⟩ := id hT
 have htl1 := ht1.lt
 have htl2 := ht2.lt
 have hT6 := hT.ext hB6
 refine (GH (w.heap.size + 1) 251 st [] (w.heap.size + 2) 0 136 lk W6 hT6 (by rw [List.append_nil]; exact hS6) h1 hw ⟨by omega, by omega⟩ hlk hblk (Nat.le_refl _) (by omega) (.inl (by omega)) (fun j hj => by
  rw [Nat.zero_add]; exact hL6.byte (by omega))).mono ?_
 rintro e W7 ⟨rfl, hS7, hF7⟩
 have hr7 := hF7.box hr6 (by omega) (by decide)
 have hB7 := hB6.trans (hF7.below (by omega) (fun _ h => h.elim) (by omega))
 have hsz7 := hF7.size
 have hak := Fg (l := lk) hw hblk
 clear hS6 hr6 hB6 hF7 hL6 hT6 ht1 ht2
 rw [List.append_nil] at hS7
 have hO8 := AW.new W7 87 (Aa (List.replicate 32 0)).toArray
 have hS8 := hS7.alloc (.cells (Aa (List.replicate 32 0)).toArray 87)
 have hr8 := hr7.alloc (.cells (Aa (List.replicate 32 0)).toArray 87)
 have hB8 := hB7.alloc (by omega) (.cells (Aa (List.replicate 32 0)).toArray 87)
 generalize CG st lk = ak at *
 go_wp2_with fail
 go_loopw [35] (fun i wr => ∃ k : Nat, k <= 32 /\ i = .int .i64 k /\ AW wr W7.heap.size 87 (Aa (Bw (GC ak) k 32)).toArray /\ AW wr (w.heap.size + 1) 251 (Ai ak).toArray /\ AW wr w.heap.size 87 (Aa (List.replicate 32 0)).toArray /\ Below w.heap.size w wr) (fun i _ => 32 - (intOf i).toNat)
 case atStart => exact ⟨0, by omega, rfl, by rw [DE]; exact hO8, hS8, hr8, hB8⟩
 case round =>
  clear hO8 hS8 hr8 hB8 hS7 hr7 hB7
  obtain ⟨k, hk, rfl, hO, hS, hr, hB⟩ := hrel
  by_cases hlt : k < 32
  ·have hS' : AW wr (w.heap.size + 1) 251 (Ai ak ++ []).toArray := by rw [List.append_nil]; exact hS
   have h0 := hS'.word (i := k / 8) (by omega)
   have h1' := hO.byte (i := k) (by rw [Du]; omega)
   have h2' := hO.free k
   have l0 := hak.1.getD (k / 8)
   have HO := Lib.hid (show GC ak k = ak.getD (k / 8) 0 / 2 ^ (8 * (k % 8)) % 256 from rfl)
   generalize ak.getD (k / 8) 0 = x at *
   have s1 : (8 * ((k : Int) % 8)).toNat = 8 * (k % 8) := by omega
   clear hS'
   go_wp2_with fail
   have he : (x : Int) / 2 ^ (8 * (k % 8)) % 256 = ((GC ak k : Nat) : Int) := by rw [HO.out, Int.natCast_emod, Int.natCast_ediv, Int.natCast_pow]; rfl
   rw [he]
   refine ⟨⟨k + 1, hlt, by go_num, ?_, hS.far (by show w.heap.size + 1 ≠ W7.heap.size; omega) _, hr.far (by show w.heap.size ≠ W7.heap.size; omega) _, hB.setCell (by show w.heap.size <= W7.heap.size; omega) _⟩, by simp [intOf]; omega⟩
   have := hO.setB k (GC ak k)
   rw [E9] at this
   exact this
  ·have hk32 : k = 32 := by omega
   rw [hk32, Di] at hO
   rw [<- HSUM.out] at hO
   have hLL : (H6 st (blk.take u)).length = 32 := by simp [H6]
   obtain ⟨L, hLe⟩ : ∃ L, L = H6 st (blk.take u) := ⟨_, rfl⟩
   rw [<- hLe] at hO hLL
   have HLE := Lib.hid hLe
   clear hLe
   have hi32 : (Tryz.prog.info? 87).map (·.size) = some (Aa L).toArray.size := by rw [List.size_toArray, Ae, hLL]; kernel_rfl
   have hone : (Aa L).toArray.all (·.oneCell') = true := all_oneCell_toArray (B6 _)
   have hold : (Aa (List.replicate 32 0)).toArray.size = (Aa L).toArray.size := by simp [Ae, hLL]
   have HI := Lib.hid hi32
   have HON := Lib.hid hone
   have HOL := Lib.hid hold
   have HOO := Lib.hid hO
   have HRR := Lib.hid hr
   clear hi32 hone hold hO hr hS
   go_wp2_with (first
    | ((with_reducible refine qA 50 ?_); refine wpList_load_row rfl 87 _ rfl W7.heap.size rfl 87 (Aa L).toArray (0, 0) _ HOO.out Tryz.underlying87 rfl HI.out ?_)
    | ((with_reducible show wpList _ _ _ (⟨none, .store 87 _ _, _, _, _, _⟩ :: _) _ _); refine wpList_store_row rfl 87 _ _ rfl w.heap.size (Aa L).toArray rfl rfl 87 (Aa (List.replicate 32 0)).toArray HRR.out HI.out HOL.out HON.out ?_))
   refine bodyPost_ret (v := .agg (Aa L).toArray) (by exact results_cell_row rfl _ _ w.heap.size 87 _ (0, 0) _ rfl (setRow_heap _ _ _ _ _ _ HRR.out) Tryz.underlying87 rfl HI.out) rfl ?_
   exact Ax.mk (by rw [HLE.out]) (below_setRow hB (Nat.le_refl _) _)
end
section
open Go.RowKit
attribute [local go_sem ↓] Go.wp_at_zero Go.wp_at_succ
set_option maxRecDepth 20000
def CU (l : List Nat) : List Nat := H6 (stB (List.replicate 25 0) l (l.length / 136)) (l.drop (136 * (l.length / 136)))
theorem take_rest {blk l : List Nat} (h : blk.length = 136) (hb : ∀ i, i < l.length % 136 -> blk.getD i 0 = l.getD (136 * (l.length / 136) + i) 0) : blk.take (l.length % 136) = l.drop (136 * (l.length / 136)) := by
 have h1 : l.length % 136 < 136 := Nat.mod_lt _ (by decide)
 have h2 := Nat.div_add_mod l.length 136
 apply List.ext_getElem
 ·simp; omega
 ·intro i h3 h4
  have h5 : i < l.length % 136 := by simp at h3; omega
  have h6 := hb i h5
  rw [List.getD_eq_getElem?_getD, List.getD_eq_getElem?_getD, List.getElem?_eq_getElem (by omega), List.getElem?_eq_getElem (by omega)] at h6
  simpa using h6
set_option maxHeartbeats 1000000 in
theorem ksum_any (p : Value) (l : List Nat) (w : World) (D : Nat -> Prop) (hT : GM w) (hp : Sl w D 1 p l.length (Aa l)) (hby : AK l) (hll : l.length <= 1000000000000000) :
  Calls Tryz.prog 155 #[p] w (Ax (fun x _ => x = .agg (Aa (CU l)).toArray) w) := by
 obtain ⟨⟨_, ht1⟩, _, ht2⟩ := id hT
 have htl1 := ht1.lt
 have htl2 := ht2.lt
 have hr0 := AW.new w 87 (Aa (List.replicate 32 0)).toArray
 have hB0 : Below w.heap.size w (w.alloc (.cells (Aa (List.replicate 32 0)).toArray 87)) := (Below.refl _ _).alloc (Nat.le_refl _) _
 have hp0 := (hp.imp (D' := fun b => D b /\ b < w.heap.size) fun b h1 h2 => ⟨h1, h2⟩).ext hB0
 have hi32 : (Tryz.prog.info? 87).map (·.size) = some (Aa (CU l)).toArray.size := by rw [List.size_toArray, Ae]; simp only [CU, H6, List.length_map, List.length_range]; kernel_rfl
 have hone : (Aa (CU l)).toArray.all (·.oneCell') = true := all_oneCell_toArray (B6 _)
 have hold : (Aa (List.replicate 32 0)).toArray.size = (Aa (CU l)).toArray.size := by simp [Ae, CU, H6]
 have HI := Lib.hid hi32
 have HON := Lib.hid hone
 have HOL := Lib.hid hold
 have hsz0 : (w.alloc (.cells (Aa (List.replicate 32 0)).toArray 87)).heap.size = w.heap.size + 1 := by simp
 clear hi32 hone hold ht1 ht2 hp
 go_enter Tryz.func155, Tryz.ntmps155
 go_wp2_with fail
 change Calls _ _ _ (w.alloc (.cells (Aa (List.replicate 32 0)).toArray 87)) _
 generalize w.alloc (.cells (Aa (List.replicate 32 0)).toArray 87) = W1 at *
 refine (new_any W1).mono ?_
 rintro e W2 ⟨rfl, rfl⟩
 have hH2 := AW.new W1 254 (Bu (List.replicate 25 0) (List.replicate 136 0) 0 0).toArray
 rw [hsz0] at hH2
 have hr2 := hr0.alloc (.cells (Bu (List.replicate 25 0) (List.replicate 136 0) 0 0).toArray 254)
 have hp2 := hp0.alloc (.cells (Bu (List.replicate 25 0) (List.replicate 136 0) 0 0).toArray 254)
 have hB2 := hB0.alloc (by omega) (.cells (Bu (List.replicate 25 0) (List.replicate 136 0) 0 0).toArray 254)
 have hT2 := hT.ext hB2
 generalize W1.alloc (.cells (Bu (List.replicate 25 0) (List.replicate 136 0) 0 0).toArray 254) = W2 at *
 clear hr0 hB0 hp0
 have hby0 : AK (List.replicate 136 0) := by intro x hx; rw [List.eq_of_mem_replicate hx]; omega
 have hlb0 : (List.replicate 136 0 : List Nat).length = 136 := List.length_replicate
 have hls0 : (List.replicate 25 0 : List Nat).length = 25 := List.length_replicate
 have hws0 := Ak.zeros 25
 have HSH := Lib.hid (show CU l = H6 (stB (List.replicate 25 0) l (l.length / 136)) (l.drop (136 * (l.length / 136))) from rfl)
 generalize (List.replicate 136 0 : List Nat) = blk0 at *
 generalize (List.replicate 25 0 : List Nat) = st0 at *
 have HR2 := Lib.hid hr2
 have HH2 := Lib.hid hH2
 clear hr2 hH2
 go_wp2_with fail
 refine (hwrite_any (w.heap.size + 1) _ st0 l blk0 0 W2 _ hT2 HH2.out hls0 hws0 hlb0 hby0 hp2 hby (fun b hb _ => by have := hb.2; omega) ⟨by omega, by omega⟩ (by unfold AA; omega)).mono ?_
 rintro e W3 ⟨rfl, ⟨blk, hbl, hbb, hbi, hH3⟩, hF3⟩
 have hr3 := hF3.box HR2.out (by omega) (by decide)
 have hB3 := hB2.trans (hF3.below (by omega) (fun _ h => h.elim) (by have := HR2.out.lt; omega))
 have hT3 := hT.ext hB3
 have hst := stB_ok hws0 hls0 hby (l.length / 136)
 have hmod : l.length % 136 < 136 := Nat.mod_lt _ (by decide)
 have HTK := Lib.hid (take_rest hbl hbi)
 clear hB2 hT2 hF3 hbi hp2 HR2 HH2
 go_wp2_with fail
 refine (hsum_any (w.heap.size + 1) _ blk _ _ W3 hT3 hH3 hst.2 hst.1 hbl hbb hmod).mono ?_
 rintro e W4 ⟨v, rfl, rfl, hB4⟩
 rw [HTK.out, <- HSH.out]
 have hr4 := hr3.ext hB4
 have hB5 := hB3.trans (hB4.mono hB3.size)
 have HR4 := Lib.hid hr4
 clear hr3 hr4 hB4
 go_wp2_with ((with_reducible show wpList _ _ _ (⟨none, .store 87 _ _, _, _, _, _⟩ :: _) _ _); refine wpList_store_row rfl 87 _ _ rfl w.heap.size (Aa (CU l)).toArray rfl rfl 87 (Aa (List.replicate 32 0)).toArray HR4.out HI.out HOL.out HON.out ?_)
 refine bodyPost_ret (v := .agg (Aa (CU l)).toArray) (by exact results_cell_row rfl _ _ w.heap.size 87 _ (0, 0) _ rfl (setRow_heap _ _ _ _ _ _ HR4.out) Tryz.underlying87 rfl HI.out) rfl ?_
 exact Ax.mk rfl (below_setRow hB5 (Nat.le_refl _) _)
end
section
open Go.RowKit
attribute [local go_sem ↓] Go.wp_at_zero Go.wp_at_succ
set_option maxRecDepth 20000
def sb (s : ByteArray) : List Nat := s.data.toList.map (·.toNat)
theorem Et (s : ByteArray) : (sb s).length = s.size := by simp [sb]
theorem sb_bytes (s : ByteArray) : AK (sb s) := by
 intro x hx
 simp only [sb, List.mem_map] at hx
 obtain ⟨y, _, rfl⟩ := hx
 exact y.toNat_lt
theorem wstring_any (q : Nat) (s : ByteArray) (bs : List Nat) (w : World) (R : Nat -> Prop) (hW : GI w R q bs) (hlen : bs.length + s.size <= 10000000000) :
  Calls Tryz.prog 154 #[.pointer (some ⟨q, 0, none⟩), .string s] w (WRet R q (bs ++ (Ao (sb s).length ++ sb s)) w) := by
 have hcv := run_bytes_of_string (P := Tryz.prog) w 9 22 5 s Tryz.underlying9 Tryz.underlying22 Tryz.underlying5
 have hg1 := grownCap_ge w s.size 0 5
 have hg2 := grownCap_le_maxLen w s.size 0 5 (by unfold maxLen; omega)
 generalize grownCap w s.size 0 5 = cap at *
 have hcell : ∀ j, j < s.size -> (bytesRow s cap)[j]? = some (.int .u8 ((sb s).getD j 0 : Nat)) := fun j hj => by
  rw [bytesRow_at s cap j hj, sb, List.getD_eq_getElem?_getD, List.getElem?_map, List.getElem?_eq_getElem (by simpa using hj)]
  rfl
 generalize bytesRow s cap = C at *
 have hb : Below w.heap.size w (w.drew.alloc (.cells C 5 (C.size, C.size + 1))) := (Below.refl _ _).drew.alloc (Nat.le_refl _) _
 have hS : Sl (w.drew.alloc (.cells C 5 (C.size, C.size + 1))) (· = w.heap.size) 1 (.slice (some ⟨w.heap.size, 0, none⟩) s.size cap) s.size (Aa (sb s)) := by
  refine ⟨by simp [Aa, Et], _, _, rfl, hg1, hg2, fun _ => ⟨w.heap.size, 0, rfl, rfl, by simp, fun j x hj => ?_⟩⟩
  have hj' : j < s.size := by
   rcases Nat.lt_or_ge j s.size with h | h
   ·exact h
   ·rw [List.getElem?_eq_none (by rw [Ae, Et]; exact h)] at hj; cases hj
  rw [Nat.zero_add]
  refine (cell_of_row _ w.heap.size j C 5 _ (heap_alloc_new w.drew _)).trans ((hcell j hj').trans ?_)
  rw [<- hj]
  exact (CZ _ _ (by rw [Et]; exact hj')).symm
 have hlt := hW.lt
 have hW1 := (hW.imp (R' := fun k => R k /\ k < w.heap.size) fun k h1 h2 => ⟨h1, h2⟩).ext hb
 generalize w.drew.alloc (.cells C 5 (C.size, C.size + 1)) = W1 at *
 have hl := Et s
 have hs1 : Sl W1 (· = w.heap.size) 1 (.slice (some ⟨w.heap.size, 0, none⟩) s.size cap) (sb s).length (Aa (sb s)) := by rw [hl]; exact hS
 have HL := Lib.hid hl
 clear hcell hS hW
 go_enter Tryz.func154, Tryz.ntmps154
 go_wp2_with fail
 refine (ER q _ bs (sb s) W1 _ _ hW1 hs1 (fun b hb _ => ⟨by have : b = w.heap.size := hb; omega, fun h => by have : b = w.heap.size := hb; omega⟩) (by have := HL.out; omega)).mono ?_
 rintro e w2 ⟨rfl, hW2, hF⟩
 go_wp2_with fail
 refine bodyPost_end (results_none rfl _ _ _) rfl ⟨rfl, hW2.imp fun k hk _ => ?_, (WF.of_below hb).trans (hF.imp fun k hk _ => .inl hk.1)⟩
 rcases hk with hk | hk
 ·exact .inl hk.1
 ·exact .inr (by have := hb.size; omega)
def EU (s : ByteArray) (l : List Nat) : List Nat := (Ao (sb s).length ++ sb s) ++ (Ao l.length ++ l)
theorem tagB_bytes (s : ByteArray) {l : List Nat} (h : AK l) : AK (EU s l) := ((Bx _).append (sb_bytes s)).append ((Bx _).append h)
theorem Gx (s : ByteArray) (pv p : Value) (l : List Nat) (w : World) (D : Nat -> Prop) (hT : GM w) (hpv : Sl w D 1 pv 1 [p]) (hp : Sl w D 1 p l.length (Aa l)) (hby : AK l) (hs : s.size <= 1000000) (hll : l.length <= 1000000000) :
  Calls Tryz.prog 100 #[.string s, pv] w (Ax (fun x _ => x = .agg (Aa (CU (EU s l))).toArray) w) := by
 obtain ⟨⟨_, ht1⟩, _, ht2⟩ := id hT
 have htl1 := ht1.lt
 have htl2 := ht2.lt
 obtain ⟨Av, cv, rfl, hcv1, hcv2⟩ := hpv.shape
 obtain ⟨A, c, rfl, _, _⟩ := hp.shape
 have hr0 := AW.new w 87 (Aa (List.replicate 32 0)).toArray
 have hB0 : Below w.heap.size w (w.alloc (.cells (Aa (List.replicate 32 0)).toArray 87)) := (Below.refl _ _).alloc (Nat.le_refl _) _
 have hp0 := (hp.imp (D' := fun b => D b /\ b < w.heap.size) fun b h1 h2 => ⟨h1, h2⟩).ext hB0
 have hv0 := (hpv.imp (D' := fun b => D b /\ b < w.heap.size) fun b h1 h2 => ⟨h1, h2⟩).ext hB0
 have hone : ∀ l, (Aa l).toArray.all (·.oneCell') = true := fun l => all_oneCell_toArray (B6 _)
 have hsl : ∀ l, (CU l).length = 32 := fun l => by simp [CU, H6]
 have hi32 : (Tryz.prog.info? 87).map (·.size) = some (Aa (CU (EU s l))).toArray.size := by rw [List.size_toArray, Ae, hsl]; kernel_rfl
 have hold : (Aa (List.replicate 32 0)).toArray.size = (Aa (CU (EU s l))).toArray.size := by rw [List.size_toArray, List.size_toArray, Ae, Ae, hsl, List.length_replicate]
 have HI := Lib.hid hi32
 have HON := Lib.hid (hone (CU (EU s l)))
 have HOL := Lib.hid hold
 have hsz0 : (w.alloc (.cells (Aa (List.replicate 32 0)).toArray 87)).heap.size = w.heap.size + 1 := by simp
 clear hi32 hone hold ht1 ht2 hp hpv hsl
 go_enter Tryz.func100, Tryz.ntmps100
 go_wp2_with fail
 change Calls _ _ _ (w.alloc (.cells (Aa (List.replicate 32 0)).toArray 87)) _
 generalize w.alloc (.cells (Aa (List.replicate 32 0)).toArray 87) = W1 at *
 refine (Ex _).mono ?_
 rintro e W2 ⟨rfl, rfl⟩
 have hW2 := GI.new W1 (fun _ => False)
 rw [hsz0] at hW2
 have hr2 := hr0.alloc (.cells #[.slice none 0 0] 198)
 have hp2 := hp0.alloc (.cells #[.slice none 0 0] 198)
 have hv2 := hv0.alloc (.cells #[.slice none 0 0] 198)
 have hB2 := hB0.alloc (by omega) (.cells #[.slice none 0 0] 198)
 have hsz2 : (W1.alloc (.cells #[.slice none 0 0] 198)).heap.size = w.heap.size + 2 := by rw [World.size_alloc, hsz0]
 generalize W1.alloc (.cells #[.slice none 0 0] 198) = W2 at *
 clear hr0 hp0 hv0 hB0
 go_wp2_with fail
 refine (wstring_any (w.heap.size + 1) s [] W2 _ hW2 (by simp; omega)).mono ?_
 rintro e W3 ⟨rfl, hW3, hF3⟩
 have hr3 := hF3.box hr2 (by omega) (by decide)
 have hp3 := hp2.wf hF3 (fun b hb _ => ⟨by have := hb.2; omega, fun h => h⟩)
 have hv3 := hv2.wf hF3 (fun b hb _ => ⟨by have := hb.2; omega, fun h => h⟩)
 have hB3 := hB2.trans (hF3.below (by omega) (fun _ h => h.elim) (by omega))
 have hW3' := hW3
 have hsz3 := hF3.size
 obtain ⟨_, Av', cv', hve, _, _, hvc⟩ := id hv3
 obtain ⟨bv, ov, hve2, _, _, hvcell⟩ := hvc (by omega)
 have hc0 := hvcell 0 _ rfl
 rw [Nat.add_zero] at hc0
 injection hve with hve hve3
 subst hve hve2
 clear hvc hvcell hW3' hW2 hF3 hp2 hv2 hr2 hB2
 go_wp2_with fail
 have hsb := Et s
 have hpn := Aw (sb s).length
 have hpl := Aw l.length
 have hM3 : ([] ++ (Ao (sb s).length ++ sb s) : List Nat).length <= 1000011 := by simp only [List.length_append, List.length_nil]; omega
 have hMl : ([] ++ (Ao (sb s).length ++ sb s) ++ (Ao l.length ++ l) : List Nat).length <= 2000000100 := by simp only [List.length_append, List.length_nil]; omega
 have HTB := Lib.hid (show EU s l = [] ++ (Ao (sb s).length ++ sb s) ++ (Ao l.length ++ l) from rfl)
 have HTBB := Lib.hid (tagB_bytes s hby)
 generalize ([] ++ (Ao (sb s).length ++ sb s) : List Nat) = M3 at *
 clear hsb hpn
 go_loopw [14] (fun i wr => (i = .int .i64 0 /\ wr = W3) \/ (i = .int .i64 1 /\ GI wr (fun k => w.heap.size + 2 <= k) (w.heap.size + 1) (M3 ++ (Ao l.length ++ l)) /\ AW wr w.heap.size 87 (Aa (List.replicate 32 0)).toArray /\ Below w.heap.size w wr)) (fun i _ => 1 - (intOf i).toNat)
 case atStart => exact .inl ⟨rfl, rfl⟩
 case round =>
  rcases hrel with ⟨rfl, rfl⟩ | ⟨rfl, hW4, hr4, hB4⟩
  ·go_wp2_with fail
   refine (ER (w.heap.size + 1) _ M3 l _ _ _ hW3 hp3 (fun b hb _ => ⟨by have := hb.2; omega, fun h => by rcases h with h | h; exact h; have := hb.2; omega⟩) (by omega)).mono ?_
   rintro e W4 ⟨rfl, hW4, hF4⟩
   have hr4 := hF4.box hr3 (by omega) (by decide)
   have hB4 := hB3.trans (hF4.below (by omega) (fun k h => by rcases h with h | h; exact h.elim; omega) (by omega))
   go_wp2_with fail
   refine ⟨.inr ⟨rfl, hW4.imp fun k hk _ => ?_, hr4, hB4⟩, by simp [intOf]⟩
   rcases hk with (hk | hk) | hk
   ·exact hk.elim
   ·omega
   ·omega
  ·clear hr3 hp3 hv3 hB3 hW3 hc0
   have hlt4 := hW4.lt
   have HR4 := Lib.hid hr4
   clear hr4
   go_wp2_with fail
   refine (wout_any (w.heap.size + 1) _ _ _ hW4 (by omega)).mono ?_
   rintro e W5 ⟨v5, rfl, hv5, hB5⟩
   rw [<- HTB.out] at hv5
   have hT5 := hT.ext (hB4.trans (hB5.mono hB4.size))
   have hr5 := HR4.out.ext hB5
   have HR5 := Lib.hid hr5
   clear hr5
   go_wp2_with fail
   refine (ksum_any _ (EU s l) W5 _ hT5 hv5 HTBB.out (by rw [HTB.out]; omega)).mono ?_
   rintro e W6 ⟨v6, rfl, rfl, hB6⟩
   have HR6 := Lib.hid (HR5.out.ext hB6)
   have hB7 := (hB4.trans (hB5.mono hB4.size)).trans (hB6.mono (hB4.trans (hB5.mono hB4.size)).size)
   go_wp2_with ((with_reducible show wpList _ _ _ (⟨none, .store 87 _ _, _, _, _, _⟩ :: _) _ _); refine wpList_store_row rfl 87 _ _ rfl w.heap.size (Aa (CU (EU s l))).toArray rfl rfl 87 (Aa (List.replicate 32 0)).toArray HR6.out HI.out HOL.out HON.out ?_)
   refine bodyPost_ret (v := .agg (Aa (CU (EU s l))).toArray) (by exact results_cell_row rfl _ _ w.heap.size 87 _ (0, 0) _ rfl (setRow_heap _ _ _ _ _ _ HR6.out) Tryz.underlying87 rfl HI.out) rfl ?_
   exact Ax.mk rfl (below_setRow hB7 (Nat.le_refl _) _)
end
end Go.Proofs.YtchjigffejhmfaaGreatDoor
