/-
  What the statement needs, part 3.
-/
import Derived.Deep.Cut
import Derived.Deep.CutBlock
import Derived.Deep.MidRow
import Derived.Laws.CopyRow
import Derived.Laws.CopyOwn
import Derived.Laws.IdiomStrings
import Derived.Test.YtihpgmbinhmmlaaGreatDoorShelf
import Derived.Test.YtihpgmbinhmmlaaGreatDoorSd2
namespace Go.Proofs.YtihpgmbinhmmlaaGreatDoor
open Go.RowKit
attribute [local go_sem ↓] Go.wp_at_zero Go.wp_at_succ
set_option maxRecDepth 20000
set_option exponentiation.threshold 5000

def Cmp (M C : List (Nat × Nat)) (j : Nat) : Prop := Asc C ∧ ∀ x, x ∈ C ↔ x ∈ M.take j
theorem pt_getD {M : List (Nat × Nat)} {j : Nat} (hj : j < M.length) : M.take (j + 1) = M.take j ++ [M.getD j (0, 0)] := by
 rw [List.take_add_one, getD_at (0, 0) hj]; rfl
theorem Cmp.one {M : List (Nat × Nat)} (h : 0 < M.length) : Cmp M (M.take 1) 1 := by
 refine ⟨?_, fun x => Iff.rfl⟩
 rw [show M.take 1 = M.take 0 ++ [M.getD 0 (0, 0)] from pt_getD h]
 simp [Asc]
theorem mem_takeD {M : List (Nat × Nat)} {j : Nat} (h0 : 0 < j) (hj : j ≤ M.length) : M.getD (j - 1) (0, 0) ∈ M.take j := by
 obtain ⟨k, rfl⟩ : ∃ k, j = k + 1 := ⟨j - 1, by omega⟩
 rw [pt_getD (by omega)]
 simp
theorem Cmp.same {M C : List (Nat × Nat)} {j : Nat} (h : Cmp M C j) (h0 : 0 < j) (hj : j < M.length) (he : M.getD j (0, 0) = M.getD (j - 1) (0, 0)) : Cmp M C (j + 1) := by
 refine ⟨h.1, fun x => ?_⟩
 rw [pt_getD hj, List.mem_append, h.2, List.mem_singleton]
 constructor
 ·exact .inl
 ·rintro (h1 | rfl)
  ·exact h1
  ·rw [he]; exact mem_takeD h0 (by omega)
theorem Cmp.step {M C : List (Nat × Nat)} {j : Nat} (hM : M.Pairwise fun x y => ¬ plt y x) (h : Cmp M C j) (h0 : 0 < j) (hj : j < M.length) (he : M.getD j (0, 0) ≠ M.getD (j - 1) (0, 0)) : Cmp M (C ++ [M.getD j (0, 0)]) (j + 1) := by
 have hp : ∀ a b, a < b → b < M.length → ¬ plt (M.getD b (0, 0)) (M.getD a (0, 0)) := fun a b hab hb => by
  have := List.pairwise_iff_getElem.1 hM a b (by omega) hb hab
  rw [List.getD_eq_getElem?_getD, List.getD_eq_getElem?_getD, List.getElem?_eq_getElem hb, List.getElem?_eq_getElem (by omega)]
  exact this
 refine ⟨?_, fun x => by rw [pt_getD hj, List.mem_append, List.mem_append, h.2]⟩
 refine List.pairwise_append.2 ⟨h.1, by simp, fun x hx y hy => ?_⟩
 rw [List.mem_singleton] at hy
 subst hy
 obtain ⟨i, hi⟩ := List.mem_iff_getElem?.1 ((h.2 x).1 hx)
 have hij : i < j := by
  have := (List.getElem?_eq_some_iff.1 hi).1
  rw [List.length_take] at this; omega
 have hx2 : x = M.getD i (0, 0) := by
  rw [List.getElem?_take_of_lt hij] at hi
  rw [List.getD_eq_getElem?_getD, hi]; rfl
 rcases plt_total (hp i j hij hj) with h1 | h1
 ·rw [hx2]; exact h1
 ·exfalso
  have h2 : i ≠ j - 1 := fun e => he (by rw [h1, e])
  have h3 := hp i (j - 1) (by omega) (by omega)
  have h4 := hp (j - 1) j (by omega) hj
  rw [h1] at h4
  rcases plt_total h3 with h5 | h5
  ·exact h4 h5
  ·exact he (by rw [h1, ← h5])
theorem pcells_set : ∀ (L : List (Nat × Nat)) (k : Nat) (x : Nat × Nat), ((pcells L).set (k * 2) (.int .i64 (x.1 : Nat))).set (k * 2 + 1) (.int .i64 (x.2 : Nat)) = pcells (L.set k x)
 | [], k, x => by simp [pcells]
 | y :: L, 0, x => by simp [pcells]
 | y :: L, k + 1, x => by
  rw [pcells_cons, show (k + 1) * 2 = k * 2 + 1 + 1 by omega, show k * 2 + 1 + 1 + 1 = k * 2 + 1 + 1 + 1 from rfl]
  simp only [List.set_cons_succ, pcells_cons]
  rw [pcells_set L k x]
theorem pcells_take (L : List (Nat × Nat)) (k : Nat) : (pcells L).take (k * 2) = pcells (L.take k) := by
 refine List.ext_getElem? fun t => ?_
 by_cases ht : t < k * 2
 ·rw [List.getElem?_take_of_lt ht]
  by_cases h1 : t / 2 < L.length
  ·have h2 := pcells_at L (t / 2) h1
   have h3 := pcells_at (L.take k) (t / 2) (by rw [List.length_take]; omega)
   rw [show (L.take k).getD (t / 2) (0, 0) = L.getD (t / 2) (0, 0) by rw [List.getD_eq_getElem?_getD, List.getD_eq_getElem?_getD, List.getElem?_take_of_lt (by omega)]] at h3
   rcases Nat.mod_two_eq_zero_or_one t with h5 | h5
   ·rw [show t / 2 * 2 = t by omega] at h2 h3; rw [h2.1, h3.1]
   ·rw [show t / 2 * 2 + 1 = t by omega] at h2 h3; rw [h2.2, h3.2]
  ·rw [List.getElem?_eq_none (by rw [pcells_len]; omega), List.getElem?_eq_none (by rw [pcells_len, List.length_take]; omega)]
 ·rw [List.getElem?_eq_none (by rw [List.length_take]; omega), List.getElem?_eq_none (by rw [pcells_len, List.length_take]; omega)]
theorem eq_pairs (w : World) (x y : Nat × Nat) : (binOp .eql 122 (.agg #[.int .i64 (x.1 : Nat), .int .i64 (x.2 : Nat)]) (.agg #[.int .i64 (y.1 : Nat), .int .i64 (y.2 : Nat)])).run Tryz.prog w = .ok (.bool (decide (x = y))) w := by
 obtain ⟨i, hi⟩ : ∃ i, Tryz.prog.info? 3 = some i := Option.isSome_iff_exists.1 (show (Tryz.prog.info? 3).isSome = true by kernel_rfl)
 exact pairs_eql Tryz.underlying122 i hi Tryz.underlying3 (by kernel_rfl) x y
theorem ne_pairs (w : World) (x y : Nat × Nat) : (binOp .neq 122 (.agg #[.int .i64 (x.1 : Nat), .int .i64 (x.2 : Nat)]) (.agg #[.int .i64 (y.1 : Nat), .int .i64 (y.2 : Nat)])).run Tryz.prog w = .ok (.bool (decide (x ≠ y))) w := by
 obtain ⟨i, hi⟩ : ∃ i, Tryz.prog.info? 3 = some i := Option.isSome_iff_exists.1 (show (Tryz.prog.info? 3).isSome = true by kernel_rfl)
 exact pairs_neq Tryz.underlying122 i hi Tryz.underlying3 (by kernel_rfl) x y
theorem opw_clear {P : Program} {o : Oper} {a : Act} {w w' : World} {K : Act → World → Prop} {Q : Exit → Act → World → Prop} {t : TypeId} {x : Operand} {u v : Value} (ho : o.op = .call { callee := .builtin .clear, args := #[x], argTypes := #[t] }) (hx : a.eval x = u) (hr : (Builtin.clear_ #[t] o.type #[u]).run P w = .ok v w') (hk : K (a.put o.dst v) w') : o.wp P a w K Q := by
 unfold Oper.wp execOp
 simp only [ho, resolve, invoke, builtin, Sem.run_bind, Sem.run_pure, Result.andThen_ok, List.map_toArray, List.map_cons, List.map_nil, hx, hr]
 exact hk
theorem compactp_any {w0 w : World} {F0 : List Fact} {K : (Nat → Prop) → World → Prop} (g n cap : Nat) (M : List (Nat × Nat)) (hl : M.length = n) (hn : n ≤ 1000000) (hM : M.Pairwise fun x y => ¬ plt y x) (hS : St w0 w (.own (.slice (some ⟨g, 0, none⟩) n cap) 122 2 n (pcells M) :: F0) K) :
  Calls Tryz.prog 131 #[.slice (some ⟨g, 0, none⟩) n cap] w fun e w' => ∃ (C : List (Nat × Nat)), e = .returned (.slice (some ⟨g, 0, none⟩) C.length cap) ∧ Cmp M C n ∧ C.length ≤ n ∧ St w0 w' (.own (.slice (some ⟨g, 0, none⟩) C.length cap) 122 2 C.length (pcells C) :: F0) K := by
 have HM := Lib.hid hM
 clear hM
 obtain ⟨hc1, hc2⟩ : n ≤ cap ∧ cap ≤ 9223372036854775807 := by
  obtain ⟨A, c, he, h1, h2⟩ := own_shp (hS.own 0 rfl)
  injection he with _ _ he
  subst he
  exact ⟨h1, h2⟩
 by_cases hn2 : n < 2
 ·have H1 : Hid (Cmp M M n) := Lib.hid ⟨by
   match M, hl with
   | [], _ => exact List.Pairwise.nil
   | [x], _ => simp [Asc]
   | x :: y :: r, h => simp at h; omega, fun x => by rw [← hl, List.take_length]⟩
  go_enter Tryz.func131, Tryz.ntmps131
  go_wp2_with (first | ((with_reducible refine qB ?_); (first | refine q1 ?_ ?_ | refine q2 ?_ ?_ | refine q3 ?_ ?_ | refine q4 ?_ ?_ | refine q5 ?_ ?_ | refine q6 ?_ ?_) <;> intro h_ <;> go_prune))
  go_ret
  subst hl
  exact ⟨M, rfl, H1.out, Nat.le_refl _, hS⟩
 ·have H1 := Lib.hid (Cmp.one (M := M) (by omega))
  go_enter Tryz.func131, Tryz.ntmps131
  go_wp2_with (first | ((with_reducible refine qB ?_); (first | refine q1 ?_ ?_ | refine q2 ?_ ?_ | refine q3 ?_ ?_ | refine q4 ?_ ?_ | refine q5 ?_ ?_ | refine q6 ?_ ?_) <;> intro h_ <;> go_prune))
  go_loopw [3] (fun i wr => ∃ j : Nat, 1 ≤ j ∧ j ≤ n ∧ i = .int .i64 j ∧ Hid (Cmp M (M.take j) j) ∧ St w0 wr (.own (.slice (some ⟨g, 0, none⟩) n cap) 122 2 n (pcells M) :: F0) K) (fun i _ => n - (intOf i).toNat)
  case atStart => exact ⟨1, by omega, by omega, rfl, H1, hS⟩
  case round =>
   clear hS H1
   obtain ⟨j, hj1, hj, rfl, HC, hS⟩ := hrel
   by_cases hlj : j < n
   ·have e1 := Lib.hid (fun w => eq_pairs w (M.getD j (0, 0)) (M.getD (j - 1) (0, 0)))
    by_cases hx : M.getD j (0, 0) = M.getD (j - 1) (0, 0)
    ·have HC2 := Lib.hid (HC.out.same hj1 (by omega) hx)
     go_wp2_with (first | ((with_reducible refine qB ?_); (first | refine q1 ?_ ?_ | refine q2 ?_ ?_ | refine q3 ?_ ?_ | refine q4 ?_ ?_ | refine q5 ?_ ?_ | refine q6 ?_ ?_) <;> intro h_ <;> go_prune))
     refine wp_region_typed (fun i__ v w => match i__ with
      | 0 => v = .slice (some ⟨g, 0, none⟩) n cap
      | 1 => v = .int .i64 ((j : Nat) : Int)
      | 2 => v = .pointer (some ⟨g, 0 + (j) * 2, none⟩)
      | 3 => v = .agg #[.int .i64 ((M.getD j (0, 0)).1 : Nat), .int .i64 ((M.getD j (0, 0)).2 : Nat)]
      | 4 => v = .slice (some ⟨g, 0, none⟩) n cap
      | 5 => v = .int .i64 ((j : Nat) : Int)
      | 6 => v = .int .i64 (((j : Nat) : Int) - (1 : Int))
      | 7 => v = .pointer (some ⟨g, 0 + (j - 1) * 2, none⟩)
      | 8 => v = .agg #[.int .i64 ((M.getD (j - 1) (0, 0)).1 : Nat), .int .i64 ((M.getD (j - 1) (0, 0)).2 : Nat)]
      | 9 => v = .bool (decide (M.getD j (0, 0) = M.getD (j - 1) (0, 0)))
      | _ => True) (by kernel_rfl) (by kernel_rfl) ?mono ⟨?r0, ?r1, ?r2, ?r3, ?r4, ?r5, ?r6, ?r7, ?r8, ?r9, trivial⟩ ?post
     case mono =>
      intro i v w w' h hb
      match i, h with
      | 0, h | 1, h | 2, h | 3, h | 4, h | 5, h | 6, h | 7, h | 8, h | 9, h => exact h
      | _ + 10, h => trivial
     case r0 =>
      refine trule fun b__ w hW hold hpre => wU rfl fun K hK => ?_
      have e0 : b__.eval (.tmp 0) = .slice (some ⟨g, 0, none⟩) n cap := (hold 0 (by kernel_rfl)).trans rfl
      exact opw_move rfl e0 (hK _ _ rfl (Below.refl _ _))
     case r1 =>
      refine trule fun b__ w hW hold hpre => wU rfl fun K hK => ?_
      have e3 : b__.eval (.tmp 3) = .int .i64 ((j : Nat) : Int) := (hold 3 (by kernel_rfl)).trans rfl
      exact opw_move rfl e3 (hK _ _ rfl (Below.refl _ _))
     case r2 =>
      refine trule fun b__ w hW hold hpre => wU rfl fun K hK => ?_
      have e16 : b__.eval (.tmp 16) = .slice (some ⟨g, 0, none⟩) n cap := pq hpre 0 0 16
      have e17 : b__.eval (.tmp 17) = .int .i64 ((j : Nat) : Int) := pq hpre 1 1 17
      exact opw_iaddr rfl e16 e17 (run_iaddr_lit (m := j) Tryz.underlying32 (by kernel_rfl) (by omega) (by omega)) (hK _ _ rfl (Below.refl _ _))
     case r3 =>
      refine trule fun b__ w hW hold hpre => wU rfl fun K hK => ?_
      have e18 : b__.eval (.tmp 18) = .pointer (some ⟨g, 0 + (j) * 2, none⟩) := pq hpre 0 2 18
      exact opw_mid (cs := [_, _]) rfl e18 (by rw [Nat.zero_add]; exact own_pair ((hS.ext (undrew hW)).own 0 rfl) (by omega)) Tryz.underlying122 rfl (by kernel_rfl) (hK _ _ rfl (Below.refl _ _))
     case r4 =>
      refine trule fun b__ w hW hold hpre => wU rfl fun K hK => ?_
      have e0 : b__.eval (.tmp 0) = .slice (some ⟨g, 0, none⟩) n cap := (hold 0 (by kernel_rfl)).trans rfl
      exact opw_move rfl e0 (hK _ _ rfl (Below.refl _ _))
     case r5 =>
      refine trule fun b__ w hW hold hpre => wU rfl fun K hK => ?_
      have e3 : b__.eval (.tmp 3) = .int .i64 ((j : Nat) : Int) := (hold 3 (by kernel_rfl)).trans rfl
      exact opw_move rfl e3 (hK _ _ rfl (Below.refl _ _))
     case r6 =>
      refine trule fun b__ w hW hold hpre => wU rfl fun K hK => ?_
      have e21 : b__.eval (.tmp 21) = .int .i64 ((j : Nat) : Int) := pq hpre 0 5 21
      exact opw_bin (vx := .int .i64 ((j : Nat) : Int)) (vy := .int .i64 (1 : Int)) (v := .int .i64 (((j : Nat) : Int) - (1 : Int))) rfl e21 rfl rfl (run_sub64 (by omega) (by omega)) (hK _ _ rfl (Below.refl _ _))
     case r7 =>
      refine trule fun b__ w hW hold hpre => wU rfl fun K hK => ?_
      have e20 : b__.eval (.tmp 20) = .slice (some ⟨g, 0, none⟩) n cap := pq hpre 0 4 20
      have e22 : b__.eval (.tmp 22) = .int .i64 (((j : Nat) : Int) - (1 : Int)) := pq hpre 1 6 22
      exact opw_iaddr rfl e20 e22 (run_iaddr_lit (m := j - 1) Tryz.underlying32 (by kernel_rfl) (by omega) (by omega)) (hK _ _ rfl (Below.refl _ _))
     case r8 =>
      refine trule fun b__ w hW hold hpre => wU rfl fun K hK => ?_
      have e23 : b__.eval (.tmp 23) = .pointer (some ⟨g, 0 + (j - 1) * 2, none⟩) := pq hpre 0 7 23
      exact opw_mid (cs := [_, _]) rfl e23 (by rw [Nat.zero_add]; exact own_pair ((hS.ext (undrew hW)).own 0 rfl) (by omega)) Tryz.underlying122 rfl (by kernel_rfl) (hK _ _ rfl (Below.refl _ _))
     case r9 =>
      refine trule fun b__ w hW hold hpre => wU rfl fun K hK => ?_
      have e19 : b__.eval (.tmp 19) = .agg #[.int .i64 ((M.getD j (0, 0)).1 : Nat), .int .i64 ((M.getD j (0, 0)).2 : Nat)] := pq hpre 0 3 19
      have e24 : b__.eval (.tmp 24) = .agg #[.int .i64 ((M.getD (j - 1) (0, 0)).1 : Nat), .int .i64 ((M.getD (j - 1) (0, 0)).2 : Nat)] := pq hpre 1 8 24
      exact opw_bin (vx := .agg #[.int .i64 ((M.getD j (0, 0)).1 : Nat), .int .i64 ((M.getD j (0, 0)).2 : Nat)]) (vy := .agg #[.int .i64 ((M.getD (j - 1) (0, 0)).1 : Nat), .int .i64 ((M.getD (j - 1) (0, 0)).2 : Nat)]) (v := .bool (decide (M.getD j (0, 0) = M.getD (j - 1) (0, 0)))) rfl e19 e24 rfl (eq_pairs _ _ _) (hK _ _ rfl (Below.refl _ _))
     case post =>
      intro b__ wz hW hdf hsz hold hT
      have e16 : b__.eval (.tmp 16) = .slice (some ⟨g, 0, none⟩) n cap := hT 0 _ 16 rfl rfl
      have e17 : b__.eval (.tmp 17) = .int .i64 ((j : Nat) : Int) := hT 1 _ 17 rfl rfl
      have e18 : b__.eval (.tmp 18) = .pointer (some ⟨g, 0 + (j) * 2, none⟩) := hT 2 _ 18 rfl rfl
      have e19 : b__.eval (.tmp 19) = .agg #[.int .i64 ((M.getD j (0, 0)).1 : Nat), .int .i64 ((M.getD j (0, 0)).2 : Nat)] := hT 3 _ 19 rfl rfl
      have e20 : b__.eval (.tmp 20) = .slice (some ⟨g, 0, none⟩) n cap := hT 4 _ 20 rfl rfl
      have e21 : b__.eval (.tmp 21) = .int .i64 ((j : Nat) : Int) := hT 5 _ 21 rfl rfl
      have e22 : b__.eval (.tmp 22) = .int .i64 (((j : Nat) : Int) - (1 : Int)) := hT 6 _ 22 rfl rfl
      have e23 : b__.eval (.tmp 23) = .pointer (some ⟨g, 0 + (j - 1) * 2, none⟩) := hT 7 _ 23 rfl rfl
      have e24 : b__.eval (.tmp 24) = .agg #[.int .i64 ((M.getD (j - 1) (0, 0)).1 : Nat), .int .i64 ((M.getD (j - 1) (0, 0)).2 : Nat)] := hT 8 _ 24 rfl rfl
      have e25 : b__.eval (.tmp 25) = .bool (decide (M.getD j (0, 0) = M.getD (j - 1) (0, 0))) := hT 9 _ 25 rfl rfl
      obtain ⟨vs, hvs, hb⟩ := frame_of hdf hsz hold
      replace e16 : vs 16 = .slice (some ⟨g, 0, none⟩) n cap := (hvs 16).symm.trans e16
      replace e17 : vs 17 = .int .i64 ((j : Nat) : Int) := (hvs 17).symm.trans e17
      replace e18 : vs 18 = .pointer (some ⟨g, 0 + (j) * 2, none⟩) := (hvs 18).symm.trans e18
      replace e19 : vs 19 = .agg #[.int .i64 ((M.getD j (0, 0)).1 : Nat), .int .i64 ((M.getD j (0, 0)).2 : Nat)] := (hvs 19).symm.trans e19
      replace e20 : vs 20 = .slice (some ⟨g, 0, none⟩) n cap := (hvs 20).symm.trans e20
      replace e21 : vs 21 = .int .i64 ((j : Nat) : Int) := (hvs 21).symm.trans e21
      replace e22 : vs 22 = .int .i64 (((j : Nat) : Int) - (1 : Int)) := (hvs 22).symm.trans e22
      replace e23 : vs 23 = .pointer (some ⟨g, 0 + (j - 1) * 2, none⟩) := (hvs 23).symm.trans e23
      replace e24 : vs 24 = .agg #[.int .i64 ((M.getD (j - 1) (0, 0)).1 : Nat), .int .i64 ((M.getD (j - 1) (0, 0)).2 : Nat)] := (hvs 24).symm.trans e24
      replace e25 : vs 25 = .bool (decide (M.getD j (0, 0) = M.getD (j - 1) (0, 0))) := (hvs 25).symm.trans e25
      subst hb
      clear hvs hold hT hdf hsz
      simp only [setAll, Act.put, List.setIfInBounds_toArray, List.set_cons_zero, List.set_cons_succ, List.getElem_toArray, List.getElem_cons_succ, List.getElem_cons_zero]
      replace hS := hS.ext hW
      rw [e25, decide_eq_true hx]
      clear hW e25 e1 hx HC e16 e17 e18 e19 e20 e21 e22 e23 e24
      go_wp2_with (first | ((with_reducible refine qB ?_); (first | refine q1 ?_ ?_ | refine q2 ?_ ?_ | refine q3 ?_ ?_ | refine q4 ?_ ?_ | refine q5 ?_ ?_ | refine q6 ?_ ?_) <;> intro h_ <;> go_prune))
      have hCl : (M.take j).length = j := by rw [List.length_take]; omega
      go_loopw [3, 5] (fun i kv wr => ∃ (k : Nat) (R C : List (Nat × Nat)), 1 ≤ k ∧ k ≤ n - j ∧ i = .int .i64 (C.length : Nat) ∧ kv = .int .i64 (k : Nat) ∧ C.length ≤ j + k - 1 ∧ R.length = n ∧ Hid (Cmp M C (j + k) ∧ R.take C.length = C ∧ ∀ t, j + k - 1 ≤ t → R.getD t (0, 0) = M.getD t (0, 0)) ∧ St w0 wr (.own (.slice (some ⟨g, 0, none⟩) n cap) 122 2 n (pcells R) :: F0) K) (fun _ kv _ => n - j - (intOf kv).toNat)
      case atStart => exact ⟨1, M, M.take j, by omega, by omega, by rw [hCl], rfl, by omega, hl, Lib.hid ⟨HC2.out, by rw [hCl], fun _ _ => rfl⟩, hS⟩
      case round =>
       clear hS HC2 hCl
       obtain ⟨k, R, C, hk1, hk, rfl, rfl, hCl, hR, HI, hS⟩ := hrel
       by_cases hkj : k < n - j
       ·have e2 := Lib.hid (fun w => ne_pairs w (R.getD (j + k) (0, 0)) (R.getD (j + k - 1) (0, 0)))
        have HE1 := Lib.hid (HI.out.2.2 (j + k) (by omega))
        have HE2 := Lib.hid (HI.out.2.2 (j + k - 1) (by omega))
        by_cases hx : R.getD (j + k) (0, 0) = R.getD (j + k - 1) (0, 0)
        ·have HI2 := Lib.hid (show Cmp M C (j + (k + 1)) ∧ R.take C.length = C ∧ ∀ t, j + (k + 1) - 1 ≤ t → R.getD t (0, 0) = M.getD t (0, 0) from ⟨HI.out.1.same (by omega) (by omega) (by rw [← HE1.out, ← HE2.out]; exact hx), HI.out.2.1, fun t ht => HI.out.2.2 t (by omega)⟩)
         clear HI HE1 HE2
         go_wp2_with (first | ((with_reducible refine qB ?_); (first | refine q1 ?_ ?_ | refine q2 ?_ ?_ | refine q3 ?_ ?_ | refine q4 ?_ ?_ | refine q5 ?_ ?_ | refine q6 ?_ ?_) <;> intro h_ <;> go_prune))
         refine wp_region_typed (fun i__ v w => match i__ with
          | 0 => v = .slice (some ⟨g, j * 2, none⟩) (n - j) (cap - j)
          | 1 => v = .int .i64 ((k : Nat) : Int)
          | 2 => v = .pointer (some ⟨g, j * 2 + (k) * 2, none⟩)
          | 3 => v = .agg #[.int .i64 ((R.getD (j + k) (0, 0)).1 : Nat), .int .i64 ((R.getD (j + k) (0, 0)).2 : Nat)]
          | 4 => v = .slice (some ⟨g, j * 2, none⟩) (n - j) (cap - j)
          | 5 => v = .int .i64 ((k : Nat) : Int)
          | 6 => v = .int .i64 (((k : Nat) : Int) - (1 : Int))
          | 7 => v = .pointer (some ⟨g, j * 2 + (k - 1) * 2, none⟩)
          | 8 => v = .agg #[.int .i64 ((R.getD (j + k - 1) (0, 0)).1 : Nat), .int .i64 ((R.getD (j + k - 1) (0, 0)).2 : Nat)]
          | 9 => v = .bool (decide (R.getD (j + k) (0, 0) ≠ R.getD (j + k - 1) (0, 0)))
          | _ => True) (by kernel_rfl) (by kernel_rfl) ?mono ⟨?r0, ?r1, ?r2, ?r3, ?r4, ?r5, ?r6, ?r7, ?r8, ?r9, trivial⟩ ?post
         case mono =>
          intro i v w w' h hb
          match i, h with
          | 0, h | 1, h | 2, h | 3, h | 4, h | 5, h | 6, h | 7, h | 8, h | 9, h => exact h
          | _ + 10, h => trivial
         case r0 =>
          refine trule fun b__ w hW hold hpre => wU rfl fun K hK => ?_
          have e4 : b__.eval (.tmp 4) = .slice (some ⟨g, j * 2, none⟩) (n - j) (cap - j) := (hold 4 (by kernel_rfl)).trans rfl
          exact opw_move rfl e4 (hK _ _ rfl (Below.refl _ _))
         case r1 =>
          refine trule fun b__ w hW hold hpre => wU rfl fun K hK => ?_
          have e5 : b__.eval (.tmp 5) = .int .i64 ((k : Nat) : Int) := (hold 5 (by kernel_rfl)).trans rfl
          exact opw_move rfl e5 (hK _ _ rfl (Below.refl _ _))
         case r2 =>
          refine trule fun b__ w hW hold hpre => wU rfl fun K hK => ?_
          have e35 : b__.eval (.tmp 35) = .slice (some ⟨g, j * 2, none⟩) (n - j) (cap - j) := pq hpre 0 0 35
          have e36 : b__.eval (.tmp 36) = .int .i64 ((k : Nat) : Int) := pq hpre 1 1 36
          exact opw_iaddr rfl e35 e36 (run_iaddr_lit (m := k) Tryz.underlying32 (by kernel_rfl) (by omega) (by omega)) (hK _ _ rfl (Below.refl _ _))
         case r3 =>
          refine trule fun b__ w hW hold hpre => wU rfl fun K hK => ?_
          have e37 : b__.eval (.tmp 37) = .pointer (some ⟨g, j * 2 + (k) * 2, none⟩) := pq hpre 0 2 37
          exact opw_mid (cs := [_, _]) rfl e37 (by rw [← Nat.add_mul]; exact own_pair ((hS.ext (undrew hW)).own 0 rfl) (by omega)) Tryz.underlying122 rfl (by kernel_rfl) (hK _ _ rfl (Below.refl _ _))
         case r4 =>
          refine trule fun b__ w hW hold hpre => wU rfl fun K hK => ?_
          have e4 : b__.eval (.tmp 4) = .slice (some ⟨g, j * 2, none⟩) (n - j) (cap - j) := (hold 4 (by kernel_rfl)).trans rfl
          exact opw_move rfl e4 (hK _ _ rfl (Below.refl _ _))
         case r5 =>
          refine trule fun b__ w hW hold hpre => wU rfl fun K hK => ?_
          have e5 : b__.eval (.tmp 5) = .int .i64 ((k : Nat) : Int) := (hold 5 (by kernel_rfl)).trans rfl
          exact opw_move rfl e5 (hK _ _ rfl (Below.refl _ _))
         case r6 =>
          refine trule fun b__ w hW hold hpre => wU rfl fun K hK => ?_
          have e40 : b__.eval (.tmp 40) = .int .i64 ((k : Nat) : Int) := pq hpre 0 5 40
          exact opw_bin (vx := .int .i64 ((k : Nat) : Int)) (vy := .int .i64 (1 : Int)) (v := .int .i64 (((k : Nat) : Int) - (1 : Int))) rfl e40 rfl rfl (run_sub64 (by omega) (by omega)) (hK _ _ rfl (Below.refl _ _))
         case r7 =>
          refine trule fun b__ w hW hold hpre => wU rfl fun K hK => ?_
          have e39 : b__.eval (.tmp 39) = .slice (some ⟨g, j * 2, none⟩) (n - j) (cap - j) := pq hpre 0 4 39
          have e41 : b__.eval (.tmp 41) = .int .i64 (((k : Nat) : Int) - (1 : Int)) := pq hpre 1 6 41
          exact opw_iaddr rfl e39 e41 (run_iaddr_lit (m := k - 1) Tryz.underlying32 (by kernel_rfl) (by omega) (by omega)) (hK _ _ rfl (Below.refl _ _))
         case r8 =>
          refine trule fun b__ w hW hold hpre => wU rfl fun K hK => ?_
          have e42 : b__.eval (.tmp 42) = .pointer (some ⟨g, j * 2 + (k - 1) * 2, none⟩) := pq hpre 0 7 42
          exact opw_mid (cs := [_, _]) rfl e42 (by rw [← Nat.add_mul, show j + (k - 1) = j + k - 1 by omega]; exact own_pair ((hS.ext (undrew hW)).own 0 rfl) (by omega)) Tryz.underlying122 rfl (by kernel_rfl) (hK _ _ rfl (Below.refl _ _))
         case r9 =>
          refine trule fun b__ w hW hold hpre => wU rfl fun K hK => ?_
          have e38 : b__.eval (.tmp 38) = .agg #[.int .i64 ((R.getD (j + k) (0, 0)).1 : Nat), .int .i64 ((R.getD (j + k) (0, 0)).2 : Nat)] := pq hpre 0 3 38
          have e43 : b__.eval (.tmp 43) = .agg #[.int .i64 ((R.getD (j + k - 1) (0, 0)).1 : Nat), .int .i64 ((R.getD (j + k - 1) (0, 0)).2 : Nat)] := pq hpre 1 8 43
          exact opw_bin (vx := .agg #[.int .i64 ((R.getD (j + k) (0, 0)).1 : Nat), .int .i64 ((R.getD (j + k) (0, 0)).2 : Nat)]) (vy := .agg #[.int .i64 ((R.getD (j + k - 1) (0, 0)).1 : Nat), .int .i64 ((R.getD (j + k - 1) (0, 0)).2 : Nat)]) (v := .bool (decide (R.getD (j + k) (0, 0) ≠ R.getD (j + k - 1) (0, 0)))) rfl e38 e43 rfl (ne_pairs _ _ _) (hK _ _ rfl (Below.refl _ _))
         case post =>
          intro b__ wz hW hdf hsz hold hT
          have e35 : b__.eval (.tmp 35) = .slice (some ⟨g, j * 2, none⟩) (n - j) (cap - j) := hT 0 _ 35 rfl rfl
          have e36 : b__.eval (.tmp 36) = .int .i64 ((k : Nat) : Int) := hT 1 _ 36 rfl rfl
          have e37 : b__.eval (.tmp 37) = .pointer (some ⟨g, j * 2 + (k) * 2, none⟩) := hT 2 _ 37 rfl rfl
          have e38 : b__.eval (.tmp 38) = .agg #[.int .i64 ((R.getD (j + k) (0, 0)).1 : Nat), .int .i64 ((R.getD (j + k) (0, 0)).2 : Nat)] := hT 3 _ 38 rfl rfl
          have e39 : b__.eval (.tmp 39) = .slice (some ⟨g, j * 2, none⟩) (n - j) (cap - j) := hT 4 _ 39 rfl rfl
          have e40 : b__.eval (.tmp 40) = .int .i64 ((k : Nat) : Int) := hT 5 _ 40 rfl rfl
          have e41 : b__.eval (.tmp 41) = .int .i64 (((k : Nat) : Int) - (1 : Int)) := hT 6 _ 41 rfl rfl
          have e42 : b__.eval (.tmp 42) = .pointer (some ⟨g, j * 2 + (k - 1) * 2, none⟩) := hT 7 _ 42 rfl rfl
          have e43 : b__.eval (.tmp 43) = .agg #[.int .i64 ((R.getD (j + k - 1) (0, 0)).1 : Nat), .int .i64 ((R.getD (j + k - 1) (0, 0)).2 : Nat)] := hT 8 _ 43 rfl rfl
          have e44 : b__.eval (.tmp 44) = .bool (decide (R.getD (j + k) (0, 0) ≠ R.getD (j + k - 1) (0, 0))) := hT 9 _ 44 rfl rfl
          obtain ⟨vs, hvs, hb⟩ := frame_of hdf hsz hold
          replace e35 : vs 35 = .slice (some ⟨g, j * 2, none⟩) (n - j) (cap - j) := (hvs 35).symm.trans e35
          replace e36 : vs 36 = .int .i64 ((k : Nat) : Int) := (hvs 36).symm.trans e36
          replace e37 : vs 37 = .pointer (some ⟨g, j * 2 + (k) * 2, none⟩) := (hvs 37).symm.trans e37
          replace e38 : vs 38 = .agg #[.int .i64 ((R.getD (j + k) (0, 0)).1 : Nat), .int .i64 ((R.getD (j + k) (0, 0)).2 : Nat)] := (hvs 38).symm.trans e38
          replace e39 : vs 39 = .slice (some ⟨g, j * 2, none⟩) (n - j) (cap - j) := (hvs 39).symm.trans e39
          replace e40 : vs 40 = .int .i64 ((k : Nat) : Int) := (hvs 40).symm.trans e40
          replace e41 : vs 41 = .int .i64 (((k : Nat) : Int) - (1 : Int)) := (hvs 41).symm.trans e41
          replace e42 : vs 42 = .pointer (some ⟨g, j * 2 + (k - 1) * 2, none⟩) := (hvs 42).symm.trans e42
          replace e43 : vs 43 = .agg #[.int .i64 ((R.getD (j + k - 1) (0, 0)).1 : Nat), .int .i64 ((R.getD (j + k - 1) (0, 0)).2 : Nat)] := (hvs 43).symm.trans e43
          replace e44 : vs 44 = .bool (decide (R.getD (j + k) (0, 0) ≠ R.getD (j + k - 1) (0, 0))) := (hvs 44).symm.trans e44
          subst hb
          clear hvs hold hT hdf hsz
          simp only [setAll, Act.put, List.setIfInBounds_toArray, List.set_cons_zero, List.set_cons_succ, List.getElem_toArray, List.getElem_cons_succ, List.getElem_cons_zero]
          replace hS := hS.ext hW
          rw [e44, decide_eq_false (fun h => h hx)]
          clear hW e44 e2 hx e35 e36 e37 e38 e39 e40 e41 e42 e43
          go_wp2_with (first | ((with_reducible refine qB ?_); (first | refine q1 ?_ ?_ | refine q2 ?_ ?_ | refine q3 ?_ ?_ | refine q4 ?_ ?_ | refine q5 ?_ ?_ | refine q6 ?_ ?_) <;> intro h_ <;> go_prune))
          exact ⟨⟨k + 1, R, C, by omega, by omega, rfl, by go_num, by omega, hR, HI2, hS⟩, by simp [intOf]; omega⟩
        ·have HI2 := Lib.hid (show Cmp M (C ++ [R.getD (j + k) (0, 0)]) (j + (k + 1)) ∧ (R.set C.length (R.getD (j + k) (0, 0))).take (C.length + 1) = C ++ [R.getD (j + k) (0, 0)] ∧ ∀ t, j + (k + 1) - 1 ≤ t → (R.set C.length (R.getD (j + k) (0, 0))).getD t (0, 0) = M.getD t (0, 0) from by
          refine ⟨?_, ?_, fun t ht => ?_⟩
          ·rw [HE1.out]; exact HI.out.1.step HM.out (by omega) (by omega) (by rw [← HE1.out, ← HE2.out]; exact hx)
          ·rw [pt_getD (by rw [List.length_set]; omega), List.take_set_of_le (Nat.le_refl _), HI.out.2.1]
           simp [List.getD_eq_getElem?_getD, show C.length < R.length by omega]
          ·rw [← HI.out.2.2 t (by omega), List.getD_eq_getElem?_getD, List.getElem?_set_ne (by omega), List.getD_eq_getElem?_getD])
         clear HI HE1 HE2
         go_wp2_with (first | ((with_reducible refine qB ?_); (first | refine q1 ?_ ?_ | refine q2 ?_ ?_ | refine q3 ?_ ?_ | refine q4 ?_ ?_ | refine q5 ?_ ?_ | refine q6 ?_ ?_) <;> intro h_ <;> go_prune))
         refine wp_region_typed (fun i__ v w => match i__ with
          | 0 => v = .slice (some ⟨g, j * 2, none⟩) (n - j) (cap - j)
          | 1 => v = .int .i64 ((k : Nat) : Int)
          | 2 => v = .pointer (some ⟨g, j * 2 + (k) * 2, none⟩)
          | 3 => v = .agg #[.int .i64 ((R.getD (j + k) (0, 0)).1 : Nat), .int .i64 ((R.getD (j + k) (0, 0)).2 : Nat)]
          | 4 => v = .slice (some ⟨g, j * 2, none⟩) (n - j) (cap - j)
          | 5 => v = .int .i64 ((k : Nat) : Int)
          | 6 => v = .int .i64 (((k : Nat) : Int) - (1 : Int))
          | 7 => v = .pointer (some ⟨g, j * 2 + (k - 1) * 2, none⟩)
          | 8 => v = .agg #[.int .i64 ((R.getD (j + k - 1) (0, 0)).1 : Nat), .int .i64 ((R.getD (j + k - 1) (0, 0)).2 : Nat)]
          | 9 => v = .bool (decide (R.getD (j + k) (0, 0) ≠ R.getD (j + k - 1) (0, 0)))
          | _ => True) (by kernel_rfl) (by kernel_rfl) ?mono ⟨?r0, ?r1, ?r2, ?r3, ?r4, ?r5, ?r6, ?r7, ?r8, ?r9, trivial⟩ ?post
         case mono =>
          intro i v w w' h hb
          match i, h with
          | 0, h | 1, h | 2, h | 3, h | 4, h | 5, h | 6, h | 7, h | 8, h | 9, h => exact h
          | _ + 10, h => trivial
         case r0 =>
          refine trule fun b__ w hW hold hpre => wU rfl fun K hK => ?_
          have e4 : b__.eval (.tmp 4) = .slice (some ⟨g, j * 2, none⟩) (n - j) (cap - j) := (hold 4 (by kernel_rfl)).trans rfl
          exact opw_move rfl e4 (hK _ _ rfl (Below.refl _ _))
         case r1 =>
          refine trule fun b__ w hW hold hpre => wU rfl fun K hK => ?_
          have e5 : b__.eval (.tmp 5) = .int .i64 ((k : Nat) : Int) := (hold 5 (by kernel_rfl)).trans rfl
          exact opw_move rfl e5 (hK _ _ rfl (Below.refl _ _))
         case r2 =>
          refine trule fun b__ w hW hold hpre => wU rfl fun K hK => ?_
          have e35 : b__.eval (.tmp 35) = .slice (some ⟨g, j * 2, none⟩) (n - j) (cap - j) := pq hpre 0 0 35
          have e36 : b__.eval (.tmp 36) = .int .i64 ((k : Nat) : Int) := pq hpre 1 1 36
          exact opw_iaddr rfl e35 e36 (run_iaddr_lit (m := k) Tryz.underlying32 (by kernel_rfl) (by omega) (by omega)) (hK _ _ rfl (Below.refl _ _))
         case r3 =>
          refine trule fun b__ w hW hold hpre => wU rfl fun K hK => ?_
          have e37 : b__.eval (.tmp 37) = .pointer (some ⟨g, j * 2 + (k) * 2, none⟩) := pq hpre 0 2 37
          exact opw_mid (cs := [_, _]) rfl e37 (by rw [← Nat.add_mul]; exact own_pair ((hS.ext (undrew hW)).own 0 rfl) (by omega)) Tryz.underlying122 rfl (by kernel_rfl) (hK _ _ rfl (Below.refl _ _))
         case r4 =>
          refine trule fun b__ w hW hold hpre => wU rfl fun K hK => ?_
          have e4 : b__.eval (.tmp 4) = .slice (some ⟨g, j * 2, none⟩) (n - j) (cap - j) := (hold 4 (by kernel_rfl)).trans rfl
          exact opw_move rfl e4 (hK _ _ rfl (Below.refl _ _))
         case r5 =>
          refine trule fun b__ w hW hold hpre => wU rfl fun K hK => ?_
          have e5 : b__.eval (.tmp 5) = .int .i64 ((k : Nat) : Int) := (hold 5 (by kernel_rfl)).trans rfl
          exact opw_move rfl e5 (hK _ _ rfl (Below.refl _ _))
         case r6 =>
          refine trule fun b__ w hW hold hpre => wU rfl fun K hK => ?_
          have e40 : b__.eval (.tmp 40) = .int .i64 ((k : Nat) : Int) := pq hpre 0 5 40
          exact opw_bin (vx := .int .i64 ((k : Nat) : Int)) (vy := .int .i64 (1 : Int)) (v := .int .i64 (((k : Nat) : Int) - (1 : Int))) rfl e40 rfl rfl (run_sub64 (by omega) (by omega)) (hK _ _ rfl (Below.refl _ _))
         case r7 =>
          refine trule fun b__ w hW hold hpre => wU rfl fun K hK => ?_
          have e39 : b__.eval (.tmp 39) = .slice (some ⟨g, j * 2, none⟩) (n - j) (cap - j) := pq hpre 0 4 39
          have e41 : b__.eval (.tmp 41) = .int .i64 (((k : Nat) : Int) - (1 : Int)) := pq hpre 1 6 41
          exact opw_iaddr rfl e39 e41 (run_iaddr_lit (m := k - 1) Tryz.underlying32 (by kernel_rfl) (by omega) (by omega)) (hK _ _ rfl (Below.refl _ _))
         case r8 =>
          refine trule fun b__ w hW hold hpre => wU rfl fun K hK => ?_
          have e42 : b__.eval (.tmp 42) = .pointer (some ⟨g, j * 2 + (k - 1) * 2, none⟩) := pq hpre 0 7 42
          exact opw_mid (cs := [_, _]) rfl e42 (by rw [← Nat.add_mul, show j + (k - 1) = j + k - 1 by omega]; exact own_pair ((hS.ext (undrew hW)).own 0 rfl) (by omega)) Tryz.underlying122 rfl (by kernel_rfl) (hK _ _ rfl (Below.refl _ _))
         case r9 =>
          refine trule fun b__ w hW hold hpre => wU rfl fun K hK => ?_
          have e38 : b__.eval (.tmp 38) = .agg #[.int .i64 ((R.getD (j + k) (0, 0)).1 : Nat), .int .i64 ((R.getD (j + k) (0, 0)).2 : Nat)] := pq hpre 0 3 38
          have e43 : b__.eval (.tmp 43) = .agg #[.int .i64 ((R.getD (j + k - 1) (0, 0)).1 : Nat), .int .i64 ((R.getD (j + k - 1) (0, 0)).2 : Nat)] := pq hpre 1 8 43
          exact opw_bin (vx := .agg #[.int .i64 ((R.getD (j + k) (0, 0)).1 : Nat), .int .i64 ((R.getD (j + k) (0, 0)).2 : Nat)]) (vy := .agg #[.int .i64 ((R.getD (j + k - 1) (0, 0)).1 : Nat), .int .i64 ((R.getD (j + k - 1) (0, 0)).2 : Nat)]) (v := .bool (decide (R.getD (j + k) (0, 0) ≠ R.getD (j + k - 1) (0, 0)))) rfl e38 e43 rfl (ne_pairs _ _ _) (hK _ _ rfl (Below.refl _ _))
         case post =>
          intro b__ wz hW hdf hsz hold hT
          have e35 : b__.eval (.tmp 35) = .slice (some ⟨g, j * 2, none⟩) (n - j) (cap - j) := hT 0 _ 35 rfl rfl
          have e36 : b__.eval (.tmp 36) = .int .i64 ((k : Nat) : Int) := hT 1 _ 36 rfl rfl
          have e37 : b__.eval (.tmp 37) = .pointer (some ⟨g, j * 2 + (k) * 2, none⟩) := hT 2 _ 37 rfl rfl
          have e38 : b__.eval (.tmp 38) = .agg #[.int .i64 ((R.getD (j + k) (0, 0)).1 : Nat), .int .i64 ((R.getD (j + k) (0, 0)).2 : Nat)] := hT 3 _ 38 rfl rfl
          have e39 : b__.eval (.tmp 39) = .slice (some ⟨g, j * 2, none⟩) (n - j) (cap - j) := hT 4 _ 39 rfl rfl
          have e40 : b__.eval (.tmp 40) = .int .i64 ((k : Nat) : Int) := hT 5 _ 40 rfl rfl
          have e41 : b__.eval (.tmp 41) = .int .i64 (((k : Nat) : Int) - (1 : Int)) := hT 6 _ 41 rfl rfl
          have e42 : b__.eval (.tmp 42) = .pointer (some ⟨g, j * 2 + (k - 1) * 2, none⟩) := hT 7 _ 42 rfl rfl
          have e43 : b__.eval (.tmp 43) = .agg #[.int .i64 ((R.getD (j + k - 1) (0, 0)).1 : Nat), .int .i64 ((R.getD (j + k - 1) (0, 0)).2 : Nat)] := hT 8 _ 43 rfl rfl
          have e44 : b__.eval (.tmp 44) = .bool (decide (R.getD (j + k) (0, 0) ≠ R.getD (j + k - 1) (0, 0))) := hT 9 _ 44 rfl rfl
          obtain ⟨vs, hvs, hb⟩ := frame_of hdf hsz hold
          replace e35 : vs 35 = .slice (some ⟨g, j * 2, none⟩) (n - j) (cap - j) := (hvs 35).symm.trans e35
          replace e36 : vs 36 = .int .i64 ((k : Nat) : Int) := (hvs 36).symm.trans e36
          replace e37 : vs 37 = .pointer (some ⟨g, j * 2 + (k) * 2, none⟩) := (hvs 37).symm.trans e37
          replace e38 : vs 38 = .agg #[.int .i64 ((R.getD (j + k) (0, 0)).1 : Nat), .int .i64 ((R.getD (j + k) (0, 0)).2 : Nat)] := (hvs 38).symm.trans e38
          replace e39 : vs 39 = .slice (some ⟨g, j * 2, none⟩) (n - j) (cap - j) := (hvs 39).symm.trans e39
          replace e40 : vs 40 = .int .i64 ((k : Nat) : Int) := (hvs 40).symm.trans e40
          replace e41 : vs 41 = .int .i64 (((k : Nat) : Int) - (1 : Int)) := (hvs 41).symm.trans e41
          replace e42 : vs 42 = .pointer (some ⟨g, j * 2 + (k - 1) * 2, none⟩) := (hvs 42).symm.trans e42
          replace e43 : vs 43 = .agg #[.int .i64 ((R.getD (j + k - 1) (0, 0)).1 : Nat), .int .i64 ((R.getD (j + k - 1) (0, 0)).2 : Nat)] := (hvs 43).symm.trans e43
          replace e44 : vs 44 = .bool (decide (R.getD (j + k) (0, 0) ≠ R.getD (j + k - 1) (0, 0))) := (hvs 44).symm.trans e44
          subst hb
          clear hvs hold hT hdf hsz
          simp only [setAll, Act.put, List.setIfInBounds_toArray, List.set_cons_zero, List.set_cons_succ, List.getElem_toArray, List.getElem_cons_succ, List.getElem_cons_zero]
          replace hS := hS.ext hW
          rw [e44, decide_eq_true hx]
          clear hW e44 e2 hx e35 e36 e37 e38 e39 e40 e41 e42 e43
          obtain ⟨x, hxd⟩ : ∃ x, Hid (x = R.getD (j + k) (0, 0)) := ⟨_, Lib.hid rfl⟩
          rw [← hxd.out] at HI2
          go_wp2_with (first
           | ((with_reducible refine qB ?_); (first | refine q1 ?_ ?_ | refine q2 ?_ ?_ | refine q3 ?_ ?_ | refine q4 ?_ ?_ | refine q5 ?_ ?_ | refine q6 ?_ ?_) <;> intro h_ <;> go_prune)
           | ((with_reducible refine qA 50 ?_); refine BigFrame.wpList_want rfl fun _ hK => opw_mid (cs := [.int .i64 (x.1 : Nat), .int .i64 (x.2 : Nat)]) rfl rfl (by rw [← Nat.add_mul, hxd.out]; exact own_pair (hS.own 0 rfl) (by omega)) Tryz.underlying122 rfl (by kernel_rfl) (hK _ _ ?_))
           | ((with_reducible refine qM ?_); refine BigFrame.wpList_want rfl fun _ hK => opw_ostore2 (i := C.length * 2) rfl rfl rfl (hS.own 0 rfl) (by omega) rfl rfl (by kernel_rfl) fun w3 hX hU => hK _ _ ?_; replace hS := hS.upd 0 rfl (.own (.slice (some ⟨g, 0, none⟩) n cap) 122 2 n _) (upd_gb hU) hX (fun _ e => .inl e)))
          rw [pcells_set] at hS
          exact ⟨⟨k + 1, R.set C.length x, C ++ [x], by omega, by omega, by simp, by go_num, by simp; omega, by simp [hR], by rw [List.length_append, List.length_singleton]; exact HI2, hS⟩, by simp [intOf]; omega⟩
       ·obtain rfl : k = n - j := by omega
        have HC := Lib.hid (show Cmp M C n from by have := HI.out.1; rwa [show j + (n - j) = n by omega] at this)
        have HT := Lib.hid HI.out.2.1
        obtain ⟨w2, ys, hrun, hX, hys, hG⟩ := run_clear_own (ty := 0) (c := cap - C.length) (hS.own 0 rfl) Tryz.underlying32 (Tryz.zeroValue122 wr) rfl (by simp [Value.oneCell']) (show C.length + (n - C.length) = n by omega)
        replace hS := hS.upd 0 rfl (.own (.slice (some ⟨g, 0, none⟩) C.length cap) 122 2 C.length (pcells C)) hG (by
         have := own_short hX (show C.length ≤ n by omega)
         rwa [hys, pcells_take, HT.out] at this) (fun _ e => .inl e)
        clear hX hG hys HI
        go_wp2_with (first | ((with_reducible refine qB ?_); (first | refine q1 ?_ ?_ | refine q2 ?_ ?_ | refine q3 ?_ ?_ | refine q4 ?_ ?_ | refine q5 ?_ ?_ | refine q6 ?_ ?_) <;> intro h_ <;> go_prune) | ((with_reducible show wpList _ _ _ (⟨_, .call _, _, _, _, _⟩ :: _) _ _); refine BigFrame.wpList_want rfl fun _ hK => opw_clear (w' := w2) rfl rfl hrun (hK _ _ ?_)))
        go_ret
        exact ⟨C, rfl, HC.out, by omega, hS⟩
    ·have HC2 := Lib.hid (HC.out.step HM.out hj1 (by omega) hx)
     rw [← pt_getD (by omega)] at HC2
     go_wp2_with (first | ((with_reducible refine qB ?_); (first | refine q1 ?_ ?_ | refine q2 ?_ ?_ | refine q3 ?_ ?_ | refine q4 ?_ ?_ | refine q5 ?_ ?_ | refine q6 ?_ ?_) <;> intro h_ <;> go_prune))
     refine wp_region_typed (fun i__ v w => match i__ with
      | 0 => v = .slice (some ⟨g, 0, none⟩) n cap
      | 1 => v = .int .i64 ((j : Nat) : Int)
      | 2 => v = .pointer (some ⟨g, 0 + (j) * 2, none⟩)
      | 3 => v = .agg #[.int .i64 ((M.getD j (0, 0)).1 : Nat), .int .i64 ((M.getD j (0, 0)).2 : Nat)]
      | 4 => v = .slice (some ⟨g, 0, none⟩) n cap
      | 5 => v = .int .i64 ((j : Nat) : Int)
      | 6 => v = .int .i64 (((j : Nat) : Int) - (1 : Int))
      | 7 => v = .pointer (some ⟨g, 0 + (j - 1) * 2, none⟩)
      | 8 => v = .agg #[.int .i64 ((M.getD (j - 1) (0, 0)).1 : Nat), .int .i64 ((M.getD (j - 1) (0, 0)).2 : Nat)]
      | 9 => v = .bool (decide (M.getD j (0, 0) = M.getD (j - 1) (0, 0)))
      | _ => True) (by kernel_rfl) (by kernel_rfl) ?mono ⟨?r0, ?r1, ?r2, ?r3, ?r4, ?r5, ?r6, ?r7, ?r8, ?r9, trivial⟩ ?post
     case mono =>
      intro i v w w' h hb
      match i, h with
      | 0, h | 1, h | 2, h | 3, h | 4, h | 5, h | 6, h | 7, h | 8, h | 9, h => exact h
      | _ + 10, h => trivial
     case r0 =>
      refine trule fun b__ w hW hold hpre => wU rfl fun K hK => ?_
      have e0 : b__.eval (.tmp 0) = .slice (some ⟨g, 0, none⟩) n cap := (hold 0 (by kernel_rfl)).trans rfl
      exact opw_move rfl e0 (hK _ _ rfl (Below.refl _ _))
     case r1 =>
      refine trule fun b__ w hW hold hpre => wU rfl fun K hK => ?_
      have e3 : b__.eval (.tmp 3) = .int .i64 ((j : Nat) : Int) := (hold 3 (by kernel_rfl)).trans rfl
      exact opw_move rfl e3 (hK _ _ rfl (Below.refl _ _))
     case r2 =>
      refine trule fun b__ w hW hold hpre => wU rfl fun K hK => ?_
      have e16 : b__.eval (.tmp 16) = .slice (some ⟨g, 0, none⟩) n cap := pq hpre 0 0 16
      have e17 : b__.eval (.tmp 17) = .int .i64 ((j : Nat) : Int) := pq hpre 1 1 17
      exact opw_iaddr rfl e16 e17 (run_iaddr_lit (m := j) Tryz.underlying32 (by kernel_rfl) (by omega) (by omega)) (hK _ _ rfl (Below.refl _ _))
     case r3 =>
      refine trule fun b__ w hW hold hpre => wU rfl fun K hK => ?_
      have e18 : b__.eval (.tmp 18) = .pointer (some ⟨g, 0 + (j) * 2, none⟩) := pq hpre 0 2 18
      exact opw_mid (cs := [_, _]) rfl e18 (by rw [Nat.zero_add]; exact own_pair ((hS.ext (undrew hW)).own 0 rfl) (by omega)) Tryz.underlying122 rfl (by kernel_rfl) (hK _ _ rfl (Below.refl _ _))
     case r4 =>
      refine trule fun b__ w hW hold hpre => wU rfl fun K hK => ?_
      have e0 : b__.eval (.tmp 0) = .slice (some ⟨g, 0, none⟩) n cap := (hold 0 (by kernel_rfl)).trans rfl
      exact opw_move rfl e0 (hK _ _ rfl (Below.refl _ _))
     case r5 =>
      refine trule fun b__ w hW hold hpre => wU rfl fun K hK => ?_
      have e3 : b__.eval (.tmp 3) = .int .i64 ((j : Nat) : Int) := (hold 3 (by kernel_rfl)).trans rfl
      exact opw_move rfl e3 (hK _ _ rfl (Below.refl _ _))
     case r6 =>
      refine trule fun b__ w hW hold hpre => wU rfl fun K hK => ?_
      have e21 : b__.eval (.tmp 21) = .int .i64 ((j : Nat) : Int) := pq hpre 0 5 21
      exact opw_bin (vx := .int .i64 ((j : Nat) : Int)) (vy := .int .i64 (1 : Int)) (v := .int .i64 (((j : Nat) : Int) - (1 : Int))) rfl e21 rfl rfl (run_sub64 (by omega) (by omega)) (hK _ _ rfl (Below.refl _ _))
     case r7 =>
      refine trule fun b__ w hW hold hpre => wU rfl fun K hK => ?_
      have e20 : b__.eval (.tmp 20) = .slice (some ⟨g, 0, none⟩) n cap := pq hpre 0 4 20
      have e22 : b__.eval (.tmp 22) = .int .i64 (((j : Nat) : Int) - (1 : Int)) := pq hpre 1 6 22
      exact opw_iaddr rfl e20 e22 (run_iaddr_lit (m := j - 1) Tryz.underlying32 (by kernel_rfl) (by omega) (by omega)) (hK _ _ rfl (Below.refl _ _))
     case r8 =>
      refine trule fun b__ w hW hold hpre => wU rfl fun K hK => ?_
      have e23 : b__.eval (.tmp 23) = .pointer (some ⟨g, 0 + (j - 1) * 2, none⟩) := pq hpre 0 7 23
      exact opw_mid (cs := [_, _]) rfl e23 (by rw [Nat.zero_add]; exact own_pair ((hS.ext (undrew hW)).own 0 rfl) (by omega)) Tryz.underlying122 rfl (by kernel_rfl) (hK _ _ rfl (Below.refl _ _))
     case r9 =>
      refine trule fun b__ w hW hold hpre => wU rfl fun K hK => ?_
      have e19 : b__.eval (.tmp 19) = .agg #[.int .i64 ((M.getD j (0, 0)).1 : Nat), .int .i64 ((M.getD j (0, 0)).2 : Nat)] := pq hpre 0 3 19
      have e24 : b__.eval (.tmp 24) = .agg #[.int .i64 ((M.getD (j - 1) (0, 0)).1 : Nat), .int .i64 ((M.getD (j - 1) (0, 0)).2 : Nat)] := pq hpre 1 8 24
      exact opw_bin (vx := .agg #[.int .i64 ((M.getD j (0, 0)).1 : Nat), .int .i64 ((M.getD j (0, 0)).2 : Nat)]) (vy := .agg #[.int .i64 ((M.getD (j - 1) (0, 0)).1 : Nat), .int .i64 ((M.getD (j - 1) (0, 0)).2 : Nat)]) (v := .bool (decide (M.getD j (0, 0) = M.getD (j - 1) (0, 0)))) rfl e19 e24 rfl (eq_pairs _ _ _) (hK _ _ rfl (Below.refl _ _))
     case post =>
      intro b__ wz hW hdf hsz hold hT
      have e16 : b__.eval (.tmp 16) = .slice (some ⟨g, 0, none⟩) n cap := hT 0 _ 16 rfl rfl
      have e17 : b__.eval (.tmp 17) = .int .i64 ((j : Nat) : Int) := hT 1 _ 17 rfl rfl
      have e18 : b__.eval (.tmp 18) = .pointer (some ⟨g, 0 + (j) * 2, none⟩) := hT 2 _ 18 rfl rfl
      have e19 : b__.eval (.tmp 19) = .agg #[.int .i64 ((M.getD j (0, 0)).1 : Nat), .int .i64 ((M.getD j (0, 0)).2 : Nat)] := hT 3 _ 19 rfl rfl
      have e20 : b__.eval (.tmp 20) = .slice (some ⟨g, 0, none⟩) n cap := hT 4 _ 20 rfl rfl
      have e21 : b__.eval (.tmp 21) = .int .i64 ((j : Nat) : Int) := hT 5 _ 21 rfl rfl
      have e22 : b__.eval (.tmp 22) = .int .i64 (((j : Nat) : Int) - (1 : Int)) := hT 6 _ 22 rfl rfl
      have e23 : b__.eval (.tmp 23) = .pointer (some ⟨g, 0 + (j - 1) * 2, none⟩) := hT 7 _ 23 rfl rfl
      have e24 : b__.eval (.tmp 24) = .agg #[.int .i64 ((M.getD (j - 1) (0, 0)).1 : Nat), .int .i64 ((M.getD (j - 1) (0, 0)).2 : Nat)] := hT 8 _ 24 rfl rfl
      have e25 : b__.eval (.tmp 25) = .bool (decide (M.getD j (0, 0) = M.getD (j - 1) (0, 0))) := hT 9 _ 25 rfl rfl
      obtain ⟨vs, hvs, hb⟩ := frame_of hdf hsz hold
      replace e16 : vs 16 = .slice (some ⟨g, 0, none⟩) n cap := (hvs 16).symm.trans e16
      replace e17 : vs 17 = .int .i64 ((j : Nat) : Int) := (hvs 17).symm.trans e17
      replace e18 : vs 18 = .pointer (some ⟨g, 0 + (j) * 2, none⟩) := (hvs 18).symm.trans e18
      replace e19 : vs 19 = .agg #[.int .i64 ((M.getD j (0, 0)).1 : Nat), .int .i64 ((M.getD j (0, 0)).2 : Nat)] := (hvs 19).symm.trans e19
      replace e20 : vs 20 = .slice (some ⟨g, 0, none⟩) n cap := (hvs 20).symm.trans e20
      replace e21 : vs 21 = .int .i64 ((j : Nat) : Int) := (hvs 21).symm.trans e21
      replace e22 : vs 22 = .int .i64 (((j : Nat) : Int) - (1 : Int)) := (hvs 22).symm.trans e22
      replace e23 : vs 23 = .pointer (some ⟨g, 0 + (j - 1) * 2, none⟩) := (hvs 23).symm.trans e23
      replace e24 : vs 24 = .agg #[.int .i64 ((M.getD (j - 1) (0, 0)).1 : Nat), .int .i64 ((M.getD (j - 1) (0, 0)).2 : Nat)] := (hvs 24).symm.trans e24
      replace e25 : vs 25 = .bool (decide (M.getD j (0, 0) = M.getD (j - 1) (0, 0))) := (hvs 25).symm.trans e25
      subst hb
      clear hvs hold hT hdf hsz
      simp only [setAll, Act.put, List.setIfInBounds_toArray, List.set_cons_zero, List.set_cons_succ, List.getElem_toArray, List.getElem_cons_succ, List.getElem_cons_zero]
      replace hS := hS.ext hW
      rw [e25, decide_eq_false hx]
      clear hW e25 e1 hx e16 e17 e18 e19 e20 e21 e22 e23 e24
      go_wp2_with (first | ((with_reducible refine qB ?_); (first | refine q1 ?_ ?_ | refine q2 ?_ ?_ | refine q3 ?_ ?_ | refine q4 ?_ ?_ | refine q5 ?_ ?_ | refine q6 ?_ ?_) <;> intro h_ <;> go_prune))
      exact ⟨⟨j + 1, by omega, hlj, by go_num, HC2, hS⟩, by simp [intOf]; omega⟩
   ·obtain rfl : j = n := by omega
    go_wp2_with (first | ((with_reducible refine qB ?_); (first | refine q1 ?_ ?_ | refine q2 ?_ ?_ | refine q3 ?_ ?_ | refine q4 ?_ ?_ | refine q5 ?_ ?_ | refine q6 ?_ ?_) <;> intro h_ <;> go_prune))
    go_ret
    have hM : M.take j = M := by rw [← hl, List.take_length]
    rw [hM] at HC
    subst hl
    exact ⟨M, rfl, HC.out, Nat.le_refl _, hS⟩
end Go.Proofs.YtihpgmbinhmmlaaGreatDoor
namespace Go.Proofs.YtihpgmbinhmmlaaGreatDoor
open Go.RowKit
attribute [local go_sem ↓] Go.wp_at_zero Go.wp_at_succ
set_option maxRecDepth 20000
set_option exponentiation.threshold 5000

theorem clip_any (A : Option Addr) (n c : Nat) (hc : n ≤ c) (hm : c ≤ 9223372036854775807) (w : World) : Calls Tryz.prog 130 #[.slice A n c] w fun e w' => e = .returned (.slice A n n) ∧ w' = w := by
 go_enter Tryz.func130, Tryz.ntmps130
 go_wp2_with fail
 go_ret
 exact ⟨rfl, rfl⟩
theorem own_cap {w : World} {base g size n cap : Nat} {e : TypeId} {xs : List Value} (h : w.ownsRow base e size (.slice (some ⟨g, 0, none⟩) n cap) n xs) : n ≤ cap ∧ cap ≤ 9223372036854775807 := by
 obtain ⟨A, c, he, h1, h2⟩ := own_shp h
 injection he with _ _ he
 subst he
 exact ⟨h1, h2⟩
theorem sl_clip {w : World} {D : Nat → Prop} {size n c : Nat} {A : Option Addr} {xs : List Value} (h : Sl w D size (.slice A n c) n xs) : Sl w D size (.slice A n n) n xs := by
 obtain ⟨h1, A2, c2, h2, h3, h4, h5⟩ := h
 injection h2 with h2 h6 h7
 subst h2
 exact ⟨h1, A, n, rfl, Nat.le_refl _, Nat.le_trans h3 h4, h5⟩
def IsBox (w : World) (D : Nat → Prop) (g : Nat) (cs : Array Value) : Prop := D g ∧ g < w.heap.size ∧ 0 < cs.size ∧ ∀ j x, cs[j]? = some x → w.cell? ⟨g, j, none⟩ = some x
theorem stable_isBox {g : Nat} {cs : Array Value} : Stable fun D w => IsBox w D g cs := fun D D' w w' h a b c => by
 obtain ⟨h1, h2, h3, h4⟩ := h
 have h5 : cs[0]? = some (cs[0]'h3) := Array.getElem?_eq_getElem h3
 exact ⟨c g h1 h2 (cell_is (h4 0 _ h5)), Nat.lt_of_lt_of_le h2 a, h3, fun j x hj => b _ x h1 h2 (h4 j x hj)⟩
theorem IsBox.cell {w : World} {D : Nat → Prop} {g : Nat} {cs : Array Value} (h : IsBox w D g cs) (j : Nat) {x : Value} (hx : cs[j]? = some x) : w.cell? ⟨g, j, none⟩ = some x := h.2.2.2 j x hx
theorem St.sealB {w0 w : World} {F : List Fact} {K : (Nat → Prop) → World → Prop} (h : St w0 w F K) (i : Nat) {g : Nat} {t : TypeId} {cs : Array Value} (h0 : 0 < cs.size) (hi : F[i]? = some (.box g t cs)) : St w0 w (F.eraseIdx i) fun D w => K D w ∧ IsBox w D g cs := by
 have hlt := (List.getElem?_eq_some_iff.1 hi).1
 have hfF : Fact.box g t cs ∈ F := List.mem_of_getElem? hi
 have hbx := h.box i hi
 refine (h.sub (List.eraseIdx_sublist _ _)).add (D := fun b => b = g) stable_isBox ⟨rfl, hbx.lt, h0, fun j x hj => (hbx.cell j).trans hj⟩ fun b hb _ f hf e => ?_
 obtain ⟨j, hj⟩ := List.mem_iff_getElem?.1 hf
 rw [List.getElem?_eraseIdx] at hj
 have e1 : F[i] = Fact.box g t cs := (List.getElem?_eq_some_iff.1 hi).2
 have hb' : some b = some g := by rw [hb]
 split at hj
 ·have := List.pairwise_iff_getElem.1 h.apart j i (by omega) hlt (by omega) b (by rw [(List.getElem?_eq_some_iff.1 hj).2]; exact e)
  rw [e1] at this; exact this hb'.symm
 ·have hjl := (List.getElem?_eq_some_iff.1 hj).1
  have := List.pairwise_iff_getElem.1 h.apart i (j + 1) hlt hjl (by omega) b (by rw [e1]; exact hb'.symm)
  rw [(List.getElem?_eq_some_iff.1 hj).2] at this; exact this e
theorem set_same {α : Type} {l : List α} {i : Nat} {x : α} (h : l[i]? = some x) : l.set i x = l := by
 obtain ⟨h1, h2⟩ := List.getElem?_eq_some_iff.1 h
 subst h2
 exact List.set_getElem_self h1
theorem st_appf {P : Program} {ops : Array Oper} {rest : List Oper} {o : Oper} {a : Act} {Q : Exit → Act → World → Prop} {w0 w : World} {F : List Fact} {K : (Nat → Prop) → World → Prop} (h : St w0 w F K) (i : Nat) (hg : o.guard = none) (s x : Operand) (t : TypeId) (ho : o.op = .call { callee := .builtin .append, args := #[s, x], argTypes := #[t, t] }) {e : TypeId} {size bytes : Nat} (hT : SliceTy P t e size bytes)
  (g : Nat) (hs : a.eval s = .slice (some ⟨g, 0, none⟩) 0 0) (hb : F[i]? = some (.own (.slice (some ⟨g, 0, none⟩) 0 0) e size 0 [])) (D : Nat → Prop) (y : Value) (m : Nat) (news : List Value) (hx : a.eval x = y) (hr : Sl w D size y m news)
  (h1 : ∀ u ∈ news, u.oneCell' = true) (hm : m ≤ 1000000000000) (hbytes : m * bytes ≤ 140737488355328)
  (hk : ∀ g' c w', St w0 w' (F.set i (.own (.slice (some ⟨g', 0, none⟩) m c) e size m news)) K → wpList P ops Q rest (a.put o.dst (.slice (some ⟨g', 0, none⟩) m c)) w') : wpList P ops Q (o :: rest) a w := by
 rcases Nat.eq_zero_or_pos m with h0 | h0
 ·subst h0
  obtain ⟨j, z, hi, hz, h2, h3, h4, h5⟩ := hT.get
  obtain ⟨hl, A, c, rfl, _, _, hc⟩ := hr
  have hn : news = [] := List.eq_nil_of_length_eq_zero (by simpa using hl)
  subst hn
  have hrun : (Builtin.append_ #[t, t] o.type #[.slice (some ⟨g, 0, none⟩) 0 0, .slice A 0 c]).run P w = .ok (.slice (some ⟨g, 0, none⟩) 0 0) w := by
   cases A with
   | none => simp [Builtin.append_, run_underlying hT.under, sizeOf, typeInfo, hi, Builtin.lenOf, Builtin.firstCells, storeCells]
   | some ad => simp [Builtin.append_, run_underlying hT.under, sizeOf, typeInfo, hi, Builtin.lenOf, Builtin.firstCells, storeCells, loadCells, loadCellsFrom]
  refine wpList_plain hg fun _ hK => ?_
  unfold Oper.wp execOp
  simp only [ho, resolve, invoke, builtin, Sem.run_bind, Sem.run_pure, Result.andThen_ok, List.map_toArray, List.map_cons, List.map_nil, hs, hx, hrun]
  refine hK _ _ (hk g 0 w ?_)
  rw [set_same hb]
  exact h
 ·refine st_app h i hg s x t ho hT _ 0 [] hs hb D y m news hx hr h1 (by unfold maxLen; omega) (by rw [Nat.zero_add]; exact hbytes) fun v' w' hS => ?_
  rw [Nat.zero_add, List.nil_append] at hS
  have hlt := (List.getElem?_eq_some_iff.1 hb).1
  obtain ⟨g', c', rfl, _, _⟩ := own_pos (hS.own i (by rw [List.getElem?_set_self hlt])) h0
  exact hk _ _ _ hS
def OrdX (q : Nat) (gp : Nat) (av bv sv : Value) (xa xb : List Value) (n : Nat) (L : List (Nat × Nat)) (D : Nat → Prop) (w : World) : Prop :=
 IsBox w D q #[.int .i64 (n : Nat), .slice (some ⟨gp, 0, none⟩) L.length L.length, av, bv, sv] ∧ Sl w D 2 (.slice (some ⟨gp, 0, none⟩) L.length L.length) L.length (pcells L) ∧ (Sl w D 1 av n xa ∧ SetsX xa n (aboveM n L) D w) ∧ (Sl w D 1 bv n xb ∧ SetsX xb n (belowM n L) D w)
theorem stable_ordX {q gp : Nat} {av bv sv : Value} {xa xb : List Value} {n : Nat} {L : List (Nat × Nat)} : Stable (OrdX q gp av bv sv xa xb n L) := fun D D' w w' h a b c => by
 obtain ⟨h2, h3, ⟨h4, h5⟩, h6, h7⟩ := h
 exact ⟨stable_isBox D D' w w' h2 a b c, stable_sl (by decide) D D' w w' h3 a b c, ⟨stable_sl (by decide) D D' w w' h4 a b c, stable_setsX D D' w w' h5 a b c⟩, stable_sl (by decide) D D' w w' h6 a b c, stable_setsX D D' w w' h7 a b c⟩
def IsOrd (w : World) (D : Nat → Prop) (p : Value) (n : Nat) (L : List (Nat × Nat)) : Prop :=
 ∃ (q gp : Nat) (av bv sv : Value) (xa xb : List Value), p = .pointer (some ⟨q, 0, none⟩) ∧ OrdX q gp av bv sv xa xb n L D w
theorem OrdX.ord {q gp : Nat} {av bv sv : Value} {xa xb : List Value} {n : Nat} {L : List (Nat × Nat)} {D : Nat → Prop} {w : World} (h : OrdX q gp av bv sv xa xb n L D w) : IsOrd w D (.pointer (some ⟨q, 0, none⟩)) n L := ⟨q, gp, av, bv, sv, xa, xb, rfl, h⟩
theorem stable_ord {p : Value} {n : Nat} {L : List (Nat × Nat)} : Stable fun D w => IsOrd w D p n L := fun D D' w w' h a b c => by
 obtain ⟨q, gp, av, bv, sv, xa, xb, h1, h2⟩ := h
 exact ⟨q, gp, av, bv, sv, xa, xb, h1, stable_ordX D D' w w' h2 a b c⟩
theorem Inr.le {n m : Nat} {L : List (Nat × Nat)} (h : Inr n L) (hn : n ≤ m) : Inr m L := fun x hx => ⟨Nat.lt_of_lt_of_le (h x hx).1 hn, Nat.lt_of_lt_of_le (h x hx).2 hn⟩
theorem pcells_one (L : List (Nat × Nat)) : ∀ u ∈ pcells L, u.oneCell' = true := fun u hu => by
 simp only [pcells, List.mem_flatMap, List.mem_cons, List.not_mem_nil, or_false] at hu
 obtain ⟨x, _, rfl | rfl⟩ := hu <;> rfl
theorem cmp_mem {L0 M C : List (Nat × Nat)} (hp : M.Perm L0) (hC : Cmp M C L0.length) (x : Nat × Nat) : x ∈ C ↔ x ∈ L0 := by
 rw [hC.2, List.take_of_length_le (Nat.le_of_eq hp.length_eq), hp.mem_iff]
theorem inr_of {n : Nat} {L0 M C : List (Nat × Nat)} (h : Inr n L0) (hp : M.Perm L0) (hC : Cmp M C L0.length) : Inr n C := fun x hx => h x ((cmp_mem hp hC x).1 hx)
theorem acyc_mem {L M : List (Nat × Nat)} (h : ∀ x, x ∈ L ↔ x ∈ M) : Acyc L ↔ Acyc M := ⟨fun k => k.sub fun x hx => (h x).2 hx, fun k => k.sub fun x hx => (h x).1 hx⟩
theorem onew_any {w0 w : World} {F : List Fact} {K : (Nat → Prop) → World → Prop} (n : Nat) (L0 : List (Nat × Nat)) (pv : Value) (hn : n ≤ 256) (hL : Inr n L0) (hl : L0.length ≤ 1000000) (hS : St w0 w F K)
  (kp : ∀ D w, K D w → Sl w D 2 pv L0.length (pcells L0)) (kt : ∀ D w, K D w → DTab w ∧ D 0) :
  Calls Tryz.prog 97 #[.int .i64 (n : Nat), pv] w fun e w' =>
   (¬ Acyc L0 ∧ e = .returned (.tuple #[.pointer none, .int .i64 16]) ∧ St w0 w' F K) ∨
   ∃ (p : Value) (L : List (Nat × Nat)), e = .returned (.tuple #[p, .int .i64 0]) ∧ Asc L ∧ (∀ x, x ∈ L ↔ x ∈ L0) ∧ Acyc L ∧ St w0 w' F fun D w => K D w ∧ IsOrd w D p n L := by
 obtain ⟨A, c, rfl, _, _⟩ := (kp _ _ hS.ro).shape
 have HL := Lib.hid hL
 clear hL
 go_enter Tryz.func97, Tryz.ntmps97
 go_wp2_with (first | ((with_reducible refine qB ?_); (first | refine q1 ?_ ?_ | refine q2 ?_ ?_ | refine q3 ?_ ?_ | refine q4 ?_ ?_ | refine q5 ?_ ?_ | refine q6 ?_ ?_) <;> intro h_ <;> go_prune))
 go_loopw [18] (fun i wr => ∃ j : Nat, j ≤ L0.length ∧ i = .int .i64 j ∧ St w0 wr F K) (fun i _ => L0.length - (intOf i).toNat)
 case atStart => exact ⟨0, by omega, rfl, hS⟩
 case round =>
  clear hS
  obtain ⟨j, hj, rfl, hS⟩ := hrel
  by_cases hlj : j < L0.length
  ·obtain ⟨f1, f2⟩ := pcells_at L0 j hlj
   have hm := HL.out (L0.getD j (0, 0)) (by rw [List.getD_eq_getElem?_getD, List.getElem?_eq_getElem hlj]; exact List.getElem_mem hlj)
   generalize L0.getD j (0, 0) = x at *
   obtain ⟨xa, xb⟩ := x
   dsimp only at f1 f2 hm
   obtain ⟨ha, hxb⟩ := hm
   go_wp2_with (first
    | ((with_reducible refine qB ?_); (first | refine q1 ?_ ?_ | refine q2 ?_ ?_ | refine q3 ?_ ?_ | refine q4 ?_ ?_ | refine q5 ?_ ?_ | refine q6 ?_ ?_) <;> intro h_ <;> go_prune)
    | ((with_reducible refine qI ?_); refine qj hS Tryz.underlying32 ?_; intro b_ j_ hc0_ hc1_)
    | ((with_reducible refine qA 7 ?_); refine st_alloc hS rfl _ rfl (by kernel_rfl) ?_; clear hS; intro g4 w_ hS; (try simp only [Act.put, Act.eval, z1, z2, z3, z4, z5, z6, z7, z8, Value.cells] at hS))
    | ((with_reducible refine qM ?_); (first | refine qS hS ?_ | refine qT hS ?_); clear hS; intro w_ hS; (try simp only [Act.put, Act.eval, z1, z2, z3, z4, z5, z6, z7, z8, Value.cells] at hS))
    | ((with_reducible refine qK ?_); refine qC hS ?_))
   exact ⟨⟨j + 1, hlj, by go_num, hS.sub (List.sublist_cons_self _ _)⟩, by simp [intOf]; omega⟩
  ·obtain rfl : j = L0.length := by omega
   obtain ⟨DD, hDD, hK0⟩ := hS.dom
   have KS := hS.stable
   go_wp2_with (first
    | ((with_reducible refine qB ?_); (first | refine q1 ?_ ?_ | refine q2 ?_ ?_ | refine q3 ?_ ?_ | refine q4 ?_ ?_ | refine q5 ?_ ?_ | refine q6 ?_ ?_) <;> intro h_ <;> go_prune)
    | ((with_reducible show wpList _ _ _ (⟨_, .buildSlice _ 0 _, _, _, _, _⟩ :: _) _ _); refine st_empty hS rfl _ _ rfl Tryz.underlying32 (by kernel_rfl) 2 ?_; clear hS; intro ge w_ hS)
    | ((with_reducible refine qA 40 ?_); refine st_appf hS 0 rfl _ _ _ rfl ty_pairs _ rfl rfl _ _ _ _ rfl (kp _ _ hS.ro) (pcells_one L0) (by omega) (by omega) ?_; clear hS; intro g cap w_ hS)
    | (go_at_call 128; refine (sortp_any 0 g L0.length cap L0 (HL.out.le hn) rfl (by omega) hS rfl).mono ?_; rintro e w_ ⟨M, rfl, hMp, hMs, hS⟩; replace hMp := Lib.hid hMp; replace hMs := Lib.hid hMs)
    | (go_at_call 131; refine (compactp_any g L0.length cap M hMp.out.length_eq hl hMs.out hS).mono ?_; rintro e w_ ⟨C, rfl, hC, hCl, hS⟩; obtain ⟨hc2, hm2⟩ := own_cap (hS.own 0 rfl); replace hC := Lib.hid hC; replace hS := hS.freeze 0 (by decide) rfl)
    | (go_at_call 130; refine (clip_any (some ⟨g, 0, none⟩) C.length cap hc2 hm2 _).mono ?_; rintro e w_ ⟨rfl, rfl⟩)
    | ((with_reducible refine qA 48 ?_); refine st_box hS rfl _ _ rfl (.agg #[.int .i64 (n : Nat), .slice (some ⟨g, 0, none⟩) C.length C.length, .slice none 0 0, .slice none 0 0, .slice none 0 0]) _ rfl rfl ?_; clear hS; intro q w_ hS; (try simp only [Act.put, Act.eval, z1, z2, z3, z4, z5, z6, z7, z8, Value.cells] at hS))
    | (go_at_call 132; refine (osort_any q n C (.slice (some ⟨g, 0, none⟩) C.length C.length) hn (inr_of HL.out hMp.out hC.out) (by omega) hS (fun D w h => sl_clip h.2)).mono ?_; rintro e w_ ⟨b, S, sv, rfl, hb1, hb2, hS⟩; cases b <;> (replace hb1 := Lib.hid hb1; replace hb2 := Lib.hid hb2))
    | (go_at_call 133; refine (orelate_any q n C S (.slice (some ⟨g, 0, none⟩) C.length C.length) sv hn (inr_of HL.out hMp.out hC.out) (by omega) (hb1.out (by simp)).2.1 (hb1.out (by simp)).2.2.1 (hb1.out (by simp)).2.2.2 hS (fun D w h => sl_clip h.2) (fun D w h => kt D w h.1)).mono ?_; rintro e w_ ⟨av, bv, xa, xb, rfl, hS⟩))
   ·go_ret2
    refine .inl ⟨fun h => hb2.out (by simp) ((acyc_mem (cmp_mem hMp.out hC.out)).2 h), rfl, ?_⟩
    exact (hS.sub (.cons _ (.cons _ (List.Sublist.refl _)))).mono KS fun D w h => h.1
   ·go_ret2
    refine .inr ⟨_, C, rfl, hC.out.1, cmp_mem hMp.out hC.out, (hb1.out (by simp)).1, ?_⟩
    have hS1 := hS.sealB 0 (by simp) rfl
    exact hS1.mono (KS.and stable_ord) fun D w h => ⟨h.1.1.1, q, _, av, bv, sv, xa, xb, rfl, h.2, sl_clip h.1.1.2, h.1.2.1, h.1.2.2⟩
end Go.Proofs.YtihpgmbinhmmlaaGreatDoor
namespace Go.Proofs.YtihpgmbinhmmlaaGreatDoor
open Go.RowKit
attribute [local go_sem ↓] Go.wp_at_zero Go.wp_at_succ
set_option maxRecDepth 20000
set_option exponentiation.threshold 5000

theorem oin_any {w0 : World} {D : Nat → Prop} {p : Value} {n : Nat} {L : List (Nat × Nat)} (h : IsOrd w0 D p n L) (a : Int) : Calls Tryz.prog 143 #[p, .int .i64 a] w0 (Ret (fun x _ => x = .bool (decide (0 ≤ a ∧ a < n))) w0) := by
 obtain ⟨q, gp, av, bv, sv, xa, xb, rfl, hb, _⟩ := h
 obtain ⟨K, k0, hS⟩ : ∃ K : (Nat → Prop) → World → Prop, (∀ D w, K D w → w.cell? ⟨q, 0, none⟩ = some (.int .i64 (n : Nat))) ∧ St w0 w0 [] K := ⟨_, fun _ _ h => IsBox.cell h 0 rfl, St.start stable_isBox hb⟩
 clear hb
 by_cases h1 : 0 ≤ a
 ·by_cases h2 : a < n
  ·have HR := Lib.hid (show decide (0 ≤ a ∧ a < (n : Int)) = true by simp [h1, h2])
   generalize decide (0 ≤ a ∧ a < (n : Int)) = R at *
   go_enter Tryz.func143, Tryz.ntmps143
   go_wp2_with (first | ((with_reducible refine qB ?_); (first | refine q1 ?_ ?_ | refine q2 ?_ ?_ | refine q3 ?_ ?_ | refine q4 ?_ ?_ | refine q5 ?_ ?_ | refine q6 ?_ ?_) <;> intro h_ <;> go_prune) | ((with_reducible refine qK ?_); refine st_kcell hS rfl _ _ rfl _ rfl _ k0 (by kernel_rfl) ?_))
   go_ret
   exact Ret.mk (congrArg Value.bool HR.out.symm) hS.below
  ·have HR := Lib.hid (show decide (0 ≤ a ∧ a < (n : Int)) = false by simp [h2])
   generalize decide (0 ≤ a ∧ a < (n : Int)) = R at *
   go_enter Tryz.func143, Tryz.ntmps143
   go_wp2_with (first | ((with_reducible refine qB ?_); (first | refine q1 ?_ ?_ | refine q2 ?_ ?_ | refine q3 ?_ ?_ | refine q4 ?_ ?_ | refine q5 ?_ ?_ | refine q6 ?_ ?_) <;> intro h_ <;> go_prune) | ((with_reducible refine qK ?_); refine st_kcell hS rfl _ _ rfl _ rfl _ k0 (by kernel_rfl) ?_))
   go_ret
   exact Ret.mk (congrArg Value.bool HR.out.symm) hS.below
 ·have HR := Lib.hid (show decide (0 ≤ a ∧ a < (n : Int)) = false by simp [h1])
  generalize decide (0 ≤ a ∧ a < (n : Int)) = R at *
  go_enter Tryz.func143, Tryz.ntmps143
  go_wp2_with (first | ((with_reducible refine qB ?_); (first | refine q1 ?_ ?_ | refine q2 ?_ ?_ | refine q3 ?_ ?_ | refine q4 ?_ ?_ | refine q5 ?_ ?_ | refine q6 ?_ ?_) <;> intro h_ <;> go_prune) | ((with_reducible refine qK ?_); refine st_kcell hS rfl _ _ rfl _ rfl _ k0 (by kernel_rfl) ?_))
  go_ret
  exact Ret.mk (congrArg Value.bool HR.out.symm) hS.below
theorem pclone_any {w0 : World} {D : Nat → Prop} {pv : Value} {L : List (Nat × Nat)} (h : Sl w0 D 2 pv L.length (pcells L)) (hl : L.length ≤ 1000000) : Calls Tryz.prog 144 #[pv] w0 fun e w' => ∃ v, e = .returned v ∧ St w0 w' [.own v 122 2 L.length (pcells L)] fun _ _ => True := by
 obtain ⟨A, c, rfl, hc1, hc2⟩ := h.shape
 obtain ⟨K, kp, hS⟩ : ∃ K : (Nat → Prop) → World → Prop, (∀ D w, K D w → Sl w D 2 (.slice A L.length c) L.length (pcells L)) ∧ St w0 w0 [] K := ⟨_, fun _ _ h => h, St.start (stable_sl (by decide)) h⟩
 clear h
 cases A with
 | none =>
  have h0 : L.length = 0 := by
   obtain ⟨_, A, c2, h2, _, _, h5⟩ := kp _ _ hS.ro
   rcases Nat.eq_zero_or_pos L.length with h | h
   ·exact h
   ·obtain ⟨b, o, h6, _⟩ := h5 h
    injection h2 with h2; rw [← h2] at h6; cases h6
  have hL : L = [] := List.length_eq_zero_iff.1 h0
  subst hL
  go_enter Tryz.func144, Tryz.ntmps144
  go_wp2_with (first
   | ((with_reducible refine qB ?_); (first | refine q1 ?_ ?_ | refine q2 ?_ ?_ | refine q3 ?_ ?_ | refine q4 ?_ ?_ | refine q5 ?_ ?_ | refine q6 ?_ ?_) <;> intro h_ <;> go_prune)
   | ((with_reducible refine qA 4 ?_); refine BigFrame.wpList_want rfl fun _ hK => opw_bin (vx := .slice none _ c) (vy := .slice none 0 0) (v := .bool true) rfl rfl rfl rfl (Lib.run_eql_slice_nil _ _ _ _ _ _ _ _ Tryz.underlying32) (hK _ _ ?_)))
  go_ret
  exact ⟨_, rfl, ((hS.nil 122 2)).mono (Stable.pure True) fun _ _ _ => trivial⟩
 | some ad =>
  go_enter Tryz.func144, Tryz.ntmps144
  go_wp2_with (first
   | ((with_reducible refine qA 4 ?_); refine BigFrame.wpList_want rfl fun _ hK => opw_bin (vx := .slice (some ad) L.length c) (vy := .slice none 0 0) (v := .bool false) rfl rfl rfl rfl (Lib.run_eql_slice_nil _ _ _ _ _ _ _ _ Tryz.underlying32) (hK _ _ ?_))
   | ((with_reducible show wpList _ _ _ (⟨_, .buildSlice _ 0 _, _, _, _, _⟩ :: _) _ _); refine st_empty hS rfl _ _ rfl Tryz.underlying32 (by kernel_rfl) 2 ?_; clear hS; intro ge w_ hS)
   | ((with_reducible refine qA 7 ?_); refine st_appf hS 0 rfl _ _ _ rfl ty_pairs _ rfl rfl _ _ _ _ rfl (kp _ _ hS.ro) (pcells_one L) (by omega) (by omega) ?_; clear hS; intro g cap w_ hS))
  go_ret
  exact ⟨_, rfl, hS.mono (Stable.pure True) fun _ _ _ => trivial⟩
theorem opairs_any {w0 : World} {D : Nat → Prop} {p : Value} {n : Nat} {L : List (Nat × Nat)} (h : IsOrd w0 D p n L) (hl : L.length ≤ 1000000) : Calls Tryz.prog 120 #[p] w0 fun e w' => ∃ v, e = .returned v ∧ St w0 w' [.own v 122 2 L.length (pcells L)] fun _ _ => True := by
 obtain ⟨q, gp, av, bv, sv, xa, xb, rfl, hb, hp, _⟩ := h
 have k0 := Lib.hid (hb.cell 1 (x := .slice (some ⟨gp, 0, none⟩) L.length L.length) rfl)
 have HC := Lib.hid (pclone_any hp hl)
 clear hb hp
 go_enter Tryz.func120, Tryz.ntmps120
 go_wp2_with (first
  | ((with_reducible refine qB ?_); (first | refine q1 ?_ ?_ | refine q2 ?_ ?_ | refine q3 ?_ ?_ | refine q4 ?_ ?_ | refine q5 ?_ ?_ | refine q6 ?_ ?_) <;> intro h_ <;> go_prune)
  | ((with_reducible refine qK ?_); refine BigFrame.wpList_want rfl fun _ hK => opw_cell rfl rfl (by kernel_rfl) k0.out (hK _ _ ?_))
  | (go_at_call 144; refine HC.out.mono ?_; rintro e w_ ⟨v, rfl, hS⟩))
 go_ret
 exact ⟨v, rfl, hS⟩
theorem rng1 {w : World} {g i : Nat} {u : Value} (h : w.cell? ⟨g, i + 0, none⟩ = some u) : w.rangeAt g i [u] := fun j v hj => by
 match j, hj with
 | 0, hj => simp at hj; subst hj; exact h
 | j + 1, hj => simp at hj
theorem oabove_any {w0 : World} {D : Nat → Prop} {p : Value} {n : Nat} {L : List (Nat × Nat)} (h : IsOrd w0 D p n L) (hL : Inr n L) (a : Int) : Calls Tryz.prog 138 #[p, .int .i64 a] w0 (Ret (fun x w => ∃ N, IsSet w D x N ∧ ∀ i : Nat, N.testBit i = true ↔ ∃ b : Nat, a = (b : Int) ∧ TC L i b) w0) := by
 obtain ⟨q, gp, av, bv, sv, xa, xb, rfl, h⟩ := h
 have HA := Lib.hid h.2.2.1.2
 obtain ⟨A, c, rfl, _, _⟩ := h.2.2.1.1.shape
 obtain ⟨K, ko, hS⟩ : ∃ K : (Nat → Prop) → World → Prop, (∀ D w, K D w → OrdX q gp (.slice A n c) bv sv xa xb n L D w) ∧ St w0 w0 [] K := ⟨_, fun _ _ h => h, St.start stable_ordX h⟩
 clear h
 by_cases hin : 0 ≤ a ∧ a < (n : Int)
 ·obtain ⟨k, rfl⟩ : ∃ k : Nat, a = (k : Int) := ⟨a.toNat, by omega⟩
  have hk : k < n := by omega
  obtain ⟨u, hu1, hu2⟩ := HA.out k hk
  obtain ⟨A3, c3, l3, he, _⟩ := hu2.parts
  obtain rfl : u = .slice A3 l3.length c3 := by injection he with he; simpa using he
  clear he
  have HU := Lib.hid hu2
  have HD := Lib.hid (decide_eq_true hin)
  clear hu2 hin
  go_enter Tryz.func138, Tryz.ntmps138
  go_wp2_with (first
   | ((with_reducible refine qA 4 ?_); refine st_alloc hS rfl _ rfl (by kernel_rfl) ?_; clear hS; intro g w_ hS; (try simp only [Act.put, Act.eval, z1, z2, z3, z4, z5, z6, z7, z8, Value.cells] at hS))
   | (go_at_call 143; refine (oin_any (ko _ _ hS.ro).ord _).mono ?_; rw [HD.out]; rintro r_ w_ ⟨_, rfl, rfl, hb_⟩; replace hS := hS.ext hb_; clear hb_)
   | ((with_reducible refine qA 13 ?_); refine st_kcell hS rfl _ _ rfl _ rfl _ (fun D w h => (ko D w h).1.cell 2 rfl) (by kernel_rfl) ?_)
   | ((with_reducible refine qA 15 ?_); refine st_iaddr rfl _ _ _ rfl _ rfl rfl (ko _ _ hS.ro).2.2.1.1 Tryz.underlying182 (by kernel_rfl) hk ?_; intro b_ j_ _ _ hc_)
   | ((with_reducible refine qA 16 ?_); refine BigFrame.wpList_want rfl fun _ hK => opw_mid (cs := [.slice A3 l3.length c3]) rfl rfl (rng1 (hc_ 0 _ (by simpa using hu1))) Tryz.underlying27 rfl (by kernel_rfl) (hK _ _ ?_))
   | ((with_reducible refine qM ?_); (first | refine qS hS ?_ | refine qT hS ?_); clear hS; intro w_ hS; (try simp only [Act.put, Act.eval, z1, z2, z3, z4, z5, z6, z7, z8, Value.cells] at hS)))
  refine ret_cell Tryz.results138 rfl (hS.box 0 rfl) Tryz.underlying27 rfl (by kernel_rfl) rfl ?_
  refine Ret.mk ⟨_, HU.out.ext hS.below, fun i => (tb_above hL).trans ⟨fun h => ⟨k, rfl, h⟩, fun ⟨b, e, h⟩ => ?_⟩⟩ hS.below
  obtain rfl : k = b := by omega
  exact h
 ·have HD := Lib.hid (decide_eq_false hin)
  go_enter Tryz.func138, Tryz.ntmps138
  go_wp2_with (first
   | ((with_reducible refine qA 4 ?_); refine st_alloc hS rfl _ rfl (by kernel_rfl) ?_; clear hS; intro g w_ hS; (try simp only [Act.put, Act.eval, z1, z2, z3, z4, z5, z6, z7, z8, Value.cells] at hS))
   | (go_at_call 143; refine (oin_any (ko _ _ hS.ro).ord _).mono ?_; rw [HD.out]; rintro r_ w_ ⟨_, rfl, rfl, hb_⟩; replace hS := hS.ext hb_; clear hb_)
   | ((with_reducible show wpList _ _ _ (⟨_, .build _ _, _, _, _, _⟩ :: _) _ _); refine wpList_build_of rfl _ _ rfl #[.slice none 0 0] (by kernel_rfl) ?_)
   | ((with_reducible refine qM ?_); (first | refine qS hS ?_ | refine qT hS ?_); clear hS; intro w_ hS; (try simp only [Act.put, Act.eval, z1, z2, z3, z4, z5, z6, z7, z8, Value.cells] at hS)))
  refine ret_cell Tryz.results138 rfl (hS.box 0 rfl) Tryz.underlying27 rfl (by kernel_rfl) rfl ?_
  refine Ret.mk ⟨0, IsSet.empty, fun i => ⟨fun h => by simp at h, fun ⟨b, e, h⟩ => ?_⟩⟩ hS.below
  have := (h.lt hL).2
  omega
theorem obelow_any {w0 : World} {D : Nat → Prop} {p : Value} {n : Nat} {L : List (Nat × Nat)} (h : IsOrd w0 D p n L) (hL : Inr n L) (a : Int) : Calls Tryz.prog 118 #[p, .int .i64 a] w0 (Ret (fun x w => ∃ N, IsSet w D x N ∧ ∀ i : Nat, N.testBit i = true ↔ ∃ b : Nat, a = (b : Int) ∧ TC L b i) w0) := by
 obtain ⟨q, gp, av, bv, sv, xa, xb, rfl, h⟩ := h
 have HA := Lib.hid h.2.2.2.2
 obtain ⟨A, c, rfl, _, _⟩ := h.2.2.2.1.shape
 obtain ⟨K, ko, hS⟩ : ∃ K : (Nat → Prop) → World → Prop, (∀ D w, K D w → OrdX q gp av (.slice A n c) sv xa xb n L D w) ∧ St w0 w0 [] K := ⟨_, fun _ _ h => h, St.start stable_ordX h⟩
 clear h
 by_cases hin : 0 ≤ a ∧ a < (n : Int)
 ·obtain ⟨k, rfl⟩ : ∃ k : Nat, a = (k : Int) := ⟨a.toNat, by omega⟩
  have hk : k < n := by omega
  obtain ⟨u, hu1, hu2⟩ := HA.out k hk
  obtain ⟨A3, c3, l3, he, _⟩ := hu2.parts
  obtain rfl : u = .slice A3 l3.length c3 := by injection he with he; simpa using he
  clear he
  have HU := Lib.hid hu2
  have HD := Lib.hid (decide_eq_true hin)
  clear hu2 hin
  go_enter Tryz.func118, Tryz.ntmps118
  go_wp2_with (first
   | ((with_reducible refine qA 4 ?_); refine st_alloc hS rfl _ rfl (by kernel_rfl) ?_; clear hS; intro g w_ hS; (try simp only [Act.put, Act.eval, z1, z2, z3, z4, z5, z6, z7, z8, Value.cells] at hS))
   | (go_at_call 143; refine (oin_any (ko _ _ hS.ro).ord _).mono ?_; rw [HD.out]; rintro r_ w_ ⟨_, rfl, rfl, hb_⟩; replace hS := hS.ext hb_; clear hb_)
   | ((with_reducible refine qA 13 ?_); refine st_kcell hS rfl _ _ rfl _ rfl _ (fun D w h => (ko D w h).1.cell 3 rfl) (by kernel_rfl) ?_)
   | ((with_reducible refine qA 15 ?_); refine st_iaddr rfl _ _ _ rfl _ rfl rfl (ko _ _ hS.ro).2.2.2.1 Tryz.underlying182 (by kernel_rfl) hk ?_; intro b_ j_ _ _ hc_)
   | ((with_reducible refine qA 16 ?_); refine BigFrame.wpList_want rfl fun _ hK => opw_mid (cs := [.slice A3 l3.length c3]) rfl rfl (rng1 (hc_ 0 _ (by simpa using hu1))) Tryz.underlying27 rfl (by kernel_rfl) (hK _ _ ?_))
   | ((with_reducible refine qM ?_); (first | refine qS hS ?_ | refine qT hS ?_); clear hS; intro w_ hS; (try simp only [Act.put, Act.eval, z1, z2, z3, z4, z5, z6, z7, z8, Value.cells] at hS)))
  refine ret_cell Tryz.results118 rfl (hS.box 0 rfl) Tryz.underlying27 rfl (by kernel_rfl) rfl ?_
  refine Ret.mk ⟨_, HU.out.ext hS.below, fun i => (tb_below hL).trans ⟨fun h => ⟨k, rfl, h⟩, fun ⟨b, e, h⟩ => ?_⟩⟩ hS.below
  obtain rfl : k = b := by omega
  exact h
 ·have HD := Lib.hid (decide_eq_false hin)
  go_enter Tryz.func118, Tryz.ntmps118
  go_wp2_with (first
   | ((with_reducible refine qA 4 ?_); refine st_alloc hS rfl _ rfl (by kernel_rfl) ?_; clear hS; intro g w_ hS; (try simp only [Act.put, Act.eval, z1, z2, z3, z4, z5, z6, z7, z8, Value.cells] at hS))
   | (go_at_call 143; refine (oin_any (ko _ _ hS.ro).ord _).mono ?_; rw [HD.out]; rintro r_ w_ ⟨_, rfl, rfl, hb_⟩; replace hS := hS.ext hb_; clear hb_)
   | ((with_reducible show wpList _ _ _ (⟨_, .build _ _, _, _, _, _⟩ :: _) _ _); refine wpList_build_of rfl _ _ rfl #[.slice none 0 0] (by kernel_rfl) ?_)
   | ((with_reducible refine qM ?_); (first | refine qS hS ?_ | refine qT hS ?_); clear hS; intro w_ hS; (try simp only [Act.put, Act.eval, z1, z2, z3, z4, z5, z6, z7, z8, Value.cells] at hS)))
  refine ret_cell Tryz.results118 rfl (hS.box 0 rfl) Tryz.underlying27 rfl (by kernel_rfl) rfl ?_
  refine Ret.mk ⟨0, IsSet.empty, fun i => ⟨fun h => by simp at h, fun ⟨b, e, h⟩ => ?_⟩⟩ hS.below
  have := (h.lt hL).1
  omega
def encP (x : Nat × Nat) : List Value := [.int .i64 (x.1 : Nat), .int .i64 (x.2 : Nat)]
theorem eqlP : EqlAt Tryz.prog 122 (fun x => .agg (encP x).toArray) (fun x y : Nat × Nat => decide (x = y)) := ⟨fun x y w => eq_pairs w x y, GuardAt.agg _ (by kernel_rfl)⟩
theorem cellsP {w : World} {D : Nat → Prop} {g c : Nat} {L : List (Nat × Nat)} (h : Sl w D 2 (.slice (some ⟨g, 0, none⟩) L.length c) L.length (pcells L)) : ∀ j, j < L.length → ∀ i v, (encP L[j]!)[i]? = some v → w.cell? ⟨g, 0 + j * 2 + i, none⟩ = some v := fun j hj i v hv => by
 obtain ⟨_, A, c2, h2, _, _, h5⟩ := h
 injection h2 with h2
 obtain ⟨b, o, h6, _, _, h8⟩ := h5 (by omega)
 rw [← h2] at h6
 injection h6 with h6; injection h6 with h6 h7
 subst h6; subst h7
 have h3 := pcells_at L j hj
 have h4 : L.getD j (0, 0) = L[j]! := by rw [getElem!_pos L j hj, List.getD_eq_getElem?_getD, List.getElem?_eq_getElem hj]; rfl
 rw [h4] at h3
 rw [Nat.add_assoc]
 generalize L[j]! = y at *
 match i, hv with
 | 0, hv => simp [encP] at hv; subst hv; exact h8 _ _ h3.1
 | 1, hv => simp [encP] at hv; subst hv; exact h8 _ _ h3.2
 | i + 2, hv => simp [encP] at hv
theorem pcontains_any {w : World} {D : Nat → Prop} {g c : Nat} {L : List (Nat × Nat)} (hl : L.length ≤ 1000000) (h : Sl w D 2 (.slice (some ⟨g, 0, none⟩) L.length c) L.length (pcells L)) (x : Nat × Nat) :
  Calls Tryz.prog 150 #[.slice (some ⟨g, 0, none⟩) L.length c, .agg #[.int .i64 (x.1 : Nat), .int .i64 (x.2 : Nat)]] w (Ret (fun r _ => r = .bool (decide (x ∈ L))) w) := by
 have := AnyQ.slices_Contains Tryz.containsPairs 2 Tryz.isAgg122 Tryz.sizeOf122 encP (fun _ => rfl) _ eqlP g 0 L.length c L x w (Nat.le_refl _) (by omega) (cellsP h)
 refine this.mono ?_
 rintro e w' ⟨rfl, hb⟩
 refine Ret.mk ?_ hb
 rw [List.take_length]
 congr 1
 rw [Bool.eq_iff_iff, List.any_eq_true, decide_eq_true_eq]
 exact ⟨fun ⟨y, h1, h2⟩ => by rw [decide_eq_true_eq] at h2; rw [h2]; exact h1, fun h => ⟨x, h, by simp⟩⟩
end Go.Proofs.YtihpgmbinhmmlaaGreatDoor
namespace Go.Proofs.YtihpgmbinhmmlaaGreatDoor
open Go.RowKit
attribute [local go_sem ↓] Go.wp_at_zero Go.wp_at_succ
set_option maxRecDepth 20000

structure AG where
 r : List Value
 b : List (Nat × Value)
def AtS (g : AG) (s : Nat) (v : Value) : Prop := ∃ pre post, g.r = pre ++ v :: post ∧ post.length = s
structure AD where
 e : TypeId
 size : Nat
 top : Nat
 cnt : Nat → Nat
 cont : Nat → List Value
 src : Nat → Value → Fact
def AG.main (d : AD) (g : AG) : List Fact := match g.r with
 | [] => []
 | v :: r => [.own v d.e d.size (d.cnt r.length) (d.cont r.length)]
def AG.F (d : AD) (g : AG) : List Fact := (g.b.map fun x => d.src x.1 x.2) ++ g.main d
def AJ (w0 : World) (F : List Fact) (K : (Nat → Prop) → World → Prop) (d : AD) (p : World × AG) : Prop := St w0 p.1 (p.2.F d ++ F) K ∧ p.2.r.length ≤ d.top
def AR (w0 : World) (F : List Fact) (K : (Nat → Prop) → World → Prop) (d : AD) (p p' : World × AG) : Prop := (AJ w0 F K d p → AJ w0 F K d p') ∧ (∃ s, p'.2.r = s ++ p.2.r) ∧ ∀ x, x ∈ p.2.b → x ∈ p'.2.b
def akind (kd : List (Nat × (Bool × Nat))) (i : Nat) : Option (Bool × Nat) := (kd.find? fun x => x.1 == i).map (·.2)
def AN (kd : List (Nat × (Bool × Nat))) (i : Nat) (p : World × AG) : Prop := match akind kd i with
 | some (true, s) => p.2.r.length ≤ s
 | some (false, j) => ∀ v, (j, v) ∉ p.2.b
 | none => True
theorem akind_inj {kd : List (Nat × (Bool × Nat))} (h : (kd.map (·.2)).Nodup) {i j : Nat} {x : Bool × Nat} (hi : akind kd i = some x) (hj : akind kd j = some x) : i = j := by
 unfold akind at hi hj
 obtain ⟨y, hy, rfl⟩ := Option.map_eq_some_iff.1 hi
 obtain ⟨z, hz, he⟩ := Option.map_eq_some_iff.1 hj
 have e1 : y.1 = i := by simpa using List.find?_some hy
 have e2 : z.1 = j := by simpa using List.find?_some hz
 have m1 := List.mem_of_find?_eq_some hy
 have m2 := List.mem_of_find?_eq_some hz
 obtain ⟨a, ha, ea⟩ := List.getElem_of_mem m1
 obtain ⟨b, hb, eb⟩ := List.getElem_of_mem m2
 have hp := List.pairwise_iff_getElem.1 h
 have key : a = b := by
  rcases Nat.lt_trichotomy a b with q | q | q
  ·have := hp a b (by simpa using ha) (by simpa using hb) q
   simp [ea, eb, he] at this
  ·exact q
  ·have := hp b a (by simpa using hb) (by simpa using ha) q
   simp [ea, eb, he] at this
 subst key
 rw [ea] at eb
 rw [← e1, ← e2, eb]
theorem AN_start (kd : List (Nat × (Bool × Nat))) (w : World) (i : Nat) : AN kd i (w, ⟨[], []⟩) := by
 unfold AN
 split
 ·exact Nat.zero_le _
 ·simp
 ·trivial
theorem AtS.mono {g g' : AG} {s : Nat} {v : Value} (h : AtS g s v) (k : ∃ t, g'.r = t ++ g.r) : AtS g' s v := by
 obtain ⟨pre, post, h1, h2⟩ := h
 obtain ⟨t, k⟩ := k
 exact ⟨t ++ pre, post, by rw [k, h1, List.append_assoc], h2⟩
theorem AtS.head {g : AG} {s : Nat} {v : Value} (h : AtS g s v) (hl : g.r.length ≤ s + 1) : ∃ post, g.r = v :: post ∧ post.length = s := by
 obtain ⟨pre, post, h1, h2⟩ := h
 rw [h1, List.length_append, List.length_cons] at hl
 have : pre = [] := List.eq_nil_of_length_eq_zero (by omega)
 subst this
 exact ⟨post, h1, h2⟩
theorem St.permC {w0 w : World} {F F' : List Fact} {K : (Nat → Prop) → World → Prop} (h : St w0 w F K) (hp : F.Perm F') : St w0 w F' K := by
 refine ⟨h.below, fun f hf => h.holds f (hp.mem_iff.2 hf), hp.pairwise h.apart fun {a b} q k hk e => q k e hk, h.stable, h.stable _ _ _ _ h.ro (Nat.le_refl _) (fun _ _ _ _ h => h) fun k h1 _ _ f hf => h1 f (hp.mem_iff.2 hf)⟩
section
variable {w0 : World} {F : List Fact} {K : (Nat → Prop) → World → Prop} {d : AD} {p p' : World × AG} {kd : List (Nat × (Bool × Nat))} {i : Nat}
theorem AR.refl (p : World × AG) : AR w0 F K d p p := ⟨id, ⟨[], rfl⟩, fun _ h => h⟩
theorem AR.trans (a b c : World × AG) (h : AR w0 F K d a b) (k : AR w0 F K d b c) : AR w0 F K d a c := by
 obtain ⟨s, hs⟩ := h.2.1
 obtain ⟨t, ht⟩ := k.2.1
 exact ⟨fun y => k.1 (h.1 y), ⟨t ++ s, by rw [ht, hs, List.append_assoc]⟩, fun x hx => k.2.2 x (h.2.2 x hx)⟩
theorem AR.src (hnd : (kd.map (·.2)).Nodup) {j : Nat} (hki : akind kd i = some (false, j)) {w' : World} {v : Value} (hb : Below p.1.heap.size p.1 w') (hf : (d.src j v).holds p.1.heap.size w') : AR w0 F K d p (w', ⟨p.2.r, (j, v) :: p.2.b⟩) ∧ ∀ t, t ≠ i → AN kd t p → AN kd t (w', ⟨p.2.r, (j, v) :: p.2.b⟩) := by
 refine ⟨⟨fun h => ⟨h.1.new hb _ hf, h.2⟩, ⟨[], rfl⟩, fun _ h => List.mem_cons_of_mem _ h⟩, fun t ht h => ?_⟩
 unfold AN at *
 split
 ·rename_i s hs
  rw [hs] at h
  exact h
 ·rename_i q hq
  rw [hq] at h
  intro v' hv'
  rcases List.mem_cons.1 hv' with e | e
  ·injection e with e _
   subst e
   exact ht (akind_inj hnd hq hki)
  ·exact h v' e
 ·trivial
theorem AR.main (hnd : (kd.map (·.2)).Nodup) {s : Nat} (hki : akind kd i = some (true, s)) {w' : World} {v : Value} (hl : p.2.r.length = s) (hJ : AJ w0 F K d p → AJ w0 F K d (w', ⟨v :: p.2.r, p.2.b⟩)) : AR w0 F K d p (w', ⟨v :: p.2.r, p.2.b⟩) ∧ ∀ t, t ≠ i → AN kd t p → AN kd t (w', ⟨v :: p.2.r, p.2.b⟩) := by
 refine ⟨⟨hJ, ⟨[v], rfl⟩, fun _ h => h⟩, fun t ht h => ?_⟩
 unfold AN at *
 split
 ·rename_i q hq
  rw [hq] at h
  have : q ≠ s := fun e => ht (akind_inj hnd (e ▸ hq) hki)
  show p.2.r.length + 1 ≤ q
  have : p.2.r.length ≤ q := h
  omega
 ·rename_i q hq
  rw [hq] at h
  exact h
 ·trivial
theorem AJ.start {w' : World} {v : Value} (h : AJ w0 F K d p) (h0 : p.2.r = []) (hb : Below p.1.heap.size p.1 w') (hf : (Fact.own v d.e d.size (d.cnt 0) (d.cont 0)).holds p.1.heap.size w') (ht : 0 < d.top) : AJ w0 F K d (w', ⟨v :: p.2.r, p.2.b⟩) := by
 obtain ⟨w, r, b⟩ := p
 dsimp only at h0
 subst h0
 refine ⟨(h.1.new hb _ hf).permC ?_, ht⟩
 simp only [AG.F, AG.main, List.append_nil, List.append_assoc]
 exact List.perm_middle.symm
theorem AJ.row {v : Value} {post : List Value} (h : AJ w0 F K d p) (hr : p.2.r = v :: post) : p.1.ownsRow w0.heap.size d.e d.size v (d.cnt post.length) (d.cont post.length) ∧ w0.heap.size ≤ p.1.heap.size := by
 obtain ⟨w, r, b⟩ := p
 dsimp only at hr
 subst hr
 exact ⟨h.1.holds (.own v d.e d.size (d.cnt post.length) (d.cont post.length)) (by simp [AG.F, AG.main]), h.1.size⟩
theorem AJ.next {w' : World} {v u : Value} {post : List Value} (h : AJ w0 F K d p) (hr : p.2.r = v :: post) (ho : w'.ownsRow w0.heap.size d.e d.size u (d.cnt (post.length + 1)) (d.cont (post.length + 1))) (hg : p.1.grownBy w' v.ownBlock) (hb : ∀ k, u.ownBlock = some k → v.ownBlock = some k ∨ p.1.heap.size ≤ k) (ht : post.length + 1 < d.top) : AJ w0 F K d (w', ⟨u :: p.2.r, p.2.b⟩) := by
 obtain ⟨w, r, b⟩ := p
 dsimp only at hr
 subst hr
 refine ⟨?_, by simp; omega⟩
 have h1 := h.1
 simp only [AG.F, AG.main, List.append_assoc] at h1
 have h2 := h1.upd b.length (f := .own v d.e d.size (d.cnt post.length) (d.cont post.length)) (by simp) (.own u d.e d.size (d.cnt (post.length + 1)) (d.cont (post.length + 1))) hg ho hb
 rw [show ((b.map fun x => d.src x.1 x.2) ++ ([Fact.own v d.e d.size (d.cnt post.length) (d.cont post.length)] ++ F)).set b.length (.own u d.e d.size (d.cnt (post.length + 1)) (d.cont (post.length + 1))) = (b.map fun x => d.src x.1 x.2) ++ ([Fact.own u d.e d.size (d.cnt (post.length + 1)) (d.cont (post.length + 1))] ++ F) from by
  rw [List.set_append_right _ _ (by simp)]; simp] at h2
 simpa [AG.F, AG.main, List.append_assoc] using h2
theorem AJ.side {j : Nat} {v : Value} (h : AJ w0 F K d p) (hm : (j, v) ∈ p.2.b) : (d.src j v).holds w0.heap.size p.1 :=
 h.1.holds _ (List.mem_append_left _ (List.mem_append_left _ (List.mem_map.2 ⟨_, hm, rfl⟩)))
theorem AJ.last {v : Value} {s : Nat} (h : AJ w0 F K d p) (hs : AtS p.2 s v) (ht : d.top = s + 1) : St w0 p.1 (.own v d.e d.size (d.cnt s) (d.cont s) :: F) K := by
 obtain ⟨post, h1, h2⟩ := hs.head (by have := h.2; omega)
 obtain ⟨w, r, b⟩ := p
 dsimp only at h1
 subst h1
 subst h2
 have h3 := h.1
 simp only [AG.F, AG.main, List.append_assoc] at h3
 exact h3.sub (List.sublist_append_right _ _)
variable {P : Program} {o : Oper} {a : Act} {Kt : Act → World → Prop} {Q : Exit → Act → World → Prop}
theorem chain_start (hnd : (kd.map (·.2)).Nodup) (hki : akind kd i = some (true, 0)) {t : TypeId} (ho : o.op = .buildSlice t 0 #[]) (ht : P.underlying t = some (.slice d.e)) (hb : builtSlice P d.e 0 [] = some #[]) (hN : AN kd i p) (h0 : d.cnt 0 = 0) (h1 : d.cont 0 = []) (hlt : 0 < d.top)
  (hK : ∀ v w', AtS w'.2 0 v → AR w0 F K d p w' ∧ (∀ j, j ≠ i → AN kd j p → AN kd j w') → Kt (a.put o.dst v) w'.1) : o.wp P a p.1 Kt Q := by
 have hl : p.2.r.length ≤ 0 := by unfold AN at hN; rw [hki] at hN; exact hN
 have hr : p.2.r = [] := List.eq_nil_of_length_eq_zero (by omega)
 refine opw_slice (ps := []) (cells := #[]) ho ht (by simp) hb fun w' hx hB => ?_
 refine hK _ (w', ⟨_ :: p.2.r, p.2.b⟩) ⟨[], p.2.r, rfl, by rw [hr]; rfl⟩ (AR.main hnd hki (by omega) fun hJ => hJ.start hr hB ?_ hlt)
 rw [h0, h1]
 exact ⟨by simp, .inr ⟨p.1.heap.size, 0, #[], rfl, Nat.le_refl _, hx, Nat.le_refl _, by simp [maxLen], by simp, by simp⟩⟩
theorem chain_side (hnd : (kd.map (·.2)).Nodup) {j : Nat} (hki : akind kd i = some (false, j)) {t e : TypeId} {len : Nat} {parts : Array (Nat × Operand)} (ho : o.op = .buildSlice t len parts) (ht : P.underlying t = some (.slice e)) {ps : List (Nat × Value)} {cells : Array Value} (hp : (parts.map fun (i, x) => (i, a.eval x)).toList = ps) (hb : builtSlice P e len ps = some cells) {size : Nat} (hsrc : ∀ v, d.src j v = .own v e size len cells.toList) (hs : cells.size = len * size) (hm : len ≤ 1000000000000)
  (hK : ∀ v w', (j, v) ∈ w'.2.b → AR w0 F K d p w' ∧ (∀ j, j ≠ i → AN kd j p → AN kd j w') → Kt (a.put o.dst v) w'.1) : o.wp P a p.1 Kt Q := by
 refine opw_slice (ps := ps) (cells := cells) ho ht hp hb fun w' hx hB => ?_
 refine hK _ (w', ⟨p.2.r, (j, _) :: p.2.b⟩) (List.mem_cons_self ..) (AR.src hnd hki hB ?_)
 rw [hsrc]
 exact ⟨by simpa using hs, .inr ⟨p.1.heap.size, len, cells, rfl, Nat.le_refl _, hx, Nat.le_refl _, by unfold maxLen; omega, hs, by rw [← hs, show cells.size = cells.toList.length by simp, List.take_length]⟩⟩
theorem chain_app (hnd : (kd.map (·.2)).Nodup) {s : Nat} (hki : akind kd i = some (true, s + 1)) {s1 x1 : Operand} {t : TypeId} {bytes m : Nat} {news : List Value} {D : Nat → Prop} (ho : o.op = .call { callee := .builtin .append, args := #[s1, x1], argTypes := #[t, t] }) (hT : SliceTy P t d.e d.size bytes) (hN : AN kd i p) (hs : AtS p.2 s (a.eval s1)) (hJ : AJ w0 F K d p)
  (hr : Sl p.1 D d.size (a.eval x1) m news) (h1 : ∀ u ∈ news, u.oneCell' = true) (hc : d.cont (s + 1) = d.cont s ++ news) (hcn : d.cnt (s + 1) = d.cnt s + m) (hb : d.cnt s + m ≤ 1000000000000) (hby : (d.cnt s + m) * bytes ≤ 140737488355328) (hlt : s + 1 < d.top)
  (hK : ∀ v w', AtS w'.2 (s + 1) v → AR w0 F K d p w' ∧ (∀ j, j ≠ i → AN kd j p → AN kd j w') → Kt (a.put o.dst v) w'.1) : o.wp P a p.1 Kt Q := by
 have hl : p.2.r.length ≤ s + 1 := by unfold AN at hN; rw [hki] at hN; exact hN
 obtain ⟨post, e1, e2⟩ := hs.head hl
 obtain ⟨hown, hsz⟩ := hJ.row e1
 rw [e2] at hown
 refine opw_app ho hT rfl hown rfl hr h1 hb hby hsz fun v' w' a1 a2 a3 => ?_
 refine hK v' (w', ⟨v' :: p.2.r, p.2.b⟩) ⟨[], p.2.r, rfl, by rw [e1, List.length_cons, e2]⟩ (AR.main hnd hki (by rw [e1, List.length_cons, e2]) fun hJ => hJ.next e1 ?_ a2 a3 (by omega))
 rw [e2, hc, hcn]
 exact a1
end
section
variable {P : Program} {o : Oper} {a : Act} {w : World} {Kt : Act → World → Prop} {Q : Exit → Act → World → Prop}
theorem opw_slh {t e : TypeId} {x h : Operand} {A : Option Addr} {n c k : Nat} (ho : o.op = .slice t x none (some h) none) (ht : P.underlying t = some (.slice e)) (hi : ∃ size, (P.info? e).map (·.size) = some size) (hx : a.eval x = .slice A n c) (hh : a.eval h = .int .i64 (k : Nat)) (hk : k ≤ c)
  (hK : Kt (a.put o.dst (.slice A k c)) w) : o.wp P a w Kt Q := by
 obtain ⟨size, hi⟩ := hi
 refine opw_val (v := .slice A k c) ?_ hK
 cases hz : P.info? e with
 | none => rw [hz] at hi; cases hi
 | some z =>
  have hke : ((k : Nat) : Int) ≤ c := by omega
  have : A.map (·.add (0 * z.size)) = A := by cases A <;> simp [Addr.add]
  simp [execOp, ho, hx, hh, Instr.sliceAt, Instr.slice, run_underlying ht, Instr.sliceBounds, run_sliceBound, sizeOf, typeInfo, hz, hke, Addr.add]
theorem opw_sll {t e : TypeId} {x h : Operand} {A : Option Addr} {n c k size : Nat} (ho : o.op = .slice t x (some h) none none) (ht : P.underlying t = some (.slice e)) (hi : (P.info? e).map (·.size) = some size) (hx : a.eval x = .slice A n c) (hh : a.eval h = .int .i64 (k : Nat)) (hk : k ≤ n) (hn : n ≤ c)
  (hK : Kt (a.put o.dst (sliced A k n c size)) w) : o.wp P a w Kt Q := by
 refine opw_val (v := sliced A k n c size) ?_ hK
 cases hz : P.info? e with
 | none => rw [hz] at hi; cases hi
 | some z =>
  have hs : z.size = size := by simpa [hz] using hi
  have hke : ((k : Nat) : Int) ≤ n := by omega
  simp [execOp, ho, hx, hh, Instr.sliceAt, Instr.slice, run_underlying ht, Instr.sliceBounds, run_sliceBound, sizeOf, typeInfo, hz, hke, sliced, hs, hn]
end
section
variable {P : Program} {w : World} {t : TypeId} {k : IntKind} {m n : Int} {b : Bool}
theorem run_eqB (h : decide (m = n) = b) : (binOp .eql t (.int k m) (.int k n)).run P w = .ok (.bool b) w := by
 rw [binOp_eql, ← h]; simp [BEq.beq]
theorem run_gtB (h : decide (m > n) = b) : (binOp .gtr t (.int k m) (.int k n)).run P w = .ok (.bool b) w := by
 rw [binOp_gtr, ← h]; simp
end
theorem slc_take {w : World} {D : Nat → Prop} {size n c k : Nat} {A : Option Addr} {xs : List Value} (h : Sl w D size (.slice A n c) n xs) (hk : k ≤ n) : Sl w D size (.slice A k c) k (xs.take (k * size)) := by
 obtain ⟨h1, A2, c2, h2, h3, h4, h5⟩ := h
 injection h2 with h2 h6 h7
 subst h2 h7
 have hle : k * size ≤ n * size := Nat.mul_le_mul_right _ hk
 refine ⟨by rw [List.length_take]; omega, A, c, rfl, by omega, h4, fun hp => ?_⟩
 obtain ⟨b, o, q1, q2, q3, q4⟩ := h5 (by omega)
 refine ⟨b, o, q1, q2, q3, fun j x hj => q4 j x ?_⟩
 rw [List.getElem?_take] at hj
 split at hj
 ·exact hj
 ·cases hj
theorem slc_drop {w : World} {D : Nat → Prop} {size n c k : Nat} {A : Option Addr} {xs : List Value} (h : Sl w D size (.slice A n c) n xs) (hk : k ≤ n) : Sl w D size (sliced A k n c size) (n - k) (xs.drop (k * size)) := by
 obtain ⟨h1, A2, c2, h2, h3, h4, h5⟩ := h
 injection h2 with h2 h6 h7
 subst h2 h7
 have hle : k * size ≤ n * size := Nat.mul_le_mul_right _ hk
 refine ⟨by rw [List.length_drop, h1, Nat.sub_mul], _, c - k, rfl, by omega, by omega, fun hp => ?_⟩
 obtain ⟨b, o, rfl, q2, q3, q4⟩ := h5 (by omega)
 rw [if_neg (by omega)]
 refine ⟨b, o + k * size, ?_, q2, q3, fun j x hj => ?_⟩
 ·simp only [Option.map_some, Addr.add]
  split
  ·rename_i h0; rw [h0]; rfl
  ·rfl
 ·rw [List.getElem?_drop] at hj
  have := q4 _ x hj
  rw [← Nat.add_assoc] at this
  exact this
end Go.Proofs.YtihpgmbinhmmlaaGreatDoor
namespace Go.Proofs.YtihpgmbinhmmlaaGreatDoor
open Go.RowKit
attribute [local go_sem ↓] Go.wp_at_zero Go.wp_at_succ
set_option maxRecDepth 20000
set_option exponentiation.threshold 5000

structure WG where
 a : Option Value
 b : Option Value
 c : Option Value
 d : Option Value
 e : Bool
def ownP (L : List (Nat × Nat)) : Option Value → List Fact
 | some v => [.own v 122 2 L.length (pcells L)]
 | none => []
def WG.F (L : List (Nat × Nat)) (x : Nat × Nat) (g : WG) : List Fact := match g.c with
 | some v => [.own v 122 2 (L.length + 1) (pcells (L ++ [x]))]
 | none => ownP L g.a ++ ownP [x] g.b
def NewP (w0 : World) (F : List Fact) (K : (Nat → Prop) → World → Prop) (n : Nat) (M : List (Nat × Nat)) (r : Value) (w : World) : Prop :=
 (¬ Acyc M ∧ r = .tuple #[.pointer none, .int .i64 16] ∧ St w0 w F K) ∨
 ∃ (p : Value) (L : List (Nat × Nat)), r = .tuple #[p, .int .i64 0] ∧ Asc L ∧ (∀ x, x ∈ L ↔ x ∈ M) ∧ Acyc L ∧ St w0 w F fun D w => K D w ∧ IsOrd w D p n L
theorem NewP.shape {w0 w : World} {F : List Fact} {K : (Nat → Prop) → World → Prop} {n : Nat} {M : List (Nat × Nat)} {r : Value} (h : NewP w0 F K n M r w) : ∃ (p : Value) (e : Int), r = .tuple #[p, .int .i64 e] := by
 rcases h with ⟨_, rfl, _⟩ | ⟨p, L, rfl, _⟩ <;> exact ⟨_, _, rfl⟩
theorem NewP.mono {w0 w : World} {F : List Fact} {K K' : (Nat → Prop) → World → Prop} {n : Nat} {M : List (Nat × Nat)} {r : Value} (h : NewP w0 F K n M r w) (hs : Stable K') (hk : ∀ D w, K D w → K' D w) : NewP w0 F K' n M r w := by
 rcases h with ⟨h1, h2, h3⟩ | ⟨p, L, h1, h2, h3, h4, h5⟩
 ·exact .inl ⟨h1, h2, h3.mono hs hk⟩
 ·exact .inr ⟨p, L, h1, h2, h3, h4, h5.mono (hs.and stable_ord) fun D w h => ⟨hk D w h.1, h.2⟩⟩
theorem onew_own {w0 w : World} {F : List Fact} {K : (Nat → Prop) → World → Prop} (n : Nat) (L0 : List (Nat × Nat)) (pv : Value) (hn : n ≤ 256) (hL : Inr n L0) (hl : L0.length ≤ 1000000) (hS : St w0 w (.own pv 122 2 L0.length (pcells L0) :: F) K)
  (kt : ∀ D w, K D w → DTab w ∧ D 0) :
  Calls Tryz.prog 97 #[.int .i64 (n : Nat), pv] w fun e w' => ∃ v, e = .returned v ∧ NewP w0 F K n L0 v w' := by
 have KS := hS.stable
 refine (onew_any n L0 pv hn hL hl (hS.freeze 0 (by decide) rfl) (fun D w h => h.2) fun D w h => kt D w h.1).mono ?_
 rintro e w' (⟨h1, rfl, h2⟩ | ⟨p, L, rfl, h1, h2, h3, h4⟩)
 ·exact ⟨_, rfl, .inl ⟨h1, rfl, h2.mono KS fun _ _ h => h.1⟩⟩
 ·exact ⟨_, rfl, .inr ⟨p, L, rfl, h1, h2, h3, h4.mono (KS.and stable_ord) fun _ _ h => ⟨h.1.1, h.2⟩⟩⟩
section
variable {w0 : World} {F : List Fact} {K : (Nat → Prop) → World → Prop} {n : Nat} {L : List (Nat × Nat)} {x : Nat × Nat} {p p' : World × WG}
def WJ (w0 : World) (F : List Fact) (K : (Nat → Prop) → World → Prop) (n : Nat) (L : List (Nat × Nat)) (x : Nat × Nat) (p : World × WG) : Prop := match p.2.d with
 | none => St w0 p.1 (p.2.F L x ++ F) K
 | some r => NewP w0 F K n (L ++ [x]) r p.1
def WR (w0 : World) (F : List Fact) (K : (Nat → Prop) → World → Prop) (n : Nat) (L : List (Nat × Nat)) (x : Nat × Nat) (p p' : World × WG) : Prop :=
 (WJ w0 F K n L x p → WJ w0 F K n L x p') ∧ (∀ v, p.2.a = some v → p'.2.a = some v) ∧ (∀ v, p.2.b = some v → p'.2.b = some v) ∧ (∀ v, p.2.c = some v → p'.2.c = some v) ∧ (∀ v, p.2.d = some v → p'.2.d = some v) ∧ (p.2.e = true → p'.2.e = true)
theorem WR.refl (p : World × WG) : WR w0 F K n L x p p := ⟨id, fun _ h => h, fun _ h => h, fun _ h => h, fun _ h => h, id⟩
theorem WR.trans (a b c : World × WG) (h : WR w0 F K n L x a b) (k : WR w0 F K n L x b c) : WR w0 F K n L x a c :=
 ⟨fun y => k.1 (h.1 y), fun g y => k.2.1 g (h.2.1 g y), fun g y => k.2.2.1 g (h.2.2.1 g y), fun g y => k.2.2.2.1 g (h.2.2.2.1 g y), fun g y => k.2.2.2.2.1 g (h.2.2.2.2.1 g y), fun y => k.2.2.2.2.2 (h.2.2.2.2.2 y)⟩
theorem WJ.st (h : WJ w0 F K n L x p) (hd : p.2.d = none) : St w0 p.1 (p.2.F L x ++ F) K := by unfold WJ at h; rw [hd] at h; exact h
theorem WJ.mk {w : World} {g : WG} (hd : g.d = none) (h : St w0 w (g.F L x ++ F) K) : WJ w0 F K n L x (w, g) := by unfold WJ; dsimp only; rw [hd]; exact h
theorem WJ.mkA {w' : World} {v : Value} (h : WJ w0 F K n L x p) (hn : p.2.a = none ∧ p.2.c = none ∧ p.2.d = none) (hs : St p.1 w' [.own v 122 2 L.length (pcells L)] fun _ _ => True) : WJ w0 F K n L x (w', { p.2 with a := some v }) := by
 obtain ⟨w, a, b, c, d, e⟩ := p
 obtain ⟨rfl, rfl, rfl⟩ := hn
 exact WJ.mk rfl (St.new (h.st rfl) hs.below (.own v 122 2 L.length (pcells L)) (hs.own 0 rfl))
theorem WJ.mkB {w' : World} (h : WJ w0 F K n L x p) (hn : p.2.b = none ∧ p.2.c = none ∧ p.2.d = none) (hb : Below p.1.heap.size p.1 w') (hx : Box w' p.1.heap.size 122 #[.int .i64 (x.1 : Nat), .int .i64 (x.2 : Nat)]) : WJ w0 F K n L x (w', { p.2 with b := some (.slice (some ⟨p.1.heap.size, 0, none⟩) 1 1) }) := by
 obtain ⟨w, a, b, c, d, e⟩ := p
 obtain ⟨rfl, rfl, rfl⟩ := hn
 have h1 := St.new (h.st rfl) hb (.own (.slice (some ⟨w.heap.size, 0, none⟩) 1 1) 122 2 [x].length (pcells [x])) ⟨rfl, .inr ⟨w.heap.size, 1, _, rfl, Nat.le_refl _, hx, Nat.le_refl _, by simp [maxLen], rfl, rfl⟩⟩
 refine WJ.mk rfl ?_
 cases a with
 | none => exact h1
 | some v => exact h1.swap
theorem WJ.mkC {w' : World} {u v l : Value} (h : WJ w0 F K n L x p) (hn : p.2.c = none ∧ p.2.d = none) (ha : p.2.a = some v) (hb : p.2.b = some l) (h1 : w'.ownsRow w0.heap.size 122 2 u (L.length + 1) (pcells L ++ pcells [x])) (h2 : p.1.grownBy w' v.ownBlock) (h3 : ∀ k, u.ownBlock = some k → v.ownBlock = some k ∨ p.1.heap.size ≤ k) : WJ w0 F K n L x (w', { p.2 with c := some u }) := by
 obtain ⟨w, a, b, c, d, e⟩ := p
 obtain ⟨rfl, rfl⟩ := hn
 dsimp only at ha hb
 subst ha hb
 refine WJ.mk rfl ?_
 rw [← pcells_app] at h1
 exact ((h.st rfl).upd 0 rfl (.own u 122 2 (L.length + 1) (pcells (L ++ [x]))) h2 h1 h3).sub (.cons_cons _ (.cons _ (List.Sublist.refl _)))
theorem WJ.own (h : WJ w0 F K n L x p) (hn : p.2.c = none ∧ p.2.d = none) {v l : Value} (ha : p.2.a = some v) (hb : p.2.b = some l) : p.1.ownsRow w0.heap.size 122 2 v L.length (pcells L) ∧ p.1.ownsRow w0.heap.size 122 2 l 1 (pcells [x]) ∧ w0.heap.size ≤ p.1.heap.size := by
 obtain ⟨w, a, b, c, d, e⟩ := p
 obtain ⟨rfl, rfl⟩ := hn
 dsimp only at ha hb
 subst ha hb
 exact ⟨(h.st rfl).own 0 rfl, (h.st rfl).own 1 rfl, (h.st rfl).size⟩
theorem WJ.last (h : WJ w0 F K n L x p) (hd : p.2.d = none) {v : Value} (hc : p.2.c = some v) : St w0 p.1 (.own v 122 2 (L ++ [x]).length (pcells (L ++ [x])) :: F) K := by
 obtain ⟨w, a, b, c, d, e⟩ := p
 dsimp only at hd hc
 subst hd hc
 have := h.st rfl
 rw [List.length_append]
 exact this
end
theorem owith_any {w0 w : World} {F : List Fact} {K : (Nat → Prop) → World → Prop} (p : Value) (n : Nat) (L : List (Nat × Nat)) (a b : Nat) (hn : n ≤ 256) (hL : Inr n L) (hl : L.length ≤ 900000) (ha : a < n) (hb : b < n) (hS : St w0 w F K)
  (ko : ∀ D w, K D w → IsOrd w D p n L) (kt : ∀ D w, K D w → DTab w ∧ D 0) :
  Calls Tryz.prog 137 #[p, .int .i64 (a : Nat), .int .i64 (b : Nat)] w fun e w' =>
   ((a, b) ∈ L ∧ e = .returned (.tuple #[.pointer none, .int .i64 5]) ∧ St w0 w' F K) ∨ (a, b) ∉ L ∧ ∃ v, e = .returned v ∧ NewP w0 F K n (L ++ [(a, b)]) v w' := by
 have KS := hS.stable
 obtain ⟨q, gp, av, bv, sv, xa, xb, rfl, hX⟩ := ko _ _ hS.ro
 have hS := hS.add stable_ordX hX fun b h _ => h
 clear hX
 have HIN := Lib.hid (fun (c : Int) (w : World) (hc : 0 ≤ c ∧ c < (n : Int)) (h : OrdX q gp av bv sv xa xb n L (Free F) w) => show Calls Tryz.prog 143 #[.pointer (some ⟨q, 0, none⟩), .int .i64 c] w (Ret (fun x _ => x = .bool true) w) from by rw [← decide_eq_true hc]; exact oin_any h.ord _)
 have HCN := Lib.hid (fun (w : World) (h : OrdX q gp av bv sv xa xb n L (Free F) w) => show Calls Tryz.prog 150 #[.slice (some ⟨gp, 0, none⟩) L.length L.length, .agg #[.int .i64 (a : Nat), .int .i64 (b : Nat)]] w (Ret (fun r _ => r = .bool (decide ((a, b) ∈ L))) w) from pcontains_any (by omega) h.2.1 (a, b))
 have HL := Lib.hid hL
 clear hL
 go_enter Tryz.func137, Tryz.ntmps137
 go_wp2_with (first
  | ((with_reducible refine qB ?_); (first | refine q1 ?_ ?_ | refine q2 ?_ ?_ | refine q3 ?_ ?_ | refine q4 ?_ ?_ | refine q5 ?_ ?_ | refine q6 ?_ ?_) <;> intro h_ <;> go_prune)
  | (go_at_call 143; refine (HIN.out _ _ (by omega) hS.ro.2).mono ?_; rintro r_ w_ ⟨_, rfl, rfl, hb_⟩; replace hS := hS.ext hb_; clear hb_)
  | ((with_reducible refine qA 23 ?_); refine st_kcell hS rfl _ _ rfl _ rfl _ (fun D w h => h.2.1.cell 1 rfl) (by kernel_rfl) ?_)
  | (go_at_call 150; refine (HCN.out _ hS.ro.2).mono ?_; rintro r_ w_ ⟨_, rfl, rfl, hb_⟩; replace hS := hS.ext hb_; clear hb_; by_cases hx : (a, b) ∈ L <;> (first | rw [decide_eq_true hx] | rw [decide_eq_false hx])))
 ·go_ret2
  exact .inl ⟨hx, rfl, hS.mono KS fun _ _ h => h.1⟩
 ·obtain ⟨KX, k1, k2, hS⟩ : ∃ KX : (Nat → Prop) → World → Prop, (∀ D w, KX D w → K D w) ∧ (∀ D w, KX D w → OrdX q gp av bv sv xa xb n L D w) ∧ St w0 w_ F KX := ⟨_, fun _ _ h => h.1, fun _ _ h => h.2, hS⟩
  have hJ0 : WJ w0 F KX n L (a, b) (w_.drew, ⟨none, none, none, none, false⟩) := WJ.mk rfl hS.drew
  have hRr := @WR.refl w0 F KX n L (a, b)
  have hRt := @WR.trans w0 F KX n L (a, b)
  have hLx : Hid (Inr n (L ++ [(a, b)])) := Lib.hid fun y hy => by
   rcases List.mem_append.1 hy with h | h
   ·exact HL.out y h
   ·rw [List.mem_singleton] at h; subst h; exact ⟨ha, hb⟩
  replace ha := Lib.hid ha
  replace hb := Lib.hid hb
  clear HIN HCN
  refine wp_region_ghost (fun i__ v w => match i__ with
   | 0 => v = .pointer (some ⟨q, 0, none⟩)
   | 1 => v = .pointer (some ⟨q, 0, none⟩)
   | 2 => v = .pointer (some ⟨q, 0, none⟩)
   | 3 => w.2.e = true ∧ v = .int .i64 ((n : Nat) : Int)
   | 4 => v = .pointer (some ⟨q, 0, none⟩)
   | 5 => w.2.a = some v
   | 6 => v = .int .i64 ((a : Nat) : Int)
   | 7 => v = .int .i64 ((b : Nat) : Int)
   | 8 => v = .agg #[.int .i64 ((a : Nat) : Int), .int .i64 ((b : Nat) : Int)]
   | 9 => w.2.b = some v
   | 10 => w.2.c = some v
   | 11 => w.2.d = some v ∧ ∃ (p : Value) (e : Int), v = .tuple #[p, .int .i64 e]
   | 12 => ∃ (p : Value) (e : Int), w.2.d = some (.tuple #[p, .int .i64 e]) ∧ v = p
   | 13 => ∃ (p : Value) (e : Int), w.2.d = some (.tuple #[p, .int .i64 e]) ∧ v = .int .i64 e
   | 14 => ∃ (p : Value) (e : Int), w.2.d = some (.tuple #[p, .int .i64 e]) ∧ v = p
   | 15 => ∃ (p : Value) (e : Int), w.2.d = some (.tuple #[p, .int .i64 e]) ∧ v = .int .i64 e
   | _ => True) (WR w0 F KX n L (a, b)) (fun i p => match i with | 3 => p.2.e = false ∧ p.2.d = none | 5 => p.2.a = none ∧ p.2.c = none ∧ p.2.d = none | 9 => p.2.b = none ∧ p.2.c = none ∧ p.2.d = none | 10 => p.2.c = none ∧ p.2.d = none | 11 => p.2.d = none | _ => True) (⟨none, none, none, none, false⟩) (by kernel_rfl) (by kernel_rfl) hRr hRt ?mono ?hN ⟨?r0, ?r1, ?r2, ?r3, ?r4, ?r5, ?r6, ?r7, ?r8, ?r9, ?r10, ?r11, ?r12, ?r13, ?r14, ?r15, trivial⟩ ?post
  case hN => first | assumption | (intro i; (try dsimp only); split <;> first | trivial | assumption | (left; assumption))
  case mono =>
   intro i v w w' h hb
   match i, h with
   | 0, h | 1, h | 2, h => exact h
   | 3, h => exact ⟨hb.2.2.2.2.2 h.1, h.2⟩
   | 4, h => exact h
   | 5, h => exact hb.2.1 _ h
   | 6, h | 7, h | 8, h => exact h
   | 9, h => exact hb.2.2.1 _ h
   | 10, h => exact hb.2.2.2.1 _ h
   | 11, h => exact ⟨hb.2.2.2.2.1 _ h.1, h.2⟩
   | 12, h => exact by obtain ⟨p, e, h1, h2⟩ := h; exact ⟨p, e, hb.2.2.2.2.1 _ h1, h2⟩
   | 13, h => exact by obtain ⟨p, e, h1, h2⟩ := h; exact ⟨p, e, hb.2.2.2.2.1 _ h1, h2⟩
   | 14, h => exact by obtain ⟨p, e, h1, h2⟩ := h; exact ⟨p, e, hb.2.2.2.2.1 _ h1, h2⟩
   | 15, h => exact by obtain ⟨p, e, h1, h2⟩ := h; exact ⟨p, e, hb.2.2.2.2.1 _ h1, h2⟩
   | _ + 16, h => trivial
  case r0 =>
   refine truleGh fun b__ w hW hN hold hpre => wU rfl fun K hK => ?_
   have e0 : b__.eval (.tmp 0) = .pointer (some ⟨q, 0, none⟩) := (hold 0 (by kernel_rfl)).trans rfl
   exact opw_move rfl e0 (hK _ _ rfl ⟨hRr _, fun _ _ h => h⟩)
  case r1 =>
   refine truleGh fun b__ w hW hN hold hpre => wU rfl fun K hK => ?_
   have e28 : b__.eval (.tmp 28) = .pointer (some ⟨q, 0, none⟩) := pq hpre 0 0 28
   exact opw_nil rfl e28 (hK _ _ rfl ⟨hRr _, fun _ _ h => h⟩)
  case r2 =>
   refine truleGh fun b__ w hW hN hold hpre => wU rfl fun K hK => ?_
   have e29 : b__.eval (.tmp 29) = .pointer (some ⟨q, 0, none⟩) := pq hpre 0 1 29
   exact opw_faddr rfl e29 (by kernel_rfl) (hK _ _ rfl ⟨hRr _, fun _ _ h => h⟩)
  case r3 =>
   refine truleGh fun b__ w hW hN hold hpre => wU rfl fun K hK => ?_
   have e30 : b__.eval (.tmp 30) = .pointer (some ⟨q, 0, none⟩) := pq hpre 0 2 30
   exact opw_cell rfl e30 (by kernel_rfl) ((k2 _ _ ((hW.1 hJ0).st hN.2).ro).1.cell 0 rfl) (hK (.int .i64 (n : Nat)) (w.1, { w.2 with e := true }) ⟨rfl, rfl⟩ ⟨⟨fun hj => hj, (fun _ h => h), (fun _ h => h), (fun _ h => h), (fun _ h => h), (fun _ => rfl)⟩, fun j hj hn => by split <;> first | exact absurd rfl hj | exact hn | trivial⟩)
  case r4 =>
   refine truleGh fun b__ w hW hN hold hpre => wU rfl fun K hK => ?_
   have e0 : b__.eval (.tmp 0) = .pointer (some ⟨q, 0, none⟩) := (hold 0 (by kernel_rfl)).trans rfl
   exact opw_move rfl e0 (hK _ _ rfl ⟨hRr _, fun _ _ h => h⟩)
  case r5 =>
   refine truleGh fun b__ w hW hN hold hpre => wU rfl fun K hK => ?_
   have e32 : b__.eval (.tmp 32) = .pointer (some ⟨q, 0, none⟩) := pq hpre 0 4 32
   exact opw_callw rfl (by kernel_rfl) (by simp only [List.map_cons, List.map_nil, e32]) (opairs_any (k2 _ _ ((hW.1 hJ0).st hN.2.2).ro).ord (by omega)) fun e w' ⟨v, he, hs⟩ => ⟨v, he, hK v (w', { w.2 with a := some v }) rfl ⟨⟨fun hj => hj.mkA hN hs, (fun g h => by rw [hN.1] at h; cases h), (fun _ h => h), (fun _ h => h), (fun _ h => h), id⟩, fun j hj hn => by split <;> first | exact absurd rfl hj | exact hn | trivial⟩⟩
  case r6 =>
   refine truleGh fun b__ w hW hN hold hpre => wU rfl fun K hK => ?_
   have e1 : b__.eval (.tmp 1) = .int .i64 ((a : Nat) : Int) := (hold 1 (by kernel_rfl)).trans rfl
   exact opw_move rfl e1 (hK _ _ rfl ⟨hRr _, fun _ _ h => h⟩)
  case r7 =>
   refine truleGh fun b__ w hW hN hold hpre => wU rfl fun K hK => ?_
   have e2 : b__.eval (.tmp 2) = .int .i64 ((b : Nat) : Int) := (hold 2 (by kernel_rfl)).trans rfl
   exact opw_move rfl e2 (hK _ _ rfl ⟨hRr _, fun _ _ h => h⟩)
  case r8 =>
   refine truleGh fun b__ w hW hN hold hpre => wU rfl fun K hK => ?_
   have e34 : b__.eval (.tmp 34) = .int .i64 ((a : Nat) : Int) := pq hpre 0 6 34
   have e35 : b__.eval (.tmp 35) = .int .i64 ((b : Nat) : Int) := pq hpre 1 7 35
   exact opw_built rfl (ps := [(0, .int .i64 ((a : Nat) : Int)), (1, .int .i64 ((b : Nat) : Int))]) (cells := #[.int .i64 ((a : Nat) : Int), .int .i64 ((b : Nat) : Int)]) (by simp [e34, e35]) (by kernel_rfl) (hK _ _ rfl ⟨hRr _, fun _ _ h => h⟩)
  case r9 =>
   refine truleGh fun b__ w hW hN hold hpre => wU rfl fun K hK => ?_
   have e36 : b__.eval (.tmp 36) = .agg #[.int .i64 ((a : Nat) : Int), .int .i64 ((b : Nat) : Int)] := pq hpre 0 8 36
   exact opw_slice rfl Tryz.underlying32 (ps := [(0, .agg #[.int .i64 ((a : Nat) : Int), .int .i64 ((b : Nat) : Int)])]) (cells := #[.int .i64 ((a : Nat) : Int), .int .i64 ((b : Nat) : Int)]) (by simp [e36]) (by kernel_rfl) fun w' hbx hbel => hK _ (w', { w.2 with b := some (.slice (some ⟨w.1.heap.size, 0, none⟩) 1 1) }) rfl ⟨⟨fun hj => hj.mkB hN hbel hbx, (fun _ h => h), (fun g h => by rw [hN.1] at h; cases h), (fun _ h => h), (fun _ h => h), id⟩, fun j hj hn => by split <;> first | exact absurd rfl hj | exact hn | trivial⟩
  case r10 =>
   refine truleGh fun b__ w hW hN hold hpre => wU rfl fun K hK => ?_
   have e33 : (fun (v : Value) (w : World × _) => w.2.a = some v) (b__.eval (.tmp 33)) w := hpre ⟨5, _⟩ (Array.mem_of_getElem? (i := 0) rfl) rfl _ _ rfl rfl
   have e37 : (fun (v : Value) (w : World × _) => w.2.b = some v) (b__.eval (.tmp 37)) w := hpre ⟨9, _⟩ (Array.mem_of_getElem? (i := 1) rfl) rfl _ _ rfl rfl
   obtain ⟨o1, o2, o3⟩ := (hW.1 hJ0).own hN e33 e37
   exact opw_app (n := L.length) (m := 1) rfl ty_pairs rfl o1 rfl (Sl.of_own o2) (pcells_one _) (by omega) (by omega) o3 fun v' w' a1 a2 a3 => hK v' (w', { w.2 with c := some v' }) rfl ⟨⟨fun hj => hj.mkC hN e33 e37 a1 a2 a3, (fun _ h => h), (fun _ h => h), (fun g h => by rw [hN.1] at h; cases h), (fun _ h => h), id⟩, fun j hj hn => by split <;> first | exact absurd rfl hj | exact hn | exact absurd (hn.1.symm.trans e33) nofun | exact absurd (hn.1.symm.trans e37) nofun | trivial⟩
  case r11 =>
   refine truleGh fun b__ w hW hN hold hpre => wU rfl fun K hK => ?_
   have e31 : (fun (v : Value) (w : World × _) => w.2.e = true ∧ v = .int .i64 ((n : Nat) : Int)) (b__.eval (.tmp 31)) w := hpre ⟨3, _⟩ (Array.mem_of_getElem? (i := 0) rfl) rfl _ _ rfl rfl
   have e38 : (fun (v : Value) (w : World × _) => w.2.c = some v) (b__.eval (.tmp 38)) w := hpre ⟨10, _⟩ (Array.mem_of_getElem? (i := 1) rfl) rfl _ _ rfl rfl
   refine opw_callw rfl (by kernel_rfl) (by simp only [List.map_cons, List.map_nil, e31.2]) (onew_own n (L ++ [(a, b)]) _ hn hLx.out (by simp; omega) ((hW.1 hJ0).last hN e38) (fun D w h => kt D w (k1 D w h))) fun e w' h => ?_
   obtain ⟨v, he, hP⟩ := h
   exact ⟨v, he, hK v (w', { w.2 with d := some v }) ⟨rfl, hP.shape⟩ ⟨⟨fun _ => hP, (fun _ h => h), (fun _ h => h), (fun _ h => h), (fun g h => by rw [hN] at h; cases h), id⟩, fun j hj hn => by split <;> first | exact absurd rfl hj | exact hn | exact absurd (hn.1.symm.trans e31.1) nofun | exact absurd (hn.2.1.symm.trans e38) nofun | exact absurd (hn.1.symm.trans e38) nofun | trivial⟩⟩
  case r12 =>
   refine truleGh fun b__ w hW hN hold hpre => wU rfl fun K hK => ?_
   have e39 : (fun (v : Value) (w : World × _) => w.2.d = some v ∧ ∃ (p : Value) (e : Int), v = .tuple #[p, .int .i64 e]) (b__.eval (.tmp 39)) w := hpre ⟨11, _⟩ (Array.mem_of_getElem? (i := 0) rfl) rfl _ _ rfl rfl
   obtain ⟨hd, p, e, hv⟩ := e39
   rw [hv] at hd
   exact opw_extract rfl hv rfl (hK _ _ ⟨p, e, hd, rfl⟩ ⟨hRr _, fun _ _ h => h⟩)
  case r13 =>
   refine truleGh fun b__ w hW hN hold hpre => wU rfl fun K hK => ?_
   have e39 : (fun (v : Value) (w : World × _) => w.2.d = some v ∧ ∃ (p : Value) (e : Int), v = .tuple #[p, .int .i64 e]) (b__.eval (.tmp 39)) w := hpre ⟨11, _⟩ (Array.mem_of_getElem? (i := 0) rfl) rfl _ _ rfl rfl
   obtain ⟨hd, p, e, hv⟩ := e39
   rw [hv] at hd
   exact opw_extract rfl hv rfl (hK _ _ ⟨p, e, hd, rfl⟩ ⟨hRr _, fun _ _ h => h⟩)
  case r14 =>
   refine truleGh fun b__ w hW hN hold hpre => wU rfl fun K hK => ?_
   have e40 : (fun (v : Value) (w : World × _) => ∃ (p : Value) (e : Int), w.2.d = some (.tuple #[p, .int .i64 e]) ∧ v = p) (b__.eval (.tmp 40)) w := hpre ⟨12, _⟩ (Array.mem_of_getElem? (i := 0) rfl) rfl _ _ rfl rfl
   exact opw_assign rfl rfl (hK _ _ e40 ⟨hRr _, fun _ _ h => h⟩)
  case r15 =>
   refine truleGh fun b__ w hW hN hold hpre => wU rfl fun K hK => ?_
   have e41 : (fun (v : Value) (w : World × _) => ∃ (p : Value) (e : Int), w.2.d = some (.tuple #[p, .int .i64 e]) ∧ v = .int .i64 e) (b__.eval (.tmp 41)) w := hpre ⟨13, _⟩ (Array.mem_of_getElem? (i := 0) rfl) rfl _ _ rfl rfl
   exact opw_assign rfl rfl (hK _ _ e41 ⟨hRr _, fun _ _ h => h⟩)
  case post =>
   intro b__ wz hW hdf hsz hold hT hZ
   have e28 : b__.eval (.tmp 28) = .pointer (some ⟨q, 0, none⟩) := hT 0 _ 28 rfl rfl
   have e29 : b__.eval (.tmp 29) = .pointer (some ⟨q, 0, none⟩) := hT 1 _ 29 rfl rfl
   have e30 : b__.eval (.tmp 30) = .pointer (some ⟨q, 0, none⟩) := hT 2 _ 30 rfl rfl
   have e31 : (fun (v : Value) (w : World × _) => w.2.e = true ∧ v = .int .i64 ((n : Nat) : Int)) (b__.eval (.tmp 31)) wz := hT 3 _ 31 rfl rfl
   have e32 : b__.eval (.tmp 32) = .pointer (some ⟨q, 0, none⟩) := hT 4 _ 32 rfl rfl
   have e33 : (fun (v : Value) (w : World × _) => w.2.a = some v) (b__.eval (.tmp 33)) wz := hT 5 _ 33 rfl rfl
   have e34 : b__.eval (.tmp 34) = .int .i64 ((a : Nat) : Int) := hT 6 _ 34 rfl rfl
   have e35 : b__.eval (.tmp 35) = .int .i64 ((b : Nat) : Int) := hT 7 _ 35 rfl rfl
   have e36 : b__.eval (.tmp 36) = .agg #[.int .i64 ((a : Nat) : Int), .int .i64 ((b : Nat) : Int)] := hT 8 _ 36 rfl rfl
   have e37 : (fun (v : Value) (w : World × _) => w.2.b = some v) (b__.eval (.tmp 37)) wz := hT 9 _ 37 rfl rfl
   have e38 : (fun (v : Value) (w : World × _) => w.2.c = some v) (b__.eval (.tmp 38)) wz := hT 10 _ 38 rfl rfl
   have e39 : (fun (v : Value) (w : World × _) => w.2.d = some v ∧ ∃ (p : Value) (e : Int), v = .tuple #[p, .int .i64 e]) (b__.eval (.tmp 39)) wz := hT 11 _ 39 rfl rfl
   have e40 : (fun (v : Value) (w : World × _) => ∃ (p : Value) (e : Int), w.2.d = some (.tuple #[p, .int .i64 e]) ∧ v = p) (b__.eval (.tmp 40)) wz := hT 12 _ 40 rfl rfl
   have e41 : (fun (v : Value) (w : World × _) => ∃ (p : Value) (e : Int), w.2.d = some (.tuple #[p, .int .i64 e]) ∧ v = .int .i64 e) (b__.eval (.tmp 41)) wz := hT 13 _ 41 rfl rfl
   have e6 : (fun (v : Value) (w : World × _) => ∃ (p : Value) (e : Int), w.2.d = some (.tuple #[p, .int .i64 e]) ∧ v = p) (b__.eval (.tmp 6)) wz := hT 14 _ 6 rfl rfl
   have e7 : (fun (v : Value) (w : World × _) => ∃ (p : Value) (e : Int), w.2.d = some (.tuple #[p, .int .i64 e]) ∧ v = .int .i64 e) (b__.eval (.tmp 7)) wz := hT 15 _ 7 rfl rfl
   obtain ⟨vs, hvs, hb⟩ := frame_of hdf hsz hold
   replace e28 : vs 28 = .pointer (some ⟨q, 0, none⟩) := (hvs 28).symm.trans e28
   replace e29 : vs 29 = .pointer (some ⟨q, 0, none⟩) := (hvs 29).symm.trans e29
   replace e30 : vs 30 = .pointer (some ⟨q, 0, none⟩) := (hvs 30).symm.trans e30
   replace e31 := (hvs 31) ▸ e31
   replace e32 : vs 32 = .pointer (some ⟨q, 0, none⟩) := (hvs 32).symm.trans e32
   replace e33 := (hvs 33) ▸ e33
   replace e34 : vs 34 = .int .i64 ((a : Nat) : Int) := (hvs 34).symm.trans e34
   replace e35 : vs 35 = .int .i64 ((b : Nat) : Int) := (hvs 35).symm.trans e35
   replace e36 : vs 36 = .agg #[.int .i64 ((a : Nat) : Int), .int .i64 ((b : Nat) : Int)] := (hvs 36).symm.trans e36
   replace e37 := (hvs 37) ▸ e37
   replace e38 := (hvs 38) ▸ e38
   replace e39 := (hvs 39) ▸ e39
   replace e40 := (hvs 40) ▸ e40
   replace e41 := (hvs 41) ▸ e41
   replace e6 := (hvs 6) ▸ e6
   replace e7 := (hvs 7) ▸ e7
   subst hb
   clear hvs hold hT hdf hsz
   simp only [setAll, Act.put, List.setIfInBounds_toArray, List.set_cons_zero, List.set_cons_succ, List.getElem_toArray, List.getElem_cons_succ, List.getElem_cons_zero]
   obtain ⟨r1, z1, hd1, e6⟩ := e6
   obtain ⟨r2, z2, hd2, e7⟩ := e7
   rw [hd1] at hd2
   obtain ⟨rfl, rfl⟩ : r1 = r2 ∧ z1 = z2 := by simpa using hd2
   have hJ := hW.1 hJ0
   unfold WJ at hJ
   rw [hd1] at hJ
   have hP := hJ.mono KS k1
   rw [e6, e7]
   generalize wz.1 = wf at *
   clear hJ hJ0 hRr hRt hW hZ hd1 hd2 e6 e7
   go_wp2_with fail
   go_ret2
   exact ⟨_, rfl, hP⟩
end Go.Proofs.YtihpgmbinhmmlaaGreatDoor
namespace Go.Proofs.YtihpgmbinhmmlaaGreatDoor
open Go.RowKit
attribute [local go_sem ↓] Go.wp_at_zero Go.wp_at_succ
set_option maxRecDepth 20000
set_option exponentiation.threshold 5000

theorem role_any (r : Int) (w : World) : Calls Tryz.prog 117 #[.int .i64 r] w (Ret (fun x _ => x = .bool (decide (1 ≤ r ∧ r ≤ 63))) w) := by
 by_cases h1 : 1 ≤ r
 ·by_cases h2 : r ≤ 63
  ·have HR := Lib.hid (show decide (1 ≤ r ∧ r ≤ 63) = true by simp [h1, h2])
   generalize decide (1 ≤ r ∧ r ≤ 63) = R at *
   go_enter Tryz.func117, Tryz.ntmps117
   go_wp2_with (first | ((with_reducible refine qB ?_); (first | refine q1 ?_ ?_ | refine q2 ?_ ?_ | refine q3 ?_ ?_ | refine q4 ?_ ?_ | refine q5 ?_ ?_ | refine q6 ?_ ?_) <;> intro h_ <;> go_prune))
   go_ret
   exact Ret.mk (congrArg Value.bool HR.out.symm) (Below.refl _ _)
  ·have HR := Lib.hid (show decide (1 ≤ r ∧ r ≤ 63) = false by simp [h2])
   generalize decide (1 ≤ r ∧ r ≤ 63) = R at *
   go_enter Tryz.func117, Tryz.ntmps117
   go_wp2_with (first | ((with_reducible refine qB ?_); (first | refine q1 ?_ ?_ | refine q2 ?_ ?_ | refine q3 ?_ ?_ | refine q4 ?_ ?_ | refine q5 ?_ ?_ | refine q6 ?_ ?_) <;> intro h_ <;> go_prune))
   go_ret
   exact Ret.mk (congrArg Value.bool HR.out.symm) (Below.refl _ _)
 ·have HR := Lib.hid (show decide (1 ≤ r ∧ r ≤ 63) = false by simp [h1])
  generalize decide (1 ≤ r ∧ r ≤ 63) = R at *
  go_enter Tryz.func117, Tryz.ntmps117
  go_wp2_with (first | ((with_reducible refine qB ?_); (first | refine q1 ?_ ?_ | refine q2 ?_ ?_ | refine q3 ?_ ?_ | refine q4 ?_ ?_ | refine q5 ?_ ?_ | refine q6 ?_ ?_) <;> intro h_ <;> go_prune))
  go_ret
  exact Ret.mk (congrArg Value.bool HR.out.symm) (Below.refl _ _)
def HierX (q : Nat) (o : Value) (L : List (Nat × Nat)) (D : Nat → Prop) (w : World) : Prop := IsBox w D q #[o] ∧ IsOrd w D o 64 L
theorem stable_hierX {q : Nat} {o : Value} {L : List (Nat × Nat)} : Stable (HierX q o L) := stable_isBox.and stable_ord
def IsH (w : World) (D : Nat → Prop) (p : Value) (L : List (Nat × Nat)) : Prop := ∃ (q : Nat) (o : Value), p = .pointer (some ⟨q, 0, none⟩) ∧ HierX q o L D w
theorem stable_isH {p : Value} {L : List (Nat × Nat)} : Stable fun D w => IsH w D p L := fun D D' w w' h a b c => by
 obtain ⟨q, o, h1, h2⟩ := h
 exact ⟨q, o, h1, stable_hierX D D' w w' h2 a b c⟩
structure HOK (L : List (Nat × Nat)) : Prop where
 asc : Asc L
 role : ∀ x ∈ L, (1 ≤ x.1 ∧ x.1 < 64) ∧ 1 ≤ x.2 ∧ x.2 < 64
 acyc : Acyc L
theorem HOK.inr {L : List (Nat × Nat)} (h : HOK L) : Inr 64 L := fun x hx => ⟨(h.role x hx).1.2, (h.role x hx).2.2⟩
theorem HOK.nil : HOK [] := ⟨.nil, by simp, fun a h => by obtain ⟨y, h, _⟩ := h.first; simp at h⟩
theorem hnew_any {w0 w : World} {F : List Fact} {K : (Nat → Prop) → World → Prop} (hS : St w0 w F K) (kt : ∀ D w, K D w → DTab w ∧ D 0) :
  Calls Tryz.prog 51 #[] w fun e w' => ∃ p, e = .returned p ∧ St w0 w' F fun D w => K D w ∧ IsH w D p [] := by
 have KS := hS.stable
 have HN := Lib.hid (onew_any 64 [] (.slice none 0 0) (by omega) (by intro x hx; simp at hx) (by simp) hS (fun D w _ => ⟨rfl, none, 0, rfl, by simp, by simp, fun h => by simp at h⟩) kt)
 clear hS
 go_enter Tryz.func51, Tryz.ntmps51
 go_wp2_with (first
  | (go_at_call 97; refine HN.out.mono ?_; rintro e w_ (⟨h1, -, -⟩ | ⟨p, L, rfl, hA, hm, hc, hS⟩); · exact absurd HOK.nil.acyc h1
     obtain rfl : L = [] := by
       cases L with
       | nil => rfl
       | cons x r => exact absurd ((hm x).1 (by simp)) (by simp)
     clear hA hm hc
     obtain ⟨qo, _, _, _, _, _, _, rfl, -⟩ := hS.ro.2)
  | ((with_reducible refine qA 9 ?_); refine st_box hS rfl _ _ rfl (.agg #[.pointer (some ⟨qo, 0, none⟩)]) _ rfl rfl ?_; clear hS; intro q w_ hS; (try simp only [Act.put, Act.eval, z1, z2, z3, z4, z5, z6, z7, z8, Value.cells] at hS)))
 go_ret
 exact ⟨_, rfl, (hS.sealB 0 (by simp) rfl).mono (KS.and stable_isH) fun D w h => ⟨h.1.1, q, _, rfl, h.2, h.1.2⟩⟩
theorem hlinks_any {w0 : World} {D : Nat → Prop} {p : Value} {L : List (Nat × Nat)} (h : IsH w0 D p L) (hl : L.length ≤ 1000000) : Calls Tryz.prog 79 #[p] w0 fun e w' => ∃ v, e = .returned v ∧ St w0 w' [.own v 122 2 L.length (pcells L)] fun _ _ => True := by
 obtain ⟨q, o, rfl, hb, ho⟩ := h
 have k0 := Lib.hid (hb.cell 0 (x := o) rfl)
 have HC := Lib.hid (opairs_any ho hl)
 clear hb ho
 go_enter Tryz.func79, Tryz.ntmps79
 go_wp2_with (first
  | ((with_reducible refine qB ?_); (first | refine q1 ?_ ?_ | refine q2 ?_ ?_ | refine q3 ?_ ?_ | refine q4 ?_ ?_ | refine q5 ?_ ?_ | refine q6 ?_ ?_) <;> intro h_ <;> go_prune)
  | ((with_reducible refine qK ?_); refine BigFrame.wpList_want rfl fun _ hK => opw_cell rfl rfl (by kernel_rfl) k0.out (hK _ _ ?_))
  | (go_at_call 120; refine HC.out.mono ?_; rintro e w_ ⟨v, rfl, hS⟩))
 go_ret
 exact ⟨v, rfl, hS⟩
def LinkP (w0 : World) (F : List Fact) (K : (Nat → Prop) → World → Prop) (L : List (Nat × Nat)) (a b : Int) (r : Value) (z : Int) (w : World) : Prop :=
 (¬ ((1 ≤ a ∧ a ≤ 63) ∧ (1 ≤ b ∧ b ≤ 63) ∧ a ≠ b) ∧ r = .pointer none ∧ z = 1 ∧ St w0 w F K) ∨
 ∃ x y : Nat, a = (x : Int) ∧ b = (y : Int) ∧ (1 ≤ x ∧ x < 64) ∧ (1 ≤ y ∧ y < 64) ∧ x ≠ y ∧
  (((x, y) ∈ L ∧ r = .pointer none ∧ z = 5 ∧ St w0 w F K) ∨ ((x, y) ∉ L ∧ ¬ Acyc (L ++ [(x, y)]) ∧ r = .pointer none ∧ z = 16 ∧ St w0 w F K) ∨
   ((x, y) ∉ L ∧ z = 0 ∧ ∃ L' : List (Nat × Nat), HOK L' ∧ (∀ u, u ∈ L' ↔ u ∈ L ++ [(x, y)]) ∧ St w0 w F fun D w => K D w ∧ IsH w D r L'))
theorem hlink_any {w0 w : World} {F : List Fact} {K : (Nat → Prop) → World → Prop} (p : Value) (L : List (Nat × Nat)) (a b : Int) (hH : HOK L) (hl : L.length ≤ 900000) (hS : St w0 w F K)
  (ko : ∀ D w, K D w → IsH w D p L) (kt : ∀ D w, K D w → DTab w ∧ D 0) :
  Calls Tryz.prog 103 #[p, .int .i64 a, .int .i64 b] w fun e w' => ∃ (r : Value) (z : Int), e = .returned (.tuple #[r, .int .i64 z]) ∧ LinkP w0 F K L a b r z w' := by
 have KS := hS.stable
 obtain ⟨q, o, rfl, hX⟩ := ko _ _ hS.ro
 have hS := hS.add stable_hierX hX fun b h _ => h
 clear hX
 have HH := Lib.hid hH
 clear hH
 by_cases hra : 1 ≤ a ∧ a ≤ 63
 ·have HRA := Lib.hid (decide_eq_true hra)
  by_cases hrb : 1 ≤ b ∧ b ≤ 63
  ·have HRB := Lib.hid (decide_eq_true hrb)
   by_cases hab : a = b
   ·subst hab
    have HNO : Hid (¬ ((1 ≤ a ∧ a ≤ 63) ∧ (1 ≤ a ∧ a ≤ 63) ∧ a ≠ a)) := Lib.hid fun h => h.2.2 rfl
    clear hra hrb
    go_enter Tryz.func103, Tryz.ntmps103
    go_wp2_with (first
     | ((with_reducible refine qB ?_); (first | refine q1 ?_ ?_ | refine q2 ?_ ?_ | refine q3 ?_ ?_ | refine q4 ?_ ?_ | refine q5 ?_ ?_ | refine q6 ?_ ?_) <;> intro h_ <;> go_prune)
     | (go_at_call 117; refine (role_any _ _).mono ?_; (first | rw [HRA.out] | rw [HRB.out]); rintro r_ w_ ⟨_, rfl, rfl, hb_⟩; replace hS := hS.ext hb_; clear hb_))
    go_ret2
    exact ⟨_, _, rfl, .inl ⟨HNO.out, rfl, rfl, hS.mono KS fun _ _ h => h.1⟩⟩
   ·obtain ⟨x, rfl⟩ : ∃ x : Nat, a = (x : Int) := ⟨a.toNat, by omega⟩
    obtain ⟨y, rfl⟩ : ∃ y : Nat, b = (y : Int) := ⟨b.toNat, by omega⟩
    have hx1 : Hid (1 ≤ x ∧ x < 64) := Lib.hid (by omega)
    have hy1 : Hid (1 ≤ y ∧ y < 64) := Lib.hid (by omega)
    have hxy : Hid (x ≠ y) := Lib.hid (by omega)
    clear hra hrb
    have HW := Lib.hid (fun (w : World) (h : St w0 w F fun D w => K D w ∧ HierX q o L D w) => owith_any o 64 L x y (by omega) HH.out.inr hl hx1.out.2 hy1.out.2 h (fun D w h => h.2.2) (fun D w h => kt D w h.1))
    go_enter Tryz.func103, Tryz.ntmps103
    go_wp2_with (first
     | ((with_reducible refine qB ?_); (first | refine q1 ?_ ?_ | refine q2 ?_ ?_ | refine q3 ?_ ?_ | refine q4 ?_ ?_ | refine q5 ?_ ?_ | refine q6 ?_ ?_) <;> intro h_ <;> go_prune)
     | (go_at_call 117; refine (role_any _ _).mono ?_; (first | rw [HRA.out] | rw [HRB.out]); rintro r_ w_ ⟨_, rfl, rfl, hb_⟩; replace hS := hS.ext hb_; clear hb_)
     | ((with_reducible refine qK ?_); refine st_kcell hS rfl _ _ rfl _ rfl _ (fun D w h => h.2.1.cell 0 rfl) (by kernel_rfl) ?_)
     | (go_at_call 137; refine (HW.out _ hS).mono ?_; rintro e w_ (⟨hm, rfl, hS⟩ | ⟨hm, v, rfl, (⟨hc, rfl, hS⟩ | ⟨pp, L', rfl, hA, hmm, hc, hS⟩)⟩) <;> (try obtain ⟨qo, _, _, _, _, _, _, rfl, -⟩ := hS.ro.2))
     | ((with_reducible refine qA 42 ?_); refine st_box hS rfl _ _ rfl (.agg #[.pointer (some ⟨qo, 0, none⟩)]) _ rfl rfl ?_; clear hS; intro g w_ hS; (try simp only [Act.put, Act.eval, z1, z2, z3, z4, z5, z6, z7, z8, Value.cells] at hS)))
    ·go_ret2
     exact ⟨_, _, rfl, .inr ⟨x, y, rfl, rfl, hx1.out, hy1.out, hxy.out, .inl ⟨hm, rfl, rfl, hS.mono KS fun _ _ h => h.1⟩⟩⟩
    ·go_ret2
     exact ⟨_, _, rfl, .inr ⟨x, y, rfl, rfl, hx1.out, hy1.out, hxy.out, .inr (.inl ⟨hm, hc, rfl, rfl, hS.mono KS fun _ _ h => h.1⟩)⟩⟩
    ·go_ret2
     refine ⟨_, _, rfl, .inr ⟨x, y, rfl, rfl, hx1.out, hy1.out, hxy.out, .inr (.inr ⟨hm, rfl, L', ⟨hA, fun u hu => ?_, hc⟩, hmm, (hS.sealB 0 (by simp) rfl).mono (KS.and stable_isH) fun D w h => ⟨h.1.1.1, g, _, rfl, h.2, h.1.2⟩⟩)⟩⟩
     rcases List.mem_append.1 ((hmm u).1 hu) with h | h
     ·exact HH.out.role u h
     ·rw [List.mem_singleton] at h; subst h; exact ⟨hx1.out, hy1.out⟩
  ·have HRB := Lib.hid (decide_eq_false hrb)
   have HNO : Hid (¬ ((1 ≤ a ∧ a ≤ 63) ∧ (1 ≤ b ∧ b ≤ 63) ∧ a ≠ b)) := Lib.hid fun h => hrb h.2.1
   clear hra hrb
   go_enter Tryz.func103, Tryz.ntmps103
   go_wp2_with (first
    | ((with_reducible refine qB ?_); (first | refine q1 ?_ ?_ | refine q2 ?_ ?_ | refine q3 ?_ ?_ | refine q4 ?_ ?_ | refine q5 ?_ ?_ | refine q6 ?_ ?_) <;> intro h_ <;> go_prune)
    | (go_at_call 117; refine (role_any _ _).mono ?_; (first | rw [HRA.out] | rw [HRB.out]); rintro r_ w_ ⟨_, rfl, rfl, hb_⟩; replace hS := hS.ext hb_; clear hb_))
   go_ret2
   exact ⟨_, _, rfl, .inl ⟨HNO.out, rfl, rfl, hS.mono KS fun _ _ h => h.1⟩⟩
 ·have HRA := Lib.hid (decide_eq_false hra)
  have HRB := HRA
  have HNO : Hid (¬ ((1 ≤ a ∧ a ≤ 63) ∧ (1 ≤ b ∧ b ≤ 63) ∧ a ≠ b)) := Lib.hid fun h => hra h.1
  clear hra
  go_enter Tryz.func103, Tryz.ntmps103
  go_wp2_with (first
   | ((with_reducible refine qB ?_); (first | refine q1 ?_ ?_ | refine q2 ?_ ?_ | refine q3 ?_ ?_ | refine q4 ?_ ?_ | refine q5 ?_ ?_ | refine q6 ?_ ?_) <;> intro h_ <;> go_prune)
   | (go_at_call 117; refine (role_any _ _).mono ?_; (first | rw [HRA.out] | rw [HRB.out]); rintro r_ w_ ⟨_, rfl, rfl, hb_⟩; replace hS := hS.ext hb_; clear hb_))
  go_ret2
  exact ⟨_, _, rfl, .inl ⟨HNO.out, rfl, rfl, hS.mono KS fun _ _ h => h.1⟩⟩
end Go.Proofs.YtihpgmbinhmmlaaGreatDoor
namespace Go.Proofs.YtihpgmbinhmmlaaGreatDoor
open Go.RowKit
attribute [local go_sem ↓] Go.wp_at_zero Go.wp_at_succ
set_option maxRecDepth 20000
set_option exponentiation.threshold 5000

noncomputable def senM (L : List (Nat × Nat)) (r : Nat) : Nat := aboveM 64 L r ||| 2 ^ r
theorem tb_sen {L : List (Nat × Nat)} (hL : Inr 64 L) {r j : Nat} : (senM L r).testBit j = true ↔ j = r ∨ TC L j r := by
 unfold senM
 rw [tb_or, tb_above hL, tb_pow, Or.comm]
theorem withN_nat {N r : Nat} (h : r < 64) : withN N (r : Int) = N ||| 2 ^ r := by
 unfold withN
 rw [if_pos (by omega), Int.toNat_natCast]
theorem free1 {w0 w : World} {g z : Nat} {t : TypeId} {cs : Array Value} {K : (Nat → Prop) → World → Prop} (h : St w0 w [.box g t cs] K) (hz : z < w0.heap.size) : Free [.box g t cs] z := fun f hf e => by
 rw [List.mem_singleton] at hf
 subst hf
 have := Fact.ge (h.holds _ (List.mem_singleton.2 rfl)) e
 omega
theorem stable_inter {r : (Nat → Prop) → World → Prop} (hr : Stable r) (E : Nat → Prop) : Stable fun D w => r (fun z => D z ∧ E z) w := fun D D' w w' h a b c =>
 hr _ _ w w' h a (fun p x hp => b p x hp.1) fun z hz h1 h2 => ⟨c z hz.1 h1 h2, hz.2⟩
theorem hjun_any {w0 : World} {D : Nat → Prop} {p : Value} {L : List (Nat × Nat)} (h : IsH w0 D p L) (hH : HOK L) (r : Int) : Calls Tryz.prog 74 #[p, .int .i64 r] w0 (Ret (fun x w => IsSet w (fun z => D z ∨ w0.heap.size ≤ z) x (if 1 ≤ r ∧ r ≤ 63 then junM L r.toNat else 0)) w0) := by
 obtain ⟨q, o, rfl, hb, ho⟩ := h
 have HO := Lib.hid (stable_ord D (fun z => D z ∧ z < w0.heap.size) w0 w0 ho (Nat.le_refl _) (fun _ _ _ _ h => h) fun b h1 h2 _ => ⟨h1, h2⟩)
 obtain ⟨K, k0, hS⟩ : ∃ K : (Nat → Prop) → World → Prop, (∀ D w, K D w → w.cell? ⟨q, 0, none⟩ = some o) ∧ St w0 w0 [] K := ⟨_, fun _ _ h => IsBox.cell h 0 rfl, St.start stable_isBox hb⟩
 have HH := Lib.hid hH
 clear hb hH ho
 by_cases hr : 1 ≤ r ∧ r ≤ 63
 ·obtain ⟨k, rfl⟩ : ∃ k : Nat, r = (k : Int) := ⟨r.toNat, by omega⟩
  have HR := Lib.hid (decide_eq_true hr)
  have HM := Lib.hid (fun (N : Nat) (h : ∀ i : Nat, N.testBit i = true ↔ ∃ b : Nat, (k : Int) = (b : Int) ∧ TC L b i) => show withN N (k : Int) = junM L k from by
   rw [withN_nat (by omega)]
   refine mask_ext fun i => ?_
   rw [tb_or, tb_pow, h, tb_jun HH.out.inr (by omega)]
   constructor
   ·rintro (⟨b, e, h⟩ | h)
    ·obtain rfl : k = b := by omega
     exact .inr h
    ·exact .inl h
   ·rintro (h | h)
    ·exact .inr h
    ·exact .inl ⟨k, rfl, h⟩)
  rw [if_pos hr, Int.toNat_natCast]
  clear hr
  go_enter Tryz.func74, Tryz.ntmps74
  go_wp2_with (first
   | ((with_reducible refine qB ?_); (first | refine q1 ?_ ?_ | refine q2 ?_ ?_ | refine q3 ?_ ?_ | refine q4 ?_ ?_ | refine q5 ?_ ?_ | refine q6 ?_ ?_) <;> intro h_ <;> go_prune)
   | ((with_reducible refine qA 4 ?_); refine st_alloc hS rfl _ rfl (by kernel_rfl) ?_; clear hS; intro g w_ hS; (try simp only [Act.put, Act.eval, z1, z2, z3, z4, z5, z6, z7, z8, Value.cells] at hS))
   | (go_at_call 117; refine (role_any _ _).mono ?_; rw [HR.out]; rintro r_ w_ ⟨_, rfl, rfl, hb_⟩; replace hS := hS.ext hb_; clear hb_)
   | ((with_reducible refine qA 16 ?_); refine st_kcell hS rfl _ _ rfl _ rfl _ k0 (by kernel_rfl) ?_)
   | (go_at_call 118; refine (obelow_any (stable_ord _ _ _ _ HO.out hS.size (fun _ _ _ hp hc => (hS.below.cell hp).trans hc) fun _ h _ _ => h) HH.out.inr _).mono ?_; rintro r_ w_ ⟨_, rfl, ⟨N, hN, hs⟩, hb_⟩; replace hs := Lib.hid hs; replace hS := hS.ext hb_; clear hb_)
   | (go_at_call 59; refine (with_any _ N _ _ _ hN).mono ?_; rintro r_ w1 ⟨_, rfl, hM, hb_⟩; rw [HM.out N hs.out] at hM; obtain ⟨A3, c3, l3, rfl, -⟩ := hM.parts; replace hS := hS.ret2 hb_ (stable_inter stable_set fun z => D z ∨ w0.heap.size ≤ z) (hM.imp fun z hz _ => ⟨hz.imp (fun hz => free1 hS hz.2) id, hz.elim (fun hz => .inl hz.1) fun hz => .inr (Nat.le_trans hS.size hz)⟩); clear hb_)
   | ((with_reducible refine qM ?_); (first | refine qS hS ?_ | refine qT hS ?_); clear hS; intro w_ hS; (try simp only [Act.put, Act.eval, z1, z2, z3, z4, z5, z6, z7, z8, Value.cells] at hS)))
  refine ret_cell Tryz.results74 rfl (hS.box 0 rfl) Tryz.underlying27 rfl (by kernel_rfl) rfl ?_
  exact Ret.mk (hS.ro.2.imp fun z hz _ => hz.2) hS.below
 ·have HR := Lib.hid (decide_eq_false hr)
  rw [if_neg hr]
  clear hr
  go_enter Tryz.func74, Tryz.ntmps74
  go_wp2_with (first
   | ((with_reducible refine qB ?_); (first | refine q1 ?_ ?_ | refine q2 ?_ ?_ | refine q3 ?_ ?_ | refine q4 ?_ ?_ | refine q5 ?_ ?_ | refine q6 ?_ ?_) <;> intro h_ <;> go_prune)
   | ((with_reducible refine qA 4 ?_); refine st_alloc hS rfl _ rfl (by kernel_rfl) ?_; clear hS; intro g w_ hS; (try simp only [Act.put, Act.eval, z1, z2, z3, z4, z5, z6, z7, z8, Value.cells] at hS))
   | (go_at_call 117; refine (role_any _ _).mono ?_; rw [HR.out]; rintro r_ w_ ⟨_, rfl, rfl, hb_⟩; replace hS := hS.ext hb_; clear hb_)
   | ((with_reducible show wpList _ _ _ (⟨_, .build _ _, _, _, _, _⟩ :: _) _ _); refine wpList_build_of rfl _ _ rfl #[.slice none 0 0] (by kernel_rfl) ?_)
   | ((with_reducible refine qM ?_); (first | refine qS hS ?_ | refine qT hS ?_); clear hS; intro w_ hS; (try simp only [Act.put, Act.eval, z1, z2, z3, z4, z5, z6, z7, z8, Value.cells] at hS)))
  refine ret_cell Tryz.results74 rfl (hS.box 0 rfl) Tryz.underlying27 rfl (by kernel_rfl) rfl ?_
  exact Ret.mk IsSet.empty hS.below
theorem hsen_any {w0 : World} {D : Nat → Prop} {p : Value} {L : List (Nat × Nat)} (h : IsH w0 D p L) (hH : HOK L) (r : Int) : Calls Tryz.prog 104 #[p, .int .i64 r] w0 (Ret (fun x w => IsSet w (fun z => D z ∨ w0.heap.size ≤ z) x (if 1 ≤ r ∧ r ≤ 63 then senM L r.toNat else 0)) w0) := by
 obtain ⟨q, o, rfl, hb, ho⟩ := h
 have HO := Lib.hid (stable_ord D (fun z => D z ∧ z < w0.heap.size) w0 w0 ho (Nat.le_refl _) (fun _ _ _ _ h => h) fun b h1 h2 _ => ⟨h1, h2⟩)
 obtain ⟨K, k0, hS⟩ : ∃ K : (Nat → Prop) → World → Prop, (∀ D w, K D w → w.cell? ⟨q, 0, none⟩ = some o) ∧ St w0 w0 [] K := ⟨_, fun _ _ h => IsBox.cell h 0 rfl, St.start stable_isBox hb⟩
 have HH := Lib.hid hH
 clear hb hH ho
 by_cases hr : 1 ≤ r ∧ r ≤ 63
 ·obtain ⟨k, rfl⟩ : ∃ k : Nat, r = (k : Int) := ⟨r.toNat, by omega⟩
  have HR := Lib.hid (decide_eq_true hr)
  have HM := Lib.hid (fun (N : Nat) (h : ∀ i : Nat, N.testBit i = true ↔ ∃ b : Nat, (k : Int) = (b : Int) ∧ TC L i b) => show withN N (k : Int) = senM L k from by
   rw [withN_nat (by omega)]
   refine mask_ext fun i => ?_
   rw [tb_or, tb_pow, h, tb_sen HH.out.inr]
   constructor
   ·rintro (⟨b, e, h⟩ | h)
    ·obtain rfl : k = b := by omega
     exact .inr h
    ·exact .inl h
   ·rintro (h | h)
    ·exact .inr h
    ·exact .inl ⟨k, rfl, h⟩)
  rw [if_pos hr, Int.toNat_natCast]
  clear hr
  go_enter Tryz.func104, Tryz.ntmps104
  go_wp2_with (first
   | ((with_reducible refine qB ?_); (first | refine q1 ?_ ?_ | refine q2 ?_ ?_ | refine q3 ?_ ?_ | refine q4 ?_ ?_ | refine q5 ?_ ?_ | refine q6 ?_ ?_) <;> intro h_ <;> go_prune)
   | ((with_reducible refine qA 4 ?_); refine st_alloc hS rfl _ rfl (by kernel_rfl) ?_; clear hS; intro g w_ hS; (try simp only [Act.put, Act.eval, z1, z2, z3, z4, z5, z6, z7, z8, Value.cells] at hS))
   | (go_at_call 117; refine (role_any _ _).mono ?_; rw [HR.out]; rintro r_ w_ ⟨_, rfl, rfl, hb_⟩; replace hS := hS.ext hb_; clear hb_)
   | ((with_reducible refine qA 16 ?_); refine st_kcell hS rfl _ _ rfl _ rfl _ k0 (by kernel_rfl) ?_)
   | (go_at_call 138; refine (oabove_any (stable_ord _ _ _ _ HO.out hS.size (fun _ _ _ hp hc => (hS.below.cell hp).trans hc) fun _ h _ _ => h) HH.out.inr _).mono ?_; rintro r_ w_ ⟨_, rfl, ⟨N, hN, hs⟩, hb_⟩; replace hs := Lib.hid hs; replace hS := hS.ext hb_; clear hb_)
   | (go_at_call 59; refine (with_any _ N _ _ _ hN).mono ?_; rintro r_ w1 ⟨_, rfl, hM, hb_⟩; rw [HM.out N hs.out] at hM; obtain ⟨A3, c3, l3, rfl, -⟩ := hM.parts; replace hS := hS.ret2 hb_ (stable_inter stable_set fun z => D z ∨ w0.heap.size ≤ z) (hM.imp fun z hz _ => ⟨hz.imp (fun hz => free1 hS hz.2) id, hz.elim (fun hz => .inl hz.1) fun hz => .inr (Nat.le_trans hS.size hz)⟩); clear hb_)
   | ((with_reducible refine qM ?_); (first | refine qS hS ?_ | refine qT hS ?_); clear hS; intro w_ hS; (try simp only [Act.put, Act.eval, z1, z2, z3, z4, z5, z6, z7, z8, Value.cells] at hS)))
  refine ret_cell Tryz.results104 rfl (hS.box 0 rfl) Tryz.underlying27 rfl (by kernel_rfl) rfl ?_
  exact Ret.mk (hS.ro.2.imp fun z hz _ => hz.2) hS.below
 ·have HR := Lib.hid (decide_eq_false hr)
  rw [if_neg hr]
  clear hr
  go_enter Tryz.func104, Tryz.ntmps104
  go_wp2_with (first
   | ((with_reducible refine qB ?_); (first | refine q1 ?_ ?_ | refine q2 ?_ ?_ | refine q3 ?_ ?_ | refine q4 ?_ ?_ | refine q5 ?_ ?_ | refine q6 ?_ ?_) <;> intro h_ <;> go_prune)
   | ((with_reducible refine qA 4 ?_); refine st_alloc hS rfl _ rfl (by kernel_rfl) ?_; clear hS; intro g w_ hS; (try simp only [Act.put, Act.eval, z1, z2, z3, z4, z5, z6, z7, z8, Value.cells] at hS))
   | (go_at_call 117; refine (role_any _ _).mono ?_; rw [HR.out]; rintro r_ w_ ⟨_, rfl, rfl, hb_⟩; replace hS := hS.ext hb_; clear hb_)
   | ((with_reducible show wpList _ _ _ (⟨_, .build _ _, _, _, _, _⟩ :: _) _ _); refine wpList_build_of rfl _ _ rfl #[.slice none 0 0] (by kernel_rfl) ?_)
   | ((with_reducible refine qM ?_); (first | refine qS hS ?_ | refine qT hS ?_); clear hS; intro w_ hS; (try simp only [Act.put, Act.eval, z1, z2, z3, z4, z5, z6, z7, z8, Value.cells] at hS)))
  refine ret_cell Tryz.results104 rfl (hS.box 0 rfl) Tryz.underlying27 rfl (by kernel_rfl) rfl ?_
  exact Ret.mk IsSet.empty hS.below
end Go.Proofs.YtihpgmbinhmmlaaGreatDoor
namespace Go.Proofs.YtihpgmbinhmmlaaGreatDoor
open Go.RowKit
set_option maxRecDepth 20000

def OJ (C : World → Prop) (S : Value → World → Prop) (p : World × Option Value) : Prop := C p.1 ∧ ∀ r, p.2 = some r → S r p.1
def OR (C : World → Prop) (S : Value → World → Prop) (p p' : World × Option Value) : Prop := (OJ C S p → OJ C S p') ∧ ∀ v, p.2 = some v → p'.2 = some v
def ON (k : Nat) (i : Nat) (p : World × Option Value) : Prop := i = k → p.2 = none
section
variable {C : World → Prop} {S : Value → World → Prop} {p p' : World × Option Value} {k : Nat}
end
end Go.Proofs.YtihpgmbinhmmlaaGreatDoor
namespace Go.Proofs.YtihpgmbinhmmlaaGreatDoor
open Go.RowKit
attribute [local go_sem ↓] Go.wp_at_zero Go.wp_at_succ
set_option maxRecDepth 20000
set_option exponentiation.threshold 5000

theorem rrole_any (r : Int) (w : World) : Calls Tryz.prog 134 #[.int .i64 r] w (Ret (fun x _ => x = .bool (decide (1 ≤ r ∧ r ≤ 63))) w) := by
 by_cases h1 : 1 ≤ r
 ·by_cases h2 : r ≤ 63
  ·have HR := Lib.hid (show decide (1 ≤ r ∧ r ≤ 63) = true by simp [h1, h2])
   generalize decide (1 ≤ r ∧ r ≤ 63) = R at *
   go_enter Tryz.func134, Tryz.ntmps134
   go_wp2_with (first | ((with_reducible refine qB ?_); (first | refine q1 ?_ ?_ | refine q2 ?_ ?_ | refine q3 ?_ ?_ | refine q4 ?_ ?_ | refine q5 ?_ ?_ | refine q6 ?_ ?_) <;> intro h_ <;> go_prune))
   go_ret
   exact Ret.mk (congrArg Value.bool HR.out.symm) (Below.refl _ _)
  ·have HR := Lib.hid (show decide (1 ≤ r ∧ r ≤ 63) = false by simp [h2])
   generalize decide (1 ≤ r ∧ r ≤ 63) = R at *
   go_enter Tryz.func134, Tryz.ntmps134
   go_wp2_with (first | ((with_reducible refine qB ?_); (first | refine q1 ?_ ?_ | refine q2 ?_ ?_ | refine q3 ?_ ?_ | refine q4 ?_ ?_ | refine q5 ?_ ?_ | refine q6 ?_ ?_) <;> intro h_ <;> go_prune))
   go_ret
   exact Ret.mk (congrArg Value.bool HR.out.symm) (Below.refl _ _)
 ·have HR := Lib.hid (show decide (1 ≤ r ∧ r ≤ 63) = false by simp [h1])
  generalize decide (1 ≤ r ∧ r ≤ 63) = R at *
  go_enter Tryz.func134, Tryz.ntmps134
  go_wp2_with (first | ((with_reducible refine qB ?_); (first | refine q1 ?_ ?_ | refine q2 ?_ ?_ | refine q3 ?_ ?_ | refine q4 ?_ ?_ | refine q5 ?_ ?_ | refine q6 ?_ ?_) <;> intro h_ <;> go_prune))
  go_ret
  exact Ret.mk (congrArg Value.bool HR.out.symm) (Below.refl _ _)
theorem rhas_any {w0 : World} {D : Nat → Prop} {pv : Value} {L : List (Nat × Nat)} (h : Sl w0 D 2 pv L.length (pcells L)) (hl : L.length ≤ 1000000) (a b : Int) :
  Calls Tryz.prog 135 #[pv, .int .i64 a, .int .i64 b] w0 (Ret (fun x _ => ∃ c : Bool, x = .bool c ∧ (c = true ↔ ∃ x ∈ L, a = (x.1 : Int) ∧ b = (x.2 : Int))) w0) := by
 obtain ⟨A, c, rfl, _, _⟩ := h.shape
 obtain ⟨K, kp, hS⟩ : ∃ K : (Nat → Prop) → World → Prop, (∀ D w, K D w → Sl w D 2 (.slice A L.length c) L.length (pcells L)) ∧ St w0 w0 [] K := ⟨_, fun _ _ h => h, St.start (stable_sl (by decide)) h⟩
 clear h
 go_enter Tryz.func135, Tryz.ntmps135
 go_wp2_with (first | ((with_reducible refine qB ?_); (first | refine q1 ?_ ?_ | refine q2 ?_ ?_ | refine q3 ?_ ?_ | refine q4 ?_ ?_ | refine q5 ?_ ?_ | refine q6 ?_ ?_) <;> intro h_ <;> go_prune))
 go_loopw [11] (fun i wr => ∃ j : Nat, j ≤ L.length ∧ i = .int .i64 j ∧ Hid (∀ t, t < j → ¬ (a = ((L.getD t (0, 0)).1 : Int) ∧ b = ((L.getD t (0, 0)).2 : Int))) ∧ St w0 wr [] K) (fun i _ => L.length - (intOf i).toNat)
 case atStart => exact ⟨0, by omega, rfl, Lib.hid (fun t h => absurd h (by omega)), hS⟩
 case round =>
  clear hS
  obtain ⟨j, hj, rfl, HJ, hS⟩ := hrel
  by_cases hlj : j < L.length
  ·obtain ⟨f1, f2⟩ := pcells_at L j hlj
   have hm : Hid (L.getD j (0, 0) ∈ L) := Lib.hid (by rw [List.getD_eq_getElem?_getD, List.getElem?_eq_getElem hlj]; exact List.getElem_mem hlj)
   have HJ2 : Hid (¬ (a = ((L.getD j (0, 0)).1 : Int) ∧ b = ((L.getD j (0, 0)).2 : Int)) → ∀ t, t < j + 1 → ¬ (a = ((L.getD t (0, 0)).1 : Int) ∧ b = ((L.getD t (0, 0)).2 : Int))) := Lib.hid fun h t ht => if e : t = j then e ▸ h else HJ.out t (by omega)
   generalize L.getD j (0, 0) = x at *
   obtain ⟨xa, xb⟩ := x
   dsimp only at f1 f2 HJ2
   by_cases hx : a = (xa : Int)
   ·by_cases hy : b = (xb : Int)
    ·subst hx hy
     go_wp2_with (first
      | ((with_reducible refine qB ?_); (first | refine q1 ?_ ?_ | refine q2 ?_ ?_ | refine q3 ?_ ?_ | refine q4 ?_ ?_ | refine q5 ?_ ?_ | refine q6 ?_ ?_) <;> intro h_ <;> go_prune)
      | ((with_reducible refine qI ?_); refine qj hS Tryz.underlying32 ?_; intro b_ j_ hc0_ hc1_)
      | ((with_reducible refine qA 8 ?_); refine st_alloc hS rfl _ rfl (by kernel_rfl) ?_; clear hS; intro g4 w_ hS; (try simp only [Act.put, Act.eval, z1, z2, z3, z4, z5, z6, z7, z8, Value.cells] at hS))
      | ((with_reducible refine qM ?_); (first | refine qS hS ?_ | refine qT hS ?_); clear hS; intro w_ hS; (try simp only [Act.put, Act.eval, z1, z2, z3, z4, z5, z6, z7, z8, Value.cells] at hS))
      | ((with_reducible refine qK ?_); refine qC hS ?_))
     go_ret
     exact Ret.mk (v := .bool true) (by first | exact ⟨true, rfl, fun _ => ⟨_, hm.out, rfl, rfl⟩, fun _ => rfl⟩ | exact .inr ⟨rfl, _, _, hm.out, rfl, rfl⟩) hS.below
    ·have HJ3 := Lib.hid (HJ2.out fun h => hy h.2)
     subst hx
     clear HJ2
     have hy' : ¬ ((xb : Nat) : Int) = b := fun e => hy e.symm
     go_wp2_with (first
      | ((with_reducible refine qB ?_); (first | refine q1 ?_ ?_ | refine q2 ?_ ?_ | refine q3 ?_ ?_ | refine q4 ?_ ?_ | refine q5 ?_ ?_ | refine q6 ?_ ?_) <;> intro h_ <;> go_prune)
      | ((with_reducible refine qI ?_); refine qj hS Tryz.underlying32 ?_; intro b_ j_ hc0_ hc1_)
      | ((with_reducible refine qA 8 ?_); refine st_alloc hS rfl _ rfl (by kernel_rfl) ?_; clear hS; intro g4 w_ hS; (try simp only [Act.put, Act.eval, z1, z2, z3, z4, z5, z6, z7, z8, Value.cells] at hS))
      | ((with_reducible refine qM ?_); (first | refine qS hS ?_ | refine qT hS ?_); clear hS; intro w_ hS; (try simp only [Act.put, Act.eval, z1, z2, z3, z4, z5, z6, z7, z8, Value.cells] at hS))
      | ((with_reducible refine qK ?_); refine qC hS ?_))
     exact ⟨⟨j + 1, hlj, by go_num, HJ3, hS.sub (List.sublist_cons_self _ _)⟩, by simp [intOf]; omega⟩
   ·have HJ3 := Lib.hid (HJ2.out fun h => hx h.1)
    clear HJ2
    have hx' : ¬ ((xa : Nat) : Int) = a := fun e => hx e.symm
    go_wp2_with (first
     | ((with_reducible refine qB ?_); (first | refine q1 ?_ ?_ | refine q2 ?_ ?_ | refine q3 ?_ ?_ | refine q4 ?_ ?_ | refine q5 ?_ ?_ | refine q6 ?_ ?_) <;> intro h_ <;> go_prune)
     | ((with_reducible refine qI ?_); refine qj hS Tryz.underlying32 ?_; intro b_ j_ hc0_ hc1_)
     | ((with_reducible refine qA 8 ?_); refine st_alloc hS rfl _ rfl (by kernel_rfl) ?_; clear hS; intro g4 w_ hS; (try simp only [Act.put, Act.eval, z1, z2, z3, z4, z5, z6, z7, z8, Value.cells] at hS))
     | ((with_reducible refine qM ?_); (first | refine qS hS ?_ | refine qT hS ?_); clear hS; intro w_ hS; (try simp only [Act.put, Act.eval, z1, z2, z3, z4, z5, z6, z7, z8, Value.cells] at hS))
     | ((with_reducible refine qK ?_); refine qC hS ?_))
    exact ⟨⟨j + 1, hlj, by go_num, HJ3, hS.sub (List.sublist_cons_self _ _)⟩, by simp [intOf]; omega⟩
  ·obtain rfl : j = L.length := by omega
   have HN : Hid (¬ ∃ x ∈ L, a = (x.1 : Int) ∧ b = (x.2 : Int)) := Lib.hid fun ⟨x, hx, h⟩ => by
    obtain ⟨k, hk, e⟩ := List.getElem_of_mem hx
    refine HJ.out k hk ?_
    rw [List.getD_eq_getElem?_getD, List.getElem?_eq_getElem hk, Option.getD_some, e]
    exact h
   go_wp2_with (first | ((with_reducible refine qB ?_); (first | refine q1 ?_ ?_ | refine q2 ?_ ?_ | refine q3 ?_ ?_ | refine q4 ?_ ?_ | refine q5 ?_ ?_ | refine q6 ?_ ?_) <;> intro h_ <;> go_prune))
   go_ret
   exact Ret.mk (v := .bool false) (by first | exact ⟨false, rfl, fun h => by simp at h, fun h => absurd h HN.out⟩ | exact .inl ⟨rfl, by simpa using HN.out⟩) hS.below
end Go.Proofs.YtihpgmbinhmmlaaGreatDoor
namespace Go.Proofs.YtihpgmbinhmmlaaGreatDoor
open Go.RowKit
attribute [local go_sem ↓] Go.wp_at_zero Go.wp_at_succ
set_option maxRecDepth 20000

def shrN (s r : Nat) : Nat := s / 2 ^ r
def rem2 (m : Nat) : Nat := m % 2
theorem bit_of {s r : Nat} : rem2 (shrN s r) = if s.testBit r then 1 else 0 := by
 unfold rem2 shrN
 rw [Nat.testBit_eq_decide_div_mod_eq]
 by_cases h : s / 2 ^ r % 2 = 1
 ·simp [h]
 ·have : s / 2 ^ r % 2 = 0 := by omega
  simp [this]
theorem pow_lt_64 {r : Nat} (h : r < 64) : 2 ^ r < T64 := by rw [T64_eq]; exact Nat.pow_lt_pow_right (by decide) h
section
variable {P : Program} {ops : Array Oper} {rest : List Oper} {o : Oper} {a : Act} {w : World} {Q : Exit → Act → World → Prop}
theorem st_shrN (hg : Region.wanted o (yielded ops a.tmps) = true) (t t2 : TypeId) (x y : Operand) (ho : o.op = .binOp .shr t x y t2) (s r : Nat) (hx : a.eval x = .int .u64 (s : Nat)) (hy : a.eval y = .int .i64 (r : Nat)) (hr : r ≤ 64)
  (hk : wpList P ops Q rest (a.put o.dst (.int .u64 (shrN s r : Nat))) w) : wpList P ops Q (o :: rest) a w := by
 refine BigFrame.wpList_want hg fun _ hK => opw_bin (v := .int .u64 (shrN s r : Nat)) ho hx hy (by simp [eqGuard]) ?_ (hK _ _ hk)
 rw [binOp_shr, shift_shr _ _ _ _ (by omega) (by show (r : Int) ≤ 64; omega)]
 simp [shrN]
theorem st_rem2 (hg : Region.wanted o (yielded ops a.tmps) = true) (t t2 : TypeId) (x y : Operand) (ho : o.op = .binOp .rem t x y t2) (m : Nat) (hx : a.eval x = .int .u64 (m : Nat)) (hy : a.eval y = .int .u64 2)
  (hk : wpList P ops Q rest (a.put o.dst (.int .u64 (rem2 m : Nat))) w) : wpList P ops Q (o :: rest) a w := by
 refine BigFrame.wpList_want hg fun _ hK => opw_bin (v := .int .u64 (rem2 m : Nat)) ho hx hy (by simp [eqGuard]) ?_ (hK _ _ hk)
 go_simp
 exact tmod_nat m 2
theorem st_btest (hg : Region.wanted o (yielded ops a.tmps) = true) (t t2 : TypeId) (x y : Operand) (ho : o.op = .binOp .eql t x y t2) (s r : Nat) (hx : a.eval x = .int .u64 (rem2 (shrN s r) : Nat)) (hy : a.eval y = .int .u64 1) {b : Bool} (hb : s.testBit r = b)
  (hk : wpList P ops Q rest (a.put o.dst (.bool b)) w) : wpList P ops Q (o :: rest) a w := by
 refine BigFrame.wpList_want hg fun _ hK => opw_bin (v := .bool b) ho hx hy (by simp [eqGuard]) ?_ (hK _ _ hk)
 rw [binOp_eql, bit_of, hb]
 cases b <;> simp
theorem st_shl1 (hg : Region.wanted o (yielded ops a.tmps) = true) (t t2 : TypeId) (x y : Operand) (ho : o.op = .binOp .shl t x y t2) (r : Nat) (hx : a.eval x = .int .u64 1) (hy : a.eval y = .int .i64 (r : Nat)) (hr : r < 64)
  (hk : wpList P ops Q rest (a.put o.dst (.int .u64 (2 ^ r : Nat))) w) : wpList P ops Q (o :: rest) a w := by
 have h := run_shl1 (P := P) (w := w) (t := t) (r := r) (e := (r : Nat)) (by rw [Nat.mod_eq_of_lt hr])
 rw [Nat.mod_eq_of_lt hr] at h
 exact BigFrame.wpList_want hg fun _ hK => opw_bin (v := .int .u64 (2 ^ r : Nat)) ho hx hy (by simp [eqGuard]) h (hK _ _ hk)
theorem st_orN (hg : Region.wanted o (yielded ops a.tmps) = true) (t t2 : TypeId) (x y : Operand) (ho : o.op = .binOp .or t x y t2) (m n : Nat) (hx : a.eval x = .int .u64 (m : Nat)) (hy : a.eval y = .int .u64 (n : Nat)) (hm : m < T64) (hn : n < T64)
  (hk : wpList P ops Q rest (a.put o.dst (.int .u64 (m ||| n : Nat))) w) : wpList P ops Q (o :: rest) a w :=
 BigFrame.wpList_want hg fun _ hK => opw_bin (v := .int .u64 (m ||| n : Nat)) ho hx hy (by simp [eqGuard]) (run_or64' hm hn) (hK _ _ hk)
end
end Go.Proofs.YtihpgmbinhmmlaaGreatDoor
namespace Go.Proofs.YtihpgmbinhmmlaaGreatDoor
open Go.RowKit
attribute [local go_sem ↓] Go.wp_at_zero Go.wp_at_succ
set_option maxRecDepth 20000
set_option exponentiation.threshold 5000

def implR (L : List (Nat × Nat)) (r s : Int) : Prop := ∃ i j : Nat, r = (i : Int) ∧ s = (j : Int) ∧ (1 ≤ i ∧ i < 64) ∧ (1 ≤ j ∧ j < 64) ∧ (i = j ∨ TC L i j)
noncomputable def junR (L : List (Nat × Nat)) (r : Int) : Nat := if 1 ≤ r ∧ r ≤ 63 then junM L r.toNat else 0
theorem rjun_any {w0 : World} {D : Nat → Prop} {pv : Value} {L : List (Nat × Nat)} (h : Sl w0 D 2 pv L.length (pcells L)) (hL : Inr 64 L) (hl : L.length ≤ 1000000) (r : Int) :
  Calls Tryz.prog 119 #[pv, .int .i64 r] w0 (Ret (fun x _ => x = .int .u64 (junR L r : Nat)) w0) := by
 obtain ⟨A, c, rfl, _, _⟩ := h.shape
 obtain ⟨K, kp, hS⟩ : ∃ K : (Nat → Prop) → World → Prop, (∀ D w, K D w → Sl w D 2 (.slice A L.length c) L.length (pcells L)) ∧ St w0 w0 [] K := ⟨_, fun _ _ h => h, St.start (stable_sl (by decide)) h⟩
 clear h
 by_cases hr : 1 ≤ r ∧ r ≤ 63
 ·obtain ⟨k, rfl⟩ : ∃ k : Nat, r = (k : Int) := ⟨r.toNat, by omega⟩
  have HR := Lib.hid (decide_eq_true hr)
  have hk : k < 64 := by omega
  have HJ := Lib.hid (show junR L (k : Int) = junM L k by rw [junR, if_pos hr, Int.toNat_natCast])
  have HL := Lib.hid hL
  have H0 : Hid (JunOK L k (2 ^ k) ∧ 2 ^ k < 2 ^ 64) := Lib.hid ⟨JunOK.start L k, Nat.pow_lt_pow_right (by decide) hk⟩
  clear hr hL
  go_enter Tryz.func119, Tryz.ntmps119
  go_wp2_with (first
   | (go_at_call 134; refine (rrole_any _ _).mono ?_; rw [HR.out]; rintro r_ w_ ⟨_, rfl, rfl, hb_⟩; replace hS := hS.ext hb_; clear hb_)
   | ((with_reducible refine qb .shl ?_); refine st_shl1 rfl _ _ _ _ rfl _ rfl rfl hk ?_))
  go_loopw [5] (fun v wr => ∃ s : Nat, v = .int .u64 (s : Nat) ∧ Hid (JunOK L k s ∧ s < 2 ^ 64) ∧ St w0 wr [] K) (fun v _ => outN (intOf v).toNat)
  case atStart => exact ⟨_, rfl, H0, hS⟩
  case round =>
   clear hS H0
   obtain ⟨s, rfl, HS, hS⟩ := hrel
   go_wp2_with (first | ((with_reducible refine qB ?_); (first | refine q1 ?_ ?_ | refine q2 ?_ ?_ | refine q3 ?_ ?_ | refine q4 ?_ ?_ | refine q5 ?_ ?_ | refine q6 ?_ ?_) <;> intro h_ <;> go_prune))
   go_loopw [6, 17] (fun m i wr => ∃ j : Nat, j ≤ L.length ∧ i = .int .i64 (j : Nat) ∧ m = .int .u64 (jTo L s j : Nat) ∧ St w0 wr [] K) (fun _ i _ => L.length - (intOf i).toNat)
   case atStart => exact ⟨0, by omega, rfl, by simp [jTo], hS⟩
   case round =>
    clear hS
    obtain ⟨j, hj, rfl, rfl, hS⟩ := hrel
    by_cases hlj : j < L.length
    ·obtain ⟨f1, f2⟩ := pcells_at L j hlj
     have HG := Lib.hid (getD_at (0, 0) hlj)
     have hm := HL.out (L.getD j (0, 0)) (by rw [List.getD_eq_getElem?_getD, List.getElem?_eq_getElem hlj]; exact List.getElem_mem hlj)
     have HSt := Lib.hid (jTo_step (s := s) HG.out)
     have hM : jTo L s j < T64 := by rw [T64_eq]; exact jTo_lt HL.out HS.out.2
     generalize L.getD j (0, 0) = x at *
     generalize jTo L s j = M at *
     obtain ⟨xa, xb⟩ := x
     dsimp only at f1 f2 hm HSt
     obtain ⟨hxa, hxb⟩ := hm
     cases hbit : s.testBit xa
     ·rw [hbit] at HSt
      have HE := Lib.hid (HSt.out.trans (if_neg (by simp)))
      go_wp2_with (first
       | ((with_reducible refine qb .shr ?_); refine st_shrN rfl _ _ _ _ rfl _ _ rfl rfl (by omega) ?_)
       | ((with_reducible refine qb .rem ?_); refine st_rem2 rfl _ _ _ _ rfl _ rfl rfl ?_)
       | ((with_reducible refine qA 26 ?_); refine st_btest rfl _ _ _ _ rfl _ _ rfl rfl hbit ?_)
       | ((with_reducible refine qB ?_); (first | refine q1 ?_ ?_ | refine q2 ?_ ?_ | refine q3 ?_ ?_ | refine q4 ?_ ?_ | refine q5 ?_ ?_ | refine q6 ?_ ?_) <;> intro h_ <;> go_prune)
       | ((with_reducible refine qI ?_); refine qj hS Tryz.underlying32 ?_; intro b_ j_ hc0_ hc1_)
       | ((with_reducible refine qA 8 ?_); refine st_alloc hS rfl _ rfl (by kernel_rfl) ?_; clear hS; intro g4 w_ hS; (try simp only [Act.put, Act.eval, z1, z2, z3, z4, z5, z6, z7, z8, Value.cells] at hS))
       | ((with_reducible refine qM ?_); (first | refine qS hS ?_ | refine qT hS ?_); clear hS; intro w_ hS; (try simp only [Act.put, Act.eval, z1, z2, z3, z4, z5, z6, z7, z8, Value.cells] at hS))
       | ((with_reducible refine qK ?_); refine qC hS ?_))
      exact ⟨⟨j + 1, hlj, by go_num, by rw [HE.out], hS.sub (List.sublist_cons_self _ _)⟩, by simp [intOf]; omega⟩
     ·rw [hbit] at HSt
      have HE := Lib.hid (HSt.out.trans (if_pos rfl))
      go_wp2_with (first
       | ((with_reducible refine qb .shr ?_); refine st_shrN rfl _ _ _ _ rfl _ _ rfl rfl (by omega) ?_)
       | ((with_reducible refine qb .rem ?_); refine st_rem2 rfl _ _ _ _ rfl _ rfl rfl ?_)
       | ((with_reducible refine qb .shl ?_); refine st_shl1 rfl _ _ _ _ rfl _ rfl rfl hxb ?_)
       | ((with_reducible refine qb .or ?_); refine st_orN rfl _ _ _ _ rfl _ _ rfl rfl hM (pow_lt_64 hxb) ?_)
       | ((with_reducible refine qA 26 ?_); refine st_btest rfl _ _ _ _ rfl _ _ rfl rfl hbit ?_)
       | ((with_reducible refine qB ?_); (first | refine q1 ?_ ?_ | refine q2 ?_ ?_ | refine q3 ?_ ?_ | refine q4 ?_ ?_ | refine q5 ?_ ?_ | refine q6 ?_ ?_) <;> intro h_ <;> go_prune)
       | ((with_reducible refine qI ?_); refine qj hS Tryz.underlying32 ?_; intro b_ j_ hc0_ hc1_)
       | ((with_reducible refine qA 8 ?_); refine st_alloc hS rfl _ rfl (by kernel_rfl) ?_; clear hS; intro g4 w_ hS; (try simp only [Act.put, Act.eval, z1, z2, z3, z4, z5, z6, z7, z8, Value.cells] at hS))
       | ((with_reducible refine qM ?_); (first | refine qS hS ?_ | refine qT hS ?_); clear hS; intro w_ hS; (try simp only [Act.put, Act.eval, z1, z2, z3, z4, z5, z6, z7, z8, Value.cells] at hS))
       | ((with_reducible refine qK ?_); refine qC hS ?_))
      exact ⟨⟨j + 1, hlj, by go_num, by rw [HE.out], hS.sub (List.sublist_cons_self _ _)⟩, by simp [intOf]; omega⟩
    ·obtain rfl : j = L.length := by omega
     have HM : Hid (jTo L s L.length < 2 ^ 64 ∧ JunOK L k (jTo L s L.length) ∧ (∀ i, s.testBit i = true → (jTo L s L.length).testBit i = true)) := Lib.hid ⟨jTo_lt HL.out HS.out.2, HS.out.1.next, fun i hi => (tb_jTo (Nat.le_refl _)).2 (.inl hi)⟩
     by_cases he : jTo L s L.length = s
     ·have HF := Lib.hid (HS.out.1.stop HL.out hk he)
      rw [he]
      go_wp2_with (first | ((with_reducible refine qB ?_); (first | refine q1 ?_ ?_ | refine q2 ?_ ?_ | refine q3 ?_ ?_ | refine q4 ?_ ?_ | refine q5 ?_ ?_ | refine q6 ?_ ?_) <;> intro h_ <;> go_prune))
      go_ret
      exact Ret.mk (by rw [HJ.out, ← HF.out]; rfl) hS.below
     ·have HO := Lib.hid (outN_lt HS.out.2 HM.out.1 HM.out.2.2 he)
      generalize jTo L s L.length = M at *
      have he2 : ¬ (M : Int) = (s : Int) := by omega
      go_wp2_with (first | ((with_reducible refine qB ?_); (first | refine q1 ?_ ?_ | refine q2 ?_ ?_ | refine q3 ?_ ?_ | refine q4 ?_ ?_ | refine q5 ?_ ?_ | refine q6 ?_ ?_) <;> intro h_ <;> go_prune))
      exact ⟨⟨M, rfl, Lib.hid ⟨HM.out.2.1, HM.out.1⟩, hS⟩, by simpa [intOf] using HO.out⟩
 ·have HR := Lib.hid (decide_eq_false hr)
  have HJ := Lib.hid (show junR L r = 0 by rw [junR, if_neg hr])
  rw [HJ.out]
  clear hr
  go_enter Tryz.func119, Tryz.ntmps119
  go_wp2_with (first
   | (go_at_call 134; refine (rrole_any _ _).mono ?_; rw [HR.out]; rintro r_ w_ ⟨_, rfl, rfl, hb_⟩; replace hS := hS.ext hb_; clear hb_))
  go_ret
  exact Ret.mk rfl hS.below
theorem impl_junR {L : List (Nat × Nat)} (hL : Inr 64 L) (r s : Int) : (1 ≤ s ∧ s ≤ 63) ∧ (junR L r).testBit s.toNat = true ↔ implR L r s := by
 unfold junR implR
 constructor
 ·rintro ⟨h1, h2⟩
  by_cases hr : 1 ≤ r ∧ r ≤ 63
  ·rw [if_pos hr, tb_jun hL (by omega)] at h2
   exact ⟨r.toNat, s.toNat, by omega, by omega, by omega, by omega, h2.imp (fun h => h.symm) id⟩
  ·rw [if_neg hr, Nat.zero_testBit] at h2; cases h2
 ·rintro ⟨i, j, rfl, rfl, h1, h2, h3⟩
  refine ⟨by omega, ?_⟩
  rw [if_pos (by omega), Int.toNat_natCast, Int.toNat_natCast, tb_jun hL (by omega)]
  exact h3.imp (fun h => h.symm) id
theorem rimpl_any {w0 : World} {D : Nat → Prop} {pv : Value} {L : List (Nat × Nat)} (h : Sl w0 D 2 pv L.length (pcells L)) (hL : Inr 64 L) (hl : L.length ≤ 1000000) (r s : Int) :
  Calls Tryz.prog 136 #[pv, .int .i64 r, .int .i64 s] w0 (Ret (fun x _ => ∃ c : Bool, x = .bool c ∧ (c = true ↔ implR L r s)) w0) := by
 have HJ := Lib.hid (fun w (hb : Below w0.heap.size w0 w) => rjun_any (h.ext hb) hL hl r)
 have HI := Lib.hid (impl_junR hL r s)
 by_cases hs : 1 ≤ s ∧ s ≤ 63
 ·obtain ⟨k, rfl⟩ : ∃ k : Nat, s = (k : Int) := ⟨s.toNat, by omega⟩
  have HR := Lib.hid (decide_eq_true hs)
  have hk : k < 64 := by omega
  rw [Int.toNat_natCast] at HI
  have HI2 : Hid ((junR L r).testBit k = true ↔ implR L r k) := Lib.hid ⟨fun h => HI.out.1 ⟨hs, h⟩, fun h => (HI.out.2 h).2⟩
  clear hs HI
  obtain ⟨b, hb0⟩ : ∃ b, (junR L r).testBit k = b := ⟨_, rfl⟩
  have hb := Lib.hid hb0
  rw [hb0] at HI2
  generalize junR L r = J at *
  clear hb0
  go_enter Tryz.func136, Tryz.ntmps136
  go_wp2_with (first
   | (go_at_call 134; refine (rrole_any _ _).mono ?_; rw [HR.out]; rintro r_ w_ ⟨_, rfl, rfl, hb_⟩)
   | (go_at_call 119; refine (HJ.out _ hb_).mono ?_; rintro r_ w2 ⟨_, rfl, rfl, hb2⟩)
   | ((with_reducible refine qb .shr ?_); refine st_shrN rfl _ _ _ _ rfl _ _ rfl rfl (by omega) ?_)
   | ((with_reducible refine qb .rem ?_); refine st_rem2 rfl _ _ _ _ rfl _ rfl rfl ?_)
   | ((with_reducible refine qA 16 ?_); refine st_btest rfl _ _ _ _ rfl _ _ rfl rfl hb.out ?_))
  go_ret
  exact Ret.mk ⟨b, rfl, HI2.out⟩ (bel_tr hb_ hb2)
 ·have HR := Lib.hid (decide_eq_false hs)
  have HI2 : Hid (¬ implR L r s) := Lib.hid fun h => hs (HI.out.2 h).1
  clear hs HI
  go_enter Tryz.func136, Tryz.ntmps136
  go_wp2_with (first
   | (go_at_call 134; refine (rrole_any _ _).mono ?_; rw [HR.out]; rintro r_ w_ ⟨_, rfl, rfl, hb_⟩))
  go_ret
  exact Ret.mk ⟨false, rfl, fun h => by simp at h, fun h => absurd h HI2.out⟩ hb_
noncomputable def closTo (L : List (Nat × Nat)) (s k : Nat) : Nat := (List.range k).foldl (fun m r => if 1 ≤ r ∧ s.testBit r then m ||| junM L r else m) 0
theorem closTo_step (L : List (Nat × Nat)) (s k : Nat) : closTo L s (k + 1) = if 1 ≤ k ∧ s.testBit k then closTo L s k ||| junM L k else closTo L s k := by
 unfold closTo; rw [List.range_succ, List.foldl_append]; rfl
theorem tb_closTo {L : List (Nat × Nat)} {s i : Nat} : ∀ {k : Nat}, (closTo L s k).testBit i = true ↔ ∃ r, r < k ∧ 1 ≤ r ∧ s.testBit r = true ∧ (junM L r).testBit i = true
 | 0 => by simp [closTo]
 | k + 1 => by
  rw [closTo_step]
  split
  ·rename_i h
   rw [tb_or, tb_closTo]
   constructor
   ·rintro (⟨r, h1, h2⟩ | h1)
    ·exact ⟨r, by omega, h2⟩
    ·exact ⟨k, by omega, h.1, h.2, h1⟩
   ·rintro ⟨r, h1, h2, h3, h4⟩
    rcases Nat.lt_or_ge r k with h5 | h5
    ·exact .inl ⟨r, h5, h2, h3, h4⟩
    ·obtain rfl : r = k := by omega
     exact .inr h4
  ·rename_i h
   rw [tb_closTo]
   constructor
   ·rintro ⟨r, h1, h2⟩
    exact ⟨r, by omega, h2⟩
   ·rintro ⟨r, h1, h2, h3, h4⟩
    rcases Nat.lt_or_ge r k with h5 | h5
    ·exact ⟨r, h5, h2, h3, h4⟩
    ·obtain rfl : r = k := by omega
     exact absurd ⟨h2, h3⟩ h
theorem junM_lt (L : List (Nat × Nat)) (r : Nat) : junM L r < 2 ^ 64 := by
 apply Nat.lt_pow_two_of_testBit
 intro i hi
 cases e : (junM L r).testBit i with
 | false => rfl
 | true => rw [junM, tb_mask] at e; omega
theorem closTo_lt (L : List (Nat × Nat)) (s : Nat) : ∀ k, closTo L s k < 2 ^ 64
 | 0 => by simp [closTo]
 | k + 1 => by
  rw [closTo_step]
  split
  ·exact Nat.or_lt_two_pow (closTo_lt L s k) (junM_lt L k)
  ·exact closTo_lt L s k
noncomputable def closM (L : List (Nat × Nat)) (s : Nat) : Nat := closTo L s 64
theorem rclos_any {w0 : World} {D : Nat → Prop} {pv : Value} {L : List (Nat × Nat)} (h : Sl w0 D 2 pv L.length (pcells L)) (hL : Inr 64 L) (hl : L.length ≤ 1000000) (s : Nat) :
  Calls Tryz.prog 76 #[pv, .int .u64 (s : Nat)] w0 (Ret (fun x _ => x = .int .u64 (closM L s : Nat)) w0) := by
 obtain ⟨A, c, rfl, _, _⟩ := h.shape
 have HJ := Lib.hid (fun w (hb : Below w0.heap.size w0 w) (r : Int) => rjun_any (h.ext hb) hL hl r)
 have hB := Below.refl w0.heap.size w0
 clear h
 go_enter Tryz.func76, Tryz.ntmps76
 go_wp2_with fail
 go_loopw [5, 6] (fun m i wr => ∃ k : Nat, 1 ≤ k ∧ k ≤ 64 ∧ i = .int .i64 (k : Nat) ∧ m = .int .u64 (closTo L s k : Nat) ∧ Below w0.heap.size w0 wr) (fun _ i _ => 64 - (intOf i).toNat)
 case atStart => exact ⟨1, by omega, by omega, rfl, by rw [closTo_step]; simp [closTo], hB⟩
 case round =>
  clear hB
  obtain ⟨k, hk1, hk2, rfl, rfl, hB⟩ := hrel
  have hM : closTo L s k < T64 := by rw [T64_eq]; exact closTo_lt L s k
  by_cases hk : k < 64
  ·have HSt := Lib.hid (closTo_step L s k)
   have hJ2 : junM L k < T64 := by rw [T64_eq]; exact junM_lt L k
   have HJ3 := Lib.hid (show junR L (k : Int) = junM L k by rw [junR, if_pos (by omega), Int.toNat_natCast])
   generalize closTo L s k = M at *
   generalize junM L k = J at *
   cases hbit : s.testBit k
   ·rw [hbit] at HSt
    have HE := Lib.hid (HSt.out.trans (if_neg (by simp)))
    go_wp2_with (first
     | ((with_reducible refine qb .shr ?_); refine st_shrN rfl _ _ _ _ rfl _ _ rfl rfl (by omega) ?_)
     | ((with_reducible refine qb .rem ?_); refine st_rem2 rfl _ _ _ _ rfl _ rfl rfl ?_)
     | ((with_reducible refine qA 15 ?_); refine st_btest rfl _ _ _ _ rfl _ _ rfl rfl hbit ?_)
     | ((with_reducible refine qB ?_); (first | refine q1 ?_ ?_ | refine q2 ?_ ?_ | refine q3 ?_ ?_ | refine q4 ?_ ?_ | refine q5 ?_ ?_ | refine q6 ?_ ?_) <;> intro h_ <;> go_prune))
    exact ⟨⟨k + 1, by omega, by omega, by go_num, by rw [HE.out], hB⟩, by simp [intOf]; omega⟩
   ·rw [hbit] at HSt
    have HE := Lib.hid (HSt.out.trans (if_pos ⟨hk1, rfl⟩))
    go_wp2_with (first
     | ((with_reducible refine qb .shr ?_); refine st_shrN rfl _ _ _ _ rfl _ _ rfl rfl (by omega) ?_)
     | ((with_reducible refine qb .rem ?_); refine st_rem2 rfl _ _ _ _ rfl _ rfl rfl ?_)
     | ((with_reducible refine qb .or ?_); refine st_orN rfl _ _ _ _ rfl _ _ rfl rfl hM hJ2 ?_)
     | ((with_reducible refine qA 15 ?_); refine st_btest rfl _ _ _ _ rfl _ _ rfl rfl hbit ?_)
     | (go_at_call 119; refine (HJ.out _ hB _).mono ?_; rw [HJ3.out]; rintro r_ w2 ⟨_, rfl, rfl, hb2⟩)
     | ((with_reducible refine qB ?_); (first | refine q1 ?_ ?_ | refine q2 ?_ ?_ | refine q3 ?_ ?_ | refine q4 ?_ ?_ | refine q5 ?_ ?_ | refine q6 ?_ ?_) <;> intro h_ <;> go_prune))
    exact ⟨⟨k + 1, by omega, by omega, by go_num, by rw [HE.out], bel_tr hB hb2⟩, by simp [intOf]; omega⟩
  ·obtain rfl : k = 64 := by omega
   go_wp2_with (first | ((with_reducible refine qB ?_); (first | refine q1 ?_ ?_ | refine q2 ?_ ?_ | refine q3 ?_ ?_ | refine q4 ?_ ?_ | refine q5 ?_ ?_ | refine q6 ?_ ?_) <;> intro h_ <;> go_prune))
   go_ret
   exact Ret.mk rfl hB
end Go.Proofs.YtihpgmbinhmmlaaGreatDoor
namespace Go.Proofs.YtihpgmbinhmmlaaGreatDoor
open Go.RowKit
attribute [local go_sem ↓] Go.wp_at_zero Go.wp_at_succ
set_option maxRecDepth 20000
set_option exponentiation.threshold 5000

def twoR (a b : Int) : Prop := (1 ≤ a ∧ a ≤ 63) ∧ (1 ≤ b ∧ b ≤ 63) ∧ a ≠ b
def RLinkP (w0 : World) (pv : Value) (L : List (Nat × Nat)) (a b : Int) (e : Ending) (w' : World) : Prop :=
 (¬ twoR a b ∧ e = .returned (.tuple #[pv, .int .i64 1]) ∧ Below w0.heap.size w0 w') ∨
 ∃ x y : Nat, a = (x : Int) ∧ b = (y : Int) ∧ (1 ≤ x ∧ x < 64) ∧ (1 ≤ y ∧ y < 64) ∧ x ≠ y ∧
  (((x, y) ∈ L ∧ e = .returned (.tuple #[pv, .int .i64 5]) ∧ Below w0.heap.size w0 w') ∨
   ((x, y) ∉ L ∧ TC L y x ∧ e = .returned (.tuple #[pv, .int .i64 16]) ∧ Below w0.heap.size w0 w') ∨
   ((x, y) ∉ L ∧ ¬ TC L y x ∧ ∃ v, e = .returned (.tuple #[v, .int .i64 0]) ∧ St w0 w' [.own v 122 2 (L.length + 1) (pcells (ins L (x, y)))] fun _ _ => True))
theorem ins_at {L : List (Nat × Nat)} {y : Nat × Nat} {i : Nat} (h : i ≤ insAt L y) {x : Nat × Nat} (hx : L[i]? = some x) : (plt x y → i + 1 ≤ insAt L y) ∧ (¬ plt x y → i = insAt L y) := by
 constructor
 ·intro hp
  rcases Nat.lt_or_ge i (insAt L y) with h1 | h1
  ·exact h1
  ·obtain rfl : i = insAt L y := by omega
   exact absurd hp (insAt_stop hx)
 ·intro hp
  rcases Nat.lt_or_ge i (insAt L y) with h1 | h1
  ·obtain ⟨z, h2, h3⟩ := insAt_lt h1
   rw [hx] at h2
   cases h2
   exact absurd h3 hp
  ·omega
theorem pcells_drop (L : List (Nat × Nat)) : ∀ k, (pcells L).drop (k * 2) = pcells (L.drop k) := by
 induction L with
 | nil => intro k; simp [pcells]
 | cons x L ih =>
  intro k
  cases k with
  | zero => simp [pcells]
  | succ k => rw [show (k + 1) * 2 = k * 2 + 1 + 1 by omega, pcells_cons]; simp [ih]
def linkD (L : List (Nat × Nat)) (z : Nat × Nat) (i : Nat) : AD := ⟨122, 2, 4, fun s => match s with | 0 => 0 | 1 => 0 + i | 2 => 0 + i + 1 | _ => 0 + i + 1 + (L.length - i), fun s => match s with | 0 => [] | 1 => [] ++ (pcells L).take (i * 2) | 2 => [] ++ (pcells L).take (i * 2) ++ pcells [z] | _ => [] ++ (pcells L).take (i * 2) ++ pcells [z] ++ (pcells L).drop (i * 2), fun _ v => .own v 122 2 1 (pcells [z])⟩
def linkK : List (Nat × (Bool × Nat)) := [(0, (true, 0)), (4, (true, 1)), (8, (false, 0)), (9, (true, 2)), (13, (true, 3))]
set_option maxHeartbeats 2000000 in
theorem rlink_any {w0 : World} {D : Nat → Prop} {pv : Value} {L : List (Nat × Nat)} (h : Sl w0 D 2 pv L.length (pcells L)) (hL : Inr 64 L) (hl : L.length ≤ 1000000) (a b : Int) :
  Calls Tryz.prog 99 #[pv, .int .i64 a, .int .i64 b] w0 (RLinkP w0 pv L a b) := by
 obtain ⟨A, c, rfl, hc1, _⟩ := h.shape
 obtain ⟨K, kp, hS⟩ : ∃ K : (Nat → Prop) → World → Prop, (∀ D w, K D w → Sl w D 2 (.slice A L.length c) L.length (pcells L)) ∧ St w0 w0 [] K := ⟨_, fun _ _ h => h, St.start (stable_sl (by decide)) h⟩
 clear h
 have HH := Lib.hid (fun (w : World) (D : Nat → Prop) (h : Sl w D 2 (.slice A L.length c) L.length (pcells L)) => rhas_any h hl a b)
 have HI := Lib.hid (fun (w : World) (D : Nat → Prop) (h : Sl w D 2 (.slice A L.length c) L.length (pcells L)) => rimpl_any h hL hl b a)
 by_cases hra : 1 ≤ a ∧ a ≤ 63
 ·have HRA := Lib.hid (decide_eq_true hra)
  by_cases hrb : 1 ≤ b ∧ b ≤ 63
  ·have HRB := Lib.hid (decide_eq_true hrb)
   by_cases hab : a = b
   ·subst hab
    have HNO : Hid (¬ twoR a a) := Lib.hid fun h => h.2.2 rfl
    clear hra hrb
    go_enter Tryz.func99, Tryz.ntmps99
    go_wp2_with (first
     | ((with_reducible refine qB ?_); (first | refine q1 ?_ ?_ | refine q2 ?_ ?_ | refine q3 ?_ ?_ | refine q4 ?_ ?_ | refine q5 ?_ ?_ | refine q6 ?_ ?_) <;> intro h_ <;> go_prune)
     | (go_at_call 134; refine (rrole_any _ _).mono ?_; (first | rw [HRA.out] | rw [HRB.out]); rintro r_ w_ ⟨_, rfl, rfl, hb_⟩; replace hS := hS.ext hb_; clear hb_))
    go_ret2
    exact .inl ⟨HNO.out, rfl, hS.below⟩
   ·obtain ⟨x, rfl⟩ : ∃ x : Nat, a = (x : Int) := ⟨a.toNat, by omega⟩
    obtain ⟨y, rfl⟩ : ∃ y : Nat, b = (y : Int) := ⟨b.toNat, by omega⟩
    have hx1 : Hid (1 ≤ x ∧ x < 64) := Lib.hid (by omega)
    have hy1 : Hid (1 ≤ y ∧ y < 64) := Lib.hid (by omega)
    have hxy : Hid (x ≠ y) := Lib.hid (by omega)
    have HC1 : Hid (∀ c : Bool, (c = true ↔ ∃ z ∈ L, (x : Int) = (z.1 : Int) ∧ (y : Int) = (z.2 : Int)) → c = decide ((x, y) ∈ L)) := Lib.hid fun c hc => by
     rw [Bool.eq_iff_iff, hc, decide_eq_true_iff]
     constructor
     ·rintro ⟨⟨za, zb⟩, h1, h2, h3⟩
      dsimp only at h2 h3
      obtain rfl : x = za := by omega
      obtain rfl : y = zb := by omega
      exact h1
     ·intro h; exact ⟨_, h, rfl, rfl⟩
    have HC2 : Hid (∀ c : Bool, (c = true ↔ implR L (y : Nat) (x : Nat)) → (c = true ↔ TC L y x)) := Lib.hid fun c hc => hc.trans ⟨fun ⟨i, j, h1, h2, _, _, h3⟩ => by
      obtain rfl : y = i := by omega
      obtain rfl : x = j := by omega
      exact h3.resolve_left fun e => hxy.out e.symm, fun h => ⟨y, x, rfl, rfl, hy1.out, hx1.out, .inr h⟩⟩
    clear hra hrb
    by_cases hm : (x, y) ∈ L
    ·go_enter Tryz.func99, Tryz.ntmps99
     go_wp2_with (first
      | ((with_reducible refine qB ?_); (first | refine q1 ?_ ?_ | refine q2 ?_ ?_ | refine q3 ?_ ?_ | refine q4 ?_ ?_ | refine q5 ?_ ?_ | refine q6 ?_ ?_) <;> intro h_ <;> go_prune)
      | (go_at_call 134; refine (rrole_any _ _).mono ?_; (first | rw [HRA.out] | rw [HRB.out]); rintro r_ w_ ⟨_, rfl, rfl, hb_⟩; replace hS := hS.ext hb_; clear hb_)
      | (go_at_call 135; refine (HH.out _ _ (kp _ _ hS.ro)).mono ?_; rintro r_ w_ ⟨_, rfl, ⟨c, rfl, hc⟩, hb_⟩; replace hc := HC1.out c hc; rw [decide_eq_true hm] at hc; subst hc; replace hS := hS.ext hb_; clear hb_))
     go_ret2
     exact .inr ⟨x, y, rfl, rfl, hx1.out, hy1.out, hxy.out, .inl ⟨hm, rfl, hS.below⟩⟩
    ·by_cases ht : TC L y x
     ·have HT := Lib.hid ht
      have HC3 : Hid (∀ c : Bool, (c = true ↔ implR L (y : Nat) (x : Nat)) → c = true) := Lib.hid fun c hc => (HC2.out c hc).2 ht
      clear ht
      go_enter Tryz.func99, Tryz.ntmps99
      go_wp2_with (first
       | ((with_reducible refine qB ?_); (first | refine q1 ?_ ?_ | refine q2 ?_ ?_ | refine q3 ?_ ?_ | refine q4 ?_ ?_ | refine q5 ?_ ?_ | refine q6 ?_ ?_) <;> intro h_ <;> go_prune)
       | (go_at_call 134; refine (rrole_any _ _).mono ?_; (first | rw [HRA.out] | rw [HRB.out]); rintro r_ w_ ⟨_, rfl, rfl, hb_⟩; replace hS := hS.ext hb_; clear hb_)
       | (go_at_call 135; refine (HH.out _ _ (kp _ _ hS.ro)).mono ?_; rintro r_ w_ ⟨_, rfl, ⟨c, rfl, hc⟩, hb_⟩; replace hc := HC1.out c hc; rw [decide_eq_false hm] at hc; subst hc; replace hS := hS.ext hb_; clear hb_)
       | (go_at_call 136; refine (HI.out _ _ (kp _ _ hS.ro)).mono ?_; rintro r_ w_ ⟨_, rfl, ⟨c, rfl, hc⟩, hb_⟩; obtain rfl := HC3.out c hc; clear hc; replace hS := hS.ext hb_; clear hb_))
      go_ret2
      exact .inr ⟨x, y, rfl, rfl, hx1.out, hy1.out, hxy.out, .inr (.inl ⟨hm, HT.out, rfl, hS.below⟩)⟩
     ·have HT := Lib.hid ht
      have HC3 : Hid (∀ c : Bool, (c = true ↔ implR L (y : Nat) (x : Nat)) → c = false) := Lib.hid fun c hc => by
       cases c with
       | true => exact absurd ((HC2.out true hc).1 rfl) ht
       | false => rfl
      clear ht
      go_enter Tryz.func99, Tryz.ntmps99
      go_wp2_with (first
       | ((with_reducible refine qB ?_); (first | refine q1 ?_ ?_ | refine q2 ?_ ?_ | refine q3 ?_ ?_ | refine q4 ?_ ?_ | refine q5 ?_ ?_ | refine q6 ?_ ?_) <;> intro h_ <;> go_prune)
       | (go_at_call 134; refine (rrole_any _ _).mono ?_; (first | rw [HRA.out] | rw [HRB.out]); rintro r_ w_ ⟨_, rfl, rfl, hb_⟩; replace hS := hS.ext hb_; clear hb_)
       | (go_at_call 135; refine (HH.out _ _ (kp _ _ hS.ro)).mono ?_; rintro r_ w_ ⟨_, rfl, ⟨c, rfl, hc⟩, hb_⟩; replace hc := HC1.out c hc; rw [decide_eq_false hm] at hc; subst hc; replace hS := hS.ext hb_; clear hb_)
       | (go_at_call 136; refine (HI.out _ _ (kp _ _ hS.ro)).mono ?_; rintro r_ w_ ⟨_, rfl, ⟨c, rfl, hc⟩, hb_⟩; obtain rfl := HC3.out c hc; clear hc; replace hS := hS.ext hb_; clear hb_))
      go_loopw [8] (fun v wr => ∃ i : Nat, v = .int .i64 (i : Nat) ∧ i ≤ L.length ∧ Hid (i ≤ insAt L (x, y)) ∧ St w0 wr [] K) (fun v _ => L.length - (intOf v).toNat)
      case atStart => exact ⟨0, rfl, by omega, Lib.hid (Nat.zero_le _), hS⟩
      case round =>
       clear hS HH HI
       obtain ⟨i, rfl, hil, HIA, hS⟩ := hrel
       by_cases hlt : i < L.length
       ·obtain ⟨f1, f2⟩ := pcells_at L i hlt
        have HST := Lib.hid (ins_at HIA.out (getD_at (0, 0) hlt))
        generalize L.getD i (0, 0) = z at *
        obtain ⟨za, zb⟩ := z
        dsimp only at f1 f2
        rcases Nat.lt_trichotomy za x with h1 | h1 | h1
        ·have HN := Lib.hid (HST.out.1 (.inl h1))
         clear HST
         go_wp2_with (first
          | ((with_reducible refine qB ?_); (first | refine q1 ?_ ?_ | refine q2 ?_ ?_ | refine q3 ?_ ?_ | refine q4 ?_ ?_ | refine q5 ?_ ?_ | refine q6 ?_ ?_) <;> intro h_ <;> go_prune)
          | ((with_reducible refine qI ?_); refine qj hS Tryz.underlying32 ?_; intro b_ j_ hc0_ hc1_)
          | ((with_reducible refine qK ?_); first | refine BigFrame.wpList_want rfl fun _ hK => opw_cell rfl rfl (by kernel_rfl) hc0_ (hK _ _ ?_) | refine BigFrame.wpList_want rfl fun _ hK => opw_cell rfl rfl (by kernel_rfl) hc1_ (hK _ _ ?_)))
         exact ⟨⟨i + 1, by go_num, hlt, HN, hS⟩, by simp [intOf]; omega⟩
        ·by_cases h2 : zb < y
         ·have HN := Lib.hid (HST.out.1 (.inr ⟨h1, h2⟩))
          clear HST
          go_wp2_with (first
           | ((with_reducible refine qB ?_); (first | refine q1 ?_ ?_ | refine q2 ?_ ?_ | refine q3 ?_ ?_ | refine q4 ?_ ?_ | refine q5 ?_ ?_ | refine q6 ?_ ?_) <;> intro h_ <;> go_prune)
           | ((with_reducible refine qI ?_); refine qj hS Tryz.underlying32 ?_; intro b_ j_ hc0_ hc1_)
           | ((with_reducible refine qK ?_); first | refine BigFrame.wpList_want rfl fun _ hK => opw_cell rfl rfl (by kernel_rfl) hc0_ (hK _ _ ?_) | refine BigFrame.wpList_want rfl fun _ hK => opw_cell rfl rfl (by kernel_rfl) hc1_ (hK _ _ ?_)))
          exact ⟨⟨i + 1, by go_num, hlt, HN, hS⟩, by simp [intOf]; omega⟩
         ·have HE := Lib.hid (HST.out.2 (by rintro (h | h) <;> dsimp only at h <;> omega))
          clear HST
          go_wp2_with (first
           | ((with_reducible refine qB ?_); (first | refine q1 ?_ ?_ | refine q2 ?_ ?_ | refine q3 ?_ ?_ | refine q4 ?_ ?_ | refine q5 ?_ ?_ | refine q6 ?_ ?_) <;> intro h_ <;> go_prune)
           | ((with_reducible refine qI ?_); refine qj hS Tryz.underlying32 ?_; intro b_ j_ hc0_ hc1_)
           | ((with_reducible refine qK ?_); first | refine BigFrame.wpList_want rfl fun _ hK => opw_cell rfl rfl (by kernel_rfl) hc0_ (hK _ _ ?_) | refine BigFrame.wpList_want rfl fun _ hK => opw_cell rfl rfl (by kernel_rfl) hc1_ (hK _ _ ?_)))
          have hic : i ≤ c := by omega
          have hJ0 : AJ w0 [] K (linkD L (x, y) i) (wr.drew, ⟨[], []⟩) := ⟨hS.drew, Nat.zero_le _⟩
          have hN0 := AN_start linkK wr.drew
          have hRr := @AR.refl w0 [] K (linkD L (x, y) i)
          have hRt := @AR.trans w0 [] K (linkD L (x, y) i)
          refine wp_region_ghost (fun i__ v w => match i__ with
           | 0 => AtS w.2 0 v
           | 1 => v = .slice A L.length c
           | 2 => v = .int .i64 ((i : Nat) : Int)
           | 3 => v = .slice A i c
           | 4 => AtS w.2 1 v
           | 5 => v = .int .i64 ((x : Nat) : Int)
           | 6 => v = .int .i64 ((y : Nat) : Int)
           | 7 => v = .agg #[.int .i64 ((x : Nat) : Int), .int .i64 ((y : Nat) : Int)]
           | 8 => (0, v) ∈ w.2.b
           | 9 => AtS w.2 2 v
           | 10 => v = .slice A L.length c
           | 11 => v = .int .i64 ((i : Nat) : Int)
           | 12 => v = sliced A i L.length c 2
           | 13 => AtS w.2 3 v
           | 14 => AtS w.2 3 v
           | 15 => v = .int .i64 0
           | _ => True) (AR w0 [] K (linkD L (x, y) i)) (AN linkK) (⟨[], []⟩) (by kernel_rfl) (by kernel_rfl) hRr hRt ?mono ?hN ⟨?r0, ?r1, ?r2, ?r3, ?r4, ?r5, ?r6, ?r7, ?r8, ?r9, ?r10, ?r11, ?r12, ?r13, ?r14, ?r15, trivial⟩ ?post
          case hN => first | assumption | (intro i; (try dsimp only); split <;> first | trivial | assumption | (left; assumption))
          case mono =>
           intro i v w w' h hb
           match i, h with
           | 0, h => exact h.mono hb.2.1
           | 1, h | 2, h | 3, h => exact h
           | 4, h => exact h.mono hb.2.1
           | 5, h | 6, h | 7, h => exact h
           | 8, h => exact hb.2.2 _ h
           | 9, h => exact h.mono hb.2.1
           | 10, h | 11, h | 12, h => exact h
           | 13, h => exact h.mono hb.2.1
           | 14, h => exact h.mono hb.2.1
           | 15, h => exact h
           | _ + 16, h => trivial
          case r0 =>
           refine truleGh fun b__ w hW hN hold hpre => wU rfl fun K hK => ?_
           exact chain_start (kd := linkK) (by decide) rfl rfl Tryz.underlying32 (by kernel_rfl) hN rfl rfl (show 0 < 4 by decide) hK
          case r1 =>
           refine truleGh fun b__ w hW hN hold hpre => wU rfl fun K hK => ?_
           have e0 : b__.eval (.tmp 0) = .slice A L.length c := (hold 0 (by kernel_rfl)).trans rfl
           exact opw_move rfl e0 (hK _ _ rfl ⟨hRr _, fun _ _ h => h⟩)
          case r2 =>
           refine truleGh fun b__ w hW hN hold hpre => wU rfl fun K hK => ?_
           have e8 : b__.eval (.tmp 8) = .int .i64 ((i : Nat) : Int) := (hold 8 (by kernel_rfl)).trans rfl
           exact opw_move rfl e8 (hK _ _ rfl ⟨hRr _, fun _ _ h => h⟩)
          case r3 =>
           refine truleGh fun b__ w hW hN hold hpre => wU rfl fun K hK => ?_
           have e67 : b__.eval (.tmp 67) = .slice A L.length c := pq hpre 0 1 67
           have e68 : b__.eval (.tmp 68) = .int .i64 ((i : Nat) : Int) := pq hpre 1 2 68
           exact opw_slh rfl Tryz.underlying32 ⟨2, by kernel_rfl⟩ e67 e68 hic (hK _ _ rfl ⟨hRr _, fun _ _ h => h⟩)
          case r4 =>
           refine truleGh fun b__ w hW hN hold hpre => wU rfl fun K hK => ?_
           have e66 : (fun (v : Value) (w : World × _) => AtS w.2 0 v) (b__.eval (.tmp 66)) w := hpre ⟨0, _⟩ (Array.mem_of_getElem? (i := 0) rfl) rfl _ _ rfl rfl
           have e69 : b__.eval (.tmp 69) = .slice A i c := pq hpre 1 3 69
           exact chain_app (kd := linkK) (by decide) rfl rfl ty_pairs hN e66 (hW.1 hJ0) (by rw [e69]; exact slc_take (kp _ _ (hW.1 hJ0).1.ro) hil) (fun u hu => pcells_one L u (List.mem_of_mem_take hu)) rfl rfl (by simp [linkD]; omega) (by simp [linkD]; omega) (show 0 + 1 < 4 by decide) hK
          case r5 =>
           refine truleGh fun b__ w hW hN hold hpre => wU rfl fun K hK => ?_
           have e1 : b__.eval (.tmp 1) = .int .i64 ((x : Nat) : Int) := (hold 1 (by kernel_rfl)).trans rfl
           exact opw_move rfl e1 (hK _ _ rfl ⟨hRr _, fun _ _ h => h⟩)
          case r6 =>
           refine truleGh fun b__ w hW hN hold hpre => wU rfl fun K hK => ?_
           have e2 : b__.eval (.tmp 2) = .int .i64 ((y : Nat) : Int) := (hold 2 (by kernel_rfl)).trans rfl
           exact opw_move rfl e2 (hK _ _ rfl ⟨hRr _, fun _ _ h => h⟩)
          case r7 =>
           refine truleGh fun b__ w hW hN hold hpre => wU rfl fun K hK => ?_
           have e71 : b__.eval (.tmp 71) = .int .i64 ((x : Nat) : Int) := pq hpre 0 5 71
           have e72 : b__.eval (.tmp 72) = .int .i64 ((y : Nat) : Int) := pq hpre 1 6 72
           exact opw_built rfl (ps := [(0, .int .i64 ((x : Nat) : Int)), (1, .int .i64 ((y : Nat) : Int))]) (cells := #[.int .i64 ((x : Nat) : Int), .int .i64 ((y : Nat) : Int)]) (by simp [e71, e72]) (by kernel_rfl) (hK _ _ rfl ⟨hRr _, fun _ _ h => h⟩)
          case r8 =>
           refine truleGh fun b__ w hW hN hold hpre => wU rfl fun K hK => ?_
           have e73 : b__.eval (.tmp 73) = .agg #[.int .i64 ((x : Nat) : Int), .int .i64 ((y : Nat) : Int)] := pq hpre 0 7 73
           exact chain_side (kd := linkK) (by decide) rfl rfl Tryz.underlying32 (ps := [(0, .agg #[.int .i64 ((x : Nat) : Int), .int .i64 ((y : Nat) : Int)])]) (cells := #[.int .i64 ((x : Nat) : Int), .int .i64 ((y : Nat) : Int)]) (by simp [e73]) (by kernel_rfl) (fun _ => rfl) rfl (by decide) hK
          case r9 =>
           refine truleGh fun b__ w hW hN hold hpre => wU rfl fun K hK => ?_
           have e70 : (fun (v : Value) (w : World × _) => AtS w.2 1 v) (b__.eval (.tmp 70)) w := hpre ⟨4, _⟩ (Array.mem_of_getElem? (i := 0) rfl) rfl _ _ rfl rfl
           have e74 : (fun (v : Value) (w : World × _) => (0, v) ∈ w.2.b) (b__.eval (.tmp 74)) w := hpre ⟨8, _⟩ (Array.mem_of_getElem? (i := 1) rfl) rfl _ _ rfl rfl
           exact chain_app (kd := linkK) (by decide) rfl rfl ty_pairs hN e70 (hW.1 hJ0) (Sl.of_own ((hW.1 hJ0).side e74)) (pcells_one [(x, y)]) rfl rfl (by simp [linkD]; omega) (by simp [linkD]; omega) (show 1 + 1 < 4 by decide) hK
          case r10 =>
           refine truleGh fun b__ w hW hN hold hpre => wU rfl fun K hK => ?_
           have e0 : b__.eval (.tmp 0) = .slice A L.length c := (hold 0 (by kernel_rfl)).trans rfl
           exact opw_move rfl e0 (hK _ _ rfl ⟨hRr _, fun _ _ h => h⟩)
          case r11 =>
           refine truleGh fun b__ w hW hN hold hpre => wU rfl fun K hK => ?_
           have e8 : b__.eval (.tmp 8) = .int .i64 ((i : Nat) : Int) := (hold 8 (by kernel_rfl)).trans rfl
           exact opw_move rfl e8 (hK _ _ rfl ⟨hRr _, fun _ _ h => h⟩)
          case r12 =>
           refine truleGh fun b__ w hW hN hold hpre => wU rfl fun K hK => ?_
           have e76 : b__.eval (.tmp 76) = .slice A L.length c := pq hpre 0 10 76
           have e77 : b__.eval (.tmp 77) = .int .i64 ((i : Nat) : Int) := pq hpre 1 11 77
           exact opw_sll rfl Tryz.underlying32 (by kernel_rfl) e76 e77 hil hc1 (hK _ _ rfl ⟨hRr _, fun _ _ h => h⟩)
          case r13 =>
           refine truleGh fun b__ w hW hN hold hpre => wU rfl fun K hK => ?_
           have e75 : (fun (v : Value) (w : World × _) => AtS w.2 2 v) (b__.eval (.tmp 75)) w := hpre ⟨9, _⟩ (Array.mem_of_getElem? (i := 0) rfl) rfl _ _ rfl rfl
           have e78 : b__.eval (.tmp 78) = sliced A i L.length c 2 := pq hpre 1 12 78
           exact chain_app (kd := linkK) (by decide) rfl rfl ty_pairs hN e75 (hW.1 hJ0) (by rw [e78]; exact slc_drop (kp _ _ (hW.1 hJ0).1.ro) hil) (fun u hu => pcells_one L u (List.mem_of_mem_drop hu)) rfl rfl (by simp [linkD]; omega) (by simp [linkD]; omega) (show 2 + 1 < 4 by decide) hK
          case r14 =>
           refine truleGh fun b__ w hW hN hold hpre => wU rfl fun K hK => ?_
           have e79 : (fun (v : Value) (w : World × _) => AtS w.2 3 v) (b__.eval (.tmp 79)) w := hpre ⟨13, _⟩ (Array.mem_of_getElem? (i := 0) rfl) rfl _ _ rfl rfl
           exact opw_assign rfl rfl (hK _ _ e79 ⟨hRr _, fun _ _ h => h⟩)
          case r15 =>
           refine truleGh fun b__ w hW hN hold hpre => wU rfl fun K hK => ?_
           exact opw_assign rfl rfl (hK _ _ rfl ⟨hRr _, fun _ _ h => h⟩)
          case post =>
           intro b__ wz hW hdf hsz hold hT hZ
           have e66 : (fun (v : Value) (w : World × _) => AtS w.2 0 v) (b__.eval (.tmp 66)) wz := hT 0 _ 66 rfl rfl
           have e67 : b__.eval (.tmp 67) = .slice A L.length c := hT 1 _ 67 rfl rfl
           have e68 : b__.eval (.tmp 68) = .int .i64 ((i : Nat) : Int) := hT 2 _ 68 rfl rfl
           have e69 : b__.eval (.tmp 69) = .slice A i c := hT 3 _ 69 rfl rfl
           have e70 : (fun (v : Value) (w : World × _) => AtS w.2 1 v) (b__.eval (.tmp 70)) wz := hT 4 _ 70 rfl rfl
           have e71 : b__.eval (.tmp 71) = .int .i64 ((x : Nat) : Int) := hT 5 _ 71 rfl rfl
           have e72 : b__.eval (.tmp 72) = .int .i64 ((y : Nat) : Int) := hT 6 _ 72 rfl rfl
           have e73 : b__.eval (.tmp 73) = .agg #[.int .i64 ((x : Nat) : Int), .int .i64 ((y : Nat) : Int)] := hT 7 _ 73 rfl rfl
           have e74 : (fun (v : Value) (w : World × _) => (0, v) ∈ w.2.b) (b__.eval (.tmp 74)) wz := hT 8 _ 74 rfl rfl
           have e75 : (fun (v : Value) (w : World × _) => AtS w.2 2 v) (b__.eval (.tmp 75)) wz := hT 9 _ 75 rfl rfl
           have e76 : b__.eval (.tmp 76) = .slice A L.length c := hT 10 _ 76 rfl rfl
           have e77 : b__.eval (.tmp 77) = .int .i64 ((i : Nat) : Int) := hT 11 _ 77 rfl rfl
           have e78 : b__.eval (.tmp 78) = sliced A i L.length c 2 := hT 12 _ 78 rfl rfl
           have e79 : (fun (v : Value) (w : World × _) => AtS w.2 3 v) (b__.eval (.tmp 79)) wz := hT 13 _ 79 rfl rfl
           have e6 : (fun (v : Value) (w : World × _) => AtS w.2 3 v) (b__.eval (.tmp 6)) wz := hT 14 _ 6 rfl rfl
           have e7 : b__.eval (.tmp 7) = .int .i64 0 := hT 15 _ 7 rfl rfl
           obtain ⟨vs, hvs, hb⟩ := frame_of hdf hsz hold
           replace e66 := (hvs 66) ▸ e66
           replace e67 : vs 67 = .slice A L.length c := (hvs 67).symm.trans e67
           replace e68 : vs 68 = .int .i64 ((i : Nat) : Int) := (hvs 68).symm.trans e68
           replace e69 : vs 69 = .slice A i c := (hvs 69).symm.trans e69
           replace e70 := (hvs 70) ▸ e70
           replace e71 : vs 71 = .int .i64 ((x : Nat) : Int) := (hvs 71).symm.trans e71
           replace e72 : vs 72 = .int .i64 ((y : Nat) : Int) := (hvs 72).symm.trans e72
           replace e73 : vs 73 = .agg #[.int .i64 ((x : Nat) : Int), .int .i64 ((y : Nat) : Int)] := (hvs 73).symm.trans e73
           replace e74 := (hvs 74) ▸ e74
           replace e75 := (hvs 75) ▸ e75
           replace e76 : vs 76 = .slice A L.length c := (hvs 76).symm.trans e76
           replace e77 : vs 77 = .int .i64 ((i : Nat) : Int) := (hvs 77).symm.trans e77
           replace e78 : vs 78 = sliced A i L.length c 2 := (hvs 78).symm.trans e78
           replace e79 := (hvs 79) ▸ e79
           replace e6 := (hvs 6) ▸ e6
           replace e7 : vs 7 = .int .i64 0 := (hvs 7).symm.trans e7
           subst hb
           clear hvs hold hT hdf hsz
           simp only [setAll, Act.put, List.setIfInBounds_toArray, List.set_cons_zero, List.set_cons_succ, List.getElem_toArray, List.getElem_cons_succ, List.getElem_cons_zero]
           have hJ := (hW.1 hJ0).last e6 rfl
           replace hJ : St w0 wz.1 [.own (vs 6) 122 2 (L.length + 1) (pcells (ins L (x, y)))] fun _ _ => True := by
            have e1 : 0 + i + 1 + (L.length - i) = L.length + 1 := by omega
            have e2 : [] ++ (pcells L).take (i * 2) ++ pcells [(x, y)] ++ (pcells L).drop (i * 2) = pcells (ins L (x, y)) := by
             rw [List.nil_append, pcells_take, pcells_drop, ← pcells_app, ← pcells_app, ins, ← HE.out, List.append_assoc]; rfl
            simp only [linkD] at hJ
            rw [e1, e2] at hJ
            exact hJ.mono (Stable.pure True) fun _ _ _ => trivial
           rw [e7]
           generalize vs 6 = v6 at *
           generalize wz.1 = wf at *
           clear hW hZ hJ0 hRr hRt e6 e7
           go_wp2_with fail
           all_goals
            go_ret2
            exact .inr ⟨x, y, rfl, rfl, hx1.out, hy1.out, hxy.out, .inr (.inr ⟨hm, HT.out, _, rfl, hJ⟩)⟩
        ·have HE := Lib.hid (HST.out.2 (by rintro (h | h) <;> dsimp only at h <;> omega))
         clear HST
         go_wp2_with (first
          | ((with_reducible refine qB ?_); (first | refine q1 ?_ ?_ | refine q2 ?_ ?_ | refine q3 ?_ ?_ | refine q4 ?_ ?_ | refine q5 ?_ ?_ | refine q6 ?_ ?_) <;> intro h_ <;> go_prune)
          | ((with_reducible refine qI ?_); refine qj hS Tryz.underlying32 ?_; intro b_ j_ hc0_ hc1_)
          | ((with_reducible refine qK ?_); first | refine BigFrame.wpList_want rfl fun _ hK => opw_cell rfl rfl (by kernel_rfl) hc0_ (hK _ _ ?_) | refine BigFrame.wpList_want rfl fun _ hK => opw_cell rfl rfl (by kernel_rfl) hc1_ (hK _ _ ?_)))
         have hic : i ≤ c := by omega
         have hJ0 : AJ w0 [] K (linkD L (x, y) i) (wr.drew, ⟨[], []⟩) := ⟨hS.drew, Nat.zero_le _⟩
         have hN0 := AN_start linkK wr.drew
         have hRr := @AR.refl w0 [] K (linkD L (x, y) i)
         have hRt := @AR.trans w0 [] K (linkD L (x, y) i)
         refine wp_region_ghost (fun i__ v w => match i__ with
          | 0 => AtS w.2 0 v
          | 1 => v = .slice A L.length c
          | 2 => v = .int .i64 ((i : Nat) : Int)
          | 3 => v = .slice A i c
          | 4 => AtS w.2 1 v
          | 5 => v = .int .i64 ((x : Nat) : Int)
          | 6 => v = .int .i64 ((y : Nat) : Int)
          | 7 => v = .agg #[.int .i64 ((x : Nat) : Int), .int .i64 ((y : Nat) : Int)]
          | 8 => (0, v) ∈ w.2.b
          | 9 => AtS w.2 2 v
          | 10 => v = .slice A L.length c
          | 11 => v = .int .i64 ((i : Nat) : Int)
          | 12 => v = sliced A i L.length c 2
          | 13 => AtS w.2 3 v
          | 14 => AtS w.2 3 v
          | 15 => v = .int .i64 0
          | _ => True) (AR w0 [] K (linkD L (x, y) i)) (AN linkK) (⟨[], []⟩) (by kernel_rfl) (by kernel_rfl) hRr hRt ?mono ?hN ⟨?r0, ?r1, ?r2, ?r3, ?r4, ?r5, ?r6, ?r7, ?r8, ?r9, ?r10, ?r11, ?r12, ?r13, ?r14, ?r15, trivial⟩ ?post
         case hN => first | assumption | (intro i; (try dsimp only); split <;> first | trivial | assumption | (left; assumption))
         case mono =>
          intro i v w w' h hb
          match i, h with
          | 0, h => exact h.mono hb.2.1
          | 1, h | 2, h | 3, h => exact h
          | 4, h => exact h.mono hb.2.1
          | 5, h | 6, h | 7, h => exact h
          | 8, h => exact hb.2.2 _ h
          | 9, h => exact h.mono hb.2.1
          | 10, h | 11, h | 12, h => exact h
          | 13, h => exact h.mono hb.2.1
          | 14, h => exact h.mono hb.2.1
          | 15, h => exact h
          | _ + 16, h => trivial
         case r0 =>
          refine truleGh fun b__ w hW hN hold hpre => wU rfl fun K hK => ?_
          exact chain_start (kd := linkK) (by decide) rfl rfl Tryz.underlying32 (by kernel_rfl) hN rfl rfl (show 0 < 4 by decide) hK
         case r1 =>
          refine truleGh fun b__ w hW hN hold hpre => wU rfl fun K hK => ?_
          have e0 : b__.eval (.tmp 0) = .slice A L.length c := (hold 0 (by kernel_rfl)).trans rfl
          exact opw_move rfl e0 (hK _ _ rfl ⟨hRr _, fun _ _ h => h⟩)
         case r2 =>
          refine truleGh fun b__ w hW hN hold hpre => wU rfl fun K hK => ?_
          have e8 : b__.eval (.tmp 8) = .int .i64 ((i : Nat) : Int) := (hold 8 (by kernel_rfl)).trans rfl
          exact opw_move rfl e8 (hK _ _ rfl ⟨hRr _, fun _ _ h => h⟩)
         case r3 =>
          refine truleGh fun b__ w hW hN hold hpre => wU rfl fun K hK => ?_
          have e67 : b__.eval (.tmp 67) = .slice A L.length c := pq hpre 0 1 67
          have e68 : b__.eval (.tmp 68) = .int .i64 ((i : Nat) : Int) := pq hpre 1 2 68
          exact opw_slh rfl Tryz.underlying32 ⟨2, by kernel_rfl⟩ e67 e68 hic (hK _ _ rfl ⟨hRr _, fun _ _ h => h⟩)
         case r4 =>
          refine truleGh fun b__ w hW hN hold hpre => wU rfl fun K hK => ?_
          have e66 : (fun (v : Value) (w : World × _) => AtS w.2 0 v) (b__.eval (.tmp 66)) w := hpre ⟨0, _⟩ (Array.mem_of_getElem? (i := 0) rfl) rfl _ _ rfl rfl
          have e69 : b__.eval (.tmp 69) = .slice A i c := pq hpre 1 3 69
          exact chain_app (kd := linkK) (by decide) rfl rfl ty_pairs hN e66 (hW.1 hJ0) (by rw [e69]; exact slc_take (kp _ _ (hW.1 hJ0).1.ro) hil) (fun u hu => pcells_one L u (List.mem_of_mem_take hu)) rfl rfl (by simp [linkD]; omega) (by simp [linkD]; omega) (show 0 + 1 < 4 by decide) hK
         case r5 =>
          refine truleGh fun b__ w hW hN hold hpre => wU rfl fun K hK => ?_
          have e1 : b__.eval (.tmp 1) = .int .i64 ((x : Nat) : Int) := (hold 1 (by kernel_rfl)).trans rfl
          exact opw_move rfl e1 (hK _ _ rfl ⟨hRr _, fun _ _ h => h⟩)
         case r6 =>
          refine truleGh fun b__ w hW hN hold hpre => wU rfl fun K hK => ?_
          have e2 : b__.eval (.tmp 2) = .int .i64 ((y : Nat) : Int) := (hold 2 (by kernel_rfl)).trans rfl
          exact opw_move rfl e2 (hK _ _ rfl ⟨hRr _, fun _ _ h => h⟩)
         case r7 =>
          refine truleGh fun b__ w hW hN hold hpre => wU rfl fun K hK => ?_
          have e71 : b__.eval (.tmp 71) = .int .i64 ((x : Nat) : Int) := pq hpre 0 5 71
          have e72 : b__.eval (.tmp 72) = .int .i64 ((y : Nat) : Int) := pq hpre 1 6 72
          exact opw_built rfl (ps := [(0, .int .i64 ((x : Nat) : Int)), (1, .int .i64 ((y : Nat) : Int))]) (cells := #[.int .i64 ((x : Nat) : Int), .int .i64 ((y : Nat) : Int)]) (by simp [e71, e72]) (by kernel_rfl) (hK _ _ rfl ⟨hRr _, fun _ _ h => h⟩)
         case r8 =>
          refine truleGh fun b__ w hW hN hold hpre => wU rfl fun K hK => ?_
          have e73 : b__.eval (.tmp 73) = .agg #[.int .i64 ((x : Nat) : Int), .int .i64 ((y : Nat) : Int)] := pq hpre 0 7 73
          exact chain_side (kd := linkK) (by decide) rfl rfl Tryz.underlying32 (ps := [(0, .agg #[.int .i64 ((x : Nat) : Int), .int .i64 ((y : Nat) : Int)])]) (cells := #[.int .i64 ((x : Nat) : Int), .int .i64 ((y : Nat) : Int)]) (by simp [e73]) (by kernel_rfl) (fun _ => rfl) rfl (by decide) hK
         case r9 =>
          refine truleGh fun b__ w hW hN hold hpre => wU rfl fun K hK => ?_
          have e70 : (fun (v : Value) (w : World × _) => AtS w.2 1 v) (b__.eval (.tmp 70)) w := hpre ⟨4, _⟩ (Array.mem_of_getElem? (i := 0) rfl) rfl _ _ rfl rfl
          have e74 : (fun (v : Value) (w : World × _) => (0, v) ∈ w.2.b) (b__.eval (.tmp 74)) w := hpre ⟨8, _⟩ (Array.mem_of_getElem? (i := 1) rfl) rfl _ _ rfl rfl
          exact chain_app (kd := linkK) (by decide) rfl rfl ty_pairs hN e70 (hW.1 hJ0) (Sl.of_own ((hW.1 hJ0).side e74)) (pcells_one [(x, y)]) rfl rfl (by simp [linkD]; omega) (by simp [linkD]; omega) (show 1 + 1 < 4 by decide) hK
         case r10 =>
          refine truleGh fun b__ w hW hN hold hpre => wU rfl fun K hK => ?_
          have e0 : b__.eval (.tmp 0) = .slice A L.length c := (hold 0 (by kernel_rfl)).trans rfl
          exact opw_move rfl e0 (hK _ _ rfl ⟨hRr _, fun _ _ h => h⟩)
         case r11 =>
          refine truleGh fun b__ w hW hN hold hpre => wU rfl fun K hK => ?_
          have e8 : b__.eval (.tmp 8) = .int .i64 ((i : Nat) : Int) := (hold 8 (by kernel_rfl)).trans rfl
          exact opw_move rfl e8 (hK _ _ rfl ⟨hRr _, fun _ _ h => h⟩)
         case r12 =>
          refine truleGh fun b__ w hW hN hold hpre => wU rfl fun K hK => ?_
          have e76 : b__.eval (.tmp 76) = .slice A L.length c := pq hpre 0 10 76
          have e77 : b__.eval (.tmp 77) = .int .i64 ((i : Nat) : Int) := pq hpre 1 11 77
          exact opw_sll rfl Tryz.underlying32 (by kernel_rfl) e76 e77 hil hc1 (hK _ _ rfl ⟨hRr _, fun _ _ h => h⟩)
         case r13 =>
          refine truleGh fun b__ w hW hN hold hpre => wU rfl fun K hK => ?_
          have e75 : (fun (v : Value) (w : World × _) => AtS w.2 2 v) (b__.eval (.tmp 75)) w := hpre ⟨9, _⟩ (Array.mem_of_getElem? (i := 0) rfl) rfl _ _ rfl rfl
          have e78 : b__.eval (.tmp 78) = sliced A i L.length c 2 := pq hpre 1 12 78
          exact chain_app (kd := linkK) (by decide) rfl rfl ty_pairs hN e75 (hW.1 hJ0) (by rw [e78]; exact slc_drop (kp _ _ (hW.1 hJ0).1.ro) hil) (fun u hu => pcells_one L u (List.mem_of_mem_drop hu)) rfl rfl (by simp [linkD]; omega) (by simp [linkD]; omega) (show 2 + 1 < 4 by decide) hK
         case r14 =>
          refine truleGh fun b__ w hW hN hold hpre => wU rfl fun K hK => ?_
          have e79 : (fun (v : Value) (w : World × _) => AtS w.2 3 v) (b__.eval (.tmp 79)) w := hpre ⟨13, _⟩ (Array.mem_of_getElem? (i := 0) rfl) rfl _ _ rfl rfl
          exact opw_assign rfl rfl (hK _ _ e79 ⟨hRr _, fun _ _ h => h⟩)
         case r15 =>
          refine truleGh fun b__ w hW hN hold hpre => wU rfl fun K hK => ?_
          exact opw_assign rfl rfl (hK _ _ rfl ⟨hRr _, fun _ _ h => h⟩)
         case post =>
          intro b__ wz hW hdf hsz hold hT hZ
          have e66 : (fun (v : Value) (w : World × _) => AtS w.2 0 v) (b__.eval (.tmp 66)) wz := hT 0 _ 66 rfl rfl
          have e67 : b__.eval (.tmp 67) = .slice A L.length c := hT 1 _ 67 rfl rfl
          have e68 : b__.eval (.tmp 68) = .int .i64 ((i : Nat) : Int) := hT 2 _ 68 rfl rfl
          have e69 : b__.eval (.tmp 69) = .slice A i c := hT 3 _ 69 rfl rfl
          have e70 : (fun (v : Value) (w : World × _) => AtS w.2 1 v) (b__.eval (.tmp 70)) wz := hT 4 _ 70 rfl rfl
          have e71 : b__.eval (.tmp 71) = .int .i64 ((x : Nat) : Int) := hT 5 _ 71 rfl rfl
          have e72 : b__.eval (.tmp 72) = .int .i64 ((y : Nat) : Int) := hT 6 _ 72 rfl rfl
          have e73 : b__.eval (.tmp 73) = .agg #[.int .i64 ((x : Nat) : Int), .int .i64 ((y : Nat) : Int)] := hT 7 _ 73 rfl rfl
          have e74 : (fun (v : Value) (w : World × _) => (0, v) ∈ w.2.b) (b__.eval (.tmp 74)) wz := hT 8 _ 74 rfl rfl
          have e75 : (fun (v : Value) (w : World × _) => AtS w.2 2 v) (b__.eval (.tmp 75)) wz := hT 9 _ 75 rfl rfl
          have e76 : b__.eval (.tmp 76) = .slice A L.length c := hT 10 _ 76 rfl rfl
          have e77 : b__.eval (.tmp 77) = .int .i64 ((i : Nat) : Int) := hT 11 _ 77 rfl rfl
          have e78 : b__.eval (.tmp 78) = sliced A i L.length c 2 := hT 12 _ 78 rfl rfl
          have e79 : (fun (v : Value) (w : World × _) => AtS w.2 3 v) (b__.eval (.tmp 79)) wz := hT 13 _ 79 rfl rfl
          have e6 : (fun (v : Value) (w : World × _) => AtS w.2 3 v) (b__.eval (.tmp 6)) wz := hT 14 _ 6 rfl rfl
          have e7 : b__.eval (.tmp 7) = .int .i64 0 := hT 15 _ 7 rfl rfl
          obtain ⟨vs, hvs, hb⟩ := frame_of hdf hsz hold
          replace e66 := (hvs 66) ▸ e66
          replace e67 : vs 67 = .slice A L.length c := (hvs 67).symm.trans e67
          replace e68 : vs 68 = .int .i64 ((i : Nat) : Int) := (hvs 68).symm.trans e68
          replace e69 : vs 69 = .slice A i c := (hvs 69).symm.trans e69
          replace e70 := (hvs 70) ▸ e70
          replace e71 : vs 71 = .int .i64 ((x : Nat) : Int) := (hvs 71).symm.trans e71
          replace e72 : vs 72 = .int .i64 ((y : Nat) : Int) := (hvs 72).symm.trans e72
          replace e73 : vs 73 = .agg #[.int .i64 ((x : Nat) : Int), .int .i64 ((y : Nat) : Int)] := (hvs 73).symm.trans e73
          replace e74 := (hvs 74) ▸ e74
          replace e75 := (hvs 75) ▸ e75
          replace e76 : vs 76 = .slice A L.length c := (hvs 76).symm.trans e76
          replace e77 : vs 77 = .int .i64 ((i : Nat) : Int) := (hvs 77).symm.trans e77
          replace e78 : vs 78 = sliced A i L.length c 2 := (hvs 78).symm.trans e78
          replace e79 := (hvs 79) ▸ e79
          replace e6 := (hvs 6) ▸ e6
          replace e7 : vs 7 = .int .i64 0 := (hvs 7).symm.trans e7
          subst hb
          clear hvs hold hT hdf hsz
          simp only [setAll, Act.put, List.setIfInBounds_toArray, List.set_cons_zero, List.set_cons_succ, List.getElem_toArray, List.getElem_cons_succ, List.getElem_cons_zero]
          have hJ := (hW.1 hJ0).last e6 rfl
          replace hJ : St w0 wz.1 [.own (vs 6) 122 2 (L.length + 1) (pcells (ins L (x, y)))] fun _ _ => True := by
           have e1 : 0 + i + 1 + (L.length - i) = L.length + 1 := by omega
           have e2 : [] ++ (pcells L).take (i * 2) ++ pcells [(x, y)] ++ (pcells L).drop (i * 2) = pcells (ins L (x, y)) := by
            rw [List.nil_append, pcells_take, pcells_drop, ← pcells_app, ← pcells_app, ins, ← HE.out, List.append_assoc]; rfl
           simp only [linkD] at hJ
           rw [e1, e2] at hJ
           exact hJ.mono (Stable.pure True) fun _ _ _ => trivial
          rw [e7]
          generalize vs 6 = v6 at *
          generalize wz.1 = wf at *
          clear hW hZ hJ0 hRr hRt e6 e7
          go_wp2_with fail
          all_goals
           go_ret2
           exact .inr ⟨x, y, rfl, rfl, hx1.out, hy1.out, hxy.out, .inr (.inr ⟨hm, HT.out, _, rfl, hJ⟩)⟩
       ·have HE : Hid (i = insAt L (x, y)) := Lib.hid (Nat.le_antisymm HIA.out (by have := insAt_le L (x, y); omega))
        go_wp2_with (first | ((with_reducible refine qB ?_); (first | refine q1 ?_ ?_ | refine q2 ?_ ?_ | refine q3 ?_ ?_ | refine q4 ?_ ?_ | refine q5 ?_ ?_ | refine q6 ?_ ?_) <;> intro h_ <;> go_prune))
        have hic : i ≤ c := by omega
        have hJ0 : AJ w0 [] K (linkD L (x, y) i) (wr.drew, ⟨[], []⟩) := ⟨hS.drew, Nat.zero_le _⟩
        have hN0 := AN_start linkK wr.drew
        have hRr := @AR.refl w0 [] K (linkD L (x, y) i)
        have hRt := @AR.trans w0 [] K (linkD L (x, y) i)
        refine wp_region_ghost (fun i__ v w => match i__ with
         | 0 => AtS w.2 0 v
         | 1 => v = .slice A L.length c
         | 2 => v = .int .i64 ((i : Nat) : Int)
         | 3 => v = .slice A i c
         | 4 => AtS w.2 1 v
         | 5 => v = .int .i64 ((x : Nat) : Int)
         | 6 => v = .int .i64 ((y : Nat) : Int)
         | 7 => v = .agg #[.int .i64 ((x : Nat) : Int), .int .i64 ((y : Nat) : Int)]
         | 8 => (0, v) ∈ w.2.b
         | 9 => AtS w.2 2 v
         | 10 => v = .slice A L.length c
         | 11 => v = .int .i64 ((i : Nat) : Int)
         | 12 => v = sliced A i L.length c 2
         | 13 => AtS w.2 3 v
         | 14 => AtS w.2 3 v
         | 15 => v = .int .i64 0
         | _ => True) (AR w0 [] K (linkD L (x, y) i)) (AN linkK) (⟨[], []⟩) (by kernel_rfl) (by kernel_rfl) hRr hRt ?mono ?hN ⟨?r0, ?r1, ?r2, ?r3, ?r4, ?r5, ?r6, ?r7, ?r8, ?r9, ?r10, ?r11, ?r12, ?r13, ?r14, ?r15, trivial⟩ ?post
        case hN => first | assumption | (intro i; (try dsimp only); split <;> first | trivial | assumption | (left; assumption))
        case mono =>
         intro i v w w' h hb
         match i, h with
         | 0, h => exact h.mono hb.2.1
         | 1, h | 2, h | 3, h => exact h
         | 4, h => exact h.mono hb.2.1
         | 5, h | 6, h | 7, h => exact h
         | 8, h => exact hb.2.2 _ h
         | 9, h => exact h.mono hb.2.1
         | 10, h | 11, h | 12, h => exact h
         | 13, h => exact h.mono hb.2.1
         | 14, h => exact h.mono hb.2.1
         | 15, h => exact h
         | _ + 16, h => trivial
        case r0 =>
         refine truleGh fun b__ w hW hN hold hpre => wU rfl fun K hK => ?_
         exact chain_start (kd := linkK) (by decide) rfl rfl Tryz.underlying32 (by kernel_rfl) hN rfl rfl (show 0 < 4 by decide) hK
        case r1 =>
         refine truleGh fun b__ w hW hN hold hpre => wU rfl fun K hK => ?_
         have e0 : b__.eval (.tmp 0) = .slice A L.length c := (hold 0 (by kernel_rfl)).trans rfl
         exact opw_move rfl e0 (hK _ _ rfl ⟨hRr _, fun _ _ h => h⟩)
        case r2 =>
         refine truleGh fun b__ w hW hN hold hpre => wU rfl fun K hK => ?_
         have e8 : b__.eval (.tmp 8) = .int .i64 ((i : Nat) : Int) := (hold 8 (by kernel_rfl)).trans rfl
         exact opw_move rfl e8 (hK _ _ rfl ⟨hRr _, fun _ _ h => h⟩)
        case r3 =>
         refine truleGh fun b__ w hW hN hold hpre => wU rfl fun K hK => ?_
         have e67 : b__.eval (.tmp 67) = .slice A L.length c := pq hpre 0 1 67
         have e68 : b__.eval (.tmp 68) = .int .i64 ((i : Nat) : Int) := pq hpre 1 2 68
         exact opw_slh rfl Tryz.underlying32 ⟨2, by kernel_rfl⟩ e67 e68 hic (hK _ _ rfl ⟨hRr _, fun _ _ h => h⟩)
        case r4 =>
         refine truleGh fun b__ w hW hN hold hpre => wU rfl fun K hK => ?_
         have e66 : (fun (v : Value) (w : World × _) => AtS w.2 0 v) (b__.eval (.tmp 66)) w := hpre ⟨0, _⟩ (Array.mem_of_getElem? (i := 0) rfl) rfl _ _ rfl rfl
         have e69 : b__.eval (.tmp 69) = .slice A i c := pq hpre 1 3 69
         exact chain_app (kd := linkK) (by decide) rfl rfl ty_pairs hN e66 (hW.1 hJ0) (by rw [e69]; exact slc_take (kp _ _ (hW.1 hJ0).1.ro) hil) (fun u hu => pcells_one L u (List.mem_of_mem_take hu)) rfl rfl (by simp [linkD]; omega) (by simp [linkD]; omega) (show 0 + 1 < 4 by decide) hK
        case r5 =>
         refine truleGh fun b__ w hW hN hold hpre => wU rfl fun K hK => ?_
         have e1 : b__.eval (.tmp 1) = .int .i64 ((x : Nat) : Int) := (hold 1 (by kernel_rfl)).trans rfl
         exact opw_move rfl e1 (hK _ _ rfl ⟨hRr _, fun _ _ h => h⟩)
        case r6 =>
         refine truleGh fun b__ w hW hN hold hpre => wU rfl fun K hK => ?_
         have e2 : b__.eval (.tmp 2) = .int .i64 ((y : Nat) : Int) := (hold 2 (by kernel_rfl)).trans rfl
         exact opw_move rfl e2 (hK _ _ rfl ⟨hRr _, fun _ _ h => h⟩)
        case r7 =>
         refine truleGh fun b__ w hW hN hold hpre => wU rfl fun K hK => ?_
         have e71 : b__.eval (.tmp 71) = .int .i64 ((x : Nat) : Int) := pq hpre 0 5 71
         have e72 : b__.eval (.tmp 72) = .int .i64 ((y : Nat) : Int) := pq hpre 1 6 72
         exact opw_built rfl (ps := [(0, .int .i64 ((x : Nat) : Int)), (1, .int .i64 ((y : Nat) : Int))]) (cells := #[.int .i64 ((x : Nat) : Int), .int .i64 ((y : Nat) : Int)]) (by simp [e71, e72]) (by kernel_rfl) (hK _ _ rfl ⟨hRr _, fun _ _ h => h⟩)
        case r8 =>
         refine truleGh fun b__ w hW hN hold hpre => wU rfl fun K hK => ?_
         have e73 : b__.eval (.tmp 73) = .agg #[.int .i64 ((x : Nat) : Int), .int .i64 ((y : Nat) : Int)] := pq hpre 0 7 73
         exact chain_side (kd := linkK) (by decide) rfl rfl Tryz.underlying32 (ps := [(0, .agg #[.int .i64 ((x : Nat) : Int), .int .i64 ((y : Nat) : Int)])]) (cells := #[.int .i64 ((x : Nat) : Int), .int .i64 ((y : Nat) : Int)]) (by simp [e73]) (by kernel_rfl) (fun _ => rfl) rfl (by decide) hK
        case r9 =>
         refine truleGh fun b__ w hW hN hold hpre => wU rfl fun K hK => ?_
         have e70 : (fun (v : Value) (w : World × _) => AtS w.2 1 v) (b__.eval (.tmp 70)) w := hpre ⟨4, _⟩ (Array.mem_of_getElem? (i := 0) rfl) rfl _ _ rfl rfl
         have e74 : (fun (v : Value) (w : World × _) => (0, v) ∈ w.2.b) (b__.eval (.tmp 74)) w := hpre ⟨8, _⟩ (Array.mem_of_getElem? (i := 1) rfl) rfl _ _ rfl rfl
         exact chain_app (kd := linkK) (by decide) rfl rfl ty_pairs hN e70 (hW.1 hJ0) (Sl.of_own ((hW.1 hJ0).side e74)) (pcells_one [(x, y)]) rfl rfl (by simp [linkD]; omega) (by simp [linkD]; omega) (show 1 + 1 < 4 by decide) hK
        case r10 =>
         refine truleGh fun b__ w hW hN hold hpre => wU rfl fun K hK => ?_
         have e0 : b__.eval (.tmp 0) = .slice A L.length c := (hold 0 (by kernel_rfl)).trans rfl
         exact opw_move rfl e0 (hK _ _ rfl ⟨hRr _, fun _ _ h => h⟩)
        case r11 =>
         refine truleGh fun b__ w hW hN hold hpre => wU rfl fun K hK => ?_
         have e8 : b__.eval (.tmp 8) = .int .i64 ((i : Nat) : Int) := (hold 8 (by kernel_rfl)).trans rfl
         exact opw_move rfl e8 (hK _ _ rfl ⟨hRr _, fun _ _ h => h⟩)
        case r12 =>
         refine truleGh fun b__ w hW hN hold hpre => wU rfl fun K hK => ?_
         have e76 : b__.eval (.tmp 76) = .slice A L.length c := pq hpre 0 10 76
         have e77 : b__.eval (.tmp 77) = .int .i64 ((i : Nat) : Int) := pq hpre 1 11 77
         exact opw_sll rfl Tryz.underlying32 (by kernel_rfl) e76 e77 hil hc1 (hK _ _ rfl ⟨hRr _, fun _ _ h => h⟩)
        case r13 =>
         refine truleGh fun b__ w hW hN hold hpre => wU rfl fun K hK => ?_
         have e75 : (fun (v : Value) (w : World × _) => AtS w.2 2 v) (b__.eval (.tmp 75)) w := hpre ⟨9, _⟩ (Array.mem_of_getElem? (i := 0) rfl) rfl _ _ rfl rfl
         have e78 : b__.eval (.tmp 78) = sliced A i L.length c 2 := pq hpre 1 12 78
         exact chain_app (kd := linkK) (by decide) rfl rfl ty_pairs hN e75 (hW.1 hJ0) (by rw [e78]; exact slc_drop (kp _ _ (hW.1 hJ0).1.ro) hil) (fun u hu => pcells_one L u (List.mem_of_mem_drop hu)) rfl rfl (by simp [linkD]; omega) (by simp [linkD]; omega) (show 2 + 1 < 4 by decide) hK
        case r14 =>
         refine truleGh fun b__ w hW hN hold hpre => wU rfl fun K hK => ?_
         have e79 : (fun (v : Value) (w : World × _) => AtS w.2 3 v) (b__.eval (.tmp 79)) w := hpre ⟨13, _⟩ (Array.mem_of_getElem? (i := 0) rfl) rfl _ _ rfl rfl
         exact opw_assign rfl rfl (hK _ _ e79 ⟨hRr _, fun _ _ h => h⟩)
        case r15 =>
         refine truleGh fun b__ w hW hN hold hpre => wU rfl fun K hK => ?_
         exact opw_assign rfl rfl (hK _ _ rfl ⟨hRr _, fun _ _ h => h⟩)
        case post =>
         intro b__ wz hW hdf hsz hold hT hZ
         have e66 : (fun (v : Value) (w : World × _) => AtS w.2 0 v) (b__.eval (.tmp 66)) wz := hT 0 _ 66 rfl rfl
         have e67 : b__.eval (.tmp 67) = .slice A L.length c := hT 1 _ 67 rfl rfl
         have e68 : b__.eval (.tmp 68) = .int .i64 ((i : Nat) : Int) := hT 2 _ 68 rfl rfl
         have e69 : b__.eval (.tmp 69) = .slice A i c := hT 3 _ 69 rfl rfl
         have e70 : (fun (v : Value) (w : World × _) => AtS w.2 1 v) (b__.eval (.tmp 70)) wz := hT 4 _ 70 rfl rfl
         have e71 : b__.eval (.tmp 71) = .int .i64 ((x : Nat) : Int) := hT 5 _ 71 rfl rfl
         have e72 : b__.eval (.tmp 72) = .int .i64 ((y : Nat) : Int) := hT 6 _ 72 rfl rfl
         have e73 : b__.eval (.tmp 73) = .agg #[.int .i64 ((x : Nat) : Int), .int .i64 ((y : Nat) : Int)] := hT 7 _ 73 rfl rfl
         have e74 : (fun (v : Value) (w : World × _) => (0, v) ∈ w.2.b) (b__.eval (.tmp 74)) wz := hT 8 _ 74 rfl rfl
         have e75 : (fun (v : Value) (w : World × _) => AtS w.2 2 v) (b__.eval (.tmp 75)) wz := hT 9 _ 75 rfl rfl
         have e76 : b__.eval (.tmp 76) = .slice A L.length c := hT 10 _ 76 rfl rfl
         have e77 : b__.eval (.tmp 77) = .int .i64 ((i : Nat) : Int) := hT 11 _ 77 rfl rfl
         have e78 : b__.eval (.tmp 78) = sliced A i L.length c 2 := hT 12 _ 78 rfl rfl
         have e79 : (fun (v : Value) (w : World × _) => AtS w.2 3 v) (b__.eval (.tmp 79)) wz := hT 13 _ 79 rfl rfl
         have e6 : (fun (v : Value) (w : World × _) => AtS w.2 3 v) (b__.eval (.tmp 6)) wz := hT 14 _ 6 rfl rfl
         have e7 : b__.eval (.tmp 7) = .int .i64 0 := hT 15 _ 7 rfl rfl
         obtain ⟨vs, hvs, hb⟩ := frame_of hdf hsz hold
         replace e66 := (hvs 66) ▸ e66
         replace e67 : vs 67 = .slice A L.length c := (hvs 67).symm.trans e67
         replace e68 : vs 68 = .int .i64 ((i : Nat) : Int) := (hvs 68).symm.trans e68
         replace e69 : vs 69 = .slice A i c := (hvs 69).symm.trans e69
         replace e70 := (hvs 70) ▸ e70
         replace e71 : vs 71 = .int .i64 ((x : Nat) : Int) := (hvs 71).symm.trans e71
         replace e72 : vs 72 = .int .i64 ((y : Nat) : Int) := (hvs 72).symm.trans e72
         replace e73 : vs 73 = .agg #[.int .i64 ((x : Nat) : Int), .int .i64 ((y : Nat) : Int)] := (hvs 73).symm.trans e73
         replace e74 := (hvs 74) ▸ e74
         replace e75 := (hvs 75) ▸ e75
         replace e76 : vs 76 = .slice A L.length c := (hvs 76).symm.trans e76
         replace e77 : vs 77 = .int .i64 ((i : Nat) : Int) := (hvs 77).symm.trans e77
         replace e78 : vs 78 = sliced A i L.length c 2 := (hvs 78).symm.trans e78
         replace e79 := (hvs 79) ▸ e79
         replace e6 := (hvs 6) ▸ e6
         replace e7 : vs 7 = .int .i64 0 := (hvs 7).symm.trans e7
         subst hb
         clear hvs hold hT hdf hsz
         simp only [setAll, Act.put, List.setIfInBounds_toArray, List.set_cons_zero, List.set_cons_succ, List.getElem_toArray, List.getElem_cons_succ, List.getElem_cons_zero]
         have hJ := (hW.1 hJ0).last e6 rfl
         replace hJ : St w0 wz.1 [.own (vs 6) 122 2 (L.length + 1) (pcells (ins L (x, y)))] fun _ _ => True := by
          have e1 : 0 + i + 1 + (L.length - i) = L.length + 1 := by omega
          have e2 : [] ++ (pcells L).take (i * 2) ++ pcells [(x, y)] ++ (pcells L).drop (i * 2) = pcells (ins L (x, y)) := by
           rw [List.nil_append, pcells_take, pcells_drop, ← pcells_app, ← pcells_app, ins, ← HE.out, List.append_assoc]; rfl
          simp only [linkD] at hJ
          rw [e1, e2] at hJ
          exact hJ.mono (Stable.pure True) fun _ _ _ => trivial
         rw [e7]
         generalize vs 6 = v6 at *
         generalize wz.1 = wf at *
         clear hW hZ hJ0 hRr hRt e6 e7
         go_wp2_with fail
         all_goals
          go_ret2
          exact .inr ⟨x, y, rfl, rfl, hx1.out, hy1.out, hxy.out, .inr (.inr ⟨hm, HT.out, _, rfl, hJ⟩)⟩
  ·have HRB := Lib.hid (decide_eq_false hrb)
   have HNO : Hid (¬ twoR a b) := Lib.hid fun h => hrb h.2.1
   go_enter Tryz.func99, Tryz.ntmps99
   go_wp2_with (first
    | ((with_reducible refine qB ?_); (first | refine q1 ?_ ?_ | refine q2 ?_ ?_ | refine q3 ?_ ?_ | refine q4 ?_ ?_ | refine q5 ?_ ?_ | refine q6 ?_ ?_) <;> intro h_ <;> go_prune)
    | (go_at_call 134; refine (rrole_any _ _).mono ?_; (first | rw [HRA.out] | rw [HRB.out]); rintro r_ w_ ⟨_, rfl, rfl, hb_⟩; replace hS := hS.ext hb_; clear hb_))
   go_ret2
   exact .inl ⟨HNO.out, rfl, hS.below⟩
 ·have HRA := Lib.hid (decide_eq_false hra)
  have HRB := HRA
  have HNO : Hid (¬ twoR a b) := Lib.hid fun h => hra h.1
  go_enter Tryz.func99, Tryz.ntmps99
  go_wp2_with (first
   | ((with_reducible refine qB ?_); (first | refine q1 ?_ ?_ | refine q2 ?_ ?_ | refine q3 ?_ ?_ | refine q4 ?_ ?_ | refine q5 ?_ ?_ | refine q6 ?_ ?_) <;> intro h_ <;> go_prune)
   | (go_at_call 134; refine (rrole_any _ _).mono ?_; (first | rw [HRA.out] | rw [HRB.out]); rintro r_ w_ ⟨_, rfl, rfl, hb_⟩; replace hS := hS.ext hb_; clear hb_))
  go_ret2
  exact .inl ⟨HNO.out, rfl, hS.below⟩
end Go.Proofs.YtihpgmbinhmmlaaGreatDoor
namespace Go.Proofs.YtihpgmbinhmmlaaGreatDoor
open Go.RowKit
attribute [local go_sem ↓] Go.wp_at_zero Go.wp_at_succ
set_option maxRecDepth 20000
set_option exponentiation.threshold 5000

noncomputable def closPre (L : List (Nat × Nat)) (pre : List Int) : Nat := pre.foldl (fun m x => m ||| junR L x) 0
theorem closPre_snoc (L : List (Nat × Nat)) (pre : List Int) (x : Int) : closPre L (pre ++ [x]) = closPre L pre ||| junR L x := by
 unfold closPre; rw [List.foldl_append]; rfl
theorem tb_foldor (f : Int → Nat) (i : Nat) : ∀ (l : List Int) (m : Nat), (l.foldl (fun m x => m ||| f x) m).testBit i = true ↔ m.testBit i = true ∨ ∃ x ∈ l, (f x).testBit i = true
 | [], m => by simp
 | x :: l, m => by
  rw [List.foldl_cons, tb_foldor f i l, tb_or]
  constructor
  ·rintro ((h | h) | ⟨y, h1, h2⟩)
   ·exact .inl h
   ·exact .inr ⟨x, List.mem_cons_self .., h⟩
   ·exact .inr ⟨y, List.mem_cons_of_mem _ h1, h2⟩
  ·rintro (h | ⟨y, h1, h2⟩)
   ·exact .inl (.inl h)
   ·rcases List.mem_cons.1 h1 with rfl | h1
    ·exact .inl (.inr h2)
    ·exact .inr ⟨y, h1, h2⟩
theorem closPre_full {L : List (Nat × Nat)} {ws : List Nat} (hw : Words ws) : closPre L (memL ws) = closM L (val ws) := mask_ext fun i => by
 unfold closPre closM
 rw [tb_foldor, tb_closTo, Nat.zero_testBit]
 constructor
 ·rintro (h | ⟨x, h1, h2⟩)
  ·cases h
  ·obtain ⟨k, rfl⟩ := memL_nat h1
   have h3 := (mem_memL hw).1 h1
   unfold junR at h2
   split at h2
   ·rename_i h4
    exact ⟨k, by omega, by omega, h3, by simpa using h2⟩
   ·rw [Nat.zero_testBit] at h2; cases h2
 ·rintro ⟨r, h1, h2, h3, h4⟩
  refine .inr ⟨(r : Int), (mem_memL hw).2 h3, ?_⟩
  rw [junR, if_pos (by omega), Int.toNat_natCast]
  exact h4
set_option maxHeartbeats 2000000 in
theorem hclos_any {w0 : World} {D E : Nat → Prop} {p v : Value} {L : List (Nat × Nat)} {N : Nat} (h : IsH w0 D p L) (hT : DTab w0) (hH : HOK L) (hv : IsSet w0 E v N) : Calls Tryz.prog 27 #[p, v] w0 (Ret (fun x w' => IsSet w' (w0.heap.size ≤ ·) x (closM L N)) w0) := by
 obtain ⟨q, o, rfl, hX⟩ := h
 obtain ⟨A, c, l, rfl, hl, rfl, _, _, hs⟩ := hv.parts
 obtain ⟨K, k1, ko, kt, hS⟩ : ∃ K : (Nat → Prop) → World → Prop, (∀ D w, K D w → IsSet w D (.agg #[.slice A l.length c]) (val l)) ∧ (∀ D w, K D w → HierX q o L D w) ∧ (∀ D w, K D w → DTab w ∧ D 0) ∧ St w0 w0 [] K :=
  ⟨fun D w => (IsSet w D (.agg #[.slice A l.length c]) (val l) ∧ HierX q o L D w) ∧ DTab w ∧ D 0, fun _ _ h => h.1.1, fun _ _ h => h.1.2, fun _ _ h => h.2, St.start (D := fun _ => True) ((stable_set.and stable_hierX).and dtab_stable) ⟨⟨hv.imp fun _ _ _ => trivial, stable_hierX D _ w0 w0 hX (Nat.le_refl _) (fun _ _ _ _ h => h) fun _ _ _ _ => trivial⟩, hT, trivial⟩⟩
 have HH := Lib.hid hH
 clear hs hv hT hX hH
 refine (callsIn_wide (n := 6)).1 (callsIn_of_wp_marks Tryz.func27 rfl trivial ?_ rfl)
 simp only [Tryz.ntmps27, List.size_toArray, List.length_cons, List.length_nil, Nat.reduceAdd, Nat.reduceSub, Array.replicate_succ, Array.replicate_zero, List.push_toArray, List.append_toArray, List.nil_append, List.cons_append]
 refine wpIn_wide.2 ?_
 go_wp2_with (first
  | ((with_reducible refine qA 2 ?_); refine st_box hS rfl _ _ rfl (.pointer (some ⟨q, 0, none⟩)) _ rfl rfl ?_; clear hS; intro g2 w_ hS; (try simp only [Act.put, Act.eval, z1, z2, z3, z4, z5, z6, z7, z8, Value.cells] at hS))
  | ((with_reducible refine qA 3 ?_); refine st_box hS rfl _ _ rfl (.agg #[.slice A l.length c]) _ rfl rfl ?_; clear hS; intro g3 w_ hS; (try simp only [Act.put, Act.eval, z1, z2, z3, z4, z5, z6, z7, z8, Value.cells] at hS))
  | ((with_reducible refine qA 4 ?_); refine qa hS #[.slice none 0 0] ?_; clear hS; intro g4 w_ hS)
  | ((with_reducible refine qA 5 ?_); refine qa hS #[.slice none 0 0] ?_; clear hS; intro g5 w_ hS)
  | ((with_reducible refine qK ?_); refine qL hS Tryz.underlying27 ?_))
 refine (sall_any _ _ _ _ (k1 _ _ hS.ro)).mono ?_
 rintro e w3 ⟨_, rfl, ⟨Bs, A', cap, ws, rfl, e1, hcn, hvN, hsl, hBs, hX⟩, hb3⟩
 obtain rfl := canon_eq hcn hl hvN
 obtain ⟨rfl, rfl⟩ : A = A' ∧ c = cap := by simpa using e1
 clear e1 hvN
 obtain ⟨hT, hT0⟩ := kt _ _ hS.ro
 replace hS := hS.good hb3 hsl hT hT0 hBs hX
 obtain ⟨KK, ko, kG, KKS, hS⟩ : ∃ KK : (Nat → Prop) → World → Prop, (∀ D w, KK D w → HierX q o L D w) ∧ (∀ D w, KK D w → Good Bs A c ws w) ∧ Stable KK ∧ St w0 w3 [.box g5 27 #[.slice none 0 0], .box g4 27 #[.slice none 0 0], .box g3 27 #[.slice A ws.length c], .box g2 24 #[.pointer (some ⟨q, 0, none⟩)]] KK := ⟨_, fun D w h => ko D w h.1, fun D w h => h.2.1, hS.stable, hS⟩
 have HCN := Lib.hid hcn
 have HCF := Lib.hid (closPre_full (L := L) hcn.1)
 clear hsl hX hT hT0 hb3 kt k1 hcn hl
 go_wp2_with fail
 have hsz := hS.size
 refine (wpIn_wide (n := 6)).1 ?_
 refine wpIn_act fun act hact => ?_
 refine range_allB hS HCN.out.1 HCN.out.2.2 kG (by rw [hact]; rfl) rfl
  (fun pre F' K' => ∃ u, F' = [.box g5 27 #[u], .box g4 27 #[.slice none 0 0], .box g3 27 #[.slice A ws.length c], .box g2 24 #[.pointer (some ⟨q, 0, none⟩)]] ∧ Stable K' ∧ ∀ D w, K' D w → KK D w ∧ IsSet w (fun z => D z ∧ w0.heap.size ≤ z) (.agg #[u]) (closPre L pre))
  (fun _ _ _ _ => False) (fun s F K' h D w hk => by obtain ⟨_, _, _, h4⟩ := h; exact (h4 D w hk).1) ?hr (fun _ _ _ _ h => h.elim) ⟨_, rfl, KKS, fun D w h => ⟨h, IsSet.empty⟩⟩
  (fun x => { tmps := (act.tmps.setIfInBounds 9 (.int .i64 x)).setIfInBounds 6 (.int .i64 x), defers := [] }) ?assign ?body ?done (fun _ _ _ _ _ _ _ _ h _ _ => h.elim)
 case hr =>
  rintro s F K' ⟨u, rfl, _⟩ f hf
  simp only [List.mem_cons, List.not_mem_nil, or_false] at hf
  rcases hf with rfl | rfl | rfl | rfl <;> exact .inl rfl
 case assign =>
  intro l x W K hK
  subst hact
  rw [zip_one]
  refine wpIn_region_lit ?_
  refine listIn_of (by intro _ _ h; exact h) _ _ _ (by rfl) _ _ ?_
  refine wpList_plain rfl fun _ hK' => opw_assign (v := .int .i64 x) rfl (by rfl) (hK' _ _ ?_)
  exact wpList_nil hK
 case body =>
  rintro l pre x hx W F' Xo K' ⟨ub, rfl, hKs, hk'⟩ hS hlt
  subst hact
  have HW := Lib.hid (closPre_snoc L pre x)
  generalize closPre L pre = N0 at *
  have HKP := Lib.hid hk'
  have hWs : W.heap.size ≤ W.heap.size := Nat.le_refl _
  clear hx hk'
  simp only [Act.put, List.setIfInBounds_toArray, List.set_cons_zero, List.set_cons_succ]
  refine wpIn_block ?_
  refine wpIn_region_of (by kernel_rfl) (by intro _ _ h; exact h) (by rfl) ?_
  refine any_region_tail (fun i__ v w => match i__ with
   | 0 => v = .agg #[ub]
   | 1 => v = .pointer (some ⟨q, 0, none⟩)
   | 2 => v = .int .i64 x
   | 3 => IsSet w (fun _ => True) v (junR L x)
   | 4 => ∃ u, v = .agg #[u] ∧ u.oneCell' = true ∧ IsSet w (fun z => W.heap.size ≤ z) (.agg #[u]) (N0 ||| junR L x)
   | 5 => True
   | _ => True) 5 [] (by kernel_rfl) (by kernel_rfl) (by kernel_rfl) (by kernel_rfl) ?mono ⟨.inr ?r0, .inr ?r1, .inr ?r2, .inr ?r3, .inr ?r4, .inl (by decide), trivial⟩ ?post
  case mono =>
   intro i v w w' h hb
   match i, h with
   | 0, h | 1, h | 2, h => exact h
   | 3, h => exact h.ext hb
   | 4, h => exact ⟨_, h.choose_spec.1, h.choose_spec.2.1, h.choose_spec.2.2.ext hb⟩
   | 5, h => exact h
   | _ + 6, h => trivial
  case r0 =>
   refine trule fun b__ w hW hold hpre => wU rfl fun K hK => ?_
   have e5 : b__.eval (.tmp 5) = .pointer (some ⟨g5, 0, none⟩) := (hold 5 (by kernel_rfl)).trans rfl
   exact opw_row rfl e5 ((hS.ext (undrew hW)).box 0 rfl) Tryz.underlying27 rfl (by kernel_rfl) (hK _ _ rfl (Below.refl _ _))
  case r1 =>
   refine trule fun b__ w hW hold hpre => wU rfl fun K hK => ?_
   have e2 : b__.eval (.tmp 2) = .pointer (some ⟨g2, 0, none⟩) := (hold 2 (by kernel_rfl)).trans rfl
   exact opw_cell rfl e2 (by kernel_rfl) (((hS.ext (undrew hW)).box 3 rfl).cell 0) (hK _ _ rfl (Below.refl _ _))
  case r2 =>
   refine trule fun b__ w hW hold hpre => wU rfl fun K hK => ?_
   have e6 : b__.eval (.tmp 6) = .int .i64 x := (hold 6 (by kernel_rfl)).trans rfl
   exact opw_move rfl e6 (hK _ _ rfl (Below.refl _ _))
  case r3 =>
   refine trule fun b__ w hW hold hpre => wU rfl fun K hK => ?_
   have e11 : b__.eval (.tmp 11) = .pointer (some ⟨q, 0, none⟩) := pq hpre 0 1 11
   have e12 : b__.eval (.tmp 12) = .int .i64 x := pq hpre 1 2 12
   refine opw_call rfl (by kernel_rfl) (by simp only [List.map_cons, List.map_nil, e11, e12]) (hjun_any (w0 := w) ⟨q, o, rfl, ko _ _ (HKP.out _ _ (hS.ext (undrew hW)).ro.1).1⟩ HH.out x) fun v w' h hb => ?_
   exact hK v w' (h.imp fun _ _ _ => trivial) hb
  case r4 =>
   refine trule fun b__ w hW hold hpre => wU rfl fun K hK => ?_
   have e10 : b__.eval (.tmp 10) = .agg #[ub] := pq hpre 0 0 10
   have e13 : (fun (v : Value) (w : World) => IsSet w (fun _ => True) v (junR L x)) (b__.eval (.tmp 13)) w := hpre ⟨3, _⟩ (Array.mem_of_getElem? (i := 1) rfl) rfl _ _ rfl rfl
   refine opw_call rfl (by kernel_rfl) (by simp only [List.map_cons, List.map_nil, e10]) (or_any (.agg #[ub]) _ N0 _ w _ _ (HKP.out _ _ (hS.ext (undrew hW)).ro.1).2 e13) fun v w' h hb => ?_
   obtain ⟨u, rfl, h1⟩ := set_one h
   exact hK _ w' ⟨u, rfl, h1, h.imp fun z hz _ => Nat.le_trans (undrew hW).size hz⟩ hb
  case post =>
   intro b__ wz hW hdf hsz hold hT
   have e5 : b__.eval (.tmp 5) = .pointer (some ⟨g5, 0, none⟩) := (hold 5 (by kernel_rfl)).trans rfl
   have e14 : (fun (v : Value) (w : World) => ∃ u, v = .agg #[u] ∧ u.oneCell' = true ∧ IsSet w (fun z => W.heap.size ≤ z) (.agg #[u]) (N0 ||| junR L x)) (b__.eval (.tmp 14)) wz := hT 4 _ 14 (by decide) rfl rfl
   have e10 : b__.eval (.tmp 10) = .agg #[ub] := hT 0 _ 10 (by decide) rfl rfl
   have e11 : b__.eval (.tmp 11) = .pointer (some ⟨q, 0, none⟩) := hT 1 _ 11 (by decide) rfl rfl
   have e12 : b__.eval (.tmp 12) = .int .i64 x := hT 2 _ 12 (by decide) rfl rfl
   have e13 : (fun (v : Value) (w : World) => IsSet w (fun _ => True) v (junR L x)) (b__.eval (.tmp 13)) wz := hT 3 _ 13 (by decide) rfl rfl
   obtain ⟨vs, hvs, hb⟩ := frame_of hdf hsz hold
   clear e5
   replace e14 := (hvs 14) ▸ e14
   replace e10 : vs 10 = .agg #[ub] := (hvs 10).symm.trans e10
   replace e11 : vs 11 = .pointer (some ⟨q, 0, none⟩) := (hvs 11).symm.trans e11
   replace e12 : vs 12 = .int .i64 x := (hvs 12).symm.trans e12
   replace e13 := (hvs 13) ▸ e13
   subst hb
   clear hvs hold hT hdf hsz
   simp only [setAll, Act.put, List.setIfInBounds_toArray, List.set_cons_zero, List.set_cons_succ, List.getElem_toArray, List.getElem_cons_succ, List.getElem_cons_zero]
   (intro o_ ho_; simp only [List.getElem?_toArray, List.getElem?_cons_succ, List.getElem?_cons_zero, Option.some.injEq] at ho_; subst ho_)
   obtain ⟨un, e14, hu1, hun⟩ := e14
   have hsW := hS.size
   have hS1 := hS.ret hW (stable_inter (stable_set (v := .agg #[un]) (N := N0 ||| junR L x)) fun z => w0.heap.size ≤ z) (hun.imp fun z hz _ => ⟨hz, Nat.le_trans hsW hz⟩)
   refine opw_store rfl rfl e14 (hS1.box 0 rfl) (by kernel_rfl) rfl (by simpa using hu1) fun w4 h1 hU => ?_
   have hS2 := (hS1.upd 0 rfl (.box g5 27 #[un]) (upd_gb hU) ⟨(hS1.holds (.box g5 27 #[ub]) (by simp)).1, h1⟩ fun _ e => .inl e)
   refine ⟨_, _, ⟨un, rfl, hS2.stable, fun D w h => ⟨(HKP.out D w h.1.1).1, by rw [HW.out]; exact h.2⟩⟩, by rw [hU.size]; exact hW.size, hS2⟩
 case done =>
  rintro D W F' K' hD ⟨u, rfl, hKs, hk'⟩ hS hK
  subst hact
  obtain ⟨A3, c3, l3, he, -⟩ := ((hk' _ _ hS.ro).2).parts
  obtain rfl : u = .slice A3 l3.length c3 := by injection he with he; simpa using he
  clear he
  have hM := hS.mark hsz hD (by
   intro f hf
   simp only [List.mem_cons, List.not_mem_nil, or_false] at hf
   rcases hf with rfl | rfl | rfl | rfl <;> exact .inl rfl) hK rfl
  have HKP := Lib.hid hk'
  clear hk' hS hK
  have hS := hM
  clear hM
  simp only [List.cons_append, List.nil_append] at hS
  go_wp2_with (first
   | ((with_reducible refine qK ?_); refine qL hS Tryz.underlying27 ?_)
   | ((with_reducible refine qM ?_); (first | refine qS hS ?_ | refine qT hS ?_); clear hS; intro w_ hS; (try simp only [Act.put, Act.eval, z1, z2, z3, z4, z5, z6, z7, z8, Value.cells] at hS)))
  refine leaves_marks (F := [.box g5 27 #[.slice A3 l3.length c3], .box g4 27 #[.slice A3 l3.length c3], .box g3 27 #[.slice A ws.length c], .box g2 24 #[.pointer (some ⟨q, 0, none⟩)]]) ?_ [D] _ hS
  intro w' h
  refine ⟨_, results_cell_row rfl _ _ g4 27 _ (0, 0) _ rfl (h.box 1 rfl) Tryz.underlying27 rfl (by kernel_rfl), ?_⟩
  exact Ret.mk (by rw [← HCF.out]; exact (HKP.out _ _ h.ro).2.imp fun z hz _ => hz.2) h.below
end Go.Proofs.YtihpgmbinhmmlaaGreatDoor
namespace Go.Proofs.YtihpgmbinhmmlaaGreatDoor
open Go.RowKit
attribute [local go_sem ↓] Go.wp_at_zero Go.wp_at_succ
set_option maxRecDepth 20000

def rcells (l : List (Nat × Nat)) : List Value := l.flatMap fun z => [.int .u64 (z.1 : Nat), .int .u64 (z.2 : Nat)]
theorem rcells_at (l : List (Nat × Nat)) (k : Nat) (h : k < l.length) : (rcells l)[k * 2]? = some (.int .u64 ((l.getD k (0, 0)).1 : Nat)) ∧ (rcells l)[k * 2 + 1]? = some (.int .u64 ((l.getD k (0, 0)).2 : Nat)) := by
 induction l generalizing k with
 | nil => simp at h
 | cons z r ih =>
  cases k with
  | zero => simp [rcells]
  | succ k =>
   have := ih k (by simpa using h)
   rw [show (k + 1) * 2 = k * 2 + 2 by omega]
   simpa [rcells] using this
theorem rcells_append (a b : List (Nat × Nat)) : rcells (a ++ b) = rcells a ++ rcells b := by simp [rcells]
def RCubes (w : World) (D : Nat → Prop) (v : Value) (l : List (Nat × Nat)) : Prop := Sl w D 2 v l.length (rcells l)
theorem RCubes.keep {w w' : World} {D : Nat → Prop} {v : Value} {l : List (Nat × Nat)} (h : RCubes w D v l) (hsz : w.heap.size ≤ w'.heap.size) (hk : ∀ p : Addr, D p.block → p.block < w.heap.size → w'.cell? p = w.cell? p) : RCubes w' D v l := Sl.keep h hsz hk
theorem RCubes.ext {w w' : World} {D : Nat → Prop} {v : Value} {l : List (Nat × Nat)} (h : RCubes w D v l) (hb : Below w.heap.size w w') : RCubes w' D v l := h.keep hb.size fun _ _ hp => hb.cell hp
theorem RCubes.shape {w : World} {D : Nat → Prop} {v : Value} {l : List (Nat × Nat)} (h : RCubes w D v l) : ∃ A c, v = .slice A l.length c ∧ l.length ≤ c ∧ c ≤ 9223372036854775807 := Sl.shape h
theorem RCubes.at_ {w : World} {D : Nat → Prop} {A : Option Addr} {c : Nat} {l : List (Nat × Nat)} (h : RCubes w D (.slice A l.length c) l) {k : Nat} (hk : k < l.length) :
  ∃ b o, A = some ⟨b, o, none⟩ ∧ D b ∧ b < w.heap.size ∧ w.cell? ⟨b, o + k * 2, none⟩ = some (.int .u64 ((l.getD k (0, 0)).1 : Nat)) ∧ w.cell? ⟨b, o + k * 2 + 1, none⟩ = some (.int .u64 ((l.getD k (0, 0)).2 : Nat)) := by
 obtain ⟨_, A', c', h1, _, _, h2⟩ := h
 obtain ⟨b, o, h3, h4, h6, h5⟩ := h2 (by omega)
 injection h1 with h1
 obtain ⟨g1, g2⟩ := rcells_at l k hk
 exact ⟨b, o, h1.trans h3, h4, h6, h5 _ _ g1, by have := h5 _ _ g2; rw [← Nat.add_assoc] at this; exact this⟩

def CubeCells (w : World) (D : Nat → Prop) (xs : List Value) (l : List (Nat × Nat)) : Prop :=
 ∀ i y n, l[i]? = some (y, n) → ∃ a b, xs[i * 2]? = some a ∧ xs[i * 2 + 1]? = some b ∧ IsSet w D (.agg #[a]) y ∧ IsSet w D (.agg #[b]) n
theorem CubeCells.keep {w w' : World} {D : Nat → Prop} {xs : List Value} {l : List (Nat × Nat)} (h : CubeCells w D xs l) (hsz : w.heap.size ≤ w'.heap.size) (hk : ∀ p : Addr, D p.block → p.block < w.heap.size → w'.cell? p = w.cell? p) : CubeCells w' D xs l := fun i y n hi => by
 obtain ⟨a, b, h1, h2, h3, h4⟩ := h i y n hi
 exact ⟨a, b, h1, h2, h3.keep hsz hk, h4.keep hsz hk⟩
theorem CubeCells.imp {w : World} {D D' : Nat → Prop} {xs : List Value} {l : List (Nat × Nat)} (h : CubeCells w D xs l) (hD : ∀ b, D b → b < w.heap.size → D' b) : CubeCells w D' xs l := fun i y n hi => by
 obtain ⟨a, b, h1, h2, h3, h4⟩ := h i y n hi
 exact ⟨a, b, h1, h2, h3.imp hD, h4.imp hD⟩
theorem CubeCells.ext {w w' : World} {D : Nat → Prop} {xs : List Value} {l : List (Nat × Nat)} (h : CubeCells w D xs l) (hb : Below w.heap.size w w') : CubeCells w' D xs l := h.keep hb.size fun _ _ hp => hb.cell hp
theorem CubeCells.app {w w' : World} {base : Nat} {v0 v1 : Value} {xs : List Value} {l : List (Nat × Nat)} (h : CubeCells w (notOwn base v0) xs l) (hg : w.grownBy w' v0.ownBlock) (hat : ∀ k, v1.ownBlock = some k → v0.ownBlock = some k ∨ w.heap.size ≤ k) : CubeCells w' (notOwn base v1) xs l :=
 ((h.imp (D' := fun b => (base ≤ b ∧ v0.ownBlock ≠ some b) ∧ b < w.heap.size) fun _ h1 h2 => ⟨h1, h2⟩).keep hg.size fun _ h1 h2 => grown_cell hg h2 h1.1.2).imp fun b h1 _ => ⟨h1.1.1, fun e => by
  rcases hat b e with h | h
  ·exact h1.1.2 h
  ·have := h1.2; omega⟩
theorem CubeCells.nil {w : World} {D : Nat → Prop} : CubeCells w D [] [] := fun i y n h => by simp at h
theorem CubeCells.push {w : World} {D : Nat → Prop} {xs : List Value} {l : List (Nat × Nat)} {a b : Value} {y n : Nat} (h : CubeCells w D xs l) (hl : xs.length = l.length * 2) (ha : IsSet w D (.agg #[a]) y) (hb : IsSet w D (.agg #[b]) n) : CubeCells w D (xs ++ [a, b]) (l ++ [(y, n)]) := fun i y' n' hi => by
 rcases Nat.lt_or_ge i l.length with hlt | hge
 ·rw [List.getElem?_append_left hlt] at hi
  obtain ⟨a', b', h1, h2, h3, h4⟩ := h i y' n' hi
  exact ⟨a', b', by rw [List.getElem?_append_left (by omega)]; exact h1, by rw [List.getElem?_append_left (by omega)]; exact h2, h3, h4⟩
 ·have hi2 : i = l.length := by
   have := (List.getElem?_eq_some_iff.1 hi).1
   simp at this; omega
  subst hi2
  simp at hi
  obtain ⟨rfl, rfl⟩ := hi
  exact ⟨a, b, by rw [List.getElem?_append_right (by omega), hl]; simp, by rw [List.getElem?_append_right (by omega), show l.length * 2 + 1 - xs.length = 1 by omega]; rfl, ha, hb⟩
theorem CubeCells.cubes {w : World} {base : Nat} {v : Value} {xs : List Value} {l : List (Nat × Nat)} {e : TypeId} {D : Nat → Prop} (h : CubeCells w D xs l) (ho : w.ownsRow base e 2 v l.length xs) (hD : ∀ b, base ≤ b → D b) : IsCubes w D v l := ⟨xs, (Sl.of_own ho).imp fun b h1 _ => hD b h1, h⟩
theorem ty_cubes : SliceTy Tryz.prog 29 56 2 48 := ⟨Tryz.underlying29, by kernel_rfl⟩
theorem take_getD {α : Type} (l : List α) (k : Nat) (d : α) (h : k < l.length) : l.take (k + 1) = l.take k ++ [l.getD k d] := by
 rw [List.take_succ_eq_append_getElem h, List.getD_eq_getElem?_getD, List.getElem?_eq_getElem h]; rfl
def Small (l : List (Nat × Nat)) : Prop := ∀ z ∈ l, z.1 < T64 ∧ z.2 < T64
theorem Small.at_ {l : List (Nat × Nat)} (h : Small l) (k : Nat) (hk : k < l.length) : (l.getD k (0, 0)).1 < T64 ∧ (l.getD k (0, 0)).2 < T64 := h _ (by rw [List.getD_eq_getElem?_getD, List.getElem?_eq_getElem hk]; exact List.getElem_mem hk)

theorem makeall_any (v : Value) (l : List (Nat × Nat)) (w : World) (D : Nat → Prop) (hv : RCubes w D v l) (hl : Small l) (hn : l.length ≤ 1000000) :
  Calls Tryz.prog 102 #[v] w (Ret (fun x w' => IsCubes w' (w.heap.size ≤ ·) x l) w) := by
 obtain ⟨A, c, rfl, _, _⟩ := hv.shape
 have HL := Lib.hid hl
 clear hl
 go_enter Tryz.func102, Tryz.ntmps102
 go_wp2
 go_loopw [3, 8] (fun u i wr => ∃ k : Nat, k ≤ l.length ∧ i = .int .i64 k ∧ Below w.heap.size w wr ∧ ∃ xs, wr.ownsRow w.heap.size 56 2 u k xs ∧ CubeCells wr (notOwn w.heap.size u) xs (l.take k) ∧ ∀ b, u.ownBlock = some b → w.heap.size ≤ b) (fun _ i _ => l.length - (intOf i).toNat)
 case atStart => exact ⟨0, by omega, rfl, Below.refl _ _, [], World.ownsRow_nil _ _ _ _, CubeCells.nil, by simp [Value.ownBlock]⟩
 case round =>
  obtain ⟨k, hk, rfl, hB, xs, hown, hC, hge⟩ := hrel
  have HO := Lib.hid hown
  have HG := Lib.hid hge
  clear hown hge
  by_cases hlt : k < l.length
  ·obtain ⟨b, o, rfl, _, hb, hc0, hc1⟩ := (hv.ext hB).at_ hlt
   have hs := HL.out.at_ k hlt
   have HT := Lib.hid (take_getD l k (0, 0) hlt)
   have hsz := hB.size
   generalize (l.getD k (0, 0)) = z at *
   obtain ⟨y, n⟩ := z
   go_wp2_with fail
   refine (lmake_any y n hs.1 hs.2 _).mono ?_
   rintro e w2 ⟨v2, rfl, ⟨a2, b2, rfl, ha, hb⟩, hb2⟩
   obtain ⟨A2, m2, c2, rfl⟩ := ha.shape
   obtain ⟨A3, m3, c3, rfl⟩ := hb.shape
   replace hb2 := bel_al hb2
   have hC2 := hC.ext hb2
   have HO2 := Lib.hid (own_ext HO.out hb2)
   have hB2 := bel_tr hB hb2
   have hsz2 := hB2.size
   have hs2 := hb2.size
   have ha2 := ha.imp (D' := notOwn w.heap.size u3) fun b h1 _ => ⟨by simp at h1; omega, fun e => by have := (own_lt HO.out b e); simp at h1; omega⟩
   have hb3 := hb.imp (D' := notOwn w.heap.size u3) fun b h1 _ => ⟨by simp at h1; omega, fun e => by have := (own_lt HO.out b e); simp at h1; omega⟩
   clear hb2 hC ha hb hB
   go_wp2_with ((with_reducible refine qA 15 ?_); refine wpList_push_op rfl rfl _ _ _ _ rfl rfl ty_cubes w.heap.size _ k xs (.agg #[.slice A2 m2 c2, .slice A3 m3 c3]) #[.slice A2 m2 c2, .slice A3 m3 c3] rfl (by kernel_rfl) rfl rfl rfl HO2.out (by intro u hu; simp at hu; rcases hu with rfl | rfl <;> rfl) (by omega) (by omega) hsz2 ?_; intro v' w3 ho hg hat; have HO3 := Lib.hid ho; have HG3 := Lib.hid hg; have HA := Lib.hid hat; clear ho hg hat)
   refine ⟨⟨k + 1, hlt, by go_num, grown_below HG3.out hB2 hsz2 HG.out, _, HO3.out, ?_, fun b h => by rcases HA.out b h with h | h; exact HG.out b h; omega⟩, by simp [intOf]; omega⟩
   rw [HT.out]
   exact (hC2.app HG3.out HA.out).push (by rw [HO2.out.1]; simp; omega) (ha2.app HG3.out HA.out) (hb3.app HG3.out HA.out)
  ·obtain rfl : k = l.length := by omega
   rw [List.take_length] at hC
   go_wp2_with fail
   go_ret
   exact Ret.mk ((hC.imp fun b h1 _ => h1.1).cubes HO.out fun b h => h) hB
end Go.Proofs.YtihpgmbinhmmlaaGreatDoor
namespace Go.Proofs.YtihpgmbinhmmlaaGreatDoor
open Go.RowKit
attribute [local go_sem ↓] Go.wp_at_zero Go.wp_at_succ
set_option maxRecDepth 20000

theorem own_shape2 {w : World} {base : Nat} {e : TypeId} {size n : Nat} {v : Value} {xs : List Value} (h : w.ownsRow base e size v n xs) : ∃ A c, v = .slice A n c := by
 rcases h.2 with ⟨rfl, rfl⟩ | ⟨g, cap, cur, rfl, _⟩
 ·exact ⟨_, _, rfl⟩
 ·exact ⟨_, _, rfl⟩
theorem own_cells {w : World} {base : Nat} {e : TypeId} {size n : Nat} {v : Value} {xs : List Value} (h : w.ownsRow base e size v n xs) : v.cells = #[v] := by obtain ⟨A, c, rfl⟩ := own_shape2 h; rfl
theorem own_one {w : World} {base : Nat} {e : TypeId} {size n : Nat} {v : Value} {xs : List Value} (h : w.ownsRow base e size v n xs) : v.oneCell' = true := by obtain ⟨A, c, rfl⟩ := own_shape2 h; rfl
section
variable {w wr w1 w2 : World} {C : Nat} {par z : Array Value} {P : List Nat} {r : Bool} {plan plan' : List Int} {cubes cubes' : List (Nat × Nat)} {pv qv v : Value}
end

end Go.Proofs.YtihpgmbinhmmlaaGreatDoor
namespace Go.Proofs.YtihpgmbinhmmlaaGreatDoor
open Go.RowKit
attribute [local go_sem ↓] Go.wp_at_zero Go.wp_at_succ

theorem cube_empty_any (y n : Value) (Y N : Nat) (w : World) (D E : Nat → Prop) (hy : IsSet w D (.agg #[y]) Y) (hn : IsSet w E (.agg #[n]) N) :
  Calls Tryz.prog 66 #[.agg #[y, n]] w (Ret (fun u _ => u = .bool (Y &&& N != 0)) w) := by
 obtain ⟨A, l, c, rfl⟩ := hy.shape
 obtain ⟨A', l', c', rfl⟩ := hn.shape
 go_enter Tryz.func66, Tryz.ntmps66
 go_wp2_with (go_at_call 56; refine (meets_any _ _ Y N _ D E (hy.alloc _) (hn.alloc _)).mono ?_; rintro e w' ⟨_, rfl, rfl, hb⟩)
 go_ret
 exact Ret.mk rfl (((Below.refl _ _).alloc (Nat.le_refl _) _).trans (hb.mono (by simp)))
end Go.Proofs.YtihpgmbinhmmlaaGreatDoor
namespace Go.Proofs.YtihpgmbinhmmlaaGreatDoor
open Go.RowKit
attribute [local go_sem ↓] Go.wp_at_zero Go.wp_at_succ
set_option maxRecDepth 20000

def roles : Nat := del (2 ^ 64 - 1) 0
end Go.Proofs.YtihpgmbinhmmlaaGreatDoor
namespace Go.Proofs.YtihpgmbinhmmlaaGreatDoor
open Go.RowKit
attribute [local go_sem ↓] Go.wp_at_zero Go.wp_at_succ
set_option maxRecDepth 20000

end Go.Proofs.YtihpgmbinhmmlaaGreatDoor
namespace Go.Proofs.YtihpgmbinhmmlaaGreatDoor
open Go.RowKit
attribute [local go_sem ↓] Go.wp_at_zero Go.wp_at_succ
set_option maxRecDepth 20000

end Go.Proofs.YtihpgmbinhmmlaaGreatDoor
namespace Go.Proofs.YtihpgmbinhmmlaaGreatDoor
open Go.RowKit
attribute [local go_sem ↓] Go.wp_at_zero Go.wp_at_succ
set_option maxRecDepth 20000

end Go.Proofs.YtihpgmbinhmmlaaGreatDoor
namespace Go.Proofs.YtihpgmbinhmmlaaGreatDoor
open Go.RowKit
attribute [local go_sem ↓] Go.wp_at_zero Go.wp_at_succ
set_option maxRecDepth 20000

def lew (l : List Nat) (i : Nat) : Nat → Nat
 | 0 => 0
 | n + 1 => (lew l i n * 256) % T64 ||| l.getD (8 * i + (7 - n)) 0
def absW (a l : List Nat) (i : Nat) : Nat := a.getD i 0 ^^^ lew l i 8
def absorbK (a l : List Nat) : List Nat := perm (mixTo (absW a l) a 17)
end Go.Proofs.YtihpgmbinhmmlaaGreatDoor
namespace Go.Proofs.YtihpgmbinhmmlaaGreatDoor
open Go.RowKit
attribute [local go_sem ↓] Go.wp_at_zero Go.wp_at_succ
set_option maxRecDepth 20000

section
variable {w : World} {h : Nat} {t : TypeId} {st blk : List Nat} {u tot : Nat}
end
def blkOf (l : List Nat) (j : Nat) : List Nat := (l.drop (136 * j)).take 136
def stB (st l : List Nat) : Nat → List Nat
 | 0 => st
 | j + 1 => absorbK (stB st l j) (blkOf l j)
end Go.Proofs.YtihpgmbinhmmlaaGreatDoor
namespace Go.Proofs.YtihpgmbinhmmlaaGreatDoor
open Go.RowKit
attribute [local go_sem ↓] Go.wp_at_zero Go.wp_at_succ
set_option maxRecDepth 20000

section
variable {w : World} {b : Nat} {t : TypeId} {l : List Nat}
end
end Go.Proofs.YtihpgmbinhmmlaaGreatDoor
namespace Go.Proofs.YtihpgmbinhmmlaaGreatDoor
open Go.RowKit
attribute [local go_sem ↓] Go.wp_at_zero Go.wp_at_succ
set_option maxRecDepth 20000

end Go.Proofs.YtihpgmbinhmmlaaGreatDoor
namespace Go.Proofs.YtihpgmbinhmmlaaGreatDoor
open Go.RowKit
attribute [local go_sem ↓] Go.wp_at_zero Go.wp_at_succ
set_option maxRecDepth 20000

end Go.Proofs.YtihpgmbinhmmlaaGreatDoor
namespace Go.Proofs.YtihpgmbinhmmlaaGreatDoor
open Go.RowKit
attribute [local go_sem ↓] Go.wp_at_zero Go.wp_at_succ
set_option maxRecDepth 20000

theorem sleq_any (u v : Value) (l m : List Int) (w : World) (D E : Nat → Prop) (hu : Sl w D 1 u l.length (ints l)) (hv : Sl w E 1 v m.length (ints m)) :
  Calls Tryz.prog 30 #[u, v] w (Ret (fun x _ => x = .bool (l == m)) w) := by
 obtain ⟨A, c, rfl, h1, h2⟩ := hu.shape
 obtain ⟨A', c', rfl, h3, h4⟩ := hv.shape
 by_cases hlen : l.length = m.length
 ·rcases Nat.eq_zero_or_pos l.length with h0 | h0
  ·obtain rfl : l = [] := List.eq_nil_of_length_eq_zero h0
   obtain rfl : m = [] := List.eq_nil_of_length_eq_zero (by simpa using hlen.symm)
   refine (Tryz.slices_Equal_int_empty A A' c 0 c' w (by omega)).mono ?_
   rintro e w' ⟨rfl, rfl⟩
   exact Ret.mk rfl (Below.refl _ _)
  ·obtain ⟨b, o, rfl, _, _, hc⟩ := hu.int (k := 0) h0
   obtain ⟨b', o', rfl, _, _, hc'⟩ := hv.int (k := 0) (by omega)
   refine (Tryz.slices_Equal_int b o l.length c b' o' m.length c' l m w (Nat.le_refl _) (Nat.le_refl _) (by omega) (by omega) hc hc').mono ?_
   rintro e w' ⟨rfl, q, rfl⟩
   rw [List.take_length, List.take_length]
   exact Ret.mk rfl (bel_drewN (Below.refl _ _) _)
 ·refine (Tryz.slices_Equal_int_lens A A' l.length c m.length c' w hlen).mono ?_
  rintro e w' ⟨rfl, rfl⟩
  refine Ret.mk ?_ (Below.refl _ _)
  have : (l == m) = false := by rw [beq_eq_false_iff_ne]; rintro rfl; exact hlen rfl
  rw [this]

end Go.Proofs.YtihpgmbinhmmlaaGreatDoor
namespace Go.Proofs.YtihpgmbinhmmlaaGreatDoor
open Go.RowKit
attribute [local go_sem ↓] Go.wp_at_zero Go.wp_at_succ
set_option maxRecDepth 20000

theorem opw_row1 {P : Program} {o : Oper} {a : Act} {w : World} {K : Act → World → Prop} {Q : Exit → Act → World → Prop} {t : TypeId} {x : Operand} {g j : Nat} {ty : TypeId} {cs : Array Value} {x' : Value} {d : TypeDesc} (ho : o.op = .load t x) (hx : a.eval x = .pointer (some ⟨g, j, none⟩)) (hb : Box w g ty cs) (hx' : cs[j]? = some x')
  (hu : P.underlying t = some d) (hd : d.isRow = true) (hi : (P.info? t).map (·.size) = some 1) (hk : K (a.put o.dst (.agg #[x'])) w) : o.wp P a w K Q :=
 opw_mid (cs := [x']) ho hx (fun i v hi => by
  cases i with
  | zero => simp at hi; subst hi; rw [Nat.add_zero, hb.cell]; exact hx'
  | succ i => simp at hi) hu hd hi hk
theorem stable_cube {v : Value} {z : Nat × Nat} : Stable fun D w => IsCube w D v z := fun D D' w w' h a b c => by
 obtain ⟨x, y, h1, h2, h3⟩ := h
 exact ⟨x, y, h1, stable_set D D' w w' h2 a b c, stable_set D D' w w' h3 a b c⟩
end Go.Proofs.YtihpgmbinhmmlaaGreatDoor
namespace Go.Proofs.YtihpgmbinhmmlaaGreatDoor
open Go.RowKit
attribute [local go_sem ↓] Go.wp_at_zero Go.wp_at_succ
set_option maxRecDepth 20000
set_option exponentiation.threshold 5000

section
variable {P : Program} {ops : Array Oper} {rest : List Oper} {o : Oper} {a : Act} {w : World} {Q : Exit → Act → World → Prop}
end
theorem HOK.ins {L : List (Nat × Nat)} (h : HOK L) {x y : Nat} (hx : 1 ≤ x ∧ x < 64) (hy : 1 ≤ y ∧ y < 64) (hne : x ≠ y) (hm : (x, y) ∉ L) (ht : ¬ TC L y x) : HOK (ins L (x, y)) := by
 refine ⟨ins_asc h.asc hm, fun z hz => ?_, (acyc_ins h.acyc fun z => mem_ins).2 ?_⟩
 ·rcases mem_ins.1 hz with rfl | hz
  ·exact ⟨hx, hy⟩
  ·exact h.role z hz
 ·rintro (e | e)
  ·exact hne e.symm
  ·exact ht e
theorem sl_cell {w : World} {D : Nat → Prop} {size n c b o j : Nat} {xs : List Value} {x : Value} (h : Sl w D size (.slice (some ⟨b, o, none⟩) n c) n xs) (hj : xs[j]? = some x) : w.cell? ⟨b, o + j, none⟩ = some x := by
 obtain ⟨h1, A, c2, h2, _, _, h5⟩ := h
 have hlt := (List.getElem?_eq_some_iff.1 hj).1
 have hn : 0 < n := by
  rcases Nat.eq_zero_or_pos n with h0 | h0
  ·subst h0; simp at h1; subst h1; simp at hlt
  ·exact h0
 obtain ⟨b2, o2, h6, _, _, h8⟩ := h5 hn
 injection h2 with h2
 rw [h6] at h2
 injection h2 with h2
 injection h2 with h9 h10
 rw [h9, h10]
 exact h8 j x hj
end Go.Proofs.YtihpgmbinhmmlaaGreatDoor
namespace Go.Proofs.YtihpgmbinhmmlaaGreatDoor
open Go.RowKit
attribute [local go_sem ↓] Go.wp_at_zero Go.wp_at_succ
set_option maxRecDepth 20000
set_option exponentiation.threshold 5000

theorem run_and64 {P : Program} {w : World} {t : TypeId} {x y : Nat} (hx : x < T64) (hy : y < T64) : (binOp .and t (.int .u64 (x : Nat)) (.int .u64 (y : Nat))).run P w = .ok (.int .u64 ((x &&& y : Nat) : Int)) w := by
 go_simp; rw [and64 hx hy]
theorem and_words {a b : List Nat} (ha : Words a) (hb : Words b) {n : Nat} (hn : a.length ≤ n ∨ b.length ≤ n) : Words ((List.range n).map fun j => wd (val a) j &&& wd (val b) j) ∧ val ((List.range n).map fun j => wd (val a) j &&& wd (val b) j) = val a &&& val b := by
 have h1 : Words ((List.range n).map fun j => wd (val a) j &&& wd (val b) j) := fun x hx => by
  obtain ⟨j, _, rfl⟩ := List.mem_map.1 hx
  exact Nat.lt_of_le_of_lt Nat.and_le_left (wd_lt _ _)
 refine ⟨h1, val_ext h1 fun k => ?_⟩
 rw [wd_and, List.getD_eq_getElem?_getD, List.getElem?_map]
 rcases Nat.lt_or_ge k n with hk | hk
 ·rw [List.getElem?_range hk]; rfl
 ·rw [List.getElem?_eq_none (by simpa using hk)]
  rcases hn with hn | hn
  ·rw [wd_ge ha (by omega), Nat.zero_and]; rfl
  ·rw [wd_ge hb (by omega), Nat.and_zero]; rfl
theorem Sl.only {w : World} {D : Nat → Prop} {size n c g o : Nat} {xs : List Value} (h : Sl w D size (.slice (some ⟨g, o, none⟩) n c) n xs) : Sl w (fun z => D z ∧ z = g) size (.slice (some ⟨g, o, none⟩) n c) n xs := by
 obtain ⟨h1, A, c', e, h3, h4, h5⟩ := h
 injection e with e1 e2 e3
 subst e1 e3
 refine ⟨h1, _, _, rfl, h3, h4, fun hp => ?_⟩
 obtain ⟨b, o', q1, q2, q3, q4⟩ := h5 hp
 injection q1 with q1
 injection q1 with q1 q5 _
 subst q1 q5
 exact ⟨_, _, rfl, ⟨q2, rfl⟩, q3, q4⟩
set_option maxHeartbeats 2000000 in
theorem and_any {w0 : World} {D E : Nat → Prop} {v u : Value} {M N : Nat} (hv : IsSet w0 D v M) (hu : IsSet w0 E u N) :
  Calls Tryz.prog 24 #[v, u] w0 (Ret (fun x w' => IsSet w' (w0.heap.size ≤ ·) x (M &&& N)) w0) := by
 obtain ⟨A, ca, a, rfl, ha, rfl, ha1, ha2, hsa⟩ := hv.parts
 obtain ⟨B, cb, b, rfl, hb, rfl, hb1, hb2, hsb⟩ := hu.parts
 obtain ⟨K, k1, k2, hS⟩ : ∃ K : (Nat → Prop) → World → Prop, (∀ D w, K D w → Sl w D 1 (.slice A a.length ca) a.length (u64s a)) ∧ (∀ D w, K D w → Sl w D 1 (.slice B b.length cb) b.length (u64s b)) ∧ St w0 w0 [] K := ⟨_, fun _ _ h => h.1, fun _ _ h => h.2, St.start (D := fun _ => True) ((stable_sl (by decide)).and (stable_sl (by decide))) ⟨hsa.imp fun _ _ _ => trivial, hsb.imp fun _ _ _ => trivial⟩⟩
 have hla := ha.2.2
 have hlb := hb.2.2
 obtain ⟨n, hn⟩ : ∃ n, n = min a.length b.length := ⟨_, rfl⟩
 have HW := Lib.hid (and_words ha.1 hb.1 (n := n) (by omega))
 have HA := Lib.hid ha.1
 have HB := Lib.hid hb.1
 have hna : n ≤ a.length := by omega
 have hnb : n ≤ b.length := by omega
 have hnm : min (a.length : Int) (b.length : Int) = (n : Int) := by omega
 clear hsa hsb hv hu ha hb hn
 go_enter Tryz.func24, Tryz.ntmps24
 go_wp2_with (first
  | ((with_reducible refine qA 2 ?_); refine st_box hS rfl _ _ rfl (.agg #[.slice A a.length ca]) _ rfl rfl ?_; clear hS; intro g2 w_ hS; (try simp only [Act.put, Act.eval, z1, z2, z3, z4, z5, z6, z7, z8, Value.cells] at hS))
  | ((with_reducible refine qA 3 ?_); refine st_box hS rfl _ _ rfl (.agg #[.slice B b.length cb]) _ rfl rfl ?_; clear hS; intro g3 w_ hS; (try simp only [Act.put, Act.eval, z1, z2, z3, z4, z5, z6, z7, z8, Value.cells] at hS))
  | ((with_reducible refine qA 4 ?_); refine qa hS #[.slice none 0 0] ?_; clear hS; intro g4 w_ hS)
  | ((with_reducible refine qK ?_); refine qC hS ?_)
  | ((with_reducible show wpList _ _ _ (⟨_, .makeSlice _ _ _, _, _, _, _⟩ :: _) _ _); refine st_mk hS rfl _ _ _ rfl ty_u64s' .i64 .i64 n #[.int .u64 0] rfl rfl (by kernel_rfl) (by omega) (by omega) ?_; clear hS; intro g5 w_ hS))
 rw [mk_u64s] at hS
 obtain ⟨f, hf⟩ : ∃ f : Nat → Nat, f = fun j => wd (val a) j &&& wd (val b) j := ⟨_, rfl⟩
 rw [← hf] at HW
 replace hf := Lib.hid hf
 rw [← fillTo_zero f] at hS
 go_loopw [17] (fun i wr => ∃ k : Nat, i = .int .i64 (k : Nat) ∧ k ≤ n ∧ St w0 wr [.own (.slice (some ⟨g5, 0, none⟩) n n) 33 1 n (u64s (fillTo f k n)), .box g4 27 #[.slice none 0 0], .box g3 27 #[.slice B b.length cb], .box g2 27 #[.slice A a.length ca]] K) (fun i _ => n - (intOf i).toNat)
 case atStart => exact ⟨0, rfl, by omega, hS⟩
 case round =>
  clear hS
  obtain ⟨k, rfl, hk, hS⟩ := hrel
  by_cases hkn : k < n
  ·obtain ⟨b1, o1, rfl⟩ : ∃ b o, A = some ⟨b, o, none⟩ := by
    obtain ⟨_, A2, c2, e2, _, _, h5⟩ := k1 _ _ hS.ro
    obtain ⟨b, o, h6, _⟩ := h5 (by omega)
    injection e2 with e2
    exact ⟨b, o, e2.trans h6⟩
   obtain ⟨b2, o2, rfl⟩ : ∃ b o, B = some ⟨b, o, none⟩ := by
    obtain ⟨_, A2, c2, e2, _, _, h5⟩ := k2 _ _ hS.ro
    obtain ⟨b, o, h6, _⟩ := h5 (by omega)
    injection e2 with e2
    exact ⟨b, o, e2.trans h6⟩
   have HX := Lib.hid (u64s_at a k (by omega))
   have HY := Lib.hid (u64s_at b k (by omega))
   have hx : a.getD k 0 < T64 := HA.out.getD k
   have hy : b.getD k 0 < T64 := HB.out.getD k
   have HF := Lib.hid (show (u64s (fillTo f k n)).set k (.int .u64 ((a.getD k 0 &&& b.getD k 0 : Nat) : Int)) = u64s (fillTo f (k + 1) n) by
    rw [← fillTo_set, show f k = a.getD k 0 &&& b.getD k 0 by rw [hf.out]; show wd (val a) k &&& wd (val b) k = _; rw [wd_val HA.out, wd_val HB.out], u64s_set])
   generalize a.getD k 0 = x at *
   generalize b.getD k 0 = y at *
   go_wp2_with (first | ((with_reducible refine qB ?_); (first | refine q1 ?_ ?_ | refine q2 ?_ ?_ | refine q3 ?_ ?_ | refine q4 ?_ ?_ | refine q5 ?_ ?_ | refine q6 ?_ ?_) <;> intro h_ <;> go_prune))
   refine wp_region_tail (fun i__ v w => match i__ with
    | 0 => v = .slice (some ⟨g5, 0, none⟩) n n
    | 1 => v = .int .i64 ((k : Nat) : Int)
    | 2 => v = .pointer (some ⟨g2, 0, none⟩)
    | 3 => v = .slice (some ⟨b1, o1, none⟩) a.length ca
    | 4 => v = .int .i64 ((k : Nat) : Int)
    | 5 => v = .pointer (some ⟨b1, o1 + (k) * 1, none⟩)
    | 6 => v = .int .u64 ((x : Nat) : Int)
    | 7 => v = .pointer (some ⟨g3, 0, none⟩)
    | 8 => v = .slice (some ⟨b2, o2, none⟩) b.length cb
    | 9 => v = .int .i64 ((k : Nat) : Int)
    | 10 => v = .pointer (some ⟨b2, o2 + (k) * 1, none⟩)
    | 11 => v = .int .u64 ((y : Nat) : Int)
    | 12 => v = .int .u64 ((x &&& y : Nat) : Int)
    | 13 => v = .pointer (some ⟨g5, 0 + (k) * 1, none⟩)
    | 14 => True
    | _ => True) 14 [] (by kernel_rfl) (by kernel_rfl) (by kernel_rfl) (by kernel_rfl) (by kernel_rfl) ?mono ⟨.inr ?r0, .inr ?r1, .inr ?r2, .inr ?r3, .inr ?r4, .inr ?r5, .inr ?r6, .inr ?r7, .inr ?r8, .inr ?r9, .inr ?r10, .inr ?r11, .inr ?r12, .inr ?r13, .inl (by decide), trivial⟩ ?post
   case mono =>
    intro i v w w' h hb
    match i, h with
    | 0, h | 1, h | 2, h | 3, h | 4, h | 5, h | 6, h | 7, h | 8, h | 9, h | 10, h | 11, h | 12, h | 13, h | 14, h => exact h
    | _ + 15, h => trivial
   case r0 =>
    refine trule fun b__ w hW hold hpre => wU rfl fun K hK => ?_
    have e5 : b__.eval (.tmp 5) = .slice (some ⟨g5, 0, none⟩) n n := (hold 5 (by kernel_rfl)).trans rfl
    exact opw_move rfl e5 (hK _ _ rfl (Below.refl _ _))
   case r1 =>
    refine trule fun b__ w hW hold hpre => wU rfl fun K hK => ?_
    have e6 : b__.eval (.tmp 6) = .int .i64 ((k : Nat) : Int) := (hold 6 (by kernel_rfl)).trans rfl
    exact opw_move rfl e6 (hK _ _ rfl (Below.refl _ _))
   case r2 =>
    refine trule fun b__ w hW hold hpre => wU rfl fun K hK => ?_
    have e2 : b__.eval (.tmp 2) = .pointer (some ⟨g2, 0, none⟩) := (hold 2 (by kernel_rfl)).trans rfl
    exact opw_faddr rfl e2 (by kernel_rfl) (hK _ _ rfl (Below.refl _ _))
   case r3 =>
    refine trule fun b__ w hW hold hpre => wU rfl fun K hK => ?_
    have e22 : b__.eval (.tmp 22) = .pointer (some ⟨g2, 0, none⟩) := pq hpre 0 2 22
    exact opw_cell rfl e22 (by kernel_rfl) (((hS.ext (undrew hW)).box 3 rfl).cell 0) (hK _ _ rfl (Below.refl _ _))
   case r4 =>
    refine trule fun b__ w hW hold hpre => wU rfl fun K hK => ?_
    have e6 : b__.eval (.tmp 6) = .int .i64 ((k : Nat) : Int) := (hold 6 (by kernel_rfl)).trans rfl
    exact opw_move rfl e6 (hK _ _ rfl (Below.refl _ _))
   case r5 =>
    refine trule fun b__ w hW hold hpre => wU rfl fun K hK => ?_
    have e23 : b__.eval (.tmp 23) = .slice (some ⟨b1, o1, none⟩) a.length ca := pq hpre 0 3 23
    have e24 : b__.eval (.tmp 24) = .int .i64 ((k : Nat) : Int) := pq hpre 1 4 24
    exact opw_iaddr rfl e23 e24 (run_iaddr_lit (m := k) Tryz.underlying25 (by kernel_rfl) (by omega) (by omega)) (hK _ _ rfl (Below.refl _ _))
   case r6 =>
    refine trule fun b__ w hW hold hpre => wU rfl fun K hK => ?_
    have e25 : b__.eval (.tmp 25) = .pointer (some ⟨b1, o1 + (k) * 1, none⟩) := pq hpre 0 5 25
    exact opw_cell rfl e25 (by kernel_rfl) (by rw [Nat.mul_one]; exact sl_cell (k1 _ _ (hS.ext (undrew hW)).ro) HX.out) (hK _ _ rfl (Below.refl _ _))
   case r7 =>
    refine trule fun b__ w hW hold hpre => wU rfl fun K hK => ?_
    have e3 : b__.eval (.tmp 3) = .pointer (some ⟨g3, 0, none⟩) := (hold 3 (by kernel_rfl)).trans rfl
    exact opw_faddr rfl e3 (by kernel_rfl) (hK _ _ rfl (Below.refl _ _))
   case r8 =>
    refine trule fun b__ w hW hold hpre => wU rfl fun K hK => ?_
    have e27 : b__.eval (.tmp 27) = .pointer (some ⟨g3, 0, none⟩) := pq hpre 0 7 27
    exact opw_cell rfl e27 (by kernel_rfl) (((hS.ext (undrew hW)).box 2 rfl).cell 0) (hK _ _ rfl (Below.refl _ _))
   case r9 =>
    refine trule fun b__ w hW hold hpre => wU rfl fun K hK => ?_
    have e6 : b__.eval (.tmp 6) = .int .i64 ((k : Nat) : Int) := (hold 6 (by kernel_rfl)).trans rfl
    exact opw_move rfl e6 (hK _ _ rfl (Below.refl _ _))
   case r10 =>
    refine trule fun b__ w hW hold hpre => wU rfl fun K hK => ?_
    have e28 : b__.eval (.tmp 28) = .slice (some ⟨b2, o2, none⟩) b.length cb := pq hpre 0 8 28
    have e29 : b__.eval (.tmp 29) = .int .i64 ((k : Nat) : Int) := pq hpre 1 9 29
    exact opw_iaddr rfl e28 e29 (run_iaddr_lit (m := k) Tryz.underlying25 (by kernel_rfl) (by omega) (by omega)) (hK _ _ rfl (Below.refl _ _))
   case r11 =>
    refine trule fun b__ w hW hold hpre => wU rfl fun K hK => ?_
    have e30 : b__.eval (.tmp 30) = .pointer (some ⟨b2, o2 + (k) * 1, none⟩) := pq hpre 0 10 30
    exact opw_cell rfl e30 (by kernel_rfl) (by rw [Nat.mul_one]; exact sl_cell (k2 _ _ (hS.ext (undrew hW)).ro) HY.out) (hK _ _ rfl (Below.refl _ _))
   case r12 =>
    refine trule fun b__ w hW hold hpre => wU rfl fun K hK => ?_
    have e26 : b__.eval (.tmp 26) = .int .u64 ((x : Nat) : Int) := pq hpre 0 6 26
    have e31 : b__.eval (.tmp 31) = .int .u64 ((y : Nat) : Int) := pq hpre 1 11 31
    exact opw_bin (vx := .int .u64 ((x : Nat) : Int)) (vy := .int .u64 ((y : Nat) : Int)) (v := .int .u64 ((x &&& y : Nat) : Int)) rfl e26 e31 rfl (run_and64 hx hy) (hK _ _ rfl (Below.refl _ _))
   case r13 =>
    refine trule fun b__ w hW hold hpre => wU rfl fun K hK => ?_
    have e20 : b__.eval (.tmp 20) = .slice (some ⟨g5, 0, none⟩) n n := pq hpre 0 0 20
    have e21 : b__.eval (.tmp 21) = .int .i64 ((k : Nat) : Int) := pq hpre 1 1 21
    exact opw_iaddr rfl e20 e21 (run_iaddr_lit (m := k) Tryz.underlying25 (by kernel_rfl) (by omega) (by omega)) (hK _ _ rfl (Below.refl _ _))
   case post =>
    intro b__ wz hW hdf hsz hold hT
    have e33 : b__.eval (.tmp 33) = .pointer (some ⟨g5, 0 + (k) * 1, none⟩) := hT 13 _ 33 (by decide) rfl rfl
    have e32 : b__.eval (.tmp 32) = .int .u64 ((x &&& y : Nat) : Int) := hT 12 _ 32 (by decide) rfl rfl
    have e20 : b__.eval (.tmp 20) = .slice (some ⟨g5, 0, none⟩) n n := hT 0 _ 20 (by decide) rfl rfl
    have e21 : b__.eval (.tmp 21) = .int .i64 ((k : Nat) : Int) := hT 1 _ 21 (by decide) rfl rfl
    have e22 : b__.eval (.tmp 22) = .pointer (some ⟨g2, 0, none⟩) := hT 2 _ 22 (by decide) rfl rfl
    have e23 : b__.eval (.tmp 23) = .slice (some ⟨b1, o1, none⟩) a.length ca := hT 3 _ 23 (by decide) rfl rfl
    have e24 : b__.eval (.tmp 24) = .int .i64 ((k : Nat) : Int) := hT 4 _ 24 (by decide) rfl rfl
    have e25 : b__.eval (.tmp 25) = .pointer (some ⟨b1, o1 + (k) * 1, none⟩) := hT 5 _ 25 (by decide) rfl rfl
    have e26 : b__.eval (.tmp 26) = .int .u64 ((x : Nat) : Int) := hT 6 _ 26 (by decide) rfl rfl
    have e27 : b__.eval (.tmp 27) = .pointer (some ⟨g3, 0, none⟩) := hT 7 _ 27 (by decide) rfl rfl
    have e28 : b__.eval (.tmp 28) = .slice (some ⟨b2, o2, none⟩) b.length cb := hT 8 _ 28 (by decide) rfl rfl
    have e29 : b__.eval (.tmp 29) = .int .i64 ((k : Nat) : Int) := hT 9 _ 29 (by decide) rfl rfl
    have e30 : b__.eval (.tmp 30) = .pointer (some ⟨b2, o2 + (k) * 1, none⟩) := hT 10 _ 30 (by decide) rfl rfl
    have e31 : b__.eval (.tmp 31) = .int .u64 ((y : Nat) : Int) := hT 11 _ 31 (by decide) rfl rfl
    obtain ⟨vs, hvs, hb⟩ := frame_of hdf hsz hold
    replace e33 : vs 33 = .pointer (some ⟨g5, 0 + (k) * 1, none⟩) := (hvs 33).symm.trans e33
    replace e32 : vs 32 = .int .u64 ((x &&& y : Nat) : Int) := (hvs 32).symm.trans e32
    replace e20 : vs 20 = .slice (some ⟨g5, 0, none⟩) n n := (hvs 20).symm.trans e20
    replace e21 : vs 21 = .int .i64 ((k : Nat) : Int) := (hvs 21).symm.trans e21
    replace e22 : vs 22 = .pointer (some ⟨g2, 0, none⟩) := (hvs 22).symm.trans e22
    replace e23 : vs 23 = .slice (some ⟨b1, o1, none⟩) a.length ca := (hvs 23).symm.trans e23
    replace e24 : vs 24 = .int .i64 ((k : Nat) : Int) := (hvs 24).symm.trans e24
    replace e25 : vs 25 = .pointer (some ⟨b1, o1 + (k) * 1, none⟩) := (hvs 25).symm.trans e25
    replace e26 : vs 26 = .int .u64 ((x : Nat) : Int) := (hvs 26).symm.trans e26
    replace e27 : vs 27 = .pointer (some ⟨g3, 0, none⟩) := (hvs 27).symm.trans e27
    replace e28 : vs 28 = .slice (some ⟨b2, o2, none⟩) b.length cb := (hvs 28).symm.trans e28
    replace e29 : vs 29 = .int .i64 ((k : Nat) : Int) := (hvs 29).symm.trans e29
    replace e30 : vs 30 = .pointer (some ⟨b2, o2 + (k) * 1, none⟩) := (hvs 30).symm.trans e30
    replace e31 : vs 31 = .int .u64 ((y : Nat) : Int) := (hvs 31).symm.trans e31
    subst hb
    clear hvs hold hT hdf hsz
    simp only [setAll, Act.put, List.setIfInBounds_toArray, List.set_cons_zero, List.set_cons_succ, List.getElem_toArray, List.getElem_cons_succ, List.getElem_cons_zero]
    (intro o_ ho_; simp only [List.getElem?_toArray, List.getElem?_cons_succ, List.getElem?_cons_zero, Option.some.injEq] at ho_; subst ho_)
    refine opw_ostore rfl (g := g5) (i := k) (e33.trans (by rw [Nat.zero_add, Nat.mul_one])) e32 ((hS.ext hW).own 0 rfl) (by omega) rfl rfl (by kernel_rfl) fun w4 h1 hU => ?_
    replace hS := (hS.ext hW).upd 0 rfl (.own (.slice (some ⟨g5, 0, none⟩) n n) 33 1 n (u64s (fillTo f (k + 1) n))) (by simpa [Fact.blk, Value.ownBlock] using upd_gb hU) (by rw [← HF.out]; exact h1) fun _ e => .inl e
    simp only [TailWp]
    simp only [Act.put, List.setIfInBounds_toArray, List.set_cons_zero, List.set_cons_succ]
    clear e32 e33 h1 hU hW
    go_wp2_with fail
    exact ⟨⟨k + 1, by go_num, hkn, hS⟩, by simp [intOf]; omega⟩
  ·obtain rfl : k = n := by omega
   rw [fillTo_full, hf.out] at hS
   rw [hf.out] at HW
   generalize hl : (List.range k).map (fun j => wd (val a) j &&& wd (val b) j) = l at hS HW
   obtain rfl : l.length = k := by rw [← hl]; simp
   clear hl
   have hs0 := ((hS.own 0 rfl).lt _ rfl).1
   have hS1 := hS.freeze 0 (by decide) rfl
   clear hS
   have hS := hS1
   clear hS1
   go_wp2_with (first
    | ((with_reducible refine qB ?_); (first | refine q1 ?_ ?_ | refine q2 ?_ ?_ | refine q3 ?_ ?_ | refine q4 ?_ ?_ | refine q5 ?_ ?_ | refine q6 ?_ ?_) <;> intro h_ <;> go_prune)
    | (go_at_call 71; refine (trim_any _ l _ _ HW.out.1 (by omega) (hS.ro.2.only)).mono ?_; rintro r_ w_ ⟨_, rfl, hM, hb_⟩; obtain ⟨A3, c3, l3, rfl, -⟩ := hM.parts; replace hS := hS.ret2 hb_ (stable_inter stable_set (w0.heap.size ≤ ·)) (hM.imp fun z hz _ => ⟨.inl hz.1, by rw [hz.2]; exact hs0⟩); clear hb_ hM)
    | ((with_reducible refine qM ?_); (first | refine qS hS ?_ | refine qT hS ?_); clear hS; intro w_ hS; (try simp only [Act.put, Act.eval, z1, z2, z3, z4, z5, z6, z7, z8, Value.cells] at hS)))
   refine ret_cell Tryz.results24 rfl (hS.box 0 rfl) Tryz.underlying27 rfl (by kernel_rfl) rfl ?_
   exact Ret.mk (by rw [← HW.out.2]; exact hS.ro.2.imp fun z hz _ => hz.2) hS.below
end Go.Proofs.YtihpgmbinhmmlaaGreatDoor
namespace Go.Proofs.YtihpgmbinhmmlaaGreatDoor
open Go.RowKit
attribute [local go_sem ↓] Go.wp_at_zero Go.wp_at_succ
set_option maxRecDepth 20000
set_option exponentiation.threshold 5000

section
variable {P : Program} {ops : Array Oper} {rest : List Oper} {o : Oper} {a : Act} {w0 w : World} {F : List Fact} {K : (Nat → Prop) → World → Prop} {Kt : Act → World → Prop} {Q : Exit → Act → World → Prop}
theorem opw_callv {x : Operand} {f : FuncId} {first caps : Array Value} {xs : Array Operand} {ts : Array TypeId} {vs : List Value} {R : Ending → World → Prop} (ho : o.op = .call { callee := .value x, args := xs, argTypes := ts }) (hx : a.eval x = .func (.func f) first caps) (hc : callsGo P f = true) (hv : first.toList ++ xs.toList.map a.eval ++ caps.toList = vs)
  (h : Calls P f vs.toArray w R) (hk : ∀ e w', R e w' → ∃ v, e = .returned v ∧ Kt (a.put o.dst v) w') : o.wp P a w Kt Q := by
 have he : execOp a.eval o = callFunc f vs.toArray := by
  cases o with
  | mk dst op ty pos after guard =>
   simp only at ho
   subst ho
   have e1 : vs.toArray = first ++ xs.map a.eval ++ caps := by rw [← hv]; simp
   rw [e1]
   simp [execOp, resolve, hx, Deferred.ofValue, invoke]
 unfold Oper.wp
 rw [he, run_callFunc f vs.toArray hc]
 refine h.mono fun e w' hR => ?_
 obtain ⟨v, rfl, hk⟩ := hk e w' hR
 exact hk
theorem st_setl (h : St w0 w F K) (i : Nat) (hg : Region.wanted o (yielded ops a.tmps) = true) (x : Operand) (ty : TypeId) (ho : o.op = .load ty x) (g j : Nat) (hx : a.eval x = .pointer (some ⟨g, j, none⟩)) (t : TypeId) (cs : Array Value) (hb : F[i]? = some (.box g t cs)) (v : Value) (hv : cs[j]? = some v)
  {d : TypeDesc} (hu : P.underlying ty = some d) (hd : d.isRow = true) (hi : (P.info? ty).map (·.size) = some 1) (hk : wpList P ops Q rest (a.put o.dst (.agg #[v])) w) : wpList P ops Q (o :: rest) a w :=
 BigFrame.wpList_want hg fun _ hK => opw_row1 ho hx (h.box i hb) hv hu hd hi (hK _ _ hk)
theorem st_cubel (h : St w0 w F K) (i : Nat) (hg : Region.wanted o (yielded ops a.tmps) = true) (x : Operand) (ty : TypeId) (ho : o.op = .load ty x) (g j : Nat) (hx : a.eval x = .pointer (some ⟨g, j, none⟩)) (t : TypeId) (cs : Array Value) (hb : F[i]? = some (.box g t cs)) (v u : Value) (hv : cs[j]? = some v) (hv2 : cs[j + 1]? = some u)
  {d : TypeDesc} (hu : P.underlying ty = some d) (hd : d.isRow = true) (hi : (P.info? ty).map (·.size) = some 2) (hk : wpList P ops Q rest (a.put o.dst (.agg #[v, u])) w) : wpList P ops Q (o :: rest) a w :=
 BigFrame.wpList_want hg fun _ hK => opw_mid (cs := [v, u]) ho hx (fun k z hz => by
  have hbx := h.box i hb
  match k, hz with
  | 0, hz => obtain rfl := Option.some.inj (show some _ = some z from hz); rw [Nat.add_zero, hbx.cell]; exact hv
  | 1, hz => obtain rfl := Option.some.inj (show some _ = some z from hz); rw [hbx.cell]; exact hv2
  | k + 2, hz => simp at hz) hu hd hi (hK _ _ hk)
end
theorem rng2 {w : World} {g i : Nat} {a b : Value} (h0 : w.cell? ⟨g, i, none⟩ = some a) (h1 : w.cell? ⟨g, i + 1, none⟩ = some b) : w.rangeAt g i [a, b] := fun j v hj => by
 match j, hj with
 | 0, hj => obtain rfl := Option.some.inj (show some _ = some v from hj); exact h0
 | 1, hj => obtain rfl := Option.some.inj (show some _ = some v from hj); exact h1
 | j + 2, hj => simp at hj
theorem run_geB {P : Program} {w : World} {t : TypeId} {k : IntKind} {m n : Int} {b : Bool} (h : decide (m ≥ n) = b) : (binOp .geq t (.int k m) (.int k n)).run P w = .ok (.bool b) w := by
 rw [binOp_geq, ← h]; simp
def holdsB (z : Nat × Nat) (N : Nat) : Bool := (z.1 &&& N == z.1) && !(z.2 &&& N != 0)
theorem holds_any {w0 : World} {D E : Nat → Prop} {u v : Value} {z : Nat × Nat} {N : Nat} (hu : IsCube w0 D u z) (hv : IsSet w0 E v N) : Calls Tryz.prog 28 #[u, v] w0 (Ret (fun x _ => x = .bool (holdsB z N)) w0) := by
 obtain ⟨a, b, rfl, ha, hb⟩ := hu
 obtain ⟨y, n⟩ := z
 dsimp only at ha hb
 obtain ⟨A, m, c, rfl⟩ := ha.shape
 obtain ⟨B, k, d, rfl⟩ := hb.shape
 obtain ⟨C, e, lw, rfl, -⟩ := hv.parts
 obtain ⟨l, hl⟩ : ∃ l, l = lw.length := ⟨_, rfl⟩
 rw [← hl] at hv ⊢
 clear hl
 obtain ⟨K, ka, kb, kc, hS⟩ : ∃ K : (Nat → Prop) → World → Prop, (∀ D w, K D w → IsSet w D (.agg #[.slice A m c]) y) ∧ (∀ D w, K D w → IsSet w D (.agg #[.slice B k d]) n) ∧ (∀ D w, K D w → IsSet w D (.agg #[.slice C l e]) N) ∧ St w0 w0 [] K :=
  ⟨fun D w => (IsSet w D (.agg #[.slice A m c]) y ∧ IsSet w D (.agg #[.slice B k d]) n) ∧ IsSet w D (.agg #[.slice C l e]) N, fun _ _ h => h.1.1, fun _ _ h => h.1.2, fun _ _ h => h.2, St.start (D := fun _ => True) ((stable_set.and stable_set).and stable_set) ⟨⟨ha.imp fun _ _ _ => trivial, hb.imp fun _ _ _ => trivial⟩, hv.imp fun _ _ _ => trivial⟩⟩
 clear ha hb hv
 have HR := Lib.hid (show holdsB (y, n) N = ((y &&& N == y) && !(n &&& N != 0)) from rfl)
 generalize holdsB (y, n) N = R at *
 obtain ⟨b1, hb1⟩ : ∃ b1, b1 = (y &&& N == y) := ⟨_, rfl⟩
 have HB1 := Lib.hid hb1
 rw [← hb1] at HR
 clear hb1
 go_enter Tryz.func28, Tryz.ntmps28
 cases b1
 all_goals
  go_wp2_with (first
   | ((with_reducible refine qA 2 ?_); refine st_box hS rfl _ _ rfl (.agg #[.slice A m c, .slice B k d]) _ rfl rfl ?_; clear hS; intro g2 w_ hS; (try simp only [Act.put, Act.eval, z1, z2, z3, z4, z5, z6, z7, z8, Value.cells] at hS))
   | ((with_reducible refine qA 3 ?_); refine st_box hS rfl _ _ rfl (.agg #[.slice C l e]) _ rfl rfl ?_; clear hS; intro g3 w_ hS; (try simp only [Act.put, Act.eval, z1, z2, z3, z4, z5, z6, z7, z8, Value.cells] at hS))
   | ((with_reducible refine qk 27 ?_); first | (refine st_setl hS 0 rfl _ _ rfl _ _ rfl _ _ rfl _ (by first | rfl | assumption) Tryz.underlying27 rfl (by kernel_rfl) ?_) | (refine st_setl hS 1 rfl _ _ rfl _ _ rfl _ _ rfl _ (by first | rfl | assumption) Tryz.underlying27 rfl (by kernel_rfl) ?_) | (refine st_setl hS 2 rfl _ _ rfl _ _ rfl _ _ rfl _ (by first | rfl | assumption) Tryz.underlying27 rfl (by kernel_rfl) ?_) | (refine st_setl hS 3 rfl _ _ rfl _ _ rfl _ _ rfl _ (by first | rfl | assumption) Tryz.underlying27 rfl (by kernel_rfl) ?_) | (refine st_setl hS 4 rfl _ _ rfl _ _ rfl _ _ rfl _ (by first | rfl | assumption) Tryz.underlying27 rfl (by kernel_rfl) ?_) | (refine st_setl hS 5 rfl _ _ rfl _ _ rfl _ _ rfl _ (by first | rfl | assumption) Tryz.underlying27 rfl (by kernel_rfl) ?_))
   | (go_at_call 70; refine (within_any _ _ y N _ _ _ (ka _ _ hS.ro) (kc _ _ hS.ro)).mono ?_; rintro r_ w_ ⟨_, rfl, rfl, hb_⟩; rw [← HB1.out]; replace hS := hS.ext hb_; clear hb_)
   | (go_at_call 56; refine (meets_any _ _ n N _ _ _ (kb _ _ hS.ro) (kc _ _ hS.ro)).mono ?_; rintro r_ w_ ⟨_, rfl, rfl, hb_⟩; replace hS := hS.ext hb_; clear hb_))
  go_ret
  exact Ret.mk (by rw [HR.out]; rfl) hS.below
theorem idxc_any {w0 w : World} {F : List Fact} {K : (Nat → Prop) → World → Prop} (v : Value) (l : List (Nat × Nat)) (f : FuncId) (first caps : Array Value) (q : Nat × Nat → Bool) (hcg : callsGo Tryz.prog f = true) (hS : St w0 w F K) (kl : ∀ D w, K D w → IsCubes w D v l)
  (hq : ∀ (x : Value) (z : Nat × Nat) (w : World), z ∈ l → (∃ F', St w0 w (F' ++ F) fun D w => K D w ∧ IsCube w D x z) → Calls Tryz.prog f (first.toList ++ [x] ++ caps.toList).toArray w (Ret (fun r _ => r = .bool (q z)) w)) :
  Calls Tryz.prog 111 #[v, .func (.func f) first caps] w fun e w' => ∃ k : Int, e = .returned (.int .i64 k) ∧ decide (0 ≤ k) = l.any q ∧ St w0 w' F K := by
 obtain ⟨A, c, rfl, _, hc2⟩ := (kl _ _ hS.ro).shape
 have KS := Lib.hid hS.stable
 have HQ := Lib.hid hq
 clear hq
 have HCG := Lib.hid hcg
 clear hcg
 go_enter Tryz.func111, Tryz.ntmps111
 go_wp2_with (first | ((with_reducible refine qB ?_); (first | refine q1 ?_ ?_ | refine q2 ?_ ?_ | refine q3 ?_ ?_ | refine q4 ?_ ?_ | refine q5 ?_ ?_ | refine q6 ?_ ?_) <;> intro h_ <;> go_prune))
 go_loopw [8] (fun i wr => ∃ k : Nat, k ≤ l.length ∧ i = .int .i64 (k : Nat) ∧ St w0 wr F K ∧ Hid (∀ z ∈ l.take k, q z = false)) (fun i _ => l.length - (intOf i).toNat)
 case atStart => exact ⟨0, by omega, rfl, hS, Lib.hid (by simp)⟩
 case round =>
  clear hS
  obtain ⟨k, hk, rfl, hS, HZ⟩ := hrel
  by_cases hlt : k < l.length
  ·obtain ⟨b, o, y, n, rfl, _, hb, c0, c1, hy, hn⟩ := (kl _ _ hS.ro).at_ hlt
   obtain ⟨Ay, my, cy, rfl⟩ := hy.shape
   obtain ⟨An, mn, cn, rfl⟩ := hn.shape
   have HM : Hid (l.getD k (0, 0) ∈ l) := Lib.hid (by rw [List.getD_eq_getElem?_getD, List.getElem?_eq_getElem hlt]; exact List.getElem_mem hlt)
   have HZ2 : Hid (q (l.getD k (0, 0)) = false → ∀ z ∈ l.take (k + 1), q z = false) := Lib.hid fun h z hz => by
    rw [List.take_add_one, List.mem_append] at hz
    rcases hz with hz | hz
    ·exact HZ.out z hz
    ·rw [List.getElem?_eq_getElem hlt] at hz
     rw [List.getD_eq_getElem?_getD, List.getElem?_eq_getElem hlt] at h
     have : z = l[k] := by simpa using hz
     rw [this]; exact h
   have HY : Hid (q (l.getD k (0, 0)) = true → true = l.any q) := Lib.hid fun h => (List.any_eq_true.2 ⟨_, HM.out, h⟩).symm
   replace hS := hS.add (D := Free F) (stable_cube (v := .agg #[.slice Ay my cy, .slice An mn cn]) (z := l.getD k (0, 0))) ⟨_, _, rfl, hy, hn⟩ fun _ h _ => h
   clear hy hn
   generalize l.getD k (0, 0) = z at *
   have HK := Lib.hid (HQ.out (.agg #[.slice Ay my cy, .slice An mn cn]) z wr HM.out ⟨[], hS⟩)
   obtain ⟨args, hargs⟩ : ∃ args, args = first.toList ++ [Value.agg #[.slice Ay my cy, .slice An mn cn]] ++ caps.toList := ⟨_, rfl⟩
   rw [← hargs] at HK
   have HARG := Lib.hid hargs
   clear hargs
   go_wp2_with (first
    | ((with_reducible refine qA 15 ?_); refine BigFrame.wpList_want rfl fun _ hK => opw_mid (cs := [.slice Ay my cy, .slice An mn cn]) rfl rfl (rng2 c0 c1) Tryz.underlying56 rfl (by kernel_rfl) (hK _ _ ?_))
    | ((with_reducible refine qA 16 ?_); refine BigFrame.wpList_want rfl fun _ hK => opw_callv (vs := args) rfl rfl HCG.out (by simp [Act.eval, Act.put, HARG.out]) HK.out fun e w' ⟨u_, he_, hu_, hb_⟩ => ⟨u_, he_, hK _ _ ?_⟩))
   ·go_ret
    exact ⟨_, rfl, (decide_eq_true (by omega)).trans (HY.out (by assumption)), (hS.ext hb_).mono KS.out fun _ _ h => h.1⟩
   ·exact ⟨⟨k + 1, hlt, by go_num, (hS.ext hb_).mono KS.out fun _ _ h => h.1, Lib.hid (HZ2.out (by assumption))⟩, by simp [intOf]; omega⟩
  ·obtain rfl : k = l.length := by omega
   have HN : Hid (false = l.any q) := Lib.hid (by
    have h := HZ.out
    rw [List.take_length] at h
    exact (List.any_eq_false.2 fun z hz => by rw [h z hz]; simp).symm)
   go_wp2_with (first | ((with_reducible refine qB ?_); (first | refine q1 ?_ ?_ | refine q2 ?_ ?_ | refine q3 ?_ ?_ | refine q4 ?_ ?_ | refine q5 ?_ ?_ | refine q6 ?_ ?_) <;> intro h_ <;> go_prune))
   go_ret
   exact ⟨_, rfl, (decide_eq_false (by omega)).trans HN.out, hS⟩
theorem anyc_any {w0 w : World} {F : List Fact} {K : (Nat → Prop) → World → Prop} (v : Value) (l : List (Nat × Nat)) (f : FuncId) (first caps : Array Value) (q : Nat × Nat → Bool) (hcg : callsGo Tryz.prog f = true) (hS : St w0 w F K) (kl : ∀ D w, K D w → IsCubes w D v l)
  (hq : ∀ (x : Value) (z : Nat × Nat) (w : World), z ∈ l → (∃ F', St w0 w (F' ++ F) fun D w => K D w ∧ IsCube w D x z) → Calls Tryz.prog f (first.toList ++ [x] ++ caps.toList).toArray w (Ret (fun r _ => r = .bool (q z)) w)) :
  Calls Tryz.prog 64 #[v, .func (.func f) first caps] w fun e w' => e = .returned (.bool (l.any q)) ∧ St w0 w' F K := by
 have HI := Lib.hid (idxc_any v l f first caps q hcg hS kl hq)
 clear hcg hS kl hq
 go_enter Tryz.func64, Tryz.ntmps64
 go_wp2_with fail
 refine HI.out.mono ?_
 rintro e w1 ⟨k, rfl, hk, hS⟩
 have HK := Lib.hid hk
 clear hk
 go_wp2_with (first | ((with_reducible refine qA 8 ?_); refine BigFrame.wpList_want rfl fun _ hK => opw_bin (vx := .int .i64 k) (vy := .int .i64 0) (v := .bool (l.any q)) rfl rfl rfl rfl (run_geB ((decide_eq_decide.2 (by omega)).trans HK.out)) (hK _ _ ?_)))
 go_ret
 exact ⟨rfl, hS⟩
end Go.Proofs.YtihpgmbinhmmlaaGreatDoor
