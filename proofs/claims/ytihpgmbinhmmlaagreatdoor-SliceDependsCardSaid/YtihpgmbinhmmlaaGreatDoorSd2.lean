/-
  What the statement needs, part 2.
-/
import Derived.BigRegion
import Derived.StillTailTactics
import Derived.RangeFuncCalls
import Derived.RangeFuncBox
import Derived.RangeFuncLeaves
import Derived.Shelf.Abstract
import Derived.OwnWalkIn
import Derived.TacticsInMore
import Derived.LoopNIn
import Derived.LoopIn
import Derived.Maps.AppendAt
import Derived.ChangeKeysEq
import Derived.Test.YtihpgmbinhmmlaaGreatDoorSort
import Derived.Test.YtihpgmbinhmmlaaGreatDoorSd1
namespace Go.Proofs.YtihpgmbinhmmlaaGreatDoor
open Go.RowKit
attribute [local go_sem ↓] Go.wp_at_zero Go.wp_at_succ
set_option maxRecDepth 20000

def pcells (L : List (Nat × Nat)) : List Value := L.flatMap fun x => [.int .i64 (x.1 : Nat), .int .i64 (x.2 : Nat)]
theorem pcells_len (L : List (Nat × Nat)) : (pcells L).length = L.length * 2 := by
 induction L with
 | nil => rfl
 | cons x r ih => simp only [pcells, List.flatMap_cons, List.length_append, List.length_cons, List.length_nil] at *; omega
theorem pcells_cons (x : Nat × Nat) (L : List (Nat × Nat)) : pcells (x :: L) = .int .i64 (x.1 : Nat) :: .int .i64 (x.2 : Nat) :: pcells L := rfl
theorem pcells_at : ∀ (L : List (Nat × Nat)) (k : Nat), k < L.length → (pcells L)[k * 2]? = some (.int .i64 ((L.getD k (0, 0)).1 : Nat)) ∧ (pcells L)[k * 2 + 1]? = some (.int .i64 ((L.getD k (0, 0)).2 : Nat))
 | x :: L, 0, _ => ⟨rfl, rfl⟩
 | x :: L, k + 1, h => by
  have := pcells_at L k (by simpa using h)
  rw [pcells_cons, show (k + 1) * 2 = k * 2 + 1 + 1 by omega]
  simpa using this
theorem pcells_app (L M : List (Nat × Nat)) : pcells (L ++ M) = pcells L ++ pcells M := by simp [pcells]
theorem getD_at {α : Type} {L : List α} {j : Nat} (d : α) (h : j < L.length) : L[j]? = some (L.getD j d) := by
 rw [List.getD_eq_getElem?_getD, List.getElem?_eq_getElem h]; rfl
def rowI (f : Nat → Int) (n : Nat) : List Int := (List.range n).map f
theorem rowI_len (f : Nat → Int) (n : Nat) : (rowI f n).length = n := by simp [rowI]
theorem rowI_at {f : Nat → Int} {n k : Nat} (h : k < n) : (ints (rowI f n))[k]? = some (.int .i64 (f k)) := by simp [ints, rowI, h]
theorem rowI_ext {f g : Nat → Int} {n : Nat} (h : ∀ k, k < n → f k = g k) : rowI f n = rowI g n := List.map_congr_left fun k hk => h k (List.mem_range.1 hk)
theorem rowI_set (f : Nat → Int) (n k : Nat) (v : Int) : (ints (rowI f n)).set k (.int .i64 v) = ints (rowI (fun y => if y = k then v else f y) n) := by
 apply List.ext_getElem
 ·simp [ints, rowI]
 ·intro j h1 h2
  simp only [ints, rowI, List.getElem_set, List.getElem_map, List.getElem_range]
  by_cases e : k = j
  ·subst e; simp
  ·rw [if_neg e, if_neg (fun h => e h.symm)]
theorem rowI_zero (n : Nat) : rowI (fun _ => 0) n = List.replicate n 0 := by
 apply List.ext_getElem <;> simp [rowI]
theorem ints_rep (n : Nat) : (madeCells #[Value.int .i64 0] (n * 1)).toList = ints (List.replicate n 0) := by
 rw [Nat.mul_one, toList_madeCells_one]; simp [ints]
def idxI (xs : List Int) (v : Int) : Int := if v ∈ xs then (xs.idxOf v : Nat) else -1
theorem idxI_some {xs : List Int} {v : Int} {k : Nat} (h : k < xs.length) (hk : xs.getD k 0 = v) (hn : ∀ j, j < k → xs.getD j 0 ≠ v) : idxI xs v = (k : Int) := by
 have hm : v ∈ xs := by
  rw [← hk, List.getD_eq_getElem?_getD, List.getElem?_eq_getElem h]; exact List.getElem_mem h
 rw [idxI, if_pos hm]
 have h1 : xs.idxOf v < xs.length := List.idxOf_lt_length_iff.2 hm
 have h2 : xs.getD (xs.idxOf v) 0 = v := by
  rw [List.getD_eq_getElem?_getD, List.getElem?_eq_getElem h1]; exact List.getElem_idxOf h1
 have h3 : ¬ xs.idxOf v < k := fun h => hn _ h h2
 have h4 : ¬ k < xs.idxOf v := fun h => by
  have := List.not_of_lt_findIdx (p := (· == v)) (xs := xs) (by exact h)
  rw [List.getD_eq_getElem?_getD, List.getElem?_eq_getElem (by omega)] at hk
  simp at this hk
  exact this hk
 omega
theorem idxI_none {xs : List Int} {v : Int} (hn : ∀ j, j < xs.length → xs.getD j 0 ≠ v) : idxI xs v = -1 := by
 rw [idxI, if_neg]
 intro hm
 obtain ⟨k, hk, e⟩ := List.getElem_of_mem hm
 exact hn k hk (by rw [List.getD_eq_getElem?_getD, List.getElem?_eq_getElem hk]; exact e)
theorem idxI_cases (xs : List Int) (v : Int) : (∃ k, k < xs.length ∧ idxI xs v = ((k : Nat) : Int) ∧ xs.getD k 0 = v) ∨ idxI xs v = -1 ∧ ∀ j, j < xs.length → xs.getD j 0 ≠ v := by
 by_cases h : v ∈ xs
 ·left
  have h1 : xs.idxOf v < xs.length := List.idxOf_lt_length_iff.2 h
  refine ⟨_, h1, by rw [idxI, if_pos h], ?_⟩
  rw [List.getD_eq_getElem?_getD, List.getElem?_eq_getElem h1]; exact List.getElem_idxOf h1
 ·right
  refine ⟨by rw [idxI, if_neg h], fun j hj e => h ?_⟩
  rw [List.getD_eq_getElem?_getD, List.getElem?_eq_getElem hj] at e
  rw [← e]; exact List.getElem_mem hj
theorem rowI_getD {f : Nat → Int} {n k : Nat} (h : k < n) : (rowI f n).getD k 0 = f k := by simp [rowI, List.getD_eq_getElem?_getD, h]
theorem sindex_any (p : Value) (xs : List Int) (v : Int) (hl : xs.length ≤ 1000000000) (w0 : World) (D : Nat → Prop) (hp : Sl w0 D 1 p xs.length (ints xs)) :
  Calls Tryz.prog 39 #[p, .int .i64 v] w0 (Ret (fun x _ => x = .int .i64 (idxI xs v)) w0) := by
 obtain ⟨A, c, rfl, _, _⟩ := hp.shape
 obtain ⟨K, hk, hS⟩ : ∃ K : (Nat → Prop) → World → Prop, (∀ D w, K D w → Sl w D 1 (.slice A xs.length c) xs.length (ints xs)) ∧ St w0 w0 [] K := ⟨_, fun _ _ h => h, St.start stable_sl hp⟩
 clear hp
 have HS := Lib.hid (fun (k : Nat) => @idxI_some xs v k)
 have HN := Lib.hid (@idxI_none xs v)
 generalize idxI xs v = R at *
 go_enter Tryz.func39, Tryz.ntmps39
 go_wp2_with fail
 go_loopw [8] (fun i wr => ∃ k : Nat, k ≤ xs.length ∧ i = .int .i64 k ∧ Hid (∀ j, j < k → xs.getD j 0 ≠ v) ∧ St w0 wr [] K) (fun i _ => xs.length - (intOf i).toNat)
 case atStart => exact ⟨0, by omega, rfl, Lib.hid (fun j h => absurd h (by omega)), hS⟩
 case round =>
  clear hS
  obtain ⟨k, hk2, rfl, HJ, hS⟩ := hrel
  by_cases hlt : k < xs.length
  ·have f1 := ints_at xs k hlt
   by_cases hx : xs.getD k 0 = v
   ·have H1 := Lib.hid (HS.out k hlt hx HJ.out)
    rw [hx] at f1
    clear hx
    go_wp2_with (first | ((with_reducible refine qB ?_); (first | refine q1 ?_ ?_ | refine q2 ?_ ?_ | refine q3 ?_ ?_ | refine q4 ?_ ?_ | refine q5 ?_ ?_ | refine q6 ?_ ?_) <;> intro h_ <;> go_prune) | ((with_reducible refine qI ?_); refine st_iaddr1 hS rfl _ _ _ rfl _ rfl rfl (by assumption) Tryz.underlying48 (by kernel_rfl) (by first | assumption | omega) _ (by assumption) ?_; intro p_ hc_))
    go_ret
    exact Ret.mk (congrArg (Value.int .i64) H1.out.symm) hS.below
   ·have H2 := Lib.hid (fun (j : Nat) (hj : j < k + 1) => show xs.getD j 0 ≠ v from if e : j = k then e ▸ hx else HJ.out j (by omega))
    generalize xs.getD k 0 = x at *
    have hx' : ¬ v = x := fun e => hx e.symm
    go_wp2_with (first | ((with_reducible refine qB ?_); (first | refine q1 ?_ ?_ | refine q2 ?_ ?_ | refine q3 ?_ ?_ | refine q4 ?_ ?_ | refine q5 ?_ ?_ | refine q6 ?_ ?_) <;> intro h_ <;> go_prune) | ((with_reducible refine qI ?_); refine st_iaddr1 hS rfl _ _ _ rfl _ rfl rfl (by assumption) Tryz.underlying48 (by kernel_rfl) (by first | assumption | omega) _ (by assumption) ?_; intro p_ hc_))
    exact ⟨⟨k + 1, hlt, by go_num, H2, hS⟩, by simp [intOf]; omega⟩
  ·obtain rfl : k = xs.length := by omega
   go_wp2_with (first | ((with_reducible refine qB ?_); (first | refine q1 ?_ ?_ | refine q2 ?_ ?_ | refine q3 ?_ ?_ | refine q4 ?_ ?_ | refine q5 ?_ ?_ | refine q6 ?_ ?_) <;> intro h_ <;> go_prune))
   go_ret
   exact Ret.mk (congrArg (Value.int .i64) (HN.out HJ.out).symm) hS.below
theorem ty_pairs : SliceTy Tryz.prog 32 122 2 16 := ⟨Tryz.underlying32, by kernel_rfl⟩
theorem fresh_pair {L : List (Nat × Nat)} {S : List Nat} {k : Nat} (hT : Topo L S) (hk : k ∉ S) (hp : ∀ x, (x, k) ∈ L → x ∈ S) {x : Nat × Nat} (hx : x ∈ L) (e : x.1 = k) : x.2 ≠ k ∧ x.2 ∉ S := by
 obtain ⟨a, b⟩ := x
 dsimp only at *
 subst e
 refine ⟨fun e => ?_, fun hb => ?_⟩
 ·subst e; exact hk (hp _ hx)
 ·obtain ⟨i, hi⟩ := List.mem_iff_getElem?.1 hb
  exact hk (List.mem_of_mem_take (hT.2 i b hi a hx))
theorem cntTo_le (L : List (Nat × Nat)) (j y : Nat) : cntTo L j y ≤ L.length := by
 unfold cntTo
 exact Nat.le_trans (List.length_filter_le _ _) (by rw [List.length_take]; omega)
theorem leftTo_bound (L : List (Nat × Nat)) (S : List Nat) (k j y : Nat) : -((L.length : Nat) : Int) - 1 ≤ leftTo L S k j y ∧ leftTo L S k j y ≤ (L.length : Nat) := by
 unfold leftTo
 have h1 := List.length_filter_le (fun x : Nat × Nat => decide (x.2 = y ∧ x.1 ∉ S)) L
 have h2 := List.length_filter_le (fun x : Nat × Nat => decide (x.2 = y ∧ x.1 = k)) (L.take j)
 have h3 : (L.take j).length ≤ L.length := by rw [List.length_take]; omega
 split
 ·omega
 ·split <;> omega
def lenAt (w : World) (p : Addr) : Nat := match w.cell? p with | some (.slice _ m _) => m | _ => 0
theorem lenAt_of {w : World} {p : Addr} {A : Option Addr} {m c : Nat} (h : w.cell? p = some (.slice A m c)) : lenAt w p = m := by simp [lenAt, h]
set_option maxHeartbeats 1000000 in
theorem osort_any {w0 w : World} {F0 : List Fact} {K : (Nat → Prop) → World → Prop} (q n : Nat) (L : List (Nat × Nat)) (pv : Value) (hn : n ≤ 256) (hL : Inr n L) (hl : L.length ≤ 1000000) (hS : St w0 w (.box q 184 #[.int .i64 (n : Nat), pv, .slice none 0 0, .slice none 0 0, .slice none 0 0] :: F0) K)
  (kp : ∀ D w, K D w → Sl w D 2 pv L.length (pcells L)) :
  Calls Tryz.prog 132 #[.pointer (some ⟨q, 0, none⟩)] w fun e w' => ∃ (b : Bool) (S : List Nat) (sv : Value), e = .returned (.bool b) ∧ (b = true → Acyc L ∧ Topo L S ∧ S.length = n ∧ ∀ y ∈ S, y < n) ∧ (b = false → ¬ Acyc L) ∧
   St w0 w' (.own sv 3 1 S.length (ints (natInts S)) :: .box q 184 #[.int .i64 (n : Nat), pv, .slice none 0 0, .slice none 0 0, sv] :: F0) K := by
 obtain ⟨A, c, rfl, _, _⟩ := (kp _ _ hS.ro).shape
 have HL := Lib.hid hL
 have HC0 := Lib.hid (show rowI (fun y => (cntTo L 0 y : Int)) n = List.replicate n 0 by rw [← rowI_zero]; exact rowI_ext fun k _ => by simp [cntTo])
 clear hL
 go_enter Tryz.func132, Tryz.ntmps132
 go_wp2_with (first
  | ((with_reducible refine qK ?_); refine qC hS ?_)
  | ((with_reducible show wpList _ _ _ (⟨_, .makeSlice _ _ _, _, _, _, _⟩ :: _) _ _); refine st_mk hS rfl _ _ _ rfl ty_ints .i64 .i64 n #[.int .i64 0] rfl rfl (by kernel_rfl) (by omega) (by omega) ?_; clear hS; intro g3 w_ hS))
 rw [ints_rep, ← HC0.out] at hS
 go_loopw [19] (fun i wr => ∃ j : Nat, j ≤ L.length ∧ i = .int .i64 j ∧ St w0 wr (.own (.slice (some ⟨g3, 0, none⟩) n n) 3 1 n (ints (rowI (fun y => (cntTo L j y : Int)) n)) :: .box q 184 #[.int .i64 (n : Nat), .slice A L.length c, .slice none 0 0, .slice none 0 0, .slice none 0 0] :: F0) K) (fun i _ => L.length - (intOf i).toNat)
 case atStart => exact ⟨0, by omega, rfl, hS⟩
 case round =>
  clear hS
  obtain ⟨j, hj, rfl, hS⟩ := hrel
  by_cases hlt : j < L.length
  ·obtain ⟨f1, f2⟩ := pcells_at L j hlt
   have HG := Lib.hid (getD_at (0, 0) hlt)
   have hm := HL.out (L.getD j (0, 0)) (by rw [List.getD_eq_getElem?_getD, List.getElem?_eq_getElem hlt]; exact List.getElem_mem hlt)
   generalize L.getD j (0, 0) = x at *
   obtain ⟨a, b⟩ := x
   dsimp only at f1 f2 hm
   obtain ⟨ha, hb⟩ := hm
   have HC := Lib.hid (show (fun y => ((cntTo L (j + 1) y : Nat) : Int)) = fun y => if y = b then ((cntTo L j b : Nat) : Int) + 1 else ((cntTo L j y : Nat) : Int) from funext fun y => by
    rw [cntTo_step HG.out]
    by_cases e : y = b
    ·subst e; rw [if_pos rfl, if_pos rfl]; push_cast; rfl
    ·rw [if_neg e, if_neg (fun h => e h.symm)])
   have hcn := cntTo_le L j b
   go_wp2_with (first
    | ((with_reducible refine qB ?_); (first | refine q1 ?_ ?_ | refine q2 ?_ ?_ | refine q3 ?_ ?_ | refine q4 ?_ ?_ | refine q5 ?_ ?_ | refine q6 ?_ ?_) <;> intro h_ <;> go_prune)
    | ((with_reducible refine qI ?_); refine qj hS Tryz.underlying32 ?_; intro b_ j_ hc0_ hc1_)
    | ((with_reducible refine qA 5 ?_); refine st_alloc hS rfl _ rfl (by kernel_rfl) ?_; clear hS; intro g5 w_ hS; (try simp only [Act.put, Act.eval, z1, z2, z3, z4, z5, z6, z7, z8, Value.cells] at hS))
    | ((with_reducible refine qm 3 ?_); refine st_ostore hS 1 rfl _ _ _ rfl _ (b) (.int .i64 (((cntTo L j b : Nat) : Int) + 1)) rfl (rfl) rfl (by omega) rfl rfl (by kernel_rfl) ?_; clear hS; intro w_ hS; (try simp only [Act.put, Act.eval, z1, z2, z3, z4, z5, z6, z7, z8, Value.cells] at hS))
    | ((with_reducible refine qA 27 ?_); refine BigFrame.wpList_want rfl fun _ hK => opw_cell rfl rfl (by kernel_rfl) (own_cell (hS.own 1 rfl) _ _ (rowI_at hb)) (hK _ _ ?_))
    | ((with_reducible refine qM ?_); (first | refine qS hS ?_ | refine qT hS ?_); clear hS; intro w_ hS; (try simp only [Act.put, Act.eval, z1, z2, z3, z4, z5, z6, z7, z8, Value.cells] at hS))
    | ((with_reducible refine qK ?_); refine qC hS ?_))
   rw [rowI_set, ← HC.out] at hS
   exact ⟨⟨j + 1, hlt, by go_num, hS.sub (.cons _ (.refl _))⟩, by simp [intOf]; omega⟩
  ·obtain rfl : j = L.length := by omega
   have HC1 := Lib.hid (show (fun y => ((cntTo L L.length y : Nat) : Int)) = leftOf L [] from funext fun y => cntTo_full L y)
   rw [HC1.out] at hS
   clear HC1 hlt hj
   go_wp2_with (first | ((with_reducible refine qB ?_); (first | refine q1 ?_ ?_ | refine q2 ?_ ?_ | refine q3 ?_ ?_ | refine q4 ?_ ?_ | refine q5 ?_ ?_ | refine q6 ?_ ?_) <;> intro h_ <;> go_prune))
   replace hS := (hS.nil 3 1)
   go_loopw [2] (fun r wr => ∃ (S : List Nat) (sv : Value), r = .bool false ∧ S.length ≤ n ∧ Hid (Topo L S ∧ ∀ y ∈ S, y < n) ∧ St w0 wr (.own (.slice (some ⟨g3, 0, none⟩) n n) 3 1 n (ints (rowI (leftOf L S) n)) :: .own sv 3 1 S.length (ints (natInts S)) :: .box q 184 #[.int .i64 (n : Nat), .slice A L.length c, .slice none 0 0, .slice none 0 0, sv] :: F0) K) (fun _ wr => n - lenAt wr ⟨q, 4, none⟩)
   case atStart => exact ⟨[], _, rfl, by simp, Lib.hid ⟨Topo.nil L, by simp⟩, hS.swap⟩
   case round =>
    clear hS
    obtain ⟨S, sv, rfl, hSl, HT, hS⟩ := hrel
    obtain ⟨B, cB, rfl, _, _⟩ := own_shp (hS.own 1 rfl)
    have hc0 : wr.cell? ⟨q, 0, none⟩ = some (.int .i64 (n : Nat)) := (hS.box 2 rfl).cell 0
    have hc4 : wr.cell? ⟨q, 4, none⟩ = some (.slice B S.length cB) := (hS.box 2 rfl).cell 4
    have HLA := Lib.hid (lenAt_of hc4)
    have HI := Lib.hid (sindex_any (.slice (some ⟨g3, 0, none⟩) n n) (rowI (leftOf L S) n) 0 (by rw [rowI_len]; omega))
    have HR := Lib.hid (rowI_len (leftOf L S) n)
    by_cases hlt : S.length < n
    ·rcases idxI_cases (rowI (leftOf L S) n) 0 with ⟨k, hk, hR, hk0⟩ | ⟨hR, hno⟩
     ·rw [hR] at HI
      rw [rowI_len] at hk
      rw [rowI_getD hk] at hk0
      have HK0 := Lib.hid (leftOf_zero.1 hk0)
      clear hR hk0
      go_wp2_with (first | go_region)
      replace hS := hS.drew
      have hs := Sl.of_own (hS.own 0 rfl)
      generalize wr.drew = W2 at *
      have hs2 : Sl W2 (w0.heap.size ≤ ·) 1 (.slice (some ⟨g3, 0, none⟩) n n) (rowI (leftOf L S) n).length (ints (rowI (leftOf L S) n)) := by rw [HR.out]; exact hs
      refine (HI.out W2 _ hs2).mono ?_
      rintro r_ w3 ⟨_, rfl, rfl, hb3⟩
      replace hS := hS.ext hb3
      clear hb3 hs hs2 hc0 hc4
      go_wp2_with (first
       | ((with_reducible refine qB ?_); (first | refine q1 ?_ ?_ | refine q2 ?_ ?_ | refine q3 ?_ ?_ | refine q4 ?_ ?_ | refine q5 ?_ ?_ | refine q6 ?_ ?_) <;> intro h_ <;> go_prune)
       | ((with_reducible refine qm 3 ?_); refine st_ostore hS 0 rfl _ _ _ rfl _ (k) (.int .i64 (-1)) rfl (rfl) rfl (by omega) rfl rfl (by kernel_rfl) ?_; clear hS; intro w_ hS; (try simp only [Act.put, Act.eval, z1, z2, z3, z4, z5, z6, z7, z8, Value.cells] at hS))
       | (((with_reducible show wpList _ _ _ (⟨_, .buildSlice _ 1 _, _, _, _, _⟩ :: _) _ _); refine st_push hS 1 rfl rfl _ _ _ _ rfl rfl ty_ints _ _ _ (.int .i64 (k : Nat)) #[.int .i64 (k : Nat)] rfl (by kernel_rfl) rfl rfl rfl rfl (by intro u hu; simp at hu; first | (subst hu; rfl) | (rcases hu with rfl | rfl <;> rfl)) (by omega) (by omega) ?_; clear hS; intro z_ v_ w_ hS; (try simp only [Act.put, Act.eval, z1, z2, z3, z4, z5, z6, z7, z8, Value.cells] at hS)); obtain ⟨gp, cp, rfl, _, _⟩ := own_pos (hS.own 1 rfl) (Nat.succ_pos _))
       | ((with_reducible refine qM ?_); (first | refine qS hS ?_ | refine qT hS ?_); clear hS; intro w_ hS; (try simp only [Act.put, Act.eval, z1, z2, z3, z4, z5, z6, z7, z8, Value.cells] at hS))
       | ((with_reducible refine qK ?_); refine qC hS ?_))
      have HL0 := Lib.hid (show (fun y => if y = k then (-1 : Int) else leftOf L S y) = leftTo L S k 0 from funext fun y => leftTo_zero.symm)
      rw [rowI_set, HL0.out] at hS
      clear HL0 HI
      go_loopw [63] (fun i wr => ∃ j : Nat, j ≤ L.length ∧ i = .int .i64 j ∧ St w0 wr (.own (.slice (some ⟨g3, 0, none⟩) n n) 3 1 n (ints (rowI (leftTo L S k j) n)) :: .own (.slice (some ⟨gp, 0, none⟩) (S.length + 1) cp) 3 1 (S.length + 1) (ints (natInts S) ++ [.int .i64 (k : Nat)]) :: .box q 184 #[.int .i64 (n : Nat), .slice A L.length c, .slice none 0 0, .slice none 0 0, .slice (some ⟨gp, 0, none⟩) (S.length + 1) cp] :: F0) K) (fun i _ => L.length - (intOf i).toNat)
      case atStart => exact ⟨0, by omega, rfl, hS⟩
      case round =>
       clear hS
       obtain ⟨j, hj, rfl, hS⟩ := hrel
       by_cases hlj : j < L.length
       ·obtain ⟨f1, f2⟩ := pcells_at L j hlj
        have HG := Lib.hid (getD_at (0, 0) hlj)
        have hmem : L.getD j (0, 0) ∈ L := by rw [List.getD_eq_getElem?_getD, List.getElem?_eq_getElem hlj]; exact List.getElem_mem hlj
        have hm := HL.out _ hmem
        have HF := Lib.hid (fresh_pair HT.out.1 HK0.out.1 HK0.out.2 hmem)
        clear hmem
        generalize L.getD j (0, 0) = x at *
        obtain ⟨a, b⟩ := x
        dsimp only at f1 f2 hm
        obtain ⟨ha, hb⟩ := hm
        have HST := Lib.hid (fun y => leftTo_step (L := L) (S := S) (k := k) (j := j) HG.out HF.out y)
        have hbd := leftTo_bound L S k j b
        by_cases hak : a = k
        ·have HC := Lib.hid (show leftTo L S k (j + 1) = fun y => if y = b then leftTo L S k j b - 1 else leftTo L S k j y from funext fun y => by
          rw [HST.out y]
          by_cases e : y = b
          ·rw [if_pos ⟨hak, e.symm⟩, if_pos e, e]
          ·rw [if_neg (fun h => e h.2.symm), if_neg e])
         have hval := rowI_at (f := leftTo L S k j) hb
         have HV := Lib.hid hval
         clear hval
         generalize leftTo L S k j b = lv at *
         subst hak
         go_wp2_with (first
          | ((with_reducible refine qB ?_); (first | refine q1 ?_ ?_ | refine q2 ?_ ?_ | refine q3 ?_ ?_ | refine q4 ?_ ?_ | refine q5 ?_ ?_ | refine q6 ?_ ?_) <;> intro h_ <;> go_prune)
          | ((with_reducible refine qI ?_); refine qj hS Tryz.underlying32 ?_; intro b_ j_ hc0_ hc1_)
          | ((with_reducible refine qA 8 ?_); refine st_alloc hS rfl _ rfl (by kernel_rfl) ?_; clear hS; intro g8 w_ hS; (try simp only [Act.put, Act.eval, z1, z2, z3, z4, z5, z6, z7, z8, Value.cells] at hS))
          | ((with_reducible refine qm 3 ?_); refine st_ostore hS 1 rfl _ _ _ rfl _ (b) (.int .i64 (lv - 1)) rfl (rfl) rfl (by omega) rfl rfl (by kernel_rfl) ?_; clear hS; intro w_ hS; (try simp only [Act.put, Act.eval, z1, z2, z3, z4, z5, z6, z7, z8, Value.cells] at hS))
          | ((with_reducible refine qA 75 ?_); refine BigFrame.wpList_want rfl fun _ hK => opw_cell rfl rfl (by kernel_rfl) (own_cell (hS.own 1 rfl) _ _ (HV.out)) (hK _ _ ?_))
          | ((with_reducible refine qM ?_); (first | refine qS hS ?_ | refine qT hS ?_); clear hS; intro w_ hS; (try simp only [Act.put, Act.eval, z1, z2, z3, z4, z5, z6, z7, z8, Value.cells] at hS))
          | ((with_reducible refine qK ?_); refine qC hS ?_))
         rw [rowI_set, ← HC.out] at hS
         exact ⟨⟨j + 1, hlj, by go_num, hS.sub (.cons _ (.refl _))⟩, by simp [intOf]; omega⟩
        ·have HC := Lib.hid (show leftTo L S k (j + 1) = leftTo L S k j from funext fun y => by rw [HST.out y, if_neg (fun h => hak h.1)])
         have hak2 : ¬ (a : Int) = (k : Int) := by omega
         go_wp2_with (first
          | ((with_reducible refine qB ?_); (first | refine q1 ?_ ?_ | refine q2 ?_ ?_ | refine q3 ?_ ?_ | refine q4 ?_ ?_ | refine q5 ?_ ?_ | refine q6 ?_ ?_) <;> intro h_ <;> go_prune)
          | ((with_reducible refine qI ?_); refine qj hS Tryz.underlying32 ?_; intro b_ j_ hc0_ hc1_)
          | ((with_reducible refine qA 8 ?_); refine st_alloc hS rfl _ rfl (by kernel_rfl) ?_; clear hS; intro g8 w_ hS; (try simp only [Act.put, Act.eval, z1, z2, z3, z4, z5, z6, z7, z8, Value.cells] at hS))
          | ((with_reducible refine qM ?_); (first | refine qS hS ?_ | refine qT hS ?_); clear hS; intro w_ hS; (try simp only [Act.put, Act.eval, z1, z2, z3, z4, z5, z6, z7, z8, Value.cells] at hS))
          | ((with_reducible refine qK ?_); refine qC hS ?_))
         exact ⟨⟨j + 1, hlj, by go_num, by rw [HC.out]; exact hS.sub (.cons _ (.refl _))⟩, by simp [intOf]; omega⟩
       ·obtain rfl : j = L.length := by omega
        have HLF := Lib.hid (show leftTo L S k L.length = leftOf L (S ++ [k]) from funext fun y => leftTo_full HK0.out.1 y)
        rw [HLF.out] at hS
        clear HLF hlj hj
        go_wp2_with (first | ((with_reducible refine qB ?_); (first | refine q1 ?_ ?_ | refine q2 ?_ ?_ | refine q3 ?_ ?_ | refine q4 ?_ ?_ | refine q5 ?_ ?_ | refine q6 ?_ ?_) <;> intro h_ <;> go_prune))
        have hS2 : St w0 wr (.own (.slice (some ⟨g3, 0, none⟩) n n) 3 1 n (ints (rowI (leftOf L (S ++ [k])) n)) :: .own (.slice (some ⟨gp, 0, none⟩) (S.length + 1) cp) 3 1 (S ++ [k]).length (ints (natInts (S ++ [k]))) :: .box q 184 #[.int .i64 (n : Nat), .slice A L.length c, .slice none 0 0, .slice none 0 0, .slice (some ⟨gp, 0, none⟩) (S.length + 1) cp] :: F0) K := by
         have e1 : (S ++ [k]).length = S.length + 1 := by simp
         have e2 : ints (natInts (S ++ [k])) = ints (natInts S) ++ [.int .i64 (k : Nat)] := by simp [ints, natInts]
         rw [e1, e2]; exact hS
        have h4 : lenAt wr ⟨q, 4, none⟩ = S.length + 1 := lenAt_of ((hS2.box 2 rfl).cell 4)
        refine ⟨⟨S ++ [k], by simp; omega, Lib.hid ⟨HT.out.1.snoc HK0.out.1 HK0.out.2, fun y hy => ?_⟩, _, hS2⟩, by rw [h4, HLA.out]; omega⟩
        rcases List.mem_append.1 hy with h | h
        ·exact HT.out.2 y h
        ·rw [List.mem_singleton] at h; rw [h]; exact hk
     ·rw [hR] at HI
      rw [rowI_len] at hno
      clear hR
      go_wp2_with (first | go_region)
      replace hS := hS.drew
      have hs := Sl.of_own (hS.own 0 rfl)
      generalize wr.drew = W2 at *
      have hs2 : Sl W2 (w0.heap.size ≤ ·) 1 (.slice (some ⟨g3, 0, none⟩) n n) (rowI (leftOf L S) n).length (ints (rowI (leftOf L S) n)) := by rw [HR.out]; exact hs
      refine (HI.out W2 _ hs2).mono ?_
      rintro r_ w3 ⟨_, rfl, rfl, hb3⟩
      replace hS := hS.ext hb3
      clear hb3 hs hs2 hc0 hc4
      have HN := Lib.hid hno
      clear hno
      go_wp2_with (first | ((with_reducible refine qB ?_); (first | refine q1 ?_ ?_ | refine q2 ?_ ?_ | refine q3 ?_ ?_ | refine q4 ?_ ?_ | refine q5 ?_ ?_ | refine q6 ?_ ?_) <;> intro h_ <;> go_prune))
      go_ret
      refine ⟨false, S, _, rfl, (fun h => by cases h), fun _ => ?_, hS.sub (.cons _ (.refl _))⟩
      refine kahn_cycle HL.out HT.out.1.1 hlt fun y hy hyS => ?_
      have h := HN.out y hy
      rw [rowI_getD hy] at h
      refine Classical.byContradiction fun hc => h (leftOf_zero.2 ⟨hyS, fun x hx => ?_⟩)
      exact Classical.byContradiction fun hxS => hc ⟨x, hx, hxS⟩
    ·go_wp2_with (first | go_region)
     replace hS := hS.drew
     go_ret
     have he : S.length = n := by omega
     exact ⟨true, S, _, rfl, (fun _ => ⟨HT.out.1.acyc HL.out HT.out.2 (by omega), HT.out.1, he, HT.out.2⟩), (fun h => by cases h), hS.sub (.cons _ (.refl _))⟩
end Go.Proofs.YtihpgmbinhmmlaaGreatDoor
namespace Go.Proofs.YtihpgmbinhmmlaaGreatDoor
open Go.RowKit
attribute [local go_sem ↓] Go.wp_at_zero Go.wp_at_succ
set_option maxRecDepth 20000
set_option exponentiation.threshold 5000

theorem wd_pow (i k : Nat) : wd (2 ^ i) k = if k = i / 64 then 2 ^ (i % 64) else 0 := by
 apply Nat.eq_of_testBit_eq
 intro j
 by_cases hj : j < 64
 ·rw [testBit_wd _ _ _ hj, Nat.testBit_two_pow]
  by_cases hk : k = i / 64
  ·rw [if_pos hk, Nat.testBit_two_pow]
   congr 1
   rw [eq_iff_iff]
   omega
  ·rw [if_neg hk, Nat.zero_testBit]; simp; omega
 ·rw [tb_big (wd_lt _ _) (Nat.not_lt.1 hj)]
  split
  ·rw [Nat.testBit_two_pow]; simp; omega
  ·simp
def wordsW (l : List Nat) (i : Nat) : List Nat := (l ++ List.replicate (max l.length (i / 64 + 1) - l.length) 0).set (i / 64) (l.getD (i / 64) 0 ||| 2 ^ (i % 64))
theorem wordsW_len (l : List Nat) (i : Nat) : (wordsW l i).length = max l.length (i / 64 + 1) := by simp [wordsW]; omega
theorem padW_getD (l : List Nat) (m k : Nat) : (l ++ List.replicate m 0).getD k 0 = l.getD k 0 := by
 rw [List.getD_eq_getElem?_getD, List.getD_eq_getElem?_getD, List.getElem?_append]
 split
 ·rfl
 ·rename_i h
  rw [List.getElem?_eq_none (l := l) (by omega), List.getElem?_replicate]
  split <;> rfl
theorem wordsW_getD (l : List Nat) (i k : Nat) : (wordsW l i).getD k 0 = if k = i / 64 then l.getD k 0 ||| 2 ^ (i % 64) else l.getD k 0 := by
 unfold wordsW
 rw [List.getD_eq_getElem?_getD, List.getElem?_set]
 by_cases h : i / 64 = k
 ·subst h
  rw [if_pos rfl, if_pos (by simp; omega), if_pos rfl]; rfl
 ·rw [if_neg h, if_neg (fun e => h e.symm), ← List.getD_eq_getElem?_getD, padW_getD]
theorem pow_lt64 (r : Nat) : 2 ^ (r % 64) < T64 := by rw [T64_eq]; exact Nat.pow_lt_pow_right (by decide) (Nat.mod_lt _ (by decide))
theorem wordsW_ok {l : List Nat} {i : Nat} (hl : Canon l) (hi : i < 4096) : Canon (wordsW l i) ∧ val (wordsW l i) = val l ||| 2 ^ i := by
 have hw : Words (wordsW l i) := by
  intro x hx
  obtain ⟨k, hk, e⟩ := List.getElem_of_mem hx
  have h := wordsW_getD l i k
  rw [List.getD_eq_getElem?_getD, List.getElem?_eq_getElem hk] at h
  simp only [Option.getD_some, e] at h
  rw [h]
  split
  ·exact or_lt (hl.1.getD k) (pow_lt64 i)
  ·exact hl.1.getD k
 refine ⟨⟨hw, fun x hx => ?_, ?_⟩, val_ext hw fun k => ?_⟩
 ·rw [List.getLast?_eq_getElem?, wordsW_len] at hx
  have h := wordsW_getD l i (max l.length (i / 64 + 1) - 1)
  rw [List.getD_eq_getElem?_getD, hx] at h
  simp only [Option.getD_some] at h
  rw [h]
  split
  ·intro e
   have h2 := (Nat.or_eq_zero_iff.1 e).2
   have h3 := Nat.two_pow_pos (i % 64)
   omega
  ·rename_i hne
   have : max l.length (i / 64 + 1) - 1 = l.length - 1 := by omega
   rw [this]
   exact canon_last hl (by omega)
 ·rw [wordsW_len]; have := hl.2.2; omega
 ·rw [wordsW_getD, wd_or, wd_pow, wd_val hl.1]
  split
  ·rfl
  ·rw [Nat.or_zero]
def withN (N : Nat) (i : Int) : Nat := if 0 ≤ i ∧ i ≤ 4095 then N ||| 2 ^ i.toNat else N
theorem withN_has {N : Nat} {i : Int} (h : hasB N i = true) : withN N i = N := by
 unfold withN
 split
 ·rename_i hi
  apply Nat.eq_of_testBit_eq
  intro j
  rw [Nat.testBit_or, Nat.testBit_two_pow]
  by_cases e : i.toNat = j
  ·subst e; simp [hasB, hi.1] at h; simp [h]
  ·simp [e]
 ·rfl
theorem ty_u64s' : SliceTy Tryz.prog 25 33 1 8 := ⟨Tryz.underlying25, by kernel_rfl⟩
theorem u64s_one (l : List Nat) : ∀ u ∈ u64s l, u.oneCell' = true := by intro u hu; simp [u64s] at hu; obtain ⟨x, _, rfl⟩ := hu; rfl
theorem run_shl1 {P : Program} {w : World} {t : TypeId} {r : Nat} {e : Int} (he : e = ((r % 64 : Nat) : Int)) : (binOp .shl t (.int .u64 1) (.int .i64 e)).run P w = .ok (.int .u64 ((2 ^ (r % 64) : Nat) : Int)) w := by
 subst he
 have h := shl64 (r % 64) (Nat.mod_lt _ (by decide))
 have h2 : ¬ (((r % 64 : Nat) : Int)) < 0 := by omega
 go_simp
 rw [show ((r : Int) % 64).toNat = r % 64 by omega, h]
 simp
theorem run_or64' {P : Program} {w : World} {t : TypeId} {x y : Nat} (hx : x < T64) (hy : y < T64) : (binOp .or t (.int .u64 (x : Nat)) (.int .u64 (y : Nat))).run P w = .ok (.int .u64 ((x ||| y : Nat) : Int)) w := by
 go_simp; rw [or64 hx hy]
set_option maxHeartbeats 1000000 in
theorem with_any (v : Value) (N : Nat) (i : Int) (w0 : World) (D : Nat → Prop) (hv : IsSet w0 D v N) :
  Calls Tryz.prog 59 #[v, .int .i64 i] w0 (Ret (fun x w' => IsSet w' (fun b => D b ∨ w0.heap.size ≤ b) x (withN N i)) w0) := by
 obtain ⟨A, c, l, rfl, hl, hN, hc1, hc2, hs⟩ := hv.parts
 have HV := Lib.hid hv
 have HS := Lib.hid hs
 have hle := hl.2.2
 obtain ⟨K, hk, hS⟩ : ∃ K : (Nat → Prop) → World → Prop, (∀ D w, K D w → IsSet w D (.agg #[.slice A l.length c]) N ∧ Sl w D 1 (.slice A l.length c) l.length (u64s l)) ∧ St w0 w0 [] K := ⟨_, fun _ _ h => h, St.start (stable_set.and stable_sl) (D := D) ⟨hv, hs⟩⟩
 have HK := Lib.hid hk
 have HNV := Lib.hid hN
 clear hv hs hk hN
 by_cases h1 : i < 0 ∨ i > 4095
 ·have hE : withN N i = N := by rw [withN, if_neg (by omega)]
  rw [hE]
  have hfin : ∀ w', Below w0.heap.size w0 w' → IsSet w' (fun b => D b ∨ w0.heap.size ≤ b) (.agg #[.slice A l.length c]) N := fun w' hb => (HV.out.ext hb).imp fun _ h _ => .inl h
  have HF := Lib.hid hfin
  clear hfin
  rcases h1 with h1 | h1
  ·go_enter Tryz.func59, Tryz.ntmps59
   go_wp2_with (first
    | ((with_reducible refine qA 2 ?_); refine st_box hS rfl _ _ rfl (.agg #[.slice A l.length c]) _ rfl rfl ?_; clear hS; intro g2 w_ hS; (try simp only [Act.put, Act.eval, z1, z2, z3, z4, z5, z6, z7, z8, Value.cells] at hS))
    | ((with_reducible refine qA 4 ?_); refine qa hS #[.slice none 0 0] ?_; clear hS; intro g4 w_ hS)
    | ((with_reducible refine qA 17 ?_); refine st_loadw hS 1 rfl _ _ rfl g2 rfl _ #[.slice A l.length c] rfl _ Tryz.underlying27 rfl (by kernel_rfl) ?_)
    | ((with_reducible refine qM ?_); (first | refine qS hS ?_ | refine qT hS ?_); clear hS; intro w_ hS; (try simp only [Act.put, Act.eval, z1, z2, z3, z4, z5, z6, z7, z8, Value.cells] at hS))
    | ((with_reducible refine qB ?_); (first | refine q1 ?_ ?_ | refine q2 ?_ ?_ | refine q3 ?_ ?_ | refine q4 ?_ ?_ | refine q5 ?_ ?_ | refine q6 ?_ ?_) <;> intro h_ <;> go_prune))
   refine bodyPost_ret (v := .agg #[.slice A l.length c]) (by exact results_cell_row rfl _ _ g4 27 _ (0, 0) _ rfl (hS.box 0 rfl) Tryz.underlying27 rfl (by kernel_rfl)) rfl ?_
   exact Ret.mk (HF.out _ hS.below) hS.below
  ·have h2 : ¬ i < 0 := by omega
   go_enter Tryz.func59, Tryz.ntmps59
   go_wp2_with (first
    | ((with_reducible refine qA 2 ?_); refine st_box hS rfl _ _ rfl (.agg #[.slice A l.length c]) _ rfl rfl ?_; clear hS; intro g2 w_ hS; (try simp only [Act.put, Act.eval, z1, z2, z3, z4, z5, z6, z7, z8, Value.cells] at hS))
    | ((with_reducible refine qA 4 ?_); refine qa hS #[.slice none 0 0] ?_; clear hS; intro g4 w_ hS)
    | ((with_reducible refine qA 17 ?_); refine st_loadw hS 1 rfl _ _ rfl g2 rfl _ #[.slice A l.length c] rfl _ Tryz.underlying27 rfl (by kernel_rfl) ?_)
    | ((with_reducible refine qM ?_); (first | refine qS hS ?_ | refine qT hS ?_); clear hS; intro w_ hS; (try simp only [Act.put, Act.eval, z1, z2, z3, z4, z5, z6, z7, z8, Value.cells] at hS))
    | ((with_reducible refine qB ?_); (first | refine q1 ?_ ?_ | refine q2 ?_ ?_ | refine q3 ?_ ?_ | refine q4 ?_ ?_ | refine q5 ?_ ?_ | refine q6 ?_ ?_) <;> intro h_ <;> go_prune))
   refine bodyPost_ret (v := .agg #[.slice A l.length c]) (by exact results_cell_row rfl _ _ g4 27 _ (0, 0) _ rfl (hS.box 0 rfl) Tryz.underlying27 rfl (by kernel_rfl)) rfl ?_
   exact Ret.mk (HF.out _ hS.below) hS.below
 ·obtain ⟨m, rfl⟩ : ∃ m : Nat, i = (m : Int) := ⟨i.toNat, by omega⟩
  have hm : m < 4096 := by omega
  have hm0 : ¬ (m : Int) < 0 := by omega
  have hm1 : ¬ (m : Int) > 4095 := by omega
  clear h1
  by_cases hh : hasB N m = true
  ·have hWE := Lib.hid (withN_has hh)
   have HH := Lib.hid hh
   have hfin : ∀ w', Below w0.heap.size w0 w' → IsSet w' (fun b => D b ∨ w0.heap.size ≤ b) (.agg #[.slice A l.length c]) N := fun w' hb => (HV.out.ext hb).imp fun _ h _ => .inl h
   have HF := Lib.hid hfin
   rw [hWE.out]
   clear hfin hh
   go_enter Tryz.func59, Tryz.ntmps59
   go_wp2_with (first
    | ((with_reducible refine qA 2 ?_); refine st_box hS rfl _ _ rfl (.agg #[.slice A l.length c]) _ rfl rfl ?_; clear hS; intro g2 w_ hS; (try simp only [Act.put, Act.eval, z1, z2, z3, z4, z5, z6, z7, z8, Value.cells] at hS))
    | ((with_reducible refine qA 4 ?_); refine qa hS #[.slice none 0 0] ?_; clear hS; intro g4 w_ hS)
    | ((with_reducible refine qA 13 ?_); refine st_loadw hS 1 rfl _ _ rfl g2 rfl _ #[.slice A l.length c] rfl _ Tryz.underlying27 rfl (by kernel_rfl) ?_)
    | ((with_reducible refine qA 17 ?_); refine st_loadw hS 1 rfl _ _ rfl g2 rfl _ #[.slice A l.length c] rfl _ Tryz.underlying27 rfl (by kernel_rfl) ?_)
    | (go_at_call 55; refine (has_any _ N _ _ _ (HK.out _ _ hS.ro).1).mono ?_; rw [HH.out]; rintro r_ w2 ⟨_, rfl, rfl, hb2⟩; replace hS := hS.ext hb2; clear hb2)
    | ((with_reducible refine qM ?_); (first | refine qS hS ?_ | refine qT hS ?_); clear hS; intro w_ hS; (try simp only [Act.put, Act.eval, z1, z2, z3, z4, z5, z6, z7, z8, Value.cells] at hS))
    | ((with_reducible refine qB ?_); (first | refine q1 ?_ ?_ | refine q2 ?_ ?_ | refine q3 ?_ ?_ | refine q4 ?_ ?_ | refine q5 ?_ ?_ | refine q6 ?_ ?_) <;> intro h_ <;> go_prune))
   refine bodyPost_ret (v := .agg #[.slice A l.length c]) (by exact results_cell_row rfl _ _ g4 27 _ (0, 0) _ rfl (hS.box 0 rfl) Tryz.underlying27 rfl (by kernel_rfl)) rfl ?_
   exact Ret.mk (HF.out _ hS.below) hS.below
  ·have HH := Lib.hid (show hasB N m = false by simpa using hh)
   clear hh
   have hWN := wordsW_ok hl hm
   have HWN := Lib.hid (show Canon (wordsW l m) ∧ val (wordsW l m) = withN N m by rw [withN, if_pos (by omega), HNV.out]; exact hWN)
   have HWD := Lib.hid (show u64s (wordsW l m) = (u64s l ++ (u64s (List.replicate (max l.length (m / 64 + 1)) 0)).drop l.length).set (m / 64) (.int .u64 (l.getD (m / 64) 0 ||| 2 ^ (m % 64) : Nat)) by
    rw [wordsW, u64s_set]; congr 1; simp [u64s])
   have HWL := Lib.hid (wordsW_len l m)
   have hx := hl.1.getD (m / 64)
   have HX := Lib.hid (or64 hx (pow_lt64 m))
   have HG := Lib.hid (show (u64s l ++ (u64s (List.replicate (max l.length (m / 64 + 1)) 0)).drop l.length)[m / 64]? = some (.int .u64 (l.getD (m / 64) 0 : Nat)) by
    have := u64s_at (l ++ List.replicate (max l.length (m / 64 + 1) - l.length) 0) (m / 64) (by simp; omega)
    rw [padW_getD] at this
    rw [← this]; congr 1; simp [u64s])
   generalize l.getD (m / 64) 0 = x at *
   generalize withN N m = N2 at *
   obtain ⟨M, hM⟩ : ∃ M, M = max l.length (m / 64 + 1) := ⟨_, rfl⟩
   rw [← hM] at HWD HWL HG
   have hM1 : l.length ≤ M ∧ m / 64 < M ∧ M ≤ 64 ∧ 0 < M := by omega
   have hM2 : max (l.length : Int) ((m : Int) / 64 + 1) = (M : Int) := by omega
   obtain ⟨q, hq⟩ : ∃ q, q = m / 64 := ⟨_, rfl⟩
   clear hWN hM
   rcases Nat.lt_or_ge (m / 64 + 1) l.length with hM3 | hM3
   ·go_enter Tryz.func59, Tryz.ntmps59
    go_wp2_with (first
     | ((with_reducible refine qA 2 ?_); refine st_box hS rfl _ _ rfl (.agg #[.slice A l.length c]) _ rfl rfl ?_; clear hS; intro g2 w_ hS; (try simp only [Act.put, Act.eval, z1, z2, z3, z4, z5, z6, z7, z8, Value.cells] at hS))
     | ((with_reducible refine qA 4 ?_); refine qa hS #[.slice none 0 0] ?_; clear hS; intro g4 w_ hS)
     | ((with_reducible refine qA 13 ?_); refine st_loadw hS 1 rfl _ _ rfl g2 rfl _ #[.slice A l.length c] rfl _ Tryz.underlying27 rfl (by kernel_rfl) ?_)
     | (go_at_call 55; refine (has_any _ N _ _ _ (HK.out _ _ hS.ro).1).mono ?_; rw [HH.out]; rintro r_ w2 ⟨_, rfl, rfl, hb2⟩; replace hS := hS.ext hb2; clear hb2)
     | ((with_reducible show wpList _ _ _ (⟨_, .makeSlice _ _ _, _, _, _, _⟩ :: _) _ _); refine st_mk hS rfl _ _ _ rfl ty_u64s' .i64 .i64 M #[.int .u64 0] (congrArg (Value.int .i64) (by omega)) (congrArg (Value.int .i64) (by omega)) (by kernel_rfl) (by omega) (by omega) ?_; clear hS; intro g5 w_ hS)
     | ((with_reducible show wpList _ _ _ (⟨_, .call { callee := .builtin .copy, args := _, argTypes := _ }, _, _, _, _⟩ :: _) _ _); refine st_ocopy hS 0 rfl _ _ _ _ rfl _ Tryz.underlying25 (by kernel_rfl) g5 M l.length c A rfl rfl rfl (HK.out _ _ hS.ro).2 hM1.1 (u64s_one _) ?_; clear hS; intro w_ hS; simp only [List.set_cons_zero] at hS)
     | ((with_reducible refine qK ?_); refine qC hS ?_)
     | ((with_reducible refine qB ?_); (first | refine q1 ?_ ?_ | refine q2 ?_ ?_ | refine q3 ?_ ?_ | refine q4 ?_ ?_ | refine q5 ?_ ?_ | refine q6 ?_ ?_) <;> intro h_ <;> go_prune))
    all_goals
     rw [mk_u64s] at hS
     refine wp_region_tail (fun i__ v w => match i__ with
      | 0 => v = .slice (some ⟨g5, 0, none⟩) M M
      | 1 => v = .int .i64 ((m : Nat) : Int)
      | 2 => v = .int .i64 (((m : Nat) : Int) / (64 : Int))
      | 3 => v = .pointer (some ⟨g5, 0 + (m / 64) * 1, none⟩)
      | 4 => v = .int .u64 ((x : Nat) : Int)
      | 5 => v = .int .i64 ((m : Nat) : Int)
      | 6 => v = .int .i64 (((m : Nat) : Int) % (64 : Int))
      | 7 => v = .int .u64 ((2 ^ (m % 64) : Nat) : Int)
      | 8 => v = .int .u64 ((x ||| 2 ^ (m % 64) : Nat) : Int)
      | 9 => v = .pointer (some ⟨g5, 0 + (m / 64) * 1, none⟩)
      | 10 => True
      | _ => True) 10 [] (by kernel_rfl) (by kernel_rfl) (by kernel_rfl) (by kernel_rfl) (by kernel_rfl) ?mono ⟨.inr ?r0, .inr ?r1, .inr ?r2, .inr ?r3, .inr ?r4, .inr ?r5, .inr ?r6, .inr ?r7, .inr ?r8, .inr ?r9, .inl (by decide), trivial⟩ ?post
     case mono =>
      intro i v w w' h hb
      match i, h with
      | 0, h | 1, h | 2, h | 3, h | 4, h | 5, h | 6, h | 7, h | 8, h | 9, h | 10, h => exact h
      | _ + 11, h => trivial
     case r0 =>
      refine trule fun b__ w hW hold hpre => wU rfl fun K hK => ?_
      have e5 : b__.eval (.tmp 5) = .slice (some ⟨g5, 0, none⟩) M M := (hold 5 (by kernel_rfl)).trans rfl
      exact opw_move rfl e5 (hK _ _ rfl (Below.refl _ _))
     case r1 =>
      refine trule fun b__ w hW hold hpre => wU rfl fun K hK => ?_
      have e1 : b__.eval (.tmp 1) = .int .i64 ((m : Nat) : Int) := (hold 1 (by kernel_rfl)).trans rfl
      exact opw_move rfl e1 (hK _ _ rfl (Below.refl _ _))
     case r2 =>
      refine trule fun b__ w hW hold hpre => wU rfl fun K hK => ?_
      have e31 : b__.eval (.tmp 31) = .int .i64 ((m : Nat) : Int) := pq hpre 0 1 31
      exact opw_bin (vx := .int .i64 ((m : Nat) : Int)) (vy := .int .i64 (64 : Int)) (v := .int .i64 (((m : Nat) : Int) / (64 : Int))) rfl e31 rfl rfl (run_quo64 (by omega) (by omega)) (hK _ _ rfl (Below.refl _ _))
     case r3 =>
      refine trule fun b__ w hW hold hpre => wU rfl fun K hK => ?_
      have e30 : b__.eval (.tmp 30) = .slice (some ⟨g5, 0, none⟩) M M := pq hpre 0 0 30
      have e32 : b__.eval (.tmp 32) = .int .i64 (((m : Nat) : Int) / (64 : Int)) := pq hpre 1 2 32
      exact opw_iaddr rfl e30 e32 (run_iaddr_lit (m := m / 64) Tryz.underlying25 (by kernel_rfl) (by omega) (by omega)) (hK _ _ rfl (Below.refl _ _))
     case r4 =>
      refine trule fun b__ w hW hold hpre => wU rfl fun K hK => ?_
      have e33 : b__.eval (.tmp 33) = .pointer (some ⟨g5, 0 + (m / 64) * 1, none⟩) := pq hpre 0 3 33
      exact opw_cell rfl e33 (by kernel_rfl) (by rw [Nat.zero_add, Nat.mul_one]; exact own_cell ((hS.ext (undrew hW)).own 0 rfl) (m / 64) _ HG.out) (hK _ _ rfl (Below.refl _ _))
     case r5 =>
      refine trule fun b__ w hW hold hpre => wU rfl fun K hK => ?_
      have e1 : b__.eval (.tmp 1) = .int .i64 ((m : Nat) : Int) := (hold 1 (by kernel_rfl)).trans rfl
      exact opw_move rfl e1 (hK _ _ rfl (Below.refl _ _))
     case r6 =>
      refine trule fun b__ w hW hold hpre => wU rfl fun K hK => ?_
      have e35 : b__.eval (.tmp 35) = .int .i64 ((m : Nat) : Int) := pq hpre 0 5 35
      exact opw_bin (vx := .int .i64 ((m : Nat) : Int)) (vy := .int .i64 (64 : Int)) (v := .int .i64 (((m : Nat) : Int) % (64 : Int))) rfl e35 rfl rfl (run_rem64 (by omega) (by omega)) (hK _ _ rfl (Below.refl _ _))
     case r7 =>
      refine trule fun b__ w hW hold hpre => wU rfl fun K hK => ?_
      have e36 : b__.eval (.tmp 36) = .int .i64 (((m : Nat) : Int) % (64 : Int)) := pq hpre 0 6 36
      exact opw_bin (vx := .int .u64 1) (vy := .int .i64 (((m : Nat) : Int) % (64 : Int))) (v := .int .u64 ((2 ^ (m % 64) : Nat) : Int)) rfl rfl e36 rfl (run_shl1 (by omega)) (hK _ _ rfl (Below.refl _ _))
     case r8 =>
      refine trule fun b__ w hW hold hpre => wU rfl fun K hK => ?_
      have e34 : b__.eval (.tmp 34) = .int .u64 ((x : Nat) : Int) := pq hpre 0 4 34
      have e37 : b__.eval (.tmp 37) = .int .u64 ((2 ^ (m % 64) : Nat) : Int) := pq hpre 1 7 37
      exact opw_bin (vx := .int .u64 ((x : Nat) : Int)) (vy := .int .u64 ((2 ^ (m % 64) : Nat) : Int)) (v := .int .u64 ((x ||| 2 ^ (m % 64) : Nat) : Int)) rfl e34 e37 rfl (run_or64' hx (pow_lt64 m)) (hK _ _ rfl (Below.refl _ _))
     case r9 =>
      refine trule fun b__ w hW hold hpre => wU rfl fun K hK => ?_
      have e30 : b__.eval (.tmp 30) = .slice (some ⟨g5, 0, none⟩) M M := pq hpre 0 0 30
      have e32 : b__.eval (.tmp 32) = .int .i64 (((m : Nat) : Int) / (64 : Int)) := pq hpre 1 2 32
      exact opw_iaddr rfl e30 e32 (run_iaddr_lit (m := m / 64) Tryz.underlying25 (by kernel_rfl) (by omega) (by omega)) (hK _ _ rfl (Below.refl _ _))
     case post =>
      intro b__ wz hW hdf hsz hold hT
      have e39 : b__.eval (.tmp 39) = .pointer (some ⟨g5, 0 + (m / 64) * 1, none⟩) := hT 9 _ 39 (by decide) rfl rfl
      have e38 : b__.eval (.tmp 38) = .int .u64 ((x ||| 2 ^ (m % 64) : Nat) : Int) := hT 8 _ 38 (by decide) rfl rfl
      have e30 : b__.eval (.tmp 30) = .slice (some ⟨g5, 0, none⟩) M M := hT 0 _ 30 (by decide) rfl rfl
      have e31 : b__.eval (.tmp 31) = .int .i64 ((m : Nat) : Int) := hT 1 _ 31 (by decide) rfl rfl
      have e32 : b__.eval (.tmp 32) = .int .i64 (((m : Nat) : Int) / (64 : Int)) := hT 2 _ 32 (by decide) rfl rfl
      have e33 : b__.eval (.tmp 33) = .pointer (some ⟨g5, 0 + (m / 64) * 1, none⟩) := hT 3 _ 33 (by decide) rfl rfl
      have e34 : b__.eval (.tmp 34) = .int .u64 ((x : Nat) : Int) := hT 4 _ 34 (by decide) rfl rfl
      have e35 : b__.eval (.tmp 35) = .int .i64 ((m : Nat) : Int) := hT 5 _ 35 (by decide) rfl rfl
      have e36 : b__.eval (.tmp 36) = .int .i64 (((m : Nat) : Int) % (64 : Int)) := hT 6 _ 36 (by decide) rfl rfl
      have e37 : b__.eval (.tmp 37) = .int .u64 ((2 ^ (m % 64) : Nat) : Int) := hT 7 _ 37 (by decide) rfl rfl
      obtain ⟨vs, hvs, hb⟩ := frame_of hdf hsz hold
      replace e39 : vs 39 = .pointer (some ⟨g5, 0 + (m / 64) * 1, none⟩) := (hvs 39).symm.trans e39
      replace e38 : vs 38 = .int .u64 ((x ||| 2 ^ (m % 64) : Nat) : Int) := (hvs 38).symm.trans e38
      replace e30 : vs 30 = .slice (some ⟨g5, 0, none⟩) M M := (hvs 30).symm.trans e30
      replace e31 : vs 31 = .int .i64 ((m : Nat) : Int) := (hvs 31).symm.trans e31
      replace e32 : vs 32 = .int .i64 (((m : Nat) : Int) / (64 : Int)) := (hvs 32).symm.trans e32
      replace e33 : vs 33 = .pointer (some ⟨g5, 0 + (m / 64) * 1, none⟩) := (hvs 33).symm.trans e33
      replace e34 : vs 34 = .int .u64 ((x : Nat) : Int) := (hvs 34).symm.trans e34
      replace e35 : vs 35 = .int .i64 ((m : Nat) : Int) := (hvs 35).symm.trans e35
      replace e36 : vs 36 = .int .i64 (((m : Nat) : Int) % (64 : Int)) := (hvs 36).symm.trans e36
      replace e37 : vs 37 = .int .u64 ((2 ^ (m % 64) : Nat) : Int) := (hvs 37).symm.trans e37
      subst hb
      clear hvs hold hT hdf hsz
      simp only [setAll, Act.put, List.setIfInBounds_toArray, List.set_cons_zero, List.set_cons_succ, List.getElem_toArray, List.getElem_cons_succ, List.getElem_cons_zero]
      (intro o_ ho_; simp only [List.getElem?_toArray, List.getElem?_cons_succ, List.getElem?_cons_zero, Option.some.injEq] at ho_; subst ho_)
      refine opw_ostore rfl (g := g5) (i := m / 64) (e39.trans (by rw [Nat.zero_add, Nat.mul_one])) e38 ((hS.ext hW).own 0 rfl) (by omega) rfl rfl (by kernel_rfl) fun w4 h1 hU => ?_
      replace hS := (hS.ext hW).upd 0 rfl (.own (.slice (some ⟨g5, 0, none⟩) M M) 33 1 M (u64s (wordsW l m))) (by simpa [Fact.blk, Value.ownBlock] using upd_gb hU) (by rw [HWD.out]; exact h1) fun _ e => .inl e
      simp only [TailWp]
      simp only [Act.put, List.setIfInBounds_toArray, List.set_cons_zero, List.set_cons_succ]
      clear e38 e39 h1 hU hW
      go_wp2_with (first | ((with_reducible refine qM ?_); (first | refine qS hS ?_ | refine qT hS ?_); clear hS; intro w_ hS; (try simp only [Act.put, Act.eval, z1, z2, z3, z4, z5, z6, z7, z8, Value.cells] at hS)))
      refine bodyPost_ret (v := .agg #[.slice (some ⟨g5, 0, none⟩) M M]) (by exact results_cell_row rfl _ _ g4 27 _ (0, 0) _ rfl (hS.box 1 rfl) Tryz.underlying27 rfl (by kernel_rfl)) rfl ?_
      exact Ret.mk ⟨_, wordsW l m, rfl, HWN.out.1, HWN.out.2, by rw [HWL.out]; exact (Sl.of_own (hS.own 0 rfl)).imp fun _ h _ => .inr h⟩ hS.below
   ·go_enter Tryz.func59, Tryz.ntmps59
    go_wp2_with (first
     | ((with_reducible refine qA 2 ?_); refine st_box hS rfl _ _ rfl (.agg #[.slice A l.length c]) _ rfl rfl ?_; clear hS; intro g2 w_ hS; (try simp only [Act.put, Act.eval, z1, z2, z3, z4, z5, z6, z7, z8, Value.cells] at hS))
     | ((with_reducible refine qA 4 ?_); refine qa hS #[.slice none 0 0] ?_; clear hS; intro g4 w_ hS)
     | ((with_reducible refine qA 13 ?_); refine st_loadw hS 1 rfl _ _ rfl g2 rfl _ #[.slice A l.length c] rfl _ Tryz.underlying27 rfl (by kernel_rfl) ?_)
     | (go_at_call 55; refine (has_any _ N _ _ _ (HK.out _ _ hS.ro).1).mono ?_; rw [HH.out]; rintro r_ w2 ⟨_, rfl, rfl, hb2⟩; replace hS := hS.ext hb2; clear hb2)
     | ((with_reducible show wpList _ _ _ (⟨_, .makeSlice _ _ _, _, _, _, _⟩ :: _) _ _); refine st_mk hS rfl _ _ _ rfl ty_u64s' .i64 .i64 M #[.int .u64 0] (congrArg (Value.int .i64) (by omega)) (congrArg (Value.int .i64) (by omega)) (by kernel_rfl) (by omega) (by omega) ?_; clear hS; intro g5 w_ hS)
     | ((with_reducible show wpList _ _ _ (⟨_, .call { callee := .builtin .copy, args := _, argTypes := _ }, _, _, _, _⟩ :: _) _ _); refine st_ocopy hS 0 rfl _ _ _ _ rfl _ Tryz.underlying25 (by kernel_rfl) g5 M l.length c A rfl rfl rfl (HK.out _ _ hS.ro).2 hM1.1 (u64s_one _) ?_; clear hS; intro w_ hS; simp only [List.set_cons_zero] at hS)
     | ((with_reducible refine qK ?_); refine qC hS ?_)
     | ((with_reducible refine qB ?_); (first | refine q1 ?_ ?_ | refine q2 ?_ ?_ | refine q3 ?_ ?_ | refine q4 ?_ ?_ | refine q5 ?_ ?_ | refine q6 ?_ ?_) <;> intro h_ <;> go_prune))
    all_goals
     rw [mk_u64s] at hS
     refine wp_region_tail (fun i__ v w => match i__ with
      | 0 => v = .slice (some ⟨g5, 0, none⟩) M M
      | 1 => v = .int .i64 ((m : Nat) : Int)
      | 2 => v = .int .i64 (((m : Nat) : Int) / (64 : Int))
      | 3 => v = .pointer (some ⟨g5, 0 + (m / 64) * 1, none⟩)
      | 4 => v = .int .u64 ((x : Nat) : Int)
      | 5 => v = .int .i64 ((m : Nat) : Int)
      | 6 => v = .int .i64 (((m : Nat) : Int) % (64 : Int))
      | 7 => v = .int .u64 ((2 ^ (m % 64) : Nat) : Int)
      | 8 => v = .int .u64 ((x ||| 2 ^ (m % 64) : Nat) : Int)
      | 9 => v = .pointer (some ⟨g5, 0 + (m / 64) * 1, none⟩)
      | 10 => True
      | _ => True) 10 [] (by kernel_rfl) (by kernel_rfl) (by kernel_rfl) (by kernel_rfl) (by kernel_rfl) ?mono ⟨.inr ?r0, .inr ?r1, .inr ?r2, .inr ?r3, .inr ?r4, .inr ?r5, .inr ?r6, .inr ?r7, .inr ?r8, .inr ?r9, .inl (by decide), trivial⟩ ?post
     case mono =>
      intro i v w w' h hb
      match i, h with
      | 0, h | 1, h | 2, h | 3, h | 4, h | 5, h | 6, h | 7, h | 8, h | 9, h | 10, h => exact h
      | _ + 11, h => trivial
     case r0 =>
      refine trule fun b__ w hW hold hpre => wU rfl fun K hK => ?_
      have e5 : b__.eval (.tmp 5) = .slice (some ⟨g5, 0, none⟩) M M := (hold 5 (by kernel_rfl)).trans rfl
      exact opw_move rfl e5 (hK _ _ rfl (Below.refl _ _))
     case r1 =>
      refine trule fun b__ w hW hold hpre => wU rfl fun K hK => ?_
      have e1 : b__.eval (.tmp 1) = .int .i64 ((m : Nat) : Int) := (hold 1 (by kernel_rfl)).trans rfl
      exact opw_move rfl e1 (hK _ _ rfl (Below.refl _ _))
     case r2 =>
      refine trule fun b__ w hW hold hpre => wU rfl fun K hK => ?_
      have e31 : b__.eval (.tmp 31) = .int .i64 ((m : Nat) : Int) := pq hpre 0 1 31
      exact opw_bin (vx := .int .i64 ((m : Nat) : Int)) (vy := .int .i64 (64 : Int)) (v := .int .i64 (((m : Nat) : Int) / (64 : Int))) rfl e31 rfl rfl (run_quo64 (by omega) (by omega)) (hK _ _ rfl (Below.refl _ _))
     case r3 =>
      refine trule fun b__ w hW hold hpre => wU rfl fun K hK => ?_
      have e30 : b__.eval (.tmp 30) = .slice (some ⟨g5, 0, none⟩) M M := pq hpre 0 0 30
      have e32 : b__.eval (.tmp 32) = .int .i64 (((m : Nat) : Int) / (64 : Int)) := pq hpre 1 2 32
      exact opw_iaddr rfl e30 e32 (run_iaddr_lit (m := m / 64) Tryz.underlying25 (by kernel_rfl) (by omega) (by omega)) (hK _ _ rfl (Below.refl _ _))
     case r4 =>
      refine trule fun b__ w hW hold hpre => wU rfl fun K hK => ?_
      have e33 : b__.eval (.tmp 33) = .pointer (some ⟨g5, 0 + (m / 64) * 1, none⟩) := pq hpre 0 3 33
      exact opw_cell rfl e33 (by kernel_rfl) (by rw [Nat.zero_add, Nat.mul_one]; exact own_cell ((hS.ext (undrew hW)).own 0 rfl) (m / 64) _ HG.out) (hK _ _ rfl (Below.refl _ _))
     case r5 =>
      refine trule fun b__ w hW hold hpre => wU rfl fun K hK => ?_
      have e1 : b__.eval (.tmp 1) = .int .i64 ((m : Nat) : Int) := (hold 1 (by kernel_rfl)).trans rfl
      exact opw_move rfl e1 (hK _ _ rfl (Below.refl _ _))
     case r6 =>
      refine trule fun b__ w hW hold hpre => wU rfl fun K hK => ?_
      have e35 : b__.eval (.tmp 35) = .int .i64 ((m : Nat) : Int) := pq hpre 0 5 35
      exact opw_bin (vx := .int .i64 ((m : Nat) : Int)) (vy := .int .i64 (64 : Int)) (v := .int .i64 (((m : Nat) : Int) % (64 : Int))) rfl e35 rfl rfl (run_rem64 (by omega) (by omega)) (hK _ _ rfl (Below.refl _ _))
     case r7 =>
      refine trule fun b__ w hW hold hpre => wU rfl fun K hK => ?_
      have e36 : b__.eval (.tmp 36) = .int .i64 (((m : Nat) : Int) % (64 : Int)) := pq hpre 0 6 36
      exact opw_bin (vx := .int .u64 1) (vy := .int .i64 (((m : Nat) : Int) % (64 : Int))) (v := .int .u64 ((2 ^ (m % 64) : Nat) : Int)) rfl rfl e36 rfl (run_shl1 (by omega)) (hK _ _ rfl (Below.refl _ _))
     case r8 =>
      refine trule fun b__ w hW hold hpre => wU rfl fun K hK => ?_
      have e34 : b__.eval (.tmp 34) = .int .u64 ((x : Nat) : Int) := pq hpre 0 4 34
      have e37 : b__.eval (.tmp 37) = .int .u64 ((2 ^ (m % 64) : Nat) : Int) := pq hpre 1 7 37
      exact opw_bin (vx := .int .u64 ((x : Nat) : Int)) (vy := .int .u64 ((2 ^ (m % 64) : Nat) : Int)) (v := .int .u64 ((x ||| 2 ^ (m % 64) : Nat) : Int)) rfl e34 e37 rfl (run_or64' hx (pow_lt64 m)) (hK _ _ rfl (Below.refl _ _))
     case r9 =>
      refine trule fun b__ w hW hold hpre => wU rfl fun K hK => ?_
      have e30 : b__.eval (.tmp 30) = .slice (some ⟨g5, 0, none⟩) M M := pq hpre 0 0 30
      have e32 : b__.eval (.tmp 32) = .int .i64 (((m : Nat) : Int) / (64 : Int)) := pq hpre 1 2 32
      exact opw_iaddr rfl e30 e32 (run_iaddr_lit (m := m / 64) Tryz.underlying25 (by kernel_rfl) (by omega) (by omega)) (hK _ _ rfl (Below.refl _ _))
     case post =>
      intro b__ wz hW hdf hsz hold hT
      have e39 : b__.eval (.tmp 39) = .pointer (some ⟨g5, 0 + (m / 64) * 1, none⟩) := hT 9 _ 39 (by decide) rfl rfl
      have e38 : b__.eval (.tmp 38) = .int .u64 ((x ||| 2 ^ (m % 64) : Nat) : Int) := hT 8 _ 38 (by decide) rfl rfl
      have e30 : b__.eval (.tmp 30) = .slice (some ⟨g5, 0, none⟩) M M := hT 0 _ 30 (by decide) rfl rfl
      have e31 : b__.eval (.tmp 31) = .int .i64 ((m : Nat) : Int) := hT 1 _ 31 (by decide) rfl rfl
      have e32 : b__.eval (.tmp 32) = .int .i64 (((m : Nat) : Int) / (64 : Int)) := hT 2 _ 32 (by decide) rfl rfl
      have e33 : b__.eval (.tmp 33) = .pointer (some ⟨g5, 0 + (m / 64) * 1, none⟩) := hT 3 _ 33 (by decide) rfl rfl
      have e34 : b__.eval (.tmp 34) = .int .u64 ((x : Nat) : Int) := hT 4 _ 34 (by decide) rfl rfl
      have e35 : b__.eval (.tmp 35) = .int .i64 ((m : Nat) : Int) := hT 5 _ 35 (by decide) rfl rfl
      have e36 : b__.eval (.tmp 36) = .int .i64 (((m : Nat) : Int) % (64 : Int)) := hT 6 _ 36 (by decide) rfl rfl
      have e37 : b__.eval (.tmp 37) = .int .u64 ((2 ^ (m % 64) : Nat) : Int) := hT 7 _ 37 (by decide) rfl rfl
      obtain ⟨vs, hvs, hb⟩ := frame_of hdf hsz hold
      replace e39 : vs 39 = .pointer (some ⟨g5, 0 + (m / 64) * 1, none⟩) := (hvs 39).symm.trans e39
      replace e38 : vs 38 = .int .u64 ((x ||| 2 ^ (m % 64) : Nat) : Int) := (hvs 38).symm.trans e38
      replace e30 : vs 30 = .slice (some ⟨g5, 0, none⟩) M M := (hvs 30).symm.trans e30
      replace e31 : vs 31 = .int .i64 ((m : Nat) : Int) := (hvs 31).symm.trans e31
      replace e32 : vs 32 = .int .i64 (((m : Nat) : Int) / (64 : Int)) := (hvs 32).symm.trans e32
      replace e33 : vs 33 = .pointer (some ⟨g5, 0 + (m / 64) * 1, none⟩) := (hvs 33).symm.trans e33
      replace e34 : vs 34 = .int .u64 ((x : Nat) : Int) := (hvs 34).symm.trans e34
      replace e35 : vs 35 = .int .i64 ((m : Nat) : Int) := (hvs 35).symm.trans e35
      replace e36 : vs 36 = .int .i64 (((m : Nat) : Int) % (64 : Int)) := (hvs 36).symm.trans e36
      replace e37 : vs 37 = .int .u64 ((2 ^ (m % 64) : Nat) : Int) := (hvs 37).symm.trans e37
      subst hb
      clear hvs hold hT hdf hsz
      simp only [setAll, Act.put, List.setIfInBounds_toArray, List.set_cons_zero, List.set_cons_succ, List.getElem_toArray, List.getElem_cons_succ, List.getElem_cons_zero]
      (intro o_ ho_; simp only [List.getElem?_toArray, List.getElem?_cons_succ, List.getElem?_cons_zero, Option.some.injEq] at ho_; subst ho_)
      refine opw_ostore rfl (g := g5) (i := m / 64) (e39.trans (by rw [Nat.zero_add, Nat.mul_one])) e38 ((hS.ext hW).own 0 rfl) (by omega) rfl rfl (by kernel_rfl) fun w4 h1 hU => ?_
      replace hS := (hS.ext hW).upd 0 rfl (.own (.slice (some ⟨g5, 0, none⟩) M M) 33 1 M (u64s (wordsW l m))) (by simpa [Fact.blk, Value.ownBlock] using upd_gb hU) (by rw [HWD.out]; exact h1) fun _ e => .inl e
      simp only [TailWp]
      simp only [Act.put, List.setIfInBounds_toArray, List.set_cons_zero, List.set_cons_succ]
      clear e38 e39 h1 hU hW
      go_wp2_with (first | ((with_reducible refine qM ?_); (first | refine qS hS ?_ | refine qT hS ?_); clear hS; intro w_ hS; (try simp only [Act.put, Act.eval, z1, z2, z3, z4, z5, z6, z7, z8, Value.cells] at hS)))
      refine bodyPost_ret (v := .agg #[.slice (some ⟨g5, 0, none⟩) M M]) (by exact results_cell_row rfl _ _ g4 27 _ (0, 0) _ rfl (hS.box 1 rfl) Tryz.underlying27 rfl (by kernel_rfl)) rfl ?_
      exact Ret.mk ⟨_, wordsW l m, rfl, HWN.out.1, HWN.out.2, by rw [HWL.out]; exact (Sl.of_own (hS.own 0 rfl)).imp fun _ h _ => .inr h⟩ hS.below
end Go.Proofs.YtihpgmbinhmmlaaGreatDoor
namespace Go.Proofs.YtihpgmbinhmmlaaGreatDoor
open Go.RowKit
attribute [local go_sem ↓] Go.wp_at_zero Go.wp_at_succ
set_option maxRecDepth 20000

def rotl (x n : Nat) : Nat := (x * 2 ^ n) % T64 ||| x / 2 ^ (64 - n)
theorem wrap_u64 (m : Nat) : IntKind.u64.wrap (m : Int) = ((m % T64 : Nat) : Int) := by
 simp [IntKind.wrap, IntKind.signed, IntKind.bits, T64]
def roundsL : List Nat := [1, 32898, 9223372036854808714, 9223372039002292224, 32907, 2147483649, 9223372039002292353, 9223372036854808585, 138, 136, 2147516425, 2147483658, 2147516555, 9223372036854775947, 9223372036854808713, 9223372036854808579, 9223372036854808578, 9223372036854775936, 32778, 9223372039002259466, 9223372039002292353, 9223372036854808704, 2147483649, 9223372039002292232]
def turnsL : List Nat := [0, 1, 62, 28, 27, 36, 44, 6, 55, 20, 3, 10, 43, 25, 39, 41, 45, 15, 21, 8, 18, 2, 61, 56, 14]
def BoxF (w : World) (b : Nat) (t : TypeId × (Nat × Nat)) (cs : Array Value) : Prop := w.heap[b]? = some (.cells cs t.1 t.2)
section
variable {w w' : World} {b : Nat} {t : TypeId × (Nat × Nat)} {cs : Array Value}
theorem BoxF.cell (h : BoxF w b t cs) (i : Nat) : w.cell? ⟨b, i, none⟩ = cs[i]? := cell_of_row w b i cs t.1 t.2 h
end
section
variable {w : World} {b : Nat} {t : TypeId} {a : List Nat} {rest : List Value}
end
def kc (a : List Nat) (x : Nat) : Nat := (((a.getD x 0 ^^^ a.getD (x + 5) 0) ^^^ a.getD (x + 10) 0) ^^^ a.getD (x + 15) 0) ^^^ a.getD (x + 20) 0
def kd (c : List Nat) (x : Nat) : Nat := c.getD ((x + 4) % 5) 0 ^^^ rotl (c.getD ((x + 1) % 5) 0) 1
def kbAt (a c : List Nat) (x : Nat) (b : List Nat) (y : Nat) : List Nat := b.set (y + 5 * ((2 * x + 3 * y) % 5)) (rotl (a.getD (x + 5 * y) 0 ^^^ kd c x) (turnsL.getD (x + 5 * y) 0))
def kbRow (a c : List Nat) (b : List Nat) (x : Nat) (k : Nat) : List Nat := (List.range k).foldl (kbAt a c x) b
def kbTo (a c : List Nat) (k : Nat) : List Nat := (List.range k).foldl (fun b x => kbRow a c b x 5) (List.replicate 25 0)
def ka (b : List Nat) (i : Nat) : Nat := b.getD i 0 ^^^ (not64 (b.getD ((i % 5 + 1) % 5 + i / 5 * 5) 0) &&& b.getD ((i % 5 + 2) % 5 + i / 5 * 5) 0)
def mixTo (f : Nat → Nat) (a : List Nat) (k : Nat) : List Nat := (List.range 25).map fun j => if j < k then f j else a.getD j 0
def kround (a : List Nat) (c : Nat) : List Nat :=
 let b := kbTo a ((List.range 5).map (kc a)) 5
 ((List.range 25).map (ka b)).set 0 (ka b 0 ^^^ c)
def perm (a : List Nat) : List Nat := roundsL.foldl kround a
end Go.Proofs.YtihpgmbinhmmlaaGreatDoor
namespace Go.Proofs.YtihpgmbinhmmlaaGreatDoor
open Go.RowKit
attribute [local go_sem ↓] Go.wp_at_zero Go.wp_at_succ
set_option maxRecDepth 20000

def bitsW (y : Nat) : List Nat := (List.range 64).filter fun i => y.testBit i
theorem odd_split (y : Nat) (h : y ≠ 0) : ∃ t m, y = 2 ^ t * (2 * m + 1) := by
 induction y using Nat.strongRecOn with
 | _ y ih =>
  rcases Nat.mod_two_eq_zero_or_one y with h2 | h2
  ·obtain ⟨t, m, e⟩ := ih (y / 2) (by omega) (by omega)
   refine ⟨t + 1, m, ?_⟩
   rw [Nat.pow_succ, Nat.mul_right_comm, ← e]; omega
  ·exact ⟨0, y / 2, by simp; omega⟩
theorem tb_odd (t m i : Nat) : (2 ^ t * (2 * m + 1)).testBit i = (decide (t ≤ i) && (2 * m + 1).testBit (i - t)) := Nat.testBit_two_pow_mul
theorem tb_at (t m : Nat) : (2 ^ t * (2 * m + 1)).testBit t = true := by rw [tb_odd]; simp
theorem tb_lo (t m i : Nat) (h : i < t) : (2 ^ t * (2 * m + 1)).testBit i = false := by rw [tb_odd]; simp; omega
theorem tb_hi (t m i : Nat) (h : t < i) : (2 ^ t * (2 * m + 1)).testBit i = m.testBit (i - t - 1) := by
 rw [tb_odd, show i - t = (i - t - 1) + 1 by omega, Nat.testBit_succ]
 simp; rw [show (2 * m + 1) / 2 = m by omega, show decide (t ≤ i) = true by simp; omega, Bool.true_and]
theorem pred_eq (t m : Nat) : 2 ^ t * (2 * m + 1) - 1 = 2 ^ (t + 1) * m + (2 ^ t - 1) := by
 have := Nat.two_pow_pos t
 rw [Nat.pow_succ, Nat.mul_add, Nat.mul_one, Nat.mul_assoc]; omega
theorem pb_at (t m : Nat) : (2 ^ t * (2 * m + 1) - 1).testBit t = false := by
 rw [pred_eq, Nat.testBit_two_pow_mul_add _ (by have := Nat.two_pow_pos t; rw [Nat.pow_succ]; omega), if_pos (by omega), Nat.testBit_two_pow_sub_one]; simp
theorem pb_hi (t m i : Nat) (h : t < i) : (2 ^ t * (2 * m + 1) - 1).testBit i = m.testBit (i - t - 1) := by
 rw [pred_eq, Nat.testBit_two_pow_mul_add _ (by have := Nat.two_pow_pos t; rw [Nat.pow_succ]; omega), if_neg (by omega)]; congr 1
theorem odd_lt {t m : Nat} (h : 2 ^ t * (2 * m + 1) < T64) : t < 64 := by
 rcases Nat.lt_or_ge t 64 with h1 | h1
 ·exact h1
 ·have h2 : 2 ^ 64 ≤ 2 ^ t := Nat.pow_le_pow_right (by decide) h1
  have h3 : 2 ^ t * 1 ≤ 2 ^ t * (2 * m + 1) := Nat.mul_le_mul_left _ (by omega)
  rw [T64_eq] at h; omega
theorem dropLow_bit (t m i : Nat) : (2 ^ t * (2 * m + 1) &&& (2 ^ t * (2 * m + 1) - 1)).testBit i = ((2 ^ t * (2 * m + 1)).testBit i && decide (i ≠ t)) := by
 rw [Nat.testBit_and]
 rcases Nat.lt_trichotomy i t with h | h | h
 ·rw [tb_lo _ _ _ h]; simp
 ·subst h; rw [pb_at]; simp
 ·rw [tb_hi _ _ _ h, pb_hi _ _ _ h]; simp; intro _; omega
theorem range_part {t : Nat} (h : t < 64) : List.range 64 = List.range t ++ t :: (List.range (63 - t)).map (t + 1 + ·) := by
 apply List.ext_getElem
 ·simp; omega
 ·intro i h1 h2
  simp only [List.getElem_range, List.getElem_append, List.getElem_cons, List.getElem_map, List.length_range]
  split
  ·rfl
  ·split
   ·omega
   ·omega
theorem bitsW_odd {t m : Nat} (h : 2 ^ t * (2 * m + 1) < T64) : bitsW (2 ^ t * (2 * m + 1)) = t :: bitsW (2 ^ t * (2 * m + 1) &&& (2 ^ t * (2 * m + 1) - 1)) := by
 have ht := odd_lt h
 unfold bitsW
 rw [range_part ht]
 simp only [List.filter_append, List.filter_cons, tb_at, dropLow_bit]
 have h1 : (List.range t).filter (fun i => (2 ^ t * (2 * m + 1)).testBit i) = [] := by
  rw [List.filter_eq_nil_iff]; intro i hi; rw [tb_lo _ _ _ (List.mem_range.1 hi)]; simp
 have h2 : (List.range t).filter (fun i => (2 ^ t * (2 * m + 1)).testBit i && decide (i ≠ t)) = [] := by
  rw [List.filter_eq_nil_iff]; intro i hi; rw [tb_lo _ _ _ (List.mem_range.1 hi)]; simp
 rw [h1, h2]
 simp
 rw [List.filter_map, List.filter_map]
 congr 1
 apply List.filter_congr
 intro i _
 simp; intro _; omega
theorem bitsW_zero : bitsW 0 = [] := by simp [bitsW]
def tzN (y : Nat) : Nat := (bitsW y).headD 64
theorem tzN_odd {t m : Nat} (h : 2 ^ t * (2 * m + 1) < T64) : tzN (2 ^ t * (2 * m + 1)) = t := by unfold tzN; rw [bitsW_odd h]; rfl
theorem bitsW_step {y : Nat} (h : y < T64) (h0 : y ≠ 0) : bitsW y = tzN y :: bitsW (y &&& (y - 1)) := by
 obtain ⟨t, m, rfl⟩ := odd_split y h0
 rw [tzN_odd h]; exact bitsW_odd h
theorem tzN_lt {y : Nat} (h : y < T64) (h0 : y ≠ 0) : tzN y < 64 := by
 obtain ⟨t, m, rfl⟩ := odd_split y h0
 rw [tzN_odd h]; exact odd_lt h
theorem dropLow_lt {y : Nat} (h : y < T64) (h0 : y ≠ 0) : y &&& (y - 1) < y := by
 have : y &&& (y - 1) ≤ y - 1 := Nat.and_le_right
 omega
theorem low_pow {y : Nat} (h : y < T64) (h0 : y ≠ 0) : y &&& (T64 - y) = 2 ^ tzN y := by
 obtain ⟨t, m, rfl⟩ := odd_split y h0
 rw [tzN_odd h]
 have ht := odd_lt h
 have hy : 0 < 2 ^ t * (2 * m + 1) := by omega
 have e : T64 - 2 ^ t * (2 * m + 1) = 2 ^ 64 - ((2 ^ t * (2 * m + 1) - 1) + 1) := by rw [T64_eq]; omega
 apply Nat.eq_of_testBit_eq
 intro i
 rw [Nat.testBit_and, e, Nat.testBit_two_pow_sub_succ (by rw [T64_eq] at h; omega), Nat.testBit_two_pow]
 rcases Nat.lt_trichotomy i t with hi | hi | hi
 ·rw [tb_lo _ _ _ hi]; simp; omega
 ·subst hi; rw [tb_at, pb_at]; simp [ht]
 ·rw [tb_hi _ _ _ hi, pb_hi _ _ _ hi]
  cases m.testBit (i - t - 1) <;> simp <;> omega

def dbL : List Nat := [0, 1, 56, 2, 57, 49, 28, 3, 61, 58, 42, 50, 38, 29, 17, 4, 62, 47, 59, 36, 45, 43, 51, 22, 53, 39, 33, 30, 24, 18, 12, 5, 63, 55, 48, 27, 60, 41, 37, 16, 46, 35, 44, 21, 52, 32, 23, 11, 54, 26, 40, 15, 34, 20, 31, 10, 25, 14, 19, 9, 13, 8, 7, 6]
def DTab (w : World) : Prop := ∀ q, q < 64 → w.cell? ⟨0, q, none⟩ = some (.int .u8 (dbL.getD q 0 : Nat))
theorem DTab.ext {w w' : World} (h : DTab w) (hb : Below w.heap.size w w') : DTab w' := fun q hq => by
 have hl : 0 < w.heap.size := by
  rcases Nat.lt_or_ge 0 w.heap.size with h' | h'
  ·exact h'
  ·have := h q hq
   simp [World.cell?, Array.getElem?_eq_none h'] at this
 exact (hb.cell (p := ⟨0, q, none⟩) hl).trans (h q hq)
theorem db_all : ∀ t, t < 64 → dbL.getD (2 ^ t * 285870213051353865 % 18446744073709551616 / 2 ^ 58) 0 = t ∧ 2 ^ t * 285870213051353865 % 18446744073709551616 / 2 ^ 58 < 64 := by decide
theorem shr_nat (x k : Nat) : (x : Int) / 2 ^ k = ((x / 2 ^ k : Nat) : Int) := by simp
theorem wrap_nat (x : Nat) : IntKind.u64.wrap (x : Int) = ((x % 18446744073709551616 : Nat) : Int) := by rw [IntKind.wrap_u64]; simp
theorem wrap_neg {y : Nat} (h : y < T64) (h0 : y ≠ 0) : IntKind.u64.wrap (-(y : Int)) = ((T64 - y : Nat) : Int) := by
 rw [IntKind.wrap_u64]; unfold T64 at *; omega
theorem run_mul_db (p : Nat) (w : World) : (binOp .mul 33 (.int .u64 (p : Nat)) (.int .u64 285870213051353865)).run Tryz.prog w = .ok (.int .u64 (p * 285870213051353865 % 18446744073709551616 : Nat)) w := by
 have e3 : IntKind.u64.wrap ((p : Int) * 285870213051353865) = ((p * 285870213051353865 % 18446744073709551616 : Nat) : Int) := by rw [← wrap_nat]; simp
 simp only [binOp, Op.intArith, ne_eq, not_true_eq_false, if_false, e3]
 rfl
theorem run_shr58 (r : Nat) (w : World) : (binOp .shr 33 (.int .u64 (r : Nat)) (.int .u64 58)).run Tryz.prog w = .ok (.int .u64 (r / 2 ^ 58 : Nat)) w := by
 rw [binOp_shr, shift_shr _ _ _ _ (by decide) (by decide)]
 have e4 : (r : Int) / 2 ^ (58 : Int).toNat = ((r / 2 ^ 58 : Nat) : Int) := by
  rw [show (58 : Int).toNat = 58 from rfl]; exact shr_nat r 58
 rw [e4]
 rfl
theorem run_dbidx (q : Nat) (hq : q < 64) (w : World) : (Instr.indexAt 188 (.pointer (some ⟨0, 0, none⟩)) (.int .u64 (q : Nat))).run Tryz.prog w = .ok (.pointer (some ⟨0, q, none⟩)) w := by
 have h : (0 : Int) ≤ q ∧ (q : Int) < 64 := by omega
 go_simp
theorem tz_any (y : Nat) (hy : y < T64) (w : World) (hT : DTab w) :
  Calls Tryz.prog 116 #[.int .u64 y] w fun e w' => e = .returned (.int .i64 (tzN y : Nat)) ∧ w = w' := by
 by_cases h0 : y = 0
 ·subst h0
  go_enter Tryz.func116, Tryz.ntmps116
  go_wp2_with (first | ((with_reducible refine qB ?_); (first | refine q1 ?_ ?_ | refine q2 ?_ ?_ | refine q3 ?_ ?_ | refine q4 ?_ ?_ | refine q5 ?_ ?_ | refine q6 ?_ ?_) <;> intro h_ <;> go_prune))
  go_ret
  exact ⟨rfl, rfl⟩
 ·have e1 := wrap_neg hy h0
  have e2 := and64 hy (b := T64 - y) (by unfold T64; omega)
  rw [low_pow hy h0] at e2
  have ht := tzN_lt hy h0
  obtain ⟨d1, d2⟩ := db_all _ ht
  obtain ⟨p, hp⟩ : ∃ p, p = 2 ^ tzN y := ⟨_, rfl⟩
  rw [← hp] at d1 d2 e2
  clear hp
  have e3 := run_mul_db p w
  generalize p * 285870213051353865 % 18446744073709551616 = r at *
  have E3 := Lib.hid e3
  clear e3
  have E4 := Lib.hid (run_shr58 r w)
  generalize r / 2 ^ 58 = q at *
  have hc := hT q d2
  rw [d1] at hc
  have E5 := Lib.hid (run_dbidx q d2 w)
  have HC := Lib.hid hc
  clear hc
  have hw : IntKind.i64.wrap ((tzN y : Nat) : Int) = ((tzN y : Nat) : Int) := by rw [IntKind.wrap_i64]; omega
  have h0' : ((y : Int) == 0) = false := by simp; omega
  generalize tzN y = z at *
  clear h0 hT d1
  go_enter Tryz.func116, Tryz.ntmps116
  go_wp2_with (first | ((with_reducible refine qA 9 ?_); refine BigFrame.wpList_want rfl (fun _ hK => opw_bin rfl rfl rfl rfl E3.out (hK _ _ ?_))) | ((with_reducible refine qA 10 ?_); refine BigFrame.wpList_want rfl (fun _ hK => opw_bin rfl rfl rfl rfl E4.out (hK _ _ ?_))) | ((with_reducible refine qA 11 ?_); refine BigFrame.wpList_want rfl (fun _ hK => opw_iaddr rfl rfl rfl E5.out (hK _ _ ?_))) | ((with_reducible refine qA 12 ?_); refine BigFrame.wpList_want rfl (fun _ hK => opw_cell rfl rfl (by decide +kernel) HC.out (hK _ _ ?_))))
  go_ret
  exact ⟨rfl, rfl⟩

section
variable {P : Program} {ops : Array Oper} {rest : List Oper} {o : Oper} {a : Act} {w : World} {Q : Exit → Act → World → Prop}
end
end Go.Proofs.YtihpgmbinhmmlaaGreatDoor
namespace Go.Proofs.YtihpgmbinhmmlaaGreatDoor
open Go.RowKit Go.Shelf
attribute [local go_sem] Oper.semAt_some
set_option maxRecDepth 100000

theorem memTo_word {ws : List Nat} (hw : Words ws) (k : Nat) : memTo (val ws) (64 * (k + 1)) = memTo (val ws) (64 * k) ++ (bitsW (ws.getD k 0)).map (64 * k + ·) := by
 unfold memTo bitsW
 rw [show 64 * (k + 1) = 64 * k + 64 by omega, List.range_add, List.filter_append, List.filter_map]
 congr 2
 apply List.filter_congr
 intro i hi
 have hi := List.mem_range.1 hi
 simp only [Function.comp]
 rw [testBit_val hw, show (64 * k + i) / 64 = k by omega, show (64 * k + i) % 64 = i by omega]
theorem memTo_mono (N : Nat) {j k : Nat} (h : j ≤ k) : (memTo N j).length ≤ (memTo N k).length := by
 obtain ⟨d, rfl⟩ := Nat.exists_eq_add_of_le h
 unfold memTo
 rw [List.range_add, List.filter_append]; simp
def memL (ws : List Nat) : List Int := natInts (memTo (val ws) (64 * ws.length))

theorem cell_lt {w : World} {p : Addr} {x : Value} (h : w.cell? p = some x) : p.block < w.heap.size := by
 rcases Nat.lt_or_ge p.block w.heap.size with h' | h'
 ·exact h'
 ·simp [World.cell?, Array.getElem?_eq_none h'] at h
theorem cell_ext {w w' : World} (hb : Below w.heap.size w w') {p : Addr} {x : Value} (h : w.cell? p = some x) : w'.cell? p = some x := (hb.cell (cell_lt h)).trans h
structure Good (Bs : Nat) (A : Option Addr) (cap : Nat) (ws : List Nat) (W : World) : Prop where
 box : W.cell? ⟨Bs, 0, none⟩ = some (.slice A ws.length cap)
 some_ : 0 < ws.length → ∃ b off, A = some ⟨b, off, none⟩ ∧ ∀ j, j < ws.length → W.cell? ⟨b, off + j, none⟩ = some (.int .u64 (ws.getD j 0 : Nat))
 tab : DTab W

set_option maxHeartbeats 2000000 in
theorem all1_in (l Bs cap : Nat) (A : Option Addr) (ws : List Nat) (hw : Words ws) (hlen : ws.length ≤ 64) (J Jx : List Int → World → Prop)
  (hY : ∀ pre x W, J pre W → pre.length < (memL ws).length → pre ++ [x] <+: memL ws → YieldAt Fence.wide 4 Tryz.prog l #[.int .i64 x] W fun e W' =>
   (e = .returned (.bool true) ∧ J (pre ++ [x]) W' ∧ (Good Bs A cap ws W → Good Bs A cap ws W')) ∨ (e = .returned (.bool false) ∧ Jx (pre ++ [x]) W'))
  (W : World) (hG : Good Bs A cap ws W) (h0 : J [] W) :
  CallsIn Fence.wide 5 Tryz.prog 115 #[.func (.yield l) #[] #[], .pointer (some ⟨Bs, 0, none⟩)] W fun e W' => (∃ v, e = .returned v) ∧
   ((∃ ys, ys = memL ws ∧ J ys W') ∨ (∃ pre, pre <+: memL ws ∧ Jx pre W')) := by
 have hBs := hG.box
 have HG := Lib.hid hG
 clear hG
 refine callsIn_of_wp Tryz.func115 rfl trivial ?_ rfl
 simp only [Tryz.ntmps115, List.size_toArray, List.length_cons, List.length_nil, Nat.reduceAdd, Nat.reduceSub, Array.replicate_succ, Array.replicate_zero, List.push_toArray, List.append_toArray, List.nil_append, List.cons_append]
 gi_wp2
 gi_loopw [8] (fun i wr => ∃ k : Nat, k ≤ ws.length ∧ i = .int .i64 k ∧ J (natInts (memTo (val ws) (64 * k))) wr ∧ Hid (Good Bs A cap ws wr)) (fun i _ => ws.length - (intOf i).toNat)
 case atStart => exact ⟨0, Nat.zero_le _, rfl, h0, HG⟩
 case round =>
  obtain ⟨k, hk, rfl, hJs, hnx⟩ := hrel
  by_cases hlt : k < ws.length
  ·obtain ⟨b, off, rfl, hc⟩ := hnx.out.some_ (by omega)
   have hcx := hc k hlt
   have HC := Lib.hid hc
   clear hc
   have hx := hw.getD k
   have HM := Lib.hid (memTo_word hw k)
   have HL := Lib.hid (memTo_mono (val ws) (show 64 * (k + 1) ≤ 64 * ws.length by omega))
   generalize ws.getD k 0 = x at *
   gi_wp2
   gi_loopw [4] (fun yv wr => ∃ (y : Nat) (pre : List Nat), yv = .int .u64 y ∧ y < T64 ∧ J (natInts pre) wr ∧ Hid (Good Bs (some ⟨b, off, none⟩) cap ws wr) ∧ Hid (pre ++ (bitsW y).map (64 * k + ·) = memTo (val ws) (64 * (k + 1)))) (fun yv _ => (intOf yv).toNat)
   case atStart => exact ⟨x, _, rfl, hx, hJs, hnx, Lib.hid HM.out.symm⟩
   case round =>
    obtain ⟨y, pre, rfl, hy, hJs, hnx, hP⟩ := hrel
    by_cases h0 : y = 0
    ·subst h0
     have hP' : pre = memTo (val ws) (64 * (k + 1)) := by have := hP.out; simpa [bitsW_zero] using this
     subst hP'
     gi_wp2
     exact ⟨⟨k + 1, hlt, by go_num, hJs, hnx⟩, by simp [intOf]; omega⟩
    ·have hP2 := hP.out
     rw [bitsW_step hy h0] at hP2
     have hl2 := congrArg List.length hP2
     simp only [List.length_append, List.map_cons, List.length_cons] at hl2
     have hlm := HL.out
     have HPF := Lib.hid (show natInts (pre ++ [64 * k + tzN y]) <+: memL ws by
      have h1 : memTo (val ws) (64 * (k + 1)) <+: memTo (val ws) (64 * ws.length) := by
       unfold memTo
       obtain ⟨d, hd⟩ := Nat.exists_eq_add_of_le (show 64 * (k + 1) ≤ 64 * ws.length by omega)
       rw [hd, List.range_add, List.filter_append]
       exact List.prefix_append _ _
      have h2 : pre ++ [64 * k + tzN y] <+: memTo (val ws) (64 * (k + 1)) := by
       rw [← hP2]
       exact ⟨_, by rw [List.append_assoc]; rfl⟩
      exact (h2.trans h1).map _)
     have hpre0 : natInts pre ++ [64 * (k : Int) + (tzN y : Nat)] = natInts (pre ++ [64 * k + tzN y]) := by simp [natInts]
     obtain ⟨fn, tmps, assign, body, hyy, hR⟩ := hY (natInts pre) (64 * (k : Int) + (tzN y : Nat)) wr hJs (by simp only [memL, natInts, List.length_map]; omega) (by rw [hpre0]; exact HPF.out)
     clear hpre0
     have hTr := Lib.hid hnx.out.tab
     have ht := tzN_lt hy h0
     have e1 : IntKind.u64.wrap ((y : Int) - 1) = ((y - 1 : Nat) : Int) := by rw [IntKind.wrap_u64]; unfold T64 at hy; omega
     have e2 := and64 hy (b := y - 1) (by omega)
     have e3 := dropLow_lt hy h0
     have hne : ((y : Int) != 0) = true := by simp; omega
     have HP3 := Lib.hid hP2
     clear hP2 hl2
     gi_wp2
     refine ⟨trivial, ?_⟩
     refine (callsIn_wide.2 (tz_any y hy wr hTr.out)).mono ?_
     rintro e w' ⟨rfl, rfl⟩
     gi_wp2
     refine hR.mono ?_
     have hpre : natInts pre ++ [64 * (k : Int) + (tzN y : Nat)] = natInts (pre ++ [64 * k + tzN y]) := by simp [natInts]
     rw [hpre]
     rintro e W3 (⟨rfl, hJ3, hk3⟩ | ⟨rfl, hJx3⟩)
     ·gi_wp2
      exact ⟨⟨y &&& (y - 1), pre ++ [64 * k + tzN y], rfl, Nat.lt_trans e3 hy, hJ3, Lib.hid (hk3 hnx.out), Lib.hid (by rw [List.append_assoc]; exact HP3.out)⟩, by simp [intOf]; exact e3⟩
     ·gi_wp2
      refine bodyPost_ret (results_none rfl _ _ _) rfl ?_
      exact ⟨⟨_, rfl⟩, .inr ⟨_, HPF.out, hJx3⟩⟩
  ·obtain rfl : k = ws.length := by omega
   gi_wp2
   go_end0
   exact ⟨⟨_, rfl⟩, .inl ⟨_, rfl, hJs⟩⟩

set_option maxHeartbeats 1000000 in
theorem sall_any (v : Value) (N : Nat) (D : Nat → Prop) (w : World) (hv : IsSet w D v N) :
  Calls Tryz.prog 73 #[v] w (Ret (fun x w' => ∃ Bs A cap ws, x = .func (.func 115) #[] #[.pointer (some ⟨Bs, 0, none⟩)] ∧ v = .agg #[.slice A ws.length cap] ∧ Canon ws ∧ val ws = N ∧ Sl w D 1 (.slice A ws.length cap) ws.length (u64s ws) ∧ w.heap.size ≤ Bs ∧ Box w' Bs 27 #[.slice A ws.length cap]) w) := by
 obtain ⟨A, c, l, rfl, hl, rfl, _, _, hs⟩ := hv.parts
 have hS := St.start0 (w := w)
 go_enter Tryz.func73, Tryz.ntmps73
 go_wp2_with ((with_reducible refine qA 1 ?_); refine wpList_box_op rfl _ _ rfl _ _ rfl rfl ?_; intro w1 hX hB)
 go_ret
 exact Ret.mk ⟨_, A, c, l, rfl, rfl, hl, rfl, hs, Nat.le_refl _, hX⟩ hB
def Fact.cells : Fact → Bool
 | .obj _ _ => false
 | _ => true
def others (B : Nat) (W : World) : List Fact := (List.range W.heap.size).filterMap fun i => match W.heap[i]? with
 | some o => if o.isCells = false ∧ B ≤ i then some (.obj i o) else none
 | none => none
theorem others_mem {B : Nat} {W : World} {f : Fact} : f ∈ others B W ↔ ∃ i o, f = .obj i o ∧ W.heap[i]? = some o ∧ o.isCells = false ∧ B ≤ i := by
 unfold others
 rw [List.mem_filterMap]
 constructor
 ·rintro ⟨i, hi, h⟩
  cases ho : W.heap[i]? with
  | none => simp [ho] at h
  | some o =>
   simp only [ho] at h
   split at h
   ·rename_i hc; injection h with h; exact ⟨i, o, h.symm, ho, hc⟩
   ·cases h
 ·rintro ⟨i, o, rfl, ho, hc⟩
  refine ⟨i, ?_, by simp only [ho]; rw [if_pos hc]⟩
  have := (Array.getElem?_eq_some_iff.1 ho).1
  simp; omega
theorem others_apart (B : Nat) (W : World) : (others B W).Pairwise fun f g => ∀ k, f.blk = some k → g.blk ≠ some k := by
 unfold others
 refine List.Pairwise.filterMap _ ?_ (List.nodup_range (n := W.heap.size))
 intro i j hij f hf g hg k hk e
 have h1 : ∀ {i : Nat} {f : Fact}, (match W.heap[i]? with
  | some o => if o.isCells = false ∧ B ≤ i then some (Fact.obj i o) else none
  | none => none) = some f → f.blk = some i := by
  intro i f h
  cases ho : W.heap[i]? with
  | none => simp [ho] at h
  | some o =>
   simp only [ho] at h
   split at h
   ·injection h with h; subst h; rfl
   ·cases h
 have e1 := h1 (i := i) (f := f) hf
 have e2 := h1 (i := j) (f := g) hg
 rw [e1] at hk; rw [e2] at e
 injection hk with hk; injection e with e
 exact hij (hk.trans e.symm)
theorem fact_cells_block {base : Nat} {W : World} {f : Fact} (h : f.holds base W) (hc : f.cells = true) {k : Nat} (hk : f.blk = some k) {o : Obj} (ho : W.heap[k]? = some o) : o.isCells = true := by
 cases f with
 | box g t cs =>
  injection hk with hk; subst hk
  have := h.2
  unfold Box at this
  rw [this] at ho; injection ho with ho; subst ho; rfl
 | own v e size n xs =>
  obtain ⟨cs, fr, h1⟩ := own_type h k hk
  rw [h1] at ho; injection ho with ho; subst ho; rfl
 | obj g o => simp [Fact.cells] at hc
theorem St.keepsFrom {w0 W W' : World} {F : List Fact} {K : (Nat → Prop) → World → Prop} {B : Nat} (h : St w0 W' (F ++ others B W) K) (hs : W.heap.size ≤ W'.heap.size) : KeepsFrom B W W' :=
 ⟨hs, fun i o hi ho hc => (h.holds _ (List.mem_append_right _ (others_mem.2 ⟨i, o, rfl, ho, hc, hi⟩))).2⟩
theorem stable_size (n : Nat) : Stable fun _ w => n ≤ w.heap.size := fun _ _ _ _ h a _ _ => Nat.le_trans h a
def GoodK (Bs : Nat) (A : Option Addr) (cap : Nat) (ws : List Nat) (D : Nat → Prop) (w : World) : Prop :=
 Good Bs A cap ws w ∧ D Bs ∧ (∀ b off, A = some ⟨b, off, none⟩ → 0 < ws.length → D b) ∧ D 0
theorem stable_good {Bs cap : Nat} {A : Option Addr} {ws : List Nat} : Stable (GoodK Bs A cap ws) := by
 rintro D D' w w' ⟨h, d1, d2, d3⟩ a b c
 have l1 := cell_lt h.box
 have l3 := cell_lt (h.tab 0 (by omega))
 refine ⟨⟨b _ _ d1 l1 h.box, fun h0 => ?_, fun q hq => b _ _ d3 (cell_lt (h.tab q hq)) (h.tab q hq)⟩, c _ d1 l1 (cell_is h.box), fun k o e h0 => ?_, c _ d3 l3 (cell_is (h.tab 0 (by omega)))⟩
 ·obtain ⟨k, o, e, hh⟩ := h.some_ h0
  exact ⟨k, o, e, fun j hj => b _ _ (d2 k o e h0) (cell_lt (hh j hj)) (hh j hj)⟩
 ·obtain ⟨k', o', e', hh⟩ := h.some_ h0
  rw [e] at e'; injection e' with e'; injection e' with e1 e2; subst e1 e2
  exact c _ (d2 _ _ e h0) (cell_lt (hh 0 h0)) (cell_is (hh 0 h0))
theorem dtab_stable : Stable fun D w => DTab w ∧ D 0 := by
 rintro D D' w w' ⟨h, d⟩ a b c
 exact ⟨fun q hq => b _ _ d (cell_lt (h q hq)) (h q hq), c _ d (cell_lt (h 0 (by omega))) (cell_is (h 0 (by omega)))⟩
theorem St.good {w0 w w' : World} {F : List Fact} {K : (Nat → Prop) → World → Prop} (h : St w0 w F K) (hb : Below w.heap.size w w') {Bs cap : Nat} {A : Option Addr} {ws : List Nat} (hs : Sl w (Free F) 1 (.slice A ws.length cap) ws.length (u64s ws)) (hT : DTab w) (hF : Free F 0)
  (hB : w.heap.size ≤ Bs) (hX : Box w' Bs 27 #[.slice A ws.length cap]) : St w0 w' F fun D w => K D w ∧ GoodK Bs A cap ws D w := by
 refine (h.ext hb).add (D := Free F) stable_good ⟨⟨(hX.cell 0).trans rfl, fun h0 => ?_, hT.ext hb⟩, h.fresh hB, fun b off e h0 => ?_, hF⟩ fun _ h _ => h
 ·obtain ⟨_, A', c', e, _, _, h2⟩ := hs
  obtain ⟨b, o, h3, h4, h6, h5⟩ := h2 h0
  injection e with e
  exact ⟨b, o, e.trans h3, fun j hj => cell_ext hb (h5 j _ (u64s_at _ _ hj))⟩
 ·obtain ⟨_, A', c', e', _, _, h2⟩ := hs
  obtain ⟨b', o', h3, h4, h6, h5⟩ := h2 h0
  injection e' with e'
  rw [e, h3] at e'; injection e' with e'; injection e' with e1; subst e1; exact h4

section
variable {P : Program} {o : Oper} {a : Act} {w : World} {K K' : Act → World → Prop} {Q : Exit → Act → World → Prop} {ops : Array Oper}
theorem opw_mono (h : o.wp P a w K Q) (hk : ∀ a w, K a w → K' a w) : o.wp P a w K' Q := by
 unfold Oper.wp at *
 generalize (execOp a.eval o).run P w = r at *
 cases r with
 | halt x w' => cases x <;> exact h
 | ok x w' =>
  cases x with
  | value v => exact hk _ _ h
  | skip => exact hk _ _ h
  | defer d => exact hk _ _ h
  | enter f args => exact Calls.mono h fun e w' h => by cases e <;> first | exact hk _ _ h | exact h
  | row r args => exact Rows.mono h fun v w' h => hk _ _ h
  | _ => exact h.elim
theorem opIn_of (l n : Nat) (h : o.wp P a w K Q) (hd : ∀ c, o.op ≠ .defer c) : o.wpIn (Fence.wide.inRound l) n P a w K Q := by
 refine ⟨fun _ _ => trivial, ?_⟩
 rw [Oper.semAt_eq _ _ _ hd]
 unfold Oper.wp at h
 generalize (execOp a.eval o).run P w = r at *
 cases r with
 | halt x w' => cases x <;> exact h
 | ok x w' =>
  cases x with
  | value v => exact h
  | skip => exact h
  | defer d => exact h
  | enter f args => exact ⟨fun h => by simp [Fence.wide] at h, CallsIn.inRound l ((callsIn_wide (n := n - 1)).2 (Calls.mono h fun e w' h => by cases e <;> exact h))⟩
  | row r args => exact ⟨fun h => by simp [Fence.wide] at h, fun c cs _ => let ⟨v, w', r, s⟩ := h c cs; ⟨v, w', r, stepsIn_wide.2 s⟩⟩
  | _ => exact h.elim
def noDefer (l : List Oper) : Bool := l.all fun o => match o.op with | .defer _ => false | _ => true
theorem listIn_of (hQ : ∀ a w, ¬ Q .outgrown a w) (r n : Nat) (l : List Oper) (hd : noDefer l = true) : ∀ a w, wpList P ops Q l a w → wpListIn (Fence.wide.inRound r) n P ops Q l a w := by
 induction l with
 | nil => exact fun a w h => h
 | cons o l ih =>
  intro a w h
  simp only [noDefer, List.all_cons, Bool.and_eq_true] at hd
  have ih := ih (by simpa [noDefer] using hd.2)
  refine wpListIn_step fun K hK => ?_
  unfold wpList at h
  by_cases hw : Region.wanted o (yielded ops a.tmps) = true
  ·rw [if_pos hw] at h ⊢
   rcases h with h | ⟨_, a', w', h⟩
   ·exact opIn_of _ _ (opw_mono h fun a w h => hK _ _ (ih _ _ h)) fun c e => by rw [e] at hd; simp at hd
   ·exact absurd h (hQ _ _)
  ·rw [if_neg hw] at h ⊢
   exact ⟨fun _ _ => trivial, hK _ _ (ih _ _ h)⟩
end
end Go.Proofs.YtihpgmbinhmmlaaGreatDoor
namespace Go.Proofs.YtihpgmbinhmmlaaGreatDoor
open Go.RowKit
attribute [local go_sem ↓] Go.wp_at_zero Go.wp_at_succ
set_option maxRecDepth 20000

def Fact.low (B : Nat) (f : Fact) : Prop := f.cells = true ∨ ∃ g o, f = .obj g o ∧ g < B
theorem St.turnB {w0 w w' : World} {F : List Fact} {K : (Nat → Prop) → World → Prop} {row : Option Nat} (h : St w0 w F K) (hg : w.grownBy w' row) {B : Nat} (hr : ∀ r, row = some r → w0.heap.size ≤ r ∧ B ≤ r ∧ ∃ o : Obj, w.heap[r]? = some o ∧ o.isCells = false) (hF : ∀ f ∈ F, f.low B) : St w0 w' F K := by
 have hne : ∀ (p : Addr) (x : Value), w.cell? p = some x → row ≠ some p.block := by
  rintro p x hc e
  obtain ⟨_, _, o, ho, hn⟩ := hr _ e
  simp only [World.cell?, ho] at hc
  cases o <;> simp_all [Obj.isCells]
 refine ⟨h.below.grown hg h.size (fun k e => (hr k e).1), fun f hf => ?_, h.apart, h.stable, h.stable _ _ _ _ h.ro hg.size (fun p x _ hl hc => ?_) fun _ h _ _ => h⟩
 ·refine Fact.kept (h.holds f hf) hg fun k hk e => ?_
  obtain ⟨_, hBk, o, ho, hn⟩ := hr k e
  have hh := h.holds f hf
  cases f with
  | box g t cs =>
   injection hk with hk; subst hk
   have := hh.2
   unfold Box at this
   rw [this] at ho; injection ho with ho; subst ho; simp [Obj.isCells] at hn
  | own v e' size n xs =>
   obtain ⟨cs, fr, h1⟩ := own_type hh k hk
   rw [h1] at ho; injection ho with ho; subst ho; simp [Obj.isCells] at hn
  | obj g o' =>
   injection hk with hk; subst hk
   rcases hF _ hf with h1 | ⟨g', o2, e2, h2⟩
   ·simp [Fact.cells] at h1
   ·injection e2 with e2; omega
 ·exact (World.cell?_of_block (hg.block p.block hl fun e => hne p x hc e.symm)).trans hc
theorem St.ownFromB {β : Type} {w0 : World} (Rel : β → List Fact → ((Nat → Prop) → World → Prop) → Prop) (B : Nat) (hRel : ∀ s F K, Rel s F K → ∀ f ∈ F, f.low B) (hB : w0.heap.size ≤ B) : OwnFrom B fun s W => ∃ F' K', Rel s F' K' ∧ St w0 W F' K' :=
 fun _ _ _ _ ⟨F', K', h1, h2⟩ hg hr => ⟨F', K', h1, h2.turnB hg (fun r e => ⟨Nat.le_trans hB (hr r e).1, (hr r e).1, (hr r e).2⟩) (hRel _ _ _ h1)⟩
theorem St.withOthersB {w0 W : World} {F : List Fact} {K : (Nat → Prop) → World → Prop} (h : St w0 W F K) {B : Nat} (hF : ∀ f ∈ F, f.low B) (hB : w0.heap.size ≤ B) : St w0 W (F ++ others B W) K := by
 refine ⟨h.below, fun f hf => ?_, ?_, h.stable, ?_⟩
 ·rcases List.mem_append.1 hf with hf | hf
  ·exact h.holds f hf
  ·obtain ⟨i, o, rfl, ho, _, hi⟩ := others_mem.1 hf
   exact ⟨Nat.le_trans hB hi, ho⟩
 ·refine List.pairwise_append.2 ⟨h.apart, others_apart B W, fun f hf g hg k hk e => ?_⟩
  obtain ⟨i, o, rfl, ho, hc, hi⟩ := others_mem.1 hg
  injection e with e; subst e
  rcases hF f hf with h1 | ⟨g', o2, rfl, h2⟩
  ·have := fact_cells_block (h.holds f hf) h1 hk ho
   rw [hc] at this; cases this
  ·injection hk with hk; omega
 ·refine h.stable _ _ _ _ h.ro (Nat.le_refl _) (fun _ _ _ _ h => h) fun b hb _ hcell f hf e => ?_
  rcases List.mem_append.1 hf with hf | hf
  ·exact hb f hf e
  ·obtain ⟨i, o, rfl, ho, hc, hi⟩ := others_mem.1 hf
   injection e with e; subst e
   obtain ⟨cs, t, fr, hh⟩ := hcell
   rw [hh] at ho; injection ho with ho; subst ho; simp [Obj.isCells] at hc
abbrev Mem (L : List Int) := { x : Int // x ∈ L }
theorem all_stopsB (Bs cap : Nat) (A : Option Addr) (ws : List Nat) (hw : Words ws) (hlen : ws.length ≤ 64) (w : World) (hG : Good Bs A cap ws w) :
  SeqStopsK Fence.wide 5 Tryz.prog 115 #[.pointer (some ⟨Bs, 0, none⟩)] (fun x : Mem (memL ws) => #[Value.int .i64 x.1]) (fun U V => Good Bs A cap ws U → Good Bs A cap ws V) (fun ys => ys.map (·.1) = memL ws) (fun pre => pre.map (·.1) <+: memL ws) (memL ws).length w := by
 intro l J Jx W hW _ _ hY h0
 refine (all1_in l Bs cap A ws hw hlen (fun pre W => ∃ p : List (Mem (memL ws)), p.map (·.1) = pre ∧ J p W) (fun pre W => ∃ p : List (Mem (memL ws)), p.map (·.1) = pre ∧ Jx p W) ?_ W ⟨?_, fun h => ?_, hG.tab.ext hW⟩ ⟨[], rfl, h0⟩).mono ?_
 ·rintro pre x W1 ⟨p, rfl, h1⟩ h2 h3
  have hx : x ∈ memL ws := h3.subset (by simp)
  obtain ⟨fn, tmps, assign, body, hyy, hR⟩ := hY p ⟨x, hx⟩ W1 h1 (by simpa using h2)
  refine ⟨fn, tmps, assign, body, hyy, hR.mono ?_⟩
  rintro e W' (⟨h4, h5, h6⟩ | ⟨h4, h5⟩)
  ·exact .inl ⟨h4, ⟨p ++ [⟨x, hx⟩], by simp, h5⟩, h6⟩
  ·exact .inr ⟨h4, p ++ [⟨x, hx⟩], by simp, h5⟩
 ·exact cell_ext hW hG.box
 ·obtain ⟨b, off, e, hc⟩ := hG.some_ h
  exact ⟨b, off, e, fun j hj => cell_ext hW (hc j hj)⟩
 ·rintro e W' ⟨h1, ⟨ys, h2, p, h3, h4⟩ | ⟨pre, h2, p, h3, h4⟩⟩
  ·exact ⟨h1, .inl ⟨p, h3.trans h2, h4⟩⟩
  ·exact ⟨h1, .inr ⟨p, by show List.map (·.1) p <+: memL ws; rw [h3]; exact h2, h4⟩⟩
def roundPostB (w0 : World) (B : Nat) (X : List Fact) (Rel : List Int → List Fact → ((Nat → Prop) → World → Prop) → Prop) (RelX : Code → List Int → List Fact → ((Nat → Prop) → World → Prop) → Prop) (pre : List Int) : Exit → Act → World → Prop
 | .normal, _, W' => ∃ F' K', Rel pre F' K' ∧ B ≤ W'.heap.size ∧ St w0 W' (F' ++ X) K'
 | .ret, _, W' => ∃ F' K', RelX .ret pre F' K' ∧ B ≤ W'.heap.size ∧ St w0 W' (F' ++ X) K'
 | .exit id, _, W' => ∃ F' K', RelX (.exit id) pre F' K' ∧ B ≤ W'.heap.size ∧ St w0 W' (F' ++ X) K'
 | .goto t, _, W' => ∃ F' K', RelX (.goto t) pre F' K' ∧ B ≤ W'.heap.size ∧ St w0 W' (F' ++ X) K'
 | _, _, _ => False
theorem range_allB {g : Operand} {ps : Array Tmp} {assign body : Code} {Q : Exit → Act → World → Prop} {a : Act} {w0 w : World} {F : List Fact} {K : (Nat → Prop) → World → Prop}
  (hS : St w0 w F K) {Bs cap : Nat} {A : Option Addr} {ws : List Nat} (hw : Words ws) (hlen : ws.length ≤ 64) (kG : ∀ D w, K D w → Good Bs A cap ws w)
  (hg : a.eval g = .func (.func 115) #[] #[.pointer (some ⟨Bs, 0, none⟩)]) (hps : ps.size = 1)
  (Rel : List Int → List Fact → ((Nat → Prop) → World → Prop) → Prop) (RelX : Code → List Int → List Fact → ((Nat → Prop) → World → Prop) → Prop) (hRK : ∀ s F K', Rel s F K' → ∀ D w, K' D w → K D w) (hR : ∀ s F K', Rel s F K' → ∀ f ∈ F, f.low w.heap.size) (hRX : ∀ c s F K', RelX c s F K' → ∀ f ∈ F, f.low w.heap.size) (h0 : Rel [] F K) (a₁ : Int → Act)
  (hassign : ∀ (l : Nat) (x : Int) (W : World) (K : Act → World → Prop), K (a₁ x) W →
   assign.wpIn (Fence.wide.inRound l) 4 Tryz.prog (Exit.then K (fun _ _ _ => False)) { tmps := (ps.zip #[Value.int .i64 x]).foldl (fun t (p, v) => t.setIfInBounds p v) a.tmps, defers := [] } W)
  (hbody : ∀ (l : Nat) (pre : List Int) (x : Int) (hx : x ∈ memL ws) (W : World) (F' X : List Fact) (K' : ((Nat → Prop) → World → Prop)), Rel pre F' K' → St w0 W (F' ++ X) (fun D w => K' D w ∧ W.heap.size ≤ w.heap.size) → pre.length < (memL ws).length → body.wpIn (Fence.wide.inRound l) 4 Tryz.prog (roundPostB w0 W.heap.size X Rel RelX (pre ++ [x])) (a₁ x) W)
  (hdone : ∀ (D : Nat) (W : World) (F' : List Fact) (K' : ((Nat → Prop) → World → Prop)), w.heap.size ≤ D → Rel (memL ws) F' K' → St w0 W F' K' → W.heap[D]? = some (.deferred (some [])) → Q .normal { a with defers := { target := .collected D, args := #[] } :: a.defers } W)
  (hstop : ∀ (D : Nat) (c : Code) (pre : List Int) (W : World) (F' : List Fact) (K' : ((Nat → Prop) → World → Prop)), w.heap.size ≤ D → pre <+: memL ws → RelX c pre F' K' → St w0 W F' K' → W.heap[D]? = some (.deferred (some [])) → c.wpIn Fence.wide 6 Tryz.prog Q { a with defers := { target := .collected D, args := #[] } :: a.defers } W) :
  (Code.rangeFunc g ps assign body).wpIn Fence.wide 6 Tryz.prog Q a w := by
 refine wpIn_rangeFunc_ownG rfl (by omega) hg trivial (enters_of Tryz.func115 (by kernel_rfl) rfl) (all_stopsB Bs cap A ws hw hlen w (kG _ _ hS.ro)) (fun h k x => k (h x)) ?kb (Below.refl _ _) (fun _ => by simp [hps])
  (fun (pre : List (Mem (memL ws))) W => (∃ F' K', Rel (pre.map (·.1)) F' K' ∧ St w0 W F' K') ∧ True) (fun c (pre : List (Mem (memL ws))) W => ∃ F' K', RelX c (pre.map (·.1)) F' K' ∧ St w0 W F' K') ?hI (fun c => St.ownFromB (fun s : List (Mem (memL ws)) => RelX c (List.map (·.1) s)) _ (fun s => hRX c _) hS.size) ⟨⟨F, K, h0, hS⟩, trivial⟩ (fun x : Mem (memL ws) => a₁ x.1) (fun l x W K h => hassign l x.1 W K h) ?body ?done ?stop
 case kb =>
  intro W l o o' _ ho hc _ hG
  have key : ∀ {p : Addr} {x : Value}, W.cell? p = some x → (W.putObj l o').cell? p = some x := by
   intro p x hx
   refine (World.cell?_of_block (World.putObj_heap_other ?_)).trans hx
   rintro rfl
   simp only [World.cell?, ho] at hx
   cases o <;> simp_all [Obj.isCells]
  refine ⟨key hG.box, fun h => ?_, fun q hq => key (hG.tab q hq)⟩
  obtain ⟨b, off, e, hh⟩ := hG.some_ h
  exact ⟨b, off, e, fun j hj => key (hh j hj)⟩
 case hI => exact fun s X Y row h1 hg hr => ⟨St.ownFromB (fun s : List (Mem (memL ws)) => Rel (List.map (·.1) s)) _ (fun s => hR _) hS.size s X Y row h1.1 hg hr, trivial⟩
 case body =>
  rintro l pre x W ⟨⟨F', K1, h1, h2⟩, _⟩ hlt
  refine wpIn_mono (hbody l _ x.1 x.2 W F' (others w.heap.size W) K1 h1 ((h2.withOthersB (hR _ _ _ h1) hS.size).add (D := fun _ => False) (stable_size W.heap.size) (Nat.le_refl _) fun _ h _ => h.elim) (by simpa using hlt)) ?_
  rintro e a3 W3 hp
  rw [show List.map (fun y : Mem (memL ws) => y.1) pre ++ [x.1] = List.map (fun y : Mem (memL ws) => y.1) (pre ++ [x]) by simp] at hp
  have hsub : ∀ {F'' : List Fact} {K'' : ((Nat → Prop) → World → Prop)}, St w0 W3 (F'' ++ others w.heap.size W) K'' → St w0 W3 F'' K'' := fun h => h.sub (List.sublist_append_left _ _)
  cases e with
  | normal =>
   obtain ⟨F'', K'', h3, h5, h4⟩ := hp
   exact ⟨h4.keepsFrom h5, fun _ => kG _ _ (hRK _ _ _ h3 _ _ h4.ro), ⟨F'', K'', h3, hsub h4⟩, trivial⟩
  | ret => obtain ⟨F'', K'', h3, h5, h4⟩ := hp; exact ⟨h4.keepsFrom h5, F'', K'', h3, hsub h4⟩
  | exit id => obtain ⟨F'', K'', h3, h5, h4⟩ := hp; exact ⟨h4.keepsFrom h5, F'', K'', h3, hsub h4⟩
  | goto t => obtain ⟨F'', K'', h3, h5, h4⟩ := hp; exact ⟨h4.keepsFrom h5, F'', K'', h3, hsub h4⟩
  | panic ch => exact hp.elim
  | outgrown => exact hp.elim
 case done =>
  rintro D xs W hD hxs ⟨⟨F', K1, h1, h2⟩, _⟩ hk
  rw [hxs] at h1
  exact hdone D W F' K1 hD h1 h2 hk
 case stop =>
  rintro D c pre W hD hp ⟨F', K1, h1, h2⟩ hk
  exact hstop D c _ W F' K1 hD hp h1 h2 hk

theorem anyIn_of {P : Program} {ops : Array Oper} {Q : Exit → Act → World → Prop} (hQ : ∀ a w, ¬ Q .outgrown a w) (r n : Nat) (hd : noDefer ops.toList = true) : ∀ (fuel : Nat) (listed : Array Bool) (a : Act) (w : World), wpAny P .any ops Q fuel listed a w → wpAnyIn (Fence.wide.inRound r) n P .any ops Q fuel listed a w
 | 0, _, _, _, h => h
 | fuel + 1, listed, a, w, h => by
  refine ⟨h.1, fun i hi => ?_⟩
  have hw := h.2 i hi
  unfold wpOp at hw
  unfold wpOpIn
  cases ho : ops[i]? with
  | none => simp only [ho] at hw ⊢; exact anyIn_of hQ r n hd fuel _ _ _ hw
  | some o =>
   simp only [ho] at hw ⊢
   by_cases hwt : Region.wanted o (yielded ops a.tmps) = true
   ·rw [if_pos hwt] at hw ⊢
    rcases hw with hw | ⟨_, a', w', hw⟩
    ·refine opIn_of _ _ (opw_mono hw fun a w h => anyIn_of hQ r n hd fuel _ _ _ h) fun c e => ?_
     have := (List.all_eq_true.1 hd) o (by
      have := Array.mem_of_getElem? ho
      simpa using this)
     rw [e] at this; simp at this
    ·exact absurd hw (hQ _ _)
   ·rw [if_neg hwt] at hw ⊢
    exact ⟨fun _ _ => trivial, anyIn_of hQ r n hd fuel _ _ _ hw⟩
theorem wpIn_region_of {P : Program} {ops : Array Oper} {Q : Exit → Act → World → Prop} {id r n : Nat} {a : Act} {w : World} (hm : P.follows .mixedOrders = true) (hQ : ∀ a w, ¬ Q .outgrown a w) (hd : noDefer ops.toList = true)
  (h : wpAny P .any ops Q ops.size (Array.replicate ops.size false) a w.drew) : (Code.region id ops true).wpIn (Fence.wide.inRound r) n P Q a w :=
 wpIn_region_any hm (anyIn_of hQ r n hd _ _ _ _ h)
def marksD (ds : List Nat) : List Deferred := ds.map fun D => { target := .collected D, args := #[] }
def marksF (ds : List Nat) : List Fact := ds.map fun D => .obj D (.deferred (some []))
theorem St.mark {w0 w : World} {F : List Fact} {K : (Nat → Prop) → World → Prop} (h : St w0 w F K) {B D : Nat} (hB : w0.heap.size ≤ B) (hD : B ≤ D) (hF : ∀ f ∈ F, f.low B) {o : Obj} (ho : w.heap[D]? = some o) (hc : o.isCells = false) : St w0 w (F ++ [.obj D o]) K := by
 refine ⟨h.below, fun f hf => ?_, ?_, h.stable, ?_⟩
 ·rcases List.mem_append.1 hf with hf | hf
  ·exact h.holds f hf
  ·rw [List.mem_singleton] at hf; subst hf; exact ⟨Nat.le_trans hB hD, ho⟩
 ·refine List.pairwise_append.2 ⟨h.apart, List.pairwise_singleton _ _, fun f hf g hg k hk e => ?_⟩
  rw [List.mem_singleton] at hg; subst hg
  injection e with e; subst e
  rcases hF f hf with h1 | ⟨g', o2, rfl, h2⟩
  ·have := fact_cells_block (h.holds f hf) h1 hk ho
   rw [hc] at this; cases this
  ·injection hk with hk; omega
 ·refine h.stable _ _ _ _ h.ro (Nat.le_refl _) (fun _ _ _ _ h => h) fun b hb _ hcell f hf e => ?_
  rcases List.mem_append.1 hf with hf | hf
  ·exact hb f hf e
  ·rw [List.mem_singleton] at hf; subst hf
   injection e with e; subst e
   obtain ⟨cs, t, fr, hh⟩ := hcell
   rw [hh] at ho; injection ho with ho; subst ho; simp [Obj.isCells] at hc
theorem leaves_marks {P : Program} {fn : Func} {tmps : Array Value} {R : Ending → World → Prop} {n : Nat} {w0 : World} {F : List Fact} {K : (Nat → Prop) → World → Prop} (hR : ∀ w', St w0 w' F K → LeavesIn Fence.wide n P fn tmps R [] .returning w') :
  ∀ (ds : List Nat) (w : World), St w0 w (F ++ marksF ds) K → LeavesInM Fence.wide n P fn tmps R (marksD ds) .returning w
 | [], w, h => hR w (by simpa [marksF] using h)
 | D :: ds, w, h => by
  have hD := h.holds (.obj D (.deferred (some []))) (by simp [marksF])
  refine ⟨by simp, .inl ⟨D, _, rfl, run_takeDeferred hD.2, ?_⟩⟩
  refine leaves_marks hR ds _ ?_
  have hi : (F ++ marksF (D :: ds))[F.length]? = some (.obj D (.deferred (some []))) := by simp [marksF]
  have h1 := h.upd F.length hi (.obj D (.deferred none)) (grownBy_putObj' w D (.deferred none)) ⟨hD.1, World.putObj_heap_same (Array.getElem?_eq_some_iff.1 hD.2).1⟩ fun _ e => .inl e
  have h2 : (F ++ marksF (D :: ds)).set F.length (.obj D (.deferred none)) = F ++ (.obj D (.deferred none) :: marksF ds) := by simp [marksF]
  rw [h2] at h1
  exact h1.sub ((List.Sublist.refl F).append (.cons _ (.refl _)))
end Go.Proofs.YtihpgmbinhmmlaaGreatDoor
namespace Go.Proofs.YtihpgmbinhmmlaaGreatDoor
open Go.RowKit

section
variable {P : Program} {ops : Array Oper} {T : Nat → Value → World → Prop} {R : World → World → Prop} {N : Nat → World → Prop} {a0 : Act} {W : World} {Q : Exit → Act → World → Prop}
end
def R3 (A0 A1 A2 : World → Prop) (w w' : World) : Prop := (A0 w → A0 w' ∨ A1 w' ∨ A2 w') ∧ (A1 w → A1 w' ∨ A2 w') ∧ (A2 w → A2 w')
section
variable {A0 A1 A2 : World → Prop} {a b c : World}
end
end Go.Proofs.YtihpgmbinhmmlaaGreatDoor
namespace Go.Proofs.YtihpgmbinhmmlaaGreatDoor
open Go.RowKit

theorem vs_len0 {vs : List Value} (h : vs.length = 0) : vs = [] := List.eq_nil_of_length_eq_zero h
theorem vs_len1 {vs : List Value} (h : vs.length = 1) : ∃ x0, vs = [x0] := List.length_eq_one_iff.1 h
theorem vs_cons {vs : List Value} {n : Nat} (h : vs.length = n + 1) : ∃ (x : Value) (r : List Value), vs = x :: r ∧ r.length = n := by
 cases vs with
 | nil => simp at h
 | cons x r => exact ⟨x, r, rfl, by simpa using h⟩
theorem vs_len2 {vs : List Value} (h : vs.length = 2) : ∃ x0 x1, vs = [x0, x1] := by
 obtain ⟨x, r, rfl, h'⟩ := vs_cons h
 obtain ⟨y, rfl⟩ := vs_len1 h'
 exact ⟨x, y, rfl⟩
theorem vs_len3 {vs : List Value} (h : vs.length = 3) : ∃ x0 x1 x2, vs = [x0, x1, x2] := by
 obtain ⟨x, r, rfl, h'⟩ := vs_cons h
 obtain ⟨y, z, rfl⟩ := vs_len2 h'
 exact ⟨x, y, z, rfl⟩
theorem vs_len4 {vs : List Value} (h : vs.length = 4) : ∃ x0 x1 x2 x3, vs = [x0, x1, x2, x3] := by
 obtain ⟨x, r, rfl, h'⟩ := vs_cons h
 obtain ⟨y, z, u, rfl⟩ := vs_len3 h'
 exact ⟨x, y, z, u, rfl⟩
structure QInv (ops : Array Oper) (es : List Nat) (T : Nat → Value → Prop) (S : List Value → World → Prop) (a0 : Act) (listed : Array Bool) (vs : List Value) (a : Act) (w : World) : Prop where
 closed : ClosedL ops listed
 st : S vs w
 eff : ∀ j i, es[j]? = some i → (listed.getD i false = true ↔ j < vs.length)
 res : ∀ (j i : Nat) (o : Oper) (d : Tmp), es[j]? = some i → ops[i]? = some o → o.dst = some d → j < vs.length → a.tmps.getD d undef = vs.getD j undef
 defers : a.defers = a0.defers
 size : a.tmps.size = a0.tmps.size
 old : ∀ t, (∀ (i : Nat) (o : Oper), ops[i]? = some o → o.dst ≠ some t) → a.tmps.getD t undef = a0.tmps.getD t undef
 typ : ∀ (i : Nat) (o : Oper) (d : Tmp), ops[i]? = some o → es.contains i = false → listed.getD i false = true → o.dst = some d → T i (a.tmps.getD d undef)
def QPre (ops : Array Oper) (es : List Nat) (T : Nat → Value → Prop) (a0 : Act) (o : Oper) (vs : List Value) (a : Act) : Prop :=
 (∀ t, (∀ (i : Nat) (o : Oper), ops[i]? = some o → o.dst ≠ some t) → a.tmps.getD t undef = a0.tmps.getD t undef) ∧
 (∀ e ∈ o.after, Region.binds .any e = true → ∀ (oj : Oper) (d : Tmp), ops[e.on]? = some oj → es.contains e.on = false → oj.dst = some d → T e.on (a.tmps.getD d undef)) ∧
 (∀ e ∈ o.after, Region.binds .any e = true → ∀ (j : Nat) (oj : Oper) (d : Tmp), es[j]? = some e.on → ops[e.on]? = some oj → oj.dst = some d → j < vs.length ∧ a.tmps.getD d undef = vs.getD j undef)
def QRule (P : Program) (ops : Array Oper) (es : List Nat) (T : Nat → Value → Prop) (S : List Value → World → Prop) (a0 : Act) (Q : Exit → Act → World → Prop) (i : Nat) (o : Oper) : Prop :=
 ∀ a w vs, S vs w → QPre ops es T a0 o vs a →
  (es.contains i = false → (∀ (j e : Nat) (oe : Oper), es[j]? = some e → ops[e]? = some oe → covers ops ops.size oe i = true → vs.length ≤ j) →
   (Region.wanted o (yielded ops a.tmps) = true → ∀ K : Act → World → Prop, (∀ v, T i v → K (a.put o.dst v) w) → o.wp P a w K Q) ∧ (Region.wanted o (yielded ops a.tmps) = false → T i undef)) ∧
  (∀ j, es[j]? = some i → vs.length = j →
   (Region.wanted o (yielded ops a.tmps) = true → ∀ K : Act → World → Prop, (∀ v w', S (vs ++ [v]) w' → K (a.put o.dst v) w') → o.wp P a w K Q) ∧ (Region.wanted o (yielded ops a.tmps) = false → S (vs ++ [undef]) w))
def QRules (P : Program) (ops : Array Oper) (es : List Nat) (T : Nat → Value → Prop) (S : List Value → World → Prop) (a0 : Act) (Q : Exit → Act → World → Prop) : Nat → List Oper → Prop
 | _, [] => True
 | i, o :: r => QRule P ops es T S a0 Q i o ∧ QRules P ops es T S a0 Q (i + 1) r
theorem QRules.at {P : Program} {ops : Array Oper} {es : List Nat} {T : Nat → Value → Prop} {S : List Value → World → Prop} {a0 : Act} {Q : Exit → Act → World → Prop} :
  ∀ (l : List Oper) (k : Nat), QRules P ops es T S a0 Q k l → ∀ i o, l[i]? = some o → QRule P ops es T S a0 Q (k + i) o
 | [], _, _, i, o, h => by simp at h
 | x :: r, k, hr, 0, o, h => by simp at h; subst h; exact hr.1
 | x :: r, k, hr, i + 1, o, h => by
  have := QRules.at r (k + 1) hr.2 i o (by simpa using h)
  rwa [show k + 1 + i = k + (i + 1) by omega] at this
def eChain (ops : Array Oper) (es : List Nat) : Bool :=
 (List.range es.length).all fun j => match j with
  | 0 => true
  | j + 1 => match es[j]?, es[j + 1]? with
   | some t, some u => match ops[u]? with
    | some o => covers ops ops.size o t
    | none => false
   | _, _ => true
section
variable {P : Program} {ops : Array Oper} {es : List Nat} {T : Nat → Value → Prop} {S : List Value → World → Prop} {a0 : Act} {Q : Exit → Act → World → Prop}
theorem eChain_at (h : eChain ops es = true) {j t u : Nat} {o : Oper} (h1 : es[j]? = some t) (h2 : es[j + 1]? = some u) (ho : ops[u]? = some o) : covers ops ops.size o t = true := by
 have h3 := (List.all_eq_true.1 h) (j + 1) (by have := (List.getElem?_eq_some_iff.1 h2).1; simpa using this)
 simpa [h1, h2, ho] using h3
theorem contains_get {es : List Nat} {i : Nat} (h : es.contains i = true) : ∃ j : Nat, es[j]? = some i := by
 rw [List.contains_iff_mem] at h
 exact List.mem_iff_getElem?.1 h
theorem wpAny_seq (hch : eChain ops es = true) (hnd : es.Nodup) (hes : ∀ i ∈ es, i < ops.size) (hk : tOk ops a0.tmps.size = true) (hr : QRules P ops es T S a0 Q 0 ops.toList)
  (hpost : ∀ a w vs, S vs w → vs.length = es.length → a.defers = a0.defers → a.tmps.size = a0.tmps.size → (∀ t, (∀ (i : Nat) (o : Oper), ops[i]? = some o → o.dst ≠ some t) → a.tmps.getD t undef = a0.tmps.getD t undef) →
   (∀ (i : Nat) (o : Oper) (d : Tmp), ops[i]? = some o → es.contains i = false → o.dst = some d → T i (a.tmps.getD d undef)) →
   (∀ (j i : Nat) (o : Oper) (d : Tmp), es[j]? = some i → ops[i]? = some o → o.dst = some d → a.tmps.getD d undef = vs.getD j undef) → Q .normal a w) :
  ∀ (fuel : Nat) (listed : Array Bool) (vs : List Value) (a : Act) (w : World), listed.size = ops.size → vs.length ≤ es.length → unlisted ops listed ≤ fuel → QInv ops es T S a0 listed vs a w → wpAny P .any ops Q fuel listed a w := by
 have hall : ∀ listed vs a w, listed.size = ops.size → vs.length ≤ es.length → Region.ready .any ops listed = [] → QInv ops es T S a0 listed vs a w → Q .normal a w := by
  intro listed vs a w hsz hle h hI
  have hl : ∀ i, i < ops.size → listed.getD i false = true := fun i hlt => by
   have := ready_nil hk h i hlt
   simpa [Array.getD_eq_getD_getElem?, Array.getElem?_eq_getElem (show i < listed.size by omega)] using this
  have hlen : vs.length = es.length := by
   refine Nat.le_antisymm hle ?_
   rcases Nat.eq_zero_or_pos es.length with h0 | h0
   ·omega
   ·have hj : es[es.length - 1]? = some es[es.length - 1] := List.getElem?_eq_getElem (by omega)
    have := (hI.eff _ _ hj).1 (hl _ (hes _ (List.getElem_mem _)))
    omega
  exact hpost a w vs hI.st hlen hI.defers hI.size hI.old (fun i o d ho he hd => hI.typ i o d ho he (hl i (Array.getElem?_eq_some_iff.1 ho).1) hd)
   fun j i o d hj ho hd => hI.res j i o d hj ho hd (by rw [hlen]; exact (List.getElem?_eq_some_iff.1 hj).1)
 intro fuel
 induction fuel with
 | zero =>
  intro listed vs a w hsz hle hu hI
  have hrd : Region.ready .any ops listed = [] := by
   rw [List.eq_nil_iff_forall_not_mem]
   intro i hi
   rw [mem_ready] at hi
   obtain ⟨h0, o, ho, _⟩ := hi
   have := unlisted_set (ops := ops) (Array.getElem?_eq_some_iff.1 ho).1 h0
   omega
  exact ⟨hrd, hall listed vs a w hsz hle hrd hI⟩
 | succ fuel ih =>
  intro listed vs a w hsz hle hu hI
  refine ⟨fun h => hall listed vs a w hsz hle h hI, fun i hi => ?_⟩
  rw [mem_ready] at hi
  obtain ⟨h0, o, ho, haf⟩ := hi
  have hlt := (Array.getElem?_eq_some_iff.1 ho).1
  have hdst := tOk_dst hk ho
  have h0f : listed.getD i false = false := by
   rw [Array.getD_eq_getD_getElem?, Array.getElem?_eq_getElem (show i < listed.size by omega)] at h0 ⊢; simpa using h0
  have hpre : QPre ops es T a0 o vs a := ⟨hI.old, fun e he hbd oj d hoj hc hd => hI.typ e.on oj d hoj hc (haf e he hbd) hd, fun e he hbd j oj d hj hoj hd => by
   have := (hI.eff j e.on hj).1 (haf e he hbd)
   exact ⟨this, hI.res j e.on oj d hj hoj hd this⟩⟩
  have hrule := QRules.at ops.toList 0 hr i o (by simpa using ho) a w vs hI.st hpre
  rw [Nat.zero_add] at hrule
  have hcl' : ClosedL ops (listed.setIfInBounds i true) := by
   intro j oj hj hlj e he hb
   by_cases hji : j = i
   ·subst hji
    obtain rfl : oj = o := by rw [ho] at hj; exact (Option.some.inj hj).symm
    exact getD_set_true (haf e he hb)
   ·rw [getD_set_ne false (Ne.symm hji)] at hlj
    exact getD_set_true (hI.closed j oj hj hlj e he hb)
  have hput : ∀ (j : Nat) (oj : Oper) (d : Tmp) (v : Value), j ≠ i → ops[j]? = some oj → oj.dst = some d → (a.put o.dst v).tmps.getD d undef = a.tmps.getD d undef := fun j oj d v e hj hdj => by
   cases hd : o.dst with
   | none => rfl
   | some d' =>
    have : d' ≠ d := fun e2 => hdst.2.2 j oj d' e hj hd (by rw [hdj, e2])
    simp [Act.put, Array.getElem?_setIfInBounds_ne this]
  have hputs : ∀ (d : Tmp) (v : Value), o.dst = some d → (a.put o.dst v).tmps.getD d undef = v := fun d v hd => by
   have hlt2 : d < a.tmps.size := by rw [hI.size]; exact hdst.1 d hd
   rw [hd]; simp [Act.put, hlt2]
  have hold : ∀ v t, (∀ (i : Nat) (o : Oper), ops[i]? = some o → o.dst ≠ some t) → (a.put o.dst v).tmps.getD t undef = a0.tmps.getD t undef := fun v t ht => by
   rw [← hI.old t ht]
   have h2 := ht i o ho
   cases hd : o.dst with
   | none => rfl
   | some d =>
    have : d ≠ t := fun e => h2 (by rw [hd, e])
    simp [Act.put, Array.getElem?_setIfInBounds_ne this]
  have hdf : ∀ v, (a.put o.dst v).defers = a0.defers := fun v => by rw [← hI.defers]; cases o.dst <;> rfl
  have hsz2 : ∀ v, (a.put o.dst v).tmps.size = a0.tmps.size := fun v => by rw [← hI.size]; cases o.dst <;> simp [Act.put]
  have hself : (listed.setIfInBounds i true).getD i false = true := by
   simp [Array.getElem?_setIfInBounds, show i < listed.size by omega]
  cases hc : es.contains i with
  | false =>
   have hne : ∀ j e, es[j]? = some e → e ≠ i := fun j e hj h => by
    rw [h] at hj
    have : es.contains i = true := by rw [List.contains_iff_mem]; exact List.mem_of_getElem? hj
    rw [hc] at this; cases this
   have next : ∀ v, T i v → wpAny P .any ops Q fuel (listed.setIfInBounds i true) (a.put o.dst v) w := by
    intro v hT
    refine ih _ vs _ _ (by simpa using hsz) hle (by have := unlisted_set (ops := ops) hlt h0; omega) ⟨hcl', hI.st, fun j e hj => ?_, fun j e oj d hj hoj hd hl => ?_, hdf v, hsz2 v, hold v, fun j oj d hj hcj hlj hdj => ?_⟩
    ·rw [getD_set_ne false (Ne.symm (hne j e hj))]; exact hI.eff j e hj
    ·rw [hput e oj d v (hne j e hj) hoj hd]; exact hI.res j e oj d hj hoj hd hl
    ·by_cases e : j = i
     ·subst e
      obtain rfl : oj = o := by rw [ho] at hj; exact (Option.some.inj hj).symm
      rw [hputs d v hdj]; exact hT
     ·rw [hput j oj d v e hj hdj]
      exact hI.typ j oj d hj hcj (by rwa [getD_set_ne false (Ne.symm e)] at hlj) hdj
   have hr2 := hrule.1 hc fun j e oe hj hoe hcov => by
    rcases Nat.lt_or_ge j vs.length with hl | hl
    ·have hle := (hI.eff j e hj).2 hl
     have := covers_listed hI.closed _ oe i hcov (hI.closed e oe hoe hle)
     rw [h0f] at this; cases this
    ·exact hl
   unfold wpOp
   simp only [ho]
   split
   ·rename_i hw
    exact .inl (hr2.1 hw _ next)
   ·rename_i hw
    exact next undef (hr2.2 (by simpa using hw))
  | true =>
   obtain ⟨j, hj⟩ := contains_get hc
   have hjl : vs.length = j := by
    have h1 : ¬ j < vs.length := fun h => by rw [(hI.eff j i hj).2 h] at h0f; cases h0f
    cases j with
    | zero => omega
    | succ j =>
     have hjlt := (List.getElem?_eq_some_iff.1 hj).1
     have hp : es[j]? = some es[j] := List.getElem?_eq_getElem (by omega)
     have := (hI.eff j _ hp).1 (covers_listed hI.closed _ o _ (eChain_at hch hp hj ho) haf)
     omega
   have hjlt := (List.getElem?_eq_some_iff.1 hj).1
   have hinj : ∀ j' e, es[j']? = some e → (e = i ↔ j' = j) := fun j' e he => ⟨fun h => by
    subst h
    have h1 := (List.getElem?_eq_some_iff.1 he)
    have h2 := (List.getElem?_eq_some_iff.1 hj)
    exact (List.getElem_inj hnd (h₀ := h1.1) (h₁ := h2.1)).1 (h1.2.trans h2.2.symm), fun h => by subst h; rw [hj] at he; exact (Option.some.inj he).symm⟩
   have next : ∀ v w', S (vs ++ [v]) w' → wpAny P .any ops Q fuel (listed.setIfInBounds i true) (a.put o.dst v) w' := by
    intro v w' hS
    refine ih _ (vs ++ [v]) _ _ (by simpa using hsz) (by simp; omega) (by have := unlisted_set (ops := ops) hlt h0; omega) ⟨hcl', hS, fun j' e he => ?_, fun j' e oj d he hoj hd hl => ?_, hdf v, hsz2 v, hold v, fun k ok d hk2 hck hlk hdk => ?_⟩
    ·by_cases h : e = i
     ·subst h
      rw [hself]
      have := (hinj j' e he).1 rfl
      simp; omega
     ·rw [getD_set_ne false (Ne.symm h), hI.eff j' e he]
      have : j' ≠ j := fun h' => h ((hinj j' e he).2 h')
      simp; omega
    ·by_cases h : e = i
     ·subst h
      obtain rfl := (hinj j' e he).1 rfl
      obtain rfl : oj = o := by rw [ho] at hoj; exact (Option.some.inj hoj).symm
      rw [hputs d v hd, ← hjl]
      simp
     ·have hne : j' ≠ j := fun h' => h ((hinj j' e he).2 h')
      have hl2 : j' < vs.length := by simp at hl; omega
      rw [hput e oj d v h hoj hd, hI.res j' e oj d he hoj hd hl2]
      simp [List.getD_eq_getElem?_getD, List.getElem?_append_left hl2]
    ·have hne : k ≠ i := fun h => by rw [h, hc] at hck; cases hck
     rw [hput k ok d v hne hk2 hdk]
     exact hI.typ k ok d hk2 hck (by rwa [getD_set_ne false (Ne.symm hne)] at hlk) hdk
   have hr2 := hrule.2 j hj hjl
   unfold wpOp
   simp only [ho]
   split
   ·rename_i hw
    exact .inl (hr2.1 hw _ next)
   ·rename_i hw
    exact next undef w (hr2.2 (by simpa using hw))
theorem wp_region_seq {id : Nat} {W : World} {a : Act} (es : List Nat) (T : Nat → Value → Prop) (S : List Value → World → Prop) (hm : P.follows .mixedOrders = true) (hch : eChain ops es = true) (hnd : es.Nodup) (hes : (es.all fun i => decide (i < ops.size)) = true) (hk : tOk ops a.tmps.size = true) (hS : S [] W.drew)
  (hr : QRules P ops es T S a Q 0 ops.toList)
  (hpost : ∀ (b : Act) (w : World) (vs : List Value), S vs w → vs.length = es.length → b.defers = a.defers → b.tmps.size = a.tmps.size → (∀ t, noDst ops t = true → b.tmps.getD t undef = a.tmps.getD t undef) →
   (∀ (i : Nat) (o : Oper) (d : Tmp), ops[i]? = some o → es.contains i = false → o.dst = some d → T i (b.tmps.getD d undef)) →
   (∀ (j i : Nat) (o : Oper) (d : Tmp), es[j]? = some i → ops[i]? = some o → o.dst = some d → b.tmps.getD d undef = vs.getD j undef) → Q .normal b w) : (Code.region id ops true).wp P Q a W := by
 refine wp_region_any hm ?_
 have hz : ∀ i, (Array.replicate ops.size false).getD i false = false := fun i => by simp [Array.getD_eq_getD_getElem?, Array.getElem?_replicate]; split <;> rfl
 refine wpAny_seq (T := T) (S := S) (a0 := a) hch hnd (fun i hi => by simpa using (List.all_eq_true.1 hes) i hi) hk hr (fun b w vs h1 h2 h3 h4 h5 h6 h7 => hpost b w vs h1 h2 h3 h4 (fun t ht => h5 t (noDst_spec ht)) h6 h7) _ _ [] _ _ (by simp) (by simp) ?_
  ⟨fun i o ho hl => (by rw [hz] at hl; exact absurd hl (by decide)), hS, fun j i hj => ⟨fun h => (by rw [hz] at h; exact absurd h (by decide)), fun h => (by simp at h)⟩, fun j i o d _ _ _ h => (by simp at h), rfl, rfl, fun _ _ => rfl, fun i o d _ _ hl => (by rw [hz] at hl; exact absurd hl (by decide))⟩
 unfold unlisted; exact Nat.le_trans (List.length_filter_le _ _) (by simp)
theorem qread {a : Act} {i : Nat} {o : Oper} (hc : es.contains i = false)
  (h : ∀ (b : Act) (w : World) (vs : List Value), S vs w → (∀ (j e : Nat) (oe : Oper), es[j]? = some e → ops[e]? = some oe → covers ops ops.size oe i = true → vs.length ≤ j) → (∀ t, noDst ops t = true → b.eval (.tmp t) = a.eval (.tmp t)) →
   (∀ e ∈ o.after, Region.binds .any e = true → ∀ (oj : Oper) (d : Tmp), ops[e.on]? = some oj → es.contains e.on = false → oj.dst = some d → T e.on (b.eval (.tmp d))) →
   (∀ e ∈ o.after, Region.binds .any e = true → ∀ (j : Nat) (oj : Oper) (d : Tmp), es[j]? = some e.on → ops[e.on]? = some oj → oj.dst = some d → j < vs.length ∧ b.eval (.tmp d) = vs.getD j undef) →
   (Region.wanted o (yielded ops b.tmps) = true → ∀ K : Act → World → Prop, (∀ v, T i v → K (b.put o.dst v) w) → o.wp P b w K Q) ∧ (Region.wanted o (yielded ops b.tmps) = false → T i undef)) : QRule P ops es T S a Q i o := fun b w vs hS ⟨h1, h2, h3⟩ =>
 ⟨fun _ hcov => h b w vs hS hcov (fun t ht => h1 t (noDst_spec ht)) h2 h3, fun j hj _ => by
  have : es.contains i = true := by rw [List.contains_iff_mem]; exact List.mem_of_getElem? hj
  rw [hc] at this; cases this⟩
theorem qturn {a : Act} {i : Nat} {o : Oper} (j : Nat) (hj : es[j]? = some i) (hnd : es.Nodup)
  (h : ∀ (b : Act) (w : World) (vs : List Value), S vs w → vs.length = j → (∀ t, noDst ops t = true → b.eval (.tmp t) = a.eval (.tmp t)) →
   (∀ e ∈ o.after, Region.binds .any e = true → ∀ (oj : Oper) (d : Tmp), ops[e.on]? = some oj → es.contains e.on = false → oj.dst = some d → T e.on (b.eval (.tmp d))) →
   (∀ e ∈ o.after, Region.binds .any e = true → ∀ (j : Nat) (oj : Oper) (d : Tmp), es[j]? = some e.on → ops[e.on]? = some oj → oj.dst = some d → j < vs.length ∧ b.eval (.tmp d) = vs.getD j undef) →
   (Region.wanted o (yielded ops b.tmps) = true → ∀ K : Act → World → Prop, (∀ v w', S (vs ++ [v]) w' → K (b.put o.dst v) w') → o.wp P b w K Q) ∧ (Region.wanted o (yielded ops b.tmps) = false → S (vs ++ [undef]) w)) : QRule P ops es T S a Q i o := fun b w vs hS ⟨h1, h2, h3⟩ =>
 ⟨fun hc => (by
  have : es.contains i = true := by rw [List.contains_iff_mem]; exact List.mem_of_getElem? hj
  rw [hc] at this; exact absurd this (by decide)), fun j' hj' hl => by
  have e : j' = j := by
   have h1 := (List.getElem?_eq_some_iff.1 hj')
   have h2 := (List.getElem?_eq_some_iff.1 hj)
   exact (List.getElem_inj hnd (h₀ := h1.1) (h₁ := h2.1)).1 (h1.2.trans h2.2.symm)
  subst e
  exact h b w vs hS hl (fun t ht => h1 t (noDst_spec ht)) h2 h3⟩
end
end Go.Proofs.YtihpgmbinhmmlaaGreatDoor
namespace Go.Proofs.YtihpgmbinhmmlaaGreatDoor
open Go.RowKit

def depsOn (ops : Array Oper) : Nat → Nat → Nat → Bool
 | 0, _, _ => false
 | n + 1, j, i => match ops[j]? with
  | none => false
  | some o => o.after.any fun e => Region.binds .any e && (e.on == i || depsOn ops n e.on i)
theorem depsOn_listed {ops : Array Oper} {listed : Array Bool} (clo : ∀ (i : Nat) (o : Oper), ops[i]? = some o → listed.getD i false = true → ∀ e ∈ o.after, Region.binds .any e = true → listed.getD e.on false = true) :
  ∀ (n j i : Nat), depsOn ops n j i = true → listed.getD j false = true → listed.getD i false = true
 | 0, j, i, h, _ => by simp [depsOn] at h
 | n + 1, j, i, h, hj => by
  unfold depsOn at h
  split at h
  ·cases h
  ·rename_i o ho
   rw [Array.any_eq_true] at h
   obtain ⟨k, hk, h⟩ := h
   rw [Bool.and_eq_true, Bool.or_eq_true] at h
   have h1 := clo j o ho hj (o.after[k]) (Array.getElem_mem hk) h.1
   rcases h.2 with h2 | h2
   ·rw [beq_iff_eq] at h2
    rw [← h2]; exact h1
   ·exact depsOn_listed clo n _ i h2 h1
def noDstI (ops : Array Oper) (i : Nat) (t : Tmp) : Bool := (List.range ops.size).all fun j => match ops[j]? with
 | some o => o.dst != some t || depsOn ops 8 j i
 | none => true
theorem noDstI_spec {ops : Array Oper} {i : Nat} {t : Tmp} (h : noDstI ops i t = true) (j : Nat) (o : Oper) (ho : ops[j]? = some o) (hd : o.dst = some t) : depsOn ops 8 j i = true := by
 unfold noDstI at h
 rw [List.all_eq_true] at h
 have hlt := (Array.getElem?_eq_some_iff.1 ho).1
 have := h j (List.mem_range.2 hlt)
 rw [ho] at this
 simp only [Bool.or_eq_true, bne_iff_ne] at this
 exact this.resolve_left fun e => e hd
structure GInv (ops : Array Oper) {σ : Type} (T : Nat → Value → World × σ → Prop) (R : World × σ → World × σ → Prop) (N : Nat → World × σ → Prop) (a0 : Act) (W : World × σ) (listed : Array Bool) (a : Act) (w : World × σ) : Prop where
 rel : R W w
 pend : ∀ i, listed.getD i true = false → N i w
 defers : a.defers = a0.defers
 size : a.tmps.size = a0.tmps.size
 old : ∀ t, (∀ (i : Nat) (o : Oper), ops[i]? = some o → o.dst ≠ some t) → a.tmps.getD t undef = a0.tmps.getD t undef
 pold : ∀ (i : Nat) (o : Oper) (d : Tmp), ops[i]? = some o → o.dst = some d → listed.getD i false = false → a.tmps.getD d undef = a0.tmps.getD d undef
 clo : ∀ (i : Nat) (o : Oper), ops[i]? = some o → listed.getD i false = true → ∀ e ∈ o.after, Region.binds .any e = true → listed.getD e.on false = true
 typ : ∀ (i : Nat) (o : Oper) (d : Tmp), ops[i]? = some o → listed.getD i false = true → o.dst = some d → T i (a.tmps.getD d undef) w
 nod : ∀ (i : Nat) (o : Oper), ops[i]? = some o → listed.getD i false = true → o.dst = none → ∃ v, T i v w
def GRule (P : Program) (ops : Array Oper) {σ : Type} (T : Nat → Value → World × σ → Prop) (R : World × σ → World × σ → Prop) (N : Nat → World × σ → Prop) (a0 : Act) (W : World × σ) (Q : Exit → Act → World → Prop) (i : Nat) (o : Oper) : Prop :=
 ∀ a w, R W w → N i w → (∀ t, (∀ (j : Nat) (o : Oper), ops[j]? = some o → o.dst = some t → depsOn ops 8 j i = true) → a.tmps.getD t undef = a0.tmps.getD t undef) →
  (∀ e ∈ o.after, Region.binds .any e = true → ∀ (oj : Oper) (d : Tmp), ops[e.on]? = some oj → oj.dst = some d → T e.on (a.tmps.getD d undef) w) →
  (Region.wanted o (yielded ops a.tmps) = true → ∀ K : Act → World → Prop, (∀ v w', T i v w' → R w w' ∧ (∀ j, j ≠ i → N j w → N j w') → K (a.put o.dst v) w'.1) → o.wp P a w.1 K Q) ∧
  (Region.wanted o (yielded ops a.tmps) = false → T i undef w)
def GRules (P : Program) (ops : Array Oper) {σ : Type} (T : Nat → Value → World × σ → Prop) (R : World × σ → World × σ → Prop) (N : Nat → World × σ → Prop) (a0 : Act) (W : World × σ) (Q : Exit → Act → World → Prop) : Nat → List Oper → Prop
 | _, [] => True
 | i, o :: r => GRule P ops T R N a0 W Q i o ∧ GRules P ops T R N a0 W Q (i + 1) r
theorem GRules.at {P : Program} {ops : Array Oper} {σ : Type} {T : Nat → Value → World × σ → Prop} {R : World × σ → World × σ → Prop} {N : Nat → World × σ → Prop} {a0 : Act} {W : World × σ} {Q : Exit → Act → World → Prop} :
  ∀ (l : List Oper) (k : Nat), GRules P ops T R N a0 W Q k l → ∀ i o, l[i]? = some o → GRule P ops T R N a0 W Q (k + i) o
 | [], _, _, i, o, h => by simp at h
 | x :: r, k, hr, 0, o, h => by simp at h; subst h; exact hr.1
 | x :: r, k, hr, i + 1, o, h => by
  have := GRules.at r (k + 1) hr.2 i o (by simpa using h)
  rwa [show k + 1 + i = k + (i + 1) by omega] at this
section
variable {P : Program} {ops : Array Oper} {σ : Type} {T : Nat → Value → World × σ → Prop} {R : World × σ → World × σ → Prop} {N : Nat → World × σ → Prop} {a0 : Act} {W : World × σ} {Q : Exit → Act → World → Prop}
theorem wpAny_ghost (hrefl : ∀ w, R w w) (htr : ∀ a b c, R a b → R b c → R a c) (hmono : ∀ i v w w', T i v w → R w w' → T i v w') (hk : tOk ops a0.tmps.size = true) (hr : GRules P ops T R N a0 W Q 0 ops.toList)
  (hpost : ∀ a w, R W w → a.defers = a0.defers → a.tmps.size = a0.tmps.size → (∀ t, (∀ (i : Nat) (o : Oper), ops[i]? = some o → o.dst ≠ some t) → a.tmps.getD t undef = a0.tmps.getD t undef) →
   (∀ (i : Nat) (o : Oper) (d : Tmp), ops[i]? = some o → o.dst = some d → T i (a.tmps.getD d undef) w) → (∀ (i : Nat) (o : Oper), ops[i]? = some o → o.dst = none → ∃ v, T i v w) → Q .normal a w.1) :
  ∀ (fuel : Nat) (listed : Array Bool) (a : Act) (w : World × σ), listed.size = ops.size → unlisted ops listed ≤ fuel → GInv ops T R N a0 W listed a w → wpAny P .any ops Q fuel listed a w.1 := by
 have hall : ∀ listed a w, listed.size = ops.size → Region.ready .any ops listed = [] → GInv ops T R N a0 W listed a w → Q .normal a w.1 := by
  intro listed a w hsz h hI
  have hls : ∀ (i : Nat) (o : Oper), ops[i]? = some o → listed.getD i false = true := fun i o ho => by
   have hlt := (Array.getElem?_eq_some_iff.1 ho).1
   have := ready_nil hk h i hlt
   simpa [Array.getD_eq_getD_getElem?, Array.getElem?_eq_getElem (show i < listed.size by omega)] using this
  exact hpost a w hI.rel hI.defers hI.size hI.old (fun i o d ho hd => hI.typ i o d ho (hls i o ho) hd) fun i o ho hd => hI.nod i o ho (hls i o ho) hd
 intro fuel
 induction fuel with
 | zero =>
  intro listed a w hsz hu hI
  have hrd : Region.ready .any ops listed = [] := by
   rw [List.eq_nil_iff_forall_not_mem]
   intro i hi
   rw [mem_ready] at hi
   obtain ⟨h0, o, ho, _⟩ := hi
   have := unlisted_set (ops := ops) (Array.getElem?_eq_some_iff.1 ho).1 h0
   omega
  exact ⟨hrd, hall listed a w hsz hrd hI⟩
 | succ fuel ih =>
  intro listed a w hsz hu hI
  refine ⟨fun h => hall listed a w hsz h hI, fun i hi => ?_⟩
  rw [mem_ready] at hi
  obtain ⟨h0, o, ho, haf⟩ := hi
  have hlt := (Array.getElem?_eq_some_iff.1 ho).1
  have hdst := tOk_dst hk ho
  have h0f : listed.getD i false = false := by
   cases e : listed.getD i false with
   | false => rfl
   | true =>
    have hlt2 : i < listed.size := by omega
    rw [Array.getD_eq_getD_getElem?, Array.getElem?_eq_getElem hlt2] at h0 e
    simp only [Option.getD_some] at h0 e
    rw [h0] at e; cases e
  have hold' : ∀ t, (∀ (j : Nat) (o : Oper), ops[j]? = some o → o.dst = some t → depsOn ops 8 j (0 + i) = true) → a.tmps.getD t undef = a0.tmps.getD t undef := fun t ht => by
   by_cases hex : ∃ (j : Nat) (oj : Oper), ops[j]? = some oj ∧ oj.dst = some t
   ·obtain ⟨j, oj, hoj, hdj⟩ := hex
    refine hI.pold j oj t hoj hdj ?_
    cases e : listed.getD j false with
    | false => rfl
    | true =>
     have := depsOn_listed hI.clo 8 j i (by have := ht j oj hoj hdj; rwa [Nat.zero_add] at this) e
     rw [h0f] at this; cases this
   ·exact hI.old t fun j oj hoj hdj => hex ⟨j, oj, hoj, hdj⟩
  have hrule := GRules.at ops.toList 0 hr i o (by simpa using ho) a w hI.rel (by rw [Nat.zero_add]; exact hI.pend i h0) hold' (fun e he hbd oj d hoj hd => hI.typ e.on oj d hoj (haf e he hbd) hd)
  rw [Nat.zero_add] at hrule
  have next : ∀ v w', T i v w' → R w w' ∧ (∀ j, j ≠ i → N j w → N j w') → wpAny P .any ops Q fuel (listed.setIfInBounds i true) (a.put o.dst v) w'.1 := by
   intro v w' hT ⟨hb, hn⟩
   refine ih _ _ _ (by simpa using hsz) (by have := unlisted_set (ops := ops) hlt h0; omega) ⟨htr _ _ _ hI.rel hb, fun j hj => ?_, ?_, ?_, ?_, ?_, ?_, ?_, ?_⟩
   ·by_cases e : j = i
    ·subst e
     have : j < listed.size := by omega
     simp [Array.getElem?_setIfInBounds, this] at hj
    ·exact hn j e (hI.pend j (by rwa [getD_set_ne true (Ne.symm e)] at hj))
   ·rw [← hI.defers]; cases o.dst <;> rfl
   ·rw [← hI.size]; cases o.dst <;> simp [Act.put]
   ·intro t ht
    rw [← hI.old t ht]
    have h2 := ht i o ho
    cases hd : o.dst with
    | none => rfl
    | some d =>
     have : d ≠ t := fun e => h2 (by rw [hd, e])
     simp [Act.put, Array.getElem?_setIfInBounds_ne this]
   ·intro j oj d hj hdj hlj
    have e : j ≠ i := fun e => by
     subst e
     have : j < listed.size := by omega
     simp [Array.getElem?_setIfInBounds, this] at hlj
    rw [getD_set_ne false (Ne.symm e)] at hlj
    rw [← hI.pold j oj d hj hdj hlj]
    cases hd : o.dst with
    | none => rfl
    | some d' =>
     have : d' ≠ d := fun e2 => hdst.2.2 j oj d' e hj hd (by rw [hdj, e2])
     simp [Act.put, Array.getElem?_setIfInBounds_ne this]
   ·intro j oj hj hlj e he hbd
    have hmn : ∀ k, listed.getD k false = true → (listed.setIfInBounds i true).getD k false = true := fun k hk => by
     by_cases ek : k = i
     ·subst ek
      have : k < listed.size := by omega
      simp [Array.getElem?_setIfInBounds, this]
     ·rwa [getD_set_ne false (Ne.symm ek)]
    by_cases ej : j = i
    ·subst ej
     obtain rfl : oj = o := by rw [ho] at hj; exact (Option.some.inj hj).symm
     exact hmn _ (haf e he hbd)
    ·exact hmn _ (hI.clo j oj hj (by rwa [getD_set_ne false (Ne.symm ej)] at hlj) e he hbd)
   ·intro j oj d hj hlj hdj
    by_cases e : j = i
    ·subst e
     obtain rfl : oj = o := by rw [ho] at hj; exact (Option.some.inj hj).symm
     have hd1 := hdst.1 d hdj
     rw [hdj]
     have hlt2 : d < a.tmps.size := by rw [hI.size]; exact hd1
     simpa [Act.put, hlt2] using hT
    ·have hlj' : listed.getD j false = true := by rwa [getD_set_ne false (Ne.symm e)] at hlj
     have h3 := hmono j _ w w' (hI.typ j oj d hj hlj' hdj) hb
     have h4 : (a.put o.dst v).tmps.getD d undef = a.tmps.getD d undef := by
      cases hd : o.dst with
      | none => rfl
      | some d' =>
       have : d' ≠ d := fun e2 => hdst.2.2 j oj d' e hj hd (by rw [hdj, e2])
       simp [Act.put, Array.getElem?_setIfInBounds_ne this]
     rw [h4]; exact h3
   ·intro j oj hj hlj hdj
    by_cases e : j = i
    ·subst e; exact ⟨v, hT⟩
    ·have hlj' : listed.getD j false = true := by rwa [getD_set_ne false (Ne.symm e)] at hlj
     obtain ⟨v', h⟩ := hI.nod j oj hj hlj' hdj
     exact ⟨v', hmono j _ w w' h hb⟩
  unfold wpOp
  simp only [ho]
  split
  ·rename_i hw
   exact .inl (hrule.1 hw _ next)
  ·rename_i hw
   exact next undef w (hrule.2 (by simpa using hw)) ⟨hrefl _, fun _ _ h => h⟩
theorem wp_region_ghost {id : Nat} {a : Act} {σ : Type} (T : Nat → Value → World × σ → Prop) (R : World × σ → World × σ → Prop) (N : Nat → World × σ → Prop) (γ0 : σ) {W : World} (hm : P.follows .mixedOrders = true) (hk : tOk ops a.tmps.size = true)
  (hrefl : ∀ w, R w w) (htr : ∀ a b c, R a b → R b c → R a c) (hmono : ∀ i v w w', T i v w → R w w' → T i v w') (hN : ∀ i, N i (W.drew, γ0))
  (hr : GRules P ops T R N a (W.drew, γ0) Q 0 ops.toList)
  (hpost : ∀ (b : Act) (w : World × σ), R (W.drew, γ0) w → b.defers = a.defers → b.tmps.size = a.tmps.size → (∀ t, noDst ops t = true → b.tmps.getD t undef = a.tmps.getD t undef) →
   (∀ (i : Nat) (o : Oper) (d : Tmp), ops[i]? = some o → o.dst = some d → T i (b.tmps.getD d undef) w) → (∀ (i : Nat) (o : Oper), ops[i]? = some o → o.dst = none → ∃ v, T i v w) → Q .normal b w.1) : (Code.region id ops true).wp P Q a W := by
 refine wp_region_any hm ?_
 refine wpAny_ghost (T := T) (R := R) (N := N) (W := (W.drew, γ0)) (a0 := a) hrefl htr hmono hk hr (fun b w h1 h2 h3 h4 h5 h6 => hpost b w h1 h2 h3 (fun t ht => h4 t (noDst_spec ht)) h5 h6) _ _ _ (W.drew, γ0) (by simp) ?_ ⟨hrefl _, fun i _ => hN i, rfl, rfl, fun _ _ => rfl, fun _ _ _ _ _ _ => rfl, fun i o ho hl => ?_, fun i o d ho hl _ => ?_, fun i o ho hl _ => ?_⟩
 ·unfold unlisted; exact Nat.le_trans (List.length_filter_le _ _) (by simp)
 all_goals
  exfalso
  have hlt := (Array.getElem?_eq_some_iff.1 ho).1
  simp [hlt] at hl
theorem truleGh {W : World × σ} {i : Nat} {o : Oper} {a : Act}
  (h : ∀ (b : Act) (w : World × σ), R W w → N i w → (∀ t, noDstI ops i t = true → b.eval (.tmp t) = a.eval (.tmp t)) →
   (∀ e ∈ o.after, Region.binds .any e = true → ∀ (oj : Oper) (d : Tmp), ops[e.on]? = some oj → oj.dst = some d → T e.on (b.eval (.tmp d)) w) →
   (Region.wanted o (yielded ops b.tmps) = true → ∀ K : Act → World → Prop, (∀ v w', T i v w' → R w w' ∧ (∀ j, j ≠ i → N j w → N j w') → K (b.put o.dst v) w'.1) → o.wp P b w.1 K Q) ∧ (Region.wanted o (yielded ops b.tmps) = false → T i undef w)) :
  GRule P ops T R N a W Q i o := fun b w h1 hn h2 h3 => h b w h1 hn (fun t ht => h2 t (noDstI_spec ht)) h3
end
end Go.Proofs.YtihpgmbinhmmlaaGreatDoor
namespace Go.Proofs.YtihpgmbinhmmlaaGreatDoor
open Go.RowKit
attribute [local go_sem ↓] Go.wp_at_zero Go.wp_at_succ
set_option maxRecDepth 20000
set_option exponentiation.threshold 5000

section
variable {w0 w w' : World} {F F' : List Fact} {K r : (Nat → Prop) → World → Prop}
theorem St.perm (h : St w0 w F K) (hp : F'.Perm F) : St w0 w F' K :=
 ⟨h.below, fun f hf => h.holds f (hp.mem_iff.1 hf), (hp.pairwise_iff (fun {f g} hfg k hk e => hfg k e hk)).2 h.apart, h.stable, h.stable _ _ _ _ h.ro (Nat.le_refl _) (fun _ _ _ _ h => h) fun _ h1 _ _ f hf => h1 f (hp.mem_iff.1 hf)⟩
theorem St.nils (h : St w0 w F K) (e : TypeId) (size : Nat) : ∀ n, St w0 w (List.replicate n (.own (.slice none 0 0) e size 0 []) ++ F) K
 | 0 => h
 | n + 1 => by rw [List.replicate_succ, List.cons_append]; exact (St.nils h e size n).nil e size
theorem St.ret2 (h : St w0 w F K) (hb : Below w.heap.size w w') (hr : Stable r) (hh : r (fun b => Free F b ∨ w.heap.size ≤ b) w') : St w0 w' F fun D w => K D w ∧ r D w :=
 (h.ext hb).add hr hh fun b h1 _ => h1.elim id fun h1 => h.fresh h1
end
section
variable {P : Program} {o : Oper} {a : Act} {w : World} {K : Act → World → Prop} {Q : Exit → Act → World → Prop}
theorem opw_mk (l c : Operand) (t : TypeId) (ho : o.op = .makeSlice t l c) {e : TypeId} {size bytes : Nat} (hT : SliceTy P t e size bytes) (kl kc : IntKind) (n : Nat) (zs : Array Value) (hl : a.eval l = .int kl n) (hcap : a.eval c = .int kc n) (hz : zeroCells P e = zs) (hb : bytes * n ≤ 281474976710656) (h63 : n ≤ 1000000000000)
  (hk : ∀ w', w'.ownsRow w.heap.size e size (.slice (some ⟨w.heap.size, 0, none⟩) n n) n (madeCells zs (n * size)).toList → Below w.heap.size w w' → K (a.put o.dst (.slice (some ⟨w.heap.size, 0, none⟩) n n)) w') : o.wp P a w K Q := by
 obtain ⟨i, z, hi, hz', h2, h3, h4, h5⟩ := hT.get
 have hzc : zs = z.cells := by rw [← hz]; simp [zeroCells, hi, hz']
 subst hzc
 obtain ⟨w', hrun, r1, r2⟩ := run_make_full (P := P) w w.heap.size t e i z size hT.under hi hz' h2 kl kc n (by rw [h3]; exact hb) (by unfold maxLen; omega) (Nat.le_refl _)
 unfold Oper.wp
 simp [execOp, ho, hl, hcap, hrun, Result.andThen]
 exact hk _ r1 ((Below.refl _ _).grown r2 (Nat.le_refl _) (by simp))
end
section
variable {P : Program} {o : Oper} {a : Act} {w : World} {K : Act → World → Prop} {Q : Exit → Act → World → Prop}
theorem run_store_own1 {base g n cap size i : Nat} {e ty : TypeId} {xs : List Value} {u : Value} (h : w.ownsRow base e size (.slice (some ⟨g, 0, none⟩) n cap) n xs) (hi : i < n * size) (h1 : u.oneCell' = true) (hs : (P.info? ty).map (·.size) = some 1) :
  (Instr.storeAt ty (.pointer (some ⟨g, i, none⟩)) (.agg #[u])).run P w = .ok () (w.setCell ⟨g, i, none⟩ u) := by
 obtain ⟨cs, h2, h3, _⟩ := own_box h
 have hc := h2.cell i
 have hf := h2.free i
 have := run_storeCells_cells (P := P) g i [u] 0 w (fun j hj => by simp at hj; subst hj; simp [hc]; omega) (fun j hj => by simp at hj; subst hj; simpa using hf) (by simpa using h1)
 cases hq : P.info? ty with
 | none => simp [hq] at hs
 | some inf =>
  have hs' : inf.size = 1 := by simpa [hq] using hs
  simp only [Nat.add_zero] at this
  simp [Instr.storeAt, Instr.sureAddr, storeVar, sizeOf, typeInfo, hq, Value.cells, hs', this, World.setCells]
theorem opw_ostore1 {ty e : TypeId} {x y : Operand} {g i base n cap size : Nat} {u : Value} {xs : List Value} (ho : o.op = .store ty x y) (hx : a.eval x = .pointer (some ⟨g, i, none⟩)) (hy : a.eval y = .agg #[u]) (hown : w.ownsRow base e size (.slice (some ⟨g, 0, none⟩) n cap) n xs) (hi : i < n * size)
  (h1 : u.oneCell' = true) (hs : (P.info? ty).map (·.size) = some 1) (hk : ∀ w', w'.ownsRow base e size (.slice (some ⟨g, 0, none⟩) n cap) n (xs.set i u) → Upd g w w' → K (a.put o.dst undef) w') : o.wp P a w K Q := by
 unfold Oper.wp execOp
 simp only [ho, hx, hy, Sem.run_bind, run_store_own1 hown hi h1 hs, Result.andThen_ok]
 exact hk _ (hown.stored i u).1 (upd_setCell w g i u)
theorem opw_oload1 {t : TypeId} {x : Operand} {g i base n cap : Nat} {e : TypeId} {xs : List Value} {u : Value} {d : TypeDesc} (ho : o.op = .load t x) (hx : a.eval x = .pointer (some ⟨g, i, none⟩)) (hown : w.ownsRow base e 1 (.slice (some ⟨g, 0, none⟩) n cap) n xs) (hu : xs[i]? = some u)
  (ht : P.underlying t = some d) (hd : d.isRow = true) (hs : (P.info? t).map (·.size) = some 1) (hk : K (a.put o.dst (.agg #[u])) w) : o.wp P a w K Q :=
 opw_mid (cs := [u]) ho hx (fun j v hj => by
  have : j = 0 := by
   rcases Nat.eq_zero_or_pos j with h | h
   ·exact h
   ·rw [List.getElem?_eq_none (by simp; omega)] at hj; cases hj
  subst this
  simp at hj; subst hj
  exact own_cell hown i _ hu) ht hd hs hk
end
theorem lit_of {tm : Array Value} {n : Nat} (h : tm.size = n) : tm = ((List.range n).map fun i => tm.getD i undef).toArray := by
 apply Array.ext
 ·simp [h]
 ·intro i h1 h2
  simp [h1]
theorem set_one {w : World} {D : Nat → Prop} {v : Value} {N : Nat} (h : IsSet w D v N) : ∃ u, v = .agg #[u] ∧ u.oneCell' = true := by
 obtain ⟨u, l, rfl, _, _, _, A, c, rfl, _⟩ := h
 exact ⟨_, rfl, rfl⟩
theorem ints_natA (l : List Nat) (k : Nat) (h : k < l.length) : (ints (natInts l))[k]? = some (.int .i64 (l.getD k 0 : Nat)) := by
 simp [ints, natInts, List.getElem?_eq_getElem h, List.getD_eq_getElem?_getD]
theorem low_of {w0 w : World} {F : List Fact} {K : (Nat → Prop) → World → Prop} (h : St w0 w F K) : ∀ f ∈ F, f.low w.heap.size := fun f hf => by
 cases f with
 | obj g o => exact .inr ⟨g, o, rfl, h.lt hf rfl⟩
 | box => exact .inl rfl
 | own => exact .inl rfl
def famF (dv : Nat → Value) (g : Nat → List Nat) (n : Nat) : List Fact := (List.range n).map fun k => .own (dv k) 3 1 (g k).length (ints (natInts (g k)))
theorem famF_len (dv : Nat → Value) (g : Nat → List Nat) (n : Nat) : (famF dv g n).length = n := by simp [famF]
theorem fam_at {dv : Nat → Value} {g : Nat → List Nat} {n k : Nat} (h : k < n) : (famF dv g n)[k]? = some (.own (dv k) 3 1 (g k).length (ints (natInts (g k)))) := by simp [famF, h]
theorem fam_set (dv : Nat → Value) (g : Nat → List Nat) (n k : Nat) (v : Value) (l : List Nat) : (famF dv g n).set k (.own v 3 1 l.length (ints (natInts l))) = famF (fun j => if j = k then v else dv j) (fun j => if j = k then l else g j) n := by
 apply List.ext_getElem
 ·simp [famF]
 ·intro j h1 h2
  simp only [famF, List.getElem_set, List.getElem_map, List.getElem_range]
  by_cases e : k = j
  ·subst e; simp
  ·rw [if_neg e, if_neg (fun h => e h.symm), if_neg (fun h => e h.symm)]
theorem fam_nil (n : Nat) : famF (fun _ => .slice none 0 0) (fun _ => []) n = List.replicate n (.own (.slice none 0 0) 3 1 0 []) := by
 apply List.ext_getElem <;> simp [famF, ints, natInts]
theorem St.fam {w0 w : World} {H F0 : List Fact} {K : (Nat → Prop) → World → Prop} {dv : Nat → Value} {g : Nat → List Nat} {n : Nat} (h : St w0 w (H ++ (famF dv g n ++ F0)) K) {k : Nat} (hk : k < n) : w.ownsRow w0.heap.size 3 1 (dv k) (g k).length (ints (natInts (g k))) :=
 h.holds (.own (dv k) 3 1 (g k).length (ints (natInts (g k)))) (List.mem_append_right _ (List.mem_append_left _ (List.mem_of_getElem? (fam_at hk))))
theorem St.updFam {w0 w w' : World} {H F0 : List Fact} {K : (Nat → Prop) → World → Prop} {dv : Nat → Value} {g : Nat → List Nat} {n : Nat} (h : St w0 w (H ++ (famF dv g n ++ F0)) K) {k : Nat} (hk : k < n) (v : Value) (l : List Nat) (hg : w.grownBy w' (dv k).ownBlock)
  (ho : w'.ownsRow w0.heap.size 3 1 v l.length (ints (natInts l))) (hb : ∀ x, v.ownBlock = some x → (dv k).ownBlock = some x ∨ w.heap.size ≤ x) : St w0 w' (H ++ (famF (fun j => if j = k then v else dv j) (fun j => if j = k then l else g j) n ++ F0)) K := by
 have hi : (H ++ (famF dv g n ++ F0))[H.length + k]? = some (.own (dv k) 3 1 (g k).length (ints (natInts (g k)))) := by
  rw [List.getElem?_append_right (by omega), Nat.add_sub_cancel_left, List.getElem?_append_left (by rw [famF_len]; exact hk), fam_at hk]
 have h1 := h.upd _ hi (.own v 3 1 l.length (ints (natInts l))) hg ho hb
 rw [List.set_append_right _ _ (by omega), Nat.add_sub_cancel_left, List.set_append_left _ _ (by rw [famF_len]; exact hk), fam_set] at h1
 exact h1
theorem dv_set (dv : Nat → Value) (n k : Nat) (v : Value) : ((List.range n).map dv).set k v = (List.range n).map (fun j => if j = k then v else dv j) := by
 apply List.ext_getElem
 ·simp
 ·intro j h1 h2
  simp only [List.getElem_set, List.getElem_map, List.getElem_range]
  by_cases e : k = j
  ·subst e; simp
  ·rw [if_neg e, if_neg (fun h => e h.symm)]
theorem dv_at {dv : Nat → Value} {n k : Nat} (h : k < n) : ((List.range n).map dv)[k]? = some (dv k) := by simp [h]
theorem dirs_le (L : List (Nat × Nat)) (b : Nat) : (dirs L b).length ≤ L.length := by
 unfold dirs; rw [List.length_map]; exact List.length_filter_le _ _
theorem dirs_take (L : List (Nat × Nat)) : dirs (L.take 0) = fun _ => [] := by funext b; simp [dirs]
def SetsX (xs : List Value) (n : Nat) (f : Nat → Nat) (D : Nat → Prop) (w : World) : Prop := ∀ k, k < n → ∃ u, xs[k]? = some u ∧ IsSet w D (.agg #[u]) (f k)
theorem stable_setsX {xs : List Value} {n : Nat} {f : Nat → Nat} : Stable (SetsX xs n f) := fun D D' w w' h a b c k hk => by
 obtain ⟨u, h1, h2⟩ := h k hk
 exact ⟨u, h1, stable_set D D' w w' h2 a b c⟩
theorem SetsX.zero (n : Nat) (D : Nat → Prop) (w : World) : SetsX (List.replicate n (.slice none 0 0)) n (fun _ => 0) D w := fun k hk => ⟨.slice none 0 0, by simp [hk], IsSet.empty⟩
theorem SetsX.set {xs : List Value} {n k N : Nat} {f : Nat → Nat} {D : Nat → Prop} {w : World} {u : Value} (h : SetsX xs n f D w) (hl : xs.length = n) (hu : IsSet w D (.agg #[u]) N) : SetsX (xs.set k u) n (fun j => if j = k then N else f j) D w := fun j hj => by
 by_cases e : k = j
 ·subst e; exact ⟨u, by simp [hl, hj], by simpa using hu⟩
 ·obtain ⟨v, h1, h2⟩ := h j hj
  refine ⟨v, by rw [List.getElem?_set_ne e]; exact h1, ?_⟩
  have : ¬ j = k := fun h => e h.symm
  simpa [this] using h2
theorem SetsX.congr {xs : List Value} {n : Nat} {f g : Nat → Nat} {D : Nat → Prop} {w : World} (h : SetsX xs n f D w) (e : ∀ k, k < n → f k = g k) : SetsX xs n g D w := fun k hk => by rw [← e k hk]; exact h k hk
theorem ty_sets : SliceTy Tryz.prog 182 27 1 24 := ⟨Tryz.underlying182, by kernel_rfl⟩
theorem ty_rows : SliceTy Tryz.prog 193 48 1 24 := ⟨Tryz.underlying193, by kernel_rfl⟩
theorem mk_nils (n : Nat) : (madeCells #[Value.slice none 0 0] (n * 1)).toList = List.replicate n (.slice none 0 0) := by rw [Nat.mul_one, toList_madeCells_one]

structure Two where
 a : Option Nat
 b : Option Nat
 s : Bool
 t : Bool
def rowOf (n : Nat) : Option Nat → List Fact
 | some g => [.own (.slice (some ⟨g, 0, none⟩) n n) 27 1 n (List.replicate n (.slice none 0 0))]
 | none => []
def slOf (n : Nat) : Option Nat → Bool → Value
 | some g, true => .slice (some ⟨g, 0, none⟩) n n
 | _, _ => .slice none 0 0
def Two.F (q n : Nat) (pv sv : Value) (x : Two) : List Fact := .box q 184 #[.int .i64 (n : Nat), pv, slOf n x.a x.s, slOf n x.b x.t, sv] :: (rowOf n x.a ++ rowOf n x.b)
section
variable {w0 : World} {K : (Nat → Prop) → World → Prop} {Y : List Fact} {q n : Nat} {pv sv : Value} {p p' : World × Two}
def TwoJ (w0 : World) (K : (Nat → Prop) → World → Prop) (Y : List Fact) (q n : Nat) (pv sv : Value) (p : World × Two) : Prop := St w0 p.1 (Two.F q n pv sv p.2 ++ Y) K
def TwoR (w0 : World) (K : (Nat → Prop) → World → Prop) (Y : List Fact) (q n : Nat) (pv sv : Value) (p p' : World × Two) : Prop :=
 (TwoJ w0 K Y q n pv sv p → TwoJ w0 K Y q n pv sv p') ∧ (∀ g, p.2.a = some g → p'.2.a = some g) ∧ (∀ g, p.2.b = some g → p'.2.b = some g) ∧ (p.2.s = true → p'.2.s = true) ∧ (p.2.t = true → p'.2.t = true)
theorem TwoR.refl (p : World × Two) : TwoR w0 K Y q n pv sv p p := ⟨id, fun _ h => h, fun _ h => h, id, id⟩
theorem TwoR.trans (a b c : World × Two) (h : TwoR w0 K Y q n pv sv a b) (k : TwoR w0 K Y q n pv sv b c) : TwoR w0 K Y q n pv sv a c :=
 ⟨fun x => k.1 (h.1 x), fun g x => k.2.1 g (h.2.1 g x), fun g x => k.2.2.1 g (h.2.2.1 g x), fun x => k.2.2.2.1 (h.2.2.2.1 x), fun x => k.2.2.2.2 (h.2.2.2.2 x)⟩
theorem TwoJ.bq (h : TwoJ w0 K Y q n pv sv p) : Box p.1 q 184 #[.int .i64 (n : Nat), pv, slOf n p.2.a p.2.s, slOf n p.2.b p.2.t, sv] := (St.holds h (.box q 184 _) (by simp [Two.F])).2
theorem TwoJ.y (h : TwoJ w0 K Y q n pv sv p) {g : Nat} {t : TypeId} {cs : Array Value} (hy : Fact.box g t cs ∈ Y) : Box p.1 g t cs := (St.holds h (.box g t cs) (by simp [hy])).2
theorem TwoJ.mkA {w' : World} {g : Nat} (h : TwoJ w0 K Y q n pv sv p) (ha : p.2.a = none ∧ p.2.s = false) (hb : Below p.1.heap.size p.1 w') (ho : w'.ownsRow p.1.heap.size 27 1 (.slice (some ⟨g, 0, none⟩) n n) n (List.replicate n (.slice none 0 0))) :
  TwoJ w0 K Y q n pv sv (w', { p.2 with a := some g }) := by
 obtain ⟨w, a, b, s, t⟩ := p
 obtain ⟨rfl, rfl⟩ := ha
 have h1 := St.new h hb (.own (.slice (some ⟨g, 0, none⟩) n n) 27 1 n (List.replicate n (.slice none 0 0))) ho
 refine h1.perm ?_
 simp only [Two.F, rowOf, slOf, List.nil_append, List.cons_append]
 exact List.Perm.swap ..
theorem TwoJ.mkB {w' : World} {g : Nat} (h : TwoJ w0 K Y q n pv sv p) (ha : p.2.b = none ∧ p.2.t = false) (hb : Below p.1.heap.size p.1 w') (ho : w'.ownsRow p.1.heap.size 27 1 (.slice (some ⟨g, 0, none⟩) n n) n (List.replicate n (.slice none 0 0))) :
  TwoJ w0 K Y q n pv sv (w', { p.2 with b := some g }) := by
 obtain ⟨w, a, b, s, t⟩ := p
 obtain ⟨rfl, rfl⟩ := ha
 have h1 := St.new h hb (.own (.slice (some ⟨g, 0, none⟩) n n) 27 1 n (List.replicate n (.slice none 0 0))) ho
 refine h1.perm ?_
 cases a with
 | none => simp only [Two.F, rowOf, slOf, List.nil_append, List.cons_append]; exact List.Perm.swap ..
 | some g' =>
  simp only [Two.F, rowOf, slOf, List.nil_append, List.cons_append]
  exact ((List.Perm.swap ..).cons _).trans (List.Perm.swap ..)
theorem TwoJ.stA {w' : World} {g : Nat} (h : TwoJ w0 K Y q n pv sv p) (ha : p.2.a = some g) (hX : Box w' q 184 #[.int .i64 (n : Nat), pv, .slice (some ⟨g, 0, none⟩) n n, slOf n p.2.b p.2.t, sv]) (hU : Upd q p.1 w') : TwoJ w0 K Y q n pv sv (w', { p.2 with s := true }) := by
 obtain ⟨w, a, b, s, t⟩ := p
 dsimp only at ha
 subst ha
 have h0 : St w0 w (.box q 184 #[.int .i64 (n : Nat), pv, slOf n (some g) s, slOf n b t, sv] :: ((rowOf n (some g) ++ rowOf n b) ++ Y)) K := h
 exact h0.upd 0 rfl (.box q 184 #[.int .i64 (n : Nat), pv, .slice (some ⟨g, 0, none⟩) n n, slOf n b t, sv]) (upd_gb hU) ⟨(h0.holds _ (.head _)).1, hX⟩ fun _ e => .inl e
theorem TwoJ.stB {w' : World} {g : Nat} (h : TwoJ w0 K Y q n pv sv p) (ha : p.2.b = some g) (hX : Box w' q 184 #[.int .i64 (n : Nat), pv, slOf n p.2.a p.2.s, .slice (some ⟨g, 0, none⟩) n n, sv]) (hU : Upd q p.1 w') : TwoJ w0 K Y q n pv sv (w', { p.2 with t := true }) := by
 obtain ⟨w, a, b, s, t⟩ := p
 dsimp only at ha
 subst ha
 have h0 : St w0 w (.box q 184 #[.int .i64 (n : Nat), pv, slOf n a s, slOf n (some g) t, sv] :: ((rowOf n a ++ rowOf n (some g)) ++ Y)) K := h
 exact h0.upd 0 rfl (.box q 184 #[.int .i64 (n : Nat), pv, slOf n a s, .slice (some ⟨g, 0, none⟩) n n, sv]) (upd_gb hU) ⟨(h0.holds _ (.head _)).1, hX⟩ fun _ e => .inl e
end
def relF (q n : Nat) (pv sv av bv : Value) (g1 g2 : Nat) (S : List Nat) (ds xa xb : List Value) (X : List Fact) : List Fact :=
 [.own (.slice (some ⟨g2, 0, none⟩) n n) 48 1 n ds, .box q 184 #[.int .i64 (n : Nat), pv, av, bv, sv], .own av 27 1 n xa, .own bv 27 1 n xb, .box g1 150 #[.pointer (some ⟨q, 0, none⟩)], .own sv 3 1 S.length (ints (natInts S))] ++ X
theorem zip_one (T : Array Value) (p : Tmp) (v : Value) : (Array.zip #[p] #[v]).foldl (fun t (x : Tmp × Value) => match x with | (p, v) => t.setIfInBounds p v) T = T.setIfInBounds p v := by
 have h : Array.zip #[p] #[v] = #[(p, v)] := by
  apply Array.ext
  ·simp
  ·intro i h1 h2
   simp at h2
   subst h2
   simp
 rw [h]; simp
theorem perm_mark (A B C M : List Fact) (o : Fact) : ((A ++ (B ++ (C ++ M))) ++ [o]).Perm (A ++ (B ++ (C ++ (o :: M)))) := by
 simp only [List.append_assoc]
 exact (List.Perm.refl A).append ((List.Perm.refl B).append ((List.Perm.refl C).append (List.perm_append_singleton o M)))
theorem mem_memL {ws : List Nat} (hw : Words ws) {k : Nat} : ((k : Nat) : Int) ∈ memL ws ↔ (val ws).testBit k = true := by
 have h1 : ((k : Nat) : Int) ∈ memL ws ↔ k ∈ memTo (val ws) (64 * ws.length) := by
  simp only [memL, natInts, List.mem_map]
  exact ⟨fun ⟨a, ha, e⟩ => by have : a = k := by omega
                              exact this ▸ ha, fun h => ⟨k, h, rfl⟩⟩
 rw [h1, memTo, List.mem_filter]
 refine ⟨fun h => h.2, fun h => ⟨List.mem_range.2 ?_, h⟩⟩
 rw [testBit_val hw] at h
 rcases Nat.lt_or_ge (k / 64) ws.length with h2 | h2
 ·omega
 ·rw [List.getD_eq_getElem?_getD, List.getElem?_eq_none h2] at h; simp at h
theorem memL_nat {ws : List Nat} {x : Int} (h : x ∈ memL ws) : ∃ k : Nat, x = (k : Int) := by
 simp only [memL, natInts, List.mem_map] at h
 obtain ⟨a, _, e⟩ := h
 exact ⟨a, e.symm⟩
theorem St.dom {w0 w : World} {F : List Fact} {K : (Nat → Prop) → World → Prop} (h : St w0 w F K) : ∃ DD : Nat → Prop, DD = Free F ∧ K DD w := ⟨_, rfl, h.ro⟩
theorem wpIn_act {F : Fence} {n : Nat} {P : Program} {c : Code} {Q : Exit → Act → World → Prop} {a : Act} {w : World} (h : ∀ act, act = a → c.wpIn F n P Q act w) : c.wpIn F n P Q a w := h a rfl
def relK (K : (Nat → Prop) → World → Prop) (n : Nat) (L : List (Nat × Nat)) (S : List Nat) (i : Nat) (xa xb : List Value) (D : Nat → Prop) (w : World) : Prop :=
 K D w ∧ SetsX xa n (fun k => if k ∈ S.take i then aboveM n L k else 0) D w ∧ SetsX xb n (blP n L (S.take i)) D w
theorem stable_relK {K : (Nat → Prop) → World → Prop} (hK : Stable K) (n : Nat) (L : List (Nat × Nat)) (S : List Nat) (i : Nat) (xa xb : List Value) : Stable (relK K n L S i xa xb) := hK.and (stable_setsX.and stable_setsX)
structure RelI (w0 : World) (K : (Nat → Prop) → World → Prop) (F0 : List Fact) (q n : Nat) (pv sv av bv : Value) (g1 g2 : Nat) (L : List (Nat × Nat)) (S : List Nat) (dv : Nat → Value) (m : Nat) (a : Act) (w : World) (i : Nat) (ds : List Nat) (xa xb : List Value) : Prop where
 im : i + m = n
 size : a.tmps.size = 121
 s1 : a.tmps.getD 1 undef = .pointer (some ⟨g1, 0, none⟩)
 s2 : a.tmps.getD 2 undef = .slice (some ⟨g2, 0, none⟩) n n
 s57 : a.tmps.getD 57 undef = sv
 s58 : a.tmps.getD 58 undef = .int .i64 (S.length : Nat)
 s59 : a.tmps.getD 59 undef = .int .i64 (i : Nat)
 df : a.defers = marksD ds
 xal : xa.length = n
 xbl : xb.length = n
 st : St w0 w (relF q n pv sv av bv g1 g2 S ((List.range n).map dv) xa xb (famF dv (dirs L) n ++ (F0 ++ marksF ds))) (relK K n L S i xa xb)
set_option maxHeartbeats 1000000 in
theorem orelate_any {w0 w : World} {F0 : List Fact} {K : (Nat → Prop) → World → Prop} (q n : Nat) (L : List (Nat × Nat)) (S : List Nat) (pv sv : Value) (hn : n ≤ 256) (hL : Inr n L) (hl : L.length ≤ 1000000) (hT : Topo L S) (hSn : S.length = n) (hSb : ∀ y ∈ S, y < n)
  (hS : St w0 w (.own sv 3 1 S.length (ints (natInts S)) :: .box q 184 #[.int .i64 (n : Nat), pv, .slice none 0 0, .slice none 0 0, sv] :: F0) K)
  (kp : ∀ D w, K D w → Sl w D 2 pv L.length (pcells L)) (kt : ∀ D w, K D w → DTab w ∧ D 0) :
  Calls Tryz.prog 133 #[.pointer (some ⟨q, 0, none⟩)] w fun e w' => ∃ (av bv : Value) (xa xb : List Value), e = .returned (.tuple #[]) ∧
   St w0 w' (.box q 184 #[.int .i64 (n : Nat), pv, av, bv, sv] :: F0) fun D w => K D w ∧ (Sl w D 1 av n xa ∧ SetsX xa n (aboveM n L) D w) ∧ (Sl w D 1 bv n xb ∧ SetsX xb n (belowM n L) D w) := by
 obtain ⟨A, c, rfl, _, _⟩ := (kp _ _ hS.ro).shape
 have HL := Lib.hid hL
 have KS := hS.stable
 have HT := Lib.hid hT
 have HSB := Lib.hid hSb
 have hSn1 : S.length ≤ n := Nat.le_of_eq hSn
 have hSn2 : n ≤ S.length := Nat.le_of_eq hSn.symm
 obtain ⟨As, cs, rfl, _, _⟩ := own_shp (hS.own 0 rfl)
 obtain ⟨sv, hsv⟩ : ∃ sv : Value, sv = .slice As S.length cs := ⟨_, rfl⟩
 rw [← hsv] at hS ⊢
 clear hL hT hSb hSn
 refine (callsIn_wide (n := 6)).1 (callsIn_of_wp_marks Tryz.func133 rfl trivial ?_ rfl)
 simp only [Tryz.ntmps133, List.size_toArray, List.length_cons, List.length_nil, Nat.reduceAdd, Nat.reduceSub, Array.replicate_succ, Array.replicate_zero, List.push_toArray, List.append_toArray, List.nil_append, List.cons_append]
 refine wpIn_wide.2 ?_
 go_wp2_with (first
  | ((with_reducible refine qA 1 ?_); refine st_box hS rfl _ _ rfl (.pointer (some ⟨q, 0, none⟩)) _ rfl rfl ?_; clear hS; intro g1 w_ hS; (try simp only [Act.put, Act.eval, z1, z2, z3, z4, z5, z6, z7, z8, Value.cells] at hS)))
 obtain ⟨Y, hY⟩ : ∃ Y : List Fact, Y = .box g1 150 #[.pointer (some ⟨q, 0, none⟩)] :: .own sv 3 1 S.length (ints (natInts S)) :: F0 := ⟨_, rfl⟩
 have hJ0 : TwoJ w0 K Y q n (.slice A L.length c) sv (w_.drew, ⟨none, none, false, false⟩) := by
  rw [hY]
  refine hS.drew.perm ?_
  simp only [Two.F, rowOf, slOf, List.nil_append, List.cons_append]
  exact (List.Perm.swap ..).trans ((List.Perm.swap ..).cons _)
 have HY1 := Lib.hid (show Fact.box g1 150 #[.pointer (some ⟨q, 0, none⟩)] ∈ Y by rw [hY]; simp)
 have HY := Lib.hid hY
 clear hY hS
 have hRr := @TwoR.refl w0 K Y q n (.slice A L.length c) sv
 have hRt := @TwoR.trans w0 K Y q n (.slice A L.length c) sv
 refine wp_region_ghost (fun i__ v w => match i__ with
  | 0 => v = .pointer (some ⟨q, 0, none⟩)
  | 1 => v = .pointer (some ⟨q, 0, none⟩)
  | 2 => v = .pointer (some ⟨q, 0, none⟩)
  | 3 => v = .pointer (some ⟨q, 0, none⟩)
  | 4 => v = .pointer (some ⟨q, 0, none⟩)
  | 5 => v = .int .i64 (n : Nat)
  | 6 => ∃ g, w.2.a = some g ∧ v = .slice (some ⟨g, 0, none⟩) n n
  | 7 => v = .pointer (some ⟨q, 0, none⟩)
  | 8 => v = .pointer (some ⟨q, 0, none⟩)
  | 9 => v = .pointer (some ⟨q, 0, none⟩)
  | 10 => v = .int .i64 (n : Nat)
  | 11 => ∃ g, w.2.b = some g ∧ v = .slice (some ⟨g, 0, none⟩) n n
  | 12 => v = .pointer (some ⟨q, 0, none⟩)
  | 13 => v = .pointer (some ⟨q, 2, none⟩)
  | 14 => w.2.s = true
  | 15 => v = .pointer (some ⟨q, 0, none⟩)
  | 16 => v = .pointer (some ⟨q, 3, none⟩)
  | 17 => w.2.t = true
  | _ => True) (TwoR w0 K Y q n (.slice A L.length c) sv) (fun i p => match i with | 6 => p.2.a = none ∧ p.2.s = false | 11 => p.2.b = none ∧ p.2.t = false | _ => True) (⟨none, none, false, false⟩) (by kernel_rfl) (by kernel_rfl) hRr hRt ?mono ?hN ⟨?r0, ?r1, ?r2, ?r3, ?r4, ?r5, ?r6, ?r7, ?r8, ?r9, ?r10, ?r11, ?r12, ?r13, ?r14, ?r15, ?r16, ?r17, trivial⟩ ?post
 case hN => first | assumption | (intro i; (try dsimp only); split <;> first | trivial | assumption | (left; assumption))
 case mono =>
  intro i v w w' h hb
  match i, h with
  | 0, h | 1, h | 2, h | 3, h | 4, h | 5, h => exact h
  | 6, h => exact ⟨_, hb.2.1 _ h.choose_spec.1, h.choose_spec.2⟩
  | 7, h | 8, h | 9, h | 10, h => exact h
  | 11, h => exact ⟨_, hb.2.2.1 _ h.choose_spec.1, h.choose_spec.2⟩
  | 12, h | 13, h => exact h
  | 14, h => exact hb.2.2.2.1 h
  | 15, h | 16, h => exact h
  | 17, h => exact hb.2.2.2.2 h
  | _ + 18, h => trivial
 case r0 =>
  refine truleGh fun b__ w hW hN hold hpre => wU rfl fun K hK => ?_
  have e1 : b__.eval (.tmp 1) = .pointer (some ⟨g1, 0, none⟩) := (hold 1 (by kernel_rfl)).trans rfl
  exact opw_cell rfl e1 (by kernel_rfl) (((hW.1 hJ0).y HY1.out).cell 0) (hK _ _ rfl ⟨hRr _, fun _ _ h => h⟩)
 case r1 =>
  refine truleGh fun b__ w hW hN hold hpre => wU rfl fun K hK => ?_
  have e1 : b__.eval (.tmp 1) = .pointer (some ⟨g1, 0, none⟩) := (hold 1 (by kernel_rfl)).trans rfl
  exact opw_cell rfl e1 (by kernel_rfl) (((hW.1 hJ0).y HY1.out).cell 0) (hK _ _ rfl ⟨hRr _, fun _ _ h => h⟩)
 case r2 =>
  refine truleGh fun b__ w hW hN hold hpre => wU rfl fun K hK => ?_
  have e1 : b__.eval (.tmp 1) = .pointer (some ⟨g1, 0, none⟩) := (hold 1 (by kernel_rfl)).trans rfl
  exact opw_cell rfl e1 (by kernel_rfl) (((hW.1 hJ0).y HY1.out).cell 0) (hK _ _ rfl ⟨hRr _, fun _ _ h => h⟩)
 case r3 =>
  refine truleGh fun b__ w hW hN hold hpre => wU rfl fun K hK => ?_
  have e12 : b__.eval (.tmp 12) = .pointer (some ⟨q, 0, none⟩) := pq hpre 0 2 12
  exact opw_nil rfl e12 (hK _ _ rfl ⟨hRr _, fun _ _ h => h⟩)
 case r4 =>
  refine truleGh fun b__ w hW hN hold hpre => wU rfl fun K hK => ?_
  have e13 : b__.eval (.tmp 13) = .pointer (some ⟨q, 0, none⟩) := pq hpre 0 3 13
  exact opw_faddr rfl e13 (by kernel_rfl) (hK _ _ rfl ⟨hRr _, fun _ _ h => h⟩)
 case r5 =>
  refine truleGh fun b__ w hW hN hold hpre => wU rfl fun K hK => ?_
  have e14 : b__.eval (.tmp 14) = .pointer (some ⟨q, 0, none⟩) := pq hpre 0 4 14
  exact opw_cell rfl e14 (by kernel_rfl) ((hW.1 hJ0).bq.cell 0) (hK _ _ rfl ⟨hRr _, fun _ _ h => h⟩)
 case r6 =>
  refine truleGh fun b__ w hW hN hold hpre => wU rfl fun K hK => ?_
  have e15 : b__.eval (.tmp 15) = .int .i64 (n : Nat) := pq hpre 0 5 15
  exact opw_mk _ _ _ rfl ty_sets .i64 .i64 n #[.slice none 0 0] e15 e15 (by kernel_rfl) (by omega) (by omega) fun w' ho hb => hK _ (w', { w.2 with a := some w.1.heap.size }) ⟨_, rfl, rfl⟩ ⟨⟨fun hj => hj.mkA hN hb (by rw [← mk_nils]; exact ho), (fun g h => by rw [hN.1] at h; cases h), (fun _ h => h), id, id⟩, fun j hj hn => by split <;> first | exact absurd rfl hj | exact hn | trivial⟩
 case r7 =>
  refine truleGh fun b__ w hW hN hold hpre => wU rfl fun K hK => ?_
  have e1 : b__.eval (.tmp 1) = .pointer (some ⟨g1, 0, none⟩) := (hold 1 (by kernel_rfl)).trans rfl
  exact opw_cell rfl e1 (by kernel_rfl) (((hW.1 hJ0).y HY1.out).cell 0) (hK _ _ rfl ⟨hRr _, fun _ _ h => h⟩)
 case r8 =>
  refine truleGh fun b__ w hW hN hold hpre => wU rfl fun K hK => ?_
  have e17 : b__.eval (.tmp 17) = .pointer (some ⟨q, 0, none⟩) := pq hpre 0 7 17
  exact opw_nil rfl e17 (hK _ _ rfl ⟨hRr _, fun _ _ h => h⟩)
 case r9 =>
  refine truleGh fun b__ w hW hN hold hpre => wU rfl fun K hK => ?_
  have e18 : b__.eval (.tmp 18) = .pointer (some ⟨q, 0, none⟩) := pq hpre 0 8 18
  exact opw_faddr rfl e18 (by kernel_rfl) (hK _ _ rfl ⟨hRr _, fun _ _ h => h⟩)
 case r10 =>
  refine truleGh fun b__ w hW hN hold hpre => wU rfl fun K hK => ?_
  have e19 : b__.eval (.tmp 19) = .pointer (some ⟨q, 0, none⟩) := pq hpre 0 9 19
  exact opw_cell rfl e19 (by kernel_rfl) ((hW.1 hJ0).bq.cell 0) (hK _ _ rfl ⟨hRr _, fun _ _ h => h⟩)
 case r11 =>
  refine truleGh fun b__ w hW hN hold hpre => wU rfl fun K hK => ?_
  have e20 : b__.eval (.tmp 20) = .int .i64 (n : Nat) := pq hpre 0 10 20
  exact opw_mk _ _ _ rfl ty_sets .i64 .i64 n #[.slice none 0 0] e20 e20 (by kernel_rfl) (by omega) (by omega) fun w' ho hb => hK _ (w', { w.2 with b := some w.1.heap.size }) ⟨_, rfl, rfl⟩ ⟨⟨fun hj => hj.mkB hN hb (by rw [← mk_nils]; exact ho), (fun _ h => h), (fun g h => by rw [hN.1] at h; cases h), id, id⟩, fun j hj hn => by split <;> first | exact absurd rfl hj | exact hn | trivial⟩
 case r12 =>
  refine truleGh fun b__ w hW hN hold hpre => wU rfl fun K hK => ?_
  have e10 : b__.eval (.tmp 10) = .pointer (some ⟨q, 0, none⟩) := pq hpre 0 0 10
  exact opw_nil rfl e10 (hK _ _ rfl ⟨hRr _, fun _ _ h => h⟩)
 case r13 =>
  refine truleGh fun b__ w hW hN hold hpre => wU rfl fun K hK => ?_
  have e22 : b__.eval (.tmp 22) = .pointer (some ⟨q, 0, none⟩) := pq hpre 0 12 22
  exact opw_faddr rfl e22 (by kernel_rfl) (hK _ _ rfl ⟨hRr _, fun _ _ h => h⟩)
 case r14 =>
  refine truleGh fun b__ w hW hN hold hpre => wU rfl fun K hK => ?_
  have e23 : b__.eval (.tmp 23) = .pointer (some ⟨q, 2, none⟩) := pq hpre 0 13 23
  have e16 : (fun (v : Value) (w : World × _) => ∃ g, w.2.a = some g ∧ v = .slice (some ⟨g, 0, none⟩) n n) (b__.eval (.tmp 16)) w := hpre ⟨6, _⟩ (Array.mem_of_getElem? (i := 1) rfl) rfl _ _ rfl rfl
  obtain ⟨ga, ha, ev⟩ := e16
  exact opw_cstore rfl e23 ev (hW.1 hJ0).bq (by simp) rfl rfl (by kernel_rfl) fun w' hX hU => hK undef (w', { w.2 with s := true }) rfl ⟨⟨fun hj => hj.stA ha hX hU, (fun _ h => h), (fun _ h => h), (fun _ => rfl), id⟩, fun j hj hn => by split <;> first | (exfalso; rw [hn.1] at ha; cases ha) | exact hn | trivial⟩
 case r15 =>
  refine truleGh fun b__ w hW hN hold hpre => wU rfl fun K hK => ?_
  have e11 : b__.eval (.tmp 11) = .pointer (some ⟨q, 0, none⟩) := pq hpre 0 1 11
  exact opw_nil rfl e11 (hK _ _ rfl ⟨hRr _, fun _ _ h => h⟩)
 case r16 =>
  refine truleGh fun b__ w hW hN hold hpre => wU rfl fun K hK => ?_
  have e24 : b__.eval (.tmp 24) = .pointer (some ⟨q, 0, none⟩) := pq hpre 0 15 24
  exact opw_faddr rfl e24 (by kernel_rfl) (hK _ _ rfl ⟨hRr _, fun _ _ h => h⟩)
 case r17 =>
  refine truleGh fun b__ w hW hN hold hpre => wU rfl fun K hK => ?_
  have e25 : b__.eval (.tmp 25) = .pointer (some ⟨q, 3, none⟩) := pq hpre 0 16 25
  have e21 : (fun (v : Value) (w : World × _) => ∃ g, w.2.b = some g ∧ v = .slice (some ⟨g, 0, none⟩) n n) (b__.eval (.tmp 21)) w := hpre ⟨11, _⟩ (Array.mem_of_getElem? (i := 1) rfl) rfl _ _ rfl rfl
  obtain ⟨ga, ha, ev⟩ := e21
  exact opw_cstore rfl e25 ev (hW.1 hJ0).bq (by simp) rfl rfl (by kernel_rfl) fun w' hX hU => hK undef (w', { w.2 with t := true }) rfl ⟨⟨fun hj => hj.stB ha hX hU, (fun _ h => h), (fun _ h => h), id, (fun _ => rfl)⟩, fun j hj hn => by split <;> first | (exfalso; rw [hn.1] at ha; cases ha) | exact hn | trivial⟩
 case post =>
  intro b__ wz hW hdf hsz hold hT hZ
  have e10 : b__.eval (.tmp 10) = .pointer (some ⟨q, 0, none⟩) := hT 0 _ 10 rfl rfl
  have e11 : b__.eval (.tmp 11) = .pointer (some ⟨q, 0, none⟩) := hT 1 _ 11 rfl rfl
  have e12 : b__.eval (.tmp 12) = .pointer (some ⟨q, 0, none⟩) := hT 2 _ 12 rfl rfl
  have e13 : b__.eval (.tmp 13) = .pointer (some ⟨q, 0, none⟩) := hT 3 _ 13 rfl rfl
  have e14 : b__.eval (.tmp 14) = .pointer (some ⟨q, 0, none⟩) := hT 4 _ 14 rfl rfl
  have e15 : b__.eval (.tmp 15) = .int .i64 (n : Nat) := hT 5 _ 15 rfl rfl
  have e16 : (fun (v : Value) (w : World × _) => ∃ g, w.2.a = some g ∧ v = .slice (some ⟨g, 0, none⟩) n n) (b__.eval (.tmp 16)) wz := hT 6 _ 16 rfl rfl
  have e17 : b__.eval (.tmp 17) = .pointer (some ⟨q, 0, none⟩) := hT 7 _ 17 rfl rfl
  have e18 : b__.eval (.tmp 18) = .pointer (some ⟨q, 0, none⟩) := hT 8 _ 18 rfl rfl
  have e19 : b__.eval (.tmp 19) = .pointer (some ⟨q, 0, none⟩) := hT 9 _ 19 rfl rfl
  have e20 : b__.eval (.tmp 20) = .int .i64 (n : Nat) := hT 10 _ 20 rfl rfl
  have e21 : (fun (v : Value) (w : World × _) => ∃ g, w.2.b = some g ∧ v = .slice (some ⟨g, 0, none⟩) n n) (b__.eval (.tmp 21)) wz := hT 11 _ 21 rfl rfl
  have e22 : b__.eval (.tmp 22) = .pointer (some ⟨q, 0, none⟩) := hT 12 _ 22 rfl rfl
  have e23 : b__.eval (.tmp 23) = .pointer (some ⟨q, 2, none⟩) := hT 13 _ 23 rfl rfl
  have e24 : b__.eval (.tmp 24) = .pointer (some ⟨q, 0, none⟩) := hT 15 _ 24 rfl rfl
  have e25 : b__.eval (.tmp 25) = .pointer (some ⟨q, 3, none⟩) := hT 16 _ 25 rfl rfl
  obtain ⟨vs, hvs, hb⟩ := frame_of hdf hsz hold
  replace e10 : vs 10 = .pointer (some ⟨q, 0, none⟩) := (hvs 10).symm.trans e10
  replace e11 : vs 11 = .pointer (some ⟨q, 0, none⟩) := (hvs 11).symm.trans e11
  replace e12 : vs 12 = .pointer (some ⟨q, 0, none⟩) := (hvs 12).symm.trans e12
  replace e13 : vs 13 = .pointer (some ⟨q, 0, none⟩) := (hvs 13).symm.trans e13
  replace e14 : vs 14 = .pointer (some ⟨q, 0, none⟩) := (hvs 14).symm.trans e14
  replace e15 : vs 15 = .int .i64 (n : Nat) := (hvs 15).symm.trans e15
  replace e16 := (hvs 16) ▸ e16
  replace e17 : vs 17 = .pointer (some ⟨q, 0, none⟩) := (hvs 17).symm.trans e17
  replace e18 : vs 18 = .pointer (some ⟨q, 0, none⟩) := (hvs 18).symm.trans e18
  replace e19 : vs 19 = .pointer (some ⟨q, 0, none⟩) := (hvs 19).symm.trans e19
  replace e20 : vs 20 = .int .i64 (n : Nat) := (hvs 20).symm.trans e20
  replace e21 := (hvs 21) ▸ e21
  replace e22 : vs 22 = .pointer (some ⟨q, 0, none⟩) := (hvs 22).symm.trans e22
  replace e23 : vs 23 = .pointer (some ⟨q, 2, none⟩) := (hvs 23).symm.trans e23
  replace e24 : vs 24 = .pointer (some ⟨q, 0, none⟩) := (hvs 24).symm.trans e24
  replace e25 : vs 25 = .pointer (some ⟨q, 3, none⟩) := (hvs 25).symm.trans e25
  subst hb
  clear hvs hold hT hdf hsz
  simp only [setAll, Act.put, List.setIfInBounds_toArray, List.set_cons_zero, List.set_cons_succ, List.getElem_toArray, List.getElem_cons_succ, List.getElem_cons_zero]
  obtain ⟨g6, ha6, -⟩ := e16
  obtain ⟨g11, ha11, -⟩ := e21
  obtain ⟨_, hs14⟩ := hZ 14 _ rfl rfl
  obtain ⟨_, ht17⟩ := hZ 17 _ rfl rfl
  have hJ := hW.1 hJ0
  obtain ⟨W2, ⟨ta, tb, ts, tt⟩⟩ := wz
  dsimp only at ha6 ha11 hs14 ht17
  subst ha6 ha11 hs14 ht17
  have hS : St w0 W2 (.box q 184 #[.int .i64 (n : Nat), .slice A L.length c, .slice (some ⟨g6, 0, none⟩) n n, .slice (some ⟨g11, 0, none⟩) n n, sv] :: .own (.slice (some ⟨g6, 0, none⟩) n n) 27 1 n (List.replicate n (.slice none 0 0)) :: .own (.slice (some ⟨g11, 0, none⟩) n n) 27 1 n (List.replicate n (.slice none 0 0)) :: .box g1 150 #[.pointer (some ⟨q, 0, none⟩)] :: .own sv 3 1 S.length (ints (natInts S)) :: F0) K := by
   have h : St w0 W2 (Two.F q n (.slice A L.length c) sv ⟨some g6, some g11, true, true⟩ ++ Y) K := hJ
   rw [HY.out] at h; exact h
  clear hJ hJ0 HY HY1 hW hZ hRr hRt
  go_wp2_with (first
   | ((with_reducible refine qK ?_); refine qC hS ?_)
   | ((with_reducible show wpList _ _ _ (⟨_, .makeSlice _ _ _, _, _, _, _⟩ :: _) _ _); refine st_mk hS rfl _ _ _ rfl ty_rows .i64 .i64 n #[.slice none 0 0] rfl rfl (by kernel_rfl) (by omega) (by omega) ?_; clear hS; intro g2 w_ hS))
  rw [mk_nils] at hS
  have hS1 : St w0 w_ (relF q n (.slice A L.length c) sv (.slice (some ⟨g6, 0, none⟩) n n) (.slice (some ⟨g11, 0, none⟩) n n) g1 g2 S ((List.range n).map fun _ => .slice none 0 0) (List.replicate n (.slice none 0 0)) (List.replicate n (.slice none 0 0)) (famF (fun _ => .slice none 0 0) (dirs (L.take 0)) n ++ F0)) K := by
   have e : (List.range n).map (fun _ => Value.slice none 0 0) = List.replicate n (.slice none 0 0) := by apply List.ext_getElem <;> simp
   rw [e, dirs_take, fam_nil]
   refine (hS.nils 3 1 n).perm ?_
   exact List.perm_append_comm_assoc ..
  clear hS
  go_loopw [36] (fun i wr => ∃ (j : Nat) (dv : Nat → Value), j ≤ L.length ∧ i = .int .i64 j ∧ St w0 wr (relF q n (.slice A L.length c) sv (.slice (some ⟨g6, 0, none⟩) n n) (.slice (some ⟨g11, 0, none⟩) n n) g1 g2 S ((List.range n).map dv) (List.replicate n (.slice none 0 0)) (List.replicate n (.slice none 0 0)) (famF dv (dirs (L.take j)) n ++ F0)) K) (fun i _ => L.length - (intOf i).toNat)
  case atStart => exact ⟨0, _, by omega, rfl, hS1⟩
  case round =>
   clear hS1
   obtain ⟨j, dv, hj, rfl, hS⟩ := hrel
   by_cases hlj : j < L.length
   ·obtain ⟨f1, f2⟩ := pcells_at L j hlj
    have HG := Lib.hid (getD_at (0, 0) hlj)
    have hm := HL.out (L.getD j (0, 0)) (by rw [List.getD_eq_getElem?_getD, List.getElem?_eq_getElem hlj]; exact List.getElem_mem hlj)
    generalize L.getD j (0, 0) = x at *
    obtain ⟨xa, xb⟩ := x
    dsimp only at f1 f2 hm
    obtain ⟨ha, hxb⟩ := hm
    have HC := Lib.hid (show dirs (L.take (j + 1)) = fun y => if y = xb then dirs (L.take j) xb ++ [xa] else dirs (L.take j) y from funext fun y => by
     rw [dirs_step HG.out]
     by_cases e : y = xb
     ·subst e; simp
     ·rw [if_neg e, if_neg (fun h => e h.symm)])
    go_wp2_with (first
     | ((with_reducible refine qB ?_); (first | refine q1 ?_ ?_ | refine q2 ?_ ?_ | refine q3 ?_ ?_ | refine q4 ?_ ?_ | refine q5 ?_ ?_ | refine q6 ?_ ?_) <;> intro h_ <;> go_prune)
     | ((with_reducible refine qI ?_); refine qj hS Tryz.underlying32 ?_; intro b_ j_ hc0_ hc1_)
     | ((with_reducible refine qA 4 ?_); refine st_alloc hS rfl _ rfl (by kernel_rfl) ?_; clear hS; intro g4 w_ hS; (try simp only [Act.put, Act.eval, z1, z2, z3, z4, z5, z6, z7, z8, Value.cells] at hS))
     | ((with_reducible refine qM ?_); (first | refine qS hS ?_ | refine qT hS ?_); clear hS; intro w_ hS; (try simp only [Act.put, Act.eval, z1, z2, z3, z4, z5, z6, z7, z8, Value.cells] at hS))
     | ((with_reducible refine qK ?_); refine qC hS ?_))
    have hdl := dirs_le (L.take j) xb
    have hdt : (L.take j).length ≤ 1000000 := by rw [List.length_take]; omega
    replace hS := hS.drew
    refine wp_region_seq [10, 11, 13] (fun i__ v => match i__ with
     | 0 => v = .slice (some ⟨g2, 0, none⟩) n n
     | 1 => v = .pointer (some ⟨g4, 1, none⟩)
     | 2 => v = .int .i64 ((xb : Nat) : Int)
     | 3 => v = .slice (some ⟨g2, 0, none⟩) n n
     | 4 => v = .pointer (some ⟨g4, 1, none⟩)
     | 5 => v = .int .i64 ((xb : Nat) : Int)
     | 6 => v = .pointer (some ⟨g2, 0 + (xb) * 1, none⟩)
     | 7 => v = dv xb
     | 8 => v = .pointer (some ⟨g4, 0, none⟩)
     | 9 => v = .int .i64 ((xa : Nat) : Int)
     | 10 => True
     | 11 => True
     | 12 => v = .pointer (some ⟨g2, 0 + (xb) * 1, none⟩)
     | 13 => True
     | _ => True) (fun vs w => match vs with | [] => St w0 w (.box g4 122 #[.int .i64 ((xa : Nat) : Int), .int .i64 ((xb : Nat) : Int)] :: relF q n (.slice A L.length c) sv (.slice (some ⟨g6, 0, none⟩) n n) (.slice (some ⟨g11, 0, none⟩) n n) g1 g2 S ((List.range n).map dv) (List.replicate n (.slice none 0 0)) (List.replicate n (.slice none 0 0)) (famF dv (dirs (L.take j)) n ++ F0)) K | [v] => St w0 w (.box g4 122 #[.int .i64 ((xa : Nat) : Int), .int .i64 ((xb : Nat) : Int)] :: relF q n (.slice A L.length c) sv (.slice (some ⟨g6, 0, none⟩) n n) (.slice (some ⟨g11, 0, none⟩) n n) g1 g2 S ((List.range n).map dv) (List.replicate n (.slice none 0 0)) (List.replicate n (.slice none 0 0)) (famF dv (dirs (L.take j)) n ++ F0)) (fun D w => K D w ∧ Sl w D 1 v 1 [.int .i64 ((xa : Nat) : Int)]) | [_, u] => St w0 w (.box g4 122 #[.int .i64 ((xa : Nat) : Int), .int .i64 ((xb : Nat) : Int)] :: relF q n (.slice A L.length c) sv (.slice (some ⟨g6, 0, none⟩) n n) (.slice (some ⟨g11, 0, none⟩) n n) g1 g2 S ((List.range n).map dv) (List.replicate n (.slice none 0 0)) (List.replicate n (.slice none 0 0)) (famF (fun k => if k = xb then u else dv k) (dirs (L.take (j + 1))) n ++ F0)) K | [_, u, _] => St w0 w (.box g4 122 #[.int .i64 ((xa : Nat) : Int), .int .i64 ((xb : Nat) : Int)] :: relF q n (.slice A L.length c) sv (.slice (some ⟨g6, 0, none⟩) n n) (.slice (some ⟨g11, 0, none⟩) n n) g1 g2 S ((List.range n).map (fun k => if k = xb then u else dv k)) (List.replicate n (.slice none 0 0)) (List.replicate n (.slice none 0 0)) (famF (fun k => if k = xb then u else dv k) (dirs (L.take (j + 1))) n ++ F0)) K | _ => False) (by kernel_rfl) (by kernel_rfl) (by decide) (by kernel_rfl) (by kernel_rfl) ?start ⟨?r0, ?r1, ?r2, ?r3, ?r4, ?r5, ?r6, ?r7, ?r8, ?r9, ?r10, ?r11, ?r12, ?r13, trivial⟩ ?post
    case start => first | assumption | (dsimp only; assumption)
    case r0 =>
     refine qread rfl fun b__ w vs hS hcov hold hpre heff => ?_
     refine ⟨fun hwant K hK => ?_, fun hwant => ?_⟩
     ·clear hwant
      have e2 : b__.eval (.tmp 2) = .slice (some ⟨g2, 0, none⟩) n n := (hold 2 (by kernel_rfl)).trans rfl
      exact opw_move rfl e2 (hK _ rfl)
     ·rw [want_none rfl] at hwant; cases hwant
    case r1 =>
     refine qread rfl fun b__ w vs hS hcov hold hpre heff => ?_
     have hl1 : vs.length ≤ 2 := hcov 2 13 _ rfl rfl (by kernel_rfl)
     refine ⟨fun hwant K hK => ?_, fun hwant => ?_⟩
     ·clear hwant
      have hl0 : 0 ≤ vs.length ∧ vs.length ≤ 2 := ⟨by omega, by omega⟩
      rcases (by omega : vs.length = 0 ∨ vs.length = 1 ∨ vs.length = 2) with hl | hl | hl
      ·obtain rfl := vs_len0 hl
       have e4 : b__.eval (.tmp 4) = .pointer (some ⟨g4, 0, none⟩) := (hold 4 (by kernel_rfl)).trans rfl
       exact opw_iaddr rfl e4 rfl (by kernel_rfl) (hK _ rfl)
      ·obtain ⟨x0, rfl⟩ := vs_len1 hl
       have e4 : b__.eval (.tmp 4) = .pointer (some ⟨g4, 0, none⟩) := (hold 4 (by kernel_rfl)).trans rfl
       exact opw_iaddr rfl e4 rfl (by kernel_rfl) (hK _ rfl)
      ·obtain ⟨x0, x1, rfl⟩ := vs_len2 hl
       have e4 : b__.eval (.tmp 4) = .pointer (some ⟨g4, 0, none⟩) := (hold 4 (by kernel_rfl)).trans rfl
       exact opw_iaddr rfl e4 rfl (by kernel_rfl) (hK _ rfl)
     ·rw [want_none rfl] at hwant; cases hwant
    case r2 =>
     refine qread rfl fun b__ w vs hS hcov hold hpre heff => ?_
     have hl1 : vs.length ≤ 2 := hcov 2 13 _ rfl rfl (by kernel_rfl)
     refine ⟨fun hwant K hK => ?_, fun hwant => ?_⟩
     ·clear hwant
      have hl0 : 0 ≤ vs.length ∧ vs.length ≤ 2 := ⟨by omega, by omega⟩
      rcases (by omega : vs.length = 0 ∨ vs.length = 1 ∨ vs.length = 2) with hl | hl | hl
      ·obtain rfl := vs_len0 hl
       have e41 : b__.eval (.tmp 41) = .pointer (some ⟨g4, 1, none⟩) := hpre ⟨1, _⟩ (Array.mem_of_getElem? (i := 0) rfl) rfl _ _ rfl rfl rfl
       exact opw_cell rfl e41 (by kernel_rfl) ((St.box hS 0 rfl).cell 1) (hK _ rfl)
      ·obtain ⟨x0, rfl⟩ := vs_len1 hl
       have e41 : b__.eval (.tmp 41) = .pointer (some ⟨g4, 1, none⟩) := hpre ⟨1, _⟩ (Array.mem_of_getElem? (i := 0) rfl) rfl _ _ rfl rfl rfl
       exact opw_cell rfl e41 (by kernel_rfl) ((St.box hS 0 rfl).cell 1) (hK _ rfl)
      ·obtain ⟨x0, x1, rfl⟩ := vs_len2 hl
       have e41 : b__.eval (.tmp 41) = .pointer (some ⟨g4, 1, none⟩) := hpre ⟨1, _⟩ (Array.mem_of_getElem? (i := 0) rfl) rfl _ _ rfl rfl rfl
       exact opw_cell rfl e41 (by kernel_rfl) ((St.box hS 0 rfl).cell 1) (hK _ rfl)
     ·rw [want_none rfl] at hwant; cases hwant
    case r3 =>
     refine qread rfl fun b__ w vs hS hcov hold hpre heff => ?_
     refine ⟨fun hwant K hK => ?_, fun hwant => ?_⟩
     ·clear hwant
      have e2 : b__.eval (.tmp 2) = .slice (some ⟨g2, 0, none⟩) n n := (hold 2 (by kernel_rfl)).trans rfl
      exact opw_move rfl e2 (hK _ rfl)
     ·rw [want_none rfl] at hwant; cases hwant
    case r4 =>
     refine qread rfl fun b__ w vs hS hcov hold hpre heff => ?_
     have hl1 : vs.length ≤ 1 := hcov 1 11 _ rfl rfl (by kernel_rfl)
     refine ⟨fun hwant K hK => ?_, fun hwant => ?_⟩
     ·clear hwant
      have hl0 : 0 ≤ vs.length ∧ vs.length ≤ 1 := ⟨by omega, by omega⟩
      rcases (by omega : vs.length = 0 ∨ vs.length = 1) with hl | hl
      ·obtain rfl := vs_len0 hl
       have e4 : b__.eval (.tmp 4) = .pointer (some ⟨g4, 0, none⟩) := (hold 4 (by kernel_rfl)).trans rfl
       exact opw_iaddr rfl e4 rfl (by kernel_rfl) (hK _ rfl)
      ·obtain ⟨x0, rfl⟩ := vs_len1 hl
       have e4 : b__.eval (.tmp 4) = .pointer (some ⟨g4, 0, none⟩) := (hold 4 (by kernel_rfl)).trans rfl
       exact opw_iaddr rfl e4 rfl (by kernel_rfl) (hK _ rfl)
     ·rw [want_none rfl] at hwant; cases hwant
    case r5 =>
     refine qread rfl fun b__ w vs hS hcov hold hpre heff => ?_
     have hl1 : vs.length ≤ 1 := hcov 1 11 _ rfl rfl (by kernel_rfl)
     refine ⟨fun hwant K hK => ?_, fun hwant => ?_⟩
     ·clear hwant
      have hl0 : 0 ≤ vs.length ∧ vs.length ≤ 1 := ⟨by omega, by omega⟩
      rcases (by omega : vs.length = 0 ∨ vs.length = 1) with hl | hl
      ·obtain rfl := vs_len0 hl
       have e44 : b__.eval (.tmp 44) = .pointer (some ⟨g4, 1, none⟩) := hpre ⟨4, _⟩ (Array.mem_of_getElem? (i := 0) rfl) rfl _ _ rfl rfl rfl
       exact opw_cell rfl e44 (by kernel_rfl) ((St.box hS 0 rfl).cell 1) (hK _ rfl)
      ·obtain ⟨x0, rfl⟩ := vs_len1 hl
       have e44 : b__.eval (.tmp 44) = .pointer (some ⟨g4, 1, none⟩) := hpre ⟨4, _⟩ (Array.mem_of_getElem? (i := 0) rfl) rfl _ _ rfl rfl rfl
       exact opw_cell rfl e44 (by kernel_rfl) ((St.box hS 0 rfl).cell 1) (hK _ rfl)
     ·rw [want_none rfl] at hwant; cases hwant
    case r6 =>
     refine qread rfl fun b__ w vs hS hcov hold hpre heff => ?_
     have hl1 : vs.length ≤ 1 := hcov 1 11 _ rfl rfl (by kernel_rfl)
     refine ⟨fun hwant K hK => ?_, fun hwant => ?_⟩
     ·clear hwant
      have hl0 : 0 ≤ vs.length ∧ vs.length ≤ 1 := ⟨by omega, by omega⟩
      rcases (by omega : vs.length = 0 ∨ vs.length = 1) with hl | hl
      ·obtain rfl := vs_len0 hl
       have e43 : b__.eval (.tmp 43) = .slice (some ⟨g2, 0, none⟩) n n := hpre ⟨3, _⟩ (Array.mem_of_getElem? (i := 0) rfl) rfl _ _ rfl rfl rfl
       have e45 : b__.eval (.tmp 45) = .int .i64 ((xb : Nat) : Int) := hpre ⟨5, _⟩ (Array.mem_of_getElem? (i := 1) rfl) rfl _ _ rfl rfl rfl
       exact opw_iaddr rfl e43 e45 (run_iaddr_lit (m := xb) Tryz.underlying193 (by kernel_rfl) (by omega) (by omega)) (hK _ rfl)
      ·obtain ⟨x0, rfl⟩ := vs_len1 hl
       have e43 : b__.eval (.tmp 43) = .slice (some ⟨g2, 0, none⟩) n n := hpre ⟨3, _⟩ (Array.mem_of_getElem? (i := 0) rfl) rfl _ _ rfl rfl rfl
       have e45 : b__.eval (.tmp 45) = .int .i64 ((xb : Nat) : Int) := hpre ⟨5, _⟩ (Array.mem_of_getElem? (i := 1) rfl) rfl _ _ rfl rfl rfl
       exact opw_iaddr rfl e43 e45 (run_iaddr_lit (m := xb) Tryz.underlying193 (by kernel_rfl) (by omega) (by omega)) (hK _ rfl)
     ·rw [want_none rfl] at hwant; cases hwant
    case r7 =>
     refine qread rfl fun b__ w vs hS hcov hold hpre heff => ?_
     have hl1 : vs.length ≤ 1 := hcov 1 11 _ rfl rfl (by kernel_rfl)
     refine ⟨fun hwant K hK => ?_, fun hwant => ?_⟩
     ·clear hwant
      have hl0 : 0 ≤ vs.length ∧ vs.length ≤ 1 := ⟨by omega, by omega⟩
      rcases (by omega : vs.length = 0 ∨ vs.length = 1) with hl | hl
      ·obtain rfl := vs_len0 hl
       have e46 : b__.eval (.tmp 46) = .pointer (some ⟨g2, 0 + (xb) * 1, none⟩) := hpre ⟨6, _⟩ (Array.mem_of_getElem? (i := 0) rfl) rfl _ _ rfl rfl rfl
       exact opw_cell rfl e46 (by kernel_rfl) (by rw [Nat.zero_add, Nat.mul_one]; exact own_cell (St.own hS 1 rfl) xb _ (dv_at hxb)) (hK _ rfl)
      ·obtain ⟨x0, rfl⟩ := vs_len1 hl
       have e46 : b__.eval (.tmp 46) = .pointer (some ⟨g2, 0 + (xb) * 1, none⟩) := hpre ⟨6, _⟩ (Array.mem_of_getElem? (i := 0) rfl) rfl _ _ rfl rfl rfl
       exact opw_cell rfl e46 (by kernel_rfl) (by rw [Nat.zero_add, Nat.mul_one]; exact own_cell (St.own hS 1 rfl) xb _ (dv_at hxb)) (hK _ rfl)
     ·rw [want_none rfl] at hwant; cases hwant
    case r8 =>
     refine qread rfl fun b__ w vs hS hcov hold hpre heff => ?_
     have hl1 : vs.length ≤ 0 := hcov 0 10 _ rfl rfl (by kernel_rfl)
     refine ⟨fun hwant K hK => ?_, fun hwant => ?_⟩
     ·clear hwant
      have hl0 : 0 ≤ vs.length ∧ vs.length ≤ 0 := ⟨by omega, by omega⟩
      rcases (by omega : vs.length = 0) with hl
      ·obtain rfl := vs_len0 hl
       have e4 : b__.eval (.tmp 4) = .pointer (some ⟨g4, 0, none⟩) := (hold 4 (by kernel_rfl)).trans rfl
       exact opw_iaddr rfl e4 rfl (by kernel_rfl) (hK _ rfl)
     ·rw [want_none rfl] at hwant; cases hwant
    case r9 =>
     refine qread rfl fun b__ w vs hS hcov hold hpre heff => ?_
     have hl1 : vs.length ≤ 0 := hcov 0 10 _ rfl rfl (by kernel_rfl)
     refine ⟨fun hwant K hK => ?_, fun hwant => ?_⟩
     ·clear hwant
      have hl0 : 0 ≤ vs.length ∧ vs.length ≤ 0 := ⟨by omega, by omega⟩
      rcases (by omega : vs.length = 0) with hl
      ·obtain rfl := vs_len0 hl
       have e48 : b__.eval (.tmp 48) = .pointer (some ⟨g4, 0, none⟩) := hpre ⟨8, _⟩ (Array.mem_of_getElem? (i := 0) rfl) rfl _ _ rfl rfl rfl
       exact opw_cell rfl e48 (by kernel_rfl) ((St.box hS 0 rfl).cell 0) (hK _ rfl)
     ·rw [want_none rfl] at hwant; cases hwant
    case r10 =>
     refine qturn 0 rfl (by decide) fun b__ w vs hS hl hold hpre heff => ?_
     obtain rfl := vs_len0 hl
     refine ⟨fun hwant K hK => ?_, fun hwant => ?_⟩
     ·clear hwant
      have e49 : b__.eval (.tmp 49) = .int .i64 ((xa : Nat) : Int) := hpre ⟨9, _⟩ (Array.mem_of_getElem? (i := 0) rfl) rfl _ _ rfl rfl rfl
      exact opw_slice rfl Tryz.underlying48 (ps := [(0, .int .i64 ((xa : Nat) : Int))]) (cells := #[.int .i64 ((xa : Nat) : Int)]) (by simp [e49]) (by kernel_rfl) fun w' hbx hbel => hK _ w' (St.ret hS hbel (stable_sl (by decide)) ((Sl.of_box (n := 1) (size := 1) hbx rfl (by decide)).imp fun b hb _ => Nat.le_of_eq hb.symm))
     ·rw [want_none rfl] at hwant; cases hwant
    case r11 =>
     refine qturn 1 rfl (by decide) fun b__ w vs hS hl hold hpre heff => ?_
     obtain ⟨x0, rfl⟩ := vs_len1 hl
     refine ⟨fun hwant K hK => ?_, fun hwant => ?_⟩
     ·clear hwant
      have e47 : b__.eval (.tmp 47) = dv xb := hpre ⟨7, _⟩ (Array.mem_of_getElem? (i := 0) rfl) rfl _ _ rfl rfl rfl
      have e50 : b__.eval (.tmp 50) = x0 := (heff ⟨10, _⟩ (Array.mem_of_getElem? (i := 1) rfl) rfl 0 _ _ rfl rfl rfl).2
      refine opw_app (n := (dirs (L.take j) xb).length) (m := 1) rfl ty_ints e47 (St.fam (H := [_, _, _, _, _, _, _]) hS hxb) e50 hS.ro.2 (by intro u hu; simp at hu; subst hu; rfl) (by omega) (by omega) hS.size fun v' w4 a1 a2 a3 => ?_
      have h := St.updFam (H := [_, _, _, _, _, _, _]) hS hxb v' (dirs (L.take j) xb ++ [xa]) a2 (by simpa [ints, natInts] using a1) a3
      rw [← HC.out] at h
      exact hK v' w4 (h.mono KS fun _ _ h => h.1)
     ·rw [want_none rfl] at hwant; cases hwant
    case r12 =>
     refine qread rfl fun b__ w vs hS hcov hold hpre heff => ?_
     have hl1 : vs.length ≤ 2 := hcov 2 13 _ rfl rfl (by kernel_rfl)
     refine ⟨fun hwant K hK => ?_, fun hwant => ?_⟩
     ·clear hwant
      have hl0 : 2 ≤ vs.length ∧ vs.length ≤ 2 := ⟨by have := (heff ⟨11, _⟩ (Array.mem_of_getElem? (i := 13) rfl) rfl 1 _ _ rfl rfl rfl).1; omega, by omega⟩
      rcases (by omega : vs.length = 2) with hl
      ·obtain ⟨x0, x1, rfl⟩ := vs_len2 hl
       have e40 : b__.eval (.tmp 40) = .slice (some ⟨g2, 0, none⟩) n n := hpre ⟨0, _⟩ (Array.mem_of_getElem? (i := 0) rfl) rfl _ _ rfl rfl rfl
       have e42 : b__.eval (.tmp 42) = .int .i64 ((xb : Nat) : Int) := hpre ⟨2, _⟩ (Array.mem_of_getElem? (i := 1) rfl) rfl _ _ rfl rfl rfl
       exact opw_iaddr rfl e40 e42 (run_iaddr_lit (m := xb) Tryz.underlying193 (by kernel_rfl) (by omega) (by omega)) (hK _ rfl)
     ·rw [want_none rfl] at hwant; cases hwant
    case r13 =>
     refine qturn 2 rfl (by decide) fun b__ w vs hS hl hold hpre heff => ?_
     obtain ⟨x0, x1, rfl⟩ := vs_len2 hl
     refine ⟨fun hwant K hK => ?_, fun hwant => ?_⟩
     ·clear hwant
      have e52 : b__.eval (.tmp 52) = .pointer (some ⟨g2, 0 + (xb) * 1, none⟩) := hpre ⟨12, _⟩ (Array.mem_of_getElem? (i := 0) rfl) rfl _ _ rfl rfl rfl
      have e51 : b__.eval (.tmp 51) = x1 := (heff ⟨11, _⟩ (Array.mem_of_getElem? (i := 1) rfl) rfl 1 _ _ rfl rfl rfl).2
      obtain ⟨Au, cu, hu, _, _⟩ := own_shp (St.fam (H := [_, _, _, _, _, _, _]) hS hxb)
      rw [if_pos rfl] at hu
      exact opw_ostore rfl (g := g2) (i := xb) (e52.trans (by rw [Nat.zero_add, Nat.mul_one])) e51 (St.own hS 1 rfl) (by omega) (by rw [hu]; rfl) (by rw [hu]; rfl) (by kernel_rfl) fun w4 h1 hU => hK undef w4 (St.upd hS 1 rfl (.own (.slice (some ⟨g2, 0, none⟩) n n) 48 1 n ((List.range n).map fun k => if k = xb then x1 else dv k)) (by simpa [Fact.blk, Value.ownBlock] using upd_gb hU) (by have h2 := h1; rw [dv_set] at h2; exact h2) fun _ e => .inl e)
     ·rw [want_none rfl] at hwant; cases hwant
    case post =>
     intro b__ wz vs hS hl hdf hsz hold hT hE
     obtain ⟨x0, x1, x2, rfl⟩ := vs_len3 hl
     have e40 : b__.eval (.tmp 40) = .slice (some ⟨g2, 0, none⟩) n n := hT 0 _ 40 rfl rfl rfl
     have e41 : b__.eval (.tmp 41) = .pointer (some ⟨g4, 1, none⟩) := hT 1 _ 41 rfl rfl rfl
     have e42 : b__.eval (.tmp 42) = .int .i64 ((xb : Nat) : Int) := hT 2 _ 42 rfl rfl rfl
     have e43 : b__.eval (.tmp 43) = .slice (some ⟨g2, 0, none⟩) n n := hT 3 _ 43 rfl rfl rfl
     have e44 : b__.eval (.tmp 44) = .pointer (some ⟨g4, 1, none⟩) := hT 4 _ 44 rfl rfl rfl
     have e45 : b__.eval (.tmp 45) = .int .i64 ((xb : Nat) : Int) := hT 5 _ 45 rfl rfl rfl
     have e46 : b__.eval (.tmp 46) = .pointer (some ⟨g2, 0 + (xb) * 1, none⟩) := hT 6 _ 46 rfl rfl rfl
     have e47 : b__.eval (.tmp 47) = dv xb := hT 7 _ 47 rfl rfl rfl
     have e48 : b__.eval (.tmp 48) = .pointer (some ⟨g4, 0, none⟩) := hT 8 _ 48 rfl rfl rfl
     have e49 : b__.eval (.tmp 49) = .int .i64 ((xa : Nat) : Int) := hT 9 _ 49 rfl rfl rfl
     have e50 : b__.eval (.tmp 50) = x0 := hE 0 10 _ 50 rfl rfl rfl
     have e51 : b__.eval (.tmp 51) = x1 := hE 1 11 _ 51 rfl rfl rfl
     have e52 : b__.eval (.tmp 52) = .pointer (some ⟨g2, 0 + (xb) * 1, none⟩) := hT 12 _ 52 rfl rfl rfl
     obtain ⟨us, hus, hb⟩ := frame_of hdf hsz hold
     replace e40 : us 40 = .slice (some ⟨g2, 0, none⟩) n n := (hus 40).symm.trans e40
     replace e41 : us 41 = .pointer (some ⟨g4, 1, none⟩) := (hus 41).symm.trans e41
     replace e42 : us 42 = .int .i64 ((xb : Nat) : Int) := (hus 42).symm.trans e42
     replace e43 : us 43 = .slice (some ⟨g2, 0, none⟩) n n := (hus 43).symm.trans e43
     replace e44 : us 44 = .pointer (some ⟨g4, 1, none⟩) := (hus 44).symm.trans e44
     replace e45 : us 45 = .int .i64 ((xb : Nat) : Int) := (hus 45).symm.trans e45
     replace e46 : us 46 = .pointer (some ⟨g2, 0 + (xb) * 1, none⟩) := (hus 46).symm.trans e46
     replace e47 : us 47 = dv xb := (hus 47).symm.trans e47
     replace e48 : us 48 = .pointer (some ⟨g4, 0, none⟩) := (hus 48).symm.trans e48
     replace e49 : us 49 = .int .i64 ((xa : Nat) : Int) := (hus 49).symm.trans e49
     replace e50 : us 50 = x0 := (hus 50).symm.trans e50
     replace e51 : us 51 = x1 := (hus 51).symm.trans e51
     replace e52 : us 52 = .pointer (some ⟨g2, 0 + (xb) * 1, none⟩) := (hus 52).symm.trans e52
     subst hb
     clear hus hold hT hE hdf hsz hl
     simp only [setAll, Act.put, List.setIfInBounds_toArray, List.set_cons_zero, List.set_cons_succ, List.getElem_toArray, List.getElem_cons_succ, List.getElem_cons_zero]
     clear e40 e41 e42 e43 e44 e45 e46 e47 e48 e49 e50 e51 e52
     go_wp2_with fail
     exact ⟨⟨j + 1, _, hlj, by go_num, St.sub hS (.cons _ (.refl _))⟩, by simp [intOf]; omega⟩
   ·obtain rfl : j = L.length := by omega
    rw [List.take_length] at hS
    clear hlj hj
    have HSV := Lib.hid hsv
    subst hsv
    go_wp2_with (first | ((with_reducible refine qB ?_); (first | refine q1 ?_ ?_ | refine q2 ?_ ?_ | refine q3 ?_ ?_ | refine q4 ?_ ?_ | refine q5 ?_ ?_ | refine q6 ?_ ?_) <;> intro h_ <;> go_prune) | ((with_reducible refine qK ?_); refine qC hS ?_))
    have hz : (List.replicate n (Value.slice none 0 0)).length = n := List.length_replicate
    replace hS := hS.add (r := fun D w => SetsX (List.replicate n (.slice none 0 0)) n (fun k => if k ∈ S.take 0 then aboveM n L k else 0) D w ∧ SetsX (List.replicate n (.slice none 0 0)) n (blP n L (S.take 0)) D w) (stable_setsX.and stable_setsX) (D := fun _ => False) ⟨by simpa using SetsX.zero n _ wr, by
     have : blP n L (S.take 0) = fun _ => 0 := funext fun b => by rw [List.take_zero]; exact blP_nil n L b
     rw [this]; exact SetsX.zero n _ wr⟩ fun _ h _ => h.elim
    refine wp_loop_ghost (fun m a w => ∃ i ds xa xb, RelI w0 K F0 q n (.slice A L.length c) (.slice As S.length cs) (.slice (some ⟨g6, 0, none⟩) n n) (.slice (some ⟨g11, 0, none⟩) n n) g1 g2 L S dv m a w i ds xa xb) n ⟨0, [], _, _, ⟨by omega, rfl, rfl, rfl, rfl, rfl, rfl, rfl, hz, hz, by
     have e : F0 ++ marksF [] = F0 := by simp [marksF]
     rw [e]; exact hS⟩⟩ ?_
    clear hS hz
    rintro m ⟨tm, df⟩ wr ⟨i, ds, xa, xb, hI⟩
    obtain ⟨him, hsz, s1, s2, s57, s58, s59, hdf, hxa, hxb, hS⟩ := hI
    dsimp only at hsz s1 s2 s57 s58 s59 hdf
    subst hdf
    have e : tm = #[tm.getD 0 undef, tm.getD 1 undef, tm.getD 2 undef, tm.getD 3 undef, tm.getD 4 undef, tm.getD 5 undef, tm.getD 6 undef, tm.getD 7 undef, tm.getD 8 undef, tm.getD 9 undef, tm.getD 10 undef, tm.getD 11 undef, tm.getD 12 undef, tm.getD 13 undef, tm.getD 14 undef, tm.getD 15 undef, tm.getD 16 undef, tm.getD 17 undef, tm.getD 18 undef, tm.getD 19 undef, tm.getD 20 undef, tm.getD 21 undef, tm.getD 22 undef, tm.getD 23 undef, tm.getD 24 undef, tm.getD 25 undef, tm.getD 26 undef, tm.getD 27 undef, tm.getD 28 undef, tm.getD 29 undef, tm.getD 30 undef, tm.getD 31 undef, tm.getD 32 undef, tm.getD 33 undef, tm.getD 34 undef, tm.getD 35 undef, tm.getD 36 undef, tm.getD 37 undef, tm.getD 38 undef, tm.getD 39 undef, tm.getD 40 undef, tm.getD 41 undef, tm.getD 42 undef, tm.getD 43 undef, tm.getD 44 undef, tm.getD 45 undef, tm.getD 46 undef, tm.getD 47 undef, tm.getD 48 undef, tm.getD 49 undef, tm.getD 50 undef, tm.getD 51 undef, tm.getD 52 undef, tm.getD 53 undef, tm.getD 54 undef, tm.getD 55 undef, tm.getD 56 undef, tm.getD 57 undef, tm.getD 58 undef, tm.getD 59 undef, tm.getD 60 undef, tm.getD 61 undef, tm.getD 62 undef, tm.getD 63 undef, tm.getD 64 undef, tm.getD 65 undef, tm.getD 66 undef, tm.getD 67 undef, tm.getD 68 undef, tm.getD 69 undef, tm.getD 70 undef, tm.getD 71 undef, tm.getD 72 undef, tm.getD 73 undef, tm.getD 74 undef, tm.getD 75 undef, tm.getD 76 undef, tm.getD 77 undef, tm.getD 78 undef, tm.getD 79 undef, tm.getD 80 undef, tm.getD 81 undef, tm.getD 82 undef, tm.getD 83 undef, tm.getD 84 undef, tm.getD 85 undef, tm.getD 86 undef, tm.getD 87 undef, tm.getD 88 undef, tm.getD 89 undef, tm.getD 90 undef, tm.getD 91 undef, tm.getD 92 undef, tm.getD 93 undef, tm.getD 94 undef, tm.getD 95 undef, tm.getD 96 undef, tm.getD 97 undef, tm.getD 98 undef, tm.getD 99 undef, tm.getD 100 undef, tm.getD 101 undef, tm.getD 102 undef, tm.getD 103 undef, tm.getD 104 undef, tm.getD 105 undef, tm.getD 106 undef, tm.getD 107 undef, tm.getD 108 undef, tm.getD 109 undef, tm.getD 110 undef, tm.getD 111 undef, tm.getD 112 undef, tm.getD 113 undef, tm.getD 114 undef, tm.getD 115 undef, tm.getD 116 undef, tm.getD 117 undef, tm.getD 118 undef, tm.getD 119 undef, tm.getD 120 undef] := (lit_of hsz).trans rfl
    obtain ⟨us, hus⟩ : ∃ us : Nat → Value, ∀ k, tm.getD k undef = us k := ⟨_, fun _ => rfl⟩
    rw [s1, s2, s57, s58, s59] at e
    simp only [hus] at e
    clear hus s1 s2 s57 s58 s59 hsz
    subst e
    by_cases hlt : i < S.length
    ·obtain ⟨gs, cas, es, _, _⟩ := own_pos (hS.own 5 rfl) (by omega)
     injection es with es1 es2 es3
     subst es1 es3
     have hbS : S.getD i 0 ∈ S := by rw [List.getD_eq_getElem?_getD, List.getElem?_eq_getElem hlt]; exact List.getElem_mem hlt
     have hb := HSB.out _ hbS
     have HGi := Lib.hid (getD_at 0 hlt)
     have hcell := ints_natA S i hlt
     generalize S.getD i 0 = b at *
     have HCell := Lib.hid hcell
     clear hcell hbS
     obtain ⟨A', c', hdv, _, _⟩ := own_shp (St.fam (H := [_, _, _, _, _, _]) hS hb)
     have HDV := Lib.hid ((dv_at hb).trans (congrArg some hdv))
     have HDV2 := Lib.hid hdv
     clear hdv
     go_wp2_with (first
      | ((with_reducible refine qB ?_); (first | refine q1 ?_ ?_ | refine q2 ?_ ?_ | refine q3 ?_ ?_ | refine q4 ?_ ?_ | refine q5 ?_ ?_ | refine q6 ?_ ?_) <;> intro h_ <;> go_prune)
      | ((with_reducible refine qA 62 ?_); refine BigFrame.wpList_want rfl fun _ hK => opw_cell rfl rfl (by kernel_rfl) (own_cell (hS.own 5 rfl) _ _ (HCell.out)) (hK _ _ ?_))
      | ((with_reducible refine qA 66 ?_); refine BigFrame.wpList_want rfl fun _ hK => opw_cell rfl rfl (by kernel_rfl) (own_cell (hS.own 1 rfl) _ _ (HDV.out)) (hK _ _ ?_))
      | ((with_reducible refine qA 6 ?_); refine st_alloc hS rfl _ rfl (by kernel_rfl) ?_; clear hS; intro g6b w_ hS; (try simp only [Act.put, Act.eval, z1, z2, z3, z4, z5, z6, z7, z8, Value.cells] at hS))
      | ((with_reducible refine qM ?_); (first | refine qS hS ?_ | refine qT hS ?_); clear hS; intro w_ hS; (try simp only [Act.put, Act.eval, z1, z2, z3, z4, z5, z6, z7, z8, Value.cells] at hS))
      | ((with_reducible refine qK ?_); refine qC hS ?_))
     have hbn : b ∉ S.take i := fun h => by
      obtain ⟨j, hj⟩ := List.mem_iff_getElem?.1 h
      rw [List.getElem?_take] at hj
      split at hj
      ·have := nodup_inj HT.out.1 hj HGi.out; omega
      ·cases hj
     have HBN := Lib.hid hbn
     have hS0 : St w0 w_ (.box g6b 3 #[.int .i64 (b : Nat)] :: relF q n (.slice A L.length c) (.slice (some ⟨gs, 0, none⟩) S.length cs) (.slice (some ⟨g6, 0, none⟩) n n) (.slice (some ⟨g11, 0, none⟩) n n) g1 g2 S ((List.range n).map dv) xa xb (famF dv (dirs L) n ++ (F0 ++ marksF ds))) (fun D w => K D w ∧ SetsX xa n (fun k => if k = b then abTo n L b 0 else if k ∈ S.take i then aboveM n L k else 0) D w ∧ SetsX xb n (blP n L (S.take i)) D w) := hS.mono (KS.and (stable_setsX.and stable_setsX)) fun D w h => ⟨h.1, h.2.1.congr fun k _ => by
      by_cases e : k = b
      ·subst e; rw [if_neg HBN.out, if_pos rfl, abTo_zero]
      ·rw [if_neg e], h.2.2⟩
     clear hS hbn
     go_loopw [68] (fun jv wr => ∃ (j : Nat) (xa' : List Value), j ≤ (dirs L b).length ∧ jv = .int .i64 j ∧ Hid (xa'.length = n) ∧ St w0 wr (.box g6b 3 #[.int .i64 (b : Nat)] :: relF q n (.slice A L.length c) (.slice (some ⟨gs, 0, none⟩) S.length cs) (.slice (some ⟨g6, 0, none⟩) n n) (.slice (some ⟨g11, 0, none⟩) n n) g1 g2 S ((List.range n).map dv) xa' xb (famF dv (dirs L) n ++ (F0 ++ marksF ds))) (fun D w => K D w ∧ SetsX xa' n (fun k => if k = b then abTo n L b j else if k ∈ S.take i then aboveM n L k else 0) D w ∧ SetsX xb n (blP n L (S.take i)) D w)) (fun jv _ => (dirs L b).length - (intOf jv).toNat)
     case atStart => exact ⟨0, xa, by omega, rfl, Lib.hid hxa, hS0⟩
     case round =>
      clear hS0
      obtain ⟨j, xa', hj, rfl, HXA, hS⟩ := hrel
      by_cases hlj : j < (dirs L b).length
      ·have ho := St.fam (H := [_, _, _, _, _, _, _]) hS hb
       rw [HDV2.out] at ho
       obtain ⟨gd, cd, ed, _, _⟩ := own_pos ho (by omega)
       injection ed with ed1 ed2 ed3
       subst ed1 ed3
       have HO := Lib.hid ho
       have HYc := Lib.hid (ints_natA (dirs L b) j hlj)
       have HY := Lib.hid (getD_at 0 hlj)
       generalize (dirs L b).getD j 0 = y at *
       have hyL : (y, b) ∈ L := mem_dirs.1 (List.mem_of_getElem? HY.out)
       have hy := (HL.out _ hyL).1
       dsimp only at hy
       have hyS := HT.out.2 i b HGi.out y hyL
       have hyb : y ≠ b := fun e => HBN.out (e ▸ hyS)
       have HST := Lib.hid (show withN (abTo n L b j ||| aboveM n L y) (y : Int) = abTo n L b (j + 1) by
        rw [withN, if_pos (by omega), Int.toNat_natCast]; exact abTo_step HL.out HY.out)
       obtain ⟨ub, hub, -⟩ := hS.ro.2.1 b hb
       obtain ⟨uy, huy, -⟩ := hS.ro.2.1 y hy
       have HU1 : Hid (∀ w, Below wr.heap.size wr w → ∃ D, IsSet w D (.agg #[ub]) (abTo n L b j)) := Lib.hid fun w h => by
        obtain ⟨u, h1, h2⟩ := (hS.ext h).ro.2.1 b hb
        rw [hub] at h1; injection h1 with h1; subst h1
        dsimp only at h2; rw [if_pos rfl] at h2; exact ⟨_, h2⟩
       have HU2 : Hid (∀ w, Below wr.heap.size wr w → ∃ D, IsSet w D (.agg #[uy]) (aboveM n L y)) := Lib.hid fun w h => by
        obtain ⟨u, h1, h2⟩ := (hS.ext h).ro.2.1 y hy
        rw [huy] at h1; injection h1 with h1; subst h1
        dsimp only at h2; rw [if_neg hyb, if_pos hyS] at h2; exact ⟨_, h2⟩
       have HUB := Lib.hid hub
       have HUY := Lib.hid huy
       clear hub huy ho hyL hyS
       go_wp2_with (first
        | ((with_reducible refine qB ?_); (first | refine q1 ?_ ?_ | refine q2 ?_ ?_ | refine q3 ?_ ?_ | refine q4 ?_ ?_ | refine q5 ?_ ?_ | refine q6 ?_ ?_) <;> intro h_ <;> go_prune)
        | ((with_reducible refine qA 71 ?_); refine BigFrame.wpList_want rfl fun _ hK => opw_cell rfl rfl (by kernel_rfl) (own_cell HO.out _ _ HYc.out) (hK _ _ ?_)))
       refine wp_region_tail (fun i__ v w => match i__ with
        | 0 => v = .pointer (some ⟨q, 0, none⟩)
        | 1 => v = .pointer (some ⟨q, 0, none⟩)
        | 2 => v = .pointer (some ⟨q, 2, none⟩)
        | 3 => v = .slice (some ⟨g6, 0, none⟩) n n
        | 4 => v = .int .i64 ((b : Nat) : Int)
        | 5 => v = .pointer (some ⟨q, 0, none⟩)
        | 6 => v = .pointer (some ⟨q, 0, none⟩)
        | 7 => v = .pointer (some ⟨q, 2, none⟩)
        | 8 => v = .slice (some ⟨g6, 0, none⟩) n n
        | 9 => v = .int .i64 ((b : Nat) : Int)
        | 10 => v = .pointer (some ⟨g6, 0 + (b) * 1, none⟩)
        | 11 => v = .agg #[ub]
        | 12 => v = .pointer (some ⟨q, 0, none⟩)
        | 13 => v = .pointer (some ⟨q, 0, none⟩)
        | 14 => v = .pointer (some ⟨q, 2, none⟩)
        | 15 => v = .slice (some ⟨g6, 0, none⟩) n n
        | 16 => v = .int .i64 ((y : Nat) : Int)
        | 17 => v = .pointer (some ⟨g6, 0 + (y) * 1, none⟩)
        | 18 => v = .agg #[uy]
        | 19 => ∃ u, v = .agg #[u] ∧ IsSet w (fun z => wr.heap.size ≤ z) (.agg #[u]) (abTo n L b j ||| aboveM n L y)
        | 20 => v = .int .i64 ((y : Nat) : Int)
        | 21 => ∃ u, v = .agg #[u] ∧ u.oneCell' = true ∧ IsSet w (fun z => wr.heap.size ≤ z) (.agg #[u]) (abTo n L b (j + 1))
        | 22 => v = .pointer (some ⟨g6, 0 + (b) * 1, none⟩)
        | 23 => True
        | _ => True) 23 [] (by kernel_rfl) (by kernel_rfl) (by kernel_rfl) (by kernel_rfl) (by kernel_rfl) ?mono ⟨.inr ?r0, .inr ?r1, .inr ?r2, .inr ?r3, .inr ?r4, .inr ?r5, .inr ?r6, .inr ?r7, .inr ?r8, .inr ?r9, .inr ?r10, .inr ?r11, .inr ?r12, .inr ?r13, .inr ?r14, .inr ?r15, .inr ?r16, .inr ?r17, .inr ?r18, .inr ?r19, .inr ?r20, .inr ?r21, .inr ?r22, .inl (by decide), trivial⟩ ?post
       case mono =>
        intro i v w w' h hb
        match i, h with
        | 0, h | 1, h | 2, h | 3, h | 4, h | 5, h | 6, h | 7, h | 8, h | 9, h | 10, h | 11, h | 12, h | 13, h | 14, h | 15, h | 16, h | 17, h | 18, h => exact h
        | 19, h => exact ⟨_, h.choose_spec.1, h.choose_spec.2.ext hb⟩
        | 20, h => exact h
        | 21, h => exact ⟨_, h.choose_spec.1, h.choose_spec.2.1, h.choose_spec.2.2.ext hb⟩
        | 22, h | 23, h => exact h
        | _ + 24, h => trivial
       case r0 =>
        refine trule fun b__ w hW hold hpre => wU rfl fun K hK => ?_
        have e1 : b__.eval (.tmp 1) = .pointer (some ⟨g1, 0, none⟩) := (hold 1 (by kernel_rfl)).trans rfl
        exact opw_cell rfl e1 (by kernel_rfl) (((hS.ext (undrew hW)).box 5 rfl).cell 0) (hK _ _ rfl (Below.refl _ _))
       case r1 =>
        refine trule fun b__ w hW hold hpre => wU rfl fun K hK => ?_
        have e72 : b__.eval (.tmp 72) = .pointer (some ⟨q, 0, none⟩) := pq hpre 0 0 72
        exact opw_nil rfl e72 (hK _ _ rfl (Below.refl _ _))
       case r2 =>
        refine trule fun b__ w hW hold hpre => wU rfl fun K hK => ?_
        have e73 : b__.eval (.tmp 73) = .pointer (some ⟨q, 0, none⟩) := pq hpre 0 1 73
        exact opw_faddr rfl e73 (by kernel_rfl) (hK _ _ rfl (Below.refl _ _))
       case r3 =>
        refine trule fun b__ w hW hold hpre => wU rfl fun K hK => ?_
        have e74 : b__.eval (.tmp 74) = .pointer (some ⟨q, 2, none⟩) := pq hpre 0 2 74
        exact opw_cell rfl e74 (by kernel_rfl) (((hS.ext (undrew hW)).box 2 rfl).cell 2) (hK _ _ rfl (Below.refl _ _))
       case r4 =>
        refine trule fun b__ w hW hold hpre => wU rfl fun K hK => ?_
        have e6 : b__.eval (.tmp 6) = .pointer (some ⟨g6b, 0, none⟩) := (hold 6 (by kernel_rfl)).trans rfl
        exact opw_cell rfl e6 (by kernel_rfl) (((hS.ext (undrew hW)).box 0 rfl).cell 0) (hK _ _ rfl (Below.refl _ _))
       case r5 =>
        refine trule fun b__ w hW hold hpre => wU rfl fun K hK => ?_
        have e1 : b__.eval (.tmp 1) = .pointer (some ⟨g1, 0, none⟩) := (hold 1 (by kernel_rfl)).trans rfl
        exact opw_cell rfl e1 (by kernel_rfl) (((hS.ext (undrew hW)).box 5 rfl).cell 0) (hK _ _ rfl (Below.refl _ _))
       case r6 =>
        refine trule fun b__ w hW hold hpre => wU rfl fun K hK => ?_
        have e77 : b__.eval (.tmp 77) = .pointer (some ⟨q, 0, none⟩) := pq hpre 0 5 77
        exact opw_nil rfl e77 (hK _ _ rfl (Below.refl _ _))
       case r7 =>
        refine trule fun b__ w hW hold hpre => wU rfl fun K hK => ?_
        have e78 : b__.eval (.tmp 78) = .pointer (some ⟨q, 0, none⟩) := pq hpre 0 6 78
        exact opw_faddr rfl e78 (by kernel_rfl) (hK _ _ rfl (Below.refl _ _))
       case r8 =>
        refine trule fun b__ w hW hold hpre => wU rfl fun K hK => ?_
        have e79 : b__.eval (.tmp 79) = .pointer (some ⟨q, 2, none⟩) := pq hpre 0 7 79
        exact opw_cell rfl e79 (by kernel_rfl) (((hS.ext (undrew hW)).box 2 rfl).cell 2) (hK _ _ rfl (Below.refl _ _))
       case r9 =>
        refine trule fun b__ w hW hold hpre => wU rfl fun K hK => ?_
        have e6 : b__.eval (.tmp 6) = .pointer (some ⟨g6b, 0, none⟩) := (hold 6 (by kernel_rfl)).trans rfl
        exact opw_cell rfl e6 (by kernel_rfl) (((hS.ext (undrew hW)).box 0 rfl).cell 0) (hK _ _ rfl (Below.refl _ _))
       case r10 =>
        refine trule fun b__ w hW hold hpre => wU rfl fun K hK => ?_
        have e80 : b__.eval (.tmp 80) = .slice (some ⟨g6, 0, none⟩) n n := pq hpre 0 8 80
        have e81 : b__.eval (.tmp 81) = .int .i64 ((b : Nat) : Int) := pq hpre 1 9 81
        exact opw_iaddr rfl e80 e81 (run_iaddr_lit (m := b) Tryz.underlying182 (by kernel_rfl) (by omega) (by omega)) (hK _ _ rfl (Below.refl _ _))
       case r11 =>
        refine trule fun b__ w hW hold hpre => wU rfl fun K hK => ?_
        have e82 : b__.eval (.tmp 82) = .pointer (some ⟨g6, 0 + (b) * 1, none⟩) := pq hpre 0 10 82
        exact opw_oload1 rfl (e82.trans (by rw [Nat.zero_add, Nat.mul_one])) ((hS.ext (undrew hW)).own 3 rfl) HUB.out Tryz.underlying27 rfl (by kernel_rfl) (hK _ _ rfl (Below.refl _ _))
       case r12 =>
        refine trule fun b__ w hW hold hpre => wU rfl fun K hK => ?_
        have e1 : b__.eval (.tmp 1) = .pointer (some ⟨g1, 0, none⟩) := (hold 1 (by kernel_rfl)).trans rfl
        exact opw_cell rfl e1 (by kernel_rfl) (((hS.ext (undrew hW)).box 5 rfl).cell 0) (hK _ _ rfl (Below.refl _ _))
       case r13 =>
        refine trule fun b__ w hW hold hpre => wU rfl fun K hK => ?_
        have e84 : b__.eval (.tmp 84) = .pointer (some ⟨q, 0, none⟩) := pq hpre 0 12 84
        exact opw_nil rfl e84 (hK _ _ rfl (Below.refl _ _))
       case r14 =>
        refine trule fun b__ w hW hold hpre => wU rfl fun K hK => ?_
        have e85 : b__.eval (.tmp 85) = .pointer (some ⟨q, 0, none⟩) := pq hpre 0 13 85
        exact opw_faddr rfl e85 (by kernel_rfl) (hK _ _ rfl (Below.refl _ _))
       case r15 =>
        refine trule fun b__ w hW hold hpre => wU rfl fun K hK => ?_
        have e86 : b__.eval (.tmp 86) = .pointer (some ⟨q, 2, none⟩) := pq hpre 0 14 86
        exact opw_cell rfl e86 (by kernel_rfl) (((hS.ext (undrew hW)).box 2 rfl).cell 2) (hK _ _ rfl (Below.refl _ _))
       case r16 =>
        refine trule fun b__ w hW hold hpre => wU rfl fun K hK => ?_
        have e8 : b__.eval (.tmp 8) = .int .i64 ((y : Nat) : Int) := (hold 8 (by kernel_rfl)).trans rfl
        exact opw_move rfl e8 (hK _ _ rfl (Below.refl _ _))
       case r17 =>
        refine trule fun b__ w hW hold hpre => wU rfl fun K hK => ?_
        have e87 : b__.eval (.tmp 87) = .slice (some ⟨g6, 0, none⟩) n n := pq hpre 0 15 87
        have e88 : b__.eval (.tmp 88) = .int .i64 ((y : Nat) : Int) := pq hpre 1 16 88
        exact opw_iaddr rfl e87 e88 (run_iaddr_lit (m := y) Tryz.underlying182 (by kernel_rfl) (by omega) (by omega)) (hK _ _ rfl (Below.refl _ _))
       case r18 =>
        refine trule fun b__ w hW hold hpre => wU rfl fun K hK => ?_
        have e89 : b__.eval (.tmp 89) = .pointer (some ⟨g6, 0 + (y) * 1, none⟩) := pq hpre 0 17 89
        exact opw_oload1 rfl (e89.trans (by rw [Nat.zero_add, Nat.mul_one])) ((hS.ext (undrew hW)).own 3 rfl) HUY.out Tryz.underlying27 rfl (by kernel_rfl) (hK _ _ rfl (Below.refl _ _))
       case r19 =>
        refine trule fun b__ w hW hold hpre => wU rfl fun K hK => ?_
        have e83 : b__.eval (.tmp 83) = .agg #[ub] := pq hpre 0 11 83
        have e90 : b__.eval (.tmp 90) = .agg #[uy] := pq hpre 1 18 90
        obtain ⟨D1, hd1⟩ := HU1.out w (undrew hW)
        obtain ⟨D2, hd2⟩ := HU2.out w (undrew hW)
        refine opw_call rfl (by kernel_rfl) (by simp [e83, e90]) (or_any (.agg #[ub]) (.agg #[uy]) _ _ w _ _ hd1 hd2) fun v w' h hb => ?_
        obtain ⟨u, rfl, _⟩ := set_one h
        exact hK _ w' ⟨u, rfl, h.imp fun z hz _ => Nat.le_trans (undrew hW).size hz⟩ hb
       case r20 =>
        refine trule fun b__ w hW hold hpre => wU rfl fun K hK => ?_
        have e8 : b__.eval (.tmp 8) = .int .i64 ((y : Nat) : Int) := (hold 8 (by kernel_rfl)).trans rfl
        exact opw_move rfl e8 (hK _ _ rfl (Below.refl _ _))
       case r21 =>
        refine trule fun b__ w hW hold hpre => wU rfl fun K hK => ?_
        have e91 : (fun (v : Value) (w : World) => ∃ u, v = .agg #[u] ∧ IsSet w (fun z => wr.heap.size ≤ z) (.agg #[u]) (abTo n L b j ||| aboveM n L y)) (b__.eval (.tmp 91)) w := hpre ⟨19, _⟩ (Array.mem_of_getElem? (i := 0) rfl) rfl _ _ rfl rfl
        have e92 : b__.eval (.tmp 92) = .int .i64 ((y : Nat) : Int) := pq hpre 1 20 92
        obtain ⟨uo, ho, hso⟩ := e91
        refine opw_call rfl (by kernel_rfl) (by simp only [List.map_cons, List.map_nil, ho, e92]) (with_any (.agg #[uo]) _ (y : Int) w _ hso) fun v w' h hb => ?_
        rw [HST.out] at h
        obtain ⟨u, rfl, h1⟩ := set_one h
        exact hK _ w' ⟨u, rfl, h1, h.imp fun z hz _ => hz.elim id fun hz => Nat.le_trans (undrew hW).size hz⟩ hb
       case r22 =>
        refine trule fun b__ w hW hold hpre => wU rfl fun K hK => ?_
        have e75 : b__.eval (.tmp 75) = .slice (some ⟨g6, 0, none⟩) n n := pq hpre 0 3 75
        have e76 : b__.eval (.tmp 76) = .int .i64 ((b : Nat) : Int) := pq hpre 1 4 76
        exact opw_iaddr rfl e75 e76 (run_iaddr_lit (m := b) Tryz.underlying182 (by kernel_rfl) (by omega) (by omega)) (hK _ _ rfl (Below.refl _ _))
       case post =>
        intro b__ wz hW hdf hsz hold hT
        have e94 : b__.eval (.tmp 94) = .pointer (some ⟨g6, 0 + (b) * 1, none⟩) := hT 22 _ 94 (by decide) rfl rfl
        have e93 : (fun (v : Value) (w : World) => ∃ u, v = .agg #[u] ∧ u.oneCell' = true ∧ IsSet w (fun z => wr.heap.size ≤ z) (.agg #[u]) (abTo n L b (j + 1))) (b__.eval (.tmp 93)) wz := hT 21 _ 93 (by decide) rfl rfl
        have e72 : b__.eval (.tmp 72) = .pointer (some ⟨q, 0, none⟩) := hT 0 _ 72 (by decide) rfl rfl
        have e73 : b__.eval (.tmp 73) = .pointer (some ⟨q, 0, none⟩) := hT 1 _ 73 (by decide) rfl rfl
        have e74 : b__.eval (.tmp 74) = .pointer (some ⟨q, 2, none⟩) := hT 2 _ 74 (by decide) rfl rfl
        have e75 : b__.eval (.tmp 75) = .slice (some ⟨g6, 0, none⟩) n n := hT 3 _ 75 (by decide) rfl rfl
        have e76 : b__.eval (.tmp 76) = .int .i64 ((b : Nat) : Int) := hT 4 _ 76 (by decide) rfl rfl
        have e77 : b__.eval (.tmp 77) = .pointer (some ⟨q, 0, none⟩) := hT 5 _ 77 (by decide) rfl rfl
        have e78 : b__.eval (.tmp 78) = .pointer (some ⟨q, 0, none⟩) := hT 6 _ 78 (by decide) rfl rfl
        have e79 : b__.eval (.tmp 79) = .pointer (some ⟨q, 2, none⟩) := hT 7 _ 79 (by decide) rfl rfl
        have e80 : b__.eval (.tmp 80) = .slice (some ⟨g6, 0, none⟩) n n := hT 8 _ 80 (by decide) rfl rfl
        have e81 : b__.eval (.tmp 81) = .int .i64 ((b : Nat) : Int) := hT 9 _ 81 (by decide) rfl rfl
        have e82 : b__.eval (.tmp 82) = .pointer (some ⟨g6, 0 + (b) * 1, none⟩) := hT 10 _ 82 (by decide) rfl rfl
        have e83 : b__.eval (.tmp 83) = .agg #[ub] := hT 11 _ 83 (by decide) rfl rfl
        have e84 : b__.eval (.tmp 84) = .pointer (some ⟨q, 0, none⟩) := hT 12 _ 84 (by decide) rfl rfl
        have e85 : b__.eval (.tmp 85) = .pointer (some ⟨q, 0, none⟩) := hT 13 _ 85 (by decide) rfl rfl
        have e86 : b__.eval (.tmp 86) = .pointer (some ⟨q, 2, none⟩) := hT 14 _ 86 (by decide) rfl rfl
        have e87 : b__.eval (.tmp 87) = .slice (some ⟨g6, 0, none⟩) n n := hT 15 _ 87 (by decide) rfl rfl
        have e88 : b__.eval (.tmp 88) = .int .i64 ((y : Nat) : Int) := hT 16 _ 88 (by decide) rfl rfl
        have e89 : b__.eval (.tmp 89) = .pointer (some ⟨g6, 0 + (y) * 1, none⟩) := hT 17 _ 89 (by decide) rfl rfl
        have e90 : b__.eval (.tmp 90) = .agg #[uy] := hT 18 _ 90 (by decide) rfl rfl
        have e91 : (fun (v : Value) (w : World) => ∃ u, v = .agg #[u] ∧ IsSet w (fun z => wr.heap.size ≤ z) (.agg #[u]) (abTo n L b j ||| aboveM n L y)) (b__.eval (.tmp 91)) wz := hT 19 _ 91 (by decide) rfl rfl
        have e92 : b__.eval (.tmp 92) = .int .i64 ((y : Nat) : Int) := hT 20 _ 92 (by decide) rfl rfl
        obtain ⟨vs, hvs, hb⟩ := frame_of hdf hsz hold
        replace e94 : vs 94 = .pointer (some ⟨g6, 0 + (b) * 1, none⟩) := (hvs 94).symm.trans e94
        replace e93 := (hvs 93) ▸ e93
        replace e72 : vs 72 = .pointer (some ⟨q, 0, none⟩) := (hvs 72).symm.trans e72
        replace e73 : vs 73 = .pointer (some ⟨q, 0, none⟩) := (hvs 73).symm.trans e73
        replace e74 : vs 74 = .pointer (some ⟨q, 2, none⟩) := (hvs 74).symm.trans e74
        replace e75 : vs 75 = .slice (some ⟨g6, 0, none⟩) n n := (hvs 75).symm.trans e75
        replace e76 : vs 76 = .int .i64 ((b : Nat) : Int) := (hvs 76).symm.trans e76
        replace e77 : vs 77 = .pointer (some ⟨q, 0, none⟩) := (hvs 77).symm.trans e77
        replace e78 : vs 78 = .pointer (some ⟨q, 0, none⟩) := (hvs 78).symm.trans e78
        replace e79 : vs 79 = .pointer (some ⟨q, 2, none⟩) := (hvs 79).symm.trans e79
        replace e80 : vs 80 = .slice (some ⟨g6, 0, none⟩) n n := (hvs 80).symm.trans e80
        replace e81 : vs 81 = .int .i64 ((b : Nat) : Int) := (hvs 81).symm.trans e81
        replace e82 : vs 82 = .pointer (some ⟨g6, 0 + (b) * 1, none⟩) := (hvs 82).symm.trans e82
        replace e83 : vs 83 = .agg #[ub] := (hvs 83).symm.trans e83
        replace e84 : vs 84 = .pointer (some ⟨q, 0, none⟩) := (hvs 84).symm.trans e84
        replace e85 : vs 85 = .pointer (some ⟨q, 0, none⟩) := (hvs 85).symm.trans e85
        replace e86 : vs 86 = .pointer (some ⟨q, 2, none⟩) := (hvs 86).symm.trans e86
        replace e87 : vs 87 = .slice (some ⟨g6, 0, none⟩) n n := (hvs 87).symm.trans e87
        replace e88 : vs 88 = .int .i64 ((y : Nat) : Int) := (hvs 88).symm.trans e88
        replace e89 : vs 89 = .pointer (some ⟨g6, 0 + (y) * 1, none⟩) := (hvs 89).symm.trans e89
        replace e90 : vs 90 = .agg #[uy] := (hvs 90).symm.trans e90
        replace e91 := (hvs 91) ▸ e91
        replace e92 : vs 92 = .int .i64 ((y : Nat) : Int) := (hvs 92).symm.trans e92
        subst hb
        clear hvs hold hT hdf hsz
        simp only [setAll, Act.put, List.setIfInBounds_toArray, List.set_cons_zero, List.set_cons_succ, List.getElem_toArray, List.getElem_cons_succ, List.getElem_cons_zero]
        (intro o_ ho_; simp only [List.getElem?_toArray, List.getElem?_cons_succ, List.getElem?_cons_zero, Option.some.injEq] at ho_; subst ho_)
        obtain ⟨un, e93, hu1, hun⟩ := e93
        have hS1 := hS.ret hW (stable_set (v := .agg #[un]) (N := abTo n L b (j + 1))) hun
        refine opw_ostore1 rfl (e94.trans (by rw [Nat.zero_add, Nat.mul_one])) e93 (hS1.own 3 rfl) (by omega) hu1 (by kernel_rfl) fun w4 h1 hU => ?_
        replace hS := (hS1.upd 3 rfl (.own (.slice (some ⟨g6, 0, none⟩) n n) 27 1 n (xa'.set b un)) (by simpa [Fact.blk, Value.ownBlock] using upd_gb hU) h1 fun _ e => .inl e)
        clear hS1
        simp only [TailWp]
        simp only [Act.put, List.setIfInBounds_toArray, List.set_cons_zero, List.set_cons_succ]
        clear e93 e94 h1 hU hW hun
        go_wp2_with fail
        refine ⟨⟨j + 1, xa'.set b un, hlj, by go_num, Lib.hid (by rw [List.length_set]; exact HXA.out), ?_⟩, by simp [intOf]; omega⟩
        refine hS.mono (KS.and (stable_setsX.and stable_setsX)) fun D w h => ⟨h.1.1, (h.1.2.1.set HXA.out h.2).congr fun k _ => ?_, h.1.2.2⟩
        by_cases e : k = b
        ·simp [e]
        ·simp [e]
      ·obtain rfl : j = (dirs L b).length := by omega
       have HTK := Lib.hid (show S.take (i + 1) = S.take i ++ [b] by rw [List.take_add_one, HGi.out]; rfl)
       obtain ⟨ub, hub, hset⟩ := hS.ro.2.1 b hb
       dsimp only at hset
       rw [if_pos rfl, abTo_full] at hset
       obtain ⟨A1, c1, ws, hube, hcn, hvN, _, _, hsl⟩ := hset.parts
       injection hube with hube
       injection hube with hube
       injection hube with hube
       subst hube
       have HUB := Lib.hid hub
       have HSL := Lib.hid hsl
       have HCN := Lib.hid hcn
       have HVN := Lib.hid hvN
       have HAll : Hid (∀ w, Below wr.heap.size wr w → Calls Tryz.prog 73 #[.agg #[.slice A1 ws.length c1]] w (Ret (fun x w' => ∃ Bs, x = .func (.func 115) #[] #[.pointer (some ⟨Bs, 0, none⟩)] ∧ w.heap.size ≤ Bs ∧ Box w' Bs 27 #[.slice A1 ws.length c1]) w)) := Lib.hid fun w hw => by
        obtain ⟨u, h1, h2⟩ := (hS.ext hw).ro.2.1 b hb
        rw [HUB.out] at h1; injection h1 with h1; subst h1
        refine (sall_any _ _ _ w h2).mono ?_
        rintro e w' ⟨v, rfl, ⟨Bs, A2, c2, ws2, rfl, e1, _, _, _, hBs, hX⟩, hb2⟩
        injection e1 with e1
        rw [← e1] at hX
        exact ⟨_, rfl, ⟨Bs, rfl, hBs, hX⟩, hb2⟩
       clear hub hset hsl hcn hvN hlj hj
       go_wp2_with (first | ((with_reducible refine qB ?_); (first | refine q1 ?_ ?_ | refine q2 ?_ ?_ | refine q3 ?_ ?_ | refine q4 ?_ ?_ | refine q5 ?_ ?_ | refine q6 ?_ ?_) <;> intro h_ <;> go_prune))
       refine wp_region_typed (fun i__ v w => match i__ with
        | 0 => v = .pointer (some ⟨q, 0, none⟩)
        | 1 => v = .pointer (some ⟨q, 0, none⟩)
        | 2 => v = .pointer (some ⟨q, 2, none⟩)
        | 3 => v = .slice (some ⟨g6, 0, none⟩) n n
        | 4 => v = .int .i64 ((b : Nat) : Int)
        | 5 => v = .pointer (some ⟨g6, 0 + (b) * 1, none⟩)
        | 6 => v = .agg #[.slice A1 ws.length c1]
        | 7 => ∃ Bs, v = .func (.func 115) #[] #[.pointer (some ⟨Bs, 0, none⟩)] ∧ wr.heap.size ≤ Bs ∧ Box w Bs 27 #[.slice A1 ws.length c1]
        | _ => True) (by kernel_rfl) (by kernel_rfl) ?mono ⟨?r0, ?r1, ?r2, ?r3, ?r4, ?r5, ?r6, ?r7, trivial⟩ ?post
       case mono =>
        intro i v w w' h hb
        match i, h with
        | 0, h | 1, h | 2, h | 3, h | 4, h | 5, h | 6, h => exact h
        | 7, h => exact ⟨_, h.choose_spec.1, h.choose_spec.2.1, h.choose_spec.2.2.ext hb⟩
        | _ + 8, h => trivial
       case r0 =>
        refine trule fun b__ w hW hold hpre => wU rfl fun K hK => ?_
        have e1 : b__.eval (.tmp 1) = .pointer (some ⟨g1, 0, none⟩) := (hold 1 (by kernel_rfl)).trans rfl
        exact opw_cell rfl e1 (by kernel_rfl) (((hS.ext (undrew hW)).box 5 rfl).cell 0) (hK _ _ rfl (Below.refl _ _))
       case r1 =>
        refine trule fun b__ w hW hold hpre => wU rfl fun K hK => ?_
        have e96 : b__.eval (.tmp 96) = .pointer (some ⟨q, 0, none⟩) := pq hpre 0 0 96
        exact opw_nil rfl e96 (hK _ _ rfl (Below.refl _ _))
       case r2 =>
        refine trule fun b__ w hW hold hpre => wU rfl fun K hK => ?_
        have e97 : b__.eval (.tmp 97) = .pointer (some ⟨q, 0, none⟩) := pq hpre 0 1 97
        exact opw_faddr rfl e97 (by kernel_rfl) (hK _ _ rfl (Below.refl _ _))
       case r3 =>
        refine trule fun b__ w hW hold hpre => wU rfl fun K hK => ?_
        have e98 : b__.eval (.tmp 98) = .pointer (some ⟨q, 2, none⟩) := pq hpre 0 2 98
        exact opw_cell rfl e98 (by kernel_rfl) (((hS.ext (undrew hW)).box 2 rfl).cell 2) (hK _ _ rfl (Below.refl _ _))
       case r4 =>
        refine trule fun b__ w hW hold hpre => wU rfl fun K hK => ?_
        have e6 : b__.eval (.tmp 6) = .pointer (some ⟨g6b, 0, none⟩) := (hold 6 (by kernel_rfl)).trans rfl
        exact opw_cell rfl e6 (by kernel_rfl) (((hS.ext (undrew hW)).box 0 rfl).cell 0) (hK _ _ rfl (Below.refl _ _))
       case r5 =>
        refine trule fun b__ w hW hold hpre => wU rfl fun K hK => ?_
        have e99 : b__.eval (.tmp 99) = .slice (some ⟨g6, 0, none⟩) n n := pq hpre 0 3 99
        have e100 : b__.eval (.tmp 100) = .int .i64 ((b : Nat) : Int) := pq hpre 1 4 100
        exact opw_iaddr rfl e99 e100 (run_iaddr_lit (m := b) Tryz.underlying182 (by kernel_rfl) (by omega) (by omega)) (hK _ _ rfl (Below.refl _ _))
       case r6 =>
        refine trule fun b__ w hW hold hpre => wU rfl fun K hK => ?_
        have e101 : b__.eval (.tmp 101) = .pointer (some ⟨g6, 0 + (b) * 1, none⟩) := pq hpre 0 5 101
        exact opw_oload1 rfl (e101.trans (by rw [Nat.zero_add, Nat.mul_one])) ((hS.ext (undrew hW)).own 3 rfl) HUB.out Tryz.underlying27 rfl (by kernel_rfl) (hK _ _ rfl (Below.refl _ _))
       case r7 =>
        refine trule fun b__ w hW hold hpre => wU rfl fun K hK => ?_
        have e102 : b__.eval (.tmp 102) = .agg #[.slice A1 ws.length c1] := pq hpre 0 6 102
        refine opw_call rfl (by kernel_rfl) (by simp [e102]) (HAll.out w (undrew hW)) fun v w' h hb => ?_
        obtain ⟨Bs, h1, h2, h3⟩ := h
        exact hK v w' ⟨Bs, h1, Nat.le_trans (undrew hW).size h2, h3⟩ hb
       case post =>
        intro b__ wz hW hdf hsz hold hT
        have e96 : b__.eval (.tmp 96) = .pointer (some ⟨q, 0, none⟩) := hT 0 _ 96 rfl rfl
        have e97 : b__.eval (.tmp 97) = .pointer (some ⟨q, 0, none⟩) := hT 1 _ 97 rfl rfl
        have e98 : b__.eval (.tmp 98) = .pointer (some ⟨q, 2, none⟩) := hT 2 _ 98 rfl rfl
        have e99 : b__.eval (.tmp 99) = .slice (some ⟨g6, 0, none⟩) n n := hT 3 _ 99 rfl rfl
        have e100 : b__.eval (.tmp 100) = .int .i64 ((b : Nat) : Int) := hT 4 _ 100 rfl rfl
        have e101 : b__.eval (.tmp 101) = .pointer (some ⟨g6, 0 + (b) * 1, none⟩) := hT 5 _ 101 rfl rfl
        have e102 : b__.eval (.tmp 102) = .agg #[.slice A1 ws.length c1] := hT 6 _ 102 rfl rfl
        have e103 : (fun (v : Value) (w : World) => ∃ Bs, v = .func (.func 115) #[] #[.pointer (some ⟨Bs, 0, none⟩)] ∧ wr.heap.size ≤ Bs ∧ Box w Bs 27 #[.slice A1 ws.length c1]) (b__.eval (.tmp 103)) wz := hT 7 _ 103 rfl rfl
        obtain ⟨vs, hvs, hb⟩ := frame_of hdf hsz hold
        replace e96 : vs 96 = .pointer (some ⟨q, 0, none⟩) := (hvs 96).symm.trans e96
        replace e97 : vs 97 = .pointer (some ⟨q, 0, none⟩) := (hvs 97).symm.trans e97
        replace e98 : vs 98 = .pointer (some ⟨q, 2, none⟩) := (hvs 98).symm.trans e98
        replace e99 : vs 99 = .slice (some ⟨g6, 0, none⟩) n n := (hvs 99).symm.trans e99
        replace e100 : vs 100 = .int .i64 ((b : Nat) : Int) := (hvs 100).symm.trans e100
        replace e101 : vs 101 = .pointer (some ⟨g6, 0 + (b) * 1, none⟩) := (hvs 101).symm.trans e101
        replace e102 : vs 102 = .agg #[.slice A1 ws.length c1] := (hvs 102).symm.trans e102
        replace e103 := (hvs 103) ▸ e103
        subst hb
        clear hvs hold hT hdf hsz
        simp only [setAll, Act.put, List.setIfInBounds_toArray, List.set_cons_zero, List.set_cons_succ, List.getElem_toArray, List.getElem_cons_succ, List.getElem_cons_zero]
        obtain ⟨Bs, e103, hBs, hX⟩ := e103
        have hkt := kt _ _ hS.ro.1
        replace hS := hS.good hW HSL.out hkt.1 hkt.2 hBs hX
        obtain ⟨KK, k1, k2, k3, k4, KKS, hS⟩ : ∃ KK : (Nat → Prop) → World → Prop, (∀ D w, KK D w → K D w) ∧ (∀ D w, KK D w → SetsX xa' n (fun k => if k ∈ S.take (i + 1) then aboveM n L k else 0) D w) ∧ (∀ D w, KK D w → SetsX xb n (blP n L (S.take i)) D w) ∧ (∀ D w, KK D w → Good Bs A1 c1 ws w) ∧ Stable KK ∧ St w0 wz (.box g6b 3 #[.int .i64 (b : Nat)] :: relF q n (.slice A L.length c) (.slice (some ⟨gs, 0, none⟩) S.length cs) (.slice (some ⟨g6, 0, none⟩) n n) (.slice (some ⟨g11, 0, none⟩) n n) g1 g2 S ((List.range n).map dv) xa' xb (famF dv (dirs L) n ++ (F0 ++ marksF ds))) KK :=
         ⟨_, fun _ _ h => h.1.1, fun _ _ h => h.1.2.1.congr fun k _ => by
          rw [HTK.out]
          by_cases e : k = b
          ·subst e; simp [abTo_full]
          ·simp [e], fun _ _ h => h.1.2.2, fun _ _ h => h.2.1, hS.stable, hS⟩
        have HLow : Hid (∀ xb' : List Value, ∀ f ∈ (Fact.box g6b 3 #[.int .i64 (b : Nat)] :: relF q n (.slice A L.length c) (.slice (some ⟨gs, 0, none⟩) S.length cs) (.slice (some ⟨g6, 0, none⟩) n n) (.slice (some ⟨g11, 0, none⟩) n n) g1 g2 S ((List.range n).map dv) xa' xb' (famF dv (dirs L) n ++ (F0 ++ marksF ds))), f.low wz.heap.size) := Lib.hid fun xb' f hf => by
         have h0 := low_of hS
         rcases List.mem_cons.1 hf with rfl | hf
         ·exact .inl rfl
         unfold relF at hf
         rcases List.mem_append.1 hf with hf | hf
         ·simp only [List.mem_cons, List.not_mem_nil, or_false] at hf
          rcases hf with rfl | rfl | rfl | rfl | rfl | rfl <;> exact .inl rfl
         ·exact h0 f (List.mem_cons_of_mem _ (by unfold relF; exact List.mem_append_right _ hf))
        have hsz := hS.size
        clear hW hX hkt
        rw [e103]
        clear e103
        go_wp2_with fail
        refine (wpIn_wide (n := 6)).1 ?_
        refine wpIn_act fun act hact => ?_
        refine range_allB hS HCN.out.1 HCN.out.2.2 k4 (by rw [hact]; rfl) rfl
         (fun pre F' K' => ∃ xb', xb'.length = n ∧ F' = .box g6b 3 #[.int .i64 (b : Nat)] :: relF q n (.slice A L.length c) (.slice (some ⟨gs, 0, none⟩) S.length cs) (.slice (some ⟨g6, 0, none⟩) n n) (.slice (some ⟨g11, 0, none⟩) n n) g1 g2 S ((List.range n).map dv) xa' xb' (famF dv (dirs L) n ++ (F0 ++ marksF ds)) ∧ Stable K' ∧ ∀ D w, K' D w → KK D w ∧ SetsX xb' n (fun k => if ((k : Nat) : Int) ∈ pre then blP n L (S.take i) k ||| 2 ^ b else blP n L (S.take i) k) D w)
         (fun _ _ _ _ => False) (fun s F K' h D w hk => by obtain ⟨_, _, _, _, h4⟩ := h; exact (h4 D w hk).1) ?hr (fun _ _ _ _ h => h.elim) ⟨xb, hxb, rfl, KKS, fun D w h => ⟨h, by simpa using k3 D w h⟩⟩
         (fun x => { tmps := (act.tmps.setIfInBounds 104 (.int .i64 x)).setIfInBounds 9 (.int .i64 x), defers := [] }) ?assign ?body ?done (fun _ _ _ _ _ _ _ _ h _ _ => h.elim)
        case hr =>
         rintro s F K' ⟨xb', h1, rfl, _⟩ f hf
         exact HLow.out xb' f hf
        case assign =>
         intro l x W K hK
         subst hact
         rw [zip_one]
         refine wpIn_region_lit ?_
         refine listIn_of (by intro _ _ h; exact h) _ _ _ (by rfl) _ _ ?_
         refine wpList_plain rfl fun _ hK' => opw_assign (v := .int .i64 x) rfl (by rfl) (hK' _ _ ?_)
         exact wpList_nil hK
        case body =>
         rintro l pre x hx W F' Xo K' ⟨xb', hxl, rfl, hKs, hk'⟩ hS hlt
         subst hact
         obtain ⟨xk, rfl⟩ := memL_nat hx
         have htc : TC L xk b := by
          have h0 := (mem_memL HCN.out.1).1 hx
          rw [← HVN.out] at h0; exact (tb_above HL.out).1 h0
         have hxk := (htc.lt HL.out).1
         obtain ⟨DD, hDD, hro⟩ := hS.dom
         obtain ⟨ub, hub, hset⟩ := (hk' _ _ hro.1).2 xk hxk
         dsimp only at hset
         have HW := Lib.hid (show withN (if ((xk : Nat) : Int) ∈ pre then blP n L (S.take i) xk ||| 2 ^ b else blP n L (S.take i) xk) (b : Int) = blP n L (S.take i) xk ||| 2 ^ b by
          rw [withN, if_pos (by omega), Int.toNat_natCast]
          split
          ·rw [Nat.or_assoc, Nat.or_self]
          ·rfl)
         generalize (if ((xk : Nat) : Int) ∈ pre then blP n L (S.take i) xk ||| 2 ^ b else blP n L (S.take i) xk) = N0 at *
         have HUB2 := Lib.hid hub
         have HSET := Lib.hid hset
         have HDD := Lib.hid hDD
         have HKP := Lib.hid hk'
         have HXL := Lib.hid hxl
         have hWs : W.heap.size ≤ W.heap.size := Nat.le_refl _
         clear hub hset hx htc hDD hro hk' hxl
         simp only [Act.put, List.setIfInBounds_toArray, List.set_cons_zero, List.set_cons_succ]
         refine wpIn_block ?_
         refine wpIn_region_of (by kernel_rfl) (by intro _ _ h; exact h) (by rfl) ?_
         refine any_region_tail (fun i__ v w => match i__ with
          | 0 => v = .pointer (some ⟨q, 0, none⟩)
          | 1 => v = .pointer (some ⟨q, 0, none⟩)
          | 2 => v = .pointer (some ⟨q, 3, none⟩)
          | 3 => v = .slice (some ⟨g11, 0, none⟩) n n
          | 4 => v = .int .i64 ((xk : Nat) : Int)
          | 5 => v = .pointer (some ⟨q, 0, none⟩)
          | 6 => v = .pointer (some ⟨q, 0, none⟩)
          | 7 => v = .pointer (some ⟨q, 3, none⟩)
          | 8 => v = .slice (some ⟨g11, 0, none⟩) n n
          | 9 => v = .int .i64 ((xk : Nat) : Int)
          | 10 => v = .pointer (some ⟨g11, 0 + (xk) * 1, none⟩)
          | 11 => v = .agg #[ub]
          | 12 => v = .int .i64 ((b : Nat) : Int)
          | 13 => ∃ u, v = .agg #[u] ∧ u.oneCell' = true ∧ IsSet w (fun z => DD z ∨ W.heap.size ≤ z) (.agg #[u]) (blP n L (S.take i) xk ||| 2 ^ b)
          | 14 => v = .pointer (some ⟨g11, 0 + (xk) * 1, none⟩)
          | 15 => True
          | _ => True) 15 [] (by kernel_rfl) (by kernel_rfl) (by kernel_rfl) (by kernel_rfl) ?mono ⟨.inr ?r0, .inr ?r1, .inr ?r2, .inr ?r3, .inr ?r4, .inr ?r5, .inr ?r6, .inr ?r7, .inr ?r8, .inr ?r9, .inr ?r10, .inr ?r11, .inr ?r12, .inr ?r13, .inr ?r14, .inl (by decide), trivial⟩ ?post
         case mono =>
          intro i v w w' h hb
          match i, h with
          | 0, h | 1, h | 2, h | 3, h | 4, h | 5, h | 6, h | 7, h | 8, h | 9, h | 10, h | 11, h | 12, h => exact h
          | 13, h => exact ⟨_, h.choose_spec.1, h.choose_spec.2.1, h.choose_spec.2.2.ext hb⟩
          | 14, h | 15, h => exact h
          | _ + 16, h => trivial
         case r0 =>
          refine trule fun b__ w hW hold hpre => wU rfl fun K hK => ?_
          have e1 : b__.eval (.tmp 1) = .pointer (some ⟨g1, 0, none⟩) := (hold 1 (by kernel_rfl)).trans rfl
          exact opw_cell rfl e1 (by kernel_rfl) (((hS.ext (undrew hW)).box 5 rfl).cell 0) (hK _ _ rfl (Below.refl _ _))
         case r1 =>
          refine trule fun b__ w hW hold hpre => wU rfl fun K hK => ?_
          have e105 : b__.eval (.tmp 105) = .pointer (some ⟨q, 0, none⟩) := pq hpre 0 0 105
          exact opw_nil rfl e105 (hK _ _ rfl (Below.refl _ _))
         case r2 =>
          refine trule fun b__ w hW hold hpre => wU rfl fun K hK => ?_
          have e106 : b__.eval (.tmp 106) = .pointer (some ⟨q, 0, none⟩) := pq hpre 0 1 106
          exact opw_faddr rfl e106 (by kernel_rfl) (hK _ _ rfl (Below.refl _ _))
         case r3 =>
          refine trule fun b__ w hW hold hpre => wU rfl fun K hK => ?_
          have e107 : b__.eval (.tmp 107) = .pointer (some ⟨q, 3, none⟩) := pq hpre 0 2 107
          exact opw_cell rfl e107 (by kernel_rfl) (((hS.ext (undrew hW)).box 2 rfl).cell 3) (hK _ _ rfl (Below.refl _ _))
         case r4 =>
          refine trule fun b__ w hW hold hpre => wU rfl fun K hK => ?_
          have e9 : b__.eval (.tmp 9) = .int .i64 ((xk : Nat) : Int) := (hold 9 (by kernel_rfl)).trans rfl
          exact opw_move rfl e9 (hK _ _ rfl (Below.refl _ _))
         case r5 =>
          refine trule fun b__ w hW hold hpre => wU rfl fun K hK => ?_
          have e1 : b__.eval (.tmp 1) = .pointer (some ⟨g1, 0, none⟩) := (hold 1 (by kernel_rfl)).trans rfl
          exact opw_cell rfl e1 (by kernel_rfl) (((hS.ext (undrew hW)).box 5 rfl).cell 0) (hK _ _ rfl (Below.refl _ _))
         case r6 =>
          refine trule fun b__ w hW hold hpre => wU rfl fun K hK => ?_
          have e110 : b__.eval (.tmp 110) = .pointer (some ⟨q, 0, none⟩) := pq hpre 0 5 110
          exact opw_nil rfl e110 (hK _ _ rfl (Below.refl _ _))
         case r7 =>
          refine trule fun b__ w hW hold hpre => wU rfl fun K hK => ?_
          have e111 : b__.eval (.tmp 111) = .pointer (some ⟨q, 0, none⟩) := pq hpre 0 6 111
          exact opw_faddr rfl e111 (by kernel_rfl) (hK _ _ rfl (Below.refl _ _))
         case r8 =>
          refine trule fun b__ w hW hold hpre => wU rfl fun K hK => ?_
          have e112 : b__.eval (.tmp 112) = .pointer (some ⟨q, 3, none⟩) := pq hpre 0 7 112
          exact opw_cell rfl e112 (by kernel_rfl) (((hS.ext (undrew hW)).box 2 rfl).cell 3) (hK _ _ rfl (Below.refl _ _))
         case r9 =>
          refine trule fun b__ w hW hold hpre => wU rfl fun K hK => ?_
          have e9 : b__.eval (.tmp 9) = .int .i64 ((xk : Nat) : Int) := (hold 9 (by kernel_rfl)).trans rfl
          exact opw_move rfl e9 (hK _ _ rfl (Below.refl _ _))
         case r10 =>
          refine trule fun b__ w hW hold hpre => wU rfl fun K hK => ?_
          have e113 : b__.eval (.tmp 113) = .slice (some ⟨g11, 0, none⟩) n n := pq hpre 0 8 113
          have e114 : b__.eval (.tmp 114) = .int .i64 ((xk : Nat) : Int) := pq hpre 1 9 114
          exact opw_iaddr rfl e113 e114 (run_iaddr_lit (m := xk) Tryz.underlying182 (by kernel_rfl) (by omega) (by omega)) (hK _ _ rfl (Below.refl _ _))
         case r11 =>
          refine trule fun b__ w hW hold hpre => wU rfl fun K hK => ?_
          have e115 : b__.eval (.tmp 115) = .pointer (some ⟨g11, 0 + (xk) * 1, none⟩) := pq hpre 0 10 115
          exact opw_oload1 rfl (e115.trans (by rw [Nat.zero_add, Nat.mul_one])) ((hS.ext (undrew hW)).own 4 rfl) HUB2.out Tryz.underlying27 rfl (by kernel_rfl) (hK _ _ rfl (Below.refl _ _))
         case r12 =>
          refine trule fun b__ w hW hold hpre => wU rfl fun K hK => ?_
          have e6 : b__.eval (.tmp 6) = .pointer (some ⟨g6b, 0, none⟩) := (hold 6 (by kernel_rfl)).trans rfl
          exact opw_cell rfl e6 (by kernel_rfl) (((hS.ext (undrew hW)).box 0 rfl).cell 0) (hK _ _ rfl (Below.refl _ _))
         case r13 =>
          refine trule fun b__ w hW hold hpre => wU rfl fun K hK => ?_
          have e116 : b__.eval (.tmp 116) = .agg #[ub] := pq hpre 0 11 116
          have e117 : b__.eval (.tmp 117) = .int .i64 ((b : Nat) : Int) := pq hpre 1 12 117
          refine opw_call rfl (by kernel_rfl) (by simp only [List.map_cons, List.map_nil, e116, e117]) (with_any (.agg #[ub]) N0 (b : Int) w _ (HSET.out.ext (undrew hW))) fun v w' h hb => ?_
          rw [HW.out] at h
          obtain ⟨u, rfl, h1⟩ := set_one h
          exact hK _ w' ⟨u, rfl, h1, h.imp fun z hz _ => hz.imp id fun hz => Nat.le_trans (undrew hW).size hz⟩ hb
         case r14 =>
          refine trule fun b__ w hW hold hpre => wU rfl fun K hK => ?_
          have e108 : b__.eval (.tmp 108) = .slice (some ⟨g11, 0, none⟩) n n := pq hpre 0 3 108
          have e109 : b__.eval (.tmp 109) = .int .i64 ((xk : Nat) : Int) := pq hpre 1 4 109
          exact opw_iaddr rfl e108 e109 (run_iaddr_lit (m := xk) Tryz.underlying182 (by kernel_rfl) (by omega) (by omega)) (hK _ _ rfl (Below.refl _ _))
         case post =>
          intro b__ wz hW hdf hsz hold hT
          have e119 : b__.eval (.tmp 119) = .pointer (some ⟨g11, 0 + (xk) * 1, none⟩) := hT 14 _ 119 (by decide) rfl rfl
          have e118 : (fun (v : Value) (w : World) => ∃ u, v = .agg #[u] ∧ u.oneCell' = true ∧ IsSet w (fun z => DD z ∨ W.heap.size ≤ z) (.agg #[u]) (blP n L (S.take i) xk ||| 2 ^ b)) (b__.eval (.tmp 118)) wz := hT 13 _ 118 (by decide) rfl rfl
          have e105 : b__.eval (.tmp 105) = .pointer (some ⟨q, 0, none⟩) := hT 0 _ 105 (by decide) rfl rfl
          have e106 : b__.eval (.tmp 106) = .pointer (some ⟨q, 0, none⟩) := hT 1 _ 106 (by decide) rfl rfl
          have e107 : b__.eval (.tmp 107) = .pointer (some ⟨q, 3, none⟩) := hT 2 _ 107 (by decide) rfl rfl
          have e108 : b__.eval (.tmp 108) = .slice (some ⟨g11, 0, none⟩) n n := hT 3 _ 108 (by decide) rfl rfl
          have e109 : b__.eval (.tmp 109) = .int .i64 ((xk : Nat) : Int) := hT 4 _ 109 (by decide) rfl rfl
          have e110 : b__.eval (.tmp 110) = .pointer (some ⟨q, 0, none⟩) := hT 5 _ 110 (by decide) rfl rfl
          have e111 : b__.eval (.tmp 111) = .pointer (some ⟨q, 0, none⟩) := hT 6 _ 111 (by decide) rfl rfl
          have e112 : b__.eval (.tmp 112) = .pointer (some ⟨q, 3, none⟩) := hT 7 _ 112 (by decide) rfl rfl
          have e113 : b__.eval (.tmp 113) = .slice (some ⟨g11, 0, none⟩) n n := hT 8 _ 113 (by decide) rfl rfl
          have e114 : b__.eval (.tmp 114) = .int .i64 ((xk : Nat) : Int) := hT 9 _ 114 (by decide) rfl rfl
          have e115 : b__.eval (.tmp 115) = .pointer (some ⟨g11, 0 + (xk) * 1, none⟩) := hT 10 _ 115 (by decide) rfl rfl
          have e116 : b__.eval (.tmp 116) = .agg #[ub] := hT 11 _ 116 (by decide) rfl rfl
          have e117 : b__.eval (.tmp 117) = .int .i64 ((b : Nat) : Int) := hT 12 _ 117 (by decide) rfl rfl
          obtain ⟨vs, hvs, hb⟩ := frame_of hdf hsz hold
          replace e119 : vs 119 = .pointer (some ⟨g11, 0 + (xk) * 1, none⟩) := (hvs 119).symm.trans e119
          replace e118 := (hvs 118) ▸ e118
          replace e105 : vs 105 = .pointer (some ⟨q, 0, none⟩) := (hvs 105).symm.trans e105
          replace e106 : vs 106 = .pointer (some ⟨q, 0, none⟩) := (hvs 106).symm.trans e106
          replace e107 : vs 107 = .pointer (some ⟨q, 3, none⟩) := (hvs 107).symm.trans e107
          replace e108 : vs 108 = .slice (some ⟨g11, 0, none⟩) n n := (hvs 108).symm.trans e108
          replace e109 : vs 109 = .int .i64 ((xk : Nat) : Int) := (hvs 109).symm.trans e109
          replace e110 : vs 110 = .pointer (some ⟨q, 0, none⟩) := (hvs 110).symm.trans e110
          replace e111 : vs 111 = .pointer (some ⟨q, 0, none⟩) := (hvs 111).symm.trans e111
          replace e112 : vs 112 = .pointer (some ⟨q, 3, none⟩) := (hvs 112).symm.trans e112
          replace e113 : vs 113 = .slice (some ⟨g11, 0, none⟩) n n := (hvs 113).symm.trans e113
          replace e114 : vs 114 = .int .i64 ((xk : Nat) : Int) := (hvs 114).symm.trans e114
          replace e115 : vs 115 = .pointer (some ⟨g11, 0 + (xk) * 1, none⟩) := (hvs 115).symm.trans e115
          replace e116 : vs 116 = .agg #[ub] := (hvs 116).symm.trans e116
          replace e117 : vs 117 = .int .i64 ((b : Nat) : Int) := (hvs 117).symm.trans e117
          subst hb
          clear hvs hold hT hdf hsz
          simp only [setAll, Act.put, List.setIfInBounds_toArray, List.set_cons_zero, List.set_cons_succ, List.getElem_toArray, List.getElem_cons_succ, List.getElem_cons_zero]
          (intro o_ ho_; simp only [List.getElem?_toArray, List.getElem?_cons_succ, List.getElem?_cons_zero, Option.some.injEq] at ho_; subst ho_)
          obtain ⟨un, e118, hu1, hun⟩ := e118
          rw [HDD.out] at hun
          have hS1 := hS.ret2 hW (stable_set (v := .agg #[un]) (N := blP n L (S.take i) xk ||| 2 ^ b)) hun
          refine opw_ostore1 rfl (e119.trans (by rw [Nat.zero_add, Nat.mul_one])) e118 (hS1.own 4 rfl) (by omega) hu1 (by kernel_rfl) fun w4 h1 hU => ?_
          have hS2 := (hS1.upd 4 rfl (.own (.slice (some ⟨g11, 0, none⟩) n n) 27 1 n (xb'.set xk un)) (by simpa [Fact.blk, Value.ownBlock] using upd_gb hU) h1 fun _ e => .inl e)
          refine ⟨_, _, ⟨xb'.set xk un, by rw [List.length_set]; exact HXL.out, rfl, hS2.stable, fun D w h => ⟨(HKP.out D w h.1.1).1, ((HKP.out D w h.1.1).2.set HXL.out h.2).congr fun k _ => ?_⟩⟩, by rw [hU.size]; exact hW.size, hS2⟩
          by_cases e : k = xk
          ·subst e; simp
          ·have e2 : ¬ ((k : Nat) : Int) = ((xk : Nat) : Int) := by omega
           simp [e, e2]
        case done =>
         rintro D W F' K' hD ⟨xb', hxl, rfl, hKs, hk'⟩ hS hK
         subst hact
         have hM := hS.mark hsz hD (HLow.out xb') hK rfl
         have HKP := Lib.hid hk'
         clear hk' hS hK
         go_wp2_with fail
         refine ⟨m - 1, by omega, i + 1, D :: ds, xa', xb', ⟨by omega, rfl, rfl, rfl, rfl, rfl, congrArg (Value.int .i64) (by omega), rfl, HXA.out, hxl, ?_⟩⟩
         refine ((hM.sub (List.sublist_cons_self _ _)).perm ?_).mono (stable_relK KS _ _ _ _ _ _) fun D w h => ⟨k1 _ _ (HKP.out D w h).1, k2 _ _ (HKP.out D w h).1, (HKP.out D w h).2.congr fun k _ => ?_⟩
         ·exact (perm_mark [_, _, _, _, _, _] _ _ _ _).symm
         ·have hmem : ((k : Nat) : Int) ∈ memL ws ↔ TC L k b := by rw [mem_memL HCN.out.1, ← HVN.out]; exact tb_above HL.out
          rw [HTK.out]
          by_cases h : TC L k b
          ·rw [if_pos (hmem.2 h)]; exact blP_in HL.out h
          ·rw [if_neg (fun h2 => h (hmem.1 h2))]; exact blP_out h
    ·go_wp2_with (first | ((with_reducible refine qB ?_); (first | refine q1 ?_ ?_ | refine q2 ?_ ?_ | refine q3 ?_ ?_ | refine q4 ?_ ?_ | refine q5 ?_ ?_ | refine q6 ?_ ?_) <;> intro h_ <;> go_prune))
     have hS1 := hS.sub (F' := (.box q 184 #[.int .i64 (n : Nat), .slice A L.length c, .slice (some ⟨g6, 0, none⟩) n n, .slice (some ⟨g11, 0, none⟩) n n, .slice As S.length cs] :: .own (.slice (some ⟨g6, 0, none⟩) n n) 27 1 n xa :: .own (.slice (some ⟨g11, 0, none⟩) n n) 27 1 n xb :: F0) ++ marksF ds) (.cons _ (.cons_cons _ (.cons_cons _ (.cons_cons _ (.cons _ (.cons _ (List.sublist_append_right _ _)))))))
     refine leaves_marks ?_ ds wr hS1
     intro w' h
     refine ⟨_, results_none rfl _ _ _, rfl, .slice (some ⟨g6, 0, none⟩) n n, .slice (some ⟨g11, 0, none⟩) n n, xa, xb, ?_⟩
     have hall : ∀ k, k < n → k ∈ S := nodup_full HT.out.1 HSB.out hSn2
     have ht : S.take i = S := List.take_of_length_le (by omega)
     refine ((h.freeze 1 (by decide) rfl).freeze 1 (by decide) rfl).mono (KS.and (((stable_sl (by decide)).and stable_setsX).and ((stable_sl (by decide)).and stable_setsX))) fun D w hk => ?_
     obtain ⟨⟨⟨h1, h2, h3⟩, h4⟩, h5⟩ := hk
     rw [ht] at h2 h3
     exact ⟨h1, ⟨h4, h2.congr fun k hk => by rw [if_pos (hall k hk)]⟩, h5, h3.congr fun k _ => blP_full hall k⟩
end Go.Proofs.YtihpgmbinhmmlaaGreatDoor
namespace Go.Proofs.YtihpgmbinhmmlaaGreatDoor
open Go.RowKit

theorem run_part_int {P : Program} (w : World) {e : TypeId} {k : IntKind} (hu : P.underlying e = some (.int k)) (xs : List Value) (off : Nat) (v : Value) (h : xs[off]? = some v) : (part e xs.toArray off).run P w = .ok v w := by
 have : (isAgg e).run P w = .ok false w := by unfold isAgg; rw [Sem.run_bind, run_underlying hu w]; simp
 simp [part, this, h]
theorem run_eqItems_ints {P : Program} (w : World) (d : Nat) {e : TypeId} {k : IntKind} (hu : P.underlying e = some (.int k)) (xs ys : List Int) (is : List Nat) (hx : ∀ i ∈ is, i < xs.length ∧ i < ys.length) :
  (Op.eqItems (d + 1) e 1 (xs.map (Value.int k)).toArray (ys.map (Value.int k)).toArray is).run P w = .ok (is.all fun i => xs.getD i 0 == ys.getD i 0) w := by
 induction is with
 | nil => simp [Op.eqItems]
 | cons i is ih =>
  have h1 := hx i (by simp)
  have p1 := run_part_int (P := P) w hu (xs.map (Value.int k)) (i * 1) (.int k (xs.getD i 0)) (by simp [List.getElem?_eq_getElem h1.1])
  have p2 := run_part_int (P := P) w hu (ys.map (Value.int k)) (i * 1) (.int k (ys.getD i 0)) (by simp [List.getElem?_eq_getElem h1.2])
  have ih := ih (fun j hj => hx j (by simp [hj]))
  simp only [Op.eqItems, Sem.run_bind, p1, p2, Result.andThen_ok, run_equalIn_int w d e k k _ _ hu, List.all_cons]
  cases hb : (xs.getD i 0 == ys.getD i 0)
  ·simp
  ·simpa using ih
theorem all_range_eq (xs ys : List Int) (h : xs.length = ys.length) : ((List.range xs.length).all fun i => xs.getD i 0 == ys.getD i 0) = (xs == ys) := by
 rw [Bool.eq_iff_iff, List.all_eq_true, beq_iff_eq]
 constructor
 ·intro h1
  apply List.ext_getElem h
  intro i h2 h3
  have := h1 i (by simpa using h2)
  simpa [List.getD_eq_getElem?_getD, List.getElem?_eq_getElem h2, List.getElem?_eq_getElem h3] using this
 ·rintro rfl i _; simp
theorem run_eql_ints {P : Program} (w : World) (t e : TypeId) (n : Nat) (k : IntKind) (hu : P.underlying t = some (.array n e)) (i : TypeInfo) (hi : P.info? e = some i) (he : P.underlying e = some (.int k)) (hc : P.cellsOf e = 1) (xs ys : List Int) (hx : xs.length = n) (hy : ys.length = n) :
  (binOp .eql t (.agg (xs.map (Value.int k)).toArray) (.agg (ys.map (Value.int k)).toArray)).run P w = .ok (.bool (xs == ys)) w := by
 rw [run_eql_struct, run_equalIn_array w 9999 _ _ hu hi, hc, run_eqItems_ints w 9998 he xs ys _ (by intro j hj; simp at hj; omega), ← hx, all_range_eq xs ys (by omega)]
 rfl
theorem run_neq_ints {P : Program} (w : World) (t e : TypeId) (n : Nat) (k : IntKind) (hu : P.underlying t = some (.array n e)) (i : TypeInfo) (hi : P.info? e = some i) (he : P.underlying e = some (.int k)) (hc : P.cellsOf e = 1) (xs ys : List Int) (hx : xs.length = n) (hy : ys.length = n) :
  (binOp .neq t (.agg (xs.map (Value.int k)).toArray) (.agg (ys.map (Value.int k)).toArray)).run P w = .ok (.bool (xs != ys)) w := by
 rw [run_neq_struct, run_equalIn_array w 9999 _ _ hu hi, hc, run_eqItems_ints w 9998 he xs ys _ (by intro j hj; simp at hj; omega), ← hx, all_range_eq xs ys (by omega)]
 rfl
end Go.Proofs.YtihpgmbinhmmlaaGreatDoor
namespace Go.Proofs.YtihpgmbinhmmlaaGreatDoor
open Go.RowKit
attribute [local go_sem ↓] Go.wp_at_zero Go.wp_at_succ
set_option maxRecDepth 20000
set_option exponentiation.threshold 5000

abbrev FP := Fin 256 × Fin 256
def pairF (x : FP) : Nat × Nat := (x.1.1, x.2.1)
def encF (x : FP) : List Value := [.int .i64 (x.1.1 : Nat), .int .i64 (x.2.1 : Nat)]
def cfF (x y : FP) : Int := if x.1.1 = y.1.1 then (x.2.1 : Int) - (y.2.1 : Int) else (x.1.1 : Int) - (y.1.1 : Int)
theorem ltF (x y : FP) : ltOf cfF x y = decide (plt (pairF x) (pairF y)) := by
 rw [Bool.eq_iff_iff, decide_eq_true_eq]
 unfold ltOf cfF plt pairF
 rw [decide_eq_true_eq]
 dsimp only
 split <;> omega
theorem swoF : Sort.SWO (ltOf cfF) where
 irrefl x := by rw [ltF]; simp [plt_irrefl]
 trans x y z h1 h2 := by rw [ltF] at *; simp only [decide_eq_true_eq] at *; exact plt_trans h1 h2
 ntrans x y z h1 h2 := by
  rw [ltF] at *; simp only [decide_eq_false_iff_not] at *
  intro h3
  rcases plt_total h1 with h4 | h4
  ·exact h2 (plt_trans h4 h3)
  ·rw [← h4] at h2; exact h2 h3
theorem flat_pcells (d : Array FP) : (Sort.flatK encF 2 d).toList = pcells (d.toList.map pairF) := by
 refine List.ext_getElem? fun t => ?_
 by_cases ht : t < d.size * 2
 ·have h1 : t / 2 < d.size := by omega
  have h2 := pcells_at (d.toList.map pairF) (t / 2) (by simpa using h1)
  have h3 : (d.toList.map pairF).getD (t / 2) (0, 0) = pairF d[t / 2]! := by
   simp [List.getD_eq_getElem?_getD, h1]
  rw [h3] at h2
  have h4 : (Sort.flatK encF 2 d).toList[t]? = some ((Sort.flatK encF 2 d)[t]!) := by
   rw [getElem!_pos _ t (by simpa using ht)]; simp [ht]
  rw [h4, Sort.get_flatK _ _ _ _ ht]
  rcases Nat.mod_two_eq_zero_or_one t with h5 | h5
  ·rw [h5]; rw [show t / 2 * 2 = t by omega] at h2; rw [h2.1]; rfl
  ·rw [h5]; rw [show t / 2 * 2 + 1 = t by omega] at h2; rw [h2.2]; rfl
 ·rw [List.getElem?_eq_none (by simp; omega), List.getElem?_eq_none (by rw [pcells_len]; simp; omega)]
theorem sort_world {α : Type} [Inhabited α] {enc : α → List Value} {k : Nat} {w : World} {base g n c : Nat} {e : TypeId} {xs : List Value} (h : w.ownsRow base e k (.slice (some ⟨g, 0, none⟩) n c) n xs) (d d' : Array α) (hd : d.size = n) (hd' : d'.size = n) (hx : (Sort.flatK enc k d).toList = xs) (m : Nat) (os : Array Obj) :
  Sort.HoldsK enc k w g 0 d ∧ g < w.heap.size ∧ w.grownBy (sortWorldK enc k w g 0 m d' os) (some g) ∧ (sortWorldK enc k w g 0 m d' os).ownsRow base e k (.slice (some ⟨g, 0, none⟩) n c) n (Sort.flatK enc k d').toList := by
 obtain ⟨h1, h2⟩ := h
 obtain ⟨h2, _⟩ | ⟨g2, cap, cur, h3, h4, h5, h6, h7, h8, h9⟩ := h2
 ·injection h2 with h2; exact absurd h2 (by simp)
 ·injection h3 with h3 h10 h11
  injection h3 with h3; injection h3 with h3
  subst h3; subst h11
  have hlt : g < w.heap.size := (Array.getElem?_eq_some_iff.1 h5).1
  have hnk : n * k ≤ cur.size := by rw [h8]; exact Nat.mul_le_mul_right _ h6
  refine ⟨fun j hj => ?_, hlt, ⟨rfl, rfl, rfl, ?_, fun b hb hbn => ?_⟩, ?_, .inr ⟨g, c, Sort.putCells id 0 (Sort.flatK enc k d') cur, rfl, h4, ?_, h6, h7, ?_, ?_⟩⟩
  ·have hj2 : j < n * k := by simpa [hd] using hj
   have e1 : (Sort.flatK enc k d)[j]! = cur[j]'(by omega) := by
    have : (Sort.flatK enc k d).toList[j]? = cur.toList[j]? := by rw [hx, ← h9, List.getElem?_take_of_lt hj2]
    rw [getElem!_pos _ j hj]
    rw [List.getElem?_eq_getElem (by simpa using hj), List.getElem?_eq_getElem (by simp; omega)] at this
    simpa using this
   constructor
   ·rw [id, e1]; simp [World.cell?, h5, show j < cur.size by omega]
   ·simp [World.frozen?, h5]
  ·exact size_sortWorldK_c ..
  ·unfold sortWorldK Sort.grow Sort.putRowK Sort.putRow Sort.mapBlock Sort.ahead
   dsimp only
   rw [Array.getElem?_append_left (by simpa using hb), Array.getElem?_modify, if_neg (fun e => hbn (by rw [e]))]
  ·simp [hd']
  ·unfold sortWorldK Sort.grow Sort.putRowK Sort.putRow Sort.mapBlock Sort.ahead
   dsimp only
   rw [Array.getElem?_append_left (by simpa using hlt), Array.getElem?_modify, if_pos rfl, h5]; rfl
  ·simp [Sort.putCells, h8]
  ·refine List.ext_getElem? fun t => ?_
   by_cases ht : t < n * k
   ·rw [List.getElem?_take_of_lt ht]
    simp [Sort.putCells, show t < cur.size by omega, hd', ht]
   ·rw [List.getElem?_eq_none (by rw [List.length_take]; omega), List.getElem?_eq_none (by simp [hd']; omega)]
theorem compare_any (x y : FP) (W : World) : Calls Tryz.prog 129 #[.agg #[.int .i64 (x.1.1 : Nat), .int .i64 (x.2.1 : Nat)], .agg #[.int .i64 (y.1.1 : Nat), .int .i64 (y.2.1 : Nat)]] W fun e w' => e = .returned (.int .i64 (cfF x y)) ∧ ∃ q os', w' = Sort.grow (W.drewN q) os' := by
 have h1 := x.1.2
 have h2 := x.2.2
 have h3 := y.1.2
 have h4 := y.2.2
 unfold cfF
 generalize x.1.1 = a at *
 generalize x.2.1 = b at *
 generalize y.1.1 = c at *
 generalize y.2.1 = d at *
 by_cases he : a = c
 ·subst he
  rw [if_pos rfl]
  go_enter Tryz.func129, Tryz.ntmps129
  go_wp2
  go_ret
  exact ⟨rfl, 0, _, by rw [Sort.alloc_eq_grow, Sort.alloc_eq_grow, Sort.grow_grow]; rfl⟩
 ·rw [if_neg he]
  go_enter Tryz.func129, Tryz.ntmps129
  go_wp2
  go_ret
  exact ⟨rfl, 0, _, by rw [Sort.alloc_eq_grow, Sort.alloc_eq_grow, Sort.grow_grow]; rfl⟩
theorem sortp_any {w0 w : World} {F : List Fact} {K : (Nat → Prop) → World → Prop} (i g n cap : Nat) (L : List (Nat × Nat)) (hL : Inr 256 L) (hl : L.length = n) (hn : n < 4611686018427387904) (hS : St w0 w F K) (hi : F[i]? = some (.own (.slice (some ⟨g, 0, none⟩) n cap) 122 2 n (pcells L))) :
  Calls Tryz.prog 128 #[.slice (some ⟨g, 0, none⟩) n cap, .func (.func 129) #[] #[]] w fun e w' => ∃ M : List (Nat × Nat), e = .returned (.tuple #[]) ∧ M.Perm L ∧ M.Pairwise (fun x y => ¬ plt y x) ∧ St w0 w' (F.set i (.own (.slice (some ⟨g, 0, none⟩) n cap) 122 2 n (pcells M))) K := by
 have ho := hS.own i hi
 obtain ⟨d, rfl⟩ : ∃ d : Array FP, L = d.toList.map pairF := by
  refine ⟨(L.map fun x => ((⟨x.1 % 256, Nat.mod_lt _ (by decide)⟩, ⟨x.2 % 256, Nat.mod_lt _ (by decide)⟩) : FP)).toArray, ?_⟩
  rw [List.map_map]
  refine (List.map_id _).symm.trans (List.map_congr_left fun x hx => ?_)
  have := hL x hx
  exact Prod.ext (Nat.mod_eq_of_lt this.1).symm (Nat.mod_eq_of_lt this.2).symm
 have hd : d.size = n := by simpa using hl
 have eg : ∀ args w, (callFunc 129 args).run Tryz.prog w = .ok (.enter 129 args) w := enters_of Tryz.func129 (by kernel_rfl) rfl
 obtain ⟨hH, hb, _, _⟩ := sort_world ho d d hd hd (flat_pcells d) 0 #[]
 have hcon := AnyQ.slices_SortFunc Tryz.sortPairs 2 Tryz.isAgg122 Tryz.sizeOf122 encF (fun _ => rfl) (fun x v hv => by simp [encF] at hv; rcases hv with rfl | rfl <;> rfl) cfF swoF 129 #[] g 0 cap d w eg (fun _ _ _ _ x y => compare_any x y _) hH hb (by omega)
 rw [hd] at hcon
 refine hcon.mono ?_
 rintro e w' ⟨rfl, d', m, os, hp, hs, rfl⟩
 have hd' : d'.size = n := hp.1.trans hd
 obtain ⟨_, _, hg, ho'⟩ := sort_world ho d d' hd hd' (flat_pcells d) m os
 refine ⟨d'.toList.map pairF, rfl, ?_, ?_, ?_⟩
 ·have := hp.2.2
  rw [show d'.extract 0 n = d' by rw [← hd']; simp, show d.extract 0 n = d by rw [← hd]; simp] at this
  exact this.map _
 ·rw [List.pairwise_iff_getElem]
  intro a b ha hb hab
  have hb' : b < n := by simpa [hd'] using hb
  have := hs a b (Nat.zero_le _) hab hb'
  rw [ltF] at this
  simp only [decide_eq_false_iff_not] at this
  rw [getElem!_pos _ a (by omega), getElem!_pos _ b (by omega)] at this
  simpa using this
 ·rw [flat_pcells] at ho'
  exact hS.upd i hi _ hg ho' fun k hk => .inl hk
section
variable {P : Program} {o : Oper} {a : Act} {w w' : World} {K : Act → World → Prop} {Q : Exit → Act → World → Prop}
theorem own_pair {base g n cap k : Nat} {e : TypeId} {R : List (Nat × Nat)} (h : w.ownsRow base e 2 (.slice (some ⟨g, 0, none⟩) n cap) n (pcells R)) (hk : k < R.length) : w.rangeAt g (k * 2) [.int .i64 ((R.getD k (0, 0)).1 : Nat), .int .i64 ((R.getD k (0, 0)).2 : Nat)] := by
 have h2 := pcells_at R k hk
 intro j v hj
 match j, hj with
 | 0, hj => simp at hj; subst hj; exact own_cell h _ _ h2.1
 | 1, hj => simp at hj; subst hj; exact own_cell h _ _ h2.2
 | j + 2, hj => simp at hj
theorem pairs_eql {t e : TypeId} (hu : P.underlying t = some (.array 2 e)) (i : TypeInfo) (hi : P.info? e = some i) (he : P.underlying e = some (.int .i64)) (hc : P.cellsOf e = 1) (x y : Nat × Nat) :
  (binOp .eql t (.agg #[.int .i64 (x.1 : Nat), .int .i64 (x.2 : Nat)]) (.agg #[.int .i64 (y.1 : Nat), .int .i64 (y.2 : Nat)])).run P w = .ok (.bool (decide (x = y))) w := by
 have := run_eql_ints w t e 2 .i64 hu i hi he hc [(x.1 : Int), (x.2 : Int)] [(y.1 : Int), (y.2 : Int)] rfl rfl
 rw [show decide (x = y) = ([(x.1 : Int), (x.2 : Int)] == [(y.1 : Int), (y.2 : Int)]) by rw [Bool.eq_iff_iff]; simp [Prod.ext_iff]; omega]
 exact this
theorem pairs_neq {t e : TypeId} (hu : P.underlying t = some (.array 2 e)) (i : TypeInfo) (hi : P.info? e = some i) (he : P.underlying e = some (.int .i64)) (hc : P.cellsOf e = 1) (x y : Nat × Nat) :
  (binOp .neq t (.agg #[.int .i64 (x.1 : Nat), .int .i64 (x.2 : Nat)]) (.agg #[.int .i64 (y.1 : Nat), .int .i64 (y.2 : Nat)])).run P w = .ok (.bool (decide (x ≠ y))) w := by
 have := run_neq_ints w t e 2 .i64 hu i hi he hc [(x.1 : Int), (x.2 : Int)] [(y.1 : Int), (y.2 : Int)] rfl rfl
 rw [show decide (x ≠ y) = ([(x.1 : Int), (x.2 : Int)] != [(y.1 : Int), (y.2 : Int)]) by rw [Bool.eq_iff_iff]; simp [Prod.ext_iff]; omega]
 exact this
theorem Upd.trans {g : Nat} {u v w : World} (h : Upd g u v) (k : Upd g v w) : Upd g u w :=
 ⟨k.os.trans h.os, k.tape.trans h.tape, k.output.trans h.output, k.size.trans h.size, fun b hb => (k.other b hb).trans (h.other b hb)⟩
theorem own_setCells {base g n cap size : Nat} {e : TypeId} : ∀ (vs : List Value) (i : Nat) (w : World) (xs : List Value), w.ownsRow base e size (.slice (some ⟨g, 0, none⟩) n cap) n xs →
  ∃ ys, (w.setCells g i vs).ownsRow base e size (.slice (some ⟨g, 0, none⟩) n cap) n ys ∧ ys.take i = xs.take i ∧ Upd g w (w.setCells g i vs)
 | [], i, w, xs, h => ⟨xs, h, rfl, ⟨rfl, rfl, rfl, rfl, fun _ _ => rfl⟩⟩
 | v :: vs, i, w, xs, h => by
  obtain ⟨ys, h1, h2, h3⟩ := own_setCells vs (i + 1) (w.setCell ⟨g, i, none⟩ v) _ (h.stored i v).1
  refine ⟨ys, h1, ?_, Upd.trans (upd_setCell w g i v) h3⟩
  have := congrArg (List.take i) h2
  rw [List.take_take, List.take_take, show min i (i + 1) = i by omega] at this
  rw [this, List.take_set_of_le (Nat.le_refl _)]
theorem own_short {base g n cap size k : Nat} {e : TypeId} {xs : List Value} (h : w.ownsRow base e size (.slice (some ⟨g, 0, none⟩) n cap) n xs) (hk : k ≤ n) : w.ownsRow base e size (.slice (some ⟨g, 0, none⟩) k cap) k (xs.take (k * size)) := by
 obtain ⟨h1, h2⟩ := h
 have hkn : k * size ≤ n * size := Nat.mul_le_mul_right _ hk
 refine ⟨by rw [List.length_take]; omega, .inr ?_⟩
 obtain ⟨h2, _⟩ | ⟨g2, c2, cur, h3, h4, h5, h6, h7, h8, h9⟩ := h2
 ·injection h2 with h2; exact absurd h2 (by simp)
 ·injection h3 with h3 h10 h11
  injection h3 with h3; injection h3 with h3
  subst h3; subst h11
  exact ⟨g, cap, cur, rfl, h4, h5, by omega, h7, h8, by rw [← h9, List.take_take, Nat.min_eq_left hkn]⟩
theorem run_store_own2 {base g n cap size i : Nat} {e ty : TypeId} {xs : List Value} {u v : Value} (h : w.ownsRow base e size (.slice (some ⟨g, 0, none⟩) n cap) n xs) (hi : i + 1 < n * size) (h1 : u.oneCell' = true) (h2 : v.oneCell' = true) (hs : (P.info? ty).map (·.size) = some 2) :
  (Instr.storeAt ty (.pointer (some ⟨g, i, none⟩)) (.agg #[u, v])).run P w = .ok () ((w.setCell ⟨g, i, none⟩ u).setCell ⟨g, i + 1, none⟩ v) := by
 obtain ⟨cs, h3, h4, _⟩ := own_box h
 have := run_storeCells_cells (P := P) g i [u, v] 0 w (fun j hj => by have hc := h3.cell (i + j); simp at hj; simp [hc]; omega) (fun j hj => h3.free _) (by simpa using ⟨h1, h2⟩)
 cases hq : P.info? ty with
 | none => simp [hq] at hs
 | some inf =>
  have hs' : inf.size = 2 := by simpa [hq] using hs
  simp only [Nat.add_zero] at this
  simp [Instr.storeAt, Instr.sureAddr, storeVar, sizeOf, typeInfo, hq, Value.cells, hs', this, World.setCells]
theorem opw_ostore2 {ty e : TypeId} {x y : Operand} {g i base n cap size : Nat} {u v : Value} {xs : List Value} (ho : o.op = .store ty x y) (hx : a.eval x = .pointer (some ⟨g, i, none⟩)) (hy : a.eval y = .agg #[u, v]) (hown : w.ownsRow base e size (.slice (some ⟨g, 0, none⟩) n cap) n xs) (hi : i + 1 < n * size)
  (h1 : u.oneCell' = true) (h2 : v.oneCell' = true) (hs : (P.info? ty).map (·.size) = some 2) (hk : ∀ w', w'.ownsRow base e size (.slice (some ⟨g, 0, none⟩) n cap) n ((xs.set i u).set (i + 1) v) → Upd g w w' → K (a.put o.dst undef) w') : o.wp P a w K Q := by
 unfold Oper.wp execOp
 simp only [ho, hx, hy, Sem.run_bind, run_store_own2 hown hi h1 h2 hs, Result.andThen_ok]
 exact hk _ ((hown.stored i u).1.stored (i + 1) v).1 (Upd.trans (upd_setCell w g i u) (upd_setCell _ g (i + 1) v))
theorem run_clear_own {base g n cap k m c : Nat} {t e ty : TypeId} {zs : Array Value} {xs : List Value} (h : w.ownsRow base e 2 (.slice (some ⟨g, 0, none⟩) n cap) n xs) (ht : P.underlying t = some (.slice e)) (hz : (zeroValue e).run P w = .ok (.agg zs) w) (hzs : zs.size = 2) (h1 : ∀ x ∈ zs.toList, x.oneCell' = true) (hk : k + m = n) :
  ∃ w' ys, (Builtin.clear_ #[t] ty #[.slice (some ⟨g, k * 2, none⟩) m c]).run P w = .ok (.tuple #[]) w' ∧ w'.ownsRow base e 2 (.slice (some ⟨g, 0, none⟩) n cap) n ys ∧ ys.take (k * 2) = xs.take (k * 2) ∧ w.grownBy w' (some g) := by
 rcases Nat.eq_zero_or_pos m with h0 | h0
 ·subst h0
  refine ⟨w, xs, ?_, h, rfl, ⟨rfl, rfl, rfl, Nat.le_refl _, fun _ _ _ => rfl⟩⟩
  simp [Builtin.clear_, run_underlying ht w]
 ·obtain ⟨cs, h3, h4, _⟩ := own_box h
  have hlen : (Builtin.zeroCells zs m).toList.length = m * 2 := by simp [Builtin.zeroCells, hzs]
  obtain ⟨ys, h5, h6, h7⟩ := own_setCells (Builtin.zeroCells zs m).toList (k * 2) w xs h
  have := run_storeCells_cells (P := P) g (k * 2) (Builtin.zeroCells zs m).toList 0 w (fun j hj => by have hc := h3.cell (k * 2 + j); rw [hlen] at hj; simp [hc]; omega) (fun j hj => h3.free _) (fun x hx => by
   simp only [Builtin.zeroCells, Array.toList_map, List.mem_map, Array.toList_range, List.mem_range] at hx
   obtain ⟨i, hi, rfl⟩ := hx
   refine h1 _ ?_
   rw [getElem!_pos zs (i % zs.size) (Nat.mod_lt _ (by omega))]
   simp)
  simp only [Nat.add_zero] at this
  refine ⟨_, ys, ?_, h5, h6, upd_gb h7⟩
  obtain ⟨m', rfl⟩ : ∃ m', m = m' + 1 := ⟨m - 1, by omega⟩
  simp [Builtin.clear_, run_underlying ht w, hz, Value.cells, this]
end

end Go.Proofs.YtihpgmbinhmmlaaGreatDoor
