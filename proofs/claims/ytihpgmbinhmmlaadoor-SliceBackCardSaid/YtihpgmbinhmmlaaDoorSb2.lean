/-
  What the statement needs, part 2.
-/
import Derived.Test.YtihpgmbinhmmlaaDoorProg
import Derived.WalkLawsBesides
import Derived.WalkSpells
import Derived.Outline
import Derived.Handy
import Derived.Deep.DeepMust
import Derived.Test.YtihpgmbinhmmlaaDoorShelf
import Derived.Lib.ItoaNum
import Derived.BigRegion
import Derived.StillTailTactics
import Derived.RangeFuncCalls
import Derived.RangeFuncBox
import Derived.RangeFuncLeaves
import Derived.Shelf.Abstract
import Derived.OwnWalkIn
import Derived.TacticsInMore
import Derived.LoopNIn
import Derived.LoopIn
import Derived.Maps.AppendAt
import Derived.Test.YtihpgmbinhmmlaaDoorSb1
namespace Go.Proofs.YtihpgmbinhmmlaaDoor
open Go.RowKit
attribute [local go_sem ↓] Go.wp_at_zero Go.wp_at_succ
set_option maxRecDepth 20000

def pcells (L : List (Nat × Nat)) : List Value := L.flatMap fun x => [.int .i64 (x.1 : Nat), .int .i64 (x.2 : Nat)]
theorem pcells_len (L : List (Nat × Nat)) : (pcells L).length = L.length * 2 := by
  induction L with
  | nil => rfl
  | cons x r ih => simp only [pcells, List.flatMap_cons, List.length_append, List.length_cons, List.length_nil] at *; omega
theorem pcells_cons (x : Nat × Nat) (L : List (Nat × Nat)) : pcells (x :: L) = .int .i64 (x.1 : Nat) :: .int .i64 (x.2 : Nat) :: pcells L := rfl
theorem pcells_at : ∀ (L : List (Nat × Nat)) (k : Nat), k < L.length → (pcells L)[k * 2]? = some (.int .i64 ((L.getD k (0, 0)).1 : Nat)) ∧ (pcells L)[k * 2 + 1]? = some (.int .i64 ((L.getD k (0, 0)).2 : Nat))
  | x :: L, 0, _ => ⟨rfl, rfl⟩
  | x :: L, k + 1, h => by
    have := pcells_at L k (by simpa using h)
    rw [pcells_cons, show (k + 1) * 2 = k * 2 + 1 + 1 by omega]
    simpa using this
theorem getD_at {α : Type} {L : List α} {j : Nat} (d : α) (h : j < L.length) : L[j]? = some (L.getD j d) := by
  rw [List.getD_eq_getElem?_getD, List.getElem?_eq_getElem h]; rfl
def rowI (f : Nat → Int) (n : Nat) : List Int := (List.range n).map f
theorem rowI_len (f : Nat → Int) (n : Nat) : (rowI f n).length = n := by simp [rowI]
theorem rowI_at {f : Nat → Int} {n k : Nat} (h : k < n) : (ints (rowI f n))[k]? = some (.int .i64 (f k)) := by simp [ints, rowI, h]
theorem rowI_ext {f g : Nat → Int} {n : Nat} (h : ∀ k, k < n → f k = g k) : rowI f n = rowI g n := List.map_congr_left fun k hk => h k (List.mem_range.1 hk)
theorem rowI_set (f : Nat → Int) (n k : Nat) (v : Int) : (ints (rowI f n)).set k (.int .i64 v) = ints (rowI (fun y => if y = k then v else f y) n) := by
  apply List.ext_getElem
  · simp [ints, rowI]
  · intro j h1 h2
    simp only [ints, rowI, List.getElem_set, List.getElem_map, List.getElem_range]
    by_cases e : k = j
    · subst e; simp
    · rw [if_neg e, if_neg (fun h => e h.symm)]
theorem rowI_zero (n : Nat) : rowI (fun _ => 0) n = List.replicate n 0 := by
  apply List.ext_getElem <;> simp [rowI]
theorem ints_rep (n : Nat) : (madeCells #[Value.int .i64 0] (n * 1)).toList = ints (List.replicate n 0) := by
  rw [Nat.mul_one, toList_madeCells_one]; simp [ints]
def idxI (xs : List Int) (v : Int) : Int := if v ∈ xs then (xs.idxOf v : Nat) else -1
theorem idxI_some {xs : List Int} {v : Int} {k : Nat} (h : k < xs.length) (hk : xs.getD k 0 = v) (hn : ∀ j, j < k → xs.getD j 0 ≠ v) : idxI xs v = (k : Int) := by
  have hm : v ∈ xs := by
    rw [← hk, List.getD_eq_getElem?_getD, List.getElem?_eq_getElem h]; exact List.getElem_mem h
  rw [idxI, if_pos hm]
  have h1 : xs.idxOf v < xs.length := List.idxOf_lt_length_iff.2 hm
  have h2 : xs.getD (xs.idxOf v) 0 = v := by
    rw [List.getD_eq_getElem?_getD, List.getElem?_eq_getElem h1]; exact List.getElem_idxOf h1
  have h3 : ¬ xs.idxOf v < k := fun h => hn _ h h2
  have h4 : ¬ k < xs.idxOf v := fun h => by
    have := List.not_of_lt_findIdx (p := (· == v)) (xs := xs) (by exact h)
    rw [List.getD_eq_getElem?_getD, List.getElem?_eq_getElem (by omega)] at hk
    simp at this hk
    exact this hk
  omega
theorem idxI_none {xs : List Int} {v : Int} (hn : ∀ j, j < xs.length → xs.getD j 0 ≠ v) : idxI xs v = -1 := by
  rw [idxI, if_neg]
  intro hm
  obtain ⟨k, hk, e⟩ := List.getElem_of_mem hm
  exact hn k hk (by rw [List.getD_eq_getElem?_getD, List.getElem?_eq_getElem hk]; exact e)
theorem idxI_cases (xs : List Int) (v : Int) : (∃ k, k < xs.length ∧ idxI xs v = ((k : Nat) : Int) ∧ xs.getD k 0 = v) ∨ idxI xs v = -1 ∧ ∀ j, j < xs.length → xs.getD j 0 ≠ v := by
  by_cases h : v ∈ xs
  · left
    have h1 : xs.idxOf v < xs.length := List.idxOf_lt_length_iff.2 h
    refine ⟨_, h1, by rw [idxI, if_pos h], ?_⟩
    rw [List.getD_eq_getElem?_getD, List.getElem?_eq_getElem h1]; exact List.getElem_idxOf h1
  · right
    refine ⟨by rw [idxI, if_neg h], fun j hj e => h ?_⟩
    rw [List.getD_eq_getElem?_getD, List.getElem?_eq_getElem hj] at e
    rw [← e]; exact List.getElem_mem hj
theorem rowI_getD {f : Nat → Int} {n k : Nat} (h : k < n) : (rowI f n).getD k 0 = f k := by simp [rowI, List.getD_eq_getElem?_getD, h]
theorem sindex_any (p : Value) (xs : List Int) (v : Int) (hl : xs.length ≤ 1000000000) (w0 : World) (D : Nat → Prop) (hp : Sl w0 D 1 p xs.length (ints xs)) :
    Calls Tryd.prog 49 #[p, .int .i64 v] w0 (Ret (fun x _ => x = .int .i64 (idxI xs v)) w0) := by
  obtain ⟨A, c, rfl, _, _⟩ := hp.shape
  obtain ⟨K, hk, hS⟩ : ∃ K : (Nat → Prop) → World → Prop, (∀ D w, K D w → Sl w D 1 (.slice A xs.length c) xs.length (ints xs)) ∧ St w0 w0 [] K := ⟨_, fun _ _ h => h, St.start stable_sl hp⟩
  clear hp
  have HS := Lib.hid (fun (k : Nat) => @idxI_some xs v k)
  have HN := Lib.hid (@idxI_none xs v)
  generalize idxI xs v = R at *
  go_enter Tryd.func49, Tryd.ntmps49
  go_wp2_with fail
  go_loopw [8] (fun i wr => ∃ k : Nat, k ≤ xs.length ∧ i = .int .i64 k ∧ Hid (∀ j, j < k → xs.getD j 0 ≠ v) ∧ St w0 wr [] K) (fun i _ => xs.length - (intOf i).toNat)
  case atStart => exact ⟨0, by omega, rfl, Lib.hid (fun j h => absurd h (by omega)), hS⟩
  case round =>
    clear hS
    obtain ⟨k, hk2, rfl, HJ, hS⟩ := hrel
    by_cases hlt : k < xs.length
    · have f1 := ints_at xs k hlt
      by_cases hx : xs.getD k 0 = v
      · have H1 := Lib.hid (HS.out k hlt hx HJ.out)
        rw [hx] at f1
        clear hx
        go_wp2_with (first | ((with_reducible show wpList _ _ _ (⟨_, .binOp _ _ _ _ _, _, _, _, _⟩ :: _) _ _); (first | (refine st_lss rfl _ _ _ _ rfl _ _ _ rfl rfl (fun h_ => ?_) (fun h_ => ?_)) | (refine st_leq rfl _ _ _ _ rfl _ _ _ rfl rfl (fun h_ => ?_) (fun h_ => ?_)) | (refine st_gtr rfl _ _ _ _ rfl _ _ _ rfl rfl (fun h_ => ?_) (fun h_ => ?_)) | (refine st_geq rfl _ _ _ _ rfl _ _ _ rfl rfl (fun h_ => ?_) (fun h_ => ?_)) | (refine st_eql rfl _ _ _ _ rfl _ _ _ rfl rfl (fun h_ => ?_) (fun h_ => ?_)) | (refine st_neq rfl _ _ _ _ rfl _ _ _ rfl rfl (fun h_ => ?_) (fun h_ => ?_))) <;> go_prune) | ((with_reducible show wpList _ _ _ (⟨_, .indexAddr _ _ _, _, _, _, _⟩ :: _) _ _); refine st_iaddr1 hS rfl _ _ _ rfl _ rfl rfl (by assumption) Tryd.underlying22 (by kernel_rfl) (by first | assumption | omega) _ (by assumption) ?_; intro p_ hc_))
        go_ret
        exact Ret.mk (congrArg (Value.int .i64) H1.out.symm) hS.below
      · have H2 := Lib.hid (fun (j : Nat) (hj : j < k + 1) => show xs.getD j 0 ≠ v from if e : j = k then e ▸ hx else HJ.out j (by omega))
        generalize xs.getD k 0 = x at *
        have hx' : ¬ v = x := fun e => hx e.symm
        go_wp2_with (first | ((with_reducible show wpList _ _ _ (⟨_, .binOp _ _ _ _ _, _, _, _, _⟩ :: _) _ _); (first | (refine st_lss rfl _ _ _ _ rfl _ _ _ rfl rfl (fun h_ => ?_) (fun h_ => ?_)) | (refine st_leq rfl _ _ _ _ rfl _ _ _ rfl rfl (fun h_ => ?_) (fun h_ => ?_)) | (refine st_gtr rfl _ _ _ _ rfl _ _ _ rfl rfl (fun h_ => ?_) (fun h_ => ?_)) | (refine st_geq rfl _ _ _ _ rfl _ _ _ rfl rfl (fun h_ => ?_) (fun h_ => ?_)) | (refine st_eql rfl _ _ _ _ rfl _ _ _ rfl rfl (fun h_ => ?_) (fun h_ => ?_)) | (refine st_neq rfl _ _ _ _ rfl _ _ _ rfl rfl (fun h_ => ?_) (fun h_ => ?_))) <;> go_prune) | ((with_reducible show wpList _ _ _ (⟨_, .indexAddr _ _ _, _, _, _, _⟩ :: _) _ _); refine st_iaddr1 hS rfl _ _ _ rfl _ rfl rfl (by assumption) Tryd.underlying22 (by kernel_rfl) (by first | assumption | omega) _ (by assumption) ?_; intro p_ hc_))
        exact ⟨⟨k + 1, hlt, by go_num, H2, hS⟩, by simp [intOf]; omega⟩
    · obtain rfl : k = xs.length := by omega
      go_wp2_with (first | ((with_reducible show wpList _ _ _ (⟨_, .binOp _ _ _ _ _, _, _, _, _⟩ :: _) _ _); (first | (refine st_lss rfl _ _ _ _ rfl _ _ _ rfl rfl (fun h_ => ?_) (fun h_ => ?_)) | (refine st_leq rfl _ _ _ _ rfl _ _ _ rfl rfl (fun h_ => ?_) (fun h_ => ?_)) | (refine st_gtr rfl _ _ _ _ rfl _ _ _ rfl rfl (fun h_ => ?_) (fun h_ => ?_)) | (refine st_geq rfl _ _ _ _ rfl _ _ _ rfl rfl (fun h_ => ?_) (fun h_ => ?_)) | (refine st_eql rfl _ _ _ _ rfl _ _ _ rfl rfl (fun h_ => ?_) (fun h_ => ?_)) | (refine st_neq rfl _ _ _ _ rfl _ _ _ rfl rfl (fun h_ => ?_) (fun h_ => ?_))) <;> go_prune))
      go_ret
      exact Ret.mk (congrArg (Value.int .i64) (HN.out HJ.out).symm) hS.below
theorem ty_pairs : SliceTy Tryd.prog 62 63 2 16 := ⟨Tryd.underlying62, by kernel_rfl⟩
theorem fresh_pair {L : List (Nat × Nat)} {S : List Nat} {k : Nat} (hT : Topo L S) (hk : k ∉ S) (hp : ∀ x, (x, k) ∈ L → x ∈ S) {x : Nat × Nat} (hx : x ∈ L) (e : x.1 = k) : x.2 ≠ k ∧ x.2 ∉ S := by
  obtain ⟨a, b⟩ := x
  dsimp only at *
  subst e
  refine ⟨fun e => ?_, fun hb => ?_⟩
  · subst e; exact hk (hp _ hx)
  · obtain ⟨i, hi⟩ := List.mem_iff_getElem?.1 hb
    exact hk (List.mem_of_mem_take (hT.2 i b hi a hx))
theorem cntTo_le (L : List (Nat × Nat)) (j y : Nat) : cntTo L j y ≤ L.length := by
  unfold cntTo
  exact Nat.le_trans (List.length_filter_le _ _) (by rw [List.length_take]; omega)
theorem leftTo_bound (L : List (Nat × Nat)) (S : List Nat) (k j y : Nat) : -((L.length : Nat) : Int) - 1 ≤ leftTo L S k j y ∧ leftTo L S k j y ≤ (L.length : Nat) := by
  unfold leftTo
  have h1 := List.length_filter_le (fun x : Nat × Nat => decide (x.2 = y ∧ x.1 ∉ S)) L
  have h2 := List.length_filter_le (fun x : Nat × Nat => decide (x.2 = y ∧ x.1 = k)) (L.take j)
  have h3 : (L.take j).length ≤ L.length := by rw [List.length_take]; omega
  split
  · omega
  · split <;> omega
def lenAt (w : World) (p : Addr) : Nat := match w.cell? p with | some (.slice _ m _) => m | _ => 0
theorem lenAt_of {w : World} {p : Addr} {A : Option Addr} {m c : Nat} (h : w.cell? p = some (.slice A m c)) : lenAt w p = m := by simp [lenAt, h]
set_option maxHeartbeats 1000000 in
theorem osort_any {w0 w : World} {F0 : List Fact} {K : (Nat → Prop) → World → Prop} (q n : Nat) (L : List (Nat × Nat)) (pv : Value) (hn : n ≤ 256) (hL : Inr n L) (hl : L.length ≤ 1000000) (hS : St w0 w (.box q 69 #[.int .i64 (n : Nat), pv, .slice none 0 0, .slice none 0 0, .slice none 0 0] :: F0) K)
    (kp : ∀ D w, K D w → Sl w D 2 pv L.length (pcells L)) :
    Calls Tryd.prog 31 #[.pointer (some ⟨q, 0, none⟩)] w fun e w' => ∃ (b : Bool) (S : List Nat) (sv : Value), e = .returned (.bool b) ∧ (b = true → Acyc L ∧ Topo L S ∧ S.length = n ∧ ∀ y ∈ S, y < n) ∧ (b = false → ¬ Acyc L) ∧
      St w0 w' (.own sv 3 1 S.length (ints (natInts S)) :: .box q 69 #[.int .i64 (n : Nat), pv, .slice none 0 0, .slice none 0 0, sv] :: F0) K := by
  obtain ⟨A, c, rfl, _, _⟩ := (kp _ _ hS.ro).shape
  have HL := Lib.hid hL
  have HC0 := Lib.hid (show rowI (fun y => (cntTo L 0 y : Int)) n = List.replicate n 0 by rw [← rowI_zero]; exact rowI_ext fun k _ => by simp [cntTo])
  clear hL
  go_enter Tryd.func31, Tryd.ntmps31
  go_wp2_with (first
    | ((with_reducible show wpList _ _ _ (⟨_, .load _ _, _, _, _, _⟩ :: _) _ _); first | (refine st_cell hS 0 rfl _ _ rfl _ _ rfl _ _ rfl (by decide +kernel) _ (by first | assumption | rfl) ?_) | (refine st_cell hS 1 rfl _ _ rfl _ _ rfl _ _ rfl (by decide +kernel) _ (by first | assumption | rfl) ?_) | (refine st_cell hS 2 rfl _ _ rfl _ _ rfl _ _ rfl (by decide +kernel) _ (by first | assumption | rfl) ?_) | (refine st_cell hS 3 rfl _ _ rfl _ _ rfl _ _ rfl (by decide +kernel) _ (by first | assumption | rfl) ?_) | (refine st_cell hS 4 rfl _ _ rfl _ _ rfl _ _ rfl (by decide +kernel) _ (by first | assumption | rfl) ?_) | (refine st_cell hS 5 rfl _ _ rfl _ _ rfl _ _ rfl (by decide +kernel) _ (by first | assumption | rfl) ?_) | (refine st_cell hS 6 rfl _ _ rfl _ _ rfl _ _ rfl (by decide +kernel) _ (by first | assumption | rfl) ?_) | (refine st_cell hS 7 rfl _ _ rfl _ _ rfl _ _ rfl (by decide +kernel) _ (by first | assumption | rfl) ?_))
    | ((with_reducible show wpList _ _ _ (⟨_, .makeSlice _ _ _, _, _, _, _⟩ :: _) _ _); refine st_mk hS rfl _ _ _ rfl ty_ints .i64 .i64 n #[.int .i64 0] rfl rfl (by kernel_rfl) (by omega) (by omega) ?_; clear hS; intro g3 w_ hS))
  rw [ints_rep, ← HC0.out] at hS
  go_loopw [19] (fun i wr => ∃ j : Nat, j ≤ L.length ∧ i = .int .i64 j ∧ St w0 wr (.own (.slice (some ⟨g3, 0, none⟩) n n) 3 1 n (ints (rowI (fun y => (cntTo L j y : Int)) n)) :: .box q 69 #[.int .i64 (n : Nat), .slice A L.length c, .slice none 0 0, .slice none 0 0, .slice none 0 0] :: F0) K) (fun i _ => L.length - (intOf i).toNat)
  case atStart => exact ⟨0, by omega, rfl, hS⟩
  case round =>
    clear hS
    obtain ⟨j, hj, rfl, hS⟩ := hrel
    by_cases hlt : j < L.length
    · obtain ⟨f1, f2⟩ := pcells_at L j hlt
      have HG := Lib.hid (getD_at (0, 0) hlt)
      have hm := HL.out (L.getD j (0, 0)) (by rw [List.getD_eq_getElem?_getD, List.getElem?_eq_getElem hlt]; exact List.getElem_mem hlt)
      generalize L.getD j (0, 0) = x at *
      obtain ⟨a, b⟩ := x
      dsimp only at f1 f2 hm
      obtain ⟨ha, hb⟩ := hm
      have HC := Lib.hid (show (fun y => ((cntTo L (j + 1) y : Nat) : Int)) = fun y => if y = b then ((cntTo L j b : Nat) : Int) + 1 else ((cntTo L j y : Nat) : Int) from funext fun y => by
        rw [cntTo_step HG.out]
        by_cases e : y = b
        · subst e; rw [if_pos rfl, if_pos rfl]; push_cast; rfl
        · rw [if_neg e, if_neg (fun h => e h.symm)])
      have hcn := cntTo_le L j b
      go_wp2_with (first
        | ((with_reducible show wpList _ _ _ (⟨_, .binOp _ _ _ _ _, _, _, _, _⟩ :: _) _ _); (first | (refine st_lss rfl _ _ _ _ rfl _ _ _ rfl rfl (fun h_ => ?_) (fun h_ => ?_)) | (refine st_leq rfl _ _ _ _ rfl _ _ _ rfl rfl (fun h_ => ?_) (fun h_ => ?_)) | (refine st_gtr rfl _ _ _ _ rfl _ _ _ rfl rfl (fun h_ => ?_) (fun h_ => ?_)) | (refine st_geq rfl _ _ _ _ rfl _ _ _ rfl rfl (fun h_ => ?_) (fun h_ => ?_)) | (refine st_eql rfl _ _ _ _ rfl _ _ _ rfl rfl (fun h_ => ?_) (fun h_ => ?_)) | (refine st_neq rfl _ _ _ _ rfl _ _ _ rfl rfl (fun h_ => ?_) (fun h_ => ?_))) <;> go_prune)
        | ((with_reducible show wpList _ _ _ (⟨_, .indexAddr _ _ _, _, _, _, _⟩ :: _) _ _); refine st_iaddr2 hS rfl _ _ _ rfl _ rfl rfl (by assumption) Tryd.underlying62 (by kernel_rfl) (by first | assumption | omega) _ _ (by assumption) (by assumption) ?_; intro b_ j_ hc0_ hc1_)
        | ((with_reducible show wpList _ _ _ (⟨some 5, _, _, _, _, _⟩ :: _) _ _); refine st_alloc hS rfl _ rfl (by kernel_rfl) ?_; clear hS; intro g5 w_ hS; (try simp only [Act.put, Act.eval, List.set_cons_zero, List.set_cons_succ, List.setIfInBounds_toArray, Array.getD_eq_getD_getElem?, List.getElem?_toArray, List.getElem?_cons_succ, List.getElem?_cons_zero, Option.getD_some, Value.cells] at hS))
        | ((with_reducible show wpList _ _ _ (⟨_, .store 3 _ _, _, _, _, _⟩ :: _) _ _); refine st_ostore hS 1 rfl _ _ _ rfl _ (b) (.int .i64 (((cntTo L j b : Nat) : Int) + 1)) rfl (rfl) rfl (by omega) rfl rfl (by kernel_rfl) ?_; clear hS; intro w_ hS; (try simp only [Act.put, Act.eval, List.set_cons_zero, List.set_cons_succ, List.setIfInBounds_toArray, Array.getD_eq_getD_getElem?, List.getElem?_toArray, List.getElem?_cons_succ, List.getElem?_cons_zero, Option.getD_some, Value.cells] at hS))
        | ((with_reducible show wpList _ _ _ (⟨some 27, _, _, _, _, _⟩ :: _) _ _); refine BigFrame.wpList_want rfl fun _ hK => opw_cell rfl rfl (by kernel_rfl) (own_cell (hS.own 1 rfl) _ _ (rowI_at hb)) (hK _ _ ?_))
        | ((with_reducible show wpList _ _ _ (⟨_, .store _ _ _, _, _, _, _⟩ :: _) _ _); (first | (refine st_store hS 0 rfl _ _ _ rfl _ _ rfl rfl _ _ rfl (by kernel_rfl) (by kernel_rfl) (by kernel_rfl) ?_) | (refine st_store hS 1 rfl _ _ _ rfl _ _ rfl rfl _ _ rfl (by kernel_rfl) (by kernel_rfl) (by kernel_rfl) ?_) | (refine st_store hS 2 rfl _ _ _ rfl _ _ rfl rfl _ _ rfl (by kernel_rfl) (by kernel_rfl) (by kernel_rfl) ?_) | (refine st_store hS 3 rfl _ _ _ rfl _ _ rfl rfl _ _ rfl (by kernel_rfl) (by kernel_rfl) (by kernel_rfl) ?_) | (refine st_cstore hS 0 rfl _ _ _ rfl _ _ _ rfl rfl rfl (by first | (simp; done) | (simp; omega) | exact of_decide_eq_true (by kernel_rfl)) rfl (by first | rfl | assumption) (by kernel_rfl) ?_) | (refine st_cstore hS 1 rfl _ _ _ rfl _ _ _ rfl rfl rfl (by first | (simp; done) | (simp; omega) | exact of_decide_eq_true (by kernel_rfl)) rfl (by first | rfl | assumption) (by kernel_rfl) ?_) | (refine st_cstore hS 2 rfl _ _ _ rfl _ _ _ rfl rfl rfl (by first | (simp; done) | (simp; omega) | exact of_decide_eq_true (by kernel_rfl)) rfl (by first | rfl | assumption) (by kernel_rfl) ?_) | (refine st_cstore hS 3 rfl _ _ _ rfl _ _ _ rfl rfl rfl (by first | (simp; done) | (simp; omega) | exact of_decide_eq_true (by kernel_rfl)) rfl (by first | rfl | assumption) (by kernel_rfl) ?_)); clear hS; intro w_ hS; (try simp only [Act.put, Act.eval, List.set_cons_zero, List.set_cons_succ, List.setIfInBounds_toArray, Array.getD_eq_getD_getElem?, List.getElem?_toArray, List.getElem?_cons_succ, List.getElem?_cons_zero, Option.getD_some, Value.cells] at hS))
        | ((with_reducible show wpList _ _ _ (⟨_, .load _ _, _, _, _, _⟩ :: _) _ _); first | (refine st_cell hS 0 rfl _ _ rfl _ _ rfl _ _ rfl (by decide +kernel) _ (by first | assumption | rfl) ?_) | (refine st_cell hS 1 rfl _ _ rfl _ _ rfl _ _ rfl (by decide +kernel) _ (by first | assumption | rfl) ?_) | (refine st_cell hS 2 rfl _ _ rfl _ _ rfl _ _ rfl (by decide +kernel) _ (by first | assumption | rfl) ?_) | (refine st_cell hS 3 rfl _ _ rfl _ _ rfl _ _ rfl (by decide +kernel) _ (by first | assumption | rfl) ?_) | (refine st_cell hS 4 rfl _ _ rfl _ _ rfl _ _ rfl (by decide +kernel) _ (by first | assumption | rfl) ?_) | (refine st_cell hS 5 rfl _ _ rfl _ _ rfl _ _ rfl (by decide +kernel) _ (by first | assumption | rfl) ?_) | (refine st_cell hS 6 rfl _ _ rfl _ _ rfl _ _ rfl (by decide +kernel) _ (by first | assumption | rfl) ?_) | (refine st_cell hS 7 rfl _ _ rfl _ _ rfl _ _ rfl (by decide +kernel) _ (by first | assumption | rfl) ?_)))
      rw [rowI_set, ← HC.out] at hS
      exact ⟨⟨j + 1, hlt, by go_num, hS.sub (.cons _ (.refl _))⟩, by simp [intOf]; omega⟩
    · obtain rfl : j = L.length := by omega
      have HC1 := Lib.hid (show (fun y => ((cntTo L L.length y : Nat) : Int)) = leftOf L [] from funext fun y => cntTo_full L y)
      rw [HC1.out] at hS
      clear HC1 hlt hj
      go_wp2_with (first | ((with_reducible show wpList _ _ _ (⟨_, .binOp _ _ _ _ _, _, _, _, _⟩ :: _) _ _); (first | (refine st_lss rfl _ _ _ _ rfl _ _ _ rfl rfl (fun h_ => ?_) (fun h_ => ?_)) | (refine st_leq rfl _ _ _ _ rfl _ _ _ rfl rfl (fun h_ => ?_) (fun h_ => ?_)) | (refine st_gtr rfl _ _ _ _ rfl _ _ _ rfl rfl (fun h_ => ?_) (fun h_ => ?_)) | (refine st_geq rfl _ _ _ _ rfl _ _ _ rfl rfl (fun h_ => ?_) (fun h_ => ?_)) | (refine st_eql rfl _ _ _ _ rfl _ _ _ rfl rfl (fun h_ => ?_) (fun h_ => ?_)) | (refine st_neq rfl _ _ _ _ rfl _ _ _ rfl rfl (fun h_ => ?_) (fun h_ => ?_))) <;> go_prune))
      replace hS := (hS.nil 3 1)
      go_loopw [2] (fun r wr => ∃ (S : List Nat) (sv : Value), r = .bool false ∧ S.length ≤ n ∧ Hid (Topo L S ∧ ∀ y ∈ S, y < n) ∧ St w0 wr (.own (.slice (some ⟨g3, 0, none⟩) n n) 3 1 n (ints (rowI (leftOf L S) n)) :: .own sv 3 1 S.length (ints (natInts S)) :: .box q 69 #[.int .i64 (n : Nat), .slice A L.length c, .slice none 0 0, .slice none 0 0, sv] :: F0) K) (fun _ wr => n - lenAt wr ⟨q, 4, none⟩)
      case atStart => exact ⟨[], _, rfl, by simp, Lib.hid ⟨Topo.nil L, by simp⟩, hS.swap⟩
      case round =>
        clear hS
        obtain ⟨S, sv, rfl, hSl, HT, hS⟩ := hrel
        obtain ⟨B, cB, rfl, _, _⟩ := own_shp (hS.own 1 rfl)
        have hc0 : wr.cell? ⟨q, 0, none⟩ = some (.int .i64 (n : Nat)) := (hS.box 2 rfl).cell 0
        have hc4 : wr.cell? ⟨q, 4, none⟩ = some (.slice B S.length cB) := (hS.box 2 rfl).cell 4
        have HLA := Lib.hid (lenAt_of hc4)
        have HI := Lib.hid (sindex_any (.slice (some ⟨g3, 0, none⟩) n n) (rowI (leftOf L S) n) 0 (by rw [rowI_len]; omega))
        have HR := Lib.hid (rowI_len (leftOf L S) n)
        by_cases hlt : S.length < n
        · rcases idxI_cases (rowI (leftOf L S) n) 0 with ⟨k, hk, hR, hk0⟩ | ⟨hR, hno⟩
          · rw [hR] at HI
            rw [rowI_len] at hk
            rw [rowI_getD hk] at hk0
            have HK0 := Lib.hid (leftOf_zero.1 hk0)
            clear hR hk0
            go_wp2_with (first | go_region)
            replace hS := hS.drew
            have hs := Sl.of_own (hS.own 0 rfl)
            generalize wr.drew = W2 at *
            have hs2 : Sl W2 (w0.heap.size ≤ ·) 1 (.slice (some ⟨g3, 0, none⟩) n n) (rowI (leftOf L S) n).length (ints (rowI (leftOf L S) n)) := by rw [HR.out]; exact hs
            refine (HI.out W2 _ hs2).mono ?_
            rintro r_ w3 ⟨_, rfl, rfl, hb3⟩
            replace hS := hS.ext hb3
            clear hb3 hs hs2 hc0 hc4
            go_wp2_with (first
              | ((with_reducible show wpList _ _ _ (⟨_, .binOp _ _ _ _ _, _, _, _, _⟩ :: _) _ _); (first | (refine st_lss rfl _ _ _ _ rfl _ _ _ rfl rfl (fun h_ => ?_) (fun h_ => ?_)) | (refine st_leq rfl _ _ _ _ rfl _ _ _ rfl rfl (fun h_ => ?_) (fun h_ => ?_)) | (refine st_gtr rfl _ _ _ _ rfl _ _ _ rfl rfl (fun h_ => ?_) (fun h_ => ?_)) | (refine st_geq rfl _ _ _ _ rfl _ _ _ rfl rfl (fun h_ => ?_) (fun h_ => ?_)) | (refine st_eql rfl _ _ _ _ rfl _ _ _ rfl rfl (fun h_ => ?_) (fun h_ => ?_)) | (refine st_neq rfl _ _ _ _ rfl _ _ _ rfl rfl (fun h_ => ?_) (fun h_ => ?_))) <;> go_prune)
              | ((with_reducible show wpList _ _ _ (⟨_, .store 3 _ _, _, _, _, _⟩ :: _) _ _); refine st_ostore hS 0 rfl _ _ _ rfl _ (k) (.int .i64 (-1)) rfl (rfl) rfl (by omega) rfl rfl (by kernel_rfl) ?_; clear hS; intro w_ hS; (try simp only [Act.put, Act.eval, List.set_cons_zero, List.set_cons_succ, List.setIfInBounds_toArray, Array.getD_eq_getD_getElem?, List.getElem?_toArray, List.getElem?_cons_succ, List.getElem?_cons_zero, Option.getD_some, Value.cells] at hS))
              | (((with_reducible show wpList _ _ _ (⟨_, .buildSlice _ 1 _, _, _, _, _⟩ :: _) _ _); refine st_push hS 1 rfl rfl _ _ _ _ rfl rfl ty_ints _ _ _ (.int .i64 (k : Nat)) #[.int .i64 (k : Nat)] rfl (by kernel_rfl) rfl rfl rfl rfl (by intro u hu; simp at hu; first | (subst hu; rfl) | (rcases hu with rfl | rfl <;> rfl)) (by omega) (by omega) ?_; clear hS; intro z_ v_ w_ hS; (try simp only [Act.put, Act.eval, List.set_cons_zero, List.set_cons_succ, List.setIfInBounds_toArray, Array.getD_eq_getD_getElem?, List.getElem?_toArray, List.getElem?_cons_succ, List.getElem?_cons_zero, Option.getD_some, Value.cells] at hS)); obtain ⟨gp, cp, rfl, _, _⟩ := own_pos (hS.own 1 rfl) (Nat.succ_pos _))
              | ((with_reducible show wpList _ _ _ (⟨_, .store _ _ _, _, _, _, _⟩ :: _) _ _); (first | (refine st_store hS 0 rfl _ _ _ rfl _ _ rfl rfl _ _ rfl (by kernel_rfl) (by kernel_rfl) (by kernel_rfl) ?_) | (refine st_store hS 1 rfl _ _ _ rfl _ _ rfl rfl _ _ rfl (by kernel_rfl) (by kernel_rfl) (by kernel_rfl) ?_) | (refine st_store hS 2 rfl _ _ _ rfl _ _ rfl rfl _ _ rfl (by kernel_rfl) (by kernel_rfl) (by kernel_rfl) ?_) | (refine st_store hS 3 rfl _ _ _ rfl _ _ rfl rfl _ _ rfl (by kernel_rfl) (by kernel_rfl) (by kernel_rfl) ?_) | (refine st_cstore hS 0 rfl _ _ _ rfl _ _ _ rfl rfl rfl (by first | (simp; done) | (simp; omega) | exact of_decide_eq_true (by kernel_rfl)) rfl (by first | rfl | assumption) (by kernel_rfl) ?_) | (refine st_cstore hS 1 rfl _ _ _ rfl _ _ _ rfl rfl rfl (by first | (simp; done) | (simp; omega) | exact of_decide_eq_true (by kernel_rfl)) rfl (by first | rfl | assumption) (by kernel_rfl) ?_) | (refine st_cstore hS 2 rfl _ _ _ rfl _ _ _ rfl rfl rfl (by first | (simp; done) | (simp; omega) | exact of_decide_eq_true (by kernel_rfl)) rfl (by first | rfl | assumption) (by kernel_rfl) ?_) | (refine st_cstore hS 3 rfl _ _ _ rfl _ _ _ rfl rfl rfl (by first | (simp; done) | (simp; omega) | exact of_decide_eq_true (by kernel_rfl)) rfl (by first | rfl | assumption) (by kernel_rfl) ?_)); clear hS; intro w_ hS; (try simp only [Act.put, Act.eval, List.set_cons_zero, List.set_cons_succ, List.setIfInBounds_toArray, Array.getD_eq_getD_getElem?, List.getElem?_toArray, List.getElem?_cons_succ, List.getElem?_cons_zero, Option.getD_some, Value.cells] at hS))
              | ((with_reducible show wpList _ _ _ (⟨_, .load _ _, _, _, _, _⟩ :: _) _ _); first | (refine st_cell hS 0 rfl _ _ rfl _ _ rfl _ _ rfl (by decide +kernel) _ (by first | assumption | rfl) ?_) | (refine st_cell hS 1 rfl _ _ rfl _ _ rfl _ _ rfl (by decide +kernel) _ (by first | assumption | rfl) ?_) | (refine st_cell hS 2 rfl _ _ rfl _ _ rfl _ _ rfl (by decide +kernel) _ (by first | assumption | rfl) ?_) | (refine st_cell hS 3 rfl _ _ rfl _ _ rfl _ _ rfl (by decide +kernel) _ (by first | assumption | rfl) ?_) | (refine st_cell hS 4 rfl _ _ rfl _ _ rfl _ _ rfl (by decide +kernel) _ (by first | assumption | rfl) ?_) | (refine st_cell hS 5 rfl _ _ rfl _ _ rfl _ _ rfl (by decide +kernel) _ (by first | assumption | rfl) ?_) | (refine st_cell hS 6 rfl _ _ rfl _ _ rfl _ _ rfl (by decide +kernel) _ (by first | assumption | rfl) ?_) | (refine st_cell hS 7 rfl _ _ rfl _ _ rfl _ _ rfl (by decide +kernel) _ (by first | assumption | rfl) ?_)))
            have HL0 := Lib.hid (show (fun y => if y = k then (-1 : Int) else leftOf L S y) = leftTo L S k 0 from funext fun y => leftTo_zero.symm)
            rw [rowI_set, HL0.out] at hS
            clear HL0 HI
            go_loopw [63] (fun i wr => ∃ j : Nat, j ≤ L.length ∧ i = .int .i64 j ∧ St w0 wr (.own (.slice (some ⟨g3, 0, none⟩) n n) 3 1 n (ints (rowI (leftTo L S k j) n)) :: .own (.slice (some ⟨gp, 0, none⟩) (S.length + 1) cp) 3 1 (S.length + 1) (ints (natInts S) ++ [.int .i64 (k : Nat)]) :: .box q 69 #[.int .i64 (n : Nat), .slice A L.length c, .slice none 0 0, .slice none 0 0, .slice (some ⟨gp, 0, none⟩) (S.length + 1) cp] :: F0) K) (fun i _ => L.length - (intOf i).toNat)
            case atStart => exact ⟨0, by omega, rfl, hS⟩
            case round =>
              clear hS
              obtain ⟨j, hj, rfl, hS⟩ := hrel
              by_cases hlj : j < L.length
              · obtain ⟨f1, f2⟩ := pcells_at L j hlj
                have HG := Lib.hid (getD_at (0, 0) hlj)
                have hmem : L.getD j (0, 0) ∈ L := by rw [List.getD_eq_getElem?_getD, List.getElem?_eq_getElem hlj]; exact List.getElem_mem hlj
                have hm := HL.out _ hmem
                have HF := Lib.hid (fresh_pair HT.out.1 HK0.out.1 HK0.out.2 hmem)
                clear hmem
                generalize L.getD j (0, 0) = x at *
                obtain ⟨a, b⟩ := x
                dsimp only at f1 f2 hm
                obtain ⟨ha, hb⟩ := hm
                have HST := Lib.hid (fun y => leftTo_step (L := L) (S := S) (k := k) (j := j) HG.out HF.out y)
                have hbd := leftTo_bound L S k j b
                by_cases hak : a = k
                · have HC := Lib.hid (show leftTo L S k (j + 1) = fun y => if y = b then leftTo L S k j b - 1 else leftTo L S k j y from funext fun y => by
                    rw [HST.out y]
                    by_cases e : y = b
                    · rw [if_pos ⟨hak, e.symm⟩, if_pos e, e]
                    · rw [if_neg (fun h => e h.2.symm), if_neg e])
                  have hval := rowI_at (f := leftTo L S k j) hb
                  have HV := Lib.hid hval
                  clear hval
                  generalize leftTo L S k j b = lv at *
                  subst hak
                  go_wp2_with (first
                    | ((with_reducible show wpList _ _ _ (⟨_, .binOp _ _ _ _ _, _, _, _, _⟩ :: _) _ _); (first | (refine st_lss rfl _ _ _ _ rfl _ _ _ rfl rfl (fun h_ => ?_) (fun h_ => ?_)) | (refine st_leq rfl _ _ _ _ rfl _ _ _ rfl rfl (fun h_ => ?_) (fun h_ => ?_)) | (refine st_gtr rfl _ _ _ _ rfl _ _ _ rfl rfl (fun h_ => ?_) (fun h_ => ?_)) | (refine st_geq rfl _ _ _ _ rfl _ _ _ rfl rfl (fun h_ => ?_) (fun h_ => ?_)) | (refine st_eql rfl _ _ _ _ rfl _ _ _ rfl rfl (fun h_ => ?_) (fun h_ => ?_)) | (refine st_neq rfl _ _ _ _ rfl _ _ _ rfl rfl (fun h_ => ?_) (fun h_ => ?_))) <;> go_prune)
                    | ((with_reducible show wpList _ _ _ (⟨_, .indexAddr _ _ _, _, _, _, _⟩ :: _) _ _); refine st_iaddr2 hS rfl _ _ _ rfl _ rfl rfl (by assumption) Tryd.underlying62 (by kernel_rfl) (by first | assumption | omega) _ _ (by assumption) (by assumption) ?_; intro b_ j_ hc0_ hc1_)
                    | ((with_reducible show wpList _ _ _ (⟨some 8, _, _, _, _, _⟩ :: _) _ _); refine st_alloc hS rfl _ rfl (by kernel_rfl) ?_; clear hS; intro g8 w_ hS; (try simp only [Act.put, Act.eval, List.set_cons_zero, List.set_cons_succ, List.setIfInBounds_toArray, Array.getD_eq_getD_getElem?, List.getElem?_toArray, List.getElem?_cons_succ, List.getElem?_cons_zero, Option.getD_some, Value.cells] at hS))
                    | ((with_reducible show wpList _ _ _ (⟨_, .store 3 _ _, _, _, _, _⟩ :: _) _ _); refine st_ostore hS 1 rfl _ _ _ rfl _ (b) (.int .i64 (lv - 1)) rfl (rfl) rfl (by omega) rfl rfl (by kernel_rfl) ?_; clear hS; intro w_ hS; (try simp only [Act.put, Act.eval, List.set_cons_zero, List.set_cons_succ, List.setIfInBounds_toArray, Array.getD_eq_getD_getElem?, List.getElem?_toArray, List.getElem?_cons_succ, List.getElem?_cons_zero, Option.getD_some, Value.cells] at hS))
                    | ((with_reducible show wpList _ _ _ (⟨some 75, _, _, _, _, _⟩ :: _) _ _); refine BigFrame.wpList_want rfl fun _ hK => opw_cell rfl rfl (by kernel_rfl) (own_cell (hS.own 1 rfl) _ _ (HV.out)) (hK _ _ ?_))
                    | ((with_reducible show wpList _ _ _ (⟨_, .store _ _ _, _, _, _, _⟩ :: _) _ _); (first | (refine st_store hS 0 rfl _ _ _ rfl _ _ rfl rfl _ _ rfl (by kernel_rfl) (by kernel_rfl) (by kernel_rfl) ?_) | (refine st_store hS 1 rfl _ _ _ rfl _ _ rfl rfl _ _ rfl (by kernel_rfl) (by kernel_rfl) (by kernel_rfl) ?_) | (refine st_store hS 2 rfl _ _ _ rfl _ _ rfl rfl _ _ rfl (by kernel_rfl) (by kernel_rfl) (by kernel_rfl) ?_) | (refine st_store hS 3 rfl _ _ _ rfl _ _ rfl rfl _ _ rfl (by kernel_rfl) (by kernel_rfl) (by kernel_rfl) ?_) | (refine st_cstore hS 0 rfl _ _ _ rfl _ _ _ rfl rfl rfl (by first | (simp; done) | (simp; omega) | exact of_decide_eq_true (by kernel_rfl)) rfl (by first | rfl | assumption) (by kernel_rfl) ?_) | (refine st_cstore hS 1 rfl _ _ _ rfl _ _ _ rfl rfl rfl (by first | (simp; done) | (simp; omega) | exact of_decide_eq_true (by kernel_rfl)) rfl (by first | rfl | assumption) (by kernel_rfl) ?_) | (refine st_cstore hS 2 rfl _ _ _ rfl _ _ _ rfl rfl rfl (by first | (simp; done) | (simp; omega) | exact of_decide_eq_true (by kernel_rfl)) rfl (by first | rfl | assumption) (by kernel_rfl) ?_) | (refine st_cstore hS 3 rfl _ _ _ rfl _ _ _ rfl rfl rfl (by first | (simp; done) | (simp; omega) | exact of_decide_eq_true (by kernel_rfl)) rfl (by first | rfl | assumption) (by kernel_rfl) ?_)); clear hS; intro w_ hS; (try simp only [Act.put, Act.eval, List.set_cons_zero, List.set_cons_succ, List.setIfInBounds_toArray, Array.getD_eq_getD_getElem?, List.getElem?_toArray, List.getElem?_cons_succ, List.getElem?_cons_zero, Option.getD_some, Value.cells] at hS))
                    | ((with_reducible show wpList _ _ _ (⟨_, .load _ _, _, _, _, _⟩ :: _) _ _); first | (refine st_cell hS 0 rfl _ _ rfl _ _ rfl _ _ rfl (by decide +kernel) _ (by first | assumption | rfl) ?_) | (refine st_cell hS 1 rfl _ _ rfl _ _ rfl _ _ rfl (by decide +kernel) _ (by first | assumption | rfl) ?_) | (refine st_cell hS 2 rfl _ _ rfl _ _ rfl _ _ rfl (by decide +kernel) _ (by first | assumption | rfl) ?_) | (refine st_cell hS 3 rfl _ _ rfl _ _ rfl _ _ rfl (by decide +kernel) _ (by first | assumption | rfl) ?_) | (refine st_cell hS 4 rfl _ _ rfl _ _ rfl _ _ rfl (by decide +kernel) _ (by first | assumption | rfl) ?_) | (refine st_cell hS 5 rfl _ _ rfl _ _ rfl _ _ rfl (by decide +kernel) _ (by first | assumption | rfl) ?_) | (refine st_cell hS 6 rfl _ _ rfl _ _ rfl _ _ rfl (by decide +kernel) _ (by first | assumption | rfl) ?_) | (refine st_cell hS 7 rfl _ _ rfl _ _ rfl _ _ rfl (by decide +kernel) _ (by first | assumption | rfl) ?_)))
                  rw [rowI_set, ← HC.out] at hS
                  exact ⟨⟨j + 1, hlj, by go_num, hS.sub (.cons _ (.refl _))⟩, by simp [intOf]; omega⟩
                · have HC := Lib.hid (show leftTo L S k (j + 1) = leftTo L S k j from funext fun y => by rw [HST.out y, if_neg (fun h => hak h.1)])
                  have hak2 : ¬ (a : Int) = (k : Int) := by omega
                  go_wp2_with (first
                    | ((with_reducible show wpList _ _ _ (⟨_, .binOp _ _ _ _ _, _, _, _, _⟩ :: _) _ _); (first | (refine st_lss rfl _ _ _ _ rfl _ _ _ rfl rfl (fun h_ => ?_) (fun h_ => ?_)) | (refine st_leq rfl _ _ _ _ rfl _ _ _ rfl rfl (fun h_ => ?_) (fun h_ => ?_)) | (refine st_gtr rfl _ _ _ _ rfl _ _ _ rfl rfl (fun h_ => ?_) (fun h_ => ?_)) | (refine st_geq rfl _ _ _ _ rfl _ _ _ rfl rfl (fun h_ => ?_) (fun h_ => ?_)) | (refine st_eql rfl _ _ _ _ rfl _ _ _ rfl rfl (fun h_ => ?_) (fun h_ => ?_)) | (refine st_neq rfl _ _ _ _ rfl _ _ _ rfl rfl (fun h_ => ?_) (fun h_ => ?_))) <;> go_prune)
                    | ((with_reducible show wpList _ _ _ (⟨_, .indexAddr _ _ _, _, _, _, _⟩ :: _) _ _); refine st_iaddr2 hS rfl _ _ _ rfl _ rfl rfl (by assumption) Tryd.underlying62 (by kernel_rfl) (by first | assumption | omega) _ _ (by assumption) (by assumption) ?_; intro b_ j_ hc0_ hc1_)
                    | ((with_reducible show wpList _ _ _ (⟨some 8, _, _, _, _, _⟩ :: _) _ _); refine st_alloc hS rfl _ rfl (by kernel_rfl) ?_; clear hS; intro g8 w_ hS; (try simp only [Act.put, Act.eval, List.set_cons_zero, List.set_cons_succ, List.setIfInBounds_toArray, Array.getD_eq_getD_getElem?, List.getElem?_toArray, List.getElem?_cons_succ, List.getElem?_cons_zero, Option.getD_some, Value.cells] at hS))
                    | ((with_reducible show wpList _ _ _ (⟨_, .store _ _ _, _, _, _, _⟩ :: _) _ _); (first | (refine st_store hS 0 rfl _ _ _ rfl _ _ rfl rfl _ _ rfl (by kernel_rfl) (by kernel_rfl) (by kernel_rfl) ?_) | (refine st_store hS 1 rfl _ _ _ rfl _ _ rfl rfl _ _ rfl (by kernel_rfl) (by kernel_rfl) (by kernel_rfl) ?_) | (refine st_store hS 2 rfl _ _ _ rfl _ _ rfl rfl _ _ rfl (by kernel_rfl) (by kernel_rfl) (by kernel_rfl) ?_) | (refine st_store hS 3 rfl _ _ _ rfl _ _ rfl rfl _ _ rfl (by kernel_rfl) (by kernel_rfl) (by kernel_rfl) ?_) | (refine st_cstore hS 0 rfl _ _ _ rfl _ _ _ rfl rfl rfl (by first | (simp; done) | (simp; omega) | exact of_decide_eq_true (by kernel_rfl)) rfl (by first | rfl | assumption) (by kernel_rfl) ?_) | (refine st_cstore hS 1 rfl _ _ _ rfl _ _ _ rfl rfl rfl (by first | (simp; done) | (simp; omega) | exact of_decide_eq_true (by kernel_rfl)) rfl (by first | rfl | assumption) (by kernel_rfl) ?_) | (refine st_cstore hS 2 rfl _ _ _ rfl _ _ _ rfl rfl rfl (by first | (simp; done) | (simp; omega) | exact of_decide_eq_true (by kernel_rfl)) rfl (by first | rfl | assumption) (by kernel_rfl) ?_) | (refine st_cstore hS 3 rfl _ _ _ rfl _ _ _ rfl rfl rfl (by first | (simp; done) | (simp; omega) | exact of_decide_eq_true (by kernel_rfl)) rfl (by first | rfl | assumption) (by kernel_rfl) ?_)); clear hS; intro w_ hS; (try simp only [Act.put, Act.eval, List.set_cons_zero, List.set_cons_succ, List.setIfInBounds_toArray, Array.getD_eq_getD_getElem?, List.getElem?_toArray, List.getElem?_cons_succ, List.getElem?_cons_zero, Option.getD_some, Value.cells] at hS))
                    | ((with_reducible show wpList _ _ _ (⟨_, .load _ _, _, _, _, _⟩ :: _) _ _); first | (refine st_cell hS 0 rfl _ _ rfl _ _ rfl _ _ rfl (by decide +kernel) _ (by first | assumption | rfl) ?_) | (refine st_cell hS 1 rfl _ _ rfl _ _ rfl _ _ rfl (by decide +kernel) _ (by first | assumption | rfl) ?_) | (refine st_cell hS 2 rfl _ _ rfl _ _ rfl _ _ rfl (by decide +kernel) _ (by first | assumption | rfl) ?_) | (refine st_cell hS 3 rfl _ _ rfl _ _ rfl _ _ rfl (by decide +kernel) _ (by first | assumption | rfl) ?_) | (refine st_cell hS 4 rfl _ _ rfl _ _ rfl _ _ rfl (by decide +kernel) _ (by first | assumption | rfl) ?_) | (refine st_cell hS 5 rfl _ _ rfl _ _ rfl _ _ rfl (by decide +kernel) _ (by first | assumption | rfl) ?_) | (refine st_cell hS 6 rfl _ _ rfl _ _ rfl _ _ rfl (by decide +kernel) _ (by first | assumption | rfl) ?_) | (refine st_cell hS 7 rfl _ _ rfl _ _ rfl _ _ rfl (by decide +kernel) _ (by first | assumption | rfl) ?_)))
                  exact ⟨⟨j + 1, hlj, by go_num, by rw [HC.out]; exact hS.sub (.cons _ (.refl _))⟩, by simp [intOf]; omega⟩
              · obtain rfl : j = L.length := by omega
                have HLF := Lib.hid (show leftTo L S k L.length = leftOf L (S ++ [k]) from funext fun y => leftTo_full HK0.out.1 y)
                rw [HLF.out] at hS
                clear HLF hlj hj
                go_wp2_with (first | ((with_reducible show wpList _ _ _ (⟨_, .binOp _ _ _ _ _, _, _, _, _⟩ :: _) _ _); (first | (refine st_lss rfl _ _ _ _ rfl _ _ _ rfl rfl (fun h_ => ?_) (fun h_ => ?_)) | (refine st_leq rfl _ _ _ _ rfl _ _ _ rfl rfl (fun h_ => ?_) (fun h_ => ?_)) | (refine st_gtr rfl _ _ _ _ rfl _ _ _ rfl rfl (fun h_ => ?_) (fun h_ => ?_)) | (refine st_geq rfl _ _ _ _ rfl _ _ _ rfl rfl (fun h_ => ?_) (fun h_ => ?_)) | (refine st_eql rfl _ _ _ _ rfl _ _ _ rfl rfl (fun h_ => ?_) (fun h_ => ?_)) | (refine st_neq rfl _ _ _ _ rfl _ _ _ rfl rfl (fun h_ => ?_) (fun h_ => ?_))) <;> go_prune))
                have hS2 : St w0 wr (.own (.slice (some ⟨g3, 0, none⟩) n n) 3 1 n (ints (rowI (leftOf L (S ++ [k])) n)) :: .own (.slice (some ⟨gp, 0, none⟩) (S.length + 1) cp) 3 1 (S ++ [k]).length (ints (natInts (S ++ [k]))) :: .box q 69 #[.int .i64 (n : Nat), .slice A L.length c, .slice none 0 0, .slice none 0 0, .slice (some ⟨gp, 0, none⟩) (S.length + 1) cp] :: F0) K := by
                  have e1 : (S ++ [k]).length = S.length + 1 := by simp
                  have e2 : ints (natInts (S ++ [k])) = ints (natInts S) ++ [.int .i64 (k : Nat)] := by simp [ints, natInts]
                  rw [e1, e2]; exact hS
                have h4 : lenAt wr ⟨q, 4, none⟩ = S.length + 1 := lenAt_of ((hS2.box 2 rfl).cell 4)
                refine ⟨⟨S ++ [k], by simp; omega, Lib.hid ⟨HT.out.1.snoc HK0.out.1 HK0.out.2, fun y hy => ?_⟩, _, hS2⟩, by rw [h4, HLA.out]; omega⟩
                rcases List.mem_append.1 hy with h | h
                · exact HT.out.2 y h
                · rw [List.mem_singleton] at h; rw [h]; exact hk
          · rw [hR] at HI
            rw [rowI_len] at hno
            clear hR
            go_wp2_with (first | go_region)
            replace hS := hS.drew
            have hs := Sl.of_own (hS.own 0 rfl)
            generalize wr.drew = W2 at *
            have hs2 : Sl W2 (w0.heap.size ≤ ·) 1 (.slice (some ⟨g3, 0, none⟩) n n) (rowI (leftOf L S) n).length (ints (rowI (leftOf L S) n)) := by rw [HR.out]; exact hs
            refine (HI.out W2 _ hs2).mono ?_
            rintro r_ w3 ⟨_, rfl, rfl, hb3⟩
            replace hS := hS.ext hb3
            clear hb3 hs hs2 hc0 hc4
            have HN := Lib.hid hno
            clear hno
            go_wp2_with (first | ((with_reducible show wpList _ _ _ (⟨_, .binOp _ _ _ _ _, _, _, _, _⟩ :: _) _ _); (first | (refine st_lss rfl _ _ _ _ rfl _ _ _ rfl rfl (fun h_ => ?_) (fun h_ => ?_)) | (refine st_leq rfl _ _ _ _ rfl _ _ _ rfl rfl (fun h_ => ?_) (fun h_ => ?_)) | (refine st_gtr rfl _ _ _ _ rfl _ _ _ rfl rfl (fun h_ => ?_) (fun h_ => ?_)) | (refine st_geq rfl _ _ _ _ rfl _ _ _ rfl rfl (fun h_ => ?_) (fun h_ => ?_)) | (refine st_eql rfl _ _ _ _ rfl _ _ _ rfl rfl (fun h_ => ?_) (fun h_ => ?_)) | (refine st_neq rfl _ _ _ _ rfl _ _ _ rfl rfl (fun h_ => ?_) (fun h_ => ?_))) <;> go_prune))
            go_ret
            refine ⟨false, S, _, rfl, (fun h => by cases h), fun _ => ?_, hS.sub (.cons _ (.refl _))⟩
            refine kahn_cycle HL.out HT.out.1.1 hlt fun y hy hyS => ?_
            have h := HN.out y hy
            rw [rowI_getD hy] at h
            refine Classical.byContradiction fun hc => h (leftOf_zero.2 ⟨hyS, fun x hx => ?_⟩)
            exact Classical.byContradiction fun hxS => hc ⟨x, hx, hxS⟩
        · go_wp2_with (first | go_region)
          replace hS := hS.drew
          go_ret
          have he : S.length = n := by omega
          exact ⟨true, S, _, rfl, (fun _ => ⟨HT.out.1.acyc HL.out HT.out.2 (by omega), HT.out.1, he, HT.out.2⟩), (fun h => by cases h), hS.sub (.cons _ (.refl _))⟩
end Go.Proofs.YtihpgmbinhmmlaaDoor
namespace Go.Proofs.YtihpgmbinhmmlaaDoor
open Go.RowKit
attribute [local go_sem ↓] Go.wp_at_zero Go.wp_at_succ
set_option maxRecDepth 20000
set_option exponentiation.threshold 5000

theorem wd_pow (i k : Nat) : wd (2 ^ i) k = if k = i / 64 then 2 ^ (i % 64) else 0 := by
  apply Nat.eq_of_testBit_eq
  intro j
  by_cases hj : j < 64
  · rw [testBit_wd _ _ _ hj, Nat.testBit_two_pow]
    by_cases hk : k = i / 64
    · rw [if_pos hk, Nat.testBit_two_pow]
      congr 1
      rw [eq_iff_iff]
      omega
    · rw [if_neg hk, Nat.zero_testBit]; simp; omega
  · rw [tb_big (wd_lt _ _) (Nat.not_lt.1 hj)]
    split
    · rw [Nat.testBit_two_pow]; simp; omega
    · simp
def wordsW (l : List Nat) (i : Nat) : List Nat := (l ++ List.replicate (max l.length (i / 64 + 1) - l.length) 0).set (i / 64) (l.getD (i / 64) 0 ||| 2 ^ (i % 64))
theorem wordsW_len (l : List Nat) (i : Nat) : (wordsW l i).length = max l.length (i / 64 + 1) := by simp [wordsW]; omega
theorem padW_getD (l : List Nat) (m k : Nat) : (l ++ List.replicate m 0).getD k 0 = l.getD k 0 := by
  rw [List.getD_eq_getElem?_getD, List.getD_eq_getElem?_getD, List.getElem?_append]
  split
  · rfl
  · rename_i h
    rw [List.getElem?_eq_none (l := l) (by omega), List.getElem?_replicate]
    split <;> rfl
theorem wordsW_getD (l : List Nat) (i k : Nat) : (wordsW l i).getD k 0 = if k = i / 64 then l.getD k 0 ||| 2 ^ (i % 64) else l.getD k 0 := by
  unfold wordsW
  rw [List.getD_eq_getElem?_getD, List.getElem?_set]
  by_cases h : i / 64 = k
  · subst h
    rw [if_pos rfl, if_pos (by simp; omega), if_pos rfl]; rfl
  · rw [if_neg h, if_neg (fun e => h e.symm), ← List.getD_eq_getElem?_getD, padW_getD]
theorem pow_lt64 (r : Nat) : 2 ^ (r % 64) < T64 := by rw [T64_eq]; exact Nat.pow_lt_pow_right (by decide) (Nat.mod_lt _ (by decide))
theorem wordsW_ok {l : List Nat} {i : Nat} (hl : Canon l) (hi : i < 4096) : Canon (wordsW l i) ∧ val (wordsW l i) = val l ||| 2 ^ i := by
  have hw : Words (wordsW l i) := by
    intro x hx
    obtain ⟨k, hk, e⟩ := List.getElem_of_mem hx
    have h := wordsW_getD l i k
    rw [List.getD_eq_getElem?_getD, List.getElem?_eq_getElem hk] at h
    simp only [Option.getD_some, e] at h
    rw [h]
    split
    · exact or_lt (hl.1.getD k) (pow_lt64 i)
    · exact hl.1.getD k
  refine ⟨⟨hw, fun x hx => ?_, ?_⟩, val_ext hw fun k => ?_⟩
  · rw [List.getLast?_eq_getElem?, wordsW_len] at hx
    have h := wordsW_getD l i (max l.length (i / 64 + 1) - 1)
    rw [List.getD_eq_getElem?_getD, hx] at h
    simp only [Option.getD_some] at h
    rw [h]
    split
    · intro e
      have h2 := (Nat.or_eq_zero_iff.1 e).2
      have h3 := Nat.two_pow_pos (i % 64)
      omega
    · rename_i hne
      have : max l.length (i / 64 + 1) - 1 = l.length - 1 := by omega
      rw [this]
      exact canon_last hl (by omega)
  · rw [wordsW_len]; have := hl.2.2; omega
  · rw [wordsW_getD, wd_or, wd_pow, wd_val hl.1]
    split
    · rfl
    · rw [Nat.or_zero]
def withN (N : Nat) (i : Int) : Nat := if 0 ≤ i ∧ i ≤ 4095 then N ||| 2 ^ i.toNat else N
theorem withN_has {N : Nat} {i : Int} (h : hasB N i = true) : withN N i = N := by
  unfold withN
  split
  · rename_i hi
    apply Nat.eq_of_testBit_eq
    intro j
    rw [Nat.testBit_or, Nat.testBit_two_pow]
    by_cases e : i.toNat = j
    · subst e; simp [hasB, hi.1] at h; simp [h]
    · simp [e]
  · rfl
theorem ty_u64s' : SliceTy Tryd.prog 29 49 1 8 := ⟨Tryd.underlying29, by kernel_rfl⟩
theorem u64s_one (l : List Nat) : ∀ u ∈ u64s l, u.oneCell' = true := by intro u hu; simp [u64s] at hu; obtain ⟨x, _, rfl⟩ := hu; rfl
theorem run_shl1 {P : Program} {w : World} {t : TypeId} {r : Nat} {e : Int} (he : e = ((r % 64 : Nat) : Int)) : (binOp .shl t (.int .u64 1) (.int .i64 e)).run P w = .ok (.int .u64 ((2 ^ (r % 64) : Nat) : Int)) w := by
  subst he
  have h := shl64 (r % 64) (Nat.mod_lt _ (by decide))
  have h2 : ¬ (((r % 64 : Nat) : Int)) < 0 := by omega
  go_simp
  rw [show ((r : Int) % 64).toNat = r % 64 by omega, h]
  simp
theorem run_or64' {P : Program} {w : World} {t : TypeId} {x y : Nat} (hx : x < T64) (hy : y < T64) : (binOp .or t (.int .u64 (x : Nat)) (.int .u64 (y : Nat))).run P w = .ok (.int .u64 ((x ||| y : Nat) : Int)) w := by
  go_simp; rw [or64 hx hy]
set_option maxHeartbeats 1000000 in
theorem with_any (v : Value) (N : Nat) (i : Int) (w0 : World) (D : Nat → Prop) (hv : IsSet w0 D v N) :
    Calls Tryd.prog 26 #[v, .int .i64 i] w0 (Ret (fun x w' => IsSet w' (fun b => D b ∨ w0.heap.size ≤ b) x (withN N i)) w0) := by
  obtain ⟨A, c, l, rfl, hl, hN, hc1, hc2, hs⟩ := hv.parts
  have HV := Lib.hid hv
  have HS := Lib.hid hs
  have hle := hl.2.2
  obtain ⟨K, hk, hS⟩ : ∃ K : (Nat → Prop) → World → Prop, (∀ D w, K D w → IsSet w D (.agg #[.slice A l.length c]) N ∧ Sl w D 1 (.slice A l.length c) l.length (u64s l)) ∧ St w0 w0 [] K := ⟨_, fun _ _ h => h, St.start (stable_set.and stable_sl) (D := D) ⟨hv, hs⟩⟩
  have HK := Lib.hid hk
  have HNV := Lib.hid hN
  clear hv hs hk hN
  by_cases h1 : i < 0 ∨ i > 4095
  · have hE : withN N i = N := by rw [withN, if_neg (by omega)]
    rw [hE]
    have hfin : ∀ w', Below w0.heap.size w0 w' → IsSet w' (fun b => D b ∨ w0.heap.size ≤ b) (.agg #[.slice A l.length c]) N := fun w' hb => (HV.out.ext hb).imp fun _ h _ => .inl h
    have HF := Lib.hid hfin
    clear hfin
    rcases h1 with h1 | h1
    · go_enter Tryd.func26, Tryd.ntmps26
      go_wp2_with (first
        | ((with_reducible show wpList _ _ _ (⟨some 2, _, _, _, _, _⟩ :: _) _ _); refine st_box hS rfl _ _ rfl (.agg #[.slice A l.length c]) _ rfl rfl ?_; clear hS; intro g2 w_ hS; (try simp only [Act.put, Act.eval, List.set_cons_zero, List.set_cons_succ, List.setIfInBounds_toArray, Array.getD_eq_getD_getElem?, List.getElem?_toArray, List.getElem?_cons_succ, List.getElem?_cons_zero, Option.getD_some, Value.cells] at hS))
        | ((with_reducible show wpList _ _ _ (⟨some 4, _, _, _, _, _⟩ :: _) _ _); refine st_allocz hS rfl _ rfl (by kernel_rfl) #[.slice none 0 0] (by kernel_rfl) ?_; clear hS; intro g4 w_ hS; (try simp only [Act.put, Act.eval, List.set_cons_zero, List.set_cons_succ, List.setIfInBounds_toArray, Array.getD_eq_getD_getElem?, List.getElem?_toArray, List.getElem?_cons_succ, List.getElem?_cons_zero, Option.getD_some, Value.cells] at hS))
        | ((with_reducible show wpList _ _ _ (⟨some 17, _, _, _, _, _⟩ :: _) _ _); refine st_loadw hS 1 rfl _ _ rfl g2 rfl _ #[.slice A l.length c] rfl _ Tryd.underlying31 rfl (by kernel_rfl) ?_)
        | ((with_reducible show wpList _ _ _ (⟨_, .store _ _ _, _, _, _, _⟩ :: _) _ _); (first | (refine st_store hS 0 rfl _ _ _ rfl _ _ rfl rfl _ _ rfl (by kernel_rfl) (by kernel_rfl) (by kernel_rfl) ?_) | (refine st_store hS 1 rfl _ _ _ rfl _ _ rfl rfl _ _ rfl (by kernel_rfl) (by kernel_rfl) (by kernel_rfl) ?_) | (refine st_store hS 2 rfl _ _ _ rfl _ _ rfl rfl _ _ rfl (by kernel_rfl) (by kernel_rfl) (by kernel_rfl) ?_) | (refine st_store hS 3 rfl _ _ _ rfl _ _ rfl rfl _ _ rfl (by kernel_rfl) (by kernel_rfl) (by kernel_rfl) ?_) | (refine st_cstore hS 0 rfl _ _ _ rfl _ _ _ rfl rfl rfl (by first | (simp; done) | (simp; omega) | exact of_decide_eq_true (by kernel_rfl)) rfl (by first | rfl | assumption) (by kernel_rfl) ?_) | (refine st_cstore hS 1 rfl _ _ _ rfl _ _ _ rfl rfl rfl (by first | (simp; done) | (simp; omega) | exact of_decide_eq_true (by kernel_rfl)) rfl (by first | rfl | assumption) (by kernel_rfl) ?_) | (refine st_cstore hS 2 rfl _ _ _ rfl _ _ _ rfl rfl rfl (by first | (simp; done) | (simp; omega) | exact of_decide_eq_true (by kernel_rfl)) rfl (by first | rfl | assumption) (by kernel_rfl) ?_) | (refine st_cstore hS 3 rfl _ _ _ rfl _ _ _ rfl rfl rfl (by first | (simp; done) | (simp; omega) | exact of_decide_eq_true (by kernel_rfl)) rfl (by first | rfl | assumption) (by kernel_rfl) ?_)); clear hS; intro w_ hS; (try simp only [Act.put, Act.eval, List.set_cons_zero, List.set_cons_succ, List.setIfInBounds_toArray, Array.getD_eq_getD_getElem?, List.getElem?_toArray, List.getElem?_cons_succ, List.getElem?_cons_zero, Option.getD_some, Value.cells] at hS))
        | ((with_reducible show wpList _ _ _ (⟨_, .binOp _ _ _ _ _, _, _, _, _⟩ :: _) _ _); (first | (refine st_lss rfl _ _ _ _ rfl _ _ _ rfl rfl (fun h_ => ?_) (fun h_ => ?_)) | (refine st_leq rfl _ _ _ _ rfl _ _ _ rfl rfl (fun h_ => ?_) (fun h_ => ?_)) | (refine st_gtr rfl _ _ _ _ rfl _ _ _ rfl rfl (fun h_ => ?_) (fun h_ => ?_)) | (refine st_geq rfl _ _ _ _ rfl _ _ _ rfl rfl (fun h_ => ?_) (fun h_ => ?_)) | (refine st_eql rfl _ _ _ _ rfl _ _ _ rfl rfl (fun h_ => ?_) (fun h_ => ?_)) | (refine st_neq rfl _ _ _ _ rfl _ _ _ rfl rfl (fun h_ => ?_) (fun h_ => ?_))) <;> go_prune))
      refine bodyPost_ret (v := .agg #[.slice A l.length c]) (by exact results_cell_row rfl _ _ g4 31 _ (0, 0) _ rfl (hS.box 0 rfl) Tryd.underlying31 rfl (by kernel_rfl)) rfl ?_
      exact Ret.mk (HF.out _ hS.below) hS.below
    · have h2 : ¬ i < 0 := by omega
      go_enter Tryd.func26, Tryd.ntmps26
      go_wp2_with (first
        | ((with_reducible show wpList _ _ _ (⟨some 2, _, _, _, _, _⟩ :: _) _ _); refine st_box hS rfl _ _ rfl (.agg #[.slice A l.length c]) _ rfl rfl ?_; clear hS; intro g2 w_ hS; (try simp only [Act.put, Act.eval, List.set_cons_zero, List.set_cons_succ, List.setIfInBounds_toArray, Array.getD_eq_getD_getElem?, List.getElem?_toArray, List.getElem?_cons_succ, List.getElem?_cons_zero, Option.getD_some, Value.cells] at hS))
        | ((with_reducible show wpList _ _ _ (⟨some 4, _, _, _, _, _⟩ :: _) _ _); refine st_allocz hS rfl _ rfl (by kernel_rfl) #[.slice none 0 0] (by kernel_rfl) ?_; clear hS; intro g4 w_ hS; (try simp only [Act.put, Act.eval, List.set_cons_zero, List.set_cons_succ, List.setIfInBounds_toArray, Array.getD_eq_getD_getElem?, List.getElem?_toArray, List.getElem?_cons_succ, List.getElem?_cons_zero, Option.getD_some, Value.cells] at hS))
        | ((with_reducible show wpList _ _ _ (⟨some 17, _, _, _, _, _⟩ :: _) _ _); refine st_loadw hS 1 rfl _ _ rfl g2 rfl _ #[.slice A l.length c] rfl _ Tryd.underlying31 rfl (by kernel_rfl) ?_)
        | ((with_reducible show wpList _ _ _ (⟨_, .store _ _ _, _, _, _, _⟩ :: _) _ _); (first | (refine st_store hS 0 rfl _ _ _ rfl _ _ rfl rfl _ _ rfl (by kernel_rfl) (by kernel_rfl) (by kernel_rfl) ?_) | (refine st_store hS 1 rfl _ _ _ rfl _ _ rfl rfl _ _ rfl (by kernel_rfl) (by kernel_rfl) (by kernel_rfl) ?_) | (refine st_store hS 2 rfl _ _ _ rfl _ _ rfl rfl _ _ rfl (by kernel_rfl) (by kernel_rfl) (by kernel_rfl) ?_) | (refine st_store hS 3 rfl _ _ _ rfl _ _ rfl rfl _ _ rfl (by kernel_rfl) (by kernel_rfl) (by kernel_rfl) ?_) | (refine st_cstore hS 0 rfl _ _ _ rfl _ _ _ rfl rfl rfl (by first | (simp; done) | (simp; omega) | exact of_decide_eq_true (by kernel_rfl)) rfl (by first | rfl | assumption) (by kernel_rfl) ?_) | (refine st_cstore hS 1 rfl _ _ _ rfl _ _ _ rfl rfl rfl (by first | (simp; done) | (simp; omega) | exact of_decide_eq_true (by kernel_rfl)) rfl (by first | rfl | assumption) (by kernel_rfl) ?_) | (refine st_cstore hS 2 rfl _ _ _ rfl _ _ _ rfl rfl rfl (by first | (simp; done) | (simp; omega) | exact of_decide_eq_true (by kernel_rfl)) rfl (by first | rfl | assumption) (by kernel_rfl) ?_) | (refine st_cstore hS 3 rfl _ _ _ rfl _ _ _ rfl rfl rfl (by first | (simp; done) | (simp; omega) | exact of_decide_eq_true (by kernel_rfl)) rfl (by first | rfl | assumption) (by kernel_rfl) ?_)); clear hS; intro w_ hS; (try simp only [Act.put, Act.eval, List.set_cons_zero, List.set_cons_succ, List.setIfInBounds_toArray, Array.getD_eq_getD_getElem?, List.getElem?_toArray, List.getElem?_cons_succ, List.getElem?_cons_zero, Option.getD_some, Value.cells] at hS))
        | ((with_reducible show wpList _ _ _ (⟨_, .binOp _ _ _ _ _, _, _, _, _⟩ :: _) _ _); (first | (refine st_lss rfl _ _ _ _ rfl _ _ _ rfl rfl (fun h_ => ?_) (fun h_ => ?_)) | (refine st_leq rfl _ _ _ _ rfl _ _ _ rfl rfl (fun h_ => ?_) (fun h_ => ?_)) | (refine st_gtr rfl _ _ _ _ rfl _ _ _ rfl rfl (fun h_ => ?_) (fun h_ => ?_)) | (refine st_geq rfl _ _ _ _ rfl _ _ _ rfl rfl (fun h_ => ?_) (fun h_ => ?_)) | (refine st_eql rfl _ _ _ _ rfl _ _ _ rfl rfl (fun h_ => ?_) (fun h_ => ?_)) | (refine st_neq rfl _ _ _ _ rfl _ _ _ rfl rfl (fun h_ => ?_) (fun h_ => ?_))) <;> go_prune))
      refine bodyPost_ret (v := .agg #[.slice A l.length c]) (by exact results_cell_row rfl _ _ g4 31 _ (0, 0) _ rfl (hS.box 0 rfl) Tryd.underlying31 rfl (by kernel_rfl)) rfl ?_
      exact Ret.mk (HF.out _ hS.below) hS.below
  · obtain ⟨m, rfl⟩ : ∃ m : Nat, i = (m : Int) := ⟨i.toNat, by omega⟩
    have hm : m < 4096 := by omega
    have hm0 : ¬ (m : Int) < 0 := by omega
    have hm1 : ¬ (m : Int) > 4095 := by omega
    clear h1
    by_cases hh : hasB N m = true
    · have hWE := Lib.hid (withN_has hh)
      have HH := Lib.hid hh
      have hfin : ∀ w', Below w0.heap.size w0 w' → IsSet w' (fun b => D b ∨ w0.heap.size ≤ b) (.agg #[.slice A l.length c]) N := fun w' hb => (HV.out.ext hb).imp fun _ h _ => .inl h
      have HF := Lib.hid hfin
      rw [hWE.out]
      clear hfin hh
      go_enter Tryd.func26, Tryd.ntmps26
      go_wp2_with (first
        | ((with_reducible show wpList _ _ _ (⟨some 2, _, _, _, _, _⟩ :: _) _ _); refine st_box hS rfl _ _ rfl (.agg #[.slice A l.length c]) _ rfl rfl ?_; clear hS; intro g2 w_ hS; (try simp only [Act.put, Act.eval, List.set_cons_zero, List.set_cons_succ, List.setIfInBounds_toArray, Array.getD_eq_getD_getElem?, List.getElem?_toArray, List.getElem?_cons_succ, List.getElem?_cons_zero, Option.getD_some, Value.cells] at hS))
        | ((with_reducible show wpList _ _ _ (⟨some 4, _, _, _, _, _⟩ :: _) _ _); refine st_allocz hS rfl _ rfl (by kernel_rfl) #[.slice none 0 0] (by kernel_rfl) ?_; clear hS; intro g4 w_ hS; (try simp only [Act.put, Act.eval, List.set_cons_zero, List.set_cons_succ, List.setIfInBounds_toArray, Array.getD_eq_getD_getElem?, List.getElem?_toArray, List.getElem?_cons_succ, List.getElem?_cons_zero, Option.getD_some, Value.cells] at hS))
        | ((with_reducible show wpList _ _ _ (⟨some 13, _, _, _, _, _⟩ :: _) _ _); refine st_loadw hS 1 rfl _ _ rfl g2 rfl _ #[.slice A l.length c] rfl _ Tryd.underlying31 rfl (by kernel_rfl) ?_)
        | ((with_reducible show wpList _ _ _ (⟨some 17, _, _, _, _, _⟩ :: _) _ _); refine st_loadw hS 1 rfl _ _ rfl g2 rfl _ #[.slice A l.length c] rfl _ Tryd.underlying31 rfl (by kernel_rfl) ?_)
        | (go_at_call 20; refine (has_any _ N _ _ _ (HK.out _ _ hS.ro).1).mono ?_; rw [HH.out]; rintro r_ w2 ⟨_, rfl, rfl, hb2⟩; replace hS := hS.ext hb2; clear hb2)
        | ((with_reducible show wpList _ _ _ (⟨_, .store _ _ _, _, _, _, _⟩ :: _) _ _); (first | (refine st_store hS 0 rfl _ _ _ rfl _ _ rfl rfl _ _ rfl (by kernel_rfl) (by kernel_rfl) (by kernel_rfl) ?_) | (refine st_store hS 1 rfl _ _ _ rfl _ _ rfl rfl _ _ rfl (by kernel_rfl) (by kernel_rfl) (by kernel_rfl) ?_) | (refine st_store hS 2 rfl _ _ _ rfl _ _ rfl rfl _ _ rfl (by kernel_rfl) (by kernel_rfl) (by kernel_rfl) ?_) | (refine st_store hS 3 rfl _ _ _ rfl _ _ rfl rfl _ _ rfl (by kernel_rfl) (by kernel_rfl) (by kernel_rfl) ?_) | (refine st_cstore hS 0 rfl _ _ _ rfl _ _ _ rfl rfl rfl (by first | (simp; done) | (simp; omega) | exact of_decide_eq_true (by kernel_rfl)) rfl (by first | rfl | assumption) (by kernel_rfl) ?_) | (refine st_cstore hS 1 rfl _ _ _ rfl _ _ _ rfl rfl rfl (by first | (simp; done) | (simp; omega) | exact of_decide_eq_true (by kernel_rfl)) rfl (by first | rfl | assumption) (by kernel_rfl) ?_) | (refine st_cstore hS 2 rfl _ _ _ rfl _ _ _ rfl rfl rfl (by first | (simp; done) | (simp; omega) | exact of_decide_eq_true (by kernel_rfl)) rfl (by first | rfl | assumption) (by kernel_rfl) ?_) | (refine st_cstore hS 3 rfl _ _ _ rfl _ _ _ rfl rfl rfl (by first | (simp; done) | (simp; omega) | exact of_decide_eq_true (by kernel_rfl)) rfl (by first | rfl | assumption) (by kernel_rfl) ?_)); clear hS; intro w_ hS; (try simp only [Act.put, Act.eval, List.set_cons_zero, List.set_cons_succ, List.setIfInBounds_toArray, Array.getD_eq_getD_getElem?, List.getElem?_toArray, List.getElem?_cons_succ, List.getElem?_cons_zero, Option.getD_some, Value.cells] at hS))
        | ((with_reducible show wpList _ _ _ (⟨_, .binOp _ _ _ _ _, _, _, _, _⟩ :: _) _ _); (first | (refine st_lss rfl _ _ _ _ rfl _ _ _ rfl rfl (fun h_ => ?_) (fun h_ => ?_)) | (refine st_leq rfl _ _ _ _ rfl _ _ _ rfl rfl (fun h_ => ?_) (fun h_ => ?_)) | (refine st_gtr rfl _ _ _ _ rfl _ _ _ rfl rfl (fun h_ => ?_) (fun h_ => ?_)) | (refine st_geq rfl _ _ _ _ rfl _ _ _ rfl rfl (fun h_ => ?_) (fun h_ => ?_)) | (refine st_eql rfl _ _ _ _ rfl _ _ _ rfl rfl (fun h_ => ?_) (fun h_ => ?_)) | (refine st_neq rfl _ _ _ _ rfl _ _ _ rfl rfl (fun h_ => ?_) (fun h_ => ?_))) <;> go_prune))
      refine bodyPost_ret (v := .agg #[.slice A l.length c]) (by exact results_cell_row rfl _ _ g4 31 _ (0, 0) _ rfl (hS.box 0 rfl) Tryd.underlying31 rfl (by kernel_rfl)) rfl ?_
      exact Ret.mk (HF.out _ hS.below) hS.below
    · have HH := Lib.hid (show hasB N m = false by simpa using hh)
      clear hh
      have hWN := wordsW_ok hl hm
      have HWN := Lib.hid (show Canon (wordsW l m) ∧ val (wordsW l m) = withN N m by rw [withN, if_pos (by omega), HNV.out]; exact hWN)
      have HWD := Lib.hid (show u64s (wordsW l m) = (u64s l ++ (u64s (List.replicate (max l.length (m / 64 + 1)) 0)).drop l.length).set (m / 64) (.int .u64 (l.getD (m / 64) 0 ||| 2 ^ (m % 64) : Nat)) by
        rw [wordsW, u64s_set]; congr 1; simp [u64s])
      have HWL := Lib.hid (wordsW_len l m)
      have hx := hl.1.getD (m / 64)
      have HX := Lib.hid (or64 hx (pow_lt64 m))
      have HG := Lib.hid (show (u64s l ++ (u64s (List.replicate (max l.length (m / 64 + 1)) 0)).drop l.length)[m / 64]? = some (.int .u64 (l.getD (m / 64) 0 : Nat)) by
        have := u64s_at (l ++ List.replicate (max l.length (m / 64 + 1) - l.length) 0) (m / 64) (by simp; omega)
        rw [padW_getD] at this
        rw [← this]; congr 1; simp [u64s])
      generalize l.getD (m / 64) 0 = x at *
      generalize withN N m = N2 at *
      obtain ⟨M, hM⟩ : ∃ M, M = max l.length (m / 64 + 1) := ⟨_, rfl⟩
      rw [← hM] at HWD HWL HG
      have hM1 : l.length ≤ M ∧ m / 64 < M ∧ M ≤ 64 ∧ 0 < M := by omega
      have hM2 : max (l.length : Int) ((m : Int) / 64 + 1) = (M : Int) := by omega
      obtain ⟨q, hq⟩ : ∃ q, q = m / 64 := ⟨_, rfl⟩
      clear hWN hM
      rcases Nat.lt_or_ge (m / 64 + 1) l.length with hM3 | hM3
      · go_enter Tryd.func26, Tryd.ntmps26
        go_wp2_with (first
          | ((with_reducible show wpList _ _ _ (⟨some 2, _, _, _, _, _⟩ :: _) _ _); refine st_box hS rfl _ _ rfl (.agg #[.slice A l.length c]) _ rfl rfl ?_; clear hS; intro g2 w_ hS; (try simp only [Act.put, Act.eval, List.set_cons_zero, List.set_cons_succ, List.setIfInBounds_toArray, Array.getD_eq_getD_getElem?, List.getElem?_toArray, List.getElem?_cons_succ, List.getElem?_cons_zero, Option.getD_some, Value.cells] at hS))
          | ((with_reducible show wpList _ _ _ (⟨some 4, _, _, _, _, _⟩ :: _) _ _); refine st_allocz hS rfl _ rfl (by kernel_rfl) #[.slice none 0 0] (by kernel_rfl) ?_; clear hS; intro g4 w_ hS; (try simp only [Act.put, Act.eval, List.set_cons_zero, List.set_cons_succ, List.setIfInBounds_toArray, Array.getD_eq_getD_getElem?, List.getElem?_toArray, List.getElem?_cons_succ, List.getElem?_cons_zero, Option.getD_some, Value.cells] at hS))
          | ((with_reducible show wpList _ _ _ (⟨some 13, _, _, _, _, _⟩ :: _) _ _); refine st_loadw hS 1 rfl _ _ rfl g2 rfl _ #[.slice A l.length c] rfl _ Tryd.underlying31 rfl (by kernel_rfl) ?_)
          | (go_at_call 20; refine (has_any _ N _ _ _ (HK.out _ _ hS.ro).1).mono ?_; rw [HH.out]; rintro r_ w2 ⟨_, rfl, rfl, hb2⟩; replace hS := hS.ext hb2; clear hb2)
          | ((with_reducible show wpList _ _ _ (⟨_, .makeSlice _ _ _, _, _, _, _⟩ :: _) _ _); refine st_mk hS rfl _ _ _ rfl ty_u64s' .i64 .i64 M #[.int .u64 0] (congrArg (Value.int .i64) (by omega)) (congrArg (Value.int .i64) (by omega)) (by kernel_rfl) (by omega) (by omega) ?_; clear hS; intro g5 w_ hS)
          | ((with_reducible show wpList _ _ _ (⟨_, .call { callee := .builtin .copy, args := _, argTypes := _ }, _, _, _, _⟩ :: _) _ _); refine st_ocopy hS 0 rfl _ _ _ _ rfl _ Tryd.underlying29 (by kernel_rfl) g5 M l.length c A rfl rfl rfl (HK.out _ _ hS.ro).2 hM1.1 (u64s_one _) ?_; clear hS; intro w_ hS; simp only [List.set_cons_zero] at hS)
          | ((with_reducible show wpList _ _ _ (⟨_, .load _ _, _, _, _, _⟩ :: _) _ _); first | (refine st_cell hS 0 rfl _ _ rfl _ _ rfl _ _ rfl (by decide +kernel) _ (by first | assumption | rfl) ?_) | (refine st_cell hS 1 rfl _ _ rfl _ _ rfl _ _ rfl (by decide +kernel) _ (by first | assumption | rfl) ?_) | (refine st_cell hS 2 rfl _ _ rfl _ _ rfl _ _ rfl (by decide +kernel) _ (by first | assumption | rfl) ?_) | (refine st_cell hS 3 rfl _ _ rfl _ _ rfl _ _ rfl (by decide +kernel) _ (by first | assumption | rfl) ?_) | (refine st_cell hS 4 rfl _ _ rfl _ _ rfl _ _ rfl (by decide +kernel) _ (by first | assumption | rfl) ?_) | (refine st_cell hS 5 rfl _ _ rfl _ _ rfl _ _ rfl (by decide +kernel) _ (by first | assumption | rfl) ?_) | (refine st_cell hS 6 rfl _ _ rfl _ _ rfl _ _ rfl (by decide +kernel) _ (by first | assumption | rfl) ?_) | (refine st_cell hS 7 rfl _ _ rfl _ _ rfl _ _ rfl (by decide +kernel) _ (by first | assumption | rfl) ?_))
          | ((with_reducible show wpList _ _ _ (⟨_, .binOp _ _ _ _ _, _, _, _, _⟩ :: _) _ _); (first | (refine st_lss rfl _ _ _ _ rfl _ _ _ rfl rfl (fun h_ => ?_) (fun h_ => ?_)) | (refine st_leq rfl _ _ _ _ rfl _ _ _ rfl rfl (fun h_ => ?_) (fun h_ => ?_)) | (refine st_gtr rfl _ _ _ _ rfl _ _ _ rfl rfl (fun h_ => ?_) (fun h_ => ?_)) | (refine st_geq rfl _ _ _ _ rfl _ _ _ rfl rfl (fun h_ => ?_) (fun h_ => ?_)) | (refine st_eql rfl _ _ _ _ rfl _ _ _ rfl rfl (fun h_ => ?_) (fun h_ => ?_)) | (refine st_neq rfl _ _ _ _ rfl _ _ _ rfl rfl (fun h_ => ?_) (fun h_ => ?_))) <;> go_prune))
        all_goals
          rw [mk_u64s] at hS
          refine wp_region_tail (fun i__ v w => match i__ with
            | 0 => v = .slice (some ⟨g5, 0, none⟩) M M
            | 1 => v = .int .i64 ((m : Nat) : Int)
            | 2 => v = .int .i64 (((m : Nat) : Int) / (64 : Int))
            | 3 => v = .pointer (some ⟨g5, 0 + (m / 64) * 1, none⟩)
            | 4 => v = .int .u64 ((x : Nat) : Int)
            | 5 => v = .int .i64 ((m : Nat) : Int)
            | 6 => v = .int .i64 (((m : Nat) : Int) % (64 : Int))
            | 7 => v = .int .u64 ((2 ^ (m % 64) : Nat) : Int)
            | 8 => v = .int .u64 ((x ||| 2 ^ (m % 64) : Nat) : Int)
            | 9 => v = .pointer (some ⟨g5, 0 + (m / 64) * 1, none⟩)
            | 10 => True
            | _ => True) 10 [] (by kernel_rfl) (by kernel_rfl) (by kernel_rfl) (by kernel_rfl) (by kernel_rfl) ?mono ⟨.inr ?r0, .inr ?r1, .inr ?r2, .inr ?r3, .inr ?r4, .inr ?r5, .inr ?r6, .inr ?r7, .inr ?r8, .inr ?r9, .inl (by decide), trivial⟩ ?post
          case mono =>
            intro i v w w' h hb
            match i, h with
            | 0, h => exact h
            | 1, h => exact h
            | 2, h => exact h
            | 3, h => exact h
            | 4, h => exact h
            | 5, h => exact h
            | 6, h => exact h
            | 7, h => exact h
            | 8, h => exact h
            | 9, h => exact h
            | 10, h => exact h
            | _ + 11, h => trivial
          case r0 =>
            refine trule fun b__ w hW hold hpre => ⟨fun hwant K hK => ?_, fun hwant => ?_⟩
            · clear hwant
              have e5 : b__.eval (.tmp 5) = .slice (some ⟨g5, 0, none⟩) M M := (hold 5 (by kernel_rfl)).trans rfl
              exact opw_move rfl e5 (hK _ _ rfl (Below.refl _ _))
            · rw [want_none rfl] at hwant; cases hwant
          case r1 =>
            refine trule fun b__ w hW hold hpre => ⟨fun hwant K hK => ?_, fun hwant => ?_⟩
            · clear hwant
              have e1 : b__.eval (.tmp 1) = .int .i64 ((m : Nat) : Int) := (hold 1 (by kernel_rfl)).trans rfl
              exact opw_move rfl e1 (hK _ _ rfl (Below.refl _ _))
            · rw [want_none rfl] at hwant; cases hwant
          case r2 =>
            refine trule fun b__ w hW hold hpre => ⟨fun hwant K hK => ?_, fun hwant => ?_⟩
            · clear hwant
              have e31 : b__.eval (.tmp 31) = .int .i64 ((m : Nat) : Int) := hpre ⟨1, _⟩ (Array.mem_of_getElem? (i := 0) rfl) rfl _ _ rfl rfl
              exact opw_bin (vx := .int .i64 ((m : Nat) : Int)) (vy := .int .i64 (64 : Int)) (v := .int .i64 (((m : Nat) : Int) / (64 : Int))) rfl e31 rfl rfl (run_quo64 (by omega) (by omega)) (hK _ _ rfl (Below.refl _ _))
            · rw [want_none rfl] at hwant; cases hwant
          case r3 =>
            refine trule fun b__ w hW hold hpre => ⟨fun hwant K hK => ?_, fun hwant => ?_⟩
            · clear hwant
              have e30 : b__.eval (.tmp 30) = .slice (some ⟨g5, 0, none⟩) M M := hpre ⟨0, _⟩ (Array.mem_of_getElem? (i := 0) rfl) rfl _ _ rfl rfl
              have e32 : b__.eval (.tmp 32) = .int .i64 (((m : Nat) : Int) / (64 : Int)) := hpre ⟨2, _⟩ (Array.mem_of_getElem? (i := 1) rfl) rfl _ _ rfl rfl
              exact opw_iaddr rfl e30 e32 (run_iaddr_lit (m := m / 64) Tryd.underlying29 (by kernel_rfl) (by omega) (by omega)) (hK _ _ rfl (Below.refl _ _))
            · rw [want_none rfl] at hwant; cases hwant
          case r4 =>
            refine trule fun b__ w hW hold hpre => ⟨fun hwant K hK => ?_, fun hwant => ?_⟩
            · clear hwant
              have e33 : b__.eval (.tmp 33) = .pointer (some ⟨g5, 0 + (m / 64) * 1, none⟩) := hpre ⟨3, _⟩ (Array.mem_of_getElem? (i := 0) rfl) rfl _ _ rfl rfl
              exact opw_cell rfl e33 (by kernel_rfl) (by rw [Nat.zero_add, Nat.mul_one]; exact own_cell ((hS.ext (undrew hW)).own 0 rfl) (m / 64) _ HG.out) (hK _ _ rfl (Below.refl _ _))
            · rw [want_none rfl] at hwant; cases hwant
          case r5 =>
            refine trule fun b__ w hW hold hpre => ⟨fun hwant K hK => ?_, fun hwant => ?_⟩
            · clear hwant
              have e1 : b__.eval (.tmp 1) = .int .i64 ((m : Nat) : Int) := (hold 1 (by kernel_rfl)).trans rfl
              exact opw_move rfl e1 (hK _ _ rfl (Below.refl _ _))
            · rw [want_none rfl] at hwant; cases hwant
          case r6 =>
            refine trule fun b__ w hW hold hpre => ⟨fun hwant K hK => ?_, fun hwant => ?_⟩
            · clear hwant
              have e35 : b__.eval (.tmp 35) = .int .i64 ((m : Nat) : Int) := hpre ⟨5, _⟩ (Array.mem_of_getElem? (i := 0) rfl) rfl _ _ rfl rfl
              exact opw_bin (vx := .int .i64 ((m : Nat) : Int)) (vy := .int .i64 (64 : Int)) (v := .int .i64 (((m : Nat) : Int) % (64 : Int))) rfl e35 rfl rfl (run_rem64 (by omega) (by omega)) (hK _ _ rfl (Below.refl _ _))
            · rw [want_none rfl] at hwant; cases hwant
          case r7 =>
            refine trule fun b__ w hW hold hpre => ⟨fun hwant K hK => ?_, fun hwant => ?_⟩
            · clear hwant
              have e36 : b__.eval (.tmp 36) = .int .i64 (((m : Nat) : Int) % (64 : Int)) := hpre ⟨6, _⟩ (Array.mem_of_getElem? (i := 0) rfl) rfl _ _ rfl rfl
              exact opw_bin (vx := .int .u64 1) (vy := .int .i64 (((m : Nat) : Int) % (64 : Int))) (v := .int .u64 ((2 ^ (m % 64) : Nat) : Int)) rfl rfl e36 rfl (run_shl1 (by omega)) (hK _ _ rfl (Below.refl _ _))
            · rw [want_none rfl] at hwant; cases hwant
          case r8 =>
            refine trule fun b__ w hW hold hpre => ⟨fun hwant K hK => ?_, fun hwant => ?_⟩
            · clear hwant
              have e34 : b__.eval (.tmp 34) = .int .u64 ((x : Nat) : Int) := hpre ⟨4, _⟩ (Array.mem_of_getElem? (i := 0) rfl) rfl _ _ rfl rfl
              have e37 : b__.eval (.tmp 37) = .int .u64 ((2 ^ (m % 64) : Nat) : Int) := hpre ⟨7, _⟩ (Array.mem_of_getElem? (i := 1) rfl) rfl _ _ rfl rfl
              exact opw_bin (vx := .int .u64 ((x : Nat) : Int)) (vy := .int .u64 ((2 ^ (m % 64) : Nat) : Int)) (v := .int .u64 ((x ||| 2 ^ (m % 64) : Nat) : Int)) rfl e34 e37 rfl (run_or64' hx (pow_lt64 m)) (hK _ _ rfl (Below.refl _ _))
            · rw [want_none rfl] at hwant; cases hwant
          case r9 =>
            refine trule fun b__ w hW hold hpre => ⟨fun hwant K hK => ?_, fun hwant => ?_⟩
            · clear hwant
              have e30 : b__.eval (.tmp 30) = .slice (some ⟨g5, 0, none⟩) M M := hpre ⟨0, _⟩ (Array.mem_of_getElem? (i := 0) rfl) rfl _ _ rfl rfl
              have e32 : b__.eval (.tmp 32) = .int .i64 (((m : Nat) : Int) / (64 : Int)) := hpre ⟨2, _⟩ (Array.mem_of_getElem? (i := 1) rfl) rfl _ _ rfl rfl
              exact opw_iaddr rfl e30 e32 (run_iaddr_lit (m := m / 64) Tryd.underlying29 (by kernel_rfl) (by omega) (by omega)) (hK _ _ rfl (Below.refl _ _))
            · rw [want_none rfl] at hwant; cases hwant
          case post =>
            intro b__ wz hW hdf hsz hold hT
            have e39 : b__.eval (.tmp 39) = .pointer (some ⟨g5, 0 + (m / 64) * 1, none⟩) := hT 9 _ 39 (by decide) rfl rfl
            have e38 : b__.eval (.tmp 38) = .int .u64 ((x ||| 2 ^ (m % 64) : Nat) : Int) := hT 8 _ 38 (by decide) rfl rfl
            have e30 : b__.eval (.tmp 30) = .slice (some ⟨g5, 0, none⟩) M M := hT 0 _ 30 (by decide) rfl rfl
            have e31 : b__.eval (.tmp 31) = .int .i64 ((m : Nat) : Int) := hT 1 _ 31 (by decide) rfl rfl
            have e32 : b__.eval (.tmp 32) = .int .i64 (((m : Nat) : Int) / (64 : Int)) := hT 2 _ 32 (by decide) rfl rfl
            have e33 : b__.eval (.tmp 33) = .pointer (some ⟨g5, 0 + (m / 64) * 1, none⟩) := hT 3 _ 33 (by decide) rfl rfl
            have e34 : b__.eval (.tmp 34) = .int .u64 ((x : Nat) : Int) := hT 4 _ 34 (by decide) rfl rfl
            have e35 : b__.eval (.tmp 35) = .int .i64 ((m : Nat) : Int) := hT 5 _ 35 (by decide) rfl rfl
            have e36 : b__.eval (.tmp 36) = .int .i64 (((m : Nat) : Int) % (64 : Int)) := hT 6 _ 36 (by decide) rfl rfl
            have e37 : b__.eval (.tmp 37) = .int .u64 ((2 ^ (m % 64) : Nat) : Int) := hT 7 _ 37 (by decide) rfl rfl
            obtain ⟨vs, hvs, hb⟩ := frame_of hdf hsz hold
            replace e39 : vs 39 = .pointer (some ⟨g5, 0 + (m / 64) * 1, none⟩) := (hvs 39).symm.trans e39
            replace e38 : vs 38 = .int .u64 ((x ||| 2 ^ (m % 64) : Nat) : Int) := (hvs 38).symm.trans e38
            replace e30 : vs 30 = .slice (some ⟨g5, 0, none⟩) M M := (hvs 30).symm.trans e30
            replace e31 : vs 31 = .int .i64 ((m : Nat) : Int) := (hvs 31).symm.trans e31
            replace e32 : vs 32 = .int .i64 (((m : Nat) : Int) / (64 : Int)) := (hvs 32).symm.trans e32
            replace e33 : vs 33 = .pointer (some ⟨g5, 0 + (m / 64) * 1, none⟩) := (hvs 33).symm.trans e33
            replace e34 : vs 34 = .int .u64 ((x : Nat) : Int) := (hvs 34).symm.trans e34
            replace e35 : vs 35 = .int .i64 ((m : Nat) : Int) := (hvs 35).symm.trans e35
            replace e36 : vs 36 = .int .i64 (((m : Nat) : Int) % (64 : Int)) := (hvs 36).symm.trans e36
            replace e37 : vs 37 = .int .u64 ((2 ^ (m % 64) : Nat) : Int) := (hvs 37).symm.trans e37
            subst hb
            clear hvs hold hT hdf hsz
            simp only [setAll, Act.put, List.setIfInBounds_toArray, List.set_cons_zero, List.set_cons_succ, List.getElem_toArray, List.getElem_cons_succ, List.getElem_cons_zero]
            (intro o_ ho_; simp only [List.getElem?_toArray, List.getElem?_cons_succ, List.getElem?_cons_zero, Option.some.injEq] at ho_; subst ho_)
            refine opw_ostore rfl (g := g5) (i := m / 64) (e39.trans (by rw [Nat.zero_add, Nat.mul_one])) e38 ((hS.ext hW).own 0 rfl) (by omega) rfl rfl (by kernel_rfl) fun w4 h1 hU => ?_
            replace hS := (hS.ext hW).upd 0 rfl (.own (.slice (some ⟨g5, 0, none⟩) M M) 49 1 M (u64s (wordsW l m))) (by simpa [Fact.blk, Value.ownBlock] using upd_gb hU) (by rw [HWD.out]; exact h1) fun _ e => .inl e
            simp only [TailWp]
            simp only [Act.put, List.setIfInBounds_toArray, List.set_cons_zero, List.set_cons_succ]
            clear e38 e39 h1 hU hW
            go_wp2_with (first | ((with_reducible show wpList _ _ _ (⟨_, .store _ _ _, _, _, _, _⟩ :: _) _ _); (first | (refine st_store hS 0 rfl _ _ _ rfl _ _ rfl rfl _ _ rfl (by kernel_rfl) (by kernel_rfl) (by kernel_rfl) ?_) | (refine st_store hS 1 rfl _ _ _ rfl _ _ rfl rfl _ _ rfl (by kernel_rfl) (by kernel_rfl) (by kernel_rfl) ?_) | (refine st_store hS 2 rfl _ _ _ rfl _ _ rfl rfl _ _ rfl (by kernel_rfl) (by kernel_rfl) (by kernel_rfl) ?_) | (refine st_store hS 3 rfl _ _ _ rfl _ _ rfl rfl _ _ rfl (by kernel_rfl) (by kernel_rfl) (by kernel_rfl) ?_) | (refine st_cstore hS 0 rfl _ _ _ rfl _ _ _ rfl rfl rfl (by first | (simp; done) | (simp; omega) | exact of_decide_eq_true (by kernel_rfl)) rfl (by first | rfl | assumption) (by kernel_rfl) ?_) | (refine st_cstore hS 1 rfl _ _ _ rfl _ _ _ rfl rfl rfl (by first | (simp; done) | (simp; omega) | exact of_decide_eq_true (by kernel_rfl)) rfl (by first | rfl | assumption) (by kernel_rfl) ?_) | (refine st_cstore hS 2 rfl _ _ _ rfl _ _ _ rfl rfl rfl (by first | (simp; done) | (simp; omega) | exact of_decide_eq_true (by kernel_rfl)) rfl (by first | rfl | assumption) (by kernel_rfl) ?_) | (refine st_cstore hS 3 rfl _ _ _ rfl _ _ _ rfl rfl rfl (by first | (simp; done) | (simp; omega) | exact of_decide_eq_true (by kernel_rfl)) rfl (by first | rfl | assumption) (by kernel_rfl) ?_)); clear hS; intro w_ hS; (try simp only [Act.put, Act.eval, List.set_cons_zero, List.set_cons_succ, List.setIfInBounds_toArray, Array.getD_eq_getD_getElem?, List.getElem?_toArray, List.getElem?_cons_succ, List.getElem?_cons_zero, Option.getD_some, Value.cells] at hS)))
            refine bodyPost_ret (v := .agg #[.slice (some ⟨g5, 0, none⟩) M M]) (by exact results_cell_row rfl _ _ g4 31 _ (0, 0) _ rfl (hS.box 1 rfl) Tryd.underlying31 rfl (by kernel_rfl)) rfl ?_
            exact Ret.mk ⟨_, wordsW l m, rfl, HWN.out.1, HWN.out.2, by rw [HWL.out]; exact (Sl.of_own (hS.own 0 rfl)).imp fun _ h _ => .inr h⟩ hS.below
      · go_enter Tryd.func26, Tryd.ntmps26
        go_wp2_with (first
          | ((with_reducible show wpList _ _ _ (⟨some 2, _, _, _, _, _⟩ :: _) _ _); refine st_box hS rfl _ _ rfl (.agg #[.slice A l.length c]) _ rfl rfl ?_; clear hS; intro g2 w_ hS; (try simp only [Act.put, Act.eval, List.set_cons_zero, List.set_cons_succ, List.setIfInBounds_toArray, Array.getD_eq_getD_getElem?, List.getElem?_toArray, List.getElem?_cons_succ, List.getElem?_cons_zero, Option.getD_some, Value.cells] at hS))
          | ((with_reducible show wpList _ _ _ (⟨some 4, _, _, _, _, _⟩ :: _) _ _); refine st_allocz hS rfl _ rfl (by kernel_rfl) #[.slice none 0 0] (by kernel_rfl) ?_; clear hS; intro g4 w_ hS; (try simp only [Act.put, Act.eval, List.set_cons_zero, List.set_cons_succ, List.setIfInBounds_toArray, Array.getD_eq_getD_getElem?, List.getElem?_toArray, List.getElem?_cons_succ, List.getElem?_cons_zero, Option.getD_some, Value.cells] at hS))
          | ((with_reducible show wpList _ _ _ (⟨some 13, _, _, _, _, _⟩ :: _) _ _); refine st_loadw hS 1 rfl _ _ rfl g2 rfl _ #[.slice A l.length c] rfl _ Tryd.underlying31 rfl (by kernel_rfl) ?_)
          | (go_at_call 20; refine (has_any _ N _ _ _ (HK.out _ _ hS.ro).1).mono ?_; rw [HH.out]; rintro r_ w2 ⟨_, rfl, rfl, hb2⟩; replace hS := hS.ext hb2; clear hb2)
          | ((with_reducible show wpList _ _ _ (⟨_, .makeSlice _ _ _, _, _, _, _⟩ :: _) _ _); refine st_mk hS rfl _ _ _ rfl ty_u64s' .i64 .i64 M #[.int .u64 0] (congrArg (Value.int .i64) (by omega)) (congrArg (Value.int .i64) (by omega)) (by kernel_rfl) (by omega) (by omega) ?_; clear hS; intro g5 w_ hS)
          | ((with_reducible show wpList _ _ _ (⟨_, .call { callee := .builtin .copy, args := _, argTypes := _ }, _, _, _, _⟩ :: _) _ _); refine st_ocopy hS 0 rfl _ _ _ _ rfl _ Tryd.underlying29 (by kernel_rfl) g5 M l.length c A rfl rfl rfl (HK.out _ _ hS.ro).2 hM1.1 (u64s_one _) ?_; clear hS; intro w_ hS; simp only [List.set_cons_zero] at hS)
          | ((with_reducible show wpList _ _ _ (⟨_, .load _ _, _, _, _, _⟩ :: _) _ _); first | (refine st_cell hS 0 rfl _ _ rfl _ _ rfl _ _ rfl (by decide +kernel) _ (by first | assumption | rfl) ?_) | (refine st_cell hS 1 rfl _ _ rfl _ _ rfl _ _ rfl (by decide +kernel) _ (by first | assumption | rfl) ?_) | (refine st_cell hS 2 rfl _ _ rfl _ _ rfl _ _ rfl (by decide +kernel) _ (by first | assumption | rfl) ?_) | (refine st_cell hS 3 rfl _ _ rfl _ _ rfl _ _ rfl (by decide +kernel) _ (by first | assumption | rfl) ?_) | (refine st_cell hS 4 rfl _ _ rfl _ _ rfl _ _ rfl (by decide +kernel) _ (by first | assumption | rfl) ?_) | (refine st_cell hS 5 rfl _ _ rfl _ _ rfl _ _ rfl (by decide +kernel) _ (by first | assumption | rfl) ?_) | (refine st_cell hS 6 rfl _ _ rfl _ _ rfl _ _ rfl (by decide +kernel) _ (by first | assumption | rfl) ?_) | (refine st_cell hS 7 rfl _ _ rfl _ _ rfl _ _ rfl (by decide +kernel) _ (by first | assumption | rfl) ?_))
          | ((with_reducible show wpList _ _ _ (⟨_, .binOp _ _ _ _ _, _, _, _, _⟩ :: _) _ _); (first | (refine st_lss rfl _ _ _ _ rfl _ _ _ rfl rfl (fun h_ => ?_) (fun h_ => ?_)) | (refine st_leq rfl _ _ _ _ rfl _ _ _ rfl rfl (fun h_ => ?_) (fun h_ => ?_)) | (refine st_gtr rfl _ _ _ _ rfl _ _ _ rfl rfl (fun h_ => ?_) (fun h_ => ?_)) | (refine st_geq rfl _ _ _ _ rfl _ _ _ rfl rfl (fun h_ => ?_) (fun h_ => ?_)) | (refine st_eql rfl _ _ _ _ rfl _ _ _ rfl rfl (fun h_ => ?_) (fun h_ => ?_)) | (refine st_neq rfl _ _ _ _ rfl _ _ _ rfl rfl (fun h_ => ?_) (fun h_ => ?_))) <;> go_prune))
        all_goals
          rw [mk_u64s] at hS
          refine wp_region_tail (fun i__ v w => match i__ with
            | 0 => v = .slice (some ⟨g5, 0, none⟩) M M
            | 1 => v = .int .i64 ((m : Nat) : Int)
            | 2 => v = .int .i64 (((m : Nat) : Int) / (64 : Int))
            | 3 => v = .pointer (some ⟨g5, 0 + (m / 64) * 1, none⟩)
            | 4 => v = .int .u64 ((x : Nat) : Int)
            | 5 => v = .int .i64 ((m : Nat) : Int)
            | 6 => v = .int .i64 (((m : Nat) : Int) % (64 : Int))
            | 7 => v = .int .u64 ((2 ^ (m % 64) : Nat) : Int)
            | 8 => v = .int .u64 ((x ||| 2 ^ (m % 64) : Nat) : Int)
            | 9 => v = .pointer (some ⟨g5, 0 + (m / 64) * 1, none⟩)
            | 10 => True
            | _ => True) 10 [] (by kernel_rfl) (by kernel_rfl) (by kernel_rfl) (by kernel_rfl) (by kernel_rfl) ?mono ⟨.inr ?r0, .inr ?r1, .inr ?r2, .inr ?r3, .inr ?r4, .inr ?r5, .inr ?r6, .inr ?r7, .inr ?r8, .inr ?r9, .inl (by decide), trivial⟩ ?post
          case mono =>
            intro i v w w' h hb
            match i, h with
            | 0, h => exact h
            | 1, h => exact h
            | 2, h => exact h
            | 3, h => exact h
            | 4, h => exact h
            | 5, h => exact h
            | 6, h => exact h
            | 7, h => exact h
            | 8, h => exact h
            | 9, h => exact h
            | 10, h => exact h
            | _ + 11, h => trivial
          case r0 =>
            refine trule fun b__ w hW hold hpre => ⟨fun hwant K hK => ?_, fun hwant => ?_⟩
            · clear hwant
              have e5 : b__.eval (.tmp 5) = .slice (some ⟨g5, 0, none⟩) M M := (hold 5 (by kernel_rfl)).trans rfl
              exact opw_move rfl e5 (hK _ _ rfl (Below.refl _ _))
            · rw [want_none rfl] at hwant; cases hwant
          case r1 =>
            refine trule fun b__ w hW hold hpre => ⟨fun hwant K hK => ?_, fun hwant => ?_⟩
            · clear hwant
              have e1 : b__.eval (.tmp 1) = .int .i64 ((m : Nat) : Int) := (hold 1 (by kernel_rfl)).trans rfl
              exact opw_move rfl e1 (hK _ _ rfl (Below.refl _ _))
            · rw [want_none rfl] at hwant; cases hwant
          case r2 =>
            refine trule fun b__ w hW hold hpre => ⟨fun hwant K hK => ?_, fun hwant => ?_⟩
            · clear hwant
              have e31 : b__.eval (.tmp 31) = .int .i64 ((m : Nat) : Int) := hpre ⟨1, _⟩ (Array.mem_of_getElem? (i := 0) rfl) rfl _ _ rfl rfl
              exact opw_bin (vx := .int .i64 ((m : Nat) : Int)) (vy := .int .i64 (64 : Int)) (v := .int .i64 (((m : Nat) : Int) / (64 : Int))) rfl e31 rfl rfl (run_quo64 (by omega) (by omega)) (hK _ _ rfl (Below.refl _ _))
            · rw [want_none rfl] at hwant; cases hwant
          case r3 =>
            refine trule fun b__ w hW hold hpre => ⟨fun hwant K hK => ?_, fun hwant => ?_⟩
            · clear hwant
              have e30 : b__.eval (.tmp 30) = .slice (some ⟨g5, 0, none⟩) M M := hpre ⟨0, _⟩ (Array.mem_of_getElem? (i := 0) rfl) rfl _ _ rfl rfl
              have e32 : b__.eval (.tmp 32) = .int .i64 (((m : Nat) : Int) / (64 : Int)) := hpre ⟨2, _⟩ (Array.mem_of_getElem? (i := 1) rfl) rfl _ _ rfl rfl
              exact opw_iaddr rfl e30 e32 (run_iaddr_lit (m := m / 64) Tryd.underlying29 (by kernel_rfl) (by omega) (by omega)) (hK _ _ rfl (Below.refl _ _))
            · rw [want_none rfl] at hwant; cases hwant
          case r4 =>
            refine trule fun b__ w hW hold hpre => ⟨fun hwant K hK => ?_, fun hwant => ?_⟩
            · clear hwant
              have e33 : b__.eval (.tmp 33) = .pointer (some ⟨g5, 0 + (m / 64) * 1, none⟩) := hpre ⟨3, _⟩ (Array.mem_of_getElem? (i := 0) rfl) rfl _ _ rfl rfl
              exact opw_cell rfl e33 (by kernel_rfl) (by rw [Nat.zero_add, Nat.mul_one]; exact own_cell ((hS.ext (undrew hW)).own 0 rfl) (m / 64) _ HG.out) (hK _ _ rfl (Below.refl _ _))
            · rw [want_none rfl] at hwant; cases hwant
          case r5 =>
            refine trule fun b__ w hW hold hpre => ⟨fun hwant K hK => ?_, fun hwant => ?_⟩
            · clear hwant
              have e1 : b__.eval (.tmp 1) = .int .i64 ((m : Nat) : Int) := (hold 1 (by kernel_rfl)).trans rfl
              exact opw_move rfl e1 (hK _ _ rfl (Below.refl _ _))
            · rw [want_none rfl] at hwant; cases hwant
          case r6 =>
            refine trule fun b__ w hW hold hpre => ⟨fun hwant K hK => ?_, fun hwant => ?_⟩
            · clear hwant
              have e35 : b__.eval (.tmp 35) = .int .i64 ((m : Nat) : Int) := hpre ⟨5, _⟩ (Array.mem_of_getElem? (i := 0) rfl) rfl _ _ rfl rfl
              exact opw_bin (vx := .int .i64 ((m : Nat) : Int)) (vy := .int .i64 (64 : Int)) (v := .int .i64 (((m : Nat) : Int) % (64 : Int))) rfl e35 rfl rfl (run_rem64 (by omega) (by omega)) (hK _ _ rfl (Below.refl _ _))
            · rw [want_none rfl] at hwant; cases hwant
          case r7 =>
            refine trule fun b__ w hW hold hpre => ⟨fun hwant K hK => ?_, fun hwant => ?_⟩
            · clear hwant
              have e36 : b__.eval (.tmp 36) = .int .i64 (((m : Nat) : Int) % (64 : Int)) := hpre ⟨6, _⟩ (Array.mem_of_getElem? (i := 0) rfl) rfl _ _ rfl rfl
              exact opw_bin (vx := .int .u64 1) (vy := .int .i64 (((m : Nat) : Int) % (64 : Int))) (v := .int .u64 ((2 ^ (m % 64) : Nat) : Int)) rfl rfl e36 rfl (run_shl1 (by omega)) (hK _ _ rfl (Below.refl _ _))
            · rw [want_none rfl] at hwant; cases hwant
          case r8 =>
            refine trule fun b__ w hW hold hpre => ⟨fun hwant K hK => ?_, fun hwant => ?_⟩
            · clear hwant
              have e34 : b__.eval (.tmp 34) = .int .u64 ((x : Nat) : Int) := hpre ⟨4, _⟩ (Array.mem_of_getElem? (i := 0) rfl) rfl _ _ rfl rfl
              have e37 : b__.eval (.tmp 37) = .int .u64 ((2 ^ (m % 64) : Nat) : Int) := hpre ⟨7, _⟩ (Array.mem_of_getElem? (i := 1) rfl) rfl _ _ rfl rfl
              exact opw_bin (vx := .int .u64 ((x : Nat) : Int)) (vy := .int .u64 ((2 ^ (m % 64) : Nat) : Int)) (v := .int .u64 ((x ||| 2 ^ (m % 64) : Nat) : Int)) rfl e34 e37 rfl (run_or64' hx (pow_lt64 m)) (hK _ _ rfl (Below.refl _ _))
            · rw [want_none rfl] at hwant; cases hwant
          case r9 =>
            refine trule fun b__ w hW hold hpre => ⟨fun hwant K hK => ?_, fun hwant => ?_⟩
            · clear hwant
              have e30 : b__.eval (.tmp 30) = .slice (some ⟨g5, 0, none⟩) M M := hpre ⟨0, _⟩ (Array.mem_of_getElem? (i := 0) rfl) rfl _ _ rfl rfl
              have e32 : b__.eval (.tmp 32) = .int .i64 (((m : Nat) : Int) / (64 : Int)) := hpre ⟨2, _⟩ (Array.mem_of_getElem? (i := 1) rfl) rfl _ _ rfl rfl
              exact opw_iaddr rfl e30 e32 (run_iaddr_lit (m := m / 64) Tryd.underlying29 (by kernel_rfl) (by omega) (by omega)) (hK _ _ rfl (Below.refl _ _))
            · rw [want_none rfl] at hwant; cases hwant
          case post =>
            intro b__ wz hW hdf hsz hold hT
            have e39 : b__.eval (.tmp 39) = .pointer (some ⟨g5, 0 + (m / 64) * 1, none⟩) := hT 9 _ 39 (by decide) rfl rfl
            have e38 : b__.eval (.tmp 38) = .int .u64 ((x ||| 2 ^ (m % 64) : Nat) : Int) := hT 8 _ 38 (by decide) rfl rfl
            have e30 : b__.eval (.tmp 30) = .slice (some ⟨g5, 0, none⟩) M M := hT 0 _ 30 (by decide) rfl rfl
            have e31 : b__.eval (.tmp 31) = .int .i64 ((m : Nat) : Int) := hT 1 _ 31 (by decide) rfl rfl
            have e32 : b__.eval (.tmp 32) = .int .i64 (((m : Nat) : Int) / (64 : Int)) := hT 2 _ 32 (by decide) rfl rfl
            have e33 : b__.eval (.tmp 33) = .pointer (some ⟨g5, 0 + (m / 64) * 1, none⟩) := hT 3 _ 33 (by decide) rfl rfl
            have e34 : b__.eval (.tmp 34) = .int .u64 ((x : Nat) : Int) := hT 4 _ 34 (by decide) rfl rfl
            have e35 : b__.eval (.tmp 35) = .int .i64 ((m : Nat) : Int) := hT 5 _ 35 (by decide) rfl rfl
            have e36 : b__.eval (.tmp 36) = .int .i64 (((m : Nat) : Int) % (64 : Int)) := hT 6 _ 36 (by decide) rfl rfl
            have e37 : b__.eval (.tmp 37) = .int .u64 ((2 ^ (m % 64) : Nat) : Int) := hT 7 _ 37 (by decide) rfl rfl
            obtain ⟨vs, hvs, hb⟩ := frame_of hdf hsz hold
            replace e39 : vs 39 = .pointer (some ⟨g5, 0 + (m / 64) * 1, none⟩) := (hvs 39).symm.trans e39
            replace e38 : vs 38 = .int .u64 ((x ||| 2 ^ (m % 64) : Nat) : Int) := (hvs 38).symm.trans e38
            replace e30 : vs 30 = .slice (some ⟨g5, 0, none⟩) M M := (hvs 30).symm.trans e30
            replace e31 : vs 31 = .int .i64 ((m : Nat) : Int) := (hvs 31).symm.trans e31
            replace e32 : vs 32 = .int .i64 (((m : Nat) : Int) / (64 : Int)) := (hvs 32).symm.trans e32
            replace e33 : vs 33 = .pointer (some ⟨g5, 0 + (m / 64) * 1, none⟩) := (hvs 33).symm.trans e33
            replace e34 : vs 34 = .int .u64 ((x : Nat) : Int) := (hvs 34).symm.trans e34
            replace e35 : vs 35 = .int .i64 ((m : Nat) : Int) := (hvs 35).symm.trans e35
            replace e36 : vs 36 = .int .i64 (((m : Nat) : Int) % (64 : Int)) := (hvs 36).symm.trans e36
            replace e37 : vs 37 = .int .u64 ((2 ^ (m % 64) : Nat) : Int) := (hvs 37).symm.trans e37
            subst hb
            clear hvs hold hT hdf hsz
            simp only [setAll, Act.put, List.setIfInBounds_toArray, List.set_cons_zero, List.set_cons_succ, List.getElem_toArray, List.getElem_cons_succ, List.getElem_cons_zero]
            (intro o_ ho_; simp only [List.getElem?_toArray, List.getElem?_cons_succ, List.getElem?_cons_zero, Option.some.injEq] at ho_; subst ho_)
            refine opw_ostore rfl (g := g5) (i := m / 64) (e39.trans (by rw [Nat.zero_add, Nat.mul_one])) e38 ((hS.ext hW).own 0 rfl) (by omega) rfl rfl (by kernel_rfl) fun w4 h1 hU => ?_
            replace hS := (hS.ext hW).upd 0 rfl (.own (.slice (some ⟨g5, 0, none⟩) M M) 49 1 M (u64s (wordsW l m))) (by simpa [Fact.blk, Value.ownBlock] using upd_gb hU) (by rw [HWD.out]; exact h1) fun _ e => .inl e
            simp only [TailWp]
            simp only [Act.put, List.setIfInBounds_toArray, List.set_cons_zero, List.set_cons_succ]
            clear e38 e39 h1 hU hW
            go_wp2_with (first | ((with_reducible show wpList _ _ _ (⟨_, .store _ _ _, _, _, _, _⟩ :: _) _ _); (first | (refine st_store hS 0 rfl _ _ _ rfl _ _ rfl rfl _ _ rfl (by kernel_rfl) (by kernel_rfl) (by kernel_rfl) ?_) | (refine st_store hS 1 rfl _ _ _ rfl _ _ rfl rfl _ _ rfl (by kernel_rfl) (by kernel_rfl) (by kernel_rfl) ?_) | (refine st_store hS 2 rfl _ _ _ rfl _ _ rfl rfl _ _ rfl (by kernel_rfl) (by kernel_rfl) (by kernel_rfl) ?_) | (refine st_store hS 3 rfl _ _ _ rfl _ _ rfl rfl _ _ rfl (by kernel_rfl) (by kernel_rfl) (by kernel_rfl) ?_) | (refine st_cstore hS 0 rfl _ _ _ rfl _ _ _ rfl rfl rfl (by first | (simp; done) | (simp; omega) | exact of_decide_eq_true (by kernel_rfl)) rfl (by first | rfl | assumption) (by kernel_rfl) ?_) | (refine st_cstore hS 1 rfl _ _ _ rfl _ _ _ rfl rfl rfl (by first | (simp; done) | (simp; omega) | exact of_decide_eq_true (by kernel_rfl)) rfl (by first | rfl | assumption) (by kernel_rfl) ?_) | (refine st_cstore hS 2 rfl _ _ _ rfl _ _ _ rfl rfl rfl (by first | (simp; done) | (simp; omega) | exact of_decide_eq_true (by kernel_rfl)) rfl (by first | rfl | assumption) (by kernel_rfl) ?_) | (refine st_cstore hS 3 rfl _ _ _ rfl _ _ _ rfl rfl rfl (by first | (simp; done) | (simp; omega) | exact of_decide_eq_true (by kernel_rfl)) rfl (by first | rfl | assumption) (by kernel_rfl) ?_)); clear hS; intro w_ hS; (try simp only [Act.put, Act.eval, List.set_cons_zero, List.set_cons_succ, List.setIfInBounds_toArray, Array.getD_eq_getD_getElem?, List.getElem?_toArray, List.getElem?_cons_succ, List.getElem?_cons_zero, Option.getD_some, Value.cells] at hS)))
            refine bodyPost_ret (v := .agg #[.slice (some ⟨g5, 0, none⟩) M M]) (by exact results_cell_row rfl _ _ g4 31 _ (0, 0) _ rfl (hS.box 1 rfl) Tryd.underlying31 rfl (by kernel_rfl)) rfl ?_
            exact Ret.mk ⟨_, wordsW l m, rfl, HWN.out.1, HWN.out.2, by rw [HWL.out]; exact (Sl.of_own (hS.own 0 rfl)).imp fun _ h _ => .inr h⟩ hS.below
end Go.Proofs.YtihpgmbinhmmlaaDoor
namespace Go.Proofs.YtihpgmbinhmmlaaDoor
open Go.RowKit
set_option maxRecDepth 20000

def OwnB (w : World) (base : Nat) (x : Value) (bs : List Nat) : Prop := Sl w (base ≤ ·) 1 x bs.length (u8s bs) ∧ (0 < bs.length → w.ownsRow base 5 1 x bs.length (u8s bs))
theorem OwnB.nil {w : World} {base : Nat} : OwnB w base (.slice none 0 0) [] := ⟨Sl.none_, fun h => absurd h (by simp)⟩
theorem OwnB.down {w : World} {b b' : Nat} {x : Value} {bs : List Nat} (h : OwnB w b x bs) (hb : b' ≤ b) : OwnB w b' x bs := ⟨h.1.imp fun k hk _ => Nat.le_trans hb hk, fun h0 => by
  have h := h.2 h0
  refine ⟨h.1, ?_⟩
  rcases h.2 with h | ⟨g, cap, cur, h1, h2, h3⟩
  · exact .inl h
  · exact .inr ⟨g, cap, cur, h1, Nat.le_trans hb h2, h3⟩⟩
end Go.Proofs.YtihpgmbinhmmlaaDoor
namespace Go.Proofs.YtihpgmbinhmmlaaDoor
open Go.RowKit
set_option maxRecDepth 20000

end Go.Proofs.YtihpgmbinhmmlaaDoor
namespace Go.Proofs.YtihpgmbinhmmlaaDoor
open Go.RowKit
set_option maxRecDepth 20000

end Go.Proofs.YtihpgmbinhmmlaaDoor
namespace Go.Proofs.YtihpgmbinhmmlaaDoor
open Go.RowKit
set_option maxRecDepth 20000

end Go.Proofs.YtihpgmbinhmmlaaDoor
namespace Go.Proofs.YtihpgmbinhmmlaaDoor
open Go.RowKit
attribute [local go_sem ↓] Go.wp_at_zero Go.wp_at_succ
set_option maxRecDepth 20000

def rotl (x n : Nat) : Nat := (x * 2 ^ n) % T64 ||| x / 2 ^ (64 - n)
theorem wrap_u64 (m : Nat) : IntKind.u64.wrap (m : Int) = ((m % T64 : Nat) : Int) := by
  simp [IntKind.wrap, IntKind.signed, IntKind.bits, T64]
def roundsL : List Nat := [1, 32898, 9223372036854808714, 9223372039002292224, 32907, 2147483649, 9223372039002292353, 9223372036854808585, 138, 136, 2147516425, 2147483658, 2147516555, 9223372036854775947, 9223372036854808713, 9223372036854808579, 9223372036854808578, 9223372036854775936, 32778, 9223372039002259466, 9223372039002292353, 9223372036854808704, 2147483649, 9223372039002292232]
def turnsL : List Nat := [0, 1, 62, 28, 27, 36, 44, 6, 55, 20, 3, 10, 43, 25, 39, 41, 45, 15, 21, 8, 18, 2, 61, 56, 14]
def BoxF (w : World) (b : Nat) (t : TypeId × (Nat × Nat)) (cs : Array Value) : Prop := w.heap[b]? = some (.cells cs t.1 t.2)
section
variable {w w' : World} {b : Nat} {t : TypeId × (Nat × Nat)} {cs : Array Value}
theorem BoxF.lt (h : BoxF w b t cs) : b < w.heap.size := (Array.getElem?_eq_some_iff.1 h).1
theorem BoxF.cell (h : BoxF w b t cs) (i : Nat) : w.cell? ⟨b, i, none⟩ = cs[i]? := cell_of_row w b i cs t.1 t.2 h
theorem BoxF.below {B : Nat} (h : BoxF w b t cs) (hb : Below B w w') (hl : b < B) : BoxF w' b t cs := (hb.block b hl).trans h
end
section
variable {w : World} {b : Nat} {t : TypeId} {a : List Nat} {rest : List Value}
theorem Box.word (h : Box w b t (u64s a ++ rest).toArray) {i : Nat} (hi : i < a.length) : w.cell? ⟨b, i, none⟩ = some (.int .u64 (a.getD i 0 : Nat)) := by
  rw [h.cell, List.getElem?_toArray, List.getElem?_append_left (by rw [u64s_length]; exact hi), u64s_at _ _ hi]
end
def kc (a : List Nat) (x : Nat) : Nat := (((a.getD x 0 ^^^ a.getD (x + 5) 0) ^^^ a.getD (x + 10) 0) ^^^ a.getD (x + 15) 0) ^^^ a.getD (x + 20) 0
def kd (c : List Nat) (x : Nat) : Nat := c.getD ((x + 4) % 5) 0 ^^^ rotl (c.getD ((x + 1) % 5) 0) 1
def kbAt (a c : List Nat) (x : Nat) (b : List Nat) (y : Nat) : List Nat := b.set (y + 5 * ((2 * x + 3 * y) % 5)) (rotl (a.getD (x + 5 * y) 0 ^^^ kd c x) (turnsL.getD (x + 5 * y) 0))
def kbRow (a c : List Nat) (b : List Nat) (x : Nat) (k : Nat) : List Nat := (List.range k).foldl (kbAt a c x) b
def kbTo (a c : List Nat) (k : Nat) : List Nat := (List.range k).foldl (fun b x => kbRow a c b x 5) (List.replicate 25 0)
def ka (b : List Nat) (i : Nat) : Nat := b.getD i 0 ^^^ (not64 (b.getD ((i % 5 + 1) % 5 + i / 5 * 5) 0) &&& b.getD ((i % 5 + 2) % 5 + i / 5 * 5) 0)
def mixTo (f : Nat → Nat) (a : List Nat) (k : Nat) : List Nat := (List.range 25).map fun j => if j < k then f j else a.getD j 0
def kround (a : List Nat) (c : Nat) : List Nat :=
  let b := kbTo a ((List.range 5).map (kc a)) 5
  ((List.range 25).map (ka b)).set 0 (ka b 0 ^^^ c)
def perm (a : List Nat) : List Nat := roundsL.foldl kround a
end Go.Proofs.YtihpgmbinhmmlaaDoor
namespace Go.Proofs.YtihpgmbinhmmlaaDoor
open Go.RowKit
attribute [local go_sem ↓] Go.wp_at_zero Go.wp_at_succ
set_option maxRecDepth 20000

def bitsW (y : Nat) : List Nat := (List.range 64).filter fun i => y.testBit i
theorem odd_split (y : Nat) (h : y ≠ 0) : ∃ t m, y = 2 ^ t * (2 * m + 1) := by
  induction y using Nat.strongRecOn with
  | _ y ih =>
    rcases Nat.mod_two_eq_zero_or_one y with h2 | h2
    · obtain ⟨t, m, e⟩ := ih (y / 2) (by omega) (by omega)
      refine ⟨t + 1, m, ?_⟩
      rw [Nat.pow_succ, Nat.mul_right_comm, ← e]; omega
    · exact ⟨0, y / 2, by simp; omega⟩
theorem tb_odd (t m i : Nat) : (2 ^ t * (2 * m + 1)).testBit i = (decide (t ≤ i) && (2 * m + 1).testBit (i - t)) := Nat.testBit_two_pow_mul
theorem tb_at (t m : Nat) : (2 ^ t * (2 * m + 1)).testBit t = true := by rw [tb_odd]; simp
theorem tb_lo (t m i : Nat) (h : i < t) : (2 ^ t * (2 * m + 1)).testBit i = false := by rw [tb_odd]; simp; omega
theorem tb_hi (t m i : Nat) (h : t < i) : (2 ^ t * (2 * m + 1)).testBit i = m.testBit (i - t - 1) := by
  rw [tb_odd, show i - t = (i - t - 1) + 1 by omega, Nat.testBit_succ]
  simp; rw [show (2 * m + 1) / 2 = m by omega, show decide (t ≤ i) = true by simp; omega, Bool.true_and]
theorem pred_eq (t m : Nat) : 2 ^ t * (2 * m + 1) - 1 = 2 ^ (t + 1) * m + (2 ^ t - 1) := by
  have := Nat.two_pow_pos t
  rw [Nat.pow_succ, Nat.mul_add, Nat.mul_one, Nat.mul_assoc]; omega
theorem pb_at (t m : Nat) : (2 ^ t * (2 * m + 1) - 1).testBit t = false := by
  rw [pred_eq, Nat.testBit_two_pow_mul_add _ (by have := Nat.two_pow_pos t; rw [Nat.pow_succ]; omega), if_pos (by omega), Nat.testBit_two_pow_sub_one]; simp
theorem pb_hi (t m i : Nat) (h : t < i) : (2 ^ t * (2 * m + 1) - 1).testBit i = m.testBit (i - t - 1) := by
  rw [pred_eq, Nat.testBit_two_pow_mul_add _ (by have := Nat.two_pow_pos t; rw [Nat.pow_succ]; omega), if_neg (by omega)]; congr 1
theorem odd_lt {t m : Nat} (h : 2 ^ t * (2 * m + 1) < T64) : t < 64 := by
  rcases Nat.lt_or_ge t 64 with h1 | h1
  · exact h1
  · have h2 : 2 ^ 64 ≤ 2 ^ t := Nat.pow_le_pow_right (by decide) h1
    have h3 : 2 ^ t * 1 ≤ 2 ^ t * (2 * m + 1) := Nat.mul_le_mul_left _ (by omega)
    rw [T64_eq] at h; omega
theorem dropLow_bit (t m i : Nat) : (2 ^ t * (2 * m + 1) &&& (2 ^ t * (2 * m + 1) - 1)).testBit i = ((2 ^ t * (2 * m + 1)).testBit i && decide (i ≠ t)) := by
  rw [Nat.testBit_and]
  rcases Nat.lt_trichotomy i t with h | h | h
  · rw [tb_lo _ _ _ h]; simp
  · subst h; rw [pb_at]; simp
  · rw [tb_hi _ _ _ h, pb_hi _ _ _ h]; simp; intro _; omega
theorem range_part {t : Nat} (h : t < 64) : List.range 64 = List.range t ++ t :: (List.range (63 - t)).map (t + 1 + ·) := by
  apply List.ext_getElem
  · simp; omega
  · intro i h1 h2
    simp only [List.getElem_range, List.getElem_append, List.getElem_cons, List.getElem_map, List.length_range]
    split
    · rfl
    · split
      · omega
      · omega
theorem bitsW_odd {t m : Nat} (h : 2 ^ t * (2 * m + 1) < T64) : bitsW (2 ^ t * (2 * m + 1)) = t :: bitsW (2 ^ t * (2 * m + 1) &&& (2 ^ t * (2 * m + 1) - 1)) := by
  have ht := odd_lt h
  unfold bitsW
  rw [range_part ht]
  simp only [List.filter_append, List.filter_cons, tb_at, dropLow_bit]
  have h1 : (List.range t).filter (fun i => (2 ^ t * (2 * m + 1)).testBit i) = [] := by
    rw [List.filter_eq_nil_iff]; intro i hi; rw [tb_lo _ _ _ (List.mem_range.1 hi)]; simp
  have h2 : (List.range t).filter (fun i => (2 ^ t * (2 * m + 1)).testBit i && decide (i ≠ t)) = [] := by
    rw [List.filter_eq_nil_iff]; intro i hi; rw [tb_lo _ _ _ (List.mem_range.1 hi)]; simp
  rw [h1, h2]
  simp
  rw [List.filter_map, List.filter_map]
  congr 1
  apply List.filter_congr
  intro i _
  simp; intro _; omega
theorem bitsW_zero : bitsW 0 = [] := by simp [bitsW]
def tzN (y : Nat) : Nat := (bitsW y).headD 64
theorem tzN_odd {t m : Nat} (h : 2 ^ t * (2 * m + 1) < T64) : tzN (2 ^ t * (2 * m + 1)) = t := by unfold tzN; rw [bitsW_odd h]; rfl
theorem bitsW_step {y : Nat} (h : y < T64) (h0 : y ≠ 0) : bitsW y = tzN y :: bitsW (y &&& (y - 1)) := by
  obtain ⟨t, m, rfl⟩ := odd_split y h0
  rw [tzN_odd h]; exact bitsW_odd h
theorem tzN_lt {y : Nat} (h : y < T64) (h0 : y ≠ 0) : tzN y < 64 := by
  obtain ⟨t, m, rfl⟩ := odd_split y h0
  rw [tzN_odd h]; exact odd_lt h
theorem dropLow_lt {y : Nat} (h : y < T64) (h0 : y ≠ 0) : y &&& (y - 1) < y := by
  have : y &&& (y - 1) ≤ y - 1 := Nat.and_le_right
  omega
theorem low_pow {y : Nat} (h : y < T64) (h0 : y ≠ 0) : y &&& (T64 - y) = 2 ^ tzN y := by
  obtain ⟨t, m, rfl⟩ := odd_split y h0
  rw [tzN_odd h]
  have ht := odd_lt h
  have hy : 0 < 2 ^ t * (2 * m + 1) := by omega
  have e : T64 - 2 ^ t * (2 * m + 1) = 2 ^ 64 - ((2 ^ t * (2 * m + 1) - 1) + 1) := by rw [T64_eq]; omega
  apply Nat.eq_of_testBit_eq
  intro i
  rw [Nat.testBit_and, e, Nat.testBit_two_pow_sub_succ (by rw [T64_eq] at h; omega), Nat.testBit_two_pow]
  rcases Nat.lt_trichotomy i t with hi | hi | hi
  · rw [tb_lo _ _ _ hi]; simp; omega
  · subst hi; rw [tb_at, pb_at]; simp [ht]
  · rw [tb_hi _ _ _ hi, pb_hi _ _ _ hi]
    cases m.testBit (i - t - 1) <;> simp <;> omega

def dbL : List Nat := [0, 1, 56, 2, 57, 49, 28, 3, 61, 58, 42, 50, 38, 29, 17, 4, 62, 47, 59, 36, 45, 43, 51, 22, 53, 39, 33, 30, 24, 18, 12, 5, 63, 55, 48, 27, 60, 41, 37, 16, 46, 35, 44, 21, 52, 32, 23, 11, 54, 26, 40, 15, 34, 20, 31, 10, 25, 14, 19, 9, 13, 8, 7, 6]
def DTab (w : World) : Prop := ∀ q, q < 64 → w.cell? ⟨0, q, none⟩ = some (.int .u8 (dbL.getD q 0 : Nat))
theorem DTab.ext {w w' : World} (h : DTab w) (hb : Below w.heap.size w w') : DTab w' := fun q hq => by
  have hl : 0 < w.heap.size := by
    rcases Nat.lt_or_ge 0 w.heap.size with h' | h'
    · exact h'
    · have := h q hq
      simp [World.cell?, Array.getElem?_eq_none h'] at this
  exact (hb.cell (p := ⟨0, q, none⟩) hl).trans (h q hq)
theorem db_all : ∀ t, t < 64 → dbL.getD (2 ^ t * 285870213051353865 % 18446744073709551616 / 2 ^ 58) 0 = t ∧ 2 ^ t * 285870213051353865 % 18446744073709551616 / 2 ^ 58 < 64 := by decide
theorem shr_nat (x k : Nat) : (x : Int) / 2 ^ k = ((x / 2 ^ k : Nat) : Int) := by simp
theorem wrap_nat (x : Nat) : IntKind.u64.wrap (x : Int) = ((x % 18446744073709551616 : Nat) : Int) := by rw [IntKind.wrap_u64]; simp
theorem wrap_neg {y : Nat} (h : y < T64) (h0 : y ≠ 0) : IntKind.u64.wrap (-(y : Int)) = ((T64 - y : Nat) : Int) := by
  rw [IntKind.wrap_u64]; unfold T64 at *; omega
theorem run_mul_db (p : Nat) (w : World) : (binOp .mul 49 (.int .u64 (p : Nat)) (.int .u64 285870213051353865)).run Tryd.prog w = .ok (.int .u64 (p * 285870213051353865 % 18446744073709551616 : Nat)) w := by
  have e3 : IntKind.u64.wrap ((p : Int) * 285870213051353865) = ((p * 285870213051353865 % 18446744073709551616 : Nat) : Int) := by rw [← wrap_nat]; simp
  simp only [binOp, Op.intArith, ne_eq, not_true_eq_false, if_false, e3]
  rfl
theorem run_shr58 (r : Nat) (w : World) : (binOp .shr 49 (.int .u64 (r : Nat)) (.int .u64 58)).run Tryd.prog w = .ok (.int .u64 (r / 2 ^ 58 : Nat)) w := by
  rw [binOp_shr, shift_shr _ _ _ _ (by decide) (by decide)]
  have e4 : (r : Int) / 2 ^ (58 : Int).toNat = ((r / 2 ^ 58 : Nat) : Int) := by
    rw [show (58 : Int).toNat = 58 from rfl]; exact shr_nat r 58
  rw [e4]
  rfl
theorem run_dbidx (q : Nat) (hq : q < 64) (w : World) : (Instr.indexAt 105 (.pointer (some ⟨0, 0, none⟩)) (.int .u64 (q : Nat))).run Tryd.prog w = .ok (.pointer (some ⟨0, q, none⟩)) w := by
  have h : (0 : Int) ≤ q ∧ (q : Int) < 64 := by omega
  go_simp
theorem tz_any (y : Nat) (hy : y < T64) (w : World) (hT : DTab w) :
    Calls Tryd.prog 64 #[.int .u64 y] w fun e w' => e = .returned (.int .i64 (tzN y : Nat)) ∧ w = w' := by
  by_cases h0 : y = 0
  · subst h0
    go_enter Tryd.func64, Tryd.ntmps64
    go_wp2_with (first | ((with_reducible show wpList _ _ _ (⟨_, .binOp _ _ _ _ _, _, _, _, _⟩ :: _) _ _); (first | (refine st_lss rfl _ _ _ _ rfl _ _ _ rfl rfl (fun h_ => ?_) (fun h_ => ?_)) | (refine st_leq rfl _ _ _ _ rfl _ _ _ rfl rfl (fun h_ => ?_) (fun h_ => ?_)) | (refine st_gtr rfl _ _ _ _ rfl _ _ _ rfl rfl (fun h_ => ?_) (fun h_ => ?_)) | (refine st_geq rfl _ _ _ _ rfl _ _ _ rfl rfl (fun h_ => ?_) (fun h_ => ?_)) | (refine st_eql rfl _ _ _ _ rfl _ _ _ rfl rfl (fun h_ => ?_) (fun h_ => ?_)) | (refine st_neq rfl _ _ _ _ rfl _ _ _ rfl rfl (fun h_ => ?_) (fun h_ => ?_))) <;> go_prune))
    go_ret
    exact ⟨rfl, rfl⟩
  · have e1 := wrap_neg hy h0
    have e2 := and64 hy (b := T64 - y) (by unfold T64; omega)
    rw [low_pow hy h0] at e2
    have ht := tzN_lt hy h0
    obtain ⟨d1, d2⟩ := db_all _ ht
    obtain ⟨p, hp⟩ : ∃ p, p = 2 ^ tzN y := ⟨_, rfl⟩
    rw [← hp] at d1 d2 e2
    clear hp
    have e3 := run_mul_db p w
    generalize p * 285870213051353865 % 18446744073709551616 = r at *
    have E3 := Lib.hid e3
    clear e3
    have E4 := Lib.hid (run_shr58 r w)
    generalize r / 2 ^ 58 = q at *
    have hc := hT q d2
    rw [d1] at hc
    have E5 := Lib.hid (run_dbidx q d2 w)
    have HC := Lib.hid hc
    clear hc
    have hw : IntKind.i64.wrap ((tzN y : Nat) : Int) = ((tzN y : Nat) : Int) := by rw [IntKind.wrap_i64]; omega
    have h0' : ((y : Int) == 0) = false := by simp; omega
    generalize tzN y = z at *
    clear h0 hT d1
    go_enter Tryd.func64, Tryd.ntmps64
    go_wp2_with (first | ((with_reducible show wpList _ _ _ (⟨some 9, _, _, _, _, _⟩ :: _) _ _); refine BigFrame.wpList_want rfl (fun _ hK => opw_bin rfl rfl rfl rfl E3.out (hK _ _ ?_))) | ((with_reducible show wpList _ _ _ (⟨some 10, _, _, _, _, _⟩ :: _) _ _); refine BigFrame.wpList_want rfl (fun _ hK => opw_bin rfl rfl rfl rfl E4.out (hK _ _ ?_))) | ((with_reducible show wpList _ _ _ (⟨some 11, _, _, _, _, _⟩ :: _) _ _); refine BigFrame.wpList_want rfl (fun _ hK => opw_iaddr rfl rfl rfl E5.out (hK _ _ ?_))) | ((with_reducible show wpList _ _ _ (⟨some 12, _, _, _, _, _⟩ :: _) _ _); refine BigFrame.wpList_want rfl (fun _ hK => opw_cell rfl rfl (by decide +kernel) HC.out (hK _ _ ?_))))
    go_ret
    exact ⟨rfl, rfl⟩

section
variable {P : Program} {ops : Array Oper} {rest : List Oper} {o : Oper} {a : Act} {w : World} {Q : Exit → Act → World → Prop}
end
end Go.Proofs.YtihpgmbinhmmlaaDoor
namespace Go.Proofs.YtihpgmbinhmmlaaDoor
open Go.RowKit Go.Shelf
attribute [local go_sem] Oper.semAt_some
set_option maxRecDepth 100000

theorem memTo_word {ws : List Nat} (hw : Words ws) (k : Nat) : memTo (val ws) (64 * (k + 1)) = memTo (val ws) (64 * k) ++ (bitsW (ws.getD k 0)).map (64 * k + ·) := by
  unfold memTo bitsW
  rw [show 64 * (k + 1) = 64 * k + 64 by omega, List.range_add, List.filter_append, List.filter_map]
  congr 2
  apply List.filter_congr
  intro i hi
  have hi := List.mem_range.1 hi
  simp only [Function.comp]
  rw [testBit_val hw, show (64 * k + i) / 64 = k by omega, show (64 * k + i) % 64 = i by omega]
theorem memTo_mono (N : Nat) {j k : Nat} (h : j ≤ k) : (memTo N j).length ≤ (memTo N k).length := by
  obtain ⟨d, rfl⟩ := Nat.exists_eq_add_of_le h
  unfold memTo
  rw [List.range_add, List.filter_append]; simp
def memL (ws : List Nat) : List Int := natInts (memTo (val ws) (64 * ws.length))

theorem cell_lt {w : World} {p : Addr} {x : Value} (h : w.cell? p = some x) : p.block < w.heap.size := by
  rcases Nat.lt_or_ge p.block w.heap.size with h' | h'
  · exact h'
  · simp [World.cell?, Array.getElem?_eq_none h'] at h
theorem cell_ext {w w' : World} (hb : Below w.heap.size w w') {p : Addr} {x : Value} (h : w.cell? p = some x) : w'.cell? p = some x := (hb.cell (cell_lt h)).trans h
structure Good (Bs : Nat) (A : Option Addr) (cap : Nat) (ws : List Nat) (W : World) : Prop where
  box : W.cell? ⟨Bs, 0, none⟩ = some (.slice A ws.length cap)
  some_ : 0 < ws.length → ∃ b off, A = some ⟨b, off, none⟩ ∧ ∀ j, j < ws.length → W.cell? ⟨b, off + j, none⟩ = some (.int .u64 (ws.getD j 0 : Nat))
  tab : DTab W

set_option maxHeartbeats 2000000 in
theorem all1_in (l Bs cap : Nat) (A : Option Addr) (ws : List Nat) (hw : Words ws) (hlen : ws.length ≤ 64) (J Jx : List Int → World → Prop)
    (hY : ∀ pre x W, J pre W → pre.length < (memL ws).length → pre ++ [x] <+: memL ws → YieldAt Fence.wide 4 Tryd.prog l #[.int .i64 x] W fun e W' =>
      (e = .returned (.bool true) ∧ J (pre ++ [x]) W' ∧ (Good Bs A cap ws W → Good Bs A cap ws W')) ∨ (e = .returned (.bool false) ∧ Jx (pre ++ [x]) W'))
    (W : World) (hG : Good Bs A cap ws W) (h0 : J [] W) :
    CallsIn Fence.wide 5 Tryd.prog 63 #[.func (.yield l) #[] #[], .pointer (some ⟨Bs, 0, none⟩)] W fun e W' => (∃ v, e = .returned v) ∧
      ((∃ ys, ys = memL ws ∧ J ys W') ∨ (∃ pre, pre <+: memL ws ∧ Jx pre W')) := by
  have hBs := hG.box
  have HG := Lib.hid hG
  clear hG
  refine callsIn_of_wp Tryd.func63 rfl trivial ?_ rfl
  simp only [Tryd.ntmps63, List.size_toArray, List.length_cons, List.length_nil, Nat.reduceAdd, Nat.reduceSub, Array.replicate_succ, Array.replicate_zero, List.push_toArray, List.append_toArray, List.nil_append, List.cons_append]
  gi_wp2
  gi_loopw [8] (fun i wr => ∃ k : Nat, k ≤ ws.length ∧ i = .int .i64 k ∧ J (natInts (memTo (val ws) (64 * k))) wr ∧ Hid (Good Bs A cap ws wr)) (fun i _ => ws.length - (intOf i).toNat)
  case atStart => exact ⟨0, Nat.zero_le _, rfl, h0, HG⟩
  case round =>
    obtain ⟨k, hk, rfl, hJs, hnx⟩ := hrel
    by_cases hlt : k < ws.length
    · obtain ⟨b, off, rfl, hc⟩ := hnx.out.some_ (by omega)
      have hcx := hc k hlt
      have HC := Lib.hid hc
      clear hc
      have hx := hw.getD k
      have HM := Lib.hid (memTo_word hw k)
      have HL := Lib.hid (memTo_mono (val ws) (show 64 * (k + 1) ≤ 64 * ws.length by omega))
      generalize ws.getD k 0 = x at *
      gi_wp2
      gi_loopw [4] (fun yv wr => ∃ (y : Nat) (pre : List Nat), yv = .int .u64 y ∧ y < T64 ∧ J (natInts pre) wr ∧ Hid (Good Bs (some ⟨b, off, none⟩) cap ws wr) ∧ Hid (pre ++ (bitsW y).map (64 * k + ·) = memTo (val ws) (64 * (k + 1)))) (fun yv _ => (intOf yv).toNat)
      case atStart => exact ⟨x, _, rfl, hx, hJs, hnx, Lib.hid HM.out.symm⟩
      case round =>
        obtain ⟨y, pre, rfl, hy, hJs, hnx, hP⟩ := hrel
        by_cases h0 : y = 0
        · subst h0
          have hP' : pre = memTo (val ws) (64 * (k + 1)) := by have := hP.out; simpa [bitsW_zero] using this
          subst hP'
          gi_wp2
          exact ⟨⟨k + 1, hlt, by go_num, hJs, hnx⟩, by simp [intOf]; omega⟩
        · have hP2 := hP.out
          rw [bitsW_step hy h0] at hP2
          have hl2 := congrArg List.length hP2
          simp only [List.length_append, List.map_cons, List.length_cons] at hl2
          have hlm := HL.out
          have HPF := Lib.hid (show natInts (pre ++ [64 * k + tzN y]) <+: memL ws by
            have h1 : memTo (val ws) (64 * (k + 1)) <+: memTo (val ws) (64 * ws.length) := by
              unfold memTo
              obtain ⟨d, hd⟩ := Nat.exists_eq_add_of_le (show 64 * (k + 1) ≤ 64 * ws.length by omega)
              rw [hd, List.range_add, List.filter_append]
              exact List.prefix_append _ _
            have h2 : pre ++ [64 * k + tzN y] <+: memTo (val ws) (64 * (k + 1)) := by
              rw [← hP2]
              exact ⟨_, by rw [List.append_assoc]; rfl⟩
            exact (h2.trans h1).map _)
          have hpre0 : natInts pre ++ [64 * (k : Int) + (tzN y : Nat)] = natInts (pre ++ [64 * k + tzN y]) := by simp [natInts]
          obtain ⟨fn, tmps, assign, body, hyy, hR⟩ := hY (natInts pre) (64 * (k : Int) + (tzN y : Nat)) wr hJs (by simp only [memL, natInts, List.length_map]; omega) (by rw [hpre0]; exact HPF.out)
          clear hpre0
          have hTr := Lib.hid hnx.out.tab
          have ht := tzN_lt hy h0
          have e1 : IntKind.u64.wrap ((y : Int) - 1) = ((y - 1 : Nat) : Int) := by rw [IntKind.wrap_u64]; unfold T64 at hy; omega
          have e2 := and64 hy (b := y - 1) (by omega)
          have e3 := dropLow_lt hy h0
          have hne : ((y : Int) != 0) = true := by simp; omega
          have HP3 := Lib.hid hP2
          clear hP2 hl2
          gi_wp2
          refine ⟨trivial, ?_⟩
          refine (callsIn_wide.2 (tz_any y hy wr hTr.out)).mono ?_
          rintro e w' ⟨rfl, rfl⟩
          gi_wp2
          refine hR.mono ?_
          have hpre : natInts pre ++ [64 * (k : Int) + (tzN y : Nat)] = natInts (pre ++ [64 * k + tzN y]) := by simp [natInts]
          rw [hpre]
          rintro e W3 (⟨rfl, hJ3, hk3⟩ | ⟨rfl, hJx3⟩)
          · gi_wp2
            exact ⟨⟨y &&& (y - 1), pre ++ [64 * k + tzN y], rfl, Nat.lt_trans e3 hy, hJ3, Lib.hid (hk3 hnx.out), Lib.hid (by rw [List.append_assoc]; exact HP3.out)⟩, by simp [intOf]; exact e3⟩
          · gi_wp2
            refine bodyPost_ret (results_none rfl _ _ _) rfl ?_
            exact ⟨⟨_, rfl⟩, .inr ⟨_, HPF.out, hJx3⟩⟩
    · obtain rfl : k = ws.length := by omega
      gi_wp2
      go_end0
      exact ⟨⟨_, rfl⟩, .inl ⟨_, rfl, hJs⟩⟩

set_option maxHeartbeats 1000000 in
theorem sall_any (v : Value) (N : Nat) (D : Nat → Prop) (w : World) (hv : IsSet w D v N) :
    Calls Tryd.prog 44 #[v] w (Ret (fun x w' => ∃ Bs A cap ws, x = .func (.func 63) #[] #[.pointer (some ⟨Bs, 0, none⟩)] ∧ v = .agg #[.slice A ws.length cap] ∧ Canon ws ∧ val ws = N ∧ Sl w D 1 (.slice A ws.length cap) ws.length (u64s ws) ∧ w.heap.size ≤ Bs ∧ Box w' Bs 31 #[.slice A ws.length cap]) w) := by
  obtain ⟨A, c, l, rfl, hl, rfl, _, _, hs⟩ := hv.parts
  have hS := St.start0 (w := w)
  go_enter Tryd.func44, Tryd.ntmps44
  go_wp2_with ((with_reducible show wpList _ _ _ (⟨some 1, _, _, _, _, _⟩ :: _) _ _); refine wpList_box_op rfl _ _ rfl _ _ rfl rfl ?_; intro w1 hX hB)
  go_ret
  exact Ret.mk ⟨_, A, c, l, rfl, rfl, hl, rfl, hs, Nat.le_refl _, hX⟩ hB
def Fact.cells : Fact → Bool
  | .obj _ _ => false
  | _ => true
def others (B : Nat) (W : World) : List Fact := (List.range W.heap.size).filterMap fun i => match W.heap[i]? with
  | some o => if o.isCells = false ∧ B ≤ i then some (.obj i o) else none
  | none => none
theorem others_mem {B : Nat} {W : World} {f : Fact} : f ∈ others B W ↔ ∃ i o, f = .obj i o ∧ W.heap[i]? = some o ∧ o.isCells = false ∧ B ≤ i := by
  unfold others
  rw [List.mem_filterMap]
  constructor
  · rintro ⟨i, hi, h⟩
    cases ho : W.heap[i]? with
    | none => simp [ho] at h
    | some o =>
      simp only [ho] at h
      split at h
      · rename_i hc; injection h with h; exact ⟨i, o, h.symm, ho, hc⟩
      · cases h
  · rintro ⟨i, o, rfl, ho, hc⟩
    refine ⟨i, ?_, by simp only [ho]; rw [if_pos hc]⟩
    have := (Array.getElem?_eq_some_iff.1 ho).1
    simp; omega
theorem others_apart (B : Nat) (W : World) : (others B W).Pairwise fun f g => ∀ k, f.blk = some k → g.blk ≠ some k := by
  unfold others
  refine List.Pairwise.filterMap _ ?_ (List.nodup_range (n := W.heap.size))
  intro i j hij f hf g hg k hk e
  have h1 : ∀ {i : Nat} {f : Fact}, (match W.heap[i]? with
    | some o => if o.isCells = false ∧ B ≤ i then some (Fact.obj i o) else none
    | none => none) = some f → f.blk = some i := by
    intro i f h
    cases ho : W.heap[i]? with
    | none => simp [ho] at h
    | some o =>
      simp only [ho] at h
      split at h
      · injection h with h; subst h; rfl
      · cases h
  have e1 := h1 (i := i) (f := f) hf
  have e2 := h1 (i := j) (f := g) hg
  rw [e1] at hk; rw [e2] at e
  injection hk with hk; injection e with e
  exact hij (hk.trans e.symm)
theorem fact_cells_block {base : Nat} {W : World} {f : Fact} (h : f.holds base W) (hc : f.cells = true) {k : Nat} (hk : f.blk = some k) {o : Obj} (ho : W.heap[k]? = some o) : o.isCells = true := by
  cases f with
  | box g t cs =>
    injection hk with hk; subst hk
    have := h.2
    unfold Box at this
    rw [this] at ho; injection ho with ho; subst ho; rfl
  | own v e size n xs =>
    obtain ⟨cs, fr, h1⟩ := own_type h k hk
    rw [h1] at ho; injection ho with ho; subst ho; rfl
  | obj g o => simp [Fact.cells] at hc
theorem St.keepsFrom {w0 W W' : World} {F : List Fact} {K : (Nat → Prop) → World → Prop} {B : Nat} (h : St w0 W' (F ++ others B W) K) (hs : W.heap.size ≤ W'.heap.size) : KeepsFrom B W W' :=
  ⟨hs, fun i o hi ho hc => (h.holds _ (List.mem_append_right _ (others_mem.2 ⟨i, o, rfl, ho, hc, hi⟩))).2⟩
theorem stable_size (n : Nat) : Stable fun _ w => n ≤ w.heap.size := fun _ _ _ _ h a _ _ => Nat.le_trans h a
def GoodK (Bs : Nat) (A : Option Addr) (cap : Nat) (ws : List Nat) (D : Nat → Prop) (w : World) : Prop :=
  Good Bs A cap ws w ∧ D Bs ∧ (∀ b off, A = some ⟨b, off, none⟩ → 0 < ws.length → D b) ∧ D 0
theorem stable_good {Bs cap : Nat} {A : Option Addr} {ws : List Nat} : Stable (GoodK Bs A cap ws) := by
  rintro D D' w w' ⟨h, d1, d2, d3⟩ a b c
  have l1 := cell_lt h.box
  have l3 := cell_lt (h.tab 0 (by omega))
  refine ⟨⟨b _ _ d1 l1 h.box, fun h0 => ?_, fun q hq => b _ _ d3 (cell_lt (h.tab q hq)) (h.tab q hq)⟩, c _ d1 l1 (cell_is h.box), fun k o e h0 => ?_, c _ d3 l3 (cell_is (h.tab 0 (by omega)))⟩
  · obtain ⟨k, o, e, hh⟩ := h.some_ h0
    exact ⟨k, o, e, fun j hj => b _ _ (d2 k o e h0) (cell_lt (hh j hj)) (hh j hj)⟩
  · obtain ⟨k', o', e', hh⟩ := h.some_ h0
    rw [e] at e'; injection e' with e'; injection e' with e1 e2; subst e1 e2
    exact c _ (d2 _ _ e h0) (cell_lt (hh 0 h0)) (cell_is (hh 0 h0))
theorem dtab_stable : Stable fun D w => DTab w ∧ D 0 := by
  rintro D D' w w' ⟨h, d⟩ a b c
  exact ⟨fun q hq => b _ _ d (cell_lt (h q hq)) (h q hq), c _ d (cell_lt (h 0 (by omega))) (cell_is (h 0 (by omega)))⟩
theorem St.good {w0 w w' : World} {F : List Fact} {K : (Nat → Prop) → World → Prop} (h : St w0 w F K) (hb : Below w.heap.size w w') {Bs cap : Nat} {A : Option Addr} {ws : List Nat} (hs : Sl w (Free F) 1 (.slice A ws.length cap) ws.length (u64s ws)) (hT : DTab w) (hF : Free F 0)
    (hB : w.heap.size ≤ Bs) (hX : Box w' Bs 31 #[.slice A ws.length cap]) : St w0 w' F fun D w => K D w ∧ GoodK Bs A cap ws D w := by
  refine (h.ext hb).add (D := Free F) stable_good ⟨⟨(hX.cell 0).trans rfl, fun h0 => ?_, hT.ext hb⟩, h.fresh hB, fun b off e h0 => ?_, hF⟩ fun _ h _ => h
  · obtain ⟨_, A', c', e, _, _, h2⟩ := hs
    obtain ⟨b, o, h3, h4, h6, h5⟩ := h2 h0
    injection e with e
    exact ⟨b, o, e.trans h3, fun j hj => cell_ext hb (h5 j _ (u64s_at _ _ hj))⟩
  · obtain ⟨_, A', c', e', _, _, h2⟩ := hs
    obtain ⟨b', o', h3, h4, h6, h5⟩ := h2 h0
    injection e' with e'
    rw [e, h3] at e'; injection e' with e'; injection e' with e1; subst e1; exact h4

section
variable {P : Program} {o : Oper} {a : Act} {w : World} {K K' : Act → World → Prop} {Q : Exit → Act → World → Prop} {ops : Array Oper}
theorem opw_mono (h : o.wp P a w K Q) (hk : ∀ a w, K a w → K' a w) : o.wp P a w K' Q := by
  unfold Oper.wp at *
  generalize (execOp a.eval o).run P w = r at *
  cases r with
  | halt x w' => cases x <;> exact h
  | ok x w' =>
    cases x with
    | value v => exact hk _ _ h
    | skip => exact hk _ _ h
    | defer d => exact hk _ _ h
    | enter f args => exact Calls.mono h fun e w' h => by cases e <;> first | exact hk _ _ h | exact h
    | row r args => exact Rows.mono h fun v w' h => hk _ _ h
    | _ => exact h.elim
theorem opIn_of (l n : Nat) (h : o.wp P a w K Q) (hd : ∀ c, o.op ≠ .defer c) : o.wpIn (Fence.wide.inRound l) n P a w K Q := by
  refine ⟨fun _ _ => trivial, ?_⟩
  rw [Oper.semAt_eq _ _ _ hd]
  unfold Oper.wp at h
  generalize (execOp a.eval o).run P w = r at *
  cases r with
  | halt x w' => cases x <;> exact h
  | ok x w' =>
    cases x with
    | value v => exact h
    | skip => exact h
    | defer d => exact h
    | enter f args => exact ⟨fun h => by simp [Fence.wide] at h, CallsIn.inRound l ((callsIn_wide (n := n - 1)).2 (Calls.mono h fun e w' h => by cases e <;> exact h))⟩
    | row r args => exact ⟨fun h => by simp [Fence.wide] at h, fun c cs _ => let ⟨v, w', r, s⟩ := h c cs; ⟨v, w', r, stepsIn_wide.2 s⟩⟩
    | _ => exact h.elim
def noDefer (l : List Oper) : Bool := l.all fun o => match o.op with | .defer _ => false | _ => true
theorem listIn_of (hQ : ∀ a w, ¬ Q .outgrown a w) (r n : Nat) (l : List Oper) (hd : noDefer l = true) : ∀ a w, wpList P ops Q l a w → wpListIn (Fence.wide.inRound r) n P ops Q l a w := by
  induction l with
  | nil => exact fun a w h => h
  | cons o l ih =>
    intro a w h
    simp only [noDefer, List.all_cons, Bool.and_eq_true] at hd
    have ih := ih (by simpa [noDefer] using hd.2)
    refine wpListIn_step fun K hK => ?_
    unfold wpList at h
    by_cases hw : Region.wanted o (yielded ops a.tmps) = true
    · rw [if_pos hw] at h ⊢
      rcases h with h | ⟨_, a', w', h⟩
      · exact opIn_of _ _ (opw_mono h fun a w h => hK _ _ (ih _ _ h)) fun c e => by rw [e] at hd; simp at hd
      · exact absurd h (hQ _ _)
    · rw [if_neg hw] at h ⊢
      exact ⟨fun _ _ => trivial, hK _ _ (ih _ _ h)⟩
end
end Go.Proofs.YtihpgmbinhmmlaaDoor
namespace Go.Proofs.YtihpgmbinhmmlaaDoor
open Go.RowKit
attribute [local go_sem ↓] Go.wp_at_zero Go.wp_at_succ
set_option maxRecDepth 20000

def Fact.low (B : Nat) (f : Fact) : Prop := f.cells = true ∨ ∃ g o, f = .obj g o ∧ g < B
theorem St.turnB {w0 w w' : World} {F : List Fact} {K : (Nat → Prop) → World → Prop} {row : Option Nat} (h : St w0 w F K) (hg : w.grownBy w' row) {B : Nat} (hr : ∀ r, row = some r → w0.heap.size ≤ r ∧ B ≤ r ∧ ∃ o : Obj, w.heap[r]? = some o ∧ o.isCells = false) (hF : ∀ f ∈ F, f.low B) : St w0 w' F K := by
  have hne : ∀ (p : Addr) (x : Value), w.cell? p = some x → row ≠ some p.block := by
    rintro p x hc e
    obtain ⟨_, _, o, ho, hn⟩ := hr _ e
    simp only [World.cell?, ho] at hc
    cases o <;> simp_all [Obj.isCells]
  refine ⟨h.below.grown hg h.size (fun k e => (hr k e).1), fun f hf => ?_, h.apart, h.stable, h.stable _ _ _ _ h.ro hg.size (fun p x _ hl hc => ?_) fun _ h _ _ => h⟩
  · refine Fact.kept (h.holds f hf) hg fun k hk e => ?_
    obtain ⟨_, hBk, o, ho, hn⟩ := hr k e
    have hh := h.holds f hf
    cases f with
    | box g t cs =>
      injection hk with hk; subst hk
      have := hh.2
      unfold Box at this
      rw [this] at ho; injection ho with ho; subst ho; simp [Obj.isCells] at hn
    | own v e' size n xs =>
      obtain ⟨cs, fr, h1⟩ := own_type hh k hk
      rw [h1] at ho; injection ho with ho; subst ho; simp [Obj.isCells] at hn
    | obj g o' =>
      injection hk with hk; subst hk
      rcases hF _ hf with h1 | ⟨g', o2, e2, h2⟩
      · simp [Fact.cells] at h1
      · injection e2 with e2; omega
  · exact (World.cell?_of_block (hg.block p.block hl fun e => hne p x hc e.symm)).trans hc
theorem St.ownFromB {β : Type} {w0 : World} (Rel : β → List Fact → ((Nat → Prop) → World → Prop) → Prop) (B : Nat) (hRel : ∀ s F K, Rel s F K → ∀ f ∈ F, f.low B) (hB : w0.heap.size ≤ B) : OwnFrom B fun s W => ∃ F' K', Rel s F' K' ∧ St w0 W F' K' :=
  fun _ _ _ _ ⟨F', K', h1, h2⟩ hg hr => ⟨F', K', h1, h2.turnB hg (fun r e => ⟨Nat.le_trans hB (hr r e).1, (hr r e).1, (hr r e).2⟩) (hRel _ _ _ h1)⟩
theorem St.withOthersB {w0 W : World} {F : List Fact} {K : (Nat → Prop) → World → Prop} (h : St w0 W F K) {B : Nat} (hF : ∀ f ∈ F, f.low B) (hB : w0.heap.size ≤ B) : St w0 W (F ++ others B W) K := by
  refine ⟨h.below, fun f hf => ?_, ?_, h.stable, ?_⟩
  · rcases List.mem_append.1 hf with hf | hf
    · exact h.holds f hf
    · obtain ⟨i, o, rfl, ho, _, hi⟩ := others_mem.1 hf
      exact ⟨Nat.le_trans hB hi, ho⟩
  · refine List.pairwise_append.2 ⟨h.apart, others_apart B W, fun f hf g hg k hk e => ?_⟩
    obtain ⟨i, o, rfl, ho, hc, hi⟩ := others_mem.1 hg
    injection e with e; subst e
    rcases hF f hf with h1 | ⟨g', o2, rfl, h2⟩
    · have := fact_cells_block (h.holds f hf) h1 hk ho
      rw [hc] at this; cases this
    · injection hk with hk; omega
  · refine h.stable _ _ _ _ h.ro (Nat.le_refl _) (fun _ _ _ _ h => h) fun b hb _ hcell f hf e => ?_
    rcases List.mem_append.1 hf with hf | hf
    · exact hb f hf e
    · obtain ⟨i, o, rfl, ho, hc, hi⟩ := others_mem.1 hf
      injection e with e; subst e
      obtain ⟨cs, t, fr, hh⟩ := hcell
      rw [hh] at ho; injection ho with ho; subst ho; simp [Obj.isCells] at hc
abbrev Mem (L : List Int) := { x : Int // x ∈ L }
theorem all_stopsB (Bs cap : Nat) (A : Option Addr) (ws : List Nat) (hw : Words ws) (hlen : ws.length ≤ 64) (w : World) (hG : Good Bs A cap ws w) :
    SeqStopsK Fence.wide 5 Tryd.prog 63 #[.pointer (some ⟨Bs, 0, none⟩)] (fun x : Mem (memL ws) => #[Value.int .i64 x.1]) (fun U V => Good Bs A cap ws U → Good Bs A cap ws V) (fun ys => ys.map (·.1) = memL ws) (fun pre => pre.map (·.1) <+: memL ws) (memL ws).length w := by
  intro l J Jx W hW _ _ hY h0
  refine (all1_in l Bs cap A ws hw hlen (fun pre W => ∃ p : List (Mem (memL ws)), p.map (·.1) = pre ∧ J p W) (fun pre W => ∃ p : List (Mem (memL ws)), p.map (·.1) = pre ∧ Jx p W) ?_ W ⟨?_, fun h => ?_, hG.tab.ext hW⟩ ⟨[], rfl, h0⟩).mono ?_
  · rintro pre x W1 ⟨p, rfl, h1⟩ h2 h3
    have hx : x ∈ memL ws := h3.subset (by simp)
    obtain ⟨fn, tmps, assign, body, hyy, hR⟩ := hY p ⟨x, hx⟩ W1 h1 (by simpa using h2)
    refine ⟨fn, tmps, assign, body, hyy, hR.mono ?_⟩
    rintro e W' (⟨h4, h5, h6⟩ | ⟨h4, h5⟩)
    · exact .inl ⟨h4, ⟨p ++ [⟨x, hx⟩], by simp, h5⟩, h6⟩
    · exact .inr ⟨h4, p ++ [⟨x, hx⟩], by simp, h5⟩
  · exact cell_ext hW hG.box
  · obtain ⟨b, off, e, hc⟩ := hG.some_ h
    exact ⟨b, off, e, fun j hj => cell_ext hW (hc j hj)⟩
  · rintro e W' ⟨h1, ⟨ys, h2, p, h3, h4⟩ | ⟨pre, h2, p, h3, h4⟩⟩
    · exact ⟨h1, .inl ⟨p, h3.trans h2, h4⟩⟩
    · exact ⟨h1, .inr ⟨p, by show List.map (·.1) p <+: memL ws; rw [h3]; exact h2, h4⟩⟩
def roundPostB (w0 : World) (B : Nat) (X : List Fact) (Rel : List Int → List Fact → ((Nat → Prop) → World → Prop) → Prop) (RelX : Code → List Int → List Fact → ((Nat → Prop) → World → Prop) → Prop) (pre : List Int) : Exit → Act → World → Prop
  | .normal, _, W' => ∃ F' K', Rel pre F' K' ∧ B ≤ W'.heap.size ∧ St w0 W' (F' ++ X) K'
  | .ret, _, W' => ∃ F' K', RelX .ret pre F' K' ∧ B ≤ W'.heap.size ∧ St w0 W' (F' ++ X) K'
  | .exit id, _, W' => ∃ F' K', RelX (.exit id) pre F' K' ∧ B ≤ W'.heap.size ∧ St w0 W' (F' ++ X) K'
  | .goto t, _, W' => ∃ F' K', RelX (.goto t) pre F' K' ∧ B ≤ W'.heap.size ∧ St w0 W' (F' ++ X) K'
  | _, _, _ => False
theorem range_allB {g : Operand} {ps : Array Tmp} {assign body : Code} {Q : Exit → Act → World → Prop} {a : Act} {w0 w : World} {F : List Fact} {K : (Nat → Prop) → World → Prop}
    (hS : St w0 w F K) {Bs cap : Nat} {A : Option Addr} {ws : List Nat} (hw : Words ws) (hlen : ws.length ≤ 64) (kG : ∀ D w, K D w → Good Bs A cap ws w)
    (hg : a.eval g = .func (.func 63) #[] #[.pointer (some ⟨Bs, 0, none⟩)]) (hps : ps.size = 1)
    (Rel : List Int → List Fact → ((Nat → Prop) → World → Prop) → Prop) (RelX : Code → List Int → List Fact → ((Nat → Prop) → World → Prop) → Prop) (hRK : ∀ s F K', Rel s F K' → ∀ D w, K' D w → K D w) (hR : ∀ s F K', Rel s F K' → ∀ f ∈ F, f.low w.heap.size) (hRX : ∀ c s F K', RelX c s F K' → ∀ f ∈ F, f.low w.heap.size) (h0 : Rel [] F K) (a₁ : Int → Act)
    (hassign : ∀ (l : Nat) (x : Int) (W : World) (K : Act → World → Prop), K (a₁ x) W →
      assign.wpIn (Fence.wide.inRound l) 4 Tryd.prog (Exit.then K (fun _ _ _ => False)) { tmps := (ps.zip #[Value.int .i64 x]).foldl (fun t (p, v) => t.setIfInBounds p v) a.tmps, defers := [] } W)
    (hbody : ∀ (l : Nat) (pre : List Int) (x : Int) (hx : x ∈ memL ws) (W : World) (F' X : List Fact) (K' : ((Nat → Prop) → World → Prop)), Rel pre F' K' → St w0 W (F' ++ X) (fun D w => K' D w ∧ W.heap.size ≤ w.heap.size) → pre.length < (memL ws).length → body.wpIn (Fence.wide.inRound l) 4 Tryd.prog (roundPostB w0 W.heap.size X Rel RelX (pre ++ [x])) (a₁ x) W)
    (hdone : ∀ (D : Nat) (W : World) (F' : List Fact) (K' : ((Nat → Prop) → World → Prop)), w.heap.size ≤ D → Rel (memL ws) F' K' → St w0 W F' K' → W.heap[D]? = some (.deferred (some [])) → Q .normal { a with defers := { target := .collected D, args := #[] } :: a.defers } W)
    (hstop : ∀ (D : Nat) (c : Code) (pre : List Int) (W : World) (F' : List Fact) (K' : ((Nat → Prop) → World → Prop)), w.heap.size ≤ D → pre <+: memL ws → RelX c pre F' K' → St w0 W F' K' → W.heap[D]? = some (.deferred (some [])) → c.wpIn Fence.wide 6 Tryd.prog Q { a with defers := { target := .collected D, args := #[] } :: a.defers } W) :
    (Code.rangeFunc g ps assign body).wpIn Fence.wide 6 Tryd.prog Q a w := by
  refine wpIn_rangeFunc_ownG rfl (by omega) hg trivial (enters_of Tryd.func63 (by kernel_rfl) rfl) (all_stopsB Bs cap A ws hw hlen w (kG _ _ hS.ro)) (fun h k x => k (h x)) ?kb (Below.refl _ _) (fun _ => by simp [hps])
    (fun (pre : List (Mem (memL ws))) W => (∃ F' K', Rel (pre.map (·.1)) F' K' ∧ St w0 W F' K') ∧ True) (fun c (pre : List (Mem (memL ws))) W => ∃ F' K', RelX c (pre.map (·.1)) F' K' ∧ St w0 W F' K') ?hI (fun c => St.ownFromB (fun s : List (Mem (memL ws)) => RelX c (List.map (·.1) s)) _ (fun s => hRX c _) hS.size) ⟨⟨F, K, h0, hS⟩, trivial⟩ (fun x : Mem (memL ws) => a₁ x.1) (fun l x W K h => hassign l x.1 W K h) ?body ?done ?stop
  case kb =>
    intro W l o o' _ ho hc _ hG
    have key : ∀ {p : Addr} {x : Value}, W.cell? p = some x → (W.putObj l o').cell? p = some x := by
      intro p x hx
      refine (World.cell?_of_block (World.putObj_heap_other ?_)).trans hx
      rintro rfl
      simp only [World.cell?, ho] at hx
      cases o <;> simp_all [Obj.isCells]
    refine ⟨key hG.box, fun h => ?_, fun q hq => key (hG.tab q hq)⟩
    obtain ⟨b, off, e, hh⟩ := hG.some_ h
    exact ⟨b, off, e, fun j hj => key (hh j hj)⟩
  case hI => exact fun s X Y row h1 hg hr => ⟨St.ownFromB (fun s : List (Mem (memL ws)) => Rel (List.map (·.1) s)) _ (fun s => hR _) hS.size s X Y row h1.1 hg hr, trivial⟩
  case body =>
    rintro l pre x W ⟨⟨F', K1, h1, h2⟩, _⟩ hlt
    refine wpIn_mono (hbody l _ x.1 x.2 W F' (others w.heap.size W) K1 h1 ((h2.withOthersB (hR _ _ _ h1) hS.size).add (D := fun _ => False) (stable_size W.heap.size) (Nat.le_refl _) fun _ h _ => h.elim) (by simpa using hlt)) ?_
    rintro e a3 W3 hp
    rw [show List.map (fun y : Mem (memL ws) => y.1) pre ++ [x.1] = List.map (fun y : Mem (memL ws) => y.1) (pre ++ [x]) by simp] at hp
    have hsub : ∀ {F'' : List Fact} {K'' : ((Nat → Prop) → World → Prop)}, St w0 W3 (F'' ++ others w.heap.size W) K'' → St w0 W3 F'' K'' := fun h => h.sub (List.sublist_append_left _ _)
    cases e with
    | normal =>
      obtain ⟨F'', K'', h3, h5, h4⟩ := hp
      exact ⟨h4.keepsFrom h5, fun _ => kG _ _ (hRK _ _ _ h3 _ _ h4.ro), ⟨F'', K'', h3, hsub h4⟩, trivial⟩
    | ret => obtain ⟨F'', K'', h3, h5, h4⟩ := hp; exact ⟨h4.keepsFrom h5, F'', K'', h3, hsub h4⟩
    | exit id => obtain ⟨F'', K'', h3, h5, h4⟩ := hp; exact ⟨h4.keepsFrom h5, F'', K'', h3, hsub h4⟩
    | goto t => obtain ⟨F'', K'', h3, h5, h4⟩ := hp; exact ⟨h4.keepsFrom h5, F'', K'', h3, hsub h4⟩
    | panic ch => exact hp.elim
    | outgrown => exact hp.elim
  case done =>
    rintro D xs W hD hxs ⟨⟨F', K1, h1, h2⟩, _⟩ hk
    rw [hxs] at h1
    exact hdone D W F' K1 hD h1 h2 hk
  case stop =>
    rintro D c pre W hD hp ⟨F', K1, h1, h2⟩ hk
    exact hstop D c _ W F' K1 hD hp h1 h2 hk

theorem anyIn_of {P : Program} {ops : Array Oper} {Q : Exit → Act → World → Prop} (hQ : ∀ a w, ¬ Q .outgrown a w) (r n : Nat) (hd : noDefer ops.toList = true) : ∀ (fuel : Nat) (listed : Array Bool) (a : Act) (w : World), wpAny P .any ops Q fuel listed a w → wpAnyIn (Fence.wide.inRound r) n P .any ops Q fuel listed a w
  | 0, _, _, _, h => h
  | fuel + 1, listed, a, w, h => by
    refine ⟨h.1, fun i hi => ?_⟩
    have hw := h.2 i hi
    unfold wpOp at hw
    unfold wpOpIn
    cases ho : ops[i]? with
    | none => simp only [ho] at hw ⊢; exact anyIn_of hQ r n hd fuel _ _ _ hw
    | some o =>
      simp only [ho] at hw ⊢
      by_cases hwt : Region.wanted o (yielded ops a.tmps) = true
      · rw [if_pos hwt] at hw ⊢
        rcases hw with hw | ⟨_, a', w', hw⟩
        · refine opIn_of _ _ (opw_mono hw fun a w h => anyIn_of hQ r n hd fuel _ _ _ h) fun c e => ?_
          have := (List.all_eq_true.1 hd) o (by
            have := Array.mem_of_getElem? ho
            simpa using this)
          rw [e] at this; simp at this
        · exact absurd hw (hQ _ _)
      · rw [if_neg hwt] at hw ⊢
        exact ⟨fun _ _ => trivial, anyIn_of hQ r n hd fuel _ _ _ hw⟩
theorem wpIn_region_of {P : Program} {ops : Array Oper} {Q : Exit → Act → World → Prop} {id r n : Nat} {a : Act} {w : World} (hm : P.follows .mixedOrders = true) (hQ : ∀ a w, ¬ Q .outgrown a w) (hd : noDefer ops.toList = true)
    (h : wpAny P .any ops Q ops.size (Array.replicate ops.size false) a w.drew) : (Code.region id ops true).wpIn (Fence.wide.inRound r) n P Q a w :=
  wpIn_region_any hm (anyIn_of hQ r n hd _ _ _ _ h)
def marksD (ds : List Nat) : List Deferred := ds.map fun D => { target := .collected D, args := #[] }
def marksF (ds : List Nat) : List Fact := ds.map fun D => .obj D (.deferred (some []))
theorem St.mark {w0 w : World} {F : List Fact} {K : (Nat → Prop) → World → Prop} (h : St w0 w F K) {B D : Nat} (hB : w0.heap.size ≤ B) (hD : B ≤ D) (hF : ∀ f ∈ F, f.low B) {o : Obj} (ho : w.heap[D]? = some o) (hc : o.isCells = false) : St w0 w (F ++ [.obj D o]) K := by
  refine ⟨h.below, fun f hf => ?_, ?_, h.stable, ?_⟩
  · rcases List.mem_append.1 hf with hf | hf
    · exact h.holds f hf
    · rw [List.mem_singleton] at hf; subst hf; exact ⟨Nat.le_trans hB hD, ho⟩
  · refine List.pairwise_append.2 ⟨h.apart, List.pairwise_singleton _ _, fun f hf g hg k hk e => ?_⟩
    rw [List.mem_singleton] at hg; subst hg
    injection e with e; subst e
    rcases hF f hf with h1 | ⟨g', o2, rfl, h2⟩
    · have := fact_cells_block (h.holds f hf) h1 hk ho
      rw [hc] at this; cases this
    · injection hk with hk; omega
  · refine h.stable _ _ _ _ h.ro (Nat.le_refl _) (fun _ _ _ _ h => h) fun b hb _ hcell f hf e => ?_
    rcases List.mem_append.1 hf with hf | hf
    · exact hb f hf e
    · rw [List.mem_singleton] at hf; subst hf
      injection e with e; subst e
      obtain ⟨cs, t, fr, hh⟩ := hcell
      rw [hh] at ho; injection ho with ho; subst ho; simp [Obj.isCells] at hc
theorem leaves_marks {P : Program} {fn : Func} {tmps : Array Value} {R : Ending → World → Prop} {n : Nat} {w0 : World} {F : List Fact} {K : (Nat → Prop) → World → Prop} (hR : ∀ w', St w0 w' F K → LeavesIn Fence.wide n P fn tmps R [] .returning w') :
    ∀ (ds : List Nat) (w : World), St w0 w (F ++ marksF ds) K → LeavesInM Fence.wide n P fn tmps R (marksD ds) .returning w
  | [], w, h => hR w (by simpa [marksF] using h)
  | D :: ds, w, h => by
    have hD := h.holds (.obj D (.deferred (some []))) (by simp [marksF])
    refine ⟨by simp, .inl ⟨D, _, rfl, run_takeDeferred hD.2, ?_⟩⟩
    refine leaves_marks hR ds _ ?_
    have hi : (F ++ marksF (D :: ds))[F.length]? = some (.obj D (.deferred (some []))) := by simp [marksF]
    have h1 := h.upd F.length hi (.obj D (.deferred none)) (grownBy_putObj' w D (.deferred none)) ⟨hD.1, World.putObj_heap_same (Array.getElem?_eq_some_iff.1 hD.2).1⟩ fun _ e => .inl e
    have h2 : (F ++ marksF (D :: ds)).set F.length (.obj D (.deferred none)) = F ++ (.obj D (.deferred none) :: marksF ds) := by simp [marksF]
    rw [h2] at h1
    exact h1.sub ((List.Sublist.refl F).append (.cons _ (.refl _)))
end Go.Proofs.YtihpgmbinhmmlaaDoor
namespace Go.Proofs.YtihpgmbinhmmlaaDoor
open Go.RowKit

def SRule (P : Program) (ops : Array Oper) (T : Nat → Value → World → Prop) (R : World → World → Prop) (N : Nat → World → Prop) (a0 : Act) (W : World) (Q : Exit → Act → World → Prop) (i : Nat) (o : Oper) : Prop :=
  ∀ a w, R W w → N i w → (∀ t, (∀ (i : Nat) (o : Oper), ops[i]? = some o → o.dst ≠ some t) → a.tmps.getD t undef = a0.tmps.getD t undef) →
    (∀ e ∈ o.after, Region.binds .any e = true → ∀ (oj : Oper) (d : Tmp), ops[e.on]? = some oj → oj.dst = some d → T e.on (a.tmps.getD d undef) w) →
    (Region.wanted o (yielded ops a.tmps) = true → ∀ K : Act → World → Prop, (∀ v w', T i v w' → R w w' ∧ (∀ j, j ≠ i → N j w → N j w') → K (a.put o.dst v) w') → o.wp P a w K Q) ∧
    (Region.wanted o (yielded ops a.tmps) = false → T i undef w)
def SRules (P : Program) (ops : Array Oper) (T : Nat → Value → World → Prop) (R : World → World → Prop) (N : Nat → World → Prop) (a0 : Act) (W : World) (Q : Exit → Act → World → Prop) : Nat → List Oper → Prop
  | _, [] => True
  | i, o :: r => SRule P ops T R N a0 W Q i o ∧ SRules P ops T R N a0 W Q (i + 1) r
theorem SRules.at {P : Program} {ops : Array Oper} {T : Nat → Value → World → Prop} {R : World → World → Prop} {N : Nat → World → Prop} {a0 : Act} {W : World} {Q : Exit → Act → World → Prop} :
    ∀ (l : List Oper) (k : Nat), SRules P ops T R N a0 W Q k l → ∀ i o, l[i]? = some o → SRule P ops T R N a0 W Q (k + i) o
  | [], _, _, i, o, h => by simp at h
  | x :: r, k, hr, 0, o, h => by simp at h; subst h; exact hr.1
  | x :: r, k, hr, i + 1, o, h => by
    have := SRules.at r (k + 1) hr.2 i o (by simpa using h)
    rwa [show k + 1 + i = k + (i + 1) by omega] at this
section
variable {P : Program} {ops : Array Oper} {T : Nat → Value → World → Prop} {R : World → World → Prop} {N : Nat → World → Prop} {a0 : Act} {W : World} {Q : Exit → Act → World → Prop}
end
def R3 (A0 A1 A2 : World → Prop) (w w' : World) : Prop := (A0 w → A0 w' ∨ A1 w' ∨ A2 w') ∧ (A1 w → A1 w' ∨ A2 w') ∧ (A2 w → A2 w')
section
variable {A0 A1 A2 : World → Prop} {a b c : World}
theorem R3.refl (w : World) : R3 A0 A1 A2 w w := ⟨.inl, .inl, id⟩
theorem R3.m12 (h : R3 A0 A1 A2 a b) (k : A1 a ∨ A2 a) : A1 b ∨ A2 b := k.elim h.2.1 fun k => .inr (h.2.2 k)
theorem R3.m (h : R3 A0 A1 A2 a b) (k : A0 a ∨ A1 a ∨ A2 a) : A0 b ∨ A1 b ∨ A2 b := k.elim h.1 fun k => .inr (h.m12 k)
theorem R3.trans (h : R3 A0 A1 A2 a b) (k : R3 A0 A1 A2 b c) : R3 A0 A1 A2 a c := ⟨fun x => k.m (h.1 x), fun x => k.m12 (h.2.1 x), fun x => k.2.2 (h.2.2 x)⟩
end
end Go.Proofs.YtihpgmbinhmmlaaDoor
namespace Go.Proofs.YtihpgmbinhmmlaaDoor
open Go.RowKit

theorem vs_len0 {vs : List Value} (h : vs.length = 0) : vs = [] := List.eq_nil_of_length_eq_zero h
theorem vs_len1 {vs : List Value} (h : vs.length = 1) : ∃ x0, vs = [x0] := List.length_eq_one_iff.1 h
theorem vs_cons {vs : List Value} {n : Nat} (h : vs.length = n + 1) : ∃ (x : Value) (r : List Value), vs = x :: r ∧ r.length = n := by
  cases vs with
  | nil => simp at h
  | cons x r => exact ⟨x, r, rfl, by simpa using h⟩
theorem vs_len2 {vs : List Value} (h : vs.length = 2) : ∃ x0 x1, vs = [x0, x1] := by
  obtain ⟨x, r, rfl, h'⟩ := vs_cons h
  obtain ⟨y, rfl⟩ := vs_len1 h'
  exact ⟨x, y, rfl⟩
theorem vs_len3 {vs : List Value} (h : vs.length = 3) : ∃ x0 x1 x2, vs = [x0, x1, x2] := by
  obtain ⟨x, r, rfl, h'⟩ := vs_cons h
  obtain ⟨y, z, rfl⟩ := vs_len2 h'
  exact ⟨x, y, z, rfl⟩
theorem vs_len4 {vs : List Value} (h : vs.length = 4) : ∃ x0 x1 x2 x3, vs = [x0, x1, x2, x3] := by
  obtain ⟨x, r, rfl, h'⟩ := vs_cons h
  obtain ⟨y, z, u, rfl⟩ := vs_len3 h'
  exact ⟨x, y, z, u, rfl⟩
structure QInv (ops : Array Oper) (es : List Nat) (T : Nat → Value → Prop) (S : List Value → World → Prop) (a0 : Act) (listed : Array Bool) (vs : List Value) (a : Act) (w : World) : Prop where
  closed : ClosedL ops listed
  st : S vs w
  eff : ∀ j i, es[j]? = some i → (listed.getD i false = true ↔ j < vs.length)
  res : ∀ (j i : Nat) (o : Oper) (d : Tmp), es[j]? = some i → ops[i]? = some o → o.dst = some d → j < vs.length → a.tmps.getD d undef = vs.getD j undef
  defers : a.defers = a0.defers
  size : a.tmps.size = a0.tmps.size
  old : ∀ t, (∀ (i : Nat) (o : Oper), ops[i]? = some o → o.dst ≠ some t) → a.tmps.getD t undef = a0.tmps.getD t undef
  typ : ∀ (i : Nat) (o : Oper) (d : Tmp), ops[i]? = some o → es.contains i = false → listed.getD i false = true → o.dst = some d → T i (a.tmps.getD d undef)
def QPre (ops : Array Oper) (es : List Nat) (T : Nat → Value → Prop) (a0 : Act) (o : Oper) (vs : List Value) (a : Act) : Prop :=
  (∀ t, (∀ (i : Nat) (o : Oper), ops[i]? = some o → o.dst ≠ some t) → a.tmps.getD t undef = a0.tmps.getD t undef) ∧
  (∀ e ∈ o.after, Region.binds .any e = true → ∀ (oj : Oper) (d : Tmp), ops[e.on]? = some oj → es.contains e.on = false → oj.dst = some d → T e.on (a.tmps.getD d undef)) ∧
  (∀ e ∈ o.after, Region.binds .any e = true → ∀ (j : Nat) (oj : Oper) (d : Tmp), es[j]? = some e.on → ops[e.on]? = some oj → oj.dst = some d → j < vs.length ∧ a.tmps.getD d undef = vs.getD j undef)
def QRule (P : Program) (ops : Array Oper) (es : List Nat) (T : Nat → Value → Prop) (S : List Value → World → Prop) (a0 : Act) (Q : Exit → Act → World → Prop) (i : Nat) (o : Oper) : Prop :=
  ∀ a w vs, S vs w → QPre ops es T a0 o vs a →
    (es.contains i = false → (∀ (j e : Nat) (oe : Oper), es[j]? = some e → ops[e]? = some oe → covers ops ops.size oe i = true → vs.length ≤ j) →
      (Region.wanted o (yielded ops a.tmps) = true → ∀ K : Act → World → Prop, (∀ v, T i v → K (a.put o.dst v) w) → o.wp P a w K Q) ∧ (Region.wanted o (yielded ops a.tmps) = false → T i undef)) ∧
    (∀ j, es[j]? = some i → vs.length = j →
      (Region.wanted o (yielded ops a.tmps) = true → ∀ K : Act → World → Prop, (∀ v w', S (vs ++ [v]) w' → K (a.put o.dst v) w') → o.wp P a w K Q) ∧ (Region.wanted o (yielded ops a.tmps) = false → S (vs ++ [undef]) w))
def QRules (P : Program) (ops : Array Oper) (es : List Nat) (T : Nat → Value → Prop) (S : List Value → World → Prop) (a0 : Act) (Q : Exit → Act → World → Prop) : Nat → List Oper → Prop
  | _, [] => True
  | i, o :: r => QRule P ops es T S a0 Q i o ∧ QRules P ops es T S a0 Q (i + 1) r
theorem QRules.at {P : Program} {ops : Array Oper} {es : List Nat} {T : Nat → Value → Prop} {S : List Value → World → Prop} {a0 : Act} {Q : Exit → Act → World → Prop} :
    ∀ (l : List Oper) (k : Nat), QRules P ops es T S a0 Q k l → ∀ i o, l[i]? = some o → QRule P ops es T S a0 Q (k + i) o
  | [], _, _, i, o, h => by simp at h
  | x :: r, k, hr, 0, o, h => by simp at h; subst h; exact hr.1
  | x :: r, k, hr, i + 1, o, h => by
    have := QRules.at r (k + 1) hr.2 i o (by simpa using h)
    rwa [show k + 1 + i = k + (i + 1) by omega] at this
def eChain (ops : Array Oper) (es : List Nat) : Bool :=
  (List.range es.length).all fun j => match j with
    | 0 => true
    | j + 1 => match es[j]?, es[j + 1]? with
      | some t, some u => match ops[u]? with
        | some o => covers ops ops.size o t
        | none => false
      | _, _ => true
section
variable {P : Program} {ops : Array Oper} {es : List Nat} {T : Nat → Value → Prop} {S : List Value → World → Prop} {a0 : Act} {Q : Exit → Act → World → Prop}
theorem eChain_at (h : eChain ops es = true) {j t u : Nat} {o : Oper} (h1 : es[j]? = some t) (h2 : es[j + 1]? = some u) (ho : ops[u]? = some o) : covers ops ops.size o t = true := by
  have h3 := (List.all_eq_true.1 h) (j + 1) (by have := (List.getElem?_eq_some_iff.1 h2).1; simpa using this)
  simpa [h1, h2, ho] using h3
theorem contains_get {es : List Nat} {i : Nat} (h : es.contains i = true) : ∃ j : Nat, es[j]? = some i := by
  rw [List.contains_iff_mem] at h
  exact List.mem_iff_getElem?.1 h
theorem wpAny_seq (hch : eChain ops es = true) (hnd : es.Nodup) (hes : ∀ i ∈ es, i < ops.size) (hk : tOk ops a0.tmps.size = true) (hr : QRules P ops es T S a0 Q 0 ops.toList)
    (hpost : ∀ a w vs, S vs w → vs.length = es.length → a.defers = a0.defers → a.tmps.size = a0.tmps.size → (∀ t, (∀ (i : Nat) (o : Oper), ops[i]? = some o → o.dst ≠ some t) → a.tmps.getD t undef = a0.tmps.getD t undef) →
      (∀ (i : Nat) (o : Oper) (d : Tmp), ops[i]? = some o → es.contains i = false → o.dst = some d → T i (a.tmps.getD d undef)) →
      (∀ (j i : Nat) (o : Oper) (d : Tmp), es[j]? = some i → ops[i]? = some o → o.dst = some d → a.tmps.getD d undef = vs.getD j undef) → Q .normal a w) :
    ∀ (fuel : Nat) (listed : Array Bool) (vs : List Value) (a : Act) (w : World), listed.size = ops.size → vs.length ≤ es.length → unlisted ops listed ≤ fuel → QInv ops es T S a0 listed vs a w → wpAny P .any ops Q fuel listed a w := by
  have hall : ∀ listed vs a w, listed.size = ops.size → vs.length ≤ es.length → Region.ready .any ops listed = [] → QInv ops es T S a0 listed vs a w → Q .normal a w := by
    intro listed vs a w hsz hle h hI
    have hl : ∀ i, i < ops.size → listed.getD i false = true := fun i hlt => by
      have := ready_nil hk h i hlt
      simpa [Array.getD_eq_getD_getElem?, Array.getElem?_eq_getElem (show i < listed.size by omega)] using this
    have hlen : vs.length = es.length := by
      refine Nat.le_antisymm hle ?_
      rcases Nat.eq_zero_or_pos es.length with h0 | h0
      · omega
      · have hj : es[es.length - 1]? = some es[es.length - 1] := List.getElem?_eq_getElem (by omega)
        have := (hI.eff _ _ hj).1 (hl _ (hes _ (List.getElem_mem _)))
        omega
    exact hpost a w vs hI.st hlen hI.defers hI.size hI.old (fun i o d ho he hd => hI.typ i o d ho he (hl i (Array.getElem?_eq_some_iff.1 ho).1) hd)
      fun j i o d hj ho hd => hI.res j i o d hj ho hd (by rw [hlen]; exact (List.getElem?_eq_some_iff.1 hj).1)
  intro fuel
  induction fuel with
  | zero =>
    intro listed vs a w hsz hle hu hI
    have hrd : Region.ready .any ops listed = [] := by
      rw [List.eq_nil_iff_forall_not_mem]
      intro i hi
      rw [mem_ready] at hi
      obtain ⟨h0, o, ho, _⟩ := hi
      have := unlisted_set (ops := ops) (Array.getElem?_eq_some_iff.1 ho).1 h0
      omega
    exact ⟨hrd, hall listed vs a w hsz hle hrd hI⟩
  | succ fuel ih =>
    intro listed vs a w hsz hle hu hI
    refine ⟨fun h => hall listed vs a w hsz hle h hI, fun i hi => ?_⟩
    rw [mem_ready] at hi
    obtain ⟨h0, o, ho, haf⟩ := hi
    have hlt := (Array.getElem?_eq_some_iff.1 ho).1
    have hdst := tOk_dst hk ho
    have h0f : listed.getD i false = false := by
      rw [Array.getD_eq_getD_getElem?, Array.getElem?_eq_getElem (show i < listed.size by omega)] at h0 ⊢; simpa using h0
    have hpre : QPre ops es T a0 o vs a := ⟨hI.old, fun e he hbd oj d hoj hc hd => hI.typ e.on oj d hoj hc (haf e he hbd) hd, fun e he hbd j oj d hj hoj hd => by
      have := (hI.eff j e.on hj).1 (haf e he hbd)
      exact ⟨this, hI.res j e.on oj d hj hoj hd this⟩⟩
    have hrule := QRules.at ops.toList 0 hr i o (by simpa using ho) a w vs hI.st hpre
    rw [Nat.zero_add] at hrule
    have hcl' : ClosedL ops (listed.setIfInBounds i true) := by
      intro j oj hj hlj e he hb
      by_cases hji : j = i
      · subst hji
        obtain rfl : oj = o := by rw [ho] at hj; exact (Option.some.inj hj).symm
        exact getD_set_true (haf e he hb)
      · rw [getD_set_ne false (Ne.symm hji)] at hlj
        exact getD_set_true (hI.closed j oj hj hlj e he hb)
    have hput : ∀ (j : Nat) (oj : Oper) (d : Tmp) (v : Value), j ≠ i → ops[j]? = some oj → oj.dst = some d → (a.put o.dst v).tmps.getD d undef = a.tmps.getD d undef := fun j oj d v e hj hdj => by
      cases hd : o.dst with
      | none => rfl
      | some d' =>
        have : d' ≠ d := fun e2 => hdst.2.2 j oj d' e hj hd (by rw [hdj, e2])
        simp [Act.put, Array.getElem?_setIfInBounds_ne this]
    have hputs : ∀ (d : Tmp) (v : Value), o.dst = some d → (a.put o.dst v).tmps.getD d undef = v := fun d v hd => by
      have hlt2 : d < a.tmps.size := by rw [hI.size]; exact hdst.1 d hd
      rw [hd]; simp [Act.put, hlt2]
    have hold : ∀ v t, (∀ (i : Nat) (o : Oper), ops[i]? = some o → o.dst ≠ some t) → (a.put o.dst v).tmps.getD t undef = a0.tmps.getD t undef := fun v t ht => by
      rw [← hI.old t ht]
      have h2 := ht i o ho
      cases hd : o.dst with
      | none => rfl
      | some d =>
        have : d ≠ t := fun e => h2 (by rw [hd, e])
        simp [Act.put, Array.getElem?_setIfInBounds_ne this]
    have hdf : ∀ v, (a.put o.dst v).defers = a0.defers := fun v => by rw [← hI.defers]; cases o.dst <;> rfl
    have hsz2 : ∀ v, (a.put o.dst v).tmps.size = a0.tmps.size := fun v => by rw [← hI.size]; cases o.dst <;> simp [Act.put]
    have hself : (listed.setIfInBounds i true).getD i false = true := by
      simp [Array.getElem?_setIfInBounds, show i < listed.size by omega]
    cases hc : es.contains i with
    | false =>
      have hne : ∀ j e, es[j]? = some e → e ≠ i := fun j e hj h => by
        rw [h] at hj
        have : es.contains i = true := by rw [List.contains_iff_mem]; exact List.mem_of_getElem? hj
        rw [hc] at this; cases this
      have next : ∀ v, T i v → wpAny P .any ops Q fuel (listed.setIfInBounds i true) (a.put o.dst v) w := by
        intro v hT
        refine ih _ vs _ _ (by simpa using hsz) hle (by have := unlisted_set (ops := ops) hlt h0; omega) ⟨hcl', hI.st, fun j e hj => ?_, fun j e oj d hj hoj hd hl => ?_, hdf v, hsz2 v, hold v, fun j oj d hj hcj hlj hdj => ?_⟩
        · rw [getD_set_ne false (Ne.symm (hne j e hj))]; exact hI.eff j e hj
        · rw [hput e oj d v (hne j e hj) hoj hd]; exact hI.res j e oj d hj hoj hd hl
        · by_cases e : j = i
          · subst e
            obtain rfl : oj = o := by rw [ho] at hj; exact (Option.some.inj hj).symm
            rw [hputs d v hdj]; exact hT
          · rw [hput j oj d v e hj hdj]
            exact hI.typ j oj d hj hcj (by rwa [getD_set_ne false (Ne.symm e)] at hlj) hdj
      have hr2 := hrule.1 hc fun j e oe hj hoe hcov => by
        rcases Nat.lt_or_ge j vs.length with hl | hl
        · have hle := (hI.eff j e hj).2 hl
          have := covers_listed hI.closed _ oe i hcov (hI.closed e oe hoe hle)
          rw [h0f] at this; cases this
        · exact hl
      unfold wpOp
      simp only [ho]
      split
      · rename_i hw
        exact .inl (hr2.1 hw _ next)
      · rename_i hw
        exact next undef (hr2.2 (by simpa using hw))
    | true =>
      obtain ⟨j, hj⟩ := contains_get hc
      have hjl : vs.length = j := by
        have h1 : ¬ j < vs.length := fun h => by rw [(hI.eff j i hj).2 h] at h0f; cases h0f
        cases j with
        | zero => omega
        | succ j =>
          have hjlt := (List.getElem?_eq_some_iff.1 hj).1
          have hp : es[j]? = some es[j] := List.getElem?_eq_getElem (by omega)
          have := (hI.eff j _ hp).1 (covers_listed hI.closed _ o _ (eChain_at hch hp hj ho) haf)
          omega
      have hjlt := (List.getElem?_eq_some_iff.1 hj).1
      have hinj : ∀ j' e, es[j']? = some e → (e = i ↔ j' = j) := fun j' e he => ⟨fun h => by
        subst h
        have h1 := (List.getElem?_eq_some_iff.1 he)
        have h2 := (List.getElem?_eq_some_iff.1 hj)
        exact (List.getElem_inj hnd (h₀ := h1.1) (h₁ := h2.1)).1 (h1.2.trans h2.2.symm), fun h => by subst h; rw [hj] at he; exact (Option.some.inj he).symm⟩
      have next : ∀ v w', S (vs ++ [v]) w' → wpAny P .any ops Q fuel (listed.setIfInBounds i true) (a.put o.dst v) w' := by
        intro v w' hS
        refine ih _ (vs ++ [v]) _ _ (by simpa using hsz) (by simp; omega) (by have := unlisted_set (ops := ops) hlt h0; omega) ⟨hcl', hS, fun j' e he => ?_, fun j' e oj d he hoj hd hl => ?_, hdf v, hsz2 v, hold v, fun k ok d hk2 hck hlk hdk => ?_⟩
        · by_cases h : e = i
          · subst h
            rw [hself]
            have := (hinj j' e he).1 rfl
            simp; omega
          · rw [getD_set_ne false (Ne.symm h), hI.eff j' e he]
            have : j' ≠ j := fun h' => h ((hinj j' e he).2 h')
            simp; omega
        · by_cases h : e = i
          · subst h
            obtain rfl := (hinj j' e he).1 rfl
            obtain rfl : oj = o := by rw [ho] at hoj; exact (Option.some.inj hoj).symm
            rw [hputs d v hd, ← hjl]
            simp
          · have hne : j' ≠ j := fun h' => h ((hinj j' e he).2 h')
            have hl2 : j' < vs.length := by simp at hl; omega
            rw [hput e oj d v h hoj hd, hI.res j' e oj d he hoj hd hl2]
            simp [List.getD_eq_getElem?_getD, List.getElem?_append_left hl2]
        · have hne : k ≠ i := fun h => by rw [h, hc] at hck; cases hck
          rw [hput k ok d v hne hk2 hdk]
          exact hI.typ k ok d hk2 hck (by rwa [getD_set_ne false (Ne.symm hne)] at hlk) hdk
      have hr2 := hrule.2 j hj hjl
      unfold wpOp
      simp only [ho]
      split
      · rename_i hw
        exact .inl (hr2.1 hw _ next)
      · rename_i hw
        exact next undef w (hr2.2 (by simpa using hw))
theorem wp_region_seq {id : Nat} {W : World} {a : Act} (es : List Nat) (T : Nat → Value → Prop) (S : List Value → World → Prop) (hm : P.follows .mixedOrders = true) (hch : eChain ops es = true) (hnd : es.Nodup) (hes : (es.all fun i => decide (i < ops.size)) = true) (hk : tOk ops a.tmps.size = true) (hS : S [] W.drew)
    (hr : QRules P ops es T S a Q 0 ops.toList)
    (hpost : ∀ (b : Act) (w : World) (vs : List Value), S vs w → vs.length = es.length → b.defers = a.defers → b.tmps.size = a.tmps.size → (∀ t, noDst ops t = true → b.tmps.getD t undef = a.tmps.getD t undef) →
      (∀ (i : Nat) (o : Oper) (d : Tmp), ops[i]? = some o → es.contains i = false → o.dst = some d → T i (b.tmps.getD d undef)) →
      (∀ (j i : Nat) (o : Oper) (d : Tmp), es[j]? = some i → ops[i]? = some o → o.dst = some d → b.tmps.getD d undef = vs.getD j undef) → Q .normal b w) : (Code.region id ops true).wp P Q a W := by
  refine wp_region_any hm ?_
  have hz : ∀ i, (Array.replicate ops.size false).getD i false = false := fun i => by simp [Array.getD_eq_getD_getElem?, Array.getElem?_replicate]; split <;> rfl
  refine wpAny_seq (T := T) (S := S) (a0 := a) hch hnd (fun i hi => by simpa using (List.all_eq_true.1 hes) i hi) hk hr (fun b w vs h1 h2 h3 h4 h5 h6 h7 => hpost b w vs h1 h2 h3 h4 (fun t ht => h5 t (noDst_spec ht)) h6 h7) _ _ [] _ _ (by simp) (by simp) ?_
    ⟨fun i o ho hl => (by rw [hz] at hl; exact absurd hl (by decide)), hS, fun j i hj => ⟨fun h => (by rw [hz] at h; exact absurd h (by decide)), fun h => (by simp at h)⟩, fun j i o d _ _ _ h => (by simp at h), rfl, rfl, fun _ _ => rfl, fun i o d _ _ hl => (by rw [hz] at hl; exact absurd hl (by decide))⟩
  unfold unlisted; exact Nat.le_trans (List.length_filter_le _ _) (by simp)
theorem qread {a : Act} {i : Nat} {o : Oper} (hc : es.contains i = false)
    (h : ∀ (b : Act) (w : World) (vs : List Value), S vs w → (∀ (j e : Nat) (oe : Oper), es[j]? = some e → ops[e]? = some oe → covers ops ops.size oe i = true → vs.length ≤ j) → (∀ t, noDst ops t = true → b.eval (.tmp t) = a.eval (.tmp t)) →
      (∀ e ∈ o.after, Region.binds .any e = true → ∀ (oj : Oper) (d : Tmp), ops[e.on]? = some oj → es.contains e.on = false → oj.dst = some d → T e.on (b.eval (.tmp d))) →
      (∀ e ∈ o.after, Region.binds .any e = true → ∀ (j : Nat) (oj : Oper) (d : Tmp), es[j]? = some e.on → ops[e.on]? = some oj → oj.dst = some d → j < vs.length ∧ b.eval (.tmp d) = vs.getD j undef) →
      (Region.wanted o (yielded ops b.tmps) = true → ∀ K : Act → World → Prop, (∀ v, T i v → K (b.put o.dst v) w) → o.wp P b w K Q) ∧ (Region.wanted o (yielded ops b.tmps) = false → T i undef)) : QRule P ops es T S a Q i o := fun b w vs hS ⟨h1, h2, h3⟩ =>
  ⟨fun _ hcov => h b w vs hS hcov (fun t ht => h1 t (noDst_spec ht)) h2 h3, fun j hj _ => by
    have : es.contains i = true := by rw [List.contains_iff_mem]; exact List.mem_of_getElem? hj
    rw [hc] at this; cases this⟩
theorem qturn {a : Act} {i : Nat} {o : Oper} (j : Nat) (hj : es[j]? = some i) (hnd : es.Nodup)
    (h : ∀ (b : Act) (w : World) (vs : List Value), S vs w → vs.length = j → (∀ t, noDst ops t = true → b.eval (.tmp t) = a.eval (.tmp t)) →
      (∀ e ∈ o.after, Region.binds .any e = true → ∀ (oj : Oper) (d : Tmp), ops[e.on]? = some oj → es.contains e.on = false → oj.dst = some d → T e.on (b.eval (.tmp d))) →
      (∀ e ∈ o.after, Region.binds .any e = true → ∀ (j : Nat) (oj : Oper) (d : Tmp), es[j]? = some e.on → ops[e.on]? = some oj → oj.dst = some d → j < vs.length ∧ b.eval (.tmp d) = vs.getD j undef) →
      (Region.wanted o (yielded ops b.tmps) = true → ∀ K : Act → World → Prop, (∀ v w', S (vs ++ [v]) w' → K (b.put o.dst v) w') → o.wp P b w K Q) ∧ (Region.wanted o (yielded ops b.tmps) = false → S (vs ++ [undef]) w)) : QRule P ops es T S a Q i o := fun b w vs hS ⟨h1, h2, h3⟩ =>
  ⟨fun hc => (by
    have : es.contains i = true := by rw [List.contains_iff_mem]; exact List.mem_of_getElem? hj
    rw [hc] at this; exact absurd this (by decide)), fun j' hj' hl => by
    have e : j' = j := by
      have h1 := (List.getElem?_eq_some_iff.1 hj')
      have h2 := (List.getElem?_eq_some_iff.1 hj)
      exact (List.getElem_inj hnd (h₀ := h1.1) (h₁ := h2.1)).1 (h1.2.trans h2.2.symm)
    subst e
    exact h b w vs hS hl (fun t ht => h1 t (noDst_spec ht)) h2 h3⟩
end
end Go.Proofs.YtihpgmbinhmmlaaDoor
namespace Go.Proofs.YtihpgmbinhmmlaaDoor
open Go.RowKit

def depsOn (ops : Array Oper) : Nat → Nat → Nat → Bool
  | 0, _, _ => false
  | n + 1, j, i => match ops[j]? with
    | none => false
    | some o => o.after.any fun e => Region.binds .any e && (e.on == i || depsOn ops n e.on i)
theorem depsOn_listed {ops : Array Oper} {listed : Array Bool} (clo : ∀ (i : Nat) (o : Oper), ops[i]? = some o → listed.getD i false = true → ∀ e ∈ o.after, Region.binds .any e = true → listed.getD e.on false = true) :
    ∀ (n j i : Nat), depsOn ops n j i = true → listed.getD j false = true → listed.getD i false = true
  | 0, j, i, h, _ => by simp [depsOn] at h
  | n + 1, j, i, h, hj => by
    unfold depsOn at h
    split at h
    · cases h
    · rename_i o ho
      rw [Array.any_eq_true] at h
      obtain ⟨k, hk, h⟩ := h
      rw [Bool.and_eq_true, Bool.or_eq_true] at h
      have h1 := clo j o ho hj (o.after[k]) (Array.getElem_mem hk) h.1
      rcases h.2 with h2 | h2
      · rw [beq_iff_eq] at h2
        rw [← h2]; exact h1
      · exact depsOn_listed clo n _ i h2 h1
def noDstI (ops : Array Oper) (i : Nat) (t : Tmp) : Bool := (List.range ops.size).all fun j => match ops[j]? with
  | some o => o.dst != some t || depsOn ops 8 j i
  | none => true
theorem noDstI_spec {ops : Array Oper} {i : Nat} {t : Tmp} (h : noDstI ops i t = true) (j : Nat) (o : Oper) (ho : ops[j]? = some o) (hd : o.dst = some t) : depsOn ops 8 j i = true := by
  unfold noDstI at h
  rw [List.all_eq_true] at h
  have hlt := (Array.getElem?_eq_some_iff.1 ho).1
  have := h j (List.mem_range.2 hlt)
  rw [ho] at this
  simp only [Bool.or_eq_true, bne_iff_ne] at this
  exact this.resolve_left fun e => e hd
structure GInv (ops : Array Oper) {σ : Type} (T : Nat → Value → World × σ → Prop) (R : World × σ → World × σ → Prop) (N : Nat → World × σ → Prop) (a0 : Act) (W : World × σ) (listed : Array Bool) (a : Act) (w : World × σ) : Prop where
  rel : R W w
  pend : ∀ i, listed.getD i true = false → N i w
  defers : a.defers = a0.defers
  size : a.tmps.size = a0.tmps.size
  old : ∀ t, (∀ (i : Nat) (o : Oper), ops[i]? = some o → o.dst ≠ some t) → a.tmps.getD t undef = a0.tmps.getD t undef
  pold : ∀ (i : Nat) (o : Oper) (d : Tmp), ops[i]? = some o → o.dst = some d → listed.getD i false = false → a.tmps.getD d undef = a0.tmps.getD d undef
  clo : ∀ (i : Nat) (o : Oper), ops[i]? = some o → listed.getD i false = true → ∀ e ∈ o.after, Region.binds .any e = true → listed.getD e.on false = true
  typ : ∀ (i : Nat) (o : Oper) (d : Tmp), ops[i]? = some o → listed.getD i false = true → o.dst = some d → T i (a.tmps.getD d undef) w
  nod : ∀ (i : Nat) (o : Oper), ops[i]? = some o → listed.getD i false = true → o.dst = none → ∃ v, T i v w
def GRule (P : Program) (ops : Array Oper) {σ : Type} (T : Nat → Value → World × σ → Prop) (R : World × σ → World × σ → Prop) (N : Nat → World × σ → Prop) (a0 : Act) (W : World × σ) (Q : Exit → Act → World → Prop) (i : Nat) (o : Oper) : Prop :=
  ∀ a w, R W w → N i w → (∀ t, (∀ (j : Nat) (o : Oper), ops[j]? = some o → o.dst = some t → depsOn ops 8 j i = true) → a.tmps.getD t undef = a0.tmps.getD t undef) →
    (∀ e ∈ o.after, Region.binds .any e = true → ∀ (oj : Oper) (d : Tmp), ops[e.on]? = some oj → oj.dst = some d → T e.on (a.tmps.getD d undef) w) →
    (Region.wanted o (yielded ops a.tmps) = true → ∀ K : Act → World → Prop, (∀ v w', T i v w' → R w w' ∧ (∀ j, j ≠ i → N j w → N j w') → K (a.put o.dst v) w'.1) → o.wp P a w.1 K Q) ∧
    (Region.wanted o (yielded ops a.tmps) = false → T i undef w)
def GRules (P : Program) (ops : Array Oper) {σ : Type} (T : Nat → Value → World × σ → Prop) (R : World × σ → World × σ → Prop) (N : Nat → World × σ → Prop) (a0 : Act) (W : World × σ) (Q : Exit → Act → World → Prop) : Nat → List Oper → Prop
  | _, [] => True
  | i, o :: r => GRule P ops T R N a0 W Q i o ∧ GRules P ops T R N a0 W Q (i + 1) r
theorem GRules.at {P : Program} {ops : Array Oper} {σ : Type} {T : Nat → Value → World × σ → Prop} {R : World × σ → World × σ → Prop} {N : Nat → World × σ → Prop} {a0 : Act} {W : World × σ} {Q : Exit → Act → World → Prop} :
    ∀ (l : List Oper) (k : Nat), GRules P ops T R N a0 W Q k l → ∀ i o, l[i]? = some o → GRule P ops T R N a0 W Q (k + i) o
  | [], _, _, i, o, h => by simp at h
  | x :: r, k, hr, 0, o, h => by simp at h; subst h; exact hr.1
  | x :: r, k, hr, i + 1, o, h => by
    have := GRules.at r (k + 1) hr.2 i o (by simpa using h)
    rwa [show k + 1 + i = k + (i + 1) by omega] at this
section
variable {P : Program} {ops : Array Oper} {σ : Type} {T : Nat → Value → World × σ → Prop} {R : World × σ → World × σ → Prop} {N : Nat → World × σ → Prop} {a0 : Act} {W : World × σ} {Q : Exit → Act → World → Prop}
theorem wpAny_ghost (hrefl : ∀ w, R w w) (htr : ∀ a b c, R a b → R b c → R a c) (hmono : ∀ i v w w', T i v w → R w w' → T i v w') (hk : tOk ops a0.tmps.size = true) (hr : GRules P ops T R N a0 W Q 0 ops.toList)
    (hpost : ∀ a w, R W w → a.defers = a0.defers → a.tmps.size = a0.tmps.size → (∀ t, (∀ (i : Nat) (o : Oper), ops[i]? = some o → o.dst ≠ some t) → a.tmps.getD t undef = a0.tmps.getD t undef) →
      (∀ (i : Nat) (o : Oper) (d : Tmp), ops[i]? = some o → o.dst = some d → T i (a.tmps.getD d undef) w) → (∀ (i : Nat) (o : Oper), ops[i]? = some o → o.dst = none → ∃ v, T i v w) → Q .normal a w.1) :
    ∀ (fuel : Nat) (listed : Array Bool) (a : Act) (w : World × σ), listed.size = ops.size → unlisted ops listed ≤ fuel → GInv ops T R N a0 W listed a w → wpAny P .any ops Q fuel listed a w.1 := by
  have hall : ∀ listed a w, listed.size = ops.size → Region.ready .any ops listed = [] → GInv ops T R N a0 W listed a w → Q .normal a w.1 := by
    intro listed a w hsz h hI
    have hls : ∀ (i : Nat) (o : Oper), ops[i]? = some o → listed.getD i false = true := fun i o ho => by
      have hlt := (Array.getElem?_eq_some_iff.1 ho).1
      have := ready_nil hk h i hlt
      simpa [Array.getD_eq_getD_getElem?, Array.getElem?_eq_getElem (show i < listed.size by omega)] using this
    exact hpost a w hI.rel hI.defers hI.size hI.old (fun i o d ho hd => hI.typ i o d ho (hls i o ho) hd) fun i o ho hd => hI.nod i o ho (hls i o ho) hd
  intro fuel
  induction fuel with
  | zero =>
    intro listed a w hsz hu hI
    have hrd : Region.ready .any ops listed = [] := by
      rw [List.eq_nil_iff_forall_not_mem]
      intro i hi
      rw [mem_ready] at hi
      obtain ⟨h0, o, ho, _⟩ := hi
      have := unlisted_set (ops := ops) (Array.getElem?_eq_some_iff.1 ho).1 h0
      omega
    exact ⟨hrd, hall listed a w hsz hrd hI⟩
  | succ fuel ih =>
    intro listed a w hsz hu hI
    refine ⟨fun h => hall listed a w hsz h hI, fun i hi => ?_⟩
    rw [mem_ready] at hi
    obtain ⟨h0, o, ho, haf⟩ := hi
    have hlt := (Array.getElem?_eq_some_iff.1 ho).1
    have hdst := tOk_dst hk ho
    have h0f : listed.getD i false = false := by
      cases e : listed.getD i false with
      | false => rfl
      | true =>
        have hlt2 : i < listed.size := by omega
        rw [Array.getD_eq_getD_getElem?, Array.getElem?_eq_getElem hlt2] at h0 e
        simp only [Option.getD_some] at h0 e
        rw [h0] at e; cases e
    have hold' : ∀ t, (∀ (j : Nat) (o : Oper), ops[j]? = some o → o.dst = some t → depsOn ops 8 j (0 + i) = true) → a.tmps.getD t undef = a0.tmps.getD t undef := fun t ht => by
      by_cases hex : ∃ (j : Nat) (oj : Oper), ops[j]? = some oj ∧ oj.dst = some t
      · obtain ⟨j, oj, hoj, hdj⟩ := hex
        refine hI.pold j oj t hoj hdj ?_
        cases e : listed.getD j false with
        | false => rfl
        | true =>
          have := depsOn_listed hI.clo 8 j i (by have := ht j oj hoj hdj; rwa [Nat.zero_add] at this) e
          rw [h0f] at this; cases this
      · exact hI.old t fun j oj hoj hdj => hex ⟨j, oj, hoj, hdj⟩
    have hrule := GRules.at ops.toList 0 hr i o (by simpa using ho) a w hI.rel (by rw [Nat.zero_add]; exact hI.pend i h0) hold' (fun e he hbd oj d hoj hd => hI.typ e.on oj d hoj (haf e he hbd) hd)
    rw [Nat.zero_add] at hrule
    have next : ∀ v w', T i v w' → R w w' ∧ (∀ j, j ≠ i → N j w → N j w') → wpAny P .any ops Q fuel (listed.setIfInBounds i true) (a.put o.dst v) w'.1 := by
      intro v w' hT ⟨hb, hn⟩
      refine ih _ _ _ (by simpa using hsz) (by have := unlisted_set (ops := ops) hlt h0; omega) ⟨htr _ _ _ hI.rel hb, fun j hj => ?_, ?_, ?_, ?_, ?_, ?_, ?_, ?_⟩
      · by_cases e : j = i
        · subst e
          have : j < listed.size := by omega
          simp [Array.getElem?_setIfInBounds, this] at hj
        · exact hn j e (hI.pend j (by rwa [getD_set_ne true (Ne.symm e)] at hj))
      · rw [← hI.defers]; cases o.dst <;> rfl
      · rw [← hI.size]; cases o.dst <;> simp [Act.put]
      · intro t ht
        rw [← hI.old t ht]
        have h2 := ht i o ho
        cases hd : o.dst with
        | none => rfl
        | some d =>
          have : d ≠ t := fun e => h2 (by rw [hd, e])
          simp [Act.put, Array.getElem?_setIfInBounds_ne this]
      · intro j oj d hj hdj hlj
        have e : j ≠ i := fun e => by
          subst e
          have : j < listed.size := by omega
          simp [Array.getElem?_setIfInBounds, this] at hlj
        rw [getD_set_ne false (Ne.symm e)] at hlj
        rw [← hI.pold j oj d hj hdj hlj]
        cases hd : o.dst with
        | none => rfl
        | some d' =>
          have : d' ≠ d := fun e2 => hdst.2.2 j oj d' e hj hd (by rw [hdj, e2])
          simp [Act.put, Array.getElem?_setIfInBounds_ne this]
      · intro j oj hj hlj e he hbd
        have hmn : ∀ k, listed.getD k false = true → (listed.setIfInBounds i true).getD k false = true := fun k hk => by
          by_cases ek : k = i
          · subst ek
            have : k < listed.size := by omega
            simp [Array.getElem?_setIfInBounds, this]
          · rwa [getD_set_ne false (Ne.symm ek)]
        by_cases ej : j = i
        · subst ej
          obtain rfl : oj = o := by rw [ho] at hj; exact (Option.some.inj hj).symm
          exact hmn _ (haf e he hbd)
        · exact hmn _ (hI.clo j oj hj (by rwa [getD_set_ne false (Ne.symm ej)] at hlj) e he hbd)
      · intro j oj d hj hlj hdj
        by_cases e : j = i
        · subst e
          obtain rfl : oj = o := by rw [ho] at hj; exact (Option.some.inj hj).symm
          have hd1 := hdst.1 d hdj
          rw [hdj]
          have hlt2 : d < a.tmps.size := by rw [hI.size]; exact hd1
          simpa [Act.put, hlt2] using hT
        · have hlj' : listed.getD j false = true := by rwa [getD_set_ne false (Ne.symm e)] at hlj
          have h3 := hmono j _ w w' (hI.typ j oj d hj hlj' hdj) hb
          have h4 : (a.put o.dst v).tmps.getD d undef = a.tmps.getD d undef := by
            cases hd : o.dst with
            | none => rfl
            | some d' =>
              have : d' ≠ d := fun e2 => hdst.2.2 j oj d' e hj hd (by rw [hdj, e2])
              simp [Act.put, Array.getElem?_setIfInBounds_ne this]
          rw [h4]; exact h3
      · intro j oj hj hlj hdj
        by_cases e : j = i
        · subst e; exact ⟨v, hT⟩
        · have hlj' : listed.getD j false = true := by rwa [getD_set_ne false (Ne.symm e)] at hlj
          obtain ⟨v', h⟩ := hI.nod j oj hj hlj' hdj
          exact ⟨v', hmono j _ w w' h hb⟩
    unfold wpOp
    simp only [ho]
    split
    · rename_i hw
      exact .inl (hrule.1 hw _ next)
    · rename_i hw
      exact next undef w (hrule.2 (by simpa using hw)) ⟨hrefl _, fun _ _ h => h⟩
theorem wp_region_ghost {id : Nat} {a : Act} {σ : Type} (T : Nat → Value → World × σ → Prop) (R : World × σ → World × σ → Prop) (N : Nat → World × σ → Prop) (γ0 : σ) {W : World} (hm : P.follows .mixedOrders = true) (hk : tOk ops a.tmps.size = true)
    (hrefl : ∀ w, R w w) (htr : ∀ a b c, R a b → R b c → R a c) (hmono : ∀ i v w w', T i v w → R w w' → T i v w') (hN : ∀ i, N i (W.drew, γ0))
    (hr : GRules P ops T R N a (W.drew, γ0) Q 0 ops.toList)
    (hpost : ∀ (b : Act) (w : World × σ), R (W.drew, γ0) w → b.defers = a.defers → b.tmps.size = a.tmps.size → (∀ t, noDst ops t = true → b.tmps.getD t undef = a.tmps.getD t undef) →
      (∀ (i : Nat) (o : Oper) (d : Tmp), ops[i]? = some o → o.dst = some d → T i (b.tmps.getD d undef) w) → (∀ (i : Nat) (o : Oper), ops[i]? = some o → o.dst = none → ∃ v, T i v w) → Q .normal b w.1) : (Code.region id ops true).wp P Q a W := by
  refine wp_region_any hm ?_
  refine wpAny_ghost (T := T) (R := R) (N := N) (W := (W.drew, γ0)) (a0 := a) hrefl htr hmono hk hr (fun b w h1 h2 h3 h4 h5 h6 => hpost b w h1 h2 h3 (fun t ht => h4 t (noDst_spec ht)) h5 h6) _ _ _ (W.drew, γ0) (by simp) ?_ ⟨hrefl _, fun i _ => hN i, rfl, rfl, fun _ _ => rfl, fun _ _ _ _ _ _ => rfl, fun i o ho hl => ?_, fun i o d ho hl _ => ?_, fun i o ho hl _ => ?_⟩
  · unfold unlisted; exact Nat.le_trans (List.length_filter_le _ _) (by simp)
  all_goals
    exfalso
    have hlt := (Array.getElem?_eq_some_iff.1 ho).1
    simp [hlt] at hl
theorem truleGh {W : World × σ} {i : Nat} {o : Oper} {a : Act}
    (h : ∀ (b : Act) (w : World × σ), R W w → N i w → (∀ t, noDstI ops i t = true → b.eval (.tmp t) = a.eval (.tmp t)) →
      (∀ e ∈ o.after, Region.binds .any e = true → ∀ (oj : Oper) (d : Tmp), ops[e.on]? = some oj → oj.dst = some d → T e.on (b.eval (.tmp d)) w) →
      (Region.wanted o (yielded ops b.tmps) = true → ∀ K : Act → World → Prop, (∀ v w', T i v w' → R w w' ∧ (∀ j, j ≠ i → N j w → N j w') → K (b.put o.dst v) w'.1) → o.wp P b w.1 K Q) ∧ (Region.wanted o (yielded ops b.tmps) = false → T i undef w)) :
    GRule P ops T R N a W Q i o := fun b w h1 hn h2 h3 => h b w h1 hn (fun t ht => h2 t (noDstI_spec ht)) h3
end
end Go.Proofs.YtihpgmbinhmmlaaDoor
