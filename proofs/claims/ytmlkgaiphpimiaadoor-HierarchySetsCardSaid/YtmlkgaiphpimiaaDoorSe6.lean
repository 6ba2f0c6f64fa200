/-
  The card of HierarchySets.
-/
import Derived.Deep.Cut
import Derived.Deep.CutBlock
import Derived.Deep.MidRow
import Derived.Laws.CopyRow
import Derived.Laws.CopyOwn
import Derived.Laws.IdiomStrings
import Derived.Test.YtmlkgaiphpimiaaDoorShelf
import Derived.Test.YtmlkgaiphpimiaaDoorRows
import Derived.ProofKit
import Derived.Lib.LaidU8
import Derived.Lay
import Derived.MakeChecks
import Derived.LaidLaws
import Derived.Stop.Joined
import Derived.Test.YtmlkgaiphpimiaaDoorCards
import Derived.Test.YtmlkgaiphpimiaaDoorTie
import Derived.SevenTiedAt
import Derived.Test.YtmlkgaiphpimiaaDoorSe5
namespace Go.Proofs.YtmlkgaiphpimiaaDoor
open Go.RowKit
attribute [local go_sem ↓] Go.wp_at_zero Go.wp_at_succ
set_option maxRecDepth 20000
set_option exponentiation.threshold 5000

theorem HOK.unl {L : List (Nat × Nat)} (h : HOK L) (z : Nat × Nat) : HOK (unl L z) := ⟨unl_asc h.asc z, fun x hx => h.role x (mem_unl.1 hx).1, h.acyc.sub fun x hx => (mem_unl.1 hx).1⟩
/-- what Chain gives -/
def ChainP (L : List (Nat × Nat)) (a b : Int) (l : List Nat) (c : Bool) : Prop :=
  (c = false ∧ l = [] ∧ ¬ impl L a b) ∨ (c = true ∧ ∃ i j d : Nat, a = (i : Int) ∧ b = (j : Int) ∧ (1 ≤ i ∧ i < 64) ∧ (1 ≤ j ∧ j < 64) ∧ isDist L j i d ∧ l = gp L j d i)
def ChainR (w0 : World) (L : List (Nat × Nat)) (a b : Int) (e : Ending) (w' : World) : Prop :=
  ∃ (v : Value) (c : Bool) (l : List Nat), e = .returned (.tuple #[v, .bool c]) ∧ ChainP L a b l c ∧ l.length ≤ 64 ∧ St w0 w' [.own v 3 1 l.length (ints (natInts l))] fun _ _ => True
theorem chain_of_path {L : List (Nat × Nat)} {a b : Int} {l : List Nat} {c : Bool} (hi : impl L a b) (h : PathP L 64 a b l c) : ChainP L a b l c := by
  obtain ⟨i, j, rfl, rfl, h1, h2, h3⟩ := hi
  rcases h with ⟨_, _, h⟩ | ⟨h, i', j', d, e1, e2, _, _, h4, h5⟩
  · refine absurd ?_ h
    rcases h3 with rfl | h3
    · exact ⟨i, i, 0, rfl, rfl, h1.2, h1.2, rfl⟩
    · obtain ⟨k, hk⟩ := h3.wk
      exact ⟨i, j, k, rfl, rfl, h1.2, h2.2, hk⟩
  · obtain rfl : i = i' := by omega
    obtain rfl : j = j' := by omega
    exact .inr ⟨h, i, j, d, rfl, rfl, h1, h2, h4, h5⟩
theorem hchain_any {w0 : World} {D : Nat → Prop} {p : Value} {L : List (Nat × Nat)} (h : IsH w0 D p L) (hH : HOK L) (hl : L.length ≤ 900000) (r s : Int) : Calls Tryd.prog 17 #[p, .int .i64 r, .int .i64 s] w0 (ChainR w0 L r s) := by
  obtain ⟨q, o, rfl, hX⟩ := h
  obtain ⟨K, ko, hS⟩ : ∃ K : (Nat → Prop) → World → Prop, (∀ D w, K D w → HierX q o L D w) ∧ St w0 w0 [] K := ⟨_, fun _ _ h => h, St.start stable_hierX hX⟩
  clear hX
  have HI := Lib.hid (fun (w : World) (h : HierX q o L (Free []) w) => himplies_any (w0 := w) ⟨q, o, rfl, h⟩ hH r s)
  have HP := Lib.hid (fun (w : World) (h : HierX q o L (Free []) w) => opath_any h.2 hH.inr hH.acyc (by omega) (by omega) r s)
  by_cases hi : impl L r s
  · have HC := Lib.hid (fun l c (h : PathP L 64 r s l c) => chain_of_path hi h)
    have HB : Hid (∀ c : Bool, (c = true ↔ impl L r s) → c = true) := Lib.hid fun c h => h.2 hi
    clear hi hH
    go_enter Tryd.func17, Tryd.ntmps17
    go_wp2_with (first
      | ((with_reducible show wpList _ _ _ (⟨_, .binOp _ _ _ _ _, _, _, _, _⟩ :: _) _ _); (first | ((with_reducible show wpList _ _ _ (⟨_, .binOp .lss _ _ _ _, _, _, _, _⟩ :: _) _ _); refine st_lss rfl _ _ _ _ rfl _ _ _ rfl rfl (fun h_ => ?_) (fun h_ => ?_)) | ((with_reducible show wpList _ _ _ (⟨_, .binOp .leq _ _ _ _, _, _, _, _⟩ :: _) _ _); refine st_leq rfl _ _ _ _ rfl _ _ _ rfl rfl (fun h_ => ?_) (fun h_ => ?_)) | ((with_reducible show wpList _ _ _ (⟨_, .binOp .gtr _ _ _ _, _, _, _, _⟩ :: _) _ _); refine st_gtr rfl _ _ _ _ rfl _ _ _ rfl rfl (fun h_ => ?_) (fun h_ => ?_)) | ((with_reducible show wpList _ _ _ (⟨_, .binOp .geq _ _ _ _, _, _, _, _⟩ :: _) _ _); refine st_geq rfl _ _ _ _ rfl _ _ _ rfl rfl (fun h_ => ?_) (fun h_ => ?_)) | ((with_reducible show wpList _ _ _ (⟨_, .binOp .eql _ _ _ _, _, _, _, _⟩ :: _) _ _); refine st_eql rfl _ _ _ _ rfl _ _ _ rfl rfl (fun h_ => ?_) (fun h_ => ?_)) | ((with_reducible show wpList _ _ _ (⟨_, .binOp .neq _ _ _ _, _, _, _, _⟩ :: _) _ _); refine st_neq rfl _ _ _ _ rfl _ _ _ rfl rfl (fun h_ => ?_) (fun h_ => ?_))) <;> go_prune)
      | (go_at_call 15; refine (HI.out _ (ko _ _ hS.ro)).mono ?_; rintro r_ w_ ⟨_, rfl, ⟨c, rfl, hc⟩, hb_⟩; obtain rfl := HB.out c hc; clear hc; replace hS := hS.ext hb_; clear hb_)
      | ((with_reducible show wpList _ _ _ (⟨_, .load _ _, _, _, _, _⟩ :: _) _ _); refine st_kcell hS rfl _ _ rfl _ rfl _ (fun D w h => (ko D w h).1.cell 0 rfl) (by kernel_rfl) ?_)
      | (go_at_call 27; refine (HP.out _ (ko _ _ hS.ro)).mono ?_; rintro e w_ ⟨v, c, l, rfl, hp, hll, hs⟩; replace hp := Lib.hid (HC.out l c hp); replace hS := hS.new hs.below (.own v 3 1 l.length (ints (natInts l))) (hs.own 0 rfl); clear hs))
    go_ret2
    exact ⟨v, c, l, rfl, hp.out, hll, hS.mono (Stable.pure True) fun _ _ _ => trivial⟩
  · have HB : Hid (∀ c : Bool, (c = true ↔ impl L r s) → c = false) := Lib.hid fun c h => by
      cases c with
      | true => exact absurd (h.1 rfl) hi
      | false => rfl
    have HNI := Lib.hid hi
    clear hi hH
    go_enter Tryd.func17, Tryd.ntmps17
    go_wp2_with (first
      | ((with_reducible show wpList _ _ _ (⟨_, .binOp _ _ _ _ _, _, _, _, _⟩ :: _) _ _); (first | ((with_reducible show wpList _ _ _ (⟨_, .binOp .lss _ _ _ _, _, _, _, _⟩ :: _) _ _); refine st_lss rfl _ _ _ _ rfl _ _ _ rfl rfl (fun h_ => ?_) (fun h_ => ?_)) | ((with_reducible show wpList _ _ _ (⟨_, .binOp .leq _ _ _ _, _, _, _, _⟩ :: _) _ _); refine st_leq rfl _ _ _ _ rfl _ _ _ rfl rfl (fun h_ => ?_) (fun h_ => ?_)) | ((with_reducible show wpList _ _ _ (⟨_, .binOp .gtr _ _ _ _, _, _, _, _⟩ :: _) _ _); refine st_gtr rfl _ _ _ _ rfl _ _ _ rfl rfl (fun h_ => ?_) (fun h_ => ?_)) | ((with_reducible show wpList _ _ _ (⟨_, .binOp .geq _ _ _ _, _, _, _, _⟩ :: _) _ _); refine st_geq rfl _ _ _ _ rfl _ _ _ rfl rfl (fun h_ => ?_) (fun h_ => ?_)) | ((with_reducible show wpList _ _ _ (⟨_, .binOp .eql _ _ _ _, _, _, _, _⟩ :: _) _ _); refine st_eql rfl _ _ _ _ rfl _ _ _ rfl rfl (fun h_ => ?_) (fun h_ => ?_)) | ((with_reducible show wpList _ _ _ (⟨_, .binOp .neq _ _ _ _, _, _, _, _⟩ :: _) _ _); refine st_neq rfl _ _ _ _ rfl _ _ _ rfl rfl (fun h_ => ?_) (fun h_ => ?_))) <;> go_prune)
      | (go_at_call 15; refine (HI.out _ (ko _ _ hS.ro)).mono ?_; rintro r_ w_ ⟨_, rfl, ⟨c, rfl, hc⟩, hb_⟩; obtain rfl := HB.out c hc; clear hc; replace hS := hS.ext hb_; clear hb_))
    go_ret2
    exact ⟨_, false, [], rfl, .inl ⟨rfl, rfl, HNI.out⟩, by simp, (hS.nil 3 1).mono (Stable.pure True) fun _ _ _ => trivial⟩
/-- the direct juniors of a role -/
def dirsOf (L : List (Nat × Nat)) (r : Int) : List Nat := (L.filter fun x => decide ((x.1 : Int) = r)).map (·.2)
theorem dirsOf_step {L : List (Nat × Nat)} {j : Nat} {u : Nat × Nat} (h : L[j]? = some u) (r : Int) : dirsOf (L.take (j + 1)) r = if (u.1 : Int) = r then dirsOf (L.take j) r ++ [u.2] else dirsOf (L.take j) r := by
  unfold dirsOf
  rw [List.take_add_one, h, List.filter_append]
  by_cases e : (u.1 : Int) = r <;> simp [e]
theorem dirsOf_len (L : List (Nat × Nat)) (r : Int) (j : Nat) : (dirsOf (L.take j) r).length ≤ j := by
  unfold dirsOf
  rw [List.length_map]
  exact Nat.le_trans (List.length_filter_le _ _) (by rw [List.length_take]; omega)
theorem hdirect_any {w0 : World} {D : Nat → Prop} {p : Value} {L : List (Nat × Nat)} (h : IsH w0 D p L) (hl : L.length ≤ 900000) (r : Int) : Calls Tryd.prog 40 #[p, .int .i64 r] w0 fun e w' => ∃ v, e = .returned v ∧ St w0 w' [.own v 3 1 (dirsOf L r).length (ints (natInts (dirsOf L r)))] fun _ _ => True := by
  have HL := Lib.hid (hlinks_any h (by omega))
  clear h
  go_enter Tryd.func40, Tryd.ntmps40
  go_wp2_with (first
    | (go_at_call 31; refine HL.out.mono ?_; rintro e w_ ⟨v, rfl, hS⟩; obtain ⟨A, c, rfl, _, _⟩ := own_shp (hS.own 0 rfl)))
  obtain ⟨K, kp, hS⟩ : ∃ K : (Nat → Prop) → World → Prop, (∀ D w, K D w → Sl w D 2 (.slice A L.length c) L.length (pcells L)) ∧ St w0 w_ [] K := ⟨_, fun _ _ h => h.2, hS.freeze 0 (by decide) rfl⟩
  replace hS := hS.nil 3 1
  go_loopw [5, 11] (fun v i wr => ∃ j : Nat, i = .int .i64 (j : Nat) ∧ j ≤ L.length ∧ St w0 wr [.own v 3 1 (dirsOf (L.take j) r).length (ints (natInts (dirsOf (L.take j) r)))] K) (fun _ i _ => L.length - (intOf i).toNat)
  case atStart => exact ⟨0, rfl, by omega, hS⟩
  case round =>
    clear hS
    obtain ⟨j, rfl, hj, hS⟩ := hrel
    by_cases hlj : j < L.length
    · obtain ⟨f1, f2⟩ := pcells_at L j hlj
      have HST := Lib.hid (dirsOf_step (getD_at (0, 0) hlj) r)
      have hM := dirsOf_len L r j
      generalize L.getD j (0, 0) = z at *
      generalize hMM : dirsOf (L.take j) r = M at *
      clear hMM
      obtain ⟨za, zb⟩ := z
      dsimp only at f1 f2 HST
      by_cases hz : (za : Int) = r
      · have HE := Lib.hid (HST.out.trans (if_pos hz))
        clear HST
        go_wp2_with (first
          | ((with_reducible show wpList _ _ _ (⟨_, .binOp _ _ _ _ _, _, _, _, _⟩ :: _) _ _); (first | ((with_reducible show wpList _ _ _ (⟨_, .binOp .lss _ _ _ _, _, _, _, _⟩ :: _) _ _); refine st_lss rfl _ _ _ _ rfl _ _ _ rfl rfl (fun h_ => ?_) (fun h_ => ?_)) | ((with_reducible show wpList _ _ _ (⟨_, .binOp .leq _ _ _ _, _, _, _, _⟩ :: _) _ _); refine st_leq rfl _ _ _ _ rfl _ _ _ rfl rfl (fun h_ => ?_) (fun h_ => ?_)) | ((with_reducible show wpList _ _ _ (⟨_, .binOp .gtr _ _ _ _, _, _, _, _⟩ :: _) _ _); refine st_gtr rfl _ _ _ _ rfl _ _ _ rfl rfl (fun h_ => ?_) (fun h_ => ?_)) | ((with_reducible show wpList _ _ _ (⟨_, .binOp .geq _ _ _ _, _, _, _, _⟩ :: _) _ _); refine st_geq rfl _ _ _ _ rfl _ _ _ rfl rfl (fun h_ => ?_) (fun h_ => ?_)) | ((with_reducible show wpList _ _ _ (⟨_, .binOp .eql _ _ _ _, _, _, _, _⟩ :: _) _ _); refine st_eql rfl _ _ _ _ rfl _ _ _ rfl rfl (fun h_ => ?_) (fun h_ => ?_)) | ((with_reducible show wpList _ _ _ (⟨_, .binOp .neq _ _ _ _, _, _, _, _⟩ :: _) _ _); refine st_neq rfl _ _ _ _ rfl _ _ _ rfl rfl (fun h_ => ?_) (fun h_ => ?_))) <;> go_prune)
          | ((with_reducible show wpList _ _ _ (⟨_, .indexAddr _ _ _, _, _, _, _⟩ :: _) _ _); refine st_iaddr2 hS rfl _ _ _ rfl _ rfl rfl (by assumption) Tryd.underlying25 (by kernel_rfl) (by first | assumption | omega) _ _ (by assumption) (by assumption) ?_; intro b_ j_ hc0_ hc1_)
          | ((with_reducible show wpList _ _ _ (⟨some 7, _, _, _, _, _⟩ :: _) _ _); refine st_alloc hS rfl _ rfl (by kernel_rfl) ?_; clear hS; intro g4 w_ hS; (try simp only [Act.put, Act.eval, List.set_cons_zero, List.set_cons_succ, List.setIfInBounds_toArray, Array.getD_eq_getD_getElem?, List.getElem?_toArray, List.getElem?_cons_succ, List.getElem?_cons_zero, Option.getD_some, Value.cells] at hS))
          | ((with_reducible show wpList _ _ _ (⟨_, .store _ _ _, _, _, _, _⟩ :: _) _ _); first | (refine st_store hS 0 rfl _ _ _ rfl _ _ rfl rfl _ _ rfl (by kernel_rfl) (by kernel_rfl) (by kernel_rfl) ?_; clear hS; intro w_ hS; (try simp only [Act.put, Act.eval, List.set_cons_zero, List.set_cons_succ, List.setIfInBounds_toArray, Array.getD_eq_getD_getElem?, List.getElem?_toArray, List.getElem?_cons_succ, List.getElem?_cons_zero, Option.getD_some, Value.cells] at hS)) | (refine st_store hS 1 rfl _ _ _ rfl _ _ rfl rfl _ _ rfl (by kernel_rfl) (by kernel_rfl) (by kernel_rfl) ?_; clear hS; intro w_ hS; (try simp only [Act.put, Act.eval, List.set_cons_zero, List.set_cons_succ, List.setIfInBounds_toArray, Array.getD_eq_getD_getElem?, List.getElem?_toArray, List.getElem?_cons_succ, List.getElem?_cons_zero, Option.getD_some, Value.cells] at hS)) | (refine st_store hS 2 rfl _ _ _ rfl _ _ rfl rfl _ _ rfl (by kernel_rfl) (by kernel_rfl) (by kernel_rfl) ?_; clear hS; intro w_ hS; (try simp only [Act.put, Act.eval, List.set_cons_zero, List.set_cons_succ, List.setIfInBounds_toArray, Array.getD_eq_getD_getElem?, List.getElem?_toArray, List.getElem?_cons_succ, List.getElem?_cons_zero, Option.getD_some, Value.cells] at hS)) | (refine st_store hS 3 rfl _ _ _ rfl _ _ rfl rfl _ _ rfl (by kernel_rfl) (by kernel_rfl) (by kernel_rfl) ?_; clear hS; intro w_ hS; (try simp only [Act.put, Act.eval, List.set_cons_zero, List.set_cons_succ, List.setIfInBounds_toArray, Array.getD_eq_getD_getElem?, List.getElem?_toArray, List.getElem?_cons_succ, List.getElem?_cons_zero, Option.getD_some, Value.cells] at hS)) | (refine st_cstore hS 0 rfl _ _ _ rfl _ _ _ rfl rfl rfl (by first | (simp; done) | (simp; omega) | exact of_decide_eq_true (by kernel_rfl)) rfl (by first | rfl | assumption) (by kernel_rfl) ?_; clear hS; intro w_ hS; (try simp only [Act.put, Act.eval, List.set_cons_zero, List.set_cons_succ, List.setIfInBounds_toArray, Array.getD_eq_getD_getElem?, List.getElem?_toArray, List.getElem?_cons_succ, List.getElem?_cons_zero, Option.getD_some, Value.cells] at hS)) | (refine st_cstore hS 1 rfl _ _ _ rfl _ _ _ rfl rfl rfl (by first | (simp; done) | (simp; omega) | exact of_decide_eq_true (by kernel_rfl)) rfl (by first | rfl | assumption) (by kernel_rfl) ?_; clear hS; intro w_ hS; (try simp only [Act.put, Act.eval, List.set_cons_zero, List.set_cons_succ, List.setIfInBounds_toArray, Array.getD_eq_getD_getElem?, List.getElem?_toArray, List.getElem?_cons_succ, List.getElem?_cons_zero, Option.getD_some, Value.cells] at hS)) | (refine st_cstore hS 2 rfl _ _ _ rfl _ _ _ rfl rfl rfl (by first | (simp; done) | (simp; omega) | exact of_decide_eq_true (by kernel_rfl)) rfl (by first | rfl | assumption) (by kernel_rfl) ?_; clear hS; intro w_ hS; (try simp only [Act.put, Act.eval, List.set_cons_zero, List.set_cons_succ, List.setIfInBounds_toArray, Array.getD_eq_getD_getElem?, List.getElem?_toArray, List.getElem?_cons_succ, List.getElem?_cons_zero, Option.getD_some, Value.cells] at hS)) | (refine st_cstore hS 3 rfl _ _ _ rfl _ _ _ rfl rfl rfl (by first | (simp; done) | (simp; omega) | exact of_decide_eq_true (by kernel_rfl)) rfl (by first | rfl | assumption) (by kernel_rfl) ?_; clear hS; intro w_ hS; (try simp only [Act.put, Act.eval, List.set_cons_zero, List.set_cons_succ, List.setIfInBounds_toArray, Array.getD_eq_getD_getElem?, List.getElem?_toArray, List.getElem?_cons_succ, List.getElem?_cons_zero, Option.getD_some, Value.cells] at hS)))
          | ((with_reducible show wpList _ _ _ (⟨_, .buildSlice _ 1 _, _, _, _, _⟩ :: _) _ _); refine st_push hS 1 rfl rfl _ _ _ _ rfl rfl ty_ints _ _ _ (.int .i64 (zb : Nat)) #[.int .i64 (zb : Nat)] rfl (by kernel_rfl) rfl rfl rfl rfl (by intro u hu; simp at hu; first | (subst hu; rfl) | (rcases hu with rfl | rfl <;> rfl)) (by omega) (by omega) ?_; clear hS; intro z_ v_ w_ hS; (try simp only [Act.put, Act.eval, List.set_cons_zero, List.set_cons_succ, List.setIfInBounds_toArray, Array.getD_eq_getD_getElem?, List.getElem?_toArray, List.getElem?_cons_succ, List.getElem?_cons_zero, Option.getD_some, Value.cells] at hS))
          | ((with_reducible show wpList _ _ _ (⟨_, .load _ _, _, _, _, _⟩ :: _) _ _); first | (refine st_cell hS 0 rfl _ _ rfl _ _ rfl _ _ rfl (by decide +kernel) _ (by first | assumption | rfl) ?_) | (refine st_cell hS 1 rfl _ _ rfl _ _ rfl _ _ rfl (by decide +kernel) _ (by first | assumption | rfl) ?_) | (refine st_cell hS 2 rfl _ _ rfl _ _ rfl _ _ rfl (by decide +kernel) _ (by first | assumption | rfl) ?_) | (refine st_cell hS 3 rfl _ _ rfl _ _ rfl _ _ rfl (by decide +kernel) _ (by first | assumption | rfl) ?_) | (refine st_cell hS 4 rfl _ _ rfl _ _ rfl _ _ rfl (by decide +kernel) _ (by first | assumption | rfl) ?_) | (refine st_cell hS 5 rfl _ _ rfl _ _ rfl _ _ rfl (by decide +kernel) _ (by first | assumption | rfl) ?_) | (refine st_cell hS 6 rfl _ _ rfl _ _ rfl _ _ rfl (by decide +kernel) _ (by first | assumption | rfl) ?_) | (refine st_cell hS 7 rfl _ _ rfl _ _ rfl _ _ rfl (by decide +kernel) _ (by first | assumption | rfl) ?_)))
        refine ⟨⟨j + 1, by go_num, hlj, ?_⟩, by simp [intOf]; omega⟩
        rw [HE.out, ← natI_snoc, List.length_append]
        exact hS.sub (List.sublist_cons_self _ _)
      · have HE := Lib.hid (HST.out.trans (if_neg hz))
        clear HST
        go_wp2_with (first
          | ((with_reducible show wpList _ _ _ (⟨_, .binOp _ _ _ _ _, _, _, _, _⟩ :: _) _ _); (first | ((with_reducible show wpList _ _ _ (⟨_, .binOp .lss _ _ _ _, _, _, _, _⟩ :: _) _ _); refine st_lss rfl _ _ _ _ rfl _ _ _ rfl rfl (fun h_ => ?_) (fun h_ => ?_)) | ((with_reducible show wpList _ _ _ (⟨_, .binOp .leq _ _ _ _, _, _, _, _⟩ :: _) _ _); refine st_leq rfl _ _ _ _ rfl _ _ _ rfl rfl (fun h_ => ?_) (fun h_ => ?_)) | ((with_reducible show wpList _ _ _ (⟨_, .binOp .gtr _ _ _ _, _, _, _, _⟩ :: _) _ _); refine st_gtr rfl _ _ _ _ rfl _ _ _ rfl rfl (fun h_ => ?_) (fun h_ => ?_)) | ((with_reducible show wpList _ _ _ (⟨_, .binOp .geq _ _ _ _, _, _, _, _⟩ :: _) _ _); refine st_geq rfl _ _ _ _ rfl _ _ _ rfl rfl (fun h_ => ?_) (fun h_ => ?_)) | ((with_reducible show wpList _ _ _ (⟨_, .binOp .eql _ _ _ _, _, _, _, _⟩ :: _) _ _); refine st_eql rfl _ _ _ _ rfl _ _ _ rfl rfl (fun h_ => ?_) (fun h_ => ?_)) | ((with_reducible show wpList _ _ _ (⟨_, .binOp .neq _ _ _ _, _, _, _, _⟩ :: _) _ _); refine st_neq rfl _ _ _ _ rfl _ _ _ rfl rfl (fun h_ => ?_) (fun h_ => ?_))) <;> go_prune)
          | ((with_reducible show wpList _ _ _ (⟨_, .indexAddr _ _ _, _, _, _, _⟩ :: _) _ _); refine st_iaddr2 hS rfl _ _ _ rfl _ rfl rfl (by assumption) Tryd.underlying25 (by kernel_rfl) (by first | assumption | omega) _ _ (by assumption) (by assumption) ?_; intro b_ j_ hc0_ hc1_)
          | ((with_reducible show wpList _ _ _ (⟨some 7, _, _, _, _, _⟩ :: _) _ _); refine st_alloc hS rfl _ rfl (by kernel_rfl) ?_; clear hS; intro g4 w_ hS; (try simp only [Act.put, Act.eval, List.set_cons_zero, List.set_cons_succ, List.setIfInBounds_toArray, Array.getD_eq_getD_getElem?, List.getElem?_toArray, List.getElem?_cons_succ, List.getElem?_cons_zero, Option.getD_some, Value.cells] at hS))
          | ((with_reducible show wpList _ _ _ (⟨_, .store _ _ _, _, _, _, _⟩ :: _) _ _); first | (refine st_store hS 0 rfl _ _ _ rfl _ _ rfl rfl _ _ rfl (by kernel_rfl) (by kernel_rfl) (by kernel_rfl) ?_; clear hS; intro w_ hS; (try simp only [Act.put, Act.eval, List.set_cons_zero, List.set_cons_succ, List.setIfInBounds_toArray, Array.getD_eq_getD_getElem?, List.getElem?_toArray, List.getElem?_cons_succ, List.getElem?_cons_zero, Option.getD_some, Value.cells] at hS)) | (refine st_store hS 1 rfl _ _ _ rfl _ _ rfl rfl _ _ rfl (by kernel_rfl) (by kernel_rfl) (by kernel_rfl) ?_; clear hS; intro w_ hS; (try simp only [Act.put, Act.eval, List.set_cons_zero, List.set_cons_succ, List.setIfInBounds_toArray, Array.getD_eq_getD_getElem?, List.getElem?_toArray, List.getElem?_cons_succ, List.getElem?_cons_zero, Option.getD_some, Value.cells] at hS)) | (refine st_store hS 2 rfl _ _ _ rfl _ _ rfl rfl _ _ rfl (by kernel_rfl) (by kernel_rfl) (by kernel_rfl) ?_; clear hS; intro w_ hS; (try simp only [Act.put, Act.eval, List.set_cons_zero, List.set_cons_succ, List.setIfInBounds_toArray, Array.getD_eq_getD_getElem?, List.getElem?_toArray, List.getElem?_cons_succ, List.getElem?_cons_zero, Option.getD_some, Value.cells] at hS)) | (refine st_store hS 3 rfl _ _ _ rfl _ _ rfl rfl _ _ rfl (by kernel_rfl) (by kernel_rfl) (by kernel_rfl) ?_; clear hS; intro w_ hS; (try simp only [Act.put, Act.eval, List.set_cons_zero, List.set_cons_succ, List.setIfInBounds_toArray, Array.getD_eq_getD_getElem?, List.getElem?_toArray, List.getElem?_cons_succ, List.getElem?_cons_zero, Option.getD_some, Value.cells] at hS)) | (refine st_cstore hS 0 rfl _ _ _ rfl _ _ _ rfl rfl rfl (by first | (simp; done) | (simp; omega) | exact of_decide_eq_true (by kernel_rfl)) rfl (by first | rfl | assumption) (by kernel_rfl) ?_; clear hS; intro w_ hS; (try simp only [Act.put, Act.eval, List.set_cons_zero, List.set_cons_succ, List.setIfInBounds_toArray, Array.getD_eq_getD_getElem?, List.getElem?_toArray, List.getElem?_cons_succ, List.getElem?_cons_zero, Option.getD_some, Value.cells] at hS)) | (refine st_cstore hS 1 rfl _ _ _ rfl _ _ _ rfl rfl rfl (by first | (simp; done) | (simp; omega) | exact of_decide_eq_true (by kernel_rfl)) rfl (by first | rfl | assumption) (by kernel_rfl) ?_; clear hS; intro w_ hS; (try simp only [Act.put, Act.eval, List.set_cons_zero, List.set_cons_succ, List.setIfInBounds_toArray, Array.getD_eq_getD_getElem?, List.getElem?_toArray, List.getElem?_cons_succ, List.getElem?_cons_zero, Option.getD_some, Value.cells] at hS)) | (refine st_cstore hS 2 rfl _ _ _ rfl _ _ _ rfl rfl rfl (by first | (simp; done) | (simp; omega) | exact of_decide_eq_true (by kernel_rfl)) rfl (by first | rfl | assumption) (by kernel_rfl) ?_; clear hS; intro w_ hS; (try simp only [Act.put, Act.eval, List.set_cons_zero, List.set_cons_succ, List.setIfInBounds_toArray, Array.getD_eq_getD_getElem?, List.getElem?_toArray, List.getElem?_cons_succ, List.getElem?_cons_zero, Option.getD_some, Value.cells] at hS)) | (refine st_cstore hS 3 rfl _ _ _ rfl _ _ _ rfl rfl rfl (by first | (simp; done) | (simp; omega) | exact of_decide_eq_true (by kernel_rfl)) rfl (by first | rfl | assumption) (by kernel_rfl) ?_; clear hS; intro w_ hS; (try simp only [Act.put, Act.eval, List.set_cons_zero, List.set_cons_succ, List.setIfInBounds_toArray, Array.getD_eq_getD_getElem?, List.getElem?_toArray, List.getElem?_cons_succ, List.getElem?_cons_zero, Option.getD_some, Value.cells] at hS)))
          | ((with_reducible show wpList _ _ _ (⟨_, .load _ _, _, _, _, _⟩ :: _) _ _); first | (refine st_cell hS 0 rfl _ _ rfl _ _ rfl _ _ rfl (by decide +kernel) _ (by first | assumption | rfl) ?_) | (refine st_cell hS 1 rfl _ _ rfl _ _ rfl _ _ rfl (by decide +kernel) _ (by first | assumption | rfl) ?_) | (refine st_cell hS 2 rfl _ _ rfl _ _ rfl _ _ rfl (by decide +kernel) _ (by first | assumption | rfl) ?_) | (refine st_cell hS 3 rfl _ _ rfl _ _ rfl _ _ rfl (by decide +kernel) _ (by first | assumption | rfl) ?_) | (refine st_cell hS 4 rfl _ _ rfl _ _ rfl _ _ rfl (by decide +kernel) _ (by first | assumption | rfl) ?_) | (refine st_cell hS 5 rfl _ _ rfl _ _ rfl _ _ rfl (by decide +kernel) _ (by first | assumption | rfl) ?_) | (refine st_cell hS 6 rfl _ _ rfl _ _ rfl _ _ rfl (by decide +kernel) _ (by first | assumption | rfl) ?_) | (refine st_cell hS 7 rfl _ _ rfl _ _ rfl _ _ rfl (by decide +kernel) _ (by first | assumption | rfl) ?_)))
        exact ⟨⟨j + 1, by go_num, hlj, by rw [HE.out]; exact hS.sub (List.sublist_cons_self _ _)⟩, by simp [intOf]; omega⟩
    · obtain rfl : j = L.length := by omega
      rw [List.take_length] at hS
      go_wp2_with (first | ((with_reducible show wpList _ _ _ (⟨_, .binOp _ _ _ _ _, _, _, _, _⟩ :: _) _ _); (first | ((with_reducible show wpList _ _ _ (⟨_, .binOp .lss _ _ _ _, _, _, _, _⟩ :: _) _ _); refine st_lss rfl _ _ _ _ rfl _ _ _ rfl rfl (fun h_ => ?_) (fun h_ => ?_)) | ((with_reducible show wpList _ _ _ (⟨_, .binOp .leq _ _ _ _, _, _, _, _⟩ :: _) _ _); refine st_leq rfl _ _ _ _ rfl _ _ _ rfl rfl (fun h_ => ?_) (fun h_ => ?_)) | ((with_reducible show wpList _ _ _ (⟨_, .binOp .gtr _ _ _ _, _, _, _, _⟩ :: _) _ _); refine st_gtr rfl _ _ _ _ rfl _ _ _ rfl rfl (fun h_ => ?_) (fun h_ => ?_)) | ((with_reducible show wpList _ _ _ (⟨_, .binOp .geq _ _ _ _, _, _, _, _⟩ :: _) _ _); refine st_geq rfl _ _ _ _ rfl _ _ _ rfl rfl (fun h_ => ?_) (fun h_ => ?_)) | ((with_reducible show wpList _ _ _ (⟨_, .binOp .eql _ _ _ _, _, _, _, _⟩ :: _) _ _); refine st_eql rfl _ _ _ _ rfl _ _ _ rfl rfl (fun h_ => ?_) (fun h_ => ?_)) | ((with_reducible show wpList _ _ _ (⟨_, .binOp .neq _ _ _ _, _, _, _, _⟩ :: _) _ _); refine st_neq rfl _ _ _ _ rfl _ _ _ rfl rfl (fun h_ => ?_) (fun h_ => ?_))) <;> go_prune))
      go_ret
      exact ⟨_, rfl, hS.mono (Stable.pure True) fun _ _ _ => trivial⟩
set_option maxHeartbeats 2000000 in
theorem hred_any {w0 : World} {D : Nat → Prop} {p : Value} {L : List (Nat × Nat)} (h : IsH w0 D p L) (hT : DTab w0) (hH : HOK L) (hl : L.length ≤ 900000) : Calls Tryd.prog 32 #[p] w0 fun e w' => ∃ v, e = .returned v ∧ St w0 w' [.own v 50 2 (redL L L).length (pcells (redL L L))] fun _ _ => True := by
  have HL := Lib.hid (hlinks_any h (by omega))
  obtain ⟨q, o, rfl, hX⟩ := h
  obtain ⟨K0, ko, kt, hS⟩ : ∃ K : (Nat → Prop) → World → Prop, (∀ D w, K D w → HierX q o L D w) ∧ (∀ D w, K D w → DTab w ∧ D 0) ∧ St w0 w0 [] K := ⟨fun D w => HierX q o L D w ∧ DTab w ∧ D 0, fun _ _ h => h.1, fun _ _ h => h.2, St.start (D := fun _ => True) (stable_hierX.and dtab_stable) ⟨stable_hierX D _ w0 w0 hX (Nat.le_refl _) (fun _ _ _ _ h => h) fun _ _ _ _ => trivial, hT, trivial⟩⟩
  clear hX hT
  go_enter Tryd.func32, Tryd.ntmps32
  go_wp2_with (first
    | (go_at_call 31; refine HL.out.mono ?_; rintro e w_ ⟨v, rfl, hs⟩; replace hS := hS.new hs.below (.own v 50 2 L.length (pcells L)) (hs.own 0 rfl); obtain ⟨A, c, rfl, _, _⟩ := own_shp (hS.own 0 rfl); clear hs))
  obtain ⟨K, ko, kt, kp, hS⟩ : ∃ K : (Nat → Prop) → World → Prop, (∀ D w, K D w → HierX q o L D w) ∧ (∀ D w, K D w → DTab w ∧ D 0) ∧ (∀ D w, K D w → Sl w D 2 (.slice A L.length c) L.length (pcells L)) ∧ St w0 w_ [] K := ⟨_, fun D w h => ko D w h.1, fun D w h => kt D w h.1, fun _ _ h => h.2, hS.freeze 0 (by decide) rfl⟩
  have KS := hS.stable
  have HWO : Hid (∀ (F : List Fact) (z : Nat × Nat), z ∈ L → ∀ w, St w0 w F K → Calls Tryd.prog 69 #[o, .int .i64 (z.1 : Nat), .int .i64 (z.2 : Nat)] w fun e w' => ∃ p', e = .returned (.tuple #[p', .int .i64 0]) ∧ St w0 w' F fun D w => K D w ∧ IsOrd w D p' 64 (unl L z)) := Lib.hid fun F z hz w h => (owithout_any o 64 L z.1 z.2 (by omega) hH.inr hH.asc hH.acyc hl h (fun D w h => (ko D w h).2) kt).mono (by
    rintro e w' (⟨h, _⟩ | ⟨_, p', h1, h2⟩)
    · exact absurd hz h
    · exact ⟨p', h1, h2⟩)
  have HU0 := Lib.hid hH.inr
  replace hS := hS.nil 50 2
  clear hH HL
  go_loopw [3, 11] (fun v i wr => ∃ (j : Nat) (vo : Value), i = .int .i64 (j : Nat) ∧ vo = v ∧ j ≤ L.length ∧ St w0 wr [.own vo 50 2 (redL L (L.take j)).length (pcells (redL L (L.take j)))] K) (fun _ i _ => L.length - (intOf i).toNat)
  case atStart => exact ⟨0, _, rfl, rfl, by omega, hS⟩
  case round =>
    clear hS
    obtain ⟨j, vo, rfl, rfl, hj, hS⟩ := hrel
    by_cases hlj : j < L.length
    · obtain ⟨f1, f2⟩ := pcells_at L j hlj
      have HG := getD_at (0, 0) hlj
      have HST := Lib.hid (redL_step (L := L) HG)
      have HWO := Lib.hid (fun F => HWO.out F _ (List.mem_of_getElem? HG))
      have HU := Lib.hid (HU0.out.unl (L.getD j (0, 0)))
      have hM := redL_len L L j
      clear HG
      generalize L.getD j (0, 0) = z at *
      generalize hMM : redL L (L.take j) = M at *
      clear hMM
      by_cases hz : TC (unl L z) z.1 z.2
      · have HE := Lib.hid (HST.out.trans (if_pos hz))
        have HCB : Hid (∀ c : Bool, (c = true ↔ ∃ i j : Nat, (z.2 : Int) = (i : Int) ∧ (z.1 : Int) = (j : Int) ∧ TC (unl L z) j i) → c = true) := Lib.hid fun c hc => hc.2 ⟨_, _, rfl, rfl, hz⟩
        obtain ⟨za, zb⟩ := z
        dsimp only at f1 f2 HWO HCB
        clear hz HST
        go_wp2_with (first
          | ((with_reducible show wpList _ _ _ (⟨_, .binOp _ _ _ _ _, _, _, _, _⟩ :: _) _ _); (first | ((with_reducible show wpList _ _ _ (⟨_, .binOp .lss _ _ _ _, _, _, _, _⟩ :: _) _ _); refine st_lss rfl _ _ _ _ rfl _ _ _ rfl rfl (fun h_ => ?_) (fun h_ => ?_)) | ((with_reducible show wpList _ _ _ (⟨_, .binOp .leq _ _ _ _, _, _, _, _⟩ :: _) _ _); refine st_leq rfl _ _ _ _ rfl _ _ _ rfl rfl (fun h_ => ?_) (fun h_ => ?_)) | ((with_reducible show wpList _ _ _ (⟨_, .binOp .gtr _ _ _ _, _, _, _, _⟩ :: _) _ _); refine st_gtr rfl _ _ _ _ rfl _ _ _ rfl rfl (fun h_ => ?_) (fun h_ => ?_)) | ((with_reducible show wpList _ _ _ (⟨_, .binOp .geq _ _ _ _, _, _, _, _⟩ :: _) _ _); refine st_geq rfl _ _ _ _ rfl _ _ _ rfl rfl (fun h_ => ?_) (fun h_ => ?_)) | ((with_reducible show wpList _ _ _ (⟨_, .binOp .eql _ _ _ _, _, _, _, _⟩ :: _) _ _); refine st_eql rfl _ _ _ _ rfl _ _ _ rfl rfl (fun h_ => ?_) (fun h_ => ?_)) | ((with_reducible show wpList _ _ _ (⟨_, .binOp .neq _ _ _ _, _, _, _, _⟩ :: _) _ _); refine st_neq rfl _ _ _ _ rfl _ _ _ rfl rfl (fun h_ => ?_) (fun h_ => ?_))) <;> go_prune)
          | ((with_reducible show wpList _ _ _ (⟨_, .indexAddr _ _ _, _, _, _, _⟩ :: _) _ _); refine st_iaddr2 hS rfl _ _ _ rfl _ rfl rfl (by assumption) Tryd.underlying25 (by kernel_rfl) (by first | assumption | omega) _ _ (by assumption) (by assumption) ?_; intro b_ j_ hc0_ hc1_)
          | ((with_reducible show wpList _ _ _ (⟨some 5, _, _, _, _, _⟩ :: _) _ _); refine st_alloc hS rfl _ rfl (by kernel_rfl) ?_; clear hS; intro g4 w_ hS; (try simp only [Act.put, Act.eval, List.set_cons_zero, List.set_cons_succ, List.setIfInBounds_toArray, Array.getD_eq_getD_getElem?, List.getElem?_toArray, List.getElem?_cons_succ, List.getElem?_cons_zero, Option.getD_some, Value.cells] at hS))
          | ((with_reducible show wpList _ _ _ (⟨_, .store _ _ _, _, _, _, _⟩ :: _) _ _); first | (refine st_store hS 0 rfl _ _ _ rfl _ _ rfl rfl _ _ rfl (by kernel_rfl) (by kernel_rfl) (by kernel_rfl) ?_; clear hS; intro w_ hS; (try simp only [Act.put, Act.eval, List.set_cons_zero, List.set_cons_succ, List.setIfInBounds_toArray, Array.getD_eq_getD_getElem?, List.getElem?_toArray, List.getElem?_cons_succ, List.getElem?_cons_zero, Option.getD_some, Value.cells] at hS)) | (refine st_store hS 1 rfl _ _ _ rfl _ _ rfl rfl _ _ rfl (by kernel_rfl) (by kernel_rfl) (by kernel_rfl) ?_; clear hS; intro w_ hS; (try simp only [Act.put, Act.eval, List.set_cons_zero, List.set_cons_succ, List.setIfInBounds_toArray, Array.getD_eq_getD_getElem?, List.getElem?_toArray, List.getElem?_cons_succ, List.getElem?_cons_zero, Option.getD_some, Value.cells] at hS)) | (refine st_store hS 2 rfl _ _ _ rfl _ _ rfl rfl _ _ rfl (by kernel_rfl) (by kernel_rfl) (by kernel_rfl) ?_; clear hS; intro w_ hS; (try simp only [Act.put, Act.eval, List.set_cons_zero, List.set_cons_succ, List.setIfInBounds_toArray, Array.getD_eq_getD_getElem?, List.getElem?_toArray, List.getElem?_cons_succ, List.getElem?_cons_zero, Option.getD_some, Value.cells] at hS)) | (refine st_store hS 3 rfl _ _ _ rfl _ _ rfl rfl _ _ rfl (by kernel_rfl) (by kernel_rfl) (by kernel_rfl) ?_; clear hS; intro w_ hS; (try simp only [Act.put, Act.eval, List.set_cons_zero, List.set_cons_succ, List.setIfInBounds_toArray, Array.getD_eq_getD_getElem?, List.getElem?_toArray, List.getElem?_cons_succ, List.getElem?_cons_zero, Option.getD_some, Value.cells] at hS)) | (refine st_cstore hS 0 rfl _ _ _ rfl _ _ _ rfl rfl rfl (by first | (simp; done) | (simp; omega) | exact of_decide_eq_true (by kernel_rfl)) rfl (by first | rfl | assumption) (by kernel_rfl) ?_; clear hS; intro w_ hS; (try simp only [Act.put, Act.eval, List.set_cons_zero, List.set_cons_succ, List.setIfInBounds_toArray, Array.getD_eq_getD_getElem?, List.getElem?_toArray, List.getElem?_cons_succ, List.getElem?_cons_zero, Option.getD_some, Value.cells] at hS)) | (refine st_cstore hS 1 rfl _ _ _ rfl _ _ _ rfl rfl rfl (by first | (simp; done) | (simp; omega) | exact of_decide_eq_true (by kernel_rfl)) rfl (by first | rfl | assumption) (by kernel_rfl) ?_; clear hS; intro w_ hS; (try simp only [Act.put, Act.eval, List.set_cons_zero, List.set_cons_succ, List.setIfInBounds_toArray, Array.getD_eq_getD_getElem?, List.getElem?_toArray, List.getElem?_cons_succ, List.getElem?_cons_zero, Option.getD_some, Value.cells] at hS)) | (refine st_cstore hS 2 rfl _ _ _ rfl _ _ _ rfl rfl rfl (by first | (simp; done) | (simp; omega) | exact of_decide_eq_true (by kernel_rfl)) rfl (by first | rfl | assumption) (by kernel_rfl) ?_; clear hS; intro w_ hS; (try simp only [Act.put, Act.eval, List.set_cons_zero, List.set_cons_succ, List.setIfInBounds_toArray, Array.getD_eq_getD_getElem?, List.getElem?_toArray, List.getElem?_cons_succ, List.getElem?_cons_zero, Option.getD_some, Value.cells] at hS)) | (refine st_cstore hS 3 rfl _ _ _ rfl _ _ _ rfl rfl rfl (by first | (simp; done) | (simp; omega) | exact of_decide_eq_true (by kernel_rfl)) rfl (by first | rfl | assumption) (by kernel_rfl) ?_; clear hS; intro w_ hS; (try simp only [Act.put, Act.eval, List.set_cons_zero, List.set_cons_succ, List.setIfInBounds_toArray, Array.getD_eq_getD_getElem?, List.getElem?_toArray, List.getElem?_cons_succ, List.getElem?_cons_zero, Option.getD_some, Value.cells] at hS))))
        have KS2 := hS.stable
        have hJ0 : OJ (fun w => St w0 w [.box g4 50 #[.int .i64 (za : Nat), .int .i64 (zb : Nat)], .own vo 50 2 M.length (pcells M)] K) (fun r w => ∃ p', r = .tuple #[p', .int .i64 0] ∧ St w0 w [.box g4 50 #[.int .i64 (za : Nat), .int .i64 (zb : Nat)], .own vo 50 2 M.length (pcells M)] fun D w => K D w ∧ IsOrd w D p' 64 (unl L (za, zb))) (w_.drew, none) := OJ.start hS.drew
        have hN0 := ON.start 8 w_.drew
        obtain ⟨C, hC⟩ : ∃ C : World → Prop, C = fun w => St w0 w [.box g4 50 #[.int .i64 (za : Nat), .int .i64 (zb : Nat)], .own vo 50 2 M.length (pcells M)] K := ⟨_, rfl⟩
        obtain ⟨S, hSS⟩ : ∃ S : Value → World → Prop, S = fun r w => ∃ p', r = .tuple #[p', .int .i64 0] ∧ St w0 w [.box g4 50 #[.int .i64 (za : Nat), .int .i64 (zb : Nat)], .own vo 50 2 M.length (pcells M)] fun D w => K D w ∧ IsOrd w D p' 64 (unl L (za, zb)) := ⟨_, rfl⟩
        rw [← hC, ← hSS] at hJ0
        have HC2 := Lib.hid (fun w (h : C w) => show St w0 w [.box g4 50 #[.int .i64 (za : Nat), .int .i64 (zb : Nat)], .own vo 50 2 M.length (pcells M)] K by rw [hC] at h; exact h)
        have HC3 := Lib.hid (fun w (h : St w0 w [.box g4 50 #[.int .i64 (za : Nat), .int .i64 (zb : Nat)], .own vo 50 2 M.length (pcells M)] K) => show C w by rw [hC]; exact h)
        have HS2 := Lib.hid (fun r w (h : S r w) => show ∃ p', r = .tuple #[p', .int .i64 0] ∧ St w0 w [.box g4 50 #[.int .i64 (za : Nat), .int .i64 (zb : Nat)], .own vo 50 2 M.length (pcells M)] fun D w => K D w ∧ IsOrd w D p' 64 (unl L (za, zb)) by rw [hSS] at h; exact h)
        have HS3 := Lib.hid (fun r w (h : ∃ p', r = .tuple #[p', .int .i64 0] ∧ St w0 w [.box g4 50 #[.int .i64 (za : Nat), .int .i64 (zb : Nat)], .own vo 50 2 M.length (pcells M)] fun D w => K D w ∧ IsOrd w D p' 64 (unl L (za, zb))) => show S r w by rw [hSS]; exact h)
        clear hC hSS
        have hRr := @OR.refl C S
        have hRt := @OR.trans C S
        refine wp_region_ghost (fun i__ v w => match i__ with
          | 0 => v = .pointer (some ⟨q, 0, none⟩)
          | 1 => v = .pointer (some ⟨q, 0, none⟩)
          | 2 => v = .pointer (some ⟨q, 0, none⟩)
          | 3 => v = o
          | 4 => v = .pointer (some ⟨g4, 0, none⟩)
          | 5 => v = .int .i64 ((za : Nat) : Int)
          | 6 => v = .pointer (some ⟨g4, 1, none⟩)
          | 7 => v = .int .i64 ((zb : Nat) : Int)
          | 8 => w.2 = some v ∧ isTup2 v
          | 9 => w.2 = some v ∧ isTup2 v
          | 10 => ∃ x y : Value, w.2 = some (.tuple #[x, y]) ∧ v = x
          | 11 => ∃ x y : Value, w.2 = some (.tuple #[x, y]) ∧ v = y
          | 12 => ∃ x y : Value, w.2 = some (.tuple #[x, y]) ∧ v = x
          | 13 => ∃ x y : Value, w.2 = some (.tuple #[x, y]) ∧ v = y
          | _ => True) (OR C S) (ON 8) (none) (by kernel_rfl) (by kernel_rfl) hRr hRt ?mono ?hN ⟨?r0, ?r1, ?r2, ?r3, ?r4, ?r5, ?r6, ?r7, ?r8, ?r9, ?r10, ?r11, ?r12, ?r13, trivial⟩ ?post
        case hN => first | assumption | (intro i; (try dsimp only); split <;> first | trivial | assumption | (left; assumption))
        case mono =>
          intro i v w w' h hb
          match i, h with
          | 0, h => exact h
          | 1, h => exact h
          | 2, h => exact h
          | 3, h => exact h
          | 4, h => exact h
          | 5, h => exact h
          | 6, h => exact h
          | 7, h => exact h
          | 8, h => exact ⟨hb.2 _ h.1, h.2⟩
          | 9, h => exact ⟨hb.2 _ h.1, h.2⟩
          | 10, h => exact by obtain ⟨x, y, h1, h2⟩ := h; exact ⟨x, y, hb.2 _ h1, h2⟩
          | 11, h => exact by obtain ⟨x, y, h1, h2⟩ := h; exact ⟨x, y, hb.2 _ h1, h2⟩
          | 12, h => exact by obtain ⟨x, y, h1, h2⟩ := h; exact ⟨x, y, hb.2 _ h1, h2⟩
          | 13, h => exact by obtain ⟨x, y, h1, h2⟩ := h; exact ⟨x, y, hb.2 _ h1, h2⟩
          | _ + 14, h => trivial
        case r0 =>
          refine truleGh fun b__ w hW hN hold hpre => ⟨fun hwant K hK => ?_, fun hwant => ?_⟩
          · clear hwant
            have e0 : b__.eval (.tmp 0) = .pointer (some ⟨q, 0, none⟩) := (hold 0 (by kernel_rfl)).trans rfl
            exact opw_move rfl e0 (hK _ _ rfl ⟨hRr _, fun _ _ h => h⟩)
          · rw [want_none rfl] at hwant; cases hwant
        case r1 =>
          refine truleGh fun b__ w hW hN hold hpre => ⟨fun hwant K hK => ?_, fun hwant => ?_⟩
          · clear hwant
            have e16 : b__.eval (.tmp 16) = .pointer (some ⟨q, 0, none⟩) := hpre ⟨0, _⟩ (Array.mem_of_getElem? (i := 0) rfl) rfl _ _ rfl rfl
            exact opw_nil rfl e16 (hK _ _ rfl ⟨hRr _, fun _ _ h => h⟩)
          · rw [want_none rfl] at hwant; cases hwant
        case r2 =>
          refine truleGh fun b__ w hW hN hold hpre => ⟨fun hwant K hK => ?_, fun hwant => ?_⟩
          · clear hwant
            have e17 : b__.eval (.tmp 17) = .pointer (some ⟨q, 0, none⟩) := hpre ⟨1, _⟩ (Array.mem_of_getElem? (i := 0) rfl) rfl _ _ rfl rfl
            exact opw_faddr rfl e17 (by kernel_rfl) (hK _ _ rfl ⟨hRr _, fun _ _ h => h⟩)
          · rw [want_none rfl] at hwant; cases hwant
        case r3 =>
          refine truleGh fun b__ w hW hN hold hpre => ⟨fun hwant K hK => ?_, fun hwant => ?_⟩
          · clear hwant
            have e18 : b__.eval (.tmp 18) = .pointer (some ⟨q, 0, none⟩) := hpre ⟨2, _⟩ (Array.mem_of_getElem? (i := 0) rfl) rfl _ _ rfl rfl
            exact opw_cell rfl e18 (by kernel_rfl) ((ko _ _ (HC2.out _ (hW.1 hJ0).1).ro).1.cell 0 rfl) (hK _ _ rfl ⟨hRr _, fun _ _ h => h⟩)
          · rw [want_none rfl] at hwant; cases hwant
        case r4 =>
          refine truleGh fun b__ w hW hN hold hpre => ⟨fun hwant K hK => ?_, fun hwant => ?_⟩
          · clear hwant
            have e5 : b__.eval (.tmp 5) = .pointer (some ⟨g4, 0, none⟩) := (hold 5 (by kernel_rfl)).trans rfl
            exact opw_iaddr rfl e5 rfl (by kernel_rfl) (hK _ _ rfl ⟨hRr _, fun _ _ h => h⟩)
          · rw [want_none rfl] at hwant; cases hwant
        case r5 =>
          refine truleGh fun b__ w hW hN hold hpre => ⟨fun hwant K hK => ?_, fun hwant => ?_⟩
          · clear hwant
            have e20 : b__.eval (.tmp 20) = .pointer (some ⟨g4, 0, none⟩) := hpre ⟨4, _⟩ (Array.mem_of_getElem? (i := 0) rfl) rfl _ _ rfl rfl
            exact opw_cell rfl e20 (by kernel_rfl) ((HC2.out _ (hW.1 hJ0).1).shut 0 rfl 0 rfl) (hK _ _ rfl ⟨hRr _, fun _ _ h => h⟩)
          · rw [want_none rfl] at hwant; cases hwant
        case r6 =>
          refine truleGh fun b__ w hW hN hold hpre => ⟨fun hwant K hK => ?_, fun hwant => ?_⟩
          · clear hwant
            have e5 : b__.eval (.tmp 5) = .pointer (some ⟨g4, 0, none⟩) := (hold 5 (by kernel_rfl)).trans rfl
            exact opw_iaddr rfl e5 rfl (by kernel_rfl) (hK _ _ rfl ⟨hRr _, fun _ _ h => h⟩)
          · rw [want_none rfl] at hwant; cases hwant
        case r7 =>
          refine truleGh fun b__ w hW hN hold hpre => ⟨fun hwant K hK => ?_, fun hwant => ?_⟩
          · clear hwant
            have e22 : b__.eval (.tmp 22) = .pointer (some ⟨g4, 1, none⟩) := hpre ⟨6, _⟩ (Array.mem_of_getElem? (i := 0) rfl) rfl _ _ rfl rfl
            exact opw_cell rfl e22 (by kernel_rfl) ((HC2.out _ (hW.1 hJ0).1).shut 0 rfl 1 rfl) (hK _ _ rfl ⟨hRr _, fun _ _ h => h⟩)
          · rw [want_none rfl] at hwant; cases hwant
        case r8 =>
          refine truleGh fun b__ w hW hN hold hpre => ⟨fun hwant K hK => ?_, fun hwant => ?_⟩
          · clear hwant
            have e19 : b__.eval (.tmp 19) = o := hpre ⟨3, _⟩ (Array.mem_of_getElem? (i := 0) rfl) rfl _ _ rfl rfl
            have e21 : b__.eval (.tmp 21) = .int .i64 ((za : Nat) : Int) := hpre ⟨5, _⟩ (Array.mem_of_getElem? (i := 1) rfl) rfl _ _ rfl rfl
            have e23 : b__.eval (.tmp 23) = .int .i64 ((zb : Nat) : Int) := hpre ⟨7, _⟩ (Array.mem_of_getElem? (i := 2) rfl) rfl _ _ rfl rfl
            exact one_call isTup2 rfl (by kernel_rfl) (by simp only [List.map_cons, List.map_nil, e19, e21, e23]) (HWO.out _ _ (HC2.out _ (hW.1 hJ0).1)) hN (fun e w' h => by obtain ⟨p', rfl, h⟩ := h; exact ⟨_, rfl, HC3.out _ (h.mono KS2 fun _ _ h => h.1), HS3.out _ _ ⟨p', rfl, h⟩, _, _, rfl⟩) hK
          · rw [want_none rfl] at hwant; cases hwant
        case r9 =>
          refine truleGh fun b__ w hW hN hold hpre => ⟨fun hwant K hK => ?_, fun hwant => ?_⟩
          · clear hwant
            have e24 : (fun (v : Value) (w : World × _) => w.2 = some v ∧ isTup2 v) (b__.eval (.tmp 24)) w := hpre ⟨8, _⟩ (Array.mem_of_getElem? (i := 0) rfl) rfl _ _ rfl rfl
            exact opw_move rfl rfl (hK _ _ e24 ⟨hRr _, fun _ _ h => h⟩)
          · rw [want_none rfl] at hwant; cases hwant
        case r10 =>
          refine truleGh fun b__ w hW hN hold hpre => ⟨fun hwant K hK => ?_, fun hwant => ?_⟩
          · clear hwant
            have e15 : (fun (v : Value) (w : World × _) => w.2 = some v ∧ isTup2 v) (b__.eval (.tmp 15)) w := hpre ⟨9, _⟩ (Array.mem_of_getElem? (i := 0) rfl) rfl _ _ rfl rfl
            obtain ⟨hd, x, y, hv⟩ := e15
            rw [hv] at hd
            exact opw_extract rfl hv rfl (hK _ _ ⟨x, y, hd, rfl⟩ ⟨hRr _, fun _ _ h => h⟩)
          · rw [want_none rfl] at hwant; cases hwant
        case r11 =>
          refine truleGh fun b__ w hW hN hold hpre => ⟨fun hwant K hK => ?_, fun hwant => ?_⟩
          · clear hwant
            have e15 : (fun (v : Value) (w : World × _) => w.2 = some v ∧ isTup2 v) (b__.eval (.tmp 15)) w := hpre ⟨9, _⟩ (Array.mem_of_getElem? (i := 0) rfl) rfl _ _ rfl rfl
            obtain ⟨hd, x, y, hv⟩ := e15
            rw [hv] at hd
            exact opw_extract rfl hv rfl (hK _ _ ⟨x, y, hd, rfl⟩ ⟨hRr _, fun _ _ h => h⟩)
          · rw [want_none rfl] at hwant; cases hwant
        case r12 =>
          refine truleGh fun b__ w hW hN hold hpre => ⟨fun hwant K hK => ?_, fun hwant => ?_⟩
          · clear hwant
            have e25 : (fun (v : Value) (w : World × _) => ∃ x y : Value, w.2 = some (.tuple #[x, y]) ∧ v = x) (b__.eval (.tmp 25)) w := hpre ⟨10, _⟩ (Array.mem_of_getElem? (i := 0) rfl) rfl _ _ rfl rfl
            exact opw_assign rfl rfl (hK _ _ e25 ⟨hRr _, fun _ _ h => h⟩)
          · rw [want_none rfl] at hwant; cases hwant
        case r13 =>
          refine truleGh fun b__ w hW hN hold hpre => ⟨fun hwant K hK => ?_, fun hwant => ?_⟩
          · clear hwant
            have e26 : (fun (v : Value) (w : World × _) => ∃ x y : Value, w.2 = some (.tuple #[x, y]) ∧ v = y) (b__.eval (.tmp 26)) w := hpre ⟨11, _⟩ (Array.mem_of_getElem? (i := 0) rfl) rfl _ _ rfl rfl
            exact opw_assign rfl rfl (hK _ _ e26 ⟨hRr _, fun _ _ h => h⟩)
          · rw [want_none rfl] at hwant; cases hwant
        case post =>
          intro b__ wz hW hdf hsz hold hT hZ
          have e16 : b__.eval (.tmp 16) = .pointer (some ⟨q, 0, none⟩) := hT 0 _ 16 rfl rfl
          have e17 : b__.eval (.tmp 17) = .pointer (some ⟨q, 0, none⟩) := hT 1 _ 17 rfl rfl
          have e18 : b__.eval (.tmp 18) = .pointer (some ⟨q, 0, none⟩) := hT 2 _ 18 rfl rfl
          have e19 : b__.eval (.tmp 19) = o := hT 3 _ 19 rfl rfl
          have e20 : b__.eval (.tmp 20) = .pointer (some ⟨g4, 0, none⟩) := hT 4 _ 20 rfl rfl
          have e21 : b__.eval (.tmp 21) = .int .i64 ((za : Nat) : Int) := hT 5 _ 21 rfl rfl
          have e22 : b__.eval (.tmp 22) = .pointer (some ⟨g4, 1, none⟩) := hT 6 _ 22 rfl rfl
          have e23 : b__.eval (.tmp 23) = .int .i64 ((zb : Nat) : Int) := hT 7 _ 23 rfl rfl
          have e24 : (fun (v : Value) (w : World × _) => w.2 = some v ∧ isTup2 v) (b__.eval (.tmp 24)) wz := hT 8 _ 24 rfl rfl
          have e15 : (fun (v : Value) (w : World × _) => w.2 = some v ∧ isTup2 v) (b__.eval (.tmp 15)) wz := hT 9 _ 15 rfl rfl
          have e25 : (fun (v : Value) (w : World × _) => ∃ x y : Value, w.2 = some (.tuple #[x, y]) ∧ v = x) (b__.eval (.tmp 25)) wz := hT 10 _ 25 rfl rfl
          have e26 : (fun (v : Value) (w : World × _) => ∃ x y : Value, w.2 = some (.tuple #[x, y]) ∧ v = y) (b__.eval (.tmp 26)) wz := hT 11 _ 26 rfl rfl
          have e6 : (fun (v : Value) (w : World × _) => ∃ x y : Value, w.2 = some (.tuple #[x, y]) ∧ v = x) (b__.eval (.tmp 6)) wz := hT 12 _ 6 rfl rfl
          have e7 : (fun (v : Value) (w : World × _) => ∃ x y : Value, w.2 = some (.tuple #[x, y]) ∧ v = y) (b__.eval (.tmp 7)) wz := hT 13 _ 7 rfl rfl
          obtain ⟨vs, hvs, hb⟩ := frame_of hdf hsz hold
          replace e16 : vs 16 = .pointer (some ⟨q, 0, none⟩) := (hvs 16).symm.trans e16
          replace e17 : vs 17 = .pointer (some ⟨q, 0, none⟩) := (hvs 17).symm.trans e17
          replace e18 : vs 18 = .pointer (some ⟨q, 0, none⟩) := (hvs 18).symm.trans e18
          replace e19 : vs 19 = o := (hvs 19).symm.trans e19
          replace e20 : vs 20 = .pointer (some ⟨g4, 0, none⟩) := (hvs 20).symm.trans e20
          replace e21 : vs 21 = .int .i64 ((za : Nat) : Int) := (hvs 21).symm.trans e21
          replace e22 : vs 22 = .pointer (some ⟨g4, 1, none⟩) := (hvs 22).symm.trans e22
          replace e23 : vs 23 = .int .i64 ((zb : Nat) : Int) := (hvs 23).symm.trans e23
          replace e24 := (hvs 24) ▸ e24
          replace e15 := (hvs 15) ▸ e15
          replace e25 := (hvs 25) ▸ e25
          replace e26 := (hvs 26) ▸ e26
          replace e6 := (hvs 6) ▸ e6
          replace e7 := (hvs 7) ▸ e7
          subst hb
          clear hvs hold hT hdf hsz
          simp only [setAll, Act.put, List.setIfInBounds_toArray, List.set_cons_zero, List.set_cons_succ, List.getElem_toArray, List.getElem_cons_succ, List.getElem_cons_zero]
          obtain ⟨x1, y1, d1, e6⟩ := e6
          obtain ⟨x2, y2, d2, e7⟩ := e7
          rw [d1] at d2
          obtain ⟨rfl, rfl⟩ : x1 = x2 ∧ y1 = y2 := by simpa using d2
          obtain ⟨p', hp, hS⟩ := HS2.out _ _ ((hW.1 hJ0).2 _ d1)
          obtain ⟨rfl, rfl⟩ : x1 = p' ∧ y1 = .int .i64 0 := by simpa using hp
          rw [e6, e7]
          generalize wz.1 = wf at *
          clear hJ0 hRr hRt hW hZ hN0 d1 d2 e6 e7 hp HC2 HC3 HS2 HS3
          have hIO := Lib.hid (fun (w : World) (h : K (Free [.box g4 50 #[.int .i64 (za : Nat), .int .i64 (zb : Nat)], .own vo 50 2 M.length (pcells M)]) w ∧ IsOrd w (Free [.box g4 50 #[.int .i64 (za : Nat), .int .i64 (zb : Nat)], .own vo 50 2 M.length (pcells M)]) x1 64 (unl L (za, zb))) => oless_any h.2 HU.out (zb : Nat) (za : Nat))
          go_wp2_with (first
            | ((with_reducible show wpList _ _ _ (⟨_, .binOp _ _ _ _ _, _, _, _, _⟩ :: _) _ _); (first | ((with_reducible show wpList _ _ _ (⟨_, .binOp .lss _ _ _ _, _, _, _, _⟩ :: _) _ _); refine st_lss rfl _ _ _ _ rfl _ _ _ rfl rfl (fun h_ => ?_) (fun h_ => ?_)) | ((with_reducible show wpList _ _ _ (⟨_, .binOp .leq _ _ _ _, _, _, _, _⟩ :: _) _ _); refine st_leq rfl _ _ _ _ rfl _ _ _ rfl rfl (fun h_ => ?_) (fun h_ => ?_)) | ((with_reducible show wpList _ _ _ (⟨_, .binOp .gtr _ _ _ _, _, _, _, _⟩ :: _) _ _); refine st_gtr rfl _ _ _ _ rfl _ _ _ rfl rfl (fun h_ => ?_) (fun h_ => ?_)) | ((with_reducible show wpList _ _ _ (⟨_, .binOp .geq _ _ _ _, _, _, _, _⟩ :: _) _ _); refine st_geq rfl _ _ _ _ rfl _ _ _ rfl rfl (fun h_ => ?_) (fun h_ => ?_)) | ((with_reducible show wpList _ _ _ (⟨_, .binOp .eql _ _ _ _, _, _, _, _⟩ :: _) _ _); refine st_eql rfl _ _ _ _ rfl _ _ _ rfl rfl (fun h_ => ?_) (fun h_ => ?_)) | ((with_reducible show wpList _ _ _ (⟨_, .binOp .neq _ _ _ _, _, _, _, _⟩ :: _) _ _); refine st_neq rfl _ _ _ _ rfl _ _ _ rfl rfl (fun h_ => ?_) (fun h_ => ?_))) <;> go_prune)
            | (go_at_call 56; refine (hIO.out _ hS.ro).mono ?_; rintro r_ w_ ⟨_, rfl, ⟨c, rfl, hc⟩, hb_⟩; obtain rfl := HCB.out c hc; clear hc; replace hS := hS.ext hb_; clear hb_)
            | ((with_reducible show wpList _ _ _ (⟨_, .load _ _, _, _, _, _⟩ :: _) _ _); first | refine st_load hS 0 rfl _ _ rfl _ rfl _ _ rfl _ Tryd.underlying50 rfl (by kernel_rfl) ?_ | refine st_load hS 1 rfl _ _ rfl _ rfl _ _ rfl _ Tryd.underlying50 rfl (by kernel_rfl) ?_ | refine st_load hS 2 rfl _ _ rfl _ rfl _ _ rfl _ Tryd.underlying50 rfl (by kernel_rfl) ?_ | refine st_load hS 3 rfl _ _ rfl _ rfl _ _ rfl _ Tryd.underlying50 rfl (by kernel_rfl) ?_)
            | ((with_reducible show wpList _ _ _ (⟨_, .buildSlice _ 1 _, _, _, _, _⟩ :: _) _ _); refine st_push hS 1 rfl rfl _ _ _ _ rfl rfl ty_pairs _ _ _ (.agg #[.int .i64 (za : Nat), .int .i64 (zb : Nat)]) #[.int .i64 (za : Nat), .int .i64 (zb : Nat)] rfl (by kernel_rfl) rfl rfl rfl rfl (by intro u hu; simp at hu; first | (subst hu; rfl) | (rcases hu with rfl | rfl <;> rfl)) (by omega) (by omega) ?_; clear hS; intro z_ v_ w_ hS; (try simp only [Act.put, Act.eval, List.set_cons_zero, List.set_cons_succ, List.setIfInBounds_toArray, Array.getD_eq_getD_getElem?, List.getElem?_toArray, List.getElem?_cons_succ, List.getElem?_cons_zero, Option.getD_some, Value.cells] at hS))
            | ((with_reducible show wpList _ _ _ (⟨_, .load _ _, _, _, _, _⟩ :: _) _ _); first | (refine st_cell hS 0 rfl _ _ rfl _ _ rfl _ _ rfl (by decide +kernel) _ (by first | assumption | rfl) ?_) | (refine st_cell hS 1 rfl _ _ rfl _ _ rfl _ _ rfl (by decide +kernel) _ (by first | assumption | rfl) ?_) | (refine st_cell hS 2 rfl _ _ rfl _ _ rfl _ _ rfl (by decide +kernel) _ (by first | assumption | rfl) ?_) | (refine st_cell hS 3 rfl _ _ rfl _ _ rfl _ _ rfl (by decide +kernel) _ (by first | assumption | rfl) ?_) | (refine st_cell hS 4 rfl _ _ rfl _ _ rfl _ _ rfl (by decide +kernel) _ (by first | assumption | rfl) ?_) | (refine st_cell hS 5 rfl _ _ rfl _ _ rfl _ _ rfl (by decide +kernel) _ (by first | assumption | rfl) ?_) | (refine st_cell hS 6 rfl _ _ rfl _ _ rfl _ _ rfl (by decide +kernel) _ (by first | assumption | rfl) ?_) | (refine st_cell hS 7 rfl _ _ rfl _ _ rfl _ _ rfl (by decide +kernel) _ (by first | assumption | rfl) ?_)))
          refine ⟨⟨j + 1, _, by go_num, rfl, hlj, ?_⟩, by simp [intOf]; omega⟩
          have e : pcells (M ++ [(za, zb)]) = pcells M ++ [.int .i64 (za : Nat), .int .i64 (zb : Nat)] := pcells_app M [(za, zb)]
          rw [HE.out, e, List.length_append]
          exact (hS.sub (List.sublist_cons_self _ _)).mono KS fun _ _ h => h.1
      · have HE := Lib.hid (HST.out.trans (if_neg hz))
        have HCB : Hid (∀ c : Bool, (c = true ↔ ∃ i j : Nat, (z.2 : Int) = (i : Int) ∧ (z.1 : Int) = (j : Int) ∧ TC (unl L z) j i) → c = false) := Lib.hid fun c hc => by
          cases c with
          | false => rfl
          | true =>
            obtain ⟨i, j, h1, h2, h3⟩ := hc.1 rfl
            obtain rfl : z.2 = i := by omega
            obtain rfl : z.1 = j := by omega
            exact absurd h3 hz
        obtain ⟨za, zb⟩ := z
        dsimp only at f1 f2 HWO HCB
        clear hz HST
        go_wp2_with (first
          | ((with_reducible show wpList _ _ _ (⟨_, .binOp _ _ _ _ _, _, _, _, _⟩ :: _) _ _); (first | ((with_reducible show wpList _ _ _ (⟨_, .binOp .lss _ _ _ _, _, _, _, _⟩ :: _) _ _); refine st_lss rfl _ _ _ _ rfl _ _ _ rfl rfl (fun h_ => ?_) (fun h_ => ?_)) | ((with_reducible show wpList _ _ _ (⟨_, .binOp .leq _ _ _ _, _, _, _, _⟩ :: _) _ _); refine st_leq rfl _ _ _ _ rfl _ _ _ rfl rfl (fun h_ => ?_) (fun h_ => ?_)) | ((with_reducible show wpList _ _ _ (⟨_, .binOp .gtr _ _ _ _, _, _, _, _⟩ :: _) _ _); refine st_gtr rfl _ _ _ _ rfl _ _ _ rfl rfl (fun h_ => ?_) (fun h_ => ?_)) | ((with_reducible show wpList _ _ _ (⟨_, .binOp .geq _ _ _ _, _, _, _, _⟩ :: _) _ _); refine st_geq rfl _ _ _ _ rfl _ _ _ rfl rfl (fun h_ => ?_) (fun h_ => ?_)) | ((with_reducible show wpList _ _ _ (⟨_, .binOp .eql _ _ _ _, _, _, _, _⟩ :: _) _ _); refine st_eql rfl _ _ _ _ rfl _ _ _ rfl rfl (fun h_ => ?_) (fun h_ => ?_)) | ((with_reducible show wpList _ _ _ (⟨_, .binOp .neq _ _ _ _, _, _, _, _⟩ :: _) _ _); refine st_neq rfl _ _ _ _ rfl _ _ _ rfl rfl (fun h_ => ?_) (fun h_ => ?_))) <;> go_prune)
          | ((with_reducible show wpList _ _ _ (⟨_, .indexAddr _ _ _, _, _, _, _⟩ :: _) _ _); refine st_iaddr2 hS rfl _ _ _ rfl _ rfl rfl (by assumption) Tryd.underlying25 (by kernel_rfl) (by first | assumption | omega) _ _ (by assumption) (by assumption) ?_; intro b_ j_ hc0_ hc1_)
          | ((with_reducible show wpList _ _ _ (⟨some 5, _, _, _, _, _⟩ :: _) _ _); refine st_alloc hS rfl _ rfl (by kernel_rfl) ?_; clear hS; intro g4 w_ hS; (try simp only [Act.put, Act.eval, List.set_cons_zero, List.set_cons_succ, List.setIfInBounds_toArray, Array.getD_eq_getD_getElem?, List.getElem?_toArray, List.getElem?_cons_succ, List.getElem?_cons_zero, Option.getD_some, Value.cells] at hS))
          | ((with_reducible show wpList _ _ _ (⟨_, .store _ _ _, _, _, _, _⟩ :: _) _ _); first | (refine st_store hS 0 rfl _ _ _ rfl _ _ rfl rfl _ _ rfl (by kernel_rfl) (by kernel_rfl) (by kernel_rfl) ?_; clear hS; intro w_ hS; (try simp only [Act.put, Act.eval, List.set_cons_zero, List.set_cons_succ, List.setIfInBounds_toArray, Array.getD_eq_getD_getElem?, List.getElem?_toArray, List.getElem?_cons_succ, List.getElem?_cons_zero, Option.getD_some, Value.cells] at hS)) | (refine st_store hS 1 rfl _ _ _ rfl _ _ rfl rfl _ _ rfl (by kernel_rfl) (by kernel_rfl) (by kernel_rfl) ?_; clear hS; intro w_ hS; (try simp only [Act.put, Act.eval, List.set_cons_zero, List.set_cons_succ, List.setIfInBounds_toArray, Array.getD_eq_getD_getElem?, List.getElem?_toArray, List.getElem?_cons_succ, List.getElem?_cons_zero, Option.getD_some, Value.cells] at hS)) | (refine st_store hS 2 rfl _ _ _ rfl _ _ rfl rfl _ _ rfl (by kernel_rfl) (by kernel_rfl) (by kernel_rfl) ?_; clear hS; intro w_ hS; (try simp only [Act.put, Act.eval, List.set_cons_zero, List.set_cons_succ, List.setIfInBounds_toArray, Array.getD_eq_getD_getElem?, List.getElem?_toArray, List.getElem?_cons_succ, List.getElem?_cons_zero, Option.getD_some, Value.cells] at hS)) | (refine st_store hS 3 rfl _ _ _ rfl _ _ rfl rfl _ _ rfl (by kernel_rfl) (by kernel_rfl) (by kernel_rfl) ?_; clear hS; intro w_ hS; (try simp only [Act.put, Act.eval, List.set_cons_zero, List.set_cons_succ, List.setIfInBounds_toArray, Array.getD_eq_getD_getElem?, List.getElem?_toArray, List.getElem?_cons_succ, List.getElem?_cons_zero, Option.getD_some, Value.cells] at hS)) | (refine st_cstore hS 0 rfl _ _ _ rfl _ _ _ rfl rfl rfl (by first | (simp; done) | (simp; omega) | exact of_decide_eq_true (by kernel_rfl)) rfl (by first | rfl | assumption) (by kernel_rfl) ?_; clear hS; intro w_ hS; (try simp only [Act.put, Act.eval, List.set_cons_zero, List.set_cons_succ, List.setIfInBounds_toArray, Array.getD_eq_getD_getElem?, List.getElem?_toArray, List.getElem?_cons_succ, List.getElem?_cons_zero, Option.getD_some, Value.cells] at hS)) | (refine st_cstore hS 1 rfl _ _ _ rfl _ _ _ rfl rfl rfl (by first | (simp; done) | (simp; omega) | exact of_decide_eq_true (by kernel_rfl)) rfl (by first | rfl | assumption) (by kernel_rfl) ?_; clear hS; intro w_ hS; (try simp only [Act.put, Act.eval, List.set_cons_zero, List.set_cons_succ, List.setIfInBounds_toArray, Array.getD_eq_getD_getElem?, List.getElem?_toArray, List.getElem?_cons_succ, List.getElem?_cons_zero, Option.getD_some, Value.cells] at hS)) | (refine st_cstore hS 2 rfl _ _ _ rfl _ _ _ rfl rfl rfl (by first | (simp; done) | (simp; omega) | exact of_decide_eq_true (by kernel_rfl)) rfl (by first | rfl | assumption) (by kernel_rfl) ?_; clear hS; intro w_ hS; (try simp only [Act.put, Act.eval, List.set_cons_zero, List.set_cons_succ, List.setIfInBounds_toArray, Array.getD_eq_getD_getElem?, List.getElem?_toArray, List.getElem?_cons_succ, List.getElem?_cons_zero, Option.getD_some, Value.cells] at hS)) | (refine st_cstore hS 3 rfl _ _ _ rfl _ _ _ rfl rfl rfl (by first | (simp; done) | (simp; omega) | exact of_decide_eq_true (by kernel_rfl)) rfl (by first | rfl | assumption) (by kernel_rfl) ?_; clear hS; intro w_ hS; (try simp only [Act.put, Act.eval, List.set_cons_zero, List.set_cons_succ, List.setIfInBounds_toArray, Array.getD_eq_getD_getElem?, List.getElem?_toArray, List.getElem?_cons_succ, List.getElem?_cons_zero, Option.getD_some, Value.cells] at hS))))
        have KS2 := hS.stable
        have hJ0 : OJ (fun w => St w0 w [.box g4 50 #[.int .i64 (za : Nat), .int .i64 (zb : Nat)], .own vo 50 2 M.length (pcells M)] K) (fun r w => ∃ p', r = .tuple #[p', .int .i64 0] ∧ St w0 w [.box g4 50 #[.int .i64 (za : Nat), .int .i64 (zb : Nat)], .own vo 50 2 M.length (pcells M)] fun D w => K D w ∧ IsOrd w D p' 64 (unl L (za, zb))) (w_.drew, none) := OJ.start hS.drew
        have hN0 := ON.start 8 w_.drew
        obtain ⟨C, hC⟩ : ∃ C : World → Prop, C = fun w => St w0 w [.box g4 50 #[.int .i64 (za : Nat), .int .i64 (zb : Nat)], .own vo 50 2 M.length (pcells M)] K := ⟨_, rfl⟩
        obtain ⟨S, hSS⟩ : ∃ S : Value → World → Prop, S = fun r w => ∃ p', r = .tuple #[p', .int .i64 0] ∧ St w0 w [.box g4 50 #[.int .i64 (za : Nat), .int .i64 (zb : Nat)], .own vo 50 2 M.length (pcells M)] fun D w => K D w ∧ IsOrd w D p' 64 (unl L (za, zb)) := ⟨_, rfl⟩
        rw [← hC, ← hSS] at hJ0
        have HC2 := Lib.hid (fun w (h : C w) => show St w0 w [.box g4 50 #[.int .i64 (za : Nat), .int .i64 (zb : Nat)], .own vo 50 2 M.length (pcells M)] K by rw [hC] at h; exact h)
        have HC3 := Lib.hid (fun w (h : St w0 w [.box g4 50 #[.int .i64 (za : Nat), .int .i64 (zb : Nat)], .own vo 50 2 M.length (pcells M)] K) => show C w by rw [hC]; exact h)
        have HS2 := Lib.hid (fun r w (h : S r w) => show ∃ p', r = .tuple #[p', .int .i64 0] ∧ St w0 w [.box g4 50 #[.int .i64 (za : Nat), .int .i64 (zb : Nat)], .own vo 50 2 M.length (pcells M)] fun D w => K D w ∧ IsOrd w D p' 64 (unl L (za, zb)) by rw [hSS] at h; exact h)
        have HS3 := Lib.hid (fun r w (h : ∃ p', r = .tuple #[p', .int .i64 0] ∧ St w0 w [.box g4 50 #[.int .i64 (za : Nat), .int .i64 (zb : Nat)], .own vo 50 2 M.length (pcells M)] fun D w => K D w ∧ IsOrd w D p' 64 (unl L (za, zb))) => show S r w by rw [hSS]; exact h)
        clear hC hSS
        have hRr := @OR.refl C S
        have hRt := @OR.trans C S
        refine wp_region_ghost (fun i__ v w => match i__ with
          | 0 => v = .pointer (some ⟨q, 0, none⟩)
          | 1 => v = .pointer (some ⟨q, 0, none⟩)
          | 2 => v = .pointer (some ⟨q, 0, none⟩)
          | 3 => v = o
          | 4 => v = .pointer (some ⟨g4, 0, none⟩)
          | 5 => v = .int .i64 ((za : Nat) : Int)
          | 6 => v = .pointer (some ⟨g4, 1, none⟩)
          | 7 => v = .int .i64 ((zb : Nat) : Int)
          | 8 => w.2 = some v ∧ isTup2 v
          | 9 => w.2 = some v ∧ isTup2 v
          | 10 => ∃ x y : Value, w.2 = some (.tuple #[x, y]) ∧ v = x
          | 11 => ∃ x y : Value, w.2 = some (.tuple #[x, y]) ∧ v = y
          | 12 => ∃ x y : Value, w.2 = some (.tuple #[x, y]) ∧ v = x
          | 13 => ∃ x y : Value, w.2 = some (.tuple #[x, y]) ∧ v = y
          | _ => True) (OR C S) (ON 8) (none) (by kernel_rfl) (by kernel_rfl) hRr hRt ?mono ?hN ⟨?r0, ?r1, ?r2, ?r3, ?r4, ?r5, ?r6, ?r7, ?r8, ?r9, ?r10, ?r11, ?r12, ?r13, trivial⟩ ?post
        case hN => first | assumption | (intro i; (try dsimp only); split <;> first | trivial | assumption | (left; assumption))
        case mono =>
          intro i v w w' h hb
          match i, h with
          | 0, h => exact h
          | 1, h => exact h
          | 2, h => exact h
          | 3, h => exact h
          | 4, h => exact h
          | 5, h => exact h
          | 6, h => exact h
          | 7, h => exact h
          | 8, h => exact ⟨hb.2 _ h.1, h.2⟩
          | 9, h => exact ⟨hb.2 _ h.1, h.2⟩
          | 10, h => exact by obtain ⟨x, y, h1, h2⟩ := h; exact ⟨x, y, hb.2 _ h1, h2⟩
          | 11, h => exact by obtain ⟨x, y, h1, h2⟩ := h; exact ⟨x, y, hb.2 _ h1, h2⟩
          | 12, h => exact by obtain ⟨x, y, h1, h2⟩ := h; exact ⟨x, y, hb.2 _ h1, h2⟩
          | 13, h => exact by obtain ⟨x, y, h1, h2⟩ := h; exact ⟨x, y, hb.2 _ h1, h2⟩
          | _ + 14, h => trivial
        case r0 =>
          refine truleGh fun b__ w hW hN hold hpre => ⟨fun hwant K hK => ?_, fun hwant => ?_⟩
          · clear hwant
            have e0 : b__.eval (.tmp 0) = .pointer (some ⟨q, 0, none⟩) := (hold 0 (by kernel_rfl)).trans rfl
            exact opw_move rfl e0 (hK _ _ rfl ⟨hRr _, fun _ _ h => h⟩)
          · rw [want_none rfl] at hwant; cases hwant
        case r1 =>
          refine truleGh fun b__ w hW hN hold hpre => ⟨fun hwant K hK => ?_, fun hwant => ?_⟩
          · clear hwant
            have e16 : b__.eval (.tmp 16) = .pointer (some ⟨q, 0, none⟩) := hpre ⟨0, _⟩ (Array.mem_of_getElem? (i := 0) rfl) rfl _ _ rfl rfl
            exact opw_nil rfl e16 (hK _ _ rfl ⟨hRr _, fun _ _ h => h⟩)
          · rw [want_none rfl] at hwant; cases hwant
        case r2 =>
          refine truleGh fun b__ w hW hN hold hpre => ⟨fun hwant K hK => ?_, fun hwant => ?_⟩
          · clear hwant
            have e17 : b__.eval (.tmp 17) = .pointer (some ⟨q, 0, none⟩) := hpre ⟨1, _⟩ (Array.mem_of_getElem? (i := 0) rfl) rfl _ _ rfl rfl
            exact opw_faddr rfl e17 (by kernel_rfl) (hK _ _ rfl ⟨hRr _, fun _ _ h => h⟩)
          · rw [want_none rfl] at hwant; cases hwant
        case r3 =>
          refine truleGh fun b__ w hW hN hold hpre => ⟨fun hwant K hK => ?_, fun hwant => ?_⟩
          · clear hwant
            have e18 : b__.eval (.tmp 18) = .pointer (some ⟨q, 0, none⟩) := hpre ⟨2, _⟩ (Array.mem_of_getElem? (i := 0) rfl) rfl _ _ rfl rfl
            exact opw_cell rfl e18 (by kernel_rfl) ((ko _ _ (HC2.out _ (hW.1 hJ0).1).ro).1.cell 0 rfl) (hK _ _ rfl ⟨hRr _, fun _ _ h => h⟩)
          · rw [want_none rfl] at hwant; cases hwant
        case r4 =>
          refine truleGh fun b__ w hW hN hold hpre => ⟨fun hwant K hK => ?_, fun hwant => ?_⟩
          · clear hwant
            have e5 : b__.eval (.tmp 5) = .pointer (some ⟨g4, 0, none⟩) := (hold 5 (by kernel_rfl)).trans rfl
            exact opw_iaddr rfl e5 rfl (by kernel_rfl) (hK _ _ rfl ⟨hRr _, fun _ _ h => h⟩)
          · rw [want_none rfl] at hwant; cases hwant
        case r5 =>
          refine truleGh fun b__ w hW hN hold hpre => ⟨fun hwant K hK => ?_, fun hwant => ?_⟩
          · clear hwant
            have e20 : b__.eval (.tmp 20) = .pointer (some ⟨g4, 0, none⟩) := hpre ⟨4, _⟩ (Array.mem_of_getElem? (i := 0) rfl) rfl _ _ rfl rfl
            exact opw_cell rfl e20 (by kernel_rfl) ((HC2.out _ (hW.1 hJ0).1).shut 0 rfl 0 rfl) (hK _ _ rfl ⟨hRr _, fun _ _ h => h⟩)
          · rw [want_none rfl] at hwant; cases hwant
        case r6 =>
          refine truleGh fun b__ w hW hN hold hpre => ⟨fun hwant K hK => ?_, fun hwant => ?_⟩
          · clear hwant
            have e5 : b__.eval (.tmp 5) = .pointer (some ⟨g4, 0, none⟩) := (hold 5 (by kernel_rfl)).trans rfl
            exact opw_iaddr rfl e5 rfl (by kernel_rfl) (hK _ _ rfl ⟨hRr _, fun _ _ h => h⟩)
          · rw [want_none rfl] at hwant; cases hwant
        case r7 =>
          refine truleGh fun b__ w hW hN hold hpre => ⟨fun hwant K hK => ?_, fun hwant => ?_⟩
          · clear hwant
            have e22 : b__.eval (.tmp 22) = .pointer (some ⟨g4, 1, none⟩) := hpre ⟨6, _⟩ (Array.mem_of_getElem? (i := 0) rfl) rfl _ _ rfl rfl
            exact opw_cell rfl e22 (by kernel_rfl) ((HC2.out _ (hW.1 hJ0).1).shut 0 rfl 1 rfl) (hK _ _ rfl ⟨hRr _, fun _ _ h => h⟩)
          · rw [want_none rfl] at hwant; cases hwant
        case r8 =>
          refine truleGh fun b__ w hW hN hold hpre => ⟨fun hwant K hK => ?_, fun hwant => ?_⟩
          · clear hwant
            have e19 : b__.eval (.tmp 19) = o := hpre ⟨3, _⟩ (Array.mem_of_getElem? (i := 0) rfl) rfl _ _ rfl rfl
            have e21 : b__.eval (.tmp 21) = .int .i64 ((za : Nat) : Int) := hpre ⟨5, _⟩ (Array.mem_of_getElem? (i := 1) rfl) rfl _ _ rfl rfl
            have e23 : b__.eval (.tmp 23) = .int .i64 ((zb : Nat) : Int) := hpre ⟨7, _⟩ (Array.mem_of_getElem? (i := 2) rfl) rfl _ _ rfl rfl
            exact one_call isTup2 rfl (by kernel_rfl) (by simp only [List.map_cons, List.map_nil, e19, e21, e23]) (HWO.out _ _ (HC2.out _ (hW.1 hJ0).1)) hN (fun e w' h => by obtain ⟨p', rfl, h⟩ := h; exact ⟨_, rfl, HC3.out _ (h.mono KS2 fun _ _ h => h.1), HS3.out _ _ ⟨p', rfl, h⟩, _, _, rfl⟩) hK
          · rw [want_none rfl] at hwant; cases hwant
        case r9 =>
          refine truleGh fun b__ w hW hN hold hpre => ⟨fun hwant K hK => ?_, fun hwant => ?_⟩
          · clear hwant
            have e24 : (fun (v : Value) (w : World × _) => w.2 = some v ∧ isTup2 v) (b__.eval (.tmp 24)) w := hpre ⟨8, _⟩ (Array.mem_of_getElem? (i := 0) rfl) rfl _ _ rfl rfl
            exact opw_move rfl rfl (hK _ _ e24 ⟨hRr _, fun _ _ h => h⟩)
          · rw [want_none rfl] at hwant; cases hwant
        case r10 =>
          refine truleGh fun b__ w hW hN hold hpre => ⟨fun hwant K hK => ?_, fun hwant => ?_⟩
          · clear hwant
            have e15 : (fun (v : Value) (w : World × _) => w.2 = some v ∧ isTup2 v) (b__.eval (.tmp 15)) w := hpre ⟨9, _⟩ (Array.mem_of_getElem? (i := 0) rfl) rfl _ _ rfl rfl
            obtain ⟨hd, x, y, hv⟩ := e15
            rw [hv] at hd
            exact opw_extract rfl hv rfl (hK _ _ ⟨x, y, hd, rfl⟩ ⟨hRr _, fun _ _ h => h⟩)
          · rw [want_none rfl] at hwant; cases hwant
        case r11 =>
          refine truleGh fun b__ w hW hN hold hpre => ⟨fun hwant K hK => ?_, fun hwant => ?_⟩
          · clear hwant
            have e15 : (fun (v : Value) (w : World × _) => w.2 = some v ∧ isTup2 v) (b__.eval (.tmp 15)) w := hpre ⟨9, _⟩ (Array.mem_of_getElem? (i := 0) rfl) rfl _ _ rfl rfl
            obtain ⟨hd, x, y, hv⟩ := e15
            rw [hv] at hd
            exact opw_extract rfl hv rfl (hK _ _ ⟨x, y, hd, rfl⟩ ⟨hRr _, fun _ _ h => h⟩)
          · rw [want_none rfl] at hwant; cases hwant
        case r12 =>
          refine truleGh fun b__ w hW hN hold hpre => ⟨fun hwant K hK => ?_, fun hwant => ?_⟩
          · clear hwant
            have e25 : (fun (v : Value) (w : World × _) => ∃ x y : Value, w.2 = some (.tuple #[x, y]) ∧ v = x) (b__.eval (.tmp 25)) w := hpre ⟨10, _⟩ (Array.mem_of_getElem? (i := 0) rfl) rfl _ _ rfl rfl
            exact opw_assign rfl rfl (hK _ _ e25 ⟨hRr _, fun _ _ h => h⟩)
          · rw [want_none rfl] at hwant; cases hwant
        case r13 =>
          refine truleGh fun b__ w hW hN hold hpre => ⟨fun hwant K hK => ?_, fun hwant => ?_⟩
          · clear hwant
            have e26 : (fun (v : Value) (w : World × _) => ∃ x y : Value, w.2 = some (.tuple #[x, y]) ∧ v = y) (b__.eval (.tmp 26)) w := hpre ⟨11, _⟩ (Array.mem_of_getElem? (i := 0) rfl) rfl _ _ rfl rfl
            exact opw_assign rfl rfl (hK _ _ e26 ⟨hRr _, fun _ _ h => h⟩)
          · rw [want_none rfl] at hwant; cases hwant
        case post =>
          intro b__ wz hW hdf hsz hold hT hZ
          have e16 : b__.eval (.tmp 16) = .pointer (some ⟨q, 0, none⟩) := hT 0 _ 16 rfl rfl
          have e17 : b__.eval (.tmp 17) = .pointer (some ⟨q, 0, none⟩) := hT 1 _ 17 rfl rfl
          have e18 : b__.eval (.tmp 18) = .pointer (some ⟨q, 0, none⟩) := hT 2 _ 18 rfl rfl
          have e19 : b__.eval (.tmp 19) = o := hT 3 _ 19 rfl rfl
          have e20 : b__.eval (.tmp 20) = .pointer (some ⟨g4, 0, none⟩) := hT 4 _ 20 rfl rfl
          have e21 : b__.eval (.tmp 21) = .int .i64 ((za : Nat) : Int) := hT 5 _ 21 rfl rfl
          have e22 : b__.eval (.tmp 22) = .pointer (some ⟨g4, 1, none⟩) := hT 6 _ 22 rfl rfl
          have e23 : b__.eval (.tmp 23) = .int .i64 ((zb : Nat) : Int) := hT 7 _ 23 rfl rfl
          have e24 : (fun (v : Value) (w : World × _) => w.2 = some v ∧ isTup2 v) (b__.eval (.tmp 24)) wz := hT 8 _ 24 rfl rfl
          have e15 : (fun (v : Value) (w : World × _) => w.2 = some v ∧ isTup2 v) (b__.eval (.tmp 15)) wz := hT 9 _ 15 rfl rfl
          have e25 : (fun (v : Value) (w : World × _) => ∃ x y : Value, w.2 = some (.tuple #[x, y]) ∧ v = x) (b__.eval (.tmp 25)) wz := hT 10 _ 25 rfl rfl
          have e26 : (fun (v : Value) (w : World × _) => ∃ x y : Value, w.2 = some (.tuple #[x, y]) ∧ v = y) (b__.eval (.tmp 26)) wz := hT 11 _ 26 rfl rfl
          have e6 : (fun (v : Value) (w : World × _) => ∃ x y : Value, w.2 = some (.tuple #[x, y]) ∧ v = x) (b__.eval (.tmp 6)) wz := hT 12 _ 6 rfl rfl
          have e7 : (fun (v : Value) (w : World × _) => ∃ x y : Value, w.2 = some (.tuple #[x, y]) ∧ v = y) (b__.eval (.tmp 7)) wz := hT 13 _ 7 rfl rfl
          obtain ⟨vs, hvs, hb⟩ := frame_of hdf hsz hold
          replace e16 : vs 16 = .pointer (some ⟨q, 0, none⟩) := (hvs 16).symm.trans e16
          replace e17 : vs 17 = .pointer (some ⟨q, 0, none⟩) := (hvs 17).symm.trans e17
          replace e18 : vs 18 = .pointer (some ⟨q, 0, none⟩) := (hvs 18).symm.trans e18
          replace e19 : vs 19 = o := (hvs 19).symm.trans e19
          replace e20 : vs 20 = .pointer (some ⟨g4, 0, none⟩) := (hvs 20).symm.trans e20
          replace e21 : vs 21 = .int .i64 ((za : Nat) : Int) := (hvs 21).symm.trans e21
          replace e22 : vs 22 = .pointer (some ⟨g4, 1, none⟩) := (hvs 22).symm.trans e22
          replace e23 : vs 23 = .int .i64 ((zb : Nat) : Int) := (hvs 23).symm.trans e23
          replace e24 := (hvs 24) ▸ e24
          replace e15 := (hvs 15) ▸ e15
          replace e25 := (hvs 25) ▸ e25
          replace e26 := (hvs 26) ▸ e26
          replace e6 := (hvs 6) ▸ e6
          replace e7 := (hvs 7) ▸ e7
          subst hb
          clear hvs hold hT hdf hsz
          simp only [setAll, Act.put, List.setIfInBounds_toArray, List.set_cons_zero, List.set_cons_succ, List.getElem_toArray, List.getElem_cons_succ, List.getElem_cons_zero]
          obtain ⟨x1, y1, d1, e6⟩ := e6
          obtain ⟨x2, y2, d2, e7⟩ := e7
          rw [d1] at d2
          obtain ⟨rfl, rfl⟩ : x1 = x2 ∧ y1 = y2 := by simpa using d2
          obtain ⟨p', hp, hS⟩ := HS2.out _ _ ((hW.1 hJ0).2 _ d1)
          obtain ⟨rfl, rfl⟩ : x1 = p' ∧ y1 = .int .i64 0 := by simpa using hp
          rw [e6, e7]
          generalize wz.1 = wf at *
          clear hJ0 hRr hRt hW hZ hN0 d1 d2 e6 e7 hp HC2 HC3 HS2 HS3
          have hIO := Lib.hid (fun (w : World) (h : K (Free [.box g4 50 #[.int .i64 (za : Nat), .int .i64 (zb : Nat)], .own vo 50 2 M.length (pcells M)]) w ∧ IsOrd w (Free [.box g4 50 #[.int .i64 (za : Nat), .int .i64 (zb : Nat)], .own vo 50 2 M.length (pcells M)]) x1 64 (unl L (za, zb))) => oless_any h.2 HU.out (zb : Nat) (za : Nat))
          go_wp2_with (first
            | ((with_reducible show wpList _ _ _ (⟨_, .binOp _ _ _ _ _, _, _, _, _⟩ :: _) _ _); (first | ((with_reducible show wpList _ _ _ (⟨_, .binOp .lss _ _ _ _, _, _, _, _⟩ :: _) _ _); refine st_lss rfl _ _ _ _ rfl _ _ _ rfl rfl (fun h_ => ?_) (fun h_ => ?_)) | ((with_reducible show wpList _ _ _ (⟨_, .binOp .leq _ _ _ _, _, _, _, _⟩ :: _) _ _); refine st_leq rfl _ _ _ _ rfl _ _ _ rfl rfl (fun h_ => ?_) (fun h_ => ?_)) | ((with_reducible show wpList _ _ _ (⟨_, .binOp .gtr _ _ _ _, _, _, _, _⟩ :: _) _ _); refine st_gtr rfl _ _ _ _ rfl _ _ _ rfl rfl (fun h_ => ?_) (fun h_ => ?_)) | ((with_reducible show wpList _ _ _ (⟨_, .binOp .geq _ _ _ _, _, _, _, _⟩ :: _) _ _); refine st_geq rfl _ _ _ _ rfl _ _ _ rfl rfl (fun h_ => ?_) (fun h_ => ?_)) | ((with_reducible show wpList _ _ _ (⟨_, .binOp .eql _ _ _ _, _, _, _, _⟩ :: _) _ _); refine st_eql rfl _ _ _ _ rfl _ _ _ rfl rfl (fun h_ => ?_) (fun h_ => ?_)) | ((with_reducible show wpList _ _ _ (⟨_, .binOp .neq _ _ _ _, _, _, _, _⟩ :: _) _ _); refine st_neq rfl _ _ _ _ rfl _ _ _ rfl rfl (fun h_ => ?_) (fun h_ => ?_))) <;> go_prune)
            | (go_at_call 56; refine (hIO.out _ hS.ro).mono ?_; rintro r_ w_ ⟨_, rfl, ⟨c, rfl, hc⟩, hb_⟩; obtain rfl := HCB.out c hc; clear hc; replace hS := hS.ext hb_; clear hb_)
            | ((with_reducible show wpList _ _ _ (⟨_, .load _ _, _, _, _, _⟩ :: _) _ _); first | (refine st_cell hS 0 rfl _ _ rfl _ _ rfl _ _ rfl (by decide +kernel) _ (by first | assumption | rfl) ?_) | (refine st_cell hS 1 rfl _ _ rfl _ _ rfl _ _ rfl (by decide +kernel) _ (by first | assumption | rfl) ?_) | (refine st_cell hS 2 rfl _ _ rfl _ _ rfl _ _ rfl (by decide +kernel) _ (by first | assumption | rfl) ?_) | (refine st_cell hS 3 rfl _ _ rfl _ _ rfl _ _ rfl (by decide +kernel) _ (by first | assumption | rfl) ?_) | (refine st_cell hS 4 rfl _ _ rfl _ _ rfl _ _ rfl (by decide +kernel) _ (by first | assumption | rfl) ?_) | (refine st_cell hS 5 rfl _ _ rfl _ _ rfl _ _ rfl (by decide +kernel) _ (by first | assumption | rfl) ?_) | (refine st_cell hS 6 rfl _ _ rfl _ _ rfl _ _ rfl (by decide +kernel) _ (by first | assumption | rfl) ?_) | (refine st_cell hS 7 rfl _ _ rfl _ _ rfl _ _ rfl (by decide +kernel) _ (by first | assumption | rfl) ?_)))
          refine ⟨⟨j + 1, _, by go_num, rfl, hlj, ?_⟩, by simp [intOf]; omega⟩
          rw [HE.out]
          exact (hS.sub (List.sublist_cons_self _ _)).mono KS fun _ _ h => h.1
    · obtain rfl : j = L.length := by omega
      rw [List.take_length] at hS
      go_wp2_with (first | ((with_reducible show wpList _ _ _ (⟨_, .binOp _ _ _ _ _, _, _, _, _⟩ :: _) _ _); (first | ((with_reducible show wpList _ _ _ (⟨_, .binOp .lss _ _ _ _, _, _, _, _⟩ :: _) _ _); refine st_lss rfl _ _ _ _ rfl _ _ _ rfl rfl (fun h_ => ?_) (fun h_ => ?_)) | ((with_reducible show wpList _ _ _ (⟨_, .binOp .leq _ _ _ _, _, _, _, _⟩ :: _) _ _); refine st_leq rfl _ _ _ _ rfl _ _ _ rfl rfl (fun h_ => ?_) (fun h_ => ?_)) | ((with_reducible show wpList _ _ _ (⟨_, .binOp .gtr _ _ _ _, _, _, _, _⟩ :: _) _ _); refine st_gtr rfl _ _ _ _ rfl _ _ _ rfl rfl (fun h_ => ?_) (fun h_ => ?_)) | ((with_reducible show wpList _ _ _ (⟨_, .binOp .geq _ _ _ _, _, _, _, _⟩ :: _) _ _); refine st_geq rfl _ _ _ _ rfl _ _ _ rfl rfl (fun h_ => ?_) (fun h_ => ?_)) | ((with_reducible show wpList _ _ _ (⟨_, .binOp .eql _ _ _ _, _, _, _, _⟩ :: _) _ _); refine st_eql rfl _ _ _ _ rfl _ _ _ rfl rfl (fun h_ => ?_) (fun h_ => ?_)) | ((with_reducible show wpList _ _ _ (⟨_, .binOp .neq _ _ _ _, _, _, _, _⟩ :: _) _ _); refine st_neq rfl _ _ _ _ rfl _ _ _ rfl rfl (fun h_ => ?_) (fun h_ => ?_))) <;> go_prune))
      go_ret
      exact ⟨_, rfl, hS.mono (Stable.pure True) fun _ _ _ => trivial⟩
end Go.Proofs.YtmlkgaiphpimiaaDoor
namespace Go.Proofs.YtmlkgaiphpimiaaDoor
open Go.RowKit
attribute [local go_sem ↓] Go.wp_at_zero Go.wp_at_succ
set_option maxRecDepth 20000
set_option exponentiation.threshold 5000

/-- all that some numbers imply -/
noncomputable def closPre (L : List (Nat × Nat)) (pre : List Int) : Nat := pre.foldl (fun m x => m ||| junR L x) 0
theorem closPre_snoc (L : List (Nat × Nat)) (pre : List Int) (x : Int) : closPre L (pre ++ [x]) = closPre L pre ||| junR L x := by
  unfold closPre; rw [List.foldl_append]; rfl
theorem tb_foldor (f : Int → Nat) (i : Nat) : ∀ (l : List Int) (m : Nat), (l.foldl (fun m x => m ||| f x) m).testBit i = true ↔ m.testBit i = true ∨ ∃ x ∈ l, (f x).testBit i = true
  | [], m => by simp
  | x :: l, m => by
    rw [List.foldl_cons, tb_foldor f i l, tb_or]
    constructor
    · rintro ((h | h) | ⟨y, h1, h2⟩)
      · exact .inl h
      · exact .inr ⟨x, List.mem_cons_self .., h⟩
      · exact .inr ⟨y, List.mem_cons_of_mem _ h1, h2⟩
    · rintro (h | ⟨y, h1, h2⟩)
      · exact .inl (.inl h)
      · rcases List.mem_cons.1 h1 with rfl | h1
        · exact .inl (.inr h2)
        · exact .inr ⟨y, h1, h2⟩
theorem closPre_full {L : List (Nat × Nat)} {ws : List Nat} (hw : Words ws) : closPre L (memL ws) = closM L (val ws) := mask_ext fun i => by
  unfold closPre closM
  rw [tb_foldor, tb_closTo, Nat.zero_testBit]
  constructor
  · rintro (h | ⟨x, h1, h2⟩)
    · cases h
    · obtain ⟨k, rfl⟩ := memL_nat h1
      have h3 := (mem_memL hw).1 h1
      unfold junR at h2
      split at h2
      · rename_i h4
        exact ⟨k, by omega, by omega, h3, by simpa using h2⟩
      · rw [Nat.zero_testBit] at h2; cases h2
  · rintro ⟨r, h1, h2, h3, h4⟩
    refine .inr ⟨(r : Int), (mem_memL hw).2 h3, ?_⟩
    rw [junR, if_pos (by omega), Int.toNat_natCast]
    exact h4
set_option maxHeartbeats 2000000 in
theorem hclos_any {w0 : World} {D E : Nat → Prop} {p v : Value} {L : List (Nat × Nat)} {N : Nat} (h : IsH w0 D p L) (hT : DTab w0) (hH : HOK L) (hv : IsSet w0 E v N) : Calls Tryd.prog 35 #[p, v] w0 (Ret (fun x w' => IsSet w' (w0.heap.size ≤ ·) x (closM L N)) w0) := by
  obtain ⟨q, o, rfl, hX⟩ := h
  obtain ⟨A, c, l, rfl, hl, rfl, _, _, hs⟩ := hv.parts
  obtain ⟨K, k1, ko, kt, hS⟩ : ∃ K : (Nat → Prop) → World → Prop, (∀ D w, K D w → IsSet w D (.agg #[.slice A l.length c]) (val l)) ∧ (∀ D w, K D w → HierX q o L D w) ∧ (∀ D w, K D w → DTab w ∧ D 0) ∧ St w0 w0 [] K :=
    ⟨fun D w => (IsSet w D (.agg #[.slice A l.length c]) (val l) ∧ HierX q o L D w) ∧ DTab w ∧ D 0, fun _ _ h => h.1.1, fun _ _ h => h.1.2, fun _ _ h => h.2, St.start (D := fun _ => True) ((stable_set.and stable_hierX).and dtab_stable) ⟨⟨hv.imp fun _ _ _ => trivial, stable_hierX D _ w0 w0 hX (Nat.le_refl _) (fun _ _ _ _ h => h) fun _ _ _ _ => trivial⟩, hT, trivial⟩⟩
  have HH := Lib.hid hH
  clear hs hv hT hX hH
  refine (callsIn_wide (n := 6)).1 (callsIn_of_wp_marks Tryd.func35 rfl trivial ?_ rfl)
  simp only [Tryd.ntmps35, List.size_toArray, List.length_cons, List.length_nil, Nat.reduceAdd, Nat.reduceSub, Array.replicate_succ, Array.replicate_zero, List.push_toArray, List.append_toArray, List.nil_append, List.cons_append]
  refine wpIn_wide.2 ?_
  go_wp2_with (first
    | ((with_reducible show wpList _ _ _ (⟨some 2, _, _, _, _, _⟩ :: _) _ _); refine st_box hS rfl _ _ rfl (.pointer (some ⟨q, 0, none⟩)) _ rfl rfl ?_; clear hS; intro g2 w_ hS; (try simp only [Act.put, Act.eval, List.set_cons_zero, List.set_cons_succ, List.setIfInBounds_toArray, Array.getD_eq_getD_getElem?, List.getElem?_toArray, List.getElem?_cons_succ, List.getElem?_cons_zero, Option.getD_some, Value.cells] at hS))
    | ((with_reducible show wpList _ _ _ (⟨some 3, _, _, _, _, _⟩ :: _) _ _); refine st_box hS rfl _ _ rfl (.agg #[.slice A l.length c]) _ rfl rfl ?_; clear hS; intro g3 w_ hS; (try simp only [Act.put, Act.eval, List.set_cons_zero, List.set_cons_succ, List.setIfInBounds_toArray, Array.getD_eq_getD_getElem?, List.getElem?_toArray, List.getElem?_cons_succ, List.getElem?_cons_zero, Option.getD_some, Value.cells] at hS))
    | ((with_reducible show wpList _ _ _ (⟨some 4, _, _, _, _, _⟩ :: _) _ _); refine st_allocz hS rfl _ rfl (by kernel_rfl) #[.slice none 0 0] (by kernel_rfl) ?_; clear hS; intro g4 w_ hS; (try simp only [Act.put, Act.eval, List.set_cons_zero, List.set_cons_succ, List.setIfInBounds_toArray, Array.getD_eq_getD_getElem?, List.getElem?_toArray, List.getElem?_cons_succ, List.getElem?_cons_zero, Option.getD_some, Value.cells] at hS))
    | ((with_reducible show wpList _ _ _ (⟨some 5, _, _, _, _, _⟩ :: _) _ _); refine st_allocz hS rfl _ rfl (by kernel_rfl) #[.slice none 0 0] (by kernel_rfl) ?_; clear hS; intro g5 w_ hS; (try simp only [Act.put, Act.eval, List.set_cons_zero, List.set_cons_succ, List.setIfInBounds_toArray, Array.getD_eq_getD_getElem?, List.getElem?_toArray, List.getElem?_cons_succ, List.getElem?_cons_zero, Option.getD_some, Value.cells] at hS))
    | ((with_reducible show wpList _ _ _ (⟨_, .load _ _, _, _, _, _⟩ :: _) _ _); first | refine st_load hS 0 rfl _ _ rfl _ rfl _ _ rfl _ Tryd.underlying42 rfl (by kernel_rfl) ?_ | refine st_load hS 1 rfl _ _ rfl _ rfl _ _ rfl _ Tryd.underlying42 rfl (by kernel_rfl) ?_ | refine st_load hS 2 rfl _ _ rfl _ rfl _ _ rfl _ Tryd.underlying42 rfl (by kernel_rfl) ?_ | refine st_load hS 3 rfl _ _ rfl _ rfl _ _ rfl _ Tryd.underlying42 rfl (by kernel_rfl) ?_))
  refine (sall_any _ _ _ _ (k1 _ _ hS.ro)).mono ?_
  rintro e w3 ⟨_, rfl, ⟨Bs, A', cap, ws, rfl, e1, hcn, hvN, hsl, hBs, hX⟩, hb3⟩
  obtain rfl := canon_eq hcn hl hvN
  obtain ⟨rfl, rfl⟩ : A = A' ∧ c = cap := by simpa using e1
  clear e1 hvN
  obtain ⟨hT, hT0⟩ := kt _ _ hS.ro
  replace hS := hS.good hb3 hsl hT hT0 hBs hX
  obtain ⟨KK, ko, kG, KKS, hS⟩ : ∃ KK : (Nat → Prop) → World → Prop, (∀ D w, KK D w → HierX q o L D w) ∧ (∀ D w, KK D w → Good Bs A c ws w) ∧ Stable KK ∧ St w0 w3 [.box g5 42 #[.slice none 0 0], .box g4 42 #[.slice none 0 0], .box g3 42 #[.slice A ws.length c], .box g2 24 #[.pointer (some ⟨q, 0, none⟩)]] KK := ⟨_, fun D w h => ko D w h.1, fun D w h => h.2.1, hS.stable, hS⟩
  have HCN := Lib.hid hcn
  have HCF := Lib.hid (closPre_full (L := L) hcn.1)
  clear hsl hX hT hT0 hb3 kt k1 hcn hl
  go_wp2_with fail
  have hsz := hS.size
  refine (wpIn_wide (n := 6)).1 ?_
  refine wpIn_act fun act hact => ?_
  refine range_allB hS HCN.out.1 HCN.out.2.2 kG (by rw [hact]; rfl) rfl
    (fun pre F' K' => ∃ u, F' = [.box g5 42 #[u], .box g4 42 #[.slice none 0 0], .box g3 42 #[.slice A ws.length c], .box g2 24 #[.pointer (some ⟨q, 0, none⟩)]] ∧ Stable K' ∧ ∀ D w, K' D w → KK D w ∧ IsSet w (fun z => D z ∧ w0.heap.size ≤ z) (.agg #[u]) (closPre L pre))
    (fun _ _ _ _ => False) (fun s F K' h D w hk => by obtain ⟨_, _, _, h4⟩ := h; exact (h4 D w hk).1) ?hr (fun _ _ _ _ h => h.elim) ⟨_, rfl, KKS, fun D w h => ⟨h, IsSet.empty⟩⟩
    (fun x => { tmps := (act.tmps.setIfInBounds 9 (.int .i64 x)).setIfInBounds 6 (.int .i64 x), defers := [] }) ?assign ?body ?done (fun _ _ _ _ _ _ _ _ h _ _ => h.elim)
  case hr =>
    rintro s F K' ⟨u, rfl, _⟩ f hf
    simp only [List.mem_cons, List.not_mem_nil, or_false] at hf
    rcases hf with rfl | rfl | rfl | rfl <;> exact .inl rfl
  case assign =>
    intro l x W K hK
    subst hact
    rw [zip_one]
    refine wpIn_region_lit ?_
    refine listIn_of (by intro _ _ h; exact h) _ _ _ (by rfl) _ _ ?_
    refine wpList_plain rfl fun _ hK' => opw_assign (v := .int .i64 x) rfl (by rfl) (hK' _ _ ?_)
    exact wpList_nil hK
  case body =>
    rintro l pre x hx W F' Xo K' ⟨ub, rfl, hKs, hk'⟩ hS hlt
    subst hact
    have HW := Lib.hid (closPre_snoc L pre x)
    generalize closPre L pre = N0 at *
    have HKP := Lib.hid hk'
    have hWs : W.heap.size ≤ W.heap.size := Nat.le_refl _
    clear hx hk'
    simp only [Act.put, List.setIfInBounds_toArray, List.set_cons_zero, List.set_cons_succ]
    refine wpIn_block ?_
    refine wpIn_region_of (by kernel_rfl) (by intro _ _ h; exact h) (by rfl) ?_
    refine any_region_tail (fun i__ v w => match i__ with
      | 0 => v = .agg #[ub]
      | 1 => v = .pointer (some ⟨q, 0, none⟩)
      | 2 => v = .int .i64 x
      | 3 => IsSet w (fun _ => True) v (junR L x)
      | 4 => ∃ u, v = .agg #[u] ∧ u.oneCell' = true ∧ IsSet w (fun z => W.heap.size ≤ z) (.agg #[u]) (N0 ||| junR L x)
      | 5 => True
      | _ => True) 5 [] (by kernel_rfl) (by kernel_rfl) (by kernel_rfl) (by kernel_rfl) ?mono ⟨.inr ?r0, .inr ?r1, .inr ?r2, .inr ?r3, .inr ?r4, .inl (by decide), trivial⟩ ?post
    case mono =>
      intro i v w w' h hb
      match i, h with
      | 0, h => exact h
      | 1, h => exact h
      | 2, h => exact h
      | 3, h => exact h.ext hb
      | 4, h => exact ⟨_, h.choose_spec.1, h.choose_spec.2.1, h.choose_spec.2.2.ext hb⟩
      | 5, h => exact h
      | _ + 6, h => trivial
    case r0 =>
      refine trule fun b__ w hW hold hpre => ⟨fun hwant K hK => ?_, fun hwant => ?_⟩
      · clear hwant
        have e5 : b__.eval (.tmp 5) = .pointer (some ⟨g5, 0, none⟩) := (hold 5 (by kernel_rfl)).trans rfl
        exact opw_row rfl e5 ((hS.ext (undrew hW)).box 0 rfl) Tryd.underlying42 rfl (by kernel_rfl) (hK _ _ rfl (Below.refl _ _))
      · rw [want_none rfl] at hwant; cases hwant
    case r1 =>
      refine trule fun b__ w hW hold hpre => ⟨fun hwant K hK => ?_, fun hwant => ?_⟩
      · clear hwant
        have e2 : b__.eval (.tmp 2) = .pointer (some ⟨g2, 0, none⟩) := (hold 2 (by kernel_rfl)).trans rfl
        exact opw_cell rfl e2 (by kernel_rfl) (((hS.ext (undrew hW)).box 3 rfl).cell 0) (hK _ _ rfl (Below.refl _ _))
      · rw [want_none rfl] at hwant; cases hwant
    case r2 =>
      refine trule fun b__ w hW hold hpre => ⟨fun hwant K hK => ?_, fun hwant => ?_⟩
      · clear hwant
        have e6 : b__.eval (.tmp 6) = .int .i64 x := (hold 6 (by kernel_rfl)).trans rfl
        exact opw_move rfl e6 (hK _ _ rfl (Below.refl _ _))
      · rw [want_none rfl] at hwant; cases hwant
    case r3 =>
      refine trule fun b__ w hW hold hpre => ⟨fun hwant K hK => ?_, fun hwant => ?_⟩
      · clear hwant
        have e11 : b__.eval (.tmp 11) = .pointer (some ⟨q, 0, none⟩) := hpre ⟨1, _⟩ (Array.mem_of_getElem? (i := 0) rfl) rfl _ _ rfl rfl
        have e12 : b__.eval (.tmp 12) = .int .i64 x := hpre ⟨2, _⟩ (Array.mem_of_getElem? (i := 1) rfl) rfl _ _ rfl rfl
        refine opw_call rfl (by kernel_rfl) (by simp only [List.map_cons, List.map_nil, e11, e12]) (hjun_any (w0 := w) ⟨q, o, rfl, ko _ _ (HKP.out _ _ (hS.ext (undrew hW)).ro.1).1⟩ HH.out x) fun v w' h hb => ?_
        exact hK v w' (h.imp fun _ _ _ => trivial) hb
      · rw [want_none rfl] at hwant; cases hwant
    case r4 =>
      refine trule fun b__ w hW hold hpre => ⟨fun hwant K hK => ?_, fun hwant => ?_⟩
      · clear hwant
        have e10 : b__.eval (.tmp 10) = .agg #[ub] := hpre ⟨0, _⟩ (Array.mem_of_getElem? (i := 0) rfl) rfl _ _ rfl rfl
        have e13 : (fun (v : Value) (w : World) => IsSet w (fun _ => True) v (junR L x)) (b__.eval (.tmp 13)) w := hpre ⟨3, _⟩ (Array.mem_of_getElem? (i := 1) rfl) rfl _ _ rfl rfl
        refine opw_call rfl (by kernel_rfl) (by simp only [List.map_cons, List.map_nil, e10]) (or_any (.agg #[ub]) _ N0 _ w _ _ (HKP.out _ _ (hS.ext (undrew hW)).ro.1).2 e13) fun v w' h hb => ?_
        obtain ⟨u, rfl, h1⟩ := set_one h
        exact hK _ w' ⟨u, rfl, h1, h.imp fun z hz _ => Nat.le_trans (undrew hW).size hz⟩ hb
      · rw [want_none rfl] at hwant; cases hwant
    case post =>
      intro b__ wz hW hdf hsz hold hT
      have e5 : b__.eval (.tmp 5) = .pointer (some ⟨g5, 0, none⟩) := (hold 5 (by kernel_rfl)).trans rfl
      have e14 : (fun (v : Value) (w : World) => ∃ u, v = .agg #[u] ∧ u.oneCell' = true ∧ IsSet w (fun z => W.heap.size ≤ z) (.agg #[u]) (N0 ||| junR L x)) (b__.eval (.tmp 14)) wz := hT 4 _ 14 (by decide) rfl rfl
      have e10 : b__.eval (.tmp 10) = .agg #[ub] := hT 0 _ 10 (by decide) rfl rfl
      have e11 : b__.eval (.tmp 11) = .pointer (some ⟨q, 0, none⟩) := hT 1 _ 11 (by decide) rfl rfl
      have e12 : b__.eval (.tmp 12) = .int .i64 x := hT 2 _ 12 (by decide) rfl rfl
      have e13 : (fun (v : Value) (w : World) => IsSet w (fun _ => True) v (junR L x)) (b__.eval (.tmp 13)) wz := hT 3 _ 13 (by decide) rfl rfl
      obtain ⟨vs, hvs, hb⟩ := frame_of hdf hsz hold
      clear e5
      replace e14 := (hvs 14) ▸ e14
      replace e10 : vs 10 = .agg #[ub] := (hvs 10).symm.trans e10
      replace e11 : vs 11 = .pointer (some ⟨q, 0, none⟩) := (hvs 11).symm.trans e11
      replace e12 : vs 12 = .int .i64 x := (hvs 12).symm.trans e12
      replace e13 := (hvs 13) ▸ e13
      subst hb
      clear hvs hold hT hdf hsz
      simp only [setAll, Act.put, List.setIfInBounds_toArray, List.set_cons_zero, List.set_cons_succ, List.getElem_toArray, List.getElem_cons_succ, List.getElem_cons_zero]
      (intro o_ ho_; simp only [List.getElem?_toArray, List.getElem?_cons_succ, List.getElem?_cons_zero, Option.some.injEq] at ho_; subst ho_)
      obtain ⟨un, e14, hu1, hun⟩ := e14
      have hsW := hS.size
      have hS1 := hS.ret hW (stable_inter (stable_set (v := .agg #[un]) (N := N0 ||| junR L x)) fun z => w0.heap.size ≤ z) (hun.imp fun z hz _ => ⟨hz, Nat.le_trans hsW hz⟩)
      refine opw_store rfl rfl e14 (hS1.box 0 rfl) (by kernel_rfl) rfl (by simpa using hu1) fun w4 h1 hU => ?_
      have hS2 := (hS1.upd 0 rfl (.box g5 42 #[un]) (upd_gb hU) ⟨(hS1.holds (.box g5 42 #[ub]) (by simp)).1, h1⟩ fun _ e => .inl e)
      refine ⟨_, _, ⟨un, rfl, hS2.stable, fun D w h => ⟨(HKP.out D w h.1.1).1, by rw [HW.out]; exact h.2⟩⟩, by rw [hU.size]; exact hW.size, hS2⟩
  case done =>
    rintro D W F' K' hD ⟨u, rfl, hKs, hk'⟩ hS hK
    subst hact
    obtain ⟨A3, c3, l3, he, -⟩ := ((hk' _ _ hS.ro).2).parts
    obtain rfl : u = .slice A3 l3.length c3 := by injection he with he; simpa using he
    clear he
    have hM := hS.mark hsz hD (by
      intro f hf
      simp only [List.mem_cons, List.not_mem_nil, or_false] at hf
      rcases hf with rfl | rfl | rfl | rfl <;> exact .inl rfl) hK rfl
    have HKP := Lib.hid hk'
    clear hk' hS hK
    have hS := hM
    clear hM
    simp only [List.cons_append, List.nil_append] at hS
    go_wp2_with (first
      | ((with_reducible show wpList _ _ _ (⟨_, .load _ _, _, _, _, _⟩ :: _) _ _); first | refine st_load hS 0 rfl _ _ rfl _ rfl _ _ rfl _ Tryd.underlying42 rfl (by kernel_rfl) ?_ | refine st_load hS 1 rfl _ _ rfl _ rfl _ _ rfl _ Tryd.underlying42 rfl (by kernel_rfl) ?_ | refine st_load hS 2 rfl _ _ rfl _ rfl _ _ rfl _ Tryd.underlying42 rfl (by kernel_rfl) ?_ | refine st_load hS 3 rfl _ _ rfl _ rfl _ _ rfl _ Tryd.underlying42 rfl (by kernel_rfl) ?_)
      | ((with_reducible show wpList _ _ _ (⟨_, .store _ _ _, _, _, _, _⟩ :: _) _ _); first | (refine st_store hS 0 rfl _ _ _ rfl _ _ rfl rfl _ _ rfl (by kernel_rfl) (by kernel_rfl) (by kernel_rfl) ?_; clear hS; intro w_ hS; (try simp only [Act.put, Act.eval, List.set_cons_zero, List.set_cons_succ, List.setIfInBounds_toArray, Array.getD_eq_getD_getElem?, List.getElem?_toArray, List.getElem?_cons_succ, List.getElem?_cons_zero, Option.getD_some, Value.cells] at hS)) | (refine st_store hS 1 rfl _ _ _ rfl _ _ rfl rfl _ _ rfl (by kernel_rfl) (by kernel_rfl) (by kernel_rfl) ?_; clear hS; intro w_ hS; (try simp only [Act.put, Act.eval, List.set_cons_zero, List.set_cons_succ, List.setIfInBounds_toArray, Array.getD_eq_getD_getElem?, List.getElem?_toArray, List.getElem?_cons_succ, List.getElem?_cons_zero, Option.getD_some, Value.cells] at hS)) | (refine st_store hS 2 rfl _ _ _ rfl _ _ rfl rfl _ _ rfl (by kernel_rfl) (by kernel_rfl) (by kernel_rfl) ?_; clear hS; intro w_ hS; (try simp only [Act.put, Act.eval, List.set_cons_zero, List.set_cons_succ, List.setIfInBounds_toArray, Array.getD_eq_getD_getElem?, List.getElem?_toArray, List.getElem?_cons_succ, List.getElem?_cons_zero, Option.getD_some, Value.cells] at hS)) | (refine st_store hS 3 rfl _ _ _ rfl _ _ rfl rfl _ _ rfl (by kernel_rfl) (by kernel_rfl) (by kernel_rfl) ?_; clear hS; intro w_ hS; (try simp only [Act.put, Act.eval, List.set_cons_zero, List.set_cons_succ, List.setIfInBounds_toArray, Array.getD_eq_getD_getElem?, List.getElem?_toArray, List.getElem?_cons_succ, List.getElem?_cons_zero, Option.getD_some, Value.cells] at hS)) | (refine st_cstore hS 0 rfl _ _ _ rfl _ _ _ rfl rfl rfl (by first | (simp; done) | (simp; omega) | exact of_decide_eq_true (by kernel_rfl)) rfl (by first | rfl | assumption) (by kernel_rfl) ?_; clear hS; intro w_ hS; (try simp only [Act.put, Act.eval, List.set_cons_zero, List.set_cons_succ, List.setIfInBounds_toArray, Array.getD_eq_getD_getElem?, List.getElem?_toArray, List.getElem?_cons_succ, List.getElem?_cons_zero, Option.getD_some, Value.cells] at hS)) | (refine st_cstore hS 1 rfl _ _ _ rfl _ _ _ rfl rfl rfl (by first | (simp; done) | (simp; omega) | exact of_decide_eq_true (by kernel_rfl)) rfl (by first | rfl | assumption) (by kernel_rfl) ?_; clear hS; intro w_ hS; (try simp only [Act.put, Act.eval, List.set_cons_zero, List.set_cons_succ, List.setIfInBounds_toArray, Array.getD_eq_getD_getElem?, List.getElem?_toArray, List.getElem?_cons_succ, List.getElem?_cons_zero, Option.getD_some, Value.cells] at hS)) | (refine st_cstore hS 2 rfl _ _ _ rfl _ _ _ rfl rfl rfl (by first | (simp; done) | (simp; omega) | exact of_decide_eq_true (by kernel_rfl)) rfl (by first | rfl | assumption) (by kernel_rfl) ?_; clear hS; intro w_ hS; (try simp only [Act.put, Act.eval, List.set_cons_zero, List.set_cons_succ, List.setIfInBounds_toArray, Array.getD_eq_getD_getElem?, List.getElem?_toArray, List.getElem?_cons_succ, List.getElem?_cons_zero, Option.getD_some, Value.cells] at hS)) | (refine st_cstore hS 3 rfl _ _ _ rfl _ _ _ rfl rfl rfl (by first | (simp; done) | (simp; omega) | exact of_decide_eq_true (by kernel_rfl)) rfl (by first | rfl | assumption) (by kernel_rfl) ?_; clear hS; intro w_ hS; (try simp only [Act.put, Act.eval, List.set_cons_zero, List.set_cons_succ, List.setIfInBounds_toArray, Array.getD_eq_getD_getElem?, List.getElem?_toArray, List.getElem?_cons_succ, List.getElem?_cons_zero, Option.getD_some, Value.cells] at hS))))
    refine leaves_marks (F := [.box g5 42 #[.slice A3 l3.length c3], .box g4 42 #[.slice A3 l3.length c3], .box g3 42 #[.slice A ws.length c], .box g2 24 #[.pointer (some ⟨q, 0, none⟩)]]) ?_ [D] _ hS
    intro w' h
    refine ⟨_, results_cell_row rfl _ _ g4 42 _ (0, 0) _ rfl (h.box 1 rfl) Tryd.underlying42 rfl (by kernel_rfl), ?_⟩
    exact Ret.mk (by rw [← HCF.out]; exact (HKP.out _ _ h.ro).2.imp fun z hz _ => hz.2) h.below
end Go.Proofs.YtmlkgaiphpimiaaDoor
namespace Go.Proofs.YtmlkgaiphpimiaaDoor
open Go.RowKit
attribute [local go_sem ↓] Go.wp_at_zero Go.wp_at_succ
set_option maxRecDepth 20000
set_option exponentiation.threshold 5000

section
variable {P : Program} {ops : Array Oper} {rest : List Oper} {o : Oper} {a : Act} {w : World} {Q : Exit → Act → World → Prop}
/-- a remainder: a number below the divisor -/
theorem st_remlt (hg : Region.wanted o (yielded ops a.tmps) = true) (t t2 : TypeId) (x y : Operand) (ho : o.op = .binOp .rem t x y t2) (k : IntKind) (m : Int) (d : Nat) (hk : k = .u64 ∨ k = .i64) (hx : a.eval x = .int k m) (hy : a.eval y = .int k (d : Nat)) (hm : 0 ≤ m) (hd : 0 < d)
    (hr : ∀ r : Nat, r < d → wpList P ops Q rest (a.put o.dst (.int k (r : Nat))) w) : wpList P ops Q (o :: rest) a w := by
  obtain ⟨n, rfl⟩ := Int.eq_ofNat_of_zero_le hm
  refine BigFrame.wpList_want hg fun _ hK => opw_bin (v := .int k ((n % d : Nat) : Int)) ho hx hy (by simp [eqGuard]) ?_ (hK _ _ (hr _ (Nat.mod_lt _ hd)))
  have hd2 : ¬ d = 0 := by omega
  have hd1 : ¬ ((d : Nat) : Int) = 0 := by omega
  rcases hk with rfl | rfl <;> (go_simp; exact tmod_nat n d)
/-- a product of two small numbers -/
theorem st_mulsm (hg : Region.wanted o (yielded ops a.tmps) = true) (t t2 : TypeId) (x y : Operand) (ho : o.op = .binOp .mul t x y t2) (m n : Int) (hx : a.eval x = .int .i64 m) (hy : a.eval y = .int .i64 n) (hm : 0 ≤ m ∧ m ≤ 100) (hn : 0 ≤ n ∧ n ≤ 100)
    (hr : ∀ r : Nat, r ≤ 10000 → wpList P ops Q rest (a.put o.dst (.int .i64 (r : Nat))) w) : wpList P ops Q (o :: rest) a w := by
  obtain ⟨m, rfl⟩ := Int.eq_ofNat_of_zero_le hm.1
  obtain ⟨n, rfl⟩ := Int.eq_ofNat_of_zero_le hn.1
  have h1 : m * n ≤ 100 * 100 := Nat.mul_le_mul (by omega) (by omega)
  have h2 : ((m : Int) * (n : Int)) = ((m * n : Nat) : Int) := by push_cast; rfl
  refine BigFrame.wpList_want hg fun _ hK => opw_bin (v := .int .i64 ((m * n : Nat) : Int)) ho hx hy (by simp [eqGuard]) ?_ (hK _ _ (hr _ h1))
  rw [← h2]
  exact run_mul64 (by omega) (by omega)
end
theorem HOK.ins {L : List (Nat × Nat)} (h : HOK L) {x y : Nat} (hx : 1 ≤ x ∧ x < 64) (hy : 1 ≤ y ∧ y < 64) (hne : x ≠ y) (hm : (x, y) ∉ L) (ht : ¬ TC L y x) : HOK (ins L (x, y)) := by
  refine ⟨ins_asc h.asc hm, fun z hz => ?_, (acyc_ins h.acyc fun z => mem_ins).2 ?_⟩
  · rcases mem_ins.1 hz with rfl | hz
    · exact ⟨hx, hy⟩
    · exact h.role z hz
  · rintro (e | e)
    · exact hne e.symm
    · exact ht e
/-- links among the roles 1 to 6 -/
def Six (L : List (Nat × Nat)) : Prop := ∀ x ∈ L, x.1 ≤ 6 ∧ x.2 ≤ 6
theorem Six.ins {L : List (Nat × Nat)} (h : Six L) {x y : Nat} (hx : x ≤ 6) (hy : y ≤ 6) : Six (ins L (x, y)) := fun z hz => by
  rcases mem_ins.1 hz with rfl | hz
  · exact ⟨hx, hy⟩
  · exact h z hz
/-- what a link more leaves -/
theorem RLinkP.step {w0 w w' : World} {F : List Fact} {K : (Nat → Prop) → World → Prop} {pv : Value} {L : List (Nat × Nat)} {a b : Int} {e : Ending} (h : RLinkP w pv L a b e w') (hS : St w0 w (.own pv 50 2 L.length (pcells L) :: F) K) (hH : HOK L) (h6 : Six L) (ha : a ≤ 6) (hb : b ≤ 6) :
    ∃ (v : Value) (z : Int) (L' : List (Nat × Nat)), e = .returned (.tuple #[v, .int .i64 z]) ∧ HOK L' ∧ Six L' ∧ L'.length ≤ L.length + 1 ∧ St w0 w' (.own v 50 2 L'.length (pcells L') :: F) K ∧ St w0 w' (.own pv 50 2 L.length (pcells L) :: F) K := by
  rcases h with ⟨_, rfl, h⟩ | ⟨x, y, rfl, rfl, hx, hy, hne, ⟨_, rfl, h⟩ | ⟨_, _, rfl, h⟩ | ⟨hm, ht, v, rfl, hs⟩⟩
  · exact ⟨_, _, L, rfl, hH, h6, by omega, hS.ext h, hS.ext h⟩
  · exact ⟨_, _, L, rfl, hH, h6, by omega, hS.ext h, hS.ext h⟩
  · exact ⟨_, _, L, rfl, hH, h6, by omega, hS.ext h, hS.ext h⟩
  · refine ⟨v, _, _, rfl, hH.ins hx hy hne hm ht, h6.ins (by omega) (by omega), by rw [ins_len]; omega, ?_⟩
    have hn := hS.new hs.below (.own v 50 2 (L.length + 1) (pcells (ins L (x, y)))) (hs.own 0 rfl)
    rw [ins_len]
    exact ⟨hn.sub (.cons_cons _ (.cons _ (List.Sublist.refl _))), hn.sub (List.sublist_cons_self _ _)⟩
theorem sl_cell {w : World} {D : Nat → Prop} {size n c b o j : Nat} {xs : List Value} {x : Value} (h : Sl w D size (.slice (some ⟨b, o, none⟩) n c) n xs) (hj : xs[j]? = some x) : w.cell? ⟨b, o + j, none⟩ = some x := by
  obtain ⟨h1, A, c2, h2, _, _, h5⟩ := h
  have hlt := (List.getElem?_eq_some_iff.1 hj).1
  have hn : 0 < n := by
    rcases Nat.eq_zero_or_pos n with h0 | h0
    · subst h0; simp at h1; subst h1; simp at hlt
    · exact h0
  obtain ⟨b2, o2, h6, _, _, h8⟩ := h5 hn
  injection h2 with h2
  rw [h6] at h2
  injection h2 with h2
  injection h2 with h9 h10
  rw [h9, h10]
  exact h8 j x hj
set_option maxHeartbeats 1000000 in
theorem rlinks_any (x : Nat) (hx : x < T64) (w0 : World) : Calls Tryd.prog 54 #[.int .u64 (x : Nat)] w0 fun e w' => ∃ (v : Value) (L : List (Nat × Nat)), e = .returned v ∧ HOK L ∧ Six L ∧ L.length ≤ 36 ∧ St w0 w' [.own v 50 2 L.length (pcells L)] fun _ _ => True := by
  have hS := St.start0 (w := w0)
  have HX := Lib.hid hx
  clear hx
  go_enter Tryd.func54, Tryd.ntmps54
  go_wp2_with fail
  replace hS := hS.nil 3 1
  go_loopw [3, 4] (fun v i wr => ∃ (k : Nat) (l : List Nat) (vo : Value), i = .int .i64 (k : Nat) ∧ vo = v ∧ k ≤ 6 ∧ l.length = k ∧ Hid (∀ y ∈ l, 1 ≤ y ∧ y ≤ 6) ∧ St w0 wr [.own vo 3 1 l.length (ints (natInts l))] fun _ _ => True) (fun _ i _ => 6 - (intOf i).toNat)
  case atStart => exact ⟨0, [], _, rfl, rfl, by omega, rfl, Lib.hid (by simp), hS⟩
  case round =>
    clear hS
    obtain ⟨k, l, vo, rfl, rfl, hk, hlk, HL, hS⟩ := hrel
    by_cases hk6 : k < 6
    · go_wp2_with (first
        | ((with_reducible show wpList _ _ _ (⟨_, .binOp _ _ _ _ _, _, _, _, _⟩ :: _) _ _); (first | ((with_reducible show wpList _ _ _ (⟨_, .binOp .lss _ _ _ _, _, _, _, _⟩ :: _) _ _); refine st_lss rfl _ _ _ _ rfl _ _ _ rfl rfl (fun h_ => ?_) (fun h_ => ?_)) | ((with_reducible show wpList _ _ _ (⟨_, .binOp .leq _ _ _ _, _, _, _, _⟩ :: _) _ _); refine st_leq rfl _ _ _ _ rfl _ _ _ rfl rfl (fun h_ => ?_) (fun h_ => ?_)) | ((with_reducible show wpList _ _ _ (⟨_, .binOp .gtr _ _ _ _, _, _, _, _⟩ :: _) _ _); refine st_gtr rfl _ _ _ _ rfl _ _ _ rfl rfl (fun h_ => ?_) (fun h_ => ?_)) | ((with_reducible show wpList _ _ _ (⟨_, .binOp .geq _ _ _ _, _, _, _, _⟩ :: _) _ _); refine st_geq rfl _ _ _ _ rfl _ _ _ rfl rfl (fun h_ => ?_) (fun h_ => ?_)) | ((with_reducible show wpList _ _ _ (⟨_, .binOp .eql _ _ _ _, _, _, _, _⟩ :: _) _ _); refine st_eql rfl _ _ _ _ rfl _ _ _ rfl rfl (fun h_ => ?_) (fun h_ => ?_)) | ((with_reducible show wpList _ _ _ (⟨_, .binOp .neq _ _ _ _, _, _, _, _⟩ :: _) _ _); refine st_neq rfl _ _ _ _ rfl _ _ _ rfl rfl (fun h_ => ?_) (fun h_ => ?_))) <;> go_prune)
        | ((with_reducible show wpList _ _ _ (⟨some 17, _, _, _, _, _⟩ :: _) _ _); refine st_remlt rfl _ _ _ _ rfl .u64 _ 2 (.inl rfl) rfl rfl (by omega) (by omega) ?_; intro b hb2)
        | ((with_reducible show wpList _ _ _ (⟨some 21, _, _, _, _, _⟩ :: _) _ _); refine st_mulsm rfl _ _ _ _ rfl _ _ rfl rfl (by omega) (by omega) ?_; intro r2 hr2)
        | ((with_reducible show wpList _ _ _ (⟨some 24, _, _, _, _, _⟩ :: _) _ _); refine st_remlt rfl _ _ _ _ rfl .u64 _ 6 (.inl rfl) rfl rfl (by omega) (by omega) ?_; intro c hc2)
        | ((with_reducible show wpList _ _ _ (⟨some 27, _, _, _, _, _⟩ :: _) _ _); refine st_remlt rfl _ _ _ _ rfl .i64 _ 6 (.inr rfl) rfl rfl (by omega) (by omega) ?_; intro r3 hr3)
        | ((with_reducible show wpList _ _ _ (⟨_, .buildSlice _ 1 _, _, _, _, _⟩ :: _) _ _); refine st_push hS 0 rfl rfl _ _ _ _ rfl rfl ty_ints _ _ _ (.int .i64 ((1 + r3 : Nat) : Int)) #[.int .i64 ((1 + r3 : Nat) : Int)] rfl (by kernel_rfl) rfl rfl rfl rfl (by intro u hu; simp at hu; first | (subst hu; rfl) | (rcases hu with rfl | rfl <;> rfl)) (by omega) (by omega) ?_; clear hS; intro z_ v_ w_ hS; (try simp only [Act.put, Act.eval, List.set_cons_zero, List.set_cons_succ, List.setIfInBounds_toArray, Array.getD_eq_getD_getElem?, List.getElem?_toArray, List.getElem?_cons_succ, List.getElem?_cons_zero, Option.getD_some, Value.cells] at hS)))
      exact ⟨⟨k + 1, l ++ [1 + r3], _, by go_num, rfl, by omega, by simp; omega, Lib.hid (by
        intro y hy
        rcases List.mem_append.1 hy with h | h
        · exact HL.out y h
        · rw [List.mem_singleton] at h; omega), by rw [← natI_snoc, List.length_append]; exact hS⟩, by simp [intOf]; omega⟩
    · have hl6 : l.length = 6 := by omega
      obtain ⟨Ao, co, rfl, _, _⟩ := own_shp (hS.own 0 rfl)
      rw [hl6] at hS ⊢
      obtain ⟨K, kq, hS2⟩ : ∃ K : (Nat → Prop) → World → Prop, (∀ D w, K D w → Sl w D 1 (.slice Ao 6 co) 6 (ints (natInts l))) ∧ St w0 wr [] K := ⟨_, fun _ _ h => h.2, hS.freeze 0 (by decide) rfl⟩
      clear hS
      have hS := hS2
      clear hS2
      obtain ⟨bo, oo, rfl⟩ : ∃ bo oo, Ao = some ⟨bo, oo, none⟩ := by
        obtain ⟨_, A2, c2, e2, _, _, h5⟩ := kq _ _ hS.ro
        obtain ⟨b, o, h6, _⟩ := h5 (by omega)
        injection e2 with e2
        exact ⟨b, o, e2.trans h6⟩
      have KS := hS.stable
      have HR := Lib.hid (fun (w : World) (D : Nat → Prop) (pv : Value) (L : List (Nat × Nat)) (h : Sl w D 2 pv L.length (pcells L)) (hH : HOK L) (hl : L.length ≤ 36) => rlink_any h hH.inr (by omega))
      go_wp2_with (first | ((with_reducible show wpList _ _ _ (⟨_, .binOp _ _ _ _ _, _, _, _, _⟩ :: _) _ _); (first | ((with_reducible show wpList _ _ _ (⟨_, .binOp .lss _ _ _ _, _, _, _, _⟩ :: _) _ _); refine st_lss rfl _ _ _ _ rfl _ _ _ rfl rfl (fun h_ => ?_) (fun h_ => ?_)) | ((with_reducible show wpList _ _ _ (⟨_, .binOp .leq _ _ _ _, _, _, _, _⟩ :: _) _ _); refine st_leq rfl _ _ _ _ rfl _ _ _ rfl rfl (fun h_ => ?_) (fun h_ => ?_)) | ((with_reducible show wpList _ _ _ (⟨_, .binOp .gtr _ _ _ _, _, _, _, _⟩ :: _) _ _); refine st_gtr rfl _ _ _ _ rfl _ _ _ rfl rfl (fun h_ => ?_) (fun h_ => ?_)) | ((with_reducible show wpList _ _ _ (⟨_, .binOp .geq _ _ _ _, _, _, _, _⟩ :: _) _ _); refine st_geq rfl _ _ _ _ rfl _ _ _ rfl rfl (fun h_ => ?_) (fun h_ => ?_)) | ((with_reducible show wpList _ _ _ (⟨_, .binOp .eql _ _ _ _, _, _, _, _⟩ :: _) _ _); refine st_eql rfl _ _ _ _ rfl _ _ _ rfl rfl (fun h_ => ?_) (fun h_ => ?_)) | ((with_reducible show wpList _ _ _ (⟨_, .binOp .neq _ _ _ _, _, _, _, _⟩ :: _) _ _); refine st_neq rfl _ _ _ _ rfl _ _ _ rfl rfl (fun h_ => ?_) (fun h_ => ?_))) <;> go_prune))
      replace hS := hS.nil 50 2
      clear hlk hk hk6
      go_loopw [5, 6, 7] (fun v b i wr => ∃ (i' b' : Nat) (pv : Value) (L : List (Nat × Nat)), i = .int .i64 (i' : Nat) ∧ b = .int .i64 (b' : Nat) ∧ pv = v ∧ i' ≤ 6 ∧ b' ≤ 6 * i' ∧ L.length ≤ b' ∧ Hid (HOK L ∧ Six L) ∧ St w0 wr [.own pv 50 2 L.length (pcells L)] K) (fun _ _ i _ => 6 - (intOf i).toNat)
      case atStart => exact ⟨0, 0, _, [], rfl, rfl, rfl, by omega, by omega, by simp, Lib.hid ⟨HOK.nil, by intro x hx; simp at hx⟩, hS⟩
      case round =>
        clear hS
        obtain ⟨i, b, pv, L, rfl, rfl, rfl, hi, hb, hLb, HO, hS⟩ := hrel
        by_cases hi6 : i < 6
        · go_wp2_with (first | ((with_reducible show wpList _ _ _ (⟨_, .binOp _ _ _ _ _, _, _, _, _⟩ :: _) _ _); (first | ((with_reducible show wpList _ _ _ (⟨_, .binOp .lss _ _ _ _, _, _, _, _⟩ :: _) _ _); refine st_lss rfl _ _ _ _ rfl _ _ _ rfl rfl (fun h_ => ?_) (fun h_ => ?_)) | ((with_reducible show wpList _ _ _ (⟨_, .binOp .leq _ _ _ _, _, _, _, _⟩ :: _) _ _); refine st_leq rfl _ _ _ _ rfl _ _ _ rfl rfl (fun h_ => ?_) (fun h_ => ?_)) | ((with_reducible show wpList _ _ _ (⟨_, .binOp .gtr _ _ _ _, _, _, _, _⟩ :: _) _ _); refine st_gtr rfl _ _ _ _ rfl _ _ _ rfl rfl (fun h_ => ?_) (fun h_ => ?_)) | ((with_reducible show wpList _ _ _ (⟨_, .binOp .geq _ _ _ _, _, _, _, _⟩ :: _) _ _); refine st_geq rfl _ _ _ _ rfl _ _ _ rfl rfl (fun h_ => ?_) (fun h_ => ?_)) | ((with_reducible show wpList _ _ _ (⟨_, .binOp .eql _ _ _ _, _, _, _, _⟩ :: _) _ _); refine st_eql rfl _ _ _ _ rfl _ _ _ rfl rfl (fun h_ => ?_) (fun h_ => ?_)) | ((with_reducible show wpList _ _ _ (⟨_, .binOp .neq _ _ _ _, _, _, _, _⟩ :: _) _ _); refine st_neq rfl _ _ _ _ rfl _ _ _ rfl rfl (fun h_ => ?_) (fun h_ => ?_))) <;> go_prune))
          go_loopw [5, 6, 8] (fun v b_ k wr => ∃ (k' b' : Nat) (pv : Value) (L : List (Nat × Nat)), k = .int .i64 (k' : Nat) ∧ b_ = .int .i64 (b' : Nat) ∧ pv = v ∧ i < k' ∧ k' ≤ 6 ∧ b' + i + 1 ≤ 6 * i + k' ∧ L.length ≤ b' ∧ Hid (HOK L ∧ Six L) ∧ St w0 wr [.own pv 50 2 L.length (pcells L)] K) (fun _ _ k _ => 6 - (intOf k).toNat)
          case atStart => exact ⟨i + 1, b, _, L, by go_num, rfl, rfl, by omega, by omega, by omega, hLb, HO, hS⟩
          case round =>
            clear hS HO hb hLb
            obtain ⟨k, b, pv, L, rfl, rfl, rfl, hik, hk, hb, hLb, HO, hS⟩ := hrel
            by_cases hk6 : k < 6
            · cases hbit : x.testBit b
              · go_wp2_with (first
                  | ((with_reducible show wpList _ _ _ (⟨_, .binOp .shr _ _ _ _, _, _, _, _⟩ :: _) _ _); refine st_shrN rfl _ _ _ _ rfl _ _ rfl rfl (by omega) ?_)
                  | ((with_reducible show wpList _ _ _ (⟨some 44, _, _, _, _, _⟩ :: _) _ _); refine st_rem2 rfl _ _ _ _ rfl _ rfl rfl ?_)
                  | ((with_reducible show wpList _ _ _ (⟨some 45, _, _, _, _, _⟩ :: _) _ _); refine st_btest rfl _ _ _ _ rfl _ _ rfl rfl hbit ?_)
                  | ((with_reducible show wpList _ _ _ (⟨_, .binOp _ _ _ _ _, _, _, _, _⟩ :: _) _ _); (first | ((with_reducible show wpList _ _ _ (⟨_, .binOp .lss _ _ _ _, _, _, _, _⟩ :: _) _ _); refine st_lss rfl _ _ _ _ rfl _ _ _ rfl rfl (fun h_ => ?_) (fun h_ => ?_)) | ((with_reducible show wpList _ _ _ (⟨_, .binOp .leq _ _ _ _, _, _, _, _⟩ :: _) _ _); refine st_leq rfl _ _ _ _ rfl _ _ _ rfl rfl (fun h_ => ?_) (fun h_ => ?_)) | ((with_reducible show wpList _ _ _ (⟨_, .binOp .gtr _ _ _ _, _, _, _, _⟩ :: _) _ _); refine st_gtr rfl _ _ _ _ rfl _ _ _ rfl rfl (fun h_ => ?_) (fun h_ => ?_)) | ((with_reducible show wpList _ _ _ (⟨_, .binOp .geq _ _ _ _, _, _, _, _⟩ :: _) _ _); refine st_geq rfl _ _ _ _ rfl _ _ _ rfl rfl (fun h_ => ?_) (fun h_ => ?_)) | ((with_reducible show wpList _ _ _ (⟨_, .binOp .eql _ _ _ _, _, _, _, _⟩ :: _) _ _); refine st_eql rfl _ _ _ _ rfl _ _ _ rfl rfl (fun h_ => ?_) (fun h_ => ?_)) | ((with_reducible show wpList _ _ _ (⟨_, .binOp .neq _ _ _ _, _, _, _, _⟩ :: _) _ _); refine st_neq rfl _ _ _ _ rfl _ _ _ rfl rfl (fun h_ => ?_) (fun h_ => ?_))) <;> go_prune))
                exact ⟨⟨k + 1, b + 1, _, L, by go_num, by go_num, rfl, by omega, by omega, by omega, by omega, HO, hS⟩, by simp [intOf]; omega⟩
              · go_wp2_with (first
                  | ((with_reducible show wpList _ _ _ (⟨_, .binOp .shr _ _ _ _, _, _, _, _⟩ :: _) _ _); refine st_shrN rfl _ _ _ _ rfl _ _ rfl rfl (by omega) ?_)
                  | ((with_reducible show wpList _ _ _ (⟨some 44, _, _, _, _, _⟩ :: _) _ _); refine st_rem2 rfl _ _ _ _ rfl _ rfl rfl ?_)
                  | ((with_reducible show wpList _ _ _ (⟨some 45, _, _, _, _, _⟩ :: _) _ _); refine st_btest rfl _ _ _ _ rfl _ _ rfl rfl hbit ?_)
                  | ((with_reducible show wpList _ _ _ (⟨_, .binOp _ _ _ _ _, _, _, _, _⟩ :: _) _ _); (first | ((with_reducible show wpList _ _ _ (⟨_, .binOp .lss _ _ _ _, _, _, _, _⟩ :: _) _ _); refine st_lss rfl _ _ _ _ rfl _ _ _ rfl rfl (fun h_ => ?_) (fun h_ => ?_)) | ((with_reducible show wpList _ _ _ (⟨_, .binOp .leq _ _ _ _, _, _, _, _⟩ :: _) _ _); refine st_leq rfl _ _ _ _ rfl _ _ _ rfl rfl (fun h_ => ?_) (fun h_ => ?_)) | ((with_reducible show wpList _ _ _ (⟨_, .binOp .gtr _ _ _ _, _, _, _, _⟩ :: _) _ _); refine st_gtr rfl _ _ _ _ rfl _ _ _ rfl rfl (fun h_ => ?_) (fun h_ => ?_)) | ((with_reducible show wpList _ _ _ (⟨_, .binOp .geq _ _ _ _, _, _, _, _⟩ :: _) _ _); refine st_geq rfl _ _ _ _ rfl _ _ _ rfl rfl (fun h_ => ?_) (fun h_ => ?_)) | ((with_reducible show wpList _ _ _ (⟨_, .binOp .eql _ _ _ _, _, _, _, _⟩ :: _) _ _); refine st_eql rfl _ _ _ _ rfl _ _ _ rfl rfl (fun h_ => ?_) (fun h_ => ?_)) | ((with_reducible show wpList _ _ _ (⟨_, .binOp .neq _ _ _ _, _, _, _, _⟩ :: _) _ _); refine st_neq rfl _ _ _ _ rfl _ _ _ rfl rfl (fun h_ => ?_) (fun h_ => ?_))) <;> go_prune))
                have f1 := Lib.hid (natI_at (l := l) (k := i) (by omega))
                have f2 := Lib.hid (natI_at (l := l) (k := k) (by omega))
                have b1 := HL.out (l.getD i 0) (by rw [List.getD_eq_getElem?_getD, List.getElem?_eq_getElem (by omega)]; exact List.getElem_mem _)
                have b2 := HL.out (l.getD k 0) (by rw [List.getD_eq_getElem?_getD, List.getElem?_eq_getElem (by omega)]; exact List.getElem_mem _)
                generalize l.getD i 0 = y1 at *
                generalize l.getD k 0 = y2 at *
                obtain ⟨C, hC⟩ : ∃ C : World → Prop, C = fun w => St w0 w [.own pv 50 2 L.length (pcells L)] K := ⟨_, rfl⟩
                obtain ⟨S, hSS⟩ : ∃ S : Value → World → Prop, S = fun r w => ∃ (v : Value) (z : Int) (L' : List (Nat × Nat)), r = .tuple #[v, .int .i64 z] ∧ HOK L' ∧ Six L' ∧ L'.length ≤ L.length + 1 ∧ St w0 w [.own v 50 2 L'.length (pcells L')] K := ⟨_, rfl⟩
                have HC2 : Hid (∀ w, C w → St w0 w [.own pv 50 2 L.length (pcells L)] K) := Lib.hid fun w h => by rw [hC] at h; exact h
                have HC3 : Hid (∀ w, St w0 w [.own pv 50 2 L.length (pcells L)] K → C w) := Lib.hid fun w h => by rw [hC]; exact h
                have HS2 : Hid (∀ r w, S r w → ∃ (v : Value) (z : Int) (L' : List (Nat × Nat)), r = .tuple #[v, .int .i64 z] ∧ HOK L' ∧ Six L' ∧ L'.length ≤ L.length + 1 ∧ St w0 w [.own v 50 2 L'.length (pcells L')] K) := Lib.hid fun r w h => by rw [hSS] at h; exact h
                have HS3 : Hid (∀ r w, (∃ (v : Value) (z : Int) (L' : List (Nat × Nat)), r = .tuple #[v, .int .i64 z] ∧ HOK L' ∧ Six L' ∧ L'.length ≤ L.length + 1 ∧ St w0 w [.own v 50 2 L'.length (pcells L')] K) → S r w) := Lib.hid fun r w h => by rw [hSS]; exact h
                have hJ0 : OJ C S (wr.drew, none) := OJ.start (HC3.out _ hS.drew)
                have hN0 := ON.start 9 wr.drew
                clear hC hSS hS
                have hRr := @OR.refl C S
                have hRt := @OR.trans C S
                refine wp_region_ghost (fun i__ v w => match i__ with
                  | 0 => v = pv
                  | 1 => v = .slice (some ⟨bo, oo, none⟩) 6 co
                  | 2 => v = .int .i64 ((i : Nat) : Int)
                  | 3 => v = .pointer (some ⟨bo, oo + (i) * 1, none⟩)
                  | 4 => v = .int .i64 ((y1 : Nat) : Int)
                  | 5 => v = .slice (some ⟨bo, oo, none⟩) 6 co
                  | 6 => v = .int .i64 ((k : Nat) : Int)
                  | 7 => v = .pointer (some ⟨bo, oo + (k) * 1, none⟩)
                  | 8 => v = .int .i64 ((y2 : Nat) : Int)
                  | 9 => w.2 = some v ∧ isTup2 v
                  | 10 => w.2 = some v ∧ isTup2 v
                  | 11 => ∃ x y : Value, w.2 = some (.tuple #[x, y]) ∧ v = x
                  | 12 => True
                  | 13 => ∃ x y : Value, w.2 = some (.tuple #[x, y]) ∧ v = x
                  | _ => True) (OR C S) (ON 9) (none) (by kernel_rfl) (by kernel_rfl) hRr hRt ?mono ?hN ⟨?r0, ?r1, ?r2, ?r3, ?r4, ?r5, ?r6, ?r7, ?r8, ?r9, ?r10, ?r11, ?r12, ?r13, trivial⟩ ?post
                case hN => first | assumption | (intro i; (try dsimp only); split <;> first | trivial | assumption | (left; assumption))
                case mono =>
                  intro i v w w' h hb
                  match i, h with
                  | 0, h => exact h
                  | 1, h => exact h
                  | 2, h => exact h
                  | 3, h => exact h
                  | 4, h => exact h
                  | 5, h => exact h
                  | 6, h => exact h
                  | 7, h => exact h
                  | 8, h => exact h
                  | 9, h => exact ⟨hb.2 _ h.1, h.2⟩
                  | 10, h => exact ⟨hb.2 _ h.1, h.2⟩
                  | 11, h => exact by obtain ⟨x, y, h1, h2⟩ := h; exact ⟨x, y, hb.2 _ h1, h2⟩
                  | 12, h => exact h
                  | 13, h => exact by obtain ⟨x, y, h1, h2⟩ := h; exact ⟨x, y, hb.2 _ h1, h2⟩
                  | _ + 14, h => trivial
                case r0 =>
                  refine truleGh fun b__ w hW hN hold hpre => ⟨fun hwant K hK => ?_, fun hwant => ?_⟩
                  · clear hwant
                    have e5 : b__.eval (.tmp 5) = pv := (hold 5 (by kernel_rfl)).trans rfl
                    exact opw_move rfl e5 (hK _ _ rfl ⟨hRr _, fun _ _ h => h⟩)
                  · rw [want_none rfl] at hwant; cases hwant
                case r1 =>
                  refine truleGh fun b__ w hW hN hold hpre => ⟨fun hwant K hK => ?_, fun hwant => ?_⟩
                  · clear hwant
                    have e3 : b__.eval (.tmp 3) = .slice (some ⟨bo, oo, none⟩) 6 co := (hold 3 (by kernel_rfl)).trans rfl
                    exact opw_move rfl e3 (hK _ _ rfl ⟨hRr _, fun _ _ h => h⟩)
                  · rw [want_none rfl] at hwant; cases hwant
                case r2 =>
                  refine truleGh fun b__ w hW hN hold hpre => ⟨fun hwant K hK => ?_, fun hwant => ?_⟩
                  · clear hwant
                    have e7 : b__.eval (.tmp 7) = .int .i64 ((i : Nat) : Int) := (hold 7 (by kernel_rfl)).trans rfl
                    exact opw_move rfl e7 (hK _ _ rfl ⟨hRr _, fun _ _ h => h⟩)
                  · rw [want_none rfl] at hwant; cases hwant
                case r3 =>
                  refine truleGh fun b__ w hW hN hold hpre => ⟨fun hwant K hK => ?_, fun hwant => ?_⟩
                  · clear hwant
                    have e48 : b__.eval (.tmp 48) = .slice (some ⟨bo, oo, none⟩) 6 co := hpre ⟨1, _⟩ (Array.mem_of_getElem? (i := 0) rfl) rfl _ _ rfl rfl
                    have e49 : b__.eval (.tmp 49) = .int .i64 ((i : Nat) : Int) := hpre ⟨2, _⟩ (Array.mem_of_getElem? (i := 1) rfl) rfl _ _ rfl rfl
                    exact opw_iaddr rfl e48 e49 (run_iaddr_lit (m := i) Tryd.underlying31 (by kernel_rfl) (by omega) (by omega)) (hK _ _ rfl ⟨hRr _, fun _ _ h => h⟩)
                  · rw [want_none rfl] at hwant; cases hwant
                case r4 =>
                  refine truleGh fun b__ w hW hN hold hpre => ⟨fun hwant K hK => ?_, fun hwant => ?_⟩
                  · clear hwant
                    have e50 : b__.eval (.tmp 50) = .pointer (some ⟨bo, oo + (i) * 1, none⟩) := hpre ⟨3, _⟩ (Array.mem_of_getElem? (i := 0) rfl) rfl _ _ rfl rfl
                    exact opw_cell rfl e50 (by kernel_rfl) (by rw [Nat.mul_one]; exact sl_cell (kq _ _ (HC2.out _ (hW.1 hJ0).1).ro) f1.out) (hK _ _ rfl ⟨hRr _, fun _ _ h => h⟩)
                  · rw [want_none rfl] at hwant; cases hwant
                case r5 =>
                  refine truleGh fun b__ w hW hN hold hpre => ⟨fun hwant K hK => ?_, fun hwant => ?_⟩
                  · clear hwant
                    have e3 : b__.eval (.tmp 3) = .slice (some ⟨bo, oo, none⟩) 6 co := (hold 3 (by kernel_rfl)).trans rfl
                    exact opw_move rfl e3 (hK _ _ rfl ⟨hRr _, fun _ _ h => h⟩)
                  · rw [want_none rfl] at hwant; cases hwant
                case r6 =>
                  refine truleGh fun b__ w hW hN hold hpre => ⟨fun hwant K hK => ?_, fun hwant => ?_⟩
                  · clear hwant
                    have e8 : b__.eval (.tmp 8) = .int .i64 ((k : Nat) : Int) := (hold 8 (by kernel_rfl)).trans rfl
                    exact opw_move rfl e8 (hK _ _ rfl ⟨hRr _, fun _ _ h => h⟩)
                  · rw [want_none rfl] at hwant; cases hwant
                case r7 =>
                  refine truleGh fun b__ w hW hN hold hpre => ⟨fun hwant K hK => ?_, fun hwant => ?_⟩
                  · clear hwant
                    have e52 : b__.eval (.tmp 52) = .slice (some ⟨bo, oo, none⟩) 6 co := hpre ⟨5, _⟩ (Array.mem_of_getElem? (i := 0) rfl) rfl _ _ rfl rfl
                    have e53 : b__.eval (.tmp 53) = .int .i64 ((k : Nat) : Int) := hpre ⟨6, _⟩ (Array.mem_of_getElem? (i := 1) rfl) rfl _ _ rfl rfl
                    exact opw_iaddr rfl e52 e53 (run_iaddr_lit (m := k) Tryd.underlying31 (by kernel_rfl) (by omega) (by omega)) (hK _ _ rfl ⟨hRr _, fun _ _ h => h⟩)
                  · rw [want_none rfl] at hwant; cases hwant
                case r8 =>
                  refine truleGh fun b__ w hW hN hold hpre => ⟨fun hwant K hK => ?_, fun hwant => ?_⟩
                  · clear hwant
                    have e54 : b__.eval (.tmp 54) = .pointer (some ⟨bo, oo + (k) * 1, none⟩) := hpre ⟨7, _⟩ (Array.mem_of_getElem? (i := 0) rfl) rfl _ _ rfl rfl
                    exact opw_cell rfl e54 (by kernel_rfl) (by rw [Nat.mul_one]; exact sl_cell (kq _ _ (HC2.out _ (hW.1 hJ0).1).ro) f2.out) (hK _ _ rfl ⟨hRr _, fun _ _ h => h⟩)
                  · rw [want_none rfl] at hwant; cases hwant
                case r9 =>
                  refine truleGh fun b__ w hW hN hold hpre => ⟨fun hwant K hK => ?_, fun hwant => ?_⟩
                  · clear hwant
                    have e47 : b__.eval (.tmp 47) = pv := hpre ⟨0, _⟩ (Array.mem_of_getElem? (i := 0) rfl) rfl _ _ rfl rfl
                    have e51 : b__.eval (.tmp 51) = .int .i64 ((y1 : Nat) : Int) := hpre ⟨4, _⟩ (Array.mem_of_getElem? (i := 1) rfl) rfl _ _ rfl rfl
                    have e55 : b__.eval (.tmp 55) = .int .i64 ((y2 : Nat) : Int) := hpre ⟨8, _⟩ (Array.mem_of_getElem? (i := 2) rfl) rfl _ _ rfl rfl
                    exact one_call isTup2 rfl (by kernel_rfl) (by simp only [List.map_cons, List.map_nil, e47, e51, e55]) (rlink_any (Sl.of_own ((HC2.out _ (hW.1 hJ0).1).own 0 rfl)) HO.out.1.inr (by omega) ((y1 : Nat) : Int) ((y2 : Nat) : Int)) hN (fun e w' h => by obtain ⟨v, z, L', rfl, h1, h2, h3, h4, h5⟩ := h.step (HC2.out _ (hW.1 hJ0).1) HO.out.1 HO.out.2 (by omega) (by omega); exact ⟨_, rfl, HC3.out _ h5, HS3.out _ _ ⟨v, z, L', rfl, h1, h2, h3, h4⟩, _, _, rfl⟩) hK
                  · rw [want_none rfl] at hwant; cases hwant
                case r10 =>
                  refine truleGh fun b__ w hW hN hold hpre => ⟨fun hwant K hK => ?_, fun hwant => ?_⟩
                  · clear hwant
                    have e56 : (fun (v : Value) (w : World × _) => w.2 = some v ∧ isTup2 v) (b__.eval (.tmp 56)) w := hpre ⟨9, _⟩ (Array.mem_of_getElem? (i := 0) rfl) rfl _ _ rfl rfl
                    exact opw_move rfl rfl (hK _ _ e56 ⟨hRr _, fun _ _ h => h⟩)
                  · rw [want_none rfl] at hwant; cases hwant
                case r11 =>
                  refine truleGh fun b__ w hW hN hold hpre => ⟨fun hwant K hK => ?_, fun hwant => ?_⟩
                  · clear hwant
                    have e46 : (fun (v : Value) (w : World × _) => w.2 = some v ∧ isTup2 v) (b__.eval (.tmp 46)) w := hpre ⟨10, _⟩ (Array.mem_of_getElem? (i := 0) rfl) rfl _ _ rfl rfl
                    obtain ⟨hd, x, y, hv⟩ := e46
                    rw [hv] at hd
                    exact opw_extract rfl hv rfl (hK _ _ ⟨x, y, hd, rfl⟩ ⟨hRr _, fun _ _ h => h⟩)
                  · rw [want_none rfl] at hwant; cases hwant
                case r12 =>
                  refine truleGh fun b__ w hW hN hold hpre => ⟨fun hwant K hK => ?_, fun hwant => ?_⟩
                  · clear hwant
                    have e46 : (fun (v : Value) (w : World × _) => w.2 = some v ∧ isTup2 v) (b__.eval (.tmp 46)) w := hpre ⟨10, _⟩ (Array.mem_of_getElem? (i := 0) rfl) rfl _ _ rfl rfl
                    obtain ⟨hd, x, y, hv⟩ := e46
                    exact opw_extract rfl hv rfl (hK _ _ trivial ⟨hRr _, fun _ _ h => h⟩)
                  · rw [want_none rfl] at hwant; cases hwant
                case r13 =>
                  refine truleGh fun b__ w hW hN hold hpre => ⟨fun hwant K hK => ?_, fun hwant => ?_⟩
                  · clear hwant
                    have e57 : (fun (v : Value) (w : World × _) => ∃ x y : Value, w.2 = some (.tuple #[x, y]) ∧ v = x) (b__.eval (.tmp 57)) w := hpre ⟨11, _⟩ (Array.mem_of_getElem? (i := 0) rfl) rfl _ _ rfl rfl
                    exact opw_assign rfl rfl (hK _ _ e57 ⟨hRr _, fun _ _ h => h⟩)
                  · rw [want_none rfl] at hwant; cases hwant
                case post =>
                  intro b__ wz hW hdf hsz hold hT hZ
                  have e47 : b__.eval (.tmp 47) = pv := hT 0 _ 47 rfl rfl
                  have e48 : b__.eval (.tmp 48) = .slice (some ⟨bo, oo, none⟩) 6 co := hT 1 _ 48 rfl rfl
                  have e49 : b__.eval (.tmp 49) = .int .i64 ((i : Nat) : Int) := hT 2 _ 49 rfl rfl
                  have e50 : b__.eval (.tmp 50) = .pointer (some ⟨bo, oo + (i) * 1, none⟩) := hT 3 _ 50 rfl rfl
                  have e51 : b__.eval (.tmp 51) = .int .i64 ((y1 : Nat) : Int) := hT 4 _ 51 rfl rfl
                  have e52 : b__.eval (.tmp 52) = .slice (some ⟨bo, oo, none⟩) 6 co := hT 5 _ 52 rfl rfl
                  have e53 : b__.eval (.tmp 53) = .int .i64 ((k : Nat) : Int) := hT 6 _ 53 rfl rfl
                  have e54 : b__.eval (.tmp 54) = .pointer (some ⟨bo, oo + (k) * 1, none⟩) := hT 7 _ 54 rfl rfl
                  have e55 : b__.eval (.tmp 55) = .int .i64 ((y2 : Nat) : Int) := hT 8 _ 55 rfl rfl
                  have e56 : (fun (v : Value) (w : World × _) => w.2 = some v ∧ isTup2 v) (b__.eval (.tmp 56)) wz := hT 9 _ 56 rfl rfl
                  have e46 : (fun (v : Value) (w : World × _) => w.2 = some v ∧ isTup2 v) (b__.eval (.tmp 46)) wz := hT 10 _ 46 rfl rfl
                  have e57 : (fun (v : Value) (w : World × _) => ∃ x y : Value, w.2 = some (.tuple #[x, y]) ∧ v = x) (b__.eval (.tmp 57)) wz := hT 11 _ 57 rfl rfl
                  have e5 : (fun (v : Value) (w : World × _) => ∃ x y : Value, w.2 = some (.tuple #[x, y]) ∧ v = x) (b__.eval (.tmp 5)) wz := hT 13 _ 5 rfl rfl
                  obtain ⟨vs, hvs, hb⟩ := frame_of hdf hsz hold
                  replace e47 : vs 47 = pv := (hvs 47).symm.trans e47
                  replace e48 : vs 48 = .slice (some ⟨bo, oo, none⟩) 6 co := (hvs 48).symm.trans e48
                  replace e49 : vs 49 = .int .i64 ((i : Nat) : Int) := (hvs 49).symm.trans e49
                  replace e50 : vs 50 = .pointer (some ⟨bo, oo + (i) * 1, none⟩) := (hvs 50).symm.trans e50
                  replace e51 : vs 51 = .int .i64 ((y1 : Nat) : Int) := (hvs 51).symm.trans e51
                  replace e52 : vs 52 = .slice (some ⟨bo, oo, none⟩) 6 co := (hvs 52).symm.trans e52
                  replace e53 : vs 53 = .int .i64 ((k : Nat) : Int) := (hvs 53).symm.trans e53
                  replace e54 : vs 54 = .pointer (some ⟨bo, oo + (k) * 1, none⟩) := (hvs 54).symm.trans e54
                  replace e55 : vs 55 = .int .i64 ((y2 : Nat) : Int) := (hvs 55).symm.trans e55
                  replace e56 := (hvs 56) ▸ e56
                  replace e46 := (hvs 46) ▸ e46
                  replace e57 := (hvs 57) ▸ e57
                  replace e5 := (hvs 5) ▸ e5
                  subst hb
                  clear hvs hold hT hdf hsz
                  simp only [setAll, Act.put, List.setIfInBounds_toArray, List.set_cons_zero, List.set_cons_succ, List.getElem_toArray, List.getElem_cons_succ, List.getElem_cons_zero]
                  obtain ⟨x1, y1, d1, e5⟩ := e5
                  obtain ⟨v', z, L', hp, hO1, hO2, hLL, hS⟩ := HS2.out _ _ ((hW.1 hJ0).2 _ d1)
                  obtain ⟨rfl, rfl⟩ : x1 = v' ∧ y1 = .int .i64 z := by simpa using hp
                  rw [e5]
                  generalize wz.1 = wf at *
                  clear hJ0 hRr hRt hW hZ hN0 d1 e5 hp HC2 HC3 HS2 HS3
                  go_wp2_with fail
                  exact ⟨⟨k + 1, b + 1, _, L', by go_num, by go_num, rfl, by omega, by omega, by omega, by omega, Lib.hid ⟨hO1, hO2⟩, hS⟩, by simp [intOf]; omega⟩
            · go_wp2_with (first | ((with_reducible show wpList _ _ _ (⟨_, .binOp _ _ _ _ _, _, _, _, _⟩ :: _) _ _); (first | ((with_reducible show wpList _ _ _ (⟨_, .binOp .lss _ _ _ _, _, _, _, _⟩ :: _) _ _); refine st_lss rfl _ _ _ _ rfl _ _ _ rfl rfl (fun h_ => ?_) (fun h_ => ?_)) | ((with_reducible show wpList _ _ _ (⟨_, .binOp .leq _ _ _ _, _, _, _, _⟩ :: _) _ _); refine st_leq rfl _ _ _ _ rfl _ _ _ rfl rfl (fun h_ => ?_) (fun h_ => ?_)) | ((with_reducible show wpList _ _ _ (⟨_, .binOp .gtr _ _ _ _, _, _, _, _⟩ :: _) _ _); refine st_gtr rfl _ _ _ _ rfl _ _ _ rfl rfl (fun h_ => ?_) (fun h_ => ?_)) | ((with_reducible show wpList _ _ _ (⟨_, .binOp .geq _ _ _ _, _, _, _, _⟩ :: _) _ _); refine st_geq rfl _ _ _ _ rfl _ _ _ rfl rfl (fun h_ => ?_) (fun h_ => ?_)) | ((with_reducible show wpList _ _ _ (⟨_, .binOp .eql _ _ _ _, _, _, _, _⟩ :: _) _ _); refine st_eql rfl _ _ _ _ rfl _ _ _ rfl rfl (fun h_ => ?_) (fun h_ => ?_)) | ((with_reducible show wpList _ _ _ (⟨_, .binOp .neq _ _ _ _, _, _, _, _⟩ :: _) _ _); refine st_neq rfl _ _ _ _ rfl _ _ _ rfl rfl (fun h_ => ?_) (fun h_ => ?_))) <;> go_prune))
              exact ⟨⟨i + 1, b, _, L, by go_num, rfl, rfl, by omega, by omega, hLb, HO, hS⟩, by simp [intOf]; omega⟩
        · go_wp2_with (first | ((with_reducible show wpList _ _ _ (⟨_, .binOp _ _ _ _ _, _, _, _, _⟩ :: _) _ _); (first | ((with_reducible show wpList _ _ _ (⟨_, .binOp .lss _ _ _ _, _, _, _, _⟩ :: _) _ _); refine st_lss rfl _ _ _ _ rfl _ _ _ rfl rfl (fun h_ => ?_) (fun h_ => ?_)) | ((with_reducible show wpList _ _ _ (⟨_, .binOp .leq _ _ _ _, _, _, _, _⟩ :: _) _ _); refine st_leq rfl _ _ _ _ rfl _ _ _ rfl rfl (fun h_ => ?_) (fun h_ => ?_)) | ((with_reducible show wpList _ _ _ (⟨_, .binOp .gtr _ _ _ _, _, _, _, _⟩ :: _) _ _); refine st_gtr rfl _ _ _ _ rfl _ _ _ rfl rfl (fun h_ => ?_) (fun h_ => ?_)) | ((with_reducible show wpList _ _ _ (⟨_, .binOp .geq _ _ _ _, _, _, _, _⟩ :: _) _ _); refine st_geq rfl _ _ _ _ rfl _ _ _ rfl rfl (fun h_ => ?_) (fun h_ => ?_)) | ((with_reducible show wpList _ _ _ (⟨_, .binOp .eql _ _ _ _, _, _, _, _⟩ :: _) _ _); refine st_eql rfl _ _ _ _ rfl _ _ _ rfl rfl (fun h_ => ?_) (fun h_ => ?_)) | ((with_reducible show wpList _ _ _ (⟨_, .binOp .neq _ _ _ _, _, _, _, _⟩ :: _) _ _); refine st_neq rfl _ _ _ _ rfl _ _ _ rfl rfl (fun h_ => ?_) (fun h_ => ?_))) <;> go_prune))
          go_ret
          exact ⟨_, rfl, L, HO.out.1, HO.out.2, by omega, hS.mono (Stable.pure True) fun _ _ _ => trivial⟩
end Go.Proofs.YtmlkgaiphpimiaaDoor
namespace Go.Proofs.YtmlkgaiphpimiaaDoor
open Go.RowKit
attribute [local go_sem ↓] Go.wp_at_zero Go.wp_at_succ
set_option maxRecDepth 20000

/-- the cells of a list of cubes given by masks -/
def rcells (l : List (Nat × Nat)) : List Value := l.flatMap fun z => [.int .u64 (z.1 : Nat), .int .u64 (z.2 : Nat)]
theorem rcells_at (l : List (Nat × Nat)) (k : Nat) (h : k < l.length) : (rcells l)[k * 2]? = some (.int .u64 ((l.getD k (0, 0)).1 : Nat)) ∧ (rcells l)[k * 2 + 1]? = some (.int .u64 ((l.getD k (0, 0)).2 : Nat)) := by
  induction l generalizing k with
  | nil => simp at h
  | cons z r ih =>
    cases k with
    | zero => simp [rcells]
    | succ k =>
      have := ih k (by simpa using h)
      rw [show (k + 1) * 2 = k * 2 + 2 by omega]
      simpa [rcells] using this
/-- v is a list of cubes as the references have it -/
def RCubes (w : World) (D : Nat → Prop) (v : Value) (l : List (Nat × Nat)) : Prop := Sl w D 2 v l.length (rcells l)
theorem RCubes.keep {w w' : World} {D : Nat → Prop} {v : Value} {l : List (Nat × Nat)} (h : RCubes w D v l) (hsz : w.heap.size ≤ w'.heap.size) (hk : ∀ p : Addr, D p.block → p.block < w.heap.size → w'.cell? p = w.cell? p) : RCubes w' D v l := Sl.keep h hsz hk
theorem RCubes.imp {w : World} {D D' : Nat → Prop} {v : Value} {l : List (Nat × Nat)} (h : RCubes w D v l) (hD : ∀ b, D b → b < w.heap.size → D' b) : RCubes w D' v l := Sl.imp h hD
theorem RCubes.ext {w w' : World} {D : Nat → Prop} {v : Value} {l : List (Nat × Nat)} (h : RCubes w D v l) (hb : Below w.heap.size w w') : RCubes w' D v l := h.keep hb.size fun _ _ hp => hb.cell hp
theorem RCubes.drew {w : World} {D : Nat → Prop} {v : Value} {l : List (Nat × Nat)} (h : RCubes w D v l) : RCubes w.drew D v l := h.keep (Nat.le_refl _) fun _ _ _ => rfl
theorem RCubes.alloc {w : World} {D : Nat → Prop} {v : Value} {l : List (Nat × Nat)} (h : RCubes w D v l) (o : Obj) : RCubes (w.alloc o) D v l := h.keep (by simp) fun p _ hp => World.cell?_alloc_lt w o p hp
theorem RCubes.upd {g : Nat} {w w' : World} {D : Nat → Prop} {v : Value} {l : List (Nat × Nat)} (h : RCubes w D v l) (hU : Upd g w w') (hD : ∀ b, D b → b < w.heap.size → b ≠ g) : RCubes w' D v l := h.keep (Nat.le_of_eq hU.size.symm) fun _ h1 h2 => hU.cell (hD _ h1 h2)
theorem RCubes.shape {w : World} {D : Nat → Prop} {v : Value} {l : List (Nat × Nat)} (h : RCubes w D v l) : ∃ A c, v = .slice A l.length c ∧ l.length ≤ c ∧ c ≤ 9223372036854775807 := Sl.shape h
theorem RCubes.at_ {w : World} {D : Nat → Prop} {A : Option Addr} {c : Nat} {l : List (Nat × Nat)} (h : RCubes w D (.slice A l.length c) l) {k : Nat} (hk : k < l.length) :
    ∃ b o, A = some ⟨b, o, none⟩ ∧ D b ∧ b < w.heap.size ∧ w.cell? ⟨b, o + k * 2, none⟩ = some (.int .u64 ((l.getD k (0, 0)).1 : Nat)) ∧ w.cell? ⟨b, o + k * 2 + 1, none⟩ = some (.int .u64 ((l.getD k (0, 0)).2 : Nat)) := by
  obtain ⟨_, A', c', h1, _, _, h2⟩ := h
  obtain ⟨b, o, h3, h4, h6, h5⟩ := h2 (by omega)
  injection h1 with h1
  obtain ⟨g1, g2⟩ := rcells_at l k hk
  exact ⟨b, o, h1.trans h3, h4, h6, h5 _ _ g1, by have := h5 _ _ g2; rw [← Nat.add_assoc] at this; exact this⟩

/-- the cells xs are the cubes l -/
def CubeCells (w : World) (D : Nat → Prop) (xs : List Value) (l : List (Nat × Nat)) : Prop :=
  ∀ i y n, l[i]? = some (y, n) → ∃ a b, xs[i * 2]? = some a ∧ xs[i * 2 + 1]? = some b ∧ IsSet w D (.agg #[a]) y ∧ IsSet w D (.agg #[b]) n
theorem CubeCells.keep {w w' : World} {D : Nat → Prop} {xs : List Value} {l : List (Nat × Nat)} (h : CubeCells w D xs l) (hsz : w.heap.size ≤ w'.heap.size) (hk : ∀ p : Addr, D p.block → p.block < w.heap.size → w'.cell? p = w.cell? p) : CubeCells w' D xs l := fun i y n hi => by
  obtain ⟨a, b, h1, h2, h3, h4⟩ := h i y n hi
  exact ⟨a, b, h1, h2, h3.keep hsz hk, h4.keep hsz hk⟩
theorem CubeCells.imp {w : World} {D D' : Nat → Prop} {xs : List Value} {l : List (Nat × Nat)} (h : CubeCells w D xs l) (hD : ∀ b, D b → b < w.heap.size → D' b) : CubeCells w D' xs l := fun i y n hi => by
  obtain ⟨a, b, h1, h2, h3, h4⟩ := h i y n hi
  exact ⟨a, b, h1, h2, h3.imp hD, h4.imp hD⟩
theorem CubeCells.ext {w w' : World} {D : Nat → Prop} {xs : List Value} {l : List (Nat × Nat)} (h : CubeCells w D xs l) (hb : Below w.heap.size w w') : CubeCells w' D xs l := h.keep hb.size fun _ _ hp => hb.cell hp
theorem CubeCells.drew {w : World} {D : Nat → Prop} {xs : List Value} {l : List (Nat × Nat)} (h : CubeCells w D xs l) : CubeCells w.drew D xs l := h.keep (Nat.le_refl _) fun _ _ _ => rfl
theorem CubeCells.alloc {w : World} {D : Nat → Prop} {xs : List Value} {l : List (Nat × Nat)} (h : CubeCells w D xs l) (o : Obj) : CubeCells (w.alloc o) D xs l := h.keep (by simp) fun p _ hp => World.cell?_alloc_lt w o p hp
theorem CubeCells.upd {g : Nat} {w w' : World} {D : Nat → Prop} {xs : List Value} {l : List (Nat × Nat)} (h : CubeCells w D xs l) (hU : Upd g w w') (hD : ∀ b, D b → b < w.heap.size → b ≠ g) : CubeCells w' D xs l := h.keep (Nat.le_of_eq hU.size.symm) fun _ h1 h2 => hU.cell (hD _ h1 h2)
theorem CubeCells.nil {w : World} {D : Nat → Prop} : CubeCells w D [] [] := fun i y n h => by simp at h
theorem CubeCells.cubes {w : World} {base : Nat} {v : Value} {xs : List Value} {l : List (Nat × Nat)} {e : TypeId} {D : Nat → Prop} (h : CubeCells w D xs l) (ho : w.ownsRow base e 2 v l.length xs) (hD : ∀ b, base ≤ b → D b) : IsCubes w D v l := ⟨xs, (Sl.of_own ho).imp fun b h1 _ => hD b h1, h⟩
def Small (l : List (Nat × Nat)) : Prop := ∀ z ∈ l, z.1 < T64 ∧ z.2 < T64
theorem Small.at_ {l : List (Nat × Nat)} (h : Small l) (k : Nat) (hk : k < l.length) : (l.getD k (0, 0)).1 < T64 ∧ (l.getD k (0, 0)).2 < T64 := h _ (by rw [List.getD_eq_getElem?_getD, List.getElem?_eq_getElem hk]; exact List.getElem_mem hk)

end Go.Proofs.YtmlkgaiphpimiaaDoor
namespace Go.Proofs.YtmlkgaiphpimiaaDoor
open Go.RowKit
attribute [local go_sem ↓] Go.wp_at_zero Go.wp_at_succ
set_option maxRecDepth 20000

/-- a raw cube -/
structure RawC where
  a : Nat
  b : Nat
  odd : Bool
def RawC.ok (x : RawC) : Prop := x.a < 256 ∧ x.b < 256
end Go.Proofs.YtmlkgaiphpimiaaDoor
namespace Go.Proofs.YtmlkgaiphpimiaaDoor
open Go.RowKit
attribute [local go_sem ↓] Go.wp_at_zero Go.wp_at_succ
set_option maxRecDepth 20000

/-- a raw certificate -/
structure RawCert where
  prob : Nat
  odd : Nat
  reach : Bool
  plan : List Int
  cubes : List RawC
def RawCert.ok (x : RawCert) : Prop := x.prob < 256 ∧ x.odd < 256 ∧ ∀ c ∈ x.cubes, c.ok
/-- the cells of a certificate -/
def cc (prob : List Nat) (r : Bool) (pv qv : Value) : Array Value := (u8s prob ++ [.bool r, pv, qv]).toArray
section
variable {w wr w1 w2 : World} {C : Nat} {par z : Array Value} {P : List Nat} {r : Bool} {plan plan' : List Int} {cubes cubes' : List (Nat × Nat)} {pv qv v : Value}
end

end Go.Proofs.YtmlkgaiphpimiaaDoor
namespace Go.Proofs.YtmlkgaiphpimiaaDoor
open Go.RowKit
attribute [local go_sem ↓] Go.wp_at_zero Go.wp_at_succ

end Go.Proofs.YtmlkgaiphpimiaaDoor
namespace Go.Proofs.YtmlkgaiphpimiaaDoor
open Go.RowKit
attribute [local go_sem ↓] Go.wp_at_zero Go.wp_at_succ
set_option maxRecDepth 20000

end Go.Proofs.YtmlkgaiphpimiaaDoor
namespace Go.Proofs.YtmlkgaiphpimiaaDoor
open Go.RowKit
attribute [local go_sem ↓] Go.wp_at_zero Go.wp_at_succ
set_option maxRecDepth 20000

theorem IsCubes.bound {w : World} {D : Nat → Prop} {v : Value} {l : List (Nat × Nat)} (h : IsCubes w D v l) : ∀ z ∈ l, z.1 < 2 ^ 4096 ∧ z.2 < 2 ^ 4096 := by
  intro z hz
  obtain ⟨i, hi, rfl⟩ := List.getElem_of_mem hz
  obtain ⟨xs, _, h2⟩ := h
  obtain ⟨a, b, _, _, h5, h6⟩ := h2 i l[i].1 l[i].2 (by simp [List.getElem?_eq_getElem hi])
  exact ⟨h5.bound, h6.bound⟩

end Go.Proofs.YtmlkgaiphpimiaaDoor
namespace Go.Proofs.YtmlkgaiphpimiaaDoor
open Go.RowKit
attribute [local go_sem ↓] Go.wp_at_zero Go.wp_at_succ
set_option maxRecDepth 20000

end Go.Proofs.YtmlkgaiphpimiaaDoor
namespace Go.Proofs.YtmlkgaiphpimiaaDoor
open Go.RowKit
attribute [local go_sem ↓] Go.wp_at_zero Go.wp_at_succ
set_option maxRecDepth 20000

end Go.Proofs.YtmlkgaiphpimiaaDoor
namespace Go.Proofs.YtmlkgaiphpimiaaDoor
open Go.RowKit
attribute [local go_sem ↓] Go.wp_at_zero Go.wp_at_succ
set_option maxRecDepth 20000

/-- the word of eight bytes, of which the n last are taken in -/
def lew (l : List Nat) (i : Nat) : Nat → Nat
  | 0 => 0
  | n + 1 => (lew l i n * 256) % T64 ||| l.getD (8 * i + (7 - n)) 0
theorem Bytes.getD {l : List Nat} (h : Bytes l) (k : Nat) : l.getD k 0 < 256 := by
  rcases Nat.lt_or_ge k l.length with h1 | h1
  · rw [List.getD_eq_getElem?_getD, List.getElem?_eq_getElem h1]; exact h _ (List.getElem_mem h1)
  · rw [List.getD_eq_getElem?_getD, List.getElem?_eq_none h1]; simp
def absW (a l : List Nat) (i : Nat) : Nat := a.getD i 0 ^^^ lew l i 8
def absorbK (a l : List Nat) : List Nat := perm (mixTo (absW a l) a 17)
end Go.Proofs.YtmlkgaiphpimiaaDoor
namespace Go.Proofs.YtmlkgaiphpimiaaDoor
open Go.RowKit
attribute [local go_sem ↓] Go.wp_at_zero Go.wp_at_succ
set_option maxRecDepth 20000

section
variable {w : World} {h : Nat} {t : TypeId} {st blk : List Nat} {u tot : Nat}
end
def blkOf (l : List Nat) (j : Nat) : List Nat := (l.drop (136 * j)).take 136
def stB (st l : List Nat) : Nat → List Nat
  | 0 => st
  | j + 1 => absorbK (stB st l j) (blkOf l j)
theorem Bytes.take {l : List Nat} (h : Bytes l) (k : Nat) : Bytes (l.take k) := fun x hx => h x (List.mem_of_mem_take hx)
theorem Bytes.drop {l : List Nat} (h : Bytes l) (k : Nat) : Bytes (l.drop k) := fun x hx => h x (List.mem_of_mem_drop hx)
theorem Bytes.append {a b : List Nat} (h : Bytes a) (k : Bytes b) : Bytes (a ++ b) := fun x hx => by rcases List.mem_append.1 hx with h1 | h1; exact h x h1; exact k x h1
theorem WF.row (w : World) (h : Nat) (cs : Array Value) : WF (fun _ => False) h w (w.setRow h cs) :=
  ⟨rfl, rfl, rfl, by simp, fun k _ hq _ => setRow_other w h k cs hq, fun k cs' t fr hk _ h3 => (setRow_other w h k cs hk).trans h3⟩

end Go.Proofs.YtmlkgaiphpimiaaDoor
namespace Go.Proofs.YtmlkgaiphpimiaaDoor
open Go.RowKit
attribute [local go_sem ↓] Go.wp_at_zero Go.wp_at_succ
set_option maxRecDepth 20000

section
variable {w : World} {b : Nat} {t : TypeId} {l : List Nat}
end
end Go.Proofs.YtmlkgaiphpimiaaDoor
namespace Go.Proofs.YtmlkgaiphpimiaaDoor
open Go.RowKit
attribute [local go_sem ↓] Go.wp_at_zero Go.wp_at_succ
set_option maxRecDepth 20000

end Go.Proofs.YtmlkgaiphpimiaaDoor
namespace Go.Proofs.YtmlkgaiphpimiaaDoor
open Go.RowKit
attribute [local go_sem ↓] Go.wp_at_zero Go.wp_at_succ
set_option maxRecDepth 20000

end Go.Proofs.YtmlkgaiphpimiaaDoor
namespace Go.Proofs.YtmlkgaiphpimiaaDoor
open Go.RowKit
attribute [local go_sem ↓] Go.wp_at_zero Go.wp_at_succ
set_option maxRecDepth 20000

/-- v is a certificate as the references have it -/
def IsRCert (w : World) (D : Nat → Prop) (v : Value) (c : CertD) : Prop :=
  ∃ pv qv, v = .agg (cc c.prob c.reach pv qv) ∧ c.prob.length = 32 ∧ Bytes c.prob ∧ Sl w D 1 pv c.plan.length (ints c.plan) ∧ RCubes w D qv c.cubes
theorem IsRCert.keep {w w' : World} {D : Nat → Prop} {v : Value} {c : CertD} (h : IsRCert w D v c) (hsz : w.heap.size ≤ w'.heap.size) (hk : ∀ p : Addr, D p.block → p.block < w.heap.size → w'.cell? p = w.cell? p) : IsRCert w' D v c := by
  obtain ⟨pv, qv, h1, h2, h3, h4, h5⟩ := h
  exact ⟨pv, qv, h1, h2, h3, h4.keep hsz hk, h5.keep hsz hk⟩
theorem IsRCert.imp {w : World} {D D' : Nat → Prop} {v : Value} {c : CertD} (h : IsRCert w D v c) (hD : ∀ b, D b → b < w.heap.size → D' b) : IsRCert w D' v c := by
  obtain ⟨pv, qv, h1, h2, h3, h4, h5⟩ := h
  exact ⟨pv, qv, h1, h2, h3, h4.imp hD, h5.imp hD⟩
theorem IsRCert.ext {w w' : World} {D : Nat → Prop} {v : Value} {c : CertD} (h : IsRCert w D v c) (hb : Below w.heap.size w w') : IsRCert w' D v c := h.keep hb.size fun _ _ hp => hb.cell hp
theorem IsRCert.drew {w : World} {D : Nat → Prop} {v : Value} {c : CertD} (h : IsRCert w D v c) : IsRCert w.drew D v c := h.keep (Nat.le_refl _) fun _ _ _ => rfl
theorem IsRCert.alloc {w : World} {D : Nat → Prop} {v : Value} {c : CertD} (h : IsRCert w D v c) (o : Obj) : IsRCert (w.alloc o) D v c := h.keep (by simp) fun p _ hp => World.cell?_alloc_lt w o p hp
theorem IsRCert.upd {g : Nat} {w w' : World} {D : Nat → Prop} {v : Value} {c : CertD} (h : IsRCert w D v c) (hU : Upd g w w') (hD : ∀ b, D b → b < w.heap.size → b ≠ g) : IsRCert w' D v c := h.keep (Nat.le_of_eq hU.size.symm) fun _ h1 h2 => hU.cell (hD _ h1 h2)
end Go.Proofs.YtmlkgaiphpimiaaDoor
namespace Go.Proofs.YtmlkgaiphpimiaaDoor
open Go.RowKit
attribute [local go_sem ↓] Go.wp_at_zero Go.wp_at_succ
set_option maxRecDepth 20000

/-- slices.Equal on slices of int -/
theorem sleq_any (u v : Value) (l m : List Int) (w : World) (D E : Nat → Prop) (hu : Sl w D 1 u l.length (ints l)) (hv : Sl w E 1 v m.length (ints m)) :
    Calls Tryd.prog 19 #[u, v] w (Ret (fun x _ => x = .bool (l == m)) w) := by
  obtain ⟨A, c, rfl, h1, h2⟩ := hu.shape
  obtain ⟨A', c', rfl, h3, h4⟩ := hv.shape
  by_cases hlen : l.length = m.length
  · rcases Nat.eq_zero_or_pos l.length with h0 | h0
    · obtain rfl : l = [] := List.eq_nil_of_length_eq_zero h0
      obtain rfl : m = [] := List.eq_nil_of_length_eq_zero (by simpa using hlen.symm)
      refine (Tryd.slices_Equal_int_empty A A' c 0 c' w (by omega)).mono ?_
      rintro e w' ⟨rfl, rfl⟩
      exact Ret.mk rfl (Below.refl _ _)
    · obtain ⟨b, o, rfl, _, _, hc⟩ := hu.int (k := 0) h0
      obtain ⟨b', o', rfl, _, _, hc'⟩ := hv.int (k := 0) (by omega)
      refine (Tryd.slices_Equal_int b o l.length c b' o' m.length c' l m w (Nat.le_refl _) (Nat.le_refl _) (by omega) (by omega) hc hc').mono ?_
      rintro e w' ⟨rfl, q, rfl⟩
      rw [List.take_length, List.take_length]
      exact Ret.mk rfl (bel_drewN (Below.refl _ _) _)
  · refine (Tryd.slices_Equal_int_lens A A' l.length c m.length c' w hlen).mono ?_
    rintro e w' ⟨rfl, rfl⟩
    refine Ret.mk ?_ (Below.refl _ _)
    have : (l == m) = false := by rw [beq_eq_false_iff_ne]; rintro rfl; exact hlen rfl
    rw [this]

end Go.Proofs.YtmlkgaiphpimiaaDoor
namespace Go.Proofs.YtmlkgaiphpimiaaDoor
open Go.RowKit
attribute [local go_sem ↓] Go.wp_at_zero Go.wp_at_succ
set_option maxRecDepth 20000
set_option exponentiation.threshold 5000

theorem sl_pair {w : World} {D : Nat → Prop} {n c b o j : Nat} {L : List (Nat × Nat)} (h : Sl w D 2 (.slice (some ⟨b, o, none⟩) n c) n (pcells L)) (hj : j < L.length) : w.rangeAt b (o + j * 2) [.int .i64 ((L.getD j (0, 0)).1 : Nat), .int .i64 ((L.getD j (0, 0)).2 : Nat)] := fun i v hi => by
  obtain ⟨h1, h2⟩ := pcells_at L j hj
  match i, hi with
  | 0, hi =>
    obtain rfl := Option.some.inj (show some _ = some v from hi)
    have h3 := sl_cell (o := o) (b := b) (xs := pcells L) h h1
    exact h3
  | 1, hi =>
    obtain rfl := Option.some.inj (show some _ = some v from hi)
    have h3 := sl_cell (o := o) (b := b) (xs := pcells L) h h2
    rw [← Nat.add_assoc] at h3
    exact h3
  | i + 2, hi => simp at hi
theorem peq_any {w0 : World} {D E : Nat → Prop} {u v : Value} {L M : List (Nat × Nat)} (hu : Sl w0 D 2 u L.length (pcells L)) (hv : Sl w0 E 2 v M.length (pcells M)) (hl : L.length ≤ 1000000) :
    Calls Tryd.prog 30 #[u, v] w0 (Ret (fun x _ => x = .bool (decide (L = M))) w0) := by
  obtain ⟨A, c, rfl, _, _⟩ := hu.shape
  obtain ⟨B, d, rfl, _, _⟩ := hv.shape
  obtain ⟨K, k1, k2, hS⟩ : ∃ K : (Nat → Prop) → World → Prop, (∀ D w, K D w → Sl w D 2 (.slice A L.length c) L.length (pcells L)) ∧ (∀ D w, K D w → Sl w D 2 (.slice B M.length d) M.length (pcells M)) ∧ St w0 w0 [] K := ⟨_, fun _ _ h => h.1, fun _ _ h => h.2, St.start (D := fun _ => True) ((stable_sl (by decide)).and (stable_sl (by decide))) ⟨hu.imp fun _ _ _ => trivial, hv.imp fun _ _ _ => trivial⟩⟩
  clear hu hv
  by_cases hlm : L.length = M.length
  · have HE : Hid ((∀ t, t < L.length → L.getD t (0, 0) = M.getD t (0, 0)) → L = M) := Lib.hid fun h => List.ext_getElem hlm fun i h1 h2 => by
      have := h i h1
      rwa [List.getD_eq_getElem?_getD, List.getD_eq_getElem?_getD, List.getElem?_eq_getElem h1, List.getElem?_eq_getElem h2] at this
    go_enter Tryd.func30, Tryd.ntmps30
    go_wp2_with (first | ((with_reducible show wpList _ _ _ (⟨_, .binOp _ _ _ _ _, _, _, _, _⟩ :: _) _ _); (first | ((with_reducible show wpList _ _ _ (⟨_, .binOp .lss _ _ _ _, _, _, _, _⟩ :: _) _ _); refine st_lss rfl _ _ _ _ rfl _ _ _ rfl rfl (fun h_ => ?_) (fun h_ => ?_)) | ((with_reducible show wpList _ _ _ (⟨_, .binOp .leq _ _ _ _, _, _, _, _⟩ :: _) _ _); refine st_leq rfl _ _ _ _ rfl _ _ _ rfl rfl (fun h_ => ?_) (fun h_ => ?_)) | ((with_reducible show wpList _ _ _ (⟨_, .binOp .gtr _ _ _ _, _, _, _, _⟩ :: _) _ _); refine st_gtr rfl _ _ _ _ rfl _ _ _ rfl rfl (fun h_ => ?_) (fun h_ => ?_)) | ((with_reducible show wpList _ _ _ (⟨_, .binOp .geq _ _ _ _, _, _, _, _⟩ :: _) _ _); refine st_geq rfl _ _ _ _ rfl _ _ _ rfl rfl (fun h_ => ?_) (fun h_ => ?_)) | ((with_reducible show wpList _ _ _ (⟨_, .binOp .eql _ _ _ _, _, _, _, _⟩ :: _) _ _); refine st_eql rfl _ _ _ _ rfl _ _ _ rfl rfl (fun h_ => ?_) (fun h_ => ?_)) | ((with_reducible show wpList _ _ _ (⟨_, .binOp .neq _ _ _ _, _, _, _, _⟩ :: _) _ _); refine st_neq rfl _ _ _ _ rfl _ _ _ rfl rfl (fun h_ => ?_) (fun h_ => ?_))) <;> go_prune))
    go_loopw [13] (fun i wr => ∃ j : Nat, j ≤ L.length ∧ i = .int .i64 (j : Nat) ∧ Hid (∀ t, t < j → L.getD t (0, 0) = M.getD t (0, 0)) ∧ St w0 wr [] K) (fun i _ => L.length - (intOf i).toNat)
    case atStart => exact ⟨0, by omega, rfl, Lib.hid (fun t h => absurd h (by omega)), hS⟩
    case round =>
      clear hS
      obtain ⟨j, hj, rfl, HJ, hS⟩ := hrel
      by_cases hlj : j < L.length
      · have hmj : j < M.length := by omega
        obtain ⟨b1, o1, rfl⟩ : ∃ b o, A = some ⟨b, o, none⟩ := by
          obtain ⟨_, A2, c2, e2, _, _, h5⟩ := k1 _ _ hS.ro
          obtain ⟨b, o, h6, _⟩ := h5 (by omega)
          injection e2 with e2
          exact ⟨b, o, e2.trans h6⟩
        obtain ⟨b2, o2, rfl⟩ : ∃ b o, B = some ⟨b, o, none⟩ := by
          obtain ⟨_, A2, c2, e2, _, _, h5⟩ := k2 _ _ hS.ro
          obtain ⟨b, o, h6, _⟩ := h5 (by omega)
          injection e2 with e2
          exact ⟨b, o, e2.trans h6⟩
        have p1 := Lib.hid (fun (w : World) (h : K (Free []) w) => sl_pair (k1 _ _ h) hlj)
        have p2 := Lib.hid (fun (w : World) (h : K (Free []) w) => sl_pair (k2 _ _ h) hmj)
        have HJ2 : Hid (L.getD j (0, 0) = M.getD j (0, 0) → ∀ t, t < j + 1 → L.getD t (0, 0) = M.getD t (0, 0)) := Lib.hid fun h t ht => if e : t = j then e ▸ h else HJ.out t (by omega)
        have HNE : Hid (L.getD j (0, 0) ≠ M.getD j (0, 0) → ¬ L = M) := Lib.hid fun h e => h (by rw [e])
        generalize L.getD j (0, 0) = x at *
        generalize M.getD j (0, 0) = y at *
        go_wp2_with (first | ((with_reducible show wpList _ _ _ (⟨_, .binOp _ _ _ _ _, _, _, _, _⟩ :: _) _ _); (first | ((with_reducible show wpList _ _ _ (⟨_, .binOp .lss _ _ _ _, _, _, _, _⟩ :: _) _ _); refine st_lss rfl _ _ _ _ rfl _ _ _ rfl rfl (fun h_ => ?_) (fun h_ => ?_)) | ((with_reducible show wpList _ _ _ (⟨_, .binOp .leq _ _ _ _, _, _, _, _⟩ :: _) _ _); refine st_leq rfl _ _ _ _ rfl _ _ _ rfl rfl (fun h_ => ?_) (fun h_ => ?_)) | ((with_reducible show wpList _ _ _ (⟨_, .binOp .gtr _ _ _ _, _, _, _, _⟩ :: _) _ _); refine st_gtr rfl _ _ _ _ rfl _ _ _ rfl rfl (fun h_ => ?_) (fun h_ => ?_)) | ((with_reducible show wpList _ _ _ (⟨_, .binOp .geq _ _ _ _, _, _, _, _⟩ :: _) _ _); refine st_geq rfl _ _ _ _ rfl _ _ _ rfl rfl (fun h_ => ?_) (fun h_ => ?_)) | ((with_reducible show wpList _ _ _ (⟨_, .binOp .eql _ _ _ _, _, _, _, _⟩ :: _) _ _); refine st_eql rfl _ _ _ _ rfl _ _ _ rfl rfl (fun h_ => ?_) (fun h_ => ?_)) | ((with_reducible show wpList _ _ _ (⟨_, .binOp .neq _ _ _ _, _, _, _, _⟩ :: _) _ _); refine st_neq rfl _ _ _ _ rfl _ _ _ rfl rfl (fun h_ => ?_) (fun h_ => ?_))) <;> go_prune))
        refine wp_region_typed (fun i__ v w => match i__ with
          | 0 => v = .slice (some ⟨b1, o1, none⟩) M.length c
          | 1 => v = .int .i64 ((j : Nat) : Int)
          | 2 => v = .pointer (some ⟨b1, o1 + (j) * 2, none⟩)
          | 3 => v = .agg #[.int .i64 ((x.1 : Nat) : Int), .int .i64 ((x.2 : Nat) : Int)]
          | 4 => v = .slice (some ⟨b2, o2, none⟩) M.length d
          | 5 => v = .int .i64 ((j : Nat) : Int)
          | 6 => v = .pointer (some ⟨b2, o2 + (j) * 2, none⟩)
          | 7 => v = .agg #[.int .i64 ((y.1 : Nat) : Int), .int .i64 ((y.2 : Nat) : Int)]
          | 8 => v = .bool (decide (x ≠ y))
          | _ => True) (by kernel_rfl) (by kernel_rfl) ?mono ⟨?r0, ?r1, ?r2, ?r3, ?r4, ?r5, ?r6, ?r7, ?r8, trivial⟩ ?post
        case mono =>
          intro i v w w' h hb
          match i, h with
          | 0, h => exact h
          | 1, h => exact h
          | 2, h => exact h
          | 3, h => exact h
          | 4, h => exact h
          | 5, h => exact h
          | 6, h => exact h
          | 7, h => exact h
          | 8, h => exact h
          | _ + 9, h => trivial
        case r0 =>
          refine trule fun b__ w hW hold hpre => ⟨fun hwant K hK => ?_, fun hwant => ?_⟩
          · clear hwant
            have e0 : b__.eval (.tmp 0) = .slice (some ⟨b1, o1, none⟩) M.length c := (hold 0 (by kernel_rfl)).trans rfl
            exact opw_move rfl e0 (hK _ _ rfl (Below.refl _ _))
          · rw [want_none rfl] at hwant; cases hwant
        case r1 =>
          refine trule fun b__ w hW hold hpre => ⟨fun hwant K hK => ?_, fun hwant => ?_⟩
          · clear hwant
            have e5 : b__.eval (.tmp 5) = .int .i64 ((j : Nat) : Int) := (hold 5 (by kernel_rfl)).trans rfl
            exact opw_move rfl e5 (hK _ _ rfl (Below.refl _ _))
          · rw [want_none rfl] at hwant; cases hwant
        case r2 =>
          refine trule fun b__ w hW hold hpre => ⟨fun hwant K hK => ?_, fun hwant => ?_⟩
          · clear hwant
            have e16 : b__.eval (.tmp 16) = .slice (some ⟨b1, o1, none⟩) M.length c := hpre ⟨0, _⟩ (Array.mem_of_getElem? (i := 0) rfl) rfl _ _ rfl rfl
            have e17 : b__.eval (.tmp 17) = .int .i64 ((j : Nat) : Int) := hpre ⟨1, _⟩ (Array.mem_of_getElem? (i := 1) rfl) rfl _ _ rfl rfl
            exact opw_iaddr rfl e16 e17 (run_iaddr_lit (m := j) Tryd.underlying25 (by kernel_rfl) (by omega) (by omega)) (hK _ _ rfl (Below.refl _ _))
          · rw [want_none rfl] at hwant; cases hwant
        case r3 =>
          refine trule fun b__ w hW hold hpre => ⟨fun hwant K hK => ?_, fun hwant => ?_⟩
          · clear hwant
            have e18 : b__.eval (.tmp 18) = .pointer (some ⟨b1, o1 + (j) * 2, none⟩) := hpre ⟨2, _⟩ (Array.mem_of_getElem? (i := 0) rfl) rfl _ _ rfl rfl
            exact opw_mid (cs := [_, _]) rfl e18 (p1.out _ (hS.ext (undrew hW)).ro) Tryd.underlying50 rfl (by kernel_rfl) (hK _ _ rfl (Below.refl _ _))
          · rw [want_none rfl] at hwant; cases hwant
        case r4 =>
          refine trule fun b__ w hW hold hpre => ⟨fun hwant K hK => ?_, fun hwant => ?_⟩
          · clear hwant
            have e1 : b__.eval (.tmp 1) = .slice (some ⟨b2, o2, none⟩) M.length d := (hold 1 (by kernel_rfl)).trans rfl
            exact opw_move rfl e1 (hK _ _ rfl (Below.refl _ _))
          · rw [want_none rfl] at hwant; cases hwant
        case r5 =>
          refine trule fun b__ w hW hold hpre => ⟨fun hwant K hK => ?_, fun hwant => ?_⟩
          · clear hwant
            have e5 : b__.eval (.tmp 5) = .int .i64 ((j : Nat) : Int) := (hold 5 (by kernel_rfl)).trans rfl
            exact opw_move rfl e5 (hK _ _ rfl (Below.refl _ _))
          · rw [want_none rfl] at hwant; cases hwant
        case r6 =>
          refine trule fun b__ w hW hold hpre => ⟨fun hwant K hK => ?_, fun hwant => ?_⟩
          · clear hwant
            have e20 : b__.eval (.tmp 20) = .slice (some ⟨b2, o2, none⟩) M.length d := hpre ⟨4, _⟩ (Array.mem_of_getElem? (i := 0) rfl) rfl _ _ rfl rfl
            have e21 : b__.eval (.tmp 21) = .int .i64 ((j : Nat) : Int) := hpre ⟨5, _⟩ (Array.mem_of_getElem? (i := 1) rfl) rfl _ _ rfl rfl
            exact opw_iaddr rfl e20 e21 (run_iaddr_lit (m := j) Tryd.underlying25 (by kernel_rfl) (by omega) (by omega)) (hK _ _ rfl (Below.refl _ _))
          · rw [want_none rfl] at hwant; cases hwant
        case r7 =>
          refine trule fun b__ w hW hold hpre => ⟨fun hwant K hK => ?_, fun hwant => ?_⟩
          · clear hwant
            have e22 : b__.eval (.tmp 22) = .pointer (some ⟨b2, o2 + (j) * 2, none⟩) := hpre ⟨6, _⟩ (Array.mem_of_getElem? (i := 0) rfl) rfl _ _ rfl rfl
            exact opw_mid (cs := [_, _]) rfl e22 (p2.out _ (hS.ext (undrew hW)).ro) Tryd.underlying50 rfl (by kernel_rfl) (hK _ _ rfl (Below.refl _ _))
          · rw [want_none rfl] at hwant; cases hwant
        case r8 =>
          refine trule fun b__ w hW hold hpre => ⟨fun hwant K hK => ?_, fun hwant => ?_⟩
          · clear hwant
            have e19 : b__.eval (.tmp 19) = .agg #[.int .i64 ((x.1 : Nat) : Int), .int .i64 ((x.2 : Nat) : Int)] := hpre ⟨3, _⟩ (Array.mem_of_getElem? (i := 0) rfl) rfl _ _ rfl rfl
            have e23 : b__.eval (.tmp 23) = .agg #[.int .i64 ((y.1 : Nat) : Int), .int .i64 ((y.2 : Nat) : Int)] := hpre ⟨7, _⟩ (Array.mem_of_getElem? (i := 1) rfl) rfl _ _ rfl rfl
            exact opw_bin (vx := .agg #[.int .i64 ((x.1 : Nat) : Int), .int .i64 ((x.2 : Nat) : Int)]) (vy := .agg #[.int .i64 ((y.1 : Nat) : Int), .int .i64 ((y.2 : Nat) : Int)]) (v := .bool (decide (x ≠ y))) rfl e19 e23 rfl (ne_pairs _ _ _) (hK _ _ rfl (Below.refl _ _))
          · rw [want_none rfl] at hwant; cases hwant
        case post =>
          intro b__ wz hW hdf hsz hold hT
          have e16 : b__.eval (.tmp 16) = .slice (some ⟨b1, o1, none⟩) M.length c := hT 0 _ 16 rfl rfl
          have e17 : b__.eval (.tmp 17) = .int .i64 ((j : Nat) : Int) := hT 1 _ 17 rfl rfl
          have e18 : b__.eval (.tmp 18) = .pointer (some ⟨b1, o1 + (j) * 2, none⟩) := hT 2 _ 18 rfl rfl
          have e19 : b__.eval (.tmp 19) = .agg #[.int .i64 ((x.1 : Nat) : Int), .int .i64 ((x.2 : Nat) : Int)] := hT 3 _ 19 rfl rfl
          have e20 : b__.eval (.tmp 20) = .slice (some ⟨b2, o2, none⟩) M.length d := hT 4 _ 20 rfl rfl
          have e21 : b__.eval (.tmp 21) = .int .i64 ((j : Nat) : Int) := hT 5 _ 21 rfl rfl
          have e22 : b__.eval (.tmp 22) = .pointer (some ⟨b2, o2 + (j) * 2, none⟩) := hT 6 _ 22 rfl rfl
          have e23 : b__.eval (.tmp 23) = .agg #[.int .i64 ((y.1 : Nat) : Int), .int .i64 ((y.2 : Nat) : Int)] := hT 7 _ 23 rfl rfl
          have e24 : b__.eval (.tmp 24) = .bool (decide (x ≠ y)) := hT 8 _ 24 rfl rfl
          obtain ⟨vs, hvs, hb⟩ := frame_of hdf hsz hold
          replace e16 : vs 16 = .slice (some ⟨b1, o1, none⟩) M.length c := (hvs 16).symm.trans e16
          replace e17 : vs 17 = .int .i64 ((j : Nat) : Int) := (hvs 17).symm.trans e17
          replace e18 : vs 18 = .pointer (some ⟨b1, o1 + (j) * 2, none⟩) := (hvs 18).symm.trans e18
          replace e19 : vs 19 = .agg #[.int .i64 ((x.1 : Nat) : Int), .int .i64 ((x.2 : Nat) : Int)] := (hvs 19).symm.trans e19
          replace e20 : vs 20 = .slice (some ⟨b2, o2, none⟩) M.length d := (hvs 20).symm.trans e20
          replace e21 : vs 21 = .int .i64 ((j : Nat) : Int) := (hvs 21).symm.trans e21
          replace e22 : vs 22 = .pointer (some ⟨b2, o2 + (j) * 2, none⟩) := (hvs 22).symm.trans e22
          replace e23 : vs 23 = .agg #[.int .i64 ((y.1 : Nat) : Int), .int .i64 ((y.2 : Nat) : Int)] := (hvs 23).symm.trans e23
          replace e24 : vs 24 = .bool (decide (x ≠ y)) := (hvs 24).symm.trans e24
          subst hb
          clear hvs hold hT hdf hsz
          simp only [setAll, Act.put, List.setIfInBounds_toArray, List.set_cons_zero, List.set_cons_succ, List.getElem_toArray, List.getElem_cons_succ, List.getElem_cons_zero]
          rw [e24]
          replace hS := hS.ext hW
          by_cases hxy : x = y
          · have H3 := Lib.hid (HJ2.out hxy)
            rw [decide_eq_false (by simp [hxy])]
            clear hW e16 e17 e18 e19 e20 e21 e22 e23 e24 hxy
            go_wp2_with fail
            exact ⟨⟨j + 1, hlj, by go_num, H3, hS⟩, by simp [intOf]; omega⟩
          · have H3 := Lib.hid (HNE.out hxy)
            rw [decide_eq_true hxy]
            clear hW e16 e17 e18 e19 e20 e21 e22 e23 e24 hxy
            go_wp2_with fail
            go_ret
            exact Ret.mk (congrArg Value.bool (decide_eq_false H3.out).symm) hS.below
      · obtain rfl : j = L.length := by omega
        have H3 := Lib.hid (HE.out HJ.out)
        go_wp2_with (first | ((with_reducible show wpList _ _ _ (⟨_, .binOp _ _ _ _ _, _, _, _, _⟩ :: _) _ _); (first | ((with_reducible show wpList _ _ _ (⟨_, .binOp .lss _ _ _ _, _, _, _, _⟩ :: _) _ _); refine st_lss rfl _ _ _ _ rfl _ _ _ rfl rfl (fun h_ => ?_) (fun h_ => ?_)) | ((with_reducible show wpList _ _ _ (⟨_, .binOp .leq _ _ _ _, _, _, _, _⟩ :: _) _ _); refine st_leq rfl _ _ _ _ rfl _ _ _ rfl rfl (fun h_ => ?_) (fun h_ => ?_)) | ((with_reducible show wpList _ _ _ (⟨_, .binOp .gtr _ _ _ _, _, _, _, _⟩ :: _) _ _); refine st_gtr rfl _ _ _ _ rfl _ _ _ rfl rfl (fun h_ => ?_) (fun h_ => ?_)) | ((with_reducible show wpList _ _ _ (⟨_, .binOp .geq _ _ _ _, _, _, _, _⟩ :: _) _ _); refine st_geq rfl _ _ _ _ rfl _ _ _ rfl rfl (fun h_ => ?_) (fun h_ => ?_)) | ((with_reducible show wpList _ _ _ (⟨_, .binOp .eql _ _ _ _, _, _, _, _⟩ :: _) _ _); refine st_eql rfl _ _ _ _ rfl _ _ _ rfl rfl (fun h_ => ?_) (fun h_ => ?_)) | ((with_reducible show wpList _ _ _ (⟨_, .binOp .neq _ _ _ _, _, _, _, _⟩ :: _) _ _); refine st_neq rfl _ _ _ _ rfl _ _ _ rfl rfl (fun h_ => ?_) (fun h_ => ?_))) <;> go_prune))
        go_ret
        exact Ret.mk (congrArg Value.bool (decide_eq_true H3.out).symm) hS.below
  · have HE : Hid (¬ L = M) := Lib.hid fun e => hlm (by rw [e])
    have hlm2 : ¬ ((L.length : Nat) : Int) = ((M.length : Nat) : Int) := by omega
    go_enter Tryd.func30, Tryd.ntmps30
    go_wp2_with (first | ((with_reducible show wpList _ _ _ (⟨_, .binOp _ _ _ _ _, _, _, _, _⟩ :: _) _ _); (first | ((with_reducible show wpList _ _ _ (⟨_, .binOp .lss _ _ _ _, _, _, _, _⟩ :: _) _ _); refine st_lss rfl _ _ _ _ rfl _ _ _ rfl rfl (fun h_ => ?_) (fun h_ => ?_)) | ((with_reducible show wpList _ _ _ (⟨_, .binOp .leq _ _ _ _, _, _, _, _⟩ :: _) _ _); refine st_leq rfl _ _ _ _ rfl _ _ _ rfl rfl (fun h_ => ?_) (fun h_ => ?_)) | ((with_reducible show wpList _ _ _ (⟨_, .binOp .gtr _ _ _ _, _, _, _, _⟩ :: _) _ _); refine st_gtr rfl _ _ _ _ rfl _ _ _ rfl rfl (fun h_ => ?_) (fun h_ => ?_)) | ((with_reducible show wpList _ _ _ (⟨_, .binOp .geq _ _ _ _, _, _, _, _⟩ :: _) _ _); refine st_geq rfl _ _ _ _ rfl _ _ _ rfl rfl (fun h_ => ?_) (fun h_ => ?_)) | ((with_reducible show wpList _ _ _ (⟨_, .binOp .eql _ _ _ _, _, _, _, _⟩ :: _) _ _); refine st_eql rfl _ _ _ _ rfl _ _ _ rfl rfl (fun h_ => ?_) (fun h_ => ?_)) | ((with_reducible show wpList _ _ _ (⟨_, .binOp .neq _ _ _ _, _, _, _, _⟩ :: _) _ _); refine st_neq rfl _ _ _ _ rfl _ _ _ rfl rfl (fun h_ => ?_) (fun h_ => ?_))) <;> go_prune))
    go_ret
    exact Ret.mk (congrArg Value.bool (decide_eq_false HE.out).symm) hS.below
/-- the roles of a number: its bits from 1 on, as far as k -/
noncomputable def rolesTo (s k : Nat) : Nat := maskOf k fun i => 1 ≤ i ∧ s.testBit i = true
theorem rolesTo_step (s k : Nat) : rolesTo s (k + 1) = if 1 ≤ k ∧ s.testBit k = true then rolesTo s k ||| 2 ^ k else rolesTo s k := mask_ext fun i => by
  split
  · rename_i h
    rw [tb_or, tb_pow, rolesTo, rolesTo, tb_mask, tb_mask]
    constructor
    · rintro ⟨h1, h2⟩
      rcases Nat.lt_or_ge i k with h3 | h3
      · exact .inl ⟨h3, h2⟩
      · exact .inr (by omega)
    · rintro (⟨h1, h2⟩ | rfl)
      · exact ⟨by omega, h2⟩
      · exact ⟨by omega, h⟩
  · rename_i h
    rw [rolesTo, rolesTo, tb_mask, tb_mask]
    constructor
    · rintro ⟨h1, h2⟩
      rcases Nat.lt_or_ge i k with h3 | h3
      · exact ⟨h3, h2⟩
      · obtain rfl : i = k := by omega
        exact absurd h2 h
    · rintro ⟨h1, h2⟩
      exact ⟨by omega, h2⟩
noncomputable def rolesM (s : Nat) : Nat := rolesTo s 64
theorem tb_roles {s i : Nat} : (rolesM s).testBit i = true ↔ i < 64 ∧ 1 ≤ i ∧ s.testBit i = true := tb_mask ..
theorem lset10_any (s : Nat) (hs : s < T64) (w0 : World) : Calls Tryd.prog 36 #[.int .u64 (s : Nat)] w0 (Ret (fun x w' => IsSet w' (w0.heap.size ≤ ·) x (rolesM s)) w0) := by
  have hS := St.start0 (w := w0)
  have H0 := Lib.hid (show ofN [] = rolesTo s 1 by rw [rolesTo_step, if_neg (by omega)]; simp [rolesTo, maskOf, ofN])
  go_enter Tryd.func36, Tryd.ntmps36
  go_wp2_with (first
    | ((with_reducible show wpList _ _ _ (⟨some 2, _, _, _, _, _⟩ :: _) _ _); refine st_allocz hS rfl _ rfl (by kernel_rfl) #[.slice none 0 0] (by kernel_rfl) ?_; clear hS; intro g2 w_ hS; (try simp only [Act.put, Act.eval, List.set_cons_zero, List.set_cons_succ, List.setIfInBounds_toArray, Array.getD_eq_getD_getElem?, List.getElem?_toArray, List.getElem?_cons_succ, List.getElem?_cons_zero, Option.getD_some, Value.cells] at hS))
    | ((with_reducible show wpList _ _ _ (⟨some 3, _, _, _, _, _⟩ :: _) _ _); refine st_allocz hS rfl _ rfl (by kernel_rfl) #[.slice none 0 0] (by kernel_rfl) ?_; clear hS; intro g3 w_ hS; (try simp only [Act.put, Act.eval, List.set_cons_zero, List.set_cons_succ, List.setIfInBounds_toArray, Array.getD_eq_getD_getElem?, List.getElem?_toArray, List.getElem?_cons_succ, List.getElem?_cons_zero, Option.getD_some, Value.cells] at hS))
    | (go_at_call 46; refine (of_any _ [] _ (fun _ => True) Sl.none_).mono ?_; rintro r_ w_ ⟨_, rfl, hM, hb_⟩; rw [H0.out] at hM; obtain ⟨A3, c3, l3, rfl, -⟩ := hM.parts; replace hS := hS.ret hb_ (stable_inter stable_set fun z => w0.heap.size ≤ z) (hM.imp fun z hz _ => ⟨hz, Nat.le_trans hS.size hz⟩); clear hb_ hM)
    | ((with_reducible show wpList _ _ _ (⟨_, .store _ _ _, _, _, _, _⟩ :: _) _ _); first | (refine st_store hS 0 rfl _ _ _ rfl _ _ rfl rfl _ _ rfl (by kernel_rfl) (by kernel_rfl) (by kernel_rfl) ?_; clear hS; intro w_ hS; (try simp only [Act.put, Act.eval, List.set_cons_zero, List.set_cons_succ, List.setIfInBounds_toArray, Array.getD_eq_getD_getElem?, List.getElem?_toArray, List.getElem?_cons_succ, List.getElem?_cons_zero, Option.getD_some, Value.cells] at hS)) | (refine st_store hS 1 rfl _ _ _ rfl _ _ rfl rfl _ _ rfl (by kernel_rfl) (by kernel_rfl) (by kernel_rfl) ?_; clear hS; intro w_ hS; (try simp only [Act.put, Act.eval, List.set_cons_zero, List.set_cons_succ, List.setIfInBounds_toArray, Array.getD_eq_getD_getElem?, List.getElem?_toArray, List.getElem?_cons_succ, List.getElem?_cons_zero, Option.getD_some, Value.cells] at hS)) | (refine st_store hS 2 rfl _ _ _ rfl _ _ rfl rfl _ _ rfl (by kernel_rfl) (by kernel_rfl) (by kernel_rfl) ?_; clear hS; intro w_ hS; (try simp only [Act.put, Act.eval, List.set_cons_zero, List.set_cons_succ, List.setIfInBounds_toArray, Array.getD_eq_getD_getElem?, List.getElem?_toArray, List.getElem?_cons_succ, List.getElem?_cons_zero, Option.getD_some, Value.cells] at hS)) | (refine st_store hS 3 rfl _ _ _ rfl _ _ rfl rfl _ _ rfl (by kernel_rfl) (by kernel_rfl) (by kernel_rfl) ?_; clear hS; intro w_ hS; (try simp only [Act.put, Act.eval, List.set_cons_zero, List.set_cons_succ, List.setIfInBounds_toArray, Array.getD_eq_getD_getElem?, List.getElem?_toArray, List.getElem?_cons_succ, List.getElem?_cons_zero, Option.getD_some, Value.cells] at hS)) | (refine st_cstore hS 0 rfl _ _ _ rfl _ _ _ rfl rfl rfl (by first | (simp; done) | (simp; omega) | exact of_decide_eq_true (by kernel_rfl)) rfl (by first | rfl | assumption) (by kernel_rfl) ?_; clear hS; intro w_ hS; (try simp only [Act.put, Act.eval, List.set_cons_zero, List.set_cons_succ, List.setIfInBounds_toArray, Array.getD_eq_getD_getElem?, List.getElem?_toArray, List.getElem?_cons_succ, List.getElem?_cons_zero, Option.getD_some, Value.cells] at hS)) | (refine st_cstore hS 1 rfl _ _ _ rfl _ _ _ rfl rfl rfl (by first | (simp; done) | (simp; omega) | exact of_decide_eq_true (by kernel_rfl)) rfl (by first | rfl | assumption) (by kernel_rfl) ?_; clear hS; intro w_ hS; (try simp only [Act.put, Act.eval, List.set_cons_zero, List.set_cons_succ, List.setIfInBounds_toArray, Array.getD_eq_getD_getElem?, List.getElem?_toArray, List.getElem?_cons_succ, List.getElem?_cons_zero, Option.getD_some, Value.cells] at hS)) | (refine st_cstore hS 2 rfl _ _ _ rfl _ _ _ rfl rfl rfl (by first | (simp; done) | (simp; omega) | exact of_decide_eq_true (by kernel_rfl)) rfl (by first | rfl | assumption) (by kernel_rfl) ?_; clear hS; intro w_ hS; (try simp only [Act.put, Act.eval, List.set_cons_zero, List.set_cons_succ, List.setIfInBounds_toArray, Array.getD_eq_getD_getElem?, List.getElem?_toArray, List.getElem?_cons_succ, List.getElem?_cons_zero, Option.getD_some, Value.cells] at hS)) | (refine st_cstore hS 3 rfl _ _ _ rfl _ _ _ rfl rfl rfl (by first | (simp; done) | (simp; omega) | exact of_decide_eq_true (by kernel_rfl)) rfl (by first | rfl | assumption) (by kernel_rfl) ?_; clear hS; intro w_ hS; (try simp only [Act.put, Act.eval, List.set_cons_zero, List.set_cons_succ, List.setIfInBounds_toArray, Array.getD_eq_getD_getElem?, List.getElem?_toArray, List.getElem?_cons_succ, List.getElem?_cons_zero, Option.getD_some, Value.cells] at hS))))
  go_loopw [4] (fun i wr => ∃ (k : Nat) (u : Value) (K : (Nat → Prop) → World → Prop), 1 ≤ k ∧ k ≤ 64 ∧ i = .int .i64 (k : Nat) ∧ (∀ D w, K D w → IsSet w (fun z => D z ∧ w0.heap.size ≤ z) (.agg #[u]) (rolesTo s k)) ∧ St w0 wr [.box g3 42 #[u], .box g2 42 #[.slice none 0 0]] K) (fun i _ => 64 - (intOf i).toNat)
  case atStart => exact ⟨1, _, _, by omega, by omega, rfl, fun D w h => h.2, hS⟩
  case round =>
    clear hS
    obtain ⟨k, u, K, hk1, hk2, rfl, kk, hS⟩ := hrel
    obtain ⟨A3, c3, l3, he, -⟩ := (kk _ _ hS.ro).parts
    obtain rfl : u = .slice A3 l3.length c3 := by injection he with he; simpa using he
    clear he
    by_cases hk : k < 64
    · have HSt := Lib.hid (rolesTo_step s k)
      cases hbit : s.testBit k
      · have HE := Lib.hid (HSt.out.trans (if_neg (by simp [hbit])))
        go_wp2_with (first
          | ((with_reducible show wpList _ _ _ (⟨_, .binOp .shr _ _ _ _, _, _, _, _⟩ :: _) _ _); refine st_shrN rfl _ _ _ _ rfl _ _ rfl rfl (by omega) ?_)
          | ((with_reducible show wpList _ _ _ (⟨_, .binOp .rem _ _ _ _, _, _, _, _⟩ :: _) _ _); refine st_rem2 rfl _ _ _ _ rfl _ rfl rfl ?_)
          | ((with_reducible show wpList _ _ _ (⟨some 14, _, _, _, _, _⟩ :: _) _ _); refine st_btest rfl _ _ _ _ rfl _ _ rfl rfl hbit ?_)
          | ((with_reducible show wpList _ _ _ (⟨_, .binOp _ _ _ _ _, _, _, _, _⟩ :: _) _ _); (first | ((with_reducible show wpList _ _ _ (⟨_, .binOp .lss _ _ _ _, _, _, _, _⟩ :: _) _ _); refine st_lss rfl _ _ _ _ rfl _ _ _ rfl rfl (fun h_ => ?_) (fun h_ => ?_)) | ((with_reducible show wpList _ _ _ (⟨_, .binOp .leq _ _ _ _, _, _, _, _⟩ :: _) _ _); refine st_leq rfl _ _ _ _ rfl _ _ _ rfl rfl (fun h_ => ?_) (fun h_ => ?_)) | ((with_reducible show wpList _ _ _ (⟨_, .binOp .gtr _ _ _ _, _, _, _, _⟩ :: _) _ _); refine st_gtr rfl _ _ _ _ rfl _ _ _ rfl rfl (fun h_ => ?_) (fun h_ => ?_)) | ((with_reducible show wpList _ _ _ (⟨_, .binOp .geq _ _ _ _, _, _, _, _⟩ :: _) _ _); refine st_geq rfl _ _ _ _ rfl _ _ _ rfl rfl (fun h_ => ?_) (fun h_ => ?_)) | ((with_reducible show wpList _ _ _ (⟨_, .binOp .eql _ _ _ _, _, _, _, _⟩ :: _) _ _); refine st_eql rfl _ _ _ _ rfl _ _ _ rfl rfl (fun h_ => ?_) (fun h_ => ?_)) | ((with_reducible show wpList _ _ _ (⟨_, .binOp .neq _ _ _ _, _, _, _, _⟩ :: _) _ _); refine st_neq rfl _ _ _ _ rfl _ _ _ rfl rfl (fun h_ => ?_) (fun h_ => ?_))) <;> go_prune))
        exact ⟨⟨k + 1, _, K, by omega, by omega, by go_num, by rw [HE.out]; exact kk, hS⟩, by simp [intOf]; omega⟩
      · have HE := Lib.hid (HSt.out.trans (if_pos ⟨hk1, hbit⟩))
        have HW := Lib.hid (show withN (rolesTo s k) (k : Int) = rolesTo s (k + 1) by rw [withN_nat hk, HE.out])
        go_wp2_with (first
          | ((with_reducible show wpList _ _ _ (⟨_, .binOp .shr _ _ _ _, _, _, _, _⟩ :: _) _ _); refine st_shrN rfl _ _ _ _ rfl _ _ rfl rfl (by omega) ?_)
          | ((with_reducible show wpList _ _ _ (⟨_, .binOp .rem _ _ _ _, _, _, _, _⟩ :: _) _ _); refine st_rem2 rfl _ _ _ _ rfl _ rfl rfl ?_)
          | ((with_reducible show wpList _ _ _ (⟨some 14, _, _, _, _, _⟩ :: _) _ _); refine st_btest rfl _ _ _ _ rfl _ _ rfl rfl hbit ?_)
          | (go_at_call 24; refine (with_any _ _ _ _ _ (kk _ _ hS.ro)).mono ?_; rintro r_ w_ ⟨_, rfl, hM, hb_⟩; rw [HW.out] at hM; obtain ⟨A4, c4, l4, rfl, -⟩ := hM.parts; replace hS := hS.ret2 hb_ (stable_inter stable_set fun z => w0.heap.size ≤ z) (hM.imp fun z hz _ => ⟨hz.imp (fun h => h.1) id, hz.elim (fun h => h.2) fun h => Nat.le_trans hS.size h⟩); clear hb_ hM)
          | ((with_reducible show wpList _ _ _ (⟨_, .load _ _, _, _, _, _⟩ :: _) _ _); first | refine st_load hS 0 rfl _ _ rfl _ rfl _ _ rfl _ Tryd.underlying42 rfl (by kernel_rfl) ?_ | refine st_load hS 1 rfl _ _ rfl _ rfl _ _ rfl _ Tryd.underlying42 rfl (by kernel_rfl) ?_ | refine st_load hS 2 rfl _ _ rfl _ rfl _ _ rfl _ Tryd.underlying42 rfl (by kernel_rfl) ?_ | refine st_load hS 3 rfl _ _ rfl _ rfl _ _ rfl _ Tryd.underlying42 rfl (by kernel_rfl) ?_)
          | ((with_reducible show wpList _ _ _ (⟨_, .store _ _ _, _, _, _, _⟩ :: _) _ _); first | (refine st_store hS 0 rfl _ _ _ rfl _ _ rfl rfl _ _ rfl (by kernel_rfl) (by kernel_rfl) (by kernel_rfl) ?_; clear hS; intro w_ hS; (try simp only [Act.put, Act.eval, List.set_cons_zero, List.set_cons_succ, List.setIfInBounds_toArray, Array.getD_eq_getD_getElem?, List.getElem?_toArray, List.getElem?_cons_succ, List.getElem?_cons_zero, Option.getD_some, Value.cells] at hS)) | (refine st_store hS 1 rfl _ _ _ rfl _ _ rfl rfl _ _ rfl (by kernel_rfl) (by kernel_rfl) (by kernel_rfl) ?_; clear hS; intro w_ hS; (try simp only [Act.put, Act.eval, List.set_cons_zero, List.set_cons_succ, List.setIfInBounds_toArray, Array.getD_eq_getD_getElem?, List.getElem?_toArray, List.getElem?_cons_succ, List.getElem?_cons_zero, Option.getD_some, Value.cells] at hS)) | (refine st_store hS 2 rfl _ _ _ rfl _ _ rfl rfl _ _ rfl (by kernel_rfl) (by kernel_rfl) (by kernel_rfl) ?_; clear hS; intro w_ hS; (try simp only [Act.put, Act.eval, List.set_cons_zero, List.set_cons_succ, List.setIfInBounds_toArray, Array.getD_eq_getD_getElem?, List.getElem?_toArray, List.getElem?_cons_succ, List.getElem?_cons_zero, Option.getD_some, Value.cells] at hS)) | (refine st_store hS 3 rfl _ _ _ rfl _ _ rfl rfl _ _ rfl (by kernel_rfl) (by kernel_rfl) (by kernel_rfl) ?_; clear hS; intro w_ hS; (try simp only [Act.put, Act.eval, List.set_cons_zero, List.set_cons_succ, List.setIfInBounds_toArray, Array.getD_eq_getD_getElem?, List.getElem?_toArray, List.getElem?_cons_succ, List.getElem?_cons_zero, Option.getD_some, Value.cells] at hS)) | (refine st_cstore hS 0 rfl _ _ _ rfl _ _ _ rfl rfl rfl (by first | (simp; done) | (simp; omega) | exact of_decide_eq_true (by kernel_rfl)) rfl (by first | rfl | assumption) (by kernel_rfl) ?_; clear hS; intro w_ hS; (try simp only [Act.put, Act.eval, List.set_cons_zero, List.set_cons_succ, List.setIfInBounds_toArray, Array.getD_eq_getD_getElem?, List.getElem?_toArray, List.getElem?_cons_succ, List.getElem?_cons_zero, Option.getD_some, Value.cells] at hS)) | (refine st_cstore hS 1 rfl _ _ _ rfl _ _ _ rfl rfl rfl (by first | (simp; done) | (simp; omega) | exact of_decide_eq_true (by kernel_rfl)) rfl (by first | rfl | assumption) (by kernel_rfl) ?_; clear hS; intro w_ hS; (try simp only [Act.put, Act.eval, List.set_cons_zero, List.set_cons_succ, List.setIfInBounds_toArray, Array.getD_eq_getD_getElem?, List.getElem?_toArray, List.getElem?_cons_succ, List.getElem?_cons_zero, Option.getD_some, Value.cells] at hS)) | (refine st_cstore hS 2 rfl _ _ _ rfl _ _ _ rfl rfl rfl (by first | (simp; done) | (simp; omega) | exact of_decide_eq_true (by kernel_rfl)) rfl (by first | rfl | assumption) (by kernel_rfl) ?_; clear hS; intro w_ hS; (try simp only [Act.put, Act.eval, List.set_cons_zero, List.set_cons_succ, List.setIfInBounds_toArray, Array.getD_eq_getD_getElem?, List.getElem?_toArray, List.getElem?_cons_succ, List.getElem?_cons_zero, Option.getD_some, Value.cells] at hS)) | (refine st_cstore hS 3 rfl _ _ _ rfl _ _ _ rfl rfl rfl (by first | (simp; done) | (simp; omega) | exact of_decide_eq_true (by kernel_rfl)) rfl (by first | rfl | assumption) (by kernel_rfl) ?_; clear hS; intro w_ hS; (try simp only [Act.put, Act.eval, List.set_cons_zero, List.set_cons_succ, List.setIfInBounds_toArray, Array.getD_eq_getD_getElem?, List.getElem?_toArray, List.getElem?_cons_succ, List.getElem?_cons_zero, Option.getD_some, Value.cells] at hS)))
          | ((with_reducible show wpList _ _ _ (⟨_, .binOp _ _ _ _ _, _, _, _, _⟩ :: _) _ _); (first | ((with_reducible show wpList _ _ _ (⟨_, .binOp .lss _ _ _ _, _, _, _, _⟩ :: _) _ _); refine st_lss rfl _ _ _ _ rfl _ _ _ rfl rfl (fun h_ => ?_) (fun h_ => ?_)) | ((with_reducible show wpList _ _ _ (⟨_, .binOp .leq _ _ _ _, _, _, _, _⟩ :: _) _ _); refine st_leq rfl _ _ _ _ rfl _ _ _ rfl rfl (fun h_ => ?_) (fun h_ => ?_)) | ((with_reducible show wpList _ _ _ (⟨_, .binOp .gtr _ _ _ _, _, _, _, _⟩ :: _) _ _); refine st_gtr rfl _ _ _ _ rfl _ _ _ rfl rfl (fun h_ => ?_) (fun h_ => ?_)) | ((with_reducible show wpList _ _ _ (⟨_, .binOp .geq _ _ _ _, _, _, _, _⟩ :: _) _ _); refine st_geq rfl _ _ _ _ rfl _ _ _ rfl rfl (fun h_ => ?_) (fun h_ => ?_)) | ((with_reducible show wpList _ _ _ (⟨_, .binOp .eql _ _ _ _, _, _, _, _⟩ :: _) _ _); refine st_eql rfl _ _ _ _ rfl _ _ _ rfl rfl (fun h_ => ?_) (fun h_ => ?_)) | ((with_reducible show wpList _ _ _ (⟨_, .binOp .neq _ _ _ _, _, _, _, _⟩ :: _) _ _); refine st_neq rfl _ _ _ _ rfl _ _ _ rfl rfl (fun h_ => ?_) (fun h_ => ?_))) <;> go_prune))
        exact ⟨⟨k + 1, _, _, by omega, by omega, by go_num, fun D w h => h.2, hS⟩, by simp [intOf]; omega⟩
    · obtain rfl : k = 64 := by omega
      go_wp2_with (first
        | ((with_reducible show wpList _ _ _ (⟨_, .binOp _ _ _ _ _, _, _, _, _⟩ :: _) _ _); (first | ((with_reducible show wpList _ _ _ (⟨_, .binOp .lss _ _ _ _, _, _, _, _⟩ :: _) _ _); refine st_lss rfl _ _ _ _ rfl _ _ _ rfl rfl (fun h_ => ?_) (fun h_ => ?_)) | ((with_reducible show wpList _ _ _ (⟨_, .binOp .leq _ _ _ _, _, _, _, _⟩ :: _) _ _); refine st_leq rfl _ _ _ _ rfl _ _ _ rfl rfl (fun h_ => ?_) (fun h_ => ?_)) | ((with_reducible show wpList _ _ _ (⟨_, .binOp .gtr _ _ _ _, _, _, _, _⟩ :: _) _ _); refine st_gtr rfl _ _ _ _ rfl _ _ _ rfl rfl (fun h_ => ?_) (fun h_ => ?_)) | ((with_reducible show wpList _ _ _ (⟨_, .binOp .geq _ _ _ _, _, _, _, _⟩ :: _) _ _); refine st_geq rfl _ _ _ _ rfl _ _ _ rfl rfl (fun h_ => ?_) (fun h_ => ?_)) | ((with_reducible show wpList _ _ _ (⟨_, .binOp .eql _ _ _ _, _, _, _, _⟩ :: _) _ _); refine st_eql rfl _ _ _ _ rfl _ _ _ rfl rfl (fun h_ => ?_) (fun h_ => ?_)) | ((with_reducible show wpList _ _ _ (⟨_, .binOp .neq _ _ _ _, _, _, _, _⟩ :: _) _ _); refine st_neq rfl _ _ _ _ rfl _ _ _ rfl rfl (fun h_ => ?_) (fun h_ => ?_))) <;> go_prune)
        | ((with_reducible show wpList _ _ _ (⟨_, .load _ _, _, _, _, _⟩ :: _) _ _); first | refine st_load hS 0 rfl _ _ rfl _ rfl _ _ rfl _ Tryd.underlying42 rfl (by kernel_rfl) ?_ | refine st_load hS 1 rfl _ _ rfl _ rfl _ _ rfl _ Tryd.underlying42 rfl (by kernel_rfl) ?_ | refine st_load hS 2 rfl _ _ rfl _ rfl _ _ rfl _ Tryd.underlying42 rfl (by kernel_rfl) ?_ | refine st_load hS 3 rfl _ _ rfl _ rfl _ _ rfl _ Tryd.underlying42 rfl (by kernel_rfl) ?_)
        | ((with_reducible show wpList _ _ _ (⟨_, .store _ _ _, _, _, _, _⟩ :: _) _ _); first | (refine st_store hS 0 rfl _ _ _ rfl _ _ rfl rfl _ _ rfl (by kernel_rfl) (by kernel_rfl) (by kernel_rfl) ?_; clear hS; intro w_ hS; (try simp only [Act.put, Act.eval, List.set_cons_zero, List.set_cons_succ, List.setIfInBounds_toArray, Array.getD_eq_getD_getElem?, List.getElem?_toArray, List.getElem?_cons_succ, List.getElem?_cons_zero, Option.getD_some, Value.cells] at hS)) | (refine st_store hS 1 rfl _ _ _ rfl _ _ rfl rfl _ _ rfl (by kernel_rfl) (by kernel_rfl) (by kernel_rfl) ?_; clear hS; intro w_ hS; (try simp only [Act.put, Act.eval, List.set_cons_zero, List.set_cons_succ, List.setIfInBounds_toArray, Array.getD_eq_getD_getElem?, List.getElem?_toArray, List.getElem?_cons_succ, List.getElem?_cons_zero, Option.getD_some, Value.cells] at hS)) | (refine st_store hS 2 rfl _ _ _ rfl _ _ rfl rfl _ _ rfl (by kernel_rfl) (by kernel_rfl) (by kernel_rfl) ?_; clear hS; intro w_ hS; (try simp only [Act.put, Act.eval, List.set_cons_zero, List.set_cons_succ, List.setIfInBounds_toArray, Array.getD_eq_getD_getElem?, List.getElem?_toArray, List.getElem?_cons_succ, List.getElem?_cons_zero, Option.getD_some, Value.cells] at hS)) | (refine st_store hS 3 rfl _ _ _ rfl _ _ rfl rfl _ _ rfl (by kernel_rfl) (by kernel_rfl) (by kernel_rfl) ?_; clear hS; intro w_ hS; (try simp only [Act.put, Act.eval, List.set_cons_zero, List.set_cons_succ, List.setIfInBounds_toArray, Array.getD_eq_getD_getElem?, List.getElem?_toArray, List.getElem?_cons_succ, List.getElem?_cons_zero, Option.getD_some, Value.cells] at hS)) | (refine st_cstore hS 0 rfl _ _ _ rfl _ _ _ rfl rfl rfl (by first | (simp; done) | (simp; omega) | exact of_decide_eq_true (by kernel_rfl)) rfl (by first | rfl | assumption) (by kernel_rfl) ?_; clear hS; intro w_ hS; (try simp only [Act.put, Act.eval, List.set_cons_zero, List.set_cons_succ, List.setIfInBounds_toArray, Array.getD_eq_getD_getElem?, List.getElem?_toArray, List.getElem?_cons_succ, List.getElem?_cons_zero, Option.getD_some, Value.cells] at hS)) | (refine st_cstore hS 1 rfl _ _ _ rfl _ _ _ rfl rfl rfl (by first | (simp; done) | (simp; omega) | exact of_decide_eq_true (by kernel_rfl)) rfl (by first | rfl | assumption) (by kernel_rfl) ?_; clear hS; intro w_ hS; (try simp only [Act.put, Act.eval, List.set_cons_zero, List.set_cons_succ, List.setIfInBounds_toArray, Array.getD_eq_getD_getElem?, List.getElem?_toArray, List.getElem?_cons_succ, List.getElem?_cons_zero, Option.getD_some, Value.cells] at hS)) | (refine st_cstore hS 2 rfl _ _ _ rfl _ _ _ rfl rfl rfl (by first | (simp; done) | (simp; omega) | exact of_decide_eq_true (by kernel_rfl)) rfl (by first | rfl | assumption) (by kernel_rfl) ?_; clear hS; intro w_ hS; (try simp only [Act.put, Act.eval, List.set_cons_zero, List.set_cons_succ, List.setIfInBounds_toArray, Array.getD_eq_getD_getElem?, List.getElem?_toArray, List.getElem?_cons_succ, List.getElem?_cons_zero, Option.getD_some, Value.cells] at hS)) | (refine st_cstore hS 3 rfl _ _ _ rfl _ _ _ rfl rfl rfl (by first | (simp; done) | (simp; omega) | exact of_decide_eq_true (by kernel_rfl)) rfl (by first | rfl | assumption) (by kernel_rfl) ?_; clear hS; intro w_ hS; (try simp only [Act.put, Act.eval, List.set_cons_zero, List.set_cons_succ, List.setIfInBounds_toArray, Array.getD_eq_getD_getElem?, List.getElem?_toArray, List.getElem?_cons_succ, List.getElem?_cons_zero, Option.getD_some, Value.cells] at hS))))
      refine ret_cell Tryd.results36 rfl (hS.box 1 rfl) Tryd.underlying42 rfl (by kernel_rfl) rfl ?_
      exact Ret.mk ((kk _ _ hS.ro).imp fun z hz _ => hz.2) hS.below
/-- a link more, of a list of links without cycles -/
theorem LinkP.next {w0 w : World} {F : List Fact} {K : (Nat → Prop) → World → Prop} {L M : List (Nat × Nat)} {x : Nat × Nat} {r : Value} {z : Int} (h : LinkP w0 F K L (x.1 : Nat) (x.2 : Nat) r z w) {j : Nat} (hx : M[j]? = some x) (hL : ∀ u, u ∈ L ↔ u ∈ M.take j) (hN : M.Nodup) (hR : ∀ u ∈ M, (1 ≤ u.1 ∧ u.1 < 64) ∧ 1 ≤ u.2 ∧ u.2 < 64) (hA : Acyc M) :
    z = 0 ∧ ∃ L', HOK L' ∧ (∀ u, u ∈ L' ↔ u ∈ M.take (j + 1)) ∧ St w0 w F fun D w => K D w ∧ IsH w D r L' := by
  have hm := List.mem_of_getElem? hx
  have h1 := hR x hm
  have hne := hA.ne hm
  have htk : ∀ u, u ∈ M.take (j + 1) ↔ u ∈ L ++ [x] := fun u => by
    rw [List.take_add_one, hx, List.mem_append, List.mem_append, hL]; simp
  rcases h with ⟨h, _⟩ | ⟨a, b, ha, hb, _, _, _, h⟩
  · exact absurd ⟨⟨by omega, by omega⟩, ⟨by omega, by omega⟩, by omega⟩ h
  · obtain rfl : x = (a, b) := Prod.ext (by show x.1 = a; omega) (by show x.2 = b; omega)
    rcases h with ⟨h, _⟩ | ⟨_, h, _⟩ | ⟨_, hz, L', h3, h4, h5⟩
    · exfalso
      obtain ⟨i, hi, e⟩ := List.getElem_of_mem ((hL _).1 h)
      rw [List.length_take] at hi
      obtain ⟨hj, ej⟩ := List.getElem?_eq_some_iff.1 hx
      rw [List.getElem_take] at e
      exact List.pairwise_iff_getElem.1 hN i j (by omega) hj (by omega) (e.trans ej.symm)
    · exact absurd (hA.sub fun u hu => List.mem_of_mem_take ((htk u).2 hu)) h
    · exact ⟨hz, L', h3, fun u => (h4 u).trans (htk u).symm, h5⟩
end Go.Proofs.YtmlkgaiphpimiaaDoor
namespace Go.Proofs.YtmlkgaiphpimiaaDoor
open Go.RowKit
attribute [local go_sem ↓] Go.wp_at_zero Go.wp_at_succ
set_option maxRecDepth 20000
set_option exponentiation.threshold 5000

theorem nodup_le : ∀ {T S : List (Nat × Nat)}, T.Nodup → (∀ y ∈ T, y ∈ S) → T.length ≤ S.length
  | [], _, _, _ => by simp
  | t :: T, S, hT, hs => by
    have hT := List.nodup_cons.1 hT
    have ht := hs t (List.mem_cons_self ..)
    have := nodup_le (T := T) (S := S.erase t) hT.2 fun y hy => (List.mem_erase_of_ne (fun e => hT.1 (by rw [← e]; exact hy))).2 (hs y (List.mem_cons_of_mem _ hy))
    rw [List.length_erase_of_mem ht] at this
    have := List.length_pos_of_mem ht
    rw [List.length_cons]
    omega
/-- some of the links M, as a hierarchy has them -/
def Part (M : List (Nat × Nat)) (j : Nat) (L : List (Nat × Nat)) : Prop := HOK L ∧ ∀ u, u ∈ L ↔ u ∈ M.take j
theorem Part.len {M L : List (Nat × Nat)} {j : Nat} (h : Part M j L) : L.length ≤ M.length := nodup_le h.1.asc.nodup fun y hy => List.mem_of_mem_take ((h.2 y).1 hy)
theorem Part.full {M L : List (Nat × Nat)} (h : Part M M.length L) (hM : Asc M) : L = M := Asc.uniq h.1.asc hM fun u => by rw [h.2, List.take_length]
set_option maxHeartbeats 1000000 in
theorem lmake10_any {w0 w : World} {F : List Fact} {K : (Nat → Prop) → World → Prop} (x : Nat) (hx : x < T64) (hS : St w0 w F K) (kt : ∀ D w, K D w → DTab w ∧ D 0) :
    Calls Tryd.prog 14 #[.int .u64 (x : Nat)] w fun e w' => ∃ (p v : Value) (L : List (Nat × Nat)), e = .returned (.tuple #[p, v]) ∧ HOK L ∧ Six L ∧ L.length ≤ 36 ∧ St w0 w' F fun D w => (K D w ∧ Sl w D 2 v L.length (pcells L)) ∧ IsH w D p L := by
  have HX := Lib.hid hx
  have KSt := hS.stable
  clear hx
  go_enter Tryd.func14, Tryd.ntmps14
  go_wp2_with (first
    | (go_at_call 54; refine (rlinks_any x HX.out _).mono ?_; rintro e w_ ⟨v, L, rfl, hH, h6, hl, hs⟩; replace hH := Lib.hid hH; replace h6 := Lib.hid h6; replace hS := (hS.new hs.below (.own v 50 2 L.length (pcells L)) (hs.own 0 rfl)).freeze 0 (by decide) rfl; have KS1 := hS.stable; obtain ⟨A, c, rfl, _, _⟩ := own_shp (hs.own 0 rfl); clear hs)
    | (go_at_call 53; refine (hnew_any hS (fun D w h => kt D w h.1)).mono ?_; rintro e w_ ⟨p, rfl, hS⟩))
  obtain ⟨KX, k1, kp, KF, KS, hS2⟩ : ∃ KX : (Nat → Prop) → World → Prop, (∀ D w, KX D w → K D w) ∧ (∀ D w, KX D w → Sl w D 2 (.slice A L.length c) L.length (pcells L)) ∧ (∀ D w, KX D w → K D w ∧ Sl w D 2 (.slice A L.length c) L.length (pcells L)) ∧ Stable KX ∧ St w0 w_ F fun D w => KX D w ∧ IsH w D p [] := ⟨_, fun _ _ h => h.1, fun _ _ h => h.2, fun _ _ h => h, KS1, hS⟩
  clear hS KS1
  have hS := hS2
  clear hS2
  have HNX : Hid (∀ (j : Nat) (x : Nat × Nat) (L' : List (Nat × Nat)), L[j]? = some x → Part L j L' → ∀ (F : List Fact) (K : (Nat → Prop) → World → Prop) (w : World) (r : Value) (z : Int), LinkP w0 F K L' (x.1 : Nat) (x.2 : Nat) r z w → z = 0 ∧ ∃ L'', Part L (j + 1) L'' ∧ St w0 w F fun D w => K D w ∧ IsH w D r L'') := Lib.hid fun j x L' hx hP F K w r z h => by
    obtain ⟨h1, L'', h2, h3, h4⟩ := h.next hx hP.2 hH.out.asc.nodup hH.out.role hH.out.acyc
    exact ⟨h1, L'', ⟨h2, h3⟩, h4⟩
  have HLF : Hid (∀ L', Part L L.length L' → L' = L) := Lib.hid fun L' h => h.full hH.out.asc
  have KSF : Stable fun D w => K D w ∧ Sl w D 2 (.slice A L.length c) L.length (pcells L) := KSt.and (stable_sl (by decide))
  have hP0 : Part L 0 [] := ⟨HOK.nil, by simp⟩
  go_loopw [5, 15] (fun v i wr => ∃ (j : Nat) (p : Value) (L' : List (Nat × Nat)), i = .int .i64 (j : Nat) ∧ p = v ∧ j ≤ L.length ∧ Hid (Part L j L') ∧ St w0 wr F fun D w => KX D w ∧ IsH w D p L') (fun _ i _ => L.length - (intOf i).toNat)
  case atStart => exact ⟨0, p, [], rfl, rfl, by omega, Lib.hid hP0, hS⟩
  case round =>
    clear hS hP0
    obtain ⟨j, p, L', rfl, rfl, hj, HP, hS⟩ := hrel
    by_cases hlj : j < L.length
    · obtain ⟨f1, f2⟩ := pcells_at L j hlj
      have HNY := Lib.hid (HNX.out j _ L' (getD_at (0, 0) hlj) HP.out)
      have HLL : Hid (L'.length ≤ 900000) := Lib.hid (by have := HP.out.len; omega)
      generalize L.getD j (0, 0) = z at *
      obtain ⟨za, zb⟩ := z
      dsimp only at f1 f2 HNY
      have kp2 : ∀ D w, (KX D w ∧ IsH w D p L') → Sl w D 2 (.slice A L.length c) L.length (pcells L) := fun D w h => kp D w h.1
      go_wp2_with (first
        | ((with_reducible show wpList _ _ _ (⟨_, .binOp _ _ _ _ _, _, _, _, _⟩ :: _) _ _); (first | ((with_reducible show wpList _ _ _ (⟨_, .binOp .lss _ _ _ _, _, _, _, _⟩ :: _) _ _); refine st_lss rfl _ _ _ _ rfl _ _ _ rfl rfl (fun h_ => ?_) (fun h_ => ?_)) | ((with_reducible show wpList _ _ _ (⟨_, .binOp .leq _ _ _ _, _, _, _, _⟩ :: _) _ _); refine st_leq rfl _ _ _ _ rfl _ _ _ rfl rfl (fun h_ => ?_) (fun h_ => ?_)) | ((with_reducible show wpList _ _ _ (⟨_, .binOp .gtr _ _ _ _, _, _, _, _⟩ :: _) _ _); refine st_gtr rfl _ _ _ _ rfl _ _ _ rfl rfl (fun h_ => ?_) (fun h_ => ?_)) | ((with_reducible show wpList _ _ _ (⟨_, .binOp .geq _ _ _ _, _, _, _, _⟩ :: _) _ _); refine st_geq rfl _ _ _ _ rfl _ _ _ rfl rfl (fun h_ => ?_) (fun h_ => ?_)) | ((with_reducible show wpList _ _ _ (⟨_, .binOp .eql _ _ _ _, _, _, _, _⟩ :: _) _ _); refine st_eql rfl _ _ _ _ rfl _ _ _ rfl rfl (fun h_ => ?_) (fun h_ => ?_)) | ((with_reducible show wpList _ _ _ (⟨_, .binOp .neq _ _ _ _, _, _, _, _⟩ :: _) _ _); refine st_neq rfl _ _ _ _ rfl _ _ _ rfl rfl (fun h_ => ?_) (fun h_ => ?_))) <;> go_prune)
        | ((with_reducible show wpList _ _ _ (⟨_, .indexAddr _ _ _, _, _, _, _⟩ :: _) _ _); refine st_iaddr2 hS rfl _ _ _ rfl _ rfl rfl (by assumption) Tryd.underlying25 (by kernel_rfl) (by first | assumption | omega) _ _ (by assumption) (by assumption) ?_; intro b_ j_ hc0_ hc1_)
        | ((with_reducible show wpList _ _ _ (⟨some 7, _, _, _, _, _⟩ :: _) _ _); refine st_alloc hS rfl _ rfl (by kernel_rfl) ?_; clear hS; intro g4 w_ hS; (try simp only [Act.put, Act.eval, List.set_cons_zero, List.set_cons_succ, List.setIfInBounds_toArray, Array.getD_eq_getD_getElem?, List.getElem?_toArray, List.getElem?_cons_succ, List.getElem?_cons_zero, Option.getD_some, Value.cells] at hS))
        | ((with_reducible show wpList _ _ _ (⟨_, .store _ _ _, _, _, _, _⟩ :: _) _ _); first | (refine st_store hS 0 rfl _ _ _ rfl _ _ rfl rfl _ _ rfl (by kernel_rfl) (by kernel_rfl) (by kernel_rfl) ?_; clear hS; intro w_ hS; (try simp only [Act.put, Act.eval, List.set_cons_zero, List.set_cons_succ, List.setIfInBounds_toArray, Array.getD_eq_getD_getElem?, List.getElem?_toArray, List.getElem?_cons_succ, List.getElem?_cons_zero, Option.getD_some, Value.cells] at hS)) | (refine st_store hS 1 rfl _ _ _ rfl _ _ rfl rfl _ _ rfl (by kernel_rfl) (by kernel_rfl) (by kernel_rfl) ?_; clear hS; intro w_ hS; (try simp only [Act.put, Act.eval, List.set_cons_zero, List.set_cons_succ, List.setIfInBounds_toArray, Array.getD_eq_getD_getElem?, List.getElem?_toArray, List.getElem?_cons_succ, List.getElem?_cons_zero, Option.getD_some, Value.cells] at hS)) | (refine st_store hS 2 rfl _ _ _ rfl _ _ rfl rfl _ _ rfl (by kernel_rfl) (by kernel_rfl) (by kernel_rfl) ?_; clear hS; intro w_ hS; (try simp only [Act.put, Act.eval, List.set_cons_zero, List.set_cons_succ, List.setIfInBounds_toArray, Array.getD_eq_getD_getElem?, List.getElem?_toArray, List.getElem?_cons_succ, List.getElem?_cons_zero, Option.getD_some, Value.cells] at hS)) | (refine st_store hS 3 rfl _ _ _ rfl _ _ rfl rfl _ _ rfl (by kernel_rfl) (by kernel_rfl) (by kernel_rfl) ?_; clear hS; intro w_ hS; (try simp only [Act.put, Act.eval, List.set_cons_zero, List.set_cons_succ, List.setIfInBounds_toArray, Array.getD_eq_getD_getElem?, List.getElem?_toArray, List.getElem?_cons_succ, List.getElem?_cons_zero, Option.getD_some, Value.cells] at hS)) | (refine st_cstore hS 0 rfl _ _ _ rfl _ _ _ rfl rfl rfl (by first | (simp; done) | (simp; omega) | exact of_decide_eq_true (by kernel_rfl)) rfl (by first | rfl | assumption) (by kernel_rfl) ?_; clear hS; intro w_ hS; (try simp only [Act.put, Act.eval, List.set_cons_zero, List.set_cons_succ, List.setIfInBounds_toArray, Array.getD_eq_getD_getElem?, List.getElem?_toArray, List.getElem?_cons_succ, List.getElem?_cons_zero, Option.getD_some, Value.cells] at hS)) | (refine st_cstore hS 1 rfl _ _ _ rfl _ _ _ rfl rfl rfl (by first | (simp; done) | (simp; omega) | exact of_decide_eq_true (by kernel_rfl)) rfl (by first | rfl | assumption) (by kernel_rfl) ?_; clear hS; intro w_ hS; (try simp only [Act.put, Act.eval, List.set_cons_zero, List.set_cons_succ, List.setIfInBounds_toArray, Array.getD_eq_getD_getElem?, List.getElem?_toArray, List.getElem?_cons_succ, List.getElem?_cons_zero, Option.getD_some, Value.cells] at hS)) | (refine st_cstore hS 2 rfl _ _ _ rfl _ _ _ rfl rfl rfl (by first | (simp; done) | (simp; omega) | exact of_decide_eq_true (by kernel_rfl)) rfl (by first | rfl | assumption) (by kernel_rfl) ?_; clear hS; intro w_ hS; (try simp only [Act.put, Act.eval, List.set_cons_zero, List.set_cons_succ, List.setIfInBounds_toArray, Array.getD_eq_getD_getElem?, List.getElem?_toArray, List.getElem?_cons_succ, List.getElem?_cons_zero, Option.getD_some, Value.cells] at hS)) | (refine st_cstore hS 3 rfl _ _ _ rfl _ _ _ rfl rfl rfl (by first | (simp; done) | (simp; omega) | exact of_decide_eq_true (by kernel_rfl)) rfl (by first | rfl | assumption) (by kernel_rfl) ?_; clear hS; intro w_ hS; (try simp only [Act.put, Act.eval, List.set_cons_zero, List.set_cons_succ, List.setIfInBounds_toArray, Array.getD_eq_getD_getElem?, List.getElem?_toArray, List.getElem?_cons_succ, List.getElem?_cons_zero, Option.getD_some, Value.cells] at hS)))
        | (go_at_call 44; refine (hlink_any p L' (za : Nat) (zb : Nat) HP.out.1 HLL.out hS (fun D w h => h.2) (fun D w h => kt D w (k1 D w h.1))).mono ?_; rintro e w_ ⟨r, z, rfl, hP⟩; obtain ⟨rfl, L'', hP2, hS⟩ := HNY.out _ _ _ _ _ hP; replace hP2 := Lib.hid hP2; clear hP)
        | ((with_reducible show wpList _ _ _ (⟨_, .load _ _, _, _, _, _⟩ :: _) _ _); first | (refine st_cell hS 0 rfl _ _ rfl _ _ rfl _ _ rfl (by decide +kernel) _ (by first | assumption | rfl) ?_) | (refine st_cell hS 1 rfl _ _ rfl _ _ rfl _ _ rfl (by decide +kernel) _ (by first | assumption | rfl) ?_) | (refine st_cell hS 2 rfl _ _ rfl _ _ rfl _ _ rfl (by decide +kernel) _ (by first | assumption | rfl) ?_) | (refine st_cell hS 3 rfl _ _ rfl _ _ rfl _ _ rfl (by decide +kernel) _ (by first | assumption | rfl) ?_) | (refine st_cell hS 4 rfl _ _ rfl _ _ rfl _ _ rfl (by decide +kernel) _ (by first | assumption | rfl) ?_) | (refine st_cell hS 5 rfl _ _ rfl _ _ rfl _ _ rfl (by decide +kernel) _ (by first | assumption | rfl) ?_) | (refine st_cell hS 6 rfl _ _ rfl _ _ rfl _ _ rfl (by decide +kernel) _ (by first | assumption | rfl) ?_) | (refine st_cell hS 7 rfl _ _ rfl _ _ rfl _ _ rfl (by decide +kernel) _ (by first | assumption | rfl) ?_)))
      exact ⟨⟨j + 1, r, L'', by go_num, rfl, hlj, hP2, (hS.sub (List.sublist_cons_self _ _)).mono (KS.and stable_isH) fun D w h => ⟨h.1.1, h.2⟩⟩, by simp [intOf]; omega⟩
    · obtain rfl : j = L.length := by omega
      rw [HLF.out _ HP.out] at hS
      go_wp2_with (first | ((with_reducible show wpList _ _ _ (⟨_, .binOp _ _ _ _ _, _, _, _, _⟩ :: _) _ _); (first | ((with_reducible show wpList _ _ _ (⟨_, .binOp .lss _ _ _ _, _, _, _, _⟩ :: _) _ _); refine st_lss rfl _ _ _ _ rfl _ _ _ rfl rfl (fun h_ => ?_) (fun h_ => ?_)) | ((with_reducible show wpList _ _ _ (⟨_, .binOp .leq _ _ _ _, _, _, _, _⟩ :: _) _ _); refine st_leq rfl _ _ _ _ rfl _ _ _ rfl rfl (fun h_ => ?_) (fun h_ => ?_)) | ((with_reducible show wpList _ _ _ (⟨_, .binOp .gtr _ _ _ _, _, _, _, _⟩ :: _) _ _); refine st_gtr rfl _ _ _ _ rfl _ _ _ rfl rfl (fun h_ => ?_) (fun h_ => ?_)) | ((with_reducible show wpList _ _ _ (⟨_, .binOp .geq _ _ _ _, _, _, _, _⟩ :: _) _ _); refine st_geq rfl _ _ _ _ rfl _ _ _ rfl rfl (fun h_ => ?_) (fun h_ => ?_)) | ((with_reducible show wpList _ _ _ (⟨_, .binOp .eql _ _ _ _, _, _, _, _⟩ :: _) _ _); refine st_eql rfl _ _ _ _ rfl _ _ _ rfl rfl (fun h_ => ?_) (fun h_ => ?_)) | ((with_reducible show wpList _ _ _ (⟨_, .binOp .neq _ _ _ _, _, _, _, _⟩ :: _) _ _); refine st_neq rfl _ _ _ _ rfl _ _ _ rfl rfl (fun h_ => ?_) (fun h_ => ?_))) <;> go_prune))
      go_ret2

      exact ⟨_, _, rfl, _, hH.out, h6.out, hl, hS.mono (KSF.and stable_isH) fun D w h => ⟨KF D w h.1, h.2⟩⟩
end Go.Proofs.YtmlkgaiphpimiaaDoor
namespace Go.Proofs.YtmlkgaiphpimiaaDoor
open Go.RowKit
attribute [local go_sem ↓] Go.wp_at_zero Go.wp_at_succ
set_option maxRecDepth 20000
set_option exponentiation.threshold 5000

/-- '[]T{x, ..}', perhaps guarded: a row of the call's own -/
theorem st_litw {P : Program} {ops : Array Oper} {rest : List Oper} {o : Oper} {a : Act} {Q : Exit → Act → World → Prop} {w0 w : World} {F : List Fact} {K : (Nat → Prop) → World → Prop} (h : St w0 w F K) (hg : Region.wanted o (yielded ops a.tmps) = true) (t e : TypeId) (len : Nat) (parts : Array (Nat × Operand)) (ho : o.op = .buildSlice t len parts) (ht : P.underlying t = some (.slice e)) (cells : Array Value)
    (hb : builtSlice P e len (parts.map fun (i, x) => (i, a.eval x)).toList = some cells) (size : Nat) (hs : cells.size = len * size) (hm : len ≤ 1000000000000)
    (hk : ∀ g w', St w0 w' (.own (.slice (some ⟨g, 0, none⟩) len len) e size len cells.toList :: F) K → wpList P ops Q rest (a.put o.dst (.slice (some ⟨g, 0, none⟩) len len)) w') : wpList P ops Q (o :: rest) a w :=
  BigFrame.wpList_want hg fun _ hK => opw_slice ho ht rfl hb fun w' hX hB => hK _ _ (hk _ w' (h.new hB _ ⟨by simpa using hs, .inr ⟨w.heap.size, len, cells, rfl, Nat.le_refl _, hX, Nat.le_refl _, by unfold maxLen; omega, hs, by rw [← hs, show cells.size = cells.toList.length by simp, List.take_length]⟩⟩))
def T3 : List (Nat × Nat) := [(1, 2), (1, 3), (2, 3)]
def M3 : List (Nat × Nat) := [(1, 2), (2, 3), (1, 3)]
/-- links that lead upwards: no cycle -/
theorem acyc_up {L : List (Nat × Nat)} (h : ∀ x ∈ L, x.1 < x.2) : Acyc L := by
  have key : ∀ {a b : Nat}, TC L a b → a < b := by
    intro a b k
    induction k with
    | one h1 => exact h _ h1
    | cons h1 _ ih => exact Nat.lt_trans (h _ h1) ih
  exact fun a ha => Nat.lt_irrefl _ (key ha)
theorem t3_hok : HOK T3 := by
  refine ⟨?_, ?_, acyc_up ?_⟩
  · unfold Asc T3 plt; simp
  · unfold T3; simp
  · unfold T3; simp
theorem m3_acyc : Acyc M3 := acyc_up (by unfold M3; simp)
theorem t3_part {L : List (Nat × Nat)} (h : Part M3 3 L) : L = T3 := Asc.uniq h.1.asc t3_hok.asc fun u => by
  rw [h.2]; unfold M3 T3; simp; constructor
  · rintro (h | h | h) <;> simp [h]
  · rintro (h | h | h) <;> simp [h]
theorem t3_chain {l : List Nat} {c : Bool} (h : ChainP T3 1 3 l c) : l = [1, 3] ∧ c = true := by
  have h13 : (1, 3) ∈ T3 := by unfold T3; simp
  rcases h with ⟨_, _, h⟩ | ⟨h, i, j, d, e1, e2, _, _, hd, hl⟩
  · exact absurd ⟨1, 3, rfl, rfl, by omega, by omega, .inr (.one h13)⟩ h
  · obtain rfl : i = 1 := by omega
    obtain rfl : j = 3 := by omega
    have h1 : isDist T3 3 1 1 := ⟨⟨3, h13, rfl⟩, fun k hk hw => by
      obtain rfl : k = 0 := by omega
      exact absurd (show 1 = 3 from hw) (by decide)⟩
    obtain rfl := isDist_uniq hd h1
    refine ⟨?_, h⟩
    rw [hl, gp_first (L := T3) (b := 3) (v := 1) (d := 0) (t := 1) (x := (1, 3)) rfl rfl (show isDist T3 3 3 0 from ⟨rfl, fun k hk => absurd hk (Nat.not_lt_zero _)⟩) fun s hs y hy hc => ?_]
    · rfl
    · obtain rfl : s = 0 := by omega
      cases hy
      exact absurd (show 2 = 3 from hc.2.1) (by decide)
theorem t3_link {w0 w : World} {F : List Fact} {K : (Nat → Prop) → World → Prop} {r : Value} {z : Int} (h : LinkP w0 F K T3 3 1 r z w) : r = .pointer none ∧ z = 16 ∧ St w0 w F K := by
  rcases h with ⟨h, _⟩ | ⟨x, y, hx, hy, _, _, _, h⟩
  · exact absurd ⟨⟨by omega, by omega⟩, ⟨by omega, by omega⟩, by omega⟩ h
  · obtain rfl : x = 3 := by omega
    obtain rfl : y = 1 := by omega
    rcases h with ⟨h, _⟩ | ⟨_, _, h1, h2, h3⟩ | ⟨_, _, L', h1, h2, _⟩
    · exact absurd h (by unfold T3; decide)
    · exact ⟨h1, h2, h3⟩
    · exfalso
      have h3 : (3, 1) ∈ L' := (h2 _).2 (by simp)
      have h4 : (1, 3) ∈ L' := (h2 _).2 (by unfold T3; simp)
      exact h1.acyc 3 (.cons h3 (.one h4))
theorem t3_tc {a b : Nat} : TC T3 a b ↔ (a, b) ∈ T3 := by
  constructor
  · intro h
    induction h with
    | one h => exact h
    | @cons a b c h _ ih =>
      unfold T3 at *
      simp only [List.mem_cons, Prod.mk.injEq, List.not_mem_nil, or_false] at *
      omega
  · exact .one
theorem t3_jun : junM T3 1 = 14 := mask_ext fun i => by
  rw [tb_jun t3_hok.inr (by omega), t3_tc]
  constructor
  · rintro (rfl | h)
    · decide
    · unfold T3 at h
      simp only [List.mem_cons, Prod.mk.injEq, List.not_mem_nil, or_false] at h
      have : i = 2 ∨ i = 3 := by omega
      rcases this with rfl | rfl <;> decide
  · intro h
    have hi : i < 4 := by
      rcases Nat.lt_or_ge i 4 with h1 | h1
      · exact h1
      · rw [Nat.testBit_lt_two_pow (Nat.lt_of_lt_of_le (show 14 < 2 ^ 4 by decide) (Nat.pow_le_pow_right (by decide) h1))] at h; cases h
    have : i = 0 ∨ i = 1 ∨ i = 2 ∨ i = 3 := by omega
    rcases this with rfl | rfl | rfl | rfl
    · revert h; decide
    · exact .inl rfl
    · exact .inr (by unfold T3; decide)
    · exact .inr (by unfold T3; decide)
theorem t3_of : ofN [1, 2, 3] = 14 := by decide
theorem tc_unl {L : List (Nat × Nat)} {z : Nat × Nat} {a b : Nat} (h : TC (unl L z) a b) : TC L a b := h.mono fun x hx => (mem_unl.1 hx).1
theorem t3_red : redL T3 T3 = [(1, 3)] := by
  have h1 : ¬ TC (unl T3 (1, 2)) 1 2 := fun h => by
    obtain ⟨y, hy, hk⟩ := h.first
    obtain ⟨hy1, hy2⟩ := mem_unl.1 hy
    rcases hk with rfl | hk
    · exact hy2 rfl
    · have := t3_tc.1 (tc_unl hk)
      unfold T3 at hy1 this
      simp only [List.mem_cons, Prod.mk.injEq, List.not_mem_nil, or_false] at hy1 this
      omega
  have h2 : TC (unl T3 (1, 3)) 1 3 := .cons (b := 2) (mem_unl.2 ⟨by unfold T3; simp, by decide⟩) (.one (mem_unl.2 ⟨by unfold T3; simp, by decide⟩))
  have h3 : ¬ TC (unl T3 (2, 3)) 2 3 := fun h => by
    obtain ⟨y, hy, hk⟩ := h.first
    obtain ⟨hy1, hy2⟩ := mem_unl.1 hy
    unfold T3 at hy1
    simp only [List.mem_cons, Prod.mk.injEq, List.not_mem_nil, or_false] at hy1
    have : y = 3 := by omega
    subst this
    exact hy2 rfl
  unfold redL
  rw [show T3.filter _ = (T3.filter fun x => decide (x = (1, 3))) from List.filter_congr fun x hx => ?_]
  · unfold T3; decide
  · unfold T3 at hx
    simp only [List.mem_cons, List.not_mem_nil, or_false] at hx
    rcases hx with rfl | rfl | rfl
    · simpa using h1
    · simpa using h2
    · simpa using h3
set_option maxHeartbeats 2000000 in
theorem lawake10_any {w0 w : World} {F : List Fact} {K : (Nat → Prop) → World → Prop} (hS : St w0 w F K) (kt : ∀ D w, K D w → DTab w ∧ D 0) :
    Calls Tryd.prog 13 #[] w fun e w' => e = .returned (.bool true) ∧ St w0 w' F K := by
  have KSt := hS.stable
  go_enter Tryd.func13, Tryd.ntmps13
  go_wp2_with (first
    | (go_at_call 53; refine (hnew_any hS kt).mono ?_; rintro e w_ ⟨p, rfl, hS⟩)
    | ((with_reducible show wpList _ _ _ (⟨some 14, _, _, _, _, _⟩ :: _) _ _); refine st_litown hS rfl _ _ _ _ rfl Tryd.underlying25 #[.int .i64 1, .int .i64 2, .int .i64 2, .int .i64 3, .int .i64 1, .int .i64 3] (by kernel_rfl) 2 rfl (by decide) ?_; clear hS; intro gl w_ hS; replace hS := hS.freeze 0 (by decide) rfl))
  obtain ⟨KX, k1, kp, KS, hS2⟩ : ∃ KX : (Nat → Prop) → World → Prop, (∀ D w, KX D w → K D w) ∧ (∀ D w, KX D w → Sl w D 2 (.slice (some ⟨gl, 0, none⟩) 3 3) 3 (pcells M3)) ∧ Stable KX ∧ St w0 w_ F fun D w => KX D w ∧ IsH w D p [] := ⟨fun D w => K D w ∧ Sl w D 2 (.slice (some ⟨gl, 0, none⟩) 3 3) 3 (pcells M3), fun _ _ h => h.1, fun _ _ h => h.2, KSt.and (stable_sl (by decide)), hS.mono ((KSt.and (stable_sl (by decide))).and stable_isH) fun D w h => ⟨⟨h.1.1, h.2⟩, h.1.2⟩⟩
  clear hS
  have hS := hS2
  clear hS2
  have HNX : Hid (∀ (j : Nat) (x : Nat × Nat) (L' : List (Nat × Nat)), M3[j]? = some x → Part M3 j L' → ∀ (F : List Fact) (K : (Nat → Prop) → World → Prop) (w : World) (r : Value) (z : Int), LinkP w0 F K L' (x.1 : Nat) (x.2 : Nat) r z w → z = 0 ∧ ∃ L'', Part M3 (j + 1) L'' ∧ St w0 w F fun D w => K D w ∧ IsH w D r L'') := Lib.hid fun j x L' hx hP F K w r z h => by
    obtain ⟨h1, L'', h2, h3, h4⟩ := h.next hx hP.2 (by unfold M3; decide) (by unfold M3; simp) m3_acyc
    exact ⟨h1, L'', ⟨h2, h3⟩, h4⟩
  have hP0 : Part M3 0 [] := ⟨HOK.nil, by simp⟩
  go_loopw [1, 16] (fun v i wr => ∃ (j : Nat) (p : Value) (L' : List (Nat × Nat)), i = .int .i64 (j : Nat) ∧ p = v ∧ j ≤ 3 ∧ Hid (Part M3 j L') ∧ St w0 wr F fun D w => KX D w ∧ IsH w D p L') (fun _ i _ => 3 - (intOf i).toNat)
  case atStart => exact ⟨0, p, [], rfl, rfl, by omega, Lib.hid hP0, hS⟩
  case round =>
    clear hS hP0
    obtain ⟨j, p, L', rfl, rfl, hj, HP, hS⟩ := hrel
    by_cases hlj : j < 3
    · obtain ⟨f1, f2⟩ := pcells_at M3 j hlj
      have HNY := Lib.hid (HNX.out j _ L' (getD_at (0, 0) hlj) HP.out)
      have HLL : Hid (L'.length ≤ 900000) := Lib.hid (by have := HP.out.len; have e : M3.length = 3 := rfl; omega)
      generalize M3.getD j (0, 0) = z at *
      obtain ⟨za, zb⟩ := z
      dsimp only at f1 f2 HNY
      have kp2 : ∀ D w, (KX D w ∧ IsH w D p L') → Sl w D 2 (.slice (some ⟨gl, 0, none⟩) 3 3) 3 (pcells M3) := fun D w h => kp D w h.1
      go_wp2_with (first
        | ((with_reducible show wpList _ _ _ (⟨_, .binOp _ _ _ _ _, _, _, _, _⟩ :: _) _ _); (first | ((with_reducible show wpList _ _ _ (⟨_, .binOp .lss _ _ _ _, _, _, _, _⟩ :: _) _ _); refine st_lss rfl _ _ _ _ rfl _ _ _ rfl rfl (fun h_ => ?_) (fun h_ => ?_)) | ((with_reducible show wpList _ _ _ (⟨_, .binOp .leq _ _ _ _, _, _, _, _⟩ :: _) _ _); refine st_leq rfl _ _ _ _ rfl _ _ _ rfl rfl (fun h_ => ?_) (fun h_ => ?_)) | ((with_reducible show wpList _ _ _ (⟨_, .binOp .gtr _ _ _ _, _, _, _, _⟩ :: _) _ _); refine st_gtr rfl _ _ _ _ rfl _ _ _ rfl rfl (fun h_ => ?_) (fun h_ => ?_)) | ((with_reducible show wpList _ _ _ (⟨_, .binOp .geq _ _ _ _, _, _, _, _⟩ :: _) _ _); refine st_geq rfl _ _ _ _ rfl _ _ _ rfl rfl (fun h_ => ?_) (fun h_ => ?_)) | ((with_reducible show wpList _ _ _ (⟨_, .binOp .eql _ _ _ _, _, _, _, _⟩ :: _) _ _); refine st_eql rfl _ _ _ _ rfl _ _ _ rfl rfl (fun h_ => ?_) (fun h_ => ?_)) | ((with_reducible show wpList _ _ _ (⟨_, .binOp .neq _ _ _ _, _, _, _, _⟩ :: _) _ _); refine st_neq rfl _ _ _ _ rfl _ _ _ rfl rfl (fun h_ => ?_) (fun h_ => ?_))) <;> go_prune)
        | ((with_reducible show wpList _ _ _ (⟨_, .indexAddr _ _ _, _, _, _, _⟩ :: _) _ _); refine st_iaddr2 hS rfl _ _ _ rfl _ rfl rfl (by assumption) Tryd.underlying25 (by kernel_rfl) (by first | assumption | omega) _ _ (by assumption) (by assumption) ?_; intro b_ j_ hc0_ hc1_)
        | ((with_reducible show wpList _ _ _ (⟨some 3, _, _, _, _, _⟩ :: _) _ _); refine st_alloc hS rfl _ rfl (by kernel_rfl) ?_; clear hS; intro g4 w_ hS; (try simp only [Act.put, Act.eval, List.set_cons_zero, List.set_cons_succ, List.setIfInBounds_toArray, Array.getD_eq_getD_getElem?, List.getElem?_toArray, List.getElem?_cons_succ, List.getElem?_cons_zero, Option.getD_some, Value.cells] at hS))
        | ((with_reducible show wpList _ _ _ (⟨_, .store _ _ _, _, _, _, _⟩ :: _) _ _); first | (refine st_store hS 0 rfl _ _ _ rfl _ _ rfl rfl _ _ rfl (by kernel_rfl) (by kernel_rfl) (by kernel_rfl) ?_; clear hS; intro w_ hS; (try simp only [Act.put, Act.eval, List.set_cons_zero, List.set_cons_succ, List.setIfInBounds_toArray, Array.getD_eq_getD_getElem?, List.getElem?_toArray, List.getElem?_cons_succ, List.getElem?_cons_zero, Option.getD_some, Value.cells] at hS)) | (refine st_store hS 1 rfl _ _ _ rfl _ _ rfl rfl _ _ rfl (by kernel_rfl) (by kernel_rfl) (by kernel_rfl) ?_; clear hS; intro w_ hS; (try simp only [Act.put, Act.eval, List.set_cons_zero, List.set_cons_succ, List.setIfInBounds_toArray, Array.getD_eq_getD_getElem?, List.getElem?_toArray, List.getElem?_cons_succ, List.getElem?_cons_zero, Option.getD_some, Value.cells] at hS)) | (refine st_store hS 2 rfl _ _ _ rfl _ _ rfl rfl _ _ rfl (by kernel_rfl) (by kernel_rfl) (by kernel_rfl) ?_; clear hS; intro w_ hS; (try simp only [Act.put, Act.eval, List.set_cons_zero, List.set_cons_succ, List.setIfInBounds_toArray, Array.getD_eq_getD_getElem?, List.getElem?_toArray, List.getElem?_cons_succ, List.getElem?_cons_zero, Option.getD_some, Value.cells] at hS)) | (refine st_store hS 3 rfl _ _ _ rfl _ _ rfl rfl _ _ rfl (by kernel_rfl) (by kernel_rfl) (by kernel_rfl) ?_; clear hS; intro w_ hS; (try simp only [Act.put, Act.eval, List.set_cons_zero, List.set_cons_succ, List.setIfInBounds_toArray, Array.getD_eq_getD_getElem?, List.getElem?_toArray, List.getElem?_cons_succ, List.getElem?_cons_zero, Option.getD_some, Value.cells] at hS)) | (refine st_cstore hS 0 rfl _ _ _ rfl _ _ _ rfl rfl rfl (by first | (simp; done) | (simp; omega) | exact of_decide_eq_true (by kernel_rfl)) rfl (by first | rfl | assumption) (by kernel_rfl) ?_; clear hS; intro w_ hS; (try simp only [Act.put, Act.eval, List.set_cons_zero, List.set_cons_succ, List.setIfInBounds_toArray, Array.getD_eq_getD_getElem?, List.getElem?_toArray, List.getElem?_cons_succ, List.getElem?_cons_zero, Option.getD_some, Value.cells] at hS)) | (refine st_cstore hS 1 rfl _ _ _ rfl _ _ _ rfl rfl rfl (by first | (simp; done) | (simp; omega) | exact of_decide_eq_true (by kernel_rfl)) rfl (by first | rfl | assumption) (by kernel_rfl) ?_; clear hS; intro w_ hS; (try simp only [Act.put, Act.eval, List.set_cons_zero, List.set_cons_succ, List.setIfInBounds_toArray, Array.getD_eq_getD_getElem?, List.getElem?_toArray, List.getElem?_cons_succ, List.getElem?_cons_zero, Option.getD_some, Value.cells] at hS)) | (refine st_cstore hS 2 rfl _ _ _ rfl _ _ _ rfl rfl rfl (by first | (simp; done) | (simp; omega) | exact of_decide_eq_true (by kernel_rfl)) rfl (by first | rfl | assumption) (by kernel_rfl) ?_; clear hS; intro w_ hS; (try simp only [Act.put, Act.eval, List.set_cons_zero, List.set_cons_succ, List.setIfInBounds_toArray, Array.getD_eq_getD_getElem?, List.getElem?_toArray, List.getElem?_cons_succ, List.getElem?_cons_zero, Option.getD_some, Value.cells] at hS)) | (refine st_cstore hS 3 rfl _ _ _ rfl _ _ _ rfl rfl rfl (by first | (simp; done) | (simp; omega) | exact of_decide_eq_true (by kernel_rfl)) rfl (by first | rfl | assumption) (by kernel_rfl) ?_; clear hS; intro w_ hS; (try simp only [Act.put, Act.eval, List.set_cons_zero, List.set_cons_succ, List.setIfInBounds_toArray, Array.getD_eq_getD_getElem?, List.getElem?_toArray, List.getElem?_cons_succ, List.getElem?_cons_zero, Option.getD_some, Value.cells] at hS)))
        | (go_at_call 44; refine (hlink_any p L' (za : Nat) (zb : Nat) HP.out.1 HLL.out hS (fun D w h => h.2) (fun D w h => kt D w (k1 D w h.1))).mono ?_; rintro e w_ ⟨r, z, rfl, hP⟩; obtain ⟨rfl, L'', hP2, hS⟩ := HNY.out _ _ _ _ _ hP; replace hP2 := Lib.hid hP2; clear hP; obtain ⟨qr, _, rfl, -⟩ := hS.ro.2)
        | ((with_reducible show wpList _ _ _ (⟨_, .load _ _, _, _, _, _⟩ :: _) _ _); first | (refine st_cell hS 0 rfl _ _ rfl _ _ rfl _ _ rfl (by decide +kernel) _ (by first | assumption | rfl) ?_) | (refine st_cell hS 1 rfl _ _ rfl _ _ rfl _ _ rfl (by decide +kernel) _ (by first | assumption | rfl) ?_) | (refine st_cell hS 2 rfl _ _ rfl _ _ rfl _ _ rfl (by decide +kernel) _ (by first | assumption | rfl) ?_) | (refine st_cell hS 3 rfl _ _ rfl _ _ rfl _ _ rfl (by decide +kernel) _ (by first | assumption | rfl) ?_) | (refine st_cell hS 4 rfl _ _ rfl _ _ rfl _ _ rfl (by decide +kernel) _ (by first | assumption | rfl) ?_) | (refine st_cell hS 5 rfl _ _ rfl _ _ rfl _ _ rfl (by decide +kernel) _ (by first | assumption | rfl) ?_) | (refine st_cell hS 6 rfl _ _ rfl _ _ rfl _ _ rfl (by decide +kernel) _ (by first | assumption | rfl) ?_) | (refine st_cell hS 7 rfl _ _ rfl _ _ rfl _ _ rfl (by decide +kernel) _ (by first | assumption | rfl) ?_)))
      exact ⟨⟨j + 1, _, L'', by go_num, rfl, hlj, hP2, (hS.sub (List.sublist_cons_self _ _)).mono (KS.and stable_isH) fun D w h => ⟨h.1.1, h.2⟩⟩, by simp [intOf]; omega⟩
    · obtain rfl : j = 3 := by omega
      rw [t3_part HP.out] at hS
      obtain ⟨KY, ky1, ky2, hS2⟩ : ∃ KY : (Nat → Prop) → World → Prop, (∀ D w, KY D w → K D w) ∧ (∀ D w, KY D w → IsH w D p T3) ∧ St w0 wr F KY := ⟨_, fun D w h => k1 D w h.1, fun D w h => h.2, hS⟩
      clear hS
      have hS := hS2
      clear hS2 HNX HP k1 kp KS
      have HCH := Lib.hid (fun l c (h : ChainP T3 1 3 l c) => t3_chain h)
      have HLK := Lib.hid (fun (w0 w : World) (F : List Fact) (K : (Nat → Prop) → World → Prop) r z (h : LinkP w0 F K T3 3 1 r z w) => t3_link h)
      have H3 := Lib.hid t3_hok
      have HJ := Lib.hid (show (if (1 : Int) ≤ 1 ∧ (1 : Int) ≤ 63 then junM T3 (1 : Int).toNat else 0) = 14 by rw [if_pos (by omega)]; exact t3_jun)
      have HO := Lib.hid t3_of
      have HR := Lib.hid t3_red
      have HL3 : Hid (T3.length ≤ 900000) := Lib.hid (by decide)
      go_wp2_with (first
        | ((with_reducible show wpList _ _ _ (⟨_, .binOp _ _ _ _ _, _, _, _, _⟩ :: _) _ _); (first | ((with_reducible show wpList _ _ _ (⟨_, .binOp .lss _ _ _ _, _, _, _, _⟩ :: _) _ _); refine st_lss rfl _ _ _ _ rfl _ _ _ rfl rfl (fun h_ => ?_) (fun h_ => ?_)) | ((with_reducible show wpList _ _ _ (⟨_, .binOp .leq _ _ _ _, _, _, _, _⟩ :: _) _ _); refine st_leq rfl _ _ _ _ rfl _ _ _ rfl rfl (fun h_ => ?_) (fun h_ => ?_)) | ((with_reducible show wpList _ _ _ (⟨_, .binOp .gtr _ _ _ _, _, _, _, _⟩ :: _) _ _); refine st_gtr rfl _ _ _ _ rfl _ _ _ rfl rfl (fun h_ => ?_) (fun h_ => ?_)) | ((with_reducible show wpList _ _ _ (⟨_, .binOp .geq _ _ _ _, _, _, _, _⟩ :: _) _ _); refine st_geq rfl _ _ _ _ rfl _ _ _ rfl rfl (fun h_ => ?_) (fun h_ => ?_)) | ((with_reducible show wpList _ _ _ (⟨_, .binOp .eql _ _ _ _, _, _, _, _⟩ :: _) _ _); refine st_eql rfl _ _ _ _ rfl _ _ _ rfl rfl (fun h_ => ?_) (fun h_ => ?_)) | ((with_reducible show wpList _ _ _ (⟨_, .binOp .neq _ _ _ _, _, _, _, _⟩ :: _) _ _); refine st_neq rfl _ _ _ _ rfl _ _ _ rfl rfl (fun h_ => ?_) (fun h_ => ?_))) <;> go_prune)
        | (go_at_call 17; refine (hchain_any (ky2 _ _ hS.ro) H3.out HL3.out 1 3).mono ?_; rintro e w_ ⟨v, c, l, rfl, hp, hll, hs⟩; obtain ⟨rfl, rfl⟩ := HCH.out _ _ hp; replace hS := hS.new hs.below (.own v 3 1 2 (ints (natInts [1, 3]))) (hs.own 0 rfl); clear hs hp hll)
        | (go_at_call 44; refine (hlink_any p T3 3 1 H3.out HL3.out hS ky2 (fun D w h => kt D w (ky1 D w h))).mono ?_; rintro e w_ ⟨r, z, rfl, hP⟩; obtain ⟨rfl, rfl, hS⟩ := HLK.out _ _ _ _ _ _ hP; clear hP)
        | (go_at_call 21; refine (hjun_any (ky2 _ _ hS.ro) H3.out 1).mono ?_; rintro r_ w_ ⟨_, rfl, hj1, hb_⟩; rw [HJ.out] at hj1; replace hS := hS.ret2 hb_ stable_set hj1; clear hb_ hj1)
        | ((with_reducible show wpList _ _ _ (⟨some 49, _, _, _, _, _⟩ :: _) _ _); refine st_litown hS rfl _ _ _ _ rfl Tryd.underlying31 #[.int .i64 1, .int .i64 2, .int .i64 3] (by kernel_rfl) 1 rfl (by decide) ?_; clear hS; intro g49 w_ hS)
        | (go_at_call 46; refine (of_any _ [1, 2, 3] _ _ (Sl.of_own (hS.own 0 rfl))).mono ?_; rintro r_ w_ ⟨_, rfl, hO1, hb_⟩; rw [HO.out] at hO1; replace hS := hS.ret hb_ stable_set hO1; clear hb_ hO1)
        | (go_at_call 22; refine (equal_any _ _ 14 14 _ _ _ hS.ro.1.2 hS.ro.2).mono ?_; rintro r_ w_ ⟨_, rfl, rfl, hb_⟩; rw [show ((14 : Nat) == 14) = true from rfl]; replace hS := hS.ext hb_; clear hb_)
        | ((with_reducible show wpList _ _ _ (⟨some 54, _, _, _, _, _⟩ :: _) _ _); refine st_litw hS rfl _ _ _ _ rfl Tryd.underlying31 #[.int .i64 1, .int .i64 3] (by kernel_rfl) 1 rfl (by decide) ?_; clear hS; intro g54 w_ hS)
        | (go_at_call 19; refine (sleq_any _ _ [1, 3] [1, 3] _ _ _ (Sl.of_own (hS.own 2 rfl)) (Sl.of_own (hS.own 0 rfl))).mono ?_; rintro r_ w_ ⟨_, rfl, rfl, hb_⟩; rw [show (([1, 3] : List Int) == [1, 3]) = true from rfl]; replace hS := hS.ext hb_; clear hb_)
        | (go_at_call 32; refine (hred_any (ky2 _ _ hS.ro.1.1) (kt _ _ (ky1 _ _ hS.ro.1.1)).1 H3.out HL3.out).mono ?_; rintro e w_ ⟨v2, rfl, hs⟩; rw [HR.out] at hs; replace hS := hS.new hs.below (.own v2 50 2 1 (pcells [(1, 3)])) (hs.own 0 rfl); clear hs)
        | ((with_reducible show wpList _ _ _ (⟨some 64, _, _, _, _, _⟩ :: _) _ _); refine st_litw hS rfl _ _ _ _ rfl Tryd.underlying25 #[.int .i64 1, .int .i64 3] (by kernel_rfl) 2 rfl (by decide) ?_; clear hS; intro g64 w_ hS)
        | (go_at_call 30; refine (peq_any (L := [(1, 3)]) (M := [(1, 3)]) (Sl.of_own (hS.own 1 rfl)) (Sl.of_own (hS.own 0 rfl)) (by decide)).mono ?_; rintro r_ w_ ⟨_, rfl, rfl, hb_⟩; rw [show decide (([(1, 3)] : List (Nat × Nat)) = [(1, 3)]) = true from rfl]; replace hS := hS.ext hb_; clear hb_))
      go_ret
      exact ⟨rfl, (hS.sub (.cons _ (.cons _ (.cons _ (.cons _ (.cons _ (List.Sublist.refl _))))))).mono KSt fun D w h => ky1 D w h.1.1⟩
end Go.Proofs.YtmlkgaiphpimiaaDoor
namespace Go.Proofs.YtmlkgaiphpimiaaDoor
open Go.RowKit
attribute [local go_sem ↓] Go.wp_at_zero Go.wp_at_succ
set_option maxRecDepth 20000
set_option exponentiation.threshold 5000

/-- what a statement begins with: the laid table, which only reads -/
theorem start_tab {W : World} (h : DTab W) : ∃ K : (Nat → Prop) → World → Prop, (∀ D w, K D w → DTab w ∧ D 0) ∧ St W W [] K :=
  ⟨_, fun _ _ h => h, St.start (D := fun _ => True) dtab_stable ⟨h, trivial⟩⟩
end Go.Proofs.YtmlkgaiphpimiaaDoor
namespace Go.Proofs.YtmlkgaiphpimiaaDoor
open Go.RowKit
attribute [local go_sem ↓] Go.wp_at_zero Go.wp_at_succ
set_option maxRecDepth 20000
set_option exponentiation.threshold 5000

theorem closM_congr {L : List (Nat × Nat)} {a b : Nat} (h : ∀ r, 1 ≤ r → r < 64 → (a.testBit r = true ↔ b.testBit r = true)) : closM L a = closM L b := mask_ext fun i => by
  unfold closM
  rw [tb_closTo, tb_closTo]
  constructor
  · rintro ⟨r, h1, h2, h3, h4⟩
    exact ⟨r, h1, h2, (h r h2 h1).1 h3, h4⟩
  · rintro ⟨r, h1, h2, h3, h4⟩
    exact ⟨r, h1, h2, (h r h2 h1).2 h3, h4⟩
theorem tc_role {L : List (Nat × Nat)} (hH : HOK L) {a b : Nat} (h : TC L a b) : (1 ≤ a ∧ a < 64) ∧ 1 ≤ b ∧ b < 64 := by
  obtain ⟨y, h1, _⟩ := h.first
  obtain ⟨z, h2, _⟩ := h.last
  exact ⟨(hH.role _ h1).1, (hH.role _ h2).2⟩
theorem junR_role {L : List (Nat × Nat)} (hH : HOK L) {r : Int} {i : Nat} (h : (junR L r).testBit i = true) : 1 ≤ i ∧ i < 64 := by
  unfold junR at h
  split at h
  · rename_i hr
    rw [tb_jun hH.inr (by omega)] at h
    rcases h with rfl | h
    · omega
    · exact (tc_role hH h).2
  · rw [Nat.zero_testBit] at h; cases h
theorem roles_same {N : Nat} (h : ∀ i, N.testBit i = true → 1 ≤ i ∧ i < 64) : rolesM N = N := mask_ext fun i => by
  rw [tb_roles]
  exact ⟨fun q => q.2.2, fun q => ⟨(h i q).2, (h i q).1, q⟩⟩
theorem roles_junR {L : List (Nat × Nat)} (hH : HOK L) (r : Int) : rolesM (junR L r) = junR L r := roles_same fun _ h => junR_role hH h
theorem roles_closM {L : List (Nat × Nat)} (hH : HOK L) (s : Nat) : rolesM (closM L s) = closM L s := roles_same fun i h => by
  unfold closM at h
  rw [tb_closTo] at h
  obtain ⟨r, h1, h2, _, h4⟩ := h
  refine junR_role hH (r := (r : Int)) (i := i) ?_
  rw [junR, if_pos (by omega), Int.toNat_natCast]
  exact h4
theorem tb_senR {L : List (Nat × Nat)} {r : Int} {i : Nat} : (senR L r).testBit i = true ↔ i < 64 ∧ implR L (i : Nat) r := by
  unfold senR senTo; exact tb_mask ..
theorem roles_senR {L : List (Nat × Nat)} (r : Int) : rolesM (senR L r) = senR L r := roles_same fun i h => by
  obtain ⟨h1, a, b, h2, _, h3, _⟩ := tb_senR.1 h
  omega
theorem sen_same {L : List (Nat × Nat)} (hH : HOK L) (r : Int) : (if 1 ≤ r ∧ r ≤ 63 then senM L r.toNat else 0) = senR L r := mask_ext fun i => by
  rw [tb_senR]
  split
  · rename_i hr
    rw [tb_sen hH.inr]
    constructor
    · rintro (rfl | h)
      · exact ⟨by omega, _, r.toNat, rfl, by omega, by omega, by omega, .inl rfl⟩
      · have := tc_role hH h
        exact ⟨by omega, i, r.toNat, rfl, by omega, by omega, by omega, .inr h⟩
    · rintro ⟨_, a, b, h1, h2, _, _, h3⟩
      obtain rfl : i = a := by omega
      obtain rfl : r.toNat = b := by omega
      exact h3
  · rename_i hr
    rw [Nat.zero_testBit]
    constructor
    · intro h; cases h
    · rintro ⟨_, a, b, h1, h2, _, h3, _⟩
      omega
theorem closM_lt (L : List (Nat × Nat)) (s : Nat) : closM L s < T64 := by rw [T64_eq]; exact closTo_lt L s 64
theorem junR_lt (L : List (Nat × Nat)) (r : Int) : junR L r < T64 := by
  rw [T64_eq]
  unfold junR
  split
  · exact junM_lt L _
  · decide
theorem senR_lt (L : List (Nat × Nat)) (r : Int) : senR L r < T64 := by rw [T64_eq]; exact maskOf_lt _ _
theorem clos_with {L : List (Nat × Nat)} (s : Nat) : closM L (withN (withN (withN (rolesM s) 0) 64) 700) = closM L s := closM_congr fun r h1 h2 => by
  have e : ∀ (N i : Nat), i ≤ 4095 → (withN N (i : Nat)).testBit r = (N ||| 2 ^ i).testBit r := fun N i hi => by rw [withN, if_pos (by omega), Int.toNat_natCast]
  have e0 := e (rolesM s) 0 (by omega)
  have e1 := e (withN (rolesM s) ((0 : Nat) : Int)) 64 (by omega)
  have e2 := e (withN (withN (rolesM s) ((0 : Nat) : Int)) ((64 : Nat) : Int)) 700 (by omega)
  show (withN (withN (withN (rolesM s) ((0 : Nat) : Int)) ((64 : Nat) : Int)) ((700 : Nat) : Int)).testBit r = true ↔ _
  rw [e2, tb_or, e1, tb_or, e0, tb_or, tb_pow, tb_pow, tb_pow, tb_roles]
  constructor
  · rintro (((h | h) | h) | h)
    · exact h.2.2
    all_goals omega
  · intro h
    exact .inl (.inl (.inl ⟨h2, h1, h⟩))
set_option maxHeartbeats 1000000 in
theorem lsets_any (x s : Nat) (hx : x < T64) (hs : s < T64) (r : Int) (W : World) (hT : DTab W) : Calls Tryd.prog 8 #[.int .u64 (x : Nat), .int .u64 (s : Nat), .int .i64 r] W (Ret (fun x _ => x = .bool true) W) := by
  obtain ⟨K, kt, hS⟩ := start_tab hT
  have HX := Lib.hid hx
  clear hx hT
  go_enter Tryd.func8, Tryd.ntmps8
  go_wp2_with (first
    | (go_at_call 13; refine (lawake10_any hS kt).mono ?_; rintro e w_ ⟨rfl, hS⟩)
    | (go_at_call 14; refine (lmake10_any x HX.out hS kt).mono ?_; rintro e w_ ⟨p, v, L, rfl, hH, h6, hl, hS⟩; replace hH := Lib.hid hH; replace h6 := Lib.hid h6; obtain ⟨q, o, rfl, -⟩ := id hS.ro.2; obtain ⟨A, c, rfl, _, _⟩ := hS.ro.1.2.shape; have kI : ∀ D w, (K D w ∧ Sl w D 2 (.slice A L.length c) L.length (pcells L)) ∧ IsH w D (.pointer (some ⟨q, 0, none⟩)) L → IsH w D (.pointer (some ⟨q, 0, none⟩)) L := fun _ _ h => h.2; have kL : ∀ D w, (K D w ∧ Sl w D 2 (.slice A L.length c) L.length (pcells L)) ∧ IsH w D (.pointer (some ⟨q, 0, none⟩)) L → Sl w D 2 (.slice A L.length c) L.length (pcells L) := fun _ _ h => h.1.2; have kT : ∀ D w, (K D w ∧ Sl w D 2 (.slice A L.length c) L.length (pcells L)) ∧ IsH w D (.pointer (some ⟨q, 0, none⟩)) L → DTab w := fun _ _ h => (kt _ _ h.1.1).1; have KS0 := hS.stable; have hc2 := closM_lt L s; have HCW := Lib.hid (clos_with (L := L) s); have HRC := Lib.hid (roles_closM hH.out s))
    | (go_at_call 36; refine (lset10_any _ (by assumption) _).mono ?_; rintro r_ w_ ⟨_, rfl, hM, hb_⟩; replace hS := hS.ret hb_ stable_set hM; clear hb_ hM)
    | (go_at_call 24; refine (with_any _ _ _ _ _ hS.ro.2).mono ?_; rintro r_ w_ ⟨_, rfl, hM, hb_⟩; replace hS := hS.ret2 hb_ stable_set hM; clear hb_ hM)
    | (go_at_call 35; refine (hclos_any (by first | exact kI _ _ hS.ro | exact kI _ _ hS.ro.1 | exact kI _ _ hS.ro.1.1 | exact kI _ _ hS.ro.1.1.1 | exact kI _ _ hS.ro.1.1.1.1 | exact kI _ _ hS.ro.1.1.1.1.1 | exact kI _ _ hS.ro.1.1.1.1.1.1 | exact kI _ _ hS.ro.1.1.1.1.1.1.1 | exact kI _ _ hS.ro.1.1.1.1.1.1.1.1 | exact kI _ _ hS.ro.1.1.1.1.1.1.1.1.1 | exact kI _ _ hS.ro.1.1.1.1.1.1.1.1.1.1 | exact kI _ _ hS.ro.1.1.1.1.1.1.1.1.1.1.1) (by first | exact kT _ _ hS.ro | exact kT _ _ hS.ro.1 | exact kT _ _ hS.ro.1.1 | exact kT _ _ hS.ro.1.1.1 | exact kT _ _ hS.ro.1.1.1.1 | exact kT _ _ hS.ro.1.1.1.1.1 | exact kT _ _ hS.ro.1.1.1.1.1.1 | exact kT _ _ hS.ro.1.1.1.1.1.1.1 | exact kT _ _ hS.ro.1.1.1.1.1.1.1.1 | exact kT _ _ hS.ro.1.1.1.1.1.1.1.1.1 | exact kT _ _ hS.ro.1.1.1.1.1.1.1.1.1.1 | exact kT _ _ hS.ro.1.1.1.1.1.1.1.1.1.1.1) hH.out hS.ro.2).mono ?_; rintro r_ w_ ⟨_, rfl, hM, hb_⟩; rw [HCW.out] at hM; replace hS := hS.ret hb_ stable_set hM; clear hb_ hM)
    | (go_at_call 37; refine (rclos_any (by first | exact kL _ _ hS.ro | exact kL _ _ hS.ro.1 | exact kL _ _ hS.ro.1.1 | exact kL _ _ hS.ro.1.1.1 | exact kL _ _ hS.ro.1.1.1.1 | exact kL _ _ hS.ro.1.1.1.1.1 | exact kL _ _ hS.ro.1.1.1.1.1.1 | exact kL _ _ hS.ro.1.1.1.1.1.1.1 | exact kL _ _ hS.ro.1.1.1.1.1.1.1.1 | exact kL _ _ hS.ro.1.1.1.1.1.1.1.1.1 | exact kL _ _ hS.ro.1.1.1.1.1.1.1.1.1.1 | exact kL _ _ hS.ro.1.1.1.1.1.1.1.1.1.1.1) hH.out.inr (by omega) s).mono ?_; rintro r_ w_ ⟨_, rfl, rfl, hb_⟩; replace hS := hS.ext hb_; clear hb_)
    | (go_at_call 22; refine (equal_any _ _ (closM L s) (closM L s) _ _ _ hS.ro.1.2 (by rw [← HRC.out]; exact hS.ro.2)).mono ?_; rintro r_ w_ ⟨_, rfl, rfl, hb_⟩; rw [show (closM L s == closM L s) = true from beq_self_eq_true _]; replace hS := hS.ext hb_; clear hb_)
    | ((with_reducible show wpList _ _ _ (⟨some 39, _, _, _, _, _⟩ :: _) _ _); refine st_litown hS rfl _ _ _ _ rfl Tryd.underlying31 #[.int .i64 r, .int .i64 0, .int .i64 1, .int .i64 2, .int .i64 3, .int .i64 4, .int .i64 5, .int .i64 6, .int .i64 63, .int .i64 64] (by kernel_rfl) 1 rfl (by decide) ?_; clear hS; intro gl w_ hS))
  obtain ⟨qs, hqs⟩ : ∃ qs : List Int, qs = [r, 0, 1, 2, 3, 4, 5, 6, 63, 64] := ⟨_, rfl⟩
  have hql : qs.length = 10 := by rw [hqs]; rfl
  obtain ⟨KY, kI, kL, kT, kq, hS2⟩ : ∃ KY : (Nat → Prop) → World → Prop, (∀ D w, KY D w → IsH w D (.pointer (some ⟨q, 0, none⟩)) L) ∧ (∀ D w, KY D w → Sl w D 2 (.slice A L.length c) L.length (pcells L)) ∧ (∀ D w, KY D w → DTab w) ∧ (∀ D w, KY D w → Sl w D 1 (.slice (some ⟨gl, 0, none⟩) 10 10) 10 (ints qs)) ∧ St W w_ [] KY := ⟨_, fun D w h => kI D w h.1, fun D w h => kL D w h.1, fun D w h => kT D w h.1, fun D w h => h.2, (hS.freeze 0 (by decide) rfl).mono (KS0.and (stable_sl (size := 1) (n := 10) (v := .slice (some ⟨gl, 0, none⟩) 10 10) (xs := ints qs) (by decide))) fun D w h => ⟨h.1.1.1.1.1.1.1, by rw [hqs]; exact h.2⟩⟩
  clear hS hqs KS0 HCW HRC hc2
  have hS := hS2
  clear hS2
  have KSY := hS.stable
  go_loopw [41] (fun i wr => ∃ j : Nat, i = .int .i64 (j : Nat) ∧ j ≤ 10 ∧ St W wr [] KY) (fun i _ => 10 - (intOf i).toNat)
  case atStart => exact ⟨0, rfl, by omega, hS⟩
  case round =>
    clear hS
    obtain ⟨j, rfl, hj, hS⟩ := hrel
    by_cases hj10 : j < 10
    · have f1 := ints_at qs j (by omega)
      generalize qs.getD j 0 = y at *
      go_wp2_with (first
        | ((with_reducible show wpList _ _ _ (⟨_, .binOp _ _ _ _ _, _, _, _, _⟩ :: _) _ _); (first | ((with_reducible show wpList _ _ _ (⟨_, .binOp .lss _ _ _ _, _, _, _, _⟩ :: _) _ _); refine st_lss rfl _ _ _ _ rfl _ _ _ rfl rfl (fun h_ => ?_) (fun h_ => ?_)) | ((with_reducible show wpList _ _ _ (⟨_, .binOp .leq _ _ _ _, _, _, _, _⟩ :: _) _ _); refine st_leq rfl _ _ _ _ rfl _ _ _ rfl rfl (fun h_ => ?_) (fun h_ => ?_)) | ((with_reducible show wpList _ _ _ (⟨_, .binOp .gtr _ _ _ _, _, _, _, _⟩ :: _) _ _); refine st_gtr rfl _ _ _ _ rfl _ _ _ rfl rfl (fun h_ => ?_) (fun h_ => ?_)) | ((with_reducible show wpList _ _ _ (⟨_, .binOp .geq _ _ _ _, _, _, _, _⟩ :: _) _ _); refine st_geq rfl _ _ _ _ rfl _ _ _ rfl rfl (fun h_ => ?_) (fun h_ => ?_)) | ((with_reducible show wpList _ _ _ (⟨_, .binOp .eql _ _ _ _, _, _, _, _⟩ :: _) _ _); refine st_eql rfl _ _ _ _ rfl _ _ _ rfl rfl (fun h_ => ?_) (fun h_ => ?_)) | ((with_reducible show wpList _ _ _ (⟨_, .binOp .neq _ _ _ _, _, _, _, _⟩ :: _) _ _); refine st_neq rfl _ _ _ _ rfl _ _ _ rfl rfl (fun h_ => ?_) (fun h_ => ?_))) <;> go_prune)
        | ((with_reducible show wpList _ _ _ (⟨_, .indexAddr _ _ _, _, _, _, _⟩ :: _) _ _); refine st_iaddr1 hS rfl _ _ _ rfl _ rfl rfl (by assumption) Tryd.underlying31 (by kernel_rfl) (by first | assumption | omega) _ (by assumption) ?_; intro p_ hc_))
      replace hS := hS.nil 3 1
      go_loopw [11, 47] (fun v i wr => ∃ (t : Nat) (vo : Value), i = .int .i64 (t : Nat) ∧ vo = v ∧ t ≤ L.length ∧ St W wr [.own vo 3 1 (dirsOf (L.take t) y).length (ints (natInts (dirsOf (L.take t) y)))] KY) (fun _ i _ => L.length - (intOf i).toNat)
      case atStart => exact ⟨0, _, rfl, rfl, by omega, hS⟩
      case round =>
        clear hS
        clear f1
        obtain ⟨t, vo, rfl, rfl, ht, hS⟩ := hrel
        by_cases htl : t < L.length
        · obtain ⟨f1, f2⟩ := pcells_at L t htl
          have HST := Lib.hid (dirsOf_step (getD_at (0, 0) htl) y)
          have hM := dirsOf_len L y t
          generalize L.getD t (0, 0) = z at *
          generalize hMM : dirsOf (L.take t) y = M at *
          clear hMM
          obtain ⟨za, zb⟩ := z
          dsimp only at f1 f2 HST
          by_cases hz : (za : Int) = y
          · have HE := Lib.hid (HST.out.trans (if_pos hz))
            clear HST
            go_wp2_with (first
              | ((with_reducible show wpList _ _ _ (⟨_, .binOp _ _ _ _ _, _, _, _, _⟩ :: _) _ _); (first | ((with_reducible show wpList _ _ _ (⟨_, .binOp .lss _ _ _ _, _, _, _, _⟩ :: _) _ _); refine st_lss rfl _ _ _ _ rfl _ _ _ rfl rfl (fun h_ => ?_) (fun h_ => ?_)) | ((with_reducible show wpList _ _ _ (⟨_, .binOp .leq _ _ _ _, _, _, _, _⟩ :: _) _ _); refine st_leq rfl _ _ _ _ rfl _ _ _ rfl rfl (fun h_ => ?_) (fun h_ => ?_)) | ((with_reducible show wpList _ _ _ (⟨_, .binOp .gtr _ _ _ _, _, _, _, _⟩ :: _) _ _); refine st_gtr rfl _ _ _ _ rfl _ _ _ rfl rfl (fun h_ => ?_) (fun h_ => ?_)) | ((with_reducible show wpList _ _ _ (⟨_, .binOp .geq _ _ _ _, _, _, _, _⟩ :: _) _ _); refine st_geq rfl _ _ _ _ rfl _ _ _ rfl rfl (fun h_ => ?_) (fun h_ => ?_)) | ((with_reducible show wpList _ _ _ (⟨_, .binOp .eql _ _ _ _, _, _, _, _⟩ :: _) _ _); refine st_eql rfl _ _ _ _ rfl _ _ _ rfl rfl (fun h_ => ?_) (fun h_ => ?_)) | ((with_reducible show wpList _ _ _ (⟨_, .binOp .neq _ _ _ _, _, _, _, _⟩ :: _) _ _); refine st_neq rfl _ _ _ _ rfl _ _ _ rfl rfl (fun h_ => ?_) (fun h_ => ?_))) <;> go_prune)
              | ((with_reducible show wpList _ _ _ (⟨_, .indexAddr _ _ _, _, _, _, _⟩ :: _) _ _); refine st_iaddr2 hS rfl _ _ _ rfl _ rfl rfl (by assumption) Tryd.underlying25 (by kernel_rfl) (by first | assumption | omega) _ _ (by assumption) (by assumption) ?_; intro b_ j_ hc0_ hc1_)
              | ((with_reducible show wpList _ _ _ (⟨some 13, _, _, _, _, _⟩ :: _) _ _); refine st_alloc hS rfl _ rfl (by kernel_rfl) ?_; clear hS; intro g4 w_ hS; (try simp only [Act.put, Act.eval, List.set_cons_zero, List.set_cons_succ, List.setIfInBounds_toArray, Array.getD_eq_getD_getElem?, List.getElem?_toArray, List.getElem?_cons_succ, List.getElem?_cons_zero, Option.getD_some, Value.cells] at hS))
              | ((with_reducible show wpList _ _ _ (⟨_, .store _ _ _, _, _, _, _⟩ :: _) _ _); first | (refine st_store hS 0 rfl _ _ _ rfl _ _ rfl rfl _ _ rfl (by kernel_rfl) (by kernel_rfl) (by kernel_rfl) ?_; clear hS; intro w_ hS; (try simp only [Act.put, Act.eval, List.set_cons_zero, List.set_cons_succ, List.setIfInBounds_toArray, Array.getD_eq_getD_getElem?, List.getElem?_toArray, List.getElem?_cons_succ, List.getElem?_cons_zero, Option.getD_some, Value.cells] at hS)) | (refine st_store hS 1 rfl _ _ _ rfl _ _ rfl rfl _ _ rfl (by kernel_rfl) (by kernel_rfl) (by kernel_rfl) ?_; clear hS; intro w_ hS; (try simp only [Act.put, Act.eval, List.set_cons_zero, List.set_cons_succ, List.setIfInBounds_toArray, Array.getD_eq_getD_getElem?, List.getElem?_toArray, List.getElem?_cons_succ, List.getElem?_cons_zero, Option.getD_some, Value.cells] at hS)) | (refine st_store hS 2 rfl _ _ _ rfl _ _ rfl rfl _ _ rfl (by kernel_rfl) (by kernel_rfl) (by kernel_rfl) ?_; clear hS; intro w_ hS; (try simp only [Act.put, Act.eval, List.set_cons_zero, List.set_cons_succ, List.setIfInBounds_toArray, Array.getD_eq_getD_getElem?, List.getElem?_toArray, List.getElem?_cons_succ, List.getElem?_cons_zero, Option.getD_some, Value.cells] at hS)) | (refine st_store hS 3 rfl _ _ _ rfl _ _ rfl rfl _ _ rfl (by kernel_rfl) (by kernel_rfl) (by kernel_rfl) ?_; clear hS; intro w_ hS; (try simp only [Act.put, Act.eval, List.set_cons_zero, List.set_cons_succ, List.setIfInBounds_toArray, Array.getD_eq_getD_getElem?, List.getElem?_toArray, List.getElem?_cons_succ, List.getElem?_cons_zero, Option.getD_some, Value.cells] at hS)) | (refine st_cstore hS 0 rfl _ _ _ rfl _ _ _ rfl rfl rfl (by first | (simp; done) | (simp; omega) | exact of_decide_eq_true (by kernel_rfl)) rfl (by first | rfl | assumption) (by kernel_rfl) ?_; clear hS; intro w_ hS; (try simp only [Act.put, Act.eval, List.set_cons_zero, List.set_cons_succ, List.setIfInBounds_toArray, Array.getD_eq_getD_getElem?, List.getElem?_toArray, List.getElem?_cons_succ, List.getElem?_cons_zero, Option.getD_some, Value.cells] at hS)) | (refine st_cstore hS 1 rfl _ _ _ rfl _ _ _ rfl rfl rfl (by first | (simp; done) | (simp; omega) | exact of_decide_eq_true (by kernel_rfl)) rfl (by first | rfl | assumption) (by kernel_rfl) ?_; clear hS; intro w_ hS; (try simp only [Act.put, Act.eval, List.set_cons_zero, List.set_cons_succ, List.setIfInBounds_toArray, Array.getD_eq_getD_getElem?, List.getElem?_toArray, List.getElem?_cons_succ, List.getElem?_cons_zero, Option.getD_some, Value.cells] at hS)) | (refine st_cstore hS 2 rfl _ _ _ rfl _ _ _ rfl rfl rfl (by first | (simp; done) | (simp; omega) | exact of_decide_eq_true (by kernel_rfl)) rfl (by first | rfl | assumption) (by kernel_rfl) ?_; clear hS; intro w_ hS; (try simp only [Act.put, Act.eval, List.set_cons_zero, List.set_cons_succ, List.setIfInBounds_toArray, Array.getD_eq_getD_getElem?, List.getElem?_toArray, List.getElem?_cons_succ, List.getElem?_cons_zero, Option.getD_some, Value.cells] at hS)) | (refine st_cstore hS 3 rfl _ _ _ rfl _ _ _ rfl rfl rfl (by first | (simp; done) | (simp; omega) | exact of_decide_eq_true (by kernel_rfl)) rfl (by first | rfl | assumption) (by kernel_rfl) ?_; clear hS; intro w_ hS; (try simp only [Act.put, Act.eval, List.set_cons_zero, List.set_cons_succ, List.setIfInBounds_toArray, Array.getD_eq_getD_getElem?, List.getElem?_toArray, List.getElem?_cons_succ, List.getElem?_cons_zero, Option.getD_some, Value.cells] at hS)))
              | ((with_reducible show wpList _ _ _ (⟨_, .buildSlice _ 1 _, _, _, _, _⟩ :: _) _ _); refine st_push hS 1 rfl rfl _ _ _ _ rfl rfl ty_ints _ _ _ (.int .i64 (zb : Nat)) #[.int .i64 (zb : Nat)] rfl (by kernel_rfl) rfl rfl rfl rfl (by intro u hu; simp at hu; first | (subst hu; rfl) | (rcases hu with rfl | rfl <;> rfl)) (by omega) (by omega) ?_; clear hS; intro z_ v_ w_ hS; (try simp only [Act.put, Act.eval, List.set_cons_zero, List.set_cons_succ, List.setIfInBounds_toArray, Array.getD_eq_getD_getElem?, List.getElem?_toArray, List.getElem?_cons_succ, List.getElem?_cons_zero, Option.getD_some, Value.cells] at hS))
              | ((with_reducible show wpList _ _ _ (⟨_, .load _ _, _, _, _, _⟩ :: _) _ _); first | (refine st_cell hS 0 rfl _ _ rfl _ _ rfl _ _ rfl (by decide +kernel) _ (by first | assumption | rfl) ?_) | (refine st_cell hS 1 rfl _ _ rfl _ _ rfl _ _ rfl (by decide +kernel) _ (by first | assumption | rfl) ?_) | (refine st_cell hS 2 rfl _ _ rfl _ _ rfl _ _ rfl (by decide +kernel) _ (by first | assumption | rfl) ?_) | (refine st_cell hS 3 rfl _ _ rfl _ _ rfl _ _ rfl (by decide +kernel) _ (by first | assumption | rfl) ?_) | (refine st_cell hS 4 rfl _ _ rfl _ _ rfl _ _ rfl (by decide +kernel) _ (by first | assumption | rfl) ?_) | (refine st_cell hS 5 rfl _ _ rfl _ _ rfl _ _ rfl (by decide +kernel) _ (by first | assumption | rfl) ?_) | (refine st_cell hS 6 rfl _ _ rfl _ _ rfl _ _ rfl (by decide +kernel) _ (by first | assumption | rfl) ?_) | (refine st_cell hS 7 rfl _ _ rfl _ _ rfl _ _ rfl (by decide +kernel) _ (by first | assumption | rfl) ?_)))
            refine ⟨⟨t + 1, _, by go_num, rfl, htl, ?_⟩, by simp [intOf]; omega⟩
            rw [HE.out, ← natI_snoc, List.length_append]
            exact hS.sub (List.sublist_cons_self _ _)
          · have HE := Lib.hid (HST.out.trans (if_neg hz))
            clear HST
            go_wp2_with (first
              | ((with_reducible show wpList _ _ _ (⟨_, .binOp _ _ _ _ _, _, _, _, _⟩ :: _) _ _); (first | ((with_reducible show wpList _ _ _ (⟨_, .binOp .lss _ _ _ _, _, _, _, _⟩ :: _) _ _); refine st_lss rfl _ _ _ _ rfl _ _ _ rfl rfl (fun h_ => ?_) (fun h_ => ?_)) | ((with_reducible show wpList _ _ _ (⟨_, .binOp .leq _ _ _ _, _, _, _, _⟩ :: _) _ _); refine st_leq rfl _ _ _ _ rfl _ _ _ rfl rfl (fun h_ => ?_) (fun h_ => ?_)) | ((with_reducible show wpList _ _ _ (⟨_, .binOp .gtr _ _ _ _, _, _, _, _⟩ :: _) _ _); refine st_gtr rfl _ _ _ _ rfl _ _ _ rfl rfl (fun h_ => ?_) (fun h_ => ?_)) | ((with_reducible show wpList _ _ _ (⟨_, .binOp .geq _ _ _ _, _, _, _, _⟩ :: _) _ _); refine st_geq rfl _ _ _ _ rfl _ _ _ rfl rfl (fun h_ => ?_) (fun h_ => ?_)) | ((with_reducible show wpList _ _ _ (⟨_, .binOp .eql _ _ _ _, _, _, _, _⟩ :: _) _ _); refine st_eql rfl _ _ _ _ rfl _ _ _ rfl rfl (fun h_ => ?_) (fun h_ => ?_)) | ((with_reducible show wpList _ _ _ (⟨_, .binOp .neq _ _ _ _, _, _, _, _⟩ :: _) _ _); refine st_neq rfl _ _ _ _ rfl _ _ _ rfl rfl (fun h_ => ?_) (fun h_ => ?_))) <;> go_prune)
              | ((with_reducible show wpList _ _ _ (⟨_, .indexAddr _ _ _, _, _, _, _⟩ :: _) _ _); refine st_iaddr2 hS rfl _ _ _ rfl _ rfl rfl (by assumption) Tryd.underlying25 (by kernel_rfl) (by first | assumption | omega) _ _ (by assumption) (by assumption) ?_; intro b_ j_ hc0_ hc1_)
              | ((with_reducible show wpList _ _ _ (⟨some 13, _, _, _, _, _⟩ :: _) _ _); refine st_alloc hS rfl _ rfl (by kernel_rfl) ?_; clear hS; intro g4 w_ hS; (try simp only [Act.put, Act.eval, List.set_cons_zero, List.set_cons_succ, List.setIfInBounds_toArray, Array.getD_eq_getD_getElem?, List.getElem?_toArray, List.getElem?_cons_succ, List.getElem?_cons_zero, Option.getD_some, Value.cells] at hS))
              | ((with_reducible show wpList _ _ _ (⟨_, .store _ _ _, _, _, _, _⟩ :: _) _ _); first | (refine st_store hS 0 rfl _ _ _ rfl _ _ rfl rfl _ _ rfl (by kernel_rfl) (by kernel_rfl) (by kernel_rfl) ?_; clear hS; intro w_ hS; (try simp only [Act.put, Act.eval, List.set_cons_zero, List.set_cons_succ, List.setIfInBounds_toArray, Array.getD_eq_getD_getElem?, List.getElem?_toArray, List.getElem?_cons_succ, List.getElem?_cons_zero, Option.getD_some, Value.cells] at hS)) | (refine st_store hS 1 rfl _ _ _ rfl _ _ rfl rfl _ _ rfl (by kernel_rfl) (by kernel_rfl) (by kernel_rfl) ?_; clear hS; intro w_ hS; (try simp only [Act.put, Act.eval, List.set_cons_zero, List.set_cons_succ, List.setIfInBounds_toArray, Array.getD_eq_getD_getElem?, List.getElem?_toArray, List.getElem?_cons_succ, List.getElem?_cons_zero, Option.getD_some, Value.cells] at hS)) | (refine st_store hS 2 rfl _ _ _ rfl _ _ rfl rfl _ _ rfl (by kernel_rfl) (by kernel_rfl) (by kernel_rfl) ?_; clear hS; intro w_ hS; (try simp only [Act.put, Act.eval, List.set_cons_zero, List.set_cons_succ, List.setIfInBounds_toArray, Array.getD_eq_getD_getElem?, List.getElem?_toArray, List.getElem?_cons_succ, List.getElem?_cons_zero, Option.getD_some, Value.cells] at hS)) | (refine st_store hS 3 rfl _ _ _ rfl _ _ rfl rfl _ _ rfl (by kernel_rfl) (by kernel_rfl) (by kernel_rfl) ?_; clear hS; intro w_ hS; (try simp only [Act.put, Act.eval, List.set_cons_zero, List.set_cons_succ, List.setIfInBounds_toArray, Array.getD_eq_getD_getElem?, List.getElem?_toArray, List.getElem?_cons_succ, List.getElem?_cons_zero, Option.getD_some, Value.cells] at hS)) | (refine st_cstore hS 0 rfl _ _ _ rfl _ _ _ rfl rfl rfl (by first | (simp; done) | (simp; omega) | exact of_decide_eq_true (by kernel_rfl)) rfl (by first | rfl | assumption) (by kernel_rfl) ?_; clear hS; intro w_ hS; (try simp only [Act.put, Act.eval, List.set_cons_zero, List.set_cons_succ, List.setIfInBounds_toArray, Array.getD_eq_getD_getElem?, List.getElem?_toArray, List.getElem?_cons_succ, List.getElem?_cons_zero, Option.getD_some, Value.cells] at hS)) | (refine st_cstore hS 1 rfl _ _ _ rfl _ _ _ rfl rfl rfl (by first | (simp; done) | (simp; omega) | exact of_decide_eq_true (by kernel_rfl)) rfl (by first | rfl | assumption) (by kernel_rfl) ?_; clear hS; intro w_ hS; (try simp only [Act.put, Act.eval, List.set_cons_zero, List.set_cons_succ, List.setIfInBounds_toArray, Array.getD_eq_getD_getElem?, List.getElem?_toArray, List.getElem?_cons_succ, List.getElem?_cons_zero, Option.getD_some, Value.cells] at hS)) | (refine st_cstore hS 2 rfl _ _ _ rfl _ _ _ rfl rfl rfl (by first | (simp; done) | (simp; omega) | exact of_decide_eq_true (by kernel_rfl)) rfl (by first | rfl | assumption) (by kernel_rfl) ?_; clear hS; intro w_ hS; (try simp only [Act.put, Act.eval, List.set_cons_zero, List.set_cons_succ, List.setIfInBounds_toArray, Array.getD_eq_getD_getElem?, List.getElem?_toArray, List.getElem?_cons_succ, List.getElem?_cons_zero, Option.getD_some, Value.cells] at hS)) | (refine st_cstore hS 3 rfl _ _ _ rfl _ _ _ rfl rfl rfl (by first | (simp; done) | (simp; omega) | exact of_decide_eq_true (by kernel_rfl)) rfl (by first | rfl | assumption) (by kernel_rfl) ?_; clear hS; intro w_ hS; (try simp only [Act.put, Act.eval, List.set_cons_zero, List.set_cons_succ, List.setIfInBounds_toArray, Array.getD_eq_getD_getElem?, List.getElem?_toArray, List.getElem?_cons_succ, List.getElem?_cons_zero, Option.getD_some, Value.cells] at hS)))
              | ((with_reducible show wpList _ _ _ (⟨_, .load _ _, _, _, _, _⟩ :: _) _ _); first | (refine st_cell hS 0 rfl _ _ rfl _ _ rfl _ _ rfl (by decide +kernel) _ (by first | assumption | rfl) ?_) | (refine st_cell hS 1 rfl _ _ rfl _ _ rfl _ _ rfl (by decide +kernel) _ (by first | assumption | rfl) ?_) | (refine st_cell hS 2 rfl _ _ rfl _ _ rfl _ _ rfl (by decide +kernel) _ (by first | assumption | rfl) ?_) | (refine st_cell hS 3 rfl _ _ rfl _ _ rfl _ _ rfl (by decide +kernel) _ (by first | assumption | rfl) ?_) | (refine st_cell hS 4 rfl _ _ rfl _ _ rfl _ _ rfl (by decide +kernel) _ (by first | assumption | rfl) ?_) | (refine st_cell hS 5 rfl _ _ rfl _ _ rfl _ _ rfl (by decide +kernel) _ (by first | assumption | rfl) ?_) | (refine st_cell hS 6 rfl _ _ rfl _ _ rfl _ _ rfl (by decide +kernel) _ (by first | assumption | rfl) ?_) | (refine st_cell hS 7 rfl _ _ rfl _ _ rfl _ _ rfl (by decide +kernel) _ (by first | assumption | rfl) ?_)))
            exact ⟨⟨t + 1, _, by go_num, rfl, htl, by rw [HE.out]; exact hS.sub (List.sublist_cons_self _ _)⟩, by simp [intOf]; omega⟩
        · obtain rfl : t = L.length := by omega
          rw [List.take_length] at hS
          have hj1 := junR_lt L y
          have hj2 := senR_lt L y
          have HR1 := Lib.hid (roles_junR hH.out y)
          have HR2 := Lib.hid (roles_senR (L := L) y)
          have HSS := Lib.hid (sen_same hH.out y)
          have hll : L.length ≤ 900000 := by omega
          have HDQ : Hid ((natInts (dirsOf L y) == natInts (dirsOf L y)) = true) := Lib.hid (beq_self_eq_true _)
          have HDL : Hid ((natInts (dirsOf L y)).length = (dirsOf L y).length) := Lib.hid (by simp [natInts])
          have HDI := Lib.hid (fun (w : World) (D : Nat → Prop) (h : IsH w D (.pointer (some ⟨q, 0, none⟩)) L) => hdirect_any h hll y)
          generalize dirsOf L y = DL at *
          go_wp2_with (first
            | ((with_reducible show wpList _ _ _ (⟨_, .binOp _ _ _ _ _, _, _, _, _⟩ :: _) _ _); (first | ((with_reducible show wpList _ _ _ (⟨_, .binOp .lss _ _ _ _, _, _, _, _⟩ :: _) _ _); refine st_lss rfl _ _ _ _ rfl _ _ _ rfl rfl (fun h_ => ?_) (fun h_ => ?_)) | ((with_reducible show wpList _ _ _ (⟨_, .binOp .leq _ _ _ _, _, _, _, _⟩ :: _) _ _); refine st_leq rfl _ _ _ _ rfl _ _ _ rfl rfl (fun h_ => ?_) (fun h_ => ?_)) | ((with_reducible show wpList _ _ _ (⟨_, .binOp .gtr _ _ _ _, _, _, _, _⟩ :: _) _ _); refine st_gtr rfl _ _ _ _ rfl _ _ _ rfl rfl (fun h_ => ?_) (fun h_ => ?_)) | ((with_reducible show wpList _ _ _ (⟨_, .binOp .geq _ _ _ _, _, _, _, _⟩ :: _) _ _); refine st_geq rfl _ _ _ _ rfl _ _ _ rfl rfl (fun h_ => ?_) (fun h_ => ?_)) | ((with_reducible show wpList _ _ _ (⟨_, .binOp .eql _ _ _ _, _, _, _, _⟩ :: _) _ _); refine st_eql rfl _ _ _ _ rfl _ _ _ rfl rfl (fun h_ => ?_) (fun h_ => ?_)) | ((with_reducible show wpList _ _ _ (⟨_, .binOp .neq _ _ _ _, _, _, _, _⟩ :: _) _ _); refine st_neq rfl _ _ _ _ rfl _ _ _ rfl rfl (fun h_ => ?_) (fun h_ => ?_))) <;> go_prune)
            | (go_at_call 21; refine (hjun_any (by first | exact kI _ _ hS.ro | exact kI _ _ hS.ro.1 | exact kI _ _ hS.ro.1.1 | exact kI _ _ hS.ro.1.1.1 | exact kI _ _ hS.ro.1.1.1.1 | exact kI _ _ hS.ro.1.1.1.1.1 | exact kI _ _ hS.ro.1.1.1.1.1.1 | exact kI _ _ hS.ro.1.1.1.1.1.1.1 | exact kI _ _ hS.ro.1.1.1.1.1.1.1.1 | exact kI _ _ hS.ro.1.1.1.1.1.1.1.1.1 | exact kI _ _ hS.ro.1.1.1.1.1.1.1.1.1.1 | exact kI _ _ hS.ro.1.1.1.1.1.1.1.1.1.1.1) hH.out y).mono ?_; rintro r_ w_ ⟨_, rfl, hM, hb_⟩; replace hS := hS.ret2 hb_ (stable_set (N := junR L y)) hM; clear hb_ hM)
            | (go_at_call 38; refine (rjun_any (by first | exact kL _ _ hS.ro | exact kL _ _ hS.ro.1 | exact kL _ _ hS.ro.1.1 | exact kL _ _ hS.ro.1.1.1 | exact kL _ _ hS.ro.1.1.1.1 | exact kL _ _ hS.ro.1.1.1.1.1 | exact kL _ _ hS.ro.1.1.1.1.1.1 | exact kL _ _ hS.ro.1.1.1.1.1.1.1 | exact kL _ _ hS.ro.1.1.1.1.1.1.1.1 | exact kL _ _ hS.ro.1.1.1.1.1.1.1.1.1 | exact kL _ _ hS.ro.1.1.1.1.1.1.1.1.1.1 | exact kL _ _ hS.ro.1.1.1.1.1.1.1.1.1.1.1) hH.out.inr (by omega) y).mono ?_; rintro r_ w_ ⟨_, rfl, rfl, hb_⟩; replace hS := hS.ext hb_; clear hb_)
            | (go_at_call 25; refine (hsen_any (by first | exact kI _ _ hS.ro | exact kI _ _ hS.ro.1 | exact kI _ _ hS.ro.1.1 | exact kI _ _ hS.ro.1.1.1 | exact kI _ _ hS.ro.1.1.1.1 | exact kI _ _ hS.ro.1.1.1.1.1 | exact kI _ _ hS.ro.1.1.1.1.1.1 | exact kI _ _ hS.ro.1.1.1.1.1.1.1 | exact kI _ _ hS.ro.1.1.1.1.1.1.1.1 | exact kI _ _ hS.ro.1.1.1.1.1.1.1.1.1 | exact kI _ _ hS.ro.1.1.1.1.1.1.1.1.1.1 | exact kI _ _ hS.ro.1.1.1.1.1.1.1.1.1.1.1) hH.out y).mono ?_; rintro r_ w_ ⟨_, rfl, hM, hb_⟩; rw [HSS.out] at hM; replace hS := hS.ret2 hb_ stable_set hM; clear hb_ hM)
            | (go_at_call 39; refine (rsen_any (by first | exact kL _ _ hS.ro | exact kL _ _ hS.ro.1 | exact kL _ _ hS.ro.1.1 | exact kL _ _ hS.ro.1.1.1 | exact kL _ _ hS.ro.1.1.1.1 | exact kL _ _ hS.ro.1.1.1.1.1 | exact kL _ _ hS.ro.1.1.1.1.1.1 | exact kL _ _ hS.ro.1.1.1.1.1.1.1 | exact kL _ _ hS.ro.1.1.1.1.1.1.1.1 | exact kL _ _ hS.ro.1.1.1.1.1.1.1.1.1 | exact kL _ _ hS.ro.1.1.1.1.1.1.1.1.1.1 | exact kL _ _ hS.ro.1.1.1.1.1.1.1.1.1.1.1) hH.out.inr (by omega) y).mono ?_; rintro r_ w_ ⟨_, rfl, rfl, hb_⟩; replace hS := hS.ext hb_; clear hb_)
            | (go_at_call 36; refine (lset10_any _ (by assumption) _).mono ?_; rintro r_ w_ ⟨_, rfl, hM, hb_⟩; (first | rw [HR1.out] at hM | rw [HR2.out] at hM); replace hS := hS.ret hb_ stable_set hM; clear hb_ hM)
            | (go_at_call 22; first | (refine (equal_any _ _ (junR L y) (junR L y) _ _ _ hS.ro.1.2 hS.ro.2).mono ?_; rintro r_ w_ ⟨_, rfl, rfl, hb_⟩; rw [show (junR L y == junR L y) = true from beq_self_eq_true _]; replace hS := hS.ext hb_; clear hb_) | (refine (equal_any _ _ (senR L y) (senR L y) _ _ _ hS.ro.1.2 hS.ro.2).mono ?_; rintro r_ w_ ⟨_, rfl, rfl, hb_⟩; rw [show (senR L y == senR L y) = true from beq_self_eq_true _]; replace hS := hS.ext hb_; clear hb_))
            | (go_at_call 40; refine (HDI.out _ _ (by first | exact kI _ _ hS.ro | exact kI _ _ hS.ro.1 | exact kI _ _ hS.ro.1.1 | exact kI _ _ hS.ro.1.1.1 | exact kI _ _ hS.ro.1.1.1.1 | exact kI _ _ hS.ro.1.1.1.1.1 | exact kI _ _ hS.ro.1.1.1.1.1.1 | exact kI _ _ hS.ro.1.1.1.1.1.1.1 | exact kI _ _ hS.ro.1.1.1.1.1.1.1.1 | exact kI _ _ hS.ro.1.1.1.1.1.1.1.1.1 | exact kI _ _ hS.ro.1.1.1.1.1.1.1.1.1.1 | exact kI _ _ hS.ro.1.1.1.1.1.1.1.1.1.1.1)).mono ?_; rintro e w_ ⟨v2, rfl, hs⟩; replace hS := hS.new hs.below (.own v2 3 1 DL.length (ints (natInts DL))) (hs.own 0 rfl); clear hs)
            | (go_at_call 19; refine (sleq_any _ _ (natInts DL) (natInts DL) _ _ _ (by rw [HDL.out]; exact Sl.of_own (hS.own 0 rfl)) (by rw [HDL.out]; exact Sl.of_own (hS.own 1 rfl))).mono ?_; rintro r_ w_ ⟨_, rfl, rfl, hb_⟩; rw [HDQ.out]; replace hS := hS.ext hb_; clear hb_))
          exact ⟨⟨j + 1, by go_num, by omega, (hS.sub (.cons _ (.cons _ (List.Sublist.refl _)))).mono KSY fun D w h => h.1.1.1.1⟩, by simp [intOf]; omega⟩
    · go_wp2_with (first | ((with_reducible show wpList _ _ _ (⟨_, .binOp _ _ _ _ _, _, _, _, _⟩ :: _) _ _); (first | ((with_reducible show wpList _ _ _ (⟨_, .binOp .lss _ _ _ _, _, _, _, _⟩ :: _) _ _); refine st_lss rfl _ _ _ _ rfl _ _ _ rfl rfl (fun h_ => ?_) (fun h_ => ?_)) | ((with_reducible show wpList _ _ _ (⟨_, .binOp .leq _ _ _ _, _, _, _, _⟩ :: _) _ _); refine st_leq rfl _ _ _ _ rfl _ _ _ rfl rfl (fun h_ => ?_) (fun h_ => ?_)) | ((with_reducible show wpList _ _ _ (⟨_, .binOp .gtr _ _ _ _, _, _, _, _⟩ :: _) _ _); refine st_gtr rfl _ _ _ _ rfl _ _ _ rfl rfl (fun h_ => ?_) (fun h_ => ?_)) | ((with_reducible show wpList _ _ _ (⟨_, .binOp .geq _ _ _ _, _, _, _, _⟩ :: _) _ _); refine st_geq rfl _ _ _ _ rfl _ _ _ rfl rfl (fun h_ => ?_) (fun h_ => ?_)) | ((with_reducible show wpList _ _ _ (⟨_, .binOp .eql _ _ _ _, _, _, _, _⟩ :: _) _ _); refine st_eql rfl _ _ _ _ rfl _ _ _ rfl rfl (fun h_ => ?_) (fun h_ => ?_)) | ((with_reducible show wpList _ _ _ (⟨_, .binOp .neq _ _ _ _, _, _, _, _⟩ :: _) _ _); refine st_neq rfl _ _ _ _ rfl _ _ _ rfl rfl (fun h_ => ?_) (fun h_ => ?_))) <;> go_prune))
      go_ret
      exact Ret.mk rfl hS.below
end Go.Proofs.YtmlkgaiphpimiaaDoor
namespace Go.Proofs.YtmlkgaiphpimiaaDoor
open Go.RowKit Go.ChangeShapes Go.WideShapes

theorem boxF_of_reads {w : World} {n : String} {g : Nat} {t e : TypeId} {m : Nat} {k : IntKind} {zs : List Int} (hg : Tryd.prog.globalNamed n = some g) (hty : (Tryd.prog.globals[g]?).map (·.type) = some t)
    (ht : Tryd.prog.underlying t = some (.array m e)) (he : Tryd.prog.underlying e = some (.int k)) (hce : Tryd.prog.cellsOf e = 1) (hct : Tryd.prog.cellsOf t = m) (h : Lib.VarReads Tryd.prog w n (Lib.tabData k zs)) :
    ∃ t, BoxF w g t (zs.map fun z => Value.int k z).toArray := by
  obtain ⟨g', t', cs, fuel, p, hg', hty', hvar, hd⟩ := h
  obtain rfl := Option.some.inj (hg.symm.trans hg')
  obtain rfl := Option.some.inj (hty.symm.trans hty')
  have hcs := Lib.cells_of_tab ht he hce hct hd
  simp only [World.var?, hg, Option.bind_some] at hvar
  split at hvar
  · rename_i cs' t'' f heq
    obtain rfl := Option.some.inj hvar
    refine ⟨(t'', f), ?_⟩
    rw [← hcs]
    exact heq
  · cases hvar
end Go.Proofs.YtmlkgaiphpimiaaDoor
namespace Go.Proofs.YtmlkgaiphpimiaaDoor
open Go.RowKit Go.ChangeShapes Go.WideShapes

theorem dtab_of_reads {w : World} (h1 : Lib.VarReads Tryd.prog w "math/bits.deBruijn64tab" Rows.laid_math_bits_deBruijn64tab) : DTab w := by
  have e1 : (Rows.laid_math_bits_deBruijn64tab : DataW Unit) = Lib.tabData .u8 (dbL.map fun x : Nat => (x : Int)) := by kernel_rfl
  rw [e1] at h1
  obtain ⟨t, b1⟩ := boxF_of_reads (g := 0) (by kernel_rfl) (t := 133) (by kernel_rfl) Tryd.underlying133 Tryd.underlying5 (by kernel_rfl) (by kernel_rfl) h1
  have e : (List.map (fun z => Value.int .u8 z) (dbL.map fun x : Nat => (x : Int))) = u8s dbL := by simp [u8s]
  rw [e] at b1
  intro q hq
  rw [b1.cell, List.getElem?_toArray]
  exact u8s_at _ _ hq
end Go.Proofs.YtmlkgaiphpimiaaDoor
namespace Go.Proofs.YtmlkgaiphpimiaaDoor
open Go.ChangeShapes Go.WideShapes Go.ChangeAt Go.RowKit

section
variable {P : Program} {H : Type} {enc : TypeId × Value → H} {W : World} {r : Reach} {b0 base : Nat} {sp : Nat → Bool} {held : Bool} {v : Value} {d : DataW H} {p : List MemPlace} {t : TypeId}
theorem int_open {k : IntKind} (ht : P.underlying t = some (.int k)) (hv : Value.okWide P W r b0 t v) (h : DataW.Trod enc P W base sp held t v d p) : ∃ n, v = .int k n ∧ (Lit.int k n).wf = true := by
  obtain ⟨n, rfl⟩ := okWide_int ht hv
  obtain ⟨fuel, hf⟩ := h
  obtain ⟨m, e, _, w⟩ := DataW.trod_int ht hf
  simp [Value.cells] at e
  subst e
  exact ⟨_, rfl, w⟩
theorem u64_open (ht : P.underlying t = some (.int .u64)) (hv : Value.okWide P W r b0 t v) (h : DataW.Trod enc P W base sp held t v d p) : ∃ n : Nat, v = .int .u64 n ∧ n < T64 := by
  obtain ⟨n, rfl, w⟩ := int_open ht hv h
  have := bounds_u64 w
  obtain ⟨m, rfl⟩ := Int.eq_ofNat_of_zero_le (by omega : 0 ≤ n)
  exact ⟨m, rfl, by unfold T64; omega⟩
theorem i64_open (ht : P.underlying t = some (.int .i64)) (hv : Value.okWide P W r b0 t v) (h : DataW.Trod enc P W base sp held t v d p) : ∃ n : Int, v = .int .i64 n ∧ -9223372036854775808 ≤ n ∧ n < 9223372036854775808 := by
  obtain ⟨n, rfl, w⟩ := int_open ht hv h
  have := bounds_i64 w
  exact ⟨n, rfl, by omega, by omega⟩
end
end Go.Proofs.YtmlkgaiphpimiaaDoor
namespace Go.Proofs.YtmlkgaiphpimiaaDoor
open Go.ChangeShapes Go.WideShapes Go.ChangeAt Go.RowKit

theorem sets_laid_plain (W : World) (h : laidMetH Tryd.prog Rows.hierarchySetsRow.laid W) : DTab W := by
  have h' : laidMetH Tryd.prog [("math/bits.deBruijn64tab", Rows.laid_math_bits_deBruijn64tab)] W := h
  rw [MakeChecks.laidMetH_plain _ _ _ (by kernel_rfl)] at h'
  exact dtab_of_reads (Lib.laidMet.reads h' (.head _))
noncomputable def setsStart (os : Os) : World := World.laidAll Tryd.prog os Rows.hierarchySetsRow.laid
theorem sets_start_met (os : Os) (args : Array Value) : laidMetH Tryd.prog Rows.hierarchySetsRow.laid ((setsStart os).forCall (fun _ _ => 0) ⟨#[], args, []⟩).memory := by
  rw [MakeChecks.laidMetH_plain _ _ _ (by kernel_rfl)]
  exact laidMet_laidAll _ (by kernel_rfl) (by kernel_rfl)
theorem sets_own : ownKnob Tryd.prog.godebug = none := by kernel_rfl
theorem sets_laidOut : laidOutB Tryd.prog = true := by kernel_rfl

set_option maxRecDepth 100000 in
theorem sets_lifted (os : Os) (started : os.Started) (H : Type) (enc : TypeId × Value → H) :
    ReturnsInHanded {} Tryd.checked os 8 .any (fun w args => (Rows.hierarchySetsSpec.pre enc Tryd.prog Tryd.f8 [] false w args ∧ laidMetH Tryd.prog Rows.hierarchySetsRow.laid w) ∧ sizedMet enc Tryd.prog Tryd.f8 (OpenSpec.ofChange Rows.hierarchySetsSpec) false w args)
      (Rows.hierarchySetsSpec.post enc Tryd.prog Tryd.f8 false true false false) := by
  refine returnsInHanded_of_change_and (C := Tryd.checked) (X := fun w _ => laidMetH Tryd.prog Rows.hierarchySetsRow.laid w) (fun _ _ _ hh h => h.of_heap hh) sets_own started (by kernel_rfl) Tryd.func8
    (ChangeSpec.witness_shaped (enc := enc) (C := Tryd.checked) (os := os) (X := fun w _ => laidMetH Tryd.prog Rows.hierarchySetsRow.laid w) false (setsStart os) #[.int .u64 0, .int .u64 0, .int .i64 0] 8 (World.laidAll_os _ _ _) (World.shaped_of_ZipB (by kernel_rfl) (by kernel_rfl)) (by kernel_rfl) (by kernel_rfl) (by kernel_rfl) (sets_start_met os _)) ?_
  intro W base args ds gs before hval0 hW _ _ hL _
  have hval : ∀ (j : Nat) t v, Tryd.f8.params[j]? = some t → args[j]? = some v → Value.okWide Tryd.prog W .any base t v := hval0
  have hW' := hW
  obtain ⟨p, q, hA0, hV, rfl, hfz, hnd⟩ := hW
  have hA : DataW.TrodAll enc Tryd.prog W 0 (fun _ => true) true Tryd.f8.params.toList args.toList ds p := hA0
  rw [Tryd.params8] at hA hval
  obtain ⟨v0, v1, v2, d0, d1, d2, p0, p1, p2, rfl, rfl, rfl, h0, h1, h2⟩ := trodAll_three hA
  obtain ⟨rfl, rfl⟩ := trodVars_none hV
  obtain ⟨x, rfl, hx⟩ := u64_open Tryd.underlying22 (hval 0 _ v0 rfl rfl) h0
  obtain ⟨s, rfl, hs⟩ := u64_open Tryd.underlying22 (hval 1 _ v1 rfl rfl) h1
  obtain ⟨y, rfl, hy, hy2⟩ := i64_open Tryd.underlying3 (hval 2 _ v2 rfl rfl) h2
  have hT := sets_laid_plain W hL
  have lt : ∀ z ∈ p0 ++ p1 ++ p2, z.block < W.heap.size := fun z hz => by simpa using hW'.lt z (by simpa using hz)
  refine (lsets_any x s hx hs y W hT).mono fun E W' he => ?_
  obtain ⟨r, rfl, rfl, hb⟩ := he
  refine ⟨_, rfl, _, _, _, [], p0 ++ p1 ++ p2, [], hW', ?_, ?_, ?_, hb.frame _, fun h => by cases h⟩
  · exact trodAll_mk1 (shut_bool Tryd.underlying4 true)
  · rw [Tryd.params8]
    rw [List.append_assoc]
    exact trodAll_mk3 (Below.trod sets_laidOut (by kernel_rfl) (of_decide_eq_true (by kernel_rfl)) h0 hb fun z hz => lt z (List.mem_append_left _ (List.mem_append_left _ hz))) (Below.trod sets_laidOut (by kernel_rfl) (of_decide_eq_true (by kernel_rfl)) h1 hb fun z hz => lt z (List.mem_append_left _ (List.mem_append_right _ hz))) (Below.trod sets_laidOut (by kernel_rfl) (of_decide_eq_true (by kernel_rfl)) h2 hb fun z hz => lt z (List.mem_append_right _ hz))
  · rfl

theorem sets_holds : Rows.HierarchySetsSaid :=
  OpenClaim.holds_of_wide 8 Tryd.f8 rfl rfl rfl rfl rfl rfl rfl ⟨rfl, rfl, rfl, rfl, rfl⟩ rfl rfl rfl rfl rfl (by kernel_rfl) Tryd.func8 (by kernel_rfl)
    (of_decide_eq_true (by kernel_rfl)) (by unfold Func.isWrapper; rw [if_neg (by decide +kernel)]; exact ⟨rfl, rfl⟩)
    (fun os started H enc _ => sets_lifted os started H enc)
end Go.Proofs.YtmlkgaiphpimiaaDoor
namespace Go.Proofs.YtmlkgaiphpimiaaDoor
open Go

theorem sets_card : Rows.HierarchySetsCardSaid :=
  Claim7.holds_tied_plain_at .later [] [.data] true (true, "cfd49cb4656b8bd54bde5f9242d591093a1a57a61d44ec1a091c4818a6365428") false
    sets_holds (fun _ h => by cases h) (by kernel_rfl) (fun _ h => by cases h) hierarchySets_row_tie rfl ⟨rfl, rfl⟩ (by kernel_rfl) rfl
    (fun f fn hf hfn => by
      obtain rfl : f = 8 := Option.some.inj ((show Tryd.prog.funcNamed "arbac/arbaclaw10.HierarchySets" = some 8 by kernel_rfl).symm.trans hf) |>.symm
      obtain rfl : fn = Tryd.f8 := (Option.some.inj (Tryd.func8.symm.trans hfn)).symm
      exact ⟨by kernel_rfl, fun j t ht => by
        rw [Tryd.params8] at ht
        have h3 : t = 22 ∨ t = 3 := by
          rcases j with _ | _ | _ | j
          · simp at ht; simp [← ht]
          · simp at ht; simp [← ht]
          · simp at ht; simp [← ht]
          · simp at ht
        rcases h3 with rfl | rfl
        · exact (show Tryd.prog.wantsStandIn 22 = false by kernel_rfl)
        · exact (show Tryd.prog.wantsStandIn 3 = false by kernel_rfl)⟩)
    (by kernel_rfl)
end Go.Proofs.YtmlkgaiphpimiaaDoor
namespace Go.Proofs.YtmlkgaiphpimiaaDoor
#print axioms sets_card
end Go.Proofs.YtmlkgaiphpimiaaDoor
