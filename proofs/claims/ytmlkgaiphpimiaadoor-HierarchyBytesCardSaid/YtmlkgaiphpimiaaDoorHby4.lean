/-
  What the statement needs, part 4.
-/
import Derived.Test.YtmlkgaiphpimiaaDoorHby3
namespace Go.Proofs.YtmlkgaiphpimiaaDoor
open Go.RowKit
attribute [local go_sem ↓] Go.wp_at_zero Go.wp_at_succ
set_option maxRecDepth 20000
set_option exponentiation.threshold 5000

def unl (L : List (Nat × Nat)) (z : Nat × Nat) : List (Nat × Nat) := L.filter fun u => decide (u ≠ z)
theorem mem_unl {L : List (Nat × Nat)} {z u : Nat × Nat} : u ∈ unl L z ↔ u ∈ L ∧ u ≠ z := by
  unfold unl; rw [List.mem_filter, decide_eq_true_iff]
theorem unl_step {L : List (Nat × Nat)} {j : Nat} {u : Nat × Nat} (h : L[j]? = some u) (z : Nat × Nat) : unl (L.take (j + 1)) z = if u ≠ z then unl (L.take j) z ++ [u] else unl (L.take j) z := by
  unfold unl
  rw [List.take_add_one, h, List.filter_append]
  by_cases e : u = z <;> simp [e]
theorem unl_len (L : List (Nat × Nat)) (z : Nat × Nat) (j : Nat) : (unl (L.take j) z).length ≤ j := by
  unfold unl
  exact Nat.le_trans (List.length_filter_le _ _) (by rw [List.length_take]; omega)
theorem unl_len2 (L : List (Nat × Nat)) (z : Nat × Nat) : (unl L z).length ≤ L.length := List.length_filter_le _ _
theorem Inr.unl {n : Nat} {L : List (Nat × Nat)} (h : Inr n L) (z : Nat × Nat) : Inr n (unl L z) := fun x hx => h x (mem_unl.1 hx).1
section
variable {n : Nat} {L : List (Nat × Nat)}
open Classical in
theorem nAbove_lt' (hA : Acyc L) {b : Nat} (hb : b < n) : nAbove n L b < n := by
  have h := filt_lt (fun a => decide (TC L a b)) (fun _ => true) (List.range n) (fun _ _ _ => rfl) ⟨b, List.mem_range.2 hb, decide_eq_false (hA b), rfl⟩
  have e : (List.range n).filter (fun _ => true) = List.range n := List.filter_eq_self.2 fun _ _ => rfl
  rw [e, List.length_range] at h
  exact h
theorem Wk.lt (hL : Inr n L) (hA : Acyc L) {b k x : Nat} (hb : b < n) (h : Wk L b k x) : k < n := by
  have h1 := h.nAbove hL hA
  have h2 := nAbove_lt' hA hb
  omega
theorem farStep_at (m : Nat) (far : List Nat) (x : Nat × Nat) (i : Nat) (hi : i < far.length) : (farStep m far x).getD i 0 = far.getD i 0 ∨ (farStep m far x).getD i 0 = m + 1 := by
  unfold farStep
  split
  · by_cases e : x.1 = i
    · subst e
      right
      rw [List.getD_eq_getElem?_getD, List.getElem?_set_self hi]; rfl
    · left
      rw [List.getD_eq_getElem?_getD, List.getElem?_set_ne e, ← List.getD_eq_getElem?_getD]
  · exact .inl rfl
open Classical in
theorem gp_first {L : List (Nat × Nat)} {b v d t : Nat} {x : Nat × Nat} (h : L[t]? = some x) (h1 : x.1 = v) (h2 : isDist L b x.2 d) (hn : ∀ s, s < t → ∀ y, L[s]? = some y → ¬ (y.1 = v ∧ isDist L b y.2 d)) : gp L b (d + 1) v = v :: gp L b d x.2 := by
  have hf : L.find? (fun x => decide (x.1 = v ∧ isDist L b x.2 d)) = some x := by
    rw [List.find?_eq_some_iff_getElem]
    obtain ⟨h3, h4⟩ := List.getElem?_eq_some_iff.1 h
    refine ⟨decide_eq_true ⟨h1, h2⟩, t, h3, h4, fun s hs => ?_⟩
    have := hn s hs _ (List.getElem?_eq_getElem (by omega))
    simpa only [Bool.not_eq_true', decide_eq_false_iff_not] using this
  rw [gp, hf]
theorem gp_len {L : List (Nat × Nat)} {b : Nat} : ∀ {d v : Nat}, isDist L b v d → (gp L b d v).length = d + 1
  | 0, v, _ => rfl
  | d + 1, v, h => by
    obtain ⟨y, h1, h2⟩ := isDist_succ h
    have hex : ∃ t : Nat, ∃ x : Nat × Nat, L[t]? = some x ∧ x.1 = v ∧ isDist L b x.2 d := by
      obtain ⟨t, ht, e⟩ := List.getElem_of_mem h1
      exact ⟨t, (v, y), by rw [List.getElem?_eq_getElem ht, e], rfl, h2⟩
    have key : ∀ t : Nat, (∃ x : Nat × Nat, L[t]? = some x ∧ x.1 = v ∧ isDist L b x.2 d) → (gp L b (d + 1) v).length = d + 2 := by
      intro t
      induction t using Nat.strongRecOn with
      | _ t ih =>
        rintro ⟨x, hx, hx1, hx2⟩
        by_cases hf : ∃ s, s < t ∧ ∃ y, L[s]? = some y ∧ y.1 = v ∧ isDist L b y.2 d
        · obtain ⟨s, hs, hy⟩ := hf
          exact ih s hs hy
        · rw [gp_first hx hx1 hx2 fun s hs y hy hc => hf ⟨s, hs, y, hy, hc⟩, List.length_cons, gp_len hx2]
    obtain ⟨t, hx⟩ := hex
    exact key t hx
theorem far_bound {b m : Nat} {far : List Nat} (h : FarOK L b m far) {x : Nat} (hx : x < far.length) : far.getD x 0 ≤ m := by
  rcases Nat.eq_zero_or_pos (far.getD x 0) with h0 | h0
  · omega
  · have := (h x hx (far.getD x 0 - 1)).1 (by omega)
    omega
end
theorem natI_at {l : List Nat} {k : Nat} (h : k < l.length) : (ints (natInts l))[k]? = some (.int .i64 (l.getD k 0 : Nat)) := ints_natA l k h
theorem natI_set (l : List Nat) (k v : Nat) : (ints (natInts l)).set k (.int .i64 (v : Nat)) = ints (natInts (l.set k v)) := by
  simp [ints, natInts, List.map_set]
theorem natI_rep (n : Nat) : (madeCells #[Value.int .i64 0] (n * 1)).toList = ints (natInts (List.replicate n 0)) := by
  rw [ints_rep]; simp [ints, natInts]
theorem natI_snoc (l : List Nat) (k : Nat) : ints (natInts l) ++ [.int .i64 (k : Nat)] = ints (natInts (l ++ [k])) := by simp [ints, natInts]
def lenV : Value → Nat
  | .slice _ n _ => n
  | _ => 0
def PathP (L : List (Nat × Nat)) (n : Nat) (a b : Int) (l : List Nat) (c : Bool) : Prop :=
  (c = false ∧ l = [] ∧ ¬ ∃ i j k : Nat, a = (i : Int) ∧ b = (j : Int) ∧ i < n ∧ j < n ∧ Wk L j k i) ∨
  (c = true ∧ ∃ i j d : Nat, a = (i : Int) ∧ b = (j : Int) ∧ i < n ∧ j < n ∧ isDist L j i d ∧ l = gp L j d i)
def PathR (w0 : World) (L : List (Nat × Nat)) (n : Nat) (a b : Int) (e : Ending) (w' : World) : Prop :=
  ∃ (v : Value) (c : Bool) (l : List Nat), e = .returned (.tuple #[v, .bool c]) ∧ PathP L n a b l c ∧ l.length ≤ n ∧ St w0 w' [.own v 3 1 l.length (ints (natInts l))] fun _ _ => True
set_option maxHeartbeats 2000000 in
theorem opath_any {w0 : World} {D : Nat → Prop} {p : Value} {n : Nat} {L : List (Nat × Nat)} (h : IsOrd w0 D p n L) (hL : Inr n L) (hA : Acyc L) (hl : L.length ≤ 1000000) (hn : n ≤ 256) (a b : Int) :
    Calls Tryd.prog 27 #[p, .int .i64 a, .int .i64 b] w0 (PathR w0 L n a b) := by
  obtain ⟨q, gp_, av, bv, sv, xa, xb, rfl, h⟩ := h
  obtain ⟨K, ko, hS⟩ : ∃ K : (Nat → Prop) → World → Prop, (∀ D w, K D w → OrdX q gp_ av bv sv xa xb n L D w) ∧ St w0 w0 [] K := ⟨_, fun _ _ h => h, St.start stable_ordX h⟩
  clear h
  have HL := Lib.hid hL
  have HA := Lib.hid hA
  clear hL hA
  by_cases hin : 0 ≤ a ∧ a < (n : Int)
  · obtain ⟨i, rfl⟩ : ∃ i : Nat, a = (i : Int) := ⟨a.toNat, by omega⟩
    have HDA := Lib.hid (decide_eq_true hin)
    by_cases hjn : 0 ≤ b ∧ b < (n : Int)
    · obtain ⟨j, rfl⟩ : ∃ j : Nat, b = (j : Int) := ⟨b.toNat, by omega⟩
      have HDB := Lib.hid (decide_eq_true hjn)
      have hi : i < n := by omega
      have hj : j < n := by omega
      have HF0 := Lib.hid (FarOK.start (L := L) hj)
      have HFl : Hid (((List.replicate n 0).set j 1).length = n) := Lib.hid (by simp)
      have HFi : Hid (((List.replicate n 0).set j 1).getD i 0 = 0 ∨ ((List.replicate n 0).set j 1).getD i 0 = 1) := Lib.hid (by
        by_cases e : j = i
        · subst e; right; rw [List.getD_eq_getElem?_getD, List.getElem?_set_self (by simpa using hj)]; rfl
        · left; rw [List.getD_eq_getElem?_getD, List.getElem?_set_ne e, List.getElem?_replicate, if_pos hi]; rfl)
      have HST : Hid ((ints (natInts (List.replicate n 0))).set j (.int .i64 1) = ints (natInts ((List.replicate n 0).set j 1))) := Lib.hid (natI_set _ _ 1)
      clear hin hjn
      go_enter Tryd.func27, Tryd.ntmps27
      go_wp2_with (first
        | ((with_reducible show wpList _ _ _ (⟨_, .binOp _ _ _ _ _, _, _, _, _⟩ :: _) _ _); (first | (refine st_lss rfl _ _ _ _ rfl _ _ _ rfl rfl (fun h_ => ?_) (fun h_ => ?_)) | (refine st_leq rfl _ _ _ _ rfl _ _ _ rfl rfl (fun h_ => ?_) (fun h_ => ?_)) | (refine st_gtr rfl _ _ _ _ rfl _ _ _ rfl rfl (fun h_ => ?_) (fun h_ => ?_)) | (refine st_geq rfl _ _ _ _ rfl _ _ _ rfl rfl (fun h_ => ?_) (fun h_ => ?_)) | (refine st_eql rfl _ _ _ _ rfl _ _ _ rfl rfl (fun h_ => ?_) (fun h_ => ?_)) | (refine st_neq rfl _ _ _ _ rfl _ _ _ rfl rfl (fun h_ => ?_) (fun h_ => ?_))) <;> go_prune)
        | (go_at_call 64; refine (oin_any (ko _ _ hS.ro).ord _).mono ?_; (first | rw [HDA.out] | rw [HDB.out]); rintro r_ w_ ⟨_, rfl, rfl, hb_⟩; replace hS := hS.ext hb_; clear hb_)
        | ((with_reducible show wpList _ _ _ (⟨some 29, _, _, _, _, _⟩ :: _) _ _); refine st_kcell hS rfl _ _ rfl _ rfl _ (fun D w h => (ko D w h).1.cell 0 rfl) (by kernel_rfl) ?_)
        | ((with_reducible show wpList _ _ _ (⟨_, .makeSlice _ _ _, _, _, _, _⟩ :: _) _ _); refine st_mk hS rfl _ _ _ rfl ty_ints .i64 .i64 n #[.int .i64 0] rfl rfl (by kernel_rfl) (by omega) (by omega) ?_; clear hS; intro g3 w_ hS)
        | ((with_reducible show wpList _ _ _ (⟨_, .store 3 _ _, _, _, _, _⟩ :: _) _ _); refine st_ostore hS 0 rfl _ _ _ rfl _ (j) (.int .i64 1) rfl (rfl) rfl (by omega) rfl rfl (by kernel_rfl) ?_; clear hS; intro w_ hS; (try simp only [Act.put, Act.eval, List.set_cons_zero, List.set_cons_succ, List.setIfInBounds_toArray, Array.getD_eq_getD_getElem?, List.getElem?_toArray, List.getElem?_cons_succ, List.getElem?_cons_zero, Option.getD_some, Value.cells] at hS)))
      rw [natI_rep, HST.out] at hS
      go_loopw [9] (fun v wr => ∃ (m : Nat) (far : List Nat), v = .int .i64 (m : Nat) ∧ 1 ≤ m ∧ m ≤ n + 1 ∧ Hid (FarOK L j m far) ∧ Hid (far.length = n) ∧ Hid (far.getD i 0 = 0 ∨ far.getD i 0 = m) ∧ St w0 wr [.own (.slice (some ⟨g3, 0, none⟩) n n) 3 1 n (ints (natInts far))] K) (fun v _ => n + 1 - (intOf v).toNat)
      case atStart => exact ⟨1, _, rfl, by omega, by omega, HF0, HFl, HFi, hS⟩
      case round =>
        clear hS HF0 HFl HFi HST
        obtain ⟨m, far, rfl, hm1, hm2, HF, HFl, HFi, hS⟩ := hrel
        have HNi := Lib.hid (natI_at (l := far) (k := i) (by rw [HFl.out]; exact hi))
        by_cases hz : far.getD i 0 = 0
        · rw [hz] at HNi
          by_cases hmn : m ≤ n
          · have HT0 := Lib.hid (FarTo.zero HF.out)
            go_wp2_with (first
              | ((with_reducible show wpList _ _ _ (⟨_, .binOp _ _ _ _ _, _, _, _, _⟩ :: _) _ _); (first | (refine st_lss rfl _ _ _ _ rfl _ _ _ rfl rfl (fun h_ => ?_) (fun h_ => ?_)) | (refine st_leq rfl _ _ _ _ rfl _ _ _ rfl rfl (fun h_ => ?_) (fun h_ => ?_)) | (refine st_gtr rfl _ _ _ _ rfl _ _ _ rfl rfl (fun h_ => ?_) (fun h_ => ?_)) | (refine st_geq rfl _ _ _ _ rfl _ _ _ rfl rfl (fun h_ => ?_) (fun h_ => ?_)) | (refine st_eql rfl _ _ _ _ rfl _ _ _ rfl rfl (fun h_ => ?_) (fun h_ => ?_)) | (refine st_neq rfl _ _ _ _ rfl _ _ _ rfl rfl (fun h_ => ?_) (fun h_ => ?_))) <;> go_prune)
              | ((with_reducible show wpList _ _ _ (⟨some 38, _, _, _, _, _⟩ :: _) _ _); refine st_kcell hS rfl _ _ rfl _ rfl _ (fun D w h => (ko D w h).1.cell 0 rfl) (by kernel_rfl) ?_)
              | ((with_reducible show wpList _ _ _ (⟨some 52, _, _, _, _, _⟩ :: _) _ _); refine st_kcell hS rfl _ _ rfl _ rfl _ (fun D w h => (ko D w h).1.cell 1 rfl) (by kernel_rfl) ?_)
              | ((with_reducible show wpList _ _ _ (⟨some 44, _, _, _, _, _⟩ :: _) _ _); refine BigFrame.wpList_want rfl fun _ hK => opw_cell rfl rfl (by kernel_rfl) (own_cell (hS.own 0 rfl) _ _ (HNi.out)) (hK _ _ ?_)))
            have HZ := Lib.hid hz
            clear hz HNi HFi
            go_loopw [54] (fun v wr => ∃ (t : Nat) (far : List Nat), v = .int .i64 (t : Nat) ∧ t ≤ L.length ∧ Hid (FarTo L j m t far) ∧ Hid (far.length = n) ∧ Hid (far.getD i 0 = 0 ∨ far.getD i 0 = m + 1) ∧ St w0 wr [.own (.slice (some ⟨g3, 0, none⟩) n n) 3 1 n (ints (natInts far))] K) (fun v _ => L.length - (intOf v).toNat)
            case atStart => exact ⟨0, _, rfl, by omega, HT0, HFl, Lib.hid (.inl HZ.out), hS⟩
            case round =>
              clear hS HF HFl HZ HT0
              clear far
              obtain ⟨t, far, rfl, ht, HF, HFl, HFi, hS⟩ := hrel
              have kp : ∀ D w, K D w → Sl w D 2 (.slice (some ⟨gp_, 0, none⟩) L.length L.length) L.length (pcells L) := fun D w h => (ko D w h).2.1
              by_cases htl : t < L.length
              · obtain ⟨f1, f2⟩ := pcells_at L t htl
                have HG := getD_at (0, 0) htl
                have hx := HL.out _ (List.mem_of_getElem? HG)
                have HSP : Hid (FarTo L j m (t + 1) (farStep m far (L.getD t (0, 0))) ∧ ((farStep m far (L.getD t (0, 0))).getD i 0 = 0 ∨ (farStep m far (L.getD t (0, 0))).getD i 0 = m + 1) ∧ (farStep m far (L.getD t (0, 0))).length = n) := Lib.hid ⟨FarTo.step (by omega) HG (by rw [HFl.out]; exact hx.1) (by rw [HFl.out]; exact hx.2) HF.out, by
                  rcases farStep_at m far (L.getD t (0, 0)) i (by rw [HFl.out]; exact hi) with h | h
                  · rw [h]; exact HFi.out
                  · exact .inr h, by rw [farStep_len]; exact HFl.out⟩
                clear HG
                generalize L.getD t (0, 0) = x at *
                obtain ⟨xa, xb⟩ := x
                dsimp only at f1 f2 hx
                obtain ⟨hxa, hxb⟩ := hx
                have HNa := Lib.hid (natI_at (l := far) (k := xa) (by rw [HFl.out]; exact hxa))
                have HNb := Lib.hid (natI_at (l := far) (k := xb) (by rw [HFl.out]; exact hxb))
                by_cases hc : far.getD xb 0 = m ∧ far.getD xa 0 = 0
                · have HE : Hid (farStep m far (xa, xb) = far.set xa (m + 1)) := Lib.hid (if_pos hc)
                  have HS2 := Lib.hid (natI_set far xa (m + 1))
                  obtain ⟨hc1, hc2⟩ := hc
                  rw [hc1] at HNb
                  rw [hc2] at HNa
                  rw [HE.out] at HSP
                  clear hc1 hc2
                  go_wp2_with (first
                    | ((with_reducible show wpList _ _ _ (⟨_, .binOp _ _ _ _ _, _, _, _, _⟩ :: _) _ _); (first | (refine st_lss rfl _ _ _ _ rfl _ _ _ rfl rfl (fun h_ => ?_) (fun h_ => ?_)) | (refine st_leq rfl _ _ _ _ rfl _ _ _ rfl rfl (fun h_ => ?_) (fun h_ => ?_)) | (refine st_gtr rfl _ _ _ _ rfl _ _ _ rfl rfl (fun h_ => ?_) (fun h_ => ?_)) | (refine st_geq rfl _ _ _ _ rfl _ _ _ rfl rfl (fun h_ => ?_) (fun h_ => ?_)) | (refine st_eql rfl _ _ _ _ rfl _ _ _ rfl rfl (fun h_ => ?_) (fun h_ => ?_)) | (refine st_neq rfl _ _ _ _ rfl _ _ _ rfl rfl (fun h_ => ?_) (fun h_ => ?_))) <;> go_prune)
                    | ((with_reducible show wpList _ _ _ (⟨_, .indexAddr _ _ _, _, _, _, _⟩ :: _) _ _); refine st_iaddr2 hS rfl _ _ _ rfl _ rfl rfl (by assumption) Tryd.underlying25 (by kernel_rfl) (by first | assumption | omega) _ _ (by assumption) (by assumption) ?_; intro b_ j_ hc0_ hc1_)
                    | ((with_reducible show wpList _ _ _ (⟨some 11, _, _, _, _, _⟩ :: _) _ _); refine st_alloc hS rfl _ rfl (by kernel_rfl) ?_; clear hS; intro g4 w_ hS; (try simp only [Act.put, Act.eval, List.set_cons_zero, List.set_cons_succ, List.setIfInBounds_toArray, Array.getD_eq_getD_getElem?, List.getElem?_toArray, List.getElem?_cons_succ, List.getElem?_cons_zero, Option.getD_some, Value.cells] at hS))
                    | ((with_reducible show wpList _ _ _ (⟨_, .store 3 _ _, _, _, _, _⟩ :: _) _ _); refine st_ostore hS 1 rfl _ _ _ rfl _ (xa) (.int .i64 ((m + 1 : Nat) : Int)) rfl (rfl) rfl (by omega) rfl rfl (by kernel_rfl) ?_; clear hS; intro w_ hS; (try simp only [Act.put, Act.eval, List.set_cons_zero, List.set_cons_succ, List.setIfInBounds_toArray, Array.getD_eq_getD_getElem?, List.getElem?_toArray, List.getElem?_cons_succ, List.getElem?_cons_zero, Option.getD_some, Value.cells] at hS))
                    | ((with_reducible show wpList _ _ _ (⟨some 62, _, _, _, _, _⟩ :: _) _ _); refine BigFrame.wpList_want rfl fun _ hK => opw_cell rfl rfl (by kernel_rfl) (own_cell (hS.own 1 rfl) _ _ (HNb.out)) (hK _ _ ?_))
                    | ((with_reducible show wpList _ _ _ (⟨some 70, _, _, _, _, _⟩ :: _) _ _); refine BigFrame.wpList_want rfl fun _ hK => opw_cell rfl rfl (by kernel_rfl) (own_cell (hS.own 1 rfl) _ _ (HNa.out)) (hK _ _ ?_))
                    | ((with_reducible show wpList _ _ _ (⟨_, .store _ _ _, _, _, _, _⟩ :: _) _ _); (first | (refine st_store hS 0 rfl _ _ _ rfl _ _ rfl rfl _ _ rfl (by kernel_rfl) (by kernel_rfl) (by kernel_rfl) ?_) | (refine st_store hS 1 rfl _ _ _ rfl _ _ rfl rfl _ _ rfl (by kernel_rfl) (by kernel_rfl) (by kernel_rfl) ?_) | (refine st_store hS 2 rfl _ _ _ rfl _ _ rfl rfl _ _ rfl (by kernel_rfl) (by kernel_rfl) (by kernel_rfl) ?_) | (refine st_store hS 3 rfl _ _ _ rfl _ _ rfl rfl _ _ rfl (by kernel_rfl) (by kernel_rfl) (by kernel_rfl) ?_) | (refine st_cstore hS 0 rfl _ _ _ rfl _ _ _ rfl rfl rfl (by first | (simp; done) | (simp; omega) | exact of_decide_eq_true (by kernel_rfl)) rfl (by first | rfl | assumption) (by kernel_rfl) ?_) | (refine st_cstore hS 1 rfl _ _ _ rfl _ _ _ rfl rfl rfl (by first | (simp; done) | (simp; omega) | exact of_decide_eq_true (by kernel_rfl)) rfl (by first | rfl | assumption) (by kernel_rfl) ?_) | (refine st_cstore hS 2 rfl _ _ _ rfl _ _ _ rfl rfl rfl (by first | (simp; done) | (simp; omega) | exact of_decide_eq_true (by kernel_rfl)) rfl (by first | rfl | assumption) (by kernel_rfl) ?_) | (refine st_cstore hS 3 rfl _ _ _ rfl _ _ _ rfl rfl rfl (by first | (simp; done) | (simp; omega) | exact of_decide_eq_true (by kernel_rfl)) rfl (by first | rfl | assumption) (by kernel_rfl) ?_)); clear hS; intro w_ hS; (try simp only [Act.put, Act.eval, List.set_cons_zero, List.set_cons_succ, List.setIfInBounds_toArray, Array.getD_eq_getD_getElem?, List.getElem?_toArray, List.getElem?_cons_succ, List.getElem?_cons_zero, Option.getD_some, Value.cells] at hS))
                    | ((with_reducible show wpList _ _ _ (⟨_, .load _ _, _, _, _, _⟩ :: _) _ _); first | (refine st_cell hS 0 rfl _ _ rfl _ _ rfl _ _ rfl (by decide +kernel) _ (by first | assumption | rfl) ?_) | (refine st_cell hS 1 rfl _ _ rfl _ _ rfl _ _ rfl (by decide +kernel) _ (by first | assumption | rfl) ?_) | (refine st_cell hS 2 rfl _ _ rfl _ _ rfl _ _ rfl (by decide +kernel) _ (by first | assumption | rfl) ?_) | (refine st_cell hS 3 rfl _ _ rfl _ _ rfl _ _ rfl (by decide +kernel) _ (by first | assumption | rfl) ?_) | (refine st_cell hS 4 rfl _ _ rfl _ _ rfl _ _ rfl (by decide +kernel) _ (by first | assumption | rfl) ?_) | (refine st_cell hS 5 rfl _ _ rfl _ _ rfl _ _ rfl (by decide +kernel) _ (by first | assumption | rfl) ?_) | (refine st_cell hS 6 rfl _ _ rfl _ _ rfl _ _ rfl (by decide +kernel) _ (by first | assumption | rfl) ?_) | (refine st_cell hS 7 rfl _ _ rfl _ _ rfl _ _ rfl (by decide +kernel) _ (by first | assumption | rfl) ?_)))
                  rw [HS2.out] at hS
                  exact ⟨⟨t + 1, _, by go_num, htl, Lib.hid HSP.out.1, Lib.hid HSP.out.2.2, Lib.hid HSP.out.2.1, hS.sub (List.sublist_cons_self _ _)⟩, by simp [intOf]; omega⟩
                · have HE : Hid (farStep m far (xa, xb) = far) := Lib.hid (if_neg hc)
                  rw [HE.out] at HSP
                  generalize far.getD xa 0 = ua at *
                  generalize far.getD xb 0 = ub at *
                  by_cases hc1 : ub = m
                  · have hc2 : ¬ ua = 0 := fun h => hc ⟨hc1, h⟩
                    clear hc
                    go_wp2_with (first
                      | ((with_reducible show wpList _ _ _ (⟨_, .binOp _ _ _ _ _, _, _, _, _⟩ :: _) _ _); (first | (refine st_lss rfl _ _ _ _ rfl _ _ _ rfl rfl (fun h_ => ?_) (fun h_ => ?_)) | (refine st_leq rfl _ _ _ _ rfl _ _ _ rfl rfl (fun h_ => ?_) (fun h_ => ?_)) | (refine st_gtr rfl _ _ _ _ rfl _ _ _ rfl rfl (fun h_ => ?_) (fun h_ => ?_)) | (refine st_geq rfl _ _ _ _ rfl _ _ _ rfl rfl (fun h_ => ?_) (fun h_ => ?_)) | (refine st_eql rfl _ _ _ _ rfl _ _ _ rfl rfl (fun h_ => ?_) (fun h_ => ?_)) | (refine st_neq rfl _ _ _ _ rfl _ _ _ rfl rfl (fun h_ => ?_) (fun h_ => ?_))) <;> go_prune)
                      | ((with_reducible show wpList _ _ _ (⟨_, .indexAddr _ _ _, _, _, _, _⟩ :: _) _ _); refine st_iaddr2 hS rfl _ _ _ rfl _ rfl rfl (by assumption) Tryd.underlying25 (by kernel_rfl) (by first | assumption | omega) _ _ (by assumption) (by assumption) ?_; intro b_ j_ hc0_ hc1_)
                      | ((with_reducible show wpList _ _ _ (⟨some 11, _, _, _, _, _⟩ :: _) _ _); refine st_alloc hS rfl _ rfl (by kernel_rfl) ?_; clear hS; intro g4 w_ hS; (try simp only [Act.put, Act.eval, List.set_cons_zero, List.set_cons_succ, List.setIfInBounds_toArray, Array.getD_eq_getD_getElem?, List.getElem?_toArray, List.getElem?_cons_succ, List.getElem?_cons_zero, Option.getD_some, Value.cells] at hS))
                      | ((with_reducible show wpList _ _ _ (⟨some 62, _, _, _, _, _⟩ :: _) _ _); refine BigFrame.wpList_want rfl fun _ hK => opw_cell rfl rfl (by kernel_rfl) (own_cell (hS.own 1 rfl) _ _ (HNb.out)) (hK _ _ ?_))
                      | ((with_reducible show wpList _ _ _ (⟨some 70, _, _, _, _, _⟩ :: _) _ _); refine BigFrame.wpList_want rfl fun _ hK => opw_cell rfl rfl (by kernel_rfl) (own_cell (hS.own 1 rfl) _ _ (HNa.out)) (hK _ _ ?_))
                      | ((with_reducible show wpList _ _ _ (⟨_, .store _ _ _, _, _, _, _⟩ :: _) _ _); (first | (refine st_store hS 0 rfl _ _ _ rfl _ _ rfl rfl _ _ rfl (by kernel_rfl) (by kernel_rfl) (by kernel_rfl) ?_) | (refine st_store hS 1 rfl _ _ _ rfl _ _ rfl rfl _ _ rfl (by kernel_rfl) (by kernel_rfl) (by kernel_rfl) ?_) | (refine st_store hS 2 rfl _ _ _ rfl _ _ rfl rfl _ _ rfl (by kernel_rfl) (by kernel_rfl) (by kernel_rfl) ?_) | (refine st_store hS 3 rfl _ _ _ rfl _ _ rfl rfl _ _ rfl (by kernel_rfl) (by kernel_rfl) (by kernel_rfl) ?_) | (refine st_cstore hS 0 rfl _ _ _ rfl _ _ _ rfl rfl rfl (by first | (simp; done) | (simp; omega) | exact of_decide_eq_true (by kernel_rfl)) rfl (by first | rfl | assumption) (by kernel_rfl) ?_) | (refine st_cstore hS 1 rfl _ _ _ rfl _ _ _ rfl rfl rfl (by first | (simp; done) | (simp; omega) | exact of_decide_eq_true (by kernel_rfl)) rfl (by first | rfl | assumption) (by kernel_rfl) ?_) | (refine st_cstore hS 2 rfl _ _ _ rfl _ _ _ rfl rfl rfl (by first | (simp; done) | (simp; omega) | exact of_decide_eq_true (by kernel_rfl)) rfl (by first | rfl | assumption) (by kernel_rfl) ?_) | (refine st_cstore hS 3 rfl _ _ _ rfl _ _ _ rfl rfl rfl (by first | (simp; done) | (simp; omega) | exact of_decide_eq_true (by kernel_rfl)) rfl (by first | rfl | assumption) (by kernel_rfl) ?_)); clear hS; intro w_ hS; (try simp only [Act.put, Act.eval, List.set_cons_zero, List.set_cons_succ, List.setIfInBounds_toArray, Array.getD_eq_getD_getElem?, List.getElem?_toArray, List.getElem?_cons_succ, List.getElem?_cons_zero, Option.getD_some, Value.cells] at hS))
                      | ((with_reducible show wpList _ _ _ (⟨_, .load _ _, _, _, _, _⟩ :: _) _ _); first | (refine st_cell hS 0 rfl _ _ rfl _ _ rfl _ _ rfl (by decide +kernel) _ (by first | assumption | rfl) ?_) | (refine st_cell hS 1 rfl _ _ rfl _ _ rfl _ _ rfl (by decide +kernel) _ (by first | assumption | rfl) ?_) | (refine st_cell hS 2 rfl _ _ rfl _ _ rfl _ _ rfl (by decide +kernel) _ (by first | assumption | rfl) ?_) | (refine st_cell hS 3 rfl _ _ rfl _ _ rfl _ _ rfl (by decide +kernel) _ (by first | assumption | rfl) ?_) | (refine st_cell hS 4 rfl _ _ rfl _ _ rfl _ _ rfl (by decide +kernel) _ (by first | assumption | rfl) ?_) | (refine st_cell hS 5 rfl _ _ rfl _ _ rfl _ _ rfl (by decide +kernel) _ (by first | assumption | rfl) ?_) | (refine st_cell hS 6 rfl _ _ rfl _ _ rfl _ _ rfl (by decide +kernel) _ (by first | assumption | rfl) ?_) | (refine st_cell hS 7 rfl _ _ rfl _ _ rfl _ _ rfl (by decide +kernel) _ (by first | assumption | rfl) ?_)))
                    exact ⟨⟨t + 1, _, by go_num, htl, Lib.hid HSP.out.1, Lib.hid HSP.out.2.2, Lib.hid HSP.out.2.1, hS.sub (List.sublist_cons_self _ _)⟩, by simp [intOf]; omega⟩
                  · clear hc
                    go_wp2_with (first
                      | ((with_reducible show wpList _ _ _ (⟨_, .binOp _ _ _ _ _, _, _, _, _⟩ :: _) _ _); (first | (refine st_lss rfl _ _ _ _ rfl _ _ _ rfl rfl (fun h_ => ?_) (fun h_ => ?_)) | (refine st_leq rfl _ _ _ _ rfl _ _ _ rfl rfl (fun h_ => ?_) (fun h_ => ?_)) | (refine st_gtr rfl _ _ _ _ rfl _ _ _ rfl rfl (fun h_ => ?_) (fun h_ => ?_)) | (refine st_geq rfl _ _ _ _ rfl _ _ _ rfl rfl (fun h_ => ?_) (fun h_ => ?_)) | (refine st_eql rfl _ _ _ _ rfl _ _ _ rfl rfl (fun h_ => ?_) (fun h_ => ?_)) | (refine st_neq rfl _ _ _ _ rfl _ _ _ rfl rfl (fun h_ => ?_) (fun h_ => ?_))) <;> go_prune)
                      | ((with_reducible show wpList _ _ _ (⟨_, .indexAddr _ _ _, _, _, _, _⟩ :: _) _ _); refine st_iaddr2 hS rfl _ _ _ rfl _ rfl rfl (by assumption) Tryd.underlying25 (by kernel_rfl) (by first | assumption | omega) _ _ (by assumption) (by assumption) ?_; intro b_ j_ hc0_ hc1_)
                      | ((with_reducible show wpList _ _ _ (⟨some 11, _, _, _, _, _⟩ :: _) _ _); refine st_alloc hS rfl _ rfl (by kernel_rfl) ?_; clear hS; intro g4 w_ hS; (try simp only [Act.put, Act.eval, List.set_cons_zero, List.set_cons_succ, List.setIfInBounds_toArray, Array.getD_eq_getD_getElem?, List.getElem?_toArray, List.getElem?_cons_succ, List.getElem?_cons_zero, Option.getD_some, Value.cells] at hS))
                      | ((with_reducible show wpList _ _ _ (⟨some 62, _, _, _, _, _⟩ :: _) _ _); refine BigFrame.wpList_want rfl fun _ hK => opw_cell rfl rfl (by kernel_rfl) (own_cell (hS.own 1 rfl) _ _ (HNb.out)) (hK _ _ ?_))
                      | ((with_reducible show wpList _ _ _ (⟨_, .store _ _ _, _, _, _, _⟩ :: _) _ _); (first | (refine st_store hS 0 rfl _ _ _ rfl _ _ rfl rfl _ _ rfl (by kernel_rfl) (by kernel_rfl) (by kernel_rfl) ?_) | (refine st_store hS 1 rfl _ _ _ rfl _ _ rfl rfl _ _ rfl (by kernel_rfl) (by kernel_rfl) (by kernel_rfl) ?_) | (refine st_store hS 2 rfl _ _ _ rfl _ _ rfl rfl _ _ rfl (by kernel_rfl) (by kernel_rfl) (by kernel_rfl) ?_) | (refine st_store hS 3 rfl _ _ _ rfl _ _ rfl rfl _ _ rfl (by kernel_rfl) (by kernel_rfl) (by kernel_rfl) ?_) | (refine st_cstore hS 0 rfl _ _ _ rfl _ _ _ rfl rfl rfl (by first | (simp; done) | (simp; omega) | exact of_decide_eq_true (by kernel_rfl)) rfl (by first | rfl | assumption) (by kernel_rfl) ?_) | (refine st_cstore hS 1 rfl _ _ _ rfl _ _ _ rfl rfl rfl (by first | (simp; done) | (simp; omega) | exact of_decide_eq_true (by kernel_rfl)) rfl (by first | rfl | assumption) (by kernel_rfl) ?_) | (refine st_cstore hS 2 rfl _ _ _ rfl _ _ _ rfl rfl rfl (by first | (simp; done) | (simp; omega) | exact of_decide_eq_true (by kernel_rfl)) rfl (by first | rfl | assumption) (by kernel_rfl) ?_) | (refine st_cstore hS 3 rfl _ _ _ rfl _ _ _ rfl rfl rfl (by first | (simp; done) | (simp; omega) | exact of_decide_eq_true (by kernel_rfl)) rfl (by first | rfl | assumption) (by kernel_rfl) ?_)); clear hS; intro w_ hS; (try simp only [Act.put, Act.eval, List.set_cons_zero, List.set_cons_succ, List.setIfInBounds_toArray, Array.getD_eq_getD_getElem?, List.getElem?_toArray, List.getElem?_cons_succ, List.getElem?_cons_zero, Option.getD_some, Value.cells] at hS))
                      | ((with_reducible show wpList _ _ _ (⟨_, .load _ _, _, _, _, _⟩ :: _) _ _); first | (refine st_cell hS 0 rfl _ _ rfl _ _ rfl _ _ rfl (by decide +kernel) _ (by first | assumption | rfl) ?_) | (refine st_cell hS 1 rfl _ _ rfl _ _ rfl _ _ rfl (by decide +kernel) _ (by first | assumption | rfl) ?_) | (refine st_cell hS 2 rfl _ _ rfl _ _ rfl _ _ rfl (by decide +kernel) _ (by first | assumption | rfl) ?_) | (refine st_cell hS 3 rfl _ _ rfl _ _ rfl _ _ rfl (by decide +kernel) _ (by first | assumption | rfl) ?_) | (refine st_cell hS 4 rfl _ _ rfl _ _ rfl _ _ rfl (by decide +kernel) _ (by first | assumption | rfl) ?_) | (refine st_cell hS 5 rfl _ _ rfl _ _ rfl _ _ rfl (by decide +kernel) _ (by first | assumption | rfl) ?_) | (refine st_cell hS 6 rfl _ _ rfl _ _ rfl _ _ rfl (by decide +kernel) _ (by first | assumption | rfl) ?_) | (refine st_cell hS 7 rfl _ _ rfl _ _ rfl _ _ rfl (by decide +kernel) _ (by first | assumption | rfl) ?_)))
                    exact ⟨⟨t + 1, _, by go_num, htl, Lib.hid HSP.out.1, Lib.hid HSP.out.2.2, Lib.hid HSP.out.2.1, hS.sub (List.sublist_cons_self _ _)⟩, by simp [intOf]; omega⟩
              · obtain rfl : t = L.length := by omega
                have HFF := Lib.hid (FarTo.full (by omega) HF.out)
                go_wp2_with (first | ((with_reducible show wpList _ _ _ (⟨_, .binOp _ _ _ _ _, _, _, _, _⟩ :: _) _ _); (first | (refine st_lss rfl _ _ _ _ rfl _ _ _ rfl rfl (fun h_ => ?_) (fun h_ => ?_)) | (refine st_leq rfl _ _ _ _ rfl _ _ _ rfl rfl (fun h_ => ?_) (fun h_ => ?_)) | (refine st_gtr rfl _ _ _ _ rfl _ _ _ rfl rfl (fun h_ => ?_) (fun h_ => ?_)) | (refine st_geq rfl _ _ _ _ rfl _ _ _ rfl rfl (fun h_ => ?_) (fun h_ => ?_)) | (refine st_eql rfl _ _ _ _ rfl _ _ _ rfl rfl (fun h_ => ?_) (fun h_ => ?_)) | (refine st_neq rfl _ _ _ _ rfl _ _ _ rfl rfl (fun h_ => ?_) (fun h_ => ?_))) <;> go_prune))
                exact ⟨⟨m + 1, far, by go_num, by omega, by omega, HFF, HFl, HFi, hS⟩, by simp [intOf]; omega⟩
          · obtain rfl : m = n + 1 := by omega
            have HNO : Hid (¬ ∃ i' j' k : Nat, (i : Int) = (i' : Int) ∧ (j : Int) = (j' : Int) ∧ i' < n ∧ j' < n ∧ Wk L j' k i') := Lib.hid fun ⟨i', j', k, h1, h2, h3, h4, h5⟩ => by
              obtain rfl : i = i' := by omega
              obtain rfl : j = j' := by omega
              obtain ⟨d, h6, h7⟩ := isDist_of h5
              have h8 := h5.lt HL.out HA.out h4
              have h9 := (HF.out i (by rw [HFl.out]; exact hi) d).2 ⟨h7, by omega⟩
              omega
            clear hmn
            go_wp2_with (first
              | ((with_reducible show wpList _ _ _ (⟨_, .binOp _ _ _ _ _, _, _, _, _⟩ :: _) _ _); (first | (refine st_lss rfl _ _ _ _ rfl _ _ _ rfl rfl (fun h_ => ?_) (fun h_ => ?_)) | (refine st_leq rfl _ _ _ _ rfl _ _ _ rfl rfl (fun h_ => ?_) (fun h_ => ?_)) | (refine st_gtr rfl _ _ _ _ rfl _ _ _ rfl rfl (fun h_ => ?_) (fun h_ => ?_)) | (refine st_geq rfl _ _ _ _ rfl _ _ _ rfl rfl (fun h_ => ?_) (fun h_ => ?_)) | (refine st_eql rfl _ _ _ _ rfl _ _ _ rfl rfl (fun h_ => ?_) (fun h_ => ?_)) | (refine st_neq rfl _ _ _ _ rfl _ _ _ rfl rfl (fun h_ => ?_) (fun h_ => ?_))) <;> go_prune)
              | ((with_reducible show wpList _ _ _ (⟨some 38, _, _, _, _, _⟩ :: _) _ _); refine st_kcell hS rfl _ _ rfl _ rfl _ (fun D w h => (ko D w h).1.cell 0 rfl) (by kernel_rfl) ?_)
              | ((with_reducible show wpList _ _ _ (⟨some 83, _, _, _, _, _⟩ :: _) _ _); refine BigFrame.wpList_want rfl fun _ hK => opw_cell rfl rfl (by kernel_rfl) (own_cell (hS.own 0 rfl) _ _ (HNi.out)) (hK _ _ ?_)))
            go_ret2
            exact ⟨_, false, [], rfl, .inl ⟨rfl, rfl, HNO.out⟩, by simp, ((hS.nil 3 1).sub (.cons_cons _ (List.nil_sublist _))).mono (Stable.pure True) fun _ _ _ => trivial⟩
        · have hFi : far.getD i 0 = m := HFi.out.resolve_left hz
          obtain ⟨d, rfl⟩ : ∃ d, m = d + 1 := ⟨m - 1, by omega⟩
          have HDi := Lib.hid ((HF.out i (by rw [HFl.out]; exact hi) d).1 hFi).1
          have hdn := HDi.out.1.lt HL.out HA.out hj
          rw [hFi] at HNi
          clear hz hFi HFi
          go_wp2_with (first
            | ((with_reducible show wpList _ _ _ (⟨_, .binOp _ _ _ _ _, _, _, _, _⟩ :: _) _ _); (first | (refine st_lss rfl _ _ _ _ rfl _ _ _ rfl rfl (fun h_ => ?_) (fun h_ => ?_)) | (refine st_leq rfl _ _ _ _ rfl _ _ _ rfl rfl (fun h_ => ?_) (fun h_ => ?_)) | (refine st_gtr rfl _ _ _ _ rfl _ _ _ rfl rfl (fun h_ => ?_) (fun h_ => ?_)) | (refine st_geq rfl _ _ _ _ rfl _ _ _ rfl rfl (fun h_ => ?_) (fun h_ => ?_)) | (refine st_eql rfl _ _ _ _ rfl _ _ _ rfl rfl (fun h_ => ?_) (fun h_ => ?_)) | (refine st_neq rfl _ _ _ _ rfl _ _ _ rfl rfl (fun h_ => ?_) (fun h_ => ?_))) <;> go_prune)
            | ((with_reducible show wpList _ _ _ (⟨some 38, _, _, _, _, _⟩ :: _) _ _); refine st_kcell hS rfl _ _ rfl _ rfl _ (fun D w h => (ko D w h).1.cell 0 rfl) (by kernel_rfl) ?_)
            | ((with_reducible show wpList _ _ _ (⟨some 44, _, _, _, _, _⟩ :: _) _ _); refine BigFrame.wpList_want rfl fun _ hK => opw_cell rfl rfl (by kernel_rfl) (own_cell (hS.own 0 rfl) _ _ (HNi.out)) (hK _ _ ?_))
            | ((with_reducible show wpList _ _ _ (⟨some 83, _, _, _, _, _⟩ :: _) _ _); refine BigFrame.wpList_want rfl fun _ hK => opw_cell rfl rfl (by kernel_rfl) (own_cell (hS.own 0 rfl) _ _ (HNi.out)) (hK _ _ ?_))
            | ((with_reducible show wpList _ _ _ (⟨some 86, _, _, _, _, _⟩ :: _) _ _); refine st_litown hS rfl _ _ _ _ rfl Tryd.underlying31 #[.int .i64 (i : Nat)] (by kernel_rfl) 1 rfl (by decide) ?_; clear hS; intro g12 w_ hS))
          have HFv := Lib.hid (fun x (hx : x < n) => HF.out x (by rw [HFl.out]; exact hx))
          have HNv := Lib.hid (fun x (hx : x < n) => natI_at (l := far) (k := x) (by rw [HFl.out]; exact hx))
          have HBv := Lib.hid (fun x (hx : x < n) => far_bound HF.out (x := x) (by rw [HFl.out]; exact hx))
          clear HNi HF HFl
          go_loopw [12, 13] (fun o v wr => ∃ (acc : List Nat) (at_ e : Nat), v = .int .i64 (at_ : Nat) ∧ e ≤ d ∧ acc.length + e = d ∧ at_ < n ∧ Hid (isDist L j at_ e) ∧ Hid (acc ++ gp L j e at_ = gp L j d i) ∧ St w0 wr [.own o 3 1 (acc.length + 1) (ints (natInts (acc ++ [at_]))), .own (.slice (some ⟨g3, 0, none⟩) n n) 3 1 n (ints (natInts far))] K) (fun o _ _ => d + 1 - lenV o)
          case atStart => exact ⟨[], i, d, rfl, Nat.le_refl _, by simp, hi, HDi, Lib.hid rfl, hS⟩
          case round =>
            clear hS
            obtain ⟨acc, at_, e, rfl, he, hacc, hat, HD, HG, hS⟩ := hrel
            obtain ⟨go_, co_, rfl, _, _⟩ := own_pos (hS.own 0 rfl) (Nat.succ_pos _)
            cases e with
            | zero =>
              have hj2 : at_ = j := HD.out.1
              have HE : Hid (acc ++ [at_] = gp L j d i) := HG
              have HLn := Lib.hid (gp_len HDi.out)
              go_wp2_with (first | ((with_reducible show wpList _ _ _ (⟨_, .binOp _ _ _ _ _, _, _, _, _⟩ :: _) _ _); (first | (refine st_lss rfl _ _ _ _ rfl _ _ _ rfl rfl (fun h_ => ?_) (fun h_ => ?_)) | (refine st_leq rfl _ _ _ _ rfl _ _ _ rfl rfl (fun h_ => ?_) (fun h_ => ?_)) | (refine st_gtr rfl _ _ _ _ rfl _ _ _ rfl rfl (fun h_ => ?_) (fun h_ => ?_)) | (refine st_geq rfl _ _ _ _ rfl _ _ _ rfl rfl (fun h_ => ?_) (fun h_ => ?_)) | (refine st_eql rfl _ _ _ _ rfl _ _ _ rfl rfl (fun h_ => ?_) (fun h_ => ?_)) | (refine st_neq rfl _ _ _ _ rfl _ _ _ rfl rfl (fun h_ => ?_) (fun h_ => ?_))) <;> go_prune))
              go_ret2
              refine ⟨_, true, gp L j d i, rfl, .inr ⟨rfl, i, j, d, rfl, rfl, hi, hj, HDi.out, rfl⟩, by rw [HLn.out]; omega, ?_⟩
              have := (hS.sub (.cons_cons _ (List.nil_sublist _))).mono (Stable.pure True) fun _ _ _ => trivial
              rw [← HE.out, List.length_append]
              exact this
            | succ e =>
              have hj2 : ¬ (at_ : Int) = (j : Int) := fun h => by
                have : at_ = j := by omega
                subst this
                exact HD.out.2 0 (Nat.succ_pos _) rfl
              have HFa : Hid (far.getD at_ 0 = e + 2) := Lib.hid ((HFv.out at_ hat (e + 1)).2 ⟨HD.out, by omega⟩)
              go_wp2_with (first
                | ((with_reducible show wpList _ _ _ (⟨_, .binOp _ _ _ _ _, _, _, _, _⟩ :: _) _ _); (first | (refine st_lss rfl _ _ _ _ rfl _ _ _ rfl rfl (fun h_ => ?_) (fun h_ => ?_)) | (refine st_leq rfl _ _ _ _ rfl _ _ _ rfl rfl (fun h_ => ?_) (fun h_ => ?_)) | (refine st_gtr rfl _ _ _ _ rfl _ _ _ rfl rfl (fun h_ => ?_) (fun h_ => ?_)) | (refine st_geq rfl _ _ _ _ rfl _ _ _ rfl rfl (fun h_ => ?_) (fun h_ => ?_)) | (refine st_eql rfl _ _ _ _ rfl _ _ _ rfl rfl (fun h_ => ?_) (fun h_ => ?_)) | (refine st_neq rfl _ _ _ _ rfl _ _ _ rfl rfl (fun h_ => ?_) (fun h_ => ?_))) <;> go_prune)
                | ((with_reducible show wpList _ _ _ (⟨some 94, _, _, _, _, _⟩ :: _) _ _); refine st_kcell hS rfl _ _ rfl _ rfl _ (fun D w h => (ko D w h).1.cell 1 rfl) (by kernel_rfl) ?_))
              go_loopw [12, 13, 96] (fun o u v wr => ∃ t : Nat, v = .int .i64 (t : Nat) ∧ o = .slice (some ⟨go_, 0, none⟩) (acc.length + 1) co_ ∧ u = .int .i64 (at_ : Nat) ∧ t ≤ L.length ∧ Hid (∀ s, s < t → ∀ y, L[s]? = some y → ¬ (y.1 = at_ ∧ isDist L j y.2 e)) ∧ St w0 wr [.own (.slice (some ⟨go_, 0, none⟩) (acc.length + 1) co_) 3 1 (acc.length + 1) (ints (natInts (acc ++ [at_]))), .own (.slice (some ⟨g3, 0, none⟩) n n) 3 1 n (ints (natInts far))] K) (fun _ _ v _ => L.length - (intOf v).toNat)
              case atStart => exact ⟨0, rfl, rfl, rfl, by omega, Lib.hid (fun s h => absurd h (by omega)), hS⟩
              case round =>
                clear hS
                obtain ⟨t, rfl, rfl, rfl, ht, HN, hS⟩ := hrel
                have kp : ∀ D w, K D w → Sl w D 2 (.slice (some ⟨gp_, 0, none⟩) L.length L.length) L.length (pcells L) := fun D w h => (ko D w h).2.1
                by_cases htl : t < L.length
                · obtain ⟨f1, f2⟩ := pcells_at L t htl
                  have HGx := Lib.hid (getD_at (0, 0) htl)
                  have hx := HL.out _ (List.mem_of_getElem? HGx.out)
                  have HN2 : Hid (¬ ((L.getD t (0, 0)).1 = at_ ∧ isDist L j (L.getD t (0, 0)).2 e) → ∀ s, s < t + 1 → ∀ y, L[s]? = some y → ¬ (y.1 = at_ ∧ isDist L j y.2 e)) := Lib.hid fun hno s hs y hy => by
                    rcases Nat.lt_or_ge s t with h | h
                    · exact HN.out s h y hy
                    · obtain rfl : s = t := by omega
                      rw [HGx.out] at hy
                      cases hy
                      exact hno
                  generalize L.getD t (0, 0) = x at *
                  obtain ⟨xa, xb⟩ := x
                  dsimp only at f1 f2 hx HN2
                  obtain ⟨hxa, hxb⟩ := hx
                  have HNb := Lib.hid (HNv.out xb hxb)
                  have HNa := Lib.hid (HNv.out at_ hat)
                  rw [HFa.out] at HNa
                  have HFb := Lib.hid (HFv.out xb hxb e)
                  have hub := HBv.out xb hxb
                  generalize far.getD xb 0 = ub at *
                  have hed : e < d + 1 := by omega
                  by_cases hc1 : xa = at_
                  · have D1 : Hid (decide (((xa : Nat) : Int) = ((at_ : Nat) : Int)) = true) := Lib.hid (decide_eq_true (by omega))
                    by_cases hc2 : ub = e + 1
                    · have HDb := Lib.hid (HFb.out.1 hc2).1
                      have HGP := Lib.hid (gp_first HGx.out hc1 HDb.out HN.out)
                      have D2 : Hid (decide (((ub : Nat) : Int) > (0 : Int)) = true) := Lib.hid (decide_eq_true (by omega))
                      have D3 : Hid (decide (((ub : Nat) : Int) = ((e + 2 : Nat) : Int) - (1 : Int)) = true) := Lib.hid (decide_eq_true (by omega))
                      clear hc1 hc2
                      go_wp2_with (first
                        | ((with_reducible show wpList _ _ _ (⟨_, .binOp _ _ _ _ _, _, _, _, _⟩ :: _) _ _); (first | (refine st_lss rfl _ _ _ _ rfl _ _ _ rfl rfl (fun h_ => ?_) (fun h_ => ?_)) | (refine st_leq rfl _ _ _ _ rfl _ _ _ rfl rfl (fun h_ => ?_) (fun h_ => ?_)) | (refine st_gtr rfl _ _ _ _ rfl _ _ _ rfl rfl (fun h_ => ?_) (fun h_ => ?_)) | (refine st_geq rfl _ _ _ _ rfl _ _ _ rfl rfl (fun h_ => ?_) (fun h_ => ?_)) | (refine st_eql rfl _ _ _ _ rfl _ _ _ rfl rfl (fun h_ => ?_) (fun h_ => ?_)) | (refine st_neq rfl _ _ _ _ rfl _ _ _ rfl rfl (fun h_ => ?_) (fun h_ => ?_))) <;> go_prune)
                        | ((with_reducible show wpList _ _ _ (⟨_, .indexAddr _ _ _, _, _, _, _⟩ :: _) _ _); refine st_iaddr2 hS rfl _ _ _ rfl _ rfl rfl (by assumption) Tryd.underlying25 (by kernel_rfl) (by first | assumption | omega) _ _ (by assumption) (by assumption) ?_; intro b_ j_ hc0_ hc1_)
                        | ((with_reducible show wpList _ _ _ (⟨some 15, _, _, _, _, _⟩ :: _) _ _); refine st_alloc hS rfl _ rfl (by kernel_rfl) ?_; clear hS; intro g4 w_ hS; (try simp only [Act.put, Act.eval, List.set_cons_zero, List.set_cons_succ, List.setIfInBounds_toArray, Array.getD_eq_getD_getElem?, List.getElem?_toArray, List.getElem?_cons_succ, List.getElem?_cons_zero, Option.getD_some, Value.cells] at hS))
                        | ((with_reducible show wpList _ _ _ (⟨_, .store _ _ _, _, _, _, _⟩ :: _) _ _); (first | (refine st_store hS 0 rfl _ _ _ rfl _ _ rfl rfl _ _ rfl (by kernel_rfl) (by kernel_rfl) (by kernel_rfl) ?_) | (refine st_store hS 1 rfl _ _ _ rfl _ _ rfl rfl _ _ rfl (by kernel_rfl) (by kernel_rfl) (by kernel_rfl) ?_) | (refine st_store hS 2 rfl _ _ _ rfl _ _ rfl rfl _ _ rfl (by kernel_rfl) (by kernel_rfl) (by kernel_rfl) ?_) | (refine st_store hS 3 rfl _ _ _ rfl _ _ rfl rfl _ _ rfl (by kernel_rfl) (by kernel_rfl) (by kernel_rfl) ?_) | (refine st_cstore hS 0 rfl _ _ _ rfl _ _ _ rfl rfl rfl (by first | (simp; done) | (simp; omega) | exact of_decide_eq_true (by kernel_rfl)) rfl (by first | rfl | assumption) (by kernel_rfl) ?_) | (refine st_cstore hS 1 rfl _ _ _ rfl _ _ _ rfl rfl rfl (by first | (simp; done) | (simp; omega) | exact of_decide_eq_true (by kernel_rfl)) rfl (by first | rfl | assumption) (by kernel_rfl) ?_) | (refine st_cstore hS 2 rfl _ _ _ rfl _ _ _ rfl rfl rfl (by first | (simp; done) | (simp; omega) | exact of_decide_eq_true (by kernel_rfl)) rfl (by first | rfl | assumption) (by kernel_rfl) ?_) | (refine st_cstore hS 3 rfl _ _ _ rfl _ _ _ rfl rfl rfl (by first | (simp; done) | (simp; omega) | exact of_decide_eq_true (by kernel_rfl)) rfl (by first | rfl | assumption) (by kernel_rfl) ?_)); clear hS; intro w_ hS; (try simp only [Act.put, Act.eval, List.set_cons_zero, List.set_cons_succ, List.setIfInBounds_toArray, Array.getD_eq_getD_getElem?, List.getElem?_toArray, List.getElem?_cons_succ, List.getElem?_cons_zero, Option.getD_some, Value.cells] at hS)))
                      refine wp_region_typed (fun i__ v w => match i__ with
                        | 0 => v = .pointer (some ⟨g4, 0, none⟩)
                        | 1 => v = .int .i64 ((xa : Nat) : Int)
                        | 2 => v = .int .i64 ((at_ : Nat) : Int)
                        | 3 => v = .bool true
                        | 4 => v = .bool true
                        | 5 => v = .slice (some ⟨g3, 0, none⟩) n n
                        | 6 => v = .pointer (some ⟨g4, 1, none⟩)
                        | 7 => v = .int .i64 ((xb : Nat) : Int)
                        | 8 => v = .pointer (some ⟨g3, 0 + (xb) * 1, none⟩)
                        | 9 => v = .int .i64 ((ub : Nat) : Int)
                        | 10 => v = .bool true
                        | 11 => v = .bool true
                        | 12 => v = .bool true
                        | 13 => v = .slice (some ⟨g3, 0, none⟩) n n
                        | 14 => v = .pointer (some ⟨g4, 1, none⟩)
                        | 15 => v = .int .i64 ((xb : Nat) : Int)
                        | 16 => v = .pointer (some ⟨g3, 0 + (xb) * 1, none⟩)
                        | 17 => v = .int .i64 ((ub : Nat) : Int)
                        | 18 => v = .slice (some ⟨g3, 0, none⟩) n n
                        | 19 => v = .int .i64 ((at_ : Nat) : Int)
                        | 20 => v = .pointer (some ⟨g3, 0 + (at_) * 1, none⟩)
                        | 21 => v = .int .i64 ((e + 2 : Nat) : Int)
                        | 22 => v = .int .i64 (((e + 2 : Nat) : Int) - (1 : Int))
                        | 23 => v = .bool true
                        | 24 => v = .bool true
                        | _ => True) (by kernel_rfl) (by kernel_rfl) ?mono ⟨?r0, ?r1, ?r2, ?r3, ?r4, ?r5, ?r6, ?r7, ?r8, ?r9, ?r10, ?r11, ?r12, ?r13, ?r14, ?r15, ?r16, ?r17, ?r18, ?r19, ?r20, ?r21, ?r22, ?r23, ?r24, trivial⟩ ?post
                      case mono =>
                        intro i v w w' h hb
                        match i, h with
                        | 0, h => exact h
                        | 1, h => exact h
                        | 2, h => exact h
                        | 3, h => exact h
                        | 4, h => exact h
                        | 5, h => exact h
                        | 6, h => exact h
                        | 7, h => exact h
                        | 8, h => exact h
                        | 9, h => exact h
                        | 10, h => exact h
                        | 11, h => exact h
                        | 12, h => exact h
                        | 13, h => exact h
                        | 14, h => exact h
                        | 15, h => exact h
                        | 16, h => exact h
                        | 17, h => exact h
                        | 18, h => exact h
                        | 19, h => exact h
                        | 20, h => exact h
                        | 21, h => exact h
                        | 22, h => exact h
                        | 23, h => exact h
                        | 24, h => exact h
                        | _ + 25, h => trivial
                      case r0 =>
                        refine trule fun b__ w hW hold hpre => ⟨fun hwant K hK => ?_, fun hwant => ?_⟩
                        · clear hwant
                          have e15 : b__.eval (.tmp 15) = .pointer (some ⟨g4, 0, none⟩) := (hold 15 (by kernel_rfl)).trans rfl
                          exact opw_iaddr rfl e15 rfl (by kernel_rfl) (hK _ _ rfl (Below.refl _ _))
                        · rw [want_none rfl] at hwant; cases hwant
                      case r1 =>
                        refine trule fun b__ w hW hold hpre => ⟨fun hwant K hK => ?_, fun hwant => ?_⟩
                        · clear hwant
                          have e100 : b__.eval (.tmp 100) = .pointer (some ⟨g4, 0, none⟩) := hpre ⟨0, _⟩ (Array.mem_of_getElem? (i := 0) rfl) rfl _ _ rfl rfl
                          exact opw_cell rfl e100 (by kernel_rfl) ((hS.ext (undrew hW)).shut 0 rfl 0 rfl) (hK _ _ rfl (Below.refl _ _))
                        · rw [want_none rfl] at hwant; cases hwant
                      case r2 =>
                        refine trule fun b__ w hW hold hpre => ⟨fun hwant K hK => ?_, fun hwant => ?_⟩
                        · clear hwant
                          have e13 : b__.eval (.tmp 13) = .int .i64 ((at_ : Nat) : Int) := (hold 13 (by kernel_rfl)).trans rfl
                          exact opw_move rfl e13 (hK _ _ rfl (Below.refl _ _))
                        · rw [want_none rfl] at hwant; cases hwant
                      case r3 =>
                        refine trule fun b__ w hW hold hpre => ⟨fun hwant K hK => ?_, fun hwant => ?_⟩
                        · clear hwant
                          have e101 : b__.eval (.tmp 101) = .int .i64 ((xa : Nat) : Int) := hpre ⟨1, _⟩ (Array.mem_of_getElem? (i := 0) rfl) rfl _ _ rfl rfl
                          have e102 : b__.eval (.tmp 102) = .int .i64 ((at_ : Nat) : Int) := hpre ⟨2, _⟩ (Array.mem_of_getElem? (i := 1) rfl) rfl _ _ rfl rfl
                          exact opw_bin (vx := .int .i64 ((xa : Nat) : Int)) (vy := .int .i64 ((at_ : Nat) : Int)) (v := .bool true) rfl e101 e102 rfl (run_eqB D1.out) (hK _ _ rfl (Below.refl _ _))
                        · rw [want_none rfl] at hwant; cases hwant
                      case r4 =>
                        refine trule fun b__ w hW hold hpre => ⟨fun hwant K hK => ?_, fun hwant => ?_⟩
                        · clear hwant
                          have e103 : b__.eval (.tmp 103) = .bool true := hpre ⟨3, _⟩ (Array.mem_of_getElem? (i := 0) rfl) rfl _ _ rfl rfl
                          exact opw_move rfl e103 (hK _ _ rfl (Below.refl _ _))
                        · rw [want_none rfl] at hwant; cases hwant
                      case r5 =>
                        refine trule fun b__ w hW hold hpre => ⟨fun hwant K hK => ?_, fun hwant => ?_⟩
                        · clear hwant
                          have e8 : b__.eval (.tmp 8) = .slice (some ⟨g3, 0, none⟩) n n := (hold 8 (by kernel_rfl)).trans rfl
                          exact opw_move rfl e8 (hK _ _ rfl (Below.refl _ _))
                        · rw [want_some rfl rfl rfl (show b__.eval (.tmp 104) = .bool true from (hpre ⟨4, _⟩ (Array.mem_of_getElem? (i := 0) rfl) rfl _ _ rfl rfl))] at hwant; cases hwant
                      case r6 =>
                        refine trule fun b__ w hW hold hpre => ⟨fun hwant K hK => ?_, fun hwant => ?_⟩
                        · clear hwant
                          have e15 : b__.eval (.tmp 15) = .pointer (some ⟨g4, 0, none⟩) := (hold 15 (by kernel_rfl)).trans rfl
                          exact opw_iaddr rfl e15 rfl (by kernel_rfl) (hK _ _ rfl (Below.refl _ _))
                        · rw [want_some rfl rfl rfl (show b__.eval (.tmp 104) = .bool true from (hpre ⟨4, _⟩ (Array.mem_of_getElem? (i := 0) rfl) rfl _ _ rfl rfl))] at hwant; cases hwant
                      case r7 =>
                        refine trule fun b__ w hW hold hpre => ⟨fun hwant K hK => ?_, fun hwant => ?_⟩
                        · clear hwant
                          have e106 : b__.eval (.tmp 106) = .pointer (some ⟨g4, 1, none⟩) := hpre ⟨6, _⟩ (Array.mem_of_getElem? (i := 0) rfl) rfl _ _ rfl rfl
                          exact opw_cell rfl e106 (by kernel_rfl) ((hS.ext (undrew hW)).shut 0 rfl 1 rfl) (hK _ _ rfl (Below.refl _ _))
                        · rw [want_some rfl rfl rfl (show b__.eval (.tmp 104) = .bool true from (hpre ⟨4, _⟩ (Array.mem_of_getElem? (i := 1) rfl) rfl _ _ rfl rfl))] at hwant; cases hwant
                      case r8 =>
                        refine trule fun b__ w hW hold hpre => ⟨fun hwant K hK => ?_, fun hwant => ?_⟩
                        · clear hwant
                          have e105 : b__.eval (.tmp 105) = .slice (some ⟨g3, 0, none⟩) n n := hpre ⟨5, _⟩ (Array.mem_of_getElem? (i := 0) rfl) rfl _ _ rfl rfl
                          have e107 : b__.eval (.tmp 107) = .int .i64 ((xb : Nat) : Int) := hpre ⟨7, _⟩ (Array.mem_of_getElem? (i := 1) rfl) rfl _ _ rfl rfl
                          exact opw_iaddr rfl e105 e107 (run_iaddr_lit (m := xb) Tryd.underlying31 (by kernel_rfl) (by omega) (by omega)) (hK _ _ rfl (Below.refl _ _))
                        · rw [want_some rfl rfl rfl (show b__.eval (.tmp 104) = .bool true from (hpre ⟨4, _⟩ (Array.mem_of_getElem? (i := 2) rfl) rfl _ _ rfl rfl))] at hwant; cases hwant
                      case r9 =>
                        refine trule fun b__ w hW hold hpre => ⟨fun hwant K hK => ?_, fun hwant => ?_⟩
                        · clear hwant
                          have e108 : b__.eval (.tmp 108) = .pointer (some ⟨g3, 0 + (xb) * 1, none⟩) := hpre ⟨8, _⟩ (Array.mem_of_getElem? (i := 0) rfl) rfl _ _ rfl rfl
                          exact opw_cell rfl e108 (by kernel_rfl) (by rw [Nat.zero_add, Nat.mul_one]; exact own_cell ((hS.ext (undrew hW)).own 2 rfl) xb _ HNb.out) (hK _ _ rfl (Below.refl _ _))
                        · rw [want_some rfl rfl rfl (show b__.eval (.tmp 104) = .bool true from (hpre ⟨4, _⟩ (Array.mem_of_getElem? (i := 1) rfl) rfl _ _ rfl rfl))] at hwant; cases hwant
                      case r10 =>
                        refine trule fun b__ w hW hold hpre => ⟨fun hwant K hK => ?_, fun hwant => ?_⟩
                        · clear hwant
                          have e109 : b__.eval (.tmp 109) = .int .i64 ((ub : Nat) : Int) := hpre ⟨9, _⟩ (Array.mem_of_getElem? (i := 0) rfl) rfl _ _ rfl rfl
                          exact opw_bin (vx := .int .i64 ((ub : Nat) : Int)) (vy := .int .i64 0) (v := .bool true) rfl e109 rfl rfl (run_gtB D2.out) (hK _ _ rfl (Below.refl _ _))
                        · rw [want_some rfl rfl rfl (show b__.eval (.tmp 104) = .bool true from (hpre ⟨4, _⟩ (Array.mem_of_getElem? (i := 1) rfl) rfl _ _ rfl rfl))] at hwant; cases hwant
                      case r11 =>
                        refine trule fun b__ w hW hold hpre => ⟨fun hwant K hK => ?_, fun hwant => ?_⟩
                        · clear hwant
                          have e104 : b__.eval (.tmp 104) = .bool true := hpre ⟨4, _⟩ (Array.mem_of_getElem? (i := 0) rfl) rfl _ _ rfl rfl
                          have e110 : b__.eval (.tmp 110) = .bool true := hpre ⟨10, _⟩ (Array.mem_of_getElem? (i := 1) rfl) rfl _ _ rfl rfl
                          exact opw_pick rfl e104 (if_pos rfl) (hK _ _ e110 (Below.refl _ _))
                        · rw [want_none rfl] at hwant; cases hwant
                      case r12 =>
                        refine trule fun b__ w hW hold hpre => ⟨fun hwant K hK => ?_, fun hwant => ?_⟩
                        · clear hwant
                          have e111 : b__.eval (.tmp 111) = .bool true := hpre ⟨11, _⟩ (Array.mem_of_getElem? (i := 0) rfl) rfl _ _ rfl rfl
                          exact opw_move rfl e111 (hK _ _ rfl (Below.refl _ _))
                        · rw [want_none rfl] at hwant; cases hwant
                      case r13 =>
                        refine trule fun b__ w hW hold hpre => ⟨fun hwant K hK => ?_, fun hwant => ?_⟩
                        · clear hwant
                          have e8 : b__.eval (.tmp 8) = .slice (some ⟨g3, 0, none⟩) n n := (hold 8 (by kernel_rfl)).trans rfl
                          exact opw_move rfl e8 (hK _ _ rfl (Below.refl _ _))
                        · rw [want_some rfl rfl rfl (show b__.eval (.tmp 112) = .bool true from (hpre ⟨12, _⟩ (Array.mem_of_getElem? (i := 0) rfl) rfl _ _ rfl rfl))] at hwant; cases hwant
                      case r14 =>
                        refine trule fun b__ w hW hold hpre => ⟨fun hwant K hK => ?_, fun hwant => ?_⟩
                        · clear hwant
                          have e15 : b__.eval (.tmp 15) = .pointer (some ⟨g4, 0, none⟩) := (hold 15 (by kernel_rfl)).trans rfl
                          exact opw_iaddr rfl e15 rfl (by kernel_rfl) (hK _ _ rfl (Below.refl _ _))
                        · rw [want_some rfl rfl rfl (show b__.eval (.tmp 112) = .bool true from (hpre ⟨12, _⟩ (Array.mem_of_getElem? (i := 0) rfl) rfl _ _ rfl rfl))] at hwant; cases hwant
                      case r15 =>
                        refine trule fun b__ w hW hold hpre => ⟨fun hwant K hK => ?_, fun hwant => ?_⟩
                        · clear hwant
                          have e114 : b__.eval (.tmp 114) = .pointer (some ⟨g4, 1, none⟩) := hpre ⟨14, _⟩ (Array.mem_of_getElem? (i := 0) rfl) rfl _ _ rfl rfl
                          exact opw_cell rfl e114 (by kernel_rfl) ((hS.ext (undrew hW)).shut 0 rfl 1 rfl) (hK _ _ rfl (Below.refl _ _))
                        · rw [want_some rfl rfl rfl (show b__.eval (.tmp 112) = .bool true from (hpre ⟨12, _⟩ (Array.mem_of_getElem? (i := 1) rfl) rfl _ _ rfl rfl))] at hwant; cases hwant
                      case r16 =>
                        refine trule fun b__ w hW hold hpre => ⟨fun hwant K hK => ?_, fun hwant => ?_⟩
                        · clear hwant
                          have e113 : b__.eval (.tmp 113) = .slice (some ⟨g3, 0, none⟩) n n := hpre ⟨13, _⟩ (Array.mem_of_getElem? (i := 0) rfl) rfl _ _ rfl rfl
                          have e115 : b__.eval (.tmp 115) = .int .i64 ((xb : Nat) : Int) := hpre ⟨15, _⟩ (Array.mem_of_getElem? (i := 1) rfl) rfl _ _ rfl rfl
                          exact opw_iaddr rfl e113 e115 (run_iaddr_lit (m := xb) Tryd.underlying31 (by kernel_rfl) (by omega) (by omega)) (hK _ _ rfl (Below.refl _ _))
                        · rw [want_some rfl rfl rfl (show b__.eval (.tmp 112) = .bool true from (hpre ⟨12, _⟩ (Array.mem_of_getElem? (i := 2) rfl) rfl _ _ rfl rfl))] at hwant; cases hwant
                      case r17 =>
                        refine trule fun b__ w hW hold hpre => ⟨fun hwant K hK => ?_, fun hwant => ?_⟩
                        · clear hwant
                          have e116 : b__.eval (.tmp 116) = .pointer (some ⟨g3, 0 + (xb) * 1, none⟩) := hpre ⟨16, _⟩ (Array.mem_of_getElem? (i := 0) rfl) rfl _ _ rfl rfl
                          exact opw_cell rfl e116 (by kernel_rfl) (by rw [Nat.zero_add, Nat.mul_one]; exact own_cell ((hS.ext (undrew hW)).own 2 rfl) xb _ HNb.out) (hK _ _ rfl (Below.refl _ _))
                        · rw [want_some rfl rfl rfl (show b__.eval (.tmp 112) = .bool true from (hpre ⟨12, _⟩ (Array.mem_of_getElem? (i := 1) rfl) rfl _ _ rfl rfl))] at hwant; cases hwant
                      case r18 =>
                        refine trule fun b__ w hW hold hpre => ⟨fun hwant K hK => ?_, fun hwant => ?_⟩
                        · clear hwant
                          have e8 : b__.eval (.tmp 8) = .slice (some ⟨g3, 0, none⟩) n n := (hold 8 (by kernel_rfl)).trans rfl
                          exact opw_move rfl e8 (hK _ _ rfl (Below.refl _ _))
                        · rw [want_some rfl rfl rfl (show b__.eval (.tmp 112) = .bool true from (hpre ⟨12, _⟩ (Array.mem_of_getElem? (i := 0) rfl) rfl _ _ rfl rfl))] at hwant; cases hwant
                      case r19 =>
                        refine trule fun b__ w hW hold hpre => ⟨fun hwant K hK => ?_, fun hwant => ?_⟩
                        · clear hwant
                          have e13 : b__.eval (.tmp 13) = .int .i64 ((at_ : Nat) : Int) := (hold 13 (by kernel_rfl)).trans rfl
                          exact opw_move rfl e13 (hK _ _ rfl (Below.refl _ _))
                        · rw [want_some rfl rfl rfl (show b__.eval (.tmp 112) = .bool true from (hpre ⟨12, _⟩ (Array.mem_of_getElem? (i := 0) rfl) rfl _ _ rfl rfl))] at hwant; cases hwant
                      case r20 =>
                        refine trule fun b__ w hW hold hpre => ⟨fun hwant K hK => ?_, fun hwant => ?_⟩
                        · clear hwant
                          have e118 : b__.eval (.tmp 118) = .slice (some ⟨g3, 0, none⟩) n n := hpre ⟨18, _⟩ (Array.mem_of_getElem? (i := 0) rfl) rfl _ _ rfl rfl
                          have e119 : b__.eval (.tmp 119) = .int .i64 ((at_ : Nat) : Int) := hpre ⟨19, _⟩ (Array.mem_of_getElem? (i := 1) rfl) rfl _ _ rfl rfl
                          exact opw_iaddr rfl e118 e119 (run_iaddr_lit (m := at_) Tryd.underlying31 (by kernel_rfl) (by omega) (by omega)) (hK _ _ rfl (Below.refl _ _))
                        · rw [want_some rfl rfl rfl (show b__.eval (.tmp 112) = .bool true from (hpre ⟨12, _⟩ (Array.mem_of_getElem? (i := 2) rfl) rfl _ _ rfl rfl))] at hwant; cases hwant
                      case r21 =>
                        refine trule fun b__ w hW hold hpre => ⟨fun hwant K hK => ?_, fun hwant => ?_⟩
                        · clear hwant
                          have e120 : b__.eval (.tmp 120) = .pointer (some ⟨g3, 0 + (at_) * 1, none⟩) := hpre ⟨20, _⟩ (Array.mem_of_getElem? (i := 0) rfl) rfl _ _ rfl rfl
                          exact opw_cell rfl e120 (by kernel_rfl) (by rw [Nat.zero_add, Nat.mul_one]; exact own_cell ((hS.ext (undrew hW)).own 2 rfl) at_ _ HNa.out) (hK _ _ rfl (Below.refl _ _))
                        · rw [want_some rfl rfl rfl (show b__.eval (.tmp 112) = .bool true from (hpre ⟨12, _⟩ (Array.mem_of_getElem? (i := 1) rfl) rfl _ _ rfl rfl))] at hwant; cases hwant
                      case r22 =>
                        refine trule fun b__ w hW hold hpre => ⟨fun hwant K hK => ?_, fun hwant => ?_⟩
                        · clear hwant
                          have e121 : b__.eval (.tmp 121) = .int .i64 ((e + 2 : Nat) : Int) := hpre ⟨21, _⟩ (Array.mem_of_getElem? (i := 0) rfl) rfl _ _ rfl rfl
                          exact opw_bin (vx := .int .i64 ((e + 2 : Nat) : Int)) (vy := .int .i64 (1 : Int)) (v := .int .i64 (((e + 2 : Nat) : Int) - (1 : Int))) rfl e121 rfl rfl (run_sub64 (by omega) (by omega)) (hK _ _ rfl (Below.refl _ _))
                        · rw [want_some rfl rfl rfl (show b__.eval (.tmp 112) = .bool true from (hpre ⟨12, _⟩ (Array.mem_of_getElem? (i := 1) rfl) rfl _ _ rfl rfl))] at hwant; cases hwant
                      case r23 =>
                        refine trule fun b__ w hW hold hpre => ⟨fun hwant K hK => ?_, fun hwant => ?_⟩
                        · clear hwant
                          have e117 : b__.eval (.tmp 117) = .int .i64 ((ub : Nat) : Int) := hpre ⟨17, _⟩ (Array.mem_of_getElem? (i := 0) rfl) rfl _ _ rfl rfl
                          have e122 : b__.eval (.tmp 122) = .int .i64 (((e + 2 : Nat) : Int) - (1 : Int)) := hpre ⟨22, _⟩ (Array.mem_of_getElem? (i := 1) rfl) rfl _ _ rfl rfl
                          exact opw_bin (vx := .int .i64 ((ub : Nat) : Int)) (vy := .int .i64 (((e + 2 : Nat) : Int) - (1 : Int))) (v := .bool true) rfl e117 e122 rfl (run_eqB D3.out) (hK _ _ rfl (Below.refl _ _))
                        · rw [want_some rfl rfl rfl (show b__.eval (.tmp 112) = .bool true from (hpre ⟨12, _⟩ (Array.mem_of_getElem? (i := 2) rfl) rfl _ _ rfl rfl))] at hwant; cases hwant
                      case r24 =>
                        refine trule fun b__ w hW hold hpre => ⟨fun hwant K hK => ?_, fun hwant => ?_⟩
                        · clear hwant
                          have e112 : b__.eval (.tmp 112) = .bool true := hpre ⟨12, _⟩ (Array.mem_of_getElem? (i := 0) rfl) rfl _ _ rfl rfl
                          have e123 : b__.eval (.tmp 123) = .bool true := hpre ⟨23, _⟩ (Array.mem_of_getElem? (i := 1) rfl) rfl _ _ rfl rfl
                          exact opw_pick rfl e112 (if_pos rfl) (hK _ _ e123 (Below.refl _ _))
                        · rw [want_none rfl] at hwant; cases hwant
                      case post =>
                        intro b__ wz hW hdf hsz hold hT
                        have e100 : b__.eval (.tmp 100) = .pointer (some ⟨g4, 0, none⟩) := hT 0 _ 100 rfl rfl
                        have e101 : b__.eval (.tmp 101) = .int .i64 ((xa : Nat) : Int) := hT 1 _ 101 rfl rfl
                        have e102 : b__.eval (.tmp 102) = .int .i64 ((at_ : Nat) : Int) := hT 2 _ 102 rfl rfl
                        have e103 : b__.eval (.tmp 103) = .bool true := hT 3 _ 103 rfl rfl
                        have e104 : b__.eval (.tmp 104) = .bool true := hT 4 _ 104 rfl rfl
                        have e105 : b__.eval (.tmp 105) = .slice (some ⟨g3, 0, none⟩) n n := hT 5 _ 105 rfl rfl
                        have e106 : b__.eval (.tmp 106) = .pointer (some ⟨g4, 1, none⟩) := hT 6 _ 106 rfl rfl
                        have e107 : b__.eval (.tmp 107) = .int .i64 ((xb : Nat) : Int) := hT 7 _ 107 rfl rfl
                        have e108 : b__.eval (.tmp 108) = .pointer (some ⟨g3, 0 + (xb) * 1, none⟩) := hT 8 _ 108 rfl rfl
                        have e109 : b__.eval (.tmp 109) = .int .i64 ((ub : Nat) : Int) := hT 9 _ 109 rfl rfl
                        have e110 : b__.eval (.tmp 110) = .bool true := hT 10 _ 110 rfl rfl
                        have e111 : b__.eval (.tmp 111) = .bool true := hT 11 _ 111 rfl rfl
                        have e112 : b__.eval (.tmp 112) = .bool true := hT 12 _ 112 rfl rfl
                        have e113 : b__.eval (.tmp 113) = .slice (some ⟨g3, 0, none⟩) n n := hT 13 _ 113 rfl rfl
                        have e114 : b__.eval (.tmp 114) = .pointer (some ⟨g4, 1, none⟩) := hT 14 _ 114 rfl rfl
                        have e115 : b__.eval (.tmp 115) = .int .i64 ((xb : Nat) : Int) := hT 15 _ 115 rfl rfl
                        have e116 : b__.eval (.tmp 116) = .pointer (some ⟨g3, 0 + (xb) * 1, none⟩) := hT 16 _ 116 rfl rfl
                        have e117 : b__.eval (.tmp 117) = .int .i64 ((ub : Nat) : Int) := hT 17 _ 117 rfl rfl
                        have e118 : b__.eval (.tmp 118) = .slice (some ⟨g3, 0, none⟩) n n := hT 18 _ 118 rfl rfl
                        have e119 : b__.eval (.tmp 119) = .int .i64 ((at_ : Nat) : Int) := hT 19 _ 119 rfl rfl
                        have e120 : b__.eval (.tmp 120) = .pointer (some ⟨g3, 0 + (at_) * 1, none⟩) := hT 20 _ 120 rfl rfl
                        have e121 : b__.eval (.tmp 121) = .int .i64 ((e + 2 : Nat) : Int) := hT 21 _ 121 rfl rfl
                        have e122 : b__.eval (.tmp 122) = .int .i64 (((e + 2 : Nat) : Int) - (1 : Int)) := hT 22 _ 122 rfl rfl
                        have e123 : b__.eval (.tmp 123) = .bool true := hT 23 _ 123 rfl rfl
                        have e124 : b__.eval (.tmp 124) = .bool true := hT 24 _ 124 rfl rfl
                        obtain ⟨vs, hvs, hb⟩ := frame_of hdf hsz hold
                        replace e100 : vs 100 = .pointer (some ⟨g4, 0, none⟩) := (hvs 100).symm.trans e100
                        replace e101 : vs 101 = .int .i64 ((xa : Nat) : Int) := (hvs 101).symm.trans e101
                        replace e102 : vs 102 = .int .i64 ((at_ : Nat) : Int) := (hvs 102).symm.trans e102
                        replace e103 : vs 103 = .bool true := (hvs 103).symm.trans e103
                        replace e104 : vs 104 = .bool true := (hvs 104).symm.trans e104
                        replace e105 : vs 105 = .slice (some ⟨g3, 0, none⟩) n n := (hvs 105).symm.trans e105
                        replace e106 : vs 106 = .pointer (some ⟨g4, 1, none⟩) := (hvs 106).symm.trans e106
                        replace e107 : vs 107 = .int .i64 ((xb : Nat) : Int) := (hvs 107).symm.trans e107
                        replace e108 : vs 108 = .pointer (some ⟨g3, 0 + (xb) * 1, none⟩) := (hvs 108).symm.trans e108
                        replace e109 : vs 109 = .int .i64 ((ub : Nat) : Int) := (hvs 109).symm.trans e109
                        replace e110 : vs 110 = .bool true := (hvs 110).symm.trans e110
                        replace e111 : vs 111 = .bool true := (hvs 111).symm.trans e111
                        replace e112 : vs 112 = .bool true := (hvs 112).symm.trans e112
                        replace e113 : vs 113 = .slice (some ⟨g3, 0, none⟩) n n := (hvs 113).symm.trans e113
                        replace e114 : vs 114 = .pointer (some ⟨g4, 1, none⟩) := (hvs 114).symm.trans e114
                        replace e115 : vs 115 = .int .i64 ((xb : Nat) : Int) := (hvs 115).symm.trans e115
                        replace e116 : vs 116 = .pointer (some ⟨g3, 0 + (xb) * 1, none⟩) := (hvs 116).symm.trans e116
                        replace e117 : vs 117 = .int .i64 ((ub : Nat) : Int) := (hvs 117).symm.trans e117
                        replace e118 : vs 118 = .slice (some ⟨g3, 0, none⟩) n n := (hvs 118).symm.trans e118
                        replace e119 : vs 119 = .int .i64 ((at_ : Nat) : Int) := (hvs 119).symm.trans e119
                        replace e120 : vs 120 = .pointer (some ⟨g3, 0 + (at_) * 1, none⟩) := (hvs 120).symm.trans e120
                        replace e121 : vs 121 = .int .i64 ((e + 2 : Nat) : Int) := (hvs 121).symm.trans e121
                        replace e122 : vs 122 = .int .i64 (((e + 2 : Nat) : Int) - (1 : Int)) := (hvs 122).symm.trans e122
                        replace e123 : vs 123 = .bool true := (hvs 123).symm.trans e123
                        replace e124 : vs 124 = .bool true := (hvs 124).symm.trans e124
                        subst hb
                        clear hvs hold hT hdf hsz
                        simp only [setAll, Act.put, List.setIfInBounds_toArray, List.set_cons_zero, List.set_cons_succ, List.getElem_toArray, List.getElem_cons_succ, List.getElem_cons_zero]
                        rw [e124]
                        replace hS := hS.ext hW
                        go_wp2_with (first
                          | ((with_reducible show wpList _ _ _ (⟨_, .buildSlice _ 1 _, _, _, _, _⟩ :: _) _ _); refine st_push hS 1 rfl rfl _ _ _ _ rfl rfl ty_ints _ _ _ (.int .i64 (xb : Nat)) #[.int .i64 (xb : Nat)] rfl (by kernel_rfl) rfl rfl rfl rfl (by intro u hu; simp at hu; first | (subst hu; rfl) | (rcases hu with rfl | rfl <;> rfl)) (by omega) (by omega) ?_; clear hS; intro z_ v_ w_ hS; (try simp only [Act.put, Act.eval, List.set_cons_zero, List.set_cons_succ, List.setIfInBounds_toArray, Array.getD_eq_getD_getElem?, List.getElem?_toArray, List.getElem?_cons_succ, List.getElem?_cons_zero, Option.getD_some, Value.cells] at hS))
                          | ((with_reducible show wpList _ _ _ (⟨_, .load _ _, _, _, _, _⟩ :: _) _ _); first | (refine st_cell hS 0 rfl _ _ rfl _ _ rfl _ _ rfl (by decide +kernel) _ (by first | assumption | rfl) ?_) | (refine st_cell hS 1 rfl _ _ rfl _ _ rfl _ _ rfl (by decide +kernel) _ (by first | assumption | rfl) ?_) | (refine st_cell hS 2 rfl _ _ rfl _ _ rfl _ _ rfl (by decide +kernel) _ (by first | assumption | rfl) ?_) | (refine st_cell hS 3 rfl _ _ rfl _ _ rfl _ _ rfl (by decide +kernel) _ (by first | assumption | rfl) ?_) | (refine st_cell hS 4 rfl _ _ rfl _ _ rfl _ _ rfl (by decide +kernel) _ (by first | assumption | rfl) ?_) | (refine st_cell hS 5 rfl _ _ rfl _ _ rfl _ _ rfl (by decide +kernel) _ (by first | assumption | rfl) ?_) | (refine st_cell hS 6 rfl _ _ rfl _ _ rfl _ _ rfl (by decide +kernel) _ (by first | assumption | rfl) ?_) | (refine st_cell hS 7 rfl _ _ rfl _ _ rfl _ _ rfl (by decide +kernel) _ (by first | assumption | rfl) ?_)))
                        obtain ⟨Av, cv, rfl, _, _⟩ := own_shp (hS.own 1 rfl)
                        refine ⟨⟨acc ++ [at_], xb, e, rfl, by omega, by simp; omega, hxb, HDb, Lib.hid (by rw [← HG.out, HGP.out]; simp), ?_⟩, by simp [lenV]; omega⟩
                        have e1 : ints (natInts (acc ++ [at_] ++ [xb])) = ints (natInts (acc ++ [at_])) ++ [.int .i64 (xb : Nat)] := (natI_snoc _ _).symm
                        rw [e1, show (acc ++ [at_]).length + 1 = acc.length + 1 + 1 by simp]
                        exact hS.sub (List.sublist_cons_self _ _)
                    · have HN3 := Lib.hid (HN2.out fun h => hc2 (HFb.out.2 ⟨h.2, hed⟩))
                      have D3 : Hid (decide (((ub : Nat) : Int) = ((e + 2 : Nat) : Int) - (1 : Int)) = false) := Lib.hid (decide_eq_false (by omega))
                      by_cases hu0 : ub = 0
                      · have D2 : Hid (decide (((ub : Nat) : Int) > (0 : Int)) = false) := Lib.hid (decide_eq_false (by omega))
                        clear hc1 hc2
                        go_wp2_with (first
                          | ((with_reducible show wpList _ _ _ (⟨_, .binOp _ _ _ _ _, _, _, _, _⟩ :: _) _ _); (first | (refine st_lss rfl _ _ _ _ rfl _ _ _ rfl rfl (fun h_ => ?_) (fun h_ => ?_)) | (refine st_leq rfl _ _ _ _ rfl _ _ _ rfl rfl (fun h_ => ?_) (fun h_ => ?_)) | (refine st_gtr rfl _ _ _ _ rfl _ _ _ rfl rfl (fun h_ => ?_) (fun h_ => ?_)) | (refine st_geq rfl _ _ _ _ rfl _ _ _ rfl rfl (fun h_ => ?_) (fun h_ => ?_)) | (refine st_eql rfl _ _ _ _ rfl _ _ _ rfl rfl (fun h_ => ?_) (fun h_ => ?_)) | (refine st_neq rfl _ _ _ _ rfl _ _ _ rfl rfl (fun h_ => ?_) (fun h_ => ?_))) <;> go_prune)
                          | ((with_reducible show wpList _ _ _ (⟨_, .indexAddr _ _ _, _, _, _, _⟩ :: _) _ _); refine st_iaddr2 hS rfl _ _ _ rfl _ rfl rfl (by assumption) Tryd.underlying25 (by kernel_rfl) (by first | assumption | omega) _ _ (by assumption) (by assumption) ?_; intro b_ j_ hc0_ hc1_)
                          | ((with_reducible show wpList _ _ _ (⟨some 15, _, _, _, _, _⟩ :: _) _ _); refine st_alloc hS rfl _ rfl (by kernel_rfl) ?_; clear hS; intro g4 w_ hS; (try simp only [Act.put, Act.eval, List.set_cons_zero, List.set_cons_succ, List.setIfInBounds_toArray, Array.getD_eq_getD_getElem?, List.getElem?_toArray, List.getElem?_cons_succ, List.getElem?_cons_zero, Option.getD_some, Value.cells] at hS))
                          | ((with_reducible show wpList _ _ _ (⟨_, .store _ _ _, _, _, _, _⟩ :: _) _ _); (first | (refine st_store hS 0 rfl _ _ _ rfl _ _ rfl rfl _ _ rfl (by kernel_rfl) (by kernel_rfl) (by kernel_rfl) ?_) | (refine st_store hS 1 rfl _ _ _ rfl _ _ rfl rfl _ _ rfl (by kernel_rfl) (by kernel_rfl) (by kernel_rfl) ?_) | (refine st_store hS 2 rfl _ _ _ rfl _ _ rfl rfl _ _ rfl (by kernel_rfl) (by kernel_rfl) (by kernel_rfl) ?_) | (refine st_store hS 3 rfl _ _ _ rfl _ _ rfl rfl _ _ rfl (by kernel_rfl) (by kernel_rfl) (by kernel_rfl) ?_) | (refine st_cstore hS 0 rfl _ _ _ rfl _ _ _ rfl rfl rfl (by first | (simp; done) | (simp; omega) | exact of_decide_eq_true (by kernel_rfl)) rfl (by first | rfl | assumption) (by kernel_rfl) ?_) | (refine st_cstore hS 1 rfl _ _ _ rfl _ _ _ rfl rfl rfl (by first | (simp; done) | (simp; omega) | exact of_decide_eq_true (by kernel_rfl)) rfl (by first | rfl | assumption) (by kernel_rfl) ?_) | (refine st_cstore hS 2 rfl _ _ _ rfl _ _ _ rfl rfl rfl (by first | (simp; done) | (simp; omega) | exact of_decide_eq_true (by kernel_rfl)) rfl (by first | rfl | assumption) (by kernel_rfl) ?_) | (refine st_cstore hS 3 rfl _ _ _ rfl _ _ _ rfl rfl rfl (by first | (simp; done) | (simp; omega) | exact of_decide_eq_true (by kernel_rfl)) rfl (by first | rfl | assumption) (by kernel_rfl) ?_)); clear hS; intro w_ hS; (try simp only [Act.put, Act.eval, List.set_cons_zero, List.set_cons_succ, List.setIfInBounds_toArray, Array.getD_eq_getD_getElem?, List.getElem?_toArray, List.getElem?_cons_succ, List.getElem?_cons_zero, Option.getD_some, Value.cells] at hS)))
                        refine wp_region_typed (fun i__ v w => match i__ with
                          | 0 => v = .pointer (some ⟨g4, 0, none⟩)
                          | 1 => v = .int .i64 ((xa : Nat) : Int)
                          | 2 => v = .int .i64 ((at_ : Nat) : Int)
                          | 3 => v = .bool true
                          | 4 => v = .bool true
                          | 5 => v = .slice (some ⟨g3, 0, none⟩) n n
                          | 6 => v = .pointer (some ⟨g4, 1, none⟩)
                          | 7 => v = .int .i64 ((xb : Nat) : Int)
                          | 8 => v = .pointer (some ⟨g3, 0 + (xb) * 1, none⟩)
                          | 9 => v = .int .i64 ((ub : Nat) : Int)
                          | 10 => v = .bool false
                          | 11 => v = .bool false
                          | 12 => v = .bool false
                          | 13 => True
                          | 14 => True
                          | 15 => True
                          | 16 => True
                          | 17 => True
                          | 18 => True
                          | 19 => True
                          | 20 => True
                          | 21 => True
                          | 22 => True
                          | 23 => True
                          | 24 => v = .bool false
                          | _ => True) (by kernel_rfl) (by kernel_rfl) ?mono ⟨?r0, ?r1, ?r2, ?r3, ?r4, ?r5, ?r6, ?r7, ?r8, ?r9, ?r10, ?r11, ?r12, ?r13, ?r14, ?r15, ?r16, ?r17, ?r18, ?r19, ?r20, ?r21, ?r22, ?r23, ?r24, trivial⟩ ?post
                        case mono =>
                          intro i v w w' h hb
                          match i, h with
                          | 0, h => exact h
                          | 1, h => exact h
                          | 2, h => exact h
                          | 3, h => exact h
                          | 4, h => exact h
                          | 5, h => exact h
                          | 6, h => exact h
                          | 7, h => exact h
                          | 8, h => exact h
                          | 9, h => exact h
                          | 10, h => exact h
                          | 11, h => exact h
                          | 12, h => exact h
                          | 13, h => exact h
                          | 14, h => exact h
                          | 15, h => exact h
                          | 16, h => exact h
                          | 17, h => exact h
                          | 18, h => exact h
                          | 19, h => exact h
                          | 20, h => exact h
                          | 21, h => exact h
                          | 22, h => exact h
                          | 23, h => exact h
                          | 24, h => exact h
                          | _ + 25, h => trivial
                        case r0 =>
                          refine trule fun b__ w hW hold hpre => ⟨fun hwant K hK => ?_, fun hwant => ?_⟩
                          · clear hwant
                            have e15 : b__.eval (.tmp 15) = .pointer (some ⟨g4, 0, none⟩) := (hold 15 (by kernel_rfl)).trans rfl
                            exact opw_iaddr rfl e15 rfl (by kernel_rfl) (hK _ _ rfl (Below.refl _ _))
                          · rw [want_none rfl] at hwant; cases hwant
                        case r1 =>
                          refine trule fun b__ w hW hold hpre => ⟨fun hwant K hK => ?_, fun hwant => ?_⟩
                          · clear hwant
                            have e100 : b__.eval (.tmp 100) = .pointer (some ⟨g4, 0, none⟩) := hpre ⟨0, _⟩ (Array.mem_of_getElem? (i := 0) rfl) rfl _ _ rfl rfl
                            exact opw_cell rfl e100 (by kernel_rfl) ((hS.ext (undrew hW)).shut 0 rfl 0 rfl) (hK _ _ rfl (Below.refl _ _))
                          · rw [want_none rfl] at hwant; cases hwant
                        case r2 =>
                          refine trule fun b__ w hW hold hpre => ⟨fun hwant K hK => ?_, fun hwant => ?_⟩
                          · clear hwant
                            have e13 : b__.eval (.tmp 13) = .int .i64 ((at_ : Nat) : Int) := (hold 13 (by kernel_rfl)).trans rfl
                            exact opw_move rfl e13 (hK _ _ rfl (Below.refl _ _))
                          · rw [want_none rfl] at hwant; cases hwant
                        case r3 =>
                          refine trule fun b__ w hW hold hpre => ⟨fun hwant K hK => ?_, fun hwant => ?_⟩
                          · clear hwant
                            have e101 : b__.eval (.tmp 101) = .int .i64 ((xa : Nat) : Int) := hpre ⟨1, _⟩ (Array.mem_of_getElem? (i := 0) rfl) rfl _ _ rfl rfl
                            have e102 : b__.eval (.tmp 102) = .int .i64 ((at_ : Nat) : Int) := hpre ⟨2, _⟩ (Array.mem_of_getElem? (i := 1) rfl) rfl _ _ rfl rfl
                            exact opw_bin (vx := .int .i64 ((xa : Nat) : Int)) (vy := .int .i64 ((at_ : Nat) : Int)) (v := .bool true) rfl e101 e102 rfl (run_eqB D1.out) (hK _ _ rfl (Below.refl _ _))
                          · rw [want_none rfl] at hwant; cases hwant
                        case r4 =>
                          refine trule fun b__ w hW hold hpre => ⟨fun hwant K hK => ?_, fun hwant => ?_⟩
                          · clear hwant
                            have e103 : b__.eval (.tmp 103) = .bool true := hpre ⟨3, _⟩ (Array.mem_of_getElem? (i := 0) rfl) rfl _ _ rfl rfl
                            exact opw_move rfl e103 (hK _ _ rfl (Below.refl _ _))
                          · rw [want_none rfl] at hwant; cases hwant
                        case r5 =>
                          refine trule fun b__ w hW hold hpre => ⟨fun hwant K hK => ?_, fun hwant => ?_⟩
                          · clear hwant
                            have e8 : b__.eval (.tmp 8) = .slice (some ⟨g3, 0, none⟩) n n := (hold 8 (by kernel_rfl)).trans rfl
                            exact opw_move rfl e8 (hK _ _ rfl (Below.refl _ _))
                          · rw [want_some rfl rfl rfl (show b__.eval (.tmp 104) = .bool true from (hpre ⟨4, _⟩ (Array.mem_of_getElem? (i := 0) rfl) rfl _ _ rfl rfl))] at hwant; cases hwant
                        case r6 =>
                          refine trule fun b__ w hW hold hpre => ⟨fun hwant K hK => ?_, fun hwant => ?_⟩
                          · clear hwant
                            have e15 : b__.eval (.tmp 15) = .pointer (some ⟨g4, 0, none⟩) := (hold 15 (by kernel_rfl)).trans rfl
                            exact opw_iaddr rfl e15 rfl (by kernel_rfl) (hK _ _ rfl (Below.refl _ _))
                          · rw [want_some rfl rfl rfl (show b__.eval (.tmp 104) = .bool true from (hpre ⟨4, _⟩ (Array.mem_of_getElem? (i := 0) rfl) rfl _ _ rfl rfl))] at hwant; cases hwant
                        case r7 =>
                          refine trule fun b__ w hW hold hpre => ⟨fun hwant K hK => ?_, fun hwant => ?_⟩
                          · clear hwant
                            have e106 : b__.eval (.tmp 106) = .pointer (some ⟨g4, 1, none⟩) := hpre ⟨6, _⟩ (Array.mem_of_getElem? (i := 0) rfl) rfl _ _ rfl rfl
                            exact opw_cell rfl e106 (by kernel_rfl) ((hS.ext (undrew hW)).shut 0 rfl 1 rfl) (hK _ _ rfl (Below.refl _ _))
                          · rw [want_some rfl rfl rfl (show b__.eval (.tmp 104) = .bool true from (hpre ⟨4, _⟩ (Array.mem_of_getElem? (i := 1) rfl) rfl _ _ rfl rfl))] at hwant; cases hwant
                        case r8 =>
                          refine trule fun b__ w hW hold hpre => ⟨fun hwant K hK => ?_, fun hwant => ?_⟩
                          · clear hwant
                            have e105 : b__.eval (.tmp 105) = .slice (some ⟨g3, 0, none⟩) n n := hpre ⟨5, _⟩ (Array.mem_of_getElem? (i := 0) rfl) rfl _ _ rfl rfl
                            have e107 : b__.eval (.tmp 107) = .int .i64 ((xb : Nat) : Int) := hpre ⟨7, _⟩ (Array.mem_of_getElem? (i := 1) rfl) rfl _ _ rfl rfl
                            exact opw_iaddr rfl e105 e107 (run_iaddr_lit (m := xb) Tryd.underlying31 (by kernel_rfl) (by omega) (by omega)) (hK _ _ rfl (Below.refl _ _))
                          · rw [want_some rfl rfl rfl (show b__.eval (.tmp 104) = .bool true from (hpre ⟨4, _⟩ (Array.mem_of_getElem? (i := 2) rfl) rfl _ _ rfl rfl))] at hwant; cases hwant
                        case r9 =>
                          refine trule fun b__ w hW hold hpre => ⟨fun hwant K hK => ?_, fun hwant => ?_⟩
                          · clear hwant
                            have e108 : b__.eval (.tmp 108) = .pointer (some ⟨g3, 0 + (xb) * 1, none⟩) := hpre ⟨8, _⟩ (Array.mem_of_getElem? (i := 0) rfl) rfl _ _ rfl rfl
                            exact opw_cell rfl e108 (by kernel_rfl) (by rw [Nat.zero_add, Nat.mul_one]; exact own_cell ((hS.ext (undrew hW)).own 2 rfl) xb _ HNb.out) (hK _ _ rfl (Below.refl _ _))
                          · rw [want_some rfl rfl rfl (show b__.eval (.tmp 104) = .bool true from (hpre ⟨4, _⟩ (Array.mem_of_getElem? (i := 1) rfl) rfl _ _ rfl rfl))] at hwant; cases hwant
                        case r10 =>
                          refine trule fun b__ w hW hold hpre => ⟨fun hwant K hK => ?_, fun hwant => ?_⟩
                          · clear hwant
                            have e109 : b__.eval (.tmp 109) = .int .i64 ((ub : Nat) : Int) := hpre ⟨9, _⟩ (Array.mem_of_getElem? (i := 0) rfl) rfl _ _ rfl rfl
                            exact opw_bin (vx := .int .i64 ((ub : Nat) : Int)) (vy := .int .i64 0) (v := .bool false) rfl e109 rfl rfl (run_gtB D2.out) (hK _ _ rfl (Below.refl _ _))
                          · rw [want_some rfl rfl rfl (show b__.eval (.tmp 104) = .bool true from (hpre ⟨4, _⟩ (Array.mem_of_getElem? (i := 1) rfl) rfl _ _ rfl rfl))] at hwant; cases hwant
                        case r11 =>
                          refine trule fun b__ w hW hold hpre => ⟨fun hwant K hK => ?_, fun hwant => ?_⟩
                          · clear hwant
                            have e104 : b__.eval (.tmp 104) = .bool true := hpre ⟨4, _⟩ (Array.mem_of_getElem? (i := 0) rfl) rfl _ _ rfl rfl
                            have e110 : b__.eval (.tmp 110) = .bool false := hpre ⟨10, _⟩ (Array.mem_of_getElem? (i := 1) rfl) rfl _ _ rfl rfl
                            exact opw_pick rfl e104 (if_pos rfl) (hK _ _ e110 (Below.refl _ _))
                          · rw [want_none rfl] at hwant; cases hwant
                        case r12 =>
                          refine trule fun b__ w hW hold hpre => ⟨fun hwant K hK => ?_, fun hwant => ?_⟩
                          · clear hwant
                            have e111 : b__.eval (.tmp 111) = .bool false := hpre ⟨11, _⟩ (Array.mem_of_getElem? (i := 0) rfl) rfl _ _ rfl rfl
                            exact opw_move rfl e111 (hK _ _ rfl (Below.refl _ _))
                          · rw [want_none rfl] at hwant; cases hwant
                        case r13 =>
                          refine trule fun b__ w hW hold hpre => ⟨fun hwant K hK => ?_, fun hwant => ?_⟩
                          · rw [want_some rfl rfl rfl (show b__.eval (.tmp 112) = .bool false from hpre ⟨12, _⟩ (Array.mem_of_getElem? (i := 0) rfl) rfl _ _ rfl rfl)] at hwant; cases hwant
                          · exact trivial
                        case r14 =>
                          refine trule fun b__ w hW hold hpre => ⟨fun hwant K hK => ?_, fun hwant => ?_⟩
                          · rw [want_some rfl rfl rfl (show b__.eval (.tmp 112) = .bool false from hpre ⟨12, _⟩ (Array.mem_of_getElem? (i := 0) rfl) rfl _ _ rfl rfl)] at hwant; cases hwant
                          · exact trivial
                        case r15 =>
                          refine trule fun b__ w hW hold hpre => ⟨fun hwant K hK => ?_, fun hwant => ?_⟩
                          · rw [want_some rfl rfl rfl (show b__.eval (.tmp 112) = .bool false from hpre ⟨12, _⟩ (Array.mem_of_getElem? (i := 1) rfl) rfl _ _ rfl rfl)] at hwant; cases hwant
                          · exact trivial
                        case r16 =>
                          refine trule fun b__ w hW hold hpre => ⟨fun hwant K hK => ?_, fun hwant => ?_⟩
                          · rw [want_some rfl rfl rfl (show b__.eval (.tmp 112) = .bool false from hpre ⟨12, _⟩ (Array.mem_of_getElem? (i := 2) rfl) rfl _ _ rfl rfl)] at hwant; cases hwant
                          · exact trivial
                        case r17 =>
                          refine trule fun b__ w hW hold hpre => ⟨fun hwant K hK => ?_, fun hwant => ?_⟩
                          · rw [want_some rfl rfl rfl (show b__.eval (.tmp 112) = .bool false from hpre ⟨12, _⟩ (Array.mem_of_getElem? (i := 1) rfl) rfl _ _ rfl rfl)] at hwant; cases hwant
                          · exact trivial
                        case r18 =>
                          refine trule fun b__ w hW hold hpre => ⟨fun hwant K hK => ?_, fun hwant => ?_⟩
                          · rw [want_some rfl rfl rfl (show b__.eval (.tmp 112) = .bool false from hpre ⟨12, _⟩ (Array.mem_of_getElem? (i := 0) rfl) rfl _ _ rfl rfl)] at hwant; cases hwant
                          · exact trivial
                        case r19 =>
                          refine trule fun b__ w hW hold hpre => ⟨fun hwant K hK => ?_, fun hwant => ?_⟩
                          · rw [want_some rfl rfl rfl (show b__.eval (.tmp 112) = .bool false from hpre ⟨12, _⟩ (Array.mem_of_getElem? (i := 0) rfl) rfl _ _ rfl rfl)] at hwant; cases hwant
                          · exact trivial
                        case r20 =>
                          refine trule fun b__ w hW hold hpre => ⟨fun hwant K hK => ?_, fun hwant => ?_⟩
                          · rw [want_some rfl rfl rfl (show b__.eval (.tmp 112) = .bool false from hpre ⟨12, _⟩ (Array.mem_of_getElem? (i := 2) rfl) rfl _ _ rfl rfl)] at hwant; cases hwant
                          · exact trivial
                        case r21 =>
                          refine trule fun b__ w hW hold hpre => ⟨fun hwant K hK => ?_, fun hwant => ?_⟩
                          · rw [want_some rfl rfl rfl (show b__.eval (.tmp 112) = .bool false from hpre ⟨12, _⟩ (Array.mem_of_getElem? (i := 1) rfl) rfl _ _ rfl rfl)] at hwant; cases hwant
                          · exact trivial
                        case r22 =>
                          refine trule fun b__ w hW hold hpre => ⟨fun hwant K hK => ?_, fun hwant => ?_⟩
                          · rw [want_some rfl rfl rfl (show b__.eval (.tmp 112) = .bool false from hpre ⟨12, _⟩ (Array.mem_of_getElem? (i := 1) rfl) rfl _ _ rfl rfl)] at hwant; cases hwant
                          · exact trivial
                        case r23 =>
                          refine trule fun b__ w hW hold hpre => ⟨fun hwant K hK => ?_, fun hwant => ?_⟩
                          · rw [want_some rfl rfl rfl (show b__.eval (.tmp 112) = .bool false from hpre ⟨12, _⟩ (Array.mem_of_getElem? (i := 2) rfl) rfl _ _ rfl rfl)] at hwant; cases hwant
                          · exact trivial
                        case r24 =>
                          refine trule fun b__ w hW hold hpre => ⟨fun hwant K hK => ?_, fun hwant => ?_⟩
                          · clear hwant
                            have e112 : b__.eval (.tmp 112) = .bool false := hpre ⟨12, _⟩ (Array.mem_of_getElem? (i := 0) rfl) rfl _ _ rfl rfl
                            have e123 : (fun (v : Value) (w : World) => True) (b__.eval (.tmp 123)) w := hpre ⟨23, _⟩ (Array.mem_of_getElem? (i := 1) rfl) rfl _ _ rfl rfl
                            exact opw_pick rfl e112 rfl (hK _ _ rfl (Below.refl _ _))
                          · rw [want_none rfl] at hwant; cases hwant
                        case post =>
                          intro b__ wz hW hdf hsz hold hT
                          have e100 : b__.eval (.tmp 100) = .pointer (some ⟨g4, 0, none⟩) := hT 0 _ 100 rfl rfl
                          have e101 : b__.eval (.tmp 101) = .int .i64 ((xa : Nat) : Int) := hT 1 _ 101 rfl rfl
                          have e102 : b__.eval (.tmp 102) = .int .i64 ((at_ : Nat) : Int) := hT 2 _ 102 rfl rfl
                          have e103 : b__.eval (.tmp 103) = .bool true := hT 3 _ 103 rfl rfl
                          have e104 : b__.eval (.tmp 104) = .bool true := hT 4 _ 104 rfl rfl
                          have e105 : b__.eval (.tmp 105) = .slice (some ⟨g3, 0, none⟩) n n := hT 5 _ 105 rfl rfl
                          have e106 : b__.eval (.tmp 106) = .pointer (some ⟨g4, 1, none⟩) := hT 6 _ 106 rfl rfl
                          have e107 : b__.eval (.tmp 107) = .int .i64 ((xb : Nat) : Int) := hT 7 _ 107 rfl rfl
                          have e108 : b__.eval (.tmp 108) = .pointer (some ⟨g3, 0 + (xb) * 1, none⟩) := hT 8 _ 108 rfl rfl
                          have e109 : b__.eval (.tmp 109) = .int .i64 ((ub : Nat) : Int) := hT 9 _ 109 rfl rfl
                          have e110 : b__.eval (.tmp 110) = .bool false := hT 10 _ 110 rfl rfl
                          have e111 : b__.eval (.tmp 111) = .bool false := hT 11 _ 111 rfl rfl
                          have e112 : b__.eval (.tmp 112) = .bool false := hT 12 _ 112 rfl rfl
                          have e124 : b__.eval (.tmp 124) = .bool false := hT 24 _ 124 rfl rfl
                          obtain ⟨vs, hvs, hb⟩ := frame_of hdf hsz hold
                          replace e100 : vs 100 = .pointer (some ⟨g4, 0, none⟩) := (hvs 100).symm.trans e100
                          replace e101 : vs 101 = .int .i64 ((xa : Nat) : Int) := (hvs 101).symm.trans e101
                          replace e102 : vs 102 = .int .i64 ((at_ : Nat) : Int) := (hvs 102).symm.trans e102
                          replace e103 : vs 103 = .bool true := (hvs 103).symm.trans e103
                          replace e104 : vs 104 = .bool true := (hvs 104).symm.trans e104
                          replace e105 : vs 105 = .slice (some ⟨g3, 0, none⟩) n n := (hvs 105).symm.trans e105
                          replace e106 : vs 106 = .pointer (some ⟨g4, 1, none⟩) := (hvs 106).symm.trans e106
                          replace e107 : vs 107 = .int .i64 ((xb : Nat) : Int) := (hvs 107).symm.trans e107
                          replace e108 : vs 108 = .pointer (some ⟨g3, 0 + (xb) * 1, none⟩) := (hvs 108).symm.trans e108
                          replace e109 : vs 109 = .int .i64 ((ub : Nat) : Int) := (hvs 109).symm.trans e109
                          replace e110 : vs 110 = .bool false := (hvs 110).symm.trans e110
                          replace e111 : vs 111 = .bool false := (hvs 111).symm.trans e111
                          replace e112 : vs 112 = .bool false := (hvs 112).symm.trans e112
                          replace e124 : vs 124 = .bool false := (hvs 124).symm.trans e124
                          subst hb
                          clear hvs hold hT hdf hsz
                          simp only [setAll, Act.put, List.setIfInBounds_toArray, List.set_cons_zero, List.set_cons_succ, List.getElem_toArray, List.getElem_cons_succ, List.getElem_cons_zero]
                          rw [e124]
                          replace hS := hS.ext hW
                          go_wp2_with fail
                          exact ⟨⟨t + 1, by go_num, rfl, rfl, htl, HN3, hS.sub (List.sublist_cons_self _ _)⟩, by simp [intOf]; omega⟩
                      · have D2 : Hid (decide (((ub : Nat) : Int) > (0 : Int)) = true) := Lib.hid (decide_eq_true (by omega))
                        clear hc1 hc2
                        go_wp2_with (first
                          | ((with_reducible show wpList _ _ _ (⟨_, .binOp _ _ _ _ _, _, _, _, _⟩ :: _) _ _); (first | (refine st_lss rfl _ _ _ _ rfl _ _ _ rfl rfl (fun h_ => ?_) (fun h_ => ?_)) | (refine st_leq rfl _ _ _ _ rfl _ _ _ rfl rfl (fun h_ => ?_) (fun h_ => ?_)) | (refine st_gtr rfl _ _ _ _ rfl _ _ _ rfl rfl (fun h_ => ?_) (fun h_ => ?_)) | (refine st_geq rfl _ _ _ _ rfl _ _ _ rfl rfl (fun h_ => ?_) (fun h_ => ?_)) | (refine st_eql rfl _ _ _ _ rfl _ _ _ rfl rfl (fun h_ => ?_) (fun h_ => ?_)) | (refine st_neq rfl _ _ _ _ rfl _ _ _ rfl rfl (fun h_ => ?_) (fun h_ => ?_))) <;> go_prune)
                          | ((with_reducible show wpList _ _ _ (⟨_, .indexAddr _ _ _, _, _, _, _⟩ :: _) _ _); refine st_iaddr2 hS rfl _ _ _ rfl _ rfl rfl (by assumption) Tryd.underlying25 (by kernel_rfl) (by first | assumption | omega) _ _ (by assumption) (by assumption) ?_; intro b_ j_ hc0_ hc1_)
                          | ((with_reducible show wpList _ _ _ (⟨some 15, _, _, _, _, _⟩ :: _) _ _); refine st_alloc hS rfl _ rfl (by kernel_rfl) ?_; clear hS; intro g4 w_ hS; (try simp only [Act.put, Act.eval, List.set_cons_zero, List.set_cons_succ, List.setIfInBounds_toArray, Array.getD_eq_getD_getElem?, List.getElem?_toArray, List.getElem?_cons_succ, List.getElem?_cons_zero, Option.getD_some, Value.cells] at hS))
                          | ((with_reducible show wpList _ _ _ (⟨_, .store _ _ _, _, _, _, _⟩ :: _) _ _); (first | (refine st_store hS 0 rfl _ _ _ rfl _ _ rfl rfl _ _ rfl (by kernel_rfl) (by kernel_rfl) (by kernel_rfl) ?_) | (refine st_store hS 1 rfl _ _ _ rfl _ _ rfl rfl _ _ rfl (by kernel_rfl) (by kernel_rfl) (by kernel_rfl) ?_) | (refine st_store hS 2 rfl _ _ _ rfl _ _ rfl rfl _ _ rfl (by kernel_rfl) (by kernel_rfl) (by kernel_rfl) ?_) | (refine st_store hS 3 rfl _ _ _ rfl _ _ rfl rfl _ _ rfl (by kernel_rfl) (by kernel_rfl) (by kernel_rfl) ?_) | (refine st_cstore hS 0 rfl _ _ _ rfl _ _ _ rfl rfl rfl (by first | (simp; done) | (simp; omega) | exact of_decide_eq_true (by kernel_rfl)) rfl (by first | rfl | assumption) (by kernel_rfl) ?_) | (refine st_cstore hS 1 rfl _ _ _ rfl _ _ _ rfl rfl rfl (by first | (simp; done) | (simp; omega) | exact of_decide_eq_true (by kernel_rfl)) rfl (by first | rfl | assumption) (by kernel_rfl) ?_) | (refine st_cstore hS 2 rfl _ _ _ rfl _ _ _ rfl rfl rfl (by first | (simp; done) | (simp; omega) | exact of_decide_eq_true (by kernel_rfl)) rfl (by first | rfl | assumption) (by kernel_rfl) ?_) | (refine st_cstore hS 3 rfl _ _ _ rfl _ _ _ rfl rfl rfl (by first | (simp; done) | (simp; omega) | exact of_decide_eq_true (by kernel_rfl)) rfl (by first | rfl | assumption) (by kernel_rfl) ?_)); clear hS; intro w_ hS; (try simp only [Act.put, Act.eval, List.set_cons_zero, List.set_cons_succ, List.setIfInBounds_toArray, Array.getD_eq_getD_getElem?, List.getElem?_toArray, List.getElem?_cons_succ, List.getElem?_cons_zero, Option.getD_some, Value.cells] at hS)))
                        refine wp_region_typed (fun i__ v w => match i__ with
                          | 0 => v = .pointer (some ⟨g4, 0, none⟩)
                          | 1 => v = .int .i64 ((xa : Nat) : Int)
                          | 2 => v = .int .i64 ((at_ : Nat) : Int)
                          | 3 => v = .bool true
                          | 4 => v = .bool true
                          | 5 => v = .slice (some ⟨g3, 0, none⟩) n n
                          | 6 => v = .pointer (some ⟨g4, 1, none⟩)
                          | 7 => v = .int .i64 ((xb : Nat) : Int)
                          | 8 => v = .pointer (some ⟨g3, 0 + (xb) * 1, none⟩)
                          | 9 => v = .int .i64 ((ub : Nat) : Int)
                          | 10 => v = .bool true
                          | 11 => v = .bool true
                          | 12 => v = .bool true
                          | 13 => v = .slice (some ⟨g3, 0, none⟩) n n
                          | 14 => v = .pointer (some ⟨g4, 1, none⟩)
                          | 15 => v = .int .i64 ((xb : Nat) : Int)
                          | 16 => v = .pointer (some ⟨g3, 0 + (xb) * 1, none⟩)
                          | 17 => v = .int .i64 ((ub : Nat) : Int)
                          | 18 => v = .slice (some ⟨g3, 0, none⟩) n n
                          | 19 => v = .int .i64 ((at_ : Nat) : Int)
                          | 20 => v = .pointer (some ⟨g3, 0 + (at_) * 1, none⟩)
                          | 21 => v = .int .i64 ((e + 2 : Nat) : Int)
                          | 22 => v = .int .i64 (((e + 2 : Nat) : Int) - (1 : Int))
                          | 23 => v = .bool false
                          | 24 => v = .bool false
                          | _ => True) (by kernel_rfl) (by kernel_rfl) ?mono ⟨?r0, ?r1, ?r2, ?r3, ?r4, ?r5, ?r6, ?r7, ?r8, ?r9, ?r10, ?r11, ?r12, ?r13, ?r14, ?r15, ?r16, ?r17, ?r18, ?r19, ?r20, ?r21, ?r22, ?r23, ?r24, trivial⟩ ?post
                        case mono =>
                          intro i v w w' h hb
                          match i, h with
                          | 0, h => exact h
                          | 1, h => exact h
                          | 2, h => exact h
                          | 3, h => exact h
                          | 4, h => exact h
                          | 5, h => exact h
                          | 6, h => exact h
                          | 7, h => exact h
                          | 8, h => exact h
                          | 9, h => exact h
                          | 10, h => exact h
                          | 11, h => exact h
                          | 12, h => exact h
                          | 13, h => exact h
                          | 14, h => exact h
                          | 15, h => exact h
                          | 16, h => exact h
                          | 17, h => exact h
                          | 18, h => exact h
                          | 19, h => exact h
                          | 20, h => exact h
                          | 21, h => exact h
                          | 22, h => exact h
                          | 23, h => exact h
                          | 24, h => exact h
                          | _ + 25, h => trivial
                        case r0 =>
                          refine trule fun b__ w hW hold hpre => ⟨fun hwant K hK => ?_, fun hwant => ?_⟩
                          · clear hwant
                            have e15 : b__.eval (.tmp 15) = .pointer (some ⟨g4, 0, none⟩) := (hold 15 (by kernel_rfl)).trans rfl
                            exact opw_iaddr rfl e15 rfl (by kernel_rfl) (hK _ _ rfl (Below.refl _ _))
                          · rw [want_none rfl] at hwant; cases hwant
                        case r1 =>
                          refine trule fun b__ w hW hold hpre => ⟨fun hwant K hK => ?_, fun hwant => ?_⟩
                          · clear hwant
                            have e100 : b__.eval (.tmp 100) = .pointer (some ⟨g4, 0, none⟩) := hpre ⟨0, _⟩ (Array.mem_of_getElem? (i := 0) rfl) rfl _ _ rfl rfl
                            exact opw_cell rfl e100 (by kernel_rfl) ((hS.ext (undrew hW)).shut 0 rfl 0 rfl) (hK _ _ rfl (Below.refl _ _))
                          · rw [want_none rfl] at hwant; cases hwant
                        case r2 =>
                          refine trule fun b__ w hW hold hpre => ⟨fun hwant K hK => ?_, fun hwant => ?_⟩
                          · clear hwant
                            have e13 : b__.eval (.tmp 13) = .int .i64 ((at_ : Nat) : Int) := (hold 13 (by kernel_rfl)).trans rfl
                            exact opw_move rfl e13 (hK _ _ rfl (Below.refl _ _))
                          · rw [want_none rfl] at hwant; cases hwant
                        case r3 =>
                          refine trule fun b__ w hW hold hpre => ⟨fun hwant K hK => ?_, fun hwant => ?_⟩
                          · clear hwant
                            have e101 : b__.eval (.tmp 101) = .int .i64 ((xa : Nat) : Int) := hpre ⟨1, _⟩ (Array.mem_of_getElem? (i := 0) rfl) rfl _ _ rfl rfl
                            have e102 : b__.eval (.tmp 102) = .int .i64 ((at_ : Nat) : Int) := hpre ⟨2, _⟩ (Array.mem_of_getElem? (i := 1) rfl) rfl _ _ rfl rfl
                            exact opw_bin (vx := .int .i64 ((xa : Nat) : Int)) (vy := .int .i64 ((at_ : Nat) : Int)) (v := .bool true) rfl e101 e102 rfl (run_eqB D1.out) (hK _ _ rfl (Below.refl _ _))
                          · rw [want_none rfl] at hwant; cases hwant
                        case r4 =>
                          refine trule fun b__ w hW hold hpre => ⟨fun hwant K hK => ?_, fun hwant => ?_⟩
                          · clear hwant
                            have e103 : b__.eval (.tmp 103) = .bool true := hpre ⟨3, _⟩ (Array.mem_of_getElem? (i := 0) rfl) rfl _ _ rfl rfl
                            exact opw_move rfl e103 (hK _ _ rfl (Below.refl _ _))
                          · rw [want_none rfl] at hwant; cases hwant
                        case r5 =>
                          refine trule fun b__ w hW hold hpre => ⟨fun hwant K hK => ?_, fun hwant => ?_⟩
                          · clear hwant
                            have e8 : b__.eval (.tmp 8) = .slice (some ⟨g3, 0, none⟩) n n := (hold 8 (by kernel_rfl)).trans rfl
                            exact opw_move rfl e8 (hK _ _ rfl (Below.refl _ _))
                          · rw [want_some rfl rfl rfl (show b__.eval (.tmp 104) = .bool true from (hpre ⟨4, _⟩ (Array.mem_of_getElem? (i := 0) rfl) rfl _ _ rfl rfl))] at hwant; cases hwant
                        case r6 =>
                          refine trule fun b__ w hW hold hpre => ⟨fun hwant K hK => ?_, fun hwant => ?_⟩
                          · clear hwant
                            have e15 : b__.eval (.tmp 15) = .pointer (some ⟨g4, 0, none⟩) := (hold 15 (by kernel_rfl)).trans rfl
                            exact opw_iaddr rfl e15 rfl (by kernel_rfl) (hK _ _ rfl (Below.refl _ _))
                          · rw [want_some rfl rfl rfl (show b__.eval (.tmp 104) = .bool true from (hpre ⟨4, _⟩ (Array.mem_of_getElem? (i := 0) rfl) rfl _ _ rfl rfl))] at hwant; cases hwant
                        case r7 =>
                          refine trule fun b__ w hW hold hpre => ⟨fun hwant K hK => ?_, fun hwant => ?_⟩
                          · clear hwant
                            have e106 : b__.eval (.tmp 106) = .pointer (some ⟨g4, 1, none⟩) := hpre ⟨6, _⟩ (Array.mem_of_getElem? (i := 0) rfl) rfl _ _ rfl rfl
                            exact opw_cell rfl e106 (by kernel_rfl) ((hS.ext (undrew hW)).shut 0 rfl 1 rfl) (hK _ _ rfl (Below.refl _ _))
                          · rw [want_some rfl rfl rfl (show b__.eval (.tmp 104) = .bool true from (hpre ⟨4, _⟩ (Array.mem_of_getElem? (i := 1) rfl) rfl _ _ rfl rfl))] at hwant; cases hwant
                        case r8 =>
                          refine trule fun b__ w hW hold hpre => ⟨fun hwant K hK => ?_, fun hwant => ?_⟩
                          · clear hwant
                            have e105 : b__.eval (.tmp 105) = .slice (some ⟨g3, 0, none⟩) n n := hpre ⟨5, _⟩ (Array.mem_of_getElem? (i := 0) rfl) rfl _ _ rfl rfl
                            have e107 : b__.eval (.tmp 107) = .int .i64 ((xb : Nat) : Int) := hpre ⟨7, _⟩ (Array.mem_of_getElem? (i := 1) rfl) rfl _ _ rfl rfl
                            exact opw_iaddr rfl e105 e107 (run_iaddr_lit (m := xb) Tryd.underlying31 (by kernel_rfl) (by omega) (by omega)) (hK _ _ rfl (Below.refl _ _))
                          · rw [want_some rfl rfl rfl (show b__.eval (.tmp 104) = .bool true from (hpre ⟨4, _⟩ (Array.mem_of_getElem? (i := 2) rfl) rfl _ _ rfl rfl))] at hwant; cases hwant
                        case r9 =>
                          refine trule fun b__ w hW hold hpre => ⟨fun hwant K hK => ?_, fun hwant => ?_⟩
                          · clear hwant
                            have e108 : b__.eval (.tmp 108) = .pointer (some ⟨g3, 0 + (xb) * 1, none⟩) := hpre ⟨8, _⟩ (Array.mem_of_getElem? (i := 0) rfl) rfl _ _ rfl rfl
                            exact opw_cell rfl e108 (by kernel_rfl) (by rw [Nat.zero_add, Nat.mul_one]; exact own_cell ((hS.ext (undrew hW)).own 2 rfl) xb _ HNb.out) (hK _ _ rfl (Below.refl _ _))
                          · rw [want_some rfl rfl rfl (show b__.eval (.tmp 104) = .bool true from (hpre ⟨4, _⟩ (Array.mem_of_getElem? (i := 1) rfl) rfl _ _ rfl rfl))] at hwant; cases hwant
                        case r10 =>
                          refine trule fun b__ w hW hold hpre => ⟨fun hwant K hK => ?_, fun hwant => ?_⟩
                          · clear hwant
                            have e109 : b__.eval (.tmp 109) = .int .i64 ((ub : Nat) : Int) := hpre ⟨9, _⟩ (Array.mem_of_getElem? (i := 0) rfl) rfl _ _ rfl rfl
                            exact opw_bin (vx := .int .i64 ((ub : Nat) : Int)) (vy := .int .i64 0) (v := .bool true) rfl e109 rfl rfl (run_gtB D2.out) (hK _ _ rfl (Below.refl _ _))
                          · rw [want_some rfl rfl rfl (show b__.eval (.tmp 104) = .bool true from (hpre ⟨4, _⟩ (Array.mem_of_getElem? (i := 1) rfl) rfl _ _ rfl rfl))] at hwant; cases hwant
                        case r11 =>
                          refine trule fun b__ w hW hold hpre => ⟨fun hwant K hK => ?_, fun hwant => ?_⟩
                          · clear hwant
                            have e104 : b__.eval (.tmp 104) = .bool true := hpre ⟨4, _⟩ (Array.mem_of_getElem? (i := 0) rfl) rfl _ _ rfl rfl
                            have e110 : b__.eval (.tmp 110) = .bool true := hpre ⟨10, _⟩ (Array.mem_of_getElem? (i := 1) rfl) rfl _ _ rfl rfl
                            exact opw_pick rfl e104 (if_pos rfl) (hK _ _ e110 (Below.refl _ _))
                          · rw [want_none rfl] at hwant; cases hwant
                        case r12 =>
                          refine trule fun b__ w hW hold hpre => ⟨fun hwant K hK => ?_, fun hwant => ?_⟩
                          · clear hwant
                            have e111 : b__.eval (.tmp 111) = .bool true := hpre ⟨11, _⟩ (Array.mem_of_getElem? (i := 0) rfl) rfl _ _ rfl rfl
                            exact opw_move rfl e111 (hK _ _ rfl (Below.refl _ _))
                          · rw [want_none rfl] at hwant; cases hwant
                        case r13 =>
                          refine trule fun b__ w hW hold hpre => ⟨fun hwant K hK => ?_, fun hwant => ?_⟩
                          · clear hwant
                            have e8 : b__.eval (.tmp 8) = .slice (some ⟨g3, 0, none⟩) n n := (hold 8 (by kernel_rfl)).trans rfl
                            exact opw_move rfl e8 (hK _ _ rfl (Below.refl _ _))
                          · rw [want_some rfl rfl rfl (show b__.eval (.tmp 112) = .bool true from (hpre ⟨12, _⟩ (Array.mem_of_getElem? (i := 0) rfl) rfl _ _ rfl rfl))] at hwant; cases hwant
                        case r14 =>
                          refine trule fun b__ w hW hold hpre => ⟨fun hwant K hK => ?_, fun hwant => ?_⟩
                          · clear hwant
                            have e15 : b__.eval (.tmp 15) = .pointer (some ⟨g4, 0, none⟩) := (hold 15 (by kernel_rfl)).trans rfl
                            exact opw_iaddr rfl e15 rfl (by kernel_rfl) (hK _ _ rfl (Below.refl _ _))
                          · rw [want_some rfl rfl rfl (show b__.eval (.tmp 112) = .bool true from (hpre ⟨12, _⟩ (Array.mem_of_getElem? (i := 0) rfl) rfl _ _ rfl rfl))] at hwant; cases hwant
                        case r15 =>
                          refine trule fun b__ w hW hold hpre => ⟨fun hwant K hK => ?_, fun hwant => ?_⟩
                          · clear hwant
                            have e114 : b__.eval (.tmp 114) = .pointer (some ⟨g4, 1, none⟩) := hpre ⟨14, _⟩ (Array.mem_of_getElem? (i := 0) rfl) rfl _ _ rfl rfl
                            exact opw_cell rfl e114 (by kernel_rfl) ((hS.ext (undrew hW)).shut 0 rfl 1 rfl) (hK _ _ rfl (Below.refl _ _))
                          · rw [want_some rfl rfl rfl (show b__.eval (.tmp 112) = .bool true from (hpre ⟨12, _⟩ (Array.mem_of_getElem? (i := 1) rfl) rfl _ _ rfl rfl))] at hwant; cases hwant
                        case r16 =>
                          refine trule fun b__ w hW hold hpre => ⟨fun hwant K hK => ?_, fun hwant => ?_⟩
                          · clear hwant
                            have e113 : b__.eval (.tmp 113) = .slice (some ⟨g3, 0, none⟩) n n := hpre ⟨13, _⟩ (Array.mem_of_getElem? (i := 0) rfl) rfl _ _ rfl rfl
                            have e115 : b__.eval (.tmp 115) = .int .i64 ((xb : Nat) : Int) := hpre ⟨15, _⟩ (Array.mem_of_getElem? (i := 1) rfl) rfl _ _ rfl rfl
                            exact opw_iaddr rfl e113 e115 (run_iaddr_lit (m := xb) Tryd.underlying31 (by kernel_rfl) (by omega) (by omega)) (hK _ _ rfl (Below.refl _ _))
                          · rw [want_some rfl rfl rfl (show b__.eval (.tmp 112) = .bool true from (hpre ⟨12, _⟩ (Array.mem_of_getElem? (i := 2) rfl) rfl _ _ rfl rfl))] at hwant; cases hwant
                        case r17 =>
                          refine trule fun b__ w hW hold hpre => ⟨fun hwant K hK => ?_, fun hwant => ?_⟩
                          · clear hwant
                            have e116 : b__.eval (.tmp 116) = .pointer (some ⟨g3, 0 + (xb) * 1, none⟩) := hpre ⟨16, _⟩ (Array.mem_of_getElem? (i := 0) rfl) rfl _ _ rfl rfl
                            exact opw_cell rfl e116 (by kernel_rfl) (by rw [Nat.zero_add, Nat.mul_one]; exact own_cell ((hS.ext (undrew hW)).own 2 rfl) xb _ HNb.out) (hK _ _ rfl (Below.refl _ _))
                          · rw [want_some rfl rfl rfl (show b__.eval (.tmp 112) = .bool true from (hpre ⟨12, _⟩ (Array.mem_of_getElem? (i := 1) rfl) rfl _ _ rfl rfl))] at hwant; cases hwant
                        case r18 =>
                          refine trule fun b__ w hW hold hpre => ⟨fun hwant K hK => ?_, fun hwant => ?_⟩
                          · clear hwant
                            have e8 : b__.eval (.tmp 8) = .slice (some ⟨g3, 0, none⟩) n n := (hold 8 (by kernel_rfl)).trans rfl
                            exact opw_move rfl e8 (hK _ _ rfl (Below.refl _ _))
                          · rw [want_some rfl rfl rfl (show b__.eval (.tmp 112) = .bool true from (hpre ⟨12, _⟩ (Array.mem_of_getElem? (i := 0) rfl) rfl _ _ rfl rfl))] at hwant; cases hwant
                        case r19 =>
                          refine trule fun b__ w hW hold hpre => ⟨fun hwant K hK => ?_, fun hwant => ?_⟩
                          · clear hwant
                            have e13 : b__.eval (.tmp 13) = .int .i64 ((at_ : Nat) : Int) := (hold 13 (by kernel_rfl)).trans rfl
                            exact opw_move rfl e13 (hK _ _ rfl (Below.refl _ _))
                          · rw [want_some rfl rfl rfl (show b__.eval (.tmp 112) = .bool true from (hpre ⟨12, _⟩ (Array.mem_of_getElem? (i := 0) rfl) rfl _ _ rfl rfl))] at hwant; cases hwant
                        case r20 =>
                          refine trule fun b__ w hW hold hpre => ⟨fun hwant K hK => ?_, fun hwant => ?_⟩
                          · clear hwant
                            have e118 : b__.eval (.tmp 118) = .slice (some ⟨g3, 0, none⟩) n n := hpre ⟨18, _⟩ (Array.mem_of_getElem? (i := 0) rfl) rfl _ _ rfl rfl
                            have e119 : b__.eval (.tmp 119) = .int .i64 ((at_ : Nat) : Int) := hpre ⟨19, _⟩ (Array.mem_of_getElem? (i := 1) rfl) rfl _ _ rfl rfl
                            exact opw_iaddr rfl e118 e119 (run_iaddr_lit (m := at_) Tryd.underlying31 (by kernel_rfl) (by omega) (by omega)) (hK _ _ rfl (Below.refl _ _))
                          · rw [want_some rfl rfl rfl (show b__.eval (.tmp 112) = .bool true from (hpre ⟨12, _⟩ (Array.mem_of_getElem? (i := 2) rfl) rfl _ _ rfl rfl))] at hwant; cases hwant
                        case r21 =>
                          refine trule fun b__ w hW hold hpre => ⟨fun hwant K hK => ?_, fun hwant => ?_⟩
                          · clear hwant
                            have e120 : b__.eval (.tmp 120) = .pointer (some ⟨g3, 0 + (at_) * 1, none⟩) := hpre ⟨20, _⟩ (Array.mem_of_getElem? (i := 0) rfl) rfl _ _ rfl rfl
                            exact opw_cell rfl e120 (by kernel_rfl) (by rw [Nat.zero_add, Nat.mul_one]; exact own_cell ((hS.ext (undrew hW)).own 2 rfl) at_ _ HNa.out) (hK _ _ rfl (Below.refl _ _))
                          · rw [want_some rfl rfl rfl (show b__.eval (.tmp 112) = .bool true from (hpre ⟨12, _⟩ (Array.mem_of_getElem? (i := 1) rfl) rfl _ _ rfl rfl))] at hwant; cases hwant
                        case r22 =>
                          refine trule fun b__ w hW hold hpre => ⟨fun hwant K hK => ?_, fun hwant => ?_⟩
                          · clear hwant
                            have e121 : b__.eval (.tmp 121) = .int .i64 ((e + 2 : Nat) : Int) := hpre ⟨21, _⟩ (Array.mem_of_getElem? (i := 0) rfl) rfl _ _ rfl rfl
                            exact opw_bin (vx := .int .i64 ((e + 2 : Nat) : Int)) (vy := .int .i64 (1 : Int)) (v := .int .i64 (((e + 2 : Nat) : Int) - (1 : Int))) rfl e121 rfl rfl (run_sub64 (by omega) (by omega)) (hK _ _ rfl (Below.refl _ _))
                          · rw [want_some rfl rfl rfl (show b__.eval (.tmp 112) = .bool true from (hpre ⟨12, _⟩ (Array.mem_of_getElem? (i := 1) rfl) rfl _ _ rfl rfl))] at hwant; cases hwant
                        case r23 =>
                          refine trule fun b__ w hW hold hpre => ⟨fun hwant K hK => ?_, fun hwant => ?_⟩
                          · clear hwant
                            have e117 : b__.eval (.tmp 117) = .int .i64 ((ub : Nat) : Int) := hpre ⟨17, _⟩ (Array.mem_of_getElem? (i := 0) rfl) rfl _ _ rfl rfl
                            have e122 : b__.eval (.tmp 122) = .int .i64 (((e + 2 : Nat) : Int) - (1 : Int)) := hpre ⟨22, _⟩ (Array.mem_of_getElem? (i := 1) rfl) rfl _ _ rfl rfl
                            exact opw_bin (vx := .int .i64 ((ub : Nat) : Int)) (vy := .int .i64 (((e + 2 : Nat) : Int) - (1 : Int))) (v := .bool false) rfl e117 e122 rfl (run_eqB D3.out) (hK _ _ rfl (Below.refl _ _))
                          · rw [want_some rfl rfl rfl (show b__.eval (.tmp 112) = .bool true from (hpre ⟨12, _⟩ (Array.mem_of_getElem? (i := 2) rfl) rfl _ _ rfl rfl))] at hwant; cases hwant
                        case r24 =>
                          refine trule fun b__ w hW hold hpre => ⟨fun hwant K hK => ?_, fun hwant => ?_⟩
                          · clear hwant
                            have e112 : b__.eval (.tmp 112) = .bool true := hpre ⟨12, _⟩ (Array.mem_of_getElem? (i := 0) rfl) rfl _ _ rfl rfl
                            have e123 : b__.eval (.tmp 123) = .bool false := hpre ⟨23, _⟩ (Array.mem_of_getElem? (i := 1) rfl) rfl _ _ rfl rfl
                            exact opw_pick rfl e112 (if_pos rfl) (hK _ _ e123 (Below.refl _ _))
                          · rw [want_none rfl] at hwant; cases hwant
                        case post =>
                          intro b__ wz hW hdf hsz hold hT
                          have e100 : b__.eval (.tmp 100) = .pointer (some ⟨g4, 0, none⟩) := hT 0 _ 100 rfl rfl
                          have e101 : b__.eval (.tmp 101) = .int .i64 ((xa : Nat) : Int) := hT 1 _ 101 rfl rfl
                          have e102 : b__.eval (.tmp 102) = .int .i64 ((at_ : Nat) : Int) := hT 2 _ 102 rfl rfl
                          have e103 : b__.eval (.tmp 103) = .bool true := hT 3 _ 103 rfl rfl
                          have e104 : b__.eval (.tmp 104) = .bool true := hT 4 _ 104 rfl rfl
                          have e105 : b__.eval (.tmp 105) = .slice (some ⟨g3, 0, none⟩) n n := hT 5 _ 105 rfl rfl
                          have e106 : b__.eval (.tmp 106) = .pointer (some ⟨g4, 1, none⟩) := hT 6 _ 106 rfl rfl
                          have e107 : b__.eval (.tmp 107) = .int .i64 ((xb : Nat) : Int) := hT 7 _ 107 rfl rfl
                          have e108 : b__.eval (.tmp 108) = .pointer (some ⟨g3, 0 + (xb) * 1, none⟩) := hT 8 _ 108 rfl rfl
                          have e109 : b__.eval (.tmp 109) = .int .i64 ((ub : Nat) : Int) := hT 9 _ 109 rfl rfl
                          have e110 : b__.eval (.tmp 110) = .bool true := hT 10 _ 110 rfl rfl
                          have e111 : b__.eval (.tmp 111) = .bool true := hT 11 _ 111 rfl rfl
                          have e112 : b__.eval (.tmp 112) = .bool true := hT 12 _ 112 rfl rfl
                          have e113 : b__.eval (.tmp 113) = .slice (some ⟨g3, 0, none⟩) n n := hT 13 _ 113 rfl rfl
                          have e114 : b__.eval (.tmp 114) = .pointer (some ⟨g4, 1, none⟩) := hT 14 _ 114 rfl rfl
                          have e115 : b__.eval (.tmp 115) = .int .i64 ((xb : Nat) : Int) := hT 15 _ 115 rfl rfl
                          have e116 : b__.eval (.tmp 116) = .pointer (some ⟨g3, 0 + (xb) * 1, none⟩) := hT 16 _ 116 rfl rfl
                          have e117 : b__.eval (.tmp 117) = .int .i64 ((ub : Nat) : Int) := hT 17 _ 117 rfl rfl
                          have e118 : b__.eval (.tmp 118) = .slice (some ⟨g3, 0, none⟩) n n := hT 18 _ 118 rfl rfl
                          have e119 : b__.eval (.tmp 119) = .int .i64 ((at_ : Nat) : Int) := hT 19 _ 119 rfl rfl
                          have e120 : b__.eval (.tmp 120) = .pointer (some ⟨g3, 0 + (at_) * 1, none⟩) := hT 20 _ 120 rfl rfl
                          have e121 : b__.eval (.tmp 121) = .int .i64 ((e + 2 : Nat) : Int) := hT 21 _ 121 rfl rfl
                          have e122 : b__.eval (.tmp 122) = .int .i64 (((e + 2 : Nat) : Int) - (1 : Int)) := hT 22 _ 122 rfl rfl
                          have e123 : b__.eval (.tmp 123) = .bool false := hT 23 _ 123 rfl rfl
                          have e124 : b__.eval (.tmp 124) = .bool false := hT 24 _ 124 rfl rfl
                          obtain ⟨vs, hvs, hb⟩ := frame_of hdf hsz hold
                          replace e100 : vs 100 = .pointer (some ⟨g4, 0, none⟩) := (hvs 100).symm.trans e100
                          replace e101 : vs 101 = .int .i64 ((xa : Nat) : Int) := (hvs 101).symm.trans e101
                          replace e102 : vs 102 = .int .i64 ((at_ : Nat) : Int) := (hvs 102).symm.trans e102
                          replace e103 : vs 103 = .bool true := (hvs 103).symm.trans e103
                          replace e104 : vs 104 = .bool true := (hvs 104).symm.trans e104
                          replace e105 : vs 105 = .slice (some ⟨g3, 0, none⟩) n n := (hvs 105).symm.trans e105
                          replace e106 : vs 106 = .pointer (some ⟨g4, 1, none⟩) := (hvs 106).symm.trans e106
                          replace e107 : vs 107 = .int .i64 ((xb : Nat) : Int) := (hvs 107).symm.trans e107
                          replace e108 : vs 108 = .pointer (some ⟨g3, 0 + (xb) * 1, none⟩) := (hvs 108).symm.trans e108
                          replace e109 : vs 109 = .int .i64 ((ub : Nat) : Int) := (hvs 109).symm.trans e109
                          replace e110 : vs 110 = .bool true := (hvs 110).symm.trans e110
                          replace e111 : vs 111 = .bool true := (hvs 111).symm.trans e111
                          replace e112 : vs 112 = .bool true := (hvs 112).symm.trans e112
                          replace e113 : vs 113 = .slice (some ⟨g3, 0, none⟩) n n := (hvs 113).symm.trans e113
                          replace e114 : vs 114 = .pointer (some ⟨g4, 1, none⟩) := (hvs 114).symm.trans e114
                          replace e115 : vs 115 = .int .i64 ((xb : Nat) : Int) := (hvs 115).symm.trans e115
                          replace e116 : vs 116 = .pointer (some ⟨g3, 0 + (xb) * 1, none⟩) := (hvs 116).symm.trans e116
                          replace e117 : vs 117 = .int .i64 ((ub : Nat) : Int) := (hvs 117).symm.trans e117
                          replace e118 : vs 118 = .slice (some ⟨g3, 0, none⟩) n n := (hvs 118).symm.trans e118
                          replace e119 : vs 119 = .int .i64 ((at_ : Nat) : Int) := (hvs 119).symm.trans e119
                          replace e120 : vs 120 = .pointer (some ⟨g3, 0 + (at_) * 1, none⟩) := (hvs 120).symm.trans e120
                          replace e121 : vs 121 = .int .i64 ((e + 2 : Nat) : Int) := (hvs 121).symm.trans e121
                          replace e122 : vs 122 = .int .i64 (((e + 2 : Nat) : Int) - (1 : Int)) := (hvs 122).symm.trans e122
                          replace e123 : vs 123 = .bool false := (hvs 123).symm.trans e123
                          replace e124 : vs 124 = .bool false := (hvs 124).symm.trans e124
                          subst hb
                          clear hvs hold hT hdf hsz
                          simp only [setAll, Act.put, List.setIfInBounds_toArray, List.set_cons_zero, List.set_cons_succ, List.getElem_toArray, List.getElem_cons_succ, List.getElem_cons_zero]
                          rw [e124]
                          replace hS := hS.ext hW
                          go_wp2_with fail
                          exact ⟨⟨t + 1, by go_num, rfl, rfl, htl, HN3, hS.sub (List.sublist_cons_self _ _)⟩, by simp [intOf]; omega⟩
                  · have HN3 := Lib.hid (HN2.out fun h => hc1 h.1)
                    have D1 : Hid (decide (((xa : Nat) : Int) = ((at_ : Nat) : Int)) = false) := Lib.hid (decide_eq_false (by omega))
                    clear hc1
                    go_wp2_with (first
                      | ((with_reducible show wpList _ _ _ (⟨_, .binOp _ _ _ _ _, _, _, _, _⟩ :: _) _ _); (first | (refine st_lss rfl _ _ _ _ rfl _ _ _ rfl rfl (fun h_ => ?_) (fun h_ => ?_)) | (refine st_leq rfl _ _ _ _ rfl _ _ _ rfl rfl (fun h_ => ?_) (fun h_ => ?_)) | (refine st_gtr rfl _ _ _ _ rfl _ _ _ rfl rfl (fun h_ => ?_) (fun h_ => ?_)) | (refine st_geq rfl _ _ _ _ rfl _ _ _ rfl rfl (fun h_ => ?_) (fun h_ => ?_)) | (refine st_eql rfl _ _ _ _ rfl _ _ _ rfl rfl (fun h_ => ?_) (fun h_ => ?_)) | (refine st_neq rfl _ _ _ _ rfl _ _ _ rfl rfl (fun h_ => ?_) (fun h_ => ?_))) <;> go_prune)
                      | ((with_reducible show wpList _ _ _ (⟨_, .indexAddr _ _ _, _, _, _, _⟩ :: _) _ _); refine st_iaddr2 hS rfl _ _ _ rfl _ rfl rfl (by assumption) Tryd.underlying25 (by kernel_rfl) (by first | assumption | omega) _ _ (by assumption) (by assumption) ?_; intro b_ j_ hc0_ hc1_)
                      | ((with_reducible show wpList _ _ _ (⟨some 15, _, _, _, _, _⟩ :: _) _ _); refine st_alloc hS rfl _ rfl (by kernel_rfl) ?_; clear hS; intro g4 w_ hS; (try simp only [Act.put, Act.eval, List.set_cons_zero, List.set_cons_succ, List.setIfInBounds_toArray, Array.getD_eq_getD_getElem?, List.getElem?_toArray, List.getElem?_cons_succ, List.getElem?_cons_zero, Option.getD_some, Value.cells] at hS))
                      | ((with_reducible show wpList _ _ _ (⟨_, .store _ _ _, _, _, _, _⟩ :: _) _ _); (first | (refine st_store hS 0 rfl _ _ _ rfl _ _ rfl rfl _ _ rfl (by kernel_rfl) (by kernel_rfl) (by kernel_rfl) ?_) | (refine st_store hS 1 rfl _ _ _ rfl _ _ rfl rfl _ _ rfl (by kernel_rfl) (by kernel_rfl) (by kernel_rfl) ?_) | (refine st_store hS 2 rfl _ _ _ rfl _ _ rfl rfl _ _ rfl (by kernel_rfl) (by kernel_rfl) (by kernel_rfl) ?_) | (refine st_store hS 3 rfl _ _ _ rfl _ _ rfl rfl _ _ rfl (by kernel_rfl) (by kernel_rfl) (by kernel_rfl) ?_) | (refine st_cstore hS 0 rfl _ _ _ rfl _ _ _ rfl rfl rfl (by first | (simp; done) | (simp; omega) | exact of_decide_eq_true (by kernel_rfl)) rfl (by first | rfl | assumption) (by kernel_rfl) ?_) | (refine st_cstore hS 1 rfl _ _ _ rfl _ _ _ rfl rfl rfl (by first | (simp; done) | (simp; omega) | exact of_decide_eq_true (by kernel_rfl)) rfl (by first | rfl | assumption) (by kernel_rfl) ?_) | (refine st_cstore hS 2 rfl _ _ _ rfl _ _ _ rfl rfl rfl (by first | (simp; done) | (simp; omega) | exact of_decide_eq_true (by kernel_rfl)) rfl (by first | rfl | assumption) (by kernel_rfl) ?_) | (refine st_cstore hS 3 rfl _ _ _ rfl _ _ _ rfl rfl rfl (by first | (simp; done) | (simp; omega) | exact of_decide_eq_true (by kernel_rfl)) rfl (by first | rfl | assumption) (by kernel_rfl) ?_)); clear hS; intro w_ hS; (try simp only [Act.put, Act.eval, List.set_cons_zero, List.set_cons_succ, List.setIfInBounds_toArray, Array.getD_eq_getD_getElem?, List.getElem?_toArray, List.getElem?_cons_succ, List.getElem?_cons_zero, Option.getD_some, Value.cells] at hS)))
                    refine wp_region_typed (fun i__ v w => match i__ with
                      | 0 => v = .pointer (some ⟨g4, 0, none⟩)
                      | 1 => v = .int .i64 ((xa : Nat) : Int)
                      | 2 => v = .int .i64 ((at_ : Nat) : Int)
                      | 3 => v = .bool false
                      | 4 => v = .bool false
                      | 5 => True
                      | 6 => True
                      | 7 => True
                      | 8 => True
                      | 9 => True
                      | 10 => True
                      | 11 => v = .bool false
                      | 12 => v = .bool false
                      | 13 => True
                      | 14 => True
                      | 15 => True
                      | 16 => True
                      | 17 => True
                      | 18 => True
                      | 19 => True
                      | 20 => True
                      | 21 => True
                      | 22 => True
                      | 23 => True
                      | 24 => v = .bool false
                      | _ => True) (by kernel_rfl) (by kernel_rfl) ?mono ⟨?r0, ?r1, ?r2, ?r3, ?r4, ?r5, ?r6, ?r7, ?r8, ?r9, ?r10, ?r11, ?r12, ?r13, ?r14, ?r15, ?r16, ?r17, ?r18, ?r19, ?r20, ?r21, ?r22, ?r23, ?r24, trivial⟩ ?post
                    case mono =>
                      intro i v w w' h hb
                      match i, h with
                      | 0, h => exact h
                      | 1, h => exact h
                      | 2, h => exact h
                      | 3, h => exact h
                      | 4, h => exact h
                      | 5, h => exact h
                      | 6, h => exact h
                      | 7, h => exact h
                      | 8, h => exact h
                      | 9, h => exact h
                      | 10, h => exact h
                      | 11, h => exact h
                      | 12, h => exact h
                      | 13, h => exact h
                      | 14, h => exact h
                      | 15, h => exact h
                      | 16, h => exact h
                      | 17, h => exact h
                      | 18, h => exact h
                      | 19, h => exact h
                      | 20, h => exact h
                      | 21, h => exact h
                      | 22, h => exact h
                      | 23, h => exact h
                      | 24, h => exact h
                      | _ + 25, h => trivial
                    case r0 =>
                      refine trule fun b__ w hW hold hpre => ⟨fun hwant K hK => ?_, fun hwant => ?_⟩
                      · clear hwant
                        have e15 : b__.eval (.tmp 15) = .pointer (some ⟨g4, 0, none⟩) := (hold 15 (by kernel_rfl)).trans rfl
                        exact opw_iaddr rfl e15 rfl (by kernel_rfl) (hK _ _ rfl (Below.refl _ _))
                      · rw [want_none rfl] at hwant; cases hwant
                    case r1 =>
                      refine trule fun b__ w hW hold hpre => ⟨fun hwant K hK => ?_, fun hwant => ?_⟩
                      · clear hwant
                        have e100 : b__.eval (.tmp 100) = .pointer (some ⟨g4, 0, none⟩) := hpre ⟨0, _⟩ (Array.mem_of_getElem? (i := 0) rfl) rfl _ _ rfl rfl
                        exact opw_cell rfl e100 (by kernel_rfl) ((hS.ext (undrew hW)).shut 0 rfl 0 rfl) (hK _ _ rfl (Below.refl _ _))
                      · rw [want_none rfl] at hwant; cases hwant
                    case r2 =>
                      refine trule fun b__ w hW hold hpre => ⟨fun hwant K hK => ?_, fun hwant => ?_⟩
                      · clear hwant
                        have e13 : b__.eval (.tmp 13) = .int .i64 ((at_ : Nat) : Int) := (hold 13 (by kernel_rfl)).trans rfl
                        exact opw_move rfl e13 (hK _ _ rfl (Below.refl _ _))
                      · rw [want_none rfl] at hwant; cases hwant
                    case r3 =>
                      refine trule fun b__ w hW hold hpre => ⟨fun hwant K hK => ?_, fun hwant => ?_⟩
                      · clear hwant
                        have e101 : b__.eval (.tmp 101) = .int .i64 ((xa : Nat) : Int) := hpre ⟨1, _⟩ (Array.mem_of_getElem? (i := 0) rfl) rfl _ _ rfl rfl
                        have e102 : b__.eval (.tmp 102) = .int .i64 ((at_ : Nat) : Int) := hpre ⟨2, _⟩ (Array.mem_of_getElem? (i := 1) rfl) rfl _ _ rfl rfl
                        exact opw_bin (vx := .int .i64 ((xa : Nat) : Int)) (vy := .int .i64 ((at_ : Nat) : Int)) (v := .bool false) rfl e101 e102 rfl (run_eqB D1.out) (hK _ _ rfl (Below.refl _ _))
                      · rw [want_none rfl] at hwant; cases hwant
                    case r4 =>
                      refine trule fun b__ w hW hold hpre => ⟨fun hwant K hK => ?_, fun hwant => ?_⟩
                      · clear hwant
                        have e103 : b__.eval (.tmp 103) = .bool false := hpre ⟨3, _⟩ (Array.mem_of_getElem? (i := 0) rfl) rfl _ _ rfl rfl
                        exact opw_move rfl e103 (hK _ _ rfl (Below.refl _ _))
                      · rw [want_none rfl] at hwant; cases hwant
                    case r5 =>
                      refine trule fun b__ w hW hold hpre => ⟨fun hwant K hK => ?_, fun hwant => ?_⟩
                      · rw [want_some rfl rfl rfl (show b__.eval (.tmp 104) = .bool false from hpre ⟨4, _⟩ (Array.mem_of_getElem? (i := 0) rfl) rfl _ _ rfl rfl)] at hwant; cases hwant
                      · exact trivial
                    case r6 =>
                      refine trule fun b__ w hW hold hpre => ⟨fun hwant K hK => ?_, fun hwant => ?_⟩
                      · rw [want_some rfl rfl rfl (show b__.eval (.tmp 104) = .bool false from hpre ⟨4, _⟩ (Array.mem_of_getElem? (i := 0) rfl) rfl _ _ rfl rfl)] at hwant; cases hwant
                      · exact trivial
                    case r7 =>
                      refine trule fun b__ w hW hold hpre => ⟨fun hwant K hK => ?_, fun hwant => ?_⟩
                      · rw [want_some rfl rfl rfl (show b__.eval (.tmp 104) = .bool false from hpre ⟨4, _⟩ (Array.mem_of_getElem? (i := 1) rfl) rfl _ _ rfl rfl)] at hwant; cases hwant
                      · exact trivial
                    case r8 =>
                      refine trule fun b__ w hW hold hpre => ⟨fun hwant K hK => ?_, fun hwant => ?_⟩
                      · rw [want_some rfl rfl rfl (show b__.eval (.tmp 104) = .bool false from hpre ⟨4, _⟩ (Array.mem_of_getElem? (i := 2) rfl) rfl _ _ rfl rfl)] at hwant; cases hwant
                      · exact trivial
                    case r9 =>
                      refine trule fun b__ w hW hold hpre => ⟨fun hwant K hK => ?_, fun hwant => ?_⟩
                      · rw [want_some rfl rfl rfl (show b__.eval (.tmp 104) = .bool false from hpre ⟨4, _⟩ (Array.mem_of_getElem? (i := 1) rfl) rfl _ _ rfl rfl)] at hwant; cases hwant
                      · exact trivial
                    case r10 =>
                      refine trule fun b__ w hW hold hpre => ⟨fun hwant K hK => ?_, fun hwant => ?_⟩
                      · rw [want_some rfl rfl rfl (show b__.eval (.tmp 104) = .bool false from hpre ⟨4, _⟩ (Array.mem_of_getElem? (i := 1) rfl) rfl _ _ rfl rfl)] at hwant; cases hwant
                      · exact trivial
                    case r11 =>
                      refine trule fun b__ w hW hold hpre => ⟨fun hwant K hK => ?_, fun hwant => ?_⟩
                      · clear hwant
                        have e104 : b__.eval (.tmp 104) = .bool false := hpre ⟨4, _⟩ (Array.mem_of_getElem? (i := 0) rfl) rfl _ _ rfl rfl
                        have e110 : (fun (v : Value) (w : World) => True) (b__.eval (.tmp 110)) w := hpre ⟨10, _⟩ (Array.mem_of_getElem? (i := 1) rfl) rfl _ _ rfl rfl
                        exact opw_pick rfl e104 rfl (hK _ _ rfl (Below.refl _ _))
                      · rw [want_none rfl] at hwant; cases hwant
                    case r12 =>
                      refine trule fun b__ w hW hold hpre => ⟨fun hwant K hK => ?_, fun hwant => ?_⟩
                      · clear hwant
                        have e111 : b__.eval (.tmp 111) = .bool false := hpre ⟨11, _⟩ (Array.mem_of_getElem? (i := 0) rfl) rfl _ _ rfl rfl
                        exact opw_move rfl e111 (hK _ _ rfl (Below.refl _ _))
                      · rw [want_none rfl] at hwant; cases hwant
                    case r13 =>
                      refine trule fun b__ w hW hold hpre => ⟨fun hwant K hK => ?_, fun hwant => ?_⟩
                      · rw [want_some rfl rfl rfl (show b__.eval (.tmp 112) = .bool false from hpre ⟨12, _⟩ (Array.mem_of_getElem? (i := 0) rfl) rfl _ _ rfl rfl)] at hwant; cases hwant
                      · exact trivial
                    case r14 =>
                      refine trule fun b__ w hW hold hpre => ⟨fun hwant K hK => ?_, fun hwant => ?_⟩
                      · rw [want_some rfl rfl rfl (show b__.eval (.tmp 112) = .bool false from hpre ⟨12, _⟩ (Array.mem_of_getElem? (i := 0) rfl) rfl _ _ rfl rfl)] at hwant; cases hwant
                      · exact trivial
                    case r15 =>
                      refine trule fun b__ w hW hold hpre => ⟨fun hwant K hK => ?_, fun hwant => ?_⟩
                      · rw [want_some rfl rfl rfl (show b__.eval (.tmp 112) = .bool false from hpre ⟨12, _⟩ (Array.mem_of_getElem? (i := 1) rfl) rfl _ _ rfl rfl)] at hwant; cases hwant
                      · exact trivial
                    case r16 =>
                      refine trule fun b__ w hW hold hpre => ⟨fun hwant K hK => ?_, fun hwant => ?_⟩
                      · rw [want_some rfl rfl rfl (show b__.eval (.tmp 112) = .bool false from hpre ⟨12, _⟩ (Array.mem_of_getElem? (i := 2) rfl) rfl _ _ rfl rfl)] at hwant; cases hwant
                      · exact trivial
                    case r17 =>
                      refine trule fun b__ w hW hold hpre => ⟨fun hwant K hK => ?_, fun hwant => ?_⟩
                      · rw [want_some rfl rfl rfl (show b__.eval (.tmp 112) = .bool false from hpre ⟨12, _⟩ (Array.mem_of_getElem? (i := 1) rfl) rfl _ _ rfl rfl)] at hwant; cases hwant
                      · exact trivial
                    case r18 =>
                      refine trule fun b__ w hW hold hpre => ⟨fun hwant K hK => ?_, fun hwant => ?_⟩
                      · rw [want_some rfl rfl rfl (show b__.eval (.tmp 112) = .bool false from hpre ⟨12, _⟩ (Array.mem_of_getElem? (i := 0) rfl) rfl _ _ rfl rfl)] at hwant; cases hwant
                      · exact trivial
                    case r19 =>
                      refine trule fun b__ w hW hold hpre => ⟨fun hwant K hK => ?_, fun hwant => ?_⟩
                      · rw [want_some rfl rfl rfl (show b__.eval (.tmp 112) = .bool false from hpre ⟨12, _⟩ (Array.mem_of_getElem? (i := 0) rfl) rfl _ _ rfl rfl)] at hwant; cases hwant
                      · exact trivial
                    case r20 =>
                      refine trule fun b__ w hW hold hpre => ⟨fun hwant K hK => ?_, fun hwant => ?_⟩
                      · rw [want_some rfl rfl rfl (show b__.eval (.tmp 112) = .bool false from hpre ⟨12, _⟩ (Array.mem_of_getElem? (i := 2) rfl) rfl _ _ rfl rfl)] at hwant; cases hwant
                      · exact trivial
                    case r21 =>
                      refine trule fun b__ w hW hold hpre => ⟨fun hwant K hK => ?_, fun hwant => ?_⟩
                      · rw [want_some rfl rfl rfl (show b__.eval (.tmp 112) = .bool false from hpre ⟨12, _⟩ (Array.mem_of_getElem? (i := 1) rfl) rfl _ _ rfl rfl)] at hwant; cases hwant
                      · exact trivial
                    case r22 =>
                      refine trule fun b__ w hW hold hpre => ⟨fun hwant K hK => ?_, fun hwant => ?_⟩
                      · rw [want_some rfl rfl rfl (show b__.eval (.tmp 112) = .bool false from hpre ⟨12, _⟩ (Array.mem_of_getElem? (i := 1) rfl) rfl _ _ rfl rfl)] at hwant; cases hwant
                      · exact trivial
                    case r23 =>
                      refine trule fun b__ w hW hold hpre => ⟨fun hwant K hK => ?_, fun hwant => ?_⟩
                      · rw [want_some rfl rfl rfl (show b__.eval (.tmp 112) = .bool false from hpre ⟨12, _⟩ (Array.mem_of_getElem? (i := 2) rfl) rfl _ _ rfl rfl)] at hwant; cases hwant
                      · exact trivial
                    case r24 =>
                      refine trule fun b__ w hW hold hpre => ⟨fun hwant K hK => ?_, fun hwant => ?_⟩
                      · clear hwant
                        have e112 : b__.eval (.tmp 112) = .bool false := hpre ⟨12, _⟩ (Array.mem_of_getElem? (i := 0) rfl) rfl _ _ rfl rfl
                        have e123 : (fun (v : Value) (w : World) => True) (b__.eval (.tmp 123)) w := hpre ⟨23, _⟩ (Array.mem_of_getElem? (i := 1) rfl) rfl _ _ rfl rfl
                        exact opw_pick rfl e112 rfl (hK _ _ rfl (Below.refl _ _))
                      · rw [want_none rfl] at hwant; cases hwant
                    case post =>
                      intro b__ wz hW hdf hsz hold hT
                      have e100 : b__.eval (.tmp 100) = .pointer (some ⟨g4, 0, none⟩) := hT 0 _ 100 rfl rfl
                      have e101 : b__.eval (.tmp 101) = .int .i64 ((xa : Nat) : Int) := hT 1 _ 101 rfl rfl
                      have e102 : b__.eval (.tmp 102) = .int .i64 ((at_ : Nat) : Int) := hT 2 _ 102 rfl rfl
                      have e103 : b__.eval (.tmp 103) = .bool false := hT 3 _ 103 rfl rfl
                      have e104 : b__.eval (.tmp 104) = .bool false := hT 4 _ 104 rfl rfl
                      have e111 : b__.eval (.tmp 111) = .bool false := hT 11 _ 111 rfl rfl
                      have e112 : b__.eval (.tmp 112) = .bool false := hT 12 _ 112 rfl rfl
                      have e124 : b__.eval (.tmp 124) = .bool false := hT 24 _ 124 rfl rfl
                      obtain ⟨vs, hvs, hb⟩ := frame_of hdf hsz hold
                      replace e100 : vs 100 = .pointer (some ⟨g4, 0, none⟩) := (hvs 100).symm.trans e100
                      replace e101 : vs 101 = .int .i64 ((xa : Nat) : Int) := (hvs 101).symm.trans e101
                      replace e102 : vs 102 = .int .i64 ((at_ : Nat) : Int) := (hvs 102).symm.trans e102
                      replace e103 : vs 103 = .bool false := (hvs 103).symm.trans e103
                      replace e104 : vs 104 = .bool false := (hvs 104).symm.trans e104
                      replace e111 : vs 111 = .bool false := (hvs 111).symm.trans e111
                      replace e112 : vs 112 = .bool false := (hvs 112).symm.trans e112
                      replace e124 : vs 124 = .bool false := (hvs 124).symm.trans e124
                      subst hb
                      clear hvs hold hT hdf hsz
                      simp only [setAll, Act.put, List.setIfInBounds_toArray, List.set_cons_zero, List.set_cons_succ, List.getElem_toArray, List.getElem_cons_succ, List.getElem_cons_zero]
                      rw [e124]
                      replace hS := hS.ext hW
                      go_wp2_with fail
                      exact ⟨⟨t + 1, by go_num, rfl, rfl, htl, HN3, hS.sub (List.sublist_cons_self _ _)⟩, by simp [intOf]; omega⟩
                · exfalso
                  obtain ⟨y, h1, h2⟩ := isDist_succ HD.out
                  obtain ⟨s, hs, h3⟩ := List.getElem_of_mem h1
                  exact HN.out s (by omega) (at_, y) (by rw [List.getElem?_eq_getElem hs, h3]) ⟨rfl, h2⟩
    · have HDB := Lib.hid (decide_eq_false hjn)
      have HNO : Hid (¬ ∃ i' j' k : Nat, (i : Int) = (i' : Int) ∧ b = (j' : Int) ∧ i' < n ∧ j' < n ∧ Wk L j' k i') := Lib.hid fun ⟨i', j', k, h1, h2, h3, h4, h5⟩ => hjn ⟨by omega, by omega⟩
      clear hin hjn
      go_enter Tryd.func27, Tryd.ntmps27
      go_wp2_with (first
        | ((with_reducible show wpList _ _ _ (⟨_, .binOp _ _ _ _ _, _, _, _, _⟩ :: _) _ _); (first | (refine st_lss rfl _ _ _ _ rfl _ _ _ rfl rfl (fun h_ => ?_) (fun h_ => ?_)) | (refine st_leq rfl _ _ _ _ rfl _ _ _ rfl rfl (fun h_ => ?_) (fun h_ => ?_)) | (refine st_gtr rfl _ _ _ _ rfl _ _ _ rfl rfl (fun h_ => ?_) (fun h_ => ?_)) | (refine st_geq rfl _ _ _ _ rfl _ _ _ rfl rfl (fun h_ => ?_) (fun h_ => ?_)) | (refine st_eql rfl _ _ _ _ rfl _ _ _ rfl rfl (fun h_ => ?_) (fun h_ => ?_)) | (refine st_neq rfl _ _ _ _ rfl _ _ _ rfl rfl (fun h_ => ?_) (fun h_ => ?_))) <;> go_prune)
        | (go_at_call 64; refine (oin_any (ko _ _ hS.ro).ord _).mono ?_; (first | rw [HDA.out] | rw [HDB.out]); rintro r_ w_ ⟨_, rfl, rfl, hb_⟩; replace hS := hS.ext hb_; clear hb_))
      go_ret2
      exact ⟨_, false, [], rfl, .inl ⟨rfl, rfl, HNO.out⟩, by simp, (hS.nil 3 1).mono (Stable.pure True) fun _ _ _ => trivial⟩
  · have HDA := Lib.hid (decide_eq_false hin)
    have HDB := HDA
    have HNO : Hid (¬ ∃ i' j' k : Nat, a = (i' : Int) ∧ b = (j' : Int) ∧ i' < n ∧ j' < n ∧ Wk L j' k i') := Lib.hid fun ⟨i', j', k, h1, h2, h3, h4, h5⟩ => hin ⟨by omega, by omega⟩
    clear hin
    go_enter Tryd.func27, Tryd.ntmps27
    go_wp2_with (first
      | ((with_reducible show wpList _ _ _ (⟨_, .binOp _ _ _ _ _, _, _, _, _⟩ :: _) _ _); (first | (refine st_lss rfl _ _ _ _ rfl _ _ _ rfl rfl (fun h_ => ?_) (fun h_ => ?_)) | (refine st_leq rfl _ _ _ _ rfl _ _ _ rfl rfl (fun h_ => ?_) (fun h_ => ?_)) | (refine st_gtr rfl _ _ _ _ rfl _ _ _ rfl rfl (fun h_ => ?_) (fun h_ => ?_)) | (refine st_geq rfl _ _ _ _ rfl _ _ _ rfl rfl (fun h_ => ?_) (fun h_ => ?_)) | (refine st_eql rfl _ _ _ _ rfl _ _ _ rfl rfl (fun h_ => ?_) (fun h_ => ?_)) | (refine st_neq rfl _ _ _ _ rfl _ _ _ rfl rfl (fun h_ => ?_) (fun h_ => ?_))) <;> go_prune)
      | (go_at_call 64; refine (oin_any (ko _ _ hS.ro).ord _).mono ?_; (first | rw [HDA.out] | rw [HDB.out]); rintro r_ w_ ⟨_, rfl, rfl, hb_⟩; replace hS := hS.ext hb_; clear hb_))
    go_ret2
    exact ⟨_, false, [], rfl, .inl ⟨rfl, rfl, HNO.out⟩, by simp, (hS.nil 3 1).mono (Stable.pure True) fun _ _ _ => trivial⟩
end Go.Proofs.YtmlkgaiphpimiaaDoor
namespace Go.Proofs.YtmlkgaiphpimiaaDoor
open Go.RowKit
attribute [local go_sem ↓] Go.wp_at_zero Go.wp_at_succ
set_option maxRecDepth 20000
set_option exponentiation.threshold 5000

structure WG where
  a : Option Value
  b : Option Value
  c : Option Value
  d : Option Value
  e : Bool
def ownP (L : List (Nat × Nat)) : Option Value → List Fact
  | some v => [.own v 50 2 L.length (pcells L)]
  | none => []
def WG.F (L : List (Nat × Nat)) (x : Nat × Nat) (g : WG) : List Fact := match g.c with
  | some v => [.own v 50 2 (L.length + 1) (pcells (L ++ [x]))]
  | none => ownP L g.a ++ ownP [x] g.b
def NewP (w0 : World) (F : List Fact) (K : (Nat → Prop) → World → Prop) (n : Nat) (M : List (Nat × Nat)) (r : Value) (w : World) : Prop :=
  (¬ Acyc M ∧ r = .tuple #[.pointer none, .int .i64 16] ∧ St w0 w F K) ∨
  ∃ (p : Value) (L : List (Nat × Nat)), r = .tuple #[p, .int .i64 0] ∧ Asc L ∧ (∀ x, x ∈ L ↔ x ∈ M) ∧ Acyc L ∧ St w0 w F fun D w => K D w ∧ IsOrd w D p n L
theorem NewP.shape {w0 w : World} {F : List Fact} {K : (Nat → Prop) → World → Prop} {n : Nat} {M : List (Nat × Nat)} {r : Value} (h : NewP w0 F K n M r w) : ∃ (p : Value) (e : Int), r = .tuple #[p, .int .i64 e] := by
  rcases h with ⟨_, rfl, _⟩ | ⟨p, L, rfl, _⟩ <;> exact ⟨_, _, rfl⟩
theorem NewP.mono {w0 w : World} {F : List Fact} {K K' : (Nat → Prop) → World → Prop} {n : Nat} {M : List (Nat × Nat)} {r : Value} (h : NewP w0 F K n M r w) (hs : Stable K') (hk : ∀ D w, K D w → K' D w) : NewP w0 F K' n M r w := by
  rcases h with ⟨h1, h2, h3⟩ | ⟨p, L, h1, h2, h3, h4, h5⟩
  · exact .inl ⟨h1, h2, h3.mono hs hk⟩
  · exact .inr ⟨p, L, h1, h2, h3, h4, h5.mono (hs.and stable_ord) fun D w h => ⟨hk D w h.1, h.2⟩⟩
theorem onew_own {w0 w : World} {F : List Fact} {K : (Nat → Prop) → World → Prop} (n : Nat) (L0 : List (Nat × Nat)) (pv : Value) (hn : n ≤ 256) (hL : Inr n L0) (hl : L0.length ≤ 1000000) (hS : St w0 w (.own pv 50 2 L0.length (pcells L0) :: F) K)
    (kt : ∀ D w, K D w → DTab w ∧ D 0) :
    Calls Tryd.prog 20 #[.int .i64 (n : Nat), pv] w fun e w' => ∃ v, e = .returned v ∧ NewP w0 F K n L0 v w' := by
  have KS := hS.stable
  refine (onew_any n L0 pv hn hL hl (hS.freeze 0 (by decide) rfl) (fun D w h => h.2) fun D w h => kt D w h.1).mono ?_
  rintro e w' (⟨h1, rfl, h2⟩ | ⟨p, L, rfl, h1, h2, h3, h4⟩)
  · exact ⟨_, rfl, .inl ⟨h1, rfl, h2.mono KS fun _ _ h => h.1⟩⟩
  · exact ⟨_, rfl, .inr ⟨p, L, rfl, h1, h2, h3, h4.mono (KS.and stable_ord) fun _ _ h => ⟨h.1.1, h.2⟩⟩⟩
section
variable {w0 : World} {F : List Fact} {K : (Nat → Prop) → World → Prop} {n : Nat} {L : List (Nat × Nat)} {x : Nat × Nat} {p p' : World × WG}
def WJ (w0 : World) (F : List Fact) (K : (Nat → Prop) → World → Prop) (n : Nat) (L : List (Nat × Nat)) (x : Nat × Nat) (p : World × WG) : Prop := match p.2.d with
  | none => St w0 p.1 (p.2.F L x ++ F) K
  | some r => NewP w0 F K n (L ++ [x]) r p.1
def WR (w0 : World) (F : List Fact) (K : (Nat → Prop) → World → Prop) (n : Nat) (L : List (Nat × Nat)) (x : Nat × Nat) (p p' : World × WG) : Prop :=
  (WJ w0 F K n L x p → WJ w0 F K n L x p') ∧ (∀ v, p.2.a = some v → p'.2.a = some v) ∧ (∀ v, p.2.b = some v → p'.2.b = some v) ∧ (∀ v, p.2.c = some v → p'.2.c = some v) ∧ (∀ v, p.2.d = some v → p'.2.d = some v) ∧ (p.2.e = true → p'.2.e = true)
theorem WR.refl (p : World × WG) : WR w0 F K n L x p p := ⟨id, fun _ h => h, fun _ h => h, fun _ h => h, fun _ h => h, id⟩
theorem WR.trans (a b c : World × WG) (h : WR w0 F K n L x a b) (k : WR w0 F K n L x b c) : WR w0 F K n L x a c :=
  ⟨fun y => k.1 (h.1 y), fun g y => k.2.1 g (h.2.1 g y), fun g y => k.2.2.1 g (h.2.2.1 g y), fun g y => k.2.2.2.1 g (h.2.2.2.1 g y), fun g y => k.2.2.2.2.1 g (h.2.2.2.2.1 g y), fun y => k.2.2.2.2.2 (h.2.2.2.2.2 y)⟩
theorem WJ.st (h : WJ w0 F K n L x p) (hd : p.2.d = none) : St w0 p.1 (p.2.F L x ++ F) K := by unfold WJ at h; rw [hd] at h; exact h
theorem WJ.mk {w : World} {g : WG} (hd : g.d = none) (h : St w0 w (g.F L x ++ F) K) : WJ w0 F K n L x (w, g) := by unfold WJ; dsimp only; rw [hd]; exact h
theorem WJ.mkA {w' : World} {v : Value} (h : WJ w0 F K n L x p) (hn : p.2.a = none ∧ p.2.c = none ∧ p.2.d = none) (hs : St p.1 w' [.own v 50 2 L.length (pcells L)] fun _ _ => True) : WJ w0 F K n L x (w', { p.2 with a := some v }) := by
  obtain ⟨w, a, b, c, d, e⟩ := p
  obtain ⟨rfl, rfl, rfl⟩ := hn
  exact WJ.mk rfl (St.new (h.st rfl) hs.below (.own v 50 2 L.length (pcells L)) (hs.own 0 rfl))
theorem WJ.mkB {w' : World} (h : WJ w0 F K n L x p) (hn : p.2.b = none ∧ p.2.c = none ∧ p.2.d = none) (hb : Below p.1.heap.size p.1 w') (hx : Box w' p.1.heap.size 50 #[.int .i64 (x.1 : Nat), .int .i64 (x.2 : Nat)]) : WJ w0 F K n L x (w', { p.2 with b := some (.slice (some ⟨p.1.heap.size, 0, none⟩) 1 1) }) := by
  obtain ⟨w, a, b, c, d, e⟩ := p
  obtain ⟨rfl, rfl, rfl⟩ := hn
  have h1 := St.new (h.st rfl) hb (.own (.slice (some ⟨w.heap.size, 0, none⟩) 1 1) 50 2 [x].length (pcells [x])) ⟨rfl, .inr ⟨w.heap.size, 1, _, rfl, Nat.le_refl _, hx, Nat.le_refl _, by simp [maxLen], rfl, rfl⟩⟩
  refine WJ.mk rfl ?_
  cases a with
  | none => exact h1
  | some v => exact h1.swap
theorem WJ.mkC {w' : World} {u v l : Value} (h : WJ w0 F K n L x p) (hn : p.2.c = none ∧ p.2.d = none) (ha : p.2.a = some v) (hb : p.2.b = some l) (h1 : w'.ownsRow w0.heap.size 50 2 u (L.length + 1) (pcells L ++ pcells [x])) (h2 : p.1.grownBy w' v.ownBlock) (h3 : ∀ k, u.ownBlock = some k → v.ownBlock = some k ∨ p.1.heap.size ≤ k) : WJ w0 F K n L x (w', { p.2 with c := some u }) := by
  obtain ⟨w, a, b, c, d, e⟩ := p
  obtain ⟨rfl, rfl⟩ := hn
  dsimp only at ha hb
  subst ha hb
  refine WJ.mk rfl ?_
  rw [← pcells_app] at h1
  exact ((h.st rfl).upd 0 rfl (.own u 50 2 (L.length + 1) (pcells (L ++ [x]))) h2 h1 h3).sub (.cons_cons _ (.cons _ (List.Sublist.refl _)))
theorem WJ.own (h : WJ w0 F K n L x p) (hn : p.2.c = none ∧ p.2.d = none) {v l : Value} (ha : p.2.a = some v) (hb : p.2.b = some l) : p.1.ownsRow w0.heap.size 50 2 v L.length (pcells L) ∧ p.1.ownsRow w0.heap.size 50 2 l 1 (pcells [x]) ∧ w0.heap.size ≤ p.1.heap.size := by
  obtain ⟨w, a, b, c, d, e⟩ := p
  obtain ⟨rfl, rfl⟩ := hn
  dsimp only at ha hb
  subst ha hb
  exact ⟨(h.st rfl).own 0 rfl, (h.st rfl).own 1 rfl, (h.st rfl).size⟩
theorem WJ.last (h : WJ w0 F K n L x p) (hd : p.2.d = none) {v : Value} (hc : p.2.c = some v) : St w0 p.1 (.own v 50 2 (L ++ [x]).length (pcells (L ++ [x])) :: F) K := by
  obtain ⟨w, a, b, c, d, e⟩ := p
  dsimp only at hd hc
  subst hd hc
  have := h.st rfl
  rw [List.length_append]
  exact this
end
theorem owith_any {w0 w : World} {F : List Fact} {K : (Nat → Prop) → World → Prop} (p : Value) (n : Nat) (L : List (Nat × Nat)) (a b : Nat) (hn : n ≤ 256) (hL : Inr n L) (hl : L.length ≤ 900000) (ha : a < n) (hb : b < n) (hS : St w0 w F K)
    (ko : ∀ D w, K D w → IsOrd w D p n L) (kt : ∀ D w, K D w → DTab w ∧ D 0) :
    Calls Tryd.prog 73 #[p, .int .i64 (a : Nat), .int .i64 (b : Nat)] w fun e w' =>
      ((a, b) ∈ L ∧ e = .returned (.tuple #[.pointer none, .int .i64 5]) ∧ St w0 w' F K) ∨ (a, b) ∉ L ∧ ∃ v, e = .returned v ∧ NewP w0 F K n (L ++ [(a, b)]) v w' := by
  have KS := hS.stable
  obtain ⟨q, gp, av, bv, sv, xa, xb, rfl, hX⟩ := ko _ _ hS.ro
  have hS := hS.add stable_ordX hX fun b h _ => h
  clear hX
  have HIN := Lib.hid (fun (c : Int) (w : World) (hc : 0 ≤ c ∧ c < (n : Int)) (h : OrdX q gp av bv sv xa xb n L (Free F) w) => show Calls Tryd.prog 64 #[.pointer (some ⟨q, 0, none⟩), .int .i64 c] w (Ret (fun x _ => x = .bool true) w) from by rw [← decide_eq_true hc]; exact oin_any h.ord _)
  have HCN := Lib.hid (fun (w : World) (h : OrdX q gp av bv sv xa xb n L (Free F) w) => show Calls Tryd.prog 92 #[.slice (some ⟨gp, 0, none⟩) L.length L.length, .agg #[.int .i64 (a : Nat), .int .i64 (b : Nat)]] w (Ret (fun r _ => r = .bool (decide ((a, b) ∈ L))) w) from pcontains_any (by omega) h.2.1 (a, b))
  have HL := Lib.hid hL
  clear hL
  go_enter Tryd.func73, Tryd.ntmps73
  go_wp2_with (first
    | ((with_reducible show wpList _ _ _ (⟨_, .binOp _ _ _ _ _, _, _, _, _⟩ :: _) _ _); (first | (refine st_lss rfl _ _ _ _ rfl _ _ _ rfl rfl (fun h_ => ?_) (fun h_ => ?_)) | (refine st_leq rfl _ _ _ _ rfl _ _ _ rfl rfl (fun h_ => ?_) (fun h_ => ?_)) | (refine st_gtr rfl _ _ _ _ rfl _ _ _ rfl rfl (fun h_ => ?_) (fun h_ => ?_)) | (refine st_geq rfl _ _ _ _ rfl _ _ _ rfl rfl (fun h_ => ?_) (fun h_ => ?_)) | (refine st_eql rfl _ _ _ _ rfl _ _ _ rfl rfl (fun h_ => ?_) (fun h_ => ?_)) | (refine st_neq rfl _ _ _ _ rfl _ _ _ rfl rfl (fun h_ => ?_) (fun h_ => ?_))) <;> go_prune)
    | (go_at_call 64; refine (HIN.out _ _ (by omega) hS.ro.2).mono ?_; rintro r_ w_ ⟨_, rfl, rfl, hb_⟩; replace hS := hS.ext hb_; clear hb_)
    | ((with_reducible show wpList _ _ _ (⟨some 23, _, _, _, _, _⟩ :: _) _ _); refine st_kcell hS rfl _ _ rfl _ rfl _ (fun D w h => h.2.1.cell 1 rfl) (by kernel_rfl) ?_)
    | (go_at_call 92; refine (HCN.out _ hS.ro.2).mono ?_; rintro r_ w_ ⟨_, rfl, rfl, hb_⟩; replace hS := hS.ext hb_; clear hb_; by_cases hx : (a, b) ∈ L <;> (first | rw [decide_eq_true hx] | rw [decide_eq_false hx])))
  · go_ret2
    exact .inl ⟨hx, rfl, hS.mono KS fun _ _ h => h.1⟩
  · obtain ⟨KX, k1, k2, hS⟩ : ∃ KX : (Nat → Prop) → World → Prop, (∀ D w, KX D w → K D w) ∧ (∀ D w, KX D w → OrdX q gp av bv sv xa xb n L D w) ∧ St w0 w_ F KX := ⟨_, fun _ _ h => h.1, fun _ _ h => h.2, hS⟩
    have hJ0 : WJ w0 F KX n L (a, b) (w_.drew, ⟨none, none, none, none, false⟩) := WJ.mk rfl hS.drew
    have hRr := @WR.refl w0 F KX n L (a, b)
    have hRt := @WR.trans w0 F KX n L (a, b)
    have hLx : Hid (Inr n (L ++ [(a, b)])) := Lib.hid fun y hy => by
      rcases List.mem_append.1 hy with h | h
      · exact HL.out y h
      · rw [List.mem_singleton] at h; subst h; exact ⟨ha, hb⟩
    replace ha := Lib.hid ha
    replace hb := Lib.hid hb
    clear HIN HCN
    refine wp_region_ghost (fun i__ v w => match i__ with
      | 0 => v = .pointer (some ⟨q, 0, none⟩)
      | 1 => v = .pointer (some ⟨q, 0, none⟩)
      | 2 => v = .pointer (some ⟨q, 0, none⟩)
      | 3 => w.2.e = true ∧ v = .int .i64 ((n : Nat) : Int)
      | 4 => v = .pointer (some ⟨q, 0, none⟩)
      | 5 => w.2.a = some v
      | 6 => v = .int .i64 ((a : Nat) : Int)
      | 7 => v = .int .i64 ((b : Nat) : Int)
      | 8 => v = .agg #[.int .i64 ((a : Nat) : Int), .int .i64 ((b : Nat) : Int)]
      | 9 => w.2.b = some v
      | 10 => w.2.c = some v
      | 11 => w.2.d = some v ∧ ∃ (p : Value) (e : Int), v = .tuple #[p, .int .i64 e]
      | 12 => ∃ (p : Value) (e : Int), w.2.d = some (.tuple #[p, .int .i64 e]) ∧ v = p
      | 13 => ∃ (p : Value) (e : Int), w.2.d = some (.tuple #[p, .int .i64 e]) ∧ v = .int .i64 e
      | 14 => ∃ (p : Value) (e : Int), w.2.d = some (.tuple #[p, .int .i64 e]) ∧ v = p
      | 15 => ∃ (p : Value) (e : Int), w.2.d = some (.tuple #[p, .int .i64 e]) ∧ v = .int .i64 e
      | _ => True) (WR w0 F KX n L (a, b)) (fun i p => match i with | 3 => p.2.e = false ∧ p.2.d = none | 5 => p.2.a = none ∧ p.2.c = none ∧ p.2.d = none | 9 => p.2.b = none ∧ p.2.c = none ∧ p.2.d = none | 10 => p.2.c = none ∧ p.2.d = none | 11 => p.2.d = none | _ => True) (⟨none, none, none, none, false⟩) (by kernel_rfl) (by kernel_rfl) hRr hRt ?mono ?hN ⟨?r0, ?r1, ?r2, ?r3, ?r4, ?r5, ?r6, ?r7, ?r8, ?r9, ?r10, ?r11, ?r12, ?r13, ?r14, ?r15, trivial⟩ ?post
    case hN => first | assumption | (intro i; (try dsimp only); split <;> first | trivial | assumption | (left; assumption))
    case mono =>
      intro i v w w' h hb
      match i, h with
      | 0, h => exact h
      | 1, h => exact h
      | 2, h => exact h
      | 3, h => exact ⟨hb.2.2.2.2.2 h.1, h.2⟩
      | 4, h => exact h
      | 5, h => exact hb.2.1 _ h
      | 6, h => exact h
      | 7, h => exact h
      | 8, h => exact h
      | 9, h => exact hb.2.2.1 _ h
      | 10, h => exact hb.2.2.2.1 _ h
      | 11, h => exact ⟨hb.2.2.2.2.1 _ h.1, h.2⟩
      | 12, h => exact by obtain ⟨p, e, h1, h2⟩ := h; exact ⟨p, e, hb.2.2.2.2.1 _ h1, h2⟩
      | 13, h => exact by obtain ⟨p, e, h1, h2⟩ := h; exact ⟨p, e, hb.2.2.2.2.1 _ h1, h2⟩
      | 14, h => exact by obtain ⟨p, e, h1, h2⟩ := h; exact ⟨p, e, hb.2.2.2.2.1 _ h1, h2⟩
      | 15, h => exact by obtain ⟨p, e, h1, h2⟩ := h; exact ⟨p, e, hb.2.2.2.2.1 _ h1, h2⟩
      | _ + 16, h => trivial
    case r0 =>
      refine truleGh fun b__ w hW hN hold hpre => ⟨fun hwant K hK => ?_, fun hwant => ?_⟩
      · clear hwant
        have e0 : b__.eval (.tmp 0) = .pointer (some ⟨q, 0, none⟩) := (hold 0 (by kernel_rfl)).trans rfl
        exact opw_move rfl e0 (hK _ _ rfl ⟨hRr _, fun _ _ h => h⟩)
      · rw [want_none rfl] at hwant; cases hwant
    case r1 =>
      refine truleGh fun b__ w hW hN hold hpre => ⟨fun hwant K hK => ?_, fun hwant => ?_⟩
      · clear hwant
        have e28 : b__.eval (.tmp 28) = .pointer (some ⟨q, 0, none⟩) := hpre ⟨0, _⟩ (Array.mem_of_getElem? (i := 0) rfl) rfl _ _ rfl rfl
        exact opw_nil rfl e28 (hK _ _ rfl ⟨hRr _, fun _ _ h => h⟩)
      · rw [want_none rfl] at hwant; cases hwant
    case r2 =>
      refine truleGh fun b__ w hW hN hold hpre => ⟨fun hwant K hK => ?_, fun hwant => ?_⟩
      · clear hwant
        have e29 : b__.eval (.tmp 29) = .pointer (some ⟨q, 0, none⟩) := hpre ⟨1, _⟩ (Array.mem_of_getElem? (i := 0) rfl) rfl _ _ rfl rfl
        exact opw_faddr rfl e29 (by kernel_rfl) (hK _ _ rfl ⟨hRr _, fun _ _ h => h⟩)
      · rw [want_none rfl] at hwant; cases hwant
    case r3 =>
      refine truleGh fun b__ w hW hN hold hpre => ⟨fun hwant K hK => ?_, fun hwant => ?_⟩
      · clear hwant
        have e30 : b__.eval (.tmp 30) = .pointer (some ⟨q, 0, none⟩) := hpre ⟨2, _⟩ (Array.mem_of_getElem? (i := 0) rfl) rfl _ _ rfl rfl
        exact opw_cell rfl e30 (by kernel_rfl) ((k2 _ _ ((hW.1 hJ0).st hN.2).ro).1.cell 0 rfl) (hK (.int .i64 (n : Nat)) (w.1, { w.2 with e := true }) ⟨rfl, rfl⟩ ⟨⟨fun hj => hj, (fun _ h => h), (fun _ h => h), (fun _ h => h), (fun _ h => h), (fun _ => rfl)⟩, fun j hj hn => by split <;> first | exact absurd rfl hj | exact hn | trivial⟩)
      · rw [want_none rfl] at hwant; cases hwant
    case r4 =>
      refine truleGh fun b__ w hW hN hold hpre => ⟨fun hwant K hK => ?_, fun hwant => ?_⟩
      · clear hwant
        have e0 : b__.eval (.tmp 0) = .pointer (some ⟨q, 0, none⟩) := (hold 0 (by kernel_rfl)).trans rfl
        exact opw_move rfl e0 (hK _ _ rfl ⟨hRr _, fun _ _ h => h⟩)
      · rw [want_none rfl] at hwant; cases hwant
    case r5 =>
      refine truleGh fun b__ w hW hN hold hpre => ⟨fun hwant K hK => ?_, fun hwant => ?_⟩
      · clear hwant
        have e32 : b__.eval (.tmp 32) = .pointer (some ⟨q, 0, none⟩) := hpre ⟨4, _⟩ (Array.mem_of_getElem? (i := 0) rfl) rfl _ _ rfl rfl
        exact opw_callw rfl (by kernel_rfl) (by simp only [List.map_cons, List.map_nil, e32]) (opairs_any (k2 _ _ ((hW.1 hJ0).st hN.2.2).ro).ord (by omega)) fun e w' ⟨v, he, hs⟩ => ⟨v, he, hK v (w', { w.2 with a := some v }) rfl ⟨⟨fun hj => hj.mkA hN hs, (fun g h => by rw [hN.1] at h; cases h), (fun _ h => h), (fun _ h => h), (fun _ h => h), id⟩, fun j hj hn => by split <;> first | exact absurd rfl hj | exact hn | trivial⟩⟩
      · rw [want_none rfl] at hwant; cases hwant
    case r6 =>
      refine truleGh fun b__ w hW hN hold hpre => ⟨fun hwant K hK => ?_, fun hwant => ?_⟩
      · clear hwant
        have e1 : b__.eval (.tmp 1) = .int .i64 ((a : Nat) : Int) := (hold 1 (by kernel_rfl)).trans rfl
        exact opw_move rfl e1 (hK _ _ rfl ⟨hRr _, fun _ _ h => h⟩)
      · rw [want_none rfl] at hwant; cases hwant
    case r7 =>
      refine truleGh fun b__ w hW hN hold hpre => ⟨fun hwant K hK => ?_, fun hwant => ?_⟩
      · clear hwant
        have e2 : b__.eval (.tmp 2) = .int .i64 ((b : Nat) : Int) := (hold 2 (by kernel_rfl)).trans rfl
        exact opw_move rfl e2 (hK _ _ rfl ⟨hRr _, fun _ _ h => h⟩)
      · rw [want_none rfl] at hwant; cases hwant
    case r8 =>
      refine truleGh fun b__ w hW hN hold hpre => ⟨fun hwant K hK => ?_, fun hwant => ?_⟩
      · clear hwant
        have e34 : b__.eval (.tmp 34) = .int .i64 ((a : Nat) : Int) := hpre ⟨6, _⟩ (Array.mem_of_getElem? (i := 0) rfl) rfl _ _ rfl rfl
        have e35 : b__.eval (.tmp 35) = .int .i64 ((b : Nat) : Int) := hpre ⟨7, _⟩ (Array.mem_of_getElem? (i := 1) rfl) rfl _ _ rfl rfl
        exact opw_built rfl (ps := [(0, .int .i64 ((a : Nat) : Int)), (1, .int .i64 ((b : Nat) : Int))]) (cells := #[.int .i64 ((a : Nat) : Int), .int .i64 ((b : Nat) : Int)]) (by simp [e34, e35]) (by kernel_rfl) (hK _ _ rfl ⟨hRr _, fun _ _ h => h⟩)
      · rw [want_none rfl] at hwant; cases hwant
    case r9 =>
      refine truleGh fun b__ w hW hN hold hpre => ⟨fun hwant K hK => ?_, fun hwant => ?_⟩
      · clear hwant
        have e36 : b__.eval (.tmp 36) = .agg #[.int .i64 ((a : Nat) : Int), .int .i64 ((b : Nat) : Int)] := hpre ⟨8, _⟩ (Array.mem_of_getElem? (i := 0) rfl) rfl _ _ rfl rfl
        exact opw_slice rfl Tryd.underlying25 (ps := [(0, .agg #[.int .i64 ((a : Nat) : Int), .int .i64 ((b : Nat) : Int)])]) (cells := #[.int .i64 ((a : Nat) : Int), .int .i64 ((b : Nat) : Int)]) (by simp [e36]) (by kernel_rfl) fun w' hbx hbel => hK _ (w', { w.2 with b := some (.slice (some ⟨w.1.heap.size, 0, none⟩) 1 1) }) rfl ⟨⟨fun hj => hj.mkB hN hbel hbx, (fun _ h => h), (fun g h => by rw [hN.1] at h; cases h), (fun _ h => h), (fun _ h => h), id⟩, fun j hj hn => by split <;> first | exact absurd rfl hj | exact hn | trivial⟩
      · rw [want_none rfl] at hwant; cases hwant
    case r10 =>
      refine truleGh fun b__ w hW hN hold hpre => ⟨fun hwant K hK => ?_, fun hwant => ?_⟩
      · clear hwant
        have e33 : (fun (v : Value) (w : World × _) => w.2.a = some v) (b__.eval (.tmp 33)) w := hpre ⟨5, _⟩ (Array.mem_of_getElem? (i := 0) rfl) rfl _ _ rfl rfl
        have e37 : (fun (v : Value) (w : World × _) => w.2.b = some v) (b__.eval (.tmp 37)) w := hpre ⟨9, _⟩ (Array.mem_of_getElem? (i := 1) rfl) rfl _ _ rfl rfl
        obtain ⟨o1, o2, o3⟩ := (hW.1 hJ0).own hN e33 e37
        exact opw_app (n := L.length) (m := 1) rfl ty_pairs rfl o1 rfl (Sl.of_own o2) (pcells_one _) (by omega) (by omega) o3 fun v' w' a1 a2 a3 => hK v' (w', { w.2 with c := some v' }) rfl ⟨⟨fun hj => hj.mkC hN e33 e37 a1 a2 a3, (fun _ h => h), (fun _ h => h), (fun g h => by rw [hN.1] at h; cases h), (fun _ h => h), id⟩, fun j hj hn => by split <;> first | exact absurd rfl hj | exact hn | exact absurd (hn.1.symm.trans e33) nofun | exact absurd (hn.1.symm.trans e37) nofun | trivial⟩
      · rw [want_none rfl] at hwant; cases hwant
    case r11 =>
      refine truleGh fun b__ w hW hN hold hpre => ⟨fun hwant K hK => ?_, fun hwant => ?_⟩
      · clear hwant
        have e31 : (fun (v : Value) (w : World × _) => w.2.e = true ∧ v = .int .i64 ((n : Nat) : Int)) (b__.eval (.tmp 31)) w := hpre ⟨3, _⟩ (Array.mem_of_getElem? (i := 0) rfl) rfl _ _ rfl rfl
        have e38 : (fun (v : Value) (w : World × _) => w.2.c = some v) (b__.eval (.tmp 38)) w := hpre ⟨10, _⟩ (Array.mem_of_getElem? (i := 1) rfl) rfl _ _ rfl rfl
        refine opw_callw rfl (by kernel_rfl) (by simp only [List.map_cons, List.map_nil, e31.2]) (onew_own n (L ++ [(a, b)]) _ hn hLx.out (by simp; omega) ((hW.1 hJ0).last hN e38) (fun D w h => kt D w (k1 D w h))) fun e w' h => ?_
        obtain ⟨v, he, hP⟩ := h
        exact ⟨v, he, hK v (w', { w.2 with d := some v }) ⟨rfl, hP.shape⟩ ⟨⟨fun _ => hP, (fun _ h => h), (fun _ h => h), (fun _ h => h), (fun g h => by rw [hN] at h; cases h), id⟩, fun j hj hn => by split <;> first | exact absurd rfl hj | exact hn | exact absurd (hn.1.symm.trans e31.1) nofun | exact absurd (hn.2.1.symm.trans e38) nofun | exact absurd (hn.1.symm.trans e38) nofun | trivial⟩⟩
      · rw [want_none rfl] at hwant; cases hwant
    case r12 =>
      refine truleGh fun b__ w hW hN hold hpre => ⟨fun hwant K hK => ?_, fun hwant => ?_⟩
      · clear hwant
        have e39 : (fun (v : Value) (w : World × _) => w.2.d = some v ∧ ∃ (p : Value) (e : Int), v = .tuple #[p, .int .i64 e]) (b__.eval (.tmp 39)) w := hpre ⟨11, _⟩ (Array.mem_of_getElem? (i := 0) rfl) rfl _ _ rfl rfl
        obtain ⟨hd, p, e, hv⟩ := e39
        rw [hv] at hd
        exact opw_extract rfl hv rfl (hK _ _ ⟨p, e, hd, rfl⟩ ⟨hRr _, fun _ _ h => h⟩)
      · rw [want_none rfl] at hwant; cases hwant
    case r13 =>
      refine truleGh fun b__ w hW hN hold hpre => ⟨fun hwant K hK => ?_, fun hwant => ?_⟩
      · clear hwant
        have e39 : (fun (v : Value) (w : World × _) => w.2.d = some v ∧ ∃ (p : Value) (e : Int), v = .tuple #[p, .int .i64 e]) (b__.eval (.tmp 39)) w := hpre ⟨11, _⟩ (Array.mem_of_getElem? (i := 0) rfl) rfl _ _ rfl rfl
        obtain ⟨hd, p, e, hv⟩ := e39
        rw [hv] at hd
        exact opw_extract rfl hv rfl (hK _ _ ⟨p, e, hd, rfl⟩ ⟨hRr _, fun _ _ h => h⟩)
      · rw [want_none rfl] at hwant; cases hwant
    case r14 =>
      refine truleGh fun b__ w hW hN hold hpre => ⟨fun hwant K hK => ?_, fun hwant => ?_⟩
      · clear hwant
        have e40 : (fun (v : Value) (w : World × _) => ∃ (p : Value) (e : Int), w.2.d = some (.tuple #[p, .int .i64 e]) ∧ v = p) (b__.eval (.tmp 40)) w := hpre ⟨12, _⟩ (Array.mem_of_getElem? (i := 0) rfl) rfl _ _ rfl rfl
        exact opw_assign rfl rfl (hK _ _ e40 ⟨hRr _, fun _ _ h => h⟩)
      · rw [want_none rfl] at hwant; cases hwant
    case r15 =>
      refine truleGh fun b__ w hW hN hold hpre => ⟨fun hwant K hK => ?_, fun hwant => ?_⟩
      · clear hwant
        have e41 : (fun (v : Value) (w : World × _) => ∃ (p : Value) (e : Int), w.2.d = some (.tuple #[p, .int .i64 e]) ∧ v = .int .i64 e) (b__.eval (.tmp 41)) w := hpre ⟨13, _⟩ (Array.mem_of_getElem? (i := 0) rfl) rfl _ _ rfl rfl
        exact opw_assign rfl rfl (hK _ _ e41 ⟨hRr _, fun _ _ h => h⟩)
      · rw [want_none rfl] at hwant; cases hwant
    case post =>
      intro b__ wz hW hdf hsz hold hT hZ
      have e28 : b__.eval (.tmp 28) = .pointer (some ⟨q, 0, none⟩) := hT 0 _ 28 rfl rfl
      have e29 : b__.eval (.tmp 29) = .pointer (some ⟨q, 0, none⟩) := hT 1 _ 29 rfl rfl
      have e30 : b__.eval (.tmp 30) = .pointer (some ⟨q, 0, none⟩) := hT 2 _ 30 rfl rfl
      have e31 : (fun (v : Value) (w : World × _) => w.2.e = true ∧ v = .int .i64 ((n : Nat) : Int)) (b__.eval (.tmp 31)) wz := hT 3 _ 31 rfl rfl
      have e32 : b__.eval (.tmp 32) = .pointer (some ⟨q, 0, none⟩) := hT 4 _ 32 rfl rfl
      have e33 : (fun (v : Value) (w : World × _) => w.2.a = some v) (b__.eval (.tmp 33)) wz := hT 5 _ 33 rfl rfl
      have e34 : b__.eval (.tmp 34) = .int .i64 ((a : Nat) : Int) := hT 6 _ 34 rfl rfl
      have e35 : b__.eval (.tmp 35) = .int .i64 ((b : Nat) : Int) := hT 7 _ 35 rfl rfl
      have e36 : b__.eval (.tmp 36) = .agg #[.int .i64 ((a : Nat) : Int), .int .i64 ((b : Nat) : Int)] := hT 8 _ 36 rfl rfl
      have e37 : (fun (v : Value) (w : World × _) => w.2.b = some v) (b__.eval (.tmp 37)) wz := hT 9 _ 37 rfl rfl
      have e38 : (fun (v : Value) (w : World × _) => w.2.c = some v) (b__.eval (.tmp 38)) wz := hT 10 _ 38 rfl rfl
      have e39 : (fun (v : Value) (w : World × _) => w.2.d = some v ∧ ∃ (p : Value) (e : Int), v = .tuple #[p, .int .i64 e]) (b__.eval (.tmp 39)) wz := hT 11 _ 39 rfl rfl
      have e40 : (fun (v : Value) (w : World × _) => ∃ (p : Value) (e : Int), w.2.d = some (.tuple #[p, .int .i64 e]) ∧ v = p) (b__.eval (.tmp 40)) wz := hT 12 _ 40 rfl rfl
      have e41 : (fun (v : Value) (w : World × _) => ∃ (p : Value) (e : Int), w.2.d = some (.tuple #[p, .int .i64 e]) ∧ v = .int .i64 e) (b__.eval (.tmp 41)) wz := hT 13 _ 41 rfl rfl
      have e6 : (fun (v : Value) (w : World × _) => ∃ (p : Value) (e : Int), w.2.d = some (.tuple #[p, .int .i64 e]) ∧ v = p) (b__.eval (.tmp 6)) wz := hT 14 _ 6 rfl rfl
      have e7 : (fun (v : Value) (w : World × _) => ∃ (p : Value) (e : Int), w.2.d = some (.tuple #[p, .int .i64 e]) ∧ v = .int .i64 e) (b__.eval (.tmp 7)) wz := hT 15 _ 7 rfl rfl
      obtain ⟨vs, hvs, hb⟩ := frame_of hdf hsz hold
      replace e28 : vs 28 = .pointer (some ⟨q, 0, none⟩) := (hvs 28).symm.trans e28
      replace e29 : vs 29 = .pointer (some ⟨q, 0, none⟩) := (hvs 29).symm.trans e29
      replace e30 : vs 30 = .pointer (some ⟨q, 0, none⟩) := (hvs 30).symm.trans e30
      replace e31 := (hvs 31) ▸ e31
      replace e32 : vs 32 = .pointer (some ⟨q, 0, none⟩) := (hvs 32).symm.trans e32
      replace e33 := (hvs 33) ▸ e33
      replace e34 : vs 34 = .int .i64 ((a : Nat) : Int) := (hvs 34).symm.trans e34
      replace e35 : vs 35 = .int .i64 ((b : Nat) : Int) := (hvs 35).symm.trans e35
      replace e36 : vs 36 = .agg #[.int .i64 ((a : Nat) : Int), .int .i64 ((b : Nat) : Int)] := (hvs 36).symm.trans e36
      replace e37 := (hvs 37) ▸ e37
      replace e38 := (hvs 38) ▸ e38
      replace e39 := (hvs 39) ▸ e39
      replace e40 := (hvs 40) ▸ e40
      replace e41 := (hvs 41) ▸ e41
      replace e6 := (hvs 6) ▸ e6
      replace e7 := (hvs 7) ▸ e7
      subst hb
      clear hvs hold hT hdf hsz
      simp only [setAll, Act.put, List.setIfInBounds_toArray, List.set_cons_zero, List.set_cons_succ, List.getElem_toArray, List.getElem_cons_succ, List.getElem_cons_zero]
      obtain ⟨r1, z1, hd1, e6⟩ := e6
      obtain ⟨r2, z2, hd2, e7⟩ := e7
      rw [hd1] at hd2
      obtain ⟨rfl, rfl⟩ : r1 = r2 ∧ z1 = z2 := by simpa using hd2
      have hJ := hW.1 hJ0
      unfold WJ at hJ
      rw [hd1] at hJ
      have hP := hJ.mono KS k1
      rw [e6, e7]
      generalize wz.1 = wf at *
      clear hJ hJ0 hRr hRt hW hZ hd1 hd2 e6 e7
      go_wp2_with fail
      go_ret2
      exact ⟨_, rfl, hP⟩
end Go.Proofs.YtmlkgaiphpimiaaDoor
namespace Go.Proofs.YtmlkgaiphpimiaaDoor
open Go.RowKit

structure TInvS (ops : Array Oper) (T : Nat → Value → World → Prop) (sk : List Nat) (a0 : Act) (W : World) (listed : Array Bool) (a : Act) (w : World) : Prop where
  bel : Below W.heap.size W w
  defers : a.defers = a0.defers
  size : a.tmps.size = a0.tmps.size
  old : ∀ t, (∀ (i : Nat) (o : Oper), sk.contains i = false → ops[i]? = some o → o.dst ≠ some t) → a.tmps.getD t undef = a0.tmps.getD t undef
  typ : ∀ (i : Nat) (o : Oper) (d : Tmp), ops[i]? = some o → listed.getD i false = true → o.dst = some d → T i (a.tmps.getD d undef) w
def TRuleS (P : Program) (ops : Array Oper) (T : Nat → Value → World → Prop) (sk : List Nat) (a0 : Act) (W : World) (Q : Exit → Act → World → Prop) (i : Nat) (o : Oper) : Prop :=
  ∀ a w, Below W.heap.size W w → (∀ t, (∀ (i : Nat) (o : Oper), sk.contains i = false → ops[i]? = some o → o.dst ≠ some t) → a.tmps.getD t undef = a0.tmps.getD t undef) →
    (∀ e ∈ o.after, Region.binds .any e = true → ∀ (oj : Oper) (d : Tmp), ops[e.on]? = some oj → oj.dst = some d → T e.on (a.tmps.getD d undef) w) →
    (Region.wanted o (yielded ops a.tmps) = true → ∀ K : Act → World → Prop, (∀ v w', T i v w' → Below w.heap.size w w' → K (a.put o.dst v) w') → o.wp P a w K Q) ∧
    (Region.wanted o (yielded ops a.tmps) = false → T i undef w)
def noDstS (ops : Array Oper) (sk : List Nat) (t : Tmp) : Bool := (List.range ops.size).all fun i => sk.contains i || match ops[i]? with | some o => o.dst != some t | none => true
theorem noDstS_spec {ops : Array Oper} {sk : List Nat} {t : Tmp} (h : noDstS ops sk t = true) (i : Nat) (o : Oper) (hs : sk.contains i = false) (ho : ops[i]? = some o) : o.dst ≠ some t := by
  have h1 := (List.all_eq_true.1 h) i (by simpa using (Array.getElem?_eq_some_iff.1 ho).1)
  simpa only [hs, ho, Bool.false_or, bne_iff_ne] using h1
theorem noDstS_of {ops : Array Oper} {sk : List Nat} {t : Tmp} (h : noDst ops t = true) : noDstS ops sk t = true := by
  rw [noDstS, List.all_eq_true]
  intro i hi
  rw [Bool.or_eq_true]; right
  cases ho : ops[i]? with
  | none => rfl
  | some o => simpa using noDst_spec h i o ho
section
variable {P : Program} {ops : Array Oper} {T : Nat → Value → World → Prop} {a0 : Act} {W : World} {Q : Exit → Act → World → Prop}
theorem wpAny_typed_tailS {t : Nat} {r : List Nat} {o1 : Oper} (h1 : ops[t]? = some o1) (hc1 : tHead ops (t :: r) o1 = true) (hch : tChain ops t r = true) (htr : r.contains t = false)
    (hmono : ∀ i v w w', T i v w → Below w.heap.size w w' → T i v w') (hk : tOk ops a0.tmps.size = true) (hr : ∀ i o, (t :: r).contains i = false → ops[i]? = some o → TRuleS P ops T (t :: r) a0 W Q i o)
    (hpost : ∀ (b : Act) (w : World), Below W.heap.size W w → b.defers = a0.defers → b.tmps.size = a0.tmps.size → (∀ s, (∀ (i : Nat) (o : Oper), (t :: r).contains i = false → ops[i]? = some o → o.dst ≠ some s) → b.tmps.getD s undef = a0.tmps.getD s undef) →
      (∀ (i : Nat) (o : Oper) (d : Tmp), (t :: r).contains i = false → ops[i]? = some o → o.dst = some d → T i (b.tmps.getD d undef) w) → TailWp P ops Q (t :: r) b w) :
    ∀ (fuel : Nat) (listed : Array Bool) (b : Act) (w : World), listed.size = ops.size → (∀ i ∈ t :: r, listed.getD i true = false) → unlisted ops listed ≤ fuel → ClosedL ops listed → TInvS ops T (t :: r) a0 W listed b w → wpAny P .any ops Q fuel listed b w := by
  simp only [tHead, Bool.and_eq_true] at hc1
  obtain ⟨hguard1, hcov1⟩ := hc1
  have htlt := (Array.getElem?_eq_some_iff.1 h1).1
  intro fuel
  induction fuel with
  | zero =>
    intro listed b w hsz hin hu hcl hI
    exfalso
    have := unlisted_set (ops := ops) (i := t) htlt (hin t List.mem_cons_self)
    omega
  | succ fuel ih =>
    intro listed b w hsz hin hu hcl hI
    refine ⟨fun h => ?_, fun i hi => ?_⟩
    · exfalso
      have := ready_nil hk h t htlt
      rw [hin t List.mem_cons_self] at this
      cases this
    rw [mem_ready] at hi
    obtain ⟨h0, o, ho, haf⟩ := hi
    have hlt := (Array.getElem?_eq_some_iff.1 ho).1
    by_cases hir : i ∈ r
    · exfalso
      obtain ⟨p, hp, o', ho', _, e, he, hb, hep⟩ := chain_pred r t hch i hir
      obtain rfl : o = o' := by rw [ho] at ho'; exact Option.some.inj ho'
      have := getD_tf (haf e he hb)
      rw [hep, hin p (by rcases hp with rfl | hp; exact List.mem_cons_self; exact List.mem_cons_of_mem _ hp)] at this
      cases this
    by_cases hit : i = t
    · subst hit
      obtain rfl : o = o1 := by rw [h1] at ho; exact (Option.some.inj ho).symm
      have hall : ∀ j, j < ops.size → (i :: r).contains j = false → listed.getD j false = true := by
        intro j hj hne
        have h3 := (List.all_eq_true.1 hcov1) j (by simpa using hj)
        simp only [Bool.or_eq_true, hne, Bool.false_eq_true, false_or] at h3
        exact covers_listed hcl _ o j h3 haf
      have hw : Region.wanted o (yielded ops b.tmps) = true := want_none (by cases hg : o.guard with | none => rfl | some x => simp [hg] at hguard1)
      unfold wpOp
      simp only [ho, hw, if_true]
      refine .inl (Oper.wp_mono (fun b1 w1 hq => ?_) (hpost b w hI.bel hI.defers hI.size hI.old (fun j oj d hj hoj hd => hI.typ j oj d hoj (hall j (Array.getElem?_eq_some_iff.1 hoj).1 hj) hd) o ho))
      have hrlen : r.length ≤ fuel := by
        -- the tail is not listed
        have key : ∀ (l : List Nat) (ls : Array Bool), l.Nodup → (∀ x ∈ l, x < ops.size ∧ ls.getD x true = false) → l.length ≤ unlisted ops ls := by
          intro l
          induction l with
          | nil => intro _ _ _; exact Nat.zero_le _
          | cons x l ih2 =>
            intro ls hnd hx
            have q1 := unlisted_set (ops := ops) (hx x List.mem_cons_self).1 (hx x List.mem_cons_self).2
            have q2 := ih2 (ls.setIfInBounds x true) (List.nodup_cons.1 hnd).2 (fun y hy => ⟨(hx y (List.mem_cons_of_mem _ hy)).1, by rw [getD_set_ne true (by rintro rfl; exact (List.nodup_cons.1 hnd).1 hy)]; exact (hx y (List.mem_cons_of_mem _ hy)).2⟩)
            simp; omega
        have hnd : ∀ (r : List Nat) (t : Nat), tChain ops t r = true → r.Nodup := by
          intro r
          induction r with
          | nil => intro _ _; exact List.nodup_nil
          | cons u r ih2 =>
            intro t h
            simp only [tChain, Bool.and_eq_true] at h
            exact List.nodup_cons.2 ⟨by simpa using h.1.2, ih2 u h.2⟩
        have q1 := unlisted_set (ops := ops) hlt h0
        have q2 := key r (listed.setIfInBounds i true) (hnd r i hch) (fun x hx => ⟨by
          obtain ⟨_, _, o', ho', _⟩ := chain_pred r i hch x hx
          exact (Array.getElem?_eq_some_iff.1 ho').1, by
          have : x ≠ i := fun e => hir (e ▸ hx)
          rw [getD_set_ne true (Ne.symm this)]; exact hin x (List.mem_cons_of_mem _ hx)⟩)
        omega
      refine wpAny_tail hk r i fuel _ b1 w1 (by simpa using hsz) hch (fun j hj hn => set_listed ?_) (fun j hj => ?_) hrlen hq
      · by_cases e : j = i
        · exact .inl e
        · exact .inr (getD_tf (hall j hj (by simp [e, hn])))
      · have : j ≠ i := fun e => hir (e ▸ hj)
        rw [getD_set_ne true (Ne.symm this)]
        exact hin j (List.mem_cons_of_mem _ hj)
    · have hnt : (t :: r).contains i = false := by simp [hit, hir]
      have hdst := tOk_dst hk ho
      have hrule := hr i o hnt ho b w hI.bel hI.old (fun e he hbd oj d hoj hd => hI.typ e.on oj d hoj (haf e he hbd) hd)
      have hcl' : ClosedL ops (listed.setIfInBounds i true) := by
        intro j oj hj hlj e he hb
        by_cases e2 : j = i
        · subst e2
          obtain rfl : oj = o := by rw [ho] at hj; exact (Option.some.inj hj).symm
          exact getD_set_true (haf e he hb)
        · rw [getD_set_ne false (Ne.symm e2)] at hlj
          exact getD_set_true (hcl j oj hj hlj e he hb)
      have next : ∀ v w', T i v w' → Below w.heap.size w w' → wpAny P .any ops Q fuel (listed.setIfInBounds i true) (b.put o.dst v) w' := by
        intro v w' hT hb
        refine ih _ _ _ (by simpa using hsz) (fun j hj => by
          have : j ≠ i := fun e => by subst e; simp at hj; rcases hj with e | e; exact hit e; exact hir e
          rw [getD_set_ne true (Ne.symm this)]; exact hin j hj) (by have := unlisted_set (ops := ops) hlt h0; omega) hcl' ⟨hI.bel.trans (hb.mono hI.bel.size), ?_, ?_, ?_, ?_⟩
        · rw [← hI.defers]; cases o.dst <;> rfl
        · rw [← hI.size]; cases o.dst <;> simp [Act.put]
        · intro t ht
          rw [← hI.old t ht]
          have h2 := ht i o hnt ho
          cases hd : o.dst with
          | none => rfl
          | some d =>
            have : d ≠ t := fun e => h2 (by rw [hd, e])
            simp [Act.put, Array.getElem?_setIfInBounds_ne this]
        · intro j oj d hj hlj hdj
          by_cases e : j = i
          · subst e
            obtain rfl : oj = o := by rw [ho] at hj; exact (Option.some.inj hj).symm
            have hd1 := hdst.1 d hdj
            rw [hdj]
            have hlt2 : d < b.tmps.size := by rw [hI.size]; exact hd1
            simpa [Act.put, hlt2] using hT
          · have hlj' : listed.getD j false = true := by rwa [getD_set_ne false (Ne.symm e)] at hlj
            have h3 := hmono j _ w w' (hI.typ j oj d hj hlj' hdj) hb
            have h4 : (b.put o.dst v).tmps.getD d undef = b.tmps.getD d undef := by
              cases hd : o.dst with
              | none => rfl
              | some d' =>
                have : d' ≠ d := fun e2 => hdst.2.2 j oj d' e hj hd (by rw [hdj, e2])
                simp [Act.put, Array.getElem?_setIfInBounds_ne this]
            rw [h4]; exact h3
      unfold wpOp
      simp only [ho]
      split
      · rename_i hw
        exact .inl (hrule.1 hw _ next)
      · rename_i hw
        exact next undef w (hrule.2 (by simpa using hw)) (Below.refl _ _)
def TRulesS (P : Program) (ops : Array Oper) (T : Nat → Value → World → Prop) (a0 : Act) (W : World) (Q : Exit → Act → World → Prop) (skip : List Nat) : Nat → List Oper → Prop
  | _, [] => True
  | i, o :: r => (skip.contains i = true ∨ TRuleS P ops T skip a0 W Q i o) ∧ TRulesS P ops T a0 W Q skip (i + 1) r
theorem TRulesS.at {skip : List Nat} : ∀ (l : List Oper) (k : Nat), TRulesS P ops T a0 W Q skip k l → ∀ i o, l[i]? = some o → skip.contains (k + i) = true ∨ TRuleS P ops T skip a0 W Q (k + i) o
  | [], _, _, i, o, h => by simp at h
  | x :: r, k, hr, 0, o, h => by simp at h; subst h; exact hr.1
  | x :: r, k, hr, i + 1, o, h => by
    have := TRulesS.at r (k + 1) hr.2 i o (by simpa using h)
    rwa [show k + 1 + i = k + (i + 1) by omega] at this
theorem wp_region_tailS {id : Nat} {a : Act} (T : Nat → Value → World → Prop) (t : Nat) (r : List Nat) (hm : P.follows .mixedOrders = true)
    (hc1 : (match ops[t]? with | some o => tHead ops (t :: r) o | none => false) = true) (hch : tChain ops t r = true) (htr : r.contains t = false)
    (hk : tOk ops a.tmps.size = true) (hmono : ∀ i v w w', T i v w → Below w.heap.size w w' → T i v w') (hr : TRulesS P ops T a W.drew Q (t :: r) 0 ops.toList)
    (hpost : ∀ (b : Act) (w : World), Below W.heap.size W w → b.defers = a.defers → b.tmps.size = a.tmps.size → (∀ s, noDstS ops (t :: r) s = true → b.tmps.getD s undef = a.tmps.getD s undef) →
      (∀ (i : Nat) (o : Oper) (d : Tmp), (t :: r).contains i = false → ops[i]? = some o → o.dst = some d → T i (b.tmps.getD d undef) w) → TailWp P ops Q (t :: r) b w) : (Code.region id ops true).wp P Q a W := by
  refine wp_region_any hm ?_
  cases h1 : ops[t]? with
  | none => simp [h1] at hc1
  | some o1 =>
    simp only [h1] at hc1
    refine wpAny_typed_tailS (T := T) (W := W.drew) (a0 := a) h1 hc1 hch htr hmono hk (fun i o a1 a2 => ?_) (fun b w h1 h2 h3 h4 h5 => hpost b w (undrew h1) h2 h3 (fun s hs => h4 s (noDstS_spec hs)) h5) _ _ _ _ (by simp) (fun i hi => ?_) ?_ ?_ ⟨Below.refl _ _, rfl, rfl, fun _ _ => rfl, fun i o d ho hl _ => ?_⟩
    · have := TRulesS.at ops.toList 0 hr i o (by simpa using a2)
      rw [Nat.zero_add] at this
      rcases this with h | h
      · rw [a1] at h; cases h
      · exact h
    · have : i < ops.size := by
        rcases List.mem_cons.1 hi with rfl | hi
        · exact (Array.getElem?_eq_some_iff.1 h1).1
        · obtain ⟨_, _, o', ho', _⟩ := chain_pred r t hch i hi
          exact (Array.getElem?_eq_some_iff.1 ho').1
      simp [this]
    · unfold unlisted; exact Nat.le_trans (List.length_filter_le _ _) (by simp)
    · intro i o ho hl e he hb
      exfalso
      have hlt := (Array.getElem?_eq_some_iff.1 ho).1
      simp [hlt] at hl
    · exfalso
      have hlt := (Array.getElem?_eq_some_iff.1 ho).1
      simp [hlt] at hl
theorem truleT {a : Act} {o : Oper} {sk : List Nat} {i : Nat}
    (h : ∀ (b : Act) (w : World), Below W.heap.size W w → (∀ t, noDstS ops sk t = true → b.eval (.tmp t) = a.eval (.tmp t)) →
      (∀ e ∈ o.after, Region.binds .any e = true → ∀ (oj : Oper) (d : Tmp), ops[e.on]? = some oj → oj.dst = some d → T e.on (b.eval (.tmp d)) w) →
      (Region.wanted o (yielded ops b.tmps) = true → ∀ K : Act → World → Prop, (∀ v w', T i v w' → Below w.heap.size w w' → K (b.put o.dst v) w') → o.wp P b w K Q) ∧ (Region.wanted o (yielded ops b.tmps) = false → T i undef w)) :
    TRuleS P ops T sk a W Q i o := fun b w h1 h2 h3 => h b w h1 (fun t ht => h2 t (noDstS_spec ht)) h3
end
end Go.Proofs.YtmlkgaiphpimiaaDoor
namespace Go.Proofs.YtmlkgaiphpimiaaDoor
open Go.RowKit
attribute [local go_sem ↓] Go.wp_at_zero Go.wp_at_succ
set_option maxRecDepth 20000
set_option exponentiation.threshold 5000

theorem opw_amove {P : Program} {o : Oper} {a : Act} {w : World} {Kt : Act → World → Prop} {Q : Exit → Act → World → Prop} {s x : Operand} {t e : TypeId} {base g n cap k k1 : Nat} {xs : List Value} (ho : o.op = .call { callee := .builtin .append, args := #[s, x], argTypes := #[t, t] })
    (ht : P.underlying t = some (.slice e)) (hi : (P.info? e).map (·.size) = some 2) (hs : a.eval s = .slice (some ⟨g, 0, none⟩) k cap) (hx : a.eval x = sliced (some ⟨g, 0, none⟩) k1 n cap 2) (hown : w.ownsRow base e 2 (.slice (some ⟨g, 0, none⟩) n cap) n xs) (h1 : ∀ u ∈ xs, u.oneCell' = true) (hk : k ≤ k1) (hn : k1 ≤ n)
    (hK : ∀ w' ys, w'.ownsRow base e 2 (.slice (some ⟨g, 0, none⟩) n cap) n ys → ys.take ((k + (n - k1)) * 2) = xs.take (k * 2) ++ xs.drop (k1 * 2) → w.grownBy w' (some g) → Kt (a.put o.dst (.slice (some ⟨g, 0, none⟩) (k + (n - k1)) cap)) w') : o.wp P a w Kt Q := by
  cases hz : P.info? e with
  | none => rw [hz] at hi; cases hi
  | some i =>
    have hsize : i.size = 2 := by simpa [hz] using hi
    have hxl : xs.length = n * 2 := hown.1
    have hcell := fun j u hj => own_cell hown j u hj
    rcases hown.2 with ⟨h, _⟩ | ⟨g', cap', cur, h, hbg, hg, hnc, hcm, hcs, htake⟩
    · simp at h
    · simp only [Value.slice.injEq, Option.some.injEq, Addr.mk.injEq, and_true, true_and] at h
      obtain ⟨rfl, rfl⟩ := h
      have hcur : cur.toList.length = cap * 2 := by simpa using hcs
      have htk : cur.toList.take (k * 2) = xs.take (k * 2) := by rw [← htake, List.take_take]; congr 1; omega
      obtain ⟨ad, c2, hsl, hnews⟩ : ∃ ad c2, sliced (some ⟨g, 0, none⟩) k1 n cap 2 = .slice (some ad) (n - k1) c2 ∧ ∀ (j : Nat) u, (xs.drop (k1 * 2))[j]? = some u → w.cell? (ad.add j) = some u := by
        by_cases hc : cap = k1
        · refine ⟨⟨g, 0, none⟩, cap - k1, by simp [sliced, hc], fun j u hj => ?_⟩
          rw [List.getElem?_drop, List.getElem?_eq_none (by omega)] at hj
          cases hj
        · refine ⟨⟨g, k1 * 2, none⟩, cap - k1, by simp [sliced, hc, Addr.add]; omega, fun j u hj => ?_⟩
          rw [List.getElem?_drop] at hj
          rw [Addr.add_lit]
          exact hcell _ u hj
      have hdl : (xs.drop (k1 * 2)).length = (n - k1) * i.size := by rw [List.length_drop, hsize]; omega
      have hr := run_append_room (P := P) w t o.type e i ht hz g k cap cur hg ad (n - k1) c2 (xs.drop (k1 * 2)) hdl hnews (fun u hu => h1 u (List.mem_of_mem_drop hu)) (by omega) (by rw [hdl, hsize, hcs]; omega)
      unfold Oper.wp execOp
      simp only [ho, resolve, invoke, builtin, Sem.run_bind, Sem.run_pure, Result.andThen_ok, List.map_toArray, List.map_cons, List.map_nil, hs, hx, hsl, hr]
      refine hK _ ((cur.toList.take (k * 2) ++ xs.drop (k1 * 2) ++ cur.toList.drop (k * 2 + (xs.drop (k1 * 2)).length)).take (n * 2)) ⟨?_, .inr ⟨g, cap, _, rfl, hbg, setRow_heap w g cur _ e _ hg, hnc, hcm, ?_, ?_⟩⟩ ?_ ⟨rfl, rfl, rfl, by simp, fun k _ hk => setRow_other w g k _ (fun e => hk (by simp [e]))⟩
      · simp only [List.length_take, List.length_append, List.length_drop, hcur]
        omega
      · simp only [List.size_toArray, List.length_append, List.length_take, List.length_drop, hcur, hsize]
        omega
      · rw [hsize]
      · have hlen : (xs.take (k * 2) ++ xs.drop (k1 * 2)).length = (k + (n - k1)) * 2 := by
          rw [List.length_append, List.length_take, List.length_drop]
          omega
        rw [List.take_take, htk, Nat.min_eq_left (by omega), ← hlen, List.take_left]
theorem pcells_drop' (L : List (Nat × Nat)) : ∀ k, (pcells L).drop (k * 2) = pcells (L.drop k) := by
  induction L with
  | nil => intro k; simp [pcells]
  | cons x L ih =>
    intro k
    cases k with
    | zero => simp [pcells]
    | succ k => rw [show (k + 1) * 2 = k * 2 + 1 + 1 by omega, pcells_cons]; simp [ih]
theorem delp_any {w0 w : World} {F : List Fact} {K : (Nat → Prop) → World → Prop} (g n cap k k1 : Nat) (L : List (Nat × Nat)) (hl : L.length = n) (hn : n ≤ 1000000) (hk1 : k1 = k + 1) (hkn : k1 ≤ n) (hS : St w0 w (.own (.slice (some ⟨g, 0, none⟩) n cap) 50 2 n (pcells L) :: F) K) :
    Calls Tryd.prog 89 #[.slice (some ⟨g, 0, none⟩) n cap, .int .i64 (k : Nat), .int .i64 (k1 : Nat)] w fun e w' => e = .returned (.slice (some ⟨g, 0, none⟩) (n - 1) cap) ∧ St w0 w' (.own (.slice (some ⟨g, 0, none⟩) (n - 1) cap) 50 2 (n - 1) (pcells (L.eraseIdx k)) :: F) K := by
  obtain ⟨hc1, hc2⟩ := own_cap (hS.own 0 rfl)
  have H1 := Lib.hid (pcells_one L)
  have HL : Hid ((pcells L).take (k * 2) ++ (pcells L).drop (k1 * 2) = pcells (L.eraseIdx k) ∧ k + (n - k1) = n - 1) := Lib.hid ⟨by
    rw [pcells_take, pcells_drop', ← pcells_app, hk1, List.eraseIdx_eq_take_drop_succ], by omega⟩
  have hk2 : k < k1 := by omega
  obtain ⟨m, hm⟩ : ∃ m, m = n - 1 := ⟨_, rfl⟩
  rw [← hm] at HL ⊢
  have hk3 : n - m = 1 := by omega
  have hk4 : m < n := by omega
  clear hm
  clear hk1
  go_enter Tryd.func89, Tryd.ntmps89
  go_wp2_with (first | ((with_reducible show wpList _ _ _ (⟨_, .binOp _ _ _ _ _, _, _, _, _⟩ :: _) _ _); (first | (refine st_lss rfl _ _ _ _ rfl _ _ _ rfl rfl (fun h_ => ?_) (fun h_ => ?_)) | (refine st_leq rfl _ _ _ _ rfl _ _ _ rfl rfl (fun h_ => ?_) (fun h_ => ?_)) | (refine st_gtr rfl _ _ _ _ rfl _ _ _ rfl rfl (fun h_ => ?_) (fun h_ => ?_)) | (refine st_geq rfl _ _ _ _ rfl _ _ _ rfl rfl (fun h_ => ?_) (fun h_ => ?_)) | (refine st_eql rfl _ _ _ _ rfl _ _ _ rfl rfl (fun h_ => ?_) (fun h_ => ?_)) | (refine st_neq rfl _ _ _ _ rfl _ _ _ rfl rfl (fun h_ => ?_) (fun h_ => ?_))) <;> go_prune))
  refine wp_region_tailS (fun i__ v w => match i__ with
    | 0 => v = .slice (some ⟨g, 0, none⟩) n cap
    | 1 => v = .int .i64 ((k : Nat) : Int)
    | 2 => v = .slice (some ⟨g, 0, none⟩) k cap
    | 3 => v = .slice (some ⟨g, 0, none⟩) n cap
    | 4 => v = .int .i64 ((k1 : Nat) : Int)
    | 5 => v = sliced (some ⟨g, 0, none⟩) k1 n cap 2
    | 6 => True
    | 7 => True
    | _ => True) 6 [7] (by kernel_rfl) (by kernel_rfl) (by kernel_rfl) (by kernel_rfl) (by kernel_rfl) ?mono ⟨.inr ?r0, .inr ?r1, .inr ?r2, .inr ?r3, .inr ?r4, .inr ?r5, .inl (by decide), .inl (by decide), trivial⟩ ?post
  case mono =>
    intro i v w w' h hb
    match i, h with
    | 0, h => exact h
    | 1, h => exact h
    | 2, h => exact h
    | 3, h => exact h
    | 4, h => exact h
    | 5, h => exact h
    | 6, h => exact h
    | 7, h => exact h
    | _ + 8, h => trivial
  case r0 =>
    refine truleT fun b__ w hW hold hpre => ⟨fun hwant K hK => ?_, fun hwant => ?_⟩
    · clear hwant
      have e0 : b__.eval (.tmp 0) = .slice (some ⟨g, 0, none⟩) n cap := (hold 0 (by kernel_rfl)).trans rfl
      exact opw_move rfl e0 (hK _ _ rfl (Below.refl _ _))
    · rw [want_none rfl] at hwant; cases hwant
  case r1 =>
    refine truleT fun b__ w hW hold hpre => ⟨fun hwant K hK => ?_, fun hwant => ?_⟩
    · clear hwant
      have e1 : b__.eval (.tmp 1) = .int .i64 ((k : Nat) : Int) := (hold 1 (by kernel_rfl)).trans rfl
      exact opw_move rfl e1 (hK _ _ rfl (Below.refl _ _))
    · rw [want_none rfl] at hwant; cases hwant
  case r2 =>
    refine truleT fun b__ w hW hold hpre => ⟨fun hwant K hK => ?_, fun hwant => ?_⟩
    · clear hwant
      have e20 : b__.eval (.tmp 20) = .slice (some ⟨g, 0, none⟩) n cap := hpre ⟨0, _⟩ (Array.mem_of_getElem? (i := 0) rfl) rfl _ _ rfl rfl
      have e21 : b__.eval (.tmp 21) = .int .i64 ((k : Nat) : Int) := hpre ⟨1, _⟩ (Array.mem_of_getElem? (i := 1) rfl) rfl _ _ rfl rfl
      exact opw_slh rfl Tryd.underlying25 ⟨2, by kernel_rfl⟩ e20 e21 (by omega) (hK _ _ rfl (Below.refl _ _))
    · rw [want_none rfl] at hwant; cases hwant
  case r3 =>
    refine truleT fun b__ w hW hold hpre => ⟨fun hwant K hK => ?_, fun hwant => ?_⟩
    · clear hwant
      have e0 : b__.eval (.tmp 0) = .slice (some ⟨g, 0, none⟩) n cap := (hold 0 (by kernel_rfl)).trans rfl
      exact opw_move rfl e0 (hK _ _ rfl (Below.refl _ _))
    · rw [want_none rfl] at hwant; cases hwant
  case r4 =>
    refine truleT fun b__ w hW hold hpre => ⟨fun hwant K hK => ?_, fun hwant => ?_⟩
    · clear hwant
      have e2 : b__.eval (.tmp 2) = .int .i64 ((k1 : Nat) : Int) := (hold 2 (by kernel_rfl)).trans rfl
      exact opw_move rfl e2 (hK _ _ rfl (Below.refl _ _))
    · rw [want_none rfl] at hwant; cases hwant
  case r5 =>
    refine truleT fun b__ w hW hold hpre => ⟨fun hwant K hK => ?_, fun hwant => ?_⟩
    · clear hwant
      have e23 : b__.eval (.tmp 23) = .slice (some ⟨g, 0, none⟩) n cap := hpre ⟨3, _⟩ (Array.mem_of_getElem? (i := 0) rfl) rfl _ _ rfl rfl
      have e24 : b__.eval (.tmp 24) = .int .i64 ((k1 : Nat) : Int) := hpre ⟨4, _⟩ (Array.mem_of_getElem? (i := 1) rfl) rfl _ _ rfl rfl
      exact opw_sll rfl Tryd.underlying25 (by kernel_rfl) e23 e24 (by omega) (by omega) (hK _ _ rfl (Below.refl _ _))
    · rw [want_none rfl] at hwant; cases hwant
  case post =>
    intro b__ wz hW hdf hsz hold hT
    have e22 : b__.eval (.tmp 22) = .slice (some ⟨g, 0, none⟩) k cap := hT 2 _ 22 (by decide) rfl rfl
    have e25 : b__.eval (.tmp 25) = sliced (some ⟨g, 0, none⟩) k1 n cap 2 := hT 5 _ 25 (by decide) rfl rfl
    have e20 : b__.eval (.tmp 20) = .slice (some ⟨g, 0, none⟩) n cap := hT 0 _ 20 (by decide) rfl rfl
    have e21 : b__.eval (.tmp 21) = .int .i64 ((k : Nat) : Int) := hT 1 _ 21 (by decide) rfl rfl
    have e23 : b__.eval (.tmp 23) = .slice (some ⟨g, 0, none⟩) n cap := hT 3 _ 23 (by decide) rfl rfl
    have e24 : b__.eval (.tmp 24) = .int .i64 ((k1 : Nat) : Int) := hT 4 _ 24 (by decide) rfl rfl
    obtain ⟨vs, hvs, hb⟩ := frame_of hdf hsz (fun s hs => hold s (noDstS_of hs))
    replace e22 : vs 22 = .slice (some ⟨g, 0, none⟩) k cap := (hvs 22).symm.trans e22
    replace e25 : vs 25 = sliced (some ⟨g, 0, none⟩) k1 n cap 2 := (hvs 25).symm.trans e25
    replace e20 : vs 20 = .slice (some ⟨g, 0, none⟩) n cap := (hvs 20).symm.trans e20
    replace e21 : vs 21 = .int .i64 ((k : Nat) : Int) := (hvs 21).symm.trans e21
    replace e23 : vs 23 = .slice (some ⟨g, 0, none⟩) n cap := (hvs 23).symm.trans e23
    replace e24 : vs 24 = .int .i64 ((k1 : Nat) : Int) := (hvs 24).symm.trans e24
    subst hb
    clear hvs hold hT hdf hsz
    simp only [setAll, Act.put, List.setIfInBounds_toArray, List.set_cons_zero, List.set_cons_succ, List.getElem_toArray, List.getElem_cons_succ, List.getElem_cons_zero]
    (intro o_ ho_; simp only [List.getElem?_toArray, List.getElem?_cons_succ, List.getElem?_cons_zero, Option.some.injEq] at ho_; subst ho_)
    refine opw_amove rfl Tryd.underlying25 (by kernel_rfl) e22 e25 ((hS.ext hW).own 0 rfl) H1.out (by omega) hkn fun w2 ys ho hy hg => ?_
    rw [HL.out.1] at hy
    replace hS := (hS.ext hW).upd 0 rfl (.own (.slice (some ⟨g, 0, none⟩) n cap) 50 2 n ys) hg ho fun _ e => .inl e
    rw [HL.out.2] at hy ⊢
    simp only [TailWp]
    simp only [Act.put, List.setIfInBounds_toArray, List.set_cons_zero, List.set_cons_succ]
    (intro o_ ho_; simp only [List.getElem?_toArray, List.getElem?_cons_succ, List.getElem?_cons_zero, Option.some.injEq] at ho_; subst ho_)
    refine opw_assign rfl rfl ?_
    simp only [TailWp]
    simp only [Act.put, List.setIfInBounds_toArray, List.set_cons_zero, List.set_cons_succ]
    simp only [Act.eval, Array.getD_eq_getD_getElem?, List.getElem?_toArray, List.getElem?_cons_succ, List.getElem?_cons_zero, Option.getD_some]
    clear e22 e25 ho hW
    obtain ⟨w3, zs, hrun, hX, hzs, hG⟩ := run_clear_own (ty := 0) (c := cap - m) (hS.own 0 rfl) Tryd.underlying25 (Tryd.zeroValue50 w2) rfl (by simp [Value.oneCell']) (show m + 1 = n by omega)
    replace hS := hS.upd 0 rfl (.own (.slice (some ⟨g, 0, none⟩) m cap) 50 2 m (pcells (L.eraseIdx k))) hG (by
      have := own_short hX (show m ≤ n by omega)
      rwa [hzs, hy] at this) (fun _ e => .inl e)
    clear hX hG hzs hy
    go_wp2_with (first | ((with_reducible show wpList _ _ _ (⟨_, .binOp _ _ _ _ _, _, _, _, _⟩ :: _) _ _); (first | (refine st_lss rfl _ _ _ _ rfl _ _ _ rfl rfl (fun h_ => ?_) (fun h_ => ?_)) | (refine st_leq rfl _ _ _ _ rfl _ _ _ rfl rfl (fun h_ => ?_) (fun h_ => ?_)) | (refine st_gtr rfl _ _ _ _ rfl _ _ _ rfl rfl (fun h_ => ?_) (fun h_ => ?_)) | (refine st_geq rfl _ _ _ _ rfl _ _ _ rfl rfl (fun h_ => ?_) (fun h_ => ?_)) | (refine st_eql rfl _ _ _ _ rfl _ _ _ rfl rfl (fun h_ => ?_) (fun h_ => ?_)) | (refine st_neq rfl _ _ _ _ rfl _ _ _ rfl rfl (fun h_ => ?_) (fun h_ => ?_))) <;> go_prune) | ((with_reducible show wpList _ _ _ (⟨_, .call _, _, _, _, _⟩ :: _) _ _); refine BigFrame.wpList_want rfl fun _ hK => opw_clear (w' := w3) rfl rfl hrun (hK _ _ ?_)))
    go_ret
    exact ⟨rfl, hS⟩
theorem unl_asc {L : List (Nat × Nat)} (h : Asc L) (z : Nat × Nat) : Asc (unl L z) := h.filter _
theorem mem_eraseIdx {L : List (Nat × Nat)} (hN : L.Nodup) {k : Nat} {z : Nat × Nat} (hk : L[k]? = some z) (u : Nat × Nat) : u ∈ L.eraseIdx k ↔ u ∈ unl L z := by
  rw [mem_unl]
  obtain ⟨h1, h2⟩ := List.getElem?_eq_some_iff.1 hk
  have hp := List.pairwise_iff_getElem.1 hN
  rw [List.mem_iff_getElem?]
  constructor
  · rintro ⟨i, hi⟩
    rw [List.getElem?_eraseIdx] at hi
    split at hi
    · obtain ⟨h3, h4⟩ := List.getElem?_eq_some_iff.1 hi
      refine ⟨by rw [← h4]; exact List.getElem_mem h3, fun e => ?_⟩
      exact hp i k h3 h1 (by omega) (by rw [h4, h2, e])
    · obtain ⟨h3, h4⟩ := List.getElem?_eq_some_iff.1 hi
      refine ⟨by rw [← h4]; exact List.getElem_mem h3, fun e => ?_⟩
      exact hp k (i + 1) h1 h3 (by omega) (by rw [h4, h2, e])
  · rintro ⟨hu, hne⟩
    obtain ⟨i, hi, e⟩ := List.getElem_of_mem hu
    rcases Nat.lt_trichotomy i k with h | h | h
    · exact ⟨i, by rw [List.getElem?_eraseIdx, if_pos h, List.getElem?_eq_getElem hi, e]⟩
    · subst h
      exact absurd (by rw [← e, h2]) hne
    · exact ⟨i - 1, by rw [List.getElem?_eraseIdx, if_neg (by omega), show i - 1 + 1 = i by omega, List.getElem?_eq_getElem hi, e]⟩
structure DG where
  a : Option Value
  c : Option Value
  d : Option Value
  e : Bool
section
variable {w0 : World} {F : List Fact} {K : (Nat → Prop) → World → Prop} {n : Nat} {L M : List (Nat × Nat)} {p p' : World × DG}
def DJ (w0 : World) (F : List Fact) (K : (Nat → Prop) → World → Prop) (n : Nat) (L M : List (Nat × Nat)) (p : World × DG) : Prop := match p.2.d with
  | none => St w0 p.1 ((match p.2.c with | some v => [.own v 50 2 M.length (pcells M)] | none => ownP L p.2.a) ++ F) K
  | some r => NewP w0 F K n M r p.1
def DR (w0 : World) (F : List Fact) (K : (Nat → Prop) → World → Prop) (n : Nat) (L M : List (Nat × Nat)) (p p' : World × DG) : Prop :=
  (DJ w0 F K n L M p → DJ w0 F K n L M p') ∧ (∀ v, p.2.a = some v → p'.2.a = some v) ∧ (∀ v, p.2.c = some v → p'.2.c = some v) ∧ (∀ v, p.2.d = some v → p'.2.d = some v) ∧ (p.2.e = true → p'.2.e = true)
theorem DR.refl (p : World × DG) : DR w0 F K n L M p p := ⟨id, fun _ h => h, fun _ h => h, fun _ h => h, id⟩
theorem DR.trans (a b c : World × DG) (h : DR w0 F K n L M a b) (k : DR w0 F K n L M b c) : DR w0 F K n L M a c :=
  ⟨fun y => k.1 (h.1 y), fun g y => k.2.1 g (h.2.1 g y), fun g y => k.2.2.1 g (h.2.2.1 g y), fun g y => k.2.2.2.1 g (h.2.2.2.1 g y), fun y => k.2.2.2.2 (h.2.2.2.2 y)⟩
theorem DJ.st (h : DJ w0 F K n L M p) (hd : p.2.d = none) : St w0 p.1 ((match p.2.c with | some v => [.own v 50 2 M.length (pcells M)] | none => ownP L p.2.a) ++ F) K := by unfold DJ at h; rw [hd] at h; exact h
theorem DJ.mkA {w' : World} {v : Value} (h : DJ w0 F K n L M p) (hn : p.2.a = none ∧ p.2.c = none ∧ p.2.d = none) (hs : St p.1 w' [.own v 50 2 L.length (pcells L)] fun _ _ => True) : DJ w0 F K n L M (w', { p.2 with a := some v }) := by
  obtain ⟨w, a, c, d, e⟩ := p
  obtain ⟨rfl, rfl, rfl⟩ := hn
  exact St.new (h.st rfl) hs.below (.own v 50 2 L.length (pcells L)) (hs.own 0 rfl)
theorem DJ.row (h : DJ w0 F K n L M p) (hn : p.2.c = none ∧ p.2.d = none) {v : Value} (ha : p.2.a = some v) : St w0 p.1 (.own v 50 2 L.length (pcells L) :: F) K := by
  obtain ⟨w, a, c, d, e⟩ := p
  obtain ⟨rfl, rfl⟩ := hn
  dsimp only at ha
  subst ha
  exact h.st rfl
theorem DJ.mkC {w' : World} {u : Value} (hn : p.2.d = none) (hs : St w0 w' (.own u 50 2 M.length (pcells M) :: F) K) : DJ w0 F K n L M (w', { p.2 with c := some u }) := by
  obtain ⟨w, a, c, d, e⟩ := p
  dsimp only at hn
  subst hn
  exact hs
theorem DJ.last (h : DJ w0 F K n L M p) (hd : p.2.d = none) {v : Value} (hc : p.2.c = some v) : St w0 p.1 (.own v 50 2 M.length (pcells M) :: F) K := by
  obtain ⟨w, a, c, d, e⟩ := p
  dsimp only at hd hc
  subst hd hc
  exact h.st rfl
end
theorem owithout_any {w0 w : World} {F : List Fact} {K : (Nat → Prop) → World → Prop} (p : Value) (n : Nat) (L : List (Nat × Nat)) (a b : Nat) (hn : n ≤ 256) (hL : Inr n L) (hA : Asc L) (hC : Acyc L) (hl : L.length ≤ 900000) (hS : St w0 w F K)
    (ko : ∀ D w, K D w → IsOrd w D p n L) (kt : ∀ D w, K D w → DTab w ∧ D 0) :
    Calls Tryd.prog 69 #[p, .int .i64 (a : Nat), .int .i64 (b : Nat)] w fun e w' =>
      ((a, b) ∉ L ∧ e = .returned (.tuple #[.pointer none, .int .i64 4]) ∧ St w0 w' F K) ∨ (a, b) ∈ L ∧ ∃ p', e = .returned (.tuple #[p', .int .i64 0]) ∧ St w0 w' F fun D w => K D w ∧ IsOrd w D p' n (unl L (a, b)) := by
  have KS := hS.stable
  obtain ⟨q, gp, av, bv, sv, xa, xb, rfl, hX⟩ := ko _ _ hS.ro
  have hS := hS.add stable_ordX hX fun b h _ => h
  clear hX
  have HCN := Lib.hid (fun (w : World) (h : OrdX q gp av bv sv xa xb n L (Free F) w) => pindex_any (w := w) (by omega) h.2.1 (a, b))
  have HE := Lib.hid (fun (k : Nat) (hk : L[k]? = some (a, b)) => show (∀ u, u ∈ L.eraseIdx k ↔ u ∈ unl L (a, b)) ∧ Inr n (L.eraseIdx k) ∧ Acyc (L.eraseIdx k) ∧ (a, b) ∈ L from ⟨mem_eraseIdx hA.nodup hk, fun u hu => hL u ((mem_unl.1 ((mem_eraseIdx hA.nodup hk u).1 hu)).1), hC.sub fun u hu => (mem_unl.1 ((mem_eraseIdx hA.nodup hk u).1 hu)).1, List.mem_of_getElem? hk⟩)
  have HU := Lib.hid (unl_asc hA (a, b))
  clear hL hA hC
  go_enter Tryd.func69, Tryd.ntmps69
  go_wp2_with (first
    | ((with_reducible show wpList _ _ _ (⟨_, .binOp _ _ _ _ _, _, _, _, _⟩ :: _) _ _); (first | (refine st_lss rfl _ _ _ _ rfl _ _ _ rfl rfl (fun h_ => ?_) (fun h_ => ?_)) | (refine st_leq rfl _ _ _ _ rfl _ _ _ rfl rfl (fun h_ => ?_) (fun h_ => ?_)) | (refine st_gtr rfl _ _ _ _ rfl _ _ _ rfl rfl (fun h_ => ?_) (fun h_ => ?_)) | (refine st_geq rfl _ _ _ _ rfl _ _ _ rfl rfl (fun h_ => ?_) (fun h_ => ?_)) | (refine st_eql rfl _ _ _ _ rfl _ _ _ rfl rfl (fun h_ => ?_) (fun h_ => ?_)) | (refine st_neq rfl _ _ _ _ rfl _ _ _ rfl rfl (fun h_ => ?_) (fun h_ => ?_))) <;> go_prune)
    | ((with_reducible show wpList _ _ _ (⟨some 14, _, _, _, _, _⟩ :: _) _ _); refine st_kcell hS rfl _ _ rfl _ rfl _ (fun D w h => h.2.1.cell 1 rfl) (by kernel_rfl) ?_)
    | (go_at_call 88; refine (HCN.out _ hS.ro.2).mono ?_; rintro r_ w_ ⟨_, rfl, (⟨k, hk, rfl, hkx⟩ | ⟨rfl, hx⟩), hb_⟩ <;> (replace hS := hS.ext hb_; clear hb_)))
  · obtain ⟨H1, H2, H3, H4⟩ := HE.out k hkx
    have H1 := Lib.hid H1
    have H2 := Lib.hid H2
    have H3 := Lib.hid H3
    have HK := Lib.hid (show (L.eraseIdx k).length = L.length - 1 from List.length_eraseIdx_of_lt hk)
    obtain ⟨KX, k1, k2, hS⟩ : ∃ KX : (Nat → Prop) → World → Prop, (∀ D w, KX D w → K D w) ∧ (∀ D w, KX D w → OrdX q gp av bv sv xa xb n L D w) ∧ St w0 w_ F KX := ⟨_, fun _ _ h => h.1, fun _ _ h => h.2, hS⟩
    clear HCN HE hkx
    obtain ⟨M, hM⟩ : ∃ M, M = L.eraseIdx k := ⟨_, rfl⟩
    have HM := Lib.hid hM
    rw [← hM] at H1 H2 H3 HK
    clear hM
    have hJ0 : DJ w0 F KX n L M (w_.drew, ⟨none, none, none, false⟩) := hS.drew
    have hRr := @DR.refl w0 F KX n L M
    have hRt := @DR.trans w0 F KX n L M
    refine wp_region_ghost (fun i__ v w => match i__ with
      | 0 => v = .pointer (some ⟨q, 0, none⟩)
      | 1 => v = .pointer (some ⟨q, 0, none⟩)
      | 2 => v = .pointer (some ⟨q, 0, none⟩)
      | 3 => w.2.e = true ∧ v = .int .i64 ((n : Nat) : Int)
      | 4 => v = .pointer (some ⟨q, 0, none⟩)
      | 5 => w.2.a = some v
      | 6 => v = .int .i64 ((k : Nat) : Int)
      | 7 => v = .int .i64 ((k : Nat) : Int)
      | 8 => v = .int .i64 ((k + 1 : Nat) : Int)
      | 9 => w.2.c = some v
      | 10 => w.2.d = some v ∧ ∃ (p : Value) (e : Int), v = .tuple #[p, .int .i64 e]
      | 11 => ∃ (p : Value) (e : Int), w.2.d = some (.tuple #[p, .int .i64 e]) ∧ v = p
      | 12 => ∃ (p : Value) (e : Int), w.2.d = some (.tuple #[p, .int .i64 e]) ∧ v = .int .i64 e
      | 13 => ∃ (p : Value) (e : Int), w.2.d = some (.tuple #[p, .int .i64 e]) ∧ v = p
      | 14 => ∃ (p : Value) (e : Int), w.2.d = some (.tuple #[p, .int .i64 e]) ∧ v = .int .i64 e
      | _ => True) (DR w0 F KX n L M) (fun i p => match i with | 3 => p.2.e = false ∧ p.2.d = none | 5 => p.2.a = none ∧ p.2.c = none ∧ p.2.d = none | 9 => p.2.c = none ∧ p.2.d = none | 10 => p.2.d = none | _ => True) (⟨none, none, none, false⟩) (by kernel_rfl) (by kernel_rfl) hRr hRt ?mono ?hN ⟨?r0, ?r1, ?r2, ?r3, ?r4, ?r5, ?r6, ?r7, ?r8, ?r9, ?r10, ?r11, ?r12, ?r13, ?r14, trivial⟩ ?post
    case hN => first | assumption | (intro i; (try dsimp only); split <;> first | trivial | assumption | (left; assumption))
    case mono =>
      intro i v w w' h hb
      match i, h with
      | 0, h => exact h
      | 1, h => exact h
      | 2, h => exact h
      | 3, h => exact ⟨hb.2.2.2.2 h.1, h.2⟩
      | 4, h => exact h
      | 5, h => exact hb.2.1 _ h
      | 6, h => exact h
      | 7, h => exact h
      | 8, h => exact h
      | 9, h => exact hb.2.2.1 _ h
      | 10, h => exact ⟨hb.2.2.2.1 _ h.1, h.2⟩
      | 11, h => exact by obtain ⟨p, e, h1, h2⟩ := h; exact ⟨p, e, hb.2.2.2.1 _ h1, h2⟩
      | 12, h => exact by obtain ⟨p, e, h1, h2⟩ := h; exact ⟨p, e, hb.2.2.2.1 _ h1, h2⟩
      | 13, h => exact by obtain ⟨p, e, h1, h2⟩ := h; exact ⟨p, e, hb.2.2.2.1 _ h1, h2⟩
      | 14, h => exact by obtain ⟨p, e, h1, h2⟩ := h; exact ⟨p, e, hb.2.2.2.1 _ h1, h2⟩
      | _ + 15, h => trivial
    case r0 =>
      refine truleGh fun b__ w hW hN hold hpre => ⟨fun hwant K hK => ?_, fun hwant => ?_⟩
      · clear hwant
        have e0 : b__.eval (.tmp 0) = .pointer (some ⟨q, 0, none⟩) := (hold 0 (by kernel_rfl)).trans rfl
        exact opw_move rfl e0 (hK _ _ rfl ⟨hRr _, fun _ _ h => h⟩)
      · rw [want_none rfl] at hwant; cases hwant
    case r1 =>
      refine truleGh fun b__ w hW hN hold hpre => ⟨fun hwant K hK => ?_, fun hwant => ?_⟩
      · clear hwant
        have e21 : b__.eval (.tmp 21) = .pointer (some ⟨q, 0, none⟩) := hpre ⟨0, _⟩ (Array.mem_of_getElem? (i := 0) rfl) rfl _ _ rfl rfl
        exact opw_nil rfl e21 (hK _ _ rfl ⟨hRr _, fun _ _ h => h⟩)
      · rw [want_none rfl] at hwant; cases hwant
    case r2 =>
      refine truleGh fun b__ w hW hN hold hpre => ⟨fun hwant K hK => ?_, fun hwant => ?_⟩
      · clear hwant
        have e22 : b__.eval (.tmp 22) = .pointer (some ⟨q, 0, none⟩) := hpre ⟨1, _⟩ (Array.mem_of_getElem? (i := 0) rfl) rfl _ _ rfl rfl
        exact opw_faddr rfl e22 (by kernel_rfl) (hK _ _ rfl ⟨hRr _, fun _ _ h => h⟩)
      · rw [want_none rfl] at hwant; cases hwant
    case r3 =>
      refine truleGh fun b__ w hW hN hold hpre => ⟨fun hwant K hK => ?_, fun hwant => ?_⟩
      · clear hwant
        have e23 : b__.eval (.tmp 23) = .pointer (some ⟨q, 0, none⟩) := hpre ⟨2, _⟩ (Array.mem_of_getElem? (i := 0) rfl) rfl _ _ rfl rfl
        exact opw_cell rfl e23 (by kernel_rfl) ((k2 _ _ ((hW.1 hJ0).st hN.2).ro).1.cell 0 rfl) (hK (.int .i64 (n : Nat)) (w.1, { w.2 with e := true }) ⟨rfl, rfl⟩ ⟨⟨fun hj => hj, (fun _ h => h), (fun _ h => h), (fun _ h => h), (fun _ => rfl)⟩, fun j hj hn => by split <;> first | exact absurd rfl hj | exact hn | trivial⟩)
      · rw [want_none rfl] at hwant; cases hwant
    case r4 =>
      refine truleGh fun b__ w hW hN hold hpre => ⟨fun hwant K hK => ?_, fun hwant => ?_⟩
      · clear hwant
        have e0 : b__.eval (.tmp 0) = .pointer (some ⟨q, 0, none⟩) := (hold 0 (by kernel_rfl)).trans rfl
        exact opw_move rfl e0 (hK _ _ rfl ⟨hRr _, fun _ _ h => h⟩)
      · rw [want_none rfl] at hwant; cases hwant
    case r5 =>
      refine truleGh fun b__ w hW hN hold hpre => ⟨fun hwant K hK => ?_, fun hwant => ?_⟩
      · clear hwant
        have e25 : b__.eval (.tmp 25) = .pointer (some ⟨q, 0, none⟩) := hpre ⟨4, _⟩ (Array.mem_of_getElem? (i := 0) rfl) rfl _ _ rfl rfl
        exact opw_callw rfl (by kernel_rfl) (by simp only [List.map_cons, List.map_nil, e25]) (opairs_any (k2 _ _ ((hW.1 hJ0).st hN.2.2).ro).ord (by omega)) fun e w' ⟨v, he, hs⟩ => ⟨v, he, hK v (w', { w.2 with a := some v }) rfl ⟨⟨fun hj => hj.mkA hN hs, (fun g h => by rw [hN.1] at h; cases h), (fun _ h => h), (fun _ h => h), id⟩, fun j hj hn => by split <;> first | exact absurd rfl hj | exact hn | trivial⟩⟩
      · rw [want_none rfl] at hwant; cases hwant
    case r6 =>
      refine truleGh fun b__ w hW hN hold hpre => ⟨fun hwant K hK => ?_, fun hwant => ?_⟩
      · clear hwant
        have e8 : b__.eval (.tmp 8) = .int .i64 ((k : Nat) : Int) := (hold 8 (by kernel_rfl)).trans rfl
        exact opw_move rfl e8 (hK _ _ rfl ⟨hRr _, fun _ _ h => h⟩)
      · rw [want_none rfl] at hwant; cases hwant
    case r7 =>
      refine truleGh fun b__ w hW hN hold hpre => ⟨fun hwant K hK => ?_, fun hwant => ?_⟩
      · clear hwant
        have e8 : b__.eval (.tmp 8) = .int .i64 ((k : Nat) : Int) := (hold 8 (by kernel_rfl)).trans rfl
        exact opw_move rfl e8 (hK _ _ rfl ⟨hRr _, fun _ _ h => h⟩)
      · rw [want_none rfl] at hwant; cases hwant
    case r8 =>
      refine truleGh fun b__ w hW hN hold hpre => ⟨fun hwant K hK => ?_, fun hwant => ?_⟩
      · clear hwant
        have e28 : b__.eval (.tmp 28) = .int .i64 ((k : Nat) : Int) := hpre ⟨7, _⟩ (Array.mem_of_getElem? (i := 0) rfl) rfl _ _ rfl rfl
        exact opw_bin (vx := .int .i64 ((k : Nat) : Int)) (vy := .int .i64 1) (v := .int .i64 ((k + 1 : Nat) : Int)) rfl e28 rfl rfl (run_add64 (by omega) (by omega)) (hK _ _ rfl ⟨hRr _, fun _ _ h => h⟩)
      · rw [want_none rfl] at hwant; cases hwant
    case r9 =>
      refine truleGh fun b__ w hW hN hold hpre => ⟨fun hwant K hK => ?_, fun hwant => ?_⟩
      · clear hwant
        have e26 : (fun (v : Value) (w : World × _) => w.2.a = some v) (b__.eval (.tmp 26)) w := hpre ⟨5, _⟩ (Array.mem_of_getElem? (i := 0) rfl) rfl _ _ rfl rfl
        have e27 : b__.eval (.tmp 27) = .int .i64 ((k : Nat) : Int) := hpre ⟨6, _⟩ (Array.mem_of_getElem? (i := 1) rfl) rfl _ _ rfl rfl
        have e29 : b__.eval (.tmp 29) = .int .i64 ((k + 1 : Nat) : Int) := hpre ⟨8, _⟩ (Array.mem_of_getElem? (i := 2) rfl) rfl _ _ rfl rfl
        have hSx := (hW.1 hJ0).row hN e26
        obtain ⟨g, cap, hv, _, _⟩ := own_pos (hSx.own 0 rfl) (by omega)
        rw [hv] at hSx
        refine opw_callw rfl (by kernel_rfl) (by simp only [List.map_cons, List.map_nil, hv, e27, e29]) (delp_any g L.length cap k (k + 1) L rfl (by omega) rfl (by omega) hSx) fun e w' h => ?_
        obtain ⟨he, h⟩ := h
        rw [← HM.out, ← HK.out] at h
        rw [← HK.out] at he
        exact ⟨_, he, hK _ (w', { w.2 with c := some _ }) rfl ⟨⟨fun _ => DJ.mkC hN.2 h, (fun _ h => h), (fun g h => by rw [hN.1] at h; cases h), (fun _ h => h), id⟩, fun j hj hn => by split <;> first | exact absurd rfl hj | exact hn | exact absurd (hn.1.symm.trans e26) nofun | trivial⟩⟩
      · rw [want_none rfl] at hwant; cases hwant
    case r10 =>
      refine truleGh fun b__ w hW hN hold hpre => ⟨fun hwant K hK => ?_, fun hwant => ?_⟩
      · clear hwant
        have e24 : (fun (v : Value) (w : World × _) => w.2.e = true ∧ v = .int .i64 ((n : Nat) : Int)) (b__.eval (.tmp 24)) w := hpre ⟨3, _⟩ (Array.mem_of_getElem? (i := 0) rfl) rfl _ _ rfl rfl
        have e30 : (fun (v : Value) (w : World × _) => w.2.c = some v) (b__.eval (.tmp 30)) w := hpre ⟨9, _⟩ (Array.mem_of_getElem? (i := 1) rfl) rfl _ _ rfl rfl
        refine opw_callw rfl (by kernel_rfl) (by simp only [List.map_cons, List.map_nil, e24.2]) (onew_own n M _ hn H2.out (by have := HK.out; omega) ((hW.1 hJ0).last hN e30) (fun D w h => kt D w (k1 D w h))) fun e w' h => ?_
        obtain ⟨v, he, hP⟩ := h
        exact ⟨v, he, hK v (w', { w.2 with d := some v }) ⟨rfl, hP.shape⟩ ⟨⟨fun _ => hP, (fun _ h => h), (fun _ h => h), (fun g h => by rw [hN] at h; cases h), id⟩, fun j hj hn => by split <;> first | exact absurd rfl hj | exact hn | exact absurd (hn.1.symm.trans e24.1) nofun | exact absurd (hn.2.1.symm.trans e30) nofun | exact absurd (hn.1.symm.trans e30) nofun | trivial⟩⟩
      · rw [want_none rfl] at hwant; cases hwant
    case r11 =>
      refine truleGh fun b__ w hW hN hold hpre => ⟨fun hwant K hK => ?_, fun hwant => ?_⟩
      · clear hwant
        have e31 : (fun (v : Value) (w : World × _) => w.2.d = some v ∧ ∃ (p : Value) (e : Int), v = .tuple #[p, .int .i64 e]) (b__.eval (.tmp 31)) w := hpre ⟨10, _⟩ (Array.mem_of_getElem? (i := 0) rfl) rfl _ _ rfl rfl
        obtain ⟨hd, p, e, hv⟩ := e31
        rw [hv] at hd
        exact opw_extract rfl hv rfl (hK _ _ ⟨p, e, hd, rfl⟩ ⟨hRr _, fun _ _ h => h⟩)
      · rw [want_none rfl] at hwant; cases hwant
    case r12 =>
      refine truleGh fun b__ w hW hN hold hpre => ⟨fun hwant K hK => ?_, fun hwant => ?_⟩
      · clear hwant
        have e31 : (fun (v : Value) (w : World × _) => w.2.d = some v ∧ ∃ (p : Value) (e : Int), v = .tuple #[p, .int .i64 e]) (b__.eval (.tmp 31)) w := hpre ⟨10, _⟩ (Array.mem_of_getElem? (i := 0) rfl) rfl _ _ rfl rfl
        obtain ⟨hd, p, e, hv⟩ := e31
        rw [hv] at hd
        exact opw_extract rfl hv rfl (hK _ _ ⟨p, e, hd, rfl⟩ ⟨hRr _, fun _ _ h => h⟩)
      · rw [want_none rfl] at hwant; cases hwant
    case r13 =>
      refine truleGh fun b__ w hW hN hold hpre => ⟨fun hwant K hK => ?_, fun hwant => ?_⟩
      · clear hwant
        have e32 : (fun (v : Value) (w : World × _) => ∃ (p : Value) (e : Int), w.2.d = some (.tuple #[p, .int .i64 e]) ∧ v = p) (b__.eval (.tmp 32)) w := hpre ⟨11, _⟩ (Array.mem_of_getElem? (i := 0) rfl) rfl _ _ rfl rfl
        exact opw_assign rfl rfl (hK _ _ e32 ⟨hRr _, fun _ _ h => h⟩)
      · rw [want_none rfl] at hwant; cases hwant
    case r14 =>
      refine truleGh fun b__ w hW hN hold hpre => ⟨fun hwant K hK => ?_, fun hwant => ?_⟩
      · clear hwant
        have e33 : (fun (v : Value) (w : World × _) => ∃ (p : Value) (e : Int), w.2.d = some (.tuple #[p, .int .i64 e]) ∧ v = .int .i64 e) (b__.eval (.tmp 33)) w := hpre ⟨12, _⟩ (Array.mem_of_getElem? (i := 0) rfl) rfl _ _ rfl rfl
        exact opw_assign rfl rfl (hK _ _ e33 ⟨hRr _, fun _ _ h => h⟩)
      · rw [want_none rfl] at hwant; cases hwant
    case post =>
      intro b__ wz hW hdf hsz hold hT hZ
      have e21 : b__.eval (.tmp 21) = .pointer (some ⟨q, 0, none⟩) := hT 0 _ 21 rfl rfl
      have e22 : b__.eval (.tmp 22) = .pointer (some ⟨q, 0, none⟩) := hT 1 _ 22 rfl rfl
      have e23 : b__.eval (.tmp 23) = .pointer (some ⟨q, 0, none⟩) := hT 2 _ 23 rfl rfl
      have e24 : (fun (v : Value) (w : World × _) => w.2.e = true ∧ v = .int .i64 ((n : Nat) : Int)) (b__.eval (.tmp 24)) wz := hT 3 _ 24 rfl rfl
      have e25 : b__.eval (.tmp 25) = .pointer (some ⟨q, 0, none⟩) := hT 4 _ 25 rfl rfl
      have e26 : (fun (v : Value) (w : World × _) => w.2.a = some v) (b__.eval (.tmp 26)) wz := hT 5 _ 26 rfl rfl
      have e27 : b__.eval (.tmp 27) = .int .i64 ((k : Nat) : Int) := hT 6 _ 27 rfl rfl
      have e28 : b__.eval (.tmp 28) = .int .i64 ((k : Nat) : Int) := hT 7 _ 28 rfl rfl
      have e29 : b__.eval (.tmp 29) = .int .i64 ((k + 1 : Nat) : Int) := hT 8 _ 29 rfl rfl
      have e30 : (fun (v : Value) (w : World × _) => w.2.c = some v) (b__.eval (.tmp 30)) wz := hT 9 _ 30 rfl rfl
      have e31 : (fun (v : Value) (w : World × _) => w.2.d = some v ∧ ∃ (p : Value) (e : Int), v = .tuple #[p, .int .i64 e]) (b__.eval (.tmp 31)) wz := hT 10 _ 31 rfl rfl
      have e32 : (fun (v : Value) (w : World × _) => ∃ (p : Value) (e : Int), w.2.d = some (.tuple #[p, .int .i64 e]) ∧ v = p) (b__.eval (.tmp 32)) wz := hT 11 _ 32 rfl rfl
      have e33 : (fun (v : Value) (w : World × _) => ∃ (p : Value) (e : Int), w.2.d = some (.tuple #[p, .int .i64 e]) ∧ v = .int .i64 e) (b__.eval (.tmp 33)) wz := hT 12 _ 33 rfl rfl
      have e6 : (fun (v : Value) (w : World × _) => ∃ (p : Value) (e : Int), w.2.d = some (.tuple #[p, .int .i64 e]) ∧ v = p) (b__.eval (.tmp 6)) wz := hT 13 _ 6 rfl rfl
      have e7 : (fun (v : Value) (w : World × _) => ∃ (p : Value) (e : Int), w.2.d = some (.tuple #[p, .int .i64 e]) ∧ v = .int .i64 e) (b__.eval (.tmp 7)) wz := hT 14 _ 7 rfl rfl
      obtain ⟨vs, hvs, hb⟩ := frame_of hdf hsz hold
      replace e21 : vs 21 = .pointer (some ⟨q, 0, none⟩) := (hvs 21).symm.trans e21
      replace e22 : vs 22 = .pointer (some ⟨q, 0, none⟩) := (hvs 22).symm.trans e22
      replace e23 : vs 23 = .pointer (some ⟨q, 0, none⟩) := (hvs 23).symm.trans e23
      replace e24 := (hvs 24) ▸ e24
      replace e25 : vs 25 = .pointer (some ⟨q, 0, none⟩) := (hvs 25).symm.trans e25
      replace e26 := (hvs 26) ▸ e26
      replace e27 : vs 27 = .int .i64 ((k : Nat) : Int) := (hvs 27).symm.trans e27
      replace e28 : vs 28 = .int .i64 ((k : Nat) : Int) := (hvs 28).symm.trans e28
      replace e29 : vs 29 = .int .i64 ((k + 1 : Nat) : Int) := (hvs 29).symm.trans e29
      replace e30 := (hvs 30) ▸ e30
      replace e31 := (hvs 31) ▸ e31
      replace e32 := (hvs 32) ▸ e32
      replace e33 := (hvs 33) ▸ e33
      replace e6 := (hvs 6) ▸ e6
      replace e7 := (hvs 7) ▸ e7
      subst hb
      clear hvs hold hT hdf hsz
      simp only [setAll, Act.put, List.setIfInBounds_toArray, List.set_cons_zero, List.set_cons_succ, List.getElem_toArray, List.getElem_cons_succ, List.getElem_cons_zero]
      obtain ⟨r1, z1, hd1, e6⟩ := e6
      obtain ⟨r2, z2, hd2, e7⟩ := e7
      rw [hd1] at hd2
      obtain ⟨rfl, rfl⟩ : r1 = r2 ∧ z1 = z2 := by simpa using hd2
      have hJ := hW.1 hJ0
      unfold DJ at hJ
      rw [hd1] at hJ
      have hP := hJ.mono KS k1
      rcases hP with ⟨hc, _, _⟩ | ⟨p', L', hr, h1, h2, _, hSf⟩
      · exact absurd H3.out hc
      · obtain ⟨rfl, rfl⟩ : r1 = p' ∧ z1 = 0 := by simpa using hr
        obtain rfl : L' = unl L (a, b) := Asc.uniq h1 HU.out fun u => (h2 u).trans (H1.out u)
        rw [e6, e7]
        generalize wz.1 = wf at *
        clear hJ hJ0 hRr hRt hW hZ hd1 hd2 e6 e7 h1 h2
        go_wp2_with fail
        go_ret2
        first | exact .inr ⟨H4, _, rfl, hSf⟩ | exact ⟨_, rfl, hSf⟩
  · go_ret2
    exact .inl ⟨hx, rfl, hS.mono KS fun _ _ h => h.1⟩
end Go.Proofs.YtmlkgaiphpimiaaDoor
namespace Go.Proofs.YtmlkgaiphpimiaaDoor
open Go.RowKit
attribute [local go_sem ↓] Go.wp_at_zero Go.wp_at_succ
set_option maxRecDepth 20000
set_option exponentiation.threshold 5000

theorem role_any (r : Int) (w : World) : Calls Tryd.prog 55 #[.int .i64 r] w (Ret (fun x _ => x = .bool (decide (1 ≤ r ∧ r ≤ 63))) w) := by
  by_cases h1 : 1 ≤ r
  · by_cases h2 : r ≤ 63
    · have HR := Lib.hid (show decide (1 ≤ r ∧ r ≤ 63) = true by simp [h1, h2])
      generalize decide (1 ≤ r ∧ r ≤ 63) = R at *
      go_enter Tryd.func55, Tryd.ntmps55
      go_wp2_with (first | ((with_reducible show wpList _ _ _ (⟨_, .binOp _ _ _ _ _, _, _, _, _⟩ :: _) _ _); (first | (refine st_lss rfl _ _ _ _ rfl _ _ _ rfl rfl (fun h_ => ?_) (fun h_ => ?_)) | (refine st_leq rfl _ _ _ _ rfl _ _ _ rfl rfl (fun h_ => ?_) (fun h_ => ?_)) | (refine st_gtr rfl _ _ _ _ rfl _ _ _ rfl rfl (fun h_ => ?_) (fun h_ => ?_)) | (refine st_geq rfl _ _ _ _ rfl _ _ _ rfl rfl (fun h_ => ?_) (fun h_ => ?_)) | (refine st_eql rfl _ _ _ _ rfl _ _ _ rfl rfl (fun h_ => ?_) (fun h_ => ?_)) | (refine st_neq rfl _ _ _ _ rfl _ _ _ rfl rfl (fun h_ => ?_) (fun h_ => ?_))) <;> go_prune))
      go_ret
      exact Ret.mk (congrArg Value.bool HR.out.symm) (Below.refl _ _)
    · have HR := Lib.hid (show decide (1 ≤ r ∧ r ≤ 63) = false by simp [h2])
      generalize decide (1 ≤ r ∧ r ≤ 63) = R at *
      go_enter Tryd.func55, Tryd.ntmps55
      go_wp2_with (first | ((with_reducible show wpList _ _ _ (⟨_, .binOp _ _ _ _ _, _, _, _, _⟩ :: _) _ _); (first | (refine st_lss rfl _ _ _ _ rfl _ _ _ rfl rfl (fun h_ => ?_) (fun h_ => ?_)) | (refine st_leq rfl _ _ _ _ rfl _ _ _ rfl rfl (fun h_ => ?_) (fun h_ => ?_)) | (refine st_gtr rfl _ _ _ _ rfl _ _ _ rfl rfl (fun h_ => ?_) (fun h_ => ?_)) | (refine st_geq rfl _ _ _ _ rfl _ _ _ rfl rfl (fun h_ => ?_) (fun h_ => ?_)) | (refine st_eql rfl _ _ _ _ rfl _ _ _ rfl rfl (fun h_ => ?_) (fun h_ => ?_)) | (refine st_neq rfl _ _ _ _ rfl _ _ _ rfl rfl (fun h_ => ?_) (fun h_ => ?_))) <;> go_prune))
      go_ret
      exact Ret.mk (congrArg Value.bool HR.out.symm) (Below.refl _ _)
  · have HR := Lib.hid (show decide (1 ≤ r ∧ r ≤ 63) = false by simp [h1])
    generalize decide (1 ≤ r ∧ r ≤ 63) = R at *
    go_enter Tryd.func55, Tryd.ntmps55
    go_wp2_with (first | ((with_reducible show wpList _ _ _ (⟨_, .binOp _ _ _ _ _, _, _, _, _⟩ :: _) _ _); (first | (refine st_lss rfl _ _ _ _ rfl _ _ _ rfl rfl (fun h_ => ?_) (fun h_ => ?_)) | (refine st_leq rfl _ _ _ _ rfl _ _ _ rfl rfl (fun h_ => ?_) (fun h_ => ?_)) | (refine st_gtr rfl _ _ _ _ rfl _ _ _ rfl rfl (fun h_ => ?_) (fun h_ => ?_)) | (refine st_geq rfl _ _ _ _ rfl _ _ _ rfl rfl (fun h_ => ?_) (fun h_ => ?_)) | (refine st_eql rfl _ _ _ _ rfl _ _ _ rfl rfl (fun h_ => ?_) (fun h_ => ?_)) | (refine st_neq rfl _ _ _ _ rfl _ _ _ rfl rfl (fun h_ => ?_) (fun h_ => ?_))) <;> go_prune))
    go_ret
    exact Ret.mk (congrArg Value.bool HR.out.symm) (Below.refl _ _)
def HierX (q : Nat) (o : Value) (L : List (Nat × Nat)) (D : Nat → Prop) (w : World) : Prop := IsBox w D q #[o] ∧ IsOrd w D o 64 L
theorem stable_hierX {q : Nat} {o : Value} {L : List (Nat × Nat)} : Stable (HierX q o L) := stable_isBox.and stable_ord
def IsH (w : World) (D : Nat → Prop) (p : Value) (L : List (Nat × Nat)) : Prop := ∃ (q : Nat) (o : Value), p = .pointer (some ⟨q, 0, none⟩) ∧ HierX q o L D w
theorem stable_isH {p : Value} {L : List (Nat × Nat)} : Stable fun D w => IsH w D p L := fun D D' w w' h a b c => by
  obtain ⟨q, o, h1, h2⟩ := h
  exact ⟨q, o, h1, stable_hierX D D' w w' h2 a b c⟩
structure HOK (L : List (Nat × Nat)) : Prop where
  asc : Asc L
  role : ∀ x ∈ L, (1 ≤ x.1 ∧ x.1 < 64) ∧ 1 ≤ x.2 ∧ x.2 < 64
  acyc : Acyc L
theorem HOK.inr {L : List (Nat × Nat)} (h : HOK L) : Inr 64 L := fun x hx => ⟨(h.role x hx).1.2, (h.role x hx).2.2⟩
theorem HOK.nil : HOK [] := ⟨.nil, by simp, fun a h => by obtain ⟨y, h, _⟩ := h.first; simp at h⟩
theorem hnew_any {w0 w : World} {F : List Fact} {K : (Nat → Prop) → World → Prop} (hS : St w0 w F K) (kt : ∀ D w, K D w → DTab w ∧ D 0) :
    Calls Tryd.prog 53 #[] w fun e w' => ∃ p, e = .returned p ∧ St w0 w' F fun D w => K D w ∧ IsH w D p [] := by
  have KS := hS.stable
  have HN := Lib.hid (onew_any 64 [] (.slice none 0 0) (by omega) (by intro x hx; simp at hx) (by simp) hS (fun D w _ => ⟨rfl, none, 0, rfl, by simp, by simp, fun h => by simp at h⟩) kt)
  clear hS
  go_enter Tryd.func53, Tryd.ntmps53
  go_wp2_with (first
    | (go_at_call 20; refine HN.out.mono ?_; rintro e w_ (⟨h1, -, -⟩ | ⟨p, L, rfl, hA, hm, hc, hS⟩); · exact absurd HOK.nil.acyc h1
       obtain rfl : L = [] := by
         cases L with
         | nil => rfl
         | cons x r => exact absurd ((hm x).1 (by simp)) (by simp)
       clear hA hm hc
       obtain ⟨qo, _, _, _, _, _, _, rfl, -⟩ := hS.ro.2)
    | ((with_reducible show wpList _ _ _ (⟨some 9, _, _, _, _, _⟩ :: _) _ _); refine st_box hS rfl _ _ rfl (.agg #[.pointer (some ⟨qo, 0, none⟩)]) _ rfl rfl ?_; clear hS; intro q w_ hS; (try simp only [Act.put, Act.eval, List.set_cons_zero, List.set_cons_succ, List.setIfInBounds_toArray, Array.getD_eq_getD_getElem?, List.getElem?_toArray, List.getElem?_cons_succ, List.getElem?_cons_zero, Option.getD_some, Value.cells] at hS)))
  go_ret
  exact ⟨_, rfl, (hS.sealB 0 (by simp) rfl).mono (KS.and stable_isH) fun D w h => ⟨h.1.1, q, _, rfl, h.2, h.1.2⟩⟩
theorem hlinks_any {w0 : World} {D : Nat → Prop} {p : Value} {L : List (Nat × Nat)} (h : IsH w0 D p L) (hl : L.length ≤ 1000000) : Calls Tryd.prog 31 #[p] w0 fun e w' => ∃ v, e = .returned v ∧ St w0 w' [.own v 50 2 L.length (pcells L)] fun _ _ => True := by
  obtain ⟨q, o, rfl, hb, ho⟩ := h
  have k0 := Lib.hid (hb.cell 0 (x := o) rfl)
  have HC := Lib.hid (opairs_any ho hl)
  clear hb ho
  go_enter Tryd.func31, Tryd.ntmps31
  go_wp2_with (first
    | ((with_reducible show wpList _ _ _ (⟨_, .binOp _ _ _ _ _, _, _, _, _⟩ :: _) _ _); (first | (refine st_lss rfl _ _ _ _ rfl _ _ _ rfl rfl (fun h_ => ?_) (fun h_ => ?_)) | (refine st_leq rfl _ _ _ _ rfl _ _ _ rfl rfl (fun h_ => ?_) (fun h_ => ?_)) | (refine st_gtr rfl _ _ _ _ rfl _ _ _ rfl rfl (fun h_ => ?_) (fun h_ => ?_)) | (refine st_geq rfl _ _ _ _ rfl _ _ _ rfl rfl (fun h_ => ?_) (fun h_ => ?_)) | (refine st_eql rfl _ _ _ _ rfl _ _ _ rfl rfl (fun h_ => ?_) (fun h_ => ?_)) | (refine st_neq rfl _ _ _ _ rfl _ _ _ rfl rfl (fun h_ => ?_) (fun h_ => ?_))) <;> go_prune)
    | ((with_reducible show wpList _ _ _ (⟨_, .load _ _, _, _, _, _⟩ :: _) _ _); refine BigFrame.wpList_want rfl fun _ hK => opw_cell rfl rfl (by kernel_rfl) k0.out (hK _ _ ?_))
    | (go_at_call 28; refine HC.out.mono ?_; rintro e w_ ⟨v, rfl, hS⟩))
  go_ret
  exact ⟨v, rfl, hS⟩
def LinkP (w0 : World) (F : List Fact) (K : (Nat → Prop) → World → Prop) (L : List (Nat × Nat)) (a b : Int) (r : Value) (z : Int) (w : World) : Prop :=
  (¬ ((1 ≤ a ∧ a ≤ 63) ∧ (1 ≤ b ∧ b ≤ 63) ∧ a ≠ b) ∧ r = .pointer none ∧ z = 1 ∧ St w0 w F K) ∨
  ∃ x y : Nat, a = (x : Int) ∧ b = (y : Int) ∧ (1 ≤ x ∧ x < 64) ∧ (1 ≤ y ∧ y < 64) ∧ x ≠ y ∧
    (((x, y) ∈ L ∧ r = .pointer none ∧ z = 5 ∧ St w0 w F K) ∨ ((x, y) ∉ L ∧ ¬ Acyc (L ++ [(x, y)]) ∧ r = .pointer none ∧ z = 16 ∧ St w0 w F K) ∨
      ((x, y) ∉ L ∧ z = 0 ∧ ∃ L' : List (Nat × Nat), HOK L' ∧ (∀ u, u ∈ L' ↔ u ∈ L ++ [(x, y)]) ∧ St w0 w F fun D w => K D w ∧ IsH w D r L'))
theorem hlink_any {w0 w : World} {F : List Fact} {K : (Nat → Prop) → World → Prop} (p : Value) (L : List (Nat × Nat)) (a b : Int) (hH : HOK L) (hl : L.length ≤ 900000) (hS : St w0 w F K)
    (ko : ∀ D w, K D w → IsH w D p L) (kt : ∀ D w, K D w → DTab w ∧ D 0) :
    Calls Tryd.prog 44 #[p, .int .i64 a, .int .i64 b] w fun e w' => ∃ (r : Value) (z : Int), e = .returned (.tuple #[r, .int .i64 z]) ∧ LinkP w0 F K L a b r z w' := by
  have KS := hS.stable
  obtain ⟨q, o, rfl, hX⟩ := ko _ _ hS.ro
  have hS := hS.add stable_hierX hX fun b h _ => h
  clear hX
  have HH := Lib.hid hH
  clear hH
  by_cases hra : 1 ≤ a ∧ a ≤ 63
  · have HRA := Lib.hid (decide_eq_true hra)
    by_cases hrb : 1 ≤ b ∧ b ≤ 63
    · have HRB := Lib.hid (decide_eq_true hrb)
      by_cases hab : a = b
      · subst hab
        have HNO : Hid (¬ ((1 ≤ a ∧ a ≤ 63) ∧ (1 ≤ a ∧ a ≤ 63) ∧ a ≠ a)) := Lib.hid fun h => h.2.2 rfl
        clear hra hrb
        go_enter Tryd.func44, Tryd.ntmps44
        go_wp2_with (first
          | ((with_reducible show wpList _ _ _ (⟨_, .binOp _ _ _ _ _, _, _, _, _⟩ :: _) _ _); (first | (refine st_lss rfl _ _ _ _ rfl _ _ _ rfl rfl (fun h_ => ?_) (fun h_ => ?_)) | (refine st_leq rfl _ _ _ _ rfl _ _ _ rfl rfl (fun h_ => ?_) (fun h_ => ?_)) | (refine st_gtr rfl _ _ _ _ rfl _ _ _ rfl rfl (fun h_ => ?_) (fun h_ => ?_)) | (refine st_geq rfl _ _ _ _ rfl _ _ _ rfl rfl (fun h_ => ?_) (fun h_ => ?_)) | (refine st_eql rfl _ _ _ _ rfl _ _ _ rfl rfl (fun h_ => ?_) (fun h_ => ?_)) | (refine st_neq rfl _ _ _ _ rfl _ _ _ rfl rfl (fun h_ => ?_) (fun h_ => ?_))) <;> go_prune)
          | (go_at_call 55; refine (role_any _ _).mono ?_; (first | rw [HRA.out] | rw [HRB.out]); rintro r_ w_ ⟨_, rfl, rfl, hb_⟩; replace hS := hS.ext hb_; clear hb_))
        go_ret2
        exact ⟨_, _, rfl, .inl ⟨HNO.out, rfl, rfl, hS.mono KS fun _ _ h => h.1⟩⟩
      · obtain ⟨x, rfl⟩ : ∃ x : Nat, a = (x : Int) := ⟨a.toNat, by omega⟩
        obtain ⟨y, rfl⟩ : ∃ y : Nat, b = (y : Int) := ⟨b.toNat, by omega⟩
        have hx1 : Hid (1 ≤ x ∧ x < 64) := Lib.hid (by omega)
        have hy1 : Hid (1 ≤ y ∧ y < 64) := Lib.hid (by omega)
        have hxy : Hid (x ≠ y) := Lib.hid (by omega)
        clear hra hrb
        have HW := Lib.hid (fun (w : World) (h : St w0 w F fun D w => K D w ∧ HierX q o L D w) => owith_any o 64 L x y (by omega) HH.out.inr hl hx1.out.2 hy1.out.2 h (fun D w h => h.2.2) (fun D w h => kt D w h.1))
        go_enter Tryd.func44, Tryd.ntmps44
        go_wp2_with (first
          | ((with_reducible show wpList _ _ _ (⟨_, .binOp _ _ _ _ _, _, _, _, _⟩ :: _) _ _); (first | (refine st_lss rfl _ _ _ _ rfl _ _ _ rfl rfl (fun h_ => ?_) (fun h_ => ?_)) | (refine st_leq rfl _ _ _ _ rfl _ _ _ rfl rfl (fun h_ => ?_) (fun h_ => ?_)) | (refine st_gtr rfl _ _ _ _ rfl _ _ _ rfl rfl (fun h_ => ?_) (fun h_ => ?_)) | (refine st_geq rfl _ _ _ _ rfl _ _ _ rfl rfl (fun h_ => ?_) (fun h_ => ?_)) | (refine st_eql rfl _ _ _ _ rfl _ _ _ rfl rfl (fun h_ => ?_) (fun h_ => ?_)) | (refine st_neq rfl _ _ _ _ rfl _ _ _ rfl rfl (fun h_ => ?_) (fun h_ => ?_))) <;> go_prune)
          | (go_at_call 55; refine (role_any _ _).mono ?_; (first | rw [HRA.out] | rw [HRB.out]); rintro r_ w_ ⟨_, rfl, rfl, hb_⟩; replace hS := hS.ext hb_; clear hb_)
          | ((with_reducible show wpList _ _ _ (⟨_, .load _ _, _, _, _, _⟩ :: _) _ _); refine st_kcell hS rfl _ _ rfl _ rfl _ (fun D w h => h.2.1.cell 0 rfl) (by kernel_rfl) ?_)
          | (go_at_call 73; refine (HW.out _ hS).mono ?_; rintro e w_ (⟨hm, rfl, hS⟩ | ⟨hm, v, rfl, (⟨hc, rfl, hS⟩ | ⟨pp, L', rfl, hA, hmm, hc, hS⟩)⟩) <;> (try obtain ⟨qo, _, _, _, _, _, _, rfl, -⟩ := hS.ro.2))
          | ((with_reducible show wpList _ _ _ (⟨some 42, _, _, _, _, _⟩ :: _) _ _); refine st_box hS rfl _ _ rfl (.agg #[.pointer (some ⟨qo, 0, none⟩)]) _ rfl rfl ?_; clear hS; intro g w_ hS; (try simp only [Act.put, Act.eval, List.set_cons_zero, List.set_cons_succ, List.setIfInBounds_toArray, Array.getD_eq_getD_getElem?, List.getElem?_toArray, List.getElem?_cons_succ, List.getElem?_cons_zero, Option.getD_some, Value.cells] at hS)))
        · go_ret2
          exact ⟨_, _, rfl, .inr ⟨x, y, rfl, rfl, hx1.out, hy1.out, hxy.out, .inl ⟨hm, rfl, rfl, hS.mono KS fun _ _ h => h.1⟩⟩⟩
        · go_ret2
          exact ⟨_, _, rfl, .inr ⟨x, y, rfl, rfl, hx1.out, hy1.out, hxy.out, .inr (.inl ⟨hm, hc, rfl, rfl, hS.mono KS fun _ _ h => h.1⟩)⟩⟩
        · go_ret2
          refine ⟨_, _, rfl, .inr ⟨x, y, rfl, rfl, hx1.out, hy1.out, hxy.out, .inr (.inr ⟨hm, rfl, L', ⟨hA, fun u hu => ?_, hc⟩, hmm, (hS.sealB 0 (by simp) rfl).mono (KS.and stable_isH) fun D w h => ⟨h.1.1.1, g, _, rfl, h.2, h.1.2⟩⟩)⟩⟩
          rcases List.mem_append.1 ((hmm u).1 hu) with h | h
          · exact HH.out.role u h
          · rw [List.mem_singleton] at h; subst h; exact ⟨hx1.out, hy1.out⟩
    · have HRB := Lib.hid (decide_eq_false hrb)
      have HNO : Hid (¬ ((1 ≤ a ∧ a ≤ 63) ∧ (1 ≤ b ∧ b ≤ 63) ∧ a ≠ b)) := Lib.hid fun h => hrb h.2.1
      clear hra hrb
      go_enter Tryd.func44, Tryd.ntmps44
      go_wp2_with (first
        | ((with_reducible show wpList _ _ _ (⟨_, .binOp _ _ _ _ _, _, _, _, _⟩ :: _) _ _); (first | (refine st_lss rfl _ _ _ _ rfl _ _ _ rfl rfl (fun h_ => ?_) (fun h_ => ?_)) | (refine st_leq rfl _ _ _ _ rfl _ _ _ rfl rfl (fun h_ => ?_) (fun h_ => ?_)) | (refine st_gtr rfl _ _ _ _ rfl _ _ _ rfl rfl (fun h_ => ?_) (fun h_ => ?_)) | (refine st_geq rfl _ _ _ _ rfl _ _ _ rfl rfl (fun h_ => ?_) (fun h_ => ?_)) | (refine st_eql rfl _ _ _ _ rfl _ _ _ rfl rfl (fun h_ => ?_) (fun h_ => ?_)) | (refine st_neq rfl _ _ _ _ rfl _ _ _ rfl rfl (fun h_ => ?_) (fun h_ => ?_))) <;> go_prune)
        | (go_at_call 55; refine (role_any _ _).mono ?_; (first | rw [HRA.out] | rw [HRB.out]); rintro r_ w_ ⟨_, rfl, rfl, hb_⟩; replace hS := hS.ext hb_; clear hb_))
      go_ret2
      exact ⟨_, _, rfl, .inl ⟨HNO.out, rfl, rfl, hS.mono KS fun _ _ h => h.1⟩⟩
  · have HRA := Lib.hid (decide_eq_false hra)
    have HRB := HRA
    have HNO : Hid (¬ ((1 ≤ a ∧ a ≤ 63) ∧ (1 ≤ b ∧ b ≤ 63) ∧ a ≠ b)) := Lib.hid fun h => hra h.1
    clear hra
    go_enter Tryd.func44, Tryd.ntmps44
    go_wp2_with (first
      | ((with_reducible show wpList _ _ _ (⟨_, .binOp _ _ _ _ _, _, _, _, _⟩ :: _) _ _); (first | (refine st_lss rfl _ _ _ _ rfl _ _ _ rfl rfl (fun h_ => ?_) (fun h_ => ?_)) | (refine st_leq rfl _ _ _ _ rfl _ _ _ rfl rfl (fun h_ => ?_) (fun h_ => ?_)) | (refine st_gtr rfl _ _ _ _ rfl _ _ _ rfl rfl (fun h_ => ?_) (fun h_ => ?_)) | (refine st_geq rfl _ _ _ _ rfl _ _ _ rfl rfl (fun h_ => ?_) (fun h_ => ?_)) | (refine st_eql rfl _ _ _ _ rfl _ _ _ rfl rfl (fun h_ => ?_) (fun h_ => ?_)) | (refine st_neq rfl _ _ _ _ rfl _ _ _ rfl rfl (fun h_ => ?_) (fun h_ => ?_))) <;> go_prune)
      | (go_at_call 55; refine (role_any _ _).mono ?_; (first | rw [HRA.out] | rw [HRB.out]); rintro r_ w_ ⟨_, rfl, rfl, hb_⟩; replace hS := hS.ext hb_; clear hb_))
    go_ret2
    exact ⟨_, _, rfl, .inl ⟨HNO.out, rfl, rfl, hS.mono KS fun _ _ h => h.1⟩⟩
end Go.Proofs.YtmlkgaiphpimiaaDoor
namespace Go.Proofs.YtmlkgaiphpimiaaDoor
open Go.RowKit
attribute [local go_sem ↓] Go.wp_at_zero Go.wp_at_succ
set_option maxRecDepth 20000
set_option exponentiation.threshold 5000

theorem withN_nat {N r : Nat} (h : r < 64) : withN N (r : Int) = N ||| 2 ^ r := by
  unfold withN
  rw [if_pos (by omega), Int.toNat_natCast]
theorem free1 {w0 w : World} {g z : Nat} {t : TypeId} {cs : Array Value} {K : (Nat → Prop) → World → Prop} (h : St w0 w [.box g t cs] K) (hz : z < w0.heap.size) : Free [.box g t cs] z := fun f hf e => by
  rw [List.mem_singleton] at hf
  subst hf
  have := Fact.ge (h.holds _ (List.mem_singleton.2 rfl)) e
  omega
theorem stable_inter {r : (Nat → Prop) → World → Prop} (hr : Stable r) (E : Nat → Prop) : Stable fun D w => r (fun z => D z ∧ E z) w := fun D D' w w' h a b c =>
  hr _ _ w w' h a (fun p x hp => b p x hp.1) fun z hz h1 h2 => ⟨c z hz.1 h1 h2, hz.2⟩
theorem hjun_any {w0 : World} {D : Nat → Prop} {p : Value} {L : List (Nat × Nat)} (h : IsH w0 D p L) (hH : HOK L) (r : Int) : Calls Tryd.prog 21 #[p, .int .i64 r] w0 (Ret (fun x w => IsSet w (fun z => D z ∨ w0.heap.size ≤ z) x (if 1 ≤ r ∧ r ≤ 63 then junM L r.toNat else 0)) w0) := by
  obtain ⟨q, o, rfl, hb, ho⟩ := h
  have HO := Lib.hid (stable_ord D (fun z => D z ∧ z < w0.heap.size) w0 w0 ho (Nat.le_refl _) (fun _ _ _ _ h => h) fun b h1 h2 _ => ⟨h1, h2⟩)
  obtain ⟨K, k0, hS⟩ : ∃ K : (Nat → Prop) → World → Prop, (∀ D w, K D w → w.cell? ⟨q, 0, none⟩ = some o) ∧ St w0 w0 [] K := ⟨_, fun _ _ h => IsBox.cell h 0 rfl, St.start stable_isBox hb⟩
  have HH := Lib.hid hH
  clear hb hH ho
  by_cases hr : 1 ≤ r ∧ r ≤ 63
  · obtain ⟨k, rfl⟩ : ∃ k : Nat, r = (k : Int) := ⟨r.toNat, by omega⟩
    have HR := Lib.hid (decide_eq_true hr)
    have HM := Lib.hid (fun (N : Nat) (h : ∀ i : Nat, N.testBit i = true ↔ ∃ b : Nat, (k : Int) = (b : Int) ∧ TC L b i) => show withN N (k : Int) = junM L k from by
      rw [withN_nat (by omega)]
      refine mask_ext fun i => ?_
      rw [tb_or, tb_pow, h, tb_jun HH.out.inr (by omega)]
      constructor
      · rintro (⟨b, e, h⟩ | h)
        · obtain rfl : k = b := by omega
          exact .inr h
        · exact .inl h
      · rintro (h | h)
        · exact .inr h
        · exact .inl ⟨k, rfl, h⟩)
    rw [if_pos hr, Int.toNat_natCast]
    clear hr
    go_enter Tryd.func21, Tryd.ntmps21
    go_wp2_with (first
      | ((with_reducible show wpList _ _ _ (⟨_, .binOp _ _ _ _ _, _, _, _, _⟩ :: _) _ _); (first | (refine st_lss rfl _ _ _ _ rfl _ _ _ rfl rfl (fun h_ => ?_) (fun h_ => ?_)) | (refine st_leq rfl _ _ _ _ rfl _ _ _ rfl rfl (fun h_ => ?_) (fun h_ => ?_)) | (refine st_gtr rfl _ _ _ _ rfl _ _ _ rfl rfl (fun h_ => ?_) (fun h_ => ?_)) | (refine st_geq rfl _ _ _ _ rfl _ _ _ rfl rfl (fun h_ => ?_) (fun h_ => ?_)) | (refine st_eql rfl _ _ _ _ rfl _ _ _ rfl rfl (fun h_ => ?_) (fun h_ => ?_)) | (refine st_neq rfl _ _ _ _ rfl _ _ _ rfl rfl (fun h_ => ?_) (fun h_ => ?_))) <;> go_prune)
      | ((with_reducible show wpList _ _ _ (⟨some 4, _, _, _, _, _⟩ :: _) _ _); refine st_alloc hS rfl _ rfl (by kernel_rfl) ?_; clear hS; intro g w_ hS; (try simp only [Act.put, Act.eval, List.set_cons_zero, List.set_cons_succ, List.setIfInBounds_toArray, Array.getD_eq_getD_getElem?, List.getElem?_toArray, List.getElem?_cons_succ, List.getElem?_cons_zero, Option.getD_some, Value.cells] at hS))
      | (go_at_call 55; refine (role_any _ _).mono ?_; rw [HR.out]; rintro r_ w_ ⟨_, rfl, rfl, hb_⟩; replace hS := hS.ext hb_; clear hb_)
      | ((with_reducible show wpList _ _ _ (⟨some 16, _, _, _, _, _⟩ :: _) _ _); refine st_kcell hS rfl _ _ rfl _ rfl _ k0 (by kernel_rfl) ?_)
      | (go_at_call 23; refine (obelow_any (stable_ord _ _ _ _ HO.out hS.size (fun _ _ _ hp hc => (hS.below.cell hp).trans hc) fun _ h _ _ => h) HH.out.inr _).mono ?_; rintro r_ w_ ⟨_, rfl, ⟨N, hN, hs⟩, hb_⟩; replace hs := Lib.hid hs; replace hS := hS.ext hb_; clear hb_)
      | (go_at_call 24; refine (with_any _ N _ _ _ hN).mono ?_; rintro r_ w1 ⟨_, rfl, hM, hb_⟩; rw [HM.out N hs.out] at hM; obtain ⟨A3, c3, l3, rfl, -⟩ := hM.parts; replace hS := hS.ret2 hb_ (stable_inter stable_set fun z => D z ∨ w0.heap.size ≤ z) (hM.imp fun z hz _ => ⟨hz.imp (fun hz => free1 hS hz.2) id, hz.elim (fun hz => .inl hz.1) fun hz => .inr (Nat.le_trans hS.size hz)⟩); clear hb_)
      | ((with_reducible show wpList _ _ _ (⟨_, .store _ _ _, _, _, _, _⟩ :: _) _ _); (first | (refine st_store hS 0 rfl _ _ _ rfl _ _ rfl rfl _ _ rfl (by kernel_rfl) (by kernel_rfl) (by kernel_rfl) ?_) | (refine st_store hS 1 rfl _ _ _ rfl _ _ rfl rfl _ _ rfl (by kernel_rfl) (by kernel_rfl) (by kernel_rfl) ?_) | (refine st_store hS 2 rfl _ _ _ rfl _ _ rfl rfl _ _ rfl (by kernel_rfl) (by kernel_rfl) (by kernel_rfl) ?_) | (refine st_store hS 3 rfl _ _ _ rfl _ _ rfl rfl _ _ rfl (by kernel_rfl) (by kernel_rfl) (by kernel_rfl) ?_) | (refine st_cstore hS 0 rfl _ _ _ rfl _ _ _ rfl rfl rfl (by first | (simp; done) | (simp; omega) | exact of_decide_eq_true (by kernel_rfl)) rfl (by first | rfl | assumption) (by kernel_rfl) ?_) | (refine st_cstore hS 1 rfl _ _ _ rfl _ _ _ rfl rfl rfl (by first | (simp; done) | (simp; omega) | exact of_decide_eq_true (by kernel_rfl)) rfl (by first | rfl | assumption) (by kernel_rfl) ?_) | (refine st_cstore hS 2 rfl _ _ _ rfl _ _ _ rfl rfl rfl (by first | (simp; done) | (simp; omega) | exact of_decide_eq_true (by kernel_rfl)) rfl (by first | rfl | assumption) (by kernel_rfl) ?_) | (refine st_cstore hS 3 rfl _ _ _ rfl _ _ _ rfl rfl rfl (by first | (simp; done) | (simp; omega) | exact of_decide_eq_true (by kernel_rfl)) rfl (by first | rfl | assumption) (by kernel_rfl) ?_)); clear hS; intro w_ hS; (try simp only [Act.put, Act.eval, List.set_cons_zero, List.set_cons_succ, List.setIfInBounds_toArray, Array.getD_eq_getD_getElem?, List.getElem?_toArray, List.getElem?_cons_succ, List.getElem?_cons_zero, Option.getD_some, Value.cells] at hS)))
    refine ret_cell Tryd.results21 rfl (hS.box 0 rfl) Tryd.underlying42 rfl (by kernel_rfl) rfl ?_
    exact Ret.mk (hS.ro.2.imp fun z hz _ => hz.2) hS.below
  · have HR := Lib.hid (decide_eq_false hr)
    rw [if_neg hr]
    clear hr
    go_enter Tryd.func21, Tryd.ntmps21
    go_wp2_with (first
      | ((with_reducible show wpList _ _ _ (⟨_, .binOp _ _ _ _ _, _, _, _, _⟩ :: _) _ _); (first | (refine st_lss rfl _ _ _ _ rfl _ _ _ rfl rfl (fun h_ => ?_) (fun h_ => ?_)) | (refine st_leq rfl _ _ _ _ rfl _ _ _ rfl rfl (fun h_ => ?_) (fun h_ => ?_)) | (refine st_gtr rfl _ _ _ _ rfl _ _ _ rfl rfl (fun h_ => ?_) (fun h_ => ?_)) | (refine st_geq rfl _ _ _ _ rfl _ _ _ rfl rfl (fun h_ => ?_) (fun h_ => ?_)) | (refine st_eql rfl _ _ _ _ rfl _ _ _ rfl rfl (fun h_ => ?_) (fun h_ => ?_)) | (refine st_neq rfl _ _ _ _ rfl _ _ _ rfl rfl (fun h_ => ?_) (fun h_ => ?_))) <;> go_prune)
      | ((with_reducible show wpList _ _ _ (⟨some 4, _, _, _, _, _⟩ :: _) _ _); refine st_alloc hS rfl _ rfl (by kernel_rfl) ?_; clear hS; intro g w_ hS; (try simp only [Act.put, Act.eval, List.set_cons_zero, List.set_cons_succ, List.setIfInBounds_toArray, Array.getD_eq_getD_getElem?, List.getElem?_toArray, List.getElem?_cons_succ, List.getElem?_cons_zero, Option.getD_some, Value.cells] at hS))
      | (go_at_call 55; refine (role_any _ _).mono ?_; rw [HR.out]; rintro r_ w_ ⟨_, rfl, rfl, hb_⟩; replace hS := hS.ext hb_; clear hb_)
      | ((with_reducible show wpList _ _ _ (⟨_, .build _ _, _, _, _, _⟩ :: _) _ _); refine wpList_build_of rfl _ _ rfl #[.slice none 0 0] (by kernel_rfl) ?_)
      | ((with_reducible show wpList _ _ _ (⟨_, .store _ _ _, _, _, _, _⟩ :: _) _ _); (first | (refine st_store hS 0 rfl _ _ _ rfl _ _ rfl rfl _ _ rfl (by kernel_rfl) (by kernel_rfl) (by kernel_rfl) ?_) | (refine st_store hS 1 rfl _ _ _ rfl _ _ rfl rfl _ _ rfl (by kernel_rfl) (by kernel_rfl) (by kernel_rfl) ?_) | (refine st_store hS 2 rfl _ _ _ rfl _ _ rfl rfl _ _ rfl (by kernel_rfl) (by kernel_rfl) (by kernel_rfl) ?_) | (refine st_store hS 3 rfl _ _ _ rfl _ _ rfl rfl _ _ rfl (by kernel_rfl) (by kernel_rfl) (by kernel_rfl) ?_) | (refine st_cstore hS 0 rfl _ _ _ rfl _ _ _ rfl rfl rfl (by first | (simp; done) | (simp; omega) | exact of_decide_eq_true (by kernel_rfl)) rfl (by first | rfl | assumption) (by kernel_rfl) ?_) | (refine st_cstore hS 1 rfl _ _ _ rfl _ _ _ rfl rfl rfl (by first | (simp; done) | (simp; omega) | exact of_decide_eq_true (by kernel_rfl)) rfl (by first | rfl | assumption) (by kernel_rfl) ?_) | (refine st_cstore hS 2 rfl _ _ _ rfl _ _ _ rfl rfl rfl (by first | (simp; done) | (simp; omega) | exact of_decide_eq_true (by kernel_rfl)) rfl (by first | rfl | assumption) (by kernel_rfl) ?_) | (refine st_cstore hS 3 rfl _ _ _ rfl _ _ _ rfl rfl rfl (by first | (simp; done) | (simp; omega) | exact of_decide_eq_true (by kernel_rfl)) rfl (by first | rfl | assumption) (by kernel_rfl) ?_)); clear hS; intro w_ hS; (try simp only [Act.put, Act.eval, List.set_cons_zero, List.set_cons_succ, List.setIfInBounds_toArray, Array.getD_eq_getD_getElem?, List.getElem?_toArray, List.getElem?_cons_succ, List.getElem?_cons_zero, Option.getD_some, Value.cells] at hS)))
    refine ret_cell Tryd.results21 rfl (hS.box 0 rfl) Tryd.underlying42 rfl (by kernel_rfl) rfl ?_
    exact Ret.mk IsSet.empty hS.below
def impl (L : List (Nat × Nat)) (r s : Int) : Prop := ∃ i j : Nat, r = (i : Int) ∧ s = (j : Int) ∧ (1 ≤ i ∧ i < 64) ∧ (1 ≤ j ∧ j < 64) ∧ (i = j ∨ TC L i j)
theorem himplies_any {w0 : World} {D : Nat → Prop} {p : Value} {L : List (Nat × Nat)} (h : IsH w0 D p L) (hH : HOK L) (r s : Int) : Calls Tryd.prog 15 #[p, .int .i64 r, .int .i64 s] w0 (Ret (fun x _ => ∃ c : Bool, x = .bool c ∧ (c = true ↔ impl L r s)) w0) := by
  obtain ⟨q, o, rfl, hX⟩ := h
  obtain ⟨K, ko, hS⟩ : ∃ K : (Nat → Prop) → World → Prop, (∀ D w, K D w → HierX q o L D w) ∧ St w0 w0 [] K := ⟨_, fun _ _ h => h, St.start stable_hierX hX⟩
  clear hX
  have HH := Lib.hid hH
  clear hH
  by_cases hrr : 1 ≤ r ∧ r ≤ 63
  · have HRA := Lib.hid (decide_eq_true hrr)
    by_cases hrs : 1 ≤ s ∧ s ≤ 63
    · have HRB := Lib.hid (decide_eq_true hrs)
      by_cases hab : r = s
      · subst hab
        have HI : Hid (impl L r r) := Lib.hid ⟨r.toNat, r.toNat, by omega, by omega, by omega, by omega, .inl rfl⟩
        clear hrr hrs
        go_enter Tryd.func15, Tryd.ntmps15
        go_wp2_with (first
          | ((with_reducible show wpList _ _ _ (⟨_, .binOp _ _ _ _ _, _, _, _, _⟩ :: _) _ _); (first | (refine st_lss rfl _ _ _ _ rfl _ _ _ rfl rfl (fun h_ => ?_) (fun h_ => ?_)) | (refine st_leq rfl _ _ _ _ rfl _ _ _ rfl rfl (fun h_ => ?_) (fun h_ => ?_)) | (refine st_gtr rfl _ _ _ _ rfl _ _ _ rfl rfl (fun h_ => ?_) (fun h_ => ?_)) | (refine st_geq rfl _ _ _ _ rfl _ _ _ rfl rfl (fun h_ => ?_) (fun h_ => ?_)) | (refine st_eql rfl _ _ _ _ rfl _ _ _ rfl rfl (fun h_ => ?_) (fun h_ => ?_)) | (refine st_neq rfl _ _ _ _ rfl _ _ _ rfl rfl (fun h_ => ?_) (fun h_ => ?_))) <;> go_prune)
          | (go_at_call 55; refine (role_any _ _).mono ?_; (first | rw [HRA.out] | rw [HRB.out]); rintro r_ w_ ⟨_, rfl, rfl, hb_⟩; replace hS := hS.ext hb_; clear hb_))
        go_ret
        exact Ret.mk (v := .bool true) (.inr ⟨rfl, HI.out⟩) hS.below
      · have HI : Hid (∀ c : Bool, (c = true ↔ ∃ i j : Nat, s = (i : Int) ∧ r = (j : Int) ∧ TC L j i) → (c = true ↔ impl L r s)) := Lib.hid fun c h => h.trans ⟨fun ⟨i, j, h1, h2, h3⟩ => ⟨j, i, h2, h1, by omega, by omega, .inr h3⟩, fun ⟨i, j, h1, h2, _, _, h3⟩ => ⟨j, i, h2, h1, h3.resolve_left fun e => hab (by rw [h1, h2, e])⟩⟩
        clear hrr hrs
        go_enter Tryd.func15, Tryd.ntmps15
        go_wp2_with (first
          | ((with_reducible show wpList _ _ _ (⟨_, .binOp _ _ _ _ _, _, _, _, _⟩ :: _) _ _); (first | (refine st_lss rfl _ _ _ _ rfl _ _ _ rfl rfl (fun h_ => ?_) (fun h_ => ?_)) | (refine st_leq rfl _ _ _ _ rfl _ _ _ rfl rfl (fun h_ => ?_) (fun h_ => ?_)) | (refine st_gtr rfl _ _ _ _ rfl _ _ _ rfl rfl (fun h_ => ?_) (fun h_ => ?_)) | (refine st_geq rfl _ _ _ _ rfl _ _ _ rfl rfl (fun h_ => ?_) (fun h_ => ?_)) | (refine st_eql rfl _ _ _ _ rfl _ _ _ rfl rfl (fun h_ => ?_) (fun h_ => ?_)) | (refine st_neq rfl _ _ _ _ rfl _ _ _ rfl rfl (fun h_ => ?_) (fun h_ => ?_))) <;> go_prune)
          | (go_at_call 55; refine (role_any _ _).mono ?_; (first | rw [HRA.out] | rw [HRB.out]); rintro r_ w_ ⟨_, rfl, rfl, hb_⟩; replace hS := hS.ext hb_; clear hb_)
          | ((with_reducible show wpList _ _ _ (⟨_, .load _ _, _, _, _, _⟩ :: _) _ _); refine st_kcell hS rfl _ _ rfl _ rfl _ (fun D w h => (ko D w h).1.cell 0 rfl) (by kernel_rfl) ?_)
          | (go_at_call 56; refine (oless_any (ko _ _ hS.ro).2 HH.out.inr _ _).mono ?_; rintro r_ w_ ⟨_, rfl, ⟨c, rfl, hc⟩, hb_⟩; replace hc := Lib.hid (HI.out c hc); replace hS := hS.ext hb_; clear hb_))
        go_ret
        exact Ret.mk ⟨c, rfl, hc.out⟩ hS.below
    · have HRB := Lib.hid (decide_eq_false hrs)
      have HI : Hid (¬ impl L r s) := Lib.hid fun ⟨i, j, h1, h2, h3, h4, _⟩ => hrs (by omega)
      clear hrr hrs
      go_enter Tryd.func15, Tryd.ntmps15
      go_wp2_with (first
        | ((with_reducible show wpList _ _ _ (⟨_, .binOp _ _ _ _ _, _, _, _, _⟩ :: _) _ _); (first | (refine st_lss rfl _ _ _ _ rfl _ _ _ rfl rfl (fun h_ => ?_) (fun h_ => ?_)) | (refine st_leq rfl _ _ _ _ rfl _ _ _ rfl rfl (fun h_ => ?_) (fun h_ => ?_)) | (refine st_gtr rfl _ _ _ _ rfl _ _ _ rfl rfl (fun h_ => ?_) (fun h_ => ?_)) | (refine st_geq rfl _ _ _ _ rfl _ _ _ rfl rfl (fun h_ => ?_) (fun h_ => ?_)) | (refine st_eql rfl _ _ _ _ rfl _ _ _ rfl rfl (fun h_ => ?_) (fun h_ => ?_)) | (refine st_neq rfl _ _ _ _ rfl _ _ _ rfl rfl (fun h_ => ?_) (fun h_ => ?_))) <;> go_prune)
        | (go_at_call 55; refine (role_any _ _).mono ?_; (first | rw [HRA.out] | rw [HRB.out]); rintro r_ w_ ⟨_, rfl, rfl, hb_⟩; replace hS := hS.ext hb_; clear hb_))
      go_ret
      exact Ret.mk ⟨false, rfl, fun h => by simp at h, fun h => absurd h HI.out⟩ hS.below
  · have HRA := Lib.hid (decide_eq_false hrr)
    have HI : Hid (¬ impl L r s) := Lib.hid fun ⟨i, j, h1, h2, h3, h4, _⟩ => hrr (by omega)
    clear hrr
    go_enter Tryd.func15, Tryd.ntmps15
    go_wp2_with (first
      | ((with_reducible show wpList _ _ _ (⟨_, .binOp _ _ _ _ _, _, _, _, _⟩ :: _) _ _); (first | (refine st_lss rfl _ _ _ _ rfl _ _ _ rfl rfl (fun h_ => ?_) (fun h_ => ?_)) | (refine st_leq rfl _ _ _ _ rfl _ _ _ rfl rfl (fun h_ => ?_) (fun h_ => ?_)) | (refine st_gtr rfl _ _ _ _ rfl _ _ _ rfl rfl (fun h_ => ?_) (fun h_ => ?_)) | (refine st_geq rfl _ _ _ _ rfl _ _ _ rfl rfl (fun h_ => ?_) (fun h_ => ?_)) | (refine st_eql rfl _ _ _ _ rfl _ _ _ rfl rfl (fun h_ => ?_) (fun h_ => ?_)) | (refine st_neq rfl _ _ _ _ rfl _ _ _ rfl rfl (fun h_ => ?_) (fun h_ => ?_))) <;> go_prune)
      | (go_at_call 55; refine (role_any _ _).mono ?_; rw [HRA.out]; rintro r_ w_ ⟨_, rfl, rfl, hb_⟩; replace hS := hS.ext hb_; clear hb_))
    go_ret
    exact Ret.mk ⟨false, rfl, fun h => by simp at h, fun h => absurd h HI.out⟩ hS.below
end Go.Proofs.YtmlkgaiphpimiaaDoor
namespace Go.Proofs.YtmlkgaiphpimiaaDoor
open Go.RowKit
set_option maxRecDepth 20000

def OJ (C : World → Prop) (S : Value → World → Prop) (p : World × Option Value) : Prop := C p.1 ∧ ∀ r, p.2 = some r → S r p.1
def OR (C : World → Prop) (S : Value → World → Prop) (p p' : World × Option Value) : Prop := (OJ C S p → OJ C S p') ∧ ∀ v, p.2 = some v → p'.2 = some v
def ON (k : Nat) (i : Nat) (p : World × Option Value) : Prop := i = k → p.2 = none
section
variable {C : World → Prop} {S : Value → World → Prop} {p p' : World × Option Value} {k : Nat}
theorem OR.refl (p : World × Option Value) : OR C S p p := ⟨id, fun _ h => h⟩
theorem OR.trans (a b c : World × Option Value) (h : OR C S a b) (k : OR C S b c) : OR C S a c := ⟨fun y => k.1 (h.1 y), fun g y => k.2 g (h.2 g y)⟩
theorem OJ.start {w : World} (h : C w) : OJ C S (w, none) := ⟨h, fun _ h => by cases h⟩
theorem ON.start (k : Nat) (w : World) (i : Nat) : ON k i (w, none) := fun _ => rfl
theorem one_call {P : Program} {o : Oper} {a : Act} {Kt : Act → World → Prop} {Q : Exit → Act → World → Prop} {f : FuncId} {xs : Array Operand} {ts : Array TypeId} {vs : List Value} {R : Ending → World → Prop} (X : Value → Prop)
    (ho : o.op = .call { callee := .value (.func f), args := xs, argTypes := ts }) (hc : callsGo P f = true) (hv : xs.toList.map a.eval = vs) (h : Calls P f vs.toArray p.1 R) (hN : ON k k p) (hk : ∀ e w', R e w' → ∃ v, e = .returned v ∧ C w' ∧ S v w' ∧ X v)
    (hK : ∀ v w', (w'.2 = some v ∧ X v) → OR C S p w' ∧ (∀ j, j ≠ k → ON k j p → ON k j w') → Kt (a.put o.dst v) w'.1) : o.wp P a p.1 Kt Q := by
  refine opw_callw ho hc hv h fun e w' hr => ?_
  obtain ⟨v, he, h1, h2, h3⟩ := hk e w' hr
  refine ⟨v, he, hK v (w', some v) ⟨rfl, h3⟩ ⟨⟨fun _ => ⟨h1, fun r hr => by cases hr; exact h2⟩, fun g hg => ?_⟩, fun j hj _ e => absurd e hj⟩⟩
  rw [hN rfl] at hg
  cases hg
end
def isTup2 (v : Value) : Prop := ∃ x y : Value, v = .tuple #[x, y]
end Go.Proofs.YtmlkgaiphpimiaaDoor
namespace Go.Proofs.YtmlkgaiphpimiaaDoor
open Go.RowKit
attribute [local go_sem ↓] Go.wp_at_zero Go.wp_at_succ
set_option maxRecDepth 20000
set_option exponentiation.threshold 5000

theorem rrole_any (r : Int) (w : World) : Calls Tryd.prog 57 #[.int .i64 r] w (Ret (fun x _ => x = .bool (decide (1 ≤ r ∧ r ≤ 63))) w) := by
  by_cases h1 : 1 ≤ r
  · by_cases h2 : r ≤ 63
    · have HR := Lib.hid (show decide (1 ≤ r ∧ r ≤ 63) = true by simp [h1, h2])
      generalize decide (1 ≤ r ∧ r ≤ 63) = R at *
      go_enter Tryd.func57, Tryd.ntmps57
      go_wp2_with (first | ((with_reducible show wpList _ _ _ (⟨_, .binOp _ _ _ _ _, _, _, _, _⟩ :: _) _ _); (first | (refine st_lss rfl _ _ _ _ rfl _ _ _ rfl rfl (fun h_ => ?_) (fun h_ => ?_)) | (refine st_leq rfl _ _ _ _ rfl _ _ _ rfl rfl (fun h_ => ?_) (fun h_ => ?_)) | (refine st_gtr rfl _ _ _ _ rfl _ _ _ rfl rfl (fun h_ => ?_) (fun h_ => ?_)) | (refine st_geq rfl _ _ _ _ rfl _ _ _ rfl rfl (fun h_ => ?_) (fun h_ => ?_)) | (refine st_eql rfl _ _ _ _ rfl _ _ _ rfl rfl (fun h_ => ?_) (fun h_ => ?_)) | (refine st_neq rfl _ _ _ _ rfl _ _ _ rfl rfl (fun h_ => ?_) (fun h_ => ?_))) <;> go_prune))
      go_ret
      exact Ret.mk (congrArg Value.bool HR.out.symm) (Below.refl _ _)
    · have HR := Lib.hid (show decide (1 ≤ r ∧ r ≤ 63) = false by simp [h2])
      generalize decide (1 ≤ r ∧ r ≤ 63) = R at *
      go_enter Tryd.func57, Tryd.ntmps57
      go_wp2_with (first | ((with_reducible show wpList _ _ _ (⟨_, .binOp _ _ _ _ _, _, _, _, _⟩ :: _) _ _); (first | (refine st_lss rfl _ _ _ _ rfl _ _ _ rfl rfl (fun h_ => ?_) (fun h_ => ?_)) | (refine st_leq rfl _ _ _ _ rfl _ _ _ rfl rfl (fun h_ => ?_) (fun h_ => ?_)) | (refine st_gtr rfl _ _ _ _ rfl _ _ _ rfl rfl (fun h_ => ?_) (fun h_ => ?_)) | (refine st_geq rfl _ _ _ _ rfl _ _ _ rfl rfl (fun h_ => ?_) (fun h_ => ?_)) | (refine st_eql rfl _ _ _ _ rfl _ _ _ rfl rfl (fun h_ => ?_) (fun h_ => ?_)) | (refine st_neq rfl _ _ _ _ rfl _ _ _ rfl rfl (fun h_ => ?_) (fun h_ => ?_))) <;> go_prune))
      go_ret
      exact Ret.mk (congrArg Value.bool HR.out.symm) (Below.refl _ _)
  · have HR := Lib.hid (show decide (1 ≤ r ∧ r ≤ 63) = false by simp [h1])
    generalize decide (1 ≤ r ∧ r ≤ 63) = R at *
    go_enter Tryd.func57, Tryd.ntmps57
    go_wp2_with (first | ((with_reducible show wpList _ _ _ (⟨_, .binOp _ _ _ _ _, _, _, _, _⟩ :: _) _ _); (first | (refine st_lss rfl _ _ _ _ rfl _ _ _ rfl rfl (fun h_ => ?_) (fun h_ => ?_)) | (refine st_leq rfl _ _ _ _ rfl _ _ _ rfl rfl (fun h_ => ?_) (fun h_ => ?_)) | (refine st_gtr rfl _ _ _ _ rfl _ _ _ rfl rfl (fun h_ => ?_) (fun h_ => ?_)) | (refine st_geq rfl _ _ _ _ rfl _ _ _ rfl rfl (fun h_ => ?_) (fun h_ => ?_)) | (refine st_eql rfl _ _ _ _ rfl _ _ _ rfl rfl (fun h_ => ?_) (fun h_ => ?_)) | (refine st_neq rfl _ _ _ _ rfl _ _ _ rfl rfl (fun h_ => ?_) (fun h_ => ?_))) <;> go_prune))
    go_ret
    exact Ret.mk (congrArg Value.bool HR.out.symm) (Below.refl _ _)
theorem rhas_any {w0 : World} {D : Nat → Prop} {pv : Value} {L : List (Nat × Nat)} (h : Sl w0 D 2 pv L.length (pcells L)) (hl : L.length ≤ 1000000) (a b : Int) :
    Calls Tryd.prog 87 #[pv, .int .i64 a, .int .i64 b] w0 (Ret (fun x _ => ∃ c : Bool, x = .bool c ∧ (c = true ↔ ∃ x ∈ L, a = (x.1 : Int) ∧ b = (x.2 : Int))) w0) := by
  obtain ⟨A, c, rfl, _, _⟩ := h.shape
  obtain ⟨K, kp, hS⟩ : ∃ K : (Nat → Prop) → World → Prop, (∀ D w, K D w → Sl w D 2 (.slice A L.length c) L.length (pcells L)) ∧ St w0 w0 [] K := ⟨_, fun _ _ h => h, St.start (stable_sl (by decide)) h⟩
  clear h
  go_enter Tryd.func87, Tryd.ntmps87
  go_wp2_with (first | ((with_reducible show wpList _ _ _ (⟨_, .binOp _ _ _ _ _, _, _, _, _⟩ :: _) _ _); (first | (refine st_lss rfl _ _ _ _ rfl _ _ _ rfl rfl (fun h_ => ?_) (fun h_ => ?_)) | (refine st_leq rfl _ _ _ _ rfl _ _ _ rfl rfl (fun h_ => ?_) (fun h_ => ?_)) | (refine st_gtr rfl _ _ _ _ rfl _ _ _ rfl rfl (fun h_ => ?_) (fun h_ => ?_)) | (refine st_geq rfl _ _ _ _ rfl _ _ _ rfl rfl (fun h_ => ?_) (fun h_ => ?_)) | (refine st_eql rfl _ _ _ _ rfl _ _ _ rfl rfl (fun h_ => ?_) (fun h_ => ?_)) | (refine st_neq rfl _ _ _ _ rfl _ _ _ rfl rfl (fun h_ => ?_) (fun h_ => ?_))) <;> go_prune))
  go_loopw [11] (fun i wr => ∃ j : Nat, j ≤ L.length ∧ i = .int .i64 j ∧ Hid (∀ t, t < j → ¬ (a = ((L.getD t (0, 0)).1 : Int) ∧ b = ((L.getD t (0, 0)).2 : Int))) ∧ St w0 wr [] K) (fun i _ => L.length - (intOf i).toNat)
  case atStart => exact ⟨0, by omega, rfl, Lib.hid (fun t h => absurd h (by omega)), hS⟩
  case round =>
    clear hS
    obtain ⟨j, hj, rfl, HJ, hS⟩ := hrel
    by_cases hlj : j < L.length
    · obtain ⟨f1, f2⟩ := pcells_at L j hlj
      have hm : Hid (L.getD j (0, 0) ∈ L) := Lib.hid (by rw [List.getD_eq_getElem?_getD, List.getElem?_eq_getElem hlj]; exact List.getElem_mem hlj)
      have HJ2 : Hid (¬ (a = ((L.getD j (0, 0)).1 : Int) ∧ b = ((L.getD j (0, 0)).2 : Int)) → ∀ t, t < j + 1 → ¬ (a = ((L.getD t (0, 0)).1 : Int) ∧ b = ((L.getD t (0, 0)).2 : Int))) := Lib.hid fun h t ht => if e : t = j then e ▸ h else HJ.out t (by omega)
      generalize L.getD j (0, 0) = x at *
      obtain ⟨xa, xb⟩ := x
      dsimp only at f1 f2 HJ2
      by_cases hx : a = (xa : Int)
      · by_cases hy : b = (xb : Int)
        · subst hx hy
          go_wp2_with (first
            | ((with_reducible show wpList _ _ _ (⟨_, .binOp _ _ _ _ _, _, _, _, _⟩ :: _) _ _); (first | (refine st_lss rfl _ _ _ _ rfl _ _ _ rfl rfl (fun h_ => ?_) (fun h_ => ?_)) | (refine st_leq rfl _ _ _ _ rfl _ _ _ rfl rfl (fun h_ => ?_) (fun h_ => ?_)) | (refine st_gtr rfl _ _ _ _ rfl _ _ _ rfl rfl (fun h_ => ?_) (fun h_ => ?_)) | (refine st_geq rfl _ _ _ _ rfl _ _ _ rfl rfl (fun h_ => ?_) (fun h_ => ?_)) | (refine st_eql rfl _ _ _ _ rfl _ _ _ rfl rfl (fun h_ => ?_) (fun h_ => ?_)) | (refine st_neq rfl _ _ _ _ rfl _ _ _ rfl rfl (fun h_ => ?_) (fun h_ => ?_))) <;> go_prune)
            | ((with_reducible show wpList _ _ _ (⟨_, .indexAddr _ _ _, _, _, _, _⟩ :: _) _ _); refine st_iaddr2 hS rfl _ _ _ rfl _ rfl rfl (by assumption) Tryd.underlying25 (by kernel_rfl) (by first | assumption | omega) _ _ (by assumption) (by assumption) ?_; intro b_ j_ hc0_ hc1_)
            | ((with_reducible show wpList _ _ _ (⟨some 8, _, _, _, _, _⟩ :: _) _ _); refine st_alloc hS rfl _ rfl (by kernel_rfl) ?_; clear hS; intro g4 w_ hS; (try simp only [Act.put, Act.eval, List.set_cons_zero, List.set_cons_succ, List.setIfInBounds_toArray, Array.getD_eq_getD_getElem?, List.getElem?_toArray, List.getElem?_cons_succ, List.getElem?_cons_zero, Option.getD_some, Value.cells] at hS))
            | ((with_reducible show wpList _ _ _ (⟨_, .store _ _ _, _, _, _, _⟩ :: _) _ _); (first | (refine st_store hS 0 rfl _ _ _ rfl _ _ rfl rfl _ _ rfl (by kernel_rfl) (by kernel_rfl) (by kernel_rfl) ?_) | (refine st_store hS 1 rfl _ _ _ rfl _ _ rfl rfl _ _ rfl (by kernel_rfl) (by kernel_rfl) (by kernel_rfl) ?_) | (refine st_store hS 2 rfl _ _ _ rfl _ _ rfl rfl _ _ rfl (by kernel_rfl) (by kernel_rfl) (by kernel_rfl) ?_) | (refine st_store hS 3 rfl _ _ _ rfl _ _ rfl rfl _ _ rfl (by kernel_rfl) (by kernel_rfl) (by kernel_rfl) ?_) | (refine st_cstore hS 0 rfl _ _ _ rfl _ _ _ rfl rfl rfl (by first | (simp; done) | (simp; omega) | exact of_decide_eq_true (by kernel_rfl)) rfl (by first | rfl | assumption) (by kernel_rfl) ?_) | (refine st_cstore hS 1 rfl _ _ _ rfl _ _ _ rfl rfl rfl (by first | (simp; done) | (simp; omega) | exact of_decide_eq_true (by kernel_rfl)) rfl (by first | rfl | assumption) (by kernel_rfl) ?_) | (refine st_cstore hS 2 rfl _ _ _ rfl _ _ _ rfl rfl rfl (by first | (simp; done) | (simp; omega) | exact of_decide_eq_true (by kernel_rfl)) rfl (by first | rfl | assumption) (by kernel_rfl) ?_) | (refine st_cstore hS 3 rfl _ _ _ rfl _ _ _ rfl rfl rfl (by first | (simp; done) | (simp; omega) | exact of_decide_eq_true (by kernel_rfl)) rfl (by first | rfl | assumption) (by kernel_rfl) ?_)); clear hS; intro w_ hS; (try simp only [Act.put, Act.eval, List.set_cons_zero, List.set_cons_succ, List.setIfInBounds_toArray, Array.getD_eq_getD_getElem?, List.getElem?_toArray, List.getElem?_cons_succ, List.getElem?_cons_zero, Option.getD_some, Value.cells] at hS))
            | ((with_reducible show wpList _ _ _ (⟨_, .load _ _, _, _, _, _⟩ :: _) _ _); first | (refine st_cell hS 0 rfl _ _ rfl _ _ rfl _ _ rfl (by decide +kernel) _ (by first | assumption | rfl) ?_) | (refine st_cell hS 1 rfl _ _ rfl _ _ rfl _ _ rfl (by decide +kernel) _ (by first | assumption | rfl) ?_) | (refine st_cell hS 2 rfl _ _ rfl _ _ rfl _ _ rfl (by decide +kernel) _ (by first | assumption | rfl) ?_) | (refine st_cell hS 3 rfl _ _ rfl _ _ rfl _ _ rfl (by decide +kernel) _ (by first | assumption | rfl) ?_) | (refine st_cell hS 4 rfl _ _ rfl _ _ rfl _ _ rfl (by decide +kernel) _ (by first | assumption | rfl) ?_) | (refine st_cell hS 5 rfl _ _ rfl _ _ rfl _ _ rfl (by decide +kernel) _ (by first | assumption | rfl) ?_) | (refine st_cell hS 6 rfl _ _ rfl _ _ rfl _ _ rfl (by decide +kernel) _ (by first | assumption | rfl) ?_) | (refine st_cell hS 7 rfl _ _ rfl _ _ rfl _ _ rfl (by decide +kernel) _ (by first | assumption | rfl) ?_)))
          go_ret
          exact Ret.mk (v := .bool true) (by first | exact ⟨true, rfl, fun _ => ⟨_, hm.out, rfl, rfl⟩, fun _ => rfl⟩ | exact .inr ⟨rfl, _, _, hm.out, rfl, rfl⟩) hS.below
        · have HJ3 := Lib.hid (HJ2.out fun h => hy h.2)
          subst hx
          clear HJ2
          have hy' : ¬ ((xb : Nat) : Int) = b := fun e => hy e.symm
          go_wp2_with (first
            | ((with_reducible show wpList _ _ _ (⟨_, .binOp _ _ _ _ _, _, _, _, _⟩ :: _) _ _); (first | (refine st_lss rfl _ _ _ _ rfl _ _ _ rfl rfl (fun h_ => ?_) (fun h_ => ?_)) | (refine st_leq rfl _ _ _ _ rfl _ _ _ rfl rfl (fun h_ => ?_) (fun h_ => ?_)) | (refine st_gtr rfl _ _ _ _ rfl _ _ _ rfl rfl (fun h_ => ?_) (fun h_ => ?_)) | (refine st_geq rfl _ _ _ _ rfl _ _ _ rfl rfl (fun h_ => ?_) (fun h_ => ?_)) | (refine st_eql rfl _ _ _ _ rfl _ _ _ rfl rfl (fun h_ => ?_) (fun h_ => ?_)) | (refine st_neq rfl _ _ _ _ rfl _ _ _ rfl rfl (fun h_ => ?_) (fun h_ => ?_))) <;> go_prune)
            | ((with_reducible show wpList _ _ _ (⟨_, .indexAddr _ _ _, _, _, _, _⟩ :: _) _ _); refine st_iaddr2 hS rfl _ _ _ rfl _ rfl rfl (by assumption) Tryd.underlying25 (by kernel_rfl) (by first | assumption | omega) _ _ (by assumption) (by assumption) ?_; intro b_ j_ hc0_ hc1_)
            | ((with_reducible show wpList _ _ _ (⟨some 8, _, _, _, _, _⟩ :: _) _ _); refine st_alloc hS rfl _ rfl (by kernel_rfl) ?_; clear hS; intro g4 w_ hS; (try simp only [Act.put, Act.eval, List.set_cons_zero, List.set_cons_succ, List.setIfInBounds_toArray, Array.getD_eq_getD_getElem?, List.getElem?_toArray, List.getElem?_cons_succ, List.getElem?_cons_zero, Option.getD_some, Value.cells] at hS))
            | ((with_reducible show wpList _ _ _ (⟨_, .store _ _ _, _, _, _, _⟩ :: _) _ _); (first | (refine st_store hS 0 rfl _ _ _ rfl _ _ rfl rfl _ _ rfl (by kernel_rfl) (by kernel_rfl) (by kernel_rfl) ?_) | (refine st_store hS 1 rfl _ _ _ rfl _ _ rfl rfl _ _ rfl (by kernel_rfl) (by kernel_rfl) (by kernel_rfl) ?_) | (refine st_store hS 2 rfl _ _ _ rfl _ _ rfl rfl _ _ rfl (by kernel_rfl) (by kernel_rfl) (by kernel_rfl) ?_) | (refine st_store hS 3 rfl _ _ _ rfl _ _ rfl rfl _ _ rfl (by kernel_rfl) (by kernel_rfl) (by kernel_rfl) ?_) | (refine st_cstore hS 0 rfl _ _ _ rfl _ _ _ rfl rfl rfl (by first | (simp; done) | (simp; omega) | exact of_decide_eq_true (by kernel_rfl)) rfl (by first | rfl | assumption) (by kernel_rfl) ?_) | (refine st_cstore hS 1 rfl _ _ _ rfl _ _ _ rfl rfl rfl (by first | (simp; done) | (simp; omega) | exact of_decide_eq_true (by kernel_rfl)) rfl (by first | rfl | assumption) (by kernel_rfl) ?_) | (refine st_cstore hS 2 rfl _ _ _ rfl _ _ _ rfl rfl rfl (by first | (simp; done) | (simp; omega) | exact of_decide_eq_true (by kernel_rfl)) rfl (by first | rfl | assumption) (by kernel_rfl) ?_) | (refine st_cstore hS 3 rfl _ _ _ rfl _ _ _ rfl rfl rfl (by first | (simp; done) | (simp; omega) | exact of_decide_eq_true (by kernel_rfl)) rfl (by first | rfl | assumption) (by kernel_rfl) ?_)); clear hS; intro w_ hS; (try simp only [Act.put, Act.eval, List.set_cons_zero, List.set_cons_succ, List.setIfInBounds_toArray, Array.getD_eq_getD_getElem?, List.getElem?_toArray, List.getElem?_cons_succ, List.getElem?_cons_zero, Option.getD_some, Value.cells] at hS))
            | ((with_reducible show wpList _ _ _ (⟨_, .load _ _, _, _, _, _⟩ :: _) _ _); first | (refine st_cell hS 0 rfl _ _ rfl _ _ rfl _ _ rfl (by decide +kernel) _ (by first | assumption | rfl) ?_) | (refine st_cell hS 1 rfl _ _ rfl _ _ rfl _ _ rfl (by decide +kernel) _ (by first | assumption | rfl) ?_) | (refine st_cell hS 2 rfl _ _ rfl _ _ rfl _ _ rfl (by decide +kernel) _ (by first | assumption | rfl) ?_) | (refine st_cell hS 3 rfl _ _ rfl _ _ rfl _ _ rfl (by decide +kernel) _ (by first | assumption | rfl) ?_) | (refine st_cell hS 4 rfl _ _ rfl _ _ rfl _ _ rfl (by decide +kernel) _ (by first | assumption | rfl) ?_) | (refine st_cell hS 5 rfl _ _ rfl _ _ rfl _ _ rfl (by decide +kernel) _ (by first | assumption | rfl) ?_) | (refine st_cell hS 6 rfl _ _ rfl _ _ rfl _ _ rfl (by decide +kernel) _ (by first | assumption | rfl) ?_) | (refine st_cell hS 7 rfl _ _ rfl _ _ rfl _ _ rfl (by decide +kernel) _ (by first | assumption | rfl) ?_)))
          exact ⟨⟨j + 1, hlj, by go_num, HJ3, hS.sub (List.sublist_cons_self _ _)⟩, by simp [intOf]; omega⟩
      · have HJ3 := Lib.hid (HJ2.out fun h => hx h.1)
        clear HJ2
        have hx' : ¬ ((xa : Nat) : Int) = a := fun e => hx e.symm
        go_wp2_with (first
          | ((with_reducible show wpList _ _ _ (⟨_, .binOp _ _ _ _ _, _, _, _, _⟩ :: _) _ _); (first | (refine st_lss rfl _ _ _ _ rfl _ _ _ rfl rfl (fun h_ => ?_) (fun h_ => ?_)) | (refine st_leq rfl _ _ _ _ rfl _ _ _ rfl rfl (fun h_ => ?_) (fun h_ => ?_)) | (refine st_gtr rfl _ _ _ _ rfl _ _ _ rfl rfl (fun h_ => ?_) (fun h_ => ?_)) | (refine st_geq rfl _ _ _ _ rfl _ _ _ rfl rfl (fun h_ => ?_) (fun h_ => ?_)) | (refine st_eql rfl _ _ _ _ rfl _ _ _ rfl rfl (fun h_ => ?_) (fun h_ => ?_)) | (refine st_neq rfl _ _ _ _ rfl _ _ _ rfl rfl (fun h_ => ?_) (fun h_ => ?_))) <;> go_prune)
          | ((with_reducible show wpList _ _ _ (⟨_, .indexAddr _ _ _, _, _, _, _⟩ :: _) _ _); refine st_iaddr2 hS rfl _ _ _ rfl _ rfl rfl (by assumption) Tryd.underlying25 (by kernel_rfl) (by first | assumption | omega) _ _ (by assumption) (by assumption) ?_; intro b_ j_ hc0_ hc1_)
          | ((with_reducible show wpList _ _ _ (⟨some 8, _, _, _, _, _⟩ :: _) _ _); refine st_alloc hS rfl _ rfl (by kernel_rfl) ?_; clear hS; intro g4 w_ hS; (try simp only [Act.put, Act.eval, List.set_cons_zero, List.set_cons_succ, List.setIfInBounds_toArray, Array.getD_eq_getD_getElem?, List.getElem?_toArray, List.getElem?_cons_succ, List.getElem?_cons_zero, Option.getD_some, Value.cells] at hS))
          | ((with_reducible show wpList _ _ _ (⟨_, .store _ _ _, _, _, _, _⟩ :: _) _ _); (first | (refine st_store hS 0 rfl _ _ _ rfl _ _ rfl rfl _ _ rfl (by kernel_rfl) (by kernel_rfl) (by kernel_rfl) ?_) | (refine st_store hS 1 rfl _ _ _ rfl _ _ rfl rfl _ _ rfl (by kernel_rfl) (by kernel_rfl) (by kernel_rfl) ?_) | (refine st_store hS 2 rfl _ _ _ rfl _ _ rfl rfl _ _ rfl (by kernel_rfl) (by kernel_rfl) (by kernel_rfl) ?_) | (refine st_store hS 3 rfl _ _ _ rfl _ _ rfl rfl _ _ rfl (by kernel_rfl) (by kernel_rfl) (by kernel_rfl) ?_) | (refine st_cstore hS 0 rfl _ _ _ rfl _ _ _ rfl rfl rfl (by first | (simp; done) | (simp; omega) | exact of_decide_eq_true (by kernel_rfl)) rfl (by first | rfl | assumption) (by kernel_rfl) ?_) | (refine st_cstore hS 1 rfl _ _ _ rfl _ _ _ rfl rfl rfl (by first | (simp; done) | (simp; omega) | exact of_decide_eq_true (by kernel_rfl)) rfl (by first | rfl | assumption) (by kernel_rfl) ?_) | (refine st_cstore hS 2 rfl _ _ _ rfl _ _ _ rfl rfl rfl (by first | (simp; done) | (simp; omega) | exact of_decide_eq_true (by kernel_rfl)) rfl (by first | rfl | assumption) (by kernel_rfl) ?_) | (refine st_cstore hS 3 rfl _ _ _ rfl _ _ _ rfl rfl rfl (by first | (simp; done) | (simp; omega) | exact of_decide_eq_true (by kernel_rfl)) rfl (by first | rfl | assumption) (by kernel_rfl) ?_)); clear hS; intro w_ hS; (try simp only [Act.put, Act.eval, List.set_cons_zero, List.set_cons_succ, List.setIfInBounds_toArray, Array.getD_eq_getD_getElem?, List.getElem?_toArray, List.getElem?_cons_succ, List.getElem?_cons_zero, Option.getD_some, Value.cells] at hS))
          | ((with_reducible show wpList _ _ _ (⟨_, .load _ _, _, _, _, _⟩ :: _) _ _); first | (refine st_cell hS 0 rfl _ _ rfl _ _ rfl _ _ rfl (by decide +kernel) _ (by first | assumption | rfl) ?_) | (refine st_cell hS 1 rfl _ _ rfl _ _ rfl _ _ rfl (by decide +kernel) _ (by first | assumption | rfl) ?_) | (refine st_cell hS 2 rfl _ _ rfl _ _ rfl _ _ rfl (by decide +kernel) _ (by first | assumption | rfl) ?_) | (refine st_cell hS 3 rfl _ _ rfl _ _ rfl _ _ rfl (by decide +kernel) _ (by first | assumption | rfl) ?_) | (refine st_cell hS 4 rfl _ _ rfl _ _ rfl _ _ rfl (by decide +kernel) _ (by first | assumption | rfl) ?_) | (refine st_cell hS 5 rfl _ _ rfl _ _ rfl _ _ rfl (by decide +kernel) _ (by first | assumption | rfl) ?_) | (refine st_cell hS 6 rfl _ _ rfl _ _ rfl _ _ rfl (by decide +kernel) _ (by first | assumption | rfl) ?_) | (refine st_cell hS 7 rfl _ _ rfl _ _ rfl _ _ rfl (by decide +kernel) _ (by first | assumption | rfl) ?_)))
        exact ⟨⟨j + 1, hlj, by go_num, HJ3, hS.sub (List.sublist_cons_self _ _)⟩, by simp [intOf]; omega⟩
    · obtain rfl : j = L.length := by omega
      have HN : Hid (¬ ∃ x ∈ L, a = (x.1 : Int) ∧ b = (x.2 : Int)) := Lib.hid fun ⟨x, hx, h⟩ => by
        obtain ⟨k, hk, e⟩ := List.getElem_of_mem hx
        refine HJ.out k hk ?_
        rw [List.getD_eq_getElem?_getD, List.getElem?_eq_getElem hk, Option.getD_some, e]
        exact h
      go_wp2_with (first | ((with_reducible show wpList _ _ _ (⟨_, .binOp _ _ _ _ _, _, _, _, _⟩ :: _) _ _); (first | (refine st_lss rfl _ _ _ _ rfl _ _ _ rfl rfl (fun h_ => ?_) (fun h_ => ?_)) | (refine st_leq rfl _ _ _ _ rfl _ _ _ rfl rfl (fun h_ => ?_) (fun h_ => ?_)) | (refine st_gtr rfl _ _ _ _ rfl _ _ _ rfl rfl (fun h_ => ?_) (fun h_ => ?_)) | (refine st_geq rfl _ _ _ _ rfl _ _ _ rfl rfl (fun h_ => ?_) (fun h_ => ?_)) | (refine st_eql rfl _ _ _ _ rfl _ _ _ rfl rfl (fun h_ => ?_) (fun h_ => ?_)) | (refine st_neq rfl _ _ _ _ rfl _ _ _ rfl rfl (fun h_ => ?_) (fun h_ => ?_))) <;> go_prune))
      go_ret
      exact Ret.mk (v := .bool false) (by first | exact ⟨false, rfl, fun h => by simp at h, fun h => absurd h HN.out⟩ | exact .inl ⟨rfl, by simpa using HN.out⟩) hS.below
end Go.Proofs.YtmlkgaiphpimiaaDoor
namespace Go.Proofs.YtmlkgaiphpimiaaDoor
open Go.RowKit
attribute [local go_sem ↓] Go.wp_at_zero Go.wp_at_succ
set_option maxRecDepth 20000

def shrN (s r : Nat) : Nat := s / 2 ^ r
def rem2 (m : Nat) : Nat := m % 2
theorem bit_of {s r : Nat} : rem2 (shrN s r) = if s.testBit r then 1 else 0 := by
  unfold rem2 shrN
  rw [Nat.testBit_eq_decide_div_mod_eq]
  by_cases h : s / 2 ^ r % 2 = 1
  · simp [h]
  · have : s / 2 ^ r % 2 = 0 := by omega
    simp [this]
theorem pow_lt_64 {r : Nat} (h : r < 64) : 2 ^ r < T64 := by rw [T64_eq]; exact Nat.pow_lt_pow_right (by decide) h
section
variable {P : Program} {ops : Array Oper} {rest : List Oper} {o : Oper} {a : Act} {w : World} {Q : Exit → Act → World → Prop}
theorem st_shrN (hg : Region.wanted o (yielded ops a.tmps) = true) (t t2 : TypeId) (x y : Operand) (ho : o.op = .binOp .shr t x y t2) (s r : Nat) (hx : a.eval x = .int .u64 (s : Nat)) (hy : a.eval y = .int .i64 (r : Nat)) (hr : r ≤ 64)
    (hk : wpList P ops Q rest (a.put o.dst (.int .u64 (shrN s r : Nat))) w) : wpList P ops Q (o :: rest) a w := by
  refine BigFrame.wpList_want hg fun _ hK => opw_bin (v := .int .u64 (shrN s r : Nat)) ho hx hy (by simp [eqGuard]) ?_ (hK _ _ hk)
  rw [binOp_shr, shift_shr _ _ _ _ (by omega) (by show (r : Int) ≤ 64; omega)]
  simp [shrN]
theorem st_rem2 (hg : Region.wanted o (yielded ops a.tmps) = true) (t t2 : TypeId) (x y : Operand) (ho : o.op = .binOp .rem t x y t2) (m : Nat) (hx : a.eval x = .int .u64 (m : Nat)) (hy : a.eval y = .int .u64 2)
    (hk : wpList P ops Q rest (a.put o.dst (.int .u64 (rem2 m : Nat))) w) : wpList P ops Q (o :: rest) a w := by
  refine BigFrame.wpList_want hg fun _ hK => opw_bin (v := .int .u64 (rem2 m : Nat)) ho hx hy (by simp [eqGuard]) ?_ (hK _ _ hk)
  go_simp
  exact tmod_nat m 2
theorem st_btest (hg : Region.wanted o (yielded ops a.tmps) = true) (t t2 : TypeId) (x y : Operand) (ho : o.op = .binOp .eql t x y t2) (s r : Nat) (hx : a.eval x = .int .u64 (rem2 (shrN s r) : Nat)) (hy : a.eval y = .int .u64 1) {b : Bool} (hb : s.testBit r = b)
    (hk : wpList P ops Q rest (a.put o.dst (.bool b)) w) : wpList P ops Q (o :: rest) a w := by
  refine BigFrame.wpList_want hg fun _ hK => opw_bin (v := .bool b) ho hx hy (by simp [eqGuard]) ?_ (hK _ _ hk)
  rw [binOp_eql, bit_of, hb]
  cases b <;> simp
theorem st_shl1 (hg : Region.wanted o (yielded ops a.tmps) = true) (t t2 : TypeId) (x y : Operand) (ho : o.op = .binOp .shl t x y t2) (r : Nat) (hx : a.eval x = .int .u64 1) (hy : a.eval y = .int .i64 (r : Nat)) (hr : r < 64)
    (hk : wpList P ops Q rest (a.put o.dst (.int .u64 (2 ^ r : Nat))) w) : wpList P ops Q (o :: rest) a w := by
  have h := run_shl1 (P := P) (w := w) (t := t) (r := r) (e := (r : Nat)) (by rw [Nat.mod_eq_of_lt hr])
  rw [Nat.mod_eq_of_lt hr] at h
  exact BigFrame.wpList_want hg fun _ hK => opw_bin (v := .int .u64 (2 ^ r : Nat)) ho hx hy (by simp [eqGuard]) h (hK _ _ hk)
theorem st_orN (hg : Region.wanted o (yielded ops a.tmps) = true) (t t2 : TypeId) (x y : Operand) (ho : o.op = .binOp .or t x y t2) (m n : Nat) (hx : a.eval x = .int .u64 (m : Nat)) (hy : a.eval y = .int .u64 (n : Nat)) (hm : m < T64) (hn : n < T64)
    (hk : wpList P ops Q rest (a.put o.dst (.int .u64 (m ||| n : Nat))) w) : wpList P ops Q (o :: rest) a w :=
  BigFrame.wpList_want hg fun _ hK => opw_bin (v := .int .u64 (m ||| n : Nat)) ho hx hy (by simp [eqGuard]) (run_or64' hm hn) (hK _ _ hk)
end
end Go.Proofs.YtmlkgaiphpimiaaDoor
