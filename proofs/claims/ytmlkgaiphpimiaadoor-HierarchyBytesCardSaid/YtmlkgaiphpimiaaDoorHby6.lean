/-
  The card of HierarchyBytes.
-/
import Derived.Test.YtmlkgaiphpimiaaDoorRows
import Derived.ProofKit
import Derived.OpenShut
import Derived.Lib.LaidU8
import Derived.Lay
import Derived.MakeChecks
import Derived.LaidLaws
import Derived.Stop.Joined
import Derived.Test.YtmlkgaiphpimiaaDoorCards
import Derived.Test.YtmlkgaiphpimiaaDoorTie
import Derived.SevenTiedAt
import Derived.Test.YtmlkgaiphpimiaaDoorHby5
namespace Go.Proofs.YtmlkgaiphpimiaaDoor
open Go.RowKit
attribute [local go_sem ↓] Go.wp_at_zero Go.wp_at_succ
set_option maxRecDepth 20000

def Rd (w0 w : World) (X : List Fact) (K : (Nat → Prop) → World → Prop) (q : Nat) (left : List Nat) (err : Int) : Prop :=
  Stable K ∧ ∃ A c, left.length ≤ c ∧ c ≤ maxLen ∧ St w0 w (.box q 117 #[.slice A left.length c, .int .i64 err] :: X) fun D w => K D w ∧ Sl w D 1 (.slice A left.length c) left.length (u8s left)
section
variable {w0 w : World} {X : List Fact} {K : (Nat → Prop) → World → Prop} {q : Nat} {left : List Nat} {err : Int}
theorem Rd.errc (h : Rd w0 w X K q left err) : w.cell? ⟨q, 1, none⟩ = some (.int .i64 err) := by
  obtain ⟨_, A, c, _, _, hS⟩ := h
  exact hS.shut 0 rfl 1 rfl
end
theorem rok_any (q : Nat) (err : Int) (w : World) (hc : w.cell? ⟨q, 1, none⟩ = some (.int .i64 err)) :
    Calls Tryd.prog 95 #[.pointer (some ⟨q, 0, none⟩)] w fun e w' => e = .returned (.bool (decide (err = 0))) ∧ w = w' := by
  go_enter Tryd.func95, Tryd.ntmps95
  by_cases h : err = 0
  · subst h
    go_wp2_with (first | ((with_reducible show wpList _ _ _ (⟨_, .binOp _ _ _ _ _, _, _, _, _⟩ :: _) _ _); (first | (refine st_lss rfl _ _ _ _ rfl _ _ _ rfl rfl (fun h_ => ?_) (fun h_ => ?_)) | (refine st_leq rfl _ _ _ _ rfl _ _ _ rfl rfl (fun h_ => ?_) (fun h_ => ?_)) | (refine st_gtr rfl _ _ _ _ rfl _ _ _ rfl rfl (fun h_ => ?_) (fun h_ => ?_)) | (refine st_geq rfl _ _ _ _ rfl _ _ _ rfl rfl (fun h_ => ?_) (fun h_ => ?_)) | (refine st_eql rfl _ _ _ _ rfl _ _ _ rfl rfl (fun h_ => ?_) (fun h_ => ?_)) | (refine st_neq rfl _ _ _ _ rfl _ _ _ rfl rfl (fun h_ => ?_) (fun h_ => ?_))) <;> go_prune))
    go_ret
    exact ⟨rfl, rfl⟩
  · have h0 : (err == 0) = false := by simpa using h
    go_wp2_with fail
    go_ret
    exact ⟨by simp [h], rfl⟩
theorem rfail_any {w0 w : World} {X : List Fact} {K : (Nat → Prop) → World → Prop} {q : Nat} {left : List Nat} {err : Int} (e : Int) (h : Rd w0 w X K q left err) :
    Calls Tryd.prog 81 #[.pointer (some ⟨q, 0, none⟩), .int .i64 e] w fun r w' => ∃ v, r = .returned v ∧ Rd w0 w' X K q left (if err = 0 then e else err) := by
  have hc := h.errc
  obtain ⟨hK, A, c, l1, l2, hS⟩ := h
  have HK := Lib.hid hK
  clear hK
  go_enter Tryd.func81, Tryd.ntmps81
  by_cases h0 : err = 0
  · subst h0
    go_wp2_with (first | ((with_reducible show wpList _ _ _ (⟨_, .store _ _ _, _, _, _, _⟩ :: _) _ _); (first | (refine st_store hS 0 rfl _ _ _ rfl _ _ rfl rfl _ _ rfl (by kernel_rfl) (by kernel_rfl) (by kernel_rfl) ?_) | (refine st_store hS 1 rfl _ _ _ rfl _ _ rfl rfl _ _ rfl (by kernel_rfl) (by kernel_rfl) (by kernel_rfl) ?_) | (refine st_store hS 2 rfl _ _ _ rfl _ _ rfl rfl _ _ rfl (by kernel_rfl) (by kernel_rfl) (by kernel_rfl) ?_) | (refine st_store hS 3 rfl _ _ _ rfl _ _ rfl rfl _ _ rfl (by kernel_rfl) (by kernel_rfl) (by kernel_rfl) ?_) | (refine st_cstore hS 0 rfl _ _ _ rfl _ _ _ rfl rfl rfl (by first | (simp; done) | (simp; omega) | exact of_decide_eq_true (by kernel_rfl)) rfl (by first | rfl | assumption) (by kernel_rfl) ?_) | (refine st_cstore hS 1 rfl _ _ _ rfl _ _ _ rfl rfl rfl (by first | (simp; done) | (simp; omega) | exact of_decide_eq_true (by kernel_rfl)) rfl (by first | rfl | assumption) (by kernel_rfl) ?_) | (refine st_cstore hS 2 rfl _ _ _ rfl _ _ _ rfl rfl rfl (by first | (simp; done) | (simp; omega) | exact of_decide_eq_true (by kernel_rfl)) rfl (by first | rfl | assumption) (by kernel_rfl) ?_) | (refine st_cstore hS 3 rfl _ _ _ rfl _ _ _ rfl rfl rfl (by first | (simp; done) | (simp; omega) | exact of_decide_eq_true (by kernel_rfl)) rfl (by first | rfl | assumption) (by kernel_rfl) ?_)); clear hS; intro w_ hS; (try simp only [Act.put, Act.eval, List.set_cons_zero, List.set_cons_succ, List.setIfInBounds_toArray, Array.getD_eq_getD_getElem?, List.getElem?_toArray, List.getElem?_cons_succ, List.getElem?_cons_zero, Option.getD_some, Value.cells] at hS)) | (go_at_call 95; refine (rok_any q 0 _ hc).mono ?_; rintro r w' ⟨rfl, rfl⟩))
    go_end0
    exact ⟨⟨_, rfl⟩, HK.out, A, c, l1, l2, hS⟩
  · have hd : decide (err = 0) = false := by simpa using h0
    go_wp2_with (first | (go_at_call 95; refine (rok_any q err _ hc).mono ?_; rw [hd]; rintro r w' ⟨rfl, rfl⟩))
    go_end0
    exact ⟨⟨_, rfl⟩, HK.out, A, c, l1, l2, hS⟩
def refuseE (bad : Bool) (e err : Int) : Int := if bad = true ∧ err = 0 then e else err
theorem refuse_any {w0 w : World} {X : List Fact} {K : (Nat → Prop) → World → Prop} {q : Nat} {left : List Nat} {err : Int} (bad : Bool) (e : Int) (h : Rd w0 w X K q left err) :
    Calls Tryd.prog 96 #[.pointer (some ⟨q, 0, none⟩), .bool bad, .int .i64 e] w fun r w' => r = .returned (.bool !bad) ∧ Rd w0 w' X K q left (refuseE bad e err) := by
  have HH := Lib.hid h
  clear h
  go_enter Tryd.func96, Tryd.ntmps96
  cases bad
  · go_wp2_with fail
    go_ret
    exact ⟨rfl, HH.out⟩
  · go_wp2_with fail
    refine (rfail_any e HH.out).mono ?_
    rintro r w' ⟨v, rfl, h⟩
    go_wp2_with fail
    go_ret
    exact ⟨rfl, by simpa [refuseE] using h⟩

theorem and127u8 {b : Nat} (h : b < 256) : bits .and .u8 (b : Int) 127 = ((b % 128 : Nat) : Int) := by
  have := u8_and_nat b 127 h (by decide)
  rw [show ((127 : Nat) : Int) = 127 from rfl] at this
  rw [this]
  congr 1
  exact Nat.and_two_pow_sub_one_eq_mod b 7
def numR : List Nat → Nat → Nat → Nat × Nat
  | [], _, _ => (0, 0)
  | b :: r, v, k => if (k = 0 ∧ b = 128) ∨ 144115188075855871 < v then (0, 0) else if b < 128 then (v * 128 + b % 128, k + 1) else numR r (v * 128 + b % 128) (k + 1)
theorem shl7 {v : Nat} (h : v ≤ 144115188075855871) : IntKind.u64.wrap ((v : Int) * 128) = ((v * 128 : Nat) : Int) := by
  rw [IntKind.wrap_u64]; omega
theorem or7 {v b : Nat} (h : v ≤ 144115188075855871) : bits .or .u64 ((v * 128 : Nat) : Int) ((b % 128 : Nat) : Int) = ((v * 128 + b % 128 : Nat) : Int) := by
  have := or64 (a := v * 128) (b := b % 128) (by unfold T64; omega) (by unfold T64; omega)
  rw [this]
  congr 1
  have e := Nat.two_pow_add_eq_or_of_lt (i := 7) (b := b % 128) (by omega) v
  rw [Nat.mul_comm v 128]; exact e.symm
theorem numR_lt (l : List Nat) : ∀ v k, v < T64 → (∀ x ∈ l, x < 256) → (numR l v k).1 < T64 ∧ ((numR l v k).2 = 0 ∨ (k < (numR l v k).2 ∧ (numR l v k).2 ≤ k + l.length)) := by
  induction l with
  | nil => intro v k _ _; simp [numR, T64]
  | cons b r ih =>
    intro v k hv hb
    unfold numR
    split
    · simp [T64]
    · rename_i h1
      have h2 : v ≤ 144115188075855871 := by omega
      split
      · simp; unfold T64; omega
      · have h3 := ih (v * 128 + b % 128) (k + 1) (by unfold T64; omega) (fun x hx => hb x (by simp [hx]))
        simp only [List.length_cons]
        omega
theorem rnumber_any {w0 w : World} {X : List Fact} {K : (Nat → Prop) → World → Prop} {q : Nat} {left : List Nat} {err : Int} (hl : left.length ≤ 1000000000000) (hb : Bytes left) (h : Rd w0 w X K q left err) :
    Calls Tryd.prog 97 #[.pointer (some ⟨q, 0, none⟩)] w fun r w' => r = .returned (.tuple #[.int .u64 (numR left 0 0).1, .int .i64 (numR left 0 0).2]) ∧ w = w' := by
  obtain ⟨hK, A, c, l1, l2, hS⟩ := h
  have HK := Lib.hid hK
  clear hK
  have ks : ∀ D w, (K D w ∧ Sl w D 1 (.slice A left.length c) left.length (u8s left)) → Sl w D 1 (.slice A left.length c) left.length (u8s left) := fun _ _ h => h.2
  have HB := Lib.hid hb
  have hR : Hid (numR left 0 0 = numR (left.drop 0) 0 0) := Lib.hid rfl
  generalize numR left 0 0 = RES at *
  go_enter Tryd.func97, Tryd.ntmps97
  go_wp2_with (first | ((with_reducible show wpList _ _ _ (⟨_, .load _ _, _, _, _, _⟩ :: _) _ _); first | (refine st_cell hS 0 rfl _ _ rfl _ _ rfl _ _ rfl (by decide +kernel) _ (by first | assumption | rfl) ?_) | (refine st_cell hS 1 rfl _ _ rfl _ _ rfl _ _ rfl (by decide +kernel) _ (by first | assumption | rfl) ?_) | (refine st_cell hS 2 rfl _ _ rfl _ _ rfl _ _ rfl (by decide +kernel) _ (by first | assumption | rfl) ?_) | (refine st_cell hS 3 rfl _ _ rfl _ _ rfl _ _ rfl (by decide +kernel) _ (by first | assumption | rfl) ?_) | (refine st_cell hS 4 rfl _ _ rfl _ _ rfl _ _ rfl (by decide +kernel) _ (by first | assumption | rfl) ?_) | (refine st_cell hS 5 rfl _ _ rfl _ _ rfl _ _ rfl (by decide +kernel) _ (by first | assumption | rfl) ?_) | (refine st_cell hS 6 rfl _ _ rfl _ _ rfl _ _ rfl (by decide +kernel) _ (by first | assumption | rfl) ?_) | (refine st_cell hS 7 rfl _ _ rfl _ _ rfl _ _ rfl (by decide +kernel) _ (by first | assumption | rfl) ?_)) | ((with_reducible show wpList _ _ _ (⟨_, .binOp _ _ _ _ _, _, _, _, _⟩ :: _) _ _); (first | (refine st_lss rfl _ _ _ _ rfl _ _ _ rfl rfl (fun h_ => ?_) (fun h_ => ?_)) | (refine st_leq rfl _ _ _ _ rfl _ _ _ rfl rfl (fun h_ => ?_) (fun h_ => ?_)) | (refine st_gtr rfl _ _ _ _ rfl _ _ _ rfl rfl (fun h_ => ?_) (fun h_ => ?_)) | (refine st_geq rfl _ _ _ _ rfl _ _ _ rfl rfl (fun h_ => ?_) (fun h_ => ?_)) | (refine st_eql rfl _ _ _ _ rfl _ _ _ rfl rfl (fun h_ => ?_) (fun h_ => ?_)) | (refine st_neq rfl _ _ _ _ rfl _ _ _ rfl rfl (fun h_ => ?_) (fun h_ => ?_))) <;> go_prune))
  go_loopw [12, 4] (fun i v wr => ∃ k n : Nat, k ≤ left.length ∧ i = .int .i64 k ∧ v = .int .u64 n ∧ wr = w ∧ Hid (RES = numR (left.drop k) n k)) (fun i _ _ => left.length - (intOf i).toNat)
  case atStart => exact ⟨0, 0, by omega, rfl, rfl, rfl, hR⟩
  case round =>
    obtain ⟨k, n, hk, rfl, rfl, rfl, hR⟩ := hrel
    by_cases hlt : k < left.length
    · have f1 := u8s_at left k hlt
      have hD := hR.out
      rw [List.drop_eq_getElem_cons hlt] at hD
      have hbb := HB.out _ (List.getElem_mem hlt)
      have e : left[k] = left.getD k 0 := by simp [List.getD_eq_getElem?_getD, List.getElem?_eq_getElem hlt]
      rw [e] at hD hbb
      generalize left.getD k 0 = b at *
      have HD := Lib.hid hD
      have e1 := and127u8 hbb
      clear hD e
      by_cases hv : n ≤ 144115188075855871
      · have e2 := shl7 hv
        have e3 : bits .or .u64 ((n : Int) * 128) ((b : Int) % 128) = ((n * 128 + b % 128 : Nat) : Int) := by
          rw [show ((n : Int) * 128) = ((n * 128 : Nat) : Int) by simp, show ((b : Int) % 128) = ((b % 128 : Nat) : Int) by simp]; exact or7 hv
        obtain ⟨m, hm⟩ : ∃ m, m = n * 128 + b % 128 := ⟨_, rfl⟩
        rw [← hm] at e3
        have HM := Lib.hid hm
        clear hm
        go_wp2_with (first | ((with_reducible show wpList _ _ _ (⟨_, .load _ _, _, _, _, _⟩ :: _) _ _); first | (refine st_cell hS 0 rfl _ _ rfl _ _ rfl _ _ rfl (by decide +kernel) _ (by first | assumption | rfl) ?_) | (refine st_cell hS 1 rfl _ _ rfl _ _ rfl _ _ rfl (by decide +kernel) _ (by first | assumption | rfl) ?_) | (refine st_cell hS 2 rfl _ _ rfl _ _ rfl _ _ rfl (by decide +kernel) _ (by first | assumption | rfl) ?_) | (refine st_cell hS 3 rfl _ _ rfl _ _ rfl _ _ rfl (by decide +kernel) _ (by first | assumption | rfl) ?_) | (refine st_cell hS 4 rfl _ _ rfl _ _ rfl _ _ rfl (by decide +kernel) _ (by first | assumption | rfl) ?_) | (refine st_cell hS 5 rfl _ _ rfl _ _ rfl _ _ rfl (by decide +kernel) _ (by first | assumption | rfl) ?_) | (refine st_cell hS 6 rfl _ _ rfl _ _ rfl _ _ rfl (by decide +kernel) _ (by first | assumption | rfl) ?_) | (refine st_cell hS 7 rfl _ _ rfl _ _ rfl _ _ rfl (by decide +kernel) _ (by first | assumption | rfl) ?_)) | ((with_reducible show wpList _ _ _ (⟨_, .binOp _ _ _ _ _, _, _, _, _⟩ :: _) _ _); (first | (refine st_lss rfl _ _ _ _ rfl _ _ _ rfl rfl (fun h_ => ?_) (fun h_ => ?_)) | (refine st_leq rfl _ _ _ _ rfl _ _ _ rfl rfl (fun h_ => ?_) (fun h_ => ?_)) | (refine st_gtr rfl _ _ _ _ rfl _ _ _ rfl rfl (fun h_ => ?_) (fun h_ => ?_)) | (refine st_geq rfl _ _ _ _ rfl _ _ _ rfl rfl (fun h_ => ?_) (fun h_ => ?_)) | (refine st_eql rfl _ _ _ _ rfl _ _ _ rfl rfl (fun h_ => ?_) (fun h_ => ?_)) | (refine st_neq rfl _ _ _ _ rfl _ _ _ rfl rfl (fun h_ => ?_) (fun h_ => ?_))) <;> go_prune) | ((with_reducible show wpList _ _ _ (⟨_, .indexAddr _ _ _, _, _, _, _⟩ :: _) _ _); refine st_iaddr1 hS rfl _ _ _ rfl _ rfl rfl (by assumption) Tryd.underlying63 (by kernel_rfl) (by first | assumption | omega) _ (by assumption) ?_; intro p_ hc_))
        all_goals first
          | (have hE : RES = (0, 0) := by rw [HD.out, numR, if_pos (by omega)]
             subst hE; go_ret2; exact ⟨rfl, rfl⟩)
          | (have hE : RES = (m, k + 1) := by rw [HD.out, numR, if_neg (by omega), if_pos (by omega), HM.out]
             subst hE; go_ret2; refine ⟨?_, rfl⟩; (first | (simp; done) | (simp; omega)))
          | exact ⟨⟨k + 1, m, hlt, by go_num, rfl, trivial, Lib.hid (by rw [HD.out, numR, if_neg (by omega), if_neg (by omega), HM.out])⟩, by simp [intOf]; omega⟩
          | exact ⟨⟨k + 1, m, hlt, by simp; omega, rfl, trivial, Lib.hid (by rw [HD.out, numR, if_neg (by omega), if_neg (by omega), HM.out])⟩, by simp [intOf]; omega⟩
      · go_wp2_with (first | ((with_reducible show wpList _ _ _ (⟨_, .load _ _, _, _, _, _⟩ :: _) _ _); first | (refine st_cell hS 0 rfl _ _ rfl _ _ rfl _ _ rfl (by decide +kernel) _ (by first | assumption | rfl) ?_) | (refine st_cell hS 1 rfl _ _ rfl _ _ rfl _ _ rfl (by decide +kernel) _ (by first | assumption | rfl) ?_) | (refine st_cell hS 2 rfl _ _ rfl _ _ rfl _ _ rfl (by decide +kernel) _ (by first | assumption | rfl) ?_) | (refine st_cell hS 3 rfl _ _ rfl _ _ rfl _ _ rfl (by decide +kernel) _ (by first | assumption | rfl) ?_) | (refine st_cell hS 4 rfl _ _ rfl _ _ rfl _ _ rfl (by decide +kernel) _ (by first | assumption | rfl) ?_) | (refine st_cell hS 5 rfl _ _ rfl _ _ rfl _ _ rfl (by decide +kernel) _ (by first | assumption | rfl) ?_) | (refine st_cell hS 6 rfl _ _ rfl _ _ rfl _ _ rfl (by decide +kernel) _ (by first | assumption | rfl) ?_) | (refine st_cell hS 7 rfl _ _ rfl _ _ rfl _ _ rfl (by decide +kernel) _ (by first | assumption | rfl) ?_)) | ((with_reducible show wpList _ _ _ (⟨_, .binOp _ _ _ _ _, _, _, _, _⟩ :: _) _ _); (first | (refine st_lss rfl _ _ _ _ rfl _ _ _ rfl rfl (fun h_ => ?_) (fun h_ => ?_)) | (refine st_leq rfl _ _ _ _ rfl _ _ _ rfl rfl (fun h_ => ?_) (fun h_ => ?_)) | (refine st_gtr rfl _ _ _ _ rfl _ _ _ rfl rfl (fun h_ => ?_) (fun h_ => ?_)) | (refine st_geq rfl _ _ _ _ rfl _ _ _ rfl rfl (fun h_ => ?_) (fun h_ => ?_)) | (refine st_eql rfl _ _ _ _ rfl _ _ _ rfl rfl (fun h_ => ?_) (fun h_ => ?_)) | (refine st_neq rfl _ _ _ _ rfl _ _ _ rfl rfl (fun h_ => ?_) (fun h_ => ?_))) <;> go_prune) | ((with_reducible show wpList _ _ _ (⟨_, .indexAddr _ _ _, _, _, _, _⟩ :: _) _ _); refine st_iaddr1 hS rfl _ _ _ rfl _ rfl rfl (by assumption) Tryd.underlying63 (by kernel_rfl) (by first | assumption | omega) _ (by assumption) ?_; intro p_ hc_))
        all_goals
          have hE : RES = (0, 0) := by rw [HD.out, numR, if_pos (by omega)]
          subst hE; go_ret2; exact ⟨rfl, rfl⟩
    · obtain rfl : k = left.length := by omega
      have hE : RES = (0, 0) := by rw [hR.out]; simp [numR]
      subst hE
      go_wp2_with (first | ((with_reducible show wpList _ _ _ (⟨_, .load _ _, _, _, _, _⟩ :: _) _ _); first | (refine st_cell hS 0 rfl _ _ rfl _ _ rfl _ _ rfl (by decide +kernel) _ (by first | assumption | rfl) ?_) | (refine st_cell hS 1 rfl _ _ rfl _ _ rfl _ _ rfl (by decide +kernel) _ (by first | assumption | rfl) ?_) | (refine st_cell hS 2 rfl _ _ rfl _ _ rfl _ _ rfl (by decide +kernel) _ (by first | assumption | rfl) ?_) | (refine st_cell hS 3 rfl _ _ rfl _ _ rfl _ _ rfl (by decide +kernel) _ (by first | assumption | rfl) ?_) | (refine st_cell hS 4 rfl _ _ rfl _ _ rfl _ _ rfl (by decide +kernel) _ (by first | assumption | rfl) ?_) | (refine st_cell hS 5 rfl _ _ rfl _ _ rfl _ _ rfl (by decide +kernel) _ (by first | assumption | rfl) ?_) | (refine st_cell hS 6 rfl _ _ rfl _ _ rfl _ _ rfl (by decide +kernel) _ (by first | assumption | rfl) ?_) | (refine st_cell hS 7 rfl _ _ rfl _ _ rfl _ _ rfl (by decide +kernel) _ (by first | assumption | rfl) ?_)) | ((with_reducible show wpList _ _ _ (⟨_, .binOp _ _ _ _ _, _, _, _, _⟩ :: _) _ _); (first | (refine st_lss rfl _ _ _ _ rfl _ _ _ rfl rfl (fun h_ => ?_) (fun h_ => ?_)) | (refine st_leq rfl _ _ _ _ rfl _ _ _ rfl rfl (fun h_ => ?_) (fun h_ => ?_)) | (refine st_gtr rfl _ _ _ _ rfl _ _ _ rfl rfl (fun h_ => ?_) (fun h_ => ?_)) | (refine st_geq rfl _ _ _ _ rfl _ _ _ rfl rfl (fun h_ => ?_) (fun h_ => ?_)) | (refine st_eql rfl _ _ _ _ rfl _ _ _ rfl rfl (fun h_ => ?_) (fun h_ => ?_)) | (refine st_neq rfl _ _ _ _ rfl _ _ _ rfl rfl (fun h_ => ?_) (fun h_ => ?_))) <;> go_prune))
      go_ret2
      exact ⟨rfl, rfl⟩

theorem sl_take {w : World} {D : Nat → Prop} {A : Option Addr} {m c n : Nat} {xs : List Value} (h : Sl w D 1 (.slice A m c) m xs) (hn : n ≤ m) : Sl w D 1 (.slice A n c) n (xs.take n) := by
  obtain ⟨h1, A', c', e, h2, h3, h4⟩ := h
  injection e with e1 _ e2
  subst e1 e2
  refine ⟨by rw [List.length_take, h1]; omega, A, c, rfl, by omega, h3, fun h0 => ?_⟩
  obtain ⟨b, o, h5, h6, h7, h8⟩ := h4 (by omega)
  refine ⟨b, o, h5, h6, h7, fun j x hj => h8 j x ?_⟩
  rw [List.getElem?_take] at hj
  split at hj
  · exact hj
  · cases hj
theorem sl_drop {w : World} {D : Nat → Prop} {A : Option Addr} {m c n : Nat} {xs : List Value} (h : Sl w D 1 (.slice A m c) m xs) (hn : n ≤ m) (hc : m ≤ c) : Sl w D 1 (.slice (if c = n then A else Option.map (fun x => x.add n) A) (m - n) (c - n)) (m - n) (xs.drop n) := by
  obtain ⟨h1, A', c', e, h2, h3, h4⟩ := h
  injection e with e1 _ e2
  subst e1 e2
  refine ⟨by rw [List.length_drop, h1]; omega, _, c - n, rfl, by omega, by omega, fun h0 => ?_⟩
  obtain ⟨b, o, rfl, h6, h7, h8⟩ := h4 (by omega)
  rw [if_neg (by omega)]
  refine ⟨b, o + n, by simp [Addr.add_lit], h6, h7, fun j x hj => ?_⟩
  rw [List.getElem?_drop] at hj
  have := h8 _ x hj
  rw [← Nat.add_assoc] at this; exact this
theorem clone_n_any (p : Value) (n : Nat) (ps : List Nat) (w : World) (D : Nat → Prop) (hp : Sl w D 1 p n (u8s ps)) (hlen : n ≤ 1000000000000) :
    Calls Tryd.prog 52 #[p] w (Ret (fun x w' => Sl w' (w.heap.size ≤ ·) 1 x n (u8s ps)) w) := by
  have e : ps.length = n := by have := hp.1; simpa [u8s] using this
  subst e
  exact clone_bytes_any p ps w D hp hlen
theorem u8s_take (l : List Nat) (n : Nat) : u8s (l.take n) = (u8s l).take n := by simp [u8s, List.map_take]
theorem u8s_drop (l : List Nat) (n : Nat) : u8s (l.drop n) = (u8s l).drop n := by simp [u8s, List.map_drop]
theorem rtake_any {w0 w : World} {X : List Fact} {K : (Nat → Prop) → World → Prop} {q : Nat} {left : List Nat} {err : Int} (n : Nat) (hn : n ≤ left.length) (hl : left.length ≤ 1000000000000) (h : Rd w0 w X K q left err) :
    Calls Tryd.prog 98 #[.pointer (some ⟨q, 0, none⟩), .int .i64 n] w fun r w' => ∃ v, r = .returned v ∧ Rd w0 w' X (fun D w => K D w ∧ Sl w D 1 v n (u8s (left.take n))) q (left.drop n) err := by
  obtain ⟨hK, A, c, l1, l2, hS⟩ := h
  have HK := Lib.hid hK
  clear hK
  go_enter Tryd.func98, Tryd.ntmps98
  go_wp2_with (first | ((with_reducible show wpList _ _ _ (⟨_, .load _ _, _, _, _, _⟩ :: _) _ _); first | (refine st_cell hS 0 rfl _ _ rfl _ _ rfl _ _ rfl (by decide +kernel) _ (by first | assumption | rfl) ?_) | (refine st_cell hS 1 rfl _ _ rfl _ _ rfl _ _ rfl (by decide +kernel) _ (by first | assumption | rfl) ?_) | (refine st_cell hS 2 rfl _ _ rfl _ _ rfl _ _ rfl (by decide +kernel) _ (by first | assumption | rfl) ?_) | (refine st_cell hS 3 rfl _ _ rfl _ _ rfl _ _ rfl (by decide +kernel) _ (by first | assumption | rfl) ?_) | (refine st_cell hS 4 rfl _ _ rfl _ _ rfl _ _ rfl (by decide +kernel) _ (by first | assumption | rfl) ?_) | (refine st_cell hS 5 rfl _ _ rfl _ _ rfl _ _ rfl (by decide +kernel) _ (by first | assumption | rfl) ?_) | (refine st_cell hS 6 rfl _ _ rfl _ _ rfl _ _ rfl (by decide +kernel) _ (by first | assumption | rfl) ?_) | (refine st_cell hS 7 rfl _ _ rfl _ _ rfl _ _ rfl (by decide +kernel) _ (by first | assumption | rfl) ?_)))
  have hs : ∀ D w, (K D w ∧ Sl w D 1 (.slice A left.length c) left.length (u8s left)) → Sl w D 1 (.slice A n c) n (u8s (left.take n)) := fun D w h => by
    rw [u8s_take]; exact sl_take h.2 hn
  refine (clone_n_any _ n (left.take n) _ _ (hs _ _ hS.ro) (by omega)).mono ?_
  rintro r w2 ⟨v, rfl, h2, hb2⟩
  replace hS := hS.ret hb2 stable_sl h2
  go_wp2_with (first | ((with_reducible show wpList _ _ _ (⟨_, .load _ _, _, _, _, _⟩ :: _) _ _); first | (refine st_cell hS 0 rfl _ _ rfl _ _ rfl _ _ rfl (by decide +kernel) _ (by first | assumption | rfl) ?_) | (refine st_cell hS 1 rfl _ _ rfl _ _ rfl _ _ rfl (by decide +kernel) _ (by first | assumption | rfl) ?_) | (refine st_cell hS 2 rfl _ _ rfl _ _ rfl _ _ rfl (by decide +kernel) _ (by first | assumption | rfl) ?_) | (refine st_cell hS 3 rfl _ _ rfl _ _ rfl _ _ rfl (by decide +kernel) _ (by first | assumption | rfl) ?_) | (refine st_cell hS 4 rfl _ _ rfl _ _ rfl _ _ rfl (by decide +kernel) _ (by first | assumption | rfl) ?_) | (refine st_cell hS 5 rfl _ _ rfl _ _ rfl _ _ rfl (by decide +kernel) _ (by first | assumption | rfl) ?_) | (refine st_cell hS 6 rfl _ _ rfl _ _ rfl _ _ rfl (by decide +kernel) _ (by first | assumption | rfl) ?_) | (refine st_cell hS 7 rfl _ _ rfl _ _ rfl _ _ rfl (by decide +kernel) _ (by first | assumption | rfl) ?_)) | ((with_reducible show wpList _ _ _ (⟨_, .store _ _ _, _, _, _, _⟩ :: _) _ _); (first | (refine st_store hS 0 rfl _ _ _ rfl _ _ rfl rfl _ _ rfl (by kernel_rfl) (by kernel_rfl) (by kernel_rfl) ?_) | (refine st_store hS 1 rfl _ _ _ rfl _ _ rfl rfl _ _ rfl (by kernel_rfl) (by kernel_rfl) (by kernel_rfl) ?_) | (refine st_store hS 2 rfl _ _ _ rfl _ _ rfl rfl _ _ rfl (by kernel_rfl) (by kernel_rfl) (by kernel_rfl) ?_) | (refine st_store hS 3 rfl _ _ _ rfl _ _ rfl rfl _ _ rfl (by kernel_rfl) (by kernel_rfl) (by kernel_rfl) ?_) | (refine st_cstore hS 0 rfl _ _ _ rfl _ _ _ rfl rfl rfl (by first | (simp; done) | (simp; omega) | exact of_decide_eq_true (by kernel_rfl)) rfl (by first | rfl | assumption) (by kernel_rfl) ?_) | (refine st_cstore hS 1 rfl _ _ _ rfl _ _ _ rfl rfl rfl (by first | (simp; done) | (simp; omega) | exact of_decide_eq_true (by kernel_rfl)) rfl (by first | rfl | assumption) (by kernel_rfl) ?_) | (refine st_cstore hS 2 rfl _ _ _ rfl _ _ _ rfl rfl rfl (by first | (simp; done) | (simp; omega) | exact of_decide_eq_true (by kernel_rfl)) rfl (by first | rfl | assumption) (by kernel_rfl) ?_) | (refine st_cstore hS 3 rfl _ _ _ rfl _ _ _ rfl rfl rfl (by first | (simp; done) | (simp; omega) | exact of_decide_eq_true (by kernel_rfl)) rfl (by first | rfl | assumption) (by kernel_rfl) ?_)); clear hS; intro w_ hS; (try simp only [Act.put, Act.eval, List.set_cons_zero, List.set_cons_succ, List.setIfInBounds_toArray, Array.getD_eq_getD_getElem?, List.getElem?_toArray, List.getElem?_cons_succ, List.getElem?_cons_zero, Option.getD_some, Value.cells] at hS)))
  all_goals
    go_ret
    exact ⟨_, rfl, HK.out.and stable_sl, _, c - n, by rw [List.length_drop]; omega, by omega, by
      rw [show (left.drop n).length = left.length - n from List.length_drop ..]
      exact hS.mono ((HK.out.and stable_sl).and stable_sl) fun D w h => ⟨⟨h.1.1, h.2⟩, by rw [u8s_drop]; exact sl_drop h.1.2 hn l1⟩⟩
end Go.Proofs.YtmlkgaiphpimiaaDoor
namespace Go.Proofs.YtmlkgaiphpimiaaDoor
open Go.RowKit
attribute [local go_sem ↓] Go.wp_at_zero Go.wp_at_succ
set_option maxRecDepth 20000

theorem Rd.weak {w0 w : World} {X : List Fact} {K K' : (Nat → Prop) → World → Prop} {q : Nat} {left : List Nat} {err : Int} (h : Rd w0 w X K q left err) (hs : Stable K') (hk : ∀ D w, K D w → K' D w) : Rd w0 w X K' q left err := by
  obtain ⟨_, A, c, l1, l2, hS⟩ := h
  exact ⟨hs, A, c, l1, l2, hS.mono (hs.and stable_sl) fun D w h => ⟨hk D w h.1, h.2⟩⟩
def readUint (most : Nat) (left : List Nat) (err : Int) : Nat × List Nat × Int :=
  if err = 0 then
    if (numR left 0 0).2 = 0 then (0, left, 6) else if most < (numR left 0 0).1 then (0, left, 2) else ((numR left 0 0).1, left.drop (numR left 0 0).2, 0)
  else (0, left, err)
theorem ruint_any {w0 w : World} {X : List Fact} {K : (Nat → Prop) → World → Prop} {q : Nat} {left : List Nat} {err : Int} (most : Nat) (hl : left.length ≤ 1000000000000) (hb : Bytes left) (hR : Rd w0 w X K q left err) :
    Calls Tryd.prog 99 #[.pointer (some ⟨q, 0, none⟩), .int .u64 most] w fun r w' => r = .returned (.int .u64 (readUint most left err).1) ∧ Rd w0 w' X K q (readUint most left err).2.1 (readUint most left err).2.2 := by
  have HK := Lib.hid hR.1
  go_enter Tryd.func99, Tryd.ntmps99
  by_cases h0 : err = 0
  · subst h0
    have HE := Lib.hid (show readUint most left 0 = if (numR left 0 0).2 = 0 then (0, left, 6) else if most < (numR left 0 0).1 then (0, left, 2) else ((numR left 0 0).1, left.drop (numR left 0 0).2, 0) from rfl)
    generalize readUint most left 0 = RES at *
    have hn := (numR_lt left 0 0 (by decide) hb).2
    have HN := Lib.hid (@rnumber_any w0 w X K q left 0 hl hb hR)
    generalize numR left 0 0 = V at *
    obtain ⟨v, n⟩ := V
    dsimp only at hn HN HE
    go_wp2_with (first | ((with_reducible show wpList _ _ _ (⟨_, .binOp _ _ _ _ _, _, _, _, _⟩ :: _) _ _); (first | (refine st_lss rfl _ _ _ _ rfl _ _ _ rfl rfl (fun h_ => ?_) (fun h_ => ?_)) | (refine st_leq rfl _ _ _ _ rfl _ _ _ rfl rfl (fun h_ => ?_) (fun h_ => ?_)) | (refine st_gtr rfl _ _ _ _ rfl _ _ _ rfl rfl (fun h_ => ?_) (fun h_ => ?_)) | (refine st_geq rfl _ _ _ _ rfl _ _ _ rfl rfl (fun h_ => ?_) (fun h_ => ?_)) | (refine st_eql rfl _ _ _ _ rfl _ _ _ rfl rfl (fun h_ => ?_) (fun h_ => ?_)) | (refine st_neq rfl _ _ _ _ rfl _ _ _ rfl rfl (fun h_ => ?_) (fun h_ => ?_))) <;> go_prune) | (go_at_call 95; refine (rok_any _ _ _ hR.errc).mono ?_; rintro r_ w_ ⟨rfl, rfl⟩) | (go_at_call 96; refine (refuse_any _ _ hR).mono ?_; clear hR; rintro r_ w_ ⟨rfl, hR⟩) | (go_at_call 97; refine HN.out.mono ?_; rintro r_ w_ ⟨rfl, rfl⟩))
    · have hE : RES = (0, left, 6) := by rw [HE.out, if_pos (by omega)]
      subst hE; go_ret; exact ⟨rfl, hR⟩
    · have hE : RES = (0, left, 2) := by rw [HE.out, if_neg (by omega), if_pos (by omega)]
      subst hE; go_ret; exact ⟨rfl, hR⟩
    · refine (rtake_any n (by omega) hl hR).mono ?_
      rintro r w2 ⟨v2, rfl, hR2⟩
      go_wp2_with fail
      have hE : RES = (v, left.drop n, 0) := by rw [HE.out, if_neg (by omega), if_neg (by omega)]
      subst hE; go_ret; exact ⟨rfl, hR2.weak HK.out fun _ _ h => h.1⟩
  · have hd : decide (err = 0) = false := by simpa using h0
    have HE := Lib.hid (show readUint most left err = (0, left, err) by rw [readUint, if_neg h0])
    go_wp2_with (go_at_call 95; refine (rok_any _ _ _ hR.errc).mono ?_; rw [hd]; rintro r_ w_ ⟨rfl, rfl⟩)
    rw [HE.out]
    go_ret
    exact ⟨rfl, hR⟩

theorem rnumberm_any {w0 w : World} {X : List Fact} {K : (Nat → Prop) → World → Prop} {q : Nat} {left : List Nat} {err : Int} (most : Nat) (hm : most ≤ 1000000000000) (hl : left.length ≤ 1000000000000) (hb : Bytes left) (hR : Rd w0 w X K q left err) :
    Calls Tryd.prog 80 #[.pointer (some ⟨q, 0, none⟩), .int .i64 most] w fun r w' => r = .returned (.int .i64 (readUint most left err).1) ∧ Rd w0 w' X K q (readUint most left err).2.1 (readUint most left err).2.2 := by
  have hle : (readUint most left err).1 ≤ most := by
    unfold readUint
    split
    · split
      · simp
      · split
        · simp
        · simp; omega
    · simp
  have hw := wrap_u64_nat (m := most) (by unfold T64; omega)
  have hw2 := wrap_i64_nat (m := (readUint most left err).1) (by omega)
  go_enter Tryd.func80, Tryd.ntmps80
  by_cases h0 : err = 0
  · subst h0
    go_wp2_with (first | ((with_reducible show wpList _ _ _ (⟨_, .binOp _ _ _ _ _, _, _, _, _⟩ :: _) _ _); (first | (refine st_lss rfl _ _ _ _ rfl _ _ _ rfl rfl (fun h_ => ?_) (fun h_ => ?_)) | (refine st_leq rfl _ _ _ _ rfl _ _ _ rfl rfl (fun h_ => ?_) (fun h_ => ?_)) | (refine st_gtr rfl _ _ _ _ rfl _ _ _ rfl rfl (fun h_ => ?_) (fun h_ => ?_)) | (refine st_geq rfl _ _ _ _ rfl _ _ _ rfl rfl (fun h_ => ?_) (fun h_ => ?_)) | (refine st_eql rfl _ _ _ _ rfl _ _ _ rfl rfl (fun h_ => ?_) (fun h_ => ?_)) | (refine st_neq rfl _ _ _ _ rfl _ _ _ rfl rfl (fun h_ => ?_) (fun h_ => ?_))) <;> go_prune) | (go_at_call 95; refine (rok_any _ _ _ hR.errc).mono ?_; rintro r_ w_ ⟨rfl, rfl⟩) | (go_at_call 96; refine (refuse_any _ _ hR).mono ?_; clear hR; rintro r_ w_ ⟨rfl, hR⟩))
    refine (ruint_any most hl hb hR).mono ?_
    rintro r w2 ⟨rfl, hR2⟩
    have HR := Lib.hid hR2
    clear hR2
    have hr : refuseE false 1 0 = 0 := rfl
    rw [hr] at *
    generalize hv : (readUint most left 0).1 = v at *
    have HV := Lib.hid hv
    clear hv
    go_wp2_with fail
    go_ret
    exact ⟨by simp [HV.out], HR.out⟩
  · have hd : decide (err = 0) = false := by simpa using h0
    have HE := Lib.hid (show readUint most left err = (0, left, err) by rw [readUint, if_neg h0])
    go_wp2_with (go_at_call 95; refine (rok_any _ _ _ hR.errc).mono ?_; rw [hd]; rintro r_ w_ ⟨rfl, rfl⟩)
    rw [HE.out]
    go_ret
    exact ⟨rfl, hR⟩
def readCount (most : Nat) (left : List Nat) (err : Int) : Nat × List Nat × Int :=
  if err = 0 then
    if (numR left 0 0).2 = 0 then (0, left, 6) else if most < (numR left 0 0).1 then (0, left, 3) else ((numR left 0 0).1, left.drop (numR left 0 0).2, 0)
  else (0, left, err)
theorem rcount_any {w0 w : World} {X : List Fact} {K : (Nat → Prop) → World → Prop} {q : Nat} {left : List Nat} {err : Int} (most : Nat) (hm : most ≤ 1000000000000) (hl : left.length ≤ 1000000000000) (hb : Bytes left) (hR : Rd w0 w X K q left err) :
    Calls Tryd.prog 78 #[.pointer (some ⟨q, 0, none⟩), .int .i64 most] w fun r w' => r = .returned (.int .i64 (readCount most left err).1) ∧ Rd w0 w' X K q (readCount most left err).2.1 (readCount most left err).2.2 := by
  have HK := Lib.hid hR.1
  have hw := wrap_u64_nat (m := most) (by unfold T64; omega)
  go_enter Tryd.func78, Tryd.ntmps78
  by_cases h0 : err = 0
  · subst h0
    have HE := Lib.hid (show readCount most left 0 = if (numR left 0 0).2 = 0 then (0, left, 6) else if most < (numR left 0 0).1 then (0, left, 3) else ((numR left 0 0).1, left.drop (numR left 0 0).2, 0) from rfl)
    generalize readCount most left 0 = RES at *
    have hn := (numR_lt left 0 0 (by decide) hb).2
    have HN := Lib.hid fun (w : World) (h : Rd w0 w X K q left 0) => rnumber_any (w := w) hl hb h
    generalize numR left 0 0 = V at *
    obtain ⟨v, n⟩ := V
    dsimp only at hn HN HE
    go_wp2_with (first | ((with_reducible show wpList _ _ _ (⟨_, .binOp _ _ _ _ _, _, _, _, _⟩ :: _) _ _); (first | (refine st_lss rfl _ _ _ _ rfl _ _ _ rfl rfl (fun h_ => ?_) (fun h_ => ?_)) | (refine st_leq rfl _ _ _ _ rfl _ _ _ rfl rfl (fun h_ => ?_) (fun h_ => ?_)) | (refine st_gtr rfl _ _ _ _ rfl _ _ _ rfl rfl (fun h_ => ?_) (fun h_ => ?_)) | (refine st_geq rfl _ _ _ _ rfl _ _ _ rfl rfl (fun h_ => ?_) (fun h_ => ?_)) | (refine st_eql rfl _ _ _ _ rfl _ _ _ rfl rfl (fun h_ => ?_) (fun h_ => ?_)) | (refine st_neq rfl _ _ _ _ rfl _ _ _ rfl rfl (fun h_ => ?_) (fun h_ => ?_))) <;> go_prune) | (go_at_call 95; refine (rok_any _ _ _ hR.errc).mono ?_; rintro r_ w_ ⟨rfl, rfl⟩) | (go_at_call 96; refine (refuse_any _ _ hR).mono ?_; clear hR; rintro r_ w_ ⟨rfl, hR⟩) | (go_at_call 97; refine (HN.out _ hR).mono ?_; rintro r_ w_ ⟨rfl, rfl⟩))
    · have hE : RES = (0, left, 6) := by rw [HE.out, if_pos (by omega)]
      subst hE; go_ret; exact ⟨rfl, hR⟩
    · have hE : RES = (0, left, 3) := by rw [HE.out, if_neg (by omega), if_pos (by omega)]
      subst hE; go_ret; exact ⟨rfl, hR⟩
    · have hw2 := wrap_i64_nat (m := v) (by omega)
      refine (rtake_any n (by omega) hl hR).mono ?_
      rintro r w2 ⟨v2, rfl, hR2⟩
      go_wp2_with fail
      have hE : RES = (v, left.drop n, 0) := by rw [HE.out, if_neg (by omega), if_neg (by omega)]
      subst hE; go_ret; exact ⟨by simp, hR2.weak HK.out fun _ _ h => h.1⟩
  · have hd : decide (err = 0) = false := by simpa using h0
    have HE := Lib.hid (show readCount most left err = (0, left, err) by rw [readCount, if_neg h0])
    go_wp2_with (go_at_call 95; refine (rok_any _ _ _ hR.errc).mono ?_; rw [hd]; rintro r_ w_ ⟨rfl, rfl⟩)
    rw [HE.out]
    go_ret
    exact ⟨rfl, hR⟩

end Go.Proofs.YtmlkgaiphpimiaaDoor
namespace Go.Proofs.YtmlkgaiphpimiaaDoor
open Go.RowKit
attribute [local go_sem ↓] Go.wp_at_zero Go.wp_at_succ
set_option maxRecDepth 20000

theorem rerr_any (q : Nat) (err : Int) (w : World) (hc : w.cell? ⟨q, 1, none⟩ = some (.int .i64 err)) :
    Calls Tryd.prog 79 #[.pointer (some ⟨q, 0, none⟩)] w fun e w' => e = .returned (.int .i64 err) ∧ w = w' := by
  go_enter Tryd.func79, Tryd.ntmps79
  go_wp2_with fail
  go_ret
  exact ⟨rfl, rfl⟩
def endE (left : List Nat) (err : Int) : Int := if err = 0 ∧ left ≠ [] then 6 else err
theorem rend_any {w0 w : World} {X : List Fact} {K : (Nat → Prop) → World → Prop} {q : Nat} {left : List Nat} {err : Int} (hR : Rd w0 w X K q left err) :
    Calls Tryd.prog 82 #[.pointer (some ⟨q, 0, none⟩)] w fun e w' => e = .returned (.int .i64 (endE left err)) ∧ w = w' := by
  obtain ⟨_, A, c, l1, l2, hS⟩ := id hR
  go_enter Tryd.func82, Tryd.ntmps82
  by_cases h0 : err = 0
  · subst h0
    go_wp2_with (first | ((with_reducible show wpList _ _ _ (⟨_, .load _ _, _, _, _, _⟩ :: _) _ _); first | (refine st_cell hS 0 rfl _ _ rfl _ _ rfl _ _ rfl (by decide +kernel) _ (by first | assumption | rfl) ?_) | (refine st_cell hS 1 rfl _ _ rfl _ _ rfl _ _ rfl (by decide +kernel) _ (by first | assumption | rfl) ?_) | (refine st_cell hS 2 rfl _ _ rfl _ _ rfl _ _ rfl (by decide +kernel) _ (by first | assumption | rfl) ?_) | (refine st_cell hS 3 rfl _ _ rfl _ _ rfl _ _ rfl (by decide +kernel) _ (by first | assumption | rfl) ?_) | (refine st_cell hS 4 rfl _ _ rfl _ _ rfl _ _ rfl (by decide +kernel) _ (by first | assumption | rfl) ?_) | (refine st_cell hS 5 rfl _ _ rfl _ _ rfl _ _ rfl (by decide +kernel) _ (by first | assumption | rfl) ?_) | (refine st_cell hS 6 rfl _ _ rfl _ _ rfl _ _ rfl (by decide +kernel) _ (by first | assumption | rfl) ?_) | (refine st_cell hS 7 rfl _ _ rfl _ _ rfl _ _ rfl (by decide +kernel) _ (by first | assumption | rfl) ?_)) | ((with_reducible show wpList _ _ _ (⟨_, .binOp _ _ _ _ _, _, _, _, _⟩ :: _) _ _); (first | (refine st_lss rfl _ _ _ _ rfl _ _ _ rfl rfl (fun h_ => ?_) (fun h_ => ?_)) | (refine st_leq rfl _ _ _ _ rfl _ _ _ rfl rfl (fun h_ => ?_) (fun h_ => ?_)) | (refine st_gtr rfl _ _ _ _ rfl _ _ _ rfl rfl (fun h_ => ?_) (fun h_ => ?_)) | (refine st_geq rfl _ _ _ _ rfl _ _ _ rfl rfl (fun h_ => ?_) (fun h_ => ?_)) | (refine st_eql rfl _ _ _ _ rfl _ _ _ rfl rfl (fun h_ => ?_) (fun h_ => ?_)) | (refine st_neq rfl _ _ _ _ rfl _ _ _ rfl rfl (fun h_ => ?_) (fun h_ => ?_))) <;> go_prune) | (go_at_call 95; refine (rok_any _ _ _ hR.errc).mono ?_; rintro r_ w_ ⟨rfl, rfl⟩) | (go_at_call 79; refine (rerr_any _ _ _ hR.errc).mono ?_; rintro r_ w_ ⟨rfl, rfl⟩))
    · have hE : endE left 0 = 6 := by
        unfold endE; rw [if_pos]; refine ⟨rfl, fun e => ?_⟩; subst e; simp at h_
      rw [hE]; go_ret; exact ⟨rfl, rfl⟩
    · have hE : endE left 0 = 0 := by
        unfold endE; rw [if_neg]; rintro ⟨_, h⟩; exact h (List.eq_nil_of_length_eq_zero (by omega))
      rw [hE]; go_ret; exact ⟨rfl, rfl⟩
  · have hd : decide (err = 0) = false := by simpa using h0
    have HE := Lib.hid (show endE left err = err by unfold endE; rw [if_neg]; rintro ⟨h, _⟩; exact h0 h)
    go_wp2_with (first | (go_at_call 95; refine (rok_any _ _ _ hR.errc).mono ?_; rw [hd]; rintro r_ w_ ⟨rfl, rfl⟩) | (go_at_call 79; refine (rerr_any _ _ _ hR.errc).mono ?_; rintro r_ w_ ⟨rfl, rfl⟩))
    rw [HE.out]
    go_ret
    exact ⟨rfl, rfl⟩
theorem rnew_any {w0 w : World} {F : List Fact} {K : (Nat → Prop) → World → Prop} (p : Value) (ps : List Nat) (hl : ps.length ≤ 1000000000000) {D : Nat → Prop} (hS : St w0 w F K) (hp : Sl w D 1 p ps.length (u8s ps)) :
    Calls Tryd.prog 77 #[p] w fun r w' => ∃ q, r = .returned (.pointer (some ⟨q, 0, none⟩)) ∧ Rd w0 w' F K q ps 0 := by
  obtain ⟨A, c, rfl, _, _⟩ := hp.shape
  have HC := Lib.hid (clone_bytes_any _ ps w _ hp hl)
  have HK := Lib.hid hS.stable
  clear hp
  go_enter Tryd.func77, Tryd.ntmps77
  go_wp2_with fail
  refine HC.out.mono ?_
  rintro r w2 ⟨v, rfl, h2, hb2⟩
  obtain ⟨A2, c2, rfl, l1, l2⟩ := h2.shape
  replace hS := hS.ret hb2 stable_sl h2
  go_wp2_with (first
    | ((with_reducible show wpList _ _ _ (⟨_, .build _ _, _, _, _, _⟩ :: _) _ _); refine wpList_build_of rfl _ _ rfl #[.slice A2 ps.length c2, .int .i64 0] (by kernel_rfl) ?_)
    | ((with_reducible show wpList _ _ _ (⟨some 6, _, _, _, _, _⟩ :: _) _ _); refine st_box hS rfl _ _ rfl (.agg #[.slice A2 ps.length c2, .int .i64 0]) _ rfl rfl ?_; clear hS; intro q w_ hS; (try simp only [Act.put, Act.eval, List.set_cons_zero, List.set_cons_succ, List.setIfInBounds_toArray, Array.getD_eq_getD_getElem?, List.getElem?_toArray, List.getElem?_cons_succ, List.getElem?_cons_zero, Option.getD_some, Value.cells] at hS)))
  go_ret
  exact ⟨_, rfl, HK.out, A2, c2, l1, by unfold maxLen; omega, hS⟩
end Go.Proofs.YtmlkgaiphpimiaaDoor
namespace Go.Proofs.YtmlkgaiphpimiaaDoor
open Go.RowKit
attribute [local go_sem ↓] Go.wp_at_zero Go.wp_at_succ
set_option maxRecDepth 20000

end Go.Proofs.YtmlkgaiphpimiaaDoor
namespace Go.Proofs.YtmlkgaiphpimiaaDoor
open Go.RowKit
attribute [local go_sem ↓] Go.wp_at_zero Go.wp_at_succ
set_option maxRecDepth 20000

end Go.Proofs.YtmlkgaiphpimiaaDoor
namespace Go.Proofs.YtmlkgaiphpimiaaDoor
open Go.RowKit
set_option maxRecDepth 20000

theorem numR_hi7 : ∀ (f x : Nat) (s : List Nat), x < 128 ^ f → x ≤ 144115188075855871 → numR ((hi7 f x).reverse ++ s) 0 0 = if x = 0 then numR s 0 0 else numR s x (hi7 f x).length
  | 0, x, s, h, _ => by
    obtain rfl : x = 0 := by simpa using h
    simp [hi7]
  | f + 1, x, s, h, hb => by
    by_cases h0 : x = 0
    · simp [hi7, h0]
    · have h1 : x / 128 < 128 ^ f := Nat.div_lt_of_lt_mul (by rw [Nat.mul_comm, ← Nat.pow_succ]; exact h)
      have ih := numR_hi7 f (x / 128) ((x % 128 + 128) :: s) h1 (by omega)
      have e : (hi7 (f + 1) x).reverse ++ s = (hi7 f (x / 128)).reverse ++ ((x % 128 + 128) :: s) := by simp [hi7, h0]
      rw [e, ih, if_neg h0]
      have el : (hi7 (f + 1) x).length = (hi7 f (x / 128)).length + 1 := by simp [hi7, h0]
      rw [el]
      by_cases h2 : x / 128 = 0
      · have ez : hi7 f (x / 128) = [] := by rw [h2]; cases f <;> simp [hi7]
        rw [if_pos h2, ez, numR, if_neg (by omega), if_neg (by omega)]
        congr 1; omega
      · have hn : (hi7 f (x / 128)).length ≠ 0 := by
          cases f with
          | zero => simp at h1; omega
          | succ f => simp [hi7, h2]
        rw [if_neg h2, numR, if_neg (by omega), if_neg (by omega)]
        congr 1; omega
theorem numR_putN {v : Nat} (hv : v < T64) (r : List Nat) : numR (putN v ++ r) 0 0 = (v, (putN v).length) := by
  unfold T64 at hv
  have e : putN v ++ r = (hi7 10 (v / 128)).reverse ++ ((v % 128) :: r) := by simp [putN]
  have el : (putN v).length = (hi7 10 (v / 128)).length + 1 := by simp [putN]
  rw [e, el, numR_hi7 10 (v / 128) _ (by omega) (by omega)]
  by_cases h : v / 128 = 0
  · rw [if_pos h, h, numR, if_neg (by omega), if_pos (by omega)]
    simp [hi7]; omega
  · rw [if_neg h, numR, if_neg (by
      rintro (h1 | h1)
      · omega
      · omega), if_pos (by omega)]
    congr 1; omega
theorem putN_pos (v : Nat) : (putN v).length ≠ 0 := by simp [putN]
theorem readUint_putN {v most : Nat} (hv : v < T64) (hm : v ≤ most) (r : List Nat) : readUint most (putN v ++ r) 0 = (v, r, 0) := by
  have := putN_pos v
  rw [readUint, if_pos rfl, numR_putN hv, if_neg (by omega), if_neg (by omega)]
  simp
theorem readCount_putN {v most : Nat} (hv : v < T64) (hm : v ≤ most) (r : List Nat) : readCount most (putN v ++ r) 0 = (v, r, 0) := by
  have := putN_pos v
  rw [readCount, if_pos rfl, numR_putN hv, if_neg (by omega), if_neg (by omega)]
  simp
end Go.Proofs.YtmlkgaiphpimiaaDoor
namespace Go.Proofs.YtmlkgaiphpimiaaDoor
open Go.RowKit
attribute [local go_sem ↓] Go.wp_at_zero Go.wp_at_succ
set_option maxRecDepth 20000

theorem IsCert.cc {w : World} {D : Nat → Prop} {v : Value} {c : CertD} (h : IsCert w D v c) : ∃ pv qv, v = .agg (cc c.prob c.reach pv qv) ∧ c.prob.length = 32 ∧ Bytes c.prob ∧ Sl w D 1 pv c.plan.length (ints c.plan) ∧ IsCubes w D qv c.cubes := by
  obtain ⟨cs, pv, qv, h1, h2, h3, h4, h5, h6, h7, h8, h9, h10⟩ := h
  refine ⟨pv, qv, ?_, h3, h4, h9, h10⟩
  rw [h1]
  congr 1
  have ha := cc_at c.prob c.reach pv qv h3
  apply Array.ext_getElem?
  intro i
  rcases Nat.lt_or_ge i 32 with hi | hi
  · rw [h5 i hi]
    simp only [Go.Proofs.YtmlkgaiphpimiaaDoor.cc, List.getElem?_toArray]
    rw [List.getElem?_append_left (by simp [u8s]; omega)]
    exact (u8s_at _ _ (by omega)).symm
  · rcases Nat.lt_or_ge i 35 with hi2 | hi2
    · have : i = 32 ∨ i = 33 ∨ i = 34 := by omega
      rcases this with rfl | rfl | rfl
      · rw [h6, ha.1]
      · rw [h7, ha.2.1]
      · rw [h8, ha.2.2]
    · rw [Array.getElem?_eq_none (by omega), Array.getElem?_eq_none (by rw [cc_size _ _ _ _ h3]; omega)]

end Go.Proofs.YtmlkgaiphpimiaaDoor
namespace Go.Proofs.YtmlkgaiphpimiaaDoor
open Go.RowKit
attribute [local go_sem ↓] Go.wp_at_zero Go.wp_at_succ
set_option maxRecDepth 20000

theorem IsCubes.none_ {w : World} {D : Nat → Prop} : IsCubes w D (.slice none 0 0) [] := ⟨[], Sl.none_, fun i y n h => by simp at h⟩
theorem IsCubes.one {w : World} {b : Nat} {t : TypeId} {y n : Value} {Y N : Nat} {D E : Nat → Prop} (h : Box w b t #[y, n]) (hy : IsSet w D (.agg #[y]) Y) (hn : IsSet w E (.agg #[n]) N) : IsCubes w (fun _ => True) (.slice (some ⟨b, 0, none⟩) 1 1) [(Y, N)] :=
  ⟨[y, n], (Sl.of_box (n := 1) (size := 2) h rfl (by omega)).imp fun _ _ _ => trivial, fun i a c hi => by
    match i, hi with
    | 0, hi => simp at hi; obtain ⟨rfl, rfl⟩ := hi; exact ⟨y, n, rfl, rfl, hy.imp fun _ _ _ => trivial, hn.imp fun _ _ _ => trivial⟩⟩
end Go.Proofs.YtmlkgaiphpimiaaDoor
namespace Go.Proofs.YtmlkgaiphpimiaaDoor
open Go.RowKit
attribute [local go_sem ↓] Go.wp_at_zero Go.wp_at_succ
set_option maxRecDepth 20000

theorem IsRaw.keep {w w' : World} {D : Nat → Prop} {v : Value} {x : RawCert} (h : IsRaw w D v x) (hsz : w.heap.size ≤ w'.heap.size) (hk : ∀ p : Addr, D p.block → p.block < w.heap.size → w'.cell? p = w.cell? p) : IsRaw w' D v x := by
  obtain ⟨pv, qv, h1, h2, h3⟩ := h
  exact ⟨pv, qv, h1, h2.keep hsz hk, h3.keep hsz hk⟩
theorem IsRaw.imp {w : World} {D D' : Nat → Prop} {v : Value} {x : RawCert} (h : IsRaw w D v x) (hD : ∀ b, D b → b < w.heap.size → D' b) : IsRaw w D' v x := by
  obtain ⟨pv, qv, h1, h2, h3⟩ := h
  exact ⟨pv, qv, h1, h2.imp hD, h3.imp hD⟩
theorem IsRaw.ext {w w' : World} {D : Nat → Prop} {v : Value} {x : RawCert} (h : IsRaw w D v x) (hb : Below w.heap.size w w') : IsRaw w' D v x := h.keep hb.size fun _ _ hp => hb.cell hp
theorem IsRaw.drew {w : World} {D : Nat → Prop} {v : Value} {x : RawCert} (h : IsRaw w D v x) : IsRaw w.drew D v x := h.keep (Nat.le_refl _) fun _ _ _ => rfl
theorem IsRaw.alloc {w : World} {D : Nat → Prop} {v : Value} {x : RawCert} (h : IsRaw w D v x) (o : Obj) : IsRaw (w.alloc o) D v x := h.keep (by simp) fun p _ hp => World.cell?_alloc_lt w o p hp
theorem IsRaw.upd {g : Nat} {w w' : World} {D : Nat → Prop} {v : Value} {x : RawCert} (h : IsRaw w D v x) (hU : Upd g w w') (hD : ∀ b, D b → b < w.heap.size → b ≠ g) : IsRaw w' D v x := h.keep (Nat.le_of_eq hU.size.symm) fun _ h1 h2 => hU.cell (hD _ h1 h2)
theorem IsRCert.row {w : World} {D : Nat → Prop} {v : Value} {c : CertD} (h : IsRCert w D v c) : ∃ cs : Array Value, v = .agg cs ∧ cs.size = 35 ∧ cs.all (·.oneCell') = true := by
  obtain ⟨pv, qv, rfl, h32, _, hp, hq⟩ := h
  obtain ⟨A, c1, rfl, _, _⟩ := hp.shape
  obtain ⟨B, c2, rfl, _, _⟩ := hq.shape
  exact ⟨_, rfl, cc_size _ _ _ _ h32, cc_one _ _ _ _ _ _ _ _⟩
theorem IsCert.upd {g : Nat} {w w' : World} {D : Nat → Prop} {v : Value} {c : CertD} (h : IsCert w D v c) (hU : Upd g w w') (hD : ∀ b, D b → b < w.heap.size → b ≠ g) : IsCert w' D v c := h.keep (Nat.le_of_eq hU.size.symm) fun _ h1 h2 => hU.cell (hD _ h1 h2)
theorem IsCert.row {w : World} {D : Nat → Prop} {v : Value} {c : CertD} (h : IsCert w D v c) : ∃ cs : Array Value, v = .agg cs ∧ cs.size = 35 ∧ cs.all (·.oneCell') = true := by
  obtain ⟨pv, qv, rfl, h32, _, hp, hq⟩ := h.cc
  obtain ⟨A, c1, rfl, _, _⟩ := hp.shape
  obtain ⟨B, c2, rfl, _, _⟩ := hq.shape
  exact ⟨_, rfl, cc_size _ _ _ _ h32, cc_one _ _ _ _ _ _ _ _⟩
end Go.Proofs.YtmlkgaiphpimiaaDoor
namespace Go.Proofs.YtmlkgaiphpimiaaDoor
open Go.RowKit
set_option maxRecDepth 20000
set_option exponentiation.threshold 5000

def enc7 (x : Nat) : List Nat := (hi7 10 x).reverse
theorem hi7_zero (f : Nat) : hi7 f 0 = [] := by cases f <;> simp [hi7]
theorem hi7_more : ∀ (f x : Nat), x < 128 ^ f → hi7 (f + 1) x = hi7 f x
  | 0, x, h => by
    obtain rfl : x = 0 := by simpa using h
    rfl
  | f + 1, x, h => by
    by_cases h0 : x = 0
    · simp [h0, hi7_zero]
    · rw [hi7, if_neg h0]
      conv => rhs; rw [hi7, if_neg h0]
      rw [hi7_more f (x / 128) (Nat.div_lt_of_lt_mul (by rw [Nat.mul_comm, ← Nat.pow_succ]; exact h))]
theorem enc7_step {v b : Nat} (hv : v * 128 + b < T64) (hb : b < 128) (h0 : v * 128 + b ≠ 0) : enc7 (v * 128 + b) = enc7 v ++ [b + 128] := by
  unfold T64 at hv
  have e1 : (v * 128 + b) % 128 = b := by omega
  have e2 : (v * 128 + b) / 128 = v := by omega
  unfold enc7
  rw [show (10 : Nat) = 9 + 1 from rfl, hi7, if_neg h0, e1, e2, ← hi7_more 9 v (by omega)]
  simp
theorem numR_inv : ∀ (l : List Nat) (v k : Nat), Bytes l → (k = 0 ↔ v = 0) → v < T64 → (numR l v k).2 ≠ 0 →
    (numR l v k).1 < T64 ∧ k < (numR l v k).2 ∧ (numR l v k).2 - k ≤ l.length ∧ enc7 v ++ l.take ((numR l v k).2 - k) = putN (numR l v k).1
  | [], v, k, _, _, _, h => by simp [numR] at h
  | b :: r, v, k, hb, hk, hv, h => by
    have hb8 := hb b (by simp)
    rw [numR] at h ⊢
    by_cases h1 : (k = 0 ∧ b = 128) ∨ 144115188075855871 < v
    · rw [if_pos h1] at h; simp at h
    · rw [if_neg h1] at h ⊢
      have hv2 : v ≤ 144115188075855871 := by omega
      by_cases h2 : b < 128
      · rw [if_pos h2] at h ⊢
        have hm : b % 128 = b := by omega
        rw [hm]
        refine ⟨by unfold T64; omega, by show k < k + 1; omega, by simp, ?_⟩
        have : putN (v * 128 + b) = enc7 v ++ [b] := by
          have e1 : (v * 128 + b) % 128 = b := by omega
          have e2 : (v * 128 + b) / 128 = v := by omega
          simp [putN, enc7, e1, e2]
        rw [this]; simp
      · rw [if_neg h2] at h ⊢
        have hm : b % 128 + 128 = b := by omega
        have hlt : v * 128 + b % 128 < T64 := by unfold T64; omega
        have hne : v * 128 + b % 128 ≠ 0 := by
          intro e
          have : v = 0 := by omega
          have := hk.2 this
          omega
        obtain ⟨i1, i2, i3, i4⟩ := numR_inv r (v * 128 + b % 128) (k + 1) (fun x hx => hb x (by simp [hx])) (by omega) hlt h
        generalize numR r (v * 128 + b % 128) (k + 1) = V at *
        refine ⟨i1, by omega, by simp; omega, ?_⟩
        rw [enc7_step hlt (Nat.mod_lt _ (by decide)) hne, hm] at i4
        rw [show V.2 - k = (V.2 - (k + 1)) + 1 by omega, List.take_succ_cons]
        rw [← i4]; simp
theorem numR_put {l : List Nat} (hb : Bytes l) (h : (numR l 0 0).2 ≠ 0) : (numR l 0 0).1 < T64 ∧ l = putN (numR l 0 0).1 ++ l.drop (numR l 0 0).2 := by
  obtain ⟨i1, _, i3, i4⟩ := numR_inv l 0 0 hb (by simp) (by decide) h
  refine ⟨i1, ?_⟩
  rw [← i4, Nat.sub_zero]
  simp [enc7, hi7_zero, List.take_append_drop]
theorem readUint_err {most : Nat} {l : List Nat} {e : Int} (h : e ≠ 0) : readUint most l e = (0, l, e) := by rw [readUint, if_neg h]
theorem readCount_err {most : Nat} {l : List Nat} {e : Int} (h : e ≠ 0) : readCount most l e = (0, l, e) := by rw [readCount, if_neg h]
theorem readUint_inv {most : Nat} {l : List Nat} {e : Int} (hb : Bytes l) (h : (readUint most l e).2.2 = 0) : e = 0 ∧ (readUint most l e).1 ≤ most ∧ (readUint most l e).1 < T64 ∧ l = putN (readUint most l e).1 ++ (readUint most l e).2.1 := by
  by_cases h0 : e = 0
  · subst h0
    unfold readUint at h ⊢
    rw [if_pos rfl] at h ⊢
    split at h
    · simp at h
    · rename_i h1
      split at h
      · simp at h
      · rename_i h2
        rw [if_neg h1, if_neg h2]
        obtain ⟨a, b⟩ := numR_put hb h1
        exact ⟨rfl, by show (numR l 0 0).1 ≤ most; omega, a, b⟩
  · rw [readUint_err h0] at h; exact absurd h h0
theorem readCount_inv {most : Nat} {l : List Nat} {e : Int} (hb : Bytes l) (h : (readCount most l e).2.2 = 0) : e = 0 ∧ (readCount most l e).1 ≤ most ∧ (readCount most l e).1 < T64 ∧ l = putN (readCount most l e).1 ++ (readCount most l e).2.1 := by
  by_cases h0 : e = 0
  · subst h0
    unfold readCount at h ⊢
    rw [if_pos rfl] at h ⊢
    split at h
    · simp at h
    · rename_i h1
      split at h
      · simp at h
      · rename_i h2
        rw [if_neg h1, if_neg h2]
        obtain ⟨a, b⟩ := numR_put hb h1
        exact ⟨rfl, by show (numR l 0 0).1 ≤ most; omega, a, b⟩
  · rw [readCount_err h0] at h; exact absurd h h0
end Go.Proofs.YtmlkgaiphpimiaaDoor
namespace Go.Proofs.YtmlkgaiphpimiaaDoor
open Go.RowKit
set_option maxRecDepth 20000
set_option exponentiation.threshold 5000

theorem readUint_le (most : Nat) (l : List Nat) (e : Int) : (readUint most l e).1 ≤ most := by
  unfold readUint
  split
  · split
    · exact Nat.zero_le _
    · split
      · exact Nat.zero_le _
      · show (numR l 0 0).1 ≤ most; omega
  · exact Nat.zero_le _
theorem readCount_le (most : Nat) (l : List Nat) (e : Int) : (readCount most l e).1 ≤ most := by
  unfold readCount
  split
  · split
    · exact Nat.zero_le _
    · split
      · exact Nat.zero_le _
      · show (numR l 0 0).1 ≤ most; omega
  · exact Nat.zero_le _
theorem endE_zero {l : List Nat} {e : Int} (h : endE l e = 0) : l = [] ∧ e = 0 := by
  unfold endE at h
  split at h
  · simp at h
  · rename_i hn
    refine ⟨?_, h⟩
    by_cases hl : l = []
    · exact hl
    · exact absurd ⟨h, hl⟩ hn
end Go.Proofs.YtmlkgaiphpimiaaDoor
namespace Go.Proofs.YtmlkgaiphpimiaaDoor
open Go.RowKit
set_option exponentiation.threshold 5000

theorem readUint_keep {most : Nat} {l : List Nat} {e : Int} (hb : Bytes l) : (readUint most l e).2.1.length ≤ l.length ∧ Bytes (readUint most l e).2.1 := by
  unfold readUint; split
  · split
    · exact ⟨Nat.le_refl _, hb⟩
    · split
      · exact ⟨Nat.le_refl _, hb⟩
      · exact ⟨by simp, fun x hx => hb x (List.mem_of_mem_drop hx)⟩
  · exact ⟨Nat.le_refl _, hb⟩
theorem readCount_keep {most : Nat} {l : List Nat} {e : Int} (hb : Bytes l) : (readCount most l e).2.1.length ≤ l.length ∧ Bytes (readCount most l e).2.1 := by
  unfold readCount; split
  · split
    · exact ⟨Nat.le_refl _, hb⟩
    · split
      · exact ⟨Nat.le_refl _, hb⟩
      · exact ⟨by simp, fun x hx => hb x (List.mem_of_mem_drop hx)⟩
  · exact ⟨Nat.le_refl _, hb⟩
def linkU (l : List Nat) (e : Int) : Nat × List Nat × Int := readUint 63 (readUint 63 l e).2.1 (readUint 63 l e).2.2
def linkE (l : List Nat) (e : Int) : Int := if 1 ≤ (readUint 63 l e).1 ∧ 1 ≤ (linkU l e).1 then (linkU l e).2.2 else if (linkU l e).2.2 = 0 then 6 else (linkU l e).2.2
def readLinks : Nat → List Nat → Int → List (Nat × Nat) × List Nat × Int
  | 0, l, e => ([], l, e)
  | n + 1, l, e => if e ≠ 0 then ([], l, e) else
      (((readUint 63 l e).1, (linkU l e).1) :: (readLinks n (linkU l e).2.1 (linkE l e)).1, (readLinks n (linkU l e).2.1 (linkE l e)).2)
theorem readLinks_err {n : Nat} {l : List Nat} {e : Int} (h : e ≠ 0) : readLinks n l e = ([], l, e) := by
  cases n with
  | zero => rfl
  | succ n => rw [readLinks, if_pos h]
theorem linkE_zero {l : List Nat} {e : Int} (h : linkE l e = 0) : 1 ≤ (readUint 63 l e).1 ∧ 1 ≤ (linkU l e).1 ∧ (linkU l e).2.2 = 0 := by
  unfold linkE at h
  by_cases h1 : 1 ≤ (readUint 63 l e).1 ∧ 1 ≤ (linkU l e).1
  · rw [if_pos h1] at h; exact ⟨h1.1, h1.2, h⟩
  · rw [if_neg h1] at h
    by_cases h2 : (linkU l e).2.2 = 0
    · rw [if_pos h2] at h; cases h
    · rw [if_neg h2] at h; exact absurd h h2
def Roles (L : List (Nat × Nat)) : Prop := ∀ x ∈ L, (1 ≤ x.1 ∧ x.1 < 64) ∧ 1 ≤ x.2 ∧ x.2 < 64
theorem hpairs_cons (z : Nat × Nat) (L : List (Nat × Nat)) : hpairs (z :: L) = putN z.1 ++ (putN z.2 ++ hpairs L) := by simp [hpairs]
theorem readLinks_inv : ∀ (n : Nat) (l : List Nat) (e : Int), Bytes l → (readLinks n l e).2.2 = 0 → e = 0 ∧ (readLinks n l e).1.length = n ∧ Roles (readLinks n l e).1 ∧ l = hpairs (readLinks n l e).1 ++ (readLinks n l e).2.1
  | 0, l, e, _, h => ⟨h, rfl, by simp [readLinks, Roles], by simp [readLinks, hpairs]⟩
  | n + 1, l, e, hb, h => by
    by_cases h0 : e = 0
    · subst h0
      rw [readLinks, if_neg (by simp)] at h ⊢
      obtain ⟨i1, i2, i3, i4⟩ := readLinks_inv n _ _ (readUint_keep (readUint_keep hb).2).2 h
      obtain ⟨z1, z2, z3⟩ := linkE_zero i1
      obtain ⟨j1, j2, _, j4⟩ := readUint_inv (readUint_keep hb).2 z3
      obtain ⟨k1, k2, _, k4⟩ := readUint_inv hb j1
      refine ⟨rfl, congrArg (· + 1) i2, ?_, ?_⟩
      · intro x hx
        rcases List.mem_cons.1 hx with rfl | hx
        · exact ⟨⟨z1, by show _ < _; omega⟩, z2, by show (linkU l 0).1 < 64; have : (linkU l 0).1 ≤ 63 := j2; omega⟩
        · exact i3 x hx
      · show l = hpairs (_ :: _) ++ _
        rw [hpairs_cons, List.append_assoc, List.append_assoc]
        show l = putN (readUint 63 l 0).1 ++ (putN (linkU l 0).1 ++ (_ ++ _))
        have e1 : (linkU l 0).2.1 = hpairs (readLinks n (linkU l 0).2.1 (linkE l 0)).1 ++ (readLinks n (linkU l 0).2.1 (linkE l 0)).2.1 := i4
        have e2 : (readUint 63 l 0).2.1 = putN (linkU l 0).1 ++ (linkU l 0).2.1 := j4
        rw [← e1, ← e2]; exact k4
    · rw [readLinks_err h0] at h; exact absurd h h0
theorem readLinks_put : ∀ (L : List (Nat × Nat)) (r : List Nat), Roles L → readLinks L.length (hpairs L ++ r) 0 = (L, r, 0)
  | [], r, _ => rfl
  | (a, b) :: L, r, h => by
    obtain ⟨⟨a1, a2⟩, b1, b2⟩ := h (a, b) (by simp)
    dsimp only at a1 a2 b1 b2
    have e1 : readUint 63 (putN a ++ (putN b ++ (hpairs L ++ r))) 0 = (a, putN b ++ (hpairs L ++ r), 0) := readUint_putN (by unfold T64; omega) (by omega) _
    have e2 : linkU (putN a ++ (putN b ++ (hpairs L ++ r))) 0 = (b, hpairs L ++ r, 0) := by
      unfold linkU; rw [e1]; exact readUint_putN (by unfold T64; omega) (by omega) _
    have e3 : linkE (putN a ++ (putN b ++ (hpairs L ++ r))) 0 = 0 := by
      unfold linkE; rw [e1, e2]; exact if_pos ⟨a1, b1⟩
    rw [List.length_cons, readLinks, if_neg (by simp), hpairs_cons, List.append_assoc, List.append_assoc]
    rw [e1, e2, e3]
    dsimp only
    rw [readLinks_put L r fun x hx => h x (by simp [hx])]
def readH (ps : List Nat) : List (Nat × Nat) × List Nat × Int := readLinks (readCount 3969 ps 0).1 (readCount 3969 ps 0).2.1 (readCount 3969 ps 0).2.2
def HRead (ps : List Nat) (L : List (Nat × Nat)) : Prop := readH ps = (L, [], 0) ∧ HOK L
theorem HRead.uniq {ps : List Nat} {L M : List (Nat × Nat)} (h : HRead ps L) (k : HRead ps M) : L = M := by
  have := h.1.symm.trans k.1
  injection this
theorem HRead.len {ps : List Nat} {L : List (Nat × Nat)} (hb : Bytes ps) (h : HRead ps L) : L.length ≤ 3969 := by
  have h1 := (readLinks_inv _ _ _ (readCount_keep hb).2 (show (readH ps).2.2 = 0 by rw [h.1])).2.1
  have h2 := readCount_le 3969 ps 0
  have h3 : (readH ps).1.length = (readCount 3969 ps 0).1 := h1
  rw [h.1] at h3
  dsimp only at h3
  omega
theorem HRead.enc {ps : List Nat} {L : List (Nat × Nat)} (hb : Bytes ps) (h : HRead ps L) : hencB L = ps := by
  have h0 : (readH ps).2.2 = 0 := by rw [h.1]
  obtain ⟨i1, i2, i3, i4⟩ := readLinks_inv _ _ _ (readCount_keep hb).2 h0
  obtain ⟨-, -, -, j4⟩ := readCount_inv hb i1
  have e2 : (readH ps).1.length = (readCount 3969 ps 0).1 := i2
  have e4 : (readCount 3969 ps 0).2.1 = hpairs (readH ps).1 ++ (readH ps).2.1 := i4
  rw [e4, ← e2, h.1] at j4
  rw [j4]; simp [hencB]
theorem readH_put {L : List (Nat × Nat)} (h : Roles L) (hl : L.length ≤ 3969) (r : List Nat) : readH (hencB L ++ r) = (L, r, 0) := by
  unfold readH hencB
  rw [List.append_assoc, readCount_putN (by unfold T64; omega) hl]
  exact readLinks_put L r h
theorem HRead.of {L : List (Nat × Nat)} (h : HOK L) (hl : L.length ≤ 3969) : HRead (hencB L) L := by
  have := readH_put h.role hl []
  rw [List.append_nil] at this
  exact ⟨this, h⟩
theorem bytes_append {a b : List Nat} (h : Bytes a) (k : Bytes b) : Bytes (a ++ b) := fun x hx => (List.mem_append.1 hx).elim (h x) (k x)
theorem hencB_bytes (L : List (Nat × Nat)) : Bytes (hencB L) := by
  refine bytes_append (putN_byte _) ?_
  induction L with
  | nil => intro x hx; simp [hpairs] at hx
  | cons z L ih => rw [hpairs_cons]; exact bytes_append (putN_byte _) (bytes_append (putN_byte _) ih)
theorem HRead.cut {L M : List (Nat × Nat)} (h : HOK L) (hl : L.length ≤ 3969) {k : Nat} (hk : k < (hencB L).length) : ¬ HRead ((hencB L).take k) M := by
  intro hM
  have hb : Bytes ((hencB L).take k) := fun x hx => hencB_bytes L x (List.mem_of_mem_take hx)
  have h1 := hM.enc hb
  have h2 := hM.len hb
  have h3 := readH_put hM.2.role h2 ((hencB L).drop k)
  rw [h1, List.take_append_drop] at h3
  have h4 := (HRead.of h hl).1
  rw [h4] at h3
  injection h3 with _ h5
  injection h5 with h6
  have : ((hencB L).drop k).length = 0 := by rw [← h6]; rfl
  rw [List.length_drop] at this
  omega
theorem HRead.more {L M : List (Nat × Nat)} (h : HOK L) (hl : L.length ≤ 3969) (v : Nat) : ¬ HRead (hencB L ++ [v]) M := by
  intro hM
  have := readH_put h.role hl [v]
  rw [hM.1] at this
  simp at this
end Go.Proofs.YtmlkgaiphpimiaaDoor
namespace Go.Proofs.YtmlkgaiphpimiaaDoor
open Go.RowKit
attribute [local go_sem ↓] Go.wp_at_zero Go.wp_at_succ
set_option maxRecDepth 20000
set_option exponentiation.threshold 5000

def HReadR (w0 : World) (F : List Fact) (K : (Nat → Prop) → World → Prop) (ps : List Nat) (r : Value) (z : Int) (w : World) : Prop :=
  (∃ L, HRead ps L ∧ z = 0 ∧ St w0 w F fun D w => K D w ∧ IsH w D r L) ∨ ((∀ L, ¬ HRead ps L) ∧ r = .pointer none ∧ z = 6 ∧ St w0 w F K)
set_option maxHeartbeats 4000000 in
theorem hread_any {w0 w : World} {F : List Fact} {K : (Nat → Prop) → World → Prop} (p : Value) (ps : List Nat) (hb : Bytes ps) (hl : ps.length ≤ 1000000) (hS : St w0 w F K) (kt : ∀ D w, K D w → DTab w ∧ D 0) {D : Nat → Prop} (hp : Sl w D 1 p ps.length (u8s ps)) :
    Calls Tryd.prog 49 #[p] w fun e w' => ∃ (r : Value) (z : Int), e = .returned (.tuple #[r, .int .i64 z]) ∧ HReadR w0 F K ps r z w' := by
  obtain ⟨A, c, rfl, _, _⟩ := hp.shape
  have HKs := Lib.hid hS.stable
  have HKT := Lib.hid kt
  have HP0 := Lib.hid hp
  clear hp kt
  go_enter Tryd.func49, Tryd.ntmps49
  go_wp2_with (first
    | (go_at_call 77; refine (rnew_any _ ps (by omega) hS HP0.out).mono ?_; rintro r_ w1 ⟨q, rfl, hR⟩; clear hS))
  refine (rcount_any 3969 (by decide) (by omega) hb hR).mono ?_
  rintro r_ w5 ⟨rfl, hR⟩
  obtain ⟨⟨N0, l3, e3⟩, hN⟩ : ∃ V, V = readCount 3969 ps 0 := ⟨_, rfl⟩
  have hn0 : N0 ≤ 3969 := by have := readCount_le 3969 ps 0; rw [← hN] at this; exact this
  have hl3 := readCount_keep (most := 3969) (e := 0) hb
  rw [← hN] at hR hl3 ⊢
  dsimp only at hR hl3 ⊢
  obtain ⟨hl3, hb3⟩ := hl3
  have HB3 := Lib.hid hb3
  obtain ⟨⟨PL, PR⟩, hP⟩ : ∃ V, V = readLinks N0 l3 e3 := ⟨_, rfl⟩
  have HRH : Hid (readH ps = (PL, PR)) := Lib.hid (by unfold readH; rw [← hN]; exact hP.symm)
  have HP := Lib.hid hP
  have hl9 : l3.length ≤ 1000000 := by omega
  clear hl3 hN
  go_wp2_with fail
  obtain ⟨-, A5, c5, n3, n4, hS⟩ := hR
  have hR : Rd w0 w5 (.own (.slice none 0 0) 50 2 0 [] :: F) K q l3 e3 := ⟨HKs.out, A5, c5, n3, n4, (hS.nil 50 2).swap⟩
  clear hS
  go_loopw [6, 16] (fun v i wr => ∃ (j : Nat) (acc : List (Nat × Nat)) (l : List Nat) (e : Int) (pv : Value), i = .int .i64 (j : Nat) ∧ pv = v ∧ j ≤ N0 ∧ acc.length = j ∧ acc ++ (readLinks (N0 - j) l e).1 = PL ∧ (readLinks (N0 - j) l e).2 = PR ∧ Bytes l ∧ l.length ≤ 1000000 ∧ Rd w0 wr (.own pv 50 2 acc.length (pcells acc) :: F) K q l e) (fun _ i _ => N0 - (intOf i).toNat)
  case atStart => exact ⟨0, [], l3, e3, .slice none 0 0, rfl, rfl, by omega, rfl, by rw [Nat.sub_zero, ← hP]; rfl, by rw [Nat.sub_zero, ← hP], hb3, hl9, hR⟩
  case round =>
    clear hR hP
    obtain ⟨j, acc, l, e, pv, rfl, rfl, hj, hacc, ha, hp, hbl, hll, hR⟩ := hrel
    by_cases hlj : j < N0
    · by_cases he : e = 0
      · subst he
        obtain ⟨⟨za, l1, e1⟩, hU⟩ : ∃ V, V = readUint 63 l 0 := ⟨_, rfl⟩
        obtain ⟨⟨zb, l2, e2⟩, hU2⟩ : ∃ V, V = readUint 63 l1 e1 := ⟨_, rfl⟩
        have hlb1 := readUint_keep (most := 63) (e := 0) hbl
        rw [← hU] at hlb1
        have hlb2 := readUint_keep (most := 63) (e := e1) hlb1.2
        rw [← hU2] at hlb2
        have hza : za ≤ 63 := by have := readUint_le 63 l 0; rw [← hU] at this; exact this
        have hzb : zb ≤ 63 := by have := readUint_le 63 l1 e1; rw [← hU2] at this; exact this
        have hUU : linkU l 0 = (zb, l2, e2) := by unfold linkU; rw [← hU]; exact hU2.symm
        obtain ⟨e9, he9⟩ : ∃ e9, e9 = linkE l 0 := ⟨_, rfl⟩
        have hE9 : e9 = if 1 ≤ za ∧ 1 ≤ zb then e2 else if e2 = 0 then 6 else e2 := by
          rw [he9]; unfold linkE; rw [hUU, ← hU]
        have hrn : readLinks (N0 - j) l 0 = ((za, zb) :: (readLinks (N0 - (j + 1)) l2 e9).1, (readLinks (N0 - (j + 1)) l2 e9).2) := by
          rw [show N0 - j = (N0 - (j + 1)) + 1 by omega, readLinks, if_neg (by simp), hUU, ← hU, ← he9]
        rw [hrn] at ha hp
        have HA := Lib.hid (show (acc ++ [(za, zb)]) ++ (readLinks (N0 - (j + 1)) l2 e9).1 = PL by rw [List.append_assoc]; exact ha)
        have HPP := Lib.hid hp
        have HE9 := Lib.hid hE9
        have HLB : Hid (l2.length ≤ 1000000 ∧ Bytes l2) := Lib.hid ⟨by have h1 := hlb1.1; have h2 := hlb2.1; dsimp only at h1 h2; omega, hlb2.2⟩
        have HL1 : Hid (l1.length ≤ 1000000 ∧ Bytes l1) := Lib.hid ⟨by have h1 := hlb1.1; dsimp only at h1; omega, hlb1.2⟩
        have HU := Lib.hid hU
        have HU2 := Lib.hid hU2
        clear ha hp hrn he9 hE9 hUU hlb1 hlb2 hU hU2
        go_wp2_with (first
          | ((with_reducible show wpList _ _ _ (⟨_, .binOp _ _ _ _ _, _, _, _, _⟩ :: _) _ _); (first | (refine st_lss rfl _ _ _ _ rfl _ _ _ rfl rfl (fun h_ => ?_) (fun h_ => ?_)) | (refine st_leq rfl _ _ _ _ rfl _ _ _ rfl rfl (fun h_ => ?_) (fun h_ => ?_)) | (refine st_gtr rfl _ _ _ _ rfl _ _ _ rfl rfl (fun h_ => ?_) (fun h_ => ?_)) | (refine st_geq rfl _ _ _ _ rfl _ _ _ rfl rfl (fun h_ => ?_) (fun h_ => ?_)) | (refine st_eql rfl _ _ _ _ rfl _ _ _ rfl rfl (fun h_ => ?_) (fun h_ => ?_)) | (refine st_neq rfl _ _ _ _ rfl _ _ _ rfl rfl (fun h_ => ?_) (fun h_ => ?_))) <;> go_prune)
          | (go_at_call 79; refine (rerr_any _ _ _ hR.errc).mono ?_; rintro r_ w_ ⟨rfl, rfl⟩))
        refine (rnumberm_any 63 (by decide) (by omega) hbl hR).mono ?_
        rintro r_ w6 ⟨rfl, hR⟩
        rw [← HU.out] at hR ⊢
        dsimp only at hR ⊢
        go_wp2_with fail
        refine (rnumberm_any 63 (by decide) (by have := HL1.out.1; omega) HL1.out.2 hR).mono ?_
        rintro r_ w7 ⟨rfl, hR⟩
        rw [← HU2.out] at hR ⊢
        dsimp only at hR ⊢
        obtain ⟨-, A8, c8, n5, n6, hS⟩ := hR
        by_cases h1 : 1 ≤ za
        · have HRA := Lib.hid (decide_eq_true (show 1 ≤ (za : Int) ∧ (za : Int) ≤ 63 by omega))
          by_cases h2 : 1 ≤ zb
          · have HRB := Lib.hid (decide_eq_true (show 1 ≤ (zb : Int) ∧ (zb : Int) ≤ 63 by omega))
            obtain rfl : e9 = e2 := by rw [HE9.out, if_pos ⟨h1, h2⟩]
            clear h1 h2
            go_wp2_with (first
              | ((with_reducible show wpList _ _ _ (⟨_, .binOp _ _ _ _ _, _, _, _, _⟩ :: _) _ _); (first | (refine st_lss rfl _ _ _ _ rfl _ _ _ rfl rfl (fun h_ => ?_) (fun h_ => ?_)) | (refine st_leq rfl _ _ _ _ rfl _ _ _ rfl rfl (fun h_ => ?_) (fun h_ => ?_)) | (refine st_gtr rfl _ _ _ _ rfl _ _ _ rfl rfl (fun h_ => ?_) (fun h_ => ?_)) | (refine st_geq rfl _ _ _ _ rfl _ _ _ rfl rfl (fun h_ => ?_) (fun h_ => ?_)) | (refine st_eql rfl _ _ _ _ rfl _ _ _ rfl rfl (fun h_ => ?_) (fun h_ => ?_)) | (refine st_neq rfl _ _ _ _ rfl _ _ _ rfl rfl (fun h_ => ?_) (fun h_ => ?_))) <;> go_prune)
              | (go_at_call 55; refine (role_any _ _).mono ?_; (first | rw [HRA.out] | rw [HRB.out]); rintro r_ w_ ⟨_, rfl, rfl, hb_⟩; replace hS := hS.ext hb_; clear hb_)
              | ((with_reducible show wpList _ _ _ (⟨_, .build _ _, _, _, _, _⟩ :: _) _ _); refine wpList_build_of rfl _ _ rfl #[.int .i64 (za : Nat), .int .i64 (zb : Nat)] (by kernel_rfl) ?_)
              | ((with_reducible show wpList _ _ _ (⟨_, .buildSlice _ 1 _, _, _, _, _⟩ :: _) _ _); refine st_push hS 1 rfl rfl _ _ _ _ rfl rfl ty_pairs _ _ _ (.agg #[.int .i64 (za : Nat), .int .i64 (zb : Nat)]) #[.int .i64 (za : Nat), .int .i64 (zb : Nat)] rfl (by kernel_rfl) rfl rfl rfl rfl (by intro u hu; simp at hu; first | (subst hu; rfl) | (rcases hu with rfl | rfl <;> rfl)) (by omega) (by omega) ?_; clear hS; intro z_ v_ w_ hS; (try simp only [Act.put, Act.eval, List.set_cons_zero, List.set_cons_succ, List.setIfInBounds_toArray, Array.getD_eq_getD_getElem?, List.getElem?_toArray, List.getElem?_cons_succ, List.getElem?_cons_zero, Option.getD_some, Value.cells] at hS)))
            obtain ⟨A9, c9, rfl, _, _⟩ := own_shp (hS.own 1 rfl)
            have h := hS
            have hpc : pcells (acc ++ [(za, zb)]) = pcells acc ++ [.int .i64 (za : Nat), .int .i64 (zb : Nat)] := pcells_app acc [(za, zb)]
            refine ⟨⟨j + 1, acc ++ [(za, zb)], l2, e9, _, by go_num, rfl, hlj, by simp [hacc], HA.out, HPP.out, HLB.out.2, HLB.out.1, HKs.out, A8, c8, n5, n6, ?_⟩, by simp [intOf]; omega⟩
            rw [hpc, show (acc ++ [(za, zb)]).length = acc.length + 1 by simp]
            exact h
          · have HRB := Lib.hid (decide_eq_false (show ¬ (1 ≤ (zb : Int) ∧ (zb : Int) ≤ 63) by omega))
            have hbad : Hid (e9 = if e2 = 0 then 6 else e2) := Lib.hid (by rw [HE9.out, if_neg (by omega)])
            clear h1 h2
            go_wp2_with (first
              | ((with_reducible show wpList _ _ _ (⟨_, .binOp _ _ _ _ _, _, _, _, _⟩ :: _) _ _); (first | (refine st_lss rfl _ _ _ _ rfl _ _ _ rfl rfl (fun h_ => ?_) (fun h_ => ?_)) | (refine st_leq rfl _ _ _ _ rfl _ _ _ rfl rfl (fun h_ => ?_) (fun h_ => ?_)) | (refine st_gtr rfl _ _ _ _ rfl _ _ _ rfl rfl (fun h_ => ?_) (fun h_ => ?_)) | (refine st_geq rfl _ _ _ _ rfl _ _ _ rfl rfl (fun h_ => ?_) (fun h_ => ?_)) | (refine st_eql rfl _ _ _ _ rfl _ _ _ rfl rfl (fun h_ => ?_) (fun h_ => ?_)) | (refine st_neq rfl _ _ _ _ rfl _ _ _ rfl rfl (fun h_ => ?_) (fun h_ => ?_))) <;> go_prune)
              | (go_at_call 55; refine (role_any _ _).mono ?_; (first | rw [HRA.out] | rw [HRB.out]); rintro r_ w_ ⟨_, rfl, rfl, hb_⟩; replace hS := hS.ext hb_; clear hb_)
              | (go_at_call 81; refine (rfail_any 6 ⟨HKs.out, A8, c8, n5, n6, hS⟩).mono ?_; clear hS; rintro r_ w_ ⟨v9, rfl, hR⟩; rw [← hbad.out] at hR; clear n5 n6; obtain ⟨-, A8, c8, n5, n6, hS⟩ := hR)
              | ((with_reducible show wpList _ _ _ (⟨_, .build _ _, _, _, _, _⟩ :: _) _ _); refine wpList_build_of rfl _ _ rfl #[.int .i64 (za : Nat), .int .i64 (zb : Nat)] (by kernel_rfl) ?_)
              | ((with_reducible show wpList _ _ _ (⟨_, .buildSlice _ 1 _, _, _, _, _⟩ :: _) _ _); refine st_push hS 1 rfl rfl _ _ _ _ rfl rfl ty_pairs _ _ _ (.agg #[.int .i64 (za : Nat), .int .i64 (zb : Nat)]) #[.int .i64 (za : Nat), .int .i64 (zb : Nat)] rfl (by kernel_rfl) rfl rfl rfl rfl (by intro u hu; simp at hu; first | (subst hu; rfl) | (rcases hu with rfl | rfl <;> rfl)) (by omega) (by omega) ?_; clear hS; intro z_ v_ w_ hS; (try simp only [Act.put, Act.eval, List.set_cons_zero, List.set_cons_succ, List.setIfInBounds_toArray, Array.getD_eq_getD_getElem?, List.getElem?_toArray, List.getElem?_cons_succ, List.getElem?_cons_zero, Option.getD_some, Value.cells] at hS)))
            obtain ⟨A9, c9, rfl, _, _⟩ := own_shp (hS.own 1 rfl)
            have h := hS
            have hpc : pcells (acc ++ [(za, zb)]) = pcells acc ++ [.int .i64 (za : Nat), .int .i64 (zb : Nat)] := pcells_app acc [(za, zb)]
            refine ⟨⟨j + 1, acc ++ [(za, zb)], l2, e9, _, by go_num, rfl, hlj, by simp [hacc], HA.out, HPP.out, HLB.out.2, HLB.out.1, HKs.out, A8, c8, n5, n6, ?_⟩, by simp [intOf]; omega⟩
            rw [hpc, show (acc ++ [(za, zb)]).length = acc.length + 1 by simp]
            exact h
        · have HRA := Lib.hid (decide_eq_false (show ¬ (1 ≤ (za : Int) ∧ (za : Int) ≤ 63) by omega))
          have HRB := HRA
          have hbad : Hid (e9 = if e2 = 0 then 6 else e2) := Lib.hid (by rw [HE9.out, if_neg (by omega)])
          clear h1
          go_wp2_with (first
            | ((with_reducible show wpList _ _ _ (⟨_, .binOp _ _ _ _ _, _, _, _, _⟩ :: _) _ _); (first | (refine st_lss rfl _ _ _ _ rfl _ _ _ rfl rfl (fun h_ => ?_) (fun h_ => ?_)) | (refine st_leq rfl _ _ _ _ rfl _ _ _ rfl rfl (fun h_ => ?_) (fun h_ => ?_)) | (refine st_gtr rfl _ _ _ _ rfl _ _ _ rfl rfl (fun h_ => ?_) (fun h_ => ?_)) | (refine st_geq rfl _ _ _ _ rfl _ _ _ rfl rfl (fun h_ => ?_) (fun h_ => ?_)) | (refine st_eql rfl _ _ _ _ rfl _ _ _ rfl rfl (fun h_ => ?_) (fun h_ => ?_)) | (refine st_neq rfl _ _ _ _ rfl _ _ _ rfl rfl (fun h_ => ?_) (fun h_ => ?_))) <;> go_prune)
            | (go_at_call 55; refine (role_any _ _).mono ?_; (first | rw [HRA.out] | rw [HRB.out]); rintro r_ w_ ⟨_, rfl, rfl, hb_⟩; replace hS := hS.ext hb_; clear hb_)
            | (go_at_call 81; refine (rfail_any 6 ⟨HKs.out, A8, c8, n5, n6, hS⟩).mono ?_; clear hS; rintro r_ w_ ⟨v9, rfl, hR⟩; rw [← hbad.out] at hR; clear n5 n6; obtain ⟨-, A8, c8, n5, n6, hS⟩ := hR)
            | ((with_reducible show wpList _ _ _ (⟨_, .build _ _, _, _, _, _⟩ :: _) _ _); refine wpList_build_of rfl _ _ rfl #[.int .i64 (za : Nat), .int .i64 (zb : Nat)] (by kernel_rfl) ?_)
            | ((with_reducible show wpList _ _ _ (⟨_, .buildSlice _ 1 _, _, _, _, _⟩ :: _) _ _); refine st_push hS 1 rfl rfl _ _ _ _ rfl rfl ty_pairs _ _ _ (.agg #[.int .i64 (za : Nat), .int .i64 (zb : Nat)]) #[.int .i64 (za : Nat), .int .i64 (zb : Nat)] rfl (by kernel_rfl) rfl rfl rfl rfl (by intro u hu; simp at hu; first | (subst hu; rfl) | (rcases hu with rfl | rfl <;> rfl)) (by omega) (by omega) ?_; clear hS; intro z_ v_ w_ hS; (try simp only [Act.put, Act.eval, List.set_cons_zero, List.set_cons_succ, List.setIfInBounds_toArray, Array.getD_eq_getD_getElem?, List.getElem?_toArray, List.getElem?_cons_succ, List.getElem?_cons_zero, Option.getD_some, Value.cells] at hS)))
          obtain ⟨A9, c9, rfl, _, _⟩ := own_shp (hS.own 1 rfl)
          have h := hS
          have hpc : pcells (acc ++ [(za, zb)]) = pcells acc ++ [.int .i64 (za : Nat), .int .i64 (zb : Nat)] := pcells_app acc [(za, zb)]
          refine ⟨⟨j + 1, acc ++ [(za, zb)], l2, e9, _, by go_num, rfl, hlj, by simp [hacc], HA.out, HPP.out, HLB.out.2, HLB.out.1, HKs.out, A8, c8, n5, n6, ?_⟩, by simp [intOf]; omega⟩
          rw [hpc, show (acc ++ [(za, zb)]).length = acc.length + 1 by simp]
          exact h
      · have hPL : Hid (acc = PL) := Lib.hid (by rw [readLinks_err he] at ha; simpa using ha)
        have hPR : Hid ((l, e) = PR) := Lib.hid (by rw [readLinks_err he] at hp; exact hp)
        clear ha hp
        go_wp2_with (first
          | ((with_reducible show wpList _ _ _ (⟨_, .binOp _ _ _ _ _, _, _, _, _⟩ :: _) _ _); (first | (refine st_lss rfl _ _ _ _ rfl _ _ _ rfl rfl (fun h_ => ?_) (fun h_ => ?_)) | (refine st_leq rfl _ _ _ _ rfl _ _ _ rfl rfl (fun h_ => ?_) (fun h_ => ?_)) | (refine st_gtr rfl _ _ _ _ rfl _ _ _ rfl rfl (fun h_ => ?_) (fun h_ => ?_)) | (refine st_geq rfl _ _ _ _ rfl _ _ _ rfl rfl (fun h_ => ?_) (fun h_ => ?_)) | (refine st_eql rfl _ _ _ _ rfl _ _ _ rfl rfl (fun h_ => ?_) (fun h_ => ?_)) | (refine st_neq rfl _ _ _ _ rfl _ _ _ rfl rfl (fun h_ => ?_) (fun h_ => ?_))) <;> go_prune)
          | (go_at_call 79; refine (rerr_any _ _ _ hR.errc).mono ?_; rintro r_ w_ ⟨rfl, rfl⟩))
        refine (rend_any hR).mono ?_
        rintro r_ w_ ⟨rfl, rfl⟩
        obtain ⟨-, A9, c9, a1, a2, hS⟩ := hR
        replace hS := hS.freeze 1 (by decide) rfl
        replace hS := hS.sub (F' := F) (List.sublist_cons_self _ _)
        have h0 : ¬ endE l e = 0 := fun h => he (endE_zero h).2
        have HNO : Hid (∀ M, ¬ HRead ps M) := Lib.hid fun M h => by
          have h1 := h.1
          rw [HRH.out, ← hPR.out] at h1
          injection h1 with _ h1
          injection h1 with h1 h2
          subst h1 h2
          exact h0 rfl
        go_wp2_with (first | ((with_reducible show wpList _ _ _ (⟨_, .binOp _ _ _ _ _, _, _, _, _⟩ :: _) _ _); (first | (refine st_lss rfl _ _ _ _ rfl _ _ _ rfl rfl (fun h_ => ?_) (fun h_ => ?_)) | (refine st_leq rfl _ _ _ _ rfl _ _ _ rfl rfl (fun h_ => ?_) (fun h_ => ?_)) | (refine st_gtr rfl _ _ _ _ rfl _ _ _ rfl rfl (fun h_ => ?_) (fun h_ => ?_)) | (refine st_geq rfl _ _ _ _ rfl _ _ _ rfl rfl (fun h_ => ?_) (fun h_ => ?_)) | (refine st_eql rfl _ _ _ _ rfl _ _ _ rfl rfl (fun h_ => ?_) (fun h_ => ?_)) | (refine st_neq rfl _ _ _ _ rfl _ _ _ rfl rfl (fun h_ => ?_) (fun h_ => ?_))) <;> go_prune))
        go_ret2
        exact ⟨_, _, rfl, .inr ⟨HNO.out, rfl, rfl, hS.mono HKs.out fun _ _ h => h.1.1⟩⟩
    · obtain rfl : N0 = j := by omega
      have hPL : Hid (acc = PL) := Lib.hid (by rw [Nat.sub_self] at ha; simpa [readLinks] using ha)
      have hPR : Hid ((l, e) = PR) := Lib.hid (by rw [Nat.sub_self] at hp; exact hp)
      clear ha hp
      go_wp2_with (first | ((with_reducible show wpList _ _ _ (⟨_, .binOp _ _ _ _ _, _, _, _, _⟩ :: _) _ _); (first | (refine st_lss rfl _ _ _ _ rfl _ _ _ rfl rfl (fun h_ => ?_) (fun h_ => ?_)) | (refine st_leq rfl _ _ _ _ rfl _ _ _ rfl rfl (fun h_ => ?_) (fun h_ => ?_)) | (refine st_gtr rfl _ _ _ _ rfl _ _ _ rfl rfl (fun h_ => ?_) (fun h_ => ?_)) | (refine st_geq rfl _ _ _ _ rfl _ _ _ rfl rfl (fun h_ => ?_) (fun h_ => ?_)) | (refine st_eql rfl _ _ _ _ rfl _ _ _ rfl rfl (fun h_ => ?_) (fun h_ => ?_)) | (refine st_neq rfl _ _ _ _ rfl _ _ _ rfl rfl (fun h_ => ?_) (fun h_ => ?_))) <;> go_prune))
      refine (rend_any hR).mono ?_
      rintro r_ w_ ⟨rfl, rfl⟩
      obtain ⟨-, A9, c9, a1, a2, hS⟩ := hR
      replace hS := hS.freeze 1 (by decide) rfl
      replace hS := hS.sub (F' := F) (List.sublist_cons_self _ _)
      by_cases h0 : endE l e = 0
      · rw [h0]
        obtain ⟨rfl, rfl⟩ := endE_zero h0
        obtain ⟨hlr, rfl⟩ : PR = ([], 0) ∧ acc = PL := ⟨hPR.out.symm, hPL.out⟩
        have HRH' : Hid (readH ps = (acc, [], 0)) := Lib.hid (by rw [HRH.out, hlr])
        have hin := readLinks_inv N0 l3 e3 HB3.out (by rw [← HP.out, hlr])
        rw [← HP.out] at hin
        have HRO : Hid (Roles acc) := Lib.hid hin.2.2.1
        have HLA : Hid (acc.length ≤ 1000000) := Lib.hid (by have := hin.2.1; dsimp only at this; omega)
        clear hin hlr HRH h0
        have HNEW := Lib.hid fun (w : World) (h : St w0 w F fun D w => (K D w ∧ Sl w D 1 (.slice A9 ([] : List Nat).length c9) ([] : List Nat).length (u8s [])) ∧ Sl w D 2 pv acc.length (pcells acc)) => onew_any 64 acc pv (by omega) (fun x hx => ⟨(HRO.out x hx).1.2, (HRO.out x hx).2.2⟩) HLA.out h (fun D w h => h.2) (fun D w h => HKT.out D w h.1.1)
        by_cases hac : HOK acc
        · have HAC := Lib.hid hac
          clear hac
          go_wp2_with (first
            | ((with_reducible show wpList _ _ _ (⟨_, .binOp _ _ _ _ _, _, _, _, _⟩ :: _) _ _); (first | (refine st_lss rfl _ _ _ _ rfl _ _ _ rfl rfl (fun h_ => ?_) (fun h_ => ?_)) | (refine st_leq rfl _ _ _ _ rfl _ _ _ rfl rfl (fun h_ => ?_) (fun h_ => ?_)) | (refine st_gtr rfl _ _ _ _ rfl _ _ _ rfl rfl (fun h_ => ?_) (fun h_ => ?_)) | (refine st_geq rfl _ _ _ _ rfl _ _ _ rfl rfl (fun h_ => ?_) (fun h_ => ?_)) | (refine st_eql rfl _ _ _ _ rfl _ _ _ rfl rfl (fun h_ => ?_) (fun h_ => ?_)) | (refine st_neq rfl _ _ _ _ rfl _ _ _ rfl rfl (fun h_ => ?_) (fun h_ => ?_))) <;> go_prune)
            | (go_at_call 20; refine (HNEW.out _ hS).mono ?_; rintro e w_ (⟨h1, -, -⟩ | ⟨p, L, rfl, hA, hm, hc, hS⟩); · exact absurd HAC.out.acyc h1
               obtain rfl : L = acc := hA.uniq HAC.out.asc hm
               clear hA hm hc
               obtain ⟨qo, _, _, _, _, _, _, rfl, -⟩ := hS.ro.2)
            | (go_at_call 28; refine (opairs_any hS.ro.2 HLA.out).mono ?_; rintro e w_ ⟨v1, rfl, hs⟩; replace hS := hS.new hs.below (.own v1 50 2 _ _) (hs.own 0 rfl); clear hs)
            | (go_at_call 30; refine (peq_any (Sl.of_own (hS.own 0 rfl)) hS.ro.1.2 HLA.out).mono ?_; rintro r_ w_ ⟨_, rfl, rfl, hb_⟩; rw [decide_eq_true rfl]; replace hS := hS.ext hb_; clear hb_)
            | ((with_reducible show wpList _ _ _ (⟨some 61, _, _, _, _, _⟩ :: _) _ _); refine st_box hS rfl _ _ rfl (.agg #[.pointer (some ⟨qo, 0, none⟩)]) _ rfl rfl ?_; clear hS; intro g w_ hS; (try simp only [Act.put, Act.eval, List.set_cons_zero, List.set_cons_succ, List.setIfInBounds_toArray, Array.getD_eq_getD_getElem?, List.getElem?_toArray, List.getElem?_cons_succ, List.getElem?_cons_zero, Option.getD_some, Value.cells] at hS)))
          go_ret2
          exact ⟨_, _, rfl, .inl ⟨_, ⟨HRH'.out, HAC.out⟩, rfl, ((hS.sealB 0 (by simp) rfl).sub (List.sublist_cons_self _ _)).mono (HKs.out.and stable_isH) fun D w h => ⟨h.1.1.1.1, g, _, rfl, h.2, h.1.2⟩⟩⟩
        · have HNO : Hid (∀ M, ¬ HRead ps M) := Lib.hid fun M h => by
            obtain ⟨k1, k2⟩ := h
            rw [HRH'.out] at k1
            injection k1 with k1
            rw [k1] at hac
            exact hac k2
          have HAC := Lib.hid hac
          clear hac
          go_wp2_with fail
          refine (HNEW.out _ hS).mono ?_
          rintro e w_ (⟨-, rfl, hS⟩ | ⟨p, L, rfl, hA, hm, hc, hS⟩)
          · go_wp2_with (first | ((with_reducible show wpList _ _ _ (⟨_, .binOp _ _ _ _ _, _, _, _, _⟩ :: _) _ _); (first | (refine st_lss rfl _ _ _ _ rfl _ _ _ rfl rfl (fun h_ => ?_) (fun h_ => ?_)) | (refine st_leq rfl _ _ _ _ rfl _ _ _ rfl rfl (fun h_ => ?_) (fun h_ => ?_)) | (refine st_gtr rfl _ _ _ _ rfl _ _ _ rfl rfl (fun h_ => ?_) (fun h_ => ?_)) | (refine st_geq rfl _ _ _ _ rfl _ _ _ rfl rfl (fun h_ => ?_) (fun h_ => ?_)) | (refine st_eql rfl _ _ _ _ rfl _ _ _ rfl rfl (fun h_ => ?_) (fun h_ => ?_)) | (refine st_neq rfl _ _ _ _ rfl _ _ _ rfl rfl (fun h_ => ?_) (fun h_ => ?_))) <;> go_prune))
            go_ret2
            exact ⟨_, _, rfl, .inr ⟨HNO.out, rfl, rfl, hS.mono HKs.out fun _ _ h => h.1.1⟩⟩
          · have HNE := Lib.hid (decide_eq_false (show ¬ L = acc from fun e => HAC.out (by rw [← e]; exact ⟨hA, by rw [e]; exact HRO.out, hc⟩)))
            have HLL : Hid (L.length ≤ 1000000) := Lib.hid (Nat.le_trans (nodup_le hA.nodup fun y hy => (hm y).1 hy) HLA.out)
            clear hA hm hc
            obtain ⟨qo, _, _, _, _, _, _, rfl, -⟩ := hS.ro.2
            go_wp2_with (first
              | ((with_reducible show wpList _ _ _ (⟨_, .binOp _ _ _ _ _, _, _, _, _⟩ :: _) _ _); (first | (refine st_lss rfl _ _ _ _ rfl _ _ _ rfl rfl (fun h_ => ?_) (fun h_ => ?_)) | (refine st_leq rfl _ _ _ _ rfl _ _ _ rfl rfl (fun h_ => ?_) (fun h_ => ?_)) | (refine st_gtr rfl _ _ _ _ rfl _ _ _ rfl rfl (fun h_ => ?_) (fun h_ => ?_)) | (refine st_geq rfl _ _ _ _ rfl _ _ _ rfl rfl (fun h_ => ?_) (fun h_ => ?_)) | (refine st_eql rfl _ _ _ _ rfl _ _ _ rfl rfl (fun h_ => ?_) (fun h_ => ?_)) | (refine st_neq rfl _ _ _ _ rfl _ _ _ rfl rfl (fun h_ => ?_) (fun h_ => ?_))) <;> go_prune)
              | (go_at_call 28; refine (opairs_any hS.ro.2 HLL.out).mono ?_; rintro e w_ ⟨v1, rfl, hs⟩; replace hS := hS.new hs.below (.own v1 50 2 _ _) (hs.own 0 rfl); clear hs)
              | (go_at_call 30; refine (peq_any (Sl.of_own (hS.own 0 rfl)) hS.ro.1.2 HLL.out).mono ?_; rintro r_ w_ ⟨_, rfl, rfl, hb_⟩; rw [HNE.out]; replace hS := hS.ext hb_; clear hb_))
            go_ret2
            exact ⟨_, _, rfl, .inr ⟨HNO.out, rfl, rfl, (hS.sub (List.sublist_cons_self _ _)).mono HKs.out fun _ _ h => h.1.1.1⟩⟩
      · skip
        have HNO : Hid (∀ M, ¬ HRead ps M) := Lib.hid fun M h => by
          have h1 := h.1
          rw [HRH.out, ← hPR.out] at h1
          injection h1 with _ h1
          injection h1 with h1 h2
          subst h1 h2
          exact h0 rfl
        go_wp2_with (first | ((with_reducible show wpList _ _ _ (⟨_, .binOp _ _ _ _ _, _, _, _, _⟩ :: _) _ _); (first | (refine st_lss rfl _ _ _ _ rfl _ _ _ rfl rfl (fun h_ => ?_) (fun h_ => ?_)) | (refine st_leq rfl _ _ _ _ rfl _ _ _ rfl rfl (fun h_ => ?_) (fun h_ => ?_)) | (refine st_gtr rfl _ _ _ _ rfl _ _ _ rfl rfl (fun h_ => ?_) (fun h_ => ?_)) | (refine st_geq rfl _ _ _ _ rfl _ _ _ rfl rfl (fun h_ => ?_) (fun h_ => ?_)) | (refine st_eql rfl _ _ _ _ rfl _ _ _ rfl rfl (fun h_ => ?_) (fun h_ => ?_)) | (refine st_neq rfl _ _ _ _ rfl _ _ _ rfl rfl (fun h_ => ?_) (fun h_ => ?_))) <;> go_prune))
        go_ret2
        exact ⟨_, _, rfl, .inr ⟨HNO.out, rfl, rfl, hS.mono HKs.out fun _ _ h => h.1.1⟩⟩
end Go.Proofs.YtmlkgaiphpimiaaDoor
namespace Go.Proofs.YtmlkgaiphpimiaaDoor
open Go.RowKit
attribute [local go_sem ↓] Go.wp_at_zero Go.wp_at_succ
set_option maxRecDepth 20000
set_option exponentiation.threshold 5000

def PathsX (vs : List Value) (ps : List (List Nat)) (D : Nat → Prop) (w : World) : Prop := vs.length = ps.length ∧ ∀ (k : Nat) (v : Value) (p : List Nat), vs[k]? = some v → ps[k]? = some p → Sl w D 1 v p.length (ints (natInts p))
theorem PathsX.snoc {vs : List Value} {ps : List (List Nat)} {D : Nat → Prop} {w : World} (h : PathsX vs ps D w) {v : Value} {p : List Nat} (hs : Sl w D 1 v p.length (ints (natInts p))) : PathsX (vs ++ [v]) (ps ++ [p]) D w := by
  refine ⟨by simp [h.1], fun k u q h1 h2 => ?_⟩
  rcases Nat.lt_or_ge k vs.length with hk | hk
  · rw [List.getElem?_append_left hk] at h1
    rw [List.getElem?_append_left (by have := h.1; omega)] at h2
    exact h.2 k u q h1 h2
  · rw [List.getElem?_append_right hk] at h1
    rw [List.getElem?_append_right (by have := h.1; omega)] at h2
    rw [h.1] at h1
    cases e : k - ps.length with
    | zero => rw [e] at h1 h2; cases h1; cases h2; exact hs
    | succ i => rw [e] at h1; simp at h1
structure PG where
  a : Option Value
  b : Option Value
  c : Option Value
  d : Option Value
  e : Option Value
  f : Option Value
def optF (o : Option Value) (f : Value → Fact) : List Fact := match o with
  | some v => [f v]
  | none => []
def PG.F (lv : Value) (us : List Value) (p : List Nat) (y : Nat) (g : PG) : List Fact := match g.f with
  | some v => [.own v 31 1 (us.length + 1) (us ++ [g.d.getD undef]), .own (g.d.getD undef) 3 1 (p.length + 1) (ints (natInts (p ++ [y])))]
  | none => optF g.e (fun v => .own v 31 1 1 [g.d.getD undef]) ++ (.own lv 31 1 us.length us :: (match g.d with
    | some v => [.own v 3 1 (p.length + 1) (ints (natInts (p ++ [y])))]
    | none => (match g.b with
      | some v => [.own v 3 1 p.length (ints (natInts p))]
      | none => optF g.a fun v => .own v 3 1 0 []) ++ optF g.c fun v => .own v 3 1 1 [.int .i64 (y : Nat)]))
section
variable {w0 : World} {F : List Fact} {K : (Nat → Prop) → World → Prop} {lv : Value} {us : List Value} {p : List Nat} {y : Nat} {s s' : World × PG}
def PJ (w0 : World) (F : List Fact) (K : (Nat → Prop) → World → Prop) (lv : Value) (us : List Value) (p : List Nat) (y : Nat) (s : World × PG) : Prop := St w0 s.1 (s.2.F lv us p y ++ F) K
def PR (w0 : World) (F : List Fact) (K : (Nat → Prop) → World → Prop) (lv : Value) (us : List Value) (p : List Nat) (y : Nat) (s s' : World × PG) : Prop :=
  (PJ w0 F K lv us p y s → PJ w0 F K lv us p y s') ∧ (∀ v, s.2.a = some v → s'.2.a = some v) ∧ (∀ v, s.2.b = some v → s'.2.b = some v) ∧ (∀ v, s.2.c = some v → s'.2.c = some v) ∧ (∀ v, s.2.d = some v → s'.2.d = some v) ∧ (∀ v, s.2.e = some v → s'.2.e = some v) ∧ (∀ v, s.2.f = some v → s'.2.f = some v)
theorem PR.refl (s : World × PG) : PR w0 F K lv us p y s s := ⟨id, fun _ h => h, fun _ h => h, fun _ h => h, fun _ h => h, fun _ h => h, fun _ h => h⟩
theorem PR.trans (a b c : World × PG) (h : PR w0 F K lv us p y a b) (k : PR w0 F K lv us p y b c) : PR w0 F K lv us p y a c :=
  ⟨fun z => k.1 (h.1 z), fun g z => k.2.1 g (h.2.1 g z), fun g z => k.2.2.1 g (h.2.2.1 g z), fun g z => k.2.2.2.1 g (h.2.2.2.1 g z), fun g z => k.2.2.2.2.1 g (h.2.2.2.2.1 g z), fun g z => k.2.2.2.2.2.1 g (h.2.2.2.2.2.1 g z), fun g z => k.2.2.2.2.2.2 g (h.2.2.2.2.2.2 g z)⟩
def PG.low (g : PG) : Prop := g.d = none ∧ g.e = none ∧ g.f = none
theorem PJ.mkA {w' : World} {v : Value} (h : PJ w0 F K lv us p y s) (hn : s.2.a = none ∧ s.2.b = none ∧ s.2.low) (hb : Below s.1.heap.size s.1 w') (ho : w'.ownsRow s.1.heap.size 3 1 v 0 []) : PJ w0 F K lv us p y (w', { s.2 with a := some v }) := by
  obtain ⟨w, a, b, c, d, e, f⟩ := s
  obtain ⟨rfl, rfl, rfl, rfl, rfl⟩ := hn
  have h1 : St w0 w (.own lv 31 1 us.length us :: (optF c (fun v => .own v 3 1 1 [.int .i64 (y : Nat)]) ++ F)) K := h
  exact (h1.new hb (.own v 3 1 0 []) ho).swap
theorem PJ.mkC {w' : World} {v : Value} (h : PJ w0 F K lv us p y s) (hn : s.2.c = none ∧ s.2.low) (hb : Below s.1.heap.size s.1 w') (ho : w'.ownsRow s.1.heap.size 3 1 v 1 [.int .i64 (y : Nat)]) : PJ w0 F K lv us p y (w', { s.2 with c := some v }) := by
  obtain ⟨w, a, b, c, d, e, f⟩ := s
  obtain ⟨rfl, rfl, rfl, rfl⟩ := hn
  have h1 := St.new h hb (.own v 3 1 1 [.int .i64 (y : Nat)]) ho
  refine h1.perm ?_
  cases b with
  | some v' => exact (List.Perm.swap _ _ _).trans ((List.Perm.swap _ _ _).cons _ |>.trans (.refl _)) |>.symm.trans (.refl _) |>.symm |>.symm
  | none => cases a with
    | some v' => exact (List.Perm.swap _ _ _).trans ((List.Perm.swap _ _ _).cons _ |>.trans (.refl _)) |>.symm.trans (.refl _) |>.symm |>.symm
    | none => exact List.Perm.swap _ _ _
def App (w0 w w' : World) (v u : Value) (e : TypeId) (n : Nat) (xs : List Value) : Prop := w'.ownsRow w0.heap.size e 1 u n xs ∧ w.grownBy w' v.ownBlock ∧ ∀ k, u.ownBlock = some k → v.ownBlock = some k ∨ w.heap.size ≤ k
theorem PJ.mkB {w' : World} {u v : Value} (h : PJ w0 F K lv us p y s) (hn : s.2.b = none ∧ s.2.low) (ha : s.2.a = some u) (ho : App w0 s.1 w' u v 3 p.length (ints (natInts p))) : PJ w0 F K lv us p y (w', { s.2 with b := some v }) := by
  obtain ⟨w, a, b, c, d, e, f⟩ := s
  obtain ⟨rfl, rfl, rfl, rfl⟩ := hn
  cases ha
  exact St.upd h 1 (f := .own u 3 1 0 []) rfl (.own v 3 1 p.length (ints (natInts p))) ho.2.1 ho.1 ho.2.2
theorem PJ.done {u v : Value} (h : PJ w0 F K lv us p y s) (hd : s.2.d = some u) (hf : s.2.f = some v) : St w0 s.1 (.own v 31 1 (us.length + 1) (us ++ [u]) :: .own u 3 1 (p.length + 1) (ints (natInts (p ++ [y]))) :: F) K := by
  obtain ⟨w, a, b, c, d, e, f⟩ := s
  cases hd
  cases hf
  exact h
theorem PJ.rest {f : Fact} (h : PJ w0 F K lv us p y s) (hf : f ∈ F) : f.holds w0.heap.size s.1 := h.holds _ (List.mem_append_right _ hf)
def PN (i : Nat) (s : World × PG) : Prop := match i with
  | 1 => s.2.a = none ∧ s.2.b = none ∧ s.2.low
  | 3 => s.2.b = none ∧ s.2.low
  | 6 => s.2.c = none ∧ s.2.low
  | 7 => s.2.low
  | 8 => s.2.e = none ∧ s.2.f = none
  | 9 => s.2.f = none
  | _ => True
theorem PN.start (i : Nat) (w : World) : PN i (w, ⟨none, none, none, none, none, none⟩) := by
  unfold PN
  split <;> simp [PG.low]
variable {P : Program} {o : Oper} {a : Act} {Kt : Act → World → Prop} {Q : Exit → Act → World → Prop}
end
end Go.Proofs.YtmlkgaiphpimiaaDoor
namespace Go.Proofs.YtmlkgaiphpimiaaDoor
open Go.RowKit
attribute [local go_sem ↓] Go.wp_at_zero Go.wp_at_succ
set_option maxRecDepth 20000
set_option exponentiation.threshold 5000

theorem PathsX.at {vs : List Value} {ps : List (List Nat)} {D : Nat → Prop} {w : World} (h : PathsX vs ps D w) {k : Nat} {v : Value} {p : List Nat} (h1 : vs[k]? = some v) (h2 : ps[k]? = some p) : Sl w D 1 v p.length (ints (natInts p)) := h.2 k v p h1 h2
theorem run_snd (g : Nat) (w : World) : (Instr.indexAt 50 (.pointer (some ⟨g, 0, none⟩)) (.int .i64 1)).run Tryd.prog w = .ok (.pointer (some ⟨g, 1, none⟩)) w := by
  go_simp
end Go.Proofs.YtmlkgaiphpimiaaDoor
namespace Go.Proofs.YtmlkgaiphpimiaaDoor
open Go.RowKit
attribute [local go_sem ↓] Go.wp_at_zero Go.wp_at_succ
set_option maxRecDepth 20000

theorem Sl.range {w : World} {D : Nat → Prop} {v : Value} {n : Nat} {xs : List Value} (h : Sl w D 1 v n xs) (hn : 0 < n) : ∃ b o c, v = .slice (some ⟨b, o, none⟩) n c ∧ w.rangeAt b o xs := by
  obtain ⟨_, A, c, rfl, _, _, h⟩ := h
  obtain ⟨b, o, rfl, _, _, h⟩ := h hn
  exact ⟨b, o, c, rfl, fun j v hj => h j v hj⟩

theorem Sl.rangeAt {w : World} {D : Nat → Prop} {b o n c : Nat} {xs : List Value} (h : Sl w D 1 (.slice (some ⟨b, o, none⟩) n c) n xs) (hn : 0 < n) : w.rangeAt b o xs := by
  obtain ⟨b', o', c', e, h'⟩ := h.range hn
  injection e with e1 e2 e3
  injection e1 with e1
  injection e1 with e1 e2
  subst e1 e2; exact h'
theorem Rd.len {w0 w : World} {X X' : List Fact} {K K' : (Nat → Prop) → World → Prop} {q : Nat} {l l' : List Nat} {e e' : Int} (h : Rd w0 w X K q l e) (h' : Rd w0 w X' K' q l' e') : l.length = l'.length := by
  obtain ⟨_, A, c, _, _, hS⟩ := h
  obtain ⟨_, A', c', _, _, hS'⟩ := h'
  have h1 := hS.shut 0 rfl 0 rfl
  rw [hS'.shut 0 rfl 0 rfl] at h1
  simp at h1; exact h1.2.1.symm
theorem Rd.drew {w0 w : World} {X : List Fact} {K : (Nat → Prop) → World → Prop} {q : Nat} {l : List Nat} {e : Int} (h : Rd w0 w X K q l e) : Rd w0 w.drew X K q l e := by
  obtain ⟨hK, A, c, h1, h2, hS⟩ := h
  exact ⟨hK, A, c, h1, h2, hS.drew⟩

end Go.Proofs.YtmlkgaiphpimiaaDoor
namespace Go.Proofs.YtmlkgaiphpimiaaDoor
open Go.RowKit
attribute [local go_sem ↓] Go.wp_at_zero Go.wp_at_succ
set_option maxRecDepth 20000
set_option exponentiation.threshold 5000

theorem sl_bytes {w : World} {D : Nat → Prop} {v : Value} {n : Nat} {xs : List Value} {ps : List Nat} (h : Sl w D 1 v n xs) (e : xs = u8s ps) : Sl w D 1 v ps.length (u8s ps) := by
  subst e
  have : ps.length = n := by have := h.1; simpa [u8s] using this
  rw [this]; exact h
theorem ty_bytes' : SliceTy Tryd.prog 63 5 1 1 := ⟨Tryd.underlying63, by kernel_rfl⟩

end Go.Proofs.YtmlkgaiphpimiaaDoor
namespace Go.Proofs.YtmlkgaiphpimiaaDoor
open Go.RowKit
attribute [local go_sem ↓] Go.wp_at_zero Go.wp_at_succ
set_option maxRecDepth 20000
set_option exponentiation.threshold 5000

def OwnU (w : World) (base : Nat) (x : Value) (bs : List Nat) : Prop := w.ownsRow base 5 1 x bs.length (u8s bs)
set_option maxHeartbeats 1000000 in
theorem rput_any (V : Nat) (hV : V < T64) (w0 : World) : Calls Tryd.prog 83 #[.int .u64 (V : Nat)] w0 (Ret (fun x w' => OwnU w' w0.heap.size x (putN V)) w0) := by
  have hS := St.start0 (w := w0)
  have hR : Hid (∃ f, V / 128 < 128 ^ f ∧ putN V = (hi7 f (V / 128)).reverse ++ [V % 128]) := Lib.hid ⟨10, by unfold T64 at hV; omega, by simp [putN]⟩
  have HL := Lib.hid (putN_len V)
  generalize putN V = RES at *
  have h1 := tmod_nat V 128
  have h2 : IntKind.u8.wrap ((V % 128 : Nat) : Int) = ((V % 128 : Nat) : Int) := wrap_u8_nat (by omega)
  have h0 : V % 128 < 256 := by omega
  generalize V % 128 = r0 at *
  go_enter Tryd.func83, Tryd.ntmps83
  go_wp2_with ((with_reducible show wpList _ _ _ (⟨_, .buildSlice _ 1 _, _, _, _, _⟩ :: _) _ _); refine st_litown hS rfl _ 5 1 _ rfl Tryd.underlying63 #[.int .u8 (r0 : Nat)] (by kernel_rfl) 1 rfl (by decide) ?_; clear hS; intro g w_ hS)
  go_loopw [0, 3] (fun n out wr => ∃ (v : Nat) (acc : List Nat) (ov : Value), n = .int .u64 (v : Nat) ∧ out = ov ∧ v < T64 ∧ St w0 wr [.own ov 5 1 acc.length (u8s acc)] (fun _ _ => True) ∧ Hid (∃ f, v / 128 < 128 ^ f ∧ RES = (hi7 f (v / 128)).reverse ++ acc)) (fun n _ _ => (intOf n).toNat)
  case atStart => exact ⟨V, [r0], _, rfl, rfl, hV, hS, hR⟩
  case round =>
    clear hS
    obtain ⟨v, acc, ov, rfl, rfl, hv, hS, hR⟩ := hrel
    by_cases hb : v < 128
    · have hE : RES = acc := by
        obtain ⟨f, _, h⟩ := hR.out
        rw [h, show v / 128 = 0 by omega, hi7_zero]; rfl
      subst hE
      go_wp2_with (first | ((with_reducible show wpList _ _ _ (⟨_, .binOp _ _ _ _ _, _, _, _, _⟩ :: _) _ _); (first | (refine st_lss rfl _ _ _ _ rfl _ _ _ rfl rfl (fun h_ => ?_) (fun h_ => ?_)) | (refine st_leq rfl _ _ _ _ rfl _ _ _ rfl rfl (fun h_ => ?_) (fun h_ => ?_)) | (refine st_gtr rfl _ _ _ _ rfl _ _ _ rfl rfl (fun h_ => ?_) (fun h_ => ?_)) | (refine st_geq rfl _ _ _ _ rfl _ _ _ rfl rfl (fun h_ => ?_) (fun h_ => ?_)) | (refine st_eql rfl _ _ _ _ rfl _ _ _ rfl rfl (fun h_ => ?_) (fun h_ => ?_)) | (refine st_neq rfl _ _ _ _ rfl _ _ _ rfl rfl (fun h_ => ?_) (fun h_ => ?_))) <;> go_prune))
      go_ret
      exact Ret.mk (hS.own 0 rfl) hS.below
    · obtain ⟨q, hqe⟩ : ∃ q, q = v / 128 := ⟨_, rfl⟩
      rw [← hqe] at hR
      have h1 : ((q : Int)).tmod 128 = ((q % 128 : Nat) : Int) := tmod_nat q 128
      have h2 : (((q % 128 : Nat) : Int)) % 256 = ((q % 128 : Nat) : Int) := by omega
      have h3 : (((q % 128 : Nat) : Int) + 128) % 256 = ((q % 128 : Nat) : Int) + 128 := by omega
      have hw : IntKind.u64.wrap ((v : Int) / 128) = ((q : Nat) : Int) := by
        rw [show (v : Int) / 128 = ((q : Nat) : Int) by rw [hqe]; simp]; exact wrap_u64_nat (by omega)
      have hR2 : Hid (∃ f, q / 128 < 128 ^ f ∧ RES = (hi7 f (q / 128)).reverse ++ ((q % 128 + 128) :: acc)) := by
        obtain ⟨f, h, e⟩ := hR.out
        cases f with
        | zero => simp at h; omega
        | succ f =>
          refine Lib.hid ⟨f, by rw [Nat.pow_succ] at h; omega, ?_⟩
          rw [e, hi7, if_neg (by omega)]; simp
      have hlt : q < v := by omega
      have hv2 : q < T64 := by omega
      have h0 : q % 128 < 128 := by omega
      generalize q % 128 = r at *
      have hal : acc.length ≤ 11 := by
        obtain ⟨f, _, e⟩ := hR.out
        have := congrArg List.length e
        rw [List.length_append] at this
        have := HL.out; omega
      have HQ := Lib.hid hqe
      clear hR hqe
      go_wp2_with (first
        | ((with_reducible show wpList _ _ _ (⟨_, .binOp _ _ _ _ _, _, _, _, _⟩ :: _) _ _); (first | (refine st_lss rfl _ _ _ _ rfl _ _ _ rfl rfl (fun h_ => ?_) (fun h_ => ?_)) | (refine st_leq rfl _ _ _ _ rfl _ _ _ rfl rfl (fun h_ => ?_) (fun h_ => ?_)) | (refine st_gtr rfl _ _ _ _ rfl _ _ _ rfl rfl (fun h_ => ?_) (fun h_ => ?_)) | (refine st_geq rfl _ _ _ _ rfl _ _ _ rfl rfl (fun h_ => ?_) (fun h_ => ?_)) | (refine st_eql rfl _ _ _ _ rfl _ _ _ rfl rfl (fun h_ => ?_) (fun h_ => ?_)) | (refine st_neq rfl _ _ _ _ rfl _ _ _ rfl rfl (fun h_ => ?_) (fun h_ => ?_))) <;> go_prune)
        | ((with_reducible show wpList _ _ _ (⟨_, .buildSlice _ 1 _, _, _, _, _⟩ :: _) _ _); refine st_litown hS rfl _ 5 1 _ rfl Tryd.underlying63 #[.int .u8 ((r : Int) + 128)] (by kernel_rfl) 1 rfl (by decide) ?_; clear hS; intro g w_ hS)
        | ((with_reducible show wpList _ _ _ (⟨some 18, _, _, _, _, _⟩ :: _) _ _); refine st_app hS 0 rfl _ _ _ rfl ty_bytes' _ 1 [.int .u8 ((r : Int) + 128)] rfl rfl _ _ acc.length (u8s acc) rfl (Sl.of_own (hS.own 1 rfl)) (u8s_one _) (by unfold maxLen; omega) (by omega) ?_; clear hS; intro v_ w_ hS; (try simp only [Act.put, Act.eval, List.set_cons_zero, List.set_cons_succ, List.setIfInBounds_toArray, Array.getD_eq_getD_getElem?, List.getElem?_toArray, List.getElem?_cons_succ, List.getElem?_cons_zero, Option.getD_some, Value.cells] at hS)))
      refine ⟨⟨q, (r + 128) :: acc, v_, rfl, rfl, hv2, ?_, hR2⟩, by simp [intOf]; exact hlt⟩
      have h := hS.sub (F' := [_]) (.cons_cons _ (.cons _ .slnil))
      rw [Nat.add_comm 1] at h
      simpa [u8s] using h

end Go.Proofs.YtmlkgaiphpimiaaDoor
namespace Go.Proofs.YtmlkgaiphpimiaaDoor
open Go.RowKit
attribute [local go_sem ↓] Go.wp_at_zero Go.wp_at_succ
set_option maxRecDepth 20000

end Go.Proofs.YtmlkgaiphpimiaaDoor
namespace Go.Proofs.YtmlkgaiphpimiaaDoor
open Go.RowKit
attribute [local go_sem ↓] Go.wp_at_zero Go.wp_at_succ
set_option maxRecDepth 20000
set_option exponentiation.threshold 5000

theorem run_fst (g : Nat) (w : World) : (Instr.indexAt 50 (.pointer (some ⟨g, 0, none⟩)) (.int .i64 0)).run Tryd.prog w = .ok (.pointer (some ⟨g, 0, none⟩)) w := by
  go_simp
theorem AN_one {kd : List (Nat × (Bool × Nat))} (hk : ∀ x ∈ kd, x.2.1 = true → 1 ≤ x.2.2) (w : World) (v : Value) (i : Nat) : AN kd i (w, ⟨[v], []⟩) := by
  unfold AN
  split
  · rename_i s hs
    unfold akind at hs
    obtain ⟨y, hy, e⟩ := Option.map_eq_some_iff.1 hs
    have := hk y (List.mem_of_find?_eq_some hy) (by rw [e])
    rw [e] at this
    exact this
  · simp
  · trivial
section
variable {w0 : World} {F : List Fact} {K : (Nat → Prop) → World → Prop} {d : AD} {p p' : World × AG} {kd : List (Nat × (Bool × Nat))} {i : Nat}
variable {P : Program} {o : Oper} {a : Act} {Kt : Act → World → Prop} {Q : Exit → Act → World → Prop}
theorem chain_call (hnd : (kd.map (·.2)).Nodup) {j : Nat} (hki : akind kd i = some (false, j)) {f : FuncId} {xs : Array Operand} {ts : Array TypeId} {vs : List Value} (ho : o.op = .call { callee := .value (.func f), args := xs, argTypes := ts }) (hc : callsGo P f = true) (hv : xs.toList.map a.eval = vs)
    (h : Calls P f vs.toArray p.1 (Ret (fun x w' => (d.src j x).holds p.1.heap.size w') p.1))
    (hK : ∀ v w', (j, v) ∈ w'.2.b → AR w0 F K d p w' ∧ (∀ j, j ≠ i → AN kd j p → AN kd j w') → Kt (a.put o.dst v) w'.1) : o.wp P a p.1 Kt Q :=
  opw_callw ho hc hv h fun _ w' ⟨x, he, hx, hb⟩ => ⟨x, he, hK x (w', ⟨p.2.r, (j, x) :: p.2.b⟩) (List.mem_cons_self ..) (AR.src hnd hki hb hx)⟩
end
def rbD (bs : List Nat) (za zb : Nat) : AD := ⟨5, 1, 3, fun s => match s with | 0 => bs.length | 1 => bs.length + (putN za).length | _ => bs.length + (putN za).length + (putN zb).length, fun s => match s with | 0 => u8s bs | 1 => u8s bs ++ u8s (putN za) | _ => u8s bs ++ u8s (putN za) ++ u8s (putN zb), fun j v => match j with | 0 => .own v 5 1 (putN za).length (u8s (putN za)) | _ => .own v 5 1 (putN zb).length (u8s (putN zb))⟩
def rbK : List (Nat × (Bool × Nat)) := [(4, (false, 0)), (5, (true, 1)), (9, (false, 1)), (10, (true, 2))]
set_option maxHeartbeats 1000000 in
theorem rhbytes_any {w0 : World} {D : Nat → Prop} {pv : Value} {L : List (Nat × Nat)} (h : Sl w0 D 2 pv L.length (pcells L)) (hH : HOK L) (hl : L.length ≤ 900000) : Calls Tryd.prog 51 #[pv] w0 fun e w' => ∃ v, e = .returned v ∧ St w0 w' [.own v 5 1 (hencB L).length (u8s (hencB L))] fun _ _ => True := by
  obtain ⟨A, c, rfl, _, _⟩ := h.shape
  obtain ⟨K, kp, hS⟩ : ∃ K : (Nat → Prop) → World → Prop, (∀ D w, K D w → Sl w D 2 (.slice A L.length c) L.length (pcells L)) ∧ St w0 w0 [] K := ⟨_, fun _ _ h => h, St.start (stable_sl (by decide)) h⟩
  clear h
  have hlT : Hid (L.length < T64) := Lib.hid (by rw [T64_eq]; omega)
  have HQ := Lib.hid (putN_len L.length)
  go_enter Tryd.func51, Tryd.ntmps51
  go_wp2_with (first
    | ((with_reducible show wpList _ _ _ (⟨some 8, _, _, _, _, _⟩ :: _) _ _); refine BigFrame.wpList_want rfl fun _ hK => opw_conv (vx := .int .i64 (L.length : Nat)) (v := .int .u64 (L.length : Nat)) rfl rfl (run_convU hlT.out) (hK _ _ ?_))
    | (go_at_call 83; refine (rput_any L.length hlT.out _).mono ?_; rintro e w_ ⟨v1, rfl, hs, hb_⟩; replace hS := hS.new hb_ (.own v1 5 1 (putN L.length).length (u8s (putN L.length))) hs; clear hs hb_))
  go_loopw [3, 12] (fun ov i wr => ∃ (j : Nat) (sv : Value), i = .int .i64 (j : Nat) ∧ sv = ov ∧ j ≤ L.length ∧ St w0 wr [.own sv 5 1 (putN L.length ++ hpairs (L.take j)).length (u8s (putN L.length ++ hpairs (L.take j)))] K) (fun _ i _ => L.length - (intOf i).toNat)
  case atStart => exact ⟨0, v1, rfl, rfl, by omega, by simpa [hpairs] using hS⟩
  case round =>
    clear hS
    obtain ⟨j, sv, rfl, rfl, hj, hS⟩ := hrel
    by_cases hlj : j < L.length
    · obtain ⟨f1, f2⟩ := pcells_at L j hlj
      have HST := Lib.hid (hpairs_step (getD_at (0, 0) hlj))
      have hm := hH.role (L.getD j (0, 0)) (by rw [List.getD_eq_getElem?_getD, List.getElem?_eq_getElem hlj]; exact List.getElem_mem hlj)
      generalize L.getD j (0, 0) = z at *
      obtain ⟨za, zb⟩ := z
      dsimp only at f1 f2 hm HST
      have HA : Hid (za < T64) := Lib.hid (by rw [T64_eq]; omega)
      have HB : Hid (zb < T64) := Lib.hid (by rw [T64_eq]; omega)
      have hLN : (putN L.length ++ hpairs (L.take j)).length ≤ 11 + 22 * L.length := by
        have h1 := hpairs_len (L.take j)
        have h2 := HQ.out
        rw [List.length_take] at h1
        rw [List.length_append]; omega
      have hpa := putN_len za
      have hpb := putN_len zb
      generalize hBS : putN L.length ++ hpairs (L.take j) = bs at *
      have HE : Hid (putN L.length ++ hpairs (L.take (j + 1)) = bs ++ putN za ++ putN zb) := Lib.hid (by rw [HST.out, ← hBS]; simp)
      have hb0 : Hid (bs.length + (putN za).length ≤ 1000000000000 ∧ (bs.length + (putN za).length) * 1 ≤ 140737488355328 ∧ bs.length + (putN za).length + (putN zb).length ≤ 1000000000000 ∧ (bs.length + (putN za).length + (putN zb).length) * 1 ≤ 140737488355328) := Lib.hid (by omega)
      clear HST hBS hLN hpa hpb
      go_wp2_with (first
        | ((with_reducible show wpList _ _ _ (⟨_, .binOp _ _ _ _ _, _, _, _, _⟩ :: _) _ _); (first | (refine st_lss rfl _ _ _ _ rfl _ _ _ rfl rfl (fun h_ => ?_) (fun h_ => ?_)) | (refine st_leq rfl _ _ _ _ rfl _ _ _ rfl rfl (fun h_ => ?_) (fun h_ => ?_)) | (refine st_gtr rfl _ _ _ _ rfl _ _ _ rfl rfl (fun h_ => ?_) (fun h_ => ?_)) | (refine st_geq rfl _ _ _ _ rfl _ _ _ rfl rfl (fun h_ => ?_) (fun h_ => ?_)) | (refine st_eql rfl _ _ _ _ rfl _ _ _ rfl rfl (fun h_ => ?_) (fun h_ => ?_)) | (refine st_neq rfl _ _ _ _ rfl _ _ _ rfl rfl (fun h_ => ?_) (fun h_ => ?_))) <;> go_prune)
        | ((with_reducible show wpList _ _ _ (⟨_, .indexAddr _ _ _, _, _, _, _⟩ :: _) _ _); refine st_iaddr2 hS rfl _ _ _ rfl _ rfl rfl (by assumption) Tryd.underlying25 (by kernel_rfl) (by first | assumption | omega) _ _ (by assumption) (by assumption) ?_; intro b_ j_ hc0_ hc1_)
        | ((with_reducible show wpList _ _ _ (⟨some 5, _, _, _, _, _⟩ :: _) _ _); refine st_alloc hS rfl _ rfl (by kernel_rfl) ?_; clear hS; intro g5 w_ hS; (try simp only [Act.put, Act.eval, List.set_cons_zero, List.set_cons_succ, List.setIfInBounds_toArray, Array.getD_eq_getD_getElem?, List.getElem?_toArray, List.getElem?_cons_succ, List.getElem?_cons_zero, Option.getD_some, Value.cells] at hS))
        | ((with_reducible show wpList _ _ _ (⟨_, .store _ _ _, _, _, _, _⟩ :: _) _ _); (first | (refine st_store hS 0 rfl _ _ _ rfl _ _ rfl rfl _ _ rfl (by kernel_rfl) (by kernel_rfl) (by kernel_rfl) ?_) | (refine st_store hS 1 rfl _ _ _ rfl _ _ rfl rfl _ _ rfl (by kernel_rfl) (by kernel_rfl) (by kernel_rfl) ?_) | (refine st_store hS 2 rfl _ _ _ rfl _ _ rfl rfl _ _ rfl (by kernel_rfl) (by kernel_rfl) (by kernel_rfl) ?_) | (refine st_store hS 3 rfl _ _ _ rfl _ _ rfl rfl _ _ rfl (by kernel_rfl) (by kernel_rfl) (by kernel_rfl) ?_) | (refine st_cstore hS 0 rfl _ _ _ rfl _ _ _ rfl rfl rfl (by first | (simp; done) | (simp; omega) | exact of_decide_eq_true (by kernel_rfl)) rfl (by first | rfl | assumption) (by kernel_rfl) ?_) | (refine st_cstore hS 1 rfl _ _ _ rfl _ _ _ rfl rfl rfl (by first | (simp; done) | (simp; omega) | exact of_decide_eq_true (by kernel_rfl)) rfl (by first | rfl | assumption) (by kernel_rfl) ?_) | (refine st_cstore hS 2 rfl _ _ _ rfl _ _ _ rfl rfl rfl (by first | (simp; done) | (simp; omega) | exact of_decide_eq_true (by kernel_rfl)) rfl (by first | rfl | assumption) (by kernel_rfl) ?_) | (refine st_cstore hS 3 rfl _ _ _ rfl _ _ _ rfl rfl rfl (by first | (simp; done) | (simp; omega) | exact of_decide_eq_true (by kernel_rfl)) rfl (by first | rfl | assumption) (by kernel_rfl) ?_)); clear hS; intro w_ hS; (try simp only [Act.put, Act.eval, List.set_cons_zero, List.set_cons_succ, List.setIfInBounds_toArray, Array.getD_eq_getD_getElem?, List.getElem?_toArray, List.getElem?_cons_succ, List.getElem?_cons_zero, Option.getD_some, Value.cells] at hS))
        | ((with_reducible show wpList _ _ _ (⟨_, .load _ _, _, _, _, _⟩ :: _) _ _); first | refine st_load hS 0 rfl _ _ rfl _ rfl _ _ rfl _ Tryd.underlying50 rfl (by kernel_rfl) ?_ | refine st_load hS 1 rfl _ _ rfl _ rfl _ _ rfl _ Tryd.underlying50 rfl (by kernel_rfl) ?_ | refine st_load hS 2 rfl _ _ rfl _ rfl _ _ rfl _ Tryd.underlying50 rfl (by kernel_rfl) ?_ | refine st_load hS 3 rfl _ _ rfl _ rfl _ _ rfl _ Tryd.underlying50 rfl (by kernel_rfl) ?_))
      have hA0 : AtS ⟨[sv], []⟩ 0 sv := ⟨[], [], rfl, rfl⟩
      have hJ0 : AJ w0 [.box g5 50 #[.int .i64 (za : Nat), .int .i64 (zb : Nat)]] K (rbD bs za zb) (w_.drew, ⟨[sv], []⟩) := ⟨hS.swap.drew, show 1 ≤ 3 by decide⟩
      have hN0 := AN_one (kd := rbK) (by decide) w_.drew sv
      have hRr := @AR.refl w0 [.box g5 50 #[.int .i64 (za : Nat), .int .i64 (zb : Nat)]] K (rbD bs za zb)
      have hRt := @AR.trans w0 [.box g5 50 #[.int .i64 (za : Nat), .int .i64 (zb : Nat)]] K (rbD bs za zb)
      clear hS
      refine wp_region_ghost (fun i__ v w => match i__ with
        | 0 => v = sv
        | 1 => v = .pointer (some ⟨g5, 0, none⟩)
        | 2 => v = .int .i64 ((za : Nat) : Int)
        | 3 => v = .int .u64 ((za : Nat) : Int)
        | 4 => (0, v) ∈ w.2.b
        | 5 => AtS w.2 1 v
        | 6 => v = .pointer (some ⟨g5, 1, none⟩)
        | 7 => v = .int .i64 ((zb : Nat) : Int)
        | 8 => v = .int .u64 ((zb : Nat) : Int)
        | 9 => (1, v) ∈ w.2.b
        | 10 => AtS w.2 2 v
        | 11 => AtS w.2 2 v
        | _ => True) (AR w0 [.box g5 50 #[.int .i64 (za : Nat), .int .i64 (zb : Nat)]] K (rbD bs za zb)) (AN rbK) (⟨[sv], []⟩) (by kernel_rfl) (by kernel_rfl) hRr hRt ?mono ?hN ⟨?r0, ?r1, ?r2, ?r3, ?r4, ?r5, ?r6, ?r7, ?r8, ?r9, ?r10, ?r11, trivial⟩ ?post
      case hN => first | assumption | (intro i; (try dsimp only); split <;> first | trivial | assumption | (left; assumption))
      case mono =>
        intro i v w w' h hb
        match i, h with
        | 0, h => exact h
        | 1, h => exact h
        | 2, h => exact h
        | 3, h => exact h
        | 4, h => exact hb.2.2 _ h
        | 5, h => exact h.mono hb.2.1
        | 6, h => exact h
        | 7, h => exact h
        | 8, h => exact h
        | 9, h => exact hb.2.2 _ h
        | 10, h => exact h.mono hb.2.1
        | 11, h => exact h.mono hb.2.1
        | _ + 12, h => trivial
      case r0 =>
        refine truleGh fun b__ w hW hN hold hpre => ⟨fun hwant K hK => ?_, fun hwant => ?_⟩
        · clear hwant
          have e3 : b__.eval (.tmp 3) = sv := (hold 3 (by kernel_rfl)).trans rfl
          exact opw_move rfl e3 (hK _ _ rfl ⟨hRr _, fun _ _ h => h⟩)
        · rw [want_none rfl] at hwant; cases hwant
      case r1 =>
        refine truleGh fun b__ w hW hN hold hpre => ⟨fun hwant K hK => ?_, fun hwant => ?_⟩
        · clear hwant
          have e5 : b__.eval (.tmp 5) = .pointer (some ⟨g5, 0, none⟩) := (hold 5 (by kernel_rfl)).trans rfl
          exact opw_iaddr rfl (by assumption) rfl (run_fst g5 _) (hK _ _ rfl ⟨hRr _, fun _ _ h => h⟩)
        · rw [want_none rfl] at hwant; cases hwant
      case r2 =>
        refine truleGh fun b__ w hW hN hold hpre => ⟨fun hwant K hK => ?_, fun hwant => ?_⟩
        · clear hwant
          have e17 : b__.eval (.tmp 17) = .pointer (some ⟨g5, 0, none⟩) := hpre ⟨1, _⟩ (Array.mem_of_getElem? (i := 0) rfl) rfl _ _ rfl rfl
          exact opw_cell rfl e17 (by kernel_rfl) (((hW.1 hJ0).1.holds (.box g5 50 #[.int .i64 (za : Nat), .int .i64 (zb : Nat)]) (List.mem_append_right _ (List.mem_singleton.2 rfl))).2.cell 0) (hK _ _ rfl ⟨hRr _, fun _ _ h => h⟩)
        · rw [want_none rfl] at hwant; cases hwant
      case r3 =>
        refine truleGh fun b__ w hW hN hold hpre => ⟨fun hwant K hK => ?_, fun hwant => ?_⟩
        · clear hwant
          have e18 : b__.eval (.tmp 18) = .int .i64 ((za : Nat) : Int) := hpre ⟨2, _⟩ (Array.mem_of_getElem? (i := 0) rfl) rfl _ _ rfl rfl
          exact opw_conv (vx := .int .i64 ((za : Nat) : Int)) (v := .int .u64 ((za : Nat) : Int)) rfl e18 (run_convU HA.out) (hK _ _ rfl ⟨hRr _, fun _ _ h => h⟩)
        · rw [want_none rfl] at hwant; cases hwant
      case r4 =>
        refine truleGh fun b__ w hW hN hold hpre => ⟨fun hwant K hK => ?_, fun hwant => ?_⟩
        · clear hwant
          have e19 : b__.eval (.tmp 19) = .int .u64 ((za : Nat) : Int) := hpre ⟨3, _⟩ (Array.mem_of_getElem? (i := 0) rfl) rfl _ _ rfl rfl
          exact chain_call (kd := rbK) (by decide) rfl rfl (by kernel_rfl) (by simp only [List.map_cons, List.map_nil, e19]) (rput_any za HA.out _) hK
        · rw [want_none rfl] at hwant; cases hwant
      case r5 =>
        refine truleGh fun b__ w hW hN hold hpre => ⟨fun hwant K hK => ?_, fun hwant => ?_⟩
        · clear hwant
          have e16 : b__.eval (.tmp 16) = sv := hpre ⟨0, _⟩ (Array.mem_of_getElem? (i := 0) rfl) rfl _ _ rfl rfl
          have e20 : (fun (v : Value) (w : World × _) => (0, v) ∈ w.2.b) (b__.eval (.tmp 20)) w := hpre ⟨4, _⟩ (Array.mem_of_getElem? (i := 1) rfl) rfl _ _ rfl rfl
          exact chain_app (kd := rbK) (by decide) rfl rfl ty_bytes' hN (by rw [e16]; exact hA0.mono hW.2.1) (hW.1 hJ0) (Sl.of_own ((hW.1 hJ0).side e20)) (u8s_one _) rfl rfl (by exact hb0.out.1) (by exact hb0.out.2.1) (show 0 + 1 < 3 by decide) hK
        · rw [want_none rfl] at hwant; cases hwant
      case r6 =>
        refine truleGh fun b__ w hW hN hold hpre => ⟨fun hwant K hK => ?_, fun hwant => ?_⟩
        · clear hwant
          have e5 : b__.eval (.tmp 5) = .pointer (some ⟨g5, 0, none⟩) := (hold 5 (by kernel_rfl)).trans rfl
          exact opw_iaddr rfl (by assumption) rfl (run_snd g5 _) (hK _ _ rfl ⟨hRr _, fun _ _ h => h⟩)
        · rw [want_none rfl] at hwant; cases hwant
      case r7 =>
        refine truleGh fun b__ w hW hN hold hpre => ⟨fun hwant K hK => ?_, fun hwant => ?_⟩
        · clear hwant
          have e22 : b__.eval (.tmp 22) = .pointer (some ⟨g5, 1, none⟩) := hpre ⟨6, _⟩ (Array.mem_of_getElem? (i := 0) rfl) rfl _ _ rfl rfl
          exact opw_cell rfl e22 (by kernel_rfl) (((hW.1 hJ0).1.holds (.box g5 50 #[.int .i64 (za : Nat), .int .i64 (zb : Nat)]) (List.mem_append_right _ (List.mem_singleton.2 rfl))).2.cell 1) (hK _ _ rfl ⟨hRr _, fun _ _ h => h⟩)
        · rw [want_none rfl] at hwant; cases hwant
      case r8 =>
        refine truleGh fun b__ w hW hN hold hpre => ⟨fun hwant K hK => ?_, fun hwant => ?_⟩
        · clear hwant
          have e23 : b__.eval (.tmp 23) = .int .i64 ((zb : Nat) : Int) := hpre ⟨7, _⟩ (Array.mem_of_getElem? (i := 0) rfl) rfl _ _ rfl rfl
          exact opw_conv (vx := .int .i64 ((zb : Nat) : Int)) (v := .int .u64 ((zb : Nat) : Int)) rfl e23 (run_convU HB.out) (hK _ _ rfl ⟨hRr _, fun _ _ h => h⟩)
        · rw [want_none rfl] at hwant; cases hwant
      case r9 =>
        refine truleGh fun b__ w hW hN hold hpre => ⟨fun hwant K hK => ?_, fun hwant => ?_⟩
        · clear hwant
          have e24 : b__.eval (.tmp 24) = .int .u64 ((zb : Nat) : Int) := hpre ⟨8, _⟩ (Array.mem_of_getElem? (i := 0) rfl) rfl _ _ rfl rfl
          exact chain_call (kd := rbK) (by decide) rfl rfl (by kernel_rfl) (by simp only [List.map_cons, List.map_nil, e24]) (rput_any zb HB.out _) hK
        · rw [want_none rfl] at hwant; cases hwant
      case r10 =>
        refine truleGh fun b__ w hW hN hold hpre => ⟨fun hwant K hK => ?_, fun hwant => ?_⟩
        · clear hwant
          have e21 : (fun (v : Value) (w : World × _) => AtS w.2 1 v) (b__.eval (.tmp 21)) w := hpre ⟨5, _⟩ (Array.mem_of_getElem? (i := 0) rfl) rfl _ _ rfl rfl
          have e25 : (fun (v : Value) (w : World × _) => (1, v) ∈ w.2.b) (b__.eval (.tmp 25)) w := hpre ⟨9, _⟩ (Array.mem_of_getElem? (i := 1) rfl) rfl _ _ rfl rfl
          exact chain_app (kd := rbK) (by decide) rfl rfl ty_bytes' hN e21 (hW.1 hJ0) (Sl.of_own ((hW.1 hJ0).side e25)) (u8s_one _) rfl rfl (by exact hb0.out.2.2.1) (by exact hb0.out.2.2.2) (show 1 + 1 < 3 by decide) hK
        · rw [want_none rfl] at hwant; cases hwant
      case r11 =>
        refine truleGh fun b__ w hW hN hold hpre => ⟨fun hwant K hK => ?_, fun hwant => ?_⟩
        · clear hwant
          have e26 : (fun (v : Value) (w : World × _) => AtS w.2 2 v) (b__.eval (.tmp 26)) w := hpre ⟨10, _⟩ (Array.mem_of_getElem? (i := 0) rfl) rfl _ _ rfl rfl
          exact opw_assign rfl rfl (hK _ _ e26 ⟨hRr _, fun _ _ h => h⟩)
        · rw [want_none rfl] at hwant; cases hwant
      case post =>
        intro b__ wz hW hdf hsz hold hT hZ
        have e16 : b__.eval (.tmp 16) = sv := hT 0 _ 16 rfl rfl
        have e17 : b__.eval (.tmp 17) = .pointer (some ⟨g5, 0, none⟩) := hT 1 _ 17 rfl rfl
        have e18 : b__.eval (.tmp 18) = .int .i64 ((za : Nat) : Int) := hT 2 _ 18 rfl rfl
        have e19 : b__.eval (.tmp 19) = .int .u64 ((za : Nat) : Int) := hT 3 _ 19 rfl rfl
        have e20 : (fun (v : Value) (w : World × _) => (0, v) ∈ w.2.b) (b__.eval (.tmp 20)) wz := hT 4 _ 20 rfl rfl
        have e21 : (fun (v : Value) (w : World × _) => AtS w.2 1 v) (b__.eval (.tmp 21)) wz := hT 5 _ 21 rfl rfl
        have e22 : b__.eval (.tmp 22) = .pointer (some ⟨g5, 1, none⟩) := hT 6 _ 22 rfl rfl
        have e23 : b__.eval (.tmp 23) = .int .i64 ((zb : Nat) : Int) := hT 7 _ 23 rfl rfl
        have e24 : b__.eval (.tmp 24) = .int .u64 ((zb : Nat) : Int) := hT 8 _ 24 rfl rfl
        have e25 : (fun (v : Value) (w : World × _) => (1, v) ∈ w.2.b) (b__.eval (.tmp 25)) wz := hT 9 _ 25 rfl rfl
        have e26 : (fun (v : Value) (w : World × _) => AtS w.2 2 v) (b__.eval (.tmp 26)) wz := hT 10 _ 26 rfl rfl
        have e3 : (fun (v : Value) (w : World × _) => AtS w.2 2 v) (b__.eval (.tmp 3)) wz := hT 11 _ 3 rfl rfl
        obtain ⟨vs, hvs, hb⟩ := frame_of hdf hsz hold
        replace e16 : vs 16 = sv := (hvs 16).symm.trans e16
        replace e17 : vs 17 = .pointer (some ⟨g5, 0, none⟩) := (hvs 17).symm.trans e17
        replace e18 : vs 18 = .int .i64 ((za : Nat) : Int) := (hvs 18).symm.trans e18
        replace e19 : vs 19 = .int .u64 ((za : Nat) : Int) := (hvs 19).symm.trans e19
        replace e20 := (hvs 20) ▸ e20
        replace e21 := (hvs 21) ▸ e21
        replace e22 : vs 22 = .pointer (some ⟨g5, 1, none⟩) := (hvs 22).symm.trans e22
        replace e23 : vs 23 = .int .i64 ((zb : Nat) : Int) := (hvs 23).symm.trans e23
        replace e24 : vs 24 = .int .u64 ((zb : Nat) : Int) := (hvs 24).symm.trans e24
        replace e25 := (hvs 25) ▸ e25
        replace e26 := (hvs 26) ▸ e26
        replace e3 := (hvs 3) ▸ e3
        subst hb
        clear hvs hold hT hdf hsz
        simp only [setAll, Act.put, List.setIfInBounds_toArray, List.set_cons_zero, List.set_cons_succ, List.getElem_toArray, List.getElem_cons_succ, List.getElem_cons_zero]
        have hJ := (hW.1 hJ0).last e3 rfl
        simp only [rbD] at hJ
        have hS := hJ.sub (F' := [_]) ((List.nil_sublist _).cons_cons _)
        generalize vs 3 = v3 at *
        generalize wz.1 = wf at *
        clear hW hZ hJ0 hRr hRt hN0 hA0 hJ e3
        go_wp2_with fail
        refine ⟨⟨j + 1, v3, by go_num, rfl, hlj, ?_⟩, by simp [intOf]; omega⟩
        rw [HE.out, show u8s (bs ++ putN za ++ putN zb) = u8s bs ++ u8s (putN za) ++ u8s (putN zb) by simp [u8s], show (bs ++ putN za ++ putN zb).length = bs.length + (putN za).length + (putN zb).length by rw [List.length_append, List.length_append]]
        exact hS
    · obtain rfl : j = L.length := by omega
      rw [List.take_length] at hS
      go_wp2_with (first | ((with_reducible show wpList _ _ _ (⟨_, .binOp _ _ _ _ _, _, _, _, _⟩ :: _) _ _); (first | (refine st_lss rfl _ _ _ _ rfl _ _ _ rfl rfl (fun h_ => ?_) (fun h_ => ?_)) | (refine st_leq rfl _ _ _ _ rfl _ _ _ rfl rfl (fun h_ => ?_) (fun h_ => ?_)) | (refine st_gtr rfl _ _ _ _ rfl _ _ _ rfl rfl (fun h_ => ?_) (fun h_ => ?_)) | (refine st_geq rfl _ _ _ _ rfl _ _ _ rfl rfl (fun h_ => ?_) (fun h_ => ?_)) | (refine st_eql rfl _ _ _ _ rfl _ _ _ rfl rfl (fun h_ => ?_) (fun h_ => ?_)) | (refine st_neq rfl _ _ _ _ rfl _ _ _ rfl rfl (fun h_ => ?_) (fun h_ => ?_))) <;> go_prune))
      go_ret
      exact ⟨_, rfl, hS.mono (Stable.pure True) fun _ _ _ => trivial⟩
end Go.Proofs.YtmlkgaiphpimiaaDoor
namespace Go.Proofs.YtmlkgaiphpimiaaDoor
open Go.RowKit
attribute [local go_sem ↓] Go.wp_at_zero Go.wp_at_succ
set_option maxRecDepth 20000
set_option exponentiation.threshold 5000

theorem hequal_any {w0 : World} {D E : Nat → Prop} {p p' : Value} {L M : List (Nat × Nat)} (h : IsH w0 D p L) (h' : IsH w0 E p' M) (hl : L.length ≤ 1000000) (hl' : M.length ≤ 1000000) : Calls Tryd.prog 48 #[p, p'] w0 (Ret (fun x _ => x = .bool (decide (L = M))) w0) := by
  obtain ⟨K, k1, k2, hS⟩ : ∃ K : (Nat → Prop) → World → Prop, (∀ D w, K D w → IsH w D p L) ∧ (∀ D w, K D w → IsH w D p' M) ∧ St w0 w0 [] K := ⟨_, fun _ _ h => h.1, fun _ _ h => h.2, St.start (D := fun _ => True) (stable_isH.and stable_isH) ⟨stable_isH D _ w0 w0 h (Nat.le_refl _) (fun _ _ _ _ h => h) fun _ _ _ _ => trivial, stable_isH E _ w0 w0 h' (Nat.le_refl _) (fun _ _ _ _ h => h) fun _ _ _ _ => trivial⟩⟩
  obtain ⟨q, o, rfl, -⟩ := id h
  obtain ⟨q', o', rfl, -⟩ := id h'
  clear h h'
  go_enter Tryd.func48, Tryd.ntmps48
  go_wp2_with (first
    | (go_at_call 31; first
       | ((with_reducible show Calls _ _ #[.pointer (some ⟨q, 0, none⟩)] _ _); refine (hlinks_any (k1 _ _ hS.ro) hl).mono ?_; rintro e w_ ⟨v1, rfl, hs⟩; replace hS := hS.new hs.below (.own v1 50 2 L.length (pcells L)) (hs.own 0 rfl); clear hs)
       | ((with_reducible show Calls _ _ #[.pointer (some ⟨q', 0, none⟩)] _ _); refine (hlinks_any (k2 _ _ hS.ro) hl').mono ?_; rintro e w_ ⟨v2, rfl, hs⟩; replace hS := hS.new hs.below (.own v2 50 2 M.length (pcells M)) (hs.own 0 rfl); clear hs))
    | (go_at_call 30; refine (peq_any (Sl.of_own (hS.own 1 rfl)) (Sl.of_own (hS.own 0 rfl)) hl).mono ?_; rintro r_ w_ ⟨_, rfl, rfl, hb_⟩; replace hS := hS.ext hb_; clear hb_))
  go_ret
  exact Ret.mk rfl hS.below
end Go.Proofs.YtmlkgaiphpimiaaDoor
namespace Go.Proofs.YtmlkgaiphpimiaaDoor
open Go.RowKit
attribute [local go_sem ↓] Go.wp_at_zero Go.wp_at_succ
set_option maxRecDepth 20000
set_option exponentiation.threshold 5000

theorem run_nebb (b : Bool) (w : World) : (binOp .neq 4 (.bool b) (.bool b)).run Tryd.prog w = .ok (.bool false) w := by cases b <;> go_simp
set_option maxHeartbeats 2000000 in
theorem lbytes_any (pv qv : Value) (ops opm : List OpD) (hO : ∀ x ∈ ops, x.ok) (hO2 : ∀ x ∈ opm, x.ok) (cut : Nat) (hcut : cut < 65536) (W : World) (D E0 : Nat → Prop) (hp : Sl W D 3 pv ops.length (ocells ops)) (hq : Sl W E0 3 qv opm.length (ocells opm)) (hT : DTab W) : Calls Tryd.prog 12 #[pv, qv, .int .u16 cut] W (Ret (fun x _ => x = .bool true) W) := by
  obtain ⟨A0, c0, rfl, _, _⟩ := hp.shape
  obtain ⟨B0, d0, rfl, _, _⟩ := hq.shape
  obtain ⟨K, kt, kp, kq, hS⟩ : ∃ K : (Nat → Prop) → World → Prop, (∀ D w, K D w → DTab w ∧ D 0) ∧ (∀ D w, K D w → Sl w D 3 (.slice A0 ops.length c0) ops.length (ocells ops)) ∧ (∀ D w, K D w → Sl w D 3 (.slice B0 opm.length d0) opm.length (ocells opm)) ∧ St W W [] K :=
    ⟨fun D w => ((DTab w ∧ D 0) ∧ Sl w D 3 (.slice A0 ops.length c0) ops.length (ocells ops)) ∧ Sl w D 3 (.slice B0 opm.length d0) opm.length (ocells opm), fun _ _ h => h.1.1, fun _ _ h => h.1.2, fun _ _ h => h.2, St.start (D := fun _ => True) ((dtab_stable.and (stable_sl (by decide))).and (stable_sl (by decide))) ⟨⟨⟨hT, trivial⟩, hp.imp fun _ _ _ => trivial⟩, hq.imp fun _ _ _ => trivial⟩⟩
  have HO := Lib.hid hO
  have HO2 := Lib.hid hO2
  clear hO hO2 hT hp hq
  go_enter Tryd.func12, Tryd.ntmps12
  go_wp2_with (first
    | (go_at_call 13; refine (lawake10_any hS kt).mono ?_; clear hS; rintro e w_ ⟨rfl, hS⟩))
  refine (lplay_any _ ops HO.out hS kt kp).mono ?_
  clear hS
  rintro e w1 ⟨p1, v1, L, rfl, hH, hl, hS⟩
  replace hH := Lib.hid hH
  obtain ⟨q1, o1, rfl, -⟩ := id hS.ro.2
  obtain ⟨A1, c1, rfl, _, _⟩ := hS.ro.1.2.shape
  obtain ⟨K1, k1t, k1q, k1l, k1h, hS2⟩ : ∃ K1 : (Nat → Prop) → World → Prop, (∀ D w, K1 D w → DTab w ∧ D 0) ∧ (∀ D w, K1 D w → Sl w D 3 (.slice B0 opm.length d0) opm.length (ocells opm)) ∧ (∀ D w, K1 D w → Sl w D 2 (.slice A1 L.length c1) L.length (pcells L)) ∧ (∀ D w, K1 D w → IsH w D (.pointer (some ⟨q1, 0, none⟩)) L) ∧ St W w1 [] K1 := ⟨_, fun D w h => kt D w h.1.1, fun D w h => kq D w h.1.1, fun _ _ h => h.1.2, fun _ _ h => h.2, hS⟩
  clear hS kt kp kq K
  have hS := hS2
  clear hS2
  go_wp2_with fail
  refine (lplay_any _ opm HO2.out hS k1t k1q).mono ?_
  clear hS
  rintro e w2 ⟨p2, v2, M, rfl, hH2, hl2, hS⟩
  replace hH2 := Lib.hid hH2
  obtain ⟨q2, o2, rfl, -⟩ := id hS.ro.2
  obtain ⟨A2, c2, rfl, _, _⟩ := hS.ro.1.2.shape
  obtain ⟨K2, k2t, k2l, k2h, k2m, k2g, hS2⟩ : ∃ K2 : (Nat → Prop) → World → Prop, (∀ D w, K2 D w → DTab w ∧ D 0) ∧ (∀ D w, K2 D w → Sl w D 2 (.slice A1 L.length c1) L.length (pcells L)) ∧ (∀ D w, K2 D w → IsH w D (.pointer (some ⟨q1, 0, none⟩)) L) ∧ (∀ D w, K2 D w → Sl w D 2 (.slice A2 M.length c2) M.length (pcells M)) ∧ (∀ D w, K2 D w → IsH w D (.pointer (some ⟨q2, 0, none⟩)) M) ∧ St W w2 [] K2 := ⟨_, fun D w h => k1t D w h.1.1, fun D w h => k1l D w h.1.1, fun D w h => k1h D w h.1.1, fun _ _ h => h.1.2, fun _ _ h => h.2, hS⟩
  clear hS k1t k1q k1l k1h K1
  have hS := hS2
  clear hS2
  have HEN : Hid (0 < (hencB L).length ∧ (hencB L).length ≤ 100000) := Lib.hid (by
    have h1 := hpairs_len L
    have h2 := putN_len L.length
    have h3 := putN_gt0 L.length
    unfold hencB
    rw [List.length_append]; omega)
  have HEB := Lib.hid (hencB_bytes L)
  have HER := Lib.hid (HRead.of hH.out (show L.length ≤ 3969 by omega))
  have HEC := Lib.hid fun (k : Nat) (h : k < (hencB L).length) (M : List (Nat × Nat)) => HRead.cut (M := M) hH.out (show L.length ≤ 3969 by omega) h
  have HEM := Lib.hid fun (M : List (Nat × Nat)) => HRead.more (M := M) hH.out (show L.length ≤ 3969 by omega) 0
  have HBY := Lib.hid fun (w : World) (D : Nat → Prop) (h : IsH w D (.pointer (some ⟨q1, 0, none⟩)) L) => hbytes_any h hH.out (show L.length ≤ 900000 by omega)
  have HRB := Lib.hid fun (w : World) (D : Nat → Prop) (h : Sl w D 2 (.slice A1 L.length c1) L.length (pcells L)) => rhbytes_any h hH.out (show L.length ≤ 900000 by omega)
  generalize hencB L = E at *
  obtain ⟨hn0, hn1⟩ := HEN.out
  obtain ⟨k, hk⟩ : ∃ k, k = cut % E.length := ⟨_, rfl⟩
  have hkl : k < E.length := by rw [hk]; exact Nat.mod_lt _ hn0
  have hw1 : IntKind.i64.wrap (cut : Int) = (cut : Int) := wrap_i64_nat (by omega)
  have hw2 : ((cut : Int)).tmod (E.length : Int) = (k : Int) := by rw [hk, Int.tmod_eq_emod_of_nonneg (Int.natCast_nonneg _)]; simp
  have HW2 := Lib.hid hw2
  clear hk
  obtain ⟨b, hb⟩ : ∃ b, b = decide (L = M) := ⟨_, rfl⟩
  have HB := Lib.hid hb
  clear hb
  go_wp2_with (first
    | (go_at_call 47; refine (HBY.out _ _ (k2h _ _ hS.ro)).mono ?_; rintro e w_ ⟨v3, rfl, hs⟩; replace hS := hS.new hs.below (.own v3 5 1 E.length (u8s E)) (hs.own 0 rfl); clear hs; obtain ⟨g3, c3, rfl, hc3, hc3'⟩ := own_pos (hS.own 0 rfl) hn0; replace hS := hS.freeze 0 (by decide) rfl))
  obtain ⟨K3, k3, k3p, hS2⟩ : ∃ K3 : (Nat → Prop) → World → Prop, (∀ D w, K3 D w → K2 D w) ∧ (∀ D w, K3 D w → Sl w D 1 (.slice (some ⟨g3, 0, none⟩) E.length c3) E.length (u8s E)) ∧ St W w_ [] K3 := ⟨_, fun _ _ h => h.1, fun _ _ h => h.2, hS⟩
  clear hS
  have hS := hS2
  clear hS2
  refine (hread_any _ E HEB.out (by omega) hS (fun D w h => k2t D w (k3 D w h)) (k3p _ _ hS.ro)).mono ?_
  rintro e w4 ⟨r, z, rfl, (⟨L', hL', rfl, hS⟩ | ⟨hL', -⟩)⟩
  rotate_left
  · exact absurd HER.out (hL' _)
  obtain rfl : L' = L := hL'.uniq HER.out
  clear hL'
  obtain ⟨qr, or_, rfl, -⟩ := id hS.ro.2
  go_wp2_with (first
    | (go_at_call 51; refine (HRB.out _ _ (k2l _ _ (k3 _ _ hS.ro.1))).mono ?_; rintro e w_ ⟨v5, rfl, hs⟩; replace hS := hS.new hs.below (.own v5 5 1 E.length (u8s E)) (hs.own 0 rfl); clear hs)
    | (go_at_call 50; refine (beq_any (k3p _ _ hS.ro.1) (Sl.of_own (hS.own 0 rfl)) (by omega)).mono ?_; rintro r_ w_ ⟨_, rfl, rfl, hb_⟩; rw [decide_eq_true rfl]; replace hS := hS.ext hb_; clear hb_)
    | (go_at_call 48; first
       | ((with_reducible show Calls _ _ #[.pointer (some ⟨qr, 0, none⟩), .pointer (some ⟨q1, 0, none⟩)] _ _); refine (hequal_any hS.ro.2 (k2h _ _ (k3 _ _ hS.ro.1)) (by omega) (by omega)).mono ?_; rintro r_ w_ ⟨_, rfl, rfl, hb_⟩; rw [decide_eq_true rfl]; replace hS := hS.ext hb_; clear hb_)
       | ((with_reducible show Calls _ _ #[.pointer (some ⟨q1, 0, none⟩), .pointer (some ⟨q2, 0, none⟩)] _ _); refine (hequal_any (k2h _ _ (k3 _ _ hS.ro.1)) (k2g _ _ (k3 _ _ hS.ro.1)) (by omega) (by omega)).mono ?_; rintro r_ w_ ⟨_, rfl, rfl, hb_⟩; rw [← HB.out]; replace hS := hS.ext hb_; clear hb_))
    | (go_at_call 30; refine (peq_any (k2l _ _ (k3 _ _ hS.ro.1)) (k2m _ _ (k3 _ _ hS.ro.1)) (by omega)).mono ?_; rintro r_ w_ ⟨_, rfl, rfl, hb_⟩; rw [← HB.out]; replace hS := hS.ext hb_; clear hb_)
    | ((with_reducible show wpList _ _ _ (⟨some 65, _, _, _, _, _⟩ :: _) _ _); refine BigFrame.wpList_want rfl fun _ hK => opw_bin (vx := .bool b) (vy := .bool b) (v := .bool false) rfl rfl rfl rfl (run_nebb b _) (hK _ _ ?_))
    | ((with_reducible show wpList _ _ _ (⟨some 74, _, _, _, _, _⟩ :: _) _ _); refine BigFrame.wpList_want rfl fun _ hK => opw_slh rfl Tryd.underlying63 ⟨1, by kernel_rfl⟩ rfl (congrArg (Value.int .i64) HW2.out) (show k ≤ c3 by omega) (hK _ _ ?_)))
  refine (hread_any _ (E.take k) (fun t ht => HEB.out t (List.mem_of_mem_take ht)) (by rw [List.length_take]; omega) hS (fun D w h => k2t D w (k3 D w h.1)) (sl_bytes (sl_take (k3p _ _ hS.ro.1) (Nat.le_of_lt hkl)) (u8s_take E k).symm)).mono ?_
  rintro e w6 ⟨r, z, rfl, (⟨L', hL', -⟩ | ⟨-, rfl, rfl, hS⟩)⟩
  · exact absurd hL' (HEC.out k hkl _)
  go_wp2_with (first
    | (go_at_call 52; refine (clone_bytes_own _ E _ _ (k3p _ _ hS.ro.1) (by omega)).mono ?_; rintro e w_ ⟨v, rfl, h6, hb_⟩; replace hS := hS.new hb_ (.own v 5 1 E.length (u8s E)) (h6.2 hn0); clear h6 hb_; obtain ⟨g7, c7, rfl, hc7, hc7'⟩ := own_pos (hS.own 0 rfl) hn0)
    | ((with_reducible show wpList _ _ _ (⟨_, .buildSlice _ 1 _, _, _, _, _⟩ :: _) _ _); refine st_push hS 0 rfl rfl _ _ _ _ rfl rfl ty_bytes' (.slice (some ⟨g7, 0, none⟩) E.length c7) E.length (u8s E) (.int .u8 0) #[.int .u8 0] rfl (by kernel_rfl) rfl rfl rfl rfl (by intro u hu; simp at hu; subst hu; rfl) (by omega) (by omega) ?_; clear hS; intro z_ v_ w_ hS; (try simp only [Act.put, Act.eval, List.set_cons_zero, List.set_cons_succ, List.setIfInBounds_toArray, Array.getD_eq_getD_getElem?, List.getElem?_toArray, List.getElem?_cons_succ, List.getElem?_cons_zero, Option.getD_some, Value.cells] at hS); obtain ⟨gp, cp, rfl, hcp, hcp'⟩ := own_pos (hS.own 0 rfl) (Nat.succ_pos _)))
  refine (hread_any _ (E ++ [0]) (fun t ht => by rcases List.mem_append.1 ht with h | h; exact HEB.out t h; rw [List.mem_singleton] at h; rw [h]; decide) (by simp; omega) hS (fun D w h => k2t D w (k3 D w h.1)) (sl_bytes (Sl.of_own (hS.own 0 rfl)) (by simp [u8s]))).mono ?_
  rintro e w6 ⟨r, z, rfl, (⟨L', hL', -⟩ | ⟨-, rfl, rfl, hS⟩)⟩
  · exact absurd hL' (HEM.out _)
  go_wp2_with fail
  go_ret
  exact Ret.mk rfl hS.below
end Go.Proofs.YtmlkgaiphpimiaaDoor
namespace Go.Proofs.YtmlkgaiphpimiaaDoor
open Go.RowKit Go.ChangeShapes Go.WideShapes

section
variable {H : Type} {enc : TypeId × Value → H} {P : Program} {w : World} {base : Nat} {sp : Nat → Bool} {held : Bool}
theorem sl_of_trod {t e : TypeId} {size fuel : Nat} {cs : List Value} {x : DataW H × List MemPlace} (ht : P.underlying t = some (.slice e)) (hc : P.cellsOf e = size) (hsz : 0 < size) (h : DataW.trod enc P w base sp held fuel t cs = some x) :
    ∃ v n xs, cs = [v] ∧ Sl w (fun _ => True) size v n xs ∧ ∀ k, k < n → ∃ f' y, DataW.trod enc P w base sp held f' e ((xs.drop (k * size)).take size) = some y := by
  rcases DataW.trod_slice ht h with ⟨rfl, _⟩ | ⟨a, len, cap, elems, rest, n, _, rfl, _, hb, hl, hm, hlen, hel, _⟩
  · exact ⟨_, 0, [], rfl, ⟨by simp, none, 0, rfl, Nat.le_refl _, Nat.zero_le _, fun h => by omega⟩, fun k hk => by omega⟩
  · rw [hc] at hel
    have each : ∀ k, k < len → ∃ ck y, w.cells? base (a.add (k * size)) size = some ck ∧ DataW.trod enc P w base sp held n e ck = some y := by
      intro k hk
      have h1 := hel k hk
      rw [List.getElem?_eq_getElem (by omega)] at h1
      obtain ⟨ck, h2, h3⟩ := Option.bind_eq_some_iff.1 h1
      exact ⟨ck, _, h2, h3⟩
    have hadd : ∀ i j, (a.add i).add j = a.add (i + j) := by
      intro i j
      unfold Addr.add
      by_cases h1 : i = 0 <;> by_cases h2 : j = 0 <;> simp [h1, h2, Nat.add_assoc]
    have cell : ∀ j, j < len * size → ∃ x, w.cell? (a.add j) = some x := by
      intro j hj
      have hk : j / size < len := (Nat.div_lt_iff_lt_mul hsz).2 hj
      obtain ⟨ck, y, h1, h2⟩ := each _ hk
      obtain ⟨_, h3, h4⟩ := World.cells?_some h1
      have h5 := h4 (j % size) (Nat.mod_lt _ hsz)
      rw [hadd, Nat.mul_comm, Nat.div_add_mod] at h5
      rw [h5, List.getElem?_eq_getElem (by rw [h3]; exact Nat.mod_lt _ hsz)]
      exact ⟨_, rfl⟩
    refine ⟨.slice (some a) len cap, len, (List.range (len * size)).map fun j => (w.cell? (a.add j)).getD undef, rfl, ⟨by simp, some a, cap, rfl, hl, hm, fun h0 => ?_⟩, fun k hk => ?_⟩
    · obtain ⟨x0, hx0⟩ := cell 0 (Nat.mul_pos h0 hsz)
      obtain ⟨b, o, s⟩ := a
      have hs : s = none := cell_spot hx0
      subst hs
      refine ⟨b, o, rfl, trivial, ?_, fun j x hx => ?_⟩
      · have := hx0
        unfold World.cell? at this
        simp only [Addr.add] at this
        rcases Nat.lt_or_ge b w.heap.size with hlt | hge
        · exact hlt
        · simp [Array.getElem?_eq_none hge] at this
      · simp only [List.getElem?_map, Option.map_eq_some_iff] at hx
        obtain ⟨j', hj', rfl⟩ := hx
        have hjl := (List.getElem?_eq_some_iff.1 hj').1
        rw [List.getElem?_range (by simpa using hjl)] at hj'
        obtain rfl := Option.some.inj hj'
        obtain ⟨y, hy⟩ := cell j (by simpa using hjl)
        rw [hy]
        have e : (⟨b, o, none⟩ : Addr).add j = ⟨b, o + j, none⟩ := by
          unfold Addr.add; split <;> simp [*]
        rw [e] at hy
        exact hy
    · obtain ⟨ck, y, h1, h2⟩ := each k hk
      obtain ⟨_, h3, h4⟩ := World.cells?_some h1
      refine ⟨n, y, ?_⟩
      rw [← h2]
      congr 1
      have hle : k * size + size ≤ len * size := by
        rw [← Nat.succ_mul]; exact Nat.mul_le_mul_right _ hk
      apply List.ext_getElem?
      intro i
      rcases Nat.lt_or_ge i size with hi | hi
      · rw [List.getElem?_take_of_lt hi, List.getElem?_drop, List.getElem?_map, List.getElem?_range (by omega)]
        have h5 := h4 i hi
        rw [hadd] at h5
        simp only [Option.map_some]
        rw [h5, List.getElem?_eq_getElem (by omega)]
        simp
      · rw [List.getElem?_eq_none (by simp; omega), List.getElem?_eq_none (by omega)]
end
theorem list3 {α : Type} {l : List α} (h : l.length = 3) : ∃ a b c, l = [a, b, c] := by
  match l, h with
  | [a, b, c], _ => exact ⟨a, b, c, rfl⟩
theorem list3r {α : Type} {l : List α} {n : Nat} (h : l.length = (n + 1) * 3) : ∃ a b c r, l = a :: b :: c :: r := by
  match l, h with
  | [], h => simp at h
  | [_], h => simp at h; omega
  | [_, _], h => simp at h; omega
  | a :: b :: c :: r, _ => exact ⟨a, b, c, r, rfl⟩
end Go.Proofs.YtmlkgaiphpimiaaDoor
namespace Go.Proofs.YtmlkgaiphpimiaaDoor
open Go.RowKit Go.ChangeShapes Go.WideShapes

theorem boxF_of_reads {w : World} {n : String} {g : Nat} {t e : TypeId} {m : Nat} {k : IntKind} {zs : List Int} (hg : Tryd.prog.globalNamed n = some g) (hty : (Tryd.prog.globals[g]?).map (·.type) = some t)
    (ht : Tryd.prog.underlying t = some (.array m e)) (he : Tryd.prog.underlying e = some (.int k)) (hce : Tryd.prog.cellsOf e = 1) (hct : Tryd.prog.cellsOf t = m) (h : Lib.VarReads Tryd.prog w n (Lib.tabData k zs)) :
    ∃ t, BoxF w g t (zs.map fun z => Value.int k z).toArray := by
  obtain ⟨g', t', cs, fuel, p, hg', hty', hvar, hd⟩ := h
  obtain rfl := Option.some.inj (hg.symm.trans hg')
  obtain rfl := Option.some.inj (hty.symm.trans hty')
  have hcs := Lib.cells_of_tab ht he hce hct hd
  simp only [World.var?, hg, Option.bind_some] at hvar
  split at hvar
  · rename_i cs' t'' f heq
    obtain rfl := Option.some.inj hvar
    refine ⟨(t'', f), ?_⟩
    rw [← hcs]
    exact heq
  · cases hvar
end Go.Proofs.YtmlkgaiphpimiaaDoor
namespace Go.Proofs.YtmlkgaiphpimiaaDoor
open Go.RowKit Go.ChangeShapes Go.WideShapes

theorem dtab_of_reads {w : World} (h1 : Lib.VarReads Tryd.prog w "math/bits.deBruijn64tab" Rows.laid_math_bits_deBruijn64tab) : DTab w := by
  have e1 : (Rows.laid_math_bits_deBruijn64tab : DataW Unit) = Lib.tabData .u8 (dbL.map fun x : Nat => (x : Int)) := by kernel_rfl
  rw [e1] at h1
  obtain ⟨t, b1⟩ := boxF_of_reads (g := 0) (by kernel_rfl) (t := 133) (by kernel_rfl) Tryd.underlying133 Tryd.underlying5 (by kernel_rfl) (by kernel_rfl) h1
  have e : (List.map (fun z => Value.int .u8 z) (dbL.map fun x : Nat => (x : Int))) = u8s dbL := by simp [u8s]
  rw [e] at b1
  intro q hq
  rw [b1.cell, List.getElem?_toArray]
  exact u8s_at _ _ hq
end Go.Proofs.YtmlkgaiphpimiaaDoor
namespace Go.Proofs.YtmlkgaiphpimiaaDoor
open Go.ChangeShapes Go.WideShapes Go.ChangeAt Go.RowKit

section
variable {P : Program} {H : Type} {enc : TypeId × Value → H} {W : World} {r : Reach} {b0 base : Nat} {sp : Nat → Bool} {held : Bool} {v : Value} {d : DataW H} {p : List MemPlace} {t : TypeId}
theorem int_open {k : IntKind} (ht : P.underlying t = some (.int k)) (hv : Value.okWide P W r b0 t v) (h : DataW.Trod enc P W base sp held t v d p) : ∃ n, v = .int k n ∧ (Lit.int k n).wf = true := by
  obtain ⟨n, rfl⟩ := okWide_int ht hv
  obtain ⟨fuel, hf⟩ := h
  obtain ⟨m, e, _, w⟩ := DataW.trod_int ht hf
  simp [Value.cells] at e
  subst e
  exact ⟨_, rfl, w⟩
theorem u16_open (ht : P.underlying t = some (.int .u16)) (hv : Value.okWide P W r b0 t v) (h : DataW.Trod enc P W base sp held t v d p) : ∃ n : Nat, v = .int .u16 n ∧ n < 65536 := by
  obtain ⟨n, rfl, w⟩ := int_open ht hv h
  have := bounds_u16 w
  obtain ⟨m, rfl⟩ := Int.eq_ofNat_of_zero_le (by omega : 0 ≤ n)
  exact ⟨m, rfl, by omega⟩
end
end Go.Proofs.YtmlkgaiphpimiaaDoor
namespace Go.Proofs.YtmlkgaiphpimiaaDoor
open Go.ChangeShapes Go.WideShapes Go.ChangeAt Go.RowKit

theorem i8_of {n : Int} (h : (Lit.int .i8 n).wf = true) : -128 ≤ n ∧ n ≤ 127 := by
  have := bounds_i8 h
  omega
set_option maxRecDepth 20000 in
theorem ops_open {H : Type} {enc : TypeId × Value → H} {W : World} {r : Reach} {b0 base : Nat} {sp : Nat → Bool} {held : Bool} {v : Value} {d : DataW H} {p : List MemPlace} (hv : Value.okWide Tryd.prog W r b0 47 v) (h : DataW.Trod enc Tryd.prog W base sp held 47 v d p) :
    ∃ ops : List OpD, (∀ x ∈ ops, x.ok) ∧ Sl W (fun _ => True) 3 v ops.length (ocells ops) := by
  obtain ⟨a0, len0, cap0, rfl⟩ := okWide_slice Tryd.underlying47 hv
  obtain ⟨fuel, hf⟩ := h
  obtain ⟨v, n, xs, e, hs, he⟩ := sl_of_trod Tryd.underlying47 (size := 3) (by kernel_rfl) (by decide) hf
  obtain rfl : v = .slice a0 len0 cap0 := by simpa [Value.cells] using e.symm
  have hl := hs.1
  have : ∃ zs : List OpD, xs = ocells zs ∧ zs.length = n ∧ ∀ c ∈ zs, c.ok := by
    clear hs hf e
    induction n generalizing xs with
    | zero => exact ⟨[], List.length_eq_zero_iff.1 (by simpa using hl), rfl, by simp⟩
    | succ n ih =>
      obtain ⟨f', y, hy⟩ := he 0 (by omega)
      simp only [Nat.zero_mul, List.drop_zero] at hy
      obtain ⟨zs, hz, hn, hok⟩ := ih (xs.drop 3) (fun k hk => by
        obtain ⟨f', y, h⟩ := he (k + 1) (by omega)
        refine ⟨f', y, ?_⟩
        rw [List.drop_drop]
        rw [show 3 + k * 3 = (k + 1) * 3 by omega]
        exact h) (by simp; omega)
      obtain ⟨ys, m, rfl, _, _, hyl, hf⟩ := DataW.trod_struct Tryd.underlying87 hy
      obtain ⟨y0, y1, y2, rfl⟩ := list3 (show ys.length = 3 from hyl)
      obtain ⟨a, b, c, r, rfl⟩ := list3r hl
      · clear hyl
        have g0 : DataW.trod enc Tryd.prog W base sp held m 4 (((a :: b :: c :: r).take 3).drop 0 |>.take (Tryd.prog.cellsOf 4)) = some y0 := hf 0 _ rfl
        have g1 : DataW.trod enc Tryd.prog W base sp held m 85 (((a :: b :: c :: r).take 3).drop 1 |>.take (Tryd.prog.cellsOf 85)) = some y1 := hf 1 _ rfl
        have g2 : DataW.trod enc Tryd.prog W base sp held m 85 (((a :: b :: c :: r).take 3).drop 2 |>.take (Tryd.prog.cellsOf 85)) = some y2 := hf 2 _ rfl
        have c1 : Tryd.prog.cellsOf 85 = 1 := by kernel_rfl
        have c2 : Tryd.prog.cellsOf 4 = 1 := by kernel_rfl
        rw [c1] at g1 g2
        rw [c2] at g0
        obtain ⟨n0, e0, _⟩ := DataW.trod_bool Tryd.underlying4 (x := y0) (by simpa using g0)
        obtain ⟨n1, e1, _, w1⟩ := DataW.trod_int Tryd.underlying85 (x := y1) (by simpa using g1)
        obtain ⟨n2, e2, _, w2⟩ := DataW.trod_int Tryd.underlying85 (x := y2) (by simpa using g2)
        simp at e0 e1 e2
        subst e0 e1 e2
        refine ⟨⟨n0, n1, n2⟩ :: zs, ?_, by simp [hn], fun c hc => ?_⟩
        · show _ = _ :: _ :: _ :: ocells zs
          rw [← hz]; rfl
        · rcases List.mem_cons.1 hc with rfl | hc
          · exact ⟨i8_of w1, i8_of w2⟩
          · exact hok c hc
  obtain ⟨zs, rfl, rfl, hok⟩ := this
  exact ⟨zs, hok, hs⟩
end Go.Proofs.YtmlkgaiphpimiaaDoor
namespace Go.Proofs.YtmlkgaiphpimiaaDoor
open Go.ChangeShapes Go.WideShapes Go.ChangeAt Go.RowKit

theorem hbyt_laid_plain (W : World) (h : laidMetH Tryd.prog Rows.hierarchyBytesRow.laid W) : DTab W := by
  have h' : laidMetH Tryd.prog [("math/bits.deBruijn64tab", Rows.laid_math_bits_deBruijn64tab)] W := h
  rw [MakeChecks.laidMetH_plain _ _ _ (by kernel_rfl)] at h'
  exact dtab_of_reads (Lib.laidMet.reads h' (.head _))
noncomputable def hbytStart (os : Os) : World := World.laidAll Tryd.prog os Rows.hierarchyBytesRow.laid
theorem hbyt_start_met (os : Os) (args : Array Value) : laidMetH Tryd.prog Rows.hierarchyBytesRow.laid ((hbytStart os).forCall (fun _ _ => 0) ⟨#[], args, []⟩).memory := by
  rw [MakeChecks.laidMetH_plain _ _ _ (by kernel_rfl)]
  exact laidMet_laidAll _ (by kernel_rfl) (by kernel_rfl)
theorem hbyt_own : ownKnob Tryd.prog.godebug = none := by kernel_rfl
theorem hbyt_laidOut : laidOutB Tryd.prog = true := by kernel_rfl

set_option maxRecDepth 100000 in
theorem hbyt_lifted (os : Os) (started : os.Started) (H : Type) (enc : TypeId × Value → H) :
    ReturnsInHanded {} Tryd.checked os 12 .any (fun w args => (Rows.hierarchyBytesSpec.pre enc Tryd.prog Tryd.f12 [] false w args ∧ laidMetH Tryd.prog Rows.hierarchyBytesRow.laid w) ∧ sizedMet enc Tryd.prog Tryd.f12 (OpenSpec.ofChange Rows.hierarchyBytesSpec) false w args)
      (Rows.hierarchyBytesSpec.post enc Tryd.prog Tryd.f12 false true false false) := by
  refine returnsInHanded_of_change_and (C := Tryd.checked) (X := fun w _ => laidMetH Tryd.prog Rows.hierarchyBytesRow.laid w) (fun _ _ _ hh h => h.of_heap hh) hbyt_own started (by kernel_rfl) Tryd.func12
    (ChangeSpec.witness_shaped (enc := enc) (C := Tryd.checked) (os := os) (X := fun w _ => laidMetH Tryd.prog Rows.hierarchyBytesRow.laid w) false (hbytStart os) #[.slice none 0 0, .slice none 0 0, .int .u16 0] 8 (World.laidAll_os _ _ _) (World.shaped_of_ZipB (by kernel_rfl) (by kernel_rfl)) (by kernel_rfl) (by kernel_rfl) (by kernel_rfl) (hbyt_start_met os _)) ?_
  intro W base args ds gs before hval0 hW _ _ hL _
  have hval : ∀ (j : Nat) t v, Tryd.f12.params[j]? = some t → args[j]? = some v → Value.okWide Tryd.prog W .any base t v := hval0
  have hW' := hW
  obtain ⟨p, q, hA0, hV, rfl, hfz, hnd⟩ := hW
  have hA : DataW.TrodAll enc Tryd.prog W 0 (fun _ => true) true Tryd.f12.params.toList args.toList ds p := hA0
  rw [Tryd.params12] at hA hval
  obtain ⟨v0, v1, v2, d0, d1, d2, p0, p1, p2, rfl, rfl, rfl, h0, h1, h2⟩ := trodAll_three hA
  obtain ⟨rfl, rfl⟩ := trodVars_none hV
  obtain ⟨ops, hO, hp⟩ := ops_open (hval 0 _ v0 rfl rfl) h0
  obtain ⟨opm, hO2, hq⟩ := ops_open (hval 1 _ v1 rfl rfl) h1
  obtain ⟨a1, rfl, ha1⟩ := u16_open Tryd.underlying67 (hval 2 _ v2 rfl rfl) h2
  have hT := hbyt_laid_plain W hL
  have lt : ∀ z ∈ p0 ++ p1 ++ p2, z.block < W.heap.size := fun z hz => by simpa using hW'.lt z (by simpa using hz)
  refine (lbytes_any v0 v1 ops opm hO hO2 a1 ha1 W _ _ hp hq hT).mono fun E W' he => ?_
  obtain ⟨r, rfl, rfl, hb⟩ := he
  refine ⟨_, rfl, _, _, _, [], p0 ++ p1 ++ p2, [], hW', ?_, ?_, ?_, hb.frame _, fun h => by cases h⟩
  · exact trodAll_mk1 (shut_bool Tryd.underlying4 true)
  · rw [Tryd.params12]
    rw [List.append_assoc]
    exact trodAll_mk3 (Below.trod hbyt_laidOut (by kernel_rfl) (of_decide_eq_true (by kernel_rfl)) h0 hb fun z hz => lt z (List.mem_append_left _ (List.mem_append_left _ hz))) (Below.trod hbyt_laidOut (by kernel_rfl) (of_decide_eq_true (by kernel_rfl)) h1 hb fun z hz => lt z (List.mem_append_left _ (List.mem_append_right _ hz))) (Below.trod hbyt_laidOut (by kernel_rfl) (of_decide_eq_true (by kernel_rfl)) h2 hb fun z hz => lt z (List.mem_append_right _ hz))
  · rfl

theorem hbyt_holds : Rows.HierarchyBytesSaid :=
  OpenClaim.holds_of_wide 12 Tryd.f12 rfl rfl rfl rfl rfl rfl rfl ⟨rfl, rfl, rfl, rfl, rfl⟩ rfl rfl rfl rfl rfl (by kernel_rfl) Tryd.func12 (by kernel_rfl)
    (of_decide_eq_true (by kernel_rfl)) (by unfold Func.isWrapper; rw [if_neg (by decide +kernel)]; exact ⟨rfl, rfl⟩)
    (fun os started H enc _ => hbyt_lifted os started H enc)
end Go.Proofs.YtmlkgaiphpimiaaDoor
namespace Go.Proofs.YtmlkgaiphpimiaaDoor
open Go

theorem hbyt_card : Rows.HierarchyBytesCardSaid :=
  Claim7.holds_tied_plain_at .later [] [.data] true (true, "cfd49cb4656b8bd54bde5f9242d591093a1a57a61d44ec1a091c4818a6365428") false
    hbyt_holds (fun _ h => by cases h) (by kernel_rfl) (fun _ h => by cases h) hierarchyBytes_row_tie rfl ⟨rfl, rfl⟩ (by kernel_rfl) rfl
    (fun f fn hf hfn => by
      obtain rfl : f = 12 := Option.some.inj ((show Tryd.prog.funcNamed "arbac/arbaclaw10.HierarchyBytes" = some 12 by kernel_rfl).symm.trans hf) |>.symm
      obtain rfl : fn = Tryd.f12 := (Option.some.inj (Tryd.func12.symm.trans hfn)).symm
      exact ⟨by kernel_rfl, fun j t ht => by
        rw [Tryd.params12] at ht
        have h3 : t = 47 ∨ t = 67 := by
          rcases j with _ | _ | _ | j
          · simp at ht; simp [← ht]
          · simp at ht; simp [← ht]
          · simp at ht; simp [← ht]
          · simp at ht
        rcases h3 with rfl | rfl
        · exact (show Tryd.prog.wantsStandIn 47 = false by kernel_rfl)
        · exact (show Tryd.prog.wantsStandIn 67 = false by kernel_rfl)⟩)
    (by kernel_rfl)
end Go.Proofs.YtmlkgaiphpimiaaDoor
namespace Go.Proofs.YtmlkgaiphpimiaaDoor
#print axioms hbyt_card
end Go.Proofs.YtmlkgaiphpimiaaDoor
