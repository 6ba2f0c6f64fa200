/-
  The reader (package wire): what its methods compute. A contract here hands on whatever else is known of memory.
-/
import Derived.Test.YtenpkgdnlogfiaaDoorAll1
import Derived.Test.YtenpkgdnlogfiaaDoorWire
namespace Go.Proofs.YtenpkgdnlogfiaaDoor
open Go.RowKit
attribute [local go_sem ↓] Go.wp_at_zero Go.wp_at_succ
set_option maxRecDepth 20000

/-- the reader in block q has these bytes left, and this error; X, K: whatever else is known -/
def Rd (w0 w : World) (X : List Fact) (K : (Nat → Prop) → World → Prop) (q : Nat) (left : List Nat) (err : Int) : Prop :=
  Stable K ∧ ∃ A c, left.length ≤ c ∧ c ≤ maxLen ∧ St w0 w (.box q 84 #[.slice A left.length c, .int .i64 err] :: X) fun D w => K D w ∧ Sl w D 1 (.slice A left.length c) left.length (u8s left)
section
variable {w0 w : World} {X : List Fact} {K : (Nat → Prop) → World → Prop} {q : Nat} {left : List Nat} {err : Int}
theorem Rd.errc (h : Rd w0 w X K q left err) : w.cell? ⟨q, 1, none⟩ = some (.int .i64 err) := by
  obtain ⟨_, A, c, _, _, hS⟩ := h
  exact hS.shut 0 rfl 1 rfl
end
theorem rok_any (q : Nat) (err : Int) (w : World) (hc : w.cell? ⟨q, 1, none⟩ = some (.int .i64 err)) :
    Calls Tryd.prog 48 #[.pointer (some ⟨q, 0, none⟩)] w fun e w' => e = .returned (.bool (decide (err = 0))) ∧ w = w' := by
  go_enter Tryd.func48, Tryd.ntmps48
  by_cases h : err = 0
  · subst h
    go_wp2_with (first | ((with_reducible show wpList _ _ _ (⟨_, .binOp _ _ _ _ _, _, _, _, _⟩ :: _) _ _); (first | ((with_reducible show wpList _ _ _ (⟨_, .binOp .lss _ _ _ _, _, _, _, _⟩ :: _) _ _); refine st_lss rfl _ _ _ _ rfl _ _ _ rfl rfl (fun h_ => ?_) (fun h_ => ?_)) | ((with_reducible show wpList _ _ _ (⟨_, .binOp .leq _ _ _ _, _, _, _, _⟩ :: _) _ _); refine st_leq rfl _ _ _ _ rfl _ _ _ rfl rfl (fun h_ => ?_) (fun h_ => ?_)) | ((with_reducible show wpList _ _ _ (⟨_, .binOp .gtr _ _ _ _, _, _, _, _⟩ :: _) _ _); refine st_gtr rfl _ _ _ _ rfl _ _ _ rfl rfl (fun h_ => ?_) (fun h_ => ?_)) | ((with_reducible show wpList _ _ _ (⟨_, .binOp .geq _ _ _ _, _, _, _, _⟩ :: _) _ _); refine st_geq rfl _ _ _ _ rfl _ _ _ rfl rfl (fun h_ => ?_) (fun h_ => ?_)) | ((with_reducible show wpList _ _ _ (⟨_, .binOp .eql _ _ _ _, _, _, _, _⟩ :: _) _ _); refine st_eql rfl _ _ _ _ rfl _ _ _ rfl rfl (fun h_ => ?_) (fun h_ => ?_)) | ((with_reducible show wpList _ _ _ (⟨_, .binOp .neq _ _ _ _, _, _, _, _⟩ :: _) _ _); refine st_neq rfl _ _ _ _ rfl _ _ _ rfl rfl (fun h_ => ?_) (fun h_ => ?_))) <;> go_prune))
    go_ret
    exact ⟨rfl, rfl⟩
  · have h0 : (err == 0) = false := by simpa using h
    go_wp2_with fail
    go_ret
    exact ⟨by simp [h], rfl⟩
theorem rfail_any {w0 w : World} {X : List Fact} {K : (Nat → Prop) → World → Prop} {q : Nat} {left : List Nat} {err : Int} (e : Int) (h : Rd w0 w X K q left err) :
    Calls Tryd.prog 74 #[.pointer (some ⟨q, 0, none⟩), .int .i64 e] w fun r w' => ∃ v, r = .returned v ∧ Rd w0 w' X K q left (if err = 0 then e else err) := by
  have hc := h.errc
  obtain ⟨hK, A, c, l1, l2, hS⟩ := h
  have HK := Lib.hid hK
  clear hK
  go_enter Tryd.func74, Tryd.ntmps74
  by_cases h0 : err = 0
  · subst h0
    go_wp2_with (first | ((with_reducible show wpList _ _ _ (⟨_, .store _ _ _, _, _, _, _⟩ :: _) _ _); first | (refine st_store hS 0 rfl _ _ _ rfl _ _ rfl rfl _ _ rfl (by kernel_rfl) (by kernel_rfl) (by kernel_rfl) ?_; clear hS; intro w_ hS; (try simp only [Act.put, Act.eval, List.set_cons_zero, List.set_cons_succ, List.setIfInBounds_toArray, Array.getD_eq_getD_getElem?, List.getElem?_toArray, List.getElem?_cons_succ, List.getElem?_cons_zero, Option.getD_some, Value.cells] at hS)) | (refine st_store hS 1 rfl _ _ _ rfl _ _ rfl rfl _ _ rfl (by kernel_rfl) (by kernel_rfl) (by kernel_rfl) ?_; clear hS; intro w_ hS; (try simp only [Act.put, Act.eval, List.set_cons_zero, List.set_cons_succ, List.setIfInBounds_toArray, Array.getD_eq_getD_getElem?, List.getElem?_toArray, List.getElem?_cons_succ, List.getElem?_cons_zero, Option.getD_some, Value.cells] at hS)) | (refine st_store hS 2 rfl _ _ _ rfl _ _ rfl rfl _ _ rfl (by kernel_rfl) (by kernel_rfl) (by kernel_rfl) ?_; clear hS; intro w_ hS; (try simp only [Act.put, Act.eval, List.set_cons_zero, List.set_cons_succ, List.setIfInBounds_toArray, Array.getD_eq_getD_getElem?, List.getElem?_toArray, List.getElem?_cons_succ, List.getElem?_cons_zero, Option.getD_some, Value.cells] at hS)) | (refine st_store hS 3 rfl _ _ _ rfl _ _ rfl rfl _ _ rfl (by kernel_rfl) (by kernel_rfl) (by kernel_rfl) ?_; clear hS; intro w_ hS; (try simp only [Act.put, Act.eval, List.set_cons_zero, List.set_cons_succ, List.setIfInBounds_toArray, Array.getD_eq_getD_getElem?, List.getElem?_toArray, List.getElem?_cons_succ, List.getElem?_cons_zero, Option.getD_some, Value.cells] at hS)) | (refine st_cstore hS 0 rfl _ _ _ rfl _ _ _ rfl rfl rfl (by first | (simp; done) | (simp; omega) | exact of_decide_eq_true (by kernel_rfl)) rfl (by first | rfl | assumption) (by kernel_rfl) ?_; clear hS; intro w_ hS; (try simp only [Act.put, Act.eval, List.set_cons_zero, List.set_cons_succ, List.setIfInBounds_toArray, Array.getD_eq_getD_getElem?, List.getElem?_toArray, List.getElem?_cons_succ, List.getElem?_cons_zero, Option.getD_some, Value.cells] at hS)) | (refine st_cstore hS 1 rfl _ _ _ rfl _ _ _ rfl rfl rfl (by first | (simp; done) | (simp; omega) | exact of_decide_eq_true (by kernel_rfl)) rfl (by first | rfl | assumption) (by kernel_rfl) ?_; clear hS; intro w_ hS; (try simp only [Act.put, Act.eval, List.set_cons_zero, List.set_cons_succ, List.setIfInBounds_toArray, Array.getD_eq_getD_getElem?, List.getElem?_toArray, List.getElem?_cons_succ, List.getElem?_cons_zero, Option.getD_some, Value.cells] at hS)) | (refine st_cstore hS 2 rfl _ _ _ rfl _ _ _ rfl rfl rfl (by first | (simp; done) | (simp; omega) | exact of_decide_eq_true (by kernel_rfl)) rfl (by first | rfl | assumption) (by kernel_rfl) ?_; clear hS; intro w_ hS; (try simp only [Act.put, Act.eval, List.set_cons_zero, List.set_cons_succ, List.setIfInBounds_toArray, Array.getD_eq_getD_getElem?, List.getElem?_toArray, List.getElem?_cons_succ, List.getElem?_cons_zero, Option.getD_some, Value.cells] at hS)) | (refine st_cstore hS 3 rfl _ _ _ rfl _ _ _ rfl rfl rfl (by first | (simp; done) | (simp; omega) | exact of_decide_eq_true (by kernel_rfl)) rfl (by first | rfl | assumption) (by kernel_rfl) ?_; clear hS; intro w_ hS; (try simp only [Act.put, Act.eval, List.set_cons_zero, List.set_cons_succ, List.setIfInBounds_toArray, Array.getD_eq_getD_getElem?, List.getElem?_toArray, List.getElem?_cons_succ, List.getElem?_cons_zero, Option.getD_some, Value.cells] at hS))) | (go_at_call 48; refine (rok_any q 0 _ hc).mono ?_; rintro r w' ⟨rfl, rfl⟩))
    go_end0
    exact ⟨⟨_, rfl⟩, HK.out, A, c, l1, l2, hS⟩
  · have hd : decide (err = 0) = false := by simpa using h0
    go_wp2_with (first | (go_at_call 48; refine (rok_any q err _ hc).mono ?_; rw [hd]; rintro r w' ⟨rfl, rfl⟩))
    go_end0
    exact ⟨⟨_, rfl⟩, HK.out, A, c, l1, l2, hS⟩
/-- the error that 'refuse' leaves -/
def refuseE (bad : Bool) (e err : Int) : Int := if bad = true ∧ err = 0 then e else err
theorem refuse_any {w0 w : World} {X : List Fact} {K : (Nat → Prop) → World → Prop} {q : Nat} {left : List Nat} {err : Int} (bad : Bool) (e : Int) (h : Rd w0 w X K q left err) :
    Calls Tryd.prog 49 #[.pointer (some ⟨q, 0, none⟩), .bool bad, .int .i64 e] w fun r w' => r = .returned (.bool !bad) ∧ Rd w0 w' X K q left (refuseE bad e err) := by
  have HH := Lib.hid h
  clear h
  go_enter Tryd.func49, Tryd.ntmps49
  cases bad
  · go_wp2_with fail
    go_ret
    exact ⟨rfl, HH.out⟩
  · go_wp2_with fail
    refine (rfail_any e HH.out).mono ?_
    rintro r w' ⟨v, rfl, h⟩
    go_wp2_with fail
    go_ret
    exact ⟨rfl, by simpa [refuseE] using h⟩

theorem and127u8 {b : Nat} (h : b < 256) : bits .and .u8 (b : Int) 127 = ((b % 128 : Nat) : Int) := by
  have := u8_and_nat b 127 h (by decide)
  rw [show ((127 : Nat) : Int) = 127 from rfl] at this
  rw [this]
  congr 1
  exact Nat.and_two_pow_sub_one_eq_mod b 7
/-- the number at the front: v is what has been read, k how many bytes -/
def numR : List Nat → Nat → Nat → Nat × Nat
  | [], _, _ => (0, 0)
  | b :: r, v, k => if (k = 0 ∧ b = 128) ∨ 144115188075855871 < v then (0, 0) else if b < 128 then (v * 128 + b % 128, k + 1) else numR r (v * 128 + b % 128) (k + 1)
theorem shl7 {v : Nat} (h : v ≤ 144115188075855871) : IntKind.u64.wrap ((v : Int) * 128) = ((v * 128 : Nat) : Int) := by
  rw [IntKind.wrap_u64]; omega
theorem or7 {v b : Nat} (h : v ≤ 144115188075855871) : bits .or .u64 ((v * 128 : Nat) : Int) ((b % 128 : Nat) : Int) = ((v * 128 + b % 128 : Nat) : Int) := by
  have := or64 (a := v * 128) (b := b % 128) (by unfold T64; omega) (by unfold T64; omega)
  rw [this]
  congr 1
  have e := Nat.two_pow_add_eq_or_of_lt (i := 7) (b := b % 128) (by omega) v
  rw [Nat.mul_comm v 128]; exact e.symm
theorem numR_lt (l : List Nat) : ∀ v k, v < T64 → (∀ x ∈ l, x < 256) → (numR l v k).1 < T64 ∧ ((numR l v k).2 = 0 ∨ (k < (numR l v k).2 ∧ (numR l v k).2 ≤ k + l.length)) := by
  induction l with
  | nil => intro v k _ _; simp [numR, T64]
  | cons b r ih =>
    intro v k hv hb
    unfold numR
    split
    · simp [T64]
    · rename_i h1
      have h2 : v ≤ 144115188075855871 := by omega
      split
      · simp; unfold T64; omega
      · have h3 := ih (v * 128 + b % 128) (k + 1) (by unfold T64; omega) (fun x hx => hb x (by simp [hx]))
        simp only [List.length_cons]
        omega
theorem rnumber_any {w0 w : World} {X : List Fact} {K : (Nat → Prop) → World → Prop} {q : Nat} {left : List Nat} {err : Int} (hl : left.length ≤ 1000000000000) (hb : Bytes left) (h : Rd w0 w X K q left err) :
    Calls Tryd.prog 51 #[.pointer (some ⟨q, 0, none⟩)] w fun r w' => r = .returned (.tuple #[.int .u64 (numR left 0 0).1, .int .i64 (numR left 0 0).2]) ∧ w = w' := by
  obtain ⟨hK, A, c, l1, l2, hS⟩ := h
  have HK := Lib.hid hK
  clear hK
  have ks : ∀ D w, (K D w ∧ Sl w D 1 (.slice A left.length c) left.length (u8s left)) → Sl w D 1 (.slice A left.length c) left.length (u8s left) := fun _ _ h => h.2
  have HB := Lib.hid hb
  have hR : Hid (numR left 0 0 = numR (left.drop 0) 0 0) := Lib.hid rfl
  generalize numR left 0 0 = RES at *
  go_enter Tryd.func51, Tryd.ntmps51
  go_wp2_with (first | ((with_reducible show wpList _ _ _ (⟨_, .load _ _, _, _, _, _⟩ :: _) _ _); first | (refine st_cell hS 0 rfl _ _ rfl _ _ rfl _ _ rfl (by decide +kernel) _ (by first | assumption | rfl) ?_) | (refine st_cell hS 1 rfl _ _ rfl _ _ rfl _ _ rfl (by decide +kernel) _ (by first | assumption | rfl) ?_) | (refine st_cell hS 2 rfl _ _ rfl _ _ rfl _ _ rfl (by decide +kernel) _ (by first | assumption | rfl) ?_)) | ((with_reducible show wpList _ _ _ (⟨_, .binOp _ _ _ _ _, _, _, _, _⟩ :: _) _ _); (first | ((with_reducible show wpList _ _ _ (⟨_, .binOp .lss _ _ _ _, _, _, _, _⟩ :: _) _ _); refine st_lss rfl _ _ _ _ rfl _ _ _ rfl rfl (fun h_ => ?_) (fun h_ => ?_)) | ((with_reducible show wpList _ _ _ (⟨_, .binOp .leq _ _ _ _, _, _, _, _⟩ :: _) _ _); refine st_leq rfl _ _ _ _ rfl _ _ _ rfl rfl (fun h_ => ?_) (fun h_ => ?_)) | ((with_reducible show wpList _ _ _ (⟨_, .binOp .gtr _ _ _ _, _, _, _, _⟩ :: _) _ _); refine st_gtr rfl _ _ _ _ rfl _ _ _ rfl rfl (fun h_ => ?_) (fun h_ => ?_)) | ((with_reducible show wpList _ _ _ (⟨_, .binOp .geq _ _ _ _, _, _, _, _⟩ :: _) _ _); refine st_geq rfl _ _ _ _ rfl _ _ _ rfl rfl (fun h_ => ?_) (fun h_ => ?_)) | ((with_reducible show wpList _ _ _ (⟨_, .binOp .eql _ _ _ _, _, _, _, _⟩ :: _) _ _); refine st_eql rfl _ _ _ _ rfl _ _ _ rfl rfl (fun h_ => ?_) (fun h_ => ?_)) | ((with_reducible show wpList _ _ _ (⟨_, .binOp .neq _ _ _ _, _, _, _, _⟩ :: _) _ _); refine st_neq rfl _ _ _ _ rfl _ _ _ rfl rfl (fun h_ => ?_) (fun h_ => ?_))) <;> go_prune))
  go_loopw [12, 4] (fun i v wr => ∃ k n : Nat, k ≤ left.length ∧ i = .int .i64 k ∧ v = .int .u64 n ∧ wr = w ∧ Hid (RES = numR (left.drop k) n k)) (fun i _ _ => left.length - (intOf i).toNat)
  case atStart => exact ⟨0, 0, by omega, rfl, rfl, rfl, hR⟩
  case round =>
    obtain ⟨k, n, hk, rfl, rfl, rfl, hR⟩ := hrel
    by_cases hlt : k < left.length
    · have f1 := u8s_at left k hlt
      have hD := hR.out
      rw [List.drop_eq_getElem_cons hlt] at hD
      have hbb := HB.out _ (List.getElem_mem hlt)
      have e : left[k] = left.getD k 0 := by simp [List.getD_eq_getElem?_getD, List.getElem?_eq_getElem hlt]
      rw [e] at hD hbb
      generalize left.getD k 0 = b at *
      have HD := Lib.hid hD
      have e1 := and127u8 hbb
      clear hD e
      by_cases hv : n ≤ 144115188075855871
      · have e2 := shl7 hv
        have e3 : bits .or .u64 ((n : Int) * 128) ((b : Int) % 128) = ((n * 128 + b % 128 : Nat) : Int) := by
          rw [show ((n : Int) * 128) = ((n * 128 : Nat) : Int) by simp, show ((b : Int) % 128) = ((b % 128 : Nat) : Int) by simp]; exact or7 hv
        obtain ⟨m, hm⟩ : ∃ m, m = n * 128 + b % 128 := ⟨_, rfl⟩
        rw [← hm] at e3
        have HM := Lib.hid hm
        clear hm
        go_wp2_with (first | ((with_reducible show wpList _ _ _ (⟨_, .load _ _, _, _, _, _⟩ :: _) _ _); first | (refine st_cell hS 0 rfl _ _ rfl _ _ rfl _ _ rfl (by decide +kernel) _ (by first | assumption | rfl) ?_) | (refine st_cell hS 1 rfl _ _ rfl _ _ rfl _ _ rfl (by decide +kernel) _ (by first | assumption | rfl) ?_) | (refine st_cell hS 2 rfl _ _ rfl _ _ rfl _ _ rfl (by decide +kernel) _ (by first | assumption | rfl) ?_)) | ((with_reducible show wpList _ _ _ (⟨_, .binOp _ _ _ _ _, _, _, _, _⟩ :: _) _ _); (first | ((with_reducible show wpList _ _ _ (⟨_, .binOp .lss _ _ _ _, _, _, _, _⟩ :: _) _ _); refine st_lss rfl _ _ _ _ rfl _ _ _ rfl rfl (fun h_ => ?_) (fun h_ => ?_)) | ((with_reducible show wpList _ _ _ (⟨_, .binOp .leq _ _ _ _, _, _, _, _⟩ :: _) _ _); refine st_leq rfl _ _ _ _ rfl _ _ _ rfl rfl (fun h_ => ?_) (fun h_ => ?_)) | ((with_reducible show wpList _ _ _ (⟨_, .binOp .gtr _ _ _ _, _, _, _, _⟩ :: _) _ _); refine st_gtr rfl _ _ _ _ rfl _ _ _ rfl rfl (fun h_ => ?_) (fun h_ => ?_)) | ((with_reducible show wpList _ _ _ (⟨_, .binOp .geq _ _ _ _, _, _, _, _⟩ :: _) _ _); refine st_geq rfl _ _ _ _ rfl _ _ _ rfl rfl (fun h_ => ?_) (fun h_ => ?_)) | ((with_reducible show wpList _ _ _ (⟨_, .binOp .eql _ _ _ _, _, _, _, _⟩ :: _) _ _); refine st_eql rfl _ _ _ _ rfl _ _ _ rfl rfl (fun h_ => ?_) (fun h_ => ?_)) | ((with_reducible show wpList _ _ _ (⟨_, .binOp .neq _ _ _ _, _, _, _, _⟩ :: _) _ _); refine st_neq rfl _ _ _ _ rfl _ _ _ rfl rfl (fun h_ => ?_) (fun h_ => ?_))) <;> go_prune) | ((with_reducible show wpList _ _ _ (⟨_, .indexAddr _ _ _, _, _, _, _⟩ :: _) _ _); refine st_iaddr1 hS rfl _ _ _ rfl _ rfl rfl (by assumption) Tryd.underlying47 (by kernel_rfl) (by first | assumption | omega) _ (by assumption) ?_; intro p_ hc_))
        all_goals first
          | (have hE : RES = (0, 0) := by rw [HD.out, numR, if_pos (by omega)]
             subst hE; go_ret2; exact ⟨rfl, rfl⟩)
          | (have hE : RES = (m, k + 1) := by rw [HD.out, numR, if_neg (by omega), if_pos (by omega), HM.out]
             subst hE; go_ret2; refine ⟨?_, rfl⟩; (first | (simp; done) | (simp; omega)))
          | exact ⟨⟨k + 1, m, hlt, by go_num, rfl, trivial, Lib.hid (by rw [HD.out, numR, if_neg (by omega), if_neg (by omega), HM.out])⟩, by simp [intOf]; omega⟩
          | exact ⟨⟨k + 1, m, hlt, by simp; omega, rfl, trivial, Lib.hid (by rw [HD.out, numR, if_neg (by omega), if_neg (by omega), HM.out])⟩, by simp [intOf]; omega⟩
      · go_wp2_with (first | ((with_reducible show wpList _ _ _ (⟨_, .load _ _, _, _, _, _⟩ :: _) _ _); first | (refine st_cell hS 0 rfl _ _ rfl _ _ rfl _ _ rfl (by decide +kernel) _ (by first | assumption | rfl) ?_) | (refine st_cell hS 1 rfl _ _ rfl _ _ rfl _ _ rfl (by decide +kernel) _ (by first | assumption | rfl) ?_) | (refine st_cell hS 2 rfl _ _ rfl _ _ rfl _ _ rfl (by decide +kernel) _ (by first | assumption | rfl) ?_)) | ((with_reducible show wpList _ _ _ (⟨_, .binOp _ _ _ _ _, _, _, _, _⟩ :: _) _ _); (first | ((with_reducible show wpList _ _ _ (⟨_, .binOp .lss _ _ _ _, _, _, _, _⟩ :: _) _ _); refine st_lss rfl _ _ _ _ rfl _ _ _ rfl rfl (fun h_ => ?_) (fun h_ => ?_)) | ((with_reducible show wpList _ _ _ (⟨_, .binOp .leq _ _ _ _, _, _, _, _⟩ :: _) _ _); refine st_leq rfl _ _ _ _ rfl _ _ _ rfl rfl (fun h_ => ?_) (fun h_ => ?_)) | ((with_reducible show wpList _ _ _ (⟨_, .binOp .gtr _ _ _ _, _, _, _, _⟩ :: _) _ _); refine st_gtr rfl _ _ _ _ rfl _ _ _ rfl rfl (fun h_ => ?_) (fun h_ => ?_)) | ((with_reducible show wpList _ _ _ (⟨_, .binOp .geq _ _ _ _, _, _, _, _⟩ :: _) _ _); refine st_geq rfl _ _ _ _ rfl _ _ _ rfl rfl (fun h_ => ?_) (fun h_ => ?_)) | ((with_reducible show wpList _ _ _ (⟨_, .binOp .eql _ _ _ _, _, _, _, _⟩ :: _) _ _); refine st_eql rfl _ _ _ _ rfl _ _ _ rfl rfl (fun h_ => ?_) (fun h_ => ?_)) | ((with_reducible show wpList _ _ _ (⟨_, .binOp .neq _ _ _ _, _, _, _, _⟩ :: _) _ _); refine st_neq rfl _ _ _ _ rfl _ _ _ rfl rfl (fun h_ => ?_) (fun h_ => ?_))) <;> go_prune) | ((with_reducible show wpList _ _ _ (⟨_, .indexAddr _ _ _, _, _, _, _⟩ :: _) _ _); refine st_iaddr1 hS rfl _ _ _ rfl _ rfl rfl (by assumption) Tryd.underlying47 (by kernel_rfl) (by first | assumption | omega) _ (by assumption) ?_; intro p_ hc_))
        all_goals
          have hE : RES = (0, 0) := by rw [HD.out, numR, if_pos (by omega)]
          subst hE; go_ret2; exact ⟨rfl, rfl⟩
    · obtain rfl : k = left.length := by omega
      have hE : RES = (0, 0) := by rw [hR.out]; simp [numR]
      subst hE
      go_wp2_with (first | ((with_reducible show wpList _ _ _ (⟨_, .load _ _, _, _, _, _⟩ :: _) _ _); first | (refine st_cell hS 0 rfl _ _ rfl _ _ rfl _ _ rfl (by decide +kernel) _ (by first | assumption | rfl) ?_) | (refine st_cell hS 1 rfl _ _ rfl _ _ rfl _ _ rfl (by decide +kernel) _ (by first | assumption | rfl) ?_) | (refine st_cell hS 2 rfl _ _ rfl _ _ rfl _ _ rfl (by decide +kernel) _ (by first | assumption | rfl) ?_)) | ((with_reducible show wpList _ _ _ (⟨_, .binOp _ _ _ _ _, _, _, _, _⟩ :: _) _ _); (first | ((with_reducible show wpList _ _ _ (⟨_, .binOp .lss _ _ _ _, _, _, _, _⟩ :: _) _ _); refine st_lss rfl _ _ _ _ rfl _ _ _ rfl rfl (fun h_ => ?_) (fun h_ => ?_)) | ((with_reducible show wpList _ _ _ (⟨_, .binOp .leq _ _ _ _, _, _, _, _⟩ :: _) _ _); refine st_leq rfl _ _ _ _ rfl _ _ _ rfl rfl (fun h_ => ?_) (fun h_ => ?_)) | ((with_reducible show wpList _ _ _ (⟨_, .binOp .gtr _ _ _ _, _, _, _, _⟩ :: _) _ _); refine st_gtr rfl _ _ _ _ rfl _ _ _ rfl rfl (fun h_ => ?_) (fun h_ => ?_)) | ((with_reducible show wpList _ _ _ (⟨_, .binOp .geq _ _ _ _, _, _, _, _⟩ :: _) _ _); refine st_geq rfl _ _ _ _ rfl _ _ _ rfl rfl (fun h_ => ?_) (fun h_ => ?_)) | ((with_reducible show wpList _ _ _ (⟨_, .binOp .eql _ _ _ _, _, _, _, _⟩ :: _) _ _); refine st_eql rfl _ _ _ _ rfl _ _ _ rfl rfl (fun h_ => ?_) (fun h_ => ?_)) | ((with_reducible show wpList _ _ _ (⟨_, .binOp .neq _ _ _ _, _, _, _, _⟩ :: _) _ _); refine st_neq rfl _ _ _ _ rfl _ _ _ rfl rfl (fun h_ => ?_) (fun h_ => ?_))) <;> go_prune))
      go_ret2
      exact ⟨rfl, rfl⟩

theorem sl_take {w : World} {D : Nat → Prop} {A : Option Addr} {m c n : Nat} {xs : List Value} (h : Sl w D 1 (.slice A m c) m xs) (hn : n ≤ m) : Sl w D 1 (.slice A n c) n (xs.take n) := by
  obtain ⟨h1, A', c', e, h2, h3, h4⟩ := h
  injection e with e1 _ e2
  subst e1 e2
  refine ⟨by rw [List.length_take, h1]; omega, A, c, rfl, by omega, h3, fun h0 => ?_⟩
  obtain ⟨b, o, h5, h6, h7, h8⟩ := h4 (by omega)
  refine ⟨b, o, h5, h6, h7, fun j x hj => h8 j x ?_⟩
  rw [List.getElem?_take] at hj
  split at hj
  · exact hj
  · cases hj
theorem sl_drop {w : World} {D : Nat → Prop} {A : Option Addr} {m c n : Nat} {xs : List Value} (h : Sl w D 1 (.slice A m c) m xs) (hn : n ≤ m) (hc : m ≤ c) : Sl w D 1 (.slice (if c = n then A else Option.map (fun x => x.add n) A) (m - n) (c - n)) (m - n) (xs.drop n) := by
  obtain ⟨h1, A', c', e, h2, h3, h4⟩ := h
  injection e with e1 _ e2
  subst e1 e2
  refine ⟨by rw [List.length_drop, h1]; omega, _, c - n, rfl, by omega, by omega, fun h0 => ?_⟩
  obtain ⟨b, o, rfl, h6, h7, h8⟩ := h4 (by omega)
  rw [if_neg (by omega)]
  refine ⟨b, o + n, by simp [Addr.add_lit], h6, h7, fun j x hj => ?_⟩
  rw [List.getElem?_drop] at hj
  have := h8 _ x hj
  rw [← Nat.add_assoc] at this; exact this
theorem clone_n_any (p : Value) (n : Nat) (ps : List Nat) (w : World) (D : Nat → Prop) (hp : Sl w D 1 p n (u8s ps)) (hlen : n ≤ 1000000000000) :
    Calls Tryd.prog 41 #[p] w (Ret (fun x w' => Sl w' (w.heap.size ≤ ·) 1 x n (u8s ps)) w) := by
  have e : ps.length = n := by have := hp.1; simpa [u8s] using this
  subst e
  exact clone_bytes_any p ps w D hp hlen
theorem u8s_take (l : List Nat) (n : Nat) : u8s (l.take n) = (u8s l).take n := by simp [u8s, List.map_take]
theorem u8s_drop (l : List Nat) (n : Nat) : u8s (l.drop n) = (u8s l).drop n := by simp [u8s, List.map_drop]
theorem rtake_any {w0 w : World} {X : List Fact} {K : (Nat → Prop) → World → Prop} {q : Nat} {left : List Nat} {err : Int} (n : Nat) (hn : n ≤ left.length) (hl : left.length ≤ 1000000000000) (h : Rd w0 w X K q left err) :
    Calls Tryd.prog 50 #[.pointer (some ⟨q, 0, none⟩), .int .i64 n] w fun r w' => ∃ v, r = .returned v ∧ Rd w0 w' X (fun D w => K D w ∧ Sl w D 1 v n (u8s (left.take n))) q (left.drop n) err := by
  obtain ⟨hK, A, c, l1, l2, hS⟩ := h
  have HK := Lib.hid hK
  clear hK
  go_enter Tryd.func50, Tryd.ntmps50
  go_wp2_with (first | ((with_reducible show wpList _ _ _ (⟨_, .load _ _, _, _, _, _⟩ :: _) _ _); first | (refine st_cell hS 0 rfl _ _ rfl _ _ rfl _ _ rfl (by decide +kernel) _ (by first | assumption | rfl) ?_) | (refine st_cell hS 1 rfl _ _ rfl _ _ rfl _ _ rfl (by decide +kernel) _ (by first | assumption | rfl) ?_) | (refine st_cell hS 2 rfl _ _ rfl _ _ rfl _ _ rfl (by decide +kernel) _ (by first | assumption | rfl) ?_)))
  have hs : ∀ D w, (K D w ∧ Sl w D 1 (.slice A left.length c) left.length (u8s left)) → Sl w D 1 (.slice A n c) n (u8s (left.take n)) := fun D w h => by
    rw [u8s_take]; exact sl_take h.2 hn
  refine (clone_n_any _ n (left.take n) _ _ (hs _ _ hS.ro) (by omega)).mono ?_
  rintro r w2 ⟨v, rfl, h2, hb2⟩
  replace hS := hS.ret hb2 stable_sl h2
  go_wp2_with (first | ((with_reducible show wpList _ _ _ (⟨_, .load _ _, _, _, _, _⟩ :: _) _ _); first | (refine st_cell hS 0 rfl _ _ rfl _ _ rfl _ _ rfl (by decide +kernel) _ (by first | assumption | rfl) ?_) | (refine st_cell hS 1 rfl _ _ rfl _ _ rfl _ _ rfl (by decide +kernel) _ (by first | assumption | rfl) ?_) | (refine st_cell hS 2 rfl _ _ rfl _ _ rfl _ _ rfl (by decide +kernel) _ (by first | assumption | rfl) ?_)) | ((with_reducible show wpList _ _ _ (⟨_, .store _ _ _, _, _, _, _⟩ :: _) _ _); first | (refine st_store hS 0 rfl _ _ _ rfl _ _ rfl rfl _ _ rfl (by kernel_rfl) (by kernel_rfl) (by kernel_rfl) ?_; clear hS; intro w_ hS; (try simp only [Act.put, Act.eval, List.set_cons_zero, List.set_cons_succ, List.setIfInBounds_toArray, Array.getD_eq_getD_getElem?, List.getElem?_toArray, List.getElem?_cons_succ, List.getElem?_cons_zero, Option.getD_some, Value.cells] at hS)) | (refine st_store hS 1 rfl _ _ _ rfl _ _ rfl rfl _ _ rfl (by kernel_rfl) (by kernel_rfl) (by kernel_rfl) ?_; clear hS; intro w_ hS; (try simp only [Act.put, Act.eval, List.set_cons_zero, List.set_cons_succ, List.setIfInBounds_toArray, Array.getD_eq_getD_getElem?, List.getElem?_toArray, List.getElem?_cons_succ, List.getElem?_cons_zero, Option.getD_some, Value.cells] at hS)) | (refine st_store hS 2 rfl _ _ _ rfl _ _ rfl rfl _ _ rfl (by kernel_rfl) (by kernel_rfl) (by kernel_rfl) ?_; clear hS; intro w_ hS; (try simp only [Act.put, Act.eval, List.set_cons_zero, List.set_cons_succ, List.setIfInBounds_toArray, Array.getD_eq_getD_getElem?, List.getElem?_toArray, List.getElem?_cons_succ, List.getElem?_cons_zero, Option.getD_some, Value.cells] at hS)) | (refine st_store hS 3 rfl _ _ _ rfl _ _ rfl rfl _ _ rfl (by kernel_rfl) (by kernel_rfl) (by kernel_rfl) ?_; clear hS; intro w_ hS; (try simp only [Act.put, Act.eval, List.set_cons_zero, List.set_cons_succ, List.setIfInBounds_toArray, Array.getD_eq_getD_getElem?, List.getElem?_toArray, List.getElem?_cons_succ, List.getElem?_cons_zero, Option.getD_some, Value.cells] at hS)) | (refine st_cstore hS 0 rfl _ _ _ rfl _ _ _ rfl rfl rfl (by first | (simp; done) | (simp; omega) | exact of_decide_eq_true (by kernel_rfl)) rfl (by first | rfl | assumption) (by kernel_rfl) ?_; clear hS; intro w_ hS; (try simp only [Act.put, Act.eval, List.set_cons_zero, List.set_cons_succ, List.setIfInBounds_toArray, Array.getD_eq_getD_getElem?, List.getElem?_toArray, List.getElem?_cons_succ, List.getElem?_cons_zero, Option.getD_some, Value.cells] at hS)) | (refine st_cstore hS 1 rfl _ _ _ rfl _ _ _ rfl rfl rfl (by first | (simp; done) | (simp; omega) | exact of_decide_eq_true (by kernel_rfl)) rfl (by first | rfl | assumption) (by kernel_rfl) ?_; clear hS; intro w_ hS; (try simp only [Act.put, Act.eval, List.set_cons_zero, List.set_cons_succ, List.setIfInBounds_toArray, Array.getD_eq_getD_getElem?, List.getElem?_toArray, List.getElem?_cons_succ, List.getElem?_cons_zero, Option.getD_some, Value.cells] at hS)) | (refine st_cstore hS 2 rfl _ _ _ rfl _ _ _ rfl rfl rfl (by first | (simp; done) | (simp; omega) | exact of_decide_eq_true (by kernel_rfl)) rfl (by first | rfl | assumption) (by kernel_rfl) ?_; clear hS; intro w_ hS; (try simp only [Act.put, Act.eval, List.set_cons_zero, List.set_cons_succ, List.setIfInBounds_toArray, Array.getD_eq_getD_getElem?, List.getElem?_toArray, List.getElem?_cons_succ, List.getElem?_cons_zero, Option.getD_some, Value.cells] at hS)) | (refine st_cstore hS 3 rfl _ _ _ rfl _ _ _ rfl rfl rfl (by first | (simp; done) | (simp; omega) | exact of_decide_eq_true (by kernel_rfl)) rfl (by first | rfl | assumption) (by kernel_rfl) ?_; clear hS; intro w_ hS; (try simp only [Act.put, Act.eval, List.set_cons_zero, List.set_cons_succ, List.setIfInBounds_toArray, Array.getD_eq_getD_getElem?, List.getElem?_toArray, List.getElem?_cons_succ, List.getElem?_cons_zero, Option.getD_some, Value.cells] at hS))))
  all_goals
    go_ret
    exact ⟨_, rfl, HK.out.and stable_sl, _, c - n, by rw [List.length_drop]; omega, by omega, by
      rw [show (left.drop n).length = left.length - n from List.length_drop ..]
      exact hS.mono ((HK.out.and stable_sl).and stable_sl) fun D w h => ⟨⟨h.1.1, h.2⟩, by rw [u8s_drop]; exact sl_drop h.1.2 hn l1⟩⟩
end Go.Proofs.YtenpkgdnlogfiaaDoor
