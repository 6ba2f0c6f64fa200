/-
  The reader (package wire): what its methods compute. A contract here hands on whatever else is known of memory.
  The reader's methods: numbers, flags, counts, raw bytes.
  The reader's methods: byte strings, its error, its end, a new one.
-/
import Derived.Test.YtenpkgdnlogfiaaGreatDoorSt3
import Derived.Test.YtenpkgdnlogfiaaGreatDoorAll1
import Derived.Test.YtenpkgdnlogfiaaGreatDoorWire
namespace Go.Proofs.YtenpkgdnlogfiaaGreatDoor
open Go.RowKit
attribute [local go_sem ↓] Go.wp_at_zero Go.wp_at_succ
set_option maxRecDepth 20000

/-- the reader in block q has these bytes left, and this error; X, K: whatever else is known -/
def Rd (w0 w : World) (X : List Fact) (K : (Nat → Prop) → World → Prop) (q : Nat) (left : List Nat) (err : Int) : Prop :=
  Stable K ∧ ∃ A c, left.length ≤ c ∧ c ≤ maxLen ∧ St w0 w (.box q 103 #[.slice A left.length c, .int .i64 err] :: X) fun D w => K D w ∧ Sl w D 1 (.slice A left.length c) left.length (u8s left)
section
variable {w0 w : World} {X : List Fact} {K : (Nat → Prop) → World → Prop} {q : Nat} {left : List Nat} {err : Int}
theorem Rd.errc (h : Rd w0 w X K q left err) : w.cell? ⟨q, 1, none⟩ = some (.int .i64 err) := by
  obtain ⟨_, A, c, _, _, hS⟩ := h
  exact hS.shut 0 rfl 1 rfl
end
theorem rok_any (q : Nat) (err : Int) (w : World) (hc : w.cell? ⟨q, 1, none⟩ = some (.int .i64 err)) :
    Calls Tryz.prog 61 #[.pointer (some ⟨q, 0, none⟩)] w fun e w' => e = .returned (.bool (decide (err = 0))) ∧ w = w' := by
  go_enter Tryz.func61, Tryz.ntmps61
  by_cases h : err = 0
  · subst h
    go_wp2_with (first | ((with_reducible show wpList _ _ _ (⟨_, .binOp _ _ _ _ _, _, _, _, _⟩ :: _) _ _); (first | ((with_reducible show wpList _ _ _ (⟨_, .binOp .lss _ _ _ _, _, _, _, _⟩ :: _) _ _); refine st_lss rfl _ _ _ _ rfl _ _ _ rfl rfl (fun h_ => ?_) (fun h_ => ?_)) | ((with_reducible show wpList _ _ _ (⟨_, .binOp .leq _ _ _ _, _, _, _, _⟩ :: _) _ _); refine st_leq rfl _ _ _ _ rfl _ _ _ rfl rfl (fun h_ => ?_) (fun h_ => ?_)) | ((with_reducible show wpList _ _ _ (⟨_, .binOp .gtr _ _ _ _, _, _, _, _⟩ :: _) _ _); refine st_gtr rfl _ _ _ _ rfl _ _ _ rfl rfl (fun h_ => ?_) (fun h_ => ?_)) | ((with_reducible show wpList _ _ _ (⟨_, .binOp .geq _ _ _ _, _, _, _, _⟩ :: _) _ _); refine st_geq rfl _ _ _ _ rfl _ _ _ rfl rfl (fun h_ => ?_) (fun h_ => ?_)) | ((with_reducible show wpList _ _ _ (⟨_, .binOp .eql _ _ _ _, _, _, _, _⟩ :: _) _ _); refine st_eql rfl _ _ _ _ rfl _ _ _ rfl rfl (fun h_ => ?_) (fun h_ => ?_)) | ((with_reducible show wpList _ _ _ (⟨_, .binOp .neq _ _ _ _, _, _, _, _⟩ :: _) _ _); refine st_neq rfl _ _ _ _ rfl _ _ _ rfl rfl (fun h_ => ?_) (fun h_ => ?_))) <;> go_prune))
    go_ret
    exact ⟨rfl, rfl⟩
  · have h0 : (err == 0) = false := by simpa using h
    go_wp2_with fail
    go_ret
    exact ⟨by simp [h], rfl⟩
theorem rfail_any {w0 w : World} {X : List Fact} {K : (Nat → Prop) → World → Prop} {q : Nat} {left : List Nat} {err : Int} (e : Int) (h : Rd w0 w X K q left err) :
    Calls Tryz.prog 89 #[.pointer (some ⟨q, 0, none⟩), .int .i64 e] w fun r w' => ∃ v, r = .returned v ∧ Rd w0 w' X K q left (if err = 0 then e else err) := by
  have hc := h.errc
  obtain ⟨hK, A, c, l1, l2, hS⟩ := h
  have HK := Lib.hid hK
  clear hK
  go_enter Tryz.func89, Tryz.ntmps89
  by_cases h0 : err = 0
  · subst h0
    go_wp2_with (first | ((with_reducible show wpList _ _ _ (⟨_, .store _ _ _, _, _, _, _⟩ :: _) _ _); first | (refine st_store hS 0 rfl _ _ _ rfl _ _ rfl rfl _ _ rfl (by kernel_rfl) (by kernel_rfl) (by kernel_rfl) ?_; clear hS; intro w_ hS; (try simp only [Act.put, Act.eval, List.set_cons_zero, List.set_cons_succ, List.setIfInBounds_toArray, Array.getD_eq_getD_getElem?, List.getElem?_toArray, List.getElem?_cons_succ, List.getElem?_cons_zero, Option.getD_some, Value.cells] at hS)) | (refine st_store hS 1 rfl _ _ _ rfl _ _ rfl rfl _ _ rfl (by kernel_rfl) (by kernel_rfl) (by kernel_rfl) ?_; clear hS; intro w_ hS; (try simp only [Act.put, Act.eval, List.set_cons_zero, List.set_cons_succ, List.setIfInBounds_toArray, Array.getD_eq_getD_getElem?, List.getElem?_toArray, List.getElem?_cons_succ, List.getElem?_cons_zero, Option.getD_some, Value.cells] at hS)) | (refine st_store hS 2 rfl _ _ _ rfl _ _ rfl rfl _ _ rfl (by kernel_rfl) (by kernel_rfl) (by kernel_rfl) ?_; clear hS; intro w_ hS; (try simp only [Act.put, Act.eval, List.set_cons_zero, List.set_cons_succ, List.setIfInBounds_toArray, Array.getD_eq_getD_getElem?, List.getElem?_toArray, List.getElem?_cons_succ, List.getElem?_cons_zero, Option.getD_some, Value.cells] at hS)) | (refine st_store hS 3 rfl _ _ _ rfl _ _ rfl rfl _ _ rfl (by kernel_rfl) (by kernel_rfl) (by kernel_rfl) ?_; clear hS; intro w_ hS; (try simp only [Act.put, Act.eval, List.set_cons_zero, List.set_cons_succ, List.setIfInBounds_toArray, Array.getD_eq_getD_getElem?, List.getElem?_toArray, List.getElem?_cons_succ, List.getElem?_cons_zero, Option.getD_some, Value.cells] at hS)) | (refine st_cstore hS 0 rfl _ _ _ rfl _ _ _ rfl rfl rfl (by first | (simp; done) | (simp; omega) | exact of_decide_eq_true (by kernel_rfl)) rfl (by first | rfl | assumption) (by kernel_rfl) ?_; clear hS; intro w_ hS; (try simp only [Act.put, Act.eval, List.set_cons_zero, List.set_cons_succ, List.setIfInBounds_toArray, Array.getD_eq_getD_getElem?, List.getElem?_toArray, List.getElem?_cons_succ, List.getElem?_cons_zero, Option.getD_some, Value.cells] at hS)) | (refine st_cstore hS 1 rfl _ _ _ rfl _ _ _ rfl rfl rfl (by first | (simp; done) | (simp; omega) | exact of_decide_eq_true (by kernel_rfl)) rfl (by first | rfl | assumption) (by kernel_rfl) ?_; clear hS; intro w_ hS; (try simp only [Act.put, Act.eval, List.set_cons_zero, List.set_cons_succ, List.setIfInBounds_toArray, Array.getD_eq_getD_getElem?, List.getElem?_toArray, List.getElem?_cons_succ, List.getElem?_cons_zero, Option.getD_some, Value.cells] at hS)) | (refine st_cstore hS 2 rfl _ _ _ rfl _ _ _ rfl rfl rfl (by first | (simp; done) | (simp; omega) | exact of_decide_eq_true (by kernel_rfl)) rfl (by first | rfl | assumption) (by kernel_rfl) ?_; clear hS; intro w_ hS; (try simp only [Act.put, Act.eval, List.set_cons_zero, List.set_cons_succ, List.setIfInBounds_toArray, Array.getD_eq_getD_getElem?, List.getElem?_toArray, List.getElem?_cons_succ, List.getElem?_cons_zero, Option.getD_some, Value.cells] at hS)) | (refine st_cstore hS 3 rfl _ _ _ rfl _ _ _ rfl rfl rfl (by first | (simp; done) | (simp; omega) | exact of_decide_eq_true (by kernel_rfl)) rfl (by first | rfl | assumption) (by kernel_rfl) ?_; clear hS; intro w_ hS; (try simp only [Act.put, Act.eval, List.set_cons_zero, List.set_cons_succ, List.setIfInBounds_toArray, Array.getD_eq_getD_getElem?, List.getElem?_toArray, List.getElem?_cons_succ, List.getElem?_cons_zero, Option.getD_some, Value.cells] at hS))) | (go_at_call 61; refine (rok_any q 0 _ hc).mono ?_; rintro r w' ⟨rfl, rfl⟩))
    go_end0
    exact ⟨⟨_, rfl⟩, HK.out, A, c, l1, l2, hS⟩
  · have hd : decide (err = 0) = false := by simpa using h0
    go_wp2_with (first | (go_at_call 61; refine (rok_any q err _ hc).mono ?_; rw [hd]; rintro r w' ⟨rfl, rfl⟩))
    go_end0
    exact ⟨⟨_, rfl⟩, HK.out, A, c, l1, l2, hS⟩
/-- the error that 'refuse' leaves -/
def refuseE (bad : Bool) (e err : Int) : Int := if bad = true ∧ err = 0 then e else err
theorem refuse_any {w0 w : World} {X : List Fact} {K : (Nat → Prop) → World → Prop} {q : Nat} {left : List Nat} {err : Int} (bad : Bool) (e : Int) (h : Rd w0 w X K q left err) :
    Calls Tryz.prog 62 #[.pointer (some ⟨q, 0, none⟩), .bool bad, .int .i64 e] w fun r w' => r = .returned (.bool !bad) ∧ Rd w0 w' X K q left (refuseE bad e err) := by
  have HH := Lib.hid h
  clear h
  go_enter Tryz.func62, Tryz.ntmps62
  cases bad
  · go_wp2_with fail
    go_ret
    exact ⟨rfl, HH.out⟩
  · go_wp2_with fail
    refine (rfail_any e HH.out).mono ?_
    rintro r w' ⟨v, rfl, h⟩
    go_wp2_with fail
    go_ret
    exact ⟨rfl, by simpa [refuseE] using h⟩

theorem and127u8 {b : Nat} (h : b < 256) : bits .and .u8 (b : Int) 127 = ((b % 128 : Nat) : Int) := by
  have := u8_and_nat b 127 h (by decide)
  rw [show ((127 : Nat) : Int) = 127 from rfl] at this
  rw [this]
  congr 1
  exact Nat.and_two_pow_sub_one_eq_mod b 7
/-- the number at the front: v is what has been read, k how many bytes -/
def numR : List Nat → Nat → Nat → Nat × Nat
  | [], _, _ => (0, 0)
  | b :: r, v, k => if (k = 0 ∧ b = 128) ∨ 144115188075855871 < v then (0, 0) else if b < 128 then (v * 128 + b % 128, k + 1) else numR r (v * 128 + b % 128) (k + 1)
theorem shl7 {v : Nat} (h : v ≤ 144115188075855871) : IntKind.u64.wrap ((v : Int) * 128) = ((v * 128 : Nat) : Int) := by
  rw [IntKind.wrap_u64]; omega
theorem or7 {v b : Nat} (h : v ≤ 144115188075855871) : bits .or .u64 ((v * 128 : Nat) : Int) ((b % 128 : Nat) : Int) = ((v * 128 + b % 128 : Nat) : Int) := by
  have := or64 (a := v * 128) (b := b % 128) (by unfold T64; omega) (by unfold T64; omega)
  rw [this]
  congr 1
  have e := Nat.two_pow_add_eq_or_of_lt (i := 7) (b := b % 128) (by omega) v
  rw [Nat.mul_comm v 128]; exact e.symm
theorem numR_lt (l : List Nat) : ∀ v k, v < T64 → (∀ x ∈ l, x < 256) → (numR l v k).1 < T64 ∧ ((numR l v k).2 = 0 ∨ (k < (numR l v k).2 ∧ (numR l v k).2 ≤ k + l.length)) := by
  induction l with
  | nil => intro v k _ _; simp [numR, T64]
  | cons b r ih =>
    intro v k hv hb
    unfold numR
    split
    · simp [T64]
    · rename_i h1
      have h2 : v ≤ 144115188075855871 := by omega
      split
      · simp; unfold T64; omega
      · have h3 := ih (v * 128 + b % 128) (k + 1) (by unfold T64; omega) (fun x hx => hb x (by simp [hx]))
        simp only [List.length_cons]
        omega
theorem rnumber_any {w0 w : World} {X : List Fact} {K : (Nat → Prop) → World → Prop} {q : Nat} {left : List Nat} {err : Int} (hl : left.length ≤ 1000000000000) (hb : Bytes left) (h : Rd w0 w X K q left err) :
    Calls Tryz.prog 64 #[.pointer (some ⟨q, 0, none⟩)] w fun r w' => r = .returned (.tuple #[.int .u64 (numR left 0 0).1, .int .i64 (numR left 0 0).2]) ∧ w = w' := by
  obtain ⟨hK, A, c, l1, l2, hS⟩ := h
  have HK := Lib.hid hK
  clear hK
  have ks : ∀ D w, (K D w ∧ Sl w D 1 (.slice A left.length c) left.length (u8s left)) → Sl w D 1 (.slice A left.length c) left.length (u8s left) := fun _ _ h => h.2
  have HB := Lib.hid hb
  have hR : Hid (numR left 0 0 = numR (left.drop 0) 0 0) := Lib.hid rfl
  generalize numR left 0 0 = RES at *
  go_enter Tryz.func64, Tryz.ntmps64
  go_wp2_with (first | ((with_reducible show wpList _ _ _ (⟨_, .load _ _, _, _, _, _⟩ :: _) _ _); first | (refine st_cell hS 0 rfl _ _ rfl _ _ rfl _ _ rfl (by decide +kernel) _ (by first | assumption | rfl) ?_) | (refine st_cell hS 1 rfl _ _ rfl _ _ rfl _ _ rfl (by decide +kernel) _ (by first | assumption | rfl) ?_) | (refine st_cell hS 2 rfl _ _ rfl _ _ rfl _ _ rfl (by decide +kernel) _ (by first | assumption | rfl) ?_)) | ((with_reducible show wpList _ _ _ (⟨_, .binOp _ _ _ _ _, _, _, _, _⟩ :: _) _ _); (first | ((with_reducible show wpList _ _ _ (⟨_, .binOp .lss _ _ _ _, _, _, _, _⟩ :: _) _ _); refine st_lss rfl _ _ _ _ rfl _ _ _ rfl rfl (fun h_ => ?_) (fun h_ => ?_)) | ((with_reducible show wpList _ _ _ (⟨_, .binOp .leq _ _ _ _, _, _, _, _⟩ :: _) _ _); refine st_leq rfl _ _ _ _ rfl _ _ _ rfl rfl (fun h_ => ?_) (fun h_ => ?_)) | ((with_reducible show wpList _ _ _ (⟨_, .binOp .gtr _ _ _ _, _, _, _, _⟩ :: _) _ _); refine st_gtr rfl _ _ _ _ rfl _ _ _ rfl rfl (fun h_ => ?_) (fun h_ => ?_)) | ((with_reducible show wpList _ _ _ (⟨_, .binOp .geq _ _ _ _, _, _, _, _⟩ :: _) _ _); refine st_geq rfl _ _ _ _ rfl _ _ _ rfl rfl (fun h_ => ?_) (fun h_ => ?_)) | ((with_reducible show wpList _ _ _ (⟨_, .binOp .eql _ _ _ _, _, _, _, _⟩ :: _) _ _); refine st_eql rfl _ _ _ _ rfl _ _ _ rfl rfl (fun h_ => ?_) (fun h_ => ?_)) | ((with_reducible show wpList _ _ _ (⟨_, .binOp .neq _ _ _ _, _, _, _, _⟩ :: _) _ _); refine st_neq rfl _ _ _ _ rfl _ _ _ rfl rfl (fun h_ => ?_) (fun h_ => ?_))) <;> go_prune))
  go_loopw [12, 4] (fun i v wr => ∃ k n : Nat, k ≤ left.length ∧ i = .int .i64 k ∧ v = .int .u64 n ∧ wr = w ∧ Hid (RES = numR (left.drop k) n k)) (fun i _ _ => left.length - (intOf i).toNat)
  case atStart => exact ⟨0, 0, by omega, rfl, rfl, rfl, hR⟩
  case round =>
    obtain ⟨k, n, hk, rfl, rfl, rfl, hR⟩ := hrel
    by_cases hlt : k < left.length
    · have f1 := u8s_at left k hlt
      have hD := hR.out
      rw [List.drop_eq_getElem_cons hlt] at hD
      have hbb := HB.out _ (List.getElem_mem hlt)
      have e : left[k] = left.getD k 0 := by simp [List.getD_eq_getElem?_getD, List.getElem?_eq_getElem hlt]
      rw [e] at hD hbb
      generalize left.getD k 0 = b at *
      have HD := Lib.hid hD
      have e1 := and127u8 hbb
      clear hD e
      by_cases hv : n ≤ 144115188075855871
      · have e2 := shl7 hv
        have e3 : bits .or .u64 ((n : Int) * 128) ((b : Int) % 128) = ((n * 128 + b % 128 : Nat) : Int) := by
          rw [show ((n : Int) * 128) = ((n * 128 : Nat) : Int) by simp, show ((b : Int) % 128) = ((b % 128 : Nat) : Int) by simp]; exact or7 hv
        obtain ⟨m, hm⟩ : ∃ m, m = n * 128 + b % 128 := ⟨_, rfl⟩
        rw [← hm] at e3
        have HM := Lib.hid hm
        clear hm
        go_wp2_with (first | ((with_reducible show wpList _ _ _ (⟨_, .load _ _, _, _, _, _⟩ :: _) _ _); first | (refine st_cell hS 0 rfl _ _ rfl _ _ rfl _ _ rfl (by decide +kernel) _ (by first | assumption | rfl) ?_) | (refine st_cell hS 1 rfl _ _ rfl _ _ rfl _ _ rfl (by decide +kernel) _ (by first | assumption | rfl) ?_) | (refine st_cell hS 2 rfl _ _ rfl _ _ rfl _ _ rfl (by decide +kernel) _ (by first | assumption | rfl) ?_)) | ((with_reducible show wpList _ _ _ (⟨_, .binOp _ _ _ _ _, _, _, _, _⟩ :: _) _ _); (first | ((with_reducible show wpList _ _ _ (⟨_, .binOp .lss _ _ _ _, _, _, _, _⟩ :: _) _ _); refine st_lss rfl _ _ _ _ rfl _ _ _ rfl rfl (fun h_ => ?_) (fun h_ => ?_)) | ((with_reducible show wpList _ _ _ (⟨_, .binOp .leq _ _ _ _, _, _, _, _⟩ :: _) _ _); refine st_leq rfl _ _ _ _ rfl _ _ _ rfl rfl (fun h_ => ?_) (fun h_ => ?_)) | ((with_reducible show wpList _ _ _ (⟨_, .binOp .gtr _ _ _ _, _, _, _, _⟩ :: _) _ _); refine st_gtr rfl _ _ _ _ rfl _ _ _ rfl rfl (fun h_ => ?_) (fun h_ => ?_)) | ((with_reducible show wpList _ _ _ (⟨_, .binOp .geq _ _ _ _, _, _, _, _⟩ :: _) _ _); refine st_geq rfl _ _ _ _ rfl _ _ _ rfl rfl (fun h_ => ?_) (fun h_ => ?_)) | ((with_reducible show wpList _ _ _ (⟨_, .binOp .eql _ _ _ _, _, _, _, _⟩ :: _) _ _); refine st_eql rfl _ _ _ _ rfl _ _ _ rfl rfl (fun h_ => ?_) (fun h_ => ?_)) | ((with_reducible show wpList _ _ _ (⟨_, .binOp .neq _ _ _ _, _, _, _, _⟩ :: _) _ _); refine st_neq rfl _ _ _ _ rfl _ _ _ rfl rfl (fun h_ => ?_) (fun h_ => ?_))) <;> go_prune) | ((with_reducible show wpList _ _ _ (⟨_, .indexAddr _ _ _, _, _, _, _⟩ :: _) _ _); refine st_iaddr1 hS rfl _ _ _ rfl _ rfl rfl (by assumption) Tryz.underlying37 (by kernel_rfl) (by first | assumption | omega) _ (by assumption) ?_; intro p_ hc_))
        all_goals first
          | (have hE : RES = (0, 0) := by rw [HD.out, numR, if_pos (by omega)]
             subst hE; go_ret2; exact ⟨rfl, rfl⟩)
          | (have hE : RES = (m, k + 1) := by rw [HD.out, numR, if_neg (by omega), if_pos (by omega), HM.out]
             subst hE; go_ret2; refine ⟨?_, rfl⟩; (first | (simp; done) | (simp; omega)))
          | exact ⟨⟨k + 1, m, hlt, by go_num, rfl, trivial, Lib.hid (by rw [HD.out, numR, if_neg (by omega), if_neg (by omega), HM.out])⟩, by simp [intOf]; omega⟩
          | exact ⟨⟨k + 1, m, hlt, by simp; omega, rfl, trivial, Lib.hid (by rw [HD.out, numR, if_neg (by omega), if_neg (by omega), HM.out])⟩, by simp [intOf]; omega⟩
      · go_wp2_with (first | ((with_reducible show wpList _ _ _ (⟨_, .load _ _, _, _, _, _⟩ :: _) _ _); first | (refine st_cell hS 0 rfl _ _ rfl _ _ rfl _ _ rfl (by decide +kernel) _ (by first | assumption | rfl) ?_) | (refine st_cell hS 1 rfl _ _ rfl _ _ rfl _ _ rfl (by decide +kernel) _ (by first | assumption | rfl) ?_) | (refine st_cell hS 2 rfl _ _ rfl _ _ rfl _ _ rfl (by decide +kernel) _ (by first | assumption | rfl) ?_)) | ((with_reducible show wpList _ _ _ (⟨_, .binOp _ _ _ _ _, _, _, _, _⟩ :: _) _ _); (first | ((with_reducible show wpList _ _ _ (⟨_, .binOp .lss _ _ _ _, _, _, _, _⟩ :: _) _ _); refine st_lss rfl _ _ _ _ rfl _ _ _ rfl rfl (fun h_ => ?_) (fun h_ => ?_)) | ((with_reducible show wpList _ _ _ (⟨_, .binOp .leq _ _ _ _, _, _, _, _⟩ :: _) _ _); refine st_leq rfl _ _ _ _ rfl _ _ _ rfl rfl (fun h_ => ?_) (fun h_ => ?_)) | ((with_reducible show wpList _ _ _ (⟨_, .binOp .gtr _ _ _ _, _, _, _, _⟩ :: _) _ _); refine st_gtr rfl _ _ _ _ rfl _ _ _ rfl rfl (fun h_ => ?_) (fun h_ => ?_)) | ((with_reducible show wpList _ _ _ (⟨_, .binOp .geq _ _ _ _, _, _, _, _⟩ :: _) _ _); refine st_geq rfl _ _ _ _ rfl _ _ _ rfl rfl (fun h_ => ?_) (fun h_ => ?_)) | ((with_reducible show wpList _ _ _ (⟨_, .binOp .eql _ _ _ _, _, _, _, _⟩ :: _) _ _); refine st_eql rfl _ _ _ _ rfl _ _ _ rfl rfl (fun h_ => ?_) (fun h_ => ?_)) | ((with_reducible show wpList _ _ _ (⟨_, .binOp .neq _ _ _ _, _, _, _, _⟩ :: _) _ _); refine st_neq rfl _ _ _ _ rfl _ _ _ rfl rfl (fun h_ => ?_) (fun h_ => ?_))) <;> go_prune) | ((with_reducible show wpList _ _ _ (⟨_, .indexAddr _ _ _, _, _, _, _⟩ :: _) _ _); refine st_iaddr1 hS rfl _ _ _ rfl _ rfl rfl (by assumption) Tryz.underlying37 (by kernel_rfl) (by first | assumption | omega) _ (by assumption) ?_; intro p_ hc_))
        all_goals
          have hE : RES = (0, 0) := by rw [HD.out, numR, if_pos (by omega)]
          subst hE; go_ret2; exact ⟨rfl, rfl⟩
    · obtain rfl : k = left.length := by omega
      have hE : RES = (0, 0) := by rw [hR.out]; simp [numR]
      subst hE
      go_wp2_with (first | ((with_reducible show wpList _ _ _ (⟨_, .load _ _, _, _, _, _⟩ :: _) _ _); first | (refine st_cell hS 0 rfl _ _ rfl _ _ rfl _ _ rfl (by decide +kernel) _ (by first | assumption | rfl) ?_) | (refine st_cell hS 1 rfl _ _ rfl _ _ rfl _ _ rfl (by decide +kernel) _ (by first | assumption | rfl) ?_) | (refine st_cell hS 2 rfl _ _ rfl _ _ rfl _ _ rfl (by decide +kernel) _ (by first | assumption | rfl) ?_)) | ((with_reducible show wpList _ _ _ (⟨_, .binOp _ _ _ _ _, _, _, _, _⟩ :: _) _ _); (first | ((with_reducible show wpList _ _ _ (⟨_, .binOp .lss _ _ _ _, _, _, _, _⟩ :: _) _ _); refine st_lss rfl _ _ _ _ rfl _ _ _ rfl rfl (fun h_ => ?_) (fun h_ => ?_)) | ((with_reducible show wpList _ _ _ (⟨_, .binOp .leq _ _ _ _, _, _, _, _⟩ :: _) _ _); refine st_leq rfl _ _ _ _ rfl _ _ _ rfl rfl (fun h_ => ?_) (fun h_ => ?_)) | ((with_reducible show wpList _ _ _ (⟨_, .binOp .gtr _ _ _ _, _, _, _, _⟩ :: _) _ _); refine st_gtr rfl _ _ _ _ rfl _ _ _ rfl rfl (fun h_ => ?_) (fun h_ => ?_)) | ((with_reducible show wpList _ _ _ (⟨_, .binOp .geq _ _ _ _, _, _, _, _⟩ :: _) _ _); refine st_geq rfl _ _ _ _ rfl _ _ _ rfl rfl (fun h_ => ?_) (fun h_ => ?_)) | ((with_reducible show wpList _ _ _ (⟨_, .binOp .eql _ _ _ _, _, _, _, _⟩ :: _) _ _); refine st_eql rfl _ _ _ _ rfl _ _ _ rfl rfl (fun h_ => ?_) (fun h_ => ?_)) | ((with_reducible show wpList _ _ _ (⟨_, .binOp .neq _ _ _ _, _, _, _, _⟩ :: _) _ _); refine st_neq rfl _ _ _ _ rfl _ _ _ rfl rfl (fun h_ => ?_) (fun h_ => ?_))) <;> go_prune))
      go_ret2
      exact ⟨rfl, rfl⟩

theorem sl_take {w : World} {D : Nat → Prop} {A : Option Addr} {m c n : Nat} {xs : List Value} (h : Sl w D 1 (.slice A m c) m xs) (hn : n ≤ m) : Sl w D 1 (.slice A n c) n (xs.take n) := by
  obtain ⟨h1, A', c', e, h2, h3, h4⟩ := h
  injection e with e1 _ e2
  subst e1 e2
  refine ⟨by rw [List.length_take, h1]; omega, A, c, rfl, by omega, h3, fun h0 => ?_⟩
  obtain ⟨b, o, h5, h6, h7, h8⟩ := h4 (by omega)
  refine ⟨b, o, h5, h6, h7, fun j x hj => h8 j x ?_⟩
  rw [List.getElem?_take] at hj
  split at hj
  · exact hj
  · cases hj
theorem sl_drop {w : World} {D : Nat → Prop} {A : Option Addr} {m c n : Nat} {xs : List Value} (h : Sl w D 1 (.slice A m c) m xs) (hn : n ≤ m) (hc : m ≤ c) : Sl w D 1 (.slice (if c = n then A else Option.map (fun x => x.add n) A) (m - n) (c - n)) (m - n) (xs.drop n) := by
  obtain ⟨h1, A', c', e, h2, h3, h4⟩ := h
  injection e with e1 _ e2
  subst e1 e2
  refine ⟨by rw [List.length_drop, h1]; omega, _, c - n, rfl, by omega, by omega, fun h0 => ?_⟩
  obtain ⟨b, o, rfl, h6, h7, h8⟩ := h4 (by omega)
  rw [if_neg (by omega)]
  refine ⟨b, o + n, by simp [Addr.add_lit], h6, h7, fun j x hj => ?_⟩
  rw [List.getElem?_drop] at hj
  have := h8 _ x hj
  rw [← Nat.add_assoc] at this; exact this
theorem clone_n_any (p : Value) (n : Nat) (ps : List Nat) (w : World) (D : Nat → Prop) (hp : Sl w D 1 p n (u8s ps)) (hlen : n ≤ 1000000000000) :
    Calls Tryz.prog 57 #[p] w (Ret (fun x w' => Sl w' (w.heap.size ≤ ·) 1 x n (u8s ps)) w) := by
  have e : ps.length = n := by have := hp.1; simpa [u8s] using this
  subst e
  exact clone_bytes_any p ps w D hp hlen
theorem u8s_take (l : List Nat) (n : Nat) : u8s (l.take n) = (u8s l).take n := by simp [u8s, List.map_take]
theorem u8s_drop (l : List Nat) (n : Nat) : u8s (l.drop n) = (u8s l).drop n := by simp [u8s, List.map_drop]
theorem rtake_any {w0 w : World} {X : List Fact} {K : (Nat → Prop) → World → Prop} {q : Nat} {left : List Nat} {err : Int} (n : Nat) (hn : n ≤ left.length) (hl : left.length ≤ 1000000000000) (h : Rd w0 w X K q left err) :
    Calls Tryz.prog 63 #[.pointer (some ⟨q, 0, none⟩), .int .i64 n] w fun r w' => ∃ v, r = .returned v ∧ Rd w0 w' X (fun D w => K D w ∧ Sl w D 1 v n (u8s (left.take n))) q (left.drop n) err := by
  obtain ⟨hK, A, c, l1, l2, hS⟩ := h
  have HK := Lib.hid hK
  clear hK
  go_enter Tryz.func63, Tryz.ntmps63
  go_wp2_with (first | ((with_reducible show wpList _ _ _ (⟨_, .load _ _, _, _, _, _⟩ :: _) _ _); first | (refine st_cell hS 0 rfl _ _ rfl _ _ rfl _ _ rfl (by decide +kernel) _ (by first | assumption | rfl) ?_) | (refine st_cell hS 1 rfl _ _ rfl _ _ rfl _ _ rfl (by decide +kernel) _ (by first | assumption | rfl) ?_) | (refine st_cell hS 2 rfl _ _ rfl _ _ rfl _ _ rfl (by decide +kernel) _ (by first | assumption | rfl) ?_)))
  have hs : ∀ D w, (K D w ∧ Sl w D 1 (.slice A left.length c) left.length (u8s left)) → Sl w D 1 (.slice A n c) n (u8s (left.take n)) := fun D w h => by
    rw [u8s_take]; exact sl_take h.2 hn
  refine (clone_n_any _ n (left.take n) _ _ (hs _ _ hS.ro) (by omega)).mono ?_
  rintro r w2 ⟨v, rfl, h2, hb2⟩
  replace hS := hS.ret hb2 stable_sl h2
  go_wp2_with (first | ((with_reducible show wpList _ _ _ (⟨_, .load _ _, _, _, _, _⟩ :: _) _ _); first | (refine st_cell hS 0 rfl _ _ rfl _ _ rfl _ _ rfl (by decide +kernel) _ (by first | assumption | rfl) ?_) | (refine st_cell hS 1 rfl _ _ rfl _ _ rfl _ _ rfl (by decide +kernel) _ (by first | assumption | rfl) ?_) | (refine st_cell hS 2 rfl _ _ rfl _ _ rfl _ _ rfl (by decide +kernel) _ (by first | assumption | rfl) ?_)) | ((with_reducible show wpList _ _ _ (⟨_, .store _ _ _, _, _, _, _⟩ :: _) _ _); first | (refine st_store hS 0 rfl _ _ _ rfl _ _ rfl rfl _ _ rfl (by kernel_rfl) (by kernel_rfl) (by kernel_rfl) ?_; clear hS; intro w_ hS; (try simp only [Act.put, Act.eval, List.set_cons_zero, List.set_cons_succ, List.setIfInBounds_toArray, Array.getD_eq_getD_getElem?, List.getElem?_toArray, List.getElem?_cons_succ, List.getElem?_cons_zero, Option.getD_some, Value.cells] at hS)) | (refine st_store hS 1 rfl _ _ _ rfl _ _ rfl rfl _ _ rfl (by kernel_rfl) (by kernel_rfl) (by kernel_rfl) ?_; clear hS; intro w_ hS; (try simp only [Act.put, Act.eval, List.set_cons_zero, List.set_cons_succ, List.setIfInBounds_toArray, Array.getD_eq_getD_getElem?, List.getElem?_toArray, List.getElem?_cons_succ, List.getElem?_cons_zero, Option.getD_some, Value.cells] at hS)) | (refine st_store hS 2 rfl _ _ _ rfl _ _ rfl rfl _ _ rfl (by kernel_rfl) (by kernel_rfl) (by kernel_rfl) ?_; clear hS; intro w_ hS; (try simp only [Act.put, Act.eval, List.set_cons_zero, List.set_cons_succ, List.setIfInBounds_toArray, Array.getD_eq_getD_getElem?, List.getElem?_toArray, List.getElem?_cons_succ, List.getElem?_cons_zero, Option.getD_some, Value.cells] at hS)) | (refine st_store hS 3 rfl _ _ _ rfl _ _ rfl rfl _ _ rfl (by kernel_rfl) (by kernel_rfl) (by kernel_rfl) ?_; clear hS; intro w_ hS; (try simp only [Act.put, Act.eval, List.set_cons_zero, List.set_cons_succ, List.setIfInBounds_toArray, Array.getD_eq_getD_getElem?, List.getElem?_toArray, List.getElem?_cons_succ, List.getElem?_cons_zero, Option.getD_some, Value.cells] at hS)) | (refine st_cstore hS 0 rfl _ _ _ rfl _ _ _ rfl rfl rfl (by first | (simp; done) | (simp; omega) | exact of_decide_eq_true (by kernel_rfl)) rfl (by first | rfl | assumption) (by kernel_rfl) ?_; clear hS; intro w_ hS; (try simp only [Act.put, Act.eval, List.set_cons_zero, List.set_cons_succ, List.setIfInBounds_toArray, Array.getD_eq_getD_getElem?, List.getElem?_toArray, List.getElem?_cons_succ, List.getElem?_cons_zero, Option.getD_some, Value.cells] at hS)) | (refine st_cstore hS 1 rfl _ _ _ rfl _ _ _ rfl rfl rfl (by first | (simp; done) | (simp; omega) | exact of_decide_eq_true (by kernel_rfl)) rfl (by first | rfl | assumption) (by kernel_rfl) ?_; clear hS; intro w_ hS; (try simp only [Act.put, Act.eval, List.set_cons_zero, List.set_cons_succ, List.setIfInBounds_toArray, Array.getD_eq_getD_getElem?, List.getElem?_toArray, List.getElem?_cons_succ, List.getElem?_cons_zero, Option.getD_some, Value.cells] at hS)) | (refine st_cstore hS 2 rfl _ _ _ rfl _ _ _ rfl rfl rfl (by first | (simp; done) | (simp; omega) | exact of_decide_eq_true (by kernel_rfl)) rfl (by first | rfl | assumption) (by kernel_rfl) ?_; clear hS; intro w_ hS; (try simp only [Act.put, Act.eval, List.set_cons_zero, List.set_cons_succ, List.setIfInBounds_toArray, Array.getD_eq_getD_getElem?, List.getElem?_toArray, List.getElem?_cons_succ, List.getElem?_cons_zero, Option.getD_some, Value.cells] at hS)) | (refine st_cstore hS 3 rfl _ _ _ rfl _ _ _ rfl rfl rfl (by first | (simp; done) | (simp; omega) | exact of_decide_eq_true (by kernel_rfl)) rfl (by first | rfl | assumption) (by kernel_rfl) ?_; clear hS; intro w_ hS; (try simp only [Act.put, Act.eval, List.set_cons_zero, List.set_cons_succ, List.setIfInBounds_toArray, Array.getD_eq_getD_getElem?, List.getElem?_toArray, List.getElem?_cons_succ, List.getElem?_cons_zero, Option.getD_some, Value.cells] at hS))))
  all_goals
    go_ret
    exact ⟨_, rfl, HK.out.and stable_sl, _, c - n, by rw [List.length_drop]; omega, by omega, by
      rw [show (left.drop n).length = left.length - n from List.length_drop ..]
      exact hS.mono ((HK.out.and stable_sl).and stable_sl) fun D w h => ⟨⟨h.1.1, h.2⟩, by rw [u8s_drop]; exact sl_drop h.1.2 hn l1⟩⟩
end Go.Proofs.YtenpkgdnlogfiaaGreatDoor
namespace Go.Proofs.YtenpkgdnlogfiaaGreatDoor
open Go.RowKit
attribute [local go_sem ↓] Go.wp_at_zero Go.wp_at_succ
set_option maxRecDepth 20000

theorem Rd.weak {w0 w : World} {X : List Fact} {K K' : (Nat → Prop) → World → Prop} {q : Nat} {left : List Nat} {err : Int} (h : Rd w0 w X K q left err) (hs : Stable K') (hk : ∀ D w, K D w → K' D w) : Rd w0 w X K' q left err := by
  obtain ⟨_, A, c, l1, l2, hS⟩ := h
  exact ⟨hs, A, c, l1, l2, hS.mono (hs.and stable_sl) fun D w h => ⟨hk D w h.1, h.2⟩⟩
theorem Rd.cast {w0 w : World} {X : List Fact} {K : (Nat → Prop) → World → Prop} {q : Nat} {left left' : List Nat} {err err' : Int} (h : Rd w0 w X K q left err) (e1 : left = left') (e2 : err = err') : Rd w0 w X K q left' err' := by subst e1 e2; exact h
/-- what Uint reads: the number, what is left, the error -/
def readUint (most : Nat) (left : List Nat) (err : Int) : Nat × List Nat × Int :=
  if err = 0 then
    if (numR left 0 0).2 = 0 then (0, left, 6) else if most < (numR left 0 0).1 then (0, left, 2) else ((numR left 0 0).1, left.drop (numR left 0 0).2, 0)
  else (0, left, err)
theorem ruint_any {w0 w : World} {X : List Fact} {K : (Nat → Prop) → World → Prop} {q : Nat} {left : List Nat} {err : Int} (most : Nat) (hl : left.length ≤ 1000000000000) (hb : Bytes left) (hR : Rd w0 w X K q left err) :
    Calls Tryz.prog 65 #[.pointer (some ⟨q, 0, none⟩), .int .u64 most] w fun r w' => r = .returned (.int .u64 (readUint most left err).1) ∧ Rd w0 w' X K q (readUint most left err).2.1 (readUint most left err).2.2 := by
  have HK := Lib.hid hR.1
  go_enter Tryz.func65, Tryz.ntmps65
  by_cases h0 : err = 0
  · subst h0
    have HE := Lib.hid (show readUint most left 0 = if (numR left 0 0).2 = 0 then (0, left, 6) else if most < (numR left 0 0).1 then (0, left, 2) else ((numR left 0 0).1, left.drop (numR left 0 0).2, 0) from rfl)
    generalize readUint most left 0 = RES at *
    have hn := (numR_lt left 0 0 (by decide) hb).2
    have HN := Lib.hid (@rnumber_any w0 w X K q left 0 hl hb hR)
    generalize numR left 0 0 = V at *
    obtain ⟨v, n⟩ := V
    dsimp only at hn HN HE
    go_wp2_with (first | ((with_reducible show wpList _ _ _ (⟨_, .binOp _ _ _ _ _, _, _, _, _⟩ :: _) _ _); (first | ((with_reducible show wpList _ _ _ (⟨_, .binOp .lss _ _ _ _, _, _, _, _⟩ :: _) _ _); refine st_lss rfl _ _ _ _ rfl _ _ _ rfl rfl (fun h_ => ?_) (fun h_ => ?_)) | ((with_reducible show wpList _ _ _ (⟨_, .binOp .leq _ _ _ _, _, _, _, _⟩ :: _) _ _); refine st_leq rfl _ _ _ _ rfl _ _ _ rfl rfl (fun h_ => ?_) (fun h_ => ?_)) | ((with_reducible show wpList _ _ _ (⟨_, .binOp .gtr _ _ _ _, _, _, _, _⟩ :: _) _ _); refine st_gtr rfl _ _ _ _ rfl _ _ _ rfl rfl (fun h_ => ?_) (fun h_ => ?_)) | ((with_reducible show wpList _ _ _ (⟨_, .binOp .geq _ _ _ _, _, _, _, _⟩ :: _) _ _); refine st_geq rfl _ _ _ _ rfl _ _ _ rfl rfl (fun h_ => ?_) (fun h_ => ?_)) | ((with_reducible show wpList _ _ _ (⟨_, .binOp .eql _ _ _ _, _, _, _, _⟩ :: _) _ _); refine st_eql rfl _ _ _ _ rfl _ _ _ rfl rfl (fun h_ => ?_) (fun h_ => ?_)) | ((with_reducible show wpList _ _ _ (⟨_, .binOp .neq _ _ _ _, _, _, _, _⟩ :: _) _ _); refine st_neq rfl _ _ _ _ rfl _ _ _ rfl rfl (fun h_ => ?_) (fun h_ => ?_))) <;> go_prune) | (go_at_call 61; refine (rok_any _ _ _ hR.errc).mono ?_; rintro r_ w_ ⟨rfl, rfl⟩) | (go_at_call 62; refine (refuse_any _ _ hR).mono ?_; clear hR; rintro r_ w_ ⟨rfl, hR⟩) | (go_at_call 64; refine HN.out.mono ?_; rintro r_ w_ ⟨rfl, rfl⟩))
    · have hE : RES = (0, left, 6) := by rw [HE.out, if_pos (by omega)]
      subst hE; go_ret; exact ⟨rfl, hR⟩
    · have hE : RES = (0, left, 2) := by rw [HE.out, if_neg (by omega), if_pos (by omega)]
      subst hE; go_ret; exact ⟨rfl, hR⟩
    · refine (rtake_any n (by omega) hl hR).mono ?_
      rintro r w2 ⟨v2, rfl, hR2⟩
      go_wp2_with fail
      have hE : RES = (v, left.drop n, 0) := by rw [HE.out, if_neg (by omega), if_neg (by omega)]
      subst hE; go_ret; exact ⟨rfl, hR2.weak HK.out fun _ _ h => h.1⟩
  · have hd : decide (err = 0) = false := by simpa using h0
    have HE := Lib.hid (show readUint most left err = (0, left, err) by rw [readUint, if_neg h0])
    go_wp2_with (go_at_call 61; refine (rok_any _ _ _ hR.errc).mono ?_; rw [hd]; rintro r_ w_ ⟨rfl, rfl⟩)
    rw [HE.out]
    go_ret
    exact ⟨rfl, hR⟩

theorem rnumberm_any {w0 w : World} {X : List Fact} {K : (Nat → Prop) → World → Prop} {q : Nat} {left : List Nat} {err : Int} (most : Nat) (hm : most ≤ 1000000000000) (hl : left.length ≤ 1000000000000) (hb : Bytes left) (hR : Rd w0 w X K q left err) :
    Calls Tryz.prog 35 #[.pointer (some ⟨q, 0, none⟩), .int .i64 most] w fun r w' => r = .returned (.int .i64 (readUint most left err).1) ∧ Rd w0 w' X K q (readUint most left err).2.1 (readUint most left err).2.2 := by
  have hle : (readUint most left err).1 ≤ most := by
    unfold readUint
    split
    · split
      · simp
      · split
        · simp
        · simp; omega
    · simp
  have hw := wrap_u64_nat (m := most) (by unfold T64; omega)
  have hw2 := wrap_i64_nat (m := (readUint most left err).1) (by omega)
  go_enter Tryz.func35, Tryz.ntmps35
  by_cases h0 : err = 0
  · subst h0
    go_wp2_with (first | ((with_reducible show wpList _ _ _ (⟨_, .binOp _ _ _ _ _, _, _, _, _⟩ :: _) _ _); (first | ((with_reducible show wpList _ _ _ (⟨_, .binOp .lss _ _ _ _, _, _, _, _⟩ :: _) _ _); refine st_lss rfl _ _ _ _ rfl _ _ _ rfl rfl (fun h_ => ?_) (fun h_ => ?_)) | ((with_reducible show wpList _ _ _ (⟨_, .binOp .leq _ _ _ _, _, _, _, _⟩ :: _) _ _); refine st_leq rfl _ _ _ _ rfl _ _ _ rfl rfl (fun h_ => ?_) (fun h_ => ?_)) | ((with_reducible show wpList _ _ _ (⟨_, .binOp .gtr _ _ _ _, _, _, _, _⟩ :: _) _ _); refine st_gtr rfl _ _ _ _ rfl _ _ _ rfl rfl (fun h_ => ?_) (fun h_ => ?_)) | ((with_reducible show wpList _ _ _ (⟨_, .binOp .geq _ _ _ _, _, _, _, _⟩ :: _) _ _); refine st_geq rfl _ _ _ _ rfl _ _ _ rfl rfl (fun h_ => ?_) (fun h_ => ?_)) | ((with_reducible show wpList _ _ _ (⟨_, .binOp .eql _ _ _ _, _, _, _, _⟩ :: _) _ _); refine st_eql rfl _ _ _ _ rfl _ _ _ rfl rfl (fun h_ => ?_) (fun h_ => ?_)) | ((with_reducible show wpList _ _ _ (⟨_, .binOp .neq _ _ _ _, _, _, _, _⟩ :: _) _ _); refine st_neq rfl _ _ _ _ rfl _ _ _ rfl rfl (fun h_ => ?_) (fun h_ => ?_))) <;> go_prune) | (go_at_call 61; refine (rok_any _ _ _ hR.errc).mono ?_; rintro r_ w_ ⟨rfl, rfl⟩) | (go_at_call 62; refine (refuse_any _ _ hR).mono ?_; clear hR; rintro r_ w_ ⟨rfl, hR⟩))
    refine (ruint_any most hl hb hR).mono ?_
    rintro r w2 ⟨rfl, hR2⟩
    have HR := Lib.hid hR2
    clear hR2
    have hr : refuseE false 1 0 = 0 := rfl
    rw [hr] at *
    generalize hv : (readUint most left 0).1 = v at *
    have HV := Lib.hid hv
    clear hv
    go_wp2_with fail
    go_ret
    exact ⟨by simp [HV.out], HR.out⟩
  · have hd : decide (err = 0) = false := by simpa using h0
    have HE := Lib.hid (show readUint most left err = (0, left, err) by rw [readUint, if_neg h0])
    go_wp2_with (go_at_call 61; refine (rok_any _ _ _ hR.errc).mono ?_; rw [hd]; rintro r_ w_ ⟨rfl, rfl⟩)
    rw [HE.out]
    go_ret
    exact ⟨rfl, hR⟩
/-- what Count reads -/
def readCount (most : Nat) (left : List Nat) (err : Int) : Nat × List Nat × Int :=
  if err = 0 then
    if (numR left 0 0).2 = 0 then (0, left, 6) else if most < (numR left 0 0).1 then (0, left, 3) else ((numR left 0 0).1, left.drop (numR left 0 0).2, 0)
  else (0, left, err)
theorem rcount_any {w0 w : World} {X : List Fact} {K : (Nat → Prop) → World → Prop} {q : Nat} {left : List Nat} {err : Int} (most : Nat) (hm : most ≤ 1000000000000) (hl : left.length ≤ 1000000000000) (hb : Bytes left) (hR : Rd w0 w X K q left err) :
    Calls Tryz.prog 34 #[.pointer (some ⟨q, 0, none⟩), .int .i64 most] w fun r w' => r = .returned (.int .i64 (readCount most left err).1) ∧ Rd w0 w' X K q (readCount most left err).2.1 (readCount most left err).2.2 := by
  have HK := Lib.hid hR.1
  have hw := wrap_u64_nat (m := most) (by unfold T64; omega)
  go_enter Tryz.func34, Tryz.ntmps34
  by_cases h0 : err = 0
  · subst h0
    have HE := Lib.hid (show readCount most left 0 = if (numR left 0 0).2 = 0 then (0, left, 6) else if most < (numR left 0 0).1 then (0, left, 3) else ((numR left 0 0).1, left.drop (numR left 0 0).2, 0) from rfl)
    generalize readCount most left 0 = RES at *
    have hn := (numR_lt left 0 0 (by decide) hb).2
    have HN := Lib.hid fun (w : World) (h : Rd w0 w X K q left 0) => rnumber_any (w := w) hl hb h
    generalize numR left 0 0 = V at *
    obtain ⟨v, n⟩ := V
    dsimp only at hn HN HE
    go_wp2_with (first | ((with_reducible show wpList _ _ _ (⟨_, .binOp _ _ _ _ _, _, _, _, _⟩ :: _) _ _); (first | ((with_reducible show wpList _ _ _ (⟨_, .binOp .lss _ _ _ _, _, _, _, _⟩ :: _) _ _); refine st_lss rfl _ _ _ _ rfl _ _ _ rfl rfl (fun h_ => ?_) (fun h_ => ?_)) | ((with_reducible show wpList _ _ _ (⟨_, .binOp .leq _ _ _ _, _, _, _, _⟩ :: _) _ _); refine st_leq rfl _ _ _ _ rfl _ _ _ rfl rfl (fun h_ => ?_) (fun h_ => ?_)) | ((with_reducible show wpList _ _ _ (⟨_, .binOp .gtr _ _ _ _, _, _, _, _⟩ :: _) _ _); refine st_gtr rfl _ _ _ _ rfl _ _ _ rfl rfl (fun h_ => ?_) (fun h_ => ?_)) | ((with_reducible show wpList _ _ _ (⟨_, .binOp .geq _ _ _ _, _, _, _, _⟩ :: _) _ _); refine st_geq rfl _ _ _ _ rfl _ _ _ rfl rfl (fun h_ => ?_) (fun h_ => ?_)) | ((with_reducible show wpList _ _ _ (⟨_, .binOp .eql _ _ _ _, _, _, _, _⟩ :: _) _ _); refine st_eql rfl _ _ _ _ rfl _ _ _ rfl rfl (fun h_ => ?_) (fun h_ => ?_)) | ((with_reducible show wpList _ _ _ (⟨_, .binOp .neq _ _ _ _, _, _, _, _⟩ :: _) _ _); refine st_neq rfl _ _ _ _ rfl _ _ _ rfl rfl (fun h_ => ?_) (fun h_ => ?_))) <;> go_prune) | (go_at_call 61; refine (rok_any _ _ _ hR.errc).mono ?_; rintro r_ w_ ⟨rfl, rfl⟩) | (go_at_call 62; refine (refuse_any _ _ hR).mono ?_; clear hR; rintro r_ w_ ⟨rfl, hR⟩) | (go_at_call 64; refine (HN.out _ hR).mono ?_; rintro r_ w_ ⟨rfl, rfl⟩))
    · have hE : RES = (0, left, 6) := by rw [HE.out, if_pos (by omega)]
      subst hE; go_ret; exact ⟨rfl, hR⟩
    · have hE : RES = (0, left, 3) := by rw [HE.out, if_neg (by omega), if_pos (by omega)]
      subst hE; go_ret; exact ⟨rfl, hR⟩
    · have hw2 := wrap_i64_nat (m := v) (by omega)
      refine (rtake_any n (by omega) hl hR).mono ?_
      rintro r w2 ⟨v2, rfl, hR2⟩
      go_wp2_with fail
      have hE : RES = (v, left.drop n, 0) := by rw [HE.out, if_neg (by omega), if_neg (by omega)]
      subst hE; go_ret; exact ⟨by simp, hR2.weak HK.out fun _ _ h => h.1⟩
  · have hd : decide (err = 0) = false := by simpa using h0
    have HE := Lib.hid (show readCount most left err = (0, left, err) by rw [readCount, if_neg h0])
    go_wp2_with (go_at_call 61; refine (rok_any _ _ _ hR.errc).mono ?_; rw [hd]; rintro r_ w_ ⟨rfl, rfl⟩)
    rw [HE.out]
    go_ret
    exact ⟨rfl, hR⟩

/-- what Raw reads -/
def readRaw (n : Nat) (left : List Nat) (err : Int) : List Nat × List Nat × Int :=
  if err = 0 then if left.length < n then ([], left, 6) else (left.take n, left.drop n, 0) else ([], left, err)
theorem rraw_any {w0 w : World} {X : List Fact} {K : (Nat → Prop) → World → Prop} {q : Nat} {left : List Nat} {err : Int} (n : Nat) (hl : left.length ≤ 1000000000000) (hR : Rd w0 w X K q left err) :
    Calls Tryz.prog 32 #[.pointer (some ⟨q, 0, none⟩), .int .i64 n] w fun r w' => ∃ v, r = .returned v ∧ Rd w0 w' X (fun D w => K D w ∧ Sl w D 1 v (readRaw n left err).1.length (u8s (readRaw n left err).1)) q (readRaw n left err).2.1 (readRaw n left err).2.2 := by
  have HK := Lib.hid hR.1
  have hnil : ∀ D w, K D w → (K D w ∧ Sl w D 1 (.slice none 0 0) ([] : List Nat).length (u8s [])) := fun D w h => ⟨h, Sl.none_⟩
  go_enter Tryz.func32, Tryz.ntmps32
  by_cases h0 : err = 0
  · subst h0
    have HE := Lib.hid (show readRaw n left 0 = if left.length < n then ([], left, 6) else (left.take n, left.drop n, 0) from rfl)
    generalize readRaw n left 0 = RES at *
    go_wp2_with (first | ((with_reducible show wpList _ _ _ (⟨_, .binOp _ _ _ _ _, _, _, _, _⟩ :: _) _ _); (first | ((with_reducible show wpList _ _ _ (⟨_, .binOp .lss _ _ _ _, _, _, _, _⟩ :: _) _ _); refine st_lss rfl _ _ _ _ rfl _ _ _ rfl rfl (fun h_ => ?_) (fun h_ => ?_)) | ((with_reducible show wpList _ _ _ (⟨_, .binOp .leq _ _ _ _, _, _, _, _⟩ :: _) _ _); refine st_leq rfl _ _ _ _ rfl _ _ _ rfl rfl (fun h_ => ?_) (fun h_ => ?_)) | ((with_reducible show wpList _ _ _ (⟨_, .binOp .gtr _ _ _ _, _, _, _, _⟩ :: _) _ _); refine st_gtr rfl _ _ _ _ rfl _ _ _ rfl rfl (fun h_ => ?_) (fun h_ => ?_)) | ((with_reducible show wpList _ _ _ (⟨_, .binOp .geq _ _ _ _, _, _, _, _⟩ :: _) _ _); refine st_geq rfl _ _ _ _ rfl _ _ _ rfl rfl (fun h_ => ?_) (fun h_ => ?_)) | ((with_reducible show wpList _ _ _ (⟨_, .binOp .eql _ _ _ _, _, _, _, _⟩ :: _) _ _); refine st_eql rfl _ _ _ _ rfl _ _ _ rfl rfl (fun h_ => ?_) (fun h_ => ?_)) | ((with_reducible show wpList _ _ _ (⟨_, .binOp .neq _ _ _ _, _, _, _, _⟩ :: _) _ _); refine st_neq rfl _ _ _ _ rfl _ _ _ rfl rfl (fun h_ => ?_) (fun h_ => ?_))) <;> go_prune) | (go_at_call 61; refine (rok_any _ _ _ hR.errc).mono ?_; rintro r_ w_ ⟨rfl, rfl⟩) | (go_at_call 62; refine (refuse_any _ _ hR).mono ?_; clear hR; rintro r_ w_ ⟨rfl, hR⟩) | ((with_reducible show wpList _ _ _ (⟨some 21, _, _, _, _, _⟩ :: _) _ _); obtain ⟨_, A, c, l1, l2, hS⟩ := id hR; refine st_cell hS 0 rfl _ _ rfl _ _ rfl _ _ rfl (by decide +kernel) _ rfl ?_; clear hS))
    · have hE : RES = ([], left, 6) := by rw [HE.out, if_pos (by omega)]
      subst hE; go_ret; exact ⟨_, rfl, hR.weak (HK.out.and stable_sl) hnil⟩
    · refine (rtake_any n (by omega) hl hR).mono ?_
      rintro r w2 ⟨v2, rfl, hR2⟩
      go_wp2_with fail
      have hE : RES = (left.take n, left.drop n, 0) := by rw [HE.out, if_neg (by omega)]
      subst hE; go_ret
      refine ⟨_, rfl, hR2.weak (HK.out.and stable_sl) fun D w h => ⟨h.1, ?_⟩⟩
      rw [show (left.take n).length = n by rw [List.length_take]; omega]
      exact h.2
  · have hd : decide (err = 0) = false := by simpa using h0
    have HE := Lib.hid (show readRaw n left err = ([], left, err) by rw [readRaw, if_neg h0])
    go_wp2_with (go_at_call 61; refine (rok_any _ _ _ hR.errc).mono ?_; rw [hd]; rintro r_ w_ ⟨rfl, rfl⟩)
    rw [HE.out]
    go_ret
    exact ⟨_, rfl, hR.weak (HK.out.and stable_sl) hnil⟩

/-- what Flag reads -/
def readFlag (left : List Nat) (err : Int) : Bool × List Nat × Int :=
  if err = 0 then (match left with
    | [] => (false, [], 6)
    | b :: r => if 1 < b then (false, b :: r, 6) else (b == 1, r, 0)) else (false, left, err)
theorem rflag_any {w0 w : World} {X : List Fact} {K : (Nat → Prop) → World → Prop} {q : Nat} {left : List Nat} {err : Int} (hl : left.length ≤ 1000000000000) (hb : Bytes left) (hR : Rd w0 w X K q left err) :
    Calls Tryz.prog 33 #[.pointer (some ⟨q, 0, none⟩)] w fun r w' => r = .returned (.bool (readFlag left err).1) ∧ Rd w0 w' X K q (readFlag left err).2.1 (readFlag left err).2.2 := by
  have HK := Lib.hid hR.1
  by_cases h0 : err = 0
  · subst h0
    cases left with
    | nil =>
      have HE := Lib.hid (show readFlag [] 0 = (false, [], 6) from rfl)
      obtain ⟨_, A, c, l1, l2, hS⟩ := id hR
      generalize readFlag [] 0 = RES at *
      go_enter Tryz.func33, Tryz.ntmps33
      go_wp2_with (first | ((with_reducible show wpList _ _ _ (⟨_, .load _ _, _, _, _, _⟩ :: _) _ _); first | (refine st_cell hS 0 rfl _ _ rfl _ _ rfl _ _ rfl (by decide +kernel) _ (by first | assumption | rfl) ?_) | (refine st_cell hS 1 rfl _ _ rfl _ _ rfl _ _ rfl (by decide +kernel) _ (by first | assumption | rfl) ?_) | (refine st_cell hS 2 rfl _ _ rfl _ _ rfl _ _ rfl (by decide +kernel) _ (by first | assumption | rfl) ?_)) | ((with_reducible show wpList _ _ _ (⟨_, .binOp _ _ _ _ _, _, _, _, _⟩ :: _) _ _); (first | ((with_reducible show wpList _ _ _ (⟨_, .binOp .lss _ _ _ _, _, _, _, _⟩ :: _) _ _); refine st_lss rfl _ _ _ _ rfl _ _ _ rfl rfl (fun h_ => ?_) (fun h_ => ?_)) | ((with_reducible show wpList _ _ _ (⟨_, .binOp .leq _ _ _ _, _, _, _, _⟩ :: _) _ _); refine st_leq rfl _ _ _ _ rfl _ _ _ rfl rfl (fun h_ => ?_) (fun h_ => ?_)) | ((with_reducible show wpList _ _ _ (⟨_, .binOp .gtr _ _ _ _, _, _, _, _⟩ :: _) _ _); refine st_gtr rfl _ _ _ _ rfl _ _ _ rfl rfl (fun h_ => ?_) (fun h_ => ?_)) | ((with_reducible show wpList _ _ _ (⟨_, .binOp .geq _ _ _ _, _, _, _, _⟩ :: _) _ _); refine st_geq rfl _ _ _ _ rfl _ _ _ rfl rfl (fun h_ => ?_) (fun h_ => ?_)) | ((with_reducible show wpList _ _ _ (⟨_, .binOp .eql _ _ _ _, _, _, _, _⟩ :: _) _ _); refine st_eql rfl _ _ _ _ rfl _ _ _ rfl rfl (fun h_ => ?_) (fun h_ => ?_)) | ((with_reducible show wpList _ _ _ (⟨_, .binOp .neq _ _ _ _, _, _, _, _⟩ :: _) _ _); refine st_neq rfl _ _ _ _ rfl _ _ _ rfl rfl (fun h_ => ?_) (fun h_ => ?_))) <;> go_prune) | (go_at_call 61; refine (rok_any _ _ _ hR.errc).mono ?_; rintro r_ w_ ⟨rfl, rfl⟩) | (go_at_call 62; refine (refuse_any _ _ hR).mono ?_; clear hR; rintro r_ w_ ⟨rfl, hR⟩))
      have hE := HE.out
      subst hE; go_ret; exact ⟨rfl, hR⟩
    | cons b rest =>
      have HE := Lib.hid (show readFlag (b :: rest) 0 = if 1 < b then (false, b :: rest, 6) else (b == 1, rest, 0) from rfl)
      obtain ⟨_, A, c, l1, l2, hS⟩ := id hR
      generalize readFlag (b :: rest) 0 = RES at *
      have f1 : (u8s (b :: rest))[0]? = some (.int .u8 (b : Nat)) := rfl
      have f2 : (u8s ((b :: rest).take 1))[0]? = some (.int .u8 (b : Nat)) := rfl
      have hlen : 1 ≤ (b :: rest).length := by simp
      go_enter Tryz.func33, Tryz.ntmps33
      go_wp2_with (first
        | ((with_reducible show wpList _ _ _ (⟨_, .load _ _, _, _, _, _⟩ :: _) _ _); first | (refine st_cell hS 0 rfl _ _ rfl _ _ rfl _ _ rfl (by decide +kernel) _ (by first | assumption | rfl) ?_) | (refine st_cell hS 1 rfl _ _ rfl _ _ rfl _ _ rfl (by decide +kernel) _ (by first | assumption | rfl) ?_) | (refine st_cell hS 2 rfl _ _ rfl _ _ rfl _ _ rfl (by decide +kernel) _ (by first | assumption | rfl) ?_))
        | ((with_reducible show wpList _ _ _ (⟨_, .binOp _ _ _ _ _, _, _, _, _⟩ :: _) _ _); (first | ((with_reducible show wpList _ _ _ (⟨_, .binOp .lss _ _ _ _, _, _, _, _⟩ :: _) _ _); refine st_lss rfl _ _ _ _ rfl _ _ _ rfl rfl (fun h_ => ?_) (fun h_ => ?_)) | ((with_reducible show wpList _ _ _ (⟨_, .binOp .leq _ _ _ _, _, _, _, _⟩ :: _) _ _); refine st_leq rfl _ _ _ _ rfl _ _ _ rfl rfl (fun h_ => ?_) (fun h_ => ?_)) | ((with_reducible show wpList _ _ _ (⟨_, .binOp .gtr _ _ _ _, _, _, _, _⟩ :: _) _ _); refine st_gtr rfl _ _ _ _ rfl _ _ _ rfl rfl (fun h_ => ?_) (fun h_ => ?_)) | ((with_reducible show wpList _ _ _ (⟨_, .binOp .geq _ _ _ _, _, _, _, _⟩ :: _) _ _); refine st_geq rfl _ _ _ _ rfl _ _ _ rfl rfl (fun h_ => ?_) (fun h_ => ?_)) | ((with_reducible show wpList _ _ _ (⟨_, .binOp .eql _ _ _ _, _, _, _, _⟩ :: _) _ _); refine st_eql rfl _ _ _ _ rfl _ _ _ rfl rfl (fun h_ => ?_) (fun h_ => ?_)) | ((with_reducible show wpList _ _ _ (⟨_, .binOp .neq _ _ _ _, _, _, _, _⟩ :: _) _ _); refine st_neq rfl _ _ _ _ rfl _ _ _ rfl rfl (fun h_ => ?_) (fun h_ => ?_))) <;> go_prune)
        | (go_at_call 61; refine (rok_any _ _ _ hR.errc).mono ?_; rintro r_ w_ ⟨rfl, rfl⟩)
        | (go_at_call 62; refine (refuse_any _ _ hR).mono ?_; clear hR; rintro r_ w_ ⟨rfl, hR⟩)
        | ((with_reducible show wpList _ _ _ (⟨some 19, _, _, _, _, _⟩ :: _) _ _); refine st_iaddr1 (k := 0) hS rfl _ _ _ rfl _ rfl rfl (fun _ _ h => h.2) Tryz.underlying37 (by kernel_rfl) hlen _ f1 ?_; intro p_ hc_))
      · have hE : RES = (false, b :: rest, 6) := by rw [HE.out, if_pos (by omega)]
        subst hE; go_ret; exact ⟨rfl, hR⟩
      · refine (rtake_any 1 hlen hl hR).mono ?_
        rintro r w2 ⟨v2, rfl, hR2⟩
        obtain ⟨_, A2, c2, _, _, hS2⟩ := id hR2
        obtain ⟨A3, c3, rfl, _, _⟩ := hS2.ro.1.2.shape
        go_wp2_with (first
          | ((with_reducible show wpList _ _ _ (⟨_, .binOp _ _ _ _ _, _, _, _, _⟩ :: _) _ _); (first | ((with_reducible show wpList _ _ _ (⟨_, .binOp .lss _ _ _ _, _, _, _, _⟩ :: _) _ _); refine st_lss rfl _ _ _ _ rfl _ _ _ rfl rfl (fun h_ => ?_) (fun h_ => ?_)) | ((with_reducible show wpList _ _ _ (⟨_, .binOp .leq _ _ _ _, _, _, _, _⟩ :: _) _ _); refine st_leq rfl _ _ _ _ rfl _ _ _ rfl rfl (fun h_ => ?_) (fun h_ => ?_)) | ((with_reducible show wpList _ _ _ (⟨_, .binOp .gtr _ _ _ _, _, _, _, _⟩ :: _) _ _); refine st_gtr rfl _ _ _ _ rfl _ _ _ rfl rfl (fun h_ => ?_) (fun h_ => ?_)) | ((with_reducible show wpList _ _ _ (⟨_, .binOp .geq _ _ _ _, _, _, _, _⟩ :: _) _ _); refine st_geq rfl _ _ _ _ rfl _ _ _ rfl rfl (fun h_ => ?_) (fun h_ => ?_)) | ((with_reducible show wpList _ _ _ (⟨_, .binOp .eql _ _ _ _, _, _, _, _⟩ :: _) _ _); refine st_eql rfl _ _ _ _ rfl _ _ _ rfl rfl (fun h_ => ?_) (fun h_ => ?_)) | ((with_reducible show wpList _ _ _ (⟨_, .binOp .neq _ _ _ _, _, _, _, _⟩ :: _) _ _); refine st_neq rfl _ _ _ _ rfl _ _ _ rfl rfl (fun h_ => ?_) (fun h_ => ?_))) <;> go_prune)
          | ((with_reducible show wpList _ _ _ (⟨some 28, _, _, _, _, _⟩ :: _) _ _); refine st_iaddr1 (k := 0) hS2 rfl _ _ _ rfl _ rfl rfl (fun _ _ h => h.1.2) Tryz.underlying37 (by kernel_rfl) (by decide) _ f2 ?_; intro p2_ hc2_))
        · have hE : RES = (true, rest, 0) := by rw [HE.out, if_neg (by omega), show (b == 1) = true by simp; omega]
          subst hE; go_ret; exact ⟨rfl, hR2.weak HK.out fun _ _ h => h.1⟩
        · have hE : RES = (false, rest, 0) := by rw [HE.out, if_neg (by omega), show (b == 1) = false by simp; omega]
          subst hE; go_ret; exact ⟨rfl, hR2.weak HK.out fun _ _ h => h.1⟩
  · have hd : decide (err = 0) = false := by simpa using h0
    have HE := Lib.hid (show readFlag left err = (false, left, err) by unfold readFlag; rw [if_neg h0])
    go_enter Tryz.func33, Tryz.ntmps33
    go_wp2_with (go_at_call 61; refine (rok_any _ _ _ hR.errc).mono ?_; rw [hd]; rintro r_ w_ ⟨rfl, rfl⟩)
    rw [HE.out]
    go_ret
    exact ⟨rfl, hR⟩
end Go.Proofs.YtenpkgdnlogfiaaGreatDoor
namespace Go.Proofs.YtenpkgdnlogfiaaGreatDoor
open Go.RowKit
attribute [local go_sem ↓] Go.wp_at_zero Go.wp_at_succ
set_option maxRecDepth 20000

theorem rerr_any (q : Nat) (err : Int) (w : World) (hc : w.cell? ⟨q, 1, none⟩ = some (.int .i64 err)) :
    Calls Tryz.prog 69 #[.pointer (some ⟨q, 0, none⟩)] w fun e w' => e = .returned (.int .i64 err) ∧ w = w' := by
  go_enter Tryz.func69, Tryz.ntmps69
  go_wp2_with fail
  go_ret
  exact ⟨rfl, rfl⟩
/-- what End says -/
def endE (left : List Nat) (err : Int) : Int := if err = 0 ∧ left ≠ [] then 6 else err
theorem rend_any {w0 w : World} {X : List Fact} {K : (Nat → Prop) → World → Prop} {q : Nat} {left : List Nat} {err : Int} (hR : Rd w0 w X K q left err) :
    Calls Tryz.prog 37 #[.pointer (some ⟨q, 0, none⟩)] w fun e w' => e = .returned (.int .i64 (endE left err)) ∧ w = w' := by
  obtain ⟨_, A, c, l1, l2, hS⟩ := id hR
  go_enter Tryz.func37, Tryz.ntmps37
  by_cases h0 : err = 0
  · subst h0
    go_wp2_with (first | ((with_reducible show wpList _ _ _ (⟨_, .load _ _, _, _, _, _⟩ :: _) _ _); first | (refine st_cell hS 0 rfl _ _ rfl _ _ rfl _ _ rfl (by decide +kernel) _ (by first | assumption | rfl) ?_) | (refine st_cell hS 1 rfl _ _ rfl _ _ rfl _ _ rfl (by decide +kernel) _ (by first | assumption | rfl) ?_) | (refine st_cell hS 2 rfl _ _ rfl _ _ rfl _ _ rfl (by decide +kernel) _ (by first | assumption | rfl) ?_)) | ((with_reducible show wpList _ _ _ (⟨_, .binOp _ _ _ _ _, _, _, _, _⟩ :: _) _ _); (first | ((with_reducible show wpList _ _ _ (⟨_, .binOp .lss _ _ _ _, _, _, _, _⟩ :: _) _ _); refine st_lss rfl _ _ _ _ rfl _ _ _ rfl rfl (fun h_ => ?_) (fun h_ => ?_)) | ((with_reducible show wpList _ _ _ (⟨_, .binOp .leq _ _ _ _, _, _, _, _⟩ :: _) _ _); refine st_leq rfl _ _ _ _ rfl _ _ _ rfl rfl (fun h_ => ?_) (fun h_ => ?_)) | ((with_reducible show wpList _ _ _ (⟨_, .binOp .gtr _ _ _ _, _, _, _, _⟩ :: _) _ _); refine st_gtr rfl _ _ _ _ rfl _ _ _ rfl rfl (fun h_ => ?_) (fun h_ => ?_)) | ((with_reducible show wpList _ _ _ (⟨_, .binOp .geq _ _ _ _, _, _, _, _⟩ :: _) _ _); refine st_geq rfl _ _ _ _ rfl _ _ _ rfl rfl (fun h_ => ?_) (fun h_ => ?_)) | ((with_reducible show wpList _ _ _ (⟨_, .binOp .eql _ _ _ _, _, _, _, _⟩ :: _) _ _); refine st_eql rfl _ _ _ _ rfl _ _ _ rfl rfl (fun h_ => ?_) (fun h_ => ?_)) | ((with_reducible show wpList _ _ _ (⟨_, .binOp .neq _ _ _ _, _, _, _, _⟩ :: _) _ _); refine st_neq rfl _ _ _ _ rfl _ _ _ rfl rfl (fun h_ => ?_) (fun h_ => ?_))) <;> go_prune) | (go_at_call 61; refine (rok_any _ _ _ hR.errc).mono ?_; rintro r_ w_ ⟨rfl, rfl⟩) | (go_at_call 69; refine (rerr_any _ _ _ hR.errc).mono ?_; rintro r_ w_ ⟨rfl, rfl⟩))
    · have hE : endE left 0 = 6 := by
        unfold endE; rw [if_pos]; refine ⟨rfl, fun e => ?_⟩; subst e; simp at h_
      rw [hE]; go_ret; exact ⟨rfl, rfl⟩
    · have hE : endE left 0 = 0 := by
        unfold endE; rw [if_neg]; rintro ⟨_, h⟩; exact h (List.eq_nil_of_length_eq_zero (by omega))
      rw [hE]; go_ret; exact ⟨rfl, rfl⟩
  · have hd : decide (err = 0) = false := by simpa using h0
    have HE := Lib.hid (show endE left err = err by unfold endE; rw [if_neg]; rintro ⟨h, _⟩; exact h0 h)
    go_wp2_with (first | (go_at_call 61; refine (rok_any _ _ _ hR.errc).mono ?_; rw [hd]; rintro r_ w_ ⟨rfl, rfl⟩) | (go_at_call 69; refine (rerr_any _ _ _ hR.errc).mono ?_; rintro r_ w_ ⟨rfl, rfl⟩))
    rw [HE.out]
    go_ret
    exact ⟨rfl, rfl⟩
theorem rnew_any {w0 w : World} {F : List Fact} {K : (Nat → Prop) → World → Prop} (p : Value) (ps : List Nat) (hl : ps.length ≤ 1000000000000) {D : Nat → Prop} (hS : St w0 w F K) (hp : Sl w D 1 p ps.length (u8s ps)) :
    Calls Tryz.prog 31 #[p] w fun r w' => ∃ q, r = .returned (.pointer (some ⟨q, 0, none⟩)) ∧ Rd w0 w' F K q ps 0 := by
  obtain ⟨A, c, rfl, _, _⟩ := hp.shape
  have HC := Lib.hid (clone_bytes_any _ ps w _ hp hl)
  have HK := Lib.hid hS.stable
  clear hp
  go_enter Tryz.func31, Tryz.ntmps31
  go_wp2_with fail
  refine HC.out.mono ?_
  rintro r w2 ⟨v, rfl, h2, hb2⟩
  obtain ⟨A2, c2, rfl, l1, l2⟩ := h2.shape
  replace hS := hS.ret hb2 stable_sl h2
  go_wp2_with (first
    | ((with_reducible show wpList _ _ _ (⟨_, .build _ _, _, _, _, _⟩ :: _) _ _); refine wpList_build_of rfl _ _ rfl #[.slice A2 ps.length c2, .int .i64 0] (by kernel_rfl) ?_)
    | ((with_reducible show wpList _ _ _ (⟨some 6, _, _, _, _, _⟩ :: _) _ _); refine st_box hS rfl _ _ rfl (.agg #[.slice A2 ps.length c2, .int .i64 0]) _ rfl rfl ?_; clear hS; intro q w_ hS; (try simp only [Act.put, Act.eval, List.set_cons_zero, List.set_cons_succ, List.setIfInBounds_toArray, Array.getD_eq_getD_getElem?, List.getElem?_toArray, List.getElem?_cons_succ, List.getElem?_cons_zero, Option.getD_some, Value.cells] at hS)))
  go_ret
  exact ⟨_, rfl, HK.out, A2, c2, l1, by unfold maxLen; omega, hS⟩
/-- what Bytes reads -/
def readBytes (most : Nat) (left : List Nat) (err : Int) : List Nat × List Nat × Int :=
  if err = 0 then
    if (numR left 0 0).2 = 0 then ([], left, 6) else if most < (numR left 0 0).1 then ([], left, 3)
    else if left.length - (numR left 0 0).2 < (numR left 0 0).1 then ([], left, 6)
    else ((left.drop (numR left 0 0).2).take (numR left 0 0).1, (left.drop (numR left 0 0).2).drop (numR left 0 0).1, 0)
  else ([], left, err)
theorem rbytes_any {w0 w : World} {X : List Fact} {K : (Nat → Prop) → World → Prop} {q : Nat} {left : List Nat} {err : Int} (most : Nat) (hm : most ≤ 1000000000000) (hl : left.length ≤ 1000000000000) (hb : Bytes left) (hR : Rd w0 w X K q left err) :
    Calls Tryz.prog 67 #[.pointer (some ⟨q, 0, none⟩), .int .i64 most] w fun r w' => ∃ v, r = .returned v ∧ Rd w0 w' X (fun D w => K D w ∧ Sl w D 1 v (readBytes most left err).1.length (u8s (readBytes most left err).1)) q (readBytes most left err).2.1 (readBytes most left err).2.2 := by
  have HK := Lib.hid hR.1
  have hnil : ∀ D w, K D w → (K D w ∧ Sl w D 1 (.slice none 0 0) ([] : List Nat).length (u8s [])) := fun D w h => ⟨h, Sl.none_⟩
  have hw := wrap_u64_nat (m := most) (by unfold T64; omega)
  go_enter Tryz.func67, Tryz.ntmps67
  by_cases h0 : err = 0
  · subst h0
    have HE := Lib.hid (show readBytes most left 0 = if (numR left 0 0).2 = 0 then ([], left, 6) else if most < (numR left 0 0).1 then ([], left, 3)
      else if left.length - (numR left 0 0).2 < (numR left 0 0).1 then ([], left, 6)
      else ((left.drop (numR left 0 0).2).take (numR left 0 0).1, (left.drop (numR left 0 0).2).drop (numR left 0 0).1, 0) from rfl)
    generalize readBytes most left 0 = RES at *
    have hn := (numR_lt left 0 0 (by decide) hb).2
    have HN := Lib.hid fun (w : World) (h : Rd w0 w X K q left 0) => rnumber_any (w := w) hl hb h
    generalize numR left 0 0 = V at *
    obtain ⟨v, n⟩ := V
    dsimp only at hn HN HE
    have hsub : IntKind.i64.wrap ((left.length : Int) - n) = (left.length : Int) - n := by rw [IntKind.wrap_i64]; omega
    have hsub2 : IntKind.u64.wrap ((left.length : Int) - n) = (left.length : Int) - n := by rw [IntKind.wrap_u64]; omega
    go_wp2_with (first
      | ((with_reducible show wpList _ _ _ (⟨_, .binOp _ _ _ _ _, _, _, _, _⟩ :: _) _ _); (first | ((with_reducible show wpList _ _ _ (⟨_, .binOp .lss _ _ _ _, _, _, _, _⟩ :: _) _ _); refine st_lss rfl _ _ _ _ rfl _ _ _ rfl rfl (fun h_ => ?_) (fun h_ => ?_)) | ((with_reducible show wpList _ _ _ (⟨_, .binOp .leq _ _ _ _, _, _, _, _⟩ :: _) _ _); refine st_leq rfl _ _ _ _ rfl _ _ _ rfl rfl (fun h_ => ?_) (fun h_ => ?_)) | ((with_reducible show wpList _ _ _ (⟨_, .binOp .gtr _ _ _ _, _, _, _, _⟩ :: _) _ _); refine st_gtr rfl _ _ _ _ rfl _ _ _ rfl rfl (fun h_ => ?_) (fun h_ => ?_)) | ((with_reducible show wpList _ _ _ (⟨_, .binOp .geq _ _ _ _, _, _, _, _⟩ :: _) _ _); refine st_geq rfl _ _ _ _ rfl _ _ _ rfl rfl (fun h_ => ?_) (fun h_ => ?_)) | ((with_reducible show wpList _ _ _ (⟨_, .binOp .eql _ _ _ _, _, _, _, _⟩ :: _) _ _); refine st_eql rfl _ _ _ _ rfl _ _ _ rfl rfl (fun h_ => ?_) (fun h_ => ?_)) | ((with_reducible show wpList _ _ _ (⟨_, .binOp .neq _ _ _ _, _, _, _, _⟩ :: _) _ _); refine st_neq rfl _ _ _ _ rfl _ _ _ rfl rfl (fun h_ => ?_) (fun h_ => ?_))) <;> go_prune)
      | (go_at_call 61; refine (rok_any _ _ _ hR.errc).mono ?_; rintro r_ w_ ⟨rfl, rfl⟩)
      | (go_at_call 62; refine (refuse_any _ _ hR).mono ?_; clear hR; rintro r_ w_ ⟨rfl, hR⟩)
      | (go_at_call 64; refine (HN.out _ hR).mono ?_; rintro r_ w_ ⟨rfl, rfl⟩)
      | ((with_reducible show wpList _ _ _ (⟨some 42, _, _, _, _, _⟩ :: _) _ _); obtain ⟨_, A, c, l1, l2, hS⟩ := id hR; refine st_cell hS 0 rfl _ _ rfl _ _ rfl _ _ rfl (by decide +kernel) _ rfl ?_; clear hS))
    · have hE : RES = ([], left, 6) := by rw [HE.out, if_pos (by omega)]
      subst hE; go_ret; exact ⟨_, rfl, hR.weak (HK.out.and stable_sl) hnil⟩
    · have hE : RES = ([], left, 3) := by rw [HE.out, if_neg (by omega), if_pos (by omega)]
      subst hE; go_ret; exact ⟨_, rfl, hR.weak (HK.out.and stable_sl) hnil⟩
    · have hE : RES = ([], left, 6) := by rw [HE.out, if_neg (by omega), if_neg (by omega), if_pos (by omega)]
      subst hE; go_ret; exact ⟨_, rfl, hR.weak (HK.out.and stable_sl) hnil⟩
    · have hE : RES = ((left.drop n).take v, (left.drop n).drop v, 0) := by rw [HE.out, if_neg (by omega), if_neg (by omega), if_neg (by omega)]
      have hw2 := wrap_i64_nat (m := v) (by omega)
      have hle : v ≤ (left.drop n).length := by rw [List.length_drop]; omega
      have hl2 : (left.drop n).length ≤ 1000000000000 := by rw [List.length_drop]; omega
      refine (rtake_any n (by omega) hl hR).mono ?_
      rintro r w2 ⟨v2, rfl, hR2⟩
      replace hR2 := hR2.weak HK.out fun _ _ h => h.1
      go_wp2_with fail
      refine (rtake_any v hle hl2 hR2).mono ?_
      rintro r w3 ⟨v3, rfl, hR3⟩
      go_wp2_with fail
      subst hE; go_ret
      refine ⟨_, rfl, hR3.weak (HK.out.and stable_sl) fun D w h => ⟨h.1, ?_⟩⟩
      rw [show ((left.drop n).take v).length = v by rw [List.length_take]; omega]
      exact h.2
  · have hd : decide (err = 0) = false := by simpa using h0
    have HE := Lib.hid (show readBytes most left err = ([], left, err) by rw [readBytes, if_neg h0])
    go_wp2_with (go_at_call 61; refine (rok_any _ _ _ hR.errc).mono ?_; rw [hd]; rintro r_ w_ ⟨rfl, rfl⟩)
    rw [HE.out]
    go_ret
    exact ⟨_, rfl, hR.weak (HK.out.and stable_sl) hnil⟩
end Go.Proofs.YtenpkgdnlogfiaaGreatDoor
