/-
  What the statement needs, part 5.
-/
import Derived.Deep.Cut
import Derived.Deep.CutBlock
import Derived.Deep.MidRow
import Derived.Laws.CopyRow
import Derived.Laws.CopyOwn
import Derived.Laws.IdiomStrings
import Derived.Lib.BufferRead
import Derived.Test.YtmlkgaiphpimiaaDoorShelf
import Derived.Test.YtmlkgaiphpimiaaDoorHby4
namespace Go.Proofs.YtmlkgaiphpimiaaDoor
open Go.RowKit
attribute [local go_sem ↓] Go.wp_at_zero Go.wp_at_succ
set_option maxRecDepth 20000
set_option exponentiation.threshold 5000

def implR (L : List (Nat × Nat)) (r s : Int) : Prop := ∃ i j : Nat, r = (i : Int) ∧ s = (j : Int) ∧ (1 ≤ i ∧ i < 64) ∧ (1 ≤ j ∧ j < 64) ∧ (i = j ∨ TC L i j)
noncomputable def junR (L : List (Nat × Nat)) (r : Int) : Nat := if 1 ≤ r ∧ r ≤ 63 then junM L r.toNat else 0
theorem rjun_any {w0 : World} {D : Nat → Prop} {pv : Value} {L : List (Nat × Nat)} (h : Sl w0 D 2 pv L.length (pcells L)) (hL : Inr 64 L) (hl : L.length ≤ 1000000) (r : Int) :
    Calls Tryd.prog 38 #[pv, .int .i64 r] w0 (Ret (fun x _ => x = .int .u64 (junR L r : Nat)) w0) := by
  obtain ⟨A, c, rfl, _, _⟩ := h.shape
  obtain ⟨K, kp, hS⟩ : ∃ K : (Nat → Prop) → World → Prop, (∀ D w, K D w → Sl w D 2 (.slice A L.length c) L.length (pcells L)) ∧ St w0 w0 [] K := ⟨_, fun _ _ h => h, St.start (stable_sl (by decide)) h⟩
  clear h
  by_cases hr : 1 ≤ r ∧ r ≤ 63
  · obtain ⟨k, rfl⟩ : ∃ k : Nat, r = (k : Int) := ⟨r.toNat, by omega⟩
    have HR := Lib.hid (decide_eq_true hr)
    have hk : k < 64 := by omega
    have HJ := Lib.hid (show junR L (k : Int) = junM L k by rw [junR, if_pos hr, Int.toNat_natCast])
    have HL := Lib.hid hL
    have H0 : Hid (JunOK L k (2 ^ k) ∧ 2 ^ k < 2 ^ 64) := Lib.hid ⟨JunOK.start L k, Nat.pow_lt_pow_right (by decide) hk⟩
    clear hr hL
    go_enter Tryd.func38, Tryd.ntmps38
    go_wp2_with (first
      | (go_at_call 57; refine (rrole_any _ _).mono ?_; rw [HR.out]; rintro r_ w_ ⟨_, rfl, rfl, hb_⟩; replace hS := hS.ext hb_; clear hb_)
      | ((with_reducible show wpList _ _ _ (⟨_, .binOp .shl _ _ _ _, _, _, _, _⟩ :: _) _ _); refine st_shl1 rfl _ _ _ _ rfl _ rfl rfl hk ?_))
    go_loopw [5] (fun v wr => ∃ s : Nat, v = .int .u64 (s : Nat) ∧ Hid (JunOK L k s ∧ s < 2 ^ 64) ∧ St w0 wr [] K) (fun v _ => outN (intOf v).toNat)
    case atStart => exact ⟨_, rfl, H0, hS⟩
    case round =>
      clear hS H0
      obtain ⟨s, rfl, HS, hS⟩ := hrel
      go_wp2_with (first | ((with_reducible show wpList _ _ _ (⟨_, .binOp _ _ _ _ _, _, _, _, _⟩ :: _) _ _); (first | (refine st_lss rfl _ _ _ _ rfl _ _ _ rfl rfl (fun h_ => ?_) (fun h_ => ?_)) | (refine st_leq rfl _ _ _ _ rfl _ _ _ rfl rfl (fun h_ => ?_) (fun h_ => ?_)) | (refine st_gtr rfl _ _ _ _ rfl _ _ _ rfl rfl (fun h_ => ?_) (fun h_ => ?_)) | (refine st_geq rfl _ _ _ _ rfl _ _ _ rfl rfl (fun h_ => ?_) (fun h_ => ?_)) | (refine st_eql rfl _ _ _ _ rfl _ _ _ rfl rfl (fun h_ => ?_) (fun h_ => ?_)) | (refine st_neq rfl _ _ _ _ rfl _ _ _ rfl rfl (fun h_ => ?_) (fun h_ => ?_))) <;> go_prune))
      go_loopw [6, 17] (fun m i wr => ∃ j : Nat, j ≤ L.length ∧ i = .int .i64 (j : Nat) ∧ m = .int .u64 (jTo L s j : Nat) ∧ St w0 wr [] K) (fun _ i _ => L.length - (intOf i).toNat)
      case atStart => exact ⟨0, by omega, rfl, by simp [jTo], hS⟩
      case round =>
        clear hS
        obtain ⟨j, hj, rfl, rfl, hS⟩ := hrel
        by_cases hlj : j < L.length
        · obtain ⟨f1, f2⟩ := pcells_at L j hlj
          have HG := Lib.hid (getD_at (0, 0) hlj)
          have hm := HL.out (L.getD j (0, 0)) (by rw [List.getD_eq_getElem?_getD, List.getElem?_eq_getElem hlj]; exact List.getElem_mem hlj)
          have HSt := Lib.hid (jTo_step (s := s) HG.out)
          have hM : jTo L s j < T64 := by rw [T64_eq]; exact jTo_lt HL.out HS.out.2
          generalize L.getD j (0, 0) = x at *
          generalize jTo L s j = M at *
          obtain ⟨xa, xb⟩ := x
          dsimp only at f1 f2 hm HSt
          obtain ⟨hxa, hxb⟩ := hm
          cases hbit : s.testBit xa
          · rw [hbit] at HSt
            have HE := Lib.hid (HSt.out.trans (if_neg (by simp)))
            go_wp2_with (first
              | ((with_reducible show wpList _ _ _ (⟨_, .binOp .shr _ _ _ _, _, _, _, _⟩ :: _) _ _); refine st_shrN rfl _ _ _ _ rfl _ _ rfl rfl (by omega) ?_)
              | ((with_reducible show wpList _ _ _ (⟨_, .binOp .rem _ _ _ _, _, _, _, _⟩ :: _) _ _); refine st_rem2 rfl _ _ _ _ rfl _ rfl rfl ?_)
              | ((with_reducible show wpList _ _ _ (⟨some 26, _, _, _, _, _⟩ :: _) _ _); refine st_btest rfl _ _ _ _ rfl _ _ rfl rfl hbit ?_)
              | ((with_reducible show wpList _ _ _ (⟨_, .binOp _ _ _ _ _, _, _, _, _⟩ :: _) _ _); (first | (refine st_lss rfl _ _ _ _ rfl _ _ _ rfl rfl (fun h_ => ?_) (fun h_ => ?_)) | (refine st_leq rfl _ _ _ _ rfl _ _ _ rfl rfl (fun h_ => ?_) (fun h_ => ?_)) | (refine st_gtr rfl _ _ _ _ rfl _ _ _ rfl rfl (fun h_ => ?_) (fun h_ => ?_)) | (refine st_geq rfl _ _ _ _ rfl _ _ _ rfl rfl (fun h_ => ?_) (fun h_ => ?_)) | (refine st_eql rfl _ _ _ _ rfl _ _ _ rfl rfl (fun h_ => ?_) (fun h_ => ?_)) | (refine st_neq rfl _ _ _ _ rfl _ _ _ rfl rfl (fun h_ => ?_) (fun h_ => ?_))) <;> go_prune)
              | ((with_reducible show wpList _ _ _ (⟨_, .indexAddr _ _ _, _, _, _, _⟩ :: _) _ _); refine st_iaddr2 hS rfl _ _ _ rfl _ rfl rfl (by assumption) Tryd.underlying25 (by kernel_rfl) (by first | assumption | omega) _ _ (by assumption) (by assumption) ?_; intro b_ j_ hc0_ hc1_)
              | ((with_reducible show wpList _ _ _ (⟨some 8, _, _, _, _, _⟩ :: _) _ _); refine st_alloc hS rfl _ rfl (by kernel_rfl) ?_; clear hS; intro g4 w_ hS; (try simp only [Act.put, Act.eval, List.set_cons_zero, List.set_cons_succ, List.setIfInBounds_toArray, Array.getD_eq_getD_getElem?, List.getElem?_toArray, List.getElem?_cons_succ, List.getElem?_cons_zero, Option.getD_some, Value.cells] at hS))
              | ((with_reducible show wpList _ _ _ (⟨_, .store _ _ _, _, _, _, _⟩ :: _) _ _); (first | (refine st_store hS 0 rfl _ _ _ rfl _ _ rfl rfl _ _ rfl (by kernel_rfl) (by kernel_rfl) (by kernel_rfl) ?_) | (refine st_store hS 1 rfl _ _ _ rfl _ _ rfl rfl _ _ rfl (by kernel_rfl) (by kernel_rfl) (by kernel_rfl) ?_) | (refine st_store hS 2 rfl _ _ _ rfl _ _ rfl rfl _ _ rfl (by kernel_rfl) (by kernel_rfl) (by kernel_rfl) ?_) | (refine st_store hS 3 rfl _ _ _ rfl _ _ rfl rfl _ _ rfl (by kernel_rfl) (by kernel_rfl) (by kernel_rfl) ?_) | (refine st_cstore hS 0 rfl _ _ _ rfl _ _ _ rfl rfl rfl (by first | (simp; done) | (simp; omega) | exact of_decide_eq_true (by kernel_rfl)) rfl (by first | rfl | assumption) (by kernel_rfl) ?_) | (refine st_cstore hS 1 rfl _ _ _ rfl _ _ _ rfl rfl rfl (by first | (simp; done) | (simp; omega) | exact of_decide_eq_true (by kernel_rfl)) rfl (by first | rfl | assumption) (by kernel_rfl) ?_) | (refine st_cstore hS 2 rfl _ _ _ rfl _ _ _ rfl rfl rfl (by first | (simp; done) | (simp; omega) | exact of_decide_eq_true (by kernel_rfl)) rfl (by first | rfl | assumption) (by kernel_rfl) ?_) | (refine st_cstore hS 3 rfl _ _ _ rfl _ _ _ rfl rfl rfl (by first | (simp; done) | (simp; omega) | exact of_decide_eq_true (by kernel_rfl)) rfl (by first | rfl | assumption) (by kernel_rfl) ?_)); clear hS; intro w_ hS; (try simp only [Act.put, Act.eval, List.set_cons_zero, List.set_cons_succ, List.setIfInBounds_toArray, Array.getD_eq_getD_getElem?, List.getElem?_toArray, List.getElem?_cons_succ, List.getElem?_cons_zero, Option.getD_some, Value.cells] at hS))
              | ((with_reducible show wpList _ _ _ (⟨_, .load _ _, _, _, _, _⟩ :: _) _ _); first | (refine st_cell hS 0 rfl _ _ rfl _ _ rfl _ _ rfl (by decide +kernel) _ (by first | assumption | rfl) ?_) | (refine st_cell hS 1 rfl _ _ rfl _ _ rfl _ _ rfl (by decide +kernel) _ (by first | assumption | rfl) ?_) | (refine st_cell hS 2 rfl _ _ rfl _ _ rfl _ _ rfl (by decide +kernel) _ (by first | assumption | rfl) ?_) | (refine st_cell hS 3 rfl _ _ rfl _ _ rfl _ _ rfl (by decide +kernel) _ (by first | assumption | rfl) ?_) | (refine st_cell hS 4 rfl _ _ rfl _ _ rfl _ _ rfl (by decide +kernel) _ (by first | assumption | rfl) ?_) | (refine st_cell hS 5 rfl _ _ rfl _ _ rfl _ _ rfl (by decide +kernel) _ (by first | assumption | rfl) ?_) | (refine st_cell hS 6 rfl _ _ rfl _ _ rfl _ _ rfl (by decide +kernel) _ (by first | assumption | rfl) ?_) | (refine st_cell hS 7 rfl _ _ rfl _ _ rfl _ _ rfl (by decide +kernel) _ (by first | assumption | rfl) ?_)))
            exact ⟨⟨j + 1, hlj, by go_num, by rw [HE.out], hS.sub (List.sublist_cons_self _ _)⟩, by simp [intOf]; omega⟩
          · rw [hbit] at HSt
            have HE := Lib.hid (HSt.out.trans (if_pos rfl))
            go_wp2_with (first
              | ((with_reducible show wpList _ _ _ (⟨_, .binOp .shr _ _ _ _, _, _, _, _⟩ :: _) _ _); refine st_shrN rfl _ _ _ _ rfl _ _ rfl rfl (by omega) ?_)
              | ((with_reducible show wpList _ _ _ (⟨_, .binOp .rem _ _ _ _, _, _, _, _⟩ :: _) _ _); refine st_rem2 rfl _ _ _ _ rfl _ rfl rfl ?_)
              | ((with_reducible show wpList _ _ _ (⟨_, .binOp .shl _ _ _ _, _, _, _, _⟩ :: _) _ _); refine st_shl1 rfl _ _ _ _ rfl _ rfl rfl hxb ?_)
              | ((with_reducible show wpList _ _ _ (⟨_, .binOp .or _ _ _ _, _, _, _, _⟩ :: _) _ _); refine st_orN rfl _ _ _ _ rfl _ _ rfl rfl hM (pow_lt_64 hxb) ?_)
              | ((with_reducible show wpList _ _ _ (⟨some 26, _, _, _, _, _⟩ :: _) _ _); refine st_btest rfl _ _ _ _ rfl _ _ rfl rfl hbit ?_)
              | ((with_reducible show wpList _ _ _ (⟨_, .binOp _ _ _ _ _, _, _, _, _⟩ :: _) _ _); (first | (refine st_lss rfl _ _ _ _ rfl _ _ _ rfl rfl (fun h_ => ?_) (fun h_ => ?_)) | (refine st_leq rfl _ _ _ _ rfl _ _ _ rfl rfl (fun h_ => ?_) (fun h_ => ?_)) | (refine st_gtr rfl _ _ _ _ rfl _ _ _ rfl rfl (fun h_ => ?_) (fun h_ => ?_)) | (refine st_geq rfl _ _ _ _ rfl _ _ _ rfl rfl (fun h_ => ?_) (fun h_ => ?_)) | (refine st_eql rfl _ _ _ _ rfl _ _ _ rfl rfl (fun h_ => ?_) (fun h_ => ?_)) | (refine st_neq rfl _ _ _ _ rfl _ _ _ rfl rfl (fun h_ => ?_) (fun h_ => ?_))) <;> go_prune)
              | ((with_reducible show wpList _ _ _ (⟨_, .indexAddr _ _ _, _, _, _, _⟩ :: _) _ _); refine st_iaddr2 hS rfl _ _ _ rfl _ rfl rfl (by assumption) Tryd.underlying25 (by kernel_rfl) (by first | assumption | omega) _ _ (by assumption) (by assumption) ?_; intro b_ j_ hc0_ hc1_)
              | ((with_reducible show wpList _ _ _ (⟨some 8, _, _, _, _, _⟩ :: _) _ _); refine st_alloc hS rfl _ rfl (by kernel_rfl) ?_; clear hS; intro g4 w_ hS; (try simp only [Act.put, Act.eval, List.set_cons_zero, List.set_cons_succ, List.setIfInBounds_toArray, Array.getD_eq_getD_getElem?, List.getElem?_toArray, List.getElem?_cons_succ, List.getElem?_cons_zero, Option.getD_some, Value.cells] at hS))
              | ((with_reducible show wpList _ _ _ (⟨_, .store _ _ _, _, _, _, _⟩ :: _) _ _); (first | (refine st_store hS 0 rfl _ _ _ rfl _ _ rfl rfl _ _ rfl (by kernel_rfl) (by kernel_rfl) (by kernel_rfl) ?_) | (refine st_store hS 1 rfl _ _ _ rfl _ _ rfl rfl _ _ rfl (by kernel_rfl) (by kernel_rfl) (by kernel_rfl) ?_) | (refine st_store hS 2 rfl _ _ _ rfl _ _ rfl rfl _ _ rfl (by kernel_rfl) (by kernel_rfl) (by kernel_rfl) ?_) | (refine st_store hS 3 rfl _ _ _ rfl _ _ rfl rfl _ _ rfl (by kernel_rfl) (by kernel_rfl) (by kernel_rfl) ?_) | (refine st_cstore hS 0 rfl _ _ _ rfl _ _ _ rfl rfl rfl (by first | (simp; done) | (simp; omega) | exact of_decide_eq_true (by kernel_rfl)) rfl (by first | rfl | assumption) (by kernel_rfl) ?_) | (refine st_cstore hS 1 rfl _ _ _ rfl _ _ _ rfl rfl rfl (by first | (simp; done) | (simp; omega) | exact of_decide_eq_true (by kernel_rfl)) rfl (by first | rfl | assumption) (by kernel_rfl) ?_) | (refine st_cstore hS 2 rfl _ _ _ rfl _ _ _ rfl rfl rfl (by first | (simp; done) | (simp; omega) | exact of_decide_eq_true (by kernel_rfl)) rfl (by first | rfl | assumption) (by kernel_rfl) ?_) | (refine st_cstore hS 3 rfl _ _ _ rfl _ _ _ rfl rfl rfl (by first | (simp; done) | (simp; omega) | exact of_decide_eq_true (by kernel_rfl)) rfl (by first | rfl | assumption) (by kernel_rfl) ?_)); clear hS; intro w_ hS; (try simp only [Act.put, Act.eval, List.set_cons_zero, List.set_cons_succ, List.setIfInBounds_toArray, Array.getD_eq_getD_getElem?, List.getElem?_toArray, List.getElem?_cons_succ, List.getElem?_cons_zero, Option.getD_some, Value.cells] at hS))
              | ((with_reducible show wpList _ _ _ (⟨_, .load _ _, _, _, _, _⟩ :: _) _ _); first | (refine st_cell hS 0 rfl _ _ rfl _ _ rfl _ _ rfl (by decide +kernel) _ (by first | assumption | rfl) ?_) | (refine st_cell hS 1 rfl _ _ rfl _ _ rfl _ _ rfl (by decide +kernel) _ (by first | assumption | rfl) ?_) | (refine st_cell hS 2 rfl _ _ rfl _ _ rfl _ _ rfl (by decide +kernel) _ (by first | assumption | rfl) ?_) | (refine st_cell hS 3 rfl _ _ rfl _ _ rfl _ _ rfl (by decide +kernel) _ (by first | assumption | rfl) ?_) | (refine st_cell hS 4 rfl _ _ rfl _ _ rfl _ _ rfl (by decide +kernel) _ (by first | assumption | rfl) ?_) | (refine st_cell hS 5 rfl _ _ rfl _ _ rfl _ _ rfl (by decide +kernel) _ (by first | assumption | rfl) ?_) | (refine st_cell hS 6 rfl _ _ rfl _ _ rfl _ _ rfl (by decide +kernel) _ (by first | assumption | rfl) ?_) | (refine st_cell hS 7 rfl _ _ rfl _ _ rfl _ _ rfl (by decide +kernel) _ (by first | assumption | rfl) ?_)))
            exact ⟨⟨j + 1, hlj, by go_num, by rw [HE.out], hS.sub (List.sublist_cons_self _ _)⟩, by simp [intOf]; omega⟩
        · obtain rfl : j = L.length := by omega
          have HM : Hid (jTo L s L.length < 2 ^ 64 ∧ JunOK L k (jTo L s L.length) ∧ (∀ i, s.testBit i = true → (jTo L s L.length).testBit i = true)) := Lib.hid ⟨jTo_lt HL.out HS.out.2, HS.out.1.next, fun i hi => (tb_jTo (Nat.le_refl _)).2 (.inl hi)⟩
          by_cases he : jTo L s L.length = s
          · have HF := Lib.hid (HS.out.1.stop HL.out hk he)
            rw [he]
            go_wp2_with (first | ((with_reducible show wpList _ _ _ (⟨_, .binOp _ _ _ _ _, _, _, _, _⟩ :: _) _ _); (first | (refine st_lss rfl _ _ _ _ rfl _ _ _ rfl rfl (fun h_ => ?_) (fun h_ => ?_)) | (refine st_leq rfl _ _ _ _ rfl _ _ _ rfl rfl (fun h_ => ?_) (fun h_ => ?_)) | (refine st_gtr rfl _ _ _ _ rfl _ _ _ rfl rfl (fun h_ => ?_) (fun h_ => ?_)) | (refine st_geq rfl _ _ _ _ rfl _ _ _ rfl rfl (fun h_ => ?_) (fun h_ => ?_)) | (refine st_eql rfl _ _ _ _ rfl _ _ _ rfl rfl (fun h_ => ?_) (fun h_ => ?_)) | (refine st_neq rfl _ _ _ _ rfl _ _ _ rfl rfl (fun h_ => ?_) (fun h_ => ?_))) <;> go_prune))
            go_ret
            exact Ret.mk (by rw [HJ.out, ← HF.out]; rfl) hS.below
          · have HO := Lib.hid (outN_lt HS.out.2 HM.out.1 HM.out.2.2 he)
            generalize jTo L s L.length = M at *
            have he2 : ¬ (M : Int) = (s : Int) := by omega
            go_wp2_with (first | ((with_reducible show wpList _ _ _ (⟨_, .binOp _ _ _ _ _, _, _, _, _⟩ :: _) _ _); (first | (refine st_lss rfl _ _ _ _ rfl _ _ _ rfl rfl (fun h_ => ?_) (fun h_ => ?_)) | (refine st_leq rfl _ _ _ _ rfl _ _ _ rfl rfl (fun h_ => ?_) (fun h_ => ?_)) | (refine st_gtr rfl _ _ _ _ rfl _ _ _ rfl rfl (fun h_ => ?_) (fun h_ => ?_)) | (refine st_geq rfl _ _ _ _ rfl _ _ _ rfl rfl (fun h_ => ?_) (fun h_ => ?_)) | (refine st_eql rfl _ _ _ _ rfl _ _ _ rfl rfl (fun h_ => ?_) (fun h_ => ?_)) | (refine st_neq rfl _ _ _ _ rfl _ _ _ rfl rfl (fun h_ => ?_) (fun h_ => ?_))) <;> go_prune))
            exact ⟨⟨M, rfl, Lib.hid ⟨HM.out.2.1, HM.out.1⟩, hS⟩, by simpa [intOf] using HO.out⟩
  · have HR := Lib.hid (decide_eq_false hr)
    have HJ := Lib.hid (show junR L r = 0 by rw [junR, if_neg hr])
    rw [HJ.out]
    clear hr
    go_enter Tryd.func38, Tryd.ntmps38
    go_wp2_with (first
      | (go_at_call 57; refine (rrole_any _ _).mono ?_; rw [HR.out]; rintro r_ w_ ⟨_, rfl, rfl, hb_⟩; replace hS := hS.ext hb_; clear hb_))
    go_ret
    exact Ret.mk rfl hS.below
theorem impl_junR {L : List (Nat × Nat)} (hL : Inr 64 L) (r s : Int) : (1 ≤ s ∧ s ≤ 63) ∧ (junR L r).testBit s.toNat = true ↔ implR L r s := by
  unfold junR implR
  constructor
  · rintro ⟨h1, h2⟩
    by_cases hr : 1 ≤ r ∧ r ≤ 63
    · rw [if_pos hr, tb_jun hL (by omega)] at h2
      exact ⟨r.toNat, s.toNat, by omega, by omega, by omega, by omega, h2.imp (fun h => h.symm) id⟩
    · rw [if_neg hr, Nat.zero_testBit] at h2; cases h2
  · rintro ⟨i, j, rfl, rfl, h1, h2, h3⟩
    refine ⟨by omega, ?_⟩
    rw [if_pos (by omega), Int.toNat_natCast, Int.toNat_natCast, tb_jun hL (by omega)]
    exact h3.imp (fun h => h.symm) id
theorem rimpl_any {w0 : World} {D : Nat → Prop} {pv : Value} {L : List (Nat × Nat)} (h : Sl w0 D 2 pv L.length (pcells L)) (hL : Inr 64 L) (hl : L.length ≤ 1000000) (r s : Int) :
    Calls Tryd.prog 16 #[pv, .int .i64 r, .int .i64 s] w0 (Ret (fun x _ => ∃ c : Bool, x = .bool c ∧ (c = true ↔ implR L r s)) w0) := by
  have HJ := Lib.hid (fun w (hb : Below w0.heap.size w0 w) => rjun_any (h.ext hb) hL hl r)
  have HI := Lib.hid (impl_junR hL r s)
  by_cases hs : 1 ≤ s ∧ s ≤ 63
  · obtain ⟨k, rfl⟩ : ∃ k : Nat, s = (k : Int) := ⟨s.toNat, by omega⟩
    have HR := Lib.hid (decide_eq_true hs)
    have hk : k < 64 := by omega
    rw [Int.toNat_natCast] at HI
    have HI2 : Hid ((junR L r).testBit k = true ↔ implR L r k) := Lib.hid ⟨fun h => HI.out.1 ⟨hs, h⟩, fun h => (HI.out.2 h).2⟩
    clear hs HI
    obtain ⟨b, hb0⟩ : ∃ b, (junR L r).testBit k = b := ⟨_, rfl⟩
    have hb := Lib.hid hb0
    rw [hb0] at HI2
    generalize junR L r = J at *
    clear hb0
    go_enter Tryd.func16, Tryd.ntmps16
    go_wp2_with (first
      | (go_at_call 57; refine (rrole_any _ _).mono ?_; rw [HR.out]; rintro r_ w_ ⟨_, rfl, rfl, hb_⟩)
      | (go_at_call 38; refine (HJ.out _ hb_).mono ?_; rintro r_ w2 ⟨_, rfl, rfl, hb2⟩)
      | ((with_reducible show wpList _ _ _ (⟨_, .binOp .shr _ _ _ _, _, _, _, _⟩ :: _) _ _); refine st_shrN rfl _ _ _ _ rfl _ _ rfl rfl (by omega) ?_)
      | ((with_reducible show wpList _ _ _ (⟨_, .binOp .rem _ _ _ _, _, _, _, _⟩ :: _) _ _); refine st_rem2 rfl _ _ _ _ rfl _ rfl rfl ?_)
      | ((with_reducible show wpList _ _ _ (⟨some 16, _, _, _, _, _⟩ :: _) _ _); refine st_btest rfl _ _ _ _ rfl _ _ rfl rfl hb.out ?_))
    go_ret
    exact Ret.mk ⟨b, rfl, HI2.out⟩ (bel_tr hb_ hb2)
  · have HR := Lib.hid (decide_eq_false hs)
    have HI2 : Hid (¬ implR L r s) := Lib.hid fun h => hs (HI.out.2 h).1
    clear hs HI
    go_enter Tryd.func16, Tryd.ntmps16
    go_wp2_with (first
      | (go_at_call 57; refine (rrole_any _ _).mono ?_; rw [HR.out]; rintro r_ w_ ⟨_, rfl, rfl, hb_⟩))
    go_ret
    exact Ret.mk ⟨false, rfl, fun h => by simp at h, fun h => absurd h HI2.out⟩ hb_
end Go.Proofs.YtmlkgaiphpimiaaDoor
namespace Go.Proofs.YtmlkgaiphpimiaaDoor
open Go.RowKit
attribute [local go_sem ↓] Go.wp_at_zero Go.wp_at_succ
set_option maxRecDepth 20000
set_option exponentiation.threshold 5000

def twoR (a b : Int) : Prop := (1 ≤ a ∧ a ≤ 63) ∧ (1 ≤ b ∧ b ≤ 63) ∧ a ≠ b
def RLinkP (w0 : World) (pv : Value) (L : List (Nat × Nat)) (a b : Int) (e : Ending) (w' : World) : Prop :=
  (¬ twoR a b ∧ e = .returned (.tuple #[pv, .int .i64 1]) ∧ Below w0.heap.size w0 w') ∨
  ∃ x y : Nat, a = (x : Int) ∧ b = (y : Int) ∧ (1 ≤ x ∧ x < 64) ∧ (1 ≤ y ∧ y < 64) ∧ x ≠ y ∧
    (((x, y) ∈ L ∧ e = .returned (.tuple #[pv, .int .i64 5]) ∧ Below w0.heap.size w0 w') ∨
     ((x, y) ∉ L ∧ TC L y x ∧ e = .returned (.tuple #[pv, .int .i64 16]) ∧ Below w0.heap.size w0 w') ∨
     ((x, y) ∉ L ∧ ¬ TC L y x ∧ ∃ v, e = .returned (.tuple #[v, .int .i64 0]) ∧ St w0 w' [.own v 50 2 (L.length + 1) (pcells (ins L (x, y)))] fun _ _ => True))
theorem ins_at {L : List (Nat × Nat)} {y : Nat × Nat} {i : Nat} (h : i ≤ insAt L y) {x : Nat × Nat} (hx : L[i]? = some x) : (plt x y → i + 1 ≤ insAt L y) ∧ (¬ plt x y → i = insAt L y) := by
  constructor
  · intro hp
    rcases Nat.lt_or_ge i (insAt L y) with h1 | h1
    · exact h1
    · obtain rfl : i = insAt L y := by omega
      exact absurd hp (insAt_stop hx)
  · intro hp
    rcases Nat.lt_or_ge i (insAt L y) with h1 | h1
    · obtain ⟨z, h2, h3⟩ := insAt_lt h1
      rw [hx] at h2
      cases h2
      exact absurd h3 hp
    · omega
theorem pcells_drop (L : List (Nat × Nat)) : ∀ k, (pcells L).drop (k * 2) = pcells (L.drop k) := by
  induction L with
  | nil => intro k; simp [pcells]
  | cons x L ih =>
    intro k
    cases k with
    | zero => simp [pcells]
    | succ k => rw [show (k + 1) * 2 = k * 2 + 1 + 1 by omega, pcells_cons]; simp [ih]
def linkD (L : List (Nat × Nat)) (z : Nat × Nat) (i : Nat) : AD := ⟨50, 2, 4, fun s => match s with | 0 => 0 | 1 => 0 + i | 2 => 0 + i + 1 | _ => 0 + i + 1 + (L.length - i), fun s => match s with | 0 => [] | 1 => [] ++ (pcells L).take (i * 2) | 2 => [] ++ (pcells L).take (i * 2) ++ pcells [z] | _ => [] ++ (pcells L).take (i * 2) ++ pcells [z] ++ (pcells L).drop (i * 2), fun _ v => .own v 50 2 1 (pcells [z])⟩
def linkK : List (Nat × (Bool × Nat)) := [(0, (true, 0)), (4, (true, 1)), (8, (false, 0)), (9, (true, 2)), (13, (true, 3))]
set_option maxHeartbeats 2000000 in
theorem rlink_any {w0 : World} {D : Nat → Prop} {pv : Value} {L : List (Nat × Nat)} (h : Sl w0 D 2 pv L.length (pcells L)) (hL : Inr 64 L) (hl : L.length ≤ 1000000) (a b : Int) :
    Calls Tryd.prog 68 #[pv, .int .i64 a, .int .i64 b] w0 (RLinkP w0 pv L a b) := by
  obtain ⟨A, c, rfl, hc1, _⟩ := h.shape
  obtain ⟨K, kp, hS⟩ : ∃ K : (Nat → Prop) → World → Prop, (∀ D w, K D w → Sl w D 2 (.slice A L.length c) L.length (pcells L)) ∧ St w0 w0 [] K := ⟨_, fun _ _ h => h, St.start (stable_sl (by decide)) h⟩
  clear h
  have HH := Lib.hid (fun (w : World) (D : Nat → Prop) (h : Sl w D 2 (.slice A L.length c) L.length (pcells L)) => rhas_any h hl a b)
  have HI := Lib.hid (fun (w : World) (D : Nat → Prop) (h : Sl w D 2 (.slice A L.length c) L.length (pcells L)) => rimpl_any h hL hl b a)
  by_cases hra : 1 ≤ a ∧ a ≤ 63
  · have HRA := Lib.hid (decide_eq_true hra)
    by_cases hrb : 1 ≤ b ∧ b ≤ 63
    · have HRB := Lib.hid (decide_eq_true hrb)
      by_cases hab : a = b
      · subst hab
        have HNO : Hid (¬ twoR a a) := Lib.hid fun h => h.2.2 rfl
        clear hra hrb
        go_enter Tryd.func68, Tryd.ntmps68
        go_wp2_with (first
          | ((with_reducible show wpList _ _ _ (⟨_, .binOp _ _ _ _ _, _, _, _, _⟩ :: _) _ _); (first | (refine st_lss rfl _ _ _ _ rfl _ _ _ rfl rfl (fun h_ => ?_) (fun h_ => ?_)) | (refine st_leq rfl _ _ _ _ rfl _ _ _ rfl rfl (fun h_ => ?_) (fun h_ => ?_)) | (refine st_gtr rfl _ _ _ _ rfl _ _ _ rfl rfl (fun h_ => ?_) (fun h_ => ?_)) | (refine st_geq rfl _ _ _ _ rfl _ _ _ rfl rfl (fun h_ => ?_) (fun h_ => ?_)) | (refine st_eql rfl _ _ _ _ rfl _ _ _ rfl rfl (fun h_ => ?_) (fun h_ => ?_)) | (refine st_neq rfl _ _ _ _ rfl _ _ _ rfl rfl (fun h_ => ?_) (fun h_ => ?_))) <;> go_prune)
          | (go_at_call 57; refine (rrole_any _ _).mono ?_; (first | rw [HRA.out] | rw [HRB.out]); rintro r_ w_ ⟨_, rfl, rfl, hb_⟩; replace hS := hS.ext hb_; clear hb_))
        go_ret2
        exact .inl ⟨HNO.out, rfl, hS.below⟩
      · obtain ⟨x, rfl⟩ : ∃ x : Nat, a = (x : Int) := ⟨a.toNat, by omega⟩
        obtain ⟨y, rfl⟩ : ∃ y : Nat, b = (y : Int) := ⟨b.toNat, by omega⟩
        have hx1 : Hid (1 ≤ x ∧ x < 64) := Lib.hid (by omega)
        have hy1 : Hid (1 ≤ y ∧ y < 64) := Lib.hid (by omega)
        have hxy : Hid (x ≠ y) := Lib.hid (by omega)
        have HC1 : Hid (∀ c : Bool, (c = true ↔ ∃ z ∈ L, (x : Int) = (z.1 : Int) ∧ (y : Int) = (z.2 : Int)) → c = decide ((x, y) ∈ L)) := Lib.hid fun c hc => by
          rw [Bool.eq_iff_iff, hc, decide_eq_true_iff]
          constructor
          · rintro ⟨⟨za, zb⟩, h1, h2, h3⟩
            dsimp only at h2 h3
            obtain rfl : x = za := by omega
            obtain rfl : y = zb := by omega
            exact h1
          · intro h; exact ⟨_, h, rfl, rfl⟩
        have HC2 : Hid (∀ c : Bool, (c = true ↔ implR L (y : Nat) (x : Nat)) → (c = true ↔ TC L y x)) := Lib.hid fun c hc => hc.trans ⟨fun ⟨i, j, h1, h2, _, _, h3⟩ => by
            obtain rfl : y = i := by omega
            obtain rfl : x = j := by omega
            exact h3.resolve_left fun e => hxy.out e.symm, fun h => ⟨y, x, rfl, rfl, hy1.out, hx1.out, .inr h⟩⟩
        clear hra hrb
        by_cases hm : (x, y) ∈ L
        · go_enter Tryd.func68, Tryd.ntmps68
          go_wp2_with (first
            | ((with_reducible show wpList _ _ _ (⟨_, .binOp _ _ _ _ _, _, _, _, _⟩ :: _) _ _); (first | (refine st_lss rfl _ _ _ _ rfl _ _ _ rfl rfl (fun h_ => ?_) (fun h_ => ?_)) | (refine st_leq rfl _ _ _ _ rfl _ _ _ rfl rfl (fun h_ => ?_) (fun h_ => ?_)) | (refine st_gtr rfl _ _ _ _ rfl _ _ _ rfl rfl (fun h_ => ?_) (fun h_ => ?_)) | (refine st_geq rfl _ _ _ _ rfl _ _ _ rfl rfl (fun h_ => ?_) (fun h_ => ?_)) | (refine st_eql rfl _ _ _ _ rfl _ _ _ rfl rfl (fun h_ => ?_) (fun h_ => ?_)) | (refine st_neq rfl _ _ _ _ rfl _ _ _ rfl rfl (fun h_ => ?_) (fun h_ => ?_))) <;> go_prune)
            | (go_at_call 57; refine (rrole_any _ _).mono ?_; (first | rw [HRA.out] | rw [HRB.out]); rintro r_ w_ ⟨_, rfl, rfl, hb_⟩; replace hS := hS.ext hb_; clear hb_)
            | (go_at_call 87; refine (HH.out _ _ (kp _ _ hS.ro)).mono ?_; rintro r_ w_ ⟨_, rfl, ⟨c, rfl, hc⟩, hb_⟩; replace hc := HC1.out c hc; rw [decide_eq_true hm] at hc; subst hc; replace hS := hS.ext hb_; clear hb_))
          go_ret2
          exact .inr ⟨x, y, rfl, rfl, hx1.out, hy1.out, hxy.out, .inl ⟨hm, rfl, hS.below⟩⟩
        · by_cases ht : TC L y x
          · have HT := Lib.hid ht
            have HC3 : Hid (∀ c : Bool, (c = true ↔ implR L (y : Nat) (x : Nat)) → c = true) := Lib.hid fun c hc => (HC2.out c hc).2 ht
            clear ht
            go_enter Tryd.func68, Tryd.ntmps68
            go_wp2_with (first
              | ((with_reducible show wpList _ _ _ (⟨_, .binOp _ _ _ _ _, _, _, _, _⟩ :: _) _ _); (first | (refine st_lss rfl _ _ _ _ rfl _ _ _ rfl rfl (fun h_ => ?_) (fun h_ => ?_)) | (refine st_leq rfl _ _ _ _ rfl _ _ _ rfl rfl (fun h_ => ?_) (fun h_ => ?_)) | (refine st_gtr rfl _ _ _ _ rfl _ _ _ rfl rfl (fun h_ => ?_) (fun h_ => ?_)) | (refine st_geq rfl _ _ _ _ rfl _ _ _ rfl rfl (fun h_ => ?_) (fun h_ => ?_)) | (refine st_eql rfl _ _ _ _ rfl _ _ _ rfl rfl (fun h_ => ?_) (fun h_ => ?_)) | (refine st_neq rfl _ _ _ _ rfl _ _ _ rfl rfl (fun h_ => ?_) (fun h_ => ?_))) <;> go_prune)
              | (go_at_call 57; refine (rrole_any _ _).mono ?_; (first | rw [HRA.out] | rw [HRB.out]); rintro r_ w_ ⟨_, rfl, rfl, hb_⟩; replace hS := hS.ext hb_; clear hb_)
              | (go_at_call 87; refine (HH.out _ _ (kp _ _ hS.ro)).mono ?_; rintro r_ w_ ⟨_, rfl, ⟨c, rfl, hc⟩, hb_⟩; replace hc := HC1.out c hc; rw [decide_eq_false hm] at hc; subst hc; replace hS := hS.ext hb_; clear hb_)
              | (go_at_call 16; refine (HI.out _ _ (kp _ _ hS.ro)).mono ?_; rintro r_ w_ ⟨_, rfl, ⟨c, rfl, hc⟩, hb_⟩; obtain rfl := HC3.out c hc; clear hc; replace hS := hS.ext hb_; clear hb_))
            go_ret2
            exact .inr ⟨x, y, rfl, rfl, hx1.out, hy1.out, hxy.out, .inr (.inl ⟨hm, HT.out, rfl, hS.below⟩)⟩
          · have HT := Lib.hid ht
            have HC3 : Hid (∀ c : Bool, (c = true ↔ implR L (y : Nat) (x : Nat)) → c = false) := Lib.hid fun c hc => by
              cases c with
              | true => exact absurd ((HC2.out true hc).1 rfl) ht
              | false => rfl
            clear ht
            go_enter Tryd.func68, Tryd.ntmps68
            go_wp2_with (first
              | ((with_reducible show wpList _ _ _ (⟨_, .binOp _ _ _ _ _, _, _, _, _⟩ :: _) _ _); (first | (refine st_lss rfl _ _ _ _ rfl _ _ _ rfl rfl (fun h_ => ?_) (fun h_ => ?_)) | (refine st_leq rfl _ _ _ _ rfl _ _ _ rfl rfl (fun h_ => ?_) (fun h_ => ?_)) | (refine st_gtr rfl _ _ _ _ rfl _ _ _ rfl rfl (fun h_ => ?_) (fun h_ => ?_)) | (refine st_geq rfl _ _ _ _ rfl _ _ _ rfl rfl (fun h_ => ?_) (fun h_ => ?_)) | (refine st_eql rfl _ _ _ _ rfl _ _ _ rfl rfl (fun h_ => ?_) (fun h_ => ?_)) | (refine st_neq rfl _ _ _ _ rfl _ _ _ rfl rfl (fun h_ => ?_) (fun h_ => ?_))) <;> go_prune)
              | (go_at_call 57; refine (rrole_any _ _).mono ?_; (first | rw [HRA.out] | rw [HRB.out]); rintro r_ w_ ⟨_, rfl, rfl, hb_⟩; replace hS := hS.ext hb_; clear hb_)
              | (go_at_call 87; refine (HH.out _ _ (kp _ _ hS.ro)).mono ?_; rintro r_ w_ ⟨_, rfl, ⟨c, rfl, hc⟩, hb_⟩; replace hc := HC1.out c hc; rw [decide_eq_false hm] at hc; subst hc; replace hS := hS.ext hb_; clear hb_)
              | (go_at_call 16; refine (HI.out _ _ (kp _ _ hS.ro)).mono ?_; rintro r_ w_ ⟨_, rfl, ⟨c, rfl, hc⟩, hb_⟩; obtain rfl := HC3.out c hc; clear hc; replace hS := hS.ext hb_; clear hb_))
            go_loopw [8] (fun v wr => ∃ i : Nat, v = .int .i64 (i : Nat) ∧ i ≤ L.length ∧ Hid (i ≤ insAt L (x, y)) ∧ St w0 wr [] K) (fun v _ => L.length - (intOf v).toNat)
            case atStart => exact ⟨0, rfl, by omega, Lib.hid (Nat.zero_le _), hS⟩
            case round =>
              clear hS HH HI
              obtain ⟨i, rfl, hil, HIA, hS⟩ := hrel
              by_cases hlt : i < L.length
              · obtain ⟨f1, f2⟩ := pcells_at L i hlt
                have HST := Lib.hid (ins_at HIA.out (getD_at (0, 0) hlt))
                generalize L.getD i (0, 0) = z at *
                obtain ⟨za, zb⟩ := z
                dsimp only at f1 f2
                rcases Nat.lt_trichotomy za x with h1 | h1 | h1
                · have HN := Lib.hid (HST.out.1 (.inl h1))
                  clear HST
                  go_wp2_with (first
                    | ((with_reducible show wpList _ _ _ (⟨_, .binOp _ _ _ _ _, _, _, _, _⟩ :: _) _ _); (first | (refine st_lss rfl _ _ _ _ rfl _ _ _ rfl rfl (fun h_ => ?_) (fun h_ => ?_)) | (refine st_leq rfl _ _ _ _ rfl _ _ _ rfl rfl (fun h_ => ?_) (fun h_ => ?_)) | (refine st_gtr rfl _ _ _ _ rfl _ _ _ rfl rfl (fun h_ => ?_) (fun h_ => ?_)) | (refine st_geq rfl _ _ _ _ rfl _ _ _ rfl rfl (fun h_ => ?_) (fun h_ => ?_)) | (refine st_eql rfl _ _ _ _ rfl _ _ _ rfl rfl (fun h_ => ?_) (fun h_ => ?_)) | (refine st_neq rfl _ _ _ _ rfl _ _ _ rfl rfl (fun h_ => ?_) (fun h_ => ?_))) <;> go_prune)
                    | ((with_reducible show wpList _ _ _ (⟨_, .indexAddr _ _ _, _, _, _, _⟩ :: _) _ _); refine st_iaddr2 hS rfl _ _ _ rfl _ rfl rfl (by assumption) Tryd.underlying25 (by kernel_rfl) (by first | assumption | omega) _ _ (by assumption) (by assumption) ?_; intro b_ j_ hc0_ hc1_)
                    | ((with_reducible show wpList _ _ _ (⟨_, .load _ _, _, _, _, _⟩ :: _) _ _); first | refine BigFrame.wpList_want rfl fun _ hK => opw_cell rfl rfl (by kernel_rfl) hc0_ (hK _ _ ?_) | refine BigFrame.wpList_want rfl fun _ hK => opw_cell rfl rfl (by kernel_rfl) hc1_ (hK _ _ ?_)))
                  exact ⟨⟨i + 1, by go_num, hlt, HN, hS⟩, by simp [intOf]; omega⟩
                · by_cases h2 : zb < y
                  · have HN := Lib.hid (HST.out.1 (.inr ⟨h1, h2⟩))
                    clear HST
                    go_wp2_with (first
                      | ((with_reducible show wpList _ _ _ (⟨_, .binOp _ _ _ _ _, _, _, _, _⟩ :: _) _ _); (first | (refine st_lss rfl _ _ _ _ rfl _ _ _ rfl rfl (fun h_ => ?_) (fun h_ => ?_)) | (refine st_leq rfl _ _ _ _ rfl _ _ _ rfl rfl (fun h_ => ?_) (fun h_ => ?_)) | (refine st_gtr rfl _ _ _ _ rfl _ _ _ rfl rfl (fun h_ => ?_) (fun h_ => ?_)) | (refine st_geq rfl _ _ _ _ rfl _ _ _ rfl rfl (fun h_ => ?_) (fun h_ => ?_)) | (refine st_eql rfl _ _ _ _ rfl _ _ _ rfl rfl (fun h_ => ?_) (fun h_ => ?_)) | (refine st_neq rfl _ _ _ _ rfl _ _ _ rfl rfl (fun h_ => ?_) (fun h_ => ?_))) <;> go_prune)
                      | ((with_reducible show wpList _ _ _ (⟨_, .indexAddr _ _ _, _, _, _, _⟩ :: _) _ _); refine st_iaddr2 hS rfl _ _ _ rfl _ rfl rfl (by assumption) Tryd.underlying25 (by kernel_rfl) (by first | assumption | omega) _ _ (by assumption) (by assumption) ?_; intro b_ j_ hc0_ hc1_)
                      | ((with_reducible show wpList _ _ _ (⟨_, .load _ _, _, _, _, _⟩ :: _) _ _); first | refine BigFrame.wpList_want rfl fun _ hK => opw_cell rfl rfl (by kernel_rfl) hc0_ (hK _ _ ?_) | refine BigFrame.wpList_want rfl fun _ hK => opw_cell rfl rfl (by kernel_rfl) hc1_ (hK _ _ ?_)))
                    exact ⟨⟨i + 1, by go_num, hlt, HN, hS⟩, by simp [intOf]; omega⟩
                  · have HE := Lib.hid (HST.out.2 (by rintro (h | h) <;> dsimp only at h <;> omega))
                    clear HST
                    go_wp2_with (first
                      | ((with_reducible show wpList _ _ _ (⟨_, .binOp _ _ _ _ _, _, _, _, _⟩ :: _) _ _); (first | (refine st_lss rfl _ _ _ _ rfl _ _ _ rfl rfl (fun h_ => ?_) (fun h_ => ?_)) | (refine st_leq rfl _ _ _ _ rfl _ _ _ rfl rfl (fun h_ => ?_) (fun h_ => ?_)) | (refine st_gtr rfl _ _ _ _ rfl _ _ _ rfl rfl (fun h_ => ?_) (fun h_ => ?_)) | (refine st_geq rfl _ _ _ _ rfl _ _ _ rfl rfl (fun h_ => ?_) (fun h_ => ?_)) | (refine st_eql rfl _ _ _ _ rfl _ _ _ rfl rfl (fun h_ => ?_) (fun h_ => ?_)) | (refine st_neq rfl _ _ _ _ rfl _ _ _ rfl rfl (fun h_ => ?_) (fun h_ => ?_))) <;> go_prune)
                      | ((with_reducible show wpList _ _ _ (⟨_, .indexAddr _ _ _, _, _, _, _⟩ :: _) _ _); refine st_iaddr2 hS rfl _ _ _ rfl _ rfl rfl (by assumption) Tryd.underlying25 (by kernel_rfl) (by first | assumption | omega) _ _ (by assumption) (by assumption) ?_; intro b_ j_ hc0_ hc1_)
                      | ((with_reducible show wpList _ _ _ (⟨_, .load _ _, _, _, _, _⟩ :: _) _ _); first | refine BigFrame.wpList_want rfl fun _ hK => opw_cell rfl rfl (by kernel_rfl) hc0_ (hK _ _ ?_) | refine BigFrame.wpList_want rfl fun _ hK => opw_cell rfl rfl (by kernel_rfl) hc1_ (hK _ _ ?_)))
                    have hic : i ≤ c := by omega
                    have hJ0 : AJ w0 [] K (linkD L (x, y) i) (wr.drew, ⟨[], []⟩) := ⟨hS.drew, Nat.zero_le _⟩
                    have hN0 := AN_start linkK wr.drew
                    have hRr := @AR.refl w0 [] K (linkD L (x, y) i)
                    have hRt := @AR.trans w0 [] K (linkD L (x, y) i)
                    refine wp_region_ghost (fun i__ v w => match i__ with
                      | 0 => AtS w.2 0 v
                      | 1 => v = .slice A L.length c
                      | 2 => v = .int .i64 ((i : Nat) : Int)
                      | 3 => v = .slice A i c
                      | 4 => AtS w.2 1 v
                      | 5 => v = .int .i64 ((x : Nat) : Int)
                      | 6 => v = .int .i64 ((y : Nat) : Int)
                      | 7 => v = .agg #[.int .i64 ((x : Nat) : Int), .int .i64 ((y : Nat) : Int)]
                      | 8 => (0, v) ∈ w.2.b
                      | 9 => AtS w.2 2 v
                      | 10 => v = .slice A L.length c
                      | 11 => v = .int .i64 ((i : Nat) : Int)
                      | 12 => v = sliced A i L.length c 2
                      | 13 => AtS w.2 3 v
                      | 14 => AtS w.2 3 v
                      | 15 => v = .int .i64 0
                      | _ => True) (AR w0 [] K (linkD L (x, y) i)) (AN linkK) (⟨[], []⟩) (by kernel_rfl) (by kernel_rfl) hRr hRt ?mono ?hN ⟨?r0, ?r1, ?r2, ?r3, ?r4, ?r5, ?r6, ?r7, ?r8, ?r9, ?r10, ?r11, ?r12, ?r13, ?r14, ?r15, trivial⟩ ?post
                    case hN => first | assumption | (intro i; (try dsimp only); split <;> first | trivial | assumption | (left; assumption))
                    case mono =>
                      intro i v w w' h hb
                      match i, h with
                      | 0, h => exact h.mono hb.2.1
                      | 1, h => exact h
                      | 2, h => exact h
                      | 3, h => exact h
                      | 4, h => exact h.mono hb.2.1
                      | 5, h => exact h
                      | 6, h => exact h
                      | 7, h => exact h
                      | 8, h => exact hb.2.2 _ h
                      | 9, h => exact h.mono hb.2.1
                      | 10, h => exact h
                      | 11, h => exact h
                      | 12, h => exact h
                      | 13, h => exact h.mono hb.2.1
                      | 14, h => exact h.mono hb.2.1
                      | 15, h => exact h
                      | _ + 16, h => trivial
                    case r0 =>
                      refine truleGh fun b__ w hW hN hold hpre => ⟨fun hwant K hK => ?_, fun hwant => ?_⟩
                      · clear hwant
                        exact chain_start (kd := linkK) (by decide) rfl rfl Tryd.underlying25 (by kernel_rfl) hN rfl rfl (show 0 < 4 by decide) hK
                      · rw [want_none rfl] at hwant; cases hwant
                    case r1 =>
                      refine truleGh fun b__ w hW hN hold hpre => ⟨fun hwant K hK => ?_, fun hwant => ?_⟩
                      · clear hwant
                        have e0 : b__.eval (.tmp 0) = .slice A L.length c := (hold 0 (by kernel_rfl)).trans rfl
                        exact opw_move rfl e0 (hK _ _ rfl ⟨hRr _, fun _ _ h => h⟩)
                      · rw [want_none rfl] at hwant; cases hwant
                    case r2 =>
                      refine truleGh fun b__ w hW hN hold hpre => ⟨fun hwant K hK => ?_, fun hwant => ?_⟩
                      · clear hwant
                        have e8 : b__.eval (.tmp 8) = .int .i64 ((i : Nat) : Int) := (hold 8 (by kernel_rfl)).trans rfl
                        exact opw_move rfl e8 (hK _ _ rfl ⟨hRr _, fun _ _ h => h⟩)
                      · rw [want_none rfl] at hwant; cases hwant
                    case r3 =>
                      refine truleGh fun b__ w hW hN hold hpre => ⟨fun hwant K hK => ?_, fun hwant => ?_⟩
                      · clear hwant
                        have e67 : b__.eval (.tmp 67) = .slice A L.length c := hpre ⟨1, _⟩ (Array.mem_of_getElem? (i := 0) rfl) rfl _ _ rfl rfl
                        have e68 : b__.eval (.tmp 68) = .int .i64 ((i : Nat) : Int) := hpre ⟨2, _⟩ (Array.mem_of_getElem? (i := 1) rfl) rfl _ _ rfl rfl
                        exact opw_slh rfl Tryd.underlying25 ⟨2, by kernel_rfl⟩ e67 e68 hic (hK _ _ rfl ⟨hRr _, fun _ _ h => h⟩)
                      · rw [want_none rfl] at hwant; cases hwant
                    case r4 =>
                      refine truleGh fun b__ w hW hN hold hpre => ⟨fun hwant K hK => ?_, fun hwant => ?_⟩
                      · clear hwant
                        have e66 : (fun (v : Value) (w : World × _) => AtS w.2 0 v) (b__.eval (.tmp 66)) w := hpre ⟨0, _⟩ (Array.mem_of_getElem? (i := 0) rfl) rfl _ _ rfl rfl
                        have e69 : b__.eval (.tmp 69) = .slice A i c := hpre ⟨3, _⟩ (Array.mem_of_getElem? (i := 1) rfl) rfl _ _ rfl rfl
                        exact chain_app (kd := linkK) (by decide) rfl rfl ty_pairs hN e66 (hW.1 hJ0) (by rw [e69]; exact slc_take (kp _ _ (hW.1 hJ0).1.ro) hil) (fun u hu => pcells_one L u (List.mem_of_mem_take hu)) rfl rfl (by simp [linkD]; omega) (by simp [linkD]; omega) (show 0 + 1 < 4 by decide) hK
                      · rw [want_none rfl] at hwant; cases hwant
                    case r5 =>
                      refine truleGh fun b__ w hW hN hold hpre => ⟨fun hwant K hK => ?_, fun hwant => ?_⟩
                      · clear hwant
                        have e1 : b__.eval (.tmp 1) = .int .i64 ((x : Nat) : Int) := (hold 1 (by kernel_rfl)).trans rfl
                        exact opw_move rfl e1 (hK _ _ rfl ⟨hRr _, fun _ _ h => h⟩)
                      · rw [want_none rfl] at hwant; cases hwant
                    case r6 =>
                      refine truleGh fun b__ w hW hN hold hpre => ⟨fun hwant K hK => ?_, fun hwant => ?_⟩
                      · clear hwant
                        have e2 : b__.eval (.tmp 2) = .int .i64 ((y : Nat) : Int) := (hold 2 (by kernel_rfl)).trans rfl
                        exact opw_move rfl e2 (hK _ _ rfl ⟨hRr _, fun _ _ h => h⟩)
                      · rw [want_none rfl] at hwant; cases hwant
                    case r7 =>
                      refine truleGh fun b__ w hW hN hold hpre => ⟨fun hwant K hK => ?_, fun hwant => ?_⟩
                      · clear hwant
                        have e71 : b__.eval (.tmp 71) = .int .i64 ((x : Nat) : Int) := hpre ⟨5, _⟩ (Array.mem_of_getElem? (i := 0) rfl) rfl _ _ rfl rfl
                        have e72 : b__.eval (.tmp 72) = .int .i64 ((y : Nat) : Int) := hpre ⟨6, _⟩ (Array.mem_of_getElem? (i := 1) rfl) rfl _ _ rfl rfl
                        exact opw_built rfl (ps := [(0, .int .i64 ((x : Nat) : Int)), (1, .int .i64 ((y : Nat) : Int))]) (cells := #[.int .i64 ((x : Nat) : Int), .int .i64 ((y : Nat) : Int)]) (by simp [e71, e72]) (by kernel_rfl) (hK _ _ rfl ⟨hRr _, fun _ _ h => h⟩)
                      · rw [want_none rfl] at hwant; cases hwant
                    case r8 =>
                      refine truleGh fun b__ w hW hN hold hpre => ⟨fun hwant K hK => ?_, fun hwant => ?_⟩
                      · clear hwant
                        have e73 : b__.eval (.tmp 73) = .agg #[.int .i64 ((x : Nat) : Int), .int .i64 ((y : Nat) : Int)] := hpre ⟨7, _⟩ (Array.mem_of_getElem? (i := 0) rfl) rfl _ _ rfl rfl
                        exact chain_side (kd := linkK) (by decide) rfl rfl Tryd.underlying25 (ps := [(0, .agg #[.int .i64 ((x : Nat) : Int), .int .i64 ((y : Nat) : Int)])]) (cells := #[.int .i64 ((x : Nat) : Int), .int .i64 ((y : Nat) : Int)]) (by simp [e73]) (by kernel_rfl) (fun _ => rfl) rfl (by decide) hK
                      · rw [want_none rfl] at hwant; cases hwant
                    case r9 =>
                      refine truleGh fun b__ w hW hN hold hpre => ⟨fun hwant K hK => ?_, fun hwant => ?_⟩
                      · clear hwant
                        have e70 : (fun (v : Value) (w : World × _) => AtS w.2 1 v) (b__.eval (.tmp 70)) w := hpre ⟨4, _⟩ (Array.mem_of_getElem? (i := 0) rfl) rfl _ _ rfl rfl
                        have e74 : (fun (v : Value) (w : World × _) => (0, v) ∈ w.2.b) (b__.eval (.tmp 74)) w := hpre ⟨8, _⟩ (Array.mem_of_getElem? (i := 1) rfl) rfl _ _ rfl rfl
                        exact chain_app (kd := linkK) (by decide) rfl rfl ty_pairs hN e70 (hW.1 hJ0) (Sl.of_own ((hW.1 hJ0).side e74)) (pcells_one [(x, y)]) rfl rfl (by simp [linkD]; omega) (by simp [linkD]; omega) (show 1 + 1 < 4 by decide) hK
                      · rw [want_none rfl] at hwant; cases hwant
                    case r10 =>
                      refine truleGh fun b__ w hW hN hold hpre => ⟨fun hwant K hK => ?_, fun hwant => ?_⟩
                      · clear hwant
                        have e0 : b__.eval (.tmp 0) = .slice A L.length c := (hold 0 (by kernel_rfl)).trans rfl
                        exact opw_move rfl e0 (hK _ _ rfl ⟨hRr _, fun _ _ h => h⟩)
                      · rw [want_none rfl] at hwant; cases hwant
                    case r11 =>
                      refine truleGh fun b__ w hW hN hold hpre => ⟨fun hwant K hK => ?_, fun hwant => ?_⟩
                      · clear hwant
                        have e8 : b__.eval (.tmp 8) = .int .i64 ((i : Nat) : Int) := (hold 8 (by kernel_rfl)).trans rfl
                        exact opw_move rfl e8 (hK _ _ rfl ⟨hRr _, fun _ _ h => h⟩)
                      · rw [want_none rfl] at hwant; cases hwant
                    case r12 =>
                      refine truleGh fun b__ w hW hN hold hpre => ⟨fun hwant K hK => ?_, fun hwant => ?_⟩
                      · clear hwant
                        have e76 : b__.eval (.tmp 76) = .slice A L.length c := hpre ⟨10, _⟩ (Array.mem_of_getElem? (i := 0) rfl) rfl _ _ rfl rfl
                        have e77 : b__.eval (.tmp 77) = .int .i64 ((i : Nat) : Int) := hpre ⟨11, _⟩ (Array.mem_of_getElem? (i := 1) rfl) rfl _ _ rfl rfl
                        exact opw_sll rfl Tryd.underlying25 (by kernel_rfl) e76 e77 hil hc1 (hK _ _ rfl ⟨hRr _, fun _ _ h => h⟩)
                      · rw [want_none rfl] at hwant; cases hwant
                    case r13 =>
                      refine truleGh fun b__ w hW hN hold hpre => ⟨fun hwant K hK => ?_, fun hwant => ?_⟩
                      · clear hwant
                        have e75 : (fun (v : Value) (w : World × _) => AtS w.2 2 v) (b__.eval (.tmp 75)) w := hpre ⟨9, _⟩ (Array.mem_of_getElem? (i := 0) rfl) rfl _ _ rfl rfl
                        have e78 : b__.eval (.tmp 78) = sliced A i L.length c 2 := hpre ⟨12, _⟩ (Array.mem_of_getElem? (i := 1) rfl) rfl _ _ rfl rfl
                        exact chain_app (kd := linkK) (by decide) rfl rfl ty_pairs hN e75 (hW.1 hJ0) (by rw [e78]; exact slc_drop (kp _ _ (hW.1 hJ0).1.ro) hil) (fun u hu => pcells_one L u (List.mem_of_mem_drop hu)) rfl rfl (by simp [linkD]; omega) (by simp [linkD]; omega) (show 2 + 1 < 4 by decide) hK
                      · rw [want_none rfl] at hwant; cases hwant
                    case r14 =>
                      refine truleGh fun b__ w hW hN hold hpre => ⟨fun hwant K hK => ?_, fun hwant => ?_⟩
                      · clear hwant
                        have e79 : (fun (v : Value) (w : World × _) => AtS w.2 3 v) (b__.eval (.tmp 79)) w := hpre ⟨13, _⟩ (Array.mem_of_getElem? (i := 0) rfl) rfl _ _ rfl rfl
                        exact opw_assign rfl rfl (hK _ _ e79 ⟨hRr _, fun _ _ h => h⟩)
                      · rw [want_none rfl] at hwant; cases hwant
                    case r15 =>
                      refine truleGh fun b__ w hW hN hold hpre => ⟨fun hwant K hK => ?_, fun hwant => ?_⟩
                      · clear hwant
                        exact opw_assign rfl rfl (hK _ _ rfl ⟨hRr _, fun _ _ h => h⟩)
                      · rw [want_none rfl] at hwant; cases hwant
                    case post =>
                      intro b__ wz hW hdf hsz hold hT hZ
                      have e66 : (fun (v : Value) (w : World × _) => AtS w.2 0 v) (b__.eval (.tmp 66)) wz := hT 0 _ 66 rfl rfl
                      have e67 : b__.eval (.tmp 67) = .slice A L.length c := hT 1 _ 67 rfl rfl
                      have e68 : b__.eval (.tmp 68) = .int .i64 ((i : Nat) : Int) := hT 2 _ 68 rfl rfl
                      have e69 : b__.eval (.tmp 69) = .slice A i c := hT 3 _ 69 rfl rfl
                      have e70 : (fun (v : Value) (w : World × _) => AtS w.2 1 v) (b__.eval (.tmp 70)) wz := hT 4 _ 70 rfl rfl
                      have e71 : b__.eval (.tmp 71) = .int .i64 ((x : Nat) : Int) := hT 5 _ 71 rfl rfl
                      have e72 : b__.eval (.tmp 72) = .int .i64 ((y : Nat) : Int) := hT 6 _ 72 rfl rfl
                      have e73 : b__.eval (.tmp 73) = .agg #[.int .i64 ((x : Nat) : Int), .int .i64 ((y : Nat) : Int)] := hT 7 _ 73 rfl rfl
                      have e74 : (fun (v : Value) (w : World × _) => (0, v) ∈ w.2.b) (b__.eval (.tmp 74)) wz := hT 8 _ 74 rfl rfl
                      have e75 : (fun (v : Value) (w : World × _) => AtS w.2 2 v) (b__.eval (.tmp 75)) wz := hT 9 _ 75 rfl rfl
                      have e76 : b__.eval (.tmp 76) = .slice A L.length c := hT 10 _ 76 rfl rfl
                      have e77 : b__.eval (.tmp 77) = .int .i64 ((i : Nat) : Int) := hT 11 _ 77 rfl rfl
                      have e78 : b__.eval (.tmp 78) = sliced A i L.length c 2 := hT 12 _ 78 rfl rfl
                      have e79 : (fun (v : Value) (w : World × _) => AtS w.2 3 v) (b__.eval (.tmp 79)) wz := hT 13 _ 79 rfl rfl
                      have e6 : (fun (v : Value) (w : World × _) => AtS w.2 3 v) (b__.eval (.tmp 6)) wz := hT 14 _ 6 rfl rfl
                      have e7 : b__.eval (.tmp 7) = .int .i64 0 := hT 15 _ 7 rfl rfl
                      obtain ⟨vs, hvs, hb⟩ := frame_of hdf hsz hold
                      replace e66 := (hvs 66) ▸ e66
                      replace e67 : vs 67 = .slice A L.length c := (hvs 67).symm.trans e67
                      replace e68 : vs 68 = .int .i64 ((i : Nat) : Int) := (hvs 68).symm.trans e68
                      replace e69 : vs 69 = .slice A i c := (hvs 69).symm.trans e69
                      replace e70 := (hvs 70) ▸ e70
                      replace e71 : vs 71 = .int .i64 ((x : Nat) : Int) := (hvs 71).symm.trans e71
                      replace e72 : vs 72 = .int .i64 ((y : Nat) : Int) := (hvs 72).symm.trans e72
                      replace e73 : vs 73 = .agg #[.int .i64 ((x : Nat) : Int), .int .i64 ((y : Nat) : Int)] := (hvs 73).symm.trans e73
                      replace e74 := (hvs 74) ▸ e74
                      replace e75 := (hvs 75) ▸ e75
                      replace e76 : vs 76 = .slice A L.length c := (hvs 76).symm.trans e76
                      replace e77 : vs 77 = .int .i64 ((i : Nat) : Int) := (hvs 77).symm.trans e77
                      replace e78 : vs 78 = sliced A i L.length c 2 := (hvs 78).symm.trans e78
                      replace e79 := (hvs 79) ▸ e79
                      replace e6 := (hvs 6) ▸ e6
                      replace e7 : vs 7 = .int .i64 0 := (hvs 7).symm.trans e7
                      subst hb
                      clear hvs hold hT hdf hsz
                      simp only [setAll, Act.put, List.setIfInBounds_toArray, List.set_cons_zero, List.set_cons_succ, List.getElem_toArray, List.getElem_cons_succ, List.getElem_cons_zero]
                      have hJ := (hW.1 hJ0).last e6 rfl
                      replace hJ : St w0 wz.1 [.own (vs 6) 50 2 (L.length + 1) (pcells (ins L (x, y)))] fun _ _ => True := by
                        have e1 : 0 + i + 1 + (L.length - i) = L.length + 1 := by omega
                        have e2 : [] ++ (pcells L).take (i * 2) ++ pcells [(x, y)] ++ (pcells L).drop (i * 2) = pcells (ins L (x, y)) := by
                          rw [List.nil_append, pcells_take, pcells_drop, ← pcells_app, ← pcells_app, ins, ← HE.out, List.append_assoc]; rfl
                        simp only [linkD] at hJ
                        rw [e1, e2] at hJ
                        exact hJ.mono (Stable.pure True) fun _ _ _ => trivial
                      rw [e7]
                      generalize vs 6 = v6 at *
                      generalize wz.1 = wf at *
                      clear hW hZ hJ0 hRr hRt e6 e7
                      go_wp2_with fail
                      all_goals
                        go_ret2
                        exact .inr ⟨x, y, rfl, rfl, hx1.out, hy1.out, hxy.out, .inr (.inr ⟨hm, HT.out, _, rfl, hJ⟩)⟩
                · have HE := Lib.hid (HST.out.2 (by rintro (h | h) <;> dsimp only at h <;> omega))
                  clear HST
                  go_wp2_with (first
                    | ((with_reducible show wpList _ _ _ (⟨_, .binOp _ _ _ _ _, _, _, _, _⟩ :: _) _ _); (first | (refine st_lss rfl _ _ _ _ rfl _ _ _ rfl rfl (fun h_ => ?_) (fun h_ => ?_)) | (refine st_leq rfl _ _ _ _ rfl _ _ _ rfl rfl (fun h_ => ?_) (fun h_ => ?_)) | (refine st_gtr rfl _ _ _ _ rfl _ _ _ rfl rfl (fun h_ => ?_) (fun h_ => ?_)) | (refine st_geq rfl _ _ _ _ rfl _ _ _ rfl rfl (fun h_ => ?_) (fun h_ => ?_)) | (refine st_eql rfl _ _ _ _ rfl _ _ _ rfl rfl (fun h_ => ?_) (fun h_ => ?_)) | (refine st_neq rfl _ _ _ _ rfl _ _ _ rfl rfl (fun h_ => ?_) (fun h_ => ?_))) <;> go_prune)
                    | ((with_reducible show wpList _ _ _ (⟨_, .indexAddr _ _ _, _, _, _, _⟩ :: _) _ _); refine st_iaddr2 hS rfl _ _ _ rfl _ rfl rfl (by assumption) Tryd.underlying25 (by kernel_rfl) (by first | assumption | omega) _ _ (by assumption) (by assumption) ?_; intro b_ j_ hc0_ hc1_)
                    | ((with_reducible show wpList _ _ _ (⟨_, .load _ _, _, _, _, _⟩ :: _) _ _); first | refine BigFrame.wpList_want rfl fun _ hK => opw_cell rfl rfl (by kernel_rfl) hc0_ (hK _ _ ?_) | refine BigFrame.wpList_want rfl fun _ hK => opw_cell rfl rfl (by kernel_rfl) hc1_ (hK _ _ ?_)))
                  have hic : i ≤ c := by omega
                  have hJ0 : AJ w0 [] K (linkD L (x, y) i) (wr.drew, ⟨[], []⟩) := ⟨hS.drew, Nat.zero_le _⟩
                  have hN0 := AN_start linkK wr.drew
                  have hRr := @AR.refl w0 [] K (linkD L (x, y) i)
                  have hRt := @AR.trans w0 [] K (linkD L (x, y) i)
                  refine wp_region_ghost (fun i__ v w => match i__ with
                    | 0 => AtS w.2 0 v
                    | 1 => v = .slice A L.length c
                    | 2 => v = .int .i64 ((i : Nat) : Int)
                    | 3 => v = .slice A i c
                    | 4 => AtS w.2 1 v
                    | 5 => v = .int .i64 ((x : Nat) : Int)
                    | 6 => v = .int .i64 ((y : Nat) : Int)
                    | 7 => v = .agg #[.int .i64 ((x : Nat) : Int), .int .i64 ((y : Nat) : Int)]
                    | 8 => (0, v) ∈ w.2.b
                    | 9 => AtS w.2 2 v
                    | 10 => v = .slice A L.length c
                    | 11 => v = .int .i64 ((i : Nat) : Int)
                    | 12 => v = sliced A i L.length c 2
                    | 13 => AtS w.2 3 v
                    | 14 => AtS w.2 3 v
                    | 15 => v = .int .i64 0
                    | _ => True) (AR w0 [] K (linkD L (x, y) i)) (AN linkK) (⟨[], []⟩) (by kernel_rfl) (by kernel_rfl) hRr hRt ?mono ?hN ⟨?r0, ?r1, ?r2, ?r3, ?r4, ?r5, ?r6, ?r7, ?r8, ?r9, ?r10, ?r11, ?r12, ?r13, ?r14, ?r15, trivial⟩ ?post
                  case hN => first | assumption | (intro i; (try dsimp only); split <;> first | trivial | assumption | (left; assumption))
                  case mono =>
                    intro i v w w' h hb
                    match i, h with
                    | 0, h => exact h.mono hb.2.1
                    | 1, h => exact h
                    | 2, h => exact h
                    | 3, h => exact h
                    | 4, h => exact h.mono hb.2.1
                    | 5, h => exact h
                    | 6, h => exact h
                    | 7, h => exact h
                    | 8, h => exact hb.2.2 _ h
                    | 9, h => exact h.mono hb.2.1
                    | 10, h => exact h
                    | 11, h => exact h
                    | 12, h => exact h
                    | 13, h => exact h.mono hb.2.1
                    | 14, h => exact h.mono hb.2.1
                    | 15, h => exact h
                    | _ + 16, h => trivial
                  case r0 =>
                    refine truleGh fun b__ w hW hN hold hpre => ⟨fun hwant K hK => ?_, fun hwant => ?_⟩
                    · clear hwant
                      exact chain_start (kd := linkK) (by decide) rfl rfl Tryd.underlying25 (by kernel_rfl) hN rfl rfl (show 0 < 4 by decide) hK
                    · rw [want_none rfl] at hwant; cases hwant
                  case r1 =>
                    refine truleGh fun b__ w hW hN hold hpre => ⟨fun hwant K hK => ?_, fun hwant => ?_⟩
                    · clear hwant
                      have e0 : b__.eval (.tmp 0) = .slice A L.length c := (hold 0 (by kernel_rfl)).trans rfl
                      exact opw_move rfl e0 (hK _ _ rfl ⟨hRr _, fun _ _ h => h⟩)
                    · rw [want_none rfl] at hwant; cases hwant
                  case r2 =>
                    refine truleGh fun b__ w hW hN hold hpre => ⟨fun hwant K hK => ?_, fun hwant => ?_⟩
                    · clear hwant
                      have e8 : b__.eval (.tmp 8) = .int .i64 ((i : Nat) : Int) := (hold 8 (by kernel_rfl)).trans rfl
                      exact opw_move rfl e8 (hK _ _ rfl ⟨hRr _, fun _ _ h => h⟩)
                    · rw [want_none rfl] at hwant; cases hwant
                  case r3 =>
                    refine truleGh fun b__ w hW hN hold hpre => ⟨fun hwant K hK => ?_, fun hwant => ?_⟩
                    · clear hwant
                      have e67 : b__.eval (.tmp 67) = .slice A L.length c := hpre ⟨1, _⟩ (Array.mem_of_getElem? (i := 0) rfl) rfl _ _ rfl rfl
                      have e68 : b__.eval (.tmp 68) = .int .i64 ((i : Nat) : Int) := hpre ⟨2, _⟩ (Array.mem_of_getElem? (i := 1) rfl) rfl _ _ rfl rfl
                      exact opw_slh rfl Tryd.underlying25 ⟨2, by kernel_rfl⟩ e67 e68 hic (hK _ _ rfl ⟨hRr _, fun _ _ h => h⟩)
                    · rw [want_none rfl] at hwant; cases hwant
                  case r4 =>
                    refine truleGh fun b__ w hW hN hold hpre => ⟨fun hwant K hK => ?_, fun hwant => ?_⟩
                    · clear hwant
                      have e66 : (fun (v : Value) (w : World × _) => AtS w.2 0 v) (b__.eval (.tmp 66)) w := hpre ⟨0, _⟩ (Array.mem_of_getElem? (i := 0) rfl) rfl _ _ rfl rfl
                      have e69 : b__.eval (.tmp 69) = .slice A i c := hpre ⟨3, _⟩ (Array.mem_of_getElem? (i := 1) rfl) rfl _ _ rfl rfl
                      exact chain_app (kd := linkK) (by decide) rfl rfl ty_pairs hN e66 (hW.1 hJ0) (by rw [e69]; exact slc_take (kp _ _ (hW.1 hJ0).1.ro) hil) (fun u hu => pcells_one L u (List.mem_of_mem_take hu)) rfl rfl (by simp [linkD]; omega) (by simp [linkD]; omega) (show 0 + 1 < 4 by decide) hK
                    · rw [want_none rfl] at hwant; cases hwant
                  case r5 =>
                    refine truleGh fun b__ w hW hN hold hpre => ⟨fun hwant K hK => ?_, fun hwant => ?_⟩
                    · clear hwant
                      have e1 : b__.eval (.tmp 1) = .int .i64 ((x : Nat) : Int) := (hold 1 (by kernel_rfl)).trans rfl
                      exact opw_move rfl e1 (hK _ _ rfl ⟨hRr _, fun _ _ h => h⟩)
                    · rw [want_none rfl] at hwant; cases hwant
                  case r6 =>
                    refine truleGh fun b__ w hW hN hold hpre => ⟨fun hwant K hK => ?_, fun hwant => ?_⟩
                    · clear hwant
                      have e2 : b__.eval (.tmp 2) = .int .i64 ((y : Nat) : Int) := (hold 2 (by kernel_rfl)).trans rfl
                      exact opw_move rfl e2 (hK _ _ rfl ⟨hRr _, fun _ _ h => h⟩)
                    · rw [want_none rfl] at hwant; cases hwant
                  case r7 =>
                    refine truleGh fun b__ w hW hN hold hpre => ⟨fun hwant K hK => ?_, fun hwant => ?_⟩
                    · clear hwant
                      have e71 : b__.eval (.tmp 71) = .int .i64 ((x : Nat) : Int) := hpre ⟨5, _⟩ (Array.mem_of_getElem? (i := 0) rfl) rfl _ _ rfl rfl
                      have e72 : b__.eval (.tmp 72) = .int .i64 ((y : Nat) : Int) := hpre ⟨6, _⟩ (Array.mem_of_getElem? (i := 1) rfl) rfl _ _ rfl rfl
                      exact opw_built rfl (ps := [(0, .int .i64 ((x : Nat) : Int)), (1, .int .i64 ((y : Nat) : Int))]) (cells := #[.int .i64 ((x : Nat) : Int), .int .i64 ((y : Nat) : Int)]) (by simp [e71, e72]) (by kernel_rfl) (hK _ _ rfl ⟨hRr _, fun _ _ h => h⟩)
                    · rw [want_none rfl] at hwant; cases hwant
                  case r8 =>
                    refine truleGh fun b__ w hW hN hold hpre => ⟨fun hwant K hK => ?_, fun hwant => ?_⟩
                    · clear hwant
                      have e73 : b__.eval (.tmp 73) = .agg #[.int .i64 ((x : Nat) : Int), .int .i64 ((y : Nat) : Int)] := hpre ⟨7, _⟩ (Array.mem_of_getElem? (i := 0) rfl) rfl _ _ rfl rfl
                      exact chain_side (kd := linkK) (by decide) rfl rfl Tryd.underlying25 (ps := [(0, .agg #[.int .i64 ((x : Nat) : Int), .int .i64 ((y : Nat) : Int)])]) (cells := #[.int .i64 ((x : Nat) : Int), .int .i64 ((y : Nat) : Int)]) (by simp [e73]) (by kernel_rfl) (fun _ => rfl) rfl (by decide) hK
                    · rw [want_none rfl] at hwant; cases hwant
                  case r9 =>
                    refine truleGh fun b__ w hW hN hold hpre => ⟨fun hwant K hK => ?_, fun hwant => ?_⟩
                    · clear hwant
                      have e70 : (fun (v : Value) (w : World × _) => AtS w.2 1 v) (b__.eval (.tmp 70)) w := hpre ⟨4, _⟩ (Array.mem_of_getElem? (i := 0) rfl) rfl _ _ rfl rfl
                      have e74 : (fun (v : Value) (w : World × _) => (0, v) ∈ w.2.b) (b__.eval (.tmp 74)) w := hpre ⟨8, _⟩ (Array.mem_of_getElem? (i := 1) rfl) rfl _ _ rfl rfl
                      exact chain_app (kd := linkK) (by decide) rfl rfl ty_pairs hN e70 (hW.1 hJ0) (Sl.of_own ((hW.1 hJ0).side e74)) (pcells_one [(x, y)]) rfl rfl (by simp [linkD]; omega) (by simp [linkD]; omega) (show 1 + 1 < 4 by decide) hK
                    · rw [want_none rfl] at hwant; cases hwant
                  case r10 =>
                    refine truleGh fun b__ w hW hN hold hpre => ⟨fun hwant K hK => ?_, fun hwant => ?_⟩
                    · clear hwant
                      have e0 : b__.eval (.tmp 0) = .slice A L.length c := (hold 0 (by kernel_rfl)).trans rfl
                      exact opw_move rfl e0 (hK _ _ rfl ⟨hRr _, fun _ _ h => h⟩)
                    · rw [want_none rfl] at hwant; cases hwant
                  case r11 =>
                    refine truleGh fun b__ w hW hN hold hpre => ⟨fun hwant K hK => ?_, fun hwant => ?_⟩
                    · clear hwant
                      have e8 : b__.eval (.tmp 8) = .int .i64 ((i : Nat) : Int) := (hold 8 (by kernel_rfl)).trans rfl
                      exact opw_move rfl e8 (hK _ _ rfl ⟨hRr _, fun _ _ h => h⟩)
                    · rw [want_none rfl] at hwant; cases hwant
                  case r12 =>
                    refine truleGh fun b__ w hW hN hold hpre => ⟨fun hwant K hK => ?_, fun hwant => ?_⟩
                    · clear hwant
                      have e76 : b__.eval (.tmp 76) = .slice A L.length c := hpre ⟨10, _⟩ (Array.mem_of_getElem? (i := 0) rfl) rfl _ _ rfl rfl
                      have e77 : b__.eval (.tmp 77) = .int .i64 ((i : Nat) : Int) := hpre ⟨11, _⟩ (Array.mem_of_getElem? (i := 1) rfl) rfl _ _ rfl rfl
                      exact opw_sll rfl Tryd.underlying25 (by kernel_rfl) e76 e77 hil hc1 (hK _ _ rfl ⟨hRr _, fun _ _ h => h⟩)
                    · rw [want_none rfl] at hwant; cases hwant
                  case r13 =>
                    refine truleGh fun b__ w hW hN hold hpre => ⟨fun hwant K hK => ?_, fun hwant => ?_⟩
                    · clear hwant
                      have e75 : (fun (v : Value) (w : World × _) => AtS w.2 2 v) (b__.eval (.tmp 75)) w := hpre ⟨9, _⟩ (Array.mem_of_getElem? (i := 0) rfl) rfl _ _ rfl rfl
                      have e78 : b__.eval (.tmp 78) = sliced A i L.length c 2 := hpre ⟨12, _⟩ (Array.mem_of_getElem? (i := 1) rfl) rfl _ _ rfl rfl
                      exact chain_app (kd := linkK) (by decide) rfl rfl ty_pairs hN e75 (hW.1 hJ0) (by rw [e78]; exact slc_drop (kp _ _ (hW.1 hJ0).1.ro) hil) (fun u hu => pcells_one L u (List.mem_of_mem_drop hu)) rfl rfl (by simp [linkD]; omega) (by simp [linkD]; omega) (show 2 + 1 < 4 by decide) hK
                    · rw [want_none rfl] at hwant; cases hwant
                  case r14 =>
                    refine truleGh fun b__ w hW hN hold hpre => ⟨fun hwant K hK => ?_, fun hwant => ?_⟩
                    · clear hwant
                      have e79 : (fun (v : Value) (w : World × _) => AtS w.2 3 v) (b__.eval (.tmp 79)) w := hpre ⟨13, _⟩ (Array.mem_of_getElem? (i := 0) rfl) rfl _ _ rfl rfl
                      exact opw_assign rfl rfl (hK _ _ e79 ⟨hRr _, fun _ _ h => h⟩)
                    · rw [want_none rfl] at hwant; cases hwant
                  case r15 =>
                    refine truleGh fun b__ w hW hN hold hpre => ⟨fun hwant K hK => ?_, fun hwant => ?_⟩
                    · clear hwant
                      exact opw_assign rfl rfl (hK _ _ rfl ⟨hRr _, fun _ _ h => h⟩)
                    · rw [want_none rfl] at hwant; cases hwant
                  case post =>
                    intro b__ wz hW hdf hsz hold hT hZ
                    have e66 : (fun (v : Value) (w : World × _) => AtS w.2 0 v) (b__.eval (.tmp 66)) wz := hT 0 _ 66 rfl rfl
                    have e67 : b__.eval (.tmp 67) = .slice A L.length c := hT 1 _ 67 rfl rfl
                    have e68 : b__.eval (.tmp 68) = .int .i64 ((i : Nat) : Int) := hT 2 _ 68 rfl rfl
                    have e69 : b__.eval (.tmp 69) = .slice A i c := hT 3 _ 69 rfl rfl
                    have e70 : (fun (v : Value) (w : World × _) => AtS w.2 1 v) (b__.eval (.tmp 70)) wz := hT 4 _ 70 rfl rfl
                    have e71 : b__.eval (.tmp 71) = .int .i64 ((x : Nat) : Int) := hT 5 _ 71 rfl rfl
                    have e72 : b__.eval (.tmp 72) = .int .i64 ((y : Nat) : Int) := hT 6 _ 72 rfl rfl
                    have e73 : b__.eval (.tmp 73) = .agg #[.int .i64 ((x : Nat) : Int), .int .i64 ((y : Nat) : Int)] := hT 7 _ 73 rfl rfl
                    have e74 : (fun (v : Value) (w : World × _) => (0, v) ∈ w.2.b) (b__.eval (.tmp 74)) wz := hT 8 _ 74 rfl rfl
                    have e75 : (fun (v : Value) (w : World × _) => AtS w.2 2 v) (b__.eval (.tmp 75)) wz := hT 9 _ 75 rfl rfl
                    have e76 : b__.eval (.tmp 76) = .slice A L.length c := hT 10 _ 76 rfl rfl
                    have e77 : b__.eval (.tmp 77) = .int .i64 ((i : Nat) : Int) := hT 11 _ 77 rfl rfl
                    have e78 : b__.eval (.tmp 78) = sliced A i L.length c 2 := hT 12 _ 78 rfl rfl
                    have e79 : (fun (v : Value) (w : World × _) => AtS w.2 3 v) (b__.eval (.tmp 79)) wz := hT 13 _ 79 rfl rfl
                    have e6 : (fun (v : Value) (w : World × _) => AtS w.2 3 v) (b__.eval (.tmp 6)) wz := hT 14 _ 6 rfl rfl
                    have e7 : b__.eval (.tmp 7) = .int .i64 0 := hT 15 _ 7 rfl rfl
                    obtain ⟨vs, hvs, hb⟩ := frame_of hdf hsz hold
                    replace e66 := (hvs 66) ▸ e66
                    replace e67 : vs 67 = .slice A L.length c := (hvs 67).symm.trans e67
                    replace e68 : vs 68 = .int .i64 ((i : Nat) : Int) := (hvs 68).symm.trans e68
                    replace e69 : vs 69 = .slice A i c := (hvs 69).symm.trans e69
                    replace e70 := (hvs 70) ▸ e70
                    replace e71 : vs 71 = .int .i64 ((x : Nat) : Int) := (hvs 71).symm.trans e71
                    replace e72 : vs 72 = .int .i64 ((y : Nat) : Int) := (hvs 72).symm.trans e72
                    replace e73 : vs 73 = .agg #[.int .i64 ((x : Nat) : Int), .int .i64 ((y : Nat) : Int)] := (hvs 73).symm.trans e73
                    replace e74 := (hvs 74) ▸ e74
                    replace e75 := (hvs 75) ▸ e75
                    replace e76 : vs 76 = .slice A L.length c := (hvs 76).symm.trans e76
                    replace e77 : vs 77 = .int .i64 ((i : Nat) : Int) := (hvs 77).symm.trans e77
                    replace e78 : vs 78 = sliced A i L.length c 2 := (hvs 78).symm.trans e78
                    replace e79 := (hvs 79) ▸ e79
                    replace e6 := (hvs 6) ▸ e6
                    replace e7 : vs 7 = .int .i64 0 := (hvs 7).symm.trans e7
                    subst hb
                    clear hvs hold hT hdf hsz
                    simp only [setAll, Act.put, List.setIfInBounds_toArray, List.set_cons_zero, List.set_cons_succ, List.getElem_toArray, List.getElem_cons_succ, List.getElem_cons_zero]
                    have hJ := (hW.1 hJ0).last e6 rfl
                    replace hJ : St w0 wz.1 [.own (vs 6) 50 2 (L.length + 1) (pcells (ins L (x, y)))] fun _ _ => True := by
                      have e1 : 0 + i + 1 + (L.length - i) = L.length + 1 := by omega
                      have e2 : [] ++ (pcells L).take (i * 2) ++ pcells [(x, y)] ++ (pcells L).drop (i * 2) = pcells (ins L (x, y)) := by
                        rw [List.nil_append, pcells_take, pcells_drop, ← pcells_app, ← pcells_app, ins, ← HE.out, List.append_assoc]; rfl
                      simp only [linkD] at hJ
                      rw [e1, e2] at hJ
                      exact hJ.mono (Stable.pure True) fun _ _ _ => trivial
                    rw [e7]
                    generalize vs 6 = v6 at *
                    generalize wz.1 = wf at *
                    clear hW hZ hJ0 hRr hRt e6 e7
                    go_wp2_with fail
                    all_goals
                      go_ret2
                      exact .inr ⟨x, y, rfl, rfl, hx1.out, hy1.out, hxy.out, .inr (.inr ⟨hm, HT.out, _, rfl, hJ⟩)⟩
              · have HE : Hid (i = insAt L (x, y)) := Lib.hid (Nat.le_antisymm HIA.out (by have := insAt_le L (x, y); omega))
                go_wp2_with (first | ((with_reducible show wpList _ _ _ (⟨_, .binOp _ _ _ _ _, _, _, _, _⟩ :: _) _ _); (first | (refine st_lss rfl _ _ _ _ rfl _ _ _ rfl rfl (fun h_ => ?_) (fun h_ => ?_)) | (refine st_leq rfl _ _ _ _ rfl _ _ _ rfl rfl (fun h_ => ?_) (fun h_ => ?_)) | (refine st_gtr rfl _ _ _ _ rfl _ _ _ rfl rfl (fun h_ => ?_) (fun h_ => ?_)) | (refine st_geq rfl _ _ _ _ rfl _ _ _ rfl rfl (fun h_ => ?_) (fun h_ => ?_)) | (refine st_eql rfl _ _ _ _ rfl _ _ _ rfl rfl (fun h_ => ?_) (fun h_ => ?_)) | (refine st_neq rfl _ _ _ _ rfl _ _ _ rfl rfl (fun h_ => ?_) (fun h_ => ?_))) <;> go_prune))
                have hic : i ≤ c := by omega
                have hJ0 : AJ w0 [] K (linkD L (x, y) i) (wr.drew, ⟨[], []⟩) := ⟨hS.drew, Nat.zero_le _⟩
                have hN0 := AN_start linkK wr.drew
                have hRr := @AR.refl w0 [] K (linkD L (x, y) i)
                have hRt := @AR.trans w0 [] K (linkD L (x, y) i)
                refine wp_region_ghost (fun i__ v w => match i__ with
                  | 0 => AtS w.2 0 v
                  | 1 => v = .slice A L.length c
                  | 2 => v = .int .i64 ((i : Nat) : Int)
                  | 3 => v = .slice A i c
                  | 4 => AtS w.2 1 v
                  | 5 => v = .int .i64 ((x : Nat) : Int)
                  | 6 => v = .int .i64 ((y : Nat) : Int)
                  | 7 => v = .agg #[.int .i64 ((x : Nat) : Int), .int .i64 ((y : Nat) : Int)]
                  | 8 => (0, v) ∈ w.2.b
                  | 9 => AtS w.2 2 v
                  | 10 => v = .slice A L.length c
                  | 11 => v = .int .i64 ((i : Nat) : Int)
                  | 12 => v = sliced A i L.length c 2
                  | 13 => AtS w.2 3 v
                  | 14 => AtS w.2 3 v
                  | 15 => v = .int .i64 0
                  | _ => True) (AR w0 [] K (linkD L (x, y) i)) (AN linkK) (⟨[], []⟩) (by kernel_rfl) (by kernel_rfl) hRr hRt ?mono ?hN ⟨?r0, ?r1, ?r2, ?r3, ?r4, ?r5, ?r6, ?r7, ?r8, ?r9, ?r10, ?r11, ?r12, ?r13, ?r14, ?r15, trivial⟩ ?post
                case hN => first | assumption | (intro i; (try dsimp only); split <;> first | trivial | assumption | (left; assumption))
                case mono =>
                  intro i v w w' h hb
                  match i, h with
                  | 0, h => exact h.mono hb.2.1
                  | 1, h => exact h
                  | 2, h => exact h
                  | 3, h => exact h
                  | 4, h => exact h.mono hb.2.1
                  | 5, h => exact h
                  | 6, h => exact h
                  | 7, h => exact h
                  | 8, h => exact hb.2.2 _ h
                  | 9, h => exact h.mono hb.2.1
                  | 10, h => exact h
                  | 11, h => exact h
                  | 12, h => exact h
                  | 13, h => exact h.mono hb.2.1
                  | 14, h => exact h.mono hb.2.1
                  | 15, h => exact h
                  | _ + 16, h => trivial
                case r0 =>
                  refine truleGh fun b__ w hW hN hold hpre => ⟨fun hwant K hK => ?_, fun hwant => ?_⟩
                  · clear hwant
                    exact chain_start (kd := linkK) (by decide) rfl rfl Tryd.underlying25 (by kernel_rfl) hN rfl rfl (show 0 < 4 by decide) hK
                  · rw [want_none rfl] at hwant; cases hwant
                case r1 =>
                  refine truleGh fun b__ w hW hN hold hpre => ⟨fun hwant K hK => ?_, fun hwant => ?_⟩
                  · clear hwant
                    have e0 : b__.eval (.tmp 0) = .slice A L.length c := (hold 0 (by kernel_rfl)).trans rfl
                    exact opw_move rfl e0 (hK _ _ rfl ⟨hRr _, fun _ _ h => h⟩)
                  · rw [want_none rfl] at hwant; cases hwant
                case r2 =>
                  refine truleGh fun b__ w hW hN hold hpre => ⟨fun hwant K hK => ?_, fun hwant => ?_⟩
                  · clear hwant
                    have e8 : b__.eval (.tmp 8) = .int .i64 ((i : Nat) : Int) := (hold 8 (by kernel_rfl)).trans rfl
                    exact opw_move rfl e8 (hK _ _ rfl ⟨hRr _, fun _ _ h => h⟩)
                  · rw [want_none rfl] at hwant; cases hwant
                case r3 =>
                  refine truleGh fun b__ w hW hN hold hpre => ⟨fun hwant K hK => ?_, fun hwant => ?_⟩
                  · clear hwant
                    have e67 : b__.eval (.tmp 67) = .slice A L.length c := hpre ⟨1, _⟩ (Array.mem_of_getElem? (i := 0) rfl) rfl _ _ rfl rfl
                    have e68 : b__.eval (.tmp 68) = .int .i64 ((i : Nat) : Int) := hpre ⟨2, _⟩ (Array.mem_of_getElem? (i := 1) rfl) rfl _ _ rfl rfl
                    exact opw_slh rfl Tryd.underlying25 ⟨2, by kernel_rfl⟩ e67 e68 hic (hK _ _ rfl ⟨hRr _, fun _ _ h => h⟩)
                  · rw [want_none rfl] at hwant; cases hwant
                case r4 =>
                  refine truleGh fun b__ w hW hN hold hpre => ⟨fun hwant K hK => ?_, fun hwant => ?_⟩
                  · clear hwant
                    have e66 : (fun (v : Value) (w : World × _) => AtS w.2 0 v) (b__.eval (.tmp 66)) w := hpre ⟨0, _⟩ (Array.mem_of_getElem? (i := 0) rfl) rfl _ _ rfl rfl
                    have e69 : b__.eval (.tmp 69) = .slice A i c := hpre ⟨3, _⟩ (Array.mem_of_getElem? (i := 1) rfl) rfl _ _ rfl rfl
                    exact chain_app (kd := linkK) (by decide) rfl rfl ty_pairs hN e66 (hW.1 hJ0) (by rw [e69]; exact slc_take (kp _ _ (hW.1 hJ0).1.ro) hil) (fun u hu => pcells_one L u (List.mem_of_mem_take hu)) rfl rfl (by simp [linkD]; omega) (by simp [linkD]; omega) (show 0 + 1 < 4 by decide) hK
                  · rw [want_none rfl] at hwant; cases hwant
                case r5 =>
                  refine truleGh fun b__ w hW hN hold hpre => ⟨fun hwant K hK => ?_, fun hwant => ?_⟩
                  · clear hwant
                    have e1 : b__.eval (.tmp 1) = .int .i64 ((x : Nat) : Int) := (hold 1 (by kernel_rfl)).trans rfl
                    exact opw_move rfl e1 (hK _ _ rfl ⟨hRr _, fun _ _ h => h⟩)
                  · rw [want_none rfl] at hwant; cases hwant
                case r6 =>
                  refine truleGh fun b__ w hW hN hold hpre => ⟨fun hwant K hK => ?_, fun hwant => ?_⟩
                  · clear hwant
                    have e2 : b__.eval (.tmp 2) = .int .i64 ((y : Nat) : Int) := (hold 2 (by kernel_rfl)).trans rfl
                    exact opw_move rfl e2 (hK _ _ rfl ⟨hRr _, fun _ _ h => h⟩)
                  · rw [want_none rfl] at hwant; cases hwant
                case r7 =>
                  refine truleGh fun b__ w hW hN hold hpre => ⟨fun hwant K hK => ?_, fun hwant => ?_⟩
                  · clear hwant
                    have e71 : b__.eval (.tmp 71) = .int .i64 ((x : Nat) : Int) := hpre ⟨5, _⟩ (Array.mem_of_getElem? (i := 0) rfl) rfl _ _ rfl rfl
                    have e72 : b__.eval (.tmp 72) = .int .i64 ((y : Nat) : Int) := hpre ⟨6, _⟩ (Array.mem_of_getElem? (i := 1) rfl) rfl _ _ rfl rfl
                    exact opw_built rfl (ps := [(0, .int .i64 ((x : Nat) : Int)), (1, .int .i64 ((y : Nat) : Int))]) (cells := #[.int .i64 ((x : Nat) : Int), .int .i64 ((y : Nat) : Int)]) (by simp [e71, e72]) (by kernel_rfl) (hK _ _ rfl ⟨hRr _, fun _ _ h => h⟩)
                  · rw [want_none rfl] at hwant; cases hwant
                case r8 =>
                  refine truleGh fun b__ w hW hN hold hpre => ⟨fun hwant K hK => ?_, fun hwant => ?_⟩
                  · clear hwant
                    have e73 : b__.eval (.tmp 73) = .agg #[.int .i64 ((x : Nat) : Int), .int .i64 ((y : Nat) : Int)] := hpre ⟨7, _⟩ (Array.mem_of_getElem? (i := 0) rfl) rfl _ _ rfl rfl
                    exact chain_side (kd := linkK) (by decide) rfl rfl Tryd.underlying25 (ps := [(0, .agg #[.int .i64 ((x : Nat) : Int), .int .i64 ((y : Nat) : Int)])]) (cells := #[.int .i64 ((x : Nat) : Int), .int .i64 ((y : Nat) : Int)]) (by simp [e73]) (by kernel_rfl) (fun _ => rfl) rfl (by decide) hK
                  · rw [want_none rfl] at hwant; cases hwant
                case r9 =>
                  refine truleGh fun b__ w hW hN hold hpre => ⟨fun hwant K hK => ?_, fun hwant => ?_⟩
                  · clear hwant
                    have e70 : (fun (v : Value) (w : World × _) => AtS w.2 1 v) (b__.eval (.tmp 70)) w := hpre ⟨4, _⟩ (Array.mem_of_getElem? (i := 0) rfl) rfl _ _ rfl rfl
                    have e74 : (fun (v : Value) (w : World × _) => (0, v) ∈ w.2.b) (b__.eval (.tmp 74)) w := hpre ⟨8, _⟩ (Array.mem_of_getElem? (i := 1) rfl) rfl _ _ rfl rfl
                    exact chain_app (kd := linkK) (by decide) rfl rfl ty_pairs hN e70 (hW.1 hJ0) (Sl.of_own ((hW.1 hJ0).side e74)) (pcells_one [(x, y)]) rfl rfl (by simp [linkD]; omega) (by simp [linkD]; omega) (show 1 + 1 < 4 by decide) hK
                  · rw [want_none rfl] at hwant; cases hwant
                case r10 =>
                  refine truleGh fun b__ w hW hN hold hpre => ⟨fun hwant K hK => ?_, fun hwant => ?_⟩
                  · clear hwant
                    have e0 : b__.eval (.tmp 0) = .slice A L.length c := (hold 0 (by kernel_rfl)).trans rfl
                    exact opw_move rfl e0 (hK _ _ rfl ⟨hRr _, fun _ _ h => h⟩)
                  · rw [want_none rfl] at hwant; cases hwant
                case r11 =>
                  refine truleGh fun b__ w hW hN hold hpre => ⟨fun hwant K hK => ?_, fun hwant => ?_⟩
                  · clear hwant
                    have e8 : b__.eval (.tmp 8) = .int .i64 ((i : Nat) : Int) := (hold 8 (by kernel_rfl)).trans rfl
                    exact opw_move rfl e8 (hK _ _ rfl ⟨hRr _, fun _ _ h => h⟩)
                  · rw [want_none rfl] at hwant; cases hwant
                case r12 =>
                  refine truleGh fun b__ w hW hN hold hpre => ⟨fun hwant K hK => ?_, fun hwant => ?_⟩
                  · clear hwant
                    have e76 : b__.eval (.tmp 76) = .slice A L.length c := hpre ⟨10, _⟩ (Array.mem_of_getElem? (i := 0) rfl) rfl _ _ rfl rfl
                    have e77 : b__.eval (.tmp 77) = .int .i64 ((i : Nat) : Int) := hpre ⟨11, _⟩ (Array.mem_of_getElem? (i := 1) rfl) rfl _ _ rfl rfl
                    exact opw_sll rfl Tryd.underlying25 (by kernel_rfl) e76 e77 hil hc1 (hK _ _ rfl ⟨hRr _, fun _ _ h => h⟩)
                  · rw [want_none rfl] at hwant; cases hwant
                case r13 =>
                  refine truleGh fun b__ w hW hN hold hpre => ⟨fun hwant K hK => ?_, fun hwant => ?_⟩
                  · clear hwant
                    have e75 : (fun (v : Value) (w : World × _) => AtS w.2 2 v) (b__.eval (.tmp 75)) w := hpre ⟨9, _⟩ (Array.mem_of_getElem? (i := 0) rfl) rfl _ _ rfl rfl
                    have e78 : b__.eval (.tmp 78) = sliced A i L.length c 2 := hpre ⟨12, _⟩ (Array.mem_of_getElem? (i := 1) rfl) rfl _ _ rfl rfl
                    exact chain_app (kd := linkK) (by decide) rfl rfl ty_pairs hN e75 (hW.1 hJ0) (by rw [e78]; exact slc_drop (kp _ _ (hW.1 hJ0).1.ro) hil) (fun u hu => pcells_one L u (List.mem_of_mem_drop hu)) rfl rfl (by simp [linkD]; omega) (by simp [linkD]; omega) (show 2 + 1 < 4 by decide) hK
                  · rw [want_none rfl] at hwant; cases hwant
                case r14 =>
                  refine truleGh fun b__ w hW hN hold hpre => ⟨fun hwant K hK => ?_, fun hwant => ?_⟩
                  · clear hwant
                    have e79 : (fun (v : Value) (w : World × _) => AtS w.2 3 v) (b__.eval (.tmp 79)) w := hpre ⟨13, _⟩ (Array.mem_of_getElem? (i := 0) rfl) rfl _ _ rfl rfl
                    exact opw_assign rfl rfl (hK _ _ e79 ⟨hRr _, fun _ _ h => h⟩)
                  · rw [want_none rfl] at hwant; cases hwant
                case r15 =>
                  refine truleGh fun b__ w hW hN hold hpre => ⟨fun hwant K hK => ?_, fun hwant => ?_⟩
                  · clear hwant
                    exact opw_assign rfl rfl (hK _ _ rfl ⟨hRr _, fun _ _ h => h⟩)
                  · rw [want_none rfl] at hwant; cases hwant
                case post =>
                  intro b__ wz hW hdf hsz hold hT hZ
                  have e66 : (fun (v : Value) (w : World × _) => AtS w.2 0 v) (b__.eval (.tmp 66)) wz := hT 0 _ 66 rfl rfl
                  have e67 : b__.eval (.tmp 67) = .slice A L.length c := hT 1 _ 67 rfl rfl
                  have e68 : b__.eval (.tmp 68) = .int .i64 ((i : Nat) : Int) := hT 2 _ 68 rfl rfl
                  have e69 : b__.eval (.tmp 69) = .slice A i c := hT 3 _ 69 rfl rfl
                  have e70 : (fun (v : Value) (w : World × _) => AtS w.2 1 v) (b__.eval (.tmp 70)) wz := hT 4 _ 70 rfl rfl
                  have e71 : b__.eval (.tmp 71) = .int .i64 ((x : Nat) : Int) := hT 5 _ 71 rfl rfl
                  have e72 : b__.eval (.tmp 72) = .int .i64 ((y : Nat) : Int) := hT 6 _ 72 rfl rfl
                  have e73 : b__.eval (.tmp 73) = .agg #[.int .i64 ((x : Nat) : Int), .int .i64 ((y : Nat) : Int)] := hT 7 _ 73 rfl rfl
                  have e74 : (fun (v : Value) (w : World × _) => (0, v) ∈ w.2.b) (b__.eval (.tmp 74)) wz := hT 8 _ 74 rfl rfl
                  have e75 : (fun (v : Value) (w : World × _) => AtS w.2 2 v) (b__.eval (.tmp 75)) wz := hT 9 _ 75 rfl rfl
                  have e76 : b__.eval (.tmp 76) = .slice A L.length c := hT 10 _ 76 rfl rfl
                  have e77 : b__.eval (.tmp 77) = .int .i64 ((i : Nat) : Int) := hT 11 _ 77 rfl rfl
                  have e78 : b__.eval (.tmp 78) = sliced A i L.length c 2 := hT 12 _ 78 rfl rfl
                  have e79 : (fun (v : Value) (w : World × _) => AtS w.2 3 v) (b__.eval (.tmp 79)) wz := hT 13 _ 79 rfl rfl
                  have e6 : (fun (v : Value) (w : World × _) => AtS w.2 3 v) (b__.eval (.tmp 6)) wz := hT 14 _ 6 rfl rfl
                  have e7 : b__.eval (.tmp 7) = .int .i64 0 := hT 15 _ 7 rfl rfl
                  obtain ⟨vs, hvs, hb⟩ := frame_of hdf hsz hold
                  replace e66 := (hvs 66) ▸ e66
                  replace e67 : vs 67 = .slice A L.length c := (hvs 67).symm.trans e67
                  replace e68 : vs 68 = .int .i64 ((i : Nat) : Int) := (hvs 68).symm.trans e68
                  replace e69 : vs 69 = .slice A i c := (hvs 69).symm.trans e69
                  replace e70 := (hvs 70) ▸ e70
                  replace e71 : vs 71 = .int .i64 ((x : Nat) : Int) := (hvs 71).symm.trans e71
                  replace e72 : vs 72 = .int .i64 ((y : Nat) : Int) := (hvs 72).symm.trans e72
                  replace e73 : vs 73 = .agg #[.int .i64 ((x : Nat) : Int), .int .i64 ((y : Nat) : Int)] := (hvs 73).symm.trans e73
                  replace e74 := (hvs 74) ▸ e74
                  replace e75 := (hvs 75) ▸ e75
                  replace e76 : vs 76 = .slice A L.length c := (hvs 76).symm.trans e76
                  replace e77 : vs 77 = .int .i64 ((i : Nat) : Int) := (hvs 77).symm.trans e77
                  replace e78 : vs 78 = sliced A i L.length c 2 := (hvs 78).symm.trans e78
                  replace e79 := (hvs 79) ▸ e79
                  replace e6 := (hvs 6) ▸ e6
                  replace e7 : vs 7 = .int .i64 0 := (hvs 7).symm.trans e7
                  subst hb
                  clear hvs hold hT hdf hsz
                  simp only [setAll, Act.put, List.setIfInBounds_toArray, List.set_cons_zero, List.set_cons_succ, List.getElem_toArray, List.getElem_cons_succ, List.getElem_cons_zero]
                  have hJ := (hW.1 hJ0).last e6 rfl
                  replace hJ : St w0 wz.1 [.own (vs 6) 50 2 (L.length + 1) (pcells (ins L (x, y)))] fun _ _ => True := by
                    have e1 : 0 + i + 1 + (L.length - i) = L.length + 1 := by omega
                    have e2 : [] ++ (pcells L).take (i * 2) ++ pcells [(x, y)] ++ (pcells L).drop (i * 2) = pcells (ins L (x, y)) := by
                      rw [List.nil_append, pcells_take, pcells_drop, ← pcells_app, ← pcells_app, ins, ← HE.out, List.append_assoc]; rfl
                    simp only [linkD] at hJ
                    rw [e1, e2] at hJ
                    exact hJ.mono (Stable.pure True) fun _ _ _ => trivial
                  rw [e7]
                  generalize vs 6 = v6 at *
                  generalize wz.1 = wf at *
                  clear hW hZ hJ0 hRr hRt e6 e7
                  go_wp2_with fail
                  all_goals
                    go_ret2
                    exact .inr ⟨x, y, rfl, rfl, hx1.out, hy1.out, hxy.out, .inr (.inr ⟨hm, HT.out, _, rfl, hJ⟩)⟩
    · have HRB := Lib.hid (decide_eq_false hrb)
      have HNO : Hid (¬ twoR a b) := Lib.hid fun h => hrb h.2.1
      go_enter Tryd.func68, Tryd.ntmps68
      go_wp2_with (first
        | ((with_reducible show wpList _ _ _ (⟨_, .binOp _ _ _ _ _, _, _, _, _⟩ :: _) _ _); (first | (refine st_lss rfl _ _ _ _ rfl _ _ _ rfl rfl (fun h_ => ?_) (fun h_ => ?_)) | (refine st_leq rfl _ _ _ _ rfl _ _ _ rfl rfl (fun h_ => ?_) (fun h_ => ?_)) | (refine st_gtr rfl _ _ _ _ rfl _ _ _ rfl rfl (fun h_ => ?_) (fun h_ => ?_)) | (refine st_geq rfl _ _ _ _ rfl _ _ _ rfl rfl (fun h_ => ?_) (fun h_ => ?_)) | (refine st_eql rfl _ _ _ _ rfl _ _ _ rfl rfl (fun h_ => ?_) (fun h_ => ?_)) | (refine st_neq rfl _ _ _ _ rfl _ _ _ rfl rfl (fun h_ => ?_) (fun h_ => ?_))) <;> go_prune)
        | (go_at_call 57; refine (rrole_any _ _).mono ?_; (first | rw [HRA.out] | rw [HRB.out]); rintro r_ w_ ⟨_, rfl, rfl, hb_⟩; replace hS := hS.ext hb_; clear hb_))
      go_ret2
      exact .inl ⟨HNO.out, rfl, hS.below⟩
  · have HRA := Lib.hid (decide_eq_false hra)
    have HRB := HRA
    have HNO : Hid (¬ twoR a b) := Lib.hid fun h => hra h.1
    go_enter Tryd.func68, Tryd.ntmps68
    go_wp2_with (first
      | ((with_reducible show wpList _ _ _ (⟨_, .binOp _ _ _ _ _, _, _, _, _⟩ :: _) _ _); (first | (refine st_lss rfl _ _ _ _ rfl _ _ _ rfl rfl (fun h_ => ?_) (fun h_ => ?_)) | (refine st_leq rfl _ _ _ _ rfl _ _ _ rfl rfl (fun h_ => ?_) (fun h_ => ?_)) | (refine st_gtr rfl _ _ _ _ rfl _ _ _ rfl rfl (fun h_ => ?_) (fun h_ => ?_)) | (refine st_geq rfl _ _ _ _ rfl _ _ _ rfl rfl (fun h_ => ?_) (fun h_ => ?_)) | (refine st_eql rfl _ _ _ _ rfl _ _ _ rfl rfl (fun h_ => ?_) (fun h_ => ?_)) | (refine st_neq rfl _ _ _ _ rfl _ _ _ rfl rfl (fun h_ => ?_) (fun h_ => ?_))) <;> go_prune)
      | (go_at_call 57; refine (rrole_any _ _).mono ?_; (first | rw [HRA.out] | rw [HRB.out]); rintro r_ w_ ⟨_, rfl, rfl, hb_⟩; replace hS := hS.ext hb_; clear hb_))
    go_ret2
    exact .inl ⟨HNO.out, rfl, hS.below⟩
end Go.Proofs.YtmlkgaiphpimiaaDoor
namespace Go.Proofs.YtmlkgaiphpimiaaDoor
open Go.RowKit
attribute [local go_sem ↓] Go.wp_at_zero Go.wp_at_succ
set_option maxRecDepth 20000
set_option exponentiation.threshold 5000

def RUnlinkP (w0 : World) (pv : Value) (L : List (Nat × Nat)) (a b : Int) (e : Ending) (w' : World) : Prop :=
  (¬ twoR a b ∧ e = .returned (.tuple #[pv, .int .i64 1]) ∧ Below w0.heap.size w0 w') ∨
  ∃ x y : Nat, a = (x : Int) ∧ b = (y : Int) ∧ (1 ≤ x ∧ x < 64) ∧ (1 ≤ y ∧ y < 64) ∧ x ≠ y ∧
    (((x, y) ∉ L ∧ e = .returned (.tuple #[pv, .int .i64 4]) ∧ Below w0.heap.size w0 w') ∨
     ((x, y) ∈ L ∧ ∃ v, e = .returned (.tuple #[v, .int .i64 0]) ∧ St w0 w' [.own v 50 2 (unl L (x, y)).length (pcells (unl L (x, y)))] fun _ _ => True))
set_option maxHeartbeats 1000000 in
theorem runlink_any {w0 : World} {D : Nat → Prop} {pv : Value} {L : List (Nat × Nat)} (h : Sl w0 D 2 pv L.length (pcells L)) (hl : L.length ≤ 1000000) (a b : Int) :
    Calls Tryd.prog 67 #[pv, .int .i64 a, .int .i64 b] w0 (RUnlinkP w0 pv L a b) := by
  obtain ⟨A, c, rfl, hc1, _⟩ := h.shape
  obtain ⟨K, kp, hS⟩ : ∃ K : (Nat → Prop) → World → Prop, (∀ D w, K D w → Sl w D 2 (.slice A L.length c) L.length (pcells L)) ∧ St w0 w0 [] K := ⟨_, fun _ _ h => h, St.start (stable_sl (by decide)) h⟩
  clear h
  have HH := Lib.hid (fun (w : World) (D : Nat → Prop) (h : Sl w D 2 (.slice A L.length c) L.length (pcells L)) => rhas_any h hl a b)
  by_cases hra : 1 ≤ a ∧ a ≤ 63
  · have HRA := Lib.hid (decide_eq_true hra)
    by_cases hrb : 1 ≤ b ∧ b ≤ 63
    · have HRB := Lib.hid (decide_eq_true hrb)
      by_cases hab : a = b
      · subst hab
        have HNO : Hid (¬ twoR a a) := Lib.hid fun h => h.2.2 rfl
        clear hra hrb
        go_enter Tryd.func67, Tryd.ntmps67
        go_wp2_with (first
          | ((with_reducible show wpList _ _ _ (⟨_, .binOp _ _ _ _ _, _, _, _, _⟩ :: _) _ _); (first | (refine st_lss rfl _ _ _ _ rfl _ _ _ rfl rfl (fun h_ => ?_) (fun h_ => ?_)) | (refine st_leq rfl _ _ _ _ rfl _ _ _ rfl rfl (fun h_ => ?_) (fun h_ => ?_)) | (refine st_gtr rfl _ _ _ _ rfl _ _ _ rfl rfl (fun h_ => ?_) (fun h_ => ?_)) | (refine st_geq rfl _ _ _ _ rfl _ _ _ rfl rfl (fun h_ => ?_) (fun h_ => ?_)) | (refine st_eql rfl _ _ _ _ rfl _ _ _ rfl rfl (fun h_ => ?_) (fun h_ => ?_)) | (refine st_neq rfl _ _ _ _ rfl _ _ _ rfl rfl (fun h_ => ?_) (fun h_ => ?_))) <;> go_prune)
          | (go_at_call 57; refine (rrole_any _ _).mono ?_; (first | rw [HRA.out] | rw [HRB.out]); rintro r_ w_ ⟨_, rfl, rfl, hb_⟩; replace hS := hS.ext hb_; clear hb_))
        go_ret2
        exact .inl ⟨HNO.out, rfl, hS.below⟩
      · obtain ⟨x, rfl⟩ : ∃ x : Nat, a = (x : Int) := ⟨a.toNat, by omega⟩
        obtain ⟨y, rfl⟩ : ∃ y : Nat, b = (y : Int) := ⟨b.toNat, by omega⟩
        have hx1 : Hid (1 ≤ x ∧ x < 64) := Lib.hid (by omega)
        have hy1 : Hid (1 ≤ y ∧ y < 64) := Lib.hid (by omega)
        have hxy : Hid (x ≠ y) := Lib.hid (by omega)
        have HC1 : Hid (∀ c : Bool, (c = true ↔ ∃ z ∈ L, (x : Int) = (z.1 : Int) ∧ (y : Int) = (z.2 : Int)) → c = decide ((x, y) ∈ L)) := Lib.hid fun c hc => by
          rw [Bool.eq_iff_iff, hc, decide_eq_true_iff]
          constructor
          · rintro ⟨⟨za, zb⟩, h1, h2, h3⟩
            dsimp only at h2 h3
            obtain rfl : x = za := by omega
            obtain rfl : y = zb := by omega
            exact h1
          · intro h; exact ⟨_, h, rfl, rfl⟩
        clear hra hrb
        by_cases hm : (x, y) ∈ L
        · go_enter Tryd.func67, Tryd.ntmps67
          go_wp2_with (first
            | ((with_reducible show wpList _ _ _ (⟨_, .binOp _ _ _ _ _, _, _, _, _⟩ :: _) _ _); (first | (refine st_lss rfl _ _ _ _ rfl _ _ _ rfl rfl (fun h_ => ?_) (fun h_ => ?_)) | (refine st_leq rfl _ _ _ _ rfl _ _ _ rfl rfl (fun h_ => ?_) (fun h_ => ?_)) | (refine st_gtr rfl _ _ _ _ rfl _ _ _ rfl rfl (fun h_ => ?_) (fun h_ => ?_)) | (refine st_geq rfl _ _ _ _ rfl _ _ _ rfl rfl (fun h_ => ?_) (fun h_ => ?_)) | (refine st_eql rfl _ _ _ _ rfl _ _ _ rfl rfl (fun h_ => ?_) (fun h_ => ?_)) | (refine st_neq rfl _ _ _ _ rfl _ _ _ rfl rfl (fun h_ => ?_) (fun h_ => ?_))) <;> go_prune)
            | (go_at_call 57; refine (rrole_any _ _).mono ?_; (first | rw [HRA.out] | rw [HRB.out]); rintro r_ w_ ⟨_, rfl, rfl, hb_⟩; replace hS := hS.ext hb_; clear hb_)
            | (go_at_call 87; refine (HH.out _ _ (kp _ _ hS.ro)).mono ?_; rintro r_ w_ ⟨_, rfl, ⟨c, rfl, hc⟩, hb_⟩; replace hc := HC1.out c hc; rw [decide_eq_true hm] at hc; subst hc; replace hS := hS.ext hb_; clear hb_))
          replace hS := hS.nil 50 2
          go_loopw [8, 33] (fun v i wr => ∃ j : Nat, i = .int .i64 (j : Nat) ∧ j ≤ L.length ∧ St w0 wr [.own v 50 2 (unl (L.take j) (x, y)).length (pcells (unl (L.take j) (x, y)))] K) (fun _ i _ => L.length - (intOf i).toNat)
          case atStart => exact ⟨0, rfl, by omega, hS⟩
          case round =>
            clear hS HH
            obtain ⟨j, rfl, hj, hS⟩ := hrel
            by_cases hlj : j < L.length
            · obtain ⟨f1, f2⟩ := pcells_at L j hlj
              have HST := Lib.hid (unl_step (getD_at (0, 0) hlj) (x, y))
              have hM := unl_len L (x, y) j
              generalize L.getD j (0, 0) = z at *
              generalize hMM : unl (L.take j) (x, y) = M at *
              clear hMM
              by_cases hz : z = (x, y)
              · have HE := Lib.hid (HST.out.trans (if_neg (by simp [hz])))
                have HD : Hid (decide (z ≠ (x, y)) = false) := Lib.hid (by simp [hz])
                obtain ⟨za, zb⟩ := z
                dsimp only at f1 f2
                clear hz HST
                go_wp2_with (first
                  | ((with_reducible show wpList _ _ _ (⟨some 41, _, _, _, _, _⟩ :: _) _ _); refine BigFrame.wpList_want rfl fun _ hK => opw_bin (vx := .agg #[.int .i64 (za : Nat), .int .i64 (zb : Nat)]) (vy := .agg #[.int .i64 (x : Nat), .int .i64 (y : Nat)]) (v := .bool false) rfl rfl rfl rfl ((ne_pairs _ (za, zb) (x, y)).trans (by rw [HD.out])) (hK _ _ ?_))
                  | ((with_reducible show wpList _ _ _ (⟨_, .binOp _ _ _ _ _, _, _, _, _⟩ :: _) _ _); (first | (refine st_lss rfl _ _ _ _ rfl _ _ _ rfl rfl (fun h_ => ?_) (fun h_ => ?_)) | (refine st_leq rfl _ _ _ _ rfl _ _ _ rfl rfl (fun h_ => ?_) (fun h_ => ?_)) | (refine st_gtr rfl _ _ _ _ rfl _ _ _ rfl rfl (fun h_ => ?_) (fun h_ => ?_)) | (refine st_geq rfl _ _ _ _ rfl _ _ _ rfl rfl (fun h_ => ?_) (fun h_ => ?_)) | (refine st_eql rfl _ _ _ _ rfl _ _ _ rfl rfl (fun h_ => ?_) (fun h_ => ?_)) | (refine st_neq rfl _ _ _ _ rfl _ _ _ rfl rfl (fun h_ => ?_) (fun h_ => ?_))) <;> go_prune)
                  | ((with_reducible show wpList _ _ _ (⟨_, .indexAddr _ _ _, _, _, _, _⟩ :: _) _ _); refine st_iaddr2 hS rfl _ _ _ rfl _ rfl rfl (by assumption) Tryd.underlying25 (by kernel_rfl) (by first | assumption | omega) _ _ (by assumption) (by assumption) ?_; intro b_ j_ hc0_ hc1_)
                  | ((with_reducible show wpList _ _ _ (⟨some 10, _, _, _, _, _⟩ :: _) _ _); refine st_alloc hS rfl _ rfl (by kernel_rfl) ?_; clear hS; intro g4 w_ hS; (try simp only [Act.put, Act.eval, List.set_cons_zero, List.set_cons_succ, List.setIfInBounds_toArray, Array.getD_eq_getD_getElem?, List.getElem?_toArray, List.getElem?_cons_succ, List.getElem?_cons_zero, Option.getD_some, Value.cells] at hS))
                  | ((with_reducible show wpList _ _ _ (⟨_, .store _ _ _, _, _, _, _⟩ :: _) _ _); (first | (refine st_store hS 0 rfl _ _ _ rfl _ _ rfl rfl _ _ rfl (by kernel_rfl) (by kernel_rfl) (by kernel_rfl) ?_) | (refine st_store hS 1 rfl _ _ _ rfl _ _ rfl rfl _ _ rfl (by kernel_rfl) (by kernel_rfl) (by kernel_rfl) ?_) | (refine st_store hS 2 rfl _ _ _ rfl _ _ rfl rfl _ _ rfl (by kernel_rfl) (by kernel_rfl) (by kernel_rfl) ?_) | (refine st_store hS 3 rfl _ _ _ rfl _ _ rfl rfl _ _ rfl (by kernel_rfl) (by kernel_rfl) (by kernel_rfl) ?_) | (refine st_cstore hS 0 rfl _ _ _ rfl _ _ _ rfl rfl rfl (by first | (simp; done) | (simp; omega) | exact of_decide_eq_true (by kernel_rfl)) rfl (by first | rfl | assumption) (by kernel_rfl) ?_) | (refine st_cstore hS 1 rfl _ _ _ rfl _ _ _ rfl rfl rfl (by first | (simp; done) | (simp; omega) | exact of_decide_eq_true (by kernel_rfl)) rfl (by first | rfl | assumption) (by kernel_rfl) ?_) | (refine st_cstore hS 2 rfl _ _ _ rfl _ _ _ rfl rfl rfl (by first | (simp; done) | (simp; omega) | exact of_decide_eq_true (by kernel_rfl)) rfl (by first | rfl | assumption) (by kernel_rfl) ?_) | (refine st_cstore hS 3 rfl _ _ _ rfl _ _ _ rfl rfl rfl (by first | (simp; done) | (simp; omega) | exact of_decide_eq_true (by kernel_rfl)) rfl (by first | rfl | assumption) (by kernel_rfl) ?_)); clear hS; intro w_ hS; (try simp only [Act.put, Act.eval, List.set_cons_zero, List.set_cons_succ, List.setIfInBounds_toArray, Array.getD_eq_getD_getElem?, List.getElem?_toArray, List.getElem?_cons_succ, List.getElem?_cons_zero, Option.getD_some, Value.cells] at hS))
                  | ((with_reducible show wpList _ _ _ (⟨_, .load _ _, _, _, _, _⟩ :: _) _ _); first | refine st_load hS 0 rfl _ _ rfl _ rfl _ _ rfl _ Tryd.underlying50 rfl (by kernel_rfl) ?_ | refine st_load hS 1 rfl _ _ rfl _ rfl _ _ rfl _ Tryd.underlying50 rfl (by kernel_rfl) ?_ | refine st_load hS 2 rfl _ _ rfl _ rfl _ _ rfl _ Tryd.underlying50 rfl (by kernel_rfl) ?_ | refine st_load hS 3 rfl _ _ rfl _ rfl _ _ rfl _ Tryd.underlying50 rfl (by kernel_rfl) ?_)
                  | ((with_reducible show wpList _ _ _ (⟨_, .load _ _, _, _, _, _⟩ :: _) _ _); first | (refine st_cell hS 0 rfl _ _ rfl _ _ rfl _ _ rfl (by decide +kernel) _ (by first | assumption | rfl) ?_) | (refine st_cell hS 1 rfl _ _ rfl _ _ rfl _ _ rfl (by decide +kernel) _ (by first | assumption | rfl) ?_) | (refine st_cell hS 2 rfl _ _ rfl _ _ rfl _ _ rfl (by decide +kernel) _ (by first | assumption | rfl) ?_) | (refine st_cell hS 3 rfl _ _ rfl _ _ rfl _ _ rfl (by decide +kernel) _ (by first | assumption | rfl) ?_) | (refine st_cell hS 4 rfl _ _ rfl _ _ rfl _ _ rfl (by decide +kernel) _ (by first | assumption | rfl) ?_) | (refine st_cell hS 5 rfl _ _ rfl _ _ rfl _ _ rfl (by decide +kernel) _ (by first | assumption | rfl) ?_) | (refine st_cell hS 6 rfl _ _ rfl _ _ rfl _ _ rfl (by decide +kernel) _ (by first | assumption | rfl) ?_) | (refine st_cell hS 7 rfl _ _ rfl _ _ rfl _ _ rfl (by decide +kernel) _ (by first | assumption | rfl) ?_)))
                exact ⟨⟨j + 1, by go_num, hlj, by rw [HE.out]; exact hS.sub (List.sublist_cons_self _ _)⟩, by simp [intOf]; omega⟩
              · have HE := Lib.hid (HST.out.trans (if_pos hz))
                have HD : Hid (decide (z ≠ (x, y)) = true) := Lib.hid (by simp [hz])
                obtain ⟨za, zb⟩ := z
                dsimp only at f1 f2
                clear hz HST
                go_wp2_with (first
                  | ((with_reducible show wpList _ _ _ (⟨some 41, _, _, _, _, _⟩ :: _) _ _); refine BigFrame.wpList_want rfl fun _ hK => opw_bin (vx := .agg #[.int .i64 (za : Nat), .int .i64 (zb : Nat)]) (vy := .agg #[.int .i64 (x : Nat), .int .i64 (y : Nat)]) (v := .bool true) rfl rfl rfl rfl ((ne_pairs _ (za, zb) (x, y)).trans (by rw [HD.out])) (hK _ _ ?_))
                  | ((with_reducible show wpList _ _ _ (⟨_, .binOp _ _ _ _ _, _, _, _, _⟩ :: _) _ _); (first | (refine st_lss rfl _ _ _ _ rfl _ _ _ rfl rfl (fun h_ => ?_) (fun h_ => ?_)) | (refine st_leq rfl _ _ _ _ rfl _ _ _ rfl rfl (fun h_ => ?_) (fun h_ => ?_)) | (refine st_gtr rfl _ _ _ _ rfl _ _ _ rfl rfl (fun h_ => ?_) (fun h_ => ?_)) | (refine st_geq rfl _ _ _ _ rfl _ _ _ rfl rfl (fun h_ => ?_) (fun h_ => ?_)) | (refine st_eql rfl _ _ _ _ rfl _ _ _ rfl rfl (fun h_ => ?_) (fun h_ => ?_)) | (refine st_neq rfl _ _ _ _ rfl _ _ _ rfl rfl (fun h_ => ?_) (fun h_ => ?_))) <;> go_prune)
                  | ((with_reducible show wpList _ _ _ (⟨_, .indexAddr _ _ _, _, _, _, _⟩ :: _) _ _); refine st_iaddr2 hS rfl _ _ _ rfl _ rfl rfl (by assumption) Tryd.underlying25 (by kernel_rfl) (by first | assumption | omega) _ _ (by assumption) (by assumption) ?_; intro b_ j_ hc0_ hc1_)
                  | ((with_reducible show wpList _ _ _ (⟨some 10, _, _, _, _, _⟩ :: _) _ _); refine st_alloc hS rfl _ rfl (by kernel_rfl) ?_; clear hS; intro g4 w_ hS; (try simp only [Act.put, Act.eval, List.set_cons_zero, List.set_cons_succ, List.setIfInBounds_toArray, Array.getD_eq_getD_getElem?, List.getElem?_toArray, List.getElem?_cons_succ, List.getElem?_cons_zero, Option.getD_some, Value.cells] at hS))
                  | ((with_reducible show wpList _ _ _ (⟨_, .store _ _ _, _, _, _, _⟩ :: _) _ _); (first | (refine st_store hS 0 rfl _ _ _ rfl _ _ rfl rfl _ _ rfl (by kernel_rfl) (by kernel_rfl) (by kernel_rfl) ?_) | (refine st_store hS 1 rfl _ _ _ rfl _ _ rfl rfl _ _ rfl (by kernel_rfl) (by kernel_rfl) (by kernel_rfl) ?_) | (refine st_store hS 2 rfl _ _ _ rfl _ _ rfl rfl _ _ rfl (by kernel_rfl) (by kernel_rfl) (by kernel_rfl) ?_) | (refine st_store hS 3 rfl _ _ _ rfl _ _ rfl rfl _ _ rfl (by kernel_rfl) (by kernel_rfl) (by kernel_rfl) ?_) | (refine st_cstore hS 0 rfl _ _ _ rfl _ _ _ rfl rfl rfl (by first | (simp; done) | (simp; omega) | exact of_decide_eq_true (by kernel_rfl)) rfl (by first | rfl | assumption) (by kernel_rfl) ?_) | (refine st_cstore hS 1 rfl _ _ _ rfl _ _ _ rfl rfl rfl (by first | (simp; done) | (simp; omega) | exact of_decide_eq_true (by kernel_rfl)) rfl (by first | rfl | assumption) (by kernel_rfl) ?_) | (refine st_cstore hS 2 rfl _ _ _ rfl _ _ _ rfl rfl rfl (by first | (simp; done) | (simp; omega) | exact of_decide_eq_true (by kernel_rfl)) rfl (by first | rfl | assumption) (by kernel_rfl) ?_) | (refine st_cstore hS 3 rfl _ _ _ rfl _ _ _ rfl rfl rfl (by first | (simp; done) | (simp; omega) | exact of_decide_eq_true (by kernel_rfl)) rfl (by first | rfl | assumption) (by kernel_rfl) ?_)); clear hS; intro w_ hS; (try simp only [Act.put, Act.eval, List.set_cons_zero, List.set_cons_succ, List.setIfInBounds_toArray, Array.getD_eq_getD_getElem?, List.getElem?_toArray, List.getElem?_cons_succ, List.getElem?_cons_zero, Option.getD_some, Value.cells] at hS))
                  | ((with_reducible show wpList _ _ _ (⟨_, .load _ _, _, _, _, _⟩ :: _) _ _); first | refine st_load hS 0 rfl _ _ rfl _ rfl _ _ rfl _ Tryd.underlying50 rfl (by kernel_rfl) ?_ | refine st_load hS 1 rfl _ _ rfl _ rfl _ _ rfl _ Tryd.underlying50 rfl (by kernel_rfl) ?_ | refine st_load hS 2 rfl _ _ rfl _ rfl _ _ rfl _ Tryd.underlying50 rfl (by kernel_rfl) ?_ | refine st_load hS 3 rfl _ _ rfl _ rfl _ _ rfl _ Tryd.underlying50 rfl (by kernel_rfl) ?_)
                  | ((with_reducible show wpList _ _ _ (⟨_, .buildSlice _ 1 _, _, _, _, _⟩ :: _) _ _); refine st_push hS 1 rfl rfl _ _ _ _ rfl rfl ty_pairs _ _ _ (.agg #[.int .i64 (za : Nat), .int .i64 (zb : Nat)]) #[.int .i64 (za : Nat), .int .i64 (zb : Nat)] rfl (by kernel_rfl) rfl rfl rfl rfl (by intro u hu; simp at hu; first | (subst hu; rfl) | (rcases hu with rfl | rfl <;> rfl)) (by omega) (by omega) ?_; clear hS; intro z_ v_ w_ hS; (try simp only [Act.put, Act.eval, List.set_cons_zero, List.set_cons_succ, List.setIfInBounds_toArray, Array.getD_eq_getD_getElem?, List.getElem?_toArray, List.getElem?_cons_succ, List.getElem?_cons_zero, Option.getD_some, Value.cells] at hS))
                  | ((with_reducible show wpList _ _ _ (⟨_, .load _ _, _, _, _, _⟩ :: _) _ _); first | (refine st_cell hS 0 rfl _ _ rfl _ _ rfl _ _ rfl (by decide +kernel) _ (by first | assumption | rfl) ?_) | (refine st_cell hS 1 rfl _ _ rfl _ _ rfl _ _ rfl (by decide +kernel) _ (by first | assumption | rfl) ?_) | (refine st_cell hS 2 rfl _ _ rfl _ _ rfl _ _ rfl (by decide +kernel) _ (by first | assumption | rfl) ?_) | (refine st_cell hS 3 rfl _ _ rfl _ _ rfl _ _ rfl (by decide +kernel) _ (by first | assumption | rfl) ?_) | (refine st_cell hS 4 rfl _ _ rfl _ _ rfl _ _ rfl (by decide +kernel) _ (by first | assumption | rfl) ?_) | (refine st_cell hS 5 rfl _ _ rfl _ _ rfl _ _ rfl (by decide +kernel) _ (by first | assumption | rfl) ?_) | (refine st_cell hS 6 rfl _ _ rfl _ _ rfl _ _ rfl (by decide +kernel) _ (by first | assumption | rfl) ?_) | (refine st_cell hS 7 rfl _ _ rfl _ _ rfl _ _ rfl (by decide +kernel) _ (by first | assumption | rfl) ?_)))
                refine ⟨⟨j + 1, by go_num, hlj, ?_⟩, by simp [intOf]; omega⟩
                have e : pcells (M ++ [(za, zb)]) = pcells M ++ [.int .i64 (za : Nat), .int .i64 (zb : Nat)] := pcells_app M [(za, zb)]
                rw [HE.out, e, List.length_append]
                exact hS.sub (List.sublist_cons_self _ _)
            · obtain rfl : j = L.length := by omega
              rw [List.take_length] at hS
              go_wp2_with (first | ((with_reducible show wpList _ _ _ (⟨_, .binOp _ _ _ _ _, _, _, _, _⟩ :: _) _ _); (first | (refine st_lss rfl _ _ _ _ rfl _ _ _ rfl rfl (fun h_ => ?_) (fun h_ => ?_)) | (refine st_leq rfl _ _ _ _ rfl _ _ _ rfl rfl (fun h_ => ?_) (fun h_ => ?_)) | (refine st_gtr rfl _ _ _ _ rfl _ _ _ rfl rfl (fun h_ => ?_) (fun h_ => ?_)) | (refine st_geq rfl _ _ _ _ rfl _ _ _ rfl rfl (fun h_ => ?_) (fun h_ => ?_)) | (refine st_eql rfl _ _ _ _ rfl _ _ _ rfl rfl (fun h_ => ?_) (fun h_ => ?_)) | (refine st_neq rfl _ _ _ _ rfl _ _ _ rfl rfl (fun h_ => ?_) (fun h_ => ?_))) <;> go_prune))
              go_ret2
              exact .inr ⟨x, y, rfl, rfl, hx1.out, hy1.out, hxy.out, .inr ⟨hm, _, rfl, hS.mono (Stable.pure True) fun _ _ _ => trivial⟩⟩
        · go_enter Tryd.func67, Tryd.ntmps67
          go_wp2_with (first
            | ((with_reducible show wpList _ _ _ (⟨_, .binOp _ _ _ _ _, _, _, _, _⟩ :: _) _ _); (first | (refine st_lss rfl _ _ _ _ rfl _ _ _ rfl rfl (fun h_ => ?_) (fun h_ => ?_)) | (refine st_leq rfl _ _ _ _ rfl _ _ _ rfl rfl (fun h_ => ?_) (fun h_ => ?_)) | (refine st_gtr rfl _ _ _ _ rfl _ _ _ rfl rfl (fun h_ => ?_) (fun h_ => ?_)) | (refine st_geq rfl _ _ _ _ rfl _ _ _ rfl rfl (fun h_ => ?_) (fun h_ => ?_)) | (refine st_eql rfl _ _ _ _ rfl _ _ _ rfl rfl (fun h_ => ?_) (fun h_ => ?_)) | (refine st_neq rfl _ _ _ _ rfl _ _ _ rfl rfl (fun h_ => ?_) (fun h_ => ?_))) <;> go_prune)
            | (go_at_call 57; refine (rrole_any _ _).mono ?_; (first | rw [HRA.out] | rw [HRB.out]); rintro r_ w_ ⟨_, rfl, rfl, hb_⟩; replace hS := hS.ext hb_; clear hb_)
            | (go_at_call 87; refine (HH.out _ _ (kp _ _ hS.ro)).mono ?_; rintro r_ w_ ⟨_, rfl, ⟨c, rfl, hc⟩, hb_⟩; replace hc := HC1.out c hc; rw [decide_eq_false hm] at hc; subst hc; replace hS := hS.ext hb_; clear hb_))
          go_ret2
          exact .inr ⟨x, y, rfl, rfl, hx1.out, hy1.out, hxy.out, .inl ⟨hm, rfl, hS.below⟩⟩
    · have HRB := Lib.hid (decide_eq_false hrb)
      have HNO : Hid (¬ twoR a b) := Lib.hid fun h => hrb h.2.1
      go_enter Tryd.func67, Tryd.ntmps67
      go_wp2_with (first
        | ((with_reducible show wpList _ _ _ (⟨_, .binOp _ _ _ _ _, _, _, _, _⟩ :: _) _ _); (first | (refine st_lss rfl _ _ _ _ rfl _ _ _ rfl rfl (fun h_ => ?_) (fun h_ => ?_)) | (refine st_leq rfl _ _ _ _ rfl _ _ _ rfl rfl (fun h_ => ?_) (fun h_ => ?_)) | (refine st_gtr rfl _ _ _ _ rfl _ _ _ rfl rfl (fun h_ => ?_) (fun h_ => ?_)) | (refine st_geq rfl _ _ _ _ rfl _ _ _ rfl rfl (fun h_ => ?_) (fun h_ => ?_)) | (refine st_eql rfl _ _ _ _ rfl _ _ _ rfl rfl (fun h_ => ?_) (fun h_ => ?_)) | (refine st_neq rfl _ _ _ _ rfl _ _ _ rfl rfl (fun h_ => ?_) (fun h_ => ?_))) <;> go_prune)
        | (go_at_call 57; refine (rrole_any _ _).mono ?_; (first | rw [HRA.out] | rw [HRB.out]); rintro r_ w_ ⟨_, rfl, rfl, hb_⟩; replace hS := hS.ext hb_; clear hb_))
      go_ret2
      exact .inl ⟨HNO.out, rfl, hS.below⟩
  · have HRA := Lib.hid (decide_eq_false hra)
    have HRB := HRA
    have HNO : Hid (¬ twoR a b) := Lib.hid fun h => hra h.1
    go_enter Tryd.func67, Tryd.ntmps67
    go_wp2_with (first
      | ((with_reducible show wpList _ _ _ (⟨_, .binOp _ _ _ _ _, _, _, _, _⟩ :: _) _ _); (first | (refine st_lss rfl _ _ _ _ rfl _ _ _ rfl rfl (fun h_ => ?_) (fun h_ => ?_)) | (refine st_leq rfl _ _ _ _ rfl _ _ _ rfl rfl (fun h_ => ?_) (fun h_ => ?_)) | (refine st_gtr rfl _ _ _ _ rfl _ _ _ rfl rfl (fun h_ => ?_) (fun h_ => ?_)) | (refine st_geq rfl _ _ _ _ rfl _ _ _ rfl rfl (fun h_ => ?_) (fun h_ => ?_)) | (refine st_eql rfl _ _ _ _ rfl _ _ _ rfl rfl (fun h_ => ?_) (fun h_ => ?_)) | (refine st_neq rfl _ _ _ _ rfl _ _ _ rfl rfl (fun h_ => ?_) (fun h_ => ?_))) <;> go_prune)
      | (go_at_call 57; refine (rrole_any _ _).mono ?_; (first | rw [HRA.out] | rw [HRB.out]); rintro r_ w_ ⟨_, rfl, rfl, hb_⟩; replace hS := hS.ext hb_; clear hb_))
    go_ret2
    exact .inl ⟨HNO.out, rfl, hS.below⟩
theorem RUnlinkP.mem {w0 w' : World} {pv : Value} {L : List (Nat × Nat)} {x : Nat × Nat} {e : Ending} (h : RUnlinkP w0 pv L (x.1 : Nat) (x.2 : Nat) e w') (hx : x ∈ L) (h1 : (1 ≤ x.1 ∧ x.1 < 64) ∧ 1 ≤ x.2 ∧ x.2 < 64) (h2 : x.1 ≠ x.2) :
    ∃ v, e = .returned (.tuple #[v, .int .i64 0]) ∧ St w0 w' [.own v 50 2 (unl L x).length (pcells (unl L x))] fun _ _ => True := by
  rcases h with ⟨h, _⟩ | ⟨a, b, ha, hb, _, _, _, h⟩
  · exact absurd ⟨⟨by omega, by omega⟩, ⟨by omega, by omega⟩, by omega⟩ h
  · obtain rfl : x = (a, b) := Prod.ext (by show x.1 = a; omega) (by show x.2 = b; omega)
    rcases h with ⟨h, _⟩ | ⟨_, h⟩
    · exact absurd hx h
    · exact h
open Classical in
noncomputable def redL (L M : List (Nat × Nat)) : List (Nat × Nat) := M.filter fun x => decide (TC (unl L x) x.1 x.2)
open Classical in
theorem redL_step {L M : List (Nat × Nat)} {j : Nat} {u : Nat × Nat} (h : M[j]? = some u) : redL L (M.take (j + 1)) = if TC (unl L u) u.1 u.2 then redL L (M.take j) ++ [u] else redL L (M.take j) := by
  unfold redL
  rw [List.take_add_one, h, List.filter_append]
  by_cases e : TC (unl L u) u.1 u.2 <;> simp [e]
theorem redL_len (L M : List (Nat × Nat)) (j : Nat) : (redL L (M.take j)).length ≤ j := by
  unfold redL
  exact Nat.le_trans (List.length_filter_le _ _) (by rw [List.length_take]; omega)
end Go.Proofs.YtmlkgaiphpimiaaDoor
namespace Go.Proofs.YtmlkgaiphpimiaaDoor
open Go.RowKit
attribute [local go_sem ↓] Go.wp_at_zero Go.wp_at_succ
set_option maxRecDepth 20000
set_option exponentiation.threshold 5000

theorem HOK.unl {L : List (Nat × Nat)} (h : HOK L) (z : Nat × Nat) : HOK (unl L z) := ⟨unl_asc h.asc z, fun x hx => h.role x (mem_unl.1 hx).1, h.acyc.sub fun x hx => (mem_unl.1 hx).1⟩
def UnlinkP (w0 : World) (F : List Fact) (K : (Nat → Prop) → World → Prop) (L : List (Nat × Nat)) (a b : Int) (r : Value) (z : Int) (w : World) : Prop :=
  (¬ ((1 ≤ a ∧ a ≤ 63) ∧ (1 ≤ b ∧ b ≤ 63) ∧ a ≠ b) ∧ r = .pointer none ∧ z = 1 ∧ St w0 w F K) ∨
  ∃ x y : Nat, a = (x : Int) ∧ b = (y : Int) ∧ (1 ≤ x ∧ x < 64) ∧ (1 ≤ y ∧ y < 64) ∧ x ≠ y ∧
    (((x, y) ∉ L ∧ r = .pointer none ∧ z = 4 ∧ St w0 w F K) ∨ ((x, y) ∈ L ∧ z = 0 ∧ St w0 w F fun D w => K D w ∧ IsH w D r (unl L (x, y))))
theorem hunlink_any {w0 w : World} {F : List Fact} {K : (Nat → Prop) → World → Prop} (p : Value) (L : List (Nat × Nat)) (a b : Int) (hH : HOK L) (hl : L.length ≤ 900000) (hS : St w0 w F K)
    (ko : ∀ D w, K D w → IsH w D p L) (kt : ∀ D w, K D w → DTab w ∧ D 0) :
    Calls Tryd.prog 34 #[p, .int .i64 a, .int .i64 b] w fun e w' => ∃ (r : Value) (z : Int), e = .returned (.tuple #[r, .int .i64 z]) ∧ UnlinkP w0 F K L a b r z w' := by
  have KS := hS.stable
  obtain ⟨q, o, rfl, hX⟩ := ko _ _ hS.ro
  have hS := hS.add stable_hierX hX fun b h _ => h
  clear hX
  have HH := Lib.hid hH
  clear hH
  by_cases hra : 1 ≤ a ∧ a ≤ 63
  · have HRA := Lib.hid (decide_eq_true hra)
    by_cases hrb : 1 ≤ b ∧ b ≤ 63
    · have HRB := Lib.hid (decide_eq_true hrb)
      by_cases hab : a = b
      · subst hab
        have HNO : Hid (¬ ((1 ≤ a ∧ a ≤ 63) ∧ (1 ≤ a ∧ a ≤ 63) ∧ a ≠ a)) := Lib.hid fun h => h.2.2 rfl
        clear hra hrb
        go_enter Tryd.func34, Tryd.ntmps34
        go_wp2_with (first
          | ((with_reducible show wpList _ _ _ (⟨_, .binOp _ _ _ _ _, _, _, _, _⟩ :: _) _ _); (first | (refine st_lss rfl _ _ _ _ rfl _ _ _ rfl rfl (fun h_ => ?_) (fun h_ => ?_)) | (refine st_leq rfl _ _ _ _ rfl _ _ _ rfl rfl (fun h_ => ?_) (fun h_ => ?_)) | (refine st_gtr rfl _ _ _ _ rfl _ _ _ rfl rfl (fun h_ => ?_) (fun h_ => ?_)) | (refine st_geq rfl _ _ _ _ rfl _ _ _ rfl rfl (fun h_ => ?_) (fun h_ => ?_)) | (refine st_eql rfl _ _ _ _ rfl _ _ _ rfl rfl (fun h_ => ?_) (fun h_ => ?_)) | (refine st_neq rfl _ _ _ _ rfl _ _ _ rfl rfl (fun h_ => ?_) (fun h_ => ?_))) <;> go_prune)
          | (go_at_call 55; refine (role_any _ _).mono ?_; (first | rw [HRA.out] | rw [HRB.out]); rintro r_ w_ ⟨_, rfl, rfl, hb_⟩; replace hS := hS.ext hb_; clear hb_))
        go_ret2
        exact ⟨_, _, rfl, .inl ⟨HNO.out, rfl, rfl, hS.mono KS fun _ _ h => h.1⟩⟩
      · obtain ⟨x, rfl⟩ : ∃ x : Nat, a = (x : Int) := ⟨a.toNat, by omega⟩
        obtain ⟨y, rfl⟩ : ∃ y : Nat, b = (y : Int) := ⟨b.toNat, by omega⟩
        have hx1 : Hid (1 ≤ x ∧ x < 64) := Lib.hid (by omega)
        have hy1 : Hid (1 ≤ y ∧ y < 64) := Lib.hid (by omega)
        have hxy : Hid (x ≠ y) := Lib.hid (by omega)
        clear hra hrb
        have HW := Lib.hid (fun (w : World) (h : St w0 w F fun D w => K D w ∧ HierX q o L D w) => owithout_any o 64 L x y (by omega) HH.out.inr HH.out.asc HH.out.acyc hl h (fun D w h => h.2.2) (fun D w h => kt D w h.1))
        go_enter Tryd.func34, Tryd.ntmps34
        go_wp2_with (first
          | ((with_reducible show wpList _ _ _ (⟨_, .binOp _ _ _ _ _, _, _, _, _⟩ :: _) _ _); (first | (refine st_lss rfl _ _ _ _ rfl _ _ _ rfl rfl (fun h_ => ?_) (fun h_ => ?_)) | (refine st_leq rfl _ _ _ _ rfl _ _ _ rfl rfl (fun h_ => ?_) (fun h_ => ?_)) | (refine st_gtr rfl _ _ _ _ rfl _ _ _ rfl rfl (fun h_ => ?_) (fun h_ => ?_)) | (refine st_geq rfl _ _ _ _ rfl _ _ _ rfl rfl (fun h_ => ?_) (fun h_ => ?_)) | (refine st_eql rfl _ _ _ _ rfl _ _ _ rfl rfl (fun h_ => ?_) (fun h_ => ?_)) | (refine st_neq rfl _ _ _ _ rfl _ _ _ rfl rfl (fun h_ => ?_) (fun h_ => ?_))) <;> go_prune)
          | (go_at_call 55; refine (role_any _ _).mono ?_; (first | rw [HRA.out] | rw [HRB.out]); rintro r_ w_ ⟨_, rfl, rfl, hb_⟩; replace hS := hS.ext hb_; clear hb_)
          | ((with_reducible show wpList _ _ _ (⟨_, .load _ _, _, _, _, _⟩ :: _) _ _); refine st_kcell hS rfl _ _ rfl _ rfl _ (fun D w h => h.2.1.cell 0 rfl) (by kernel_rfl) ?_)
          | (go_at_call 69; refine (HW.out _ hS).mono ?_; rintro e w_ (⟨hm, rfl, hS⟩ | ⟨hm, pp, rfl, hS⟩) <;> (try obtain ⟨qo, _, _, _, _, _, _, rfl, -⟩ := hS.ro.2))
          | ((with_reducible show wpList _ _ _ (⟨some 42, _, _, _, _, _⟩ :: _) _ _); refine st_box hS rfl _ _ rfl (.agg #[.pointer (some ⟨qo, 0, none⟩)]) _ rfl rfl ?_; clear hS; intro g w_ hS; (try simp only [Act.put, Act.eval, List.set_cons_zero, List.set_cons_succ, List.setIfInBounds_toArray, Array.getD_eq_getD_getElem?, List.getElem?_toArray, List.getElem?_cons_succ, List.getElem?_cons_zero, Option.getD_some, Value.cells] at hS)))
        · go_ret2
          exact ⟨_, _, rfl, .inr ⟨x, y, rfl, rfl, hx1.out, hy1.out, hxy.out, .inl ⟨hm, rfl, rfl, hS.mono KS fun _ _ h => h.1⟩⟩⟩
        · go_ret2
          exact ⟨_, _, rfl, .inr ⟨x, y, rfl, rfl, hx1.out, hy1.out, hxy.out, .inr ⟨hm, rfl, (hS.sealB 0 (by simp) rfl).mono (KS.and stable_isH) fun D w h => ⟨h.1.1.1, g, _, rfl, h.2, h.1.2⟩⟩⟩⟩
    · have HRB := Lib.hid (decide_eq_false hrb)
      have HNO : Hid (¬ ((1 ≤ a ∧ a ≤ 63) ∧ (1 ≤ b ∧ b ≤ 63) ∧ a ≠ b)) := Lib.hid fun h => hrb h.2.1
      clear hra hrb
      go_enter Tryd.func34, Tryd.ntmps34
      go_wp2_with (first
        | ((with_reducible show wpList _ _ _ (⟨_, .binOp _ _ _ _ _, _, _, _, _⟩ :: _) _ _); (first | (refine st_lss rfl _ _ _ _ rfl _ _ _ rfl rfl (fun h_ => ?_) (fun h_ => ?_)) | (refine st_leq rfl _ _ _ _ rfl _ _ _ rfl rfl (fun h_ => ?_) (fun h_ => ?_)) | (refine st_gtr rfl _ _ _ _ rfl _ _ _ rfl rfl (fun h_ => ?_) (fun h_ => ?_)) | (refine st_geq rfl _ _ _ _ rfl _ _ _ rfl rfl (fun h_ => ?_) (fun h_ => ?_)) | (refine st_eql rfl _ _ _ _ rfl _ _ _ rfl rfl (fun h_ => ?_) (fun h_ => ?_)) | (refine st_neq rfl _ _ _ _ rfl _ _ _ rfl rfl (fun h_ => ?_) (fun h_ => ?_))) <;> go_prune)
        | (go_at_call 55; refine (role_any _ _).mono ?_; (first | rw [HRA.out] | rw [HRB.out]); rintro r_ w_ ⟨_, rfl, rfl, hb_⟩; replace hS := hS.ext hb_; clear hb_))
      go_ret2
      exact ⟨_, _, rfl, .inl ⟨HNO.out, rfl, rfl, hS.mono KS fun _ _ h => h.1⟩⟩
  · have HRA := Lib.hid (decide_eq_false hra)
    have HRB := HRA
    have HNO : Hid (¬ ((1 ≤ a ∧ a ≤ 63) ∧ (1 ≤ b ∧ b ≤ 63) ∧ a ≠ b)) := Lib.hid fun h => hra h.1
    clear hra
    go_enter Tryd.func34, Tryd.ntmps34
    go_wp2_with (first
      | ((with_reducible show wpList _ _ _ (⟨_, .binOp _ _ _ _ _, _, _, _, _⟩ :: _) _ _); (first | (refine st_lss rfl _ _ _ _ rfl _ _ _ rfl rfl (fun h_ => ?_) (fun h_ => ?_)) | (refine st_leq rfl _ _ _ _ rfl _ _ _ rfl rfl (fun h_ => ?_) (fun h_ => ?_)) | (refine st_gtr rfl _ _ _ _ rfl _ _ _ rfl rfl (fun h_ => ?_) (fun h_ => ?_)) | (refine st_geq rfl _ _ _ _ rfl _ _ _ rfl rfl (fun h_ => ?_) (fun h_ => ?_)) | (refine st_eql rfl _ _ _ _ rfl _ _ _ rfl rfl (fun h_ => ?_) (fun h_ => ?_)) | (refine st_neq rfl _ _ _ _ rfl _ _ _ rfl rfl (fun h_ => ?_) (fun h_ => ?_))) <;> go_prune)
      | (go_at_call 55; refine (role_any _ _).mono ?_; (first | rw [HRA.out] | rw [HRB.out]); rintro r_ w_ ⟨_, rfl, rfl, hb_⟩; replace hS := hS.ext hb_; clear hb_))
    go_ret2
    exact ⟨_, _, rfl, .inl ⟨HNO.out, rfl, rfl, hS.mono KS fun _ _ h => h.1⟩⟩
def ChainP (L : List (Nat × Nat)) (a b : Int) (l : List Nat) (c : Bool) : Prop :=
  (c = false ∧ l = [] ∧ ¬ impl L a b) ∨ (c = true ∧ ∃ i j d : Nat, a = (i : Int) ∧ b = (j : Int) ∧ (1 ≤ i ∧ i < 64) ∧ (1 ≤ j ∧ j < 64) ∧ isDist L j i d ∧ l = gp L j d i)
def ChainR (w0 : World) (L : List (Nat × Nat)) (a b : Int) (e : Ending) (w' : World) : Prop :=
  ∃ (v : Value) (c : Bool) (l : List Nat), e = .returned (.tuple #[v, .bool c]) ∧ ChainP L a b l c ∧ l.length ≤ 64 ∧ St w0 w' [.own v 3 1 l.length (ints (natInts l))] fun _ _ => True
theorem chain_of_path {L : List (Nat × Nat)} {a b : Int} {l : List Nat} {c : Bool} (hi : impl L a b) (h : PathP L 64 a b l c) : ChainP L a b l c := by
  obtain ⟨i, j, rfl, rfl, h1, h2, h3⟩ := hi
  rcases h with ⟨_, _, h⟩ | ⟨h, i', j', d, e1, e2, _, _, h4, h5⟩
  · refine absurd ?_ h
    rcases h3 with rfl | h3
    · exact ⟨i, i, 0, rfl, rfl, h1.2, h1.2, rfl⟩
    · obtain ⟨k, hk⟩ := h3.wk
      exact ⟨i, j, k, rfl, rfl, h1.2, h2.2, hk⟩
  · obtain rfl : i = i' := by omega
    obtain rfl : j = j' := by omega
    exact .inr ⟨h, i, j, d, rfl, rfl, h1, h2, h4, h5⟩
theorem hchain_any {w0 : World} {D : Nat → Prop} {p : Value} {L : List (Nat × Nat)} (h : IsH w0 D p L) (hH : HOK L) (hl : L.length ≤ 900000) (r s : Int) : Calls Tryd.prog 17 #[p, .int .i64 r, .int .i64 s] w0 (ChainR w0 L r s) := by
  obtain ⟨q, o, rfl, hX⟩ := h
  obtain ⟨K, ko, hS⟩ : ∃ K : (Nat → Prop) → World → Prop, (∀ D w, K D w → HierX q o L D w) ∧ St w0 w0 [] K := ⟨_, fun _ _ h => h, St.start stable_hierX hX⟩
  clear hX
  have HI := Lib.hid (fun (w : World) (h : HierX q o L (Free []) w) => himplies_any (w0 := w) ⟨q, o, rfl, h⟩ hH r s)
  have HP := Lib.hid (fun (w : World) (h : HierX q o L (Free []) w) => opath_any h.2 hH.inr hH.acyc (by omega) (by omega) r s)
  by_cases hi : impl L r s
  · have HC := Lib.hid (fun l c (h : PathP L 64 r s l c) => chain_of_path hi h)
    have HB : Hid (∀ c : Bool, (c = true ↔ impl L r s) → c = true) := Lib.hid fun c h => h.2 hi
    clear hi hH
    go_enter Tryd.func17, Tryd.ntmps17
    go_wp2_with (first
      | ((with_reducible show wpList _ _ _ (⟨_, .binOp _ _ _ _ _, _, _, _, _⟩ :: _) _ _); (first | (refine st_lss rfl _ _ _ _ rfl _ _ _ rfl rfl (fun h_ => ?_) (fun h_ => ?_)) | (refine st_leq rfl _ _ _ _ rfl _ _ _ rfl rfl (fun h_ => ?_) (fun h_ => ?_)) | (refine st_gtr rfl _ _ _ _ rfl _ _ _ rfl rfl (fun h_ => ?_) (fun h_ => ?_)) | (refine st_geq rfl _ _ _ _ rfl _ _ _ rfl rfl (fun h_ => ?_) (fun h_ => ?_)) | (refine st_eql rfl _ _ _ _ rfl _ _ _ rfl rfl (fun h_ => ?_) (fun h_ => ?_)) | (refine st_neq rfl _ _ _ _ rfl _ _ _ rfl rfl (fun h_ => ?_) (fun h_ => ?_))) <;> go_prune)
      | (go_at_call 15; refine (HI.out _ (ko _ _ hS.ro)).mono ?_; rintro r_ w_ ⟨_, rfl, ⟨c, rfl, hc⟩, hb_⟩; obtain rfl := HB.out c hc; clear hc; replace hS := hS.ext hb_; clear hb_)
      | ((with_reducible show wpList _ _ _ (⟨_, .load _ _, _, _, _, _⟩ :: _) _ _); refine st_kcell hS rfl _ _ rfl _ rfl _ (fun D w h => (ko D w h).1.cell 0 rfl) (by kernel_rfl) ?_)
      | (go_at_call 27; refine (HP.out _ (ko _ _ hS.ro)).mono ?_; rintro e w_ ⟨v, c, l, rfl, hp, hll, hs⟩; replace hp := Lib.hid (HC.out l c hp); replace hS := hS.new hs.below (.own v 3 1 l.length (ints (natInts l))) (hs.own 0 rfl); clear hs))
    go_ret2
    exact ⟨v, c, l, rfl, hp.out, hll, hS.mono (Stable.pure True) fun _ _ _ => trivial⟩
  · have HB : Hid (∀ c : Bool, (c = true ↔ impl L r s) → c = false) := Lib.hid fun c h => by
      cases c with
      | true => exact absurd (h.1 rfl) hi
      | false => rfl
    have HNI := Lib.hid hi
    clear hi hH
    go_enter Tryd.func17, Tryd.ntmps17
    go_wp2_with (first
      | ((with_reducible show wpList _ _ _ (⟨_, .binOp _ _ _ _ _, _, _, _, _⟩ :: _) _ _); (first | (refine st_lss rfl _ _ _ _ rfl _ _ _ rfl rfl (fun h_ => ?_) (fun h_ => ?_)) | (refine st_leq rfl _ _ _ _ rfl _ _ _ rfl rfl (fun h_ => ?_) (fun h_ => ?_)) | (refine st_gtr rfl _ _ _ _ rfl _ _ _ rfl rfl (fun h_ => ?_) (fun h_ => ?_)) | (refine st_geq rfl _ _ _ _ rfl _ _ _ rfl rfl (fun h_ => ?_) (fun h_ => ?_)) | (refine st_eql rfl _ _ _ _ rfl _ _ _ rfl rfl (fun h_ => ?_) (fun h_ => ?_)) | (refine st_neq rfl _ _ _ _ rfl _ _ _ rfl rfl (fun h_ => ?_) (fun h_ => ?_))) <;> go_prune)
      | (go_at_call 15; refine (HI.out _ (ko _ _ hS.ro)).mono ?_; rintro r_ w_ ⟨_, rfl, ⟨c, rfl, hc⟩, hb_⟩; obtain rfl := HB.out c hc; clear hc; replace hS := hS.ext hb_; clear hb_))
    go_ret2
    exact ⟨_, false, [], rfl, .inl ⟨rfl, rfl, HNI.out⟩, by simp, (hS.nil 3 1).mono (Stable.pure True) fun _ _ _ => trivial⟩
set_option maxHeartbeats 2000000 in
theorem hred_any {w0 : World} {D : Nat → Prop} {p : Value} {L : List (Nat × Nat)} (h : IsH w0 D p L) (hT : DTab w0) (hH : HOK L) (hl : L.length ≤ 900000) : Calls Tryd.prog 32 #[p] w0 fun e w' => ∃ v, e = .returned v ∧ St w0 w' [.own v 50 2 (redL L L).length (pcells (redL L L))] fun _ _ => True := by
  have HL := Lib.hid (hlinks_any h (by omega))
  obtain ⟨q, o, rfl, hX⟩ := h
  obtain ⟨K0, ko, kt, hS⟩ : ∃ K : (Nat → Prop) → World → Prop, (∀ D w, K D w → HierX q o L D w) ∧ (∀ D w, K D w → DTab w ∧ D 0) ∧ St w0 w0 [] K := ⟨fun D w => HierX q o L D w ∧ DTab w ∧ D 0, fun _ _ h => h.1, fun _ _ h => h.2, St.start (D := fun _ => True) (stable_hierX.and dtab_stable) ⟨stable_hierX D _ w0 w0 hX (Nat.le_refl _) (fun _ _ _ _ h => h) fun _ _ _ _ => trivial, hT, trivial⟩⟩
  clear hX hT
  go_enter Tryd.func32, Tryd.ntmps32
  go_wp2_with (first
    | (go_at_call 31; refine HL.out.mono ?_; rintro e w_ ⟨v, rfl, hs⟩; replace hS := hS.new hs.below (.own v 50 2 L.length (pcells L)) (hs.own 0 rfl); obtain ⟨A, c, rfl, _, _⟩ := own_shp (hS.own 0 rfl); clear hs))
  obtain ⟨K, ko, kt, kp, hS⟩ : ∃ K : (Nat → Prop) → World → Prop, (∀ D w, K D w → HierX q o L D w) ∧ (∀ D w, K D w → DTab w ∧ D 0) ∧ (∀ D w, K D w → Sl w D 2 (.slice A L.length c) L.length (pcells L)) ∧ St w0 w_ [] K := ⟨_, fun D w h => ko D w h.1, fun D w h => kt D w h.1, fun _ _ h => h.2, hS.freeze 0 (by decide) rfl⟩
  have KS := hS.stable
  have HWO : Hid (∀ (F : List Fact) (z : Nat × Nat), z ∈ L → ∀ w, St w0 w F K → Calls Tryd.prog 69 #[o, .int .i64 (z.1 : Nat), .int .i64 (z.2 : Nat)] w fun e w' => ∃ p', e = .returned (.tuple #[p', .int .i64 0]) ∧ St w0 w' F fun D w => K D w ∧ IsOrd w D p' 64 (unl L z)) := Lib.hid fun F z hz w h => (owithout_any o 64 L z.1 z.2 (by omega) hH.inr hH.asc hH.acyc hl h (fun D w h => (ko D w h).2) kt).mono (by
    rintro e w' (⟨h, _⟩ | ⟨_, p', h1, h2⟩)
    · exact absurd hz h
    · exact ⟨p', h1, h2⟩)
  have HU0 := Lib.hid hH.inr
  replace hS := hS.nil 50 2
  clear hH HL
  go_loopw [3, 11] (fun v i wr => ∃ (j : Nat) (vo : Value), i = .int .i64 (j : Nat) ∧ vo = v ∧ j ≤ L.length ∧ St w0 wr [.own vo 50 2 (redL L (L.take j)).length (pcells (redL L (L.take j)))] K) (fun _ i _ => L.length - (intOf i).toNat)
  case atStart => exact ⟨0, _, rfl, rfl, by omega, hS⟩
  case round =>
    clear hS
    obtain ⟨j, vo, rfl, rfl, hj, hS⟩ := hrel
    by_cases hlj : j < L.length
    · obtain ⟨f1, f2⟩ := pcells_at L j hlj
      have HG := getD_at (0, 0) hlj
      have HST := Lib.hid (redL_step (L := L) HG)
      have HWO := Lib.hid (fun F => HWO.out F _ (List.mem_of_getElem? HG))
      have HU := Lib.hid (HU0.out.unl (L.getD j (0, 0)))
      have hM := redL_len L L j
      clear HG
      generalize L.getD j (0, 0) = z at *
      generalize hMM : redL L (L.take j) = M at *
      clear hMM
      by_cases hz : TC (unl L z) z.1 z.2
      · have HE := Lib.hid (HST.out.trans (if_pos hz))
        have HCB : Hid (∀ c : Bool, (c = true ↔ ∃ i j : Nat, (z.2 : Int) = (i : Int) ∧ (z.1 : Int) = (j : Int) ∧ TC (unl L z) j i) → c = true) := Lib.hid fun c hc => hc.2 ⟨_, _, rfl, rfl, hz⟩
        obtain ⟨za, zb⟩ := z
        dsimp only at f1 f2 HWO HCB
        clear hz HST
        go_wp2_with (first
          | ((with_reducible show wpList _ _ _ (⟨_, .binOp _ _ _ _ _, _, _, _, _⟩ :: _) _ _); (first | (refine st_lss rfl _ _ _ _ rfl _ _ _ rfl rfl (fun h_ => ?_) (fun h_ => ?_)) | (refine st_leq rfl _ _ _ _ rfl _ _ _ rfl rfl (fun h_ => ?_) (fun h_ => ?_)) | (refine st_gtr rfl _ _ _ _ rfl _ _ _ rfl rfl (fun h_ => ?_) (fun h_ => ?_)) | (refine st_geq rfl _ _ _ _ rfl _ _ _ rfl rfl (fun h_ => ?_) (fun h_ => ?_)) | (refine st_eql rfl _ _ _ _ rfl _ _ _ rfl rfl (fun h_ => ?_) (fun h_ => ?_)) | (refine st_neq rfl _ _ _ _ rfl _ _ _ rfl rfl (fun h_ => ?_) (fun h_ => ?_))) <;> go_prune)
          | ((with_reducible show wpList _ _ _ (⟨_, .indexAddr _ _ _, _, _, _, _⟩ :: _) _ _); refine st_iaddr2 hS rfl _ _ _ rfl _ rfl rfl (by assumption) Tryd.underlying25 (by kernel_rfl) (by first | assumption | omega) _ _ (by assumption) (by assumption) ?_; intro b_ j_ hc0_ hc1_)
          | ((with_reducible show wpList _ _ _ (⟨some 5, _, _, _, _, _⟩ :: _) _ _); refine st_alloc hS rfl _ rfl (by kernel_rfl) ?_; clear hS; intro g4 w_ hS; (try simp only [Act.put, Act.eval, List.set_cons_zero, List.set_cons_succ, List.setIfInBounds_toArray, Array.getD_eq_getD_getElem?, List.getElem?_toArray, List.getElem?_cons_succ, List.getElem?_cons_zero, Option.getD_some, Value.cells] at hS))
          | ((with_reducible show wpList _ _ _ (⟨_, .store _ _ _, _, _, _, _⟩ :: _) _ _); (first | (refine st_store hS 0 rfl _ _ _ rfl _ _ rfl rfl _ _ rfl (by kernel_rfl) (by kernel_rfl) (by kernel_rfl) ?_) | (refine st_store hS 1 rfl _ _ _ rfl _ _ rfl rfl _ _ rfl (by kernel_rfl) (by kernel_rfl) (by kernel_rfl) ?_) | (refine st_store hS 2 rfl _ _ _ rfl _ _ rfl rfl _ _ rfl (by kernel_rfl) (by kernel_rfl) (by kernel_rfl) ?_) | (refine st_store hS 3 rfl _ _ _ rfl _ _ rfl rfl _ _ rfl (by kernel_rfl) (by kernel_rfl) (by kernel_rfl) ?_) | (refine st_cstore hS 0 rfl _ _ _ rfl _ _ _ rfl rfl rfl (by first | (simp; done) | (simp; omega) | exact of_decide_eq_true (by kernel_rfl)) rfl (by first | rfl | assumption) (by kernel_rfl) ?_) | (refine st_cstore hS 1 rfl _ _ _ rfl _ _ _ rfl rfl rfl (by first | (simp; done) | (simp; omega) | exact of_decide_eq_true (by kernel_rfl)) rfl (by first | rfl | assumption) (by kernel_rfl) ?_) | (refine st_cstore hS 2 rfl _ _ _ rfl _ _ _ rfl rfl rfl (by first | (simp; done) | (simp; omega) | exact of_decide_eq_true (by kernel_rfl)) rfl (by first | rfl | assumption) (by kernel_rfl) ?_) | (refine st_cstore hS 3 rfl _ _ _ rfl _ _ _ rfl rfl rfl (by first | (simp; done) | (simp; omega) | exact of_decide_eq_true (by kernel_rfl)) rfl (by first | rfl | assumption) (by kernel_rfl) ?_)); clear hS; intro w_ hS; (try simp only [Act.put, Act.eval, List.set_cons_zero, List.set_cons_succ, List.setIfInBounds_toArray, Array.getD_eq_getD_getElem?, List.getElem?_toArray, List.getElem?_cons_succ, List.getElem?_cons_zero, Option.getD_some, Value.cells] at hS)))
        have KS2 := hS.stable
        have hJ0 : OJ (fun w => St w0 w [.box g4 50 #[.int .i64 (za : Nat), .int .i64 (zb : Nat)], .own vo 50 2 M.length (pcells M)] K) (fun r w => ∃ p', r = .tuple #[p', .int .i64 0] ∧ St w0 w [.box g4 50 #[.int .i64 (za : Nat), .int .i64 (zb : Nat)], .own vo 50 2 M.length (pcells M)] fun D w => K D w ∧ IsOrd w D p' 64 (unl L (za, zb))) (w_.drew, none) := OJ.start hS.drew
        have hN0 := ON.start 8 w_.drew
        obtain ⟨C, hC⟩ : ∃ C : World → Prop, C = fun w => St w0 w [.box g4 50 #[.int .i64 (za : Nat), .int .i64 (zb : Nat)], .own vo 50 2 M.length (pcells M)] K := ⟨_, rfl⟩
        obtain ⟨S, hSS⟩ : ∃ S : Value → World → Prop, S = fun r w => ∃ p', r = .tuple #[p', .int .i64 0] ∧ St w0 w [.box g4 50 #[.int .i64 (za : Nat), .int .i64 (zb : Nat)], .own vo 50 2 M.length (pcells M)] fun D w => K D w ∧ IsOrd w D p' 64 (unl L (za, zb)) := ⟨_, rfl⟩
        rw [← hC, ← hSS] at hJ0
        have HC2 := Lib.hid (fun w (h : C w) => show St w0 w [.box g4 50 #[.int .i64 (za : Nat), .int .i64 (zb : Nat)], .own vo 50 2 M.length (pcells M)] K by rw [hC] at h; exact h)
        have HC3 := Lib.hid (fun w (h : St w0 w [.box g4 50 #[.int .i64 (za : Nat), .int .i64 (zb : Nat)], .own vo 50 2 M.length (pcells M)] K) => show C w by rw [hC]; exact h)
        have HS2 := Lib.hid (fun r w (h : S r w) => show ∃ p', r = .tuple #[p', .int .i64 0] ∧ St w0 w [.box g4 50 #[.int .i64 (za : Nat), .int .i64 (zb : Nat)], .own vo 50 2 M.length (pcells M)] fun D w => K D w ∧ IsOrd w D p' 64 (unl L (za, zb)) by rw [hSS] at h; exact h)
        have HS3 := Lib.hid (fun r w (h : ∃ p', r = .tuple #[p', .int .i64 0] ∧ St w0 w [.box g4 50 #[.int .i64 (za : Nat), .int .i64 (zb : Nat)], .own vo 50 2 M.length (pcells M)] fun D w => K D w ∧ IsOrd w D p' 64 (unl L (za, zb))) => show S r w by rw [hSS]; exact h)
        clear hC hSS
        have hRr := @OR.refl C S
        have hRt := @OR.trans C S
        refine wp_region_ghost (fun i__ v w => match i__ with
          | 0 => v = .pointer (some ⟨q, 0, none⟩)
          | 1 => v = .pointer (some ⟨q, 0, none⟩)
          | 2 => v = .pointer (some ⟨q, 0, none⟩)
          | 3 => v = o
          | 4 => v = .pointer (some ⟨g4, 0, none⟩)
          | 5 => v = .int .i64 ((za : Nat) : Int)
          | 6 => v = .pointer (some ⟨g4, 1, none⟩)
          | 7 => v = .int .i64 ((zb : Nat) : Int)
          | 8 => w.2 = some v ∧ isTup2 v
          | 9 => w.2 = some v ∧ isTup2 v
          | 10 => ∃ x y : Value, w.2 = some (.tuple #[x, y]) ∧ v = x
          | 11 => ∃ x y : Value, w.2 = some (.tuple #[x, y]) ∧ v = y
          | 12 => ∃ x y : Value, w.2 = some (.tuple #[x, y]) ∧ v = x
          | 13 => ∃ x y : Value, w.2 = some (.tuple #[x, y]) ∧ v = y
          | _ => True) (OR C S) (ON 8) (none) (by kernel_rfl) (by kernel_rfl) hRr hRt ?mono ?hN ⟨?r0, ?r1, ?r2, ?r3, ?r4, ?r5, ?r6, ?r7, ?r8, ?r9, ?r10, ?r11, ?r12, ?r13, trivial⟩ ?post
        case hN => first | assumption | (intro i; (try dsimp only); split <;> first | trivial | assumption | (left; assumption))
        case mono =>
          intro i v w w' h hb
          match i, h with
          | 0, h => exact h
          | 1, h => exact h
          | 2, h => exact h
          | 3, h => exact h
          | 4, h => exact h
          | 5, h => exact h
          | 6, h => exact h
          | 7, h => exact h
          | 8, h => exact ⟨hb.2 _ h.1, h.2⟩
          | 9, h => exact ⟨hb.2 _ h.1, h.2⟩
          | 10, h => exact by obtain ⟨x, y, h1, h2⟩ := h; exact ⟨x, y, hb.2 _ h1, h2⟩
          | 11, h => exact by obtain ⟨x, y, h1, h2⟩ := h; exact ⟨x, y, hb.2 _ h1, h2⟩
          | 12, h => exact by obtain ⟨x, y, h1, h2⟩ := h; exact ⟨x, y, hb.2 _ h1, h2⟩
          | 13, h => exact by obtain ⟨x, y, h1, h2⟩ := h; exact ⟨x, y, hb.2 _ h1, h2⟩
          | _ + 14, h => trivial
        case r0 =>
          refine truleGh fun b__ w hW hN hold hpre => ⟨fun hwant K hK => ?_, fun hwant => ?_⟩
          · clear hwant
            have e0 : b__.eval (.tmp 0) = .pointer (some ⟨q, 0, none⟩) := (hold 0 (by kernel_rfl)).trans rfl
            exact opw_move rfl e0 (hK _ _ rfl ⟨hRr _, fun _ _ h => h⟩)
          · rw [want_none rfl] at hwant; cases hwant
        case r1 =>
          refine truleGh fun b__ w hW hN hold hpre => ⟨fun hwant K hK => ?_, fun hwant => ?_⟩
          · clear hwant
            have e16 : b__.eval (.tmp 16) = .pointer (some ⟨q, 0, none⟩) := hpre ⟨0, _⟩ (Array.mem_of_getElem? (i := 0) rfl) rfl _ _ rfl rfl
            exact opw_nil rfl e16 (hK _ _ rfl ⟨hRr _, fun _ _ h => h⟩)
          · rw [want_none rfl] at hwant; cases hwant
        case r2 =>
          refine truleGh fun b__ w hW hN hold hpre => ⟨fun hwant K hK => ?_, fun hwant => ?_⟩
          · clear hwant
            have e17 : b__.eval (.tmp 17) = .pointer (some ⟨q, 0, none⟩) := hpre ⟨1, _⟩ (Array.mem_of_getElem? (i := 0) rfl) rfl _ _ rfl rfl
            exact opw_faddr rfl e17 (by kernel_rfl) (hK _ _ rfl ⟨hRr _, fun _ _ h => h⟩)
          · rw [want_none rfl] at hwant; cases hwant
        case r3 =>
          refine truleGh fun b__ w hW hN hold hpre => ⟨fun hwant K hK => ?_, fun hwant => ?_⟩
          · clear hwant
            have e18 : b__.eval (.tmp 18) = .pointer (some ⟨q, 0, none⟩) := hpre ⟨2, _⟩ (Array.mem_of_getElem? (i := 0) rfl) rfl _ _ rfl rfl
            exact opw_cell rfl e18 (by kernel_rfl) ((ko _ _ (HC2.out _ (hW.1 hJ0).1).ro).1.cell 0 rfl) (hK _ _ rfl ⟨hRr _, fun _ _ h => h⟩)
          · rw [want_none rfl] at hwant; cases hwant
        case r4 =>
          refine truleGh fun b__ w hW hN hold hpre => ⟨fun hwant K hK => ?_, fun hwant => ?_⟩
          · clear hwant
            have e5 : b__.eval (.tmp 5) = .pointer (some ⟨g4, 0, none⟩) := (hold 5 (by kernel_rfl)).trans rfl
            exact opw_iaddr rfl e5 rfl (by kernel_rfl) (hK _ _ rfl ⟨hRr _, fun _ _ h => h⟩)
          · rw [want_none rfl] at hwant; cases hwant
        case r5 =>
          refine truleGh fun b__ w hW hN hold hpre => ⟨fun hwant K hK => ?_, fun hwant => ?_⟩
          · clear hwant
            have e20 : b__.eval (.tmp 20) = .pointer (some ⟨g4, 0, none⟩) := hpre ⟨4, _⟩ (Array.mem_of_getElem? (i := 0) rfl) rfl _ _ rfl rfl
            exact opw_cell rfl e20 (by kernel_rfl) ((HC2.out _ (hW.1 hJ0).1).shut 0 rfl 0 rfl) (hK _ _ rfl ⟨hRr _, fun _ _ h => h⟩)
          · rw [want_none rfl] at hwant; cases hwant
        case r6 =>
          refine truleGh fun b__ w hW hN hold hpre => ⟨fun hwant K hK => ?_, fun hwant => ?_⟩
          · clear hwant
            have e5 : b__.eval (.tmp 5) = .pointer (some ⟨g4, 0, none⟩) := (hold 5 (by kernel_rfl)).trans rfl
            exact opw_iaddr rfl e5 rfl (by kernel_rfl) (hK _ _ rfl ⟨hRr _, fun _ _ h => h⟩)
          · rw [want_none rfl] at hwant; cases hwant
        case r7 =>
          refine truleGh fun b__ w hW hN hold hpre => ⟨fun hwant K hK => ?_, fun hwant => ?_⟩
          · clear hwant
            have e22 : b__.eval (.tmp 22) = .pointer (some ⟨g4, 1, none⟩) := hpre ⟨6, _⟩ (Array.mem_of_getElem? (i := 0) rfl) rfl _ _ rfl rfl
            exact opw_cell rfl e22 (by kernel_rfl) ((HC2.out _ (hW.1 hJ0).1).shut 0 rfl 1 rfl) (hK _ _ rfl ⟨hRr _, fun _ _ h => h⟩)
          · rw [want_none rfl] at hwant; cases hwant
        case r8 =>
          refine truleGh fun b__ w hW hN hold hpre => ⟨fun hwant K hK => ?_, fun hwant => ?_⟩
          · clear hwant
            have e19 : b__.eval (.tmp 19) = o := hpre ⟨3, _⟩ (Array.mem_of_getElem? (i := 0) rfl) rfl _ _ rfl rfl
            have e21 : b__.eval (.tmp 21) = .int .i64 ((za : Nat) : Int) := hpre ⟨5, _⟩ (Array.mem_of_getElem? (i := 1) rfl) rfl _ _ rfl rfl
            have e23 : b__.eval (.tmp 23) = .int .i64 ((zb : Nat) : Int) := hpre ⟨7, _⟩ (Array.mem_of_getElem? (i := 2) rfl) rfl _ _ rfl rfl
            exact one_call isTup2 rfl (by kernel_rfl) (by simp only [List.map_cons, List.map_nil, e19, e21, e23]) (HWO.out _ _ (HC2.out _ (hW.1 hJ0).1)) hN (fun e w' h => by obtain ⟨p', rfl, h⟩ := h; exact ⟨_, rfl, HC3.out _ (h.mono KS2 fun _ _ h => h.1), HS3.out _ _ ⟨p', rfl, h⟩, _, _, rfl⟩) hK
          · rw [want_none rfl] at hwant; cases hwant
        case r9 =>
          refine truleGh fun b__ w hW hN hold hpre => ⟨fun hwant K hK => ?_, fun hwant => ?_⟩
          · clear hwant
            have e24 : (fun (v : Value) (w : World × _) => w.2 = some v ∧ isTup2 v) (b__.eval (.tmp 24)) w := hpre ⟨8, _⟩ (Array.mem_of_getElem? (i := 0) rfl) rfl _ _ rfl rfl
            exact opw_move rfl rfl (hK _ _ e24 ⟨hRr _, fun _ _ h => h⟩)
          · rw [want_none rfl] at hwant; cases hwant
        case r10 =>
          refine truleGh fun b__ w hW hN hold hpre => ⟨fun hwant K hK => ?_, fun hwant => ?_⟩
          · clear hwant
            have e15 : (fun (v : Value) (w : World × _) => w.2 = some v ∧ isTup2 v) (b__.eval (.tmp 15)) w := hpre ⟨9, _⟩ (Array.mem_of_getElem? (i := 0) rfl) rfl _ _ rfl rfl
            obtain ⟨hd, x, y, hv⟩ := e15
            rw [hv] at hd
            exact opw_extract rfl hv rfl (hK _ _ ⟨x, y, hd, rfl⟩ ⟨hRr _, fun _ _ h => h⟩)
          · rw [want_none rfl] at hwant; cases hwant
        case r11 =>
          refine truleGh fun b__ w hW hN hold hpre => ⟨fun hwant K hK => ?_, fun hwant => ?_⟩
          · clear hwant
            have e15 : (fun (v : Value) (w : World × _) => w.2 = some v ∧ isTup2 v) (b__.eval (.tmp 15)) w := hpre ⟨9, _⟩ (Array.mem_of_getElem? (i := 0) rfl) rfl _ _ rfl rfl
            obtain ⟨hd, x, y, hv⟩ := e15
            rw [hv] at hd
            exact opw_extract rfl hv rfl (hK _ _ ⟨x, y, hd, rfl⟩ ⟨hRr _, fun _ _ h => h⟩)
          · rw [want_none rfl] at hwant; cases hwant
        case r12 =>
          refine truleGh fun b__ w hW hN hold hpre => ⟨fun hwant K hK => ?_, fun hwant => ?_⟩
          · clear hwant
            have e25 : (fun (v : Value) (w : World × _) => ∃ x y : Value, w.2 = some (.tuple #[x, y]) ∧ v = x) (b__.eval (.tmp 25)) w := hpre ⟨10, _⟩ (Array.mem_of_getElem? (i := 0) rfl) rfl _ _ rfl rfl
            exact opw_assign rfl rfl (hK _ _ e25 ⟨hRr _, fun _ _ h => h⟩)
          · rw [want_none rfl] at hwant; cases hwant
        case r13 =>
          refine truleGh fun b__ w hW hN hold hpre => ⟨fun hwant K hK => ?_, fun hwant => ?_⟩
          · clear hwant
            have e26 : (fun (v : Value) (w : World × _) => ∃ x y : Value, w.2 = some (.tuple #[x, y]) ∧ v = y) (b__.eval (.tmp 26)) w := hpre ⟨11, _⟩ (Array.mem_of_getElem? (i := 0) rfl) rfl _ _ rfl rfl
            exact opw_assign rfl rfl (hK _ _ e26 ⟨hRr _, fun _ _ h => h⟩)
          · rw [want_none rfl] at hwant; cases hwant
        case post =>
          intro b__ wz hW hdf hsz hold hT hZ
          have e16 : b__.eval (.tmp 16) = .pointer (some ⟨q, 0, none⟩) := hT 0 _ 16 rfl rfl
          have e17 : b__.eval (.tmp 17) = .pointer (some ⟨q, 0, none⟩) := hT 1 _ 17 rfl rfl
          have e18 : b__.eval (.tmp 18) = .pointer (some ⟨q, 0, none⟩) := hT 2 _ 18 rfl rfl
          have e19 : b__.eval (.tmp 19) = o := hT 3 _ 19 rfl rfl
          have e20 : b__.eval (.tmp 20) = .pointer (some ⟨g4, 0, none⟩) := hT 4 _ 20 rfl rfl
          have e21 : b__.eval (.tmp 21) = .int .i64 ((za : Nat) : Int) := hT 5 _ 21 rfl rfl
          have e22 : b__.eval (.tmp 22) = .pointer (some ⟨g4, 1, none⟩) := hT 6 _ 22 rfl rfl
          have e23 : b__.eval (.tmp 23) = .int .i64 ((zb : Nat) : Int) := hT 7 _ 23 rfl rfl
          have e24 : (fun (v : Value) (w : World × _) => w.2 = some v ∧ isTup2 v) (b__.eval (.tmp 24)) wz := hT 8 _ 24 rfl rfl
          have e15 : (fun (v : Value) (w : World × _) => w.2 = some v ∧ isTup2 v) (b__.eval (.tmp 15)) wz := hT 9 _ 15 rfl rfl
          have e25 : (fun (v : Value) (w : World × _) => ∃ x y : Value, w.2 = some (.tuple #[x, y]) ∧ v = x) (b__.eval (.tmp 25)) wz := hT 10 _ 25 rfl rfl
          have e26 : (fun (v : Value) (w : World × _) => ∃ x y : Value, w.2 = some (.tuple #[x, y]) ∧ v = y) (b__.eval (.tmp 26)) wz := hT 11 _ 26 rfl rfl
          have e6 : (fun (v : Value) (w : World × _) => ∃ x y : Value, w.2 = some (.tuple #[x, y]) ∧ v = x) (b__.eval (.tmp 6)) wz := hT 12 _ 6 rfl rfl
          have e7 : (fun (v : Value) (w : World × _) => ∃ x y : Value, w.2 = some (.tuple #[x, y]) ∧ v = y) (b__.eval (.tmp 7)) wz := hT 13 _ 7 rfl rfl
          obtain ⟨vs, hvs, hb⟩ := frame_of hdf hsz hold
          replace e16 : vs 16 = .pointer (some ⟨q, 0, none⟩) := (hvs 16).symm.trans e16
          replace e17 : vs 17 = .pointer (some ⟨q, 0, none⟩) := (hvs 17).symm.trans e17
          replace e18 : vs 18 = .pointer (some ⟨q, 0, none⟩) := (hvs 18).symm.trans e18
          replace e19 : vs 19 = o := (hvs 19).symm.trans e19
          replace e20 : vs 20 = .pointer (some ⟨g4, 0, none⟩) := (hvs 20).symm.trans e20
          replace e21 : vs 21 = .int .i64 ((za : Nat) : Int) := (hvs 21).symm.trans e21
          replace e22 : vs 22 = .pointer (some ⟨g4, 1, none⟩) := (hvs 22).symm.trans e22
          replace e23 : vs 23 = .int .i64 ((zb : Nat) : Int) := (hvs 23).symm.trans e23
          replace e24 := (hvs 24) ▸ e24
          replace e15 := (hvs 15) ▸ e15
          replace e25 := (hvs 25) ▸ e25
          replace e26 := (hvs 26) ▸ e26
          replace e6 := (hvs 6) ▸ e6
          replace e7 := (hvs 7) ▸ e7
          subst hb
          clear hvs hold hT hdf hsz
          simp only [setAll, Act.put, List.setIfInBounds_toArray, List.set_cons_zero, List.set_cons_succ, List.getElem_toArray, List.getElem_cons_succ, List.getElem_cons_zero]
          obtain ⟨x1, y1, d1, e6⟩ := e6
          obtain ⟨x2, y2, d2, e7⟩ := e7
          rw [d1] at d2
          obtain ⟨rfl, rfl⟩ : x1 = x2 ∧ y1 = y2 := by simpa using d2
          obtain ⟨p', hp, hS⟩ := HS2.out _ _ ((hW.1 hJ0).2 _ d1)
          obtain ⟨rfl, rfl⟩ : x1 = p' ∧ y1 = .int .i64 0 := by simpa using hp
          rw [e6, e7]
          generalize wz.1 = wf at *
          clear hJ0 hRr hRt hW hZ hN0 d1 d2 e6 e7 hp HC2 HC3 HS2 HS3
          have hIO := Lib.hid (fun (w : World) (h : K (Free [.box g4 50 #[.int .i64 (za : Nat), .int .i64 (zb : Nat)], .own vo 50 2 M.length (pcells M)]) w ∧ IsOrd w (Free [.box g4 50 #[.int .i64 (za : Nat), .int .i64 (zb : Nat)], .own vo 50 2 M.length (pcells M)]) x1 64 (unl L (za, zb))) => oless_any h.2 HU.out (zb : Nat) (za : Nat))
          go_wp2_with (first
            | ((with_reducible show wpList _ _ _ (⟨_, .binOp _ _ _ _ _, _, _, _, _⟩ :: _) _ _); (first | (refine st_lss rfl _ _ _ _ rfl _ _ _ rfl rfl (fun h_ => ?_) (fun h_ => ?_)) | (refine st_leq rfl _ _ _ _ rfl _ _ _ rfl rfl (fun h_ => ?_) (fun h_ => ?_)) | (refine st_gtr rfl _ _ _ _ rfl _ _ _ rfl rfl (fun h_ => ?_) (fun h_ => ?_)) | (refine st_geq rfl _ _ _ _ rfl _ _ _ rfl rfl (fun h_ => ?_) (fun h_ => ?_)) | (refine st_eql rfl _ _ _ _ rfl _ _ _ rfl rfl (fun h_ => ?_) (fun h_ => ?_)) | (refine st_neq rfl _ _ _ _ rfl _ _ _ rfl rfl (fun h_ => ?_) (fun h_ => ?_))) <;> go_prune)
            | (go_at_call 56; refine (hIO.out _ hS.ro).mono ?_; rintro r_ w_ ⟨_, rfl, ⟨c, rfl, hc⟩, hb_⟩; obtain rfl := HCB.out c hc; clear hc; replace hS := hS.ext hb_; clear hb_)
            | ((with_reducible show wpList _ _ _ (⟨_, .load _ _, _, _, _, _⟩ :: _) _ _); first | refine st_load hS 0 rfl _ _ rfl _ rfl _ _ rfl _ Tryd.underlying50 rfl (by kernel_rfl) ?_ | refine st_load hS 1 rfl _ _ rfl _ rfl _ _ rfl _ Tryd.underlying50 rfl (by kernel_rfl) ?_ | refine st_load hS 2 rfl _ _ rfl _ rfl _ _ rfl _ Tryd.underlying50 rfl (by kernel_rfl) ?_ | refine st_load hS 3 rfl _ _ rfl _ rfl _ _ rfl _ Tryd.underlying50 rfl (by kernel_rfl) ?_)
            | ((with_reducible show wpList _ _ _ (⟨_, .buildSlice _ 1 _, _, _, _, _⟩ :: _) _ _); refine st_push hS 1 rfl rfl _ _ _ _ rfl rfl ty_pairs _ _ _ (.agg #[.int .i64 (za : Nat), .int .i64 (zb : Nat)]) #[.int .i64 (za : Nat), .int .i64 (zb : Nat)] rfl (by kernel_rfl) rfl rfl rfl rfl (by intro u hu; simp at hu; first | (subst hu; rfl) | (rcases hu with rfl | rfl <;> rfl)) (by omega) (by omega) ?_; clear hS; intro z_ v_ w_ hS; (try simp only [Act.put, Act.eval, List.set_cons_zero, List.set_cons_succ, List.setIfInBounds_toArray, Array.getD_eq_getD_getElem?, List.getElem?_toArray, List.getElem?_cons_succ, List.getElem?_cons_zero, Option.getD_some, Value.cells] at hS))
            | ((with_reducible show wpList _ _ _ (⟨_, .load _ _, _, _, _, _⟩ :: _) _ _); first | (refine st_cell hS 0 rfl _ _ rfl _ _ rfl _ _ rfl (by decide +kernel) _ (by first | assumption | rfl) ?_) | (refine st_cell hS 1 rfl _ _ rfl _ _ rfl _ _ rfl (by decide +kernel) _ (by first | assumption | rfl) ?_) | (refine st_cell hS 2 rfl _ _ rfl _ _ rfl _ _ rfl (by decide +kernel) _ (by first | assumption | rfl) ?_) | (refine st_cell hS 3 rfl _ _ rfl _ _ rfl _ _ rfl (by decide +kernel) _ (by first | assumption | rfl) ?_) | (refine st_cell hS 4 rfl _ _ rfl _ _ rfl _ _ rfl (by decide +kernel) _ (by first | assumption | rfl) ?_) | (refine st_cell hS 5 rfl _ _ rfl _ _ rfl _ _ rfl (by decide +kernel) _ (by first | assumption | rfl) ?_) | (refine st_cell hS 6 rfl _ _ rfl _ _ rfl _ _ rfl (by decide +kernel) _ (by first | assumption | rfl) ?_) | (refine st_cell hS 7 rfl _ _ rfl _ _ rfl _ _ rfl (by decide +kernel) _ (by first | assumption | rfl) ?_)))
          refine ⟨⟨j + 1, _, by go_num, rfl, hlj, ?_⟩, by simp [intOf]; omega⟩
          have e : pcells (M ++ [(za, zb)]) = pcells M ++ [.int .i64 (za : Nat), .int .i64 (zb : Nat)] := pcells_app M [(za, zb)]
          rw [HE.out, e, List.length_append]
          exact (hS.sub (List.sublist_cons_self _ _)).mono KS fun _ _ h => h.1
      · have HE := Lib.hid (HST.out.trans (if_neg hz))
        have HCB : Hid (∀ c : Bool, (c = true ↔ ∃ i j : Nat, (z.2 : Int) = (i : Int) ∧ (z.1 : Int) = (j : Int) ∧ TC (unl L z) j i) → c = false) := Lib.hid fun c hc => by
          cases c with
          | false => rfl
          | true =>
            obtain ⟨i, j, h1, h2, h3⟩ := hc.1 rfl
            obtain rfl : z.2 = i := by omega
            obtain rfl : z.1 = j := by omega
            exact absurd h3 hz
        obtain ⟨za, zb⟩ := z
        dsimp only at f1 f2 HWO HCB
        clear hz HST
        go_wp2_with (first
          | ((with_reducible show wpList _ _ _ (⟨_, .binOp _ _ _ _ _, _, _, _, _⟩ :: _) _ _); (first | (refine st_lss rfl _ _ _ _ rfl _ _ _ rfl rfl (fun h_ => ?_) (fun h_ => ?_)) | (refine st_leq rfl _ _ _ _ rfl _ _ _ rfl rfl (fun h_ => ?_) (fun h_ => ?_)) | (refine st_gtr rfl _ _ _ _ rfl _ _ _ rfl rfl (fun h_ => ?_) (fun h_ => ?_)) | (refine st_geq rfl _ _ _ _ rfl _ _ _ rfl rfl (fun h_ => ?_) (fun h_ => ?_)) | (refine st_eql rfl _ _ _ _ rfl _ _ _ rfl rfl (fun h_ => ?_) (fun h_ => ?_)) | (refine st_neq rfl _ _ _ _ rfl _ _ _ rfl rfl (fun h_ => ?_) (fun h_ => ?_))) <;> go_prune)
          | ((with_reducible show wpList _ _ _ (⟨_, .indexAddr _ _ _, _, _, _, _⟩ :: _) _ _); refine st_iaddr2 hS rfl _ _ _ rfl _ rfl rfl (by assumption) Tryd.underlying25 (by kernel_rfl) (by first | assumption | omega) _ _ (by assumption) (by assumption) ?_; intro b_ j_ hc0_ hc1_)
          | ((with_reducible show wpList _ _ _ (⟨some 5, _, _, _, _, _⟩ :: _) _ _); refine st_alloc hS rfl _ rfl (by kernel_rfl) ?_; clear hS; intro g4 w_ hS; (try simp only [Act.put, Act.eval, List.set_cons_zero, List.set_cons_succ, List.setIfInBounds_toArray, Array.getD_eq_getD_getElem?, List.getElem?_toArray, List.getElem?_cons_succ, List.getElem?_cons_zero, Option.getD_some, Value.cells] at hS))
          | ((with_reducible show wpList _ _ _ (⟨_, .store _ _ _, _, _, _, _⟩ :: _) _ _); (first | (refine st_store hS 0 rfl _ _ _ rfl _ _ rfl rfl _ _ rfl (by kernel_rfl) (by kernel_rfl) (by kernel_rfl) ?_) | (refine st_store hS 1 rfl _ _ _ rfl _ _ rfl rfl _ _ rfl (by kernel_rfl) (by kernel_rfl) (by kernel_rfl) ?_) | (refine st_store hS 2 rfl _ _ _ rfl _ _ rfl rfl _ _ rfl (by kernel_rfl) (by kernel_rfl) (by kernel_rfl) ?_) | (refine st_store hS 3 rfl _ _ _ rfl _ _ rfl rfl _ _ rfl (by kernel_rfl) (by kernel_rfl) (by kernel_rfl) ?_) | (refine st_cstore hS 0 rfl _ _ _ rfl _ _ _ rfl rfl rfl (by first | (simp; done) | (simp; omega) | exact of_decide_eq_true (by kernel_rfl)) rfl (by first | rfl | assumption) (by kernel_rfl) ?_) | (refine st_cstore hS 1 rfl _ _ _ rfl _ _ _ rfl rfl rfl (by first | (simp; done) | (simp; omega) | exact of_decide_eq_true (by kernel_rfl)) rfl (by first | rfl | assumption) (by kernel_rfl) ?_) | (refine st_cstore hS 2 rfl _ _ _ rfl _ _ _ rfl rfl rfl (by first | (simp; done) | (simp; omega) | exact of_decide_eq_true (by kernel_rfl)) rfl (by first | rfl | assumption) (by kernel_rfl) ?_) | (refine st_cstore hS 3 rfl _ _ _ rfl _ _ _ rfl rfl rfl (by first | (simp; done) | (simp; omega) | exact of_decide_eq_true (by kernel_rfl)) rfl (by first | rfl | assumption) (by kernel_rfl) ?_)); clear hS; intro w_ hS; (try simp only [Act.put, Act.eval, List.set_cons_zero, List.set_cons_succ, List.setIfInBounds_toArray, Array.getD_eq_getD_getElem?, List.getElem?_toArray, List.getElem?_cons_succ, List.getElem?_cons_zero, Option.getD_some, Value.cells] at hS)))
        have KS2 := hS.stable
        have hJ0 : OJ (fun w => St w0 w [.box g4 50 #[.int .i64 (za : Nat), .int .i64 (zb : Nat)], .own vo 50 2 M.length (pcells M)] K) (fun r w => ∃ p', r = .tuple #[p', .int .i64 0] ∧ St w0 w [.box g4 50 #[.int .i64 (za : Nat), .int .i64 (zb : Nat)], .own vo 50 2 M.length (pcells M)] fun D w => K D w ∧ IsOrd w D p' 64 (unl L (za, zb))) (w_.drew, none) := OJ.start hS.drew
        have hN0 := ON.start 8 w_.drew
        obtain ⟨C, hC⟩ : ∃ C : World → Prop, C = fun w => St w0 w [.box g4 50 #[.int .i64 (za : Nat), .int .i64 (zb : Nat)], .own vo 50 2 M.length (pcells M)] K := ⟨_, rfl⟩
        obtain ⟨S, hSS⟩ : ∃ S : Value → World → Prop, S = fun r w => ∃ p', r = .tuple #[p', .int .i64 0] ∧ St w0 w [.box g4 50 #[.int .i64 (za : Nat), .int .i64 (zb : Nat)], .own vo 50 2 M.length (pcells M)] fun D w => K D w ∧ IsOrd w D p' 64 (unl L (za, zb)) := ⟨_, rfl⟩
        rw [← hC, ← hSS] at hJ0
        have HC2 := Lib.hid (fun w (h : C w) => show St w0 w [.box g4 50 #[.int .i64 (za : Nat), .int .i64 (zb : Nat)], .own vo 50 2 M.length (pcells M)] K by rw [hC] at h; exact h)
        have HC3 := Lib.hid (fun w (h : St w0 w [.box g4 50 #[.int .i64 (za : Nat), .int .i64 (zb : Nat)], .own vo 50 2 M.length (pcells M)] K) => show C w by rw [hC]; exact h)
        have HS2 := Lib.hid (fun r w (h : S r w) => show ∃ p', r = .tuple #[p', .int .i64 0] ∧ St w0 w [.box g4 50 #[.int .i64 (za : Nat), .int .i64 (zb : Nat)], .own vo 50 2 M.length (pcells M)] fun D w => K D w ∧ IsOrd w D p' 64 (unl L (za, zb)) by rw [hSS] at h; exact h)
        have HS3 := Lib.hid (fun r w (h : ∃ p', r = .tuple #[p', .int .i64 0] ∧ St w0 w [.box g4 50 #[.int .i64 (za : Nat), .int .i64 (zb : Nat)], .own vo 50 2 M.length (pcells M)] fun D w => K D w ∧ IsOrd w D p' 64 (unl L (za, zb))) => show S r w by rw [hSS]; exact h)
        clear hC hSS
        have hRr := @OR.refl C S
        have hRt := @OR.trans C S
        refine wp_region_ghost (fun i__ v w => match i__ with
          | 0 => v = .pointer (some ⟨q, 0, none⟩)
          | 1 => v = .pointer (some ⟨q, 0, none⟩)
          | 2 => v = .pointer (some ⟨q, 0, none⟩)
          | 3 => v = o
          | 4 => v = .pointer (some ⟨g4, 0, none⟩)
          | 5 => v = .int .i64 ((za : Nat) : Int)
          | 6 => v = .pointer (some ⟨g4, 1, none⟩)
          | 7 => v = .int .i64 ((zb : Nat) : Int)
          | 8 => w.2 = some v ∧ isTup2 v
          | 9 => w.2 = some v ∧ isTup2 v
          | 10 => ∃ x y : Value, w.2 = some (.tuple #[x, y]) ∧ v = x
          | 11 => ∃ x y : Value, w.2 = some (.tuple #[x, y]) ∧ v = y
          | 12 => ∃ x y : Value, w.2 = some (.tuple #[x, y]) ∧ v = x
          | 13 => ∃ x y : Value, w.2 = some (.tuple #[x, y]) ∧ v = y
          | _ => True) (OR C S) (ON 8) (none) (by kernel_rfl) (by kernel_rfl) hRr hRt ?mono ?hN ⟨?r0, ?r1, ?r2, ?r3, ?r4, ?r5, ?r6, ?r7, ?r8, ?r9, ?r10, ?r11, ?r12, ?r13, trivial⟩ ?post
        case hN => first | assumption | (intro i; (try dsimp only); split <;> first | trivial | assumption | (left; assumption))
        case mono =>
          intro i v w w' h hb
          match i, h with
          | 0, h => exact h
          | 1, h => exact h
          | 2, h => exact h
          | 3, h => exact h
          | 4, h => exact h
          | 5, h => exact h
          | 6, h => exact h
          | 7, h => exact h
          | 8, h => exact ⟨hb.2 _ h.1, h.2⟩
          | 9, h => exact ⟨hb.2 _ h.1, h.2⟩
          | 10, h => exact by obtain ⟨x, y, h1, h2⟩ := h; exact ⟨x, y, hb.2 _ h1, h2⟩
          | 11, h => exact by obtain ⟨x, y, h1, h2⟩ := h; exact ⟨x, y, hb.2 _ h1, h2⟩
          | 12, h => exact by obtain ⟨x, y, h1, h2⟩ := h; exact ⟨x, y, hb.2 _ h1, h2⟩
          | 13, h => exact by obtain ⟨x, y, h1, h2⟩ := h; exact ⟨x, y, hb.2 _ h1, h2⟩
          | _ + 14, h => trivial
        case r0 =>
          refine truleGh fun b__ w hW hN hold hpre => ⟨fun hwant K hK => ?_, fun hwant => ?_⟩
          · clear hwant
            have e0 : b__.eval (.tmp 0) = .pointer (some ⟨q, 0, none⟩) := (hold 0 (by kernel_rfl)).trans rfl
            exact opw_move rfl e0 (hK _ _ rfl ⟨hRr _, fun _ _ h => h⟩)
          · rw [want_none rfl] at hwant; cases hwant
        case r1 =>
          refine truleGh fun b__ w hW hN hold hpre => ⟨fun hwant K hK => ?_, fun hwant => ?_⟩
          · clear hwant
            have e16 : b__.eval (.tmp 16) = .pointer (some ⟨q, 0, none⟩) := hpre ⟨0, _⟩ (Array.mem_of_getElem? (i := 0) rfl) rfl _ _ rfl rfl
            exact opw_nil rfl e16 (hK _ _ rfl ⟨hRr _, fun _ _ h => h⟩)
          · rw [want_none rfl] at hwant; cases hwant
        case r2 =>
          refine truleGh fun b__ w hW hN hold hpre => ⟨fun hwant K hK => ?_, fun hwant => ?_⟩
          · clear hwant
            have e17 : b__.eval (.tmp 17) = .pointer (some ⟨q, 0, none⟩) := hpre ⟨1, _⟩ (Array.mem_of_getElem? (i := 0) rfl) rfl _ _ rfl rfl
            exact opw_faddr rfl e17 (by kernel_rfl) (hK _ _ rfl ⟨hRr _, fun _ _ h => h⟩)
          · rw [want_none rfl] at hwant; cases hwant
        case r3 =>
          refine truleGh fun b__ w hW hN hold hpre => ⟨fun hwant K hK => ?_, fun hwant => ?_⟩
          · clear hwant
            have e18 : b__.eval (.tmp 18) = .pointer (some ⟨q, 0, none⟩) := hpre ⟨2, _⟩ (Array.mem_of_getElem? (i := 0) rfl) rfl _ _ rfl rfl
            exact opw_cell rfl e18 (by kernel_rfl) ((ko _ _ (HC2.out _ (hW.1 hJ0).1).ro).1.cell 0 rfl) (hK _ _ rfl ⟨hRr _, fun _ _ h => h⟩)
          · rw [want_none rfl] at hwant; cases hwant
        case r4 =>
          refine truleGh fun b__ w hW hN hold hpre => ⟨fun hwant K hK => ?_, fun hwant => ?_⟩
          · clear hwant
            have e5 : b__.eval (.tmp 5) = .pointer (some ⟨g4, 0, none⟩) := (hold 5 (by kernel_rfl)).trans rfl
            exact opw_iaddr rfl e5 rfl (by kernel_rfl) (hK _ _ rfl ⟨hRr _, fun _ _ h => h⟩)
          · rw [want_none rfl] at hwant; cases hwant
        case r5 =>
          refine truleGh fun b__ w hW hN hold hpre => ⟨fun hwant K hK => ?_, fun hwant => ?_⟩
          · clear hwant
            have e20 : b__.eval (.tmp 20) = .pointer (some ⟨g4, 0, none⟩) := hpre ⟨4, _⟩ (Array.mem_of_getElem? (i := 0) rfl) rfl _ _ rfl rfl
            exact opw_cell rfl e20 (by kernel_rfl) ((HC2.out _ (hW.1 hJ0).1).shut 0 rfl 0 rfl) (hK _ _ rfl ⟨hRr _, fun _ _ h => h⟩)
          · rw [want_none rfl] at hwant; cases hwant
        case r6 =>
          refine truleGh fun b__ w hW hN hold hpre => ⟨fun hwant K hK => ?_, fun hwant => ?_⟩
          · clear hwant
            have e5 : b__.eval (.tmp 5) = .pointer (some ⟨g4, 0, none⟩) := (hold 5 (by kernel_rfl)).trans rfl
            exact opw_iaddr rfl e5 rfl (by kernel_rfl) (hK _ _ rfl ⟨hRr _, fun _ _ h => h⟩)
          · rw [want_none rfl] at hwant; cases hwant
        case r7 =>
          refine truleGh fun b__ w hW hN hold hpre => ⟨fun hwant K hK => ?_, fun hwant => ?_⟩
          · clear hwant
            have e22 : b__.eval (.tmp 22) = .pointer (some ⟨g4, 1, none⟩) := hpre ⟨6, _⟩ (Array.mem_of_getElem? (i := 0) rfl) rfl _ _ rfl rfl
            exact opw_cell rfl e22 (by kernel_rfl) ((HC2.out _ (hW.1 hJ0).1).shut 0 rfl 1 rfl) (hK _ _ rfl ⟨hRr _, fun _ _ h => h⟩)
          · rw [want_none rfl] at hwant; cases hwant
        case r8 =>
          refine truleGh fun b__ w hW hN hold hpre => ⟨fun hwant K hK => ?_, fun hwant => ?_⟩
          · clear hwant
            have e19 : b__.eval (.tmp 19) = o := hpre ⟨3, _⟩ (Array.mem_of_getElem? (i := 0) rfl) rfl _ _ rfl rfl
            have e21 : b__.eval (.tmp 21) = .int .i64 ((za : Nat) : Int) := hpre ⟨5, _⟩ (Array.mem_of_getElem? (i := 1) rfl) rfl _ _ rfl rfl
            have e23 : b__.eval (.tmp 23) = .int .i64 ((zb : Nat) : Int) := hpre ⟨7, _⟩ (Array.mem_of_getElem? (i := 2) rfl) rfl _ _ rfl rfl
            exact one_call isTup2 rfl (by kernel_rfl) (by simp only [List.map_cons, List.map_nil, e19, e21, e23]) (HWO.out _ _ (HC2.out _ (hW.1 hJ0).1)) hN (fun e w' h => by obtain ⟨p', rfl, h⟩ := h; exact ⟨_, rfl, HC3.out _ (h.mono KS2 fun _ _ h => h.1), HS3.out _ _ ⟨p', rfl, h⟩, _, _, rfl⟩) hK
          · rw [want_none rfl] at hwant; cases hwant
        case r9 =>
          refine truleGh fun b__ w hW hN hold hpre => ⟨fun hwant K hK => ?_, fun hwant => ?_⟩
          · clear hwant
            have e24 : (fun (v : Value) (w : World × _) => w.2 = some v ∧ isTup2 v) (b__.eval (.tmp 24)) w := hpre ⟨8, _⟩ (Array.mem_of_getElem? (i := 0) rfl) rfl _ _ rfl rfl
            exact opw_move rfl rfl (hK _ _ e24 ⟨hRr _, fun _ _ h => h⟩)
          · rw [want_none rfl] at hwant; cases hwant
        case r10 =>
          refine truleGh fun b__ w hW hN hold hpre => ⟨fun hwant K hK => ?_, fun hwant => ?_⟩
          · clear hwant
            have e15 : (fun (v : Value) (w : World × _) => w.2 = some v ∧ isTup2 v) (b__.eval (.tmp 15)) w := hpre ⟨9, _⟩ (Array.mem_of_getElem? (i := 0) rfl) rfl _ _ rfl rfl
            obtain ⟨hd, x, y, hv⟩ := e15
            rw [hv] at hd
            exact opw_extract rfl hv rfl (hK _ _ ⟨x, y, hd, rfl⟩ ⟨hRr _, fun _ _ h => h⟩)
          · rw [want_none rfl] at hwant; cases hwant
        case r11 =>
          refine truleGh fun b__ w hW hN hold hpre => ⟨fun hwant K hK => ?_, fun hwant => ?_⟩
          · clear hwant
            have e15 : (fun (v : Value) (w : World × _) => w.2 = some v ∧ isTup2 v) (b__.eval (.tmp 15)) w := hpre ⟨9, _⟩ (Array.mem_of_getElem? (i := 0) rfl) rfl _ _ rfl rfl
            obtain ⟨hd, x, y, hv⟩ := e15
            rw [hv] at hd
            exact opw_extract rfl hv rfl (hK _ _ ⟨x, y, hd, rfl⟩ ⟨hRr _, fun _ _ h => h⟩)
          · rw [want_none rfl] at hwant; cases hwant
        case r12 =>
          refine truleGh fun b__ w hW hN hold hpre => ⟨fun hwant K hK => ?_, fun hwant => ?_⟩
          · clear hwant
            have e25 : (fun (v : Value) (w : World × _) => ∃ x y : Value, w.2 = some (.tuple #[x, y]) ∧ v = x) (b__.eval (.tmp 25)) w := hpre ⟨10, _⟩ (Array.mem_of_getElem? (i := 0) rfl) rfl _ _ rfl rfl
            exact opw_assign rfl rfl (hK _ _ e25 ⟨hRr _, fun _ _ h => h⟩)
          · rw [want_none rfl] at hwant; cases hwant
        case r13 =>
          refine truleGh fun b__ w hW hN hold hpre => ⟨fun hwant K hK => ?_, fun hwant => ?_⟩
          · clear hwant
            have e26 : (fun (v : Value) (w : World × _) => ∃ x y : Value, w.2 = some (.tuple #[x, y]) ∧ v = y) (b__.eval (.tmp 26)) w := hpre ⟨11, _⟩ (Array.mem_of_getElem? (i := 0) rfl) rfl _ _ rfl rfl
            exact opw_assign rfl rfl (hK _ _ e26 ⟨hRr _, fun _ _ h => h⟩)
          · rw [want_none rfl] at hwant; cases hwant
        case post =>
          intro b__ wz hW hdf hsz hold hT hZ
          have e16 : b__.eval (.tmp 16) = .pointer (some ⟨q, 0, none⟩) := hT 0 _ 16 rfl rfl
          have e17 : b__.eval (.tmp 17) = .pointer (some ⟨q, 0, none⟩) := hT 1 _ 17 rfl rfl
          have e18 : b__.eval (.tmp 18) = .pointer (some ⟨q, 0, none⟩) := hT 2 _ 18 rfl rfl
          have e19 : b__.eval (.tmp 19) = o := hT 3 _ 19 rfl rfl
          have e20 : b__.eval (.tmp 20) = .pointer (some ⟨g4, 0, none⟩) := hT 4 _ 20 rfl rfl
          have e21 : b__.eval (.tmp 21) = .int .i64 ((za : Nat) : Int) := hT 5 _ 21 rfl rfl
          have e22 : b__.eval (.tmp 22) = .pointer (some ⟨g4, 1, none⟩) := hT 6 _ 22 rfl rfl
          have e23 : b__.eval (.tmp 23) = .int .i64 ((zb : Nat) : Int) := hT 7 _ 23 rfl rfl
          have e24 : (fun (v : Value) (w : World × _) => w.2 = some v ∧ isTup2 v) (b__.eval (.tmp 24)) wz := hT 8 _ 24 rfl rfl
          have e15 : (fun (v : Value) (w : World × _) => w.2 = some v ∧ isTup2 v) (b__.eval (.tmp 15)) wz := hT 9 _ 15 rfl rfl
          have e25 : (fun (v : Value) (w : World × _) => ∃ x y : Value, w.2 = some (.tuple #[x, y]) ∧ v = x) (b__.eval (.tmp 25)) wz := hT 10 _ 25 rfl rfl
          have e26 : (fun (v : Value) (w : World × _) => ∃ x y : Value, w.2 = some (.tuple #[x, y]) ∧ v = y) (b__.eval (.tmp 26)) wz := hT 11 _ 26 rfl rfl
          have e6 : (fun (v : Value) (w : World × _) => ∃ x y : Value, w.2 = some (.tuple #[x, y]) ∧ v = x) (b__.eval (.tmp 6)) wz := hT 12 _ 6 rfl rfl
          have e7 : (fun (v : Value) (w : World × _) => ∃ x y : Value, w.2 = some (.tuple #[x, y]) ∧ v = y) (b__.eval (.tmp 7)) wz := hT 13 _ 7 rfl rfl
          obtain ⟨vs, hvs, hb⟩ := frame_of hdf hsz hold
          replace e16 : vs 16 = .pointer (some ⟨q, 0, none⟩) := (hvs 16).symm.trans e16
          replace e17 : vs 17 = .pointer (some ⟨q, 0, none⟩) := (hvs 17).symm.trans e17
          replace e18 : vs 18 = .pointer (some ⟨q, 0, none⟩) := (hvs 18).symm.trans e18
          replace e19 : vs 19 = o := (hvs 19).symm.trans e19
          replace e20 : vs 20 = .pointer (some ⟨g4, 0, none⟩) := (hvs 20).symm.trans e20
          replace e21 : vs 21 = .int .i64 ((za : Nat) : Int) := (hvs 21).symm.trans e21
          replace e22 : vs 22 = .pointer (some ⟨g4, 1, none⟩) := (hvs 22).symm.trans e22
          replace e23 : vs 23 = .int .i64 ((zb : Nat) : Int) := (hvs 23).symm.trans e23
          replace e24 := (hvs 24) ▸ e24
          replace e15 := (hvs 15) ▸ e15
          replace e25 := (hvs 25) ▸ e25
          replace e26 := (hvs 26) ▸ e26
          replace e6 := (hvs 6) ▸ e6
          replace e7 := (hvs 7) ▸ e7
          subst hb
          clear hvs hold hT hdf hsz
          simp only [setAll, Act.put, List.setIfInBounds_toArray, List.set_cons_zero, List.set_cons_succ, List.getElem_toArray, List.getElem_cons_succ, List.getElem_cons_zero]
          obtain ⟨x1, y1, d1, e6⟩ := e6
          obtain ⟨x2, y2, d2, e7⟩ := e7
          rw [d1] at d2
          obtain ⟨rfl, rfl⟩ : x1 = x2 ∧ y1 = y2 := by simpa using d2
          obtain ⟨p', hp, hS⟩ := HS2.out _ _ ((hW.1 hJ0).2 _ d1)
          obtain ⟨rfl, rfl⟩ : x1 = p' ∧ y1 = .int .i64 0 := by simpa using hp
          rw [e6, e7]
          generalize wz.1 = wf at *
          clear hJ0 hRr hRt hW hZ hN0 d1 d2 e6 e7 hp HC2 HC3 HS2 HS3
          have hIO := Lib.hid (fun (w : World) (h : K (Free [.box g4 50 #[.int .i64 (za : Nat), .int .i64 (zb : Nat)], .own vo 50 2 M.length (pcells M)]) w ∧ IsOrd w (Free [.box g4 50 #[.int .i64 (za : Nat), .int .i64 (zb : Nat)], .own vo 50 2 M.length (pcells M)]) x1 64 (unl L (za, zb))) => oless_any h.2 HU.out (zb : Nat) (za : Nat))
          go_wp2_with (first
            | ((with_reducible show wpList _ _ _ (⟨_, .binOp _ _ _ _ _, _, _, _, _⟩ :: _) _ _); (first | (refine st_lss rfl _ _ _ _ rfl _ _ _ rfl rfl (fun h_ => ?_) (fun h_ => ?_)) | (refine st_leq rfl _ _ _ _ rfl _ _ _ rfl rfl (fun h_ => ?_) (fun h_ => ?_)) | (refine st_gtr rfl _ _ _ _ rfl _ _ _ rfl rfl (fun h_ => ?_) (fun h_ => ?_)) | (refine st_geq rfl _ _ _ _ rfl _ _ _ rfl rfl (fun h_ => ?_) (fun h_ => ?_)) | (refine st_eql rfl _ _ _ _ rfl _ _ _ rfl rfl (fun h_ => ?_) (fun h_ => ?_)) | (refine st_neq rfl _ _ _ _ rfl _ _ _ rfl rfl (fun h_ => ?_) (fun h_ => ?_))) <;> go_prune)
            | (go_at_call 56; refine (hIO.out _ hS.ro).mono ?_; rintro r_ w_ ⟨_, rfl, ⟨c, rfl, hc⟩, hb_⟩; obtain rfl := HCB.out c hc; clear hc; replace hS := hS.ext hb_; clear hb_)
            | ((with_reducible show wpList _ _ _ (⟨_, .load _ _, _, _, _, _⟩ :: _) _ _); first | (refine st_cell hS 0 rfl _ _ rfl _ _ rfl _ _ rfl (by decide +kernel) _ (by first | assumption | rfl) ?_) | (refine st_cell hS 1 rfl _ _ rfl _ _ rfl _ _ rfl (by decide +kernel) _ (by first | assumption | rfl) ?_) | (refine st_cell hS 2 rfl _ _ rfl _ _ rfl _ _ rfl (by decide +kernel) _ (by first | assumption | rfl) ?_) | (refine st_cell hS 3 rfl _ _ rfl _ _ rfl _ _ rfl (by decide +kernel) _ (by first | assumption | rfl) ?_) | (refine st_cell hS 4 rfl _ _ rfl _ _ rfl _ _ rfl (by decide +kernel) _ (by first | assumption | rfl) ?_) | (refine st_cell hS 5 rfl _ _ rfl _ _ rfl _ _ rfl (by decide +kernel) _ (by first | assumption | rfl) ?_) | (refine st_cell hS 6 rfl _ _ rfl _ _ rfl _ _ rfl (by decide +kernel) _ (by first | assumption | rfl) ?_) | (refine st_cell hS 7 rfl _ _ rfl _ _ rfl _ _ rfl (by decide +kernel) _ (by first | assumption | rfl) ?_)))
          refine ⟨⟨j + 1, _, by go_num, rfl, hlj, ?_⟩, by simp [intOf]; omega⟩
          rw [HE.out]
          exact (hS.sub (List.sublist_cons_self _ _)).mono KS fun _ _ h => h.1
    · obtain rfl : j = L.length := by omega
      rw [List.take_length] at hS
      go_wp2_with (first | ((with_reducible show wpList _ _ _ (⟨_, .binOp _ _ _ _ _, _, _, _, _⟩ :: _) _ _); (first | (refine st_lss rfl _ _ _ _ rfl _ _ _ rfl rfl (fun h_ => ?_) (fun h_ => ?_)) | (refine st_leq rfl _ _ _ _ rfl _ _ _ rfl rfl (fun h_ => ?_) (fun h_ => ?_)) | (refine st_gtr rfl _ _ _ _ rfl _ _ _ rfl rfl (fun h_ => ?_) (fun h_ => ?_)) | (refine st_geq rfl _ _ _ _ rfl _ _ _ rfl rfl (fun h_ => ?_) (fun h_ => ?_)) | (refine st_eql rfl _ _ _ _ rfl _ _ _ rfl rfl (fun h_ => ?_) (fun h_ => ?_)) | (refine st_neq rfl _ _ _ _ rfl _ _ _ rfl rfl (fun h_ => ?_) (fun h_ => ?_))) <;> go_prune))
      go_ret
      exact ⟨_, rfl, hS.mono (Stable.pure True) fun _ _ _ => trivial⟩
end Go.Proofs.YtmlkgaiphpimiaaDoor
namespace Go.Proofs.YtmlkgaiphpimiaaDoor
open Go.RowKit
attribute [local go_sem ↓] Go.wp_at_zero Go.wp_at_succ
set_option maxRecDepth 20000
set_option exponentiation.threshold 5000

section
variable {P : Program} {ops : Array Oper} {rest : List Oper} {o : Oper} {a : Act} {w : World} {Q : Exit → Act → World → Prop}
end
theorem HOK.ins {L : List (Nat × Nat)} (h : HOK L) {x y : Nat} (hx : 1 ≤ x ∧ x < 64) (hy : 1 ≤ y ∧ y < 64) (hne : x ≠ y) (hm : (x, y) ∉ L) (ht : ¬ TC L y x) : HOK (ins L (x, y)) := by
  refine ⟨ins_asc h.asc hm, fun z hz => ?_, (acyc_ins h.acyc fun z => mem_ins).2 ?_⟩
  · rcases mem_ins.1 hz with rfl | hz
    · exact ⟨hx, hy⟩
    · exact h.role z hz
  · rintro (e | e)
    · exact hne e.symm
    · exact ht e
def Six (L : List (Nat × Nat)) : Prop := ∀ x ∈ L, x.1 ≤ 6 ∧ x.2 ≤ 6
theorem Six.ins {L : List (Nat × Nat)} (h : Six L) {x y : Nat} (hx : x ≤ 6) (hy : y ≤ 6) : Six (ins L (x, y)) := fun z hz => by
  rcases mem_ins.1 hz with rfl | hz
  · exact ⟨hx, hy⟩
  · exact h z hz
theorem RLinkP.step {w0 w w' : World} {F : List Fact} {K : (Nat → Prop) → World → Prop} {pv : Value} {L : List (Nat × Nat)} {a b : Int} {e : Ending} (h : RLinkP w pv L a b e w') (hS : St w0 w (.own pv 50 2 L.length (pcells L) :: F) K) (hH : HOK L) (h6 : Six L) (ha : a ≤ 6) (hb : b ≤ 6) :
    ∃ (v : Value) (z : Int) (L' : List (Nat × Nat)), e = .returned (.tuple #[v, .int .i64 z]) ∧ HOK L' ∧ Six L' ∧ L'.length ≤ L.length + 1 ∧ St w0 w' (.own v 50 2 L'.length (pcells L') :: F) K ∧ St w0 w' (.own pv 50 2 L.length (pcells L) :: F) K := by
  rcases h with ⟨_, rfl, h⟩ | ⟨x, y, rfl, rfl, hx, hy, hne, ⟨_, rfl, h⟩ | ⟨_, _, rfl, h⟩ | ⟨hm, ht, v, rfl, hs⟩⟩
  · exact ⟨_, _, L, rfl, hH, h6, by omega, hS.ext h, hS.ext h⟩
  · exact ⟨_, _, L, rfl, hH, h6, by omega, hS.ext h, hS.ext h⟩
  · exact ⟨_, _, L, rfl, hH, h6, by omega, hS.ext h, hS.ext h⟩
  · refine ⟨v, _, _, rfl, hH.ins hx hy hne hm ht, h6.ins (by omega) (by omega), by rw [ins_len]; omega, ?_⟩
    have hn := hS.new hs.below (.own v 50 2 (L.length + 1) (pcells (ins L (x, y)))) (hs.own 0 rfl)
    rw [ins_len]
    exact ⟨hn.sub (.cons_cons _ (.cons _ (List.Sublist.refl _))), hn.sub (List.sublist_cons_self _ _)⟩
theorem sl_cell {w : World} {D : Nat → Prop} {size n c b o j : Nat} {xs : List Value} {x : Value} (h : Sl w D size (.slice (some ⟨b, o, none⟩) n c) n xs) (hj : xs[j]? = some x) : w.cell? ⟨b, o + j, none⟩ = some x := by
  obtain ⟨h1, A, c2, h2, _, _, h5⟩ := h
  have hlt := (List.getElem?_eq_some_iff.1 hj).1
  have hn : 0 < n := by
    rcases Nat.eq_zero_or_pos n with h0 | h0
    · subst h0; simp at h1; subst h1; simp at hlt
    · exact h0
  obtain ⟨b2, o2, h6, _, _, h8⟩ := h5 hn
  injection h2 with h2
  rw [h6] at h2
  injection h2 with h2
  injection h2 with h9 h10
  rw [h9, h10]
  exact h8 j x hj
end Go.Proofs.YtmlkgaiphpimiaaDoor
namespace Go.Proofs.YtmlkgaiphpimiaaDoor
open Go.RowKit
attribute [local go_sem ↓] Go.wp_at_zero Go.wp_at_succ
set_option maxRecDepth 20000

def rcells (l : List (Nat × Nat)) : List Value := l.flatMap fun z => [.int .u64 (z.1 : Nat), .int .u64 (z.2 : Nat)]
theorem rcells_at (l : List (Nat × Nat)) (k : Nat) (h : k < l.length) : (rcells l)[k * 2]? = some (.int .u64 ((l.getD k (0, 0)).1 : Nat)) ∧ (rcells l)[k * 2 + 1]? = some (.int .u64 ((l.getD k (0, 0)).2 : Nat)) := by
  induction l generalizing k with
  | nil => simp at h
  | cons z r ih =>
    cases k with
    | zero => simp [rcells]
    | succ k =>
      have := ih k (by simpa using h)
      rw [show (k + 1) * 2 = k * 2 + 2 by omega]
      simpa [rcells] using this
def RCubes (w : World) (D : Nat → Prop) (v : Value) (l : List (Nat × Nat)) : Prop := Sl w D 2 v l.length (rcells l)
theorem RCubes.keep {w w' : World} {D : Nat → Prop} {v : Value} {l : List (Nat × Nat)} (h : RCubes w D v l) (hsz : w.heap.size ≤ w'.heap.size) (hk : ∀ p : Addr, D p.block → p.block < w.heap.size → w'.cell? p = w.cell? p) : RCubes w' D v l := Sl.keep h hsz hk
theorem RCubes.imp {w : World} {D D' : Nat → Prop} {v : Value} {l : List (Nat × Nat)} (h : RCubes w D v l) (hD : ∀ b, D b → b < w.heap.size → D' b) : RCubes w D' v l := Sl.imp h hD
theorem RCubes.ext {w w' : World} {D : Nat → Prop} {v : Value} {l : List (Nat × Nat)} (h : RCubes w D v l) (hb : Below w.heap.size w w') : RCubes w' D v l := h.keep hb.size fun _ _ hp => hb.cell hp
theorem RCubes.drew {w : World} {D : Nat → Prop} {v : Value} {l : List (Nat × Nat)} (h : RCubes w D v l) : RCubes w.drew D v l := h.keep (Nat.le_refl _) fun _ _ _ => rfl
theorem RCubes.alloc {w : World} {D : Nat → Prop} {v : Value} {l : List (Nat × Nat)} (h : RCubes w D v l) (o : Obj) : RCubes (w.alloc o) D v l := h.keep (by simp) fun p _ hp => World.cell?_alloc_lt w o p hp
theorem RCubes.upd {g : Nat} {w w' : World} {D : Nat → Prop} {v : Value} {l : List (Nat × Nat)} (h : RCubes w D v l) (hU : Upd g w w') (hD : ∀ b, D b → b < w.heap.size → b ≠ g) : RCubes w' D v l := h.keep (Nat.le_of_eq hU.size.symm) fun _ h1 h2 => hU.cell (hD _ h1 h2)
theorem RCubes.shape {w : World} {D : Nat → Prop} {v : Value} {l : List (Nat × Nat)} (h : RCubes w D v l) : ∃ A c, v = .slice A l.length c ∧ l.length ≤ c ∧ c ≤ 9223372036854775807 := Sl.shape h
theorem RCubes.at_ {w : World} {D : Nat → Prop} {A : Option Addr} {c : Nat} {l : List (Nat × Nat)} (h : RCubes w D (.slice A l.length c) l) {k : Nat} (hk : k < l.length) :
    ∃ b o, A = some ⟨b, o, none⟩ ∧ D b ∧ b < w.heap.size ∧ w.cell? ⟨b, o + k * 2, none⟩ = some (.int .u64 ((l.getD k (0, 0)).1 : Nat)) ∧ w.cell? ⟨b, o + k * 2 + 1, none⟩ = some (.int .u64 ((l.getD k (0, 0)).2 : Nat)) := by
  obtain ⟨_, A', c', h1, _, _, h2⟩ := h
  obtain ⟨b, o, h3, h4, h6, h5⟩ := h2 (by omega)
  injection h1 with h1
  obtain ⟨g1, g2⟩ := rcells_at l k hk
  exact ⟨b, o, h1.trans h3, h4, h6, h5 _ _ g1, by have := h5 _ _ g2; rw [← Nat.add_assoc] at this; exact this⟩

def CubeCells (w : World) (D : Nat → Prop) (xs : List Value) (l : List (Nat × Nat)) : Prop :=
  ∀ i y n, l[i]? = some (y, n) → ∃ a b, xs[i * 2]? = some a ∧ xs[i * 2 + 1]? = some b ∧ IsSet w D (.agg #[a]) y ∧ IsSet w D (.agg #[b]) n
theorem CubeCells.keep {w w' : World} {D : Nat → Prop} {xs : List Value} {l : List (Nat × Nat)} (h : CubeCells w D xs l) (hsz : w.heap.size ≤ w'.heap.size) (hk : ∀ p : Addr, D p.block → p.block < w.heap.size → w'.cell? p = w.cell? p) : CubeCells w' D xs l := fun i y n hi => by
  obtain ⟨a, b, h1, h2, h3, h4⟩ := h i y n hi
  exact ⟨a, b, h1, h2, h3.keep hsz hk, h4.keep hsz hk⟩
theorem CubeCells.imp {w : World} {D D' : Nat → Prop} {xs : List Value} {l : List (Nat × Nat)} (h : CubeCells w D xs l) (hD : ∀ b, D b → b < w.heap.size → D' b) : CubeCells w D' xs l := fun i y n hi => by
  obtain ⟨a, b, h1, h2, h3, h4⟩ := h i y n hi
  exact ⟨a, b, h1, h2, h3.imp hD, h4.imp hD⟩
theorem CubeCells.ext {w w' : World} {D : Nat → Prop} {xs : List Value} {l : List (Nat × Nat)} (h : CubeCells w D xs l) (hb : Below w.heap.size w w') : CubeCells w' D xs l := h.keep hb.size fun _ _ hp => hb.cell hp
theorem CubeCells.drew {w : World} {D : Nat → Prop} {xs : List Value} {l : List (Nat × Nat)} (h : CubeCells w D xs l) : CubeCells w.drew D xs l := h.keep (Nat.le_refl _) fun _ _ _ => rfl
theorem CubeCells.alloc {w : World} {D : Nat → Prop} {xs : List Value} {l : List (Nat × Nat)} (h : CubeCells w D xs l) (o : Obj) : CubeCells (w.alloc o) D xs l := h.keep (by simp) fun p _ hp => World.cell?_alloc_lt w o p hp
theorem CubeCells.upd {g : Nat} {w w' : World} {D : Nat → Prop} {xs : List Value} {l : List (Nat × Nat)} (h : CubeCells w D xs l) (hU : Upd g w w') (hD : ∀ b, D b → b < w.heap.size → b ≠ g) : CubeCells w' D xs l := h.keep (Nat.le_of_eq hU.size.symm) fun _ h1 h2 => hU.cell (hD _ h1 h2)
theorem CubeCells.nil {w : World} {D : Nat → Prop} : CubeCells w D [] [] := fun i y n h => by simp at h
theorem CubeCells.cubes {w : World} {base : Nat} {v : Value} {xs : List Value} {l : List (Nat × Nat)} {e : TypeId} {D : Nat → Prop} (h : CubeCells w D xs l) (ho : w.ownsRow base e 2 v l.length xs) (hD : ∀ b, base ≤ b → D b) : IsCubes w D v l := ⟨xs, (Sl.of_own ho).imp fun b h1 _ => hD b h1, h⟩
def Small (l : List (Nat × Nat)) : Prop := ∀ z ∈ l, z.1 < T64 ∧ z.2 < T64
theorem Small.at_ {l : List (Nat × Nat)} (h : Small l) (k : Nat) (hk : k < l.length) : (l.getD k (0, 0)).1 < T64 ∧ (l.getD k (0, 0)).2 < T64 := h _ (by rw [List.getD_eq_getElem?_getD, List.getElem?_eq_getElem hk]; exact List.getElem_mem hk)

end Go.Proofs.YtmlkgaiphpimiaaDoor
namespace Go.Proofs.YtmlkgaiphpimiaaDoor
open Go.RowKit
attribute [local go_sem ↓] Go.wp_at_zero Go.wp_at_succ
set_option maxRecDepth 20000

structure RawC where
  a : Nat
  b : Nat
  odd : Bool
def RawC.ok (x : RawC) : Prop := x.a < 256 ∧ x.b < 256
end Go.Proofs.YtmlkgaiphpimiaaDoor
namespace Go.Proofs.YtmlkgaiphpimiaaDoor
open Go.RowKit
attribute [local go_sem ↓] Go.wp_at_zero Go.wp_at_succ
set_option maxRecDepth 20000

structure RawCert where
  prob : Nat
  odd : Nat
  reach : Bool
  plan : List Int
  cubes : List RawC
def RawCert.ok (x : RawCert) : Prop := x.prob < 256 ∧ x.odd < 256 ∧ ∀ c ∈ x.cubes, c.ok
def rawCells (l : List RawC) : List Value := l.flatMap fun c => [.int .u8 (c.a : Nat), .int .u8 (c.b : Nat), .bool c.odd]
def IsRaw (w : World) (D : Nat → Prop) (v : Value) (x : RawCert) : Prop :=
  ∃ pv qv, v = .agg #[.int .u8 (x.prob : Nat), .int .u8 (x.odd : Nat), .bool x.reach, pv, qv] ∧ Sl w D 1 pv x.plan.length (ints x.plan) ∧ Sl w D 3 qv x.cubes.length (rawCells x.cubes)
def cc (prob : List Nat) (r : Bool) (pv qv : Value) : Array Value := (u8s prob ++ [.bool r, pv, qv]).toArray
theorem cc_size (prob : List Nat) (r : Bool) (pv qv : Value) (h : prob.length = 32) : (cc prob r pv qv).size = 35 := by simp [cc, u8s, h]
theorem cc_at (prob : List Nat) (r : Bool) (pv qv : Value) (h : prob.length = 32) : (cc prob r pv qv)[32]? = some (.bool r) ∧ (cc prob r pv qv)[33]? = some pv ∧ (cc prob r pv qv)[34]? = some qv := by
  refine ⟨?_, ?_, ?_⟩ <;> simp [cc, u8s, h, List.getElem?_append]
theorem cc_one (prob : List Nat) (r : Bool) (A A' : Option Addr) (n c n' c' : Nat) : (cc prob r (.slice A n c) (.slice A' n' c')).all (·.oneCell') = true := by
  refine all_oneCell_toArray fun v hv => ?_
  rcases List.mem_append.1 hv with h | h
  · exact u8s_one _ v h
  · simp at h; rcases h with rfl | rfl | rfl <;> rfl
section
variable {w wr w1 w2 : World} {C : Nat} {par z : Array Value} {P : List Nat} {r : Bool} {plan plan' : List Int} {cubes cubes' : List (Nat × Nat)} {pv qv v : Value}
end

end Go.Proofs.YtmlkgaiphpimiaaDoor
namespace Go.Proofs.YtmlkgaiphpimiaaDoor
open Go.RowKit
attribute [local go_sem ↓] Go.wp_at_zero Go.wp_at_succ

end Go.Proofs.YtmlkgaiphpimiaaDoor
namespace Go.Proofs.YtmlkgaiphpimiaaDoor
open Go.RowKit
attribute [local go_sem ↓] Go.wp_at_zero Go.wp_at_succ
set_option maxRecDepth 20000

end Go.Proofs.YtmlkgaiphpimiaaDoor
namespace Go.Proofs.YtmlkgaiphpimiaaDoor
open Go.RowKit
attribute [local go_sem ↓] Go.wp_at_zero Go.wp_at_succ
set_option maxRecDepth 20000

theorem IsCubes.bound {w : World} {D : Nat → Prop} {v : Value} {l : List (Nat × Nat)} (h : IsCubes w D v l) : ∀ z ∈ l, z.1 < 2 ^ 4096 ∧ z.2 < 2 ^ 4096 := by
  intro z hz
  obtain ⟨i, hi, rfl⟩ := List.getElem_of_mem hz
  obtain ⟨xs, _, h2⟩ := h
  obtain ⟨a, b, _, _, h5, h6⟩ := h2 i l[i].1 l[i].2 (by simp [List.getElem?_eq_getElem hi])
  exact ⟨h5.bound, h6.bound⟩

end Go.Proofs.YtmlkgaiphpimiaaDoor
namespace Go.Proofs.YtmlkgaiphpimiaaDoor
open Go.RowKit
attribute [local go_sem ↓] Go.wp_at_zero Go.wp_at_succ
set_option maxRecDepth 20000

end Go.Proofs.YtmlkgaiphpimiaaDoor
namespace Go.Proofs.YtmlkgaiphpimiaaDoor
open Go.RowKit
attribute [local go_sem ↓] Go.wp_at_zero Go.wp_at_succ
set_option maxRecDepth 20000

end Go.Proofs.YtmlkgaiphpimiaaDoor
namespace Go.Proofs.YtmlkgaiphpimiaaDoor
open Go.RowKit
attribute [local go_sem ↓] Go.wp_at_zero Go.wp_at_succ
set_option maxRecDepth 20000

def lew (l : List Nat) (i : Nat) : Nat → Nat
  | 0 => 0
  | n + 1 => (lew l i n * 256) % T64 ||| l.getD (8 * i + (7 - n)) 0
theorem Bytes.getD {l : List Nat} (h : Bytes l) (k : Nat) : l.getD k 0 < 256 := by
  rcases Nat.lt_or_ge k l.length with h1 | h1
  · rw [List.getD_eq_getElem?_getD, List.getElem?_eq_getElem h1]; exact h _ (List.getElem_mem h1)
  · rw [List.getD_eq_getElem?_getD, List.getElem?_eq_none h1]; simp
def absW (a l : List Nat) (i : Nat) : Nat := a.getD i 0 ^^^ lew l i 8
def absorbK (a l : List Nat) : List Nat := perm (mixTo (absW a l) a 17)
end Go.Proofs.YtmlkgaiphpimiaaDoor
namespace Go.Proofs.YtmlkgaiphpimiaaDoor
open Go.RowKit
attribute [local go_sem ↓] Go.wp_at_zero Go.wp_at_succ
set_option maxRecDepth 20000

section
variable {w : World} {h : Nat} {t : TypeId} {st blk : List Nat} {u tot : Nat}
end
def blkOf (l : List Nat) (j : Nat) : List Nat := (l.drop (136 * j)).take 136
def stB (st l : List Nat) : Nat → List Nat
  | 0 => st
  | j + 1 => absorbK (stB st l j) (blkOf l j)
theorem Bytes.take {l : List Nat} (h : Bytes l) (k : Nat) : Bytes (l.take k) := fun x hx => h x (List.mem_of_mem_take hx)
theorem Bytes.drop {l : List Nat} (h : Bytes l) (k : Nat) : Bytes (l.drop k) := fun x hx => h x (List.mem_of_mem_drop hx)
theorem Bytes.append {a b : List Nat} (h : Bytes a) (k : Bytes b) : Bytes (a ++ b) := fun x hx => by rcases List.mem_append.1 hx with h1 | h1; exact h x h1; exact k x h1
theorem WF.row (w : World) (h : Nat) (cs : Array Value) : WF (fun _ => False) h w (w.setRow h cs) :=
  ⟨rfl, rfl, rfl, by simp, fun k _ hq _ => setRow_other w h k cs hq, fun k cs' t fr hk _ h3 => (setRow_other w h k cs hk).trans h3⟩

end Go.Proofs.YtmlkgaiphpimiaaDoor
namespace Go.Proofs.YtmlkgaiphpimiaaDoor
open Go.RowKit
attribute [local go_sem ↓] Go.wp_at_zero Go.wp_at_succ
set_option maxRecDepth 20000

section
variable {w : World} {b : Nat} {t : TypeId} {l : List Nat}
end
end Go.Proofs.YtmlkgaiphpimiaaDoor
namespace Go.Proofs.YtmlkgaiphpimiaaDoor
open Go.RowKit
attribute [local go_sem ↓] Go.wp_at_zero Go.wp_at_succ
set_option maxRecDepth 20000

end Go.Proofs.YtmlkgaiphpimiaaDoor
namespace Go.Proofs.YtmlkgaiphpimiaaDoor
open Go.RowKit
attribute [local go_sem ↓] Go.wp_at_zero Go.wp_at_succ
set_option maxRecDepth 20000

end Go.Proofs.YtmlkgaiphpimiaaDoor
namespace Go.Proofs.YtmlkgaiphpimiaaDoor
open Go.RowKit
attribute [local go_sem ↓] Go.wp_at_zero Go.wp_at_succ
set_option maxRecDepth 20000

theorem IsCert.of {w : World} {D : Nat → Prop} {prob : List Nat} {r : Bool} {pv qv : Value} {plan : List Int} {cubes : List (Nat × Nat)} (h1 : prob.length = 32) (h2 : Bytes prob) (hp : Sl w D 1 pv plan.length (ints plan)) (hq : IsCubes w D qv cubes) :
    IsCert w D (.agg (u8s prob ++ [.bool r, pv, qv]).toArray) ⟨prob, r, plan, cubes⟩ := by
  have hl : (u8s prob).length = 32 := by rw [u8s_length, h1]
  refine ⟨_, pv, qv, rfl, by simp [hl], h1, h2, fun i hi => ?_, ?_, ?_, ?_, hp, hq⟩
  · rw [List.getElem?_toArray, List.getElem?_append_left (by omega)]; exact u8s_at _ _ (by omega)
  · rw [List.getElem?_toArray, List.getElem?_append_right (by omega), hl]; rfl
  · rw [List.getElem?_toArray, List.getElem?_append_right (by omega), hl]; rfl
  · rw [List.getElem?_toArray, List.getElem?_append_right (by omega), hl]; rfl

end Go.Proofs.YtmlkgaiphpimiaaDoor
namespace Go.Proofs.YtmlkgaiphpimiaaDoor
open Go.RowKit
attribute [local go_sem ↓] Go.wp_at_zero Go.wp_at_succ
set_option maxRecDepth 20000

def IsRCert (w : World) (D : Nat → Prop) (v : Value) (c : CertD) : Prop :=
  ∃ pv qv, v = .agg (cc c.prob c.reach pv qv) ∧ c.prob.length = 32 ∧ Bytes c.prob ∧ Sl w D 1 pv c.plan.length (ints c.plan) ∧ RCubes w D qv c.cubes
theorem IsRCert.keep {w w' : World} {D : Nat → Prop} {v : Value} {c : CertD} (h : IsRCert w D v c) (hsz : w.heap.size ≤ w'.heap.size) (hk : ∀ p : Addr, D p.block → p.block < w.heap.size → w'.cell? p = w.cell? p) : IsRCert w' D v c := by
  obtain ⟨pv, qv, h1, h2, h3, h4, h5⟩ := h
  exact ⟨pv, qv, h1, h2, h3, h4.keep hsz hk, h5.keep hsz hk⟩
theorem IsRCert.imp {w : World} {D D' : Nat → Prop} {v : Value} {c : CertD} (h : IsRCert w D v c) (hD : ∀ b, D b → b < w.heap.size → D' b) : IsRCert w D' v c := by
  obtain ⟨pv, qv, h1, h2, h3, h4, h5⟩ := h
  exact ⟨pv, qv, h1, h2, h3, h4.imp hD, h5.imp hD⟩
theorem IsRCert.ext {w w' : World} {D : Nat → Prop} {v : Value} {c : CertD} (h : IsRCert w D v c) (hb : Below w.heap.size w w') : IsRCert w' D v c := h.keep hb.size fun _ _ hp => hb.cell hp
theorem IsRCert.drew {w : World} {D : Nat → Prop} {v : Value} {c : CertD} (h : IsRCert w D v c) : IsRCert w.drew D v c := h.keep (Nat.le_refl _) fun _ _ _ => rfl
theorem IsRCert.alloc {w : World} {D : Nat → Prop} {v : Value} {c : CertD} (h : IsRCert w D v c) (o : Obj) : IsRCert (w.alloc o) D v c := h.keep (by simp) fun p _ hp => World.cell?_alloc_lt w o p hp
theorem IsRCert.upd {g : Nat} {w w' : World} {D : Nat → Prop} {v : Value} {c : CertD} (h : IsRCert w D v c) (hU : Upd g w w') (hD : ∀ b, D b → b < w.heap.size → b ≠ g) : IsRCert w' D v c := h.keep (Nat.le_of_eq hU.size.symm) fun _ h1 h2 => hU.cell (hD _ h1 h2)
end Go.Proofs.YtmlkgaiphpimiaaDoor
namespace Go.Proofs.YtmlkgaiphpimiaaDoor
open Go.RowKit
attribute [local go_sem ↓] Go.wp_at_zero Go.wp_at_succ
set_option maxRecDepth 20000

theorem sleq_any (u v : Value) (l m : List Int) (w : World) (D E : Nat → Prop) (hu : Sl w D 1 u l.length (ints l)) (hv : Sl w E 1 v m.length (ints m)) :
    Calls Tryd.prog 19 #[u, v] w (Ret (fun x _ => x = .bool (l == m)) w) := by
  obtain ⟨A, c, rfl, h1, h2⟩ := hu.shape
  obtain ⟨A', c', rfl, h3, h4⟩ := hv.shape
  by_cases hlen : l.length = m.length
  · rcases Nat.eq_zero_or_pos l.length with h0 | h0
    · obtain rfl : l = [] := List.eq_nil_of_length_eq_zero h0
      obtain rfl : m = [] := List.eq_nil_of_length_eq_zero (by simpa using hlen.symm)
      refine (Tryd.slices_Equal_int_empty A A' c 0 c' w (by omega)).mono ?_
      rintro e w' ⟨rfl, rfl⟩
      exact Ret.mk rfl (Below.refl _ _)
    · obtain ⟨b, o, rfl, _, _, hc⟩ := hu.int (k := 0) h0
      obtain ⟨b', o', rfl, _, _, hc'⟩ := hv.int (k := 0) (by omega)
      refine (Tryd.slices_Equal_int b o l.length c b' o' m.length c' l m w (Nat.le_refl _) (Nat.le_refl _) (by omega) (by omega) hc hc').mono ?_
      rintro e w' ⟨rfl, q, rfl⟩
      rw [List.take_length, List.take_length]
      exact Ret.mk rfl (bel_drewN (Below.refl _ _) _)
  · refine (Tryd.slices_Equal_int_lens A A' l.length c m.length c' w hlen).mono ?_
    rintro e w' ⟨rfl, rfl⟩
    refine Ret.mk ?_ (Below.refl _ _)
    have : (l == m) = false := by rw [beq_eq_false_iff_ne]; rintro rfl; exact hlen rfl
    rw [this]

end Go.Proofs.YtmlkgaiphpimiaaDoor
namespace Go.Proofs.YtmlkgaiphpimiaaDoor
open Go.RowKit
attribute [local go_sem ↓] Go.wp_at_zero Go.wp_at_succ
set_option maxRecDepth 20000
set_option exponentiation.threshold 5000

theorem sl_pair {w : World} {D : Nat → Prop} {n c b o j : Nat} {L : List (Nat × Nat)} (h : Sl w D 2 (.slice (some ⟨b, o, none⟩) n c) n (pcells L)) (hj : j < L.length) : w.rangeAt b (o + j * 2) [.int .i64 ((L.getD j (0, 0)).1 : Nat), .int .i64 ((L.getD j (0, 0)).2 : Nat)] := fun i v hi => by
  obtain ⟨h1, h2⟩ := pcells_at L j hj
  match i, hi with
  | 0, hi =>
    obtain rfl := Option.some.inj (show some _ = some v from hi)
    have h3 := sl_cell (o := o) (b := b) (xs := pcells L) h h1
    exact h3
  | 1, hi =>
    obtain rfl := Option.some.inj (show some _ = some v from hi)
    have h3 := sl_cell (o := o) (b := b) (xs := pcells L) h h2
    rw [← Nat.add_assoc] at h3
    exact h3
  | i + 2, hi => simp at hi
theorem peq_any {w0 : World} {D E : Nat → Prop} {u v : Value} {L M : List (Nat × Nat)} (hu : Sl w0 D 2 u L.length (pcells L)) (hv : Sl w0 E 2 v M.length (pcells M)) (hl : L.length ≤ 1000000) :
    Calls Tryd.prog 30 #[u, v] w0 (Ret (fun x _ => x = .bool (decide (L = M))) w0) := by
  obtain ⟨A, c, rfl, _, _⟩ := hu.shape
  obtain ⟨B, d, rfl, _, _⟩ := hv.shape
  obtain ⟨K, k1, k2, hS⟩ : ∃ K : (Nat → Prop) → World → Prop, (∀ D w, K D w → Sl w D 2 (.slice A L.length c) L.length (pcells L)) ∧ (∀ D w, K D w → Sl w D 2 (.slice B M.length d) M.length (pcells M)) ∧ St w0 w0 [] K := ⟨_, fun _ _ h => h.1, fun _ _ h => h.2, St.start (D := fun _ => True) ((stable_sl (by decide)).and (stable_sl (by decide))) ⟨hu.imp fun _ _ _ => trivial, hv.imp fun _ _ _ => trivial⟩⟩
  clear hu hv
  by_cases hlm : L.length = M.length
  · have HE : Hid ((∀ t, t < L.length → L.getD t (0, 0) = M.getD t (0, 0)) → L = M) := Lib.hid fun h => List.ext_getElem hlm fun i h1 h2 => by
      have := h i h1
      rwa [List.getD_eq_getElem?_getD, List.getD_eq_getElem?_getD, List.getElem?_eq_getElem h1, List.getElem?_eq_getElem h2] at this
    go_enter Tryd.func30, Tryd.ntmps30
    go_wp2_with (first | ((with_reducible show wpList _ _ _ (⟨_, .binOp _ _ _ _ _, _, _, _, _⟩ :: _) _ _); (first | (refine st_lss rfl _ _ _ _ rfl _ _ _ rfl rfl (fun h_ => ?_) (fun h_ => ?_)) | (refine st_leq rfl _ _ _ _ rfl _ _ _ rfl rfl (fun h_ => ?_) (fun h_ => ?_)) | (refine st_gtr rfl _ _ _ _ rfl _ _ _ rfl rfl (fun h_ => ?_) (fun h_ => ?_)) | (refine st_geq rfl _ _ _ _ rfl _ _ _ rfl rfl (fun h_ => ?_) (fun h_ => ?_)) | (refine st_eql rfl _ _ _ _ rfl _ _ _ rfl rfl (fun h_ => ?_) (fun h_ => ?_)) | (refine st_neq rfl _ _ _ _ rfl _ _ _ rfl rfl (fun h_ => ?_) (fun h_ => ?_))) <;> go_prune))
    go_loopw [13] (fun i wr => ∃ j : Nat, j ≤ L.length ∧ i = .int .i64 (j : Nat) ∧ Hid (∀ t, t < j → L.getD t (0, 0) = M.getD t (0, 0)) ∧ St w0 wr [] K) (fun i _ => L.length - (intOf i).toNat)
    case atStart => exact ⟨0, by omega, rfl, Lib.hid (fun t h => absurd h (by omega)), hS⟩
    case round =>
      clear hS
      obtain ⟨j, hj, rfl, HJ, hS⟩ := hrel
      by_cases hlj : j < L.length
      · have hmj : j < M.length := by omega
        obtain ⟨b1, o1, rfl⟩ : ∃ b o, A = some ⟨b, o, none⟩ := by
          obtain ⟨_, A2, c2, e2, _, _, h5⟩ := k1 _ _ hS.ro
          obtain ⟨b, o, h6, _⟩ := h5 (by omega)
          injection e2 with e2
          exact ⟨b, o, e2.trans h6⟩
        obtain ⟨b2, o2, rfl⟩ : ∃ b o, B = some ⟨b, o, none⟩ := by
          obtain ⟨_, A2, c2, e2, _, _, h5⟩ := k2 _ _ hS.ro
          obtain ⟨b, o, h6, _⟩ := h5 (by omega)
          injection e2 with e2
          exact ⟨b, o, e2.trans h6⟩
        have p1 := Lib.hid (fun (w : World) (h : K (Free []) w) => sl_pair (k1 _ _ h) hlj)
        have p2 := Lib.hid (fun (w : World) (h : K (Free []) w) => sl_pair (k2 _ _ h) hmj)
        have HJ2 : Hid (L.getD j (0, 0) = M.getD j (0, 0) → ∀ t, t < j + 1 → L.getD t (0, 0) = M.getD t (0, 0)) := Lib.hid fun h t ht => if e : t = j then e ▸ h else HJ.out t (by omega)
        have HNE : Hid (L.getD j (0, 0) ≠ M.getD j (0, 0) → ¬ L = M) := Lib.hid fun h e => h (by rw [e])
        generalize L.getD j (0, 0) = x at *
        generalize M.getD j (0, 0) = y at *
        go_wp2_with (first | ((with_reducible show wpList _ _ _ (⟨_, .binOp _ _ _ _ _, _, _, _, _⟩ :: _) _ _); (first | (refine st_lss rfl _ _ _ _ rfl _ _ _ rfl rfl (fun h_ => ?_) (fun h_ => ?_)) | (refine st_leq rfl _ _ _ _ rfl _ _ _ rfl rfl (fun h_ => ?_) (fun h_ => ?_)) | (refine st_gtr rfl _ _ _ _ rfl _ _ _ rfl rfl (fun h_ => ?_) (fun h_ => ?_)) | (refine st_geq rfl _ _ _ _ rfl _ _ _ rfl rfl (fun h_ => ?_) (fun h_ => ?_)) | (refine st_eql rfl _ _ _ _ rfl _ _ _ rfl rfl (fun h_ => ?_) (fun h_ => ?_)) | (refine st_neq rfl _ _ _ _ rfl _ _ _ rfl rfl (fun h_ => ?_) (fun h_ => ?_))) <;> go_prune))
        refine wp_region_typed (fun i__ v w => match i__ with
          | 0 => v = .slice (some ⟨b1, o1, none⟩) M.length c
          | 1 => v = .int .i64 ((j : Nat) : Int)
          | 2 => v = .pointer (some ⟨b1, o1 + (j) * 2, none⟩)
          | 3 => v = .agg #[.int .i64 ((x.1 : Nat) : Int), .int .i64 ((x.2 : Nat) : Int)]
          | 4 => v = .slice (some ⟨b2, o2, none⟩) M.length d
          | 5 => v = .int .i64 ((j : Nat) : Int)
          | 6 => v = .pointer (some ⟨b2, o2 + (j) * 2, none⟩)
          | 7 => v = .agg #[.int .i64 ((y.1 : Nat) : Int), .int .i64 ((y.2 : Nat) : Int)]
          | 8 => v = .bool (decide (x ≠ y))
          | _ => True) (by kernel_rfl) (by kernel_rfl) ?mono ⟨?r0, ?r1, ?r2, ?r3, ?r4, ?r5, ?r6, ?r7, ?r8, trivial⟩ ?post
        case mono =>
          intro i v w w' h hb
          match i, h with
          | 0, h => exact h
          | 1, h => exact h
          | 2, h => exact h
          | 3, h => exact h
          | 4, h => exact h
          | 5, h => exact h
          | 6, h => exact h
          | 7, h => exact h
          | 8, h => exact h
          | _ + 9, h => trivial
        case r0 =>
          refine trule fun b__ w hW hold hpre => ⟨fun hwant K hK => ?_, fun hwant => ?_⟩
          · clear hwant
            have e0 : b__.eval (.tmp 0) = .slice (some ⟨b1, o1, none⟩) M.length c := (hold 0 (by kernel_rfl)).trans rfl
            exact opw_move rfl e0 (hK _ _ rfl (Below.refl _ _))
          · rw [want_none rfl] at hwant; cases hwant
        case r1 =>
          refine trule fun b__ w hW hold hpre => ⟨fun hwant K hK => ?_, fun hwant => ?_⟩
          · clear hwant
            have e5 : b__.eval (.tmp 5) = .int .i64 ((j : Nat) : Int) := (hold 5 (by kernel_rfl)).trans rfl
            exact opw_move rfl e5 (hK _ _ rfl (Below.refl _ _))
          · rw [want_none rfl] at hwant; cases hwant
        case r2 =>
          refine trule fun b__ w hW hold hpre => ⟨fun hwant K hK => ?_, fun hwant => ?_⟩
          · clear hwant
            have e16 : b__.eval (.tmp 16) = .slice (some ⟨b1, o1, none⟩) M.length c := hpre ⟨0, _⟩ (Array.mem_of_getElem? (i := 0) rfl) rfl _ _ rfl rfl
            have e17 : b__.eval (.tmp 17) = .int .i64 ((j : Nat) : Int) := hpre ⟨1, _⟩ (Array.mem_of_getElem? (i := 1) rfl) rfl _ _ rfl rfl
            exact opw_iaddr rfl e16 e17 (run_iaddr_lit (m := j) Tryd.underlying25 (by kernel_rfl) (by omega) (by omega)) (hK _ _ rfl (Below.refl _ _))
          · rw [want_none rfl] at hwant; cases hwant
        case r3 =>
          refine trule fun b__ w hW hold hpre => ⟨fun hwant K hK => ?_, fun hwant => ?_⟩
          · clear hwant
            have e18 : b__.eval (.tmp 18) = .pointer (some ⟨b1, o1 + (j) * 2, none⟩) := hpre ⟨2, _⟩ (Array.mem_of_getElem? (i := 0) rfl) rfl _ _ rfl rfl
            exact opw_mid (cs := [_, _]) rfl e18 (p1.out _ (hS.ext (undrew hW)).ro) Tryd.underlying50 rfl (by kernel_rfl) (hK _ _ rfl (Below.refl _ _))
          · rw [want_none rfl] at hwant; cases hwant
        case r4 =>
          refine trule fun b__ w hW hold hpre => ⟨fun hwant K hK => ?_, fun hwant => ?_⟩
          · clear hwant
            have e1 : b__.eval (.tmp 1) = .slice (some ⟨b2, o2, none⟩) M.length d := (hold 1 (by kernel_rfl)).trans rfl
            exact opw_move rfl e1 (hK _ _ rfl (Below.refl _ _))
          · rw [want_none rfl] at hwant; cases hwant
        case r5 =>
          refine trule fun b__ w hW hold hpre => ⟨fun hwant K hK => ?_, fun hwant => ?_⟩
          · clear hwant
            have e5 : b__.eval (.tmp 5) = .int .i64 ((j : Nat) : Int) := (hold 5 (by kernel_rfl)).trans rfl
            exact opw_move rfl e5 (hK _ _ rfl (Below.refl _ _))
          · rw [want_none rfl] at hwant; cases hwant
        case r6 =>
          refine trule fun b__ w hW hold hpre => ⟨fun hwant K hK => ?_, fun hwant => ?_⟩
          · clear hwant
            have e20 : b__.eval (.tmp 20) = .slice (some ⟨b2, o2, none⟩) M.length d := hpre ⟨4, _⟩ (Array.mem_of_getElem? (i := 0) rfl) rfl _ _ rfl rfl
            have e21 : b__.eval (.tmp 21) = .int .i64 ((j : Nat) : Int) := hpre ⟨5, _⟩ (Array.mem_of_getElem? (i := 1) rfl) rfl _ _ rfl rfl
            exact opw_iaddr rfl e20 e21 (run_iaddr_lit (m := j) Tryd.underlying25 (by kernel_rfl) (by omega) (by omega)) (hK _ _ rfl (Below.refl _ _))
          · rw [want_none rfl] at hwant; cases hwant
        case r7 =>
          refine trule fun b__ w hW hold hpre => ⟨fun hwant K hK => ?_, fun hwant => ?_⟩
          · clear hwant
            have e22 : b__.eval (.tmp 22) = .pointer (some ⟨b2, o2 + (j) * 2, none⟩) := hpre ⟨6, _⟩ (Array.mem_of_getElem? (i := 0) rfl) rfl _ _ rfl rfl
            exact opw_mid (cs := [_, _]) rfl e22 (p2.out _ (hS.ext (undrew hW)).ro) Tryd.underlying50 rfl (by kernel_rfl) (hK _ _ rfl (Below.refl _ _))
          · rw [want_none rfl] at hwant; cases hwant
        case r8 =>
          refine trule fun b__ w hW hold hpre => ⟨fun hwant K hK => ?_, fun hwant => ?_⟩
          · clear hwant
            have e19 : b__.eval (.tmp 19) = .agg #[.int .i64 ((x.1 : Nat) : Int), .int .i64 ((x.2 : Nat) : Int)] := hpre ⟨3, _⟩ (Array.mem_of_getElem? (i := 0) rfl) rfl _ _ rfl rfl
            have e23 : b__.eval (.tmp 23) = .agg #[.int .i64 ((y.1 : Nat) : Int), .int .i64 ((y.2 : Nat) : Int)] := hpre ⟨7, _⟩ (Array.mem_of_getElem? (i := 1) rfl) rfl _ _ rfl rfl
            exact opw_bin (vx := .agg #[.int .i64 ((x.1 : Nat) : Int), .int .i64 ((x.2 : Nat) : Int)]) (vy := .agg #[.int .i64 ((y.1 : Nat) : Int), .int .i64 ((y.2 : Nat) : Int)]) (v := .bool (decide (x ≠ y))) rfl e19 e23 rfl (ne_pairs _ _ _) (hK _ _ rfl (Below.refl _ _))
          · rw [want_none rfl] at hwant; cases hwant
        case post =>
          intro b__ wz hW hdf hsz hold hT
          have e16 : b__.eval (.tmp 16) = .slice (some ⟨b1, o1, none⟩) M.length c := hT 0 _ 16 rfl rfl
          have e17 : b__.eval (.tmp 17) = .int .i64 ((j : Nat) : Int) := hT 1 _ 17 rfl rfl
          have e18 : b__.eval (.tmp 18) = .pointer (some ⟨b1, o1 + (j) * 2, none⟩) := hT 2 _ 18 rfl rfl
          have e19 : b__.eval (.tmp 19) = .agg #[.int .i64 ((x.1 : Nat) : Int), .int .i64 ((x.2 : Nat) : Int)] := hT 3 _ 19 rfl rfl
          have e20 : b__.eval (.tmp 20) = .slice (some ⟨b2, o2, none⟩) M.length d := hT 4 _ 20 rfl rfl
          have e21 : b__.eval (.tmp 21) = .int .i64 ((j : Nat) : Int) := hT 5 _ 21 rfl rfl
          have e22 : b__.eval (.tmp 22) = .pointer (some ⟨b2, o2 + (j) * 2, none⟩) := hT 6 _ 22 rfl rfl
          have e23 : b__.eval (.tmp 23) = .agg #[.int .i64 ((y.1 : Nat) : Int), .int .i64 ((y.2 : Nat) : Int)] := hT 7 _ 23 rfl rfl
          have e24 : b__.eval (.tmp 24) = .bool (decide (x ≠ y)) := hT 8 _ 24 rfl rfl
          obtain ⟨vs, hvs, hb⟩ := frame_of hdf hsz hold
          replace e16 : vs 16 = .slice (some ⟨b1, o1, none⟩) M.length c := (hvs 16).symm.trans e16
          replace e17 : vs 17 = .int .i64 ((j : Nat) : Int) := (hvs 17).symm.trans e17
          replace e18 : vs 18 = .pointer (some ⟨b1, o1 + (j) * 2, none⟩) := (hvs 18).symm.trans e18
          replace e19 : vs 19 = .agg #[.int .i64 ((x.1 : Nat) : Int), .int .i64 ((x.2 : Nat) : Int)] := (hvs 19).symm.trans e19
          replace e20 : vs 20 = .slice (some ⟨b2, o2, none⟩) M.length d := (hvs 20).symm.trans e20
          replace e21 : vs 21 = .int .i64 ((j : Nat) : Int) := (hvs 21).symm.trans e21
          replace e22 : vs 22 = .pointer (some ⟨b2, o2 + (j) * 2, none⟩) := (hvs 22).symm.trans e22
          replace e23 : vs 23 = .agg #[.int .i64 ((y.1 : Nat) : Int), .int .i64 ((y.2 : Nat) : Int)] := (hvs 23).symm.trans e23
          replace e24 : vs 24 = .bool (decide (x ≠ y)) := (hvs 24).symm.trans e24
          subst hb
          clear hvs hold hT hdf hsz
          simp only [setAll, Act.put, List.setIfInBounds_toArray, List.set_cons_zero, List.set_cons_succ, List.getElem_toArray, List.getElem_cons_succ, List.getElem_cons_zero]
          rw [e24]
          replace hS := hS.ext hW
          by_cases hxy : x = y
          · have H3 := Lib.hid (HJ2.out hxy)
            rw [decide_eq_false (by simp [hxy])]
            clear hW e16 e17 e18 e19 e20 e21 e22 e23 e24 hxy
            go_wp2_with fail
            exact ⟨⟨j + 1, hlj, by go_num, H3, hS⟩, by simp [intOf]; omega⟩
          · have H3 := Lib.hid (HNE.out hxy)
            rw [decide_eq_true hxy]
            clear hW e16 e17 e18 e19 e20 e21 e22 e23 e24 hxy
            go_wp2_with fail
            go_ret
            exact Ret.mk (congrArg Value.bool (decide_eq_false H3.out).symm) hS.below
      · obtain rfl : j = L.length := by omega
        have H3 := Lib.hid (HE.out HJ.out)
        go_wp2_with (first | ((with_reducible show wpList _ _ _ (⟨_, .binOp _ _ _ _ _, _, _, _, _⟩ :: _) _ _); (first | (refine st_lss rfl _ _ _ _ rfl _ _ _ rfl rfl (fun h_ => ?_) (fun h_ => ?_)) | (refine st_leq rfl _ _ _ _ rfl _ _ _ rfl rfl (fun h_ => ?_) (fun h_ => ?_)) | (refine st_gtr rfl _ _ _ _ rfl _ _ _ rfl rfl (fun h_ => ?_) (fun h_ => ?_)) | (refine st_geq rfl _ _ _ _ rfl _ _ _ rfl rfl (fun h_ => ?_) (fun h_ => ?_)) | (refine st_eql rfl _ _ _ _ rfl _ _ _ rfl rfl (fun h_ => ?_) (fun h_ => ?_)) | (refine st_neq rfl _ _ _ _ rfl _ _ _ rfl rfl (fun h_ => ?_) (fun h_ => ?_))) <;> go_prune))
        go_ret
        exact Ret.mk (congrArg Value.bool (decide_eq_true H3.out).symm) hS.below
  · have HE : Hid (¬ L = M) := Lib.hid fun e => hlm (by rw [e])
    have hlm2 : ¬ ((L.length : Nat) : Int) = ((M.length : Nat) : Int) := by omega
    go_enter Tryd.func30, Tryd.ntmps30
    go_wp2_with (first | ((with_reducible show wpList _ _ _ (⟨_, .binOp _ _ _ _ _, _, _, _, _⟩ :: _) _ _); (first | (refine st_lss rfl _ _ _ _ rfl _ _ _ rfl rfl (fun h_ => ?_) (fun h_ => ?_)) | (refine st_leq rfl _ _ _ _ rfl _ _ _ rfl rfl (fun h_ => ?_) (fun h_ => ?_)) | (refine st_gtr rfl _ _ _ _ rfl _ _ _ rfl rfl (fun h_ => ?_) (fun h_ => ?_)) | (refine st_geq rfl _ _ _ _ rfl _ _ _ rfl rfl (fun h_ => ?_) (fun h_ => ?_)) | (refine st_eql rfl _ _ _ _ rfl _ _ _ rfl rfl (fun h_ => ?_) (fun h_ => ?_)) | (refine st_neq rfl _ _ _ _ rfl _ _ _ rfl rfl (fun h_ => ?_) (fun h_ => ?_))) <;> go_prune))
    go_ret
    exact Ret.mk (congrArg Value.bool (decide_eq_false HE.out).symm) hS.below
theorem LinkP.next {w0 w : World} {F : List Fact} {K : (Nat → Prop) → World → Prop} {L M : List (Nat × Nat)} {x : Nat × Nat} {r : Value} {z : Int} (h : LinkP w0 F K L (x.1 : Nat) (x.2 : Nat) r z w) {j : Nat} (hx : M[j]? = some x) (hL : ∀ u, u ∈ L ↔ u ∈ M.take j) (hN : M.Nodup) (hR : ∀ u ∈ M, (1 ≤ u.1 ∧ u.1 < 64) ∧ 1 ≤ u.2 ∧ u.2 < 64) (hA : Acyc M) :
    z = 0 ∧ ∃ L', HOK L' ∧ (∀ u, u ∈ L' ↔ u ∈ M.take (j + 1)) ∧ St w0 w F fun D w => K D w ∧ IsH w D r L' := by
  have hm := List.mem_of_getElem? hx
  have h1 := hR x hm
  have hne := hA.ne hm
  have htk : ∀ u, u ∈ M.take (j + 1) ↔ u ∈ L ++ [x] := fun u => by
    rw [List.take_add_one, hx, List.mem_append, List.mem_append, hL]; simp
  rcases h with ⟨h, _⟩ | ⟨a, b, ha, hb, _, _, _, h⟩
  · exact absurd ⟨⟨by omega, by omega⟩, ⟨by omega, by omega⟩, by omega⟩ h
  · obtain rfl : x = (a, b) := Prod.ext (by show x.1 = a; omega) (by show x.2 = b; omega)
    rcases h with ⟨h, _⟩ | ⟨_, h, _⟩ | ⟨_, hz, L', h3, h4, h5⟩
    · exfalso
      obtain ⟨i, hi, e⟩ := List.getElem_of_mem ((hL _).1 h)
      rw [List.length_take] at hi
      obtain ⟨hj, ej⟩ := List.getElem?_eq_some_iff.1 hx
      rw [List.getElem_take] at e
      exact List.pairwise_iff_getElem.1 hN i j (by omega) hj (by omega) (e.trans ej.symm)
    · exact absurd (hA.sub fun u hu => List.mem_of_mem_take ((htk u).2 hu)) h
    · exact ⟨hz, L', h3, fun u => (h4 u).trans (htk u).symm, h5⟩
end Go.Proofs.YtmlkgaiphpimiaaDoor
namespace Go.Proofs.YtmlkgaiphpimiaaDoor
open Go.RowKit
attribute [local go_sem ↓] Go.wp_at_zero Go.wp_at_succ
set_option maxRecDepth 20000
set_option exponentiation.threshold 5000

theorem nodup_le : ∀ {T S : List (Nat × Nat)}, T.Nodup → (∀ y ∈ T, y ∈ S) → T.length ≤ S.length
  | [], _, _, _ => by simp
  | t :: T, S, hT, hs => by
    have hT := List.nodup_cons.1 hT
    have ht := hs t (List.mem_cons_self ..)
    have := nodup_le (T := T) (S := S.erase t) hT.2 fun y hy => (List.mem_erase_of_ne (fun e => hT.1 (by rw [← e]; exact hy))).2 (hs y (List.mem_cons_of_mem _ hy))
    rw [List.length_erase_of_mem ht] at this
    have := List.length_pos_of_mem ht
    rw [List.length_cons]
    omega
def Part (M : List (Nat × Nat)) (j : Nat) (L : List (Nat × Nat)) : Prop := HOK L ∧ ∀ u, u ∈ L ↔ u ∈ M.take j
theorem Part.len {M L : List (Nat × Nat)} {j : Nat} (h : Part M j L) : L.length ≤ M.length := nodup_le h.1.asc.nodup fun y hy => List.mem_of_mem_take ((h.2 y).1 hy)
theorem Part.full {M L : List (Nat × Nat)} (h : Part M M.length L) (hM : Asc M) : L = M := Asc.uniq h.1.asc hM fun u => by rw [h.2, List.take_length]
end Go.Proofs.YtmlkgaiphpimiaaDoor
namespace Go.Proofs.YtmlkgaiphpimiaaDoor
open Go.RowKit
attribute [local go_sem ↓] Go.wp_at_zero Go.wp_at_succ
set_option maxRecDepth 20000
set_option exponentiation.threshold 5000

theorem st_litw {P : Program} {ops : Array Oper} {rest : List Oper} {o : Oper} {a : Act} {Q : Exit → Act → World → Prop} {w0 w : World} {F : List Fact} {K : (Nat → Prop) → World → Prop} (h : St w0 w F K) (hg : Region.wanted o (yielded ops a.tmps) = true) (t e : TypeId) (len : Nat) (parts : Array (Nat × Operand)) (ho : o.op = .buildSlice t len parts) (ht : P.underlying t = some (.slice e)) (cells : Array Value)
    (hb : builtSlice P e len (parts.map fun (i, x) => (i, a.eval x)).toList = some cells) (size : Nat) (hs : cells.size = len * size) (hm : len ≤ 1000000000000)
    (hk : ∀ g w', St w0 w' (.own (.slice (some ⟨g, 0, none⟩) len len) e size len cells.toList :: F) K → wpList P ops Q rest (a.put o.dst (.slice (some ⟨g, 0, none⟩) len len)) w') : wpList P ops Q (o :: rest) a w :=
  BigFrame.wpList_want hg fun _ hK => opw_slice ho ht rfl hb fun w' hX hB => hK _ _ (hk _ w' (h.new hB _ ⟨by simpa using hs, .inr ⟨w.heap.size, len, cells, rfl, Nat.le_refl _, hX, Nat.le_refl _, by unfold maxLen; omega, hs, by rw [← hs, show cells.size = cells.toList.length by simp, List.take_length]⟩⟩))
def T3 : List (Nat × Nat) := [(1, 2), (1, 3), (2, 3)]
def M3 : List (Nat × Nat) := [(1, 2), (2, 3), (1, 3)]
theorem acyc_up {L : List (Nat × Nat)} (h : ∀ x ∈ L, x.1 < x.2) : Acyc L := by
  have key : ∀ {a b : Nat}, TC L a b → a < b := by
    intro a b k
    induction k with
    | one h1 => exact h _ h1
    | cons h1 _ ih => exact Nat.lt_trans (h _ h1) ih
  exact fun a ha => Nat.lt_irrefl _ (key ha)
theorem t3_hok : HOK T3 := by
  refine ⟨?_, ?_, acyc_up ?_⟩
  · unfold Asc T3 plt; simp
  · unfold T3; simp
  · unfold T3; simp
theorem m3_acyc : Acyc M3 := acyc_up (by unfold M3; simp)
theorem t3_part {L : List (Nat × Nat)} (h : Part M3 3 L) : L = T3 := Asc.uniq h.1.asc t3_hok.asc fun u => by
  rw [h.2]; unfold M3 T3; simp; constructor
  · rintro (h | h | h) <;> simp [h]
  · rintro (h | h | h) <;> simp [h]
theorem t3_chain {l : List Nat} {c : Bool} (h : ChainP T3 1 3 l c) : l = [1, 3] ∧ c = true := by
  have h13 : (1, 3) ∈ T3 := by unfold T3; simp
  rcases h with ⟨_, _, h⟩ | ⟨h, i, j, d, e1, e2, _, _, hd, hl⟩
  · exact absurd ⟨1, 3, rfl, rfl, by omega, by omega, .inr (.one h13)⟩ h
  · obtain rfl : i = 1 := by omega
    obtain rfl : j = 3 := by omega
    have h1 : isDist T3 3 1 1 := ⟨⟨3, h13, rfl⟩, fun k hk hw => by
      obtain rfl : k = 0 := by omega
      exact absurd (show 1 = 3 from hw) (by decide)⟩
    obtain rfl := isDist_uniq hd h1
    refine ⟨?_, h⟩
    rw [hl, gp_first (L := T3) (b := 3) (v := 1) (d := 0) (t := 1) (x := (1, 3)) rfl rfl (show isDist T3 3 3 0 from ⟨rfl, fun k hk => absurd hk (Nat.not_lt_zero _)⟩) fun s hs y hy hc => ?_]
    · rfl
    · obtain rfl : s = 0 := by omega
      cases hy
      exact absurd (show 2 = 3 from hc.2.1) (by decide)
theorem t3_link {w0 w : World} {F : List Fact} {K : (Nat → Prop) → World → Prop} {r : Value} {z : Int} (h : LinkP w0 F K T3 3 1 r z w) : r = .pointer none ∧ z = 16 ∧ St w0 w F K := by
  rcases h with ⟨h, _⟩ | ⟨x, y, hx, hy, _, _, _, h⟩
  · exact absurd ⟨⟨by omega, by omega⟩, ⟨by omega, by omega⟩, by omega⟩ h
  · obtain rfl : x = 3 := by omega
    obtain rfl : y = 1 := by omega
    rcases h with ⟨h, _⟩ | ⟨_, _, h1, h2, h3⟩ | ⟨_, _, L', h1, h2, _⟩
    · exact absurd h (by unfold T3; decide)
    · exact ⟨h1, h2, h3⟩
    · exfalso
      have h3 : (3, 1) ∈ L' := (h2 _).2 (by simp)
      have h4 : (1, 3) ∈ L' := (h2 _).2 (by unfold T3; simp)
      exact h1.acyc 3 (.cons h3 (.one h4))
theorem t3_tc {a b : Nat} : TC T3 a b ↔ (a, b) ∈ T3 := by
  constructor
  · intro h
    induction h with
    | one h => exact h
    | @cons a b c h _ ih =>
      unfold T3 at *
      simp only [List.mem_cons, Prod.mk.injEq, List.not_mem_nil, or_false] at *
      omega
  · exact .one
theorem t3_jun : junM T3 1 = 14 := mask_ext fun i => by
  rw [tb_jun t3_hok.inr (by omega), t3_tc]
  constructor
  · rintro (rfl | h)
    · decide
    · unfold T3 at h
      simp only [List.mem_cons, Prod.mk.injEq, List.not_mem_nil, or_false] at h
      have : i = 2 ∨ i = 3 := by omega
      rcases this with rfl | rfl <;> decide
  · intro h
    have hi : i < 4 := by
      rcases Nat.lt_or_ge i 4 with h1 | h1
      · exact h1
      · rw [Nat.testBit_lt_two_pow (Nat.lt_of_lt_of_le (show 14 < 2 ^ 4 by decide) (Nat.pow_le_pow_right (by decide) h1))] at h; cases h
    have : i = 0 ∨ i = 1 ∨ i = 2 ∨ i = 3 := by omega
    rcases this with rfl | rfl | rfl | rfl
    · revert h; decide
    · exact .inl rfl
    · exact .inr (by unfold T3; decide)
    · exact .inr (by unfold T3; decide)
theorem t3_of : ofN [1, 2, 3] = 14 := by decide
theorem tc_unl {L : List (Nat × Nat)} {z : Nat × Nat} {a b : Nat} (h : TC (unl L z) a b) : TC L a b := h.mono fun x hx => (mem_unl.1 hx).1
theorem t3_red : redL T3 T3 = [(1, 3)] := by
  have h1 : ¬ TC (unl T3 (1, 2)) 1 2 := fun h => by
    obtain ⟨y, hy, hk⟩ := h.first
    obtain ⟨hy1, hy2⟩ := mem_unl.1 hy
    rcases hk with rfl | hk
    · exact hy2 rfl
    · have := t3_tc.1 (tc_unl hk)
      unfold T3 at hy1 this
      simp only [List.mem_cons, Prod.mk.injEq, List.not_mem_nil, or_false] at hy1 this
      omega
  have h2 : TC (unl T3 (1, 3)) 1 3 := .cons (b := 2) (mem_unl.2 ⟨by unfold T3; simp, by decide⟩) (.one (mem_unl.2 ⟨by unfold T3; simp, by decide⟩))
  have h3 : ¬ TC (unl T3 (2, 3)) 2 3 := fun h => by
    obtain ⟨y, hy, hk⟩ := h.first
    obtain ⟨hy1, hy2⟩ := mem_unl.1 hy
    unfold T3 at hy1
    simp only [List.mem_cons, Prod.mk.injEq, List.not_mem_nil, or_false] at hy1
    have : y = 3 := by omega
    subst this
    exact hy2 rfl
  unfold redL
  rw [show T3.filter _ = (T3.filter fun x => decide (x = (1, 3))) from List.filter_congr fun x hx => ?_]
  · unfold T3; decide
  · unfold T3 at hx
    simp only [List.mem_cons, List.not_mem_nil, or_false] at hx
    rcases hx with rfl | rfl | rfl
    · simpa using h1
    · simpa using h2
    · simpa using h3
set_option maxHeartbeats 2000000 in
theorem lawake10_any {w0 w : World} {F : List Fact} {K : (Nat → Prop) → World → Prop} (hS : St w0 w F K) (kt : ∀ D w, K D w → DTab w ∧ D 0) :
    Calls Tryd.prog 13 #[] w fun e w' => e = .returned (.bool true) ∧ St w0 w' F K := by
  have KSt := hS.stable
  go_enter Tryd.func13, Tryd.ntmps13
  go_wp2_with (first
    | (go_at_call 53; refine (hnew_any hS kt).mono ?_; rintro e w_ ⟨p, rfl, hS⟩)
    | ((with_reducible show wpList _ _ _ (⟨some 14, _, _, _, _, _⟩ :: _) _ _); refine st_litown hS rfl _ _ _ _ rfl Tryd.underlying25 #[.int .i64 1, .int .i64 2, .int .i64 2, .int .i64 3, .int .i64 1, .int .i64 3] (by kernel_rfl) 2 rfl (by decide) ?_; clear hS; intro gl w_ hS; replace hS := hS.freeze 0 (by decide) rfl))
  obtain ⟨KX, k1, kp, KS, hS2⟩ : ∃ KX : (Nat → Prop) → World → Prop, (∀ D w, KX D w → K D w) ∧ (∀ D w, KX D w → Sl w D 2 (.slice (some ⟨gl, 0, none⟩) 3 3) 3 (pcells M3)) ∧ Stable KX ∧ St w0 w_ F fun D w => KX D w ∧ IsH w D p [] := ⟨fun D w => K D w ∧ Sl w D 2 (.slice (some ⟨gl, 0, none⟩) 3 3) 3 (pcells M3), fun _ _ h => h.1, fun _ _ h => h.2, KSt.and (stable_sl (by decide)), hS.mono ((KSt.and (stable_sl (by decide))).and stable_isH) fun D w h => ⟨⟨h.1.1, h.2⟩, h.1.2⟩⟩
  clear hS
  have hS := hS2
  clear hS2
  have HNX : Hid (∀ (j : Nat) (x : Nat × Nat) (L' : List (Nat × Nat)), M3[j]? = some x → Part M3 j L' → ∀ (F : List Fact) (K : (Nat → Prop) → World → Prop) (w : World) (r : Value) (z : Int), LinkP w0 F K L' (x.1 : Nat) (x.2 : Nat) r z w → z = 0 ∧ ∃ L'', Part M3 (j + 1) L'' ∧ St w0 w F fun D w => K D w ∧ IsH w D r L'') := Lib.hid fun j x L' hx hP F K w r z h => by
    obtain ⟨h1, L'', h2, h3, h4⟩ := h.next hx hP.2 (by unfold M3; decide) (by unfold M3; simp) m3_acyc
    exact ⟨h1, L'', ⟨h2, h3⟩, h4⟩
  have hP0 : Part M3 0 [] := ⟨HOK.nil, by simp⟩
  go_loopw [1, 16] (fun v i wr => ∃ (j : Nat) (p : Value) (L' : List (Nat × Nat)), i = .int .i64 (j : Nat) ∧ p = v ∧ j ≤ 3 ∧ Hid (Part M3 j L') ∧ St w0 wr F fun D w => KX D w ∧ IsH w D p L') (fun _ i _ => 3 - (intOf i).toNat)
  case atStart => exact ⟨0, p, [], rfl, rfl, by omega, Lib.hid hP0, hS⟩
  case round =>
    clear hS hP0
    obtain ⟨j, p, L', rfl, rfl, hj, HP, hS⟩ := hrel
    by_cases hlj : j < 3
    · obtain ⟨f1, f2⟩ := pcells_at M3 j hlj
      have HNY := Lib.hid (HNX.out j _ L' (getD_at (0, 0) hlj) HP.out)
      have HLL : Hid (L'.length ≤ 900000) := Lib.hid (by have := HP.out.len; have e : M3.length = 3 := rfl; omega)
      generalize M3.getD j (0, 0) = z at *
      obtain ⟨za, zb⟩ := z
      dsimp only at f1 f2 HNY
      have kp2 : ∀ D w, (KX D w ∧ IsH w D p L') → Sl w D 2 (.slice (some ⟨gl, 0, none⟩) 3 3) 3 (pcells M3) := fun D w h => kp D w h.1
      go_wp2_with (first
        | ((with_reducible show wpList _ _ _ (⟨_, .binOp _ _ _ _ _, _, _, _, _⟩ :: _) _ _); (first | (refine st_lss rfl _ _ _ _ rfl _ _ _ rfl rfl (fun h_ => ?_) (fun h_ => ?_)) | (refine st_leq rfl _ _ _ _ rfl _ _ _ rfl rfl (fun h_ => ?_) (fun h_ => ?_)) | (refine st_gtr rfl _ _ _ _ rfl _ _ _ rfl rfl (fun h_ => ?_) (fun h_ => ?_)) | (refine st_geq rfl _ _ _ _ rfl _ _ _ rfl rfl (fun h_ => ?_) (fun h_ => ?_)) | (refine st_eql rfl _ _ _ _ rfl _ _ _ rfl rfl (fun h_ => ?_) (fun h_ => ?_)) | (refine st_neq rfl _ _ _ _ rfl _ _ _ rfl rfl (fun h_ => ?_) (fun h_ => ?_))) <;> go_prune)
        | ((with_reducible show wpList _ _ _ (⟨_, .indexAddr _ _ _, _, _, _, _⟩ :: _) _ _); refine st_iaddr2 hS rfl _ _ _ rfl _ rfl rfl (by assumption) Tryd.underlying25 (by kernel_rfl) (by first | assumption | omega) _ _ (by assumption) (by assumption) ?_; intro b_ j_ hc0_ hc1_)
        | ((with_reducible show wpList _ _ _ (⟨some 3, _, _, _, _, _⟩ :: _) _ _); refine st_alloc hS rfl _ rfl (by kernel_rfl) ?_; clear hS; intro g4 w_ hS; (try simp only [Act.put, Act.eval, List.set_cons_zero, List.set_cons_succ, List.setIfInBounds_toArray, Array.getD_eq_getD_getElem?, List.getElem?_toArray, List.getElem?_cons_succ, List.getElem?_cons_zero, Option.getD_some, Value.cells] at hS))
        | ((with_reducible show wpList _ _ _ (⟨_, .store _ _ _, _, _, _, _⟩ :: _) _ _); (first | (refine st_store hS 0 rfl _ _ _ rfl _ _ rfl rfl _ _ rfl (by kernel_rfl) (by kernel_rfl) (by kernel_rfl) ?_) | (refine st_store hS 1 rfl _ _ _ rfl _ _ rfl rfl _ _ rfl (by kernel_rfl) (by kernel_rfl) (by kernel_rfl) ?_) | (refine st_store hS 2 rfl _ _ _ rfl _ _ rfl rfl _ _ rfl (by kernel_rfl) (by kernel_rfl) (by kernel_rfl) ?_) | (refine st_store hS 3 rfl _ _ _ rfl _ _ rfl rfl _ _ rfl (by kernel_rfl) (by kernel_rfl) (by kernel_rfl) ?_) | (refine st_cstore hS 0 rfl _ _ _ rfl _ _ _ rfl rfl rfl (by first | (simp; done) | (simp; omega) | exact of_decide_eq_true (by kernel_rfl)) rfl (by first | rfl | assumption) (by kernel_rfl) ?_) | (refine st_cstore hS 1 rfl _ _ _ rfl _ _ _ rfl rfl rfl (by first | (simp; done) | (simp; omega) | exact of_decide_eq_true (by kernel_rfl)) rfl (by first | rfl | assumption) (by kernel_rfl) ?_) | (refine st_cstore hS 2 rfl _ _ _ rfl _ _ _ rfl rfl rfl (by first | (simp; done) | (simp; omega) | exact of_decide_eq_true (by kernel_rfl)) rfl (by first | rfl | assumption) (by kernel_rfl) ?_) | (refine st_cstore hS 3 rfl _ _ _ rfl _ _ _ rfl rfl rfl (by first | (simp; done) | (simp; omega) | exact of_decide_eq_true (by kernel_rfl)) rfl (by first | rfl | assumption) (by kernel_rfl) ?_)); clear hS; intro w_ hS; (try simp only [Act.put, Act.eval, List.set_cons_zero, List.set_cons_succ, List.setIfInBounds_toArray, Array.getD_eq_getD_getElem?, List.getElem?_toArray, List.getElem?_cons_succ, List.getElem?_cons_zero, Option.getD_some, Value.cells] at hS))
        | (go_at_call 44; refine (hlink_any p L' (za : Nat) (zb : Nat) HP.out.1 HLL.out hS (fun D w h => h.2) (fun D w h => kt D w (k1 D w h.1))).mono ?_; rintro e w_ ⟨r, z, rfl, hP⟩; obtain ⟨rfl, L'', hP2, hS⟩ := HNY.out _ _ _ _ _ hP; replace hP2 := Lib.hid hP2; clear hP; obtain ⟨qr, _, rfl, -⟩ := hS.ro.2)
        | ((with_reducible show wpList _ _ _ (⟨_, .load _ _, _, _, _, _⟩ :: _) _ _); first | (refine st_cell hS 0 rfl _ _ rfl _ _ rfl _ _ rfl (by decide +kernel) _ (by first | assumption | rfl) ?_) | (refine st_cell hS 1 rfl _ _ rfl _ _ rfl _ _ rfl (by decide +kernel) _ (by first | assumption | rfl) ?_) | (refine st_cell hS 2 rfl _ _ rfl _ _ rfl _ _ rfl (by decide +kernel) _ (by first | assumption | rfl) ?_) | (refine st_cell hS 3 rfl _ _ rfl _ _ rfl _ _ rfl (by decide +kernel) _ (by first | assumption | rfl) ?_) | (refine st_cell hS 4 rfl _ _ rfl _ _ rfl _ _ rfl (by decide +kernel) _ (by first | assumption | rfl) ?_) | (refine st_cell hS 5 rfl _ _ rfl _ _ rfl _ _ rfl (by decide +kernel) _ (by first | assumption | rfl) ?_) | (refine st_cell hS 6 rfl _ _ rfl _ _ rfl _ _ rfl (by decide +kernel) _ (by first | assumption | rfl) ?_) | (refine st_cell hS 7 rfl _ _ rfl _ _ rfl _ _ rfl (by decide +kernel) _ (by first | assumption | rfl) ?_)))
      exact ⟨⟨j + 1, _, L'', by go_num, rfl, hlj, hP2, (hS.sub (List.sublist_cons_self _ _)).mono (KS.and stable_isH) fun D w h => ⟨h.1.1, h.2⟩⟩, by simp [intOf]; omega⟩
    · obtain rfl : j = 3 := by omega
      rw [t3_part HP.out] at hS
      obtain ⟨KY, ky1, ky2, hS2⟩ : ∃ KY : (Nat → Prop) → World → Prop, (∀ D w, KY D w → K D w) ∧ (∀ D w, KY D w → IsH w D p T3) ∧ St w0 wr F KY := ⟨_, fun D w h => k1 D w h.1, fun D w h => h.2, hS⟩
      clear hS
      have hS := hS2
      clear hS2 HNX HP k1 kp KS
      have HCH := Lib.hid (fun l c (h : ChainP T3 1 3 l c) => t3_chain h)
      have HLK := Lib.hid (fun (w0 w : World) (F : List Fact) (K : (Nat → Prop) → World → Prop) r z (h : LinkP w0 F K T3 3 1 r z w) => t3_link h)
      have H3 := Lib.hid t3_hok
      have HJ := Lib.hid (show (if (1 : Int) ≤ 1 ∧ (1 : Int) ≤ 63 then junM T3 (1 : Int).toNat else 0) = 14 by rw [if_pos (by omega)]; exact t3_jun)
      have HO := Lib.hid t3_of
      have HR := Lib.hid t3_red
      have HL3 : Hid (T3.length ≤ 900000) := Lib.hid (by decide)
      go_wp2_with (first
        | ((with_reducible show wpList _ _ _ (⟨_, .binOp _ _ _ _ _, _, _, _, _⟩ :: _) _ _); (first | (refine st_lss rfl _ _ _ _ rfl _ _ _ rfl rfl (fun h_ => ?_) (fun h_ => ?_)) | (refine st_leq rfl _ _ _ _ rfl _ _ _ rfl rfl (fun h_ => ?_) (fun h_ => ?_)) | (refine st_gtr rfl _ _ _ _ rfl _ _ _ rfl rfl (fun h_ => ?_) (fun h_ => ?_)) | (refine st_geq rfl _ _ _ _ rfl _ _ _ rfl rfl (fun h_ => ?_) (fun h_ => ?_)) | (refine st_eql rfl _ _ _ _ rfl _ _ _ rfl rfl (fun h_ => ?_) (fun h_ => ?_)) | (refine st_neq rfl _ _ _ _ rfl _ _ _ rfl rfl (fun h_ => ?_) (fun h_ => ?_))) <;> go_prune)
        | (go_at_call 17; refine (hchain_any (ky2 _ _ hS.ro) H3.out HL3.out 1 3).mono ?_; rintro e w_ ⟨v, c, l, rfl, hp, hll, hs⟩; obtain ⟨rfl, rfl⟩ := HCH.out _ _ hp; replace hS := hS.new hs.below (.own v 3 1 2 (ints (natInts [1, 3]))) (hs.own 0 rfl); clear hs hp hll)
        | (go_at_call 44; refine (hlink_any p T3 3 1 H3.out HL3.out hS ky2 (fun D w h => kt D w (ky1 D w h))).mono ?_; rintro e w_ ⟨r, z, rfl, hP⟩; obtain ⟨rfl, rfl, hS⟩ := HLK.out _ _ _ _ _ _ hP; clear hP)
        | (go_at_call 21; refine (hjun_any (ky2 _ _ hS.ro) H3.out 1).mono ?_; rintro r_ w_ ⟨_, rfl, hj1, hb_⟩; rw [HJ.out] at hj1; replace hS := hS.ret2 hb_ stable_set hj1; clear hb_ hj1)
        | ((with_reducible show wpList _ _ _ (⟨some 49, _, _, _, _, _⟩ :: _) _ _); refine st_litown hS rfl _ _ _ _ rfl Tryd.underlying31 #[.int .i64 1, .int .i64 2, .int .i64 3] (by kernel_rfl) 1 rfl (by decide) ?_; clear hS; intro g49 w_ hS)
        | (go_at_call 46; refine (of_any _ [1, 2, 3] _ _ (Sl.of_own (hS.own 0 rfl))).mono ?_; rintro r_ w_ ⟨_, rfl, hO1, hb_⟩; rw [HO.out] at hO1; replace hS := hS.ret hb_ stable_set hO1; clear hb_ hO1)
        | (go_at_call 22; refine (equal_any _ _ 14 14 _ _ _ hS.ro.1.2 hS.ro.2).mono ?_; rintro r_ w_ ⟨_, rfl, rfl, hb_⟩; rw [show ((14 : Nat) == 14) = true from rfl]; replace hS := hS.ext hb_; clear hb_)
        | ((with_reducible show wpList _ _ _ (⟨some 54, _, _, _, _, _⟩ :: _) _ _); refine st_litw hS rfl _ _ _ _ rfl Tryd.underlying31 #[.int .i64 1, .int .i64 3] (by kernel_rfl) 1 rfl (by decide) ?_; clear hS; intro g54 w_ hS)
        | (go_at_call 19; refine (sleq_any _ _ [1, 3] [1, 3] _ _ _ (Sl.of_own (hS.own 2 rfl)) (Sl.of_own (hS.own 0 rfl))).mono ?_; rintro r_ w_ ⟨_, rfl, rfl, hb_⟩; rw [show (([1, 3] : List Int) == [1, 3]) = true from rfl]; replace hS := hS.ext hb_; clear hb_)
        | (go_at_call 32; refine (hred_any (ky2 _ _ hS.ro.1.1) (kt _ _ (ky1 _ _ hS.ro.1.1)).1 H3.out HL3.out).mono ?_; rintro e w_ ⟨v2, rfl, hs⟩; rw [HR.out] at hs; replace hS := hS.new hs.below (.own v2 50 2 1 (pcells [(1, 3)])) (hs.own 0 rfl); clear hs)
        | ((with_reducible show wpList _ _ _ (⟨some 64, _, _, _, _, _⟩ :: _) _ _); refine st_litw hS rfl _ _ _ _ rfl Tryd.underlying25 #[.int .i64 1, .int .i64 3] (by kernel_rfl) 2 rfl (by decide) ?_; clear hS; intro g64 w_ hS)
        | (go_at_call 30; refine (peq_any (L := [(1, 3)]) (M := [(1, 3)]) (Sl.of_own (hS.own 1 rfl)) (Sl.of_own (hS.own 0 rfl)) (by decide)).mono ?_; rintro r_ w_ ⟨_, rfl, rfl, hb_⟩; rw [show decide (([(1, 3)] : List (Nat × Nat)) = [(1, 3)]) = true from rfl]; replace hS := hS.ext hb_; clear hb_))
      go_ret
      exact ⟨rfl, (hS.sub (.cons _ (.cons _ (.cons _ (.cons _ (.cons _ (List.Sublist.refl _))))))).mono KSt fun D w h => ky1 D w h.1.1⟩
end Go.Proofs.YtmlkgaiphpimiaaDoor
namespace Go.Proofs.YtmlkgaiphpimiaaDoor
open Go.RowKit
attribute [local go_sem ↓] Go.wp_at_zero Go.wp_at_succ
set_option maxRecDepth 20000
set_option exponentiation.threshold 5000

structure OpD where
  away : Bool
  a : Int
  b : Int
def OpD.ok (x : OpD) : Prop := (-128 ≤ x.a ∧ x.a ≤ 127) ∧ -128 ≤ x.b ∧ x.b ≤ 127
def ocells (l : List OpD) : List Value := l.flatMap fun x => [.bool x.away, .int .i8 x.a, .int .i8 x.b]
theorem ocells_at : ∀ (l : List OpD) (k : Nat), k < l.length → ∃ x, l[k]? = some x ∧ (ocells l)[k * 3 + 0]? = some (.bool x.away) ∧ (ocells l)[k * 3 + 1]? = some (.int .i8 x.a) ∧ (ocells l)[k * 3 + 2]? = some (.int .i8 x.b)
  | x :: l, 0, _ => ⟨x, rfl, rfl, rfl, rfl⟩
  | x :: l, k + 1, h => by
    obtain ⟨y, h1, h2, h3, h4⟩ := ocells_at l k (by simpa using h)
    refine ⟨y, by simpa using h1, ?_⟩
    have e : ocells (x :: l) = .bool x.away :: .int .i8 x.a :: .int .i8 x.b :: ocells l := rfl
    rw [e, show (k + 1) * 3 + 0 = k * 3 + 0 + 1 + 1 + 1 by omega, show (k + 1) * 3 + 1 = k * 3 + 1 + 1 + 1 + 1 by omega, show (k + 1) * 3 + 2 = k * 3 + 2 + 1 + 1 + 1 by omega]
    simp only [List.getElem?_cons_succ]
    exact ⟨h2, h3, h4⟩
theorem RUnlinkP.none1 {w0 w' : World} {pv : Value} {L : List (Nat × Nat)} {a b : Int} {e : Ending} (h : RUnlinkP w0 pv L a b e w') (hn : ¬ twoR a b) : e = .returned (.tuple #[pv, .int .i64 1]) ∧ Below w0.heap.size w0 w' := by
  rcases h with ⟨_, h⟩ | ⟨x, y, rfl, rfl, h1, h2, h3, _⟩
  · exact h
  · exact absurd ⟨⟨by omega, by omega⟩, ⟨by omega, by omega⟩, by omega⟩ hn
theorem RUnlinkP.out {w0 w' : World} {pv : Value} {L : List (Nat × Nat)} {x y : Nat} {e : Ending} (h : RUnlinkP w0 pv L (x : Nat) (y : Nat) e w') (ht : twoR (x : Nat) (y : Nat)) (hn : (x, y) ∉ L) : e = .returned (.tuple #[pv, .int .i64 4]) ∧ Below w0.heap.size w0 w' := by
  rcases h with ⟨h, _⟩ | ⟨a, b, h1, h2, _, _, _, h⟩
  · exact absurd ht h
  · obtain rfl : x = a := by omega
    obtain rfl : y = b := by omega
    rcases h with ⟨_, h⟩ | ⟨h, _⟩
    · exact h
    · exact absurd h hn
theorem RLinkP.none1 {w0 w' : World} {pv : Value} {L : List (Nat × Nat)} {a b : Int} {e : Ending} (h : RLinkP w0 pv L a b e w') (hn : ¬ twoR a b) : e = .returned (.tuple #[pv, .int .i64 1]) ∧ Below w0.heap.size w0 w' := by
  rcases h with ⟨_, h⟩ | ⟨x, y, rfl, rfl, h1, h2, h3, _⟩
  · exact h
  · exact absurd ⟨⟨by omega, by omega⟩, ⟨by omega, by omega⟩, by omega⟩ hn
theorem RLinkP.some1 {w0 w' : World} {pv : Value} {L : List (Nat × Nat)} {x y : Nat} {e : Ending} (h : RLinkP w0 pv L (x : Nat) (y : Nat) e w') (ht : twoR (x : Nat) (y : Nat)) :
    ((x, y) ∈ L ∧ e = .returned (.tuple #[pv, .int .i64 5]) ∧ Below w0.heap.size w0 w') ∨ ((x, y) ∉ L ∧ TC L y x ∧ e = .returned (.tuple #[pv, .int .i64 16]) ∧ Below w0.heap.size w0 w') ∨
     ((x, y) ∉ L ∧ ¬ TC L y x ∧ ∃ v, e = .returned (.tuple #[v, .int .i64 0]) ∧ St w0 w' [.own v 50 2 (L.length + 1) (pcells (ins L (x, y)))] fun _ _ => True) := by
  rcases h with ⟨h, _⟩ | ⟨a, b, h1, h2, _, _, _, h⟩
  · exact absurd ht h
  · obtain rfl : x = a := by omega
    obtain rfl : y = b := by omega
    exact h
theorem acyc_app {L : List (Nat × Nat)} (hA : Acyc L) {x y : Nat} (hne : x ≠ y) : Acyc (L ++ [(x, y)]) ↔ ¬ TC L y x := by
  have h := acyc_ins (L' := L ++ [(x, y)]) (a := x) (b := y) hA fun u => by rw [List.mem_append, List.mem_singleton, Or.comm]
  rw [h]
  exact ⟨fun h k => h (.inr k), fun h k => h (k.resolve_left fun e => hne e.symm)⟩
theorem link_both {w0 w w1 : World} {F : List Fact} {K : (Nat → Prop) → World → Prop} {L : List (Nat × Nat)} {a b : Int} {r pv : Value} {z : Int} {e : Ending} (hH : HOK L) (h : LinkP w0 F K L a b r z w) (k : RLinkP w pv L a b e w1) :
    (r = .pointer none ∧ z ≠ 0 ∧ e = .returned (.tuple #[pv, .int .i64 z]) ∧ St w0 w1 F K) ∨
    (z = 0 ∧ ∃ v L', e = .returned (.tuple #[v, .int .i64 0]) ∧ HOK L' ∧ L'.length ≤ L.length + 1 ∧ St w0 w1 F fun D w => (K D w ∧ IsH w D r L') ∧ Sl w D 2 v L'.length (pcells L')) := by
  rcases h with ⟨hn, rfl, rfl, hS⟩ | ⟨x, y, rfl, rfl, hx, hy, hne, h⟩
  · obtain ⟨h1, h2⟩ := k.none1 hn
    exact .inl ⟨rfl, by decide, h1, hS.ext h2⟩
  · have ht : twoR (x : Nat) (y : Nat) := ⟨⟨by omega, by omega⟩, ⟨by omega, by omega⟩, by omega⟩
    rcases k.some1 ht with ⟨k1, k2, k3⟩ | ⟨k1, k2, k3, k4⟩ | ⟨k1, k2, v, k3, k4⟩ <;> rcases h with ⟨h1, h2, h3, h4⟩ | ⟨h1, h2, h3, h4, h5⟩ | ⟨h1, h2, L', h3, h4, h5⟩
    · exact .inl ⟨h2, by omega, by rw [h3]; exact k2, h4.ext k3⟩
    · exact absurd k1 h1
    · exact absurd k1 h1
    · exact absurd h1 k1
    · exact .inl ⟨h3, by omega, by rw [h4]; exact k3, h5.ext k4⟩
    · exact absurd k2 ((acyc_app hH.acyc hne).1 (h3.acyc.sub fun u hu => (h4 u).2 hu))
    · exact absurd h1 k1
    · exact absurd ((acyc_app hH.acyc hne).2 k2) h2
    · have e1 : L' = ins L (x, y) := Asc.uniq h3.asc (ins_asc hH.asc k1) fun u => by rw [h4, mem_ins, List.mem_append, List.mem_singleton, Or.comm]
      subst e1
      refine .inr ⟨h2, v, _, k3, h3, by rw [ins_len]; omega, ?_⟩
      have hn := (h5.new k4.below (.own v 50 2 (L.length + 1) (pcells (ins L (x, y)))) (k4.own 0 rfl)).freeze 0 (by decide) rfl
      rw [ins_len]
      exact hn
theorem unlink_both {w0 w w1 : World} {F : List Fact} {K : (Nat → Prop) → World → Prop} {L : List (Nat × Nat)} {a b : Int} {r pv : Value} {z : Int} {e : Ending} (hH : HOK L) (h : UnlinkP w0 F K L a b r z w) (k : RUnlinkP w pv L a b e w1) :
    (r = .pointer none ∧ z ≠ 0 ∧ e = .returned (.tuple #[pv, .int .i64 z]) ∧ St w0 w1 F K) ∨
    (z = 0 ∧ ∃ v L', e = .returned (.tuple #[v, .int .i64 0]) ∧ HOK L' ∧ L'.length ≤ L.length + 1 ∧ St w0 w1 F fun D w => (K D w ∧ IsH w D r L') ∧ Sl w D 2 v L'.length (pcells L')) := by
  rcases h with ⟨hn, rfl, rfl, hS⟩ | ⟨x, y, rfl, rfl, hx, hy, hne, h⟩
  · obtain ⟨h1, h2⟩ := k.none1 hn
    exact .inl ⟨rfl, by decide, h1, hS.ext h2⟩
  · have ht : twoR (x : Nat) (y : Nat) := ⟨⟨by omega, by omega⟩, ⟨by omega, by omega⟩, by omega⟩
    rcases h with ⟨h1, h2, h3, h4⟩ | ⟨h1, h2, h3⟩
    · obtain ⟨k1, k2⟩ := k.out ht h1
      exact .inl ⟨h2, by omega, by rw [h3]; exact k1, h4.ext k2⟩
    · obtain ⟨v, k1, k2⟩ := RUnlinkP.mem (x := (x, y)) k h1 ⟨hx, hy⟩ hne
      refine .inr ⟨h2, v, _, k1, hH.unl (x, y), by have := unl_len2 L (x, y); omega, ?_⟩
      exact (h3.new k2.below (.own v 50 2 (unl L (x, y)).length (pcells (unl L (x, y)))) (k2.own 0 rfl)).freeze 0 (by decide) rfl
theorem LinkP.known {w0 w : World} {F : List Fact} {K : (Nat → Prop) → World → Prop} {L : List (Nat × Nat)} {a b : Int} {r : Value} {z : Int} (h : LinkP w0 F K L a b r z w) : K (Free F) w := by
  rcases h with ⟨_, _, _, hS⟩ | ⟨x, y, _, _, _, _, _, ⟨_, _, _, hS⟩ | ⟨_, _, _, _, hS⟩ | ⟨_, _, L', _, _, hS⟩⟩
  · exact hS.ro
  · exact hS.ro
  · exact hS.ro
  · exact hS.ro.1
theorem UnlinkP.known {w0 w : World} {F : List Fact} {K : (Nat → Prop) → World → Prop} {L : List (Nat × Nat)} {a b : Int} {r : Value} {z : Int} (h : UnlinkP w0 F K L a b r z w) : K (Free F) w := by
  rcases h with ⟨_, _, _, hS⟩ | ⟨x, y, _, _, _, _, _, ⟨_, _, _, hS⟩ | ⟨_, _, hS⟩⟩
  · exact hS.ro
  · exact hS.ro
  · exact hS.ro.1
theorem rng3 {w : World} {g i : Nat} {a b c : Value} (h0 : w.cell? ⟨g, i + 0, none⟩ = some a) (h1 : w.cell? ⟨g, i + 1, none⟩ = some b) (h2 : w.cell? ⟨g, i + 2, none⟩ = some c) : w.rangeAt g i [a, b, c] := fun j v hj => by
  match j, hj with
  | 0, hj => obtain rfl := Option.some.inj (show some _ = some v from hj); exact h0
  | 1, hj => obtain rfl := Option.some.inj (show some _ = some v from hj); exact h1
  | 2, hj => obtain rfl := Option.some.inj (show some _ = some v from hj); exact h2
  | j + 3, hj => simp at hj
theorem run_conv8 {w : World} {n : Int} (h : -128 ≤ n ∧ n ≤ 127) : (convert 85 3 (.int .i8 n)).run Tryd.prog w = .ok (.int .i64 n) w := by
  go_simp
  exact IntWalk.i64_in _ (by omega)
set_option maxHeartbeats 2000000 in
theorem lplay_any {w0 w : World} {F : List Fact} {K : (Nat → Prop) → World → Prop} (pv : Value) (ops : List OpD) (hO : ∀ x ∈ ops, x.ok) (hS : St w0 w F K) (kt : ∀ D w, K D w → DTab w ∧ D 0) (kp : ∀ D w, K D w → Sl w D 3 pv ops.length (ocells ops)) :
    Calls Tryd.prog 29 #[pv] w fun e w' => ∃ (p v : Value) (L : List (Nat × Nat)), e = .returned (.tuple #[p, v]) ∧ HOK L ∧ L.length ≤ 24 ∧ St w0 w' F fun D w => (K D w ∧ Sl w D 2 v L.length (pcells L)) ∧ IsH w D p L := by
  obtain ⟨A, c, rfl, hc1, _⟩ := (kp _ _ hS.ro).shape
  have KSt := hS.stable
  obtain ⟨m, hm⟩ : ∃ m, m = min ops.length 24 := ⟨_, rfl⟩
  have hmin : min ((ops.length : Nat) : Int) 24 = (m : Int) := by omega
  have hm1 : m ≤ ops.length ∧ m ≤ 24 ∧ m ≤ c := by omega
  have HOK0 := Lib.hid hO
  clear hm hO
  go_enter Tryd.func29, Tryd.ntmps29
  go_wp2_with (first
    | (go_at_call 53; refine (hnew_any hS kt).mono ?_; rintro e w_ ⟨p, rfl, hS⟩)
    | ((with_reducible show wpList _ _ _ (⟨some 19, _, _, _, _, _⟩ :: _) _ _); refine BigFrame.wpList_want rfl fun _ hK => opw_slh rfl Tryd.underlying47 ⟨3, by kernel_rfl⟩ rfl rfl hm1.2.2 (hK _ _ ?_)))
  obtain ⟨KX, kx, hS2⟩ : ∃ KX : (Nat → Prop) → World → Prop, (∀ D w, KX D w → (K D w ∧ Sl w D 2 (.slice none 0 0) 0 (pcells [])) ∧ IsH w D p []) ∧ St w0 w_ F KX := ⟨fun D w => (K D w ∧ Sl w D 2 (.slice none 0 0) 0 (pcells [])) ∧ IsH w D p [], fun _ _ h => h, hS.mono ((KSt.and (stable_sl (by decide))).and stable_isH) fun D w h => ⟨⟨h.1, Sl.none_⟩, h.2⟩⟩
  clear hS
  have hS := hS2
  clear hS2
  have kq : ∀ D w, K D w → Sl w D 3 (.slice A m c) m ((ocells ops).take (m * 3)) := fun D w h => slc_take (kp D w h) hm1.1
  go_loopw [4, 5, 21] (fun hv wv i wr => ∃ (j : Nat) (p pv : Value) (L : List (Nat × Nat)) (KX : (Nat → Prop) → World → Prop), i = .int .i64 (j : Nat) ∧ p = hv ∧ pv = wv ∧ j ≤ m ∧ L.length ≤ j ∧ Hid (HOK L) ∧ (∀ D w, KX D w → (K D w ∧ Sl w D 2 pv L.length (pcells L)) ∧ IsH w D p L) ∧ St w0 wr F KX) (fun _ _ i _ => m - (intOf i).toNat)
  case atStart => exact ⟨0, p, _, [], KX, rfl, rfl, rfl, by omega, by simp, Lib.hid HOK.nil, kx, hS⟩
  case round =>
    clear hS kx KX
    obtain ⟨j, p, pv, L, KX, rfl, rfl, rfl, hj, hLj, HO, kk, hS⟩ := hrel
    have hlL : L.length ≤ 900000 := by omega
    by_cases hlj : j < m
    · obtain ⟨x, hx, f0, f1, f2⟩ := ocells_at ops j (by omega)
      have hxo := HOK0.out x (List.mem_of_getElem? hx)
      have g0 : ((ocells ops).take (m * 3))[j * 3 + 0]? = some (.bool x.away) := by rw [List.getElem?_take, if_pos (by omega)]; exact f0
      have g1 : ((ocells ops).take (m * 3))[j * 3 + 1]? = some (.int .i8 x.a) := by rw [List.getElem?_take, if_pos (by omega)]; exact f1
      have g2 : ((ocells ops).take (m * 3))[j * 3 + 2]? = some (.int .i8 x.b) := by rw [List.getElem?_take, if_pos (by omega)]; exact f2
      have KSX := hS.stable
      obtain ⟨aw, xa, xb⟩ := x
      obtain ⟨hxa, hxb⟩ := hxo
      dsimp only at g0 g1 g2 hxa hxb
      have G0 := Lib.hid g0
      have G1 := Lib.hid g1
      have G2 := Lib.hid g2
      clear hx f0 f1 f2 g0 g1 g2
      go_wp2_with (first
        | ((with_reducible show wpList _ _ _ (⟨_, .binOp _ _ _ _ _, _, _, _, _⟩ :: _) _ _); (first | (refine st_lss rfl _ _ _ _ rfl _ _ _ rfl rfl (fun h_ => ?_) (fun h_ => ?_)) | (refine st_leq rfl _ _ _ _ rfl _ _ _ rfl rfl (fun h_ => ?_) (fun h_ => ?_)) | (refine st_gtr rfl _ _ _ _ rfl _ _ _ rfl rfl (fun h_ => ?_) (fun h_ => ?_)) | (refine st_geq rfl _ _ _ _ rfl _ _ _ rfl rfl (fun h_ => ?_) (fun h_ => ?_)) | (refine st_eql rfl _ _ _ _ rfl _ _ _ rfl rfl (fun h_ => ?_) (fun h_ => ?_)) | (refine st_neq rfl _ _ _ _ rfl _ _ _ rfl rfl (fun h_ => ?_) (fun h_ => ?_))) <;> go_prune)
        | ((with_reducible show wpList _ _ _ (⟨some 23, _, _, _, _, _⟩ :: _) _ _); refine st_iaddr rfl _ _ _ rfl _ rfl rfl (kq _ _ (kk _ _ hS.ro).1.1) Tryd.underlying47 (by kernel_rfl) hlj ?_; intro b_ j_ _ _ hc_)
        | ((with_reducible show wpList _ _ _ (⟨some 24, _, _, _, _, _⟩ :: _) _ _); refine BigFrame.wpList_want rfl fun _ hK => opw_mid (cs := [.bool aw, .int .i8 xa, .int .i8 xb]) rfl rfl (rng3 (hc_ 0 _ G0.out) (hc_ 1 _ G1.out) (hc_ 2 _ G2.out)) Tryd.underlying87 rfl (by kernel_rfl) (hK _ _ ?_))
        | ((with_reducible show wpList _ _ _ (⟨some 7, _, _, _, _, _⟩ :: _) _ _); refine st_alloc hS rfl _ rfl (by kernel_rfl) ?_; clear hS; intro g7 w_ hS; (try simp only [Act.put, Act.eval, List.set_cons_zero, List.set_cons_succ, List.setIfInBounds_toArray, Array.getD_eq_getD_getElem?, List.getElem?_toArray, List.getElem?_cons_succ, List.getElem?_cons_zero, Option.getD_some, Value.cells] at hS))
        | ((with_reducible show wpList _ _ _ (⟨_, .store _ _ _, _, _, _, _⟩ :: _) _ _); (first | (refine st_store hS 0 rfl _ _ _ rfl _ _ rfl rfl _ _ rfl (by kernel_rfl) (by kernel_rfl) (by kernel_rfl) ?_) | (refine st_store hS 1 rfl _ _ _ rfl _ _ rfl rfl _ _ rfl (by kernel_rfl) (by kernel_rfl) (by kernel_rfl) ?_) | (refine st_store hS 2 rfl _ _ _ rfl _ _ rfl rfl _ _ rfl (by kernel_rfl) (by kernel_rfl) (by kernel_rfl) ?_) | (refine st_store hS 3 rfl _ _ _ rfl _ _ rfl rfl _ _ rfl (by kernel_rfl) (by kernel_rfl) (by kernel_rfl) ?_) | (refine st_cstore hS 0 rfl _ _ _ rfl _ _ _ rfl rfl rfl (by first | (simp; done) | (simp; omega) | exact of_decide_eq_true (by kernel_rfl)) rfl (by first | rfl | assumption) (by kernel_rfl) ?_) | (refine st_cstore hS 1 rfl _ _ _ rfl _ _ _ rfl rfl rfl (by first | (simp; done) | (simp; omega) | exact of_decide_eq_true (by kernel_rfl)) rfl (by first | rfl | assumption) (by kernel_rfl) ?_) | (refine st_cstore hS 2 rfl _ _ _ rfl _ _ _ rfl rfl rfl (by first | (simp; done) | (simp; omega) | exact of_decide_eq_true (by kernel_rfl)) rfl (by first | rfl | assumption) (by kernel_rfl) ?_) | (refine st_cstore hS 3 rfl _ _ _ rfl _ _ _ rfl rfl rfl (by first | (simp; done) | (simp; omega) | exact of_decide_eq_true (by kernel_rfl)) rfl (by first | rfl | assumption) (by kernel_rfl) ?_)); clear hS; intro w_ hS; (try simp only [Act.put, Act.eval, List.set_cons_zero, List.set_cons_succ, List.setIfInBounds_toArray, Array.getD_eq_getD_getElem?, List.getElem?_toArray, List.getElem?_cons_succ, List.getElem?_cons_zero, Option.getD_some, Value.cells] at hS)))
      refine wp_region_typed (fun i__ v w => match i__ with
        | 0 => v = .pointer (some ⟨g7, 1, none⟩)
        | 1 => v = .int .i8 xa
        | 2 => v = .int .i64 xa
        | 3 => v = .pointer (some ⟨g7, 2, none⟩)
        | 4 => v = .int .i8 xb
        | 5 => v = .int .i64 xb
        | 6 => v = .int .i64 xa
        | 7 => v = .int .i64 xb
        | _ => True) (by kernel_rfl) (by kernel_rfl) ?mono ⟨?r0, ?r1, ?r2, ?r3, ?r4, ?r5, ?r6, ?r7, trivial⟩ ?post
      case mono =>
        intro i v w w' h hb
        match i, h with
        | 0, h => exact h
        | 1, h => exact h
        | 2, h => exact h
        | 3, h => exact h
        | 4, h => exact h
        | 5, h => exact h
        | 6, h => exact h
        | 7, h => exact h
        | _ + 8, h => trivial
      case r0 =>
        refine trule fun b__ w hW hold hpre => ⟨fun hwant K hK => ?_, fun hwant => ?_⟩
        · clear hwant
          have e7 : b__.eval (.tmp 7) = .pointer (some ⟨g7, 0, none⟩) := (hold 7 (by kernel_rfl)).trans rfl
          exact opw_faddr rfl e7 (by kernel_rfl) (hK _ _ rfl (Below.refl _ _))
        · rw [want_none rfl] at hwant; cases hwant
      case r1 =>
        refine trule fun b__ w hW hold hpre => ⟨fun hwant K hK => ?_, fun hwant => ?_⟩
        · clear hwant
          have e25 : b__.eval (.tmp 25) = .pointer (some ⟨g7, 1, none⟩) := hpre ⟨0, _⟩ (Array.mem_of_getElem? (i := 0) rfl) rfl _ _ rfl rfl
          exact opw_cell rfl e25 (by kernel_rfl) ((hS.ext (undrew hW)).shut 0 rfl 1 rfl) (hK _ _ rfl (Below.refl _ _))
        · rw [want_none rfl] at hwant; cases hwant
      case r2 =>
        refine trule fun b__ w hW hold hpre => ⟨fun hwant K hK => ?_, fun hwant => ?_⟩
        · clear hwant
          have e26 : b__.eval (.tmp 26) = .int .i8 xa := hpre ⟨1, _⟩ (Array.mem_of_getElem? (i := 0) rfl) rfl _ _ rfl rfl
          exact opw_conv (vx := .int .i8 xa) (v := .int .i64 xa) rfl e26 (run_conv8 hxa) (hK _ _ rfl (Below.refl _ _))
        · rw [want_none rfl] at hwant; cases hwant
      case r3 =>
        refine trule fun b__ w hW hold hpre => ⟨fun hwant K hK => ?_, fun hwant => ?_⟩
        · clear hwant
          have e7 : b__.eval (.tmp 7) = .pointer (some ⟨g7, 0, none⟩) := (hold 7 (by kernel_rfl)).trans rfl
          exact opw_faddr rfl e7 (by kernel_rfl) (hK _ _ rfl (Below.refl _ _))
        · rw [want_none rfl] at hwant; cases hwant
      case r4 =>
        refine trule fun b__ w hW hold hpre => ⟨fun hwant K hK => ?_, fun hwant => ?_⟩
        · clear hwant
          have e28 : b__.eval (.tmp 28) = .pointer (some ⟨g7, 2, none⟩) := hpre ⟨3, _⟩ (Array.mem_of_getElem? (i := 0) rfl) rfl _ _ rfl rfl
          exact opw_cell rfl e28 (by kernel_rfl) ((hS.ext (undrew hW)).shut 0 rfl 2 rfl) (hK _ _ rfl (Below.refl _ _))
        · rw [want_none rfl] at hwant; cases hwant
      case r5 =>
        refine trule fun b__ w hW hold hpre => ⟨fun hwant K hK => ?_, fun hwant => ?_⟩
        · clear hwant
          have e29 : b__.eval (.tmp 29) = .int .i8 xb := hpre ⟨4, _⟩ (Array.mem_of_getElem? (i := 0) rfl) rfl _ _ rfl rfl
          exact opw_conv (vx := .int .i8 xb) (v := .int .i64 xb) rfl e29 (run_conv8 hxb) (hK _ _ rfl (Below.refl _ _))
        · rw [want_none rfl] at hwant; cases hwant
      case r6 =>
        refine trule fun b__ w hW hold hpre => ⟨fun hwant K hK => ?_, fun hwant => ?_⟩
        · clear hwant
          have e27 : b__.eval (.tmp 27) = .int .i64 xa := hpre ⟨2, _⟩ (Array.mem_of_getElem? (i := 0) rfl) rfl _ _ rfl rfl
          exact opw_assign rfl e27 (hK _ _ rfl (Below.refl _ _))
        · rw [want_none rfl] at hwant; cases hwant
      case r7 =>
        refine trule fun b__ w hW hold hpre => ⟨fun hwant K hK => ?_, fun hwant => ?_⟩
        · clear hwant
          have e30 : b__.eval (.tmp 30) = .int .i64 xb := hpre ⟨5, _⟩ (Array.mem_of_getElem? (i := 0) rfl) rfl _ _ rfl rfl
          exact opw_assign rfl e30 (hK _ _ rfl (Below.refl _ _))
        · rw [want_none rfl] at hwant; cases hwant
      case post =>
        intro b__ wz hW hdf hsz hold hT
        have e25 : b__.eval (.tmp 25) = .pointer (some ⟨g7, 1, none⟩) := hT 0 _ 25 rfl rfl
        have e26 : b__.eval (.tmp 26) = .int .i8 xa := hT 1 _ 26 rfl rfl
        have e27 : b__.eval (.tmp 27) = .int .i64 xa := hT 2 _ 27 rfl rfl
        have e28 : b__.eval (.tmp 28) = .pointer (some ⟨g7, 2, none⟩) := hT 3 _ 28 rfl rfl
        have e29 : b__.eval (.tmp 29) = .int .i8 xb := hT 4 _ 29 rfl rfl
        have e30 : b__.eval (.tmp 30) = .int .i64 xb := hT 5 _ 30 rfl rfl
        have e8 : b__.eval (.tmp 8) = .int .i64 xa := hT 6 _ 8 rfl rfl
        have e9 : b__.eval (.tmp 9) = .int .i64 xb := hT 7 _ 9 rfl rfl
        obtain ⟨vs, hvs, hb⟩ := frame_of hdf hsz hold
        replace e25 : vs 25 = .pointer (some ⟨g7, 1, none⟩) := (hvs 25).symm.trans e25
        replace e26 : vs 26 = .int .i8 xa := (hvs 26).symm.trans e26
        replace e27 : vs 27 = .int .i64 xa := (hvs 27).symm.trans e27
        replace e28 : vs 28 = .pointer (some ⟨g7, 2, none⟩) := (hvs 28).symm.trans e28
        replace e29 : vs 29 = .int .i8 xb := (hvs 29).symm.trans e29
        replace e30 : vs 30 = .int .i64 xb := (hvs 30).symm.trans e30
        replace e8 : vs 8 = .int .i64 xa := (hvs 8).symm.trans e8
        replace e9 : vs 9 = .int .i64 xb := (hvs 9).symm.trans e9
        subst hb
        clear hvs hold hT hdf hsz
        simp only [setAll, Act.put, List.setIfInBounds_toArray, List.set_cons_zero, List.set_cons_succ, List.getElem_toArray, List.getElem_cons_succ, List.getElem_cons_zero]
        rw [e8, e9]
        replace hS := hS.ext hW
        clear hW e25 e26 e27 e28 e29 e30 e8 e9
        cases aw
        all_goals
          go_wp2_with (first
            | ((with_reducible show wpList _ _ _ (⟨_, .binOp _ _ _ _ _, _, _, _, _⟩ :: _) _ _); (first | (refine st_lss rfl _ _ _ _ rfl _ _ _ rfl rfl (fun h_ => ?_) (fun h_ => ?_)) | (refine st_leq rfl _ _ _ _ rfl _ _ _ rfl rfl (fun h_ => ?_) (fun h_ => ?_)) | (refine st_gtr rfl _ _ _ _ rfl _ _ _ rfl rfl (fun h_ => ?_) (fun h_ => ?_)) | (refine st_geq rfl _ _ _ _ rfl _ _ _ rfl rfl (fun h_ => ?_) (fun h_ => ?_)) | (refine st_eql rfl _ _ _ _ rfl _ _ _ rfl rfl (fun h_ => ?_) (fun h_ => ?_)) | (refine st_neq rfl _ _ _ _ rfl _ _ _ rfl rfl (fun h_ => ?_) (fun h_ => ?_))) <;> go_prune)
            | (go_at_call 44; refine (hlink_any p L xa xb HO.out hlL hS (fun D w h => (kk D w h).2) (fun D w h => kt D w (kk D w h).1.1)).mono ?_; rintro e w_ ⟨r, z, rfl, hP⟩)
            | (go_at_call 68; refine (rlink_any (kk _ _ hP.known).1.2 HO.out.inr (by omega) xa xb).mono ?_; rintro e w_ hk; rcases link_both HO.out hP hk with ⟨rfl, hz, rfl, hS⟩ | ⟨rfl, v, L', rfl, hH', hl', hS⟩ <;> clear hP hk <;> (try obtain ⟨qr, _, rfl, -⟩ := id hS.ro.1.2))
            | (go_at_call 34; refine (hunlink_any p L xa xb HO.out hlL hS (fun D w h => (kk D w h).2) (fun D w h => kt D w (kk D w h).1.1)).mono ?_; rintro e w_ ⟨r, z, rfl, hP⟩)
            | (go_at_call 67; refine (runlink_any (kk _ _ hP.known).1.2 (by omega) xa xb).mono ?_; rintro e w_ hk; rcases unlink_both HO.out hP hk with ⟨rfl, hz, rfl, hS⟩ | ⟨rfl, v, L', rfl, hH', hl', hS⟩ <;> clear hP hk <;> (try obtain ⟨qr, _, rfl, -⟩ := id hS.ro.1.2))
            | ((with_reducible show wpList _ _ _ (⟨_, .load _ _, _, _, _, _⟩ :: _) _ _); first | (refine st_cell hS 0 rfl _ _ rfl _ _ rfl _ _ rfl (by decide +kernel) _ (by first | assumption | rfl) ?_) | (refine st_cell hS 1 rfl _ _ rfl _ _ rfl _ _ rfl (by decide +kernel) _ (by first | assumption | rfl) ?_) | (refine st_cell hS 2 rfl _ _ rfl _ _ rfl _ _ rfl (by decide +kernel) _ (by first | assumption | rfl) ?_) | (refine st_cell hS 3 rfl _ _ rfl _ _ rfl _ _ rfl (by decide +kernel) _ (by first | assumption | rfl) ?_) | (refine st_cell hS 4 rfl _ _ rfl _ _ rfl _ _ rfl (by decide +kernel) _ (by first | assumption | rfl) ?_) | (refine st_cell hS 5 rfl _ _ rfl _ _ rfl _ _ rfl (by decide +kernel) _ (by first | assumption | rfl) ?_) | (refine st_cell hS 6 rfl _ _ rfl _ _ rfl _ _ rfl (by decide +kernel) _ (by first | assumption | rfl) ?_) | (refine st_cell hS 7 rfl _ _ rfl _ _ rfl _ _ rfl (by decide +kernel) _ (by first | assumption | rfl) ?_)))
          · exact ⟨⟨j + 1, p, pv, L, KX, by go_num, rfl, rfl, by omega, by omega, HO, kk, hS.sub (List.sublist_cons_self _ _)⟩, by simp [intOf]; omega⟩
          · exact ⟨⟨j + 1, _, v, L', _, by go_num, rfl, rfl, by omega, by omega, Lib.hid hH', fun D w h => ⟨⟨(kk _ _ h.1.1).1.1, h.2⟩, h.1.2⟩, hS.sub (List.sublist_cons_self _ _)⟩, by simp [intOf]; omega⟩
    · go_wp2_with (first | ((with_reducible show wpList _ _ _ (⟨_, .binOp _ _ _ _ _, _, _, _, _⟩ :: _) _ _); (first | (refine st_lss rfl _ _ _ _ rfl _ _ _ rfl rfl (fun h_ => ?_) (fun h_ => ?_)) | (refine st_leq rfl _ _ _ _ rfl _ _ _ rfl rfl (fun h_ => ?_) (fun h_ => ?_)) | (refine st_gtr rfl _ _ _ _ rfl _ _ _ rfl rfl (fun h_ => ?_) (fun h_ => ?_)) | (refine st_geq rfl _ _ _ _ rfl _ _ _ rfl rfl (fun h_ => ?_) (fun h_ => ?_)) | (refine st_eql rfl _ _ _ _ rfl _ _ _ rfl rfl (fun h_ => ?_) (fun h_ => ?_)) | (refine st_neq rfl _ _ _ _ rfl _ _ _ rfl rfl (fun h_ => ?_) (fun h_ => ?_))) <;> go_prune))
      go_ret2
      exact ⟨_, _, rfl, L, HO.out, by omega, hS.mono ((KSt.and (stable_sl (by decide))).and stable_isH) fun D w h => kk D w h⟩
end Go.Proofs.YtmlkgaiphpimiaaDoor
namespace Go.Proofs.YtmlkgaiphpimiaaDoor
open Go.RowKit
attribute [local go_sem ↓] Go.wp_at_zero Go.wp_at_succ
set_option maxRecDepth 20000
set_option exponentiation.threshold 5000

theorem beq_any {w0 : World} {D E : Nat → Prop} {u v : Value} {L M : List Nat} (hu : Sl w0 D 1 u L.length (u8s L)) (hv : Sl w0 E 1 v M.length (u8s M)) (hl : L.length ≤ 100000000) :
    Calls Tryd.prog 50 #[u, v] w0 (Ret (fun x _ => x = .bool (decide (L = M))) w0) := by
  obtain ⟨A, c, rfl, _, _⟩ := hu.shape
  obtain ⟨B, d, rfl, _, _⟩ := hv.shape
  obtain ⟨K, k1, k2, hS⟩ : ∃ K : (Nat → Prop) → World → Prop, (∀ D w, K D w → Sl w D 1 (.slice A L.length c) L.length (u8s L)) ∧ (∀ D w, K D w → Sl w D 1 (.slice B M.length d) M.length (u8s M)) ∧ St w0 w0 [] K := ⟨_, fun _ _ h => h.1, fun _ _ h => h.2, St.start (D := fun _ => True) ((stable_sl (by decide)).and (stable_sl (by decide))) ⟨hu.imp fun _ _ _ => trivial, hv.imp fun _ _ _ => trivial⟩⟩
  clear hu hv
  by_cases hlm : L.length = M.length
  · have HE : Hid ((∀ t, t < L.length → L.getD t 0 = M.getD t 0) → L = M) := Lib.hid fun h => List.ext_getElem hlm fun i h1 h2 => by
      have := h i h1
      rwa [List.getD_eq_getElem?_getD, List.getD_eq_getElem?_getD, List.getElem?_eq_getElem h1, List.getElem?_eq_getElem h2] at this
    go_enter Tryd.func50, Tryd.ntmps50
    go_wp2_with (first | ((with_reducible show wpList _ _ _ (⟨_, .binOp _ _ _ _ _, _, _, _, _⟩ :: _) _ _); (first | (refine st_lss rfl _ _ _ _ rfl _ _ _ rfl rfl (fun h_ => ?_) (fun h_ => ?_)) | (refine st_leq rfl _ _ _ _ rfl _ _ _ rfl rfl (fun h_ => ?_) (fun h_ => ?_)) | (refine st_gtr rfl _ _ _ _ rfl _ _ _ rfl rfl (fun h_ => ?_) (fun h_ => ?_)) | (refine st_geq rfl _ _ _ _ rfl _ _ _ rfl rfl (fun h_ => ?_) (fun h_ => ?_)) | (refine st_eql rfl _ _ _ _ rfl _ _ _ rfl rfl (fun h_ => ?_) (fun h_ => ?_)) | (refine st_neq rfl _ _ _ _ rfl _ _ _ rfl rfl (fun h_ => ?_) (fun h_ => ?_))) <;> go_prune))
    go_loopw [13] (fun i wr => ∃ j : Nat, j ≤ L.length ∧ i = .int .i64 (j : Nat) ∧ Hid (∀ t, t < j → L.getD t 0 = M.getD t 0) ∧ St w0 wr [] K) (fun i _ => L.length - (intOf i).toNat)
    case atStart => exact ⟨0, by omega, rfl, Lib.hid (fun t h => absurd h (by omega)), hS⟩
    case round =>
      clear hS
      obtain ⟨j, hj, rfl, HJ, hS⟩ := hrel
      by_cases hlj : j < L.length
      · have hmj : j < M.length := by omega
        obtain ⟨b1, o1, rfl⟩ : ∃ b o, A = some ⟨b, o, none⟩ := by
          obtain ⟨_, A2, c2, e2, _, _, h5⟩ := k1 _ _ hS.ro
          obtain ⟨b, o, h6, _⟩ := h5 (by omega)
          injection e2 with e2
          exact ⟨b, o, e2.trans h6⟩
        obtain ⟨b2, o2, rfl⟩ : ∃ b o, B = some ⟨b, o, none⟩ := by
          obtain ⟨_, A2, c2, e2, _, _, h5⟩ := k2 _ _ hS.ro
          obtain ⟨b, o, h6, _⟩ := h5 (by omega)
          injection e2 with e2
          exact ⟨b, o, e2.trans h6⟩
        have p1 := Lib.hid (u8s_at L j hlj)
        have p2 := Lib.hid (u8s_at M j hmj)
        have HJ2 : Hid (L.getD j 0 = M.getD j 0 → ∀ t, t < j + 1 → L.getD t 0 = M.getD t 0) := Lib.hid fun h t ht => if e : t = j then e ▸ h else HJ.out t (by omega)
        have HNE : Hid (L.getD j 0 ≠ M.getD j 0 → ¬ L = M) := Lib.hid fun h e => h (by rw [e])
        generalize L.getD j 0 = x at *
        generalize M.getD j 0 = y at *
        go_wp2_with (first | ((with_reducible show wpList _ _ _ (⟨_, .binOp _ _ _ _ _, _, _, _, _⟩ :: _) _ _); (first | (refine st_lss rfl _ _ _ _ rfl _ _ _ rfl rfl (fun h_ => ?_) (fun h_ => ?_)) | (refine st_leq rfl _ _ _ _ rfl _ _ _ rfl rfl (fun h_ => ?_) (fun h_ => ?_)) | (refine st_gtr rfl _ _ _ _ rfl _ _ _ rfl rfl (fun h_ => ?_) (fun h_ => ?_)) | (refine st_geq rfl _ _ _ _ rfl _ _ _ rfl rfl (fun h_ => ?_) (fun h_ => ?_)) | (refine st_eql rfl _ _ _ _ rfl _ _ _ rfl rfl (fun h_ => ?_) (fun h_ => ?_)) | (refine st_neq rfl _ _ _ _ rfl _ _ _ rfl rfl (fun h_ => ?_) (fun h_ => ?_))) <;> go_prune))
        refine wp_region_typed (fun i__ v w => match i__ with
          | 0 => v = .slice (some ⟨b1, o1, none⟩) M.length c
          | 1 => v = .int .i64 ((j : Nat) : Int)
          | 2 => v = .pointer (some ⟨b1, o1 + (j) * 1, none⟩)
          | 3 => v = .int .u8 ((x : Nat) : Int)
          | 4 => v = .slice (some ⟨b2, o2, none⟩) M.length d
          | 5 => v = .int .i64 ((j : Nat) : Int)
          | 6 => v = .pointer (some ⟨b2, o2 + (j) * 1, none⟩)
          | 7 => v = .int .u8 ((y : Nat) : Int)
          | 8 => v = .bool (decide ((x : Int) ≠ (y : Int)))
          | _ => True) (by kernel_rfl) (by kernel_rfl) ?mono ⟨?r0, ?r1, ?r2, ?r3, ?r4, ?r5, ?r6, ?r7, ?r8, trivial⟩ ?post
        case mono =>
          intro i v w w' h hb
          match i, h with
          | 0, h => exact h
          | 1, h => exact h
          | 2, h => exact h
          | 3, h => exact h
          | 4, h => exact h
          | 5, h => exact h
          | 6, h => exact h
          | 7, h => exact h
          | 8, h => exact h
          | _ + 9, h => trivial
        case r0 =>
          refine trule fun b__ w hW hold hpre => ⟨fun hwant K hK => ?_, fun hwant => ?_⟩
          · clear hwant
            have e0 : b__.eval (.tmp 0) = .slice (some ⟨b1, o1, none⟩) M.length c := (hold 0 (by kernel_rfl)).trans rfl
            exact opw_move rfl e0 (hK _ _ rfl (Below.refl _ _))
          · rw [want_none rfl] at hwant; cases hwant
        case r1 =>
          refine trule fun b__ w hW hold hpre => ⟨fun hwant K hK => ?_, fun hwant => ?_⟩
          · clear hwant
            have e5 : b__.eval (.tmp 5) = .int .i64 ((j : Nat) : Int) := (hold 5 (by kernel_rfl)).trans rfl
            exact opw_move rfl e5 (hK _ _ rfl (Below.refl _ _))
          · rw [want_none rfl] at hwant; cases hwant
        case r2 =>
          refine trule fun b__ w hW hold hpre => ⟨fun hwant K hK => ?_, fun hwant => ?_⟩
          · clear hwant
            have e16 : b__.eval (.tmp 16) = .slice (some ⟨b1, o1, none⟩) M.length c := hpre ⟨0, _⟩ (Array.mem_of_getElem? (i := 0) rfl) rfl _ _ rfl rfl
            have e17 : b__.eval (.tmp 17) = .int .i64 ((j : Nat) : Int) := hpre ⟨1, _⟩ (Array.mem_of_getElem? (i := 1) rfl) rfl _ _ rfl rfl
            exact opw_iaddr rfl e16 e17 (run_iaddr_lit (m := j) Tryd.underlying63 (by kernel_rfl) (by omega) (by omega)) (hK _ _ rfl (Below.refl _ _))
          · rw [want_none rfl] at hwant; cases hwant
        case r3 =>
          refine trule fun b__ w hW hold hpre => ⟨fun hwant K hK => ?_, fun hwant => ?_⟩
          · clear hwant
            have e18 : b__.eval (.tmp 18) = .pointer (some ⟨b1, o1 + (j) * 1, none⟩) := hpre ⟨2, _⟩ (Array.mem_of_getElem? (i := 0) rfl) rfl _ _ rfl rfl
            exact opw_cell rfl e18 (by kernel_rfl) (by rw [Nat.mul_one]; exact sl_cell (k1 _ _ (hS.ext (undrew hW)).ro) p1.out) (hK _ _ rfl (Below.refl _ _))
          · rw [want_none rfl] at hwant; cases hwant
        case r4 =>
          refine trule fun b__ w hW hold hpre => ⟨fun hwant K hK => ?_, fun hwant => ?_⟩
          · clear hwant
            have e1 : b__.eval (.tmp 1) = .slice (some ⟨b2, o2, none⟩) M.length d := (hold 1 (by kernel_rfl)).trans rfl
            exact opw_move rfl e1 (hK _ _ rfl (Below.refl _ _))
          · rw [want_none rfl] at hwant; cases hwant
        case r5 =>
          refine trule fun b__ w hW hold hpre => ⟨fun hwant K hK => ?_, fun hwant => ?_⟩
          · clear hwant
            have e5 : b__.eval (.tmp 5) = .int .i64 ((j : Nat) : Int) := (hold 5 (by kernel_rfl)).trans rfl
            exact opw_move rfl e5 (hK _ _ rfl (Below.refl _ _))
          · rw [want_none rfl] at hwant; cases hwant
        case r6 =>
          refine trule fun b__ w hW hold hpre => ⟨fun hwant K hK => ?_, fun hwant => ?_⟩
          · clear hwant
            have e20 : b__.eval (.tmp 20) = .slice (some ⟨b2, o2, none⟩) M.length d := hpre ⟨4, _⟩ (Array.mem_of_getElem? (i := 0) rfl) rfl _ _ rfl rfl
            have e21 : b__.eval (.tmp 21) = .int .i64 ((j : Nat) : Int) := hpre ⟨5, _⟩ (Array.mem_of_getElem? (i := 1) rfl) rfl _ _ rfl rfl
            exact opw_iaddr rfl e20 e21 (run_iaddr_lit (m := j) Tryd.underlying63 (by kernel_rfl) (by omega) (by omega)) (hK _ _ rfl (Below.refl _ _))
          · rw [want_none rfl] at hwant; cases hwant
        case r7 =>
          refine trule fun b__ w hW hold hpre => ⟨fun hwant K hK => ?_, fun hwant => ?_⟩
          · clear hwant
            have e22 : b__.eval (.tmp 22) = .pointer (some ⟨b2, o2 + (j) * 1, none⟩) := hpre ⟨6, _⟩ (Array.mem_of_getElem? (i := 0) rfl) rfl _ _ rfl rfl
            exact opw_cell rfl e22 (by kernel_rfl) (by rw [Nat.mul_one]; exact sl_cell (k2 _ _ (hS.ext (undrew hW)).ro) p2.out) (hK _ _ rfl (Below.refl _ _))
          · rw [want_none rfl] at hwant; cases hwant
        case r8 =>
          refine trule fun b__ w hW hold hpre => ⟨fun hwant K hK => ?_, fun hwant => ?_⟩
          · clear hwant
            have e19 : b__.eval (.tmp 19) = .int .u8 ((x : Nat) : Int) := hpre ⟨3, _⟩ (Array.mem_of_getElem? (i := 0) rfl) rfl _ _ rfl rfl
            have e23 : b__.eval (.tmp 23) = .int .u8 ((y : Nat) : Int) := hpre ⟨7, _⟩ (Array.mem_of_getElem? (i := 1) rfl) rfl _ _ rfl rfl
            exact opw_bin (vx := .int .u8 ((x : Nat) : Int)) (vy := .int .u8 ((y : Nat) : Int)) (v := .bool (decide ((x : Int) ≠ (y : Int)))) rfl e19 e23 rfl (run_neB rfl) (hK _ _ rfl (Below.refl _ _))
          · rw [want_none rfl] at hwant; cases hwant
        case post =>
          intro b__ wz hW hdf hsz hold hT
          have e16 : b__.eval (.tmp 16) = .slice (some ⟨b1, o1, none⟩) M.length c := hT 0 _ 16 rfl rfl
          have e17 : b__.eval (.tmp 17) = .int .i64 ((j : Nat) : Int) := hT 1 _ 17 rfl rfl
          have e18 : b__.eval (.tmp 18) = .pointer (some ⟨b1, o1 + (j) * 1, none⟩) := hT 2 _ 18 rfl rfl
          have e19 : b__.eval (.tmp 19) = .int .u8 ((x : Nat) : Int) := hT 3 _ 19 rfl rfl
          have e20 : b__.eval (.tmp 20) = .slice (some ⟨b2, o2, none⟩) M.length d := hT 4 _ 20 rfl rfl
          have e21 : b__.eval (.tmp 21) = .int .i64 ((j : Nat) : Int) := hT 5 _ 21 rfl rfl
          have e22 : b__.eval (.tmp 22) = .pointer (some ⟨b2, o2 + (j) * 1, none⟩) := hT 6 _ 22 rfl rfl
          have e23 : b__.eval (.tmp 23) = .int .u8 ((y : Nat) : Int) := hT 7 _ 23 rfl rfl
          have e24 : b__.eval (.tmp 24) = .bool (decide ((x : Int) ≠ (y : Int))) := hT 8 _ 24 rfl rfl
          obtain ⟨vs, hvs, hb⟩ := frame_of hdf hsz hold
          replace e16 : vs 16 = .slice (some ⟨b1, o1, none⟩) M.length c := (hvs 16).symm.trans e16
          replace e17 : vs 17 = .int .i64 ((j : Nat) : Int) := (hvs 17).symm.trans e17
          replace e18 : vs 18 = .pointer (some ⟨b1, o1 + (j) * 1, none⟩) := (hvs 18).symm.trans e18
          replace e19 : vs 19 = .int .u8 ((x : Nat) : Int) := (hvs 19).symm.trans e19
          replace e20 : vs 20 = .slice (some ⟨b2, o2, none⟩) M.length d := (hvs 20).symm.trans e20
          replace e21 : vs 21 = .int .i64 ((j : Nat) : Int) := (hvs 21).symm.trans e21
          replace e22 : vs 22 = .pointer (some ⟨b2, o2 + (j) * 1, none⟩) := (hvs 22).symm.trans e22
          replace e23 : vs 23 = .int .u8 ((y : Nat) : Int) := (hvs 23).symm.trans e23
          replace e24 : vs 24 = .bool (decide ((x : Int) ≠ (y : Int))) := (hvs 24).symm.trans e24
          subst hb
          clear hvs hold hT hdf hsz
          simp only [setAll, Act.put, List.setIfInBounds_toArray, List.set_cons_zero, List.set_cons_succ, List.getElem_toArray, List.getElem_cons_succ, List.getElem_cons_zero]
          rw [e24]
          replace hS := hS.ext hW
          by_cases hxy : x = y
          · have H3 := Lib.hid (HJ2.out hxy)
            rw [decide_eq_false (by simp [hxy])]
            clear hW e16 e17 e18 e19 e20 e21 e22 e23 e24 hxy
            go_wp2_with fail
            exact ⟨⟨j + 1, hlj, by go_num, H3, hS⟩, by simp [intOf]; omega⟩
          · have H3 := Lib.hid (HNE.out hxy)
            rw [decide_eq_true (by omega)]
            clear hW e16 e17 e18 e19 e20 e21 e22 e23 e24 hxy
            go_wp2_with fail
            go_ret
            exact Ret.mk (congrArg Value.bool (decide_eq_false H3.out).symm) hS.below
      · obtain rfl : j = L.length := by omega
        have H3 := Lib.hid (HE.out HJ.out)
        go_wp2_with (first | ((with_reducible show wpList _ _ _ (⟨_, .binOp _ _ _ _ _, _, _, _, _⟩ :: _) _ _); (first | (refine st_lss rfl _ _ _ _ rfl _ _ _ rfl rfl (fun h_ => ?_) (fun h_ => ?_)) | (refine st_leq rfl _ _ _ _ rfl _ _ _ rfl rfl (fun h_ => ?_) (fun h_ => ?_)) | (refine st_gtr rfl _ _ _ _ rfl _ _ _ rfl rfl (fun h_ => ?_) (fun h_ => ?_)) | (refine st_geq rfl _ _ _ _ rfl _ _ _ rfl rfl (fun h_ => ?_) (fun h_ => ?_)) | (refine st_eql rfl _ _ _ _ rfl _ _ _ rfl rfl (fun h_ => ?_) (fun h_ => ?_)) | (refine st_neq rfl _ _ _ _ rfl _ _ _ rfl rfl (fun h_ => ?_) (fun h_ => ?_))) <;> go_prune))
        go_ret
        exact Ret.mk (congrArg Value.bool (decide_eq_true H3.out).symm) hS.below
  · have HE : Hid (¬ L = M) := Lib.hid fun e => hlm (by rw [e])
    have hlm2 : ¬ ((L.length : Nat) : Int) = ((M.length : Nat) : Int) := by omega
    go_enter Tryd.func50, Tryd.ntmps50
    go_wp2_with (first | ((with_reducible show wpList _ _ _ (⟨_, .binOp _ _ _ _ _, _, _, _, _⟩ :: _) _ _); (first | (refine st_lss rfl _ _ _ _ rfl _ _ _ rfl rfl (fun h_ => ?_) (fun h_ => ?_)) | (refine st_leq rfl _ _ _ _ rfl _ _ _ rfl rfl (fun h_ => ?_) (fun h_ => ?_)) | (refine st_gtr rfl _ _ _ _ rfl _ _ _ rfl rfl (fun h_ => ?_) (fun h_ => ?_)) | (refine st_geq rfl _ _ _ _ rfl _ _ _ rfl rfl (fun h_ => ?_) (fun h_ => ?_)) | (refine st_eql rfl _ _ _ _ rfl _ _ _ rfl rfl (fun h_ => ?_) (fun h_ => ?_)) | (refine st_neq rfl _ _ _ _ rfl _ _ _ rfl rfl (fun h_ => ?_) (fun h_ => ?_))) <;> go_prune))
    go_ret
    exact Ret.mk (congrArg Value.bool (decide_eq_false HE.out).symm) hS.below
end Go.Proofs.YtmlkgaiphpimiaaDoor
namespace Go.Proofs.YtmlkgaiphpimiaaDoor
open Go.RowKit
attribute [local go_sem ↓] Go.wp_at_zero Go.wp_at_succ
set_option maxRecDepth 20000
set_option exponentiation.threshold 5000

theorem Fact.same {f : Fact} {base : Nat} {w w' : World} (h : f.holds base w) (he : ∀ k, f.blk = some k → w'.heap[k]? = w.heap[k]?) : f.holds base w' := by
  cases f with
  | box g t cs => exact ⟨h.1, (he g rfl).trans h.2⟩
  | own v e size n xs =>
    refine ⟨h.1, ?_⟩
    rcases h.2 with h | ⟨g, cap, cur, rfl, h2, h3, h4⟩
    · exact .inl h
    · exact .inr ⟨g, cap, cur, rfl, h2, (he g rfl).trans h3, h4⟩
  | obj g o => exact ⟨h.1, (he g rfl).trans h.2⟩
theorem St.isW {w0 w : World} {F : List Fact} {K : (Nat → Prop) → World → Prop} {q : Nat} {sv : Value} {bs : List Nat} (h : St w0 w (.box q 114 #[sv] :: .own sv 5 1 bs.length (u8s bs) :: F) K) : IsW w (fun k => sv.ownBlock = some k) q bs :=
  ⟨sv, h.box 0 rfl, (Fact.down (h.holds (.own sv 5 1 bs.length (u8s bs)) (by simp)) (Nat.zero_le _) :), fun _ h => h⟩
theorem St.wf {w0 w w' : World} {F : List Fact} {K : (Nat → Prop) → World → Prop} {q : Nat} {sv : Value} {bs bs' : List Nat} (h : St w0 w (.box q 114 #[sv] :: .own sv 5 1 bs.length (u8s bs) :: F) K)
    (hW : IsW w' (Since (fun k => sv.ownBlock = some k) w) q bs') (hF : WF (fun k => sv.ownBlock = some k) q w w') : ∃ sv', St w0 w' (.box q 114 #[sv'] :: .own sv' 5 1 bs'.length (u8s bs') :: F) K := by
  obtain ⟨sv', h1, h2, h3⟩ := hW
  have hq : w0.heap.size ≤ q := (h.holds (.box q 114 #[sv]) (by simp)).1
  have hr : ∀ k, sv.ownBlock = some k → w0.heap.size ≤ k := fun k hk => Fact.ge (h.holds (.own sv 5 1 bs.length (u8s bs)) (by simp)) hk
  have hap := h.apart
  rw [List.pairwise_cons, List.pairwise_cons] at hap
  have hge : ∀ k, sv'.ownBlock = some k → w0.heap.size ≤ k := fun k hk => (h3 k hk).elim (hr k) fun e => Nat.le_trans h.size e
  have hown : w'.ownsRow w0.heap.size 5 1 sv' bs'.length (u8s bs') := by
    refine ⟨h2.1, ?_⟩
    rcases h2.2 with e | ⟨g, cap, cur, rfl, e2, e3⟩
    · exact .inl e
    · exact .inr ⟨g, cap, cur, rfl, hge g rfl, e3⟩
  have hkeep : ∀ f ∈ F, ∀ k, f.blk = some k → w'.heap[k]? = w.heap[k]? := fun f hf k hk =>
    hF.other k (h.lt (by simp [hf]) hk) (fun e => hap.1 f (by simp [hf]) q rfl (by rw [hk, e])) fun e => hap.2.1 f hf k e hk
  have hqs : sv'.ownBlock ≠ some q := fun e => by
    have h5 := h1
    rcases h2.2 with e1 | ⟨g, cap, cur, rfl, e2, e3, _⟩
    · rw [e1.1] at e; cases e
    · injection e with e
      have e4 : w'.heap[g]? = _ := e3
      have e5 : w'.heap[q]? = _ := h5
      have e : g = q := e
      rw [e, e5] at e4
      simp at e4
  have hsv : ∀ f ∈ F, ∀ k, sv'.ownBlock = some k → f.blk ≠ some k := fun f hf k hk e => by
    rcases h3 k hk with h4 | h4
    · exact hap.2.1 f hf k h4 e
    · have := h.lt (f := f) (by simp [hf]) e; omega
  refine ⟨sv', h.below.trans ⟨hF.os, hF.tape, hF.output, hF.size, fun k hk => hF.other k (Nat.lt_of_lt_of_le hk h.size) (by omega) fun e => by have := hr k e; omega⟩, fun f hf => ?_, ?_, h.stable, ?_⟩
  · rcases List.mem_cons.1 hf with rfl | hf
    · exact ⟨hq, h1⟩
    · rcases List.mem_cons.1 hf with rfl | hf
      · exact hown
      · exact Fact.same (h.holds f (by simp [hf])) (hkeep f hf)
  · rw [List.pairwise_cons, List.pairwise_cons]
    refine ⟨fun f hf k hk e => ?_, fun f hf k hk => hsv f hf k hk, hap.2.2⟩
    injection hk with hk
    subst hk
    rcases List.mem_cons.1 hf with rfl | hf
    · exact hqs e
    · exact hap.1 f (by simp [hf]) _ rfl e
  · refine h.stable _ _ _ _ h.ro hF.size (fun p x hp hlt hc => ?_) fun b hb hlt _ f hf e => ?_
    · have hb : w'.heap[p.block]? = w.heap[p.block]? := hF.other _ hlt (fun e => hp (.box q 114 #[sv]) (by simp) (by rw [e]; rfl)) fun e => hp (.own sv 5 1 bs.length (u8s bs)) (by simp) e
      rw [← hc]
      simp only [World.cell?, hb]
    · rcases List.mem_cons.1 hf with rfl | hf
      · exact hb _ (List.mem_cons_self ..) e
      · rcases List.mem_cons.1 hf with rfl | hf
        · rcases h3 b e with h4 | h4
          · exact hb (.own sv 5 1 bs.length (u8s bs)) (by simp) h4
          · omega
        · exact hb f (by simp [hf]) e
theorem st_uint {w0 w : World} {F : List Fact} {K : (Nat → Prop) → World → Prop} {q : Nat} {sv : Value} {bs : List Nat} (h : St w0 w (.box q 114 #[sv] :: .own sv 5 1 bs.length (u8s bs) :: F) K) (v : Nat) (hv : v < T64) (hlen : bs.length ≤ 100000000000) :
    Calls Tryd.prog 75 #[.pointer (some ⟨q, 0, none⟩), .int .u64 (v : Nat)] w fun e w' => e = .returned (.tuple #[]) ∧ ∃ sv', St w0 w' (.box q 114 #[sv'] :: .own sv' 5 1 (bs ++ putN v).length (u8s (bs ++ putN v)) :: F) K :=
  (uint_any q v bs w _ h.isW hv hlen).mono fun _ _ ⟨h1, h2, h3⟩ => ⟨h1, h.wf h2 h3⟩
theorem st_wnew {w0 w : World} {F : List Fact} {K : (Nat → Prop) → World → Prop} (h : St w0 w F K) :
    Calls Tryd.prog 74 #[] w fun e w' => ∃ q, e = .returned (.pointer (some ⟨q, 0, none⟩)) ∧ ∃ sv, St w0 w' (.box q 114 #[sv] :: .own sv 5 1 ([] : List Nat).length (u8s []) :: F) K :=
  (newWriter_any w).mono fun _ _ ⟨h1, h2⟩ => ⟨_, h1, .slice none 0 0, by
    rw [h2]
    exact ((h.new ((Below.refl _ _).alloc (Nat.le_refl _) _) (.box w.heap.size 114 #[.slice none 0 0]) ⟨Nat.le_refl _, Box.new _ _ _⟩).nil 5 1).swap⟩
theorem st_wout {w0 w : World} {F : List Fact} {K : (Nat → Prop) → World → Prop} {q : Nat} {sv : Value} {bs : List Nat} (h : St w0 w (.box q 114 #[sv] :: .own sv 5 1 bs.length (u8s bs) :: F) K) (hlen : bs.length ≤ 1000000000000) (h0 : 0 < bs.length) :
    Calls Tryd.prog 76 #[.pointer (some ⟨q, 0, none⟩)] w fun e w' => ∃ v, e = .returned v ∧ St w0 w' (.own v 5 1 bs.length (u8s bs) :: .box q 114 #[sv] :: .own sv 5 1 bs.length (u8s bs) :: F) K :=
  (wout_own q bs w _ h.isW hlen).mono fun _ _ ⟨v, h1, h2, h3⟩ => ⟨v, h1, h.new h3 (.own v 5 1 bs.length (u8s bs)) (h2.2 h0)⟩
end Go.Proofs.YtmlkgaiphpimiaaDoor
namespace Go.Proofs.YtmlkgaiphpimiaaDoor
open Go.RowKit
attribute [local go_sem ↓] Go.wp_at_zero Go.wp_at_succ
set_option maxRecDepth 20000
set_option exponentiation.threshold 5000

def hpairs (L : List (Nat × Nat)) : List Nat := L.flatMap fun z => putN z.1 ++ putN z.2
def hencB (L : List (Nat × Nat)) : List Nat := putN L.length ++ hpairs L
theorem hpairs_step {L : List (Nat × Nat)} {j : Nat} {z : Nat × Nat} (h : L[j]? = some z) : hpairs (L.take (j + 1)) = hpairs (L.take j) ++ putN z.1 ++ putN z.2 := by
  unfold hpairs
  rw [List.take_add_one, h, List.flatMap_append, List.append_assoc]
  simp
theorem hpairs_len (L : List (Nat × Nat)) : (hpairs L).length ≤ 22 * L.length := by
  induction L with
  | nil => simp [hpairs]
  | cons z L ih =>
    have h1 := putN_len z.1
    have h2 := putN_len z.2
    simp [hpairs] at *
    omega
theorem putN_gt0 (v : Nat) : 0 < (putN v).length := by simp [putN]
theorem run_convU {w : World} {n : Nat} (h : n < T64) : (convert 3 22 (.int .i64 (n : Nat))).run Tryd.prog w = .ok (.int .u64 (n : Nat)) w := by
  go_simp
  exact wrap_u64_nat h
set_option maxHeartbeats 1000000 in
theorem hbytes_any {w0 : World} {D : Nat → Prop} {p : Value} {L : List (Nat × Nat)} (h : IsH w0 D p L) (hH : HOK L) (hl : L.length ≤ 900000) : Calls Tryd.prog 47 #[p] w0 fun e w' => ∃ v, e = .returned v ∧ St w0 w' [.own v 5 1 (hencB L).length (u8s (hencB L))] fun _ _ => True := by
  obtain ⟨K, kI, hS⟩ : ∃ K : (Nat → Prop) → World → Prop, (∀ D w, K D w → IsH w D p L) ∧ St w0 w0 [] K := ⟨_, fun _ _ h => h, St.start stable_isH h⟩
  obtain ⟨q, o, rfl, -⟩ := id h
  clear h
  have hlT : Hid (L.length < T64) := Lib.hid (by rw [T64_eq]; omega)
  have HP := Lib.hid (hpairs_len L)
  have HQ := Lib.hid (putN_len L.length)
  go_enter Tryd.func47, Tryd.ntmps47
  go_wp2_with (first
    | ((with_reducible show wpList _ _ _ (⟨_, .binOp _ _ _ _ _, _, _, _, _⟩ :: _) _ _); (first | (refine st_lss rfl _ _ _ _ rfl _ _ _ rfl rfl (fun h_ => ?_) (fun h_ => ?_)) | (refine st_leq rfl _ _ _ _ rfl _ _ _ rfl rfl (fun h_ => ?_) (fun h_ => ?_)) | (refine st_gtr rfl _ _ _ _ rfl _ _ _ rfl rfl (fun h_ => ?_) (fun h_ => ?_)) | (refine st_geq rfl _ _ _ _ rfl _ _ _ rfl rfl (fun h_ => ?_) (fun h_ => ?_)) | (refine st_eql rfl _ _ _ _ rfl _ _ _ rfl rfl (fun h_ => ?_) (fun h_ => ?_)) | (refine st_neq rfl _ _ _ _ rfl _ _ _ rfl rfl (fun h_ => ?_) (fun h_ => ?_))) <;> go_prune)
    | (go_at_call 74; refine (st_wnew hS).mono ?_; clear hS; rintro e w_ ⟨g, rfl, sv, hS⟩)
    | (go_at_call 31; refine (hlinks_any (kI _ _ hS.ro) (by omega)).mono ?_; rintro e w_ ⟨v1, rfl, hs⟩; replace hS := hS.new hs.below (.own v1 50 2 L.length (pcells L)) (hs.own 0 rfl); clear hs; replace hS := hS.freeze 0 (by decide) rfl; obtain ⟨A1, c1, rfl, _, _⟩ := hS.ro.2.shape; obtain ⟨KX, kL, hS2⟩ : ∃ KX : (Nat → Prop) → World → Prop, (∀ D w, KX D w → Sl w D 2 (.slice A1 L.length c1) L.length (pcells L)) ∧ St w0 w_ [.box g 114 #[sv], .own sv 5 1 ([] : List Nat).length (u8s [])] KX := ⟨_, fun _ _ h => h.2, hS⟩; clear hS; have hS := hS2; clear hS2)
    | ((with_reducible show wpList _ _ _ (⟨some 15, _, _, _, _, _⟩ :: _) _ _); refine BigFrame.wpList_want rfl fun _ hK => opw_conv (vx := .int .i64 (L.length : Nat)) (v := .int .u64 (L.length : Nat)) rfl rfl (run_convU hlT.out) (hK _ _ ?_))
    | (go_at_call 75; refine (st_uint hS L.length hlT.out (by simp)).mono ?_; clear hS; rintro e w_ ⟨rfl, sv2, hS⟩))
  go_loopw [19] (fun i wr => ∃ (j : Nat) (sv : Value), i = .int .i64 (j : Nat) ∧ j ≤ L.length ∧ St w0 wr [.box g 114 #[sv], .own sv 5 1 (putN L.length ++ hpairs (L.take j)).length (u8s (putN L.length ++ hpairs (L.take j)))] KX) (fun i _ => L.length - (intOf i).toNat)
  case atStart => exact ⟨0, sv2, rfl, by omega, by simpa [hpairs] using hS⟩
  case round =>
    clear hS
    obtain ⟨j, sv, rfl, hj, hS⟩ := hrel
    by_cases hlj : j < L.length
    · obtain ⟨f1, f2⟩ := pcells_at L j hlj
      have HST := Lib.hid (hpairs_step (getD_at (0, 0) hlj))
      have hm := hH.role (L.getD j (0, 0)) (by rw [List.getD_eq_getElem?_getD, List.getElem?_eq_getElem hlj]; exact List.getElem_mem hlj)
      generalize L.getD j (0, 0) = z at *
      obtain ⟨za, zb⟩ := z
      dsimp only at f1 f2 hm HST
      have HA : Hid (za < T64) := Lib.hid (by rw [T64_eq]; omega)
      have HB : Hid (zb < T64) := Lib.hid (by rw [T64_eq]; omega)
      have HLN : Hid ((putN L.length ++ hpairs (L.take j)).length ≤ 11 + 22 * L.length) := Lib.hid (by
        have h1 := hpairs_len (L.take j)
        have h2 := HQ.out
        rw [List.length_take] at h1
        rw [List.length_append]; omega)
      have HPA := Lib.hid (putN_len za)
      generalize hBS : putN L.length ++ hpairs (L.take j) = bs at *
      have HE : Hid (putN L.length ++ hpairs (L.take (j + 1)) = bs ++ putN za ++ putN zb) := Lib.hid (by rw [HST.out, ← hBS]; simp)
      clear HST hBS
      go_wp2_with (first
        | ((with_reducible show wpList _ _ _ (⟨_, .binOp _ _ _ _ _, _, _, _, _⟩ :: _) _ _); (first | (refine st_lss rfl _ _ _ _ rfl _ _ _ rfl rfl (fun h_ => ?_) (fun h_ => ?_)) | (refine st_leq rfl _ _ _ _ rfl _ _ _ rfl rfl (fun h_ => ?_) (fun h_ => ?_)) | (refine st_gtr rfl _ _ _ _ rfl _ _ _ rfl rfl (fun h_ => ?_) (fun h_ => ?_)) | (refine st_geq rfl _ _ _ _ rfl _ _ _ rfl rfl (fun h_ => ?_) (fun h_ => ?_)) | (refine st_eql rfl _ _ _ _ rfl _ _ _ rfl rfl (fun h_ => ?_) (fun h_ => ?_)) | (refine st_neq rfl _ _ _ _ rfl _ _ _ rfl rfl (fun h_ => ?_) (fun h_ => ?_))) <;> go_prune)
        | ((with_reducible show wpList _ _ _ (⟨_, .indexAddr _ _ _, _, _, _, _⟩ :: _) _ _); refine st_iaddr2 hS rfl _ _ _ rfl _ rfl rfl (by assumption) Tryd.underlying25 (by kernel_rfl) (by first | assumption | omega) _ _ (by assumption) (by assumption) ?_; intro b_ j_ hc0_ hc1_)
        | ((with_reducible show wpList _ _ _ (⟨some 6, _, _, _, _, _⟩ :: _) _ _); refine st_alloc hS rfl _ rfl (by kernel_rfl) ?_; clear hS; intro g6 w_ hS; (try simp only [Act.put, Act.eval, List.set_cons_zero, List.set_cons_succ, List.setIfInBounds_toArray, Array.getD_eq_getD_getElem?, List.getElem?_toArray, List.getElem?_cons_succ, List.getElem?_cons_zero, Option.getD_some, Value.cells] at hS))
        | ((with_reducible show wpList _ _ _ (⟨_, .store _ _ _, _, _, _, _⟩ :: _) _ _); (first | (refine st_store hS 0 rfl _ _ _ rfl _ _ rfl rfl _ _ rfl (by kernel_rfl) (by kernel_rfl) (by kernel_rfl) ?_) | (refine st_store hS 1 rfl _ _ _ rfl _ _ rfl rfl _ _ rfl (by kernel_rfl) (by kernel_rfl) (by kernel_rfl) ?_) | (refine st_store hS 2 rfl _ _ _ rfl _ _ rfl rfl _ _ rfl (by kernel_rfl) (by kernel_rfl) (by kernel_rfl) ?_) | (refine st_store hS 3 rfl _ _ _ rfl _ _ rfl rfl _ _ rfl (by kernel_rfl) (by kernel_rfl) (by kernel_rfl) ?_) | (refine st_cstore hS 0 rfl _ _ _ rfl _ _ _ rfl rfl rfl (by first | (simp; done) | (simp; omega) | exact of_decide_eq_true (by kernel_rfl)) rfl (by first | rfl | assumption) (by kernel_rfl) ?_) | (refine st_cstore hS 1 rfl _ _ _ rfl _ _ _ rfl rfl rfl (by first | (simp; done) | (simp; omega) | exact of_decide_eq_true (by kernel_rfl)) rfl (by first | rfl | assumption) (by kernel_rfl) ?_) | (refine st_cstore hS 2 rfl _ _ _ rfl _ _ _ rfl rfl rfl (by first | (simp; done) | (simp; omega) | exact of_decide_eq_true (by kernel_rfl)) rfl (by first | rfl | assumption) (by kernel_rfl) ?_) | (refine st_cstore hS 3 rfl _ _ _ rfl _ _ _ rfl rfl rfl (by first | (simp; done) | (simp; omega) | exact of_decide_eq_true (by kernel_rfl)) rfl (by first | rfl | assumption) (by kernel_rfl) ?_)); clear hS; intro w_ hS; (try simp only [Act.put, Act.eval, List.set_cons_zero, List.set_cons_succ, List.setIfInBounds_toArray, Array.getD_eq_getD_getElem?, List.getElem?_toArray, List.getElem?_cons_succ, List.getElem?_cons_zero, Option.getD_some, Value.cells] at hS))
        | ((with_reducible show wpList _ _ _ (⟨_, .load _ _, _, _, _, _⟩ :: _) _ _); first | refine st_load hS 0 rfl _ _ rfl _ rfl _ _ rfl _ Tryd.underlying50 rfl (by kernel_rfl) ?_ | refine st_load hS 1 rfl _ _ rfl _ rfl _ _ rfl _ Tryd.underlying50 rfl (by kernel_rfl) ?_ | refine st_load hS 2 rfl _ _ rfl _ rfl _ _ rfl _ Tryd.underlying50 rfl (by kernel_rfl) ?_ | refine st_load hS 3 rfl _ _ rfl _ rfl _ _ rfl _ Tryd.underlying50 rfl (by kernel_rfl) ?_)
        | ((with_reducible show wpList _ _ _ (⟨some 26, _, _, _, _, _⟩ :: _) _ _); refine BigFrame.wpList_want rfl fun _ hK => opw_conv (vx := .int .i64 (za : Nat)) (v := .int .u64 (za : Nat)) rfl rfl (run_convU HA.out) (hK _ _ ?_))
        | ((with_reducible show wpList _ _ _ (⟨some 31, _, _, _, _, _⟩ :: _) _ _); refine BigFrame.wpList_want rfl fun _ hK => opw_conv (vx := .int .i64 (zb : Nat)) (v := .int .u64 (zb : Nat)) rfl rfl (run_convU HB.out) (hK _ _ ?_))
        | (go_at_call 75; first
           | ((with_reducible show Calls _ _ #[_, .int .u64 (zb : Nat)] _ _); refine (st_uint hS zb HB.out (by have := HLN.out; have := HPA.out; rw [List.length_append]; omega)).mono ?_; clear hS; rintro e w_ ⟨rfl, sv4, hS⟩)
           | (replace hS := hS.perm (F' := [.box g 114 #[sv], .own sv 5 1 bs.length (u8s bs), .box g6 50 #[.int .i64 (za : Nat), .int .i64 (zb : Nat)]]) ((List.perm_append_comm (l₁ := [_, _]) (l₂ := [_]))); refine (st_uint hS za HA.out (by have := HLN.out; omega)).mono ?_; clear hS; rintro e w_ ⟨rfl, sv3, hS⟩))
        | ((with_reducible show wpList _ _ _ (⟨_, .load _ _, _, _, _, _⟩ :: _) _ _); first | (refine st_cell hS 0 rfl _ _ rfl _ _ rfl _ _ rfl (by decide +kernel) _ (by first | assumption | rfl) ?_) | (refine st_cell hS 1 rfl _ _ rfl _ _ rfl _ _ rfl (by decide +kernel) _ (by first | assumption | rfl) ?_) | (refine st_cell hS 2 rfl _ _ rfl _ _ rfl _ _ rfl (by decide +kernel) _ (by first | assumption | rfl) ?_) | (refine st_cell hS 3 rfl _ _ rfl _ _ rfl _ _ rfl (by decide +kernel) _ (by first | assumption | rfl) ?_) | (refine st_cell hS 4 rfl _ _ rfl _ _ rfl _ _ rfl (by decide +kernel) _ (by first | assumption | rfl) ?_) | (refine st_cell hS 5 rfl _ _ rfl _ _ rfl _ _ rfl (by decide +kernel) _ (by first | assumption | rfl) ?_) | (refine st_cell hS 6 rfl _ _ rfl _ _ rfl _ _ rfl (by decide +kernel) _ (by first | assumption | rfl) ?_) | (refine st_cell hS 7 rfl _ _ rfl _ _ rfl _ _ rfl (by decide +kernel) _ (by first | assumption | rfl) ?_)))
      refine ⟨⟨j + 1, sv4, by go_num, hlj, ?_⟩, by simp [intOf]; omega⟩
      rw [HE.out]
      exact hS.sub ((List.nil_sublist _).cons_cons _ |>.cons_cons _)
    · obtain rfl : j = L.length := by omega
      rw [List.take_length] at hS
      have hlen : Hid ((hencB L).length ≤ 1000000000000 ∧ 0 < (hencB L).length) := Lib.hid (by
        have h1 := HP.out
        have h2 := HQ.out
        have h3 := putN_gt0 L.length
        unfold hencB
        rw [List.length_append]; omega)
      go_wp2_with (first
        | ((with_reducible show wpList _ _ _ (⟨_, .binOp _ _ _ _ _, _, _, _, _⟩ :: _) _ _); (first | (refine st_lss rfl _ _ _ _ rfl _ _ _ rfl rfl (fun h_ => ?_) (fun h_ => ?_)) | (refine st_leq rfl _ _ _ _ rfl _ _ _ rfl rfl (fun h_ => ?_) (fun h_ => ?_)) | (refine st_gtr rfl _ _ _ _ rfl _ _ _ rfl rfl (fun h_ => ?_) (fun h_ => ?_)) | (refine st_geq rfl _ _ _ _ rfl _ _ _ rfl rfl (fun h_ => ?_) (fun h_ => ?_)) | (refine st_eql rfl _ _ _ _ rfl _ _ _ rfl rfl (fun h_ => ?_) (fun h_ => ?_)) | (refine st_neq rfl _ _ _ _ rfl _ _ _ rfl rfl (fun h_ => ?_) (fun h_ => ?_))) <;> go_prune)
        | (go_at_call 76; refine (st_wout hS hlen.out.1 hlen.out.2).mono ?_; clear hS; rintro e w_ ⟨v, rfl, hS⟩))
      go_ret
      exact ⟨_, rfl, (hS.sub ((List.nil_sublist _).cons_cons _)).mono (Stable.pure True) fun _ _ _ => trivial⟩
end Go.Proofs.YtmlkgaiphpimiaaDoor
