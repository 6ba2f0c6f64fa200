/-
  The reader's methods: byte strings, its error, its end, a new one.
-/
import Derived.Test.YtenpkgdnlogfiaaDoorRd2
namespace Go.Proofs.YtenpkgdnlogfiaaDoor
open Go.RowKit
attribute [local go_sem ↓] Go.wp_at_zero Go.wp_at_succ
set_option maxRecDepth 20000

theorem rerr_any (q : Nat) (err : Int) (w : World) (hc : w.cell? ⟨q, 1, none⟩ = some (.int .i64 err)) :
    Calls Tryd.prog 57 #[.pointer (some ⟨q, 0, none⟩)] w fun e w' => e = .returned (.int .i64 err) ∧ w = w' := by
  go_enter Tryd.func57, Tryd.ntmps57
  go_wp2_with fail
  go_ret
  exact ⟨rfl, rfl⟩
/-- what End says -/
def endE (left : List Nat) (err : Int) : Int := if err = 0 ∧ left ≠ [] then 6 else err
theorem rend_any {w0 w : World} {X : List Fact} {K : (Nat → Prop) → World → Prop} {q : Nat} {left : List Nat} {err : Int} (hR : Rd w0 w X K q left err) :
    Calls Tryd.prog 23 #[.pointer (some ⟨q, 0, none⟩)] w fun e w' => e = .returned (.int .i64 (endE left err)) ∧ w = w' := by
  obtain ⟨_, A, c, l1, l2, hS⟩ := id hR
  go_enter Tryd.func23, Tryd.ntmps23
  by_cases h0 : err = 0
  · subst h0
    go_wp2_with (first | ((with_reducible show wpList _ _ _ (⟨_, .load _ _, _, _, _, _⟩ :: _) _ _); first | (refine st_cell hS 0 rfl _ _ rfl _ _ rfl _ _ rfl (by decide +kernel) _ (by first | assumption | rfl) ?_) | (refine st_cell hS 1 rfl _ _ rfl _ _ rfl _ _ rfl (by decide +kernel) _ (by first | assumption | rfl) ?_) | (refine st_cell hS 2 rfl _ _ rfl _ _ rfl _ _ rfl (by decide +kernel) _ (by first | assumption | rfl) ?_)) | ((with_reducible show wpList _ _ _ (⟨_, .binOp _ _ _ _ _, _, _, _, _⟩ :: _) _ _); (first | ((with_reducible show wpList _ _ _ (⟨_, .binOp .lss _ _ _ _, _, _, _, _⟩ :: _) _ _); refine st_lss rfl _ _ _ _ rfl _ _ _ rfl rfl (fun h_ => ?_) (fun h_ => ?_)) | ((with_reducible show wpList _ _ _ (⟨_, .binOp .leq _ _ _ _, _, _, _, _⟩ :: _) _ _); refine st_leq rfl _ _ _ _ rfl _ _ _ rfl rfl (fun h_ => ?_) (fun h_ => ?_)) | ((with_reducible show wpList _ _ _ (⟨_, .binOp .gtr _ _ _ _, _, _, _, _⟩ :: _) _ _); refine st_gtr rfl _ _ _ _ rfl _ _ _ rfl rfl (fun h_ => ?_) (fun h_ => ?_)) | ((with_reducible show wpList _ _ _ (⟨_, .binOp .geq _ _ _ _, _, _, _, _⟩ :: _) _ _); refine st_geq rfl _ _ _ _ rfl _ _ _ rfl rfl (fun h_ => ?_) (fun h_ => ?_)) | ((with_reducible show wpList _ _ _ (⟨_, .binOp .eql _ _ _ _, _, _, _, _⟩ :: _) _ _); refine st_eql rfl _ _ _ _ rfl _ _ _ rfl rfl (fun h_ => ?_) (fun h_ => ?_)) | ((with_reducible show wpList _ _ _ (⟨_, .binOp .neq _ _ _ _, _, _, _, _⟩ :: _) _ _); refine st_neq rfl _ _ _ _ rfl _ _ _ rfl rfl (fun h_ => ?_) (fun h_ => ?_))) <;> go_prune) | (go_at_call 48; refine (rok_any _ _ _ hR.errc).mono ?_; rintro r_ w_ ⟨rfl, rfl⟩) | (go_at_call 57; refine (rerr_any _ _ _ hR.errc).mono ?_; rintro r_ w_ ⟨rfl, rfl⟩))
    · have hE : endE left 0 = 6 := by
        unfold endE; rw [if_pos]; refine ⟨rfl, fun e => ?_⟩; subst e; simp at h_
      rw [hE]; go_ret; exact ⟨rfl, rfl⟩
    · have hE : endE left 0 = 0 := by
        unfold endE; rw [if_neg]; rintro ⟨_, h⟩; exact h (List.eq_nil_of_length_eq_zero (by omega))
      rw [hE]; go_ret; exact ⟨rfl, rfl⟩
  · have hd : decide (err = 0) = false := by simpa using h0
    have HE := Lib.hid (show endE left err = err by unfold endE; rw [if_neg]; rintro ⟨h, _⟩; exact h0 h)
    go_wp2_with (first | (go_at_call 48; refine (rok_any _ _ _ hR.errc).mono ?_; rw [hd]; rintro r_ w_ ⟨rfl, rfl⟩) | (go_at_call 57; refine (rerr_any _ _ _ hR.errc).mono ?_; rintro r_ w_ ⟨rfl, rfl⟩))
    rw [HE.out]
    go_ret
    exact ⟨rfl, rfl⟩
theorem rnew_any {w0 w : World} {F : List Fact} {K : (Nat → Prop) → World → Prop} (p : Value) (ps : List Nat) (hl : ps.length ≤ 1000000000000) (hS : St w0 w F K) (hp : Sl w (Free F) 1 p ps.length (u8s ps)) :
    Calls Tryd.prog 15 #[p] w fun r w' => ∃ q, r = .returned (.pointer (some ⟨q, 0, none⟩)) ∧ Rd w0 w' F K q ps 0 := by
  obtain ⟨A, c, rfl, _, _⟩ := hp.shape
  have HC := Lib.hid (clone_bytes_any _ ps w _ hp hl)
  have HK := Lib.hid hS.stable
  clear hp
  go_enter Tryd.func15, Tryd.ntmps15
  go_wp2_with fail
  refine HC.out.mono ?_
  rintro r w2 ⟨v, rfl, h2, hb2⟩
  obtain ⟨A2, c2, rfl, l1, l2⟩ := h2.shape
  replace hS := hS.ret hb2 stable_sl h2
  go_wp2_with (first
    | ((with_reducible show wpList _ _ _ (⟨_, .build _ _, _, _, _, _⟩ :: _) _ _); refine wpList_build_of rfl _ _ rfl #[.slice A2 ps.length c2, .int .i64 0] (by kernel_rfl) ?_)
    | ((with_reducible show wpList _ _ _ (⟨some 6, _, _, _, _, _⟩ :: _) _ _); refine st_box hS rfl _ _ rfl (.agg #[.slice A2 ps.length c2, .int .i64 0]) _ rfl rfl ?_; clear hS; intro q w_ hS; (try simp only [Act.put, Act.eval, List.set_cons_zero, List.set_cons_succ, List.setIfInBounds_toArray, Array.getD_eq_getD_getElem?, List.getElem?_toArray, List.getElem?_cons_succ, List.getElem?_cons_zero, Option.getD_some, Value.cells] at hS)))
  go_ret
  exact ⟨_, rfl, HK.out, A2, c2, l1, by unfold maxLen; omega, hS⟩
/-- what Bytes reads -/
def readBytes (most : Nat) (left : List Nat) (err : Int) : List Nat × List Nat × Int :=
  if err = 0 then
    if (numR left 0 0).2 = 0 then ([], left, 6) else if most < (numR left 0 0).1 then ([], left, 3)
    else if left.length - (numR left 0 0).2 < (numR left 0 0).1 then ([], left, 6)
    else ((left.drop (numR left 0 0).2).take (numR left 0 0).1, (left.drop (numR left 0 0).2).drop (numR left 0 0).1, 0)
  else ([], left, err)
theorem rbytes_any {w0 w : World} {X : List Fact} {K : (Nat → Prop) → World → Prop} {q : Nat} {left : List Nat} {err : Int} (most : Nat) (hm : most ≤ 1000000000000) (hl : left.length ≤ 1000000000000) (hb : Bytes left) (hR : Rd w0 w X K q left err) :
    Calls Tryd.prog 54 #[.pointer (some ⟨q, 0, none⟩), .int .i64 most] w fun r w' => ∃ v, r = .returned v ∧ Rd w0 w' X (fun D w => K D w ∧ Sl w D 1 v (readBytes most left err).1.length (u8s (readBytes most left err).1)) q (readBytes most left err).2.1 (readBytes most left err).2.2 := by
  have HK := Lib.hid hR.1
  have hnil : ∀ D w, K D w → (K D w ∧ Sl w D 1 (.slice none 0 0) ([] : List Nat).length (u8s [])) := fun D w h => ⟨h, Sl.none_⟩
  have hw := wrap_u64_nat (m := most) (by unfold T64; omega)
  go_enter Tryd.func54, Tryd.ntmps54
  by_cases h0 : err = 0
  · subst h0
    have HE := Lib.hid (show readBytes most left 0 = if (numR left 0 0).2 = 0 then ([], left, 6) else if most < (numR left 0 0).1 then ([], left, 3)
      else if left.length - (numR left 0 0).2 < (numR left 0 0).1 then ([], left, 6)
      else ((left.drop (numR left 0 0).2).take (numR left 0 0).1, (left.drop (numR left 0 0).2).drop (numR left 0 0).1, 0) from rfl)
    generalize readBytes most left 0 = RES at *
    have hn := (numR_lt left 0 0 (by decide) hb).2
    have HN := Lib.hid fun (w : World) (h : Rd w0 w X K q left 0) => rnumber_any (w := w) hl hb h
    generalize numR left 0 0 = V at *
    obtain ⟨v, n⟩ := V
    dsimp only at hn HN HE
    have hsub : IntKind.i64.wrap ((left.length : Int) - n) = (left.length : Int) - n := by rw [IntKind.wrap_i64]; omega
    have hsub2 : IntKind.u64.wrap ((left.length : Int) - n) = (left.length : Int) - n := by rw [IntKind.wrap_u64]; omega
    go_wp2_with (first
      | ((with_reducible show wpList _ _ _ (⟨_, .binOp _ _ _ _ _, _, _, _, _⟩ :: _) _ _); (first | ((with_reducible show wpList _ _ _ (⟨_, .binOp .lss _ _ _ _, _, _, _, _⟩ :: _) _ _); refine st_lss rfl _ _ _ _ rfl _ _ _ rfl rfl (fun h_ => ?_) (fun h_ => ?_)) | ((with_reducible show wpList _ _ _ (⟨_, .binOp .leq _ _ _ _, _, _, _, _⟩ :: _) _ _); refine st_leq rfl _ _ _ _ rfl _ _ _ rfl rfl (fun h_ => ?_) (fun h_ => ?_)) | ((with_reducible show wpList _ _ _ (⟨_, .binOp .gtr _ _ _ _, _, _, _, _⟩ :: _) _ _); refine st_gtr rfl _ _ _ _ rfl _ _ _ rfl rfl (fun h_ => ?_) (fun h_ => ?_)) | ((with_reducible show wpList _ _ _ (⟨_, .binOp .geq _ _ _ _, _, _, _, _⟩ :: _) _ _); refine st_geq rfl _ _ _ _ rfl _ _ _ rfl rfl (fun h_ => ?_) (fun h_ => ?_)) | ((with_reducible show wpList _ _ _ (⟨_, .binOp .eql _ _ _ _, _, _, _, _⟩ :: _) _ _); refine st_eql rfl _ _ _ _ rfl _ _ _ rfl rfl (fun h_ => ?_) (fun h_ => ?_)) | ((with_reducible show wpList _ _ _ (⟨_, .binOp .neq _ _ _ _, _, _, _, _⟩ :: _) _ _); refine st_neq rfl _ _ _ _ rfl _ _ _ rfl rfl (fun h_ => ?_) (fun h_ => ?_))) <;> go_prune)
      | (go_at_call 48; refine (rok_any _ _ _ hR.errc).mono ?_; rintro r_ w_ ⟨rfl, rfl⟩)
      | (go_at_call 49; refine (refuse_any _ _ hR).mono ?_; clear hR; rintro r_ w_ ⟨rfl, hR⟩)
      | (go_at_call 51; refine (HN.out _ hR).mono ?_; rintro r_ w_ ⟨rfl, rfl⟩)
      | ((with_reducible show wpList _ _ _ (⟨some 42, _, _, _, _, _⟩ :: _) _ _); obtain ⟨_, A, c, l1, l2, hS⟩ := id hR; refine st_cell hS 0 rfl _ _ rfl _ _ rfl _ _ rfl (by decide +kernel) _ rfl ?_; clear hS))
    · have hE : RES = ([], left, 6) := by rw [HE.out, if_pos (by omega)]
      subst hE; go_ret; exact ⟨_, rfl, hR.weak (HK.out.and stable_sl) hnil⟩
    · have hE : RES = ([], left, 3) := by rw [HE.out, if_neg (by omega), if_pos (by omega)]
      subst hE; go_ret; exact ⟨_, rfl, hR.weak (HK.out.and stable_sl) hnil⟩
    · have hE : RES = ([], left, 6) := by rw [HE.out, if_neg (by omega), if_neg (by omega), if_pos (by omega)]
      subst hE; go_ret; exact ⟨_, rfl, hR.weak (HK.out.and stable_sl) hnil⟩
    · have hE : RES = ((left.drop n).take v, (left.drop n).drop v, 0) := by rw [HE.out, if_neg (by omega), if_neg (by omega), if_neg (by omega)]
      have hw2 := wrap_i64_nat (m := v) (by omega)
      have hle : v ≤ (left.drop n).length := by rw [List.length_drop]; omega
      have hl2 : (left.drop n).length ≤ 1000000000000 := by rw [List.length_drop]; omega
      refine (rtake_any n (by omega) hl hR).mono ?_
      rintro r w2 ⟨v2, rfl, hR2⟩
      replace hR2 := hR2.weak HK.out fun _ _ h => h.1
      go_wp2_with fail
      refine (rtake_any v hle hl2 hR2).mono ?_
      rintro r w3 ⟨v3, rfl, hR3⟩
      go_wp2_with fail
      subst hE; go_ret
      refine ⟨_, rfl, hR3.weak (HK.out.and stable_sl) fun D w h => ⟨h.1, ?_⟩⟩
      rw [show ((left.drop n).take v).length = v by rw [List.length_take]; omega]
      exact h.2
  · have hd : decide (err = 0) = false := by simpa using h0
    have HE := Lib.hid (show readBytes most left err = ([], left, err) by rw [readBytes, if_neg h0])
    go_wp2_with (go_at_call 48; refine (rok_any _ _ _ hR.errc).mono ?_; rw [hd]; rintro r_ w_ ⟨rfl, rfl⟩)
    rw [HE.out]
    go_ret
    exact ⟨_, rfl, hR.weak (HK.out.and stable_sl) hnil⟩
end Go.Proofs.YtenpkgdnlogfiaaDoor
