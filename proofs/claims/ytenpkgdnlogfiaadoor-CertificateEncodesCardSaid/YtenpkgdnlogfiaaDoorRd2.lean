/-
  The reader's methods: numbers, flags, counts, raw bytes.
-/
import Derived.Test.YtenpkgdnlogfiaaDoorRd1
namespace Go.Proofs.YtenpkgdnlogfiaaDoor
open Go.RowKit
attribute [local go_sem ↓] Go.wp_at_zero Go.wp_at_succ
set_option maxRecDepth 20000

theorem Rd.weak {w0 w : World} {X : List Fact} {K K' : (Nat → Prop) → World → Prop} {q : Nat} {left : List Nat} {err : Int} (h : Rd w0 w X K q left err) (hs : Stable K') (hk : ∀ D w, K D w → K' D w) : Rd w0 w X K' q left err := by
  obtain ⟨_, A, c, l1, l2, hS⟩ := h
  exact ⟨hs, A, c, l1, l2, hS.mono (hs.and stable_sl) fun D w h => ⟨hk D w h.1, h.2⟩⟩
theorem Rd.cast {w0 w : World} {X : List Fact} {K : (Nat → Prop) → World → Prop} {q : Nat} {left left' : List Nat} {err err' : Int} (h : Rd w0 w X K q left err) (e1 : left = left') (e2 : err = err') : Rd w0 w X K q left' err' := by subst e1 e2; exact h
/-- what Uint reads: the number, what is left, the error -/
def readUint (most : Nat) (left : List Nat) (err : Int) : Nat × List Nat × Int :=
  if err = 0 then
    if (numR left 0 0).2 = 0 then (0, left, 6) else if most < (numR left 0 0).1 then (0, left, 2) else ((numR left 0 0).1, left.drop (numR left 0 0).2, 0)
  else (0, left, err)
theorem ruint_any {w0 w : World} {X : List Fact} {K : (Nat → Prop) → World → Prop} {q : Nat} {left : List Nat} {err : Int} (most : Nat) (hl : left.length ≤ 1000000000000) (hb : Bytes left) (hR : Rd w0 w X K q left err) :
    Calls Tryd.prog 52 #[.pointer (some ⟨q, 0, none⟩), .int .u64 most] w fun r w' => r = .returned (.int .u64 (readUint most left err).1) ∧ Rd w0 w' X K q (readUint most left err).2.1 (readUint most left err).2.2 := by
  have HK := Lib.hid hR.1
  go_enter Tryd.func52, Tryd.ntmps52
  by_cases h0 : err = 0
  · subst h0
    have HE := Lib.hid (show readUint most left 0 = if (numR left 0 0).2 = 0 then (0, left, 6) else if most < (numR left 0 0).1 then (0, left, 2) else ((numR left 0 0).1, left.drop (numR left 0 0).2, 0) from rfl)
    generalize readUint most left 0 = RES at *
    have hn := (numR_lt left 0 0 (by decide) hb).2
    have HN := Lib.hid (@rnumber_any w0 w X K q left 0 hl hb hR)
    generalize numR left 0 0 = V at *
    obtain ⟨v, n⟩ := V
    dsimp only at hn HN HE
    go_wp2_with (first | ((with_reducible show wpList _ _ _ (⟨_, .binOp _ _ _ _ _, _, _, _, _⟩ :: _) _ _); (first | ((with_reducible show wpList _ _ _ (⟨_, .binOp .lss _ _ _ _, _, _, _, _⟩ :: _) _ _); refine st_lss rfl _ _ _ _ rfl _ _ _ rfl rfl (fun h_ => ?_) (fun h_ => ?_)) | ((with_reducible show wpList _ _ _ (⟨_, .binOp .leq _ _ _ _, _, _, _, _⟩ :: _) _ _); refine st_leq rfl _ _ _ _ rfl _ _ _ rfl rfl (fun h_ => ?_) (fun h_ => ?_)) | ((with_reducible show wpList _ _ _ (⟨_, .binOp .gtr _ _ _ _, _, _, _, _⟩ :: _) _ _); refine st_gtr rfl _ _ _ _ rfl _ _ _ rfl rfl (fun h_ => ?_) (fun h_ => ?_)) | ((with_reducible show wpList _ _ _ (⟨_, .binOp .geq _ _ _ _, _, _, _, _⟩ :: _) _ _); refine st_geq rfl _ _ _ _ rfl _ _ _ rfl rfl (fun h_ => ?_) (fun h_ => ?_)) | ((with_reducible show wpList _ _ _ (⟨_, .binOp .eql _ _ _ _, _, _, _, _⟩ :: _) _ _); refine st_eql rfl _ _ _ _ rfl _ _ _ rfl rfl (fun h_ => ?_) (fun h_ => ?_)) | ((with_reducible show wpList _ _ _ (⟨_, .binOp .neq _ _ _ _, _, _, _, _⟩ :: _) _ _); refine st_neq rfl _ _ _ _ rfl _ _ _ rfl rfl (fun h_ => ?_) (fun h_ => ?_))) <;> go_prune) | (go_at_call 48; refine (rok_any _ _ _ hR.errc).mono ?_; rintro r_ w_ ⟨rfl, rfl⟩) | (go_at_call 49; refine (refuse_any _ _ hR).mono ?_; clear hR; rintro r_ w_ ⟨rfl, hR⟩) | (go_at_call 51; refine HN.out.mono ?_; rintro r_ w_ ⟨rfl, rfl⟩))
    · have hE : RES = (0, left, 6) := by rw [HE.out, if_pos (by omega)]
      subst hE; go_ret; exact ⟨rfl, hR⟩
    · have hE : RES = (0, left, 2) := by rw [HE.out, if_neg (by omega), if_pos (by omega)]
      subst hE; go_ret; exact ⟨rfl, hR⟩
    · refine (rtake_any n (by omega) hl hR).mono ?_
      rintro r w2 ⟨v2, rfl, hR2⟩
      go_wp2_with fail
      have hE : RES = (v, left.drop n, 0) := by rw [HE.out, if_neg (by omega), if_neg (by omega)]
      subst hE; go_ret; exact ⟨rfl, hR2.weak HK.out fun _ _ h => h.1⟩
  · have hd : decide (err = 0) = false := by simpa using h0
    have HE := Lib.hid (show readUint most left err = (0, left, err) by rw [readUint, if_neg h0])
    go_wp2_with (go_at_call 48; refine (rok_any _ _ _ hR.errc).mono ?_; rw [hd]; rintro r_ w_ ⟨rfl, rfl⟩)
    rw [HE.out]
    go_ret
    exact ⟨rfl, hR⟩

theorem wrap_u64_nat {m : Nat} (h : m < T64) : IntKind.u64.wrap (m : Int) = (m : Int) := by rw [IntKind.wrap_u64]; unfold T64 at h; omega
theorem wrap_i64_nat {m : Nat} (h : m < 9223372036854775808) : IntKind.i64.wrap (m : Int) = (m : Int) := by rw [IntKind.wrap_i64]; omega
theorem rnumberm_any {w0 w : World} {X : List Fact} {K : (Nat → Prop) → World → Prop} {q : Nat} {left : List Nat} {err : Int} (most : Nat) (hm : most ≤ 1000000000000) (hl : left.length ≤ 1000000000000) (hb : Bytes left) (hR : Rd w0 w X K q left err) :
    Calls Tryd.prog 20 #[.pointer (some ⟨q, 0, none⟩), .int .i64 most] w fun r w' => r = .returned (.int .i64 (readUint most left err).1) ∧ Rd w0 w' X K q (readUint most left err).2.1 (readUint most left err).2.2 := by
  have hle : (readUint most left err).1 ≤ most := by
    unfold readUint
    split
    · split
      · simp
      · split
        · simp
        · simp; omega
    · simp
  have hw := wrap_u64_nat (m := most) (by unfold T64; omega)
  have hw2 := wrap_i64_nat (m := (readUint most left err).1) (by omega)
  go_enter Tryd.func20, Tryd.ntmps20
  by_cases h0 : err = 0
  · subst h0
    go_wp2_with (first | ((with_reducible show wpList _ _ _ (⟨_, .binOp _ _ _ _ _, _, _, _, _⟩ :: _) _ _); (first | ((with_reducible show wpList _ _ _ (⟨_, .binOp .lss _ _ _ _, _, _, _, _⟩ :: _) _ _); refine st_lss rfl _ _ _ _ rfl _ _ _ rfl rfl (fun h_ => ?_) (fun h_ => ?_)) | ((with_reducible show wpList _ _ _ (⟨_, .binOp .leq _ _ _ _, _, _, _, _⟩ :: _) _ _); refine st_leq rfl _ _ _ _ rfl _ _ _ rfl rfl (fun h_ => ?_) (fun h_ => ?_)) | ((with_reducible show wpList _ _ _ (⟨_, .binOp .gtr _ _ _ _, _, _, _, _⟩ :: _) _ _); refine st_gtr rfl _ _ _ _ rfl _ _ _ rfl rfl (fun h_ => ?_) (fun h_ => ?_)) | ((with_reducible show wpList _ _ _ (⟨_, .binOp .geq _ _ _ _, _, _, _, _⟩ :: _) _ _); refine st_geq rfl _ _ _ _ rfl _ _ _ rfl rfl (fun h_ => ?_) (fun h_ => ?_)) | ((with_reducible show wpList _ _ _ (⟨_, .binOp .eql _ _ _ _, _, _, _, _⟩ :: _) _ _); refine st_eql rfl _ _ _ _ rfl _ _ _ rfl rfl (fun h_ => ?_) (fun h_ => ?_)) | ((with_reducible show wpList _ _ _ (⟨_, .binOp .neq _ _ _ _, _, _, _, _⟩ :: _) _ _); refine st_neq rfl _ _ _ _ rfl _ _ _ rfl rfl (fun h_ => ?_) (fun h_ => ?_))) <;> go_prune) | (go_at_call 48; refine (rok_any _ _ _ hR.errc).mono ?_; rintro r_ w_ ⟨rfl, rfl⟩) | (go_at_call 49; refine (refuse_any _ _ hR).mono ?_; clear hR; rintro r_ w_ ⟨rfl, hR⟩))
    refine (ruint_any most hl hb hR).mono ?_
    rintro r w2 ⟨rfl, hR2⟩
    have HR := Lib.hid hR2
    clear hR2
    have hr : refuseE false 1 0 = 0 := rfl
    rw [hr] at *
    generalize hv : (readUint most left 0).1 = v at *
    have HV := Lib.hid hv
    clear hv
    go_wp2_with fail
    go_ret
    exact ⟨by simp [HV.out], HR.out⟩
  · have hd : decide (err = 0) = false := by simpa using h0
    have HE := Lib.hid (show readUint most left err = (0, left, err) by rw [readUint, if_neg h0])
    go_wp2_with (go_at_call 48; refine (rok_any _ _ _ hR.errc).mono ?_; rw [hd]; rintro r_ w_ ⟨rfl, rfl⟩)
    rw [HE.out]
    go_ret
    exact ⟨rfl, hR⟩
/-- what Count reads -/
def readCount (most : Nat) (left : List Nat) (err : Int) : Nat × List Nat × Int :=
  if err = 0 then
    if (numR left 0 0).2 = 0 then (0, left, 6) else if most < (numR left 0 0).1 then (0, left, 3) else ((numR left 0 0).1, left.drop (numR left 0 0).2, 0)
  else (0, left, err)
theorem rcount_any {w0 w : World} {X : List Fact} {K : (Nat → Prop) → World → Prop} {q : Nat} {left : List Nat} {err : Int} (most : Nat) (hm : most ≤ 1000000000000) (hl : left.length ≤ 1000000000000) (hb : Bytes left) (hR : Rd w0 w X K q left err) :
    Calls Tryd.prog 19 #[.pointer (some ⟨q, 0, none⟩), .int .i64 most] w fun r w' => r = .returned (.int .i64 (readCount most left err).1) ∧ Rd w0 w' X K q (readCount most left err).2.1 (readCount most left err).2.2 := by
  have HK := Lib.hid hR.1
  have hw := wrap_u64_nat (m := most) (by unfold T64; omega)
  go_enter Tryd.func19, Tryd.ntmps19
  by_cases h0 : err = 0
  · subst h0
    have HE := Lib.hid (show readCount most left 0 = if (numR left 0 0).2 = 0 then (0, left, 6) else if most < (numR left 0 0).1 then (0, left, 3) else ((numR left 0 0).1, left.drop (numR left 0 0).2, 0) from rfl)
    generalize readCount most left 0 = RES at *
    have hn := (numR_lt left 0 0 (by decide) hb).2
    have HN := Lib.hid fun (w : World) (h : Rd w0 w X K q left 0) => rnumber_any (w := w) hl hb h
    generalize numR left 0 0 = V at *
    obtain ⟨v, n⟩ := V
    dsimp only at hn HN HE
    go_wp2_with (first | ((with_reducible show wpList _ _ _ (⟨_, .binOp _ _ _ _ _, _, _, _, _⟩ :: _) _ _); (first | ((with_reducible show wpList _ _ _ (⟨_, .binOp .lss _ _ _ _, _, _, _, _⟩ :: _) _ _); refine st_lss rfl _ _ _ _ rfl _ _ _ rfl rfl (fun h_ => ?_) (fun h_ => ?_)) | ((with_reducible show wpList _ _ _ (⟨_, .binOp .leq _ _ _ _, _, _, _, _⟩ :: _) _ _); refine st_leq rfl _ _ _ _ rfl _ _ _ rfl rfl (fun h_ => ?_) (fun h_ => ?_)) | ((with_reducible show wpList _ _ _ (⟨_, .binOp .gtr _ _ _ _, _, _, _, _⟩ :: _) _ _); refine st_gtr rfl _ _ _ _ rfl _ _ _ rfl rfl (fun h_ => ?_) (fun h_ => ?_)) | ((with_reducible show wpList _ _ _ (⟨_, .binOp .geq _ _ _ _, _, _, _, _⟩ :: _) _ _); refine st_geq rfl _ _ _ _ rfl _ _ _ rfl rfl (fun h_ => ?_) (fun h_ => ?_)) | ((with_reducible show wpList _ _ _ (⟨_, .binOp .eql _ _ _ _, _, _, _, _⟩ :: _) _ _); refine st_eql rfl _ _ _ _ rfl _ _ _ rfl rfl (fun h_ => ?_) (fun h_ => ?_)) | ((with_reducible show wpList _ _ _ (⟨_, .binOp .neq _ _ _ _, _, _, _, _⟩ :: _) _ _); refine st_neq rfl _ _ _ _ rfl _ _ _ rfl rfl (fun h_ => ?_) (fun h_ => ?_))) <;> go_prune) | (go_at_call 48; refine (rok_any _ _ _ hR.errc).mono ?_; rintro r_ w_ ⟨rfl, rfl⟩) | (go_at_call 49; refine (refuse_any _ _ hR).mono ?_; clear hR; rintro r_ w_ ⟨rfl, hR⟩) | (go_at_call 51; refine (HN.out _ hR).mono ?_; rintro r_ w_ ⟨rfl, rfl⟩))
    · have hE : RES = (0, left, 6) := by rw [HE.out, if_pos (by omega)]
      subst hE; go_ret; exact ⟨rfl, hR⟩
    · have hE : RES = (0, left, 3) := by rw [HE.out, if_neg (by omega), if_pos (by omega)]
      subst hE; go_ret; exact ⟨rfl, hR⟩
    · have hw2 := wrap_i64_nat (m := v) (by omega)
      refine (rtake_any n (by omega) hl hR).mono ?_
      rintro r w2 ⟨v2, rfl, hR2⟩
      go_wp2_with fail
      have hE : RES = (v, left.drop n, 0) := by rw [HE.out, if_neg (by omega), if_neg (by omega)]
      subst hE; go_ret; exact ⟨by simp, hR2.weak HK.out fun _ _ h => h.1⟩
  · have hd : decide (err = 0) = false := by simpa using h0
    have HE := Lib.hid (show readCount most left err = (0, left, err) by rw [readCount, if_neg h0])
    go_wp2_with (go_at_call 48; refine (rok_any _ _ _ hR.errc).mono ?_; rw [hd]; rintro r_ w_ ⟨rfl, rfl⟩)
    rw [HE.out]
    go_ret
    exact ⟨rfl, hR⟩

/-- what Raw reads -/
def readRaw (n : Nat) (left : List Nat) (err : Int) : List Nat × List Nat × Int :=
  if err = 0 then if left.length < n then ([], left, 6) else (left.take n, left.drop n, 0) else ([], left, err)
theorem rraw_any {w0 w : World} {X : List Fact} {K : (Nat → Prop) → World → Prop} {q : Nat} {left : List Nat} {err : Int} (n : Nat) (hl : left.length ≤ 1000000000000) (hR : Rd w0 w X K q left err) :
    Calls Tryd.prog 17 #[.pointer (some ⟨q, 0, none⟩), .int .i64 n] w fun r w' => ∃ v, r = .returned v ∧ Rd w0 w' X (fun D w => K D w ∧ Sl w D 1 v (readRaw n left err).1.length (u8s (readRaw n left err).1)) q (readRaw n left err).2.1 (readRaw n left err).2.2 := by
  have HK := Lib.hid hR.1
  have hnil : ∀ D w, K D w → (K D w ∧ Sl w D 1 (.slice none 0 0) ([] : List Nat).length (u8s [])) := fun D w h => ⟨h, Sl.none_⟩
  go_enter Tryd.func17, Tryd.ntmps17
  by_cases h0 : err = 0
  · subst h0
    have HE := Lib.hid (show readRaw n left 0 = if left.length < n then ([], left, 6) else (left.take n, left.drop n, 0) from rfl)
    generalize readRaw n left 0 = RES at *
    go_wp2_with (first | ((with_reducible show wpList _ _ _ (⟨_, .binOp _ _ _ _ _, _, _, _, _⟩ :: _) _ _); (first | ((with_reducible show wpList _ _ _ (⟨_, .binOp .lss _ _ _ _, _, _, _, _⟩ :: _) _ _); refine st_lss rfl _ _ _ _ rfl _ _ _ rfl rfl (fun h_ => ?_) (fun h_ => ?_)) | ((with_reducible show wpList _ _ _ (⟨_, .binOp .leq _ _ _ _, _, _, _, _⟩ :: _) _ _); refine st_leq rfl _ _ _ _ rfl _ _ _ rfl rfl (fun h_ => ?_) (fun h_ => ?_)) | ((with_reducible show wpList _ _ _ (⟨_, .binOp .gtr _ _ _ _, _, _, _, _⟩ :: _) _ _); refine st_gtr rfl _ _ _ _ rfl _ _ _ rfl rfl (fun h_ => ?_) (fun h_ => ?_)) | ((with_reducible show wpList _ _ _ (⟨_, .binOp .geq _ _ _ _, _, _, _, _⟩ :: _) _ _); refine st_geq rfl _ _ _ _ rfl _ _ _ rfl rfl (fun h_ => ?_) (fun h_ => ?_)) | ((with_reducible show wpList _ _ _ (⟨_, .binOp .eql _ _ _ _, _, _, _, _⟩ :: _) _ _); refine st_eql rfl _ _ _ _ rfl _ _ _ rfl rfl (fun h_ => ?_) (fun h_ => ?_)) | ((with_reducible show wpList _ _ _ (⟨_, .binOp .neq _ _ _ _, _, _, _, _⟩ :: _) _ _); refine st_neq rfl _ _ _ _ rfl _ _ _ rfl rfl (fun h_ => ?_) (fun h_ => ?_))) <;> go_prune) | (go_at_call 48; refine (rok_any _ _ _ hR.errc).mono ?_; rintro r_ w_ ⟨rfl, rfl⟩) | (go_at_call 49; refine (refuse_any _ _ hR).mono ?_; clear hR; rintro r_ w_ ⟨rfl, hR⟩) | ((with_reducible show wpList _ _ _ (⟨some 21, _, _, _, _, _⟩ :: _) _ _); obtain ⟨_, A, c, l1, l2, hS⟩ := id hR; refine st_cell hS 0 rfl _ _ rfl _ _ rfl _ _ rfl (by decide +kernel) _ rfl ?_; clear hS))
    · have hE : RES = ([], left, 6) := by rw [HE.out, if_pos (by omega)]
      subst hE; go_ret; exact ⟨_, rfl, hR.weak (HK.out.and stable_sl) hnil⟩
    · refine (rtake_any n (by omega) hl hR).mono ?_
      rintro r w2 ⟨v2, rfl, hR2⟩
      go_wp2_with fail
      have hE : RES = (left.take n, left.drop n, 0) := by rw [HE.out, if_neg (by omega)]
      subst hE; go_ret
      refine ⟨_, rfl, hR2.weak (HK.out.and stable_sl) fun D w h => ⟨h.1, ?_⟩⟩
      rw [show (left.take n).length = n by rw [List.length_take]; omega]
      exact h.2
  · have hd : decide (err = 0) = false := by simpa using h0
    have HE := Lib.hid (show readRaw n left err = ([], left, err) by rw [readRaw, if_neg h0])
    go_wp2_with (go_at_call 48; refine (rok_any _ _ _ hR.errc).mono ?_; rw [hd]; rintro r_ w_ ⟨rfl, rfl⟩)
    rw [HE.out]
    go_ret
    exact ⟨_, rfl, hR.weak (HK.out.and stable_sl) hnil⟩

/-- what Flag reads -/
def readFlag (left : List Nat) (err : Int) : Bool × List Nat × Int :=
  if err = 0 then (match left with
    | [] => (false, [], 6)
    | b :: r => if 1 < b then (false, b :: r, 6) else (b == 1, r, 0)) else (false, left, err)
theorem rflag_any {w0 w : World} {X : List Fact} {K : (Nat → Prop) → World → Prop} {q : Nat} {left : List Nat} {err : Int} (hl : left.length ≤ 1000000000000) (hb : Bytes left) (hR : Rd w0 w X K q left err) :
    Calls Tryd.prog 18 #[.pointer (some ⟨q, 0, none⟩)] w fun r w' => r = .returned (.bool (readFlag left err).1) ∧ Rd w0 w' X K q (readFlag left err).2.1 (readFlag left err).2.2 := by
  have HK := Lib.hid hR.1
  by_cases h0 : err = 0
  · subst h0
    cases left with
    | nil =>
      have HE := Lib.hid (show readFlag [] 0 = (false, [], 6) from rfl)
      obtain ⟨_, A, c, l1, l2, hS⟩ := id hR
      generalize readFlag [] 0 = RES at *
      go_enter Tryd.func18, Tryd.ntmps18
      go_wp2_with (first | ((with_reducible show wpList _ _ _ (⟨_, .load _ _, _, _, _, _⟩ :: _) _ _); first | (refine st_cell hS 0 rfl _ _ rfl _ _ rfl _ _ rfl (by decide +kernel) _ (by first | assumption | rfl) ?_) | (refine st_cell hS 1 rfl _ _ rfl _ _ rfl _ _ rfl (by decide +kernel) _ (by first | assumption | rfl) ?_) | (refine st_cell hS 2 rfl _ _ rfl _ _ rfl _ _ rfl (by decide +kernel) _ (by first | assumption | rfl) ?_)) | ((with_reducible show wpList _ _ _ (⟨_, .binOp _ _ _ _ _, _, _, _, _⟩ :: _) _ _); (first | ((with_reducible show wpList _ _ _ (⟨_, .binOp .lss _ _ _ _, _, _, _, _⟩ :: _) _ _); refine st_lss rfl _ _ _ _ rfl _ _ _ rfl rfl (fun h_ => ?_) (fun h_ => ?_)) | ((with_reducible show wpList _ _ _ (⟨_, .binOp .leq _ _ _ _, _, _, _, _⟩ :: _) _ _); refine st_leq rfl _ _ _ _ rfl _ _ _ rfl rfl (fun h_ => ?_) (fun h_ => ?_)) | ((with_reducible show wpList _ _ _ (⟨_, .binOp .gtr _ _ _ _, _, _, _, _⟩ :: _) _ _); refine st_gtr rfl _ _ _ _ rfl _ _ _ rfl rfl (fun h_ => ?_) (fun h_ => ?_)) | ((with_reducible show wpList _ _ _ (⟨_, .binOp .geq _ _ _ _, _, _, _, _⟩ :: _) _ _); refine st_geq rfl _ _ _ _ rfl _ _ _ rfl rfl (fun h_ => ?_) (fun h_ => ?_)) | ((with_reducible show wpList _ _ _ (⟨_, .binOp .eql _ _ _ _, _, _, _, _⟩ :: _) _ _); refine st_eql rfl _ _ _ _ rfl _ _ _ rfl rfl (fun h_ => ?_) (fun h_ => ?_)) | ((with_reducible show wpList _ _ _ (⟨_, .binOp .neq _ _ _ _, _, _, _, _⟩ :: _) _ _); refine st_neq rfl _ _ _ _ rfl _ _ _ rfl rfl (fun h_ => ?_) (fun h_ => ?_))) <;> go_prune) | (go_at_call 48; refine (rok_any _ _ _ hR.errc).mono ?_; rintro r_ w_ ⟨rfl, rfl⟩) | (go_at_call 49; refine (refuse_any _ _ hR).mono ?_; clear hR; rintro r_ w_ ⟨rfl, hR⟩))
      have hE := HE.out
      subst hE; go_ret; exact ⟨rfl, hR⟩
    | cons b rest =>
      have HE := Lib.hid (show readFlag (b :: rest) 0 = if 1 < b then (false, b :: rest, 6) else (b == 1, rest, 0) from rfl)
      obtain ⟨_, A, c, l1, l2, hS⟩ := id hR
      generalize readFlag (b :: rest) 0 = RES at *
      have f1 : (u8s (b :: rest))[0]? = some (.int .u8 (b : Nat)) := rfl
      have f2 : (u8s ((b :: rest).take 1))[0]? = some (.int .u8 (b : Nat)) := rfl
      have hlen : 1 ≤ (b :: rest).length := by simp
      go_enter Tryd.func18, Tryd.ntmps18
      go_wp2_with (first
        | ((with_reducible show wpList _ _ _ (⟨_, .load _ _, _, _, _, _⟩ :: _) _ _); first | (refine st_cell hS 0 rfl _ _ rfl _ _ rfl _ _ rfl (by decide +kernel) _ (by first | assumption | rfl) ?_) | (refine st_cell hS 1 rfl _ _ rfl _ _ rfl _ _ rfl (by decide +kernel) _ (by first | assumption | rfl) ?_) | (refine st_cell hS 2 rfl _ _ rfl _ _ rfl _ _ rfl (by decide +kernel) _ (by first | assumption | rfl) ?_))
        | ((with_reducible show wpList _ _ _ (⟨_, .binOp _ _ _ _ _, _, _, _, _⟩ :: _) _ _); (first | ((with_reducible show wpList _ _ _ (⟨_, .binOp .lss _ _ _ _, _, _, _, _⟩ :: _) _ _); refine st_lss rfl _ _ _ _ rfl _ _ _ rfl rfl (fun h_ => ?_) (fun h_ => ?_)) | ((with_reducible show wpList _ _ _ (⟨_, .binOp .leq _ _ _ _, _, _, _, _⟩ :: _) _ _); refine st_leq rfl _ _ _ _ rfl _ _ _ rfl rfl (fun h_ => ?_) (fun h_ => ?_)) | ((with_reducible show wpList _ _ _ (⟨_, .binOp .gtr _ _ _ _, _, _, _, _⟩ :: _) _ _); refine st_gtr rfl _ _ _ _ rfl _ _ _ rfl rfl (fun h_ => ?_) (fun h_ => ?_)) | ((with_reducible show wpList _ _ _ (⟨_, .binOp .geq _ _ _ _, _, _, _, _⟩ :: _) _ _); refine st_geq rfl _ _ _ _ rfl _ _ _ rfl rfl (fun h_ => ?_) (fun h_ => ?_)) | ((with_reducible show wpList _ _ _ (⟨_, .binOp .eql _ _ _ _, _, _, _, _⟩ :: _) _ _); refine st_eql rfl _ _ _ _ rfl _ _ _ rfl rfl (fun h_ => ?_) (fun h_ => ?_)) | ((with_reducible show wpList _ _ _ (⟨_, .binOp .neq _ _ _ _, _, _, _, _⟩ :: _) _ _); refine st_neq rfl _ _ _ _ rfl _ _ _ rfl rfl (fun h_ => ?_) (fun h_ => ?_))) <;> go_prune)
        | (go_at_call 48; refine (rok_any _ _ _ hR.errc).mono ?_; rintro r_ w_ ⟨rfl, rfl⟩)
        | (go_at_call 49; refine (refuse_any _ _ hR).mono ?_; clear hR; rintro r_ w_ ⟨rfl, hR⟩)
        | ((with_reducible show wpList _ _ _ (⟨some 19, _, _, _, _, _⟩ :: _) _ _); refine st_iaddr1 (k := 0) hS rfl _ _ _ rfl _ rfl rfl (fun _ _ h => h.2) Tryd.underlying47 (by kernel_rfl) hlen _ f1 ?_; intro p_ hc_))
      · have hE : RES = (false, b :: rest, 6) := by rw [HE.out, if_pos (by omega)]
        subst hE; go_ret; exact ⟨rfl, hR⟩
      · refine (rtake_any 1 hlen hl hR).mono ?_
        rintro r w2 ⟨v2, rfl, hR2⟩
        obtain ⟨_, A2, c2, _, _, hS2⟩ := id hR2
        obtain ⟨A3, c3, rfl, _, _⟩ := hS2.ro.1.2.shape
        go_wp2_with (first
          | ((with_reducible show wpList _ _ _ (⟨_, .binOp _ _ _ _ _, _, _, _, _⟩ :: _) _ _); (first | ((with_reducible show wpList _ _ _ (⟨_, .binOp .lss _ _ _ _, _, _, _, _⟩ :: _) _ _); refine st_lss rfl _ _ _ _ rfl _ _ _ rfl rfl (fun h_ => ?_) (fun h_ => ?_)) | ((with_reducible show wpList _ _ _ (⟨_, .binOp .leq _ _ _ _, _, _, _, _⟩ :: _) _ _); refine st_leq rfl _ _ _ _ rfl _ _ _ rfl rfl (fun h_ => ?_) (fun h_ => ?_)) | ((with_reducible show wpList _ _ _ (⟨_, .binOp .gtr _ _ _ _, _, _, _, _⟩ :: _) _ _); refine st_gtr rfl _ _ _ _ rfl _ _ _ rfl rfl (fun h_ => ?_) (fun h_ => ?_)) | ((with_reducible show wpList _ _ _ (⟨_, .binOp .geq _ _ _ _, _, _, _, _⟩ :: _) _ _); refine st_geq rfl _ _ _ _ rfl _ _ _ rfl rfl (fun h_ => ?_) (fun h_ => ?_)) | ((with_reducible show wpList _ _ _ (⟨_, .binOp .eql _ _ _ _, _, _, _, _⟩ :: _) _ _); refine st_eql rfl _ _ _ _ rfl _ _ _ rfl rfl (fun h_ => ?_) (fun h_ => ?_)) | ((with_reducible show wpList _ _ _ (⟨_, .binOp .neq _ _ _ _, _, _, _, _⟩ :: _) _ _); refine st_neq rfl _ _ _ _ rfl _ _ _ rfl rfl (fun h_ => ?_) (fun h_ => ?_))) <;> go_prune)
          | ((with_reducible show wpList _ _ _ (⟨some 28, _, _, _, _, _⟩ :: _) _ _); refine st_iaddr1 (k := 0) hS2 rfl _ _ _ rfl _ rfl rfl (fun _ _ h => h.1.2) Tryd.underlying47 (by kernel_rfl) (by decide) _ f2 ?_; intro p2_ hc2_))
        · have hE : RES = (true, rest, 0) := by rw [HE.out, if_neg (by omega), show (b == 1) = true by simp; omega]
          subst hE; go_ret; exact ⟨rfl, hR2.weak HK.out fun _ _ h => h.1⟩
        · have hE : RES = (false, rest, 0) := by rw [HE.out, if_neg (by omega), show (b == 1) = false by simp; omega]
          subst hE; go_ret; exact ⟨rfl, hR2.weak HK.out fun _ _ h => h.1⟩
  · have hd : decide (err = 0) = false := by simpa using h0
    have HE := Lib.hid (show readFlag left err = (false, left, err) by unfold readFlag; rw [if_neg h0])
    go_enter Tryd.func18, Tryd.ntmps18
    go_wp2_with (go_at_call 48; refine (rok_any _ _ _ hR.errc).mono ?_; rw [hd]; rintro r_ w_ ⟨rfl, rfl⟩)
    rw [HE.out]
    go_ret
    exact ⟨rfl, hR⟩
end Go.Proofs.YtenpkgdnlogfiaaDoor
