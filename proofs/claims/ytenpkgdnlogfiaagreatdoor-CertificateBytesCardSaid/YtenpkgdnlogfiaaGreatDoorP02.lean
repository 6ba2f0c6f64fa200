/-
  The references' encodings (arbacref02): numbers, flags, byte strings.
  The references' encodings of cubes and certificates (arbacref36).
-/
import Derived.Test.YtenpkgdnlogfiaaGreatDoorRd8
namespace Go.Proofs.YtenpkgdnlogfiaaGreatDoor
open Go.RowKit
attribute [local go_sem ↓] Go.wp_at_zero Go.wp_at_succ
set_option maxRecDepth 20000
set_option exponentiation.threshold 5000

/-- bytes in a row of the call's own -/
def OwnU (w : World) (base : Nat) (x : Value) (bs : List Nat) : Prop := w.ownsRow base 5 1 x bs.length (u8s bs)
set_option maxHeartbeats 1000000 in
theorem rput_any (V : Nat) (hV : V < T64) (w0 : World) : Calls Tryz.prog 27 #[.int .u64 (V : Nat)] w0 (Ret (fun x w' => OwnU w' w0.heap.size x (putN V)) w0) := by
  have hS := St.start0 (w := w0)
  have hR : Hid (∃ f, V / 128 < 128 ^ f ∧ putN V = (hi7 f (V / 128)).reverse ++ [V % 128]) := Lib.hid ⟨10, by unfold T64 at hV; omega, by simp [putN]⟩
  have HL := Lib.hid (putN_len V)
  generalize putN V = RES at *
  have h1 := tmod_nat V 128
  have h2 : IntKind.u8.wrap ((V % 128 : Nat) : Int) = ((V % 128 : Nat) : Int) := wrap_u8_nat (by omega)
  have h0 : V % 128 < 256 := by omega
  generalize V % 128 = r0 at *
  go_enter Tryz.func27, Tryz.ntmps27
  go_wp2_with ((with_reducible show wpList _ _ _ (⟨_, .buildSlice _ 1 _, _, _, _, _⟩ :: _) _ _); refine st_litown hS rfl _ 5 1 _ rfl Tryz.underlying37 #[.int .u8 (r0 : Nat)] (by kernel_rfl) 1 rfl (by decide) ?_; clear hS; intro g w_ hS)
  go_loopw [0, 3] (fun n out wr => ∃ (v : Nat) (acc : List Nat) (ov : Value), n = .int .u64 (v : Nat) ∧ out = ov ∧ v < T64 ∧ St w0 wr [.own ov 5 1 acc.length (u8s acc)] (fun _ _ => True) ∧ Hid (∃ f, v / 128 < 128 ^ f ∧ RES = (hi7 f (v / 128)).reverse ++ acc)) (fun n _ _ => (intOf n).toNat)
  case atStart => exact ⟨V, [r0], _, rfl, rfl, hV, hS, hR⟩
  case round =>
    clear hS
    obtain ⟨v, acc, ov, rfl, rfl, hv, hS, hR⟩ := hrel
    by_cases hb : v < 128
    · have hE : RES = acc := by
        obtain ⟨f, _, h⟩ := hR.out
        rw [h, show v / 128 = 0 by omega, hi7_zero]; rfl
      subst hE
      go_wp2_with (first | ((with_reducible show wpList _ _ _ (⟨_, .binOp _ _ _ _ _, _, _, _, _⟩ :: _) _ _); (first | ((with_reducible show wpList _ _ _ (⟨_, .binOp .lss _ _ _ _, _, _, _, _⟩ :: _) _ _); refine st_lss rfl _ _ _ _ rfl _ _ _ rfl rfl (fun h_ => ?_) (fun h_ => ?_)) | ((with_reducible show wpList _ _ _ (⟨_, .binOp .leq _ _ _ _, _, _, _, _⟩ :: _) _ _); refine st_leq rfl _ _ _ _ rfl _ _ _ rfl rfl (fun h_ => ?_) (fun h_ => ?_)) | ((with_reducible show wpList _ _ _ (⟨_, .binOp .gtr _ _ _ _, _, _, _, _⟩ :: _) _ _); refine st_gtr rfl _ _ _ _ rfl _ _ _ rfl rfl (fun h_ => ?_) (fun h_ => ?_)) | ((with_reducible show wpList _ _ _ (⟨_, .binOp .geq _ _ _ _, _, _, _, _⟩ :: _) _ _); refine st_geq rfl _ _ _ _ rfl _ _ _ rfl rfl (fun h_ => ?_) (fun h_ => ?_)) | ((with_reducible show wpList _ _ _ (⟨_, .binOp .eql _ _ _ _, _, _, _, _⟩ :: _) _ _); refine st_eql rfl _ _ _ _ rfl _ _ _ rfl rfl (fun h_ => ?_) (fun h_ => ?_)) | ((with_reducible show wpList _ _ _ (⟨_, .binOp .neq _ _ _ _, _, _, _, _⟩ :: _) _ _); refine st_neq rfl _ _ _ _ rfl _ _ _ rfl rfl (fun h_ => ?_) (fun h_ => ?_))) <;> go_prune))
      go_ret
      exact Ret.mk (hS.own 0 rfl) hS.below
    · obtain ⟨q, hqe⟩ : ∃ q, q = v / 128 := ⟨_, rfl⟩
      rw [← hqe] at hR
      have h1 : ((q : Int)).tmod 128 = ((q % 128 : Nat) : Int) := tmod_nat q 128
      have h2 : (((q % 128 : Nat) : Int)) % 256 = ((q % 128 : Nat) : Int) := by omega
      have h3 : (((q % 128 : Nat) : Int) + 128) % 256 = ((q % 128 : Nat) : Int) + 128 := by omega
      have hw : IntKind.u64.wrap ((v : Int) / 128) = ((q : Nat) : Int) := by
        rw [show (v : Int) / 128 = ((q : Nat) : Int) by rw [hqe]; simp]; exact wrap_u64_nat (by omega)
      have hR2 : Hid (∃ f, q / 128 < 128 ^ f ∧ RES = (hi7 f (q / 128)).reverse ++ ((q % 128 + 128) :: acc)) := by
        obtain ⟨f, h, e⟩ := hR.out
        cases f with
        | zero => simp at h; omega
        | succ f =>
          refine Lib.hid ⟨f, by rw [Nat.pow_succ] at h; omega, ?_⟩
          rw [e, hi7, if_neg (by omega)]; simp
      have hlt : q < v := by omega
      have hv2 : q < T64 := by omega
      have h0 : q % 128 < 128 := by omega
      generalize q % 128 = r at *
      have hal : acc.length ≤ 11 := by
        obtain ⟨f, _, e⟩ := hR.out
        have := congrArg List.length e
        rw [List.length_append] at this
        have := HL.out; omega
      have HQ := Lib.hid hqe
      clear hR hqe
      go_wp2_with (first
        | ((with_reducible show wpList _ _ _ (⟨_, .binOp _ _ _ _ _, _, _, _, _⟩ :: _) _ _); (first | ((with_reducible show wpList _ _ _ (⟨_, .binOp .lss _ _ _ _, _, _, _, _⟩ :: _) _ _); refine st_lss rfl _ _ _ _ rfl _ _ _ rfl rfl (fun h_ => ?_) (fun h_ => ?_)) | ((with_reducible show wpList _ _ _ (⟨_, .binOp .leq _ _ _ _, _, _, _, _⟩ :: _) _ _); refine st_leq rfl _ _ _ _ rfl _ _ _ rfl rfl (fun h_ => ?_) (fun h_ => ?_)) | ((with_reducible show wpList _ _ _ (⟨_, .binOp .gtr _ _ _ _, _, _, _, _⟩ :: _) _ _); refine st_gtr rfl _ _ _ _ rfl _ _ _ rfl rfl (fun h_ => ?_) (fun h_ => ?_)) | ((with_reducible show wpList _ _ _ (⟨_, .binOp .geq _ _ _ _, _, _, _, _⟩ :: _) _ _); refine st_geq rfl _ _ _ _ rfl _ _ _ rfl rfl (fun h_ => ?_) (fun h_ => ?_)) | ((with_reducible show wpList _ _ _ (⟨_, .binOp .eql _ _ _ _, _, _, _, _⟩ :: _) _ _); refine st_eql rfl _ _ _ _ rfl _ _ _ rfl rfl (fun h_ => ?_) (fun h_ => ?_)) | ((with_reducible show wpList _ _ _ (⟨_, .binOp .neq _ _ _ _, _, _, _, _⟩ :: _) _ _); refine st_neq rfl _ _ _ _ rfl _ _ _ rfl rfl (fun h_ => ?_) (fun h_ => ?_))) <;> go_prune)
        | ((with_reducible show wpList _ _ _ (⟨_, .buildSlice _ 1 _, _, _, _, _⟩ :: _) _ _); refine st_litown hS rfl _ 5 1 _ rfl Tryz.underlying37 #[.int .u8 ((r : Int) + 128)] (by kernel_rfl) 1 rfl (by decide) ?_; clear hS; intro g w_ hS)
        | ((with_reducible show wpList _ _ _ (⟨some 18, _, _, _, _, _⟩ :: _) _ _); refine st_app hS 0 rfl _ _ _ rfl ty_bytes' _ 1 [.int .u8 ((r : Int) + 128)] rfl rfl _ _ acc.length (u8s acc) rfl (Sl.of_own (hS.own 1 rfl)) (u8s_one _) (by unfold maxLen; omega) (by omega) ?_; clear hS; intro v_ w_ hS; (try simp only [Act.put, Act.eval, List.set_cons_zero, List.set_cons_succ, List.setIfInBounds_toArray, Array.getD_eq_getD_getElem?, List.getElem?_toArray, List.getElem?_cons_succ, List.getElem?_cons_zero, Option.getD_some, Value.cells] at hS)))
      refine ⟨⟨q, (r + 128) :: acc, v_, rfl, rfl, hv2, ?_, hR2⟩, by simp [intOf]; exact hlt⟩
      have h := hS.sub (F' := [_]) (.cons_cons _ (.cons _ .slnil))
      rw [Nat.add_comm 1] at h
      simpa [u8s] using h

theorem rflag02_any (b : Bool) (w0 : World) : Calls Tryz.prog 26 #[.bool b] w0 (Ret (fun x w' => OwnU w' w0.heap.size x (putFlag b)) w0) := by
  have hS := St.start0 (w := w0)
  go_enter Tryz.func26, Tryz.ntmps26
  cases b
  · go_wp2_with ((with_reducible show wpList _ _ _ (⟨_, .buildSlice _ 1 _, _, _, _, _⟩ :: _) _ _); refine st_litown hS rfl _ 5 1 _ rfl Tryz.underlying37 #[.int .u8 0] (by kernel_rfl) 1 rfl (by decide) ?_; clear hS; intro g w_ hS)
    go_ret
    exact Ret.mk (hS.own 0 rfl) hS.below
  · go_wp2_with ((with_reducible show wpList _ _ _ (⟨_, .buildSlice _ 1 _, _, _, _, _⟩ :: _) _ _); refine st_litown hS rfl _ 5 1 _ rfl Tryz.underlying37 #[.int .u8 1] (by kernel_rfl) 1 rfl (by decide) ?_; clear hS; intro g w_ hS)
    go_ret
    exact Ret.mk (hS.own 0 rfl) hS.below
theorem OwnU.sl {w : World} {base : Nat} {x : Value} {bs : List Nat} (h : OwnU w base x bs) : Sl w (base ≤ ·) 1 x bs.length (u8s bs) := Sl.of_own h
theorem own_u8s {w : World} {base n : Nat} {v : Value} {xs : List Value} {bs : List Nat} (h : w.ownsRow base 5 1 v n xs) (e : xs = u8s bs) : OwnU w base v bs := by
  subst e
  have : bs.length = n := by have := h.1; simpa [u8s] using this
  unfold OwnU; rw [this]; exact h
theorem rputb_any (p : Value) (ps : List Nat) (hl : ps.length ≤ 1000000000) (w0 : World) (D : Nat → Prop) (hp : Sl w0 D 1 p ps.length (u8s ps)) :
    Calls Tryz.prog 59 #[p] w0 (Ret (fun x w' => OwnU w' w0.heap.size x (putN ps.length ++ ps)) w0) := by
  have hS := St.start0 (w := w0)
  obtain ⟨A, c, rfl, _, _⟩ := hp.shape
  have HP := Lib.hid hp
  have hw : IntKind.u64.wrap (ps.length : Int) = (ps.length : Int) := wrap_u64_nat (by unfold T64; omega)
  have hpl := putN_len ps.length
  clear hp
  go_enter Tryz.func59, Tryz.ntmps59
  go_wp2_with (first
    | (go_at_call 27; refine (rput_any ps.length (by unfold T64; omega) _).mono ?_; rintro r_ w1 ⟨v, rfl, h1, hb1⟩; replace hS := hS.owned hb1 h1; replace HP := Lib.hid (HP.out.ext hb1); clear h1 hb1)
    | ((with_reducible show wpList _ _ _ (⟨some 8, _, _, _, _, _⟩ :: _) _ _); refine st_app hS 0 rfl _ _ _ rfl ty_bytes' _ _ _ rfl rfl _ _ ps.length (u8s ps) rfl HP.out (u8s_one _) (by unfold maxLen; omega) (by omega) ?_; clear hS; intro v_ w_ hS; (try simp only [Act.put, Act.eval, List.set_cons_zero, List.set_cons_succ, List.setIfInBounds_toArray, Array.getD_eq_getD_getElem?, List.getElem?_toArray, List.getElem?_cons_succ, List.getElem?_cons_zero, Option.getD_some, Value.cells] at hS)))
  go_ret
  exact Ret.mk (own_u8s (hS.own 0 rfl) (by simp [u8s])) hS.below

/-- the number of a list of members -/
def orAll (l : List Nat) : Nat := l.foldl (fun M x => M ||| 2 ^ x) 0
theorem orAll_fold (l : List Nat) : ∀ M i, (l.foldl (fun M x => M ||| 2 ^ x) M).testBit i = (M.testBit i || decide (i ∈ l)) := by
  induction l with
  | nil => simp
  | cons x r ih =>
    intro M i
    rw [List.foldl_cons, ih, Nat.testBit_or, Nat.testBit_two_pow]
    by_cases h : x = i
    · subst h; simp
    · have : ¬ i = x := fun e => h e.symm
      simp [h, this]
theorem orAll_bit (l : List Nat) (i : Nat) : (orAll l).testBit i = decide (i ∈ l) := by simp [orAll, orAll_fold]
theorem orAll_members {N : Nat} (h : N < T64) : orAll (members N) = N := by
  apply Nat.eq_of_testBit_eq
  intro i
  rw [orAll_bit]
  by_cases hi : i < 64
  · simp [members, memTo, hi]
  · rw [tb_big h (by omega)]; simp [members, memTo, hi]
/-- the greatest of a list of members, -1: there is none -/
def topN (l : List Nat) : Int := l.foldl (fun (t : Int) (x : Nat) => if (x : Int) > t then (x : Int) else t) (-1)
theorem topN_fold (l : List Nat) : ∀ t : Int, -1 ≤ t → -1 ≤ l.foldl (fun (t : Int) (x : Nat) => if (x : Int) > t then (x : Int) else t) t ∧ t ≤ l.foldl (fun (t : Int) (x : Nat) => if (x : Int) > t then (x : Int) else t) t ∧ (∀ x ∈ l, (x : Int) ≤ l.foldl (fun (t : Int) (x : Nat) => if (x : Int) > t then (x : Int) else t) t) ∧ (l.foldl (fun (t : Int) (x : Nat) => if (x : Int) > t then (x : Int) else t) t = t ∨ ∃ x ∈ l, l.foldl (fun (t : Int) (x : Nat) => if (x : Int) > t then (x : Int) else t) t = (x : Int)) := by
  induction l with
  | nil => intro t h; exact ⟨h, Int.le_refl _, by simp, .inl rfl⟩
  | cons x r ih =>
    intro t h
    rw [List.foldl_cons]
    obtain ⟨h1, h2, h3, h4⟩ := ih (if (x : Int) > t then (x : Int) else t) (by split <;> omega)
    have h5 : (x : Int) ≤ (if (x : Int) > t then (x : Int) else t) ∧ t ≤ (if (x : Int) > t then (x : Int) else t) ∧ ((if (x : Int) > t then (x : Int) else t) = x ∨ (if (x : Int) > t then (x : Int) else t) = t) := by
      by_cases hx : (x : Int) > t
      · rw [if_pos hx]; omega
      · rw [if_neg hx]; omega
    refine ⟨h1, by omega, ?_, ?_⟩
    · intro y hy
      rcases List.mem_cons.1 hy with rfl | hy
      · omega
      · exact h3 y hy
    · rcases h4 with h4 | ⟨y, hy, h4⟩
      · rcases h5.2.2 with e | e
        · exact .inr ⟨x, by simp, by rw [h4, e]⟩
        · exact .inl (by rw [h4, e])
      · exact .inr ⟨y, by simp [hy], h4⟩
theorem topN_log {l : List Nat} : (l = [] ∧ topN l = -1) ∨ (l ≠ [] ∧ orAll l ≠ 0 ∧ topN l = ((orAll l).log2 : Nat)) := by
  obtain ⟨h1, h2, h3, h4⟩ := topN_fold l (-1) (by omega)
  cases l with
  | nil => exact .inl ⟨rfl, rfl⟩
  | cons y r =>
    right
    have hy := h3 y (by simp)
    rcases h4 with h4 | ⟨x, hx, h4⟩
    · rw [h4] at hy; omega
    · have hb : (orAll (y :: r)).testBit x = true := by rw [orAll_bit]; simpa using hx
      have hne : orAll (y :: r) ≠ 0 := fun e => by rw [e] at hb; simp at hb
      refine ⟨by simp, hne, ?_⟩
      have hge := Nat.ge_two_pow_of_testBit hb
      have hlt : orAll (y :: r) < 2 ^ (x + 1) := by
        apply Nat.lt_pow_two_of_testBit
        intro i hi
        rw [orAll_bit]
        have : ¬ i ∈ y :: r := fun hm => by have := h3 i hm; rw [h4] at this; omega
        simpa using this
      have h6 : (orAll (y :: r)).log2 = x := by
        have a1 : (orAll (y :: r)).log2 < x + 1 := (Nat.log2_lt hne).2 hlt
        have a2 : ¬ (orAll (y :: r)).log2 < x := fun h => by have := (Nat.log2_lt hne).1 h; omega
        omega
      rw [h6]; exact h4
theorem topN_step {l : List Nat} {k : Nat} (h : k < l.length) : topN (l.take (k + 1)) = if ((l.getD k 0 : Nat) : Int) > topN (l.take k) then ((l.getD k 0 : Nat) : Int) else topN (l.take k) := by
  rw [take_getD l k 0 h, topN, List.foldl_append]; rfl
/-- m bytes of a number -/
def byB (M m : Nat) : List Nat := (List.range m).map fun j => (M >>> (8 * j)) % 256
theorem byB_zero (m : Nat) : byB 0 m = List.replicate m 0 := by
  unfold byB
  apply List.ext_getElem
  · simp
  · intro j h1 h2; simp
theorem byB_at {M m j : Nat} (h : j < m) : (byB M m).getD j 0 = (M >>> (8 * j)) % 256 := by
  rw [byB, range_getD, if_pos h]
theorem byB_set {M m x : Nat} (h : x / 8 < m) : (byB M m).set (x / 8) ((byB M m).getD (x / 8) 0 ||| 2 ^ (x % 8)) = byB (M ||| 2 ^ x) m := by
  apply List.ext_getElem
  · simp [byB]
  · intro j h1 h2
    have hj : j < m := by simpa [byB] using h2
    rw [List.getElem_set]
    have hat := byB_at (M := M) h
    have key : ∀ i, ((M ||| 2 ^ x) >>> (8 * i)) % 256 = (M >>> (8 * i)) % 256 ||| (if x / 8 = i then 2 ^ (x % 8) else 0) := by
      intro i
      apply Nat.eq_of_testBit_eq
      intro b
      rw [Nat.testBit_or, show (256 : Nat) = 2 ^ 8 from rfl, Nat.testBit_mod_two_pow, Nat.testBit_mod_two_pow, Nat.testBit_shiftRight, Nat.testBit_shiftRight, Nat.testBit_or, Nat.testBit_two_pow]
      by_cases hb : b < 8
      · by_cases e : x / 8 = i
        · rw [if_pos e, Nat.testBit_two_pow]
          simp only [hb, decide_true, Bool.true_and]
          congr 1
          by_cases e2 : x = 8 * i + b
          · rw [decide_eq_true e2, decide_eq_true (by omega)]
          · rw [decide_eq_false e2, decide_eq_false (by omega)]
        · rw [if_neg e, Nat.zero_testBit, Bool.or_false, decide_eq_false (show ¬ x = 8 * i + b by omega), Bool.or_false]
      · simp only [hb, decide_false, Bool.false_and, Bool.false_or]
        split
        · rw [Nat.testBit_two_pow, decide_eq_false (by omega)]
        · simp
    by_cases e : x / 8 = j
    · rw [if_pos e, hat]; simp only [byB, List.getElem_map, List.getElem_range]; rw [key, if_pos e, e]
    · rw [if_neg e]; simp only [byB, List.getElem_map, List.getElem_range]; rw [key, if_neg e, Nat.or_zero]
theorem orAll_step {l : List Nat} {k : Nat} (h : k < l.length) : orAll (l.take (k + 1)) = orAll (l.take k) ||| 2 ^ (l.getD k 0) := by
  rw [take_getD l k 0 h, orAll, List.foldl_append]; rfl
theorem setBytes_byB {N : Nat} (h : N ≠ 0) : setBytes N = byB N (N.log2 / 8 + 1) := by rw [setBytes, if_neg h]; rfl
theorem ints_nat (l : List Nat) (k : Nat) (h : k < l.length) : (ints (natInts l))[k]? = some (.int .i64 (l.getD k 0 : Nat)) := by
  simp [ints, natInts, List.getElem?_eq_getElem h, List.getD_eq_getElem?_getD]
theorem ty_u8s : SliceTy Tryz.prog 37 5 1 1 := ⟨Tryz.underlying37, by kernel_rfl⟩
set_option maxHeartbeats 1000000 in
theorem rsetb_any (p : Value) (l : List Nat) (hl : l.length ≤ 1000000 ∧ ∀ x ∈ l, x < 4096) (w0 : World) (D : Nat → Prop) (hp : Sl w0 D 1 p l.length (ints (natInts l))) :
    Calls Tryz.prog 103 #[p] w0 (Ret (fun x w' => OwnU w' w0.heap.size x (setBytes (orAll l))) w0) := by
  obtain ⟨A, c, rfl, _, _⟩ := hp.shape
  obtain ⟨K, hk, hS⟩ : ∃ K, (∀ D w, K D w → Sl w D 1 (.slice A l.length c) l.length (ints (natInts l))) ∧ St w0 w0 [] K := ⟨fun D w => Sl w D 1 (.slice A l.length c) l.length (ints (natInts l)), fun _ _ h => h, St.start stable_sl hp⟩
  clear hp
  have HL := Lib.hid hl.2
  obtain ⟨hll, -⟩ := hl
  go_enter Tryz.func103, Tryz.ntmps103
  go_wp2_with fail
  go_loopw [3, 11] (fun t i wr => ∃ k : Nat, k ≤ l.length ∧ i = .int .i64 k ∧ t = .int .i64 (topN (l.take k)) ∧ St w0 wr [] K) (fun _ i _ => l.length - (intOf i).toNat)
  case atStart => exact ⟨0, by omega, rfl, rfl, hS⟩
  case round =>
    clear hS
    obtain ⟨k, hk2, rfl, rfl, hS⟩ := hrel
    by_cases hlt : k < l.length
    · have f1 := ints_nat l k hlt
      have HT := Lib.hid (topN_step hlt)
      generalize l.getD k 0 = x at *
      generalize topN (l.take k) = T at *
      go_wp2_with (first | ((with_reducible show wpList _ _ _ (⟨_, .binOp _ _ _ _ _, _, _, _, _⟩ :: _) _ _); (first | ((with_reducible show wpList _ _ _ (⟨_, .binOp .lss _ _ _ _, _, _, _, _⟩ :: _) _ _); refine st_lss rfl _ _ _ _ rfl _ _ _ rfl rfl (fun h_ => ?_) (fun h_ => ?_)) | ((with_reducible show wpList _ _ _ (⟨_, .binOp .leq _ _ _ _, _, _, _, _⟩ :: _) _ _); refine st_leq rfl _ _ _ _ rfl _ _ _ rfl rfl (fun h_ => ?_) (fun h_ => ?_)) | ((with_reducible show wpList _ _ _ (⟨_, .binOp .gtr _ _ _ _, _, _, _, _⟩ :: _) _ _); refine st_gtr rfl _ _ _ _ rfl _ _ _ rfl rfl (fun h_ => ?_) (fun h_ => ?_)) | ((with_reducible show wpList _ _ _ (⟨_, .binOp .geq _ _ _ _, _, _, _, _⟩ :: _) _ _); refine st_geq rfl _ _ _ _ rfl _ _ _ rfl rfl (fun h_ => ?_) (fun h_ => ?_)) | ((with_reducible show wpList _ _ _ (⟨_, .binOp .eql _ _ _ _, _, _, _, _⟩ :: _) _ _); refine st_eql rfl _ _ _ _ rfl _ _ _ rfl rfl (fun h_ => ?_) (fun h_ => ?_)) | ((with_reducible show wpList _ _ _ (⟨_, .binOp .neq _ _ _ _, _, _, _, _⟩ :: _) _ _); refine st_neq rfl _ _ _ _ rfl _ _ _ rfl rfl (fun h_ => ?_) (fun h_ => ?_))) <;> go_prune) | ((with_reducible show wpList _ _ _ (⟨_, .indexAddr _ _ _, _, _, _, _⟩ :: _) _ _); refine st_iaddr1 hS rfl _ _ _ rfl _ rfl rfl (by assumption) Tryz.underlying22 (by kernel_rfl) (by first | assumption | omega) _ (by assumption) ?_; intro p_ hc_))
      · exact ⟨⟨k + 1, hlt, by go_num, by rw [HT.out, if_pos (by omega)], hS⟩, by simp [intOf]; omega⟩
      · exact ⟨⟨k + 1, hlt, by go_num, by rw [HT.out, if_neg (by omega)], hS⟩, by simp [intOf]; omega⟩
    · obtain rfl : k = l.length := by omega
      rw [List.take_length]
      rcases topN_log (l := l) with ⟨rfl, hz⟩ | ⟨hne, h0, ht⟩
      · rw [hz]
        go_wp2_with (first | ((with_reducible show wpList _ _ _ (⟨_, .binOp _ _ _ _ _, _, _, _, _⟩ :: _) _ _); (first | ((with_reducible show wpList _ _ _ (⟨_, .binOp .lss _ _ _ _, _, _, _, _⟩ :: _) _ _); refine st_lss rfl _ _ _ _ rfl _ _ _ rfl rfl (fun h_ => ?_) (fun h_ => ?_)) | ((with_reducible show wpList _ _ _ (⟨_, .binOp .leq _ _ _ _, _, _, _, _⟩ :: _) _ _); refine st_leq rfl _ _ _ _ rfl _ _ _ rfl rfl (fun h_ => ?_) (fun h_ => ?_)) | ((with_reducible show wpList _ _ _ (⟨_, .binOp .gtr _ _ _ _, _, _, _, _⟩ :: _) _ _); refine st_gtr rfl _ _ _ _ rfl _ _ _ rfl rfl (fun h_ => ?_) (fun h_ => ?_)) | ((with_reducible show wpList _ _ _ (⟨_, .binOp .geq _ _ _ _, _, _, _, _⟩ :: _) _ _); refine st_geq rfl _ _ _ _ rfl _ _ _ rfl rfl (fun h_ => ?_) (fun h_ => ?_)) | ((with_reducible show wpList _ _ _ (⟨_, .binOp .eql _ _ _ _, _, _, _, _⟩ :: _) _ _); refine st_eql rfl _ _ _ _ rfl _ _ _ rfl rfl (fun h_ => ?_) (fun h_ => ?_)) | ((with_reducible show wpList _ _ _ (⟨_, .binOp .neq _ _ _ _, _, _, _, _⟩ :: _) _ _); refine st_neq rfl _ _ _ _ rfl _ _ _ rfl rfl (fun h_ => ?_) (fun h_ => ?_))) <;> go_prune))
        go_ret
        exact Ret.mk (World.ownsRow_nil _ _ _ _) hS.below
      · have hlog : (orAll l).log2 < 4096 := by
          have hb : orAll l < 2 ^ 4096 := Nat.lt_pow_two_of_testBit _ fun i hi => by
            rw [orAll_bit]
            have : ¬ i ∈ l := fun hm => by have := HL.out i hm; omega
            simpa using this
          exact (Nat.log2_lt h0).2 hb
        have HN := Lib.hid (setBytes_byB h0)
        have HX := Lib.hid (show ∀ x ∈ l, x ≤ (orAll l).log2 from fun x hx => by
          have hb : (orAll l).testBit x = true := by rw [orAll_bit]; simpa using hx
          have := Nat.ge_two_pow_of_testBit hb
          have a2 : ¬ (orAll l).log2 < x := fun h => by have := (Nat.log2_lt h0).1 h; omega
          omega)
        rw [ht]
        generalize hT : (orAll l).log2 = T at *
        obtain ⟨n8, hn8⟩ : ∃ n, n = T / 8 + 1 := ⟨_, rfl⟩
        have hti : (T : Int) / 8 + 1 = (n8 : Int) := by omega
        have HN8 := Lib.hid hn8
        have HH0 := Lib.hid h0
        clear h0 ht hne hT
        have hn8b : n8 ≤ 600 := by omega
        clear hn8 hlt hk2
        go_wp2_with (first
          | ((with_reducible show wpList _ _ _ (⟨_, .binOp _ _ _ _ _, _, _, _, _⟩ :: _) _ _); (first | ((with_reducible show wpList _ _ _ (⟨_, .binOp .lss _ _ _ _, _, _, _, _⟩ :: _) _ _); refine st_lss rfl _ _ _ _ rfl _ _ _ rfl rfl (fun h_ => ?_) (fun h_ => ?_)) | ((with_reducible show wpList _ _ _ (⟨_, .binOp .leq _ _ _ _, _, _, _, _⟩ :: _) _ _); refine st_leq rfl _ _ _ _ rfl _ _ _ rfl rfl (fun h_ => ?_) (fun h_ => ?_)) | ((with_reducible show wpList _ _ _ (⟨_, .binOp .gtr _ _ _ _, _, _, _, _⟩ :: _) _ _); refine st_gtr rfl _ _ _ _ rfl _ _ _ rfl rfl (fun h_ => ?_) (fun h_ => ?_)) | ((with_reducible show wpList _ _ _ (⟨_, .binOp .geq _ _ _ _, _, _, _, _⟩ :: _) _ _); refine st_geq rfl _ _ _ _ rfl _ _ _ rfl rfl (fun h_ => ?_) (fun h_ => ?_)) | ((with_reducible show wpList _ _ _ (⟨_, .binOp .eql _ _ _ _, _, _, _, _⟩ :: _) _ _); refine st_eql rfl _ _ _ _ rfl _ _ _ rfl rfl (fun h_ => ?_) (fun h_ => ?_)) | ((with_reducible show wpList _ _ _ (⟨_, .binOp .neq _ _ _ _, _, _, _, _⟩ :: _) _ _); refine st_neq rfl _ _ _ _ rfl _ _ _ rfl rfl (fun h_ => ?_) (fun h_ => ?_))) <;> go_prune)
          | ((with_reducible show wpList _ _ _ (⟨_, .makeSlice _ _ _, _, _, _, _⟩ :: _) _ _); refine st_mk hS rfl _ _ _ rfl ty_u8s .i64 .i64 n8 #[.int .u8 0] rfl rfl (by kernel_rfl) (by omega) (by omega) ?_; clear hS; intro g6 w_ hS))
        have hz : (madeCells #[Value.int .u8 0] (n8 * 1)).toList = u8s (byB (orAll (l.take 0)) n8) := by rw [Nat.mul_one, madeCells_u8]; simp [orAll, byB_zero]
        rw [hz] at hS
        clear hz hti
        go_loopw [28] (fun i wr => ∃ k : Nat, k ≤ l.length ∧ i = .int .i64 k ∧ St w0 wr [.own (.slice (some ⟨g6, 0, none⟩) n8 n8) 5 1 n8 (u8s (byB (orAll (l.take k)) n8))] K) (fun i _ => l.length - (intOf i).toNat)
        case atStart => exact ⟨0, by omega, rfl, hS⟩
        case round =>
          clear hS
          obtain ⟨k, hk2, rfl, hS⟩ := hrel
          by_cases hlt : k < l.length
          · have f1 := ints_nat l k hlt
            have HT := Lib.hid (orAll_step hlt)
            have hxT : l.getD k 0 ≤ T := HX.out _ (by rw [List.getD_eq_getElem?_getD, List.getElem?_eq_getElem hlt]; exact List.getElem_mem hlt)
            generalize l.getD k 0 = x at *
            generalize orAll (l.take k) = M at *
            obtain ⟨q, hq⟩ : ∃ q, q = x / 8 := ⟨_, rfl⟩
            obtain ⟨r, hr⟩ : ∃ r, r = x % 8 := ⟨_, rfl⟩
            have hqn : q < n8 := by have := HN8.out; omega
            have hr8 : r < 8 := by omega
            have hB := byB_set (M := M) (m := n8) (x := x) (by omega)
            rw [← hq, ← hr] at hB
            have hc : (u8s (byB M n8))[q]? = some (.int .u8 ((byB M n8).getD q 0 : Nat)) := u8s_at _ _ (by simp [byB]; exact hqn)
            have hb256 : (byB M n8).getD q 0 < 256 := by rw [byB_at hqn]; omega
            generalize (byB M n8).getD q 0 = y at *
            have hpow : 2 ^ r < 256 := Nat.pow_lt_pow_right (by decide) hr8
            have hor := u8_or_nat y (2 ^ r) hb256 hpow
            have hq1 : (x : Int) / 8 = (q : Int) := by omega
            have hr1 : ((x : Int)).tmod 8 = (r : Int) := by rw [hr]; exact tmod_nat x 8
            have hsh : IntKind.u8.wrap (2 ^ r : Int) = ((2 ^ r : Nat) : Int) := by
              rw [show (2 ^ r : Int) = ((2 ^ r : Nat) : Int) by simp]; exact wrap_u8_nat hpow
            have HC := Lib.hid hc
            have HB := Lib.hid hB
            have HOr := Lib.hid hor
            generalize 2 ^ r = pw at *
            clear hq hr hB hc hor
            go_wp2_with (first
              | ((with_reducible show wpList _ _ _ (⟨_, .binOp _ _ _ _ _, _, _, _, _⟩ :: _) _ _); (first | ((with_reducible show wpList _ _ _ (⟨_, .binOp .lss _ _ _ _, _, _, _, _⟩ :: _) _ _); refine st_lss rfl _ _ _ _ rfl _ _ _ rfl rfl (fun h_ => ?_) (fun h_ => ?_)) | ((with_reducible show wpList _ _ _ (⟨_, .binOp .leq _ _ _ _, _, _, _, _⟩ :: _) _ _); refine st_leq rfl _ _ _ _ rfl _ _ _ rfl rfl (fun h_ => ?_) (fun h_ => ?_)) | ((with_reducible show wpList _ _ _ (⟨_, .binOp .gtr _ _ _ _, _, _, _, _⟩ :: _) _ _); refine st_gtr rfl _ _ _ _ rfl _ _ _ rfl rfl (fun h_ => ?_) (fun h_ => ?_)) | ((with_reducible show wpList _ _ _ (⟨_, .binOp .geq _ _ _ _, _, _, _, _⟩ :: _) _ _); refine st_geq rfl _ _ _ _ rfl _ _ _ rfl rfl (fun h_ => ?_) (fun h_ => ?_)) | ((with_reducible show wpList _ _ _ (⟨_, .binOp .eql _ _ _ _, _, _, _, _⟩ :: _) _ _); refine st_eql rfl _ _ _ _ rfl _ _ _ rfl rfl (fun h_ => ?_) (fun h_ => ?_)) | ((with_reducible show wpList _ _ _ (⟨_, .binOp .neq _ _ _ _, _, _, _, _⟩ :: _) _ _); refine st_neq rfl _ _ _ _ rfl _ _ _ rfl rfl (fun h_ => ?_) (fun h_ => ?_))) <;> go_prune)
              | ((with_reducible show wpList _ _ _ (⟨_, .indexAddr _ _ _, _, _, _, _⟩ :: _) _ _); refine st_iaddr1 hS rfl _ _ _ rfl _ rfl rfl (by assumption) Tryz.underlying22 (by kernel_rfl) (by first | assumption | omega) _ (by assumption) ?_; intro p_ hc_)
              | ((with_reducible show wpList _ _ _ (⟨some 39, _, _, _, _, _⟩ :: _) _ _); refine BigFrame.wpList_want rfl fun _ hK => opw_cell rfl rfl (by kernel_rfl) (own_cell (hS.own 0 rfl) q _ HC.out) (hK _ _ ?_))
              | ((with_reducible show wpList _ _ _ (⟨_, .store 5 _ _, _, _, _, _⟩ :: _) _ _); refine st_ostore hS 0 rfl _ _ _ rfl g6 q (.int .u8 ((y ||| pw : Nat) : Int)) rfl (congrArg (Value.int .u8) HOr.out) rfl (by omega) rfl rfl (by kernel_rfl) ?_; clear hS; intro w_ hS; (try simp only [Act.put, Act.eval, List.set_cons_zero, List.set_cons_succ, List.setIfInBounds_toArray, Array.getD_eq_getD_getElem?, List.getElem?_toArray, List.getElem?_cons_succ, List.getElem?_cons_zero, Option.getD_some, Value.cells] at hS)))
            refine ⟨⟨k + 1, hlt, by go_num, ?_⟩, by simp [intOf]; omega⟩
            rw [← u8s_set, HB.out, ← HT.out] at hS
            exact hS
          · obtain rfl : k = l.length := by omega
            rw [List.take_length] at hS
            go_wp2_with (first | ((with_reducible show wpList _ _ _ (⟨_, .binOp _ _ _ _ _, _, _, _, _⟩ :: _) _ _); (first | ((with_reducible show wpList _ _ _ (⟨_, .binOp .lss _ _ _ _, _, _, _, _⟩ :: _) _ _); refine st_lss rfl _ _ _ _ rfl _ _ _ rfl rfl (fun h_ => ?_) (fun h_ => ?_)) | ((with_reducible show wpList _ _ _ (⟨_, .binOp .leq _ _ _ _, _, _, _, _⟩ :: _) _ _); refine st_leq rfl _ _ _ _ rfl _ _ _ rfl rfl (fun h_ => ?_) (fun h_ => ?_)) | ((with_reducible show wpList _ _ _ (⟨_, .binOp .gtr _ _ _ _, _, _, _, _⟩ :: _) _ _); refine st_gtr rfl _ _ _ _ rfl _ _ _ rfl rfl (fun h_ => ?_) (fun h_ => ?_)) | ((with_reducible show wpList _ _ _ (⟨_, .binOp .geq _ _ _ _, _, _, _, _⟩ :: _) _ _); refine st_geq rfl _ _ _ _ rfl _ _ _ rfl rfl (fun h_ => ?_) (fun h_ => ?_)) | ((with_reducible show wpList _ _ _ (⟨_, .binOp .eql _ _ _ _, _, _, _, _⟩ :: _) _ _); refine st_eql rfl _ _ _ _ rfl _ _ _ rfl rfl (fun h_ => ?_) (fun h_ => ?_)) | ((with_reducible show wpList _ _ _ (⟨_, .binOp .neq _ _ _ _, _, _, _, _⟩ :: _) _ _); refine st_neq rfl _ _ _ _ rfl _ _ _ rfl rfl (fun h_ => ?_) (fun h_ => ?_))) <;> go_prune))
            go_ret
            rw [HN.out, ← HN8.out]
            have h := hS.own 0 rfl
            exact Ret.mk (own_u8s h rfl) hS.below
theorem own_down {w : World} {b b' : Nat} {e : TypeId} {size n : Nat} {v : Value} {xs : List Value} (h : w.ownsRow b e size v n xs) (hb : b' ≤ b) : w.ownsRow b' e size v n xs := by
  refine ⟨h.1, ?_⟩
  rcases h.2 with h | ⟨g, cap, cur, h1, h2, h3⟩
  · exact .inl h
  · exact .inr ⟨g, cap, cur, h1, Nat.le_trans hb h2, h3⟩
theorem rputs_any (p : Value) (l : List Nat) (hl : l.length ≤ 1000000 ∧ ∀ x ∈ l, x < 4096) (w0 : World) (D : Nat → Prop) (hp : Sl w0 D 1 p l.length (ints (natInts l))) :
    Calls Tryz.prog 96 #[p] w0 (Ret (fun x w' => OwnU w' w0.heap.size x (putSet (orAll l))) w0) := by
  have hS := St.start0 (w := w0)
  have HC := Lib.hid (rsetb_any p l hl w0 D hp)
  have hsb : (setBytes (orAll l)).length ≤ 512 := setBytes_len (Nat.lt_pow_two_of_testBit _ fun i hi => by
    rw [orAll_bit]
    have : ¬ i ∈ l := fun hm => by have := hl.2 i hm; omega
    simpa using this)
  clear hp hl
  go_enter Tryz.func96, Tryz.ntmps96
  go_wp2_with (first
    | (go_at_call 103; refine HC.out.mono ?_; rintro r_ w1 ⟨v, rfl, h1, hb1⟩; replace hS := hS.owned hb1 h1; clear hb1)
    | (go_at_call 59; refine (rputb_any v (setBytes (orAll l)) (by omega) _ _ (Sl.of_own (hS.own 0 rfl))).mono ?_; rintro r_ w2 ⟨v2, rfl, h2, hb2⟩))
  go_ret
  exact Ret.mk (own_down h2 hS.size) (hS.ext hb2).below
theorem rset36_any (N : Nat) (hN : N < T64) (w0 : World) : Calls Tryz.prog 85 #[.int .u64 (N : Nat)] w0 (Ret (fun x w' => OwnU w' w0.heap.size x (putSet N)) w0) := by
  have hS := St.start0 (w := w0)
  have HO := Lib.hid (orAll_members hN)
  have HL := Lib.hid (show (members N).length ≤ 1000000 ∧ ∀ x ∈ members N, x < 4096 from ⟨by have := memTo_len N 64; unfold members; omega, fun x hx => by
    simp [members, memTo] at hx; omega⟩)
  go_enter Tryz.func85, Tryz.ntmps85
  go_wp2_with (first
    | (go_at_call 73; refine (members_any N _).mono ?_; rintro r_ w1 ⟨v, rfl, h1, hb1⟩; replace hS := hS.ret hb1 stable_sl h1; clear h1 hb1)
    | (go_at_call 96; refine (rputs_any v (members N) HL.out _ _ hS.ro.2).mono ?_; rw [HO.out]; rintro r_ w2 ⟨v2, rfl, h2, hb2⟩))
  go_ret
  exact Ret.mk (own_down h2 hS.size) (hS.ext hb2).below
end Go.Proofs.YtenpkgdnlogfiaaGreatDoor
namespace Go.Proofs.YtenpkgdnlogfiaaGreatDoor
open Go.RowKit
attribute [local go_sem ↓] Go.wp_at_zero Go.wp_at_succ
set_option maxRecDepth 20000

theorem rcube36_any (y n : Nat) (hy : y < T64) (hn : n < T64) (w0 : World) : Calls Tryz.prog 58 #[.agg #[.int .u64 (y : Nat), .int .u64 (n : Nat)]] w0 (Ret (fun x w' => OwnU w' w0.heap.size x (putCube y n)) w0) := by
  have hS := St.start0 (w := w0)
  have hly := putSet_len (small_set hy).1
  have hln := putSet_len (small_set hn).1
  go_enter Tryz.func58, Tryz.ntmps58
  go_wp2_with (first | ((with_reducible show wpList _ _ _ (⟨some 1, _, _, _, _, _⟩ :: _) _ _); refine st_box hS rfl _ _ rfl (.agg #[.int .u64 (y : Nat), .int .u64 (n : Nat)]) _ rfl rfl ?_; clear hS; intro g1 w_ hS; (try simp only [Act.put, Act.eval, List.set_cons_zero, List.set_cons_succ, List.setIfInBounds_toArray, Array.getD_eq_getD_getElem?, List.getElem?_toArray, List.getElem?_cons_succ, List.getElem?_cons_zero, Option.getD_some, Value.cells] at hS)))
  refine wp_region_tail2 (fun i lo hi v w => match i with
    | 0 => v = .pointer (some ⟨g1, 0, none⟩)
    | 1 => v = .int .u64 (y : Nat)
    | 2 => w.ownsRow lo 5 1 v (putSet y).length (u8s (putSet y)) ∧ ∀ b, v.ownBlock = some b → b < hi
    | 3 => v = .pointer (some ⟨g1, 1, none⟩)
    | 4 => v = .int .u64 (n : Nat)
    | 5 => w.ownsRow lo 5 1 v (putSet n).length (u8s (putSet n)) ∧ ∀ b, v.ownBlock = some b → b < hi
    | 6 => True
    | 7 => True
    | _ => True) 6 [7] (by kernel_rfl) (by kernel_rfl) (by kernel_rfl) (by kernel_rfl) (by kernel_rfl) ?mono ⟨.inr ?r0, .inr ?r1, .inr ?r2, .inr ?r3, .inr ?r4, .inr ?r5, .inl (by decide), .inl (by decide), trivial⟩ ?post
  case mono =>
    intro i lo hi v w w' h hb
    match i, h with
    | 0, h => exact h
    | 1, h => exact h
    | 2, h => exact ⟨own_ext h.1 hb, h.2⟩
    | 3, h => exact h
    | 4, h => exact h
    | 5, h => exact ⟨own_ext h.1 hb, h.2⟩
    | 6, h => exact h
    | 7, h => exact h
    | _ + 8, h => trivial
  case r0 =>
    refine truleG fun b w hW hold hpre => ⟨fun hwant K hK => ?_, fun hwant => ?_⟩
    · clear hwant
      have e1 : b.eval (.tmp 1) = .pointer (some ⟨g1, 0, none⟩) := (hold 1 (by kernel_rfl)).trans rfl
      exact opw_faddr rfl e1 (by kernel_rfl) (hK _ _ rfl (Below.refl _ _))
    · rw [want_none rfl] at hwant; cases hwant
  case r1 =>
    refine truleG fun b w hW hold hpre => ⟨fun hwant K hK => ?_, fun hwant => ?_⟩
    · clear hwant
      have e3 : b.eval (.tmp 3) = .pointer (some ⟨g1, 0, none⟩) := by obtain ⟨_, _, h⟩ := hpre ⟨0, _⟩ (Array.mem_of_getElem? (i := 0) rfl) rfl _ _ rfl rfl; exact h
      exact opw_cell rfl e3 (by kernel_rfl) ((hS.ext (undrew hW)).shut 0 rfl 0 rfl) (hK _ _ rfl (Below.refl _ _))
    · rw [want_none rfl] at hwant; cases hwant
  case r2 =>
    refine truleG fun b w hW hold hpre => ⟨fun hwant K hK => ?_, fun hwant => ?_⟩
    · clear hwant
      have e4 : b.eval (.tmp 4) = .int .u64 (y : Nat) := by obtain ⟨_, _, h⟩ := hpre ⟨1, _⟩ (Array.mem_of_getElem? (i := 0) rfl) rfl _ _ rfl rfl; exact h
      exact opw_call rfl (by kernel_rfl) (by simp [e4]) (rset36_any y hy w) fun v w' h hb => hK v w' ⟨h, fun b e => own_lt h b e⟩ hb
    · rw [want_none rfl] at hwant; cases hwant
  case r3 =>
    refine truleG fun b w hW hold hpre => ⟨fun hwant K hK => ?_, fun hwant => ?_⟩
    · clear hwant
      have e1 : b.eval (.tmp 1) = .pointer (some ⟨g1, 0, none⟩) := (hold 1 (by kernel_rfl)).trans rfl
      exact opw_faddr rfl e1 (by kernel_rfl) (hK _ _ rfl (Below.refl _ _))
    · rw [want_none rfl] at hwant; cases hwant
  case r4 =>
    refine truleG fun b w hW hold hpre => ⟨fun hwant K hK => ?_, fun hwant => ?_⟩
    · clear hwant
      have e6 : b.eval (.tmp 6) = .pointer (some ⟨g1, 1, none⟩) := by obtain ⟨_, _, h⟩ := hpre ⟨3, _⟩ (Array.mem_of_getElem? (i := 0) rfl) rfl _ _ rfl rfl; exact h
      exact opw_cell rfl e6 (by kernel_rfl) ((hS.ext (undrew hW)).shut 0 rfl 1 rfl) (hK _ _ rfl (Below.refl _ _))
    · rw [want_none rfl] at hwant; cases hwant
  case r5 =>
    refine truleG fun b w hW hold hpre => ⟨fun hwant K hK => ?_, fun hwant => ?_⟩
    · clear hwant
      have e7 : b.eval (.tmp 7) = .int .u64 (n : Nat) := by obtain ⟨_, _, h⟩ := hpre ⟨4, _⟩ (Array.mem_of_getElem? (i := 0) rfl) rfl _ _ rfl rfl; exact h
      exact opw_call rfl (by kernel_rfl) (by simp [e7]) (rset36_any n hn w) fun v w' h hb => hK v w' ⟨h, fun b e => own_lt h b e⟩ hb
    · rw [want_none rfl] at hwant; cases hwant
  case post =>
    intro b wz lo hi hW hdf hsz hold hT hap hlim
    have e5 : (fun (v : Value) (w : World) => w.ownsRow (lo 2) 5 1 v (putSet y).length (u8s (putSet y)) ∧ ∀ b, v.ownBlock = some b → b < (hi 2)) (b.eval (.tmp 5)) wz := hT 2 _ 5 (by decide) rfl rfl
    have e8 : (fun (v : Value) (w : World) => w.ownsRow (lo 5) 5 1 v (putSet n).length (u8s (putSet n)) ∧ ∀ b, v.ownBlock = some b → b < (hi 5)) (b.eval (.tmp 8)) wz := hT 5 _ 8 (by decide) rfl rfl
    have e3 : b.eval (.tmp 3) = .pointer (some ⟨g1, 0, none⟩) := hT 0 _ 3 (by decide) rfl rfl
    have e4 : b.eval (.tmp 4) = .int .u64 (y : Nat) := hT 1 _ 4 (by decide) rfl rfl
    have e6 : b.eval (.tmp 6) = .pointer (some ⟨g1, 1, none⟩) := hT 3 _ 6 (by decide) rfl rfl
    have e7 : b.eval (.tmp 7) = .int .u64 (n : Nat) := hT 4 _ 7 (by decide) rfl rfl
    obtain ⟨vs, hvs, hb⟩ := frame_of hdf hsz hold
    replace e5 := (hvs 5) ▸ e5
    replace e8 := (hvs 8) ▸ e8
    replace e3 : vs 3 = .pointer (some ⟨g1, 0, none⟩) := (hvs 3).symm.trans e3
    replace e4 : vs 4 = .int .u64 (y : Nat) := (hvs 4).symm.trans e4
    replace e6 : vs 6 = .pointer (some ⟨g1, 1, none⟩) := (hvs 6).symm.trans e6
    replace e7 : vs 7 = .int .u64 (n : Nat) := (hvs 7).symm.trans e7
    subst hb
    clear hvs hold hT hdf hsz
    simp only [setAll, Act.put, List.setIfInBounds_toArray, List.set_cons_zero, List.set_cons_succ, List.getElem_toArray, List.getElem_cons_succ, List.getElem_cons_zero]
    obtain ⟨h5, b5⟩ := e5
    obtain ⟨h8, b8⟩ := e8
    have a25 := hap 2 5 (by decide) (by decide) (by decide) (by decide) (by decide)
    have L2 := (hlim 2 (by decide) (by decide)).1
    have L5 := (hlim 5 (by decide) (by decide)).1
    have hS2 := hS.new2 hW (.own (vs 5) 5 1 (putSet y).length (u8s (putSet y))) (.own (vs 8) 5 1 (putSet n).length (u8s (putSet n))) (own_down h5 L2) (own_down h8 L5) (fun k e1 e2 => by
      have c1 := own_ge h5 k e1; have c2 := b5 k e1; have c3 := own_ge h8 k e2; have c4 := b8 k e2; omega)
    clear h5 h8 b5 b8 a25 L2 L5 hap hlim
    (intro o_ ho_; simp only [List.getElem?_toArray, List.getElem?_cons_succ, List.getElem?_cons_zero, Option.some.injEq] at ho_; subst ho_)
    refine opw_app rfl ty_u8s rfl (hS2.own 0 rfl) rfl (Sl.of_own (hS2.own 1 rfl)) (u8s_one _) (by omega) (by omega) hS2.size fun v' w4 a1 a2 a3 => ?_
    replace hS2 := hS2.upd 0 rfl (.own v' 5 1 ((putSet y).length + (putSet n).length) (u8s (putSet y) ++ u8s (putSet n))) a2 a1 a3
    (intro o_ ho_; simp only [List.getElem?_toArray, List.getElem?_cons_succ, List.getElem?_cons_zero, Option.some.injEq] at ho_; subst ho_)
    simp only [Act.put, List.setIfInBounds_toArray, List.set_cons_zero, List.set_cons_succ]
    refine opw_assign rfl rfl ?_
    simp only [TailWp]
    simp only [Act.put, List.setIfInBounds_toArray, List.set_cons_zero, List.set_cons_succ]
    go_wp2_with fail
    go_ret
    exact Ret.mk (own_u8s (hS2.own 0 rfl) (by simp [u8s, putCube])) hS2.below
theorem flat_len1 (l : List (Nat × Nat)) (hs : Small l) : (l.flatMap fun z => putCube z.1 z.2).length ≤ 1046 * l.length := flat_len l fun z hz => ⟨(small_set (hs z hz).1).1, (small_set (hs z hz).2).1⟩
set_option maxHeartbeats 1000000 in
theorem rcubes36_any (v : Value) (l : List (Nat × Nat)) (w0 : World) (D : Nat → Prop) (hv : RCubes w0 D v l) (hs : Small l) (hl : l.length ≤ 10000) :
    Calls Tryz.prog 28 #[v] w0 (Ret (fun x w' => OwnU w' w0.heap.size x (putCubes l)) w0) := by
  obtain ⟨A, c, rfl, _, _⟩ := hv.shape
  obtain ⟨K, hk, hS⟩ : ∃ K, (∀ D w, K D w → Sl w D 2 (.slice A l.length c) l.length (rcells l)) ∧ St w0 w0 [] K := ⟨fun D w => Sl w D 2 (.slice A l.length c) l.length (rcells l), fun _ _ h => h, St.start stable_sl hv⟩
  clear hv
  have HS := Lib.hid hs
  clear hs
  have hw : IntKind.u64.wrap (l.length : Int) = (l.length : Int) := wrap_u64_nat (by unfold T64; omega)
  have hpl := putN_len l.length
  go_enter Tryz.func28, Tryz.ntmps28
  go_wp2_with (first
    | (go_at_call 27; refine (rput_any l.length (by unfold T64; omega) _).mono ?_; rintro r_ w1 ⟨v1, rfl, h1, hb1⟩; replace hS := hS.owned hb1 h1; clear h1 hb1))
  go_loopw [3, 12] (fun o i wr => ∃ (k : Nat) (ov : Value) (bs : List Nat), k ≤ l.length ∧ i = .int .i64 k ∧ o = ov ∧ bs = putN l.length ++ (l.take k).flatMap (fun z => putCube z.1 z.2) ∧ St w0 wr [.own ov 5 1 bs.length (u8s bs)] K) (fun _ i _ => l.length - (intOf i).toNat)
  case atStart => exact ⟨0, v1, _, by omega, rfl, rfl, rfl, by simpa using hS⟩
  case round =>
    clear hS
    obtain ⟨k, ov, bs, hk2, rfl, rfl, hbs, hS⟩ := hrel
    by_cases hlt : k < l.length
    · obtain ⟨f1, f2⟩ := rcells_at l k hlt
      have HT := Lib.hid (flat_step l k hlt)
      have hz := HS.out.at_ k hlt
      have hbl : bs.length ≤ 20000000 := by
        have := flat_len1 (l.take k) (fun z hz => HS.out z (List.mem_of_mem_take hz))
        rw [hbs, List.length_append]; rw [List.length_take] at this; omega
      have HB := Lib.hid hbs
      clear hbs
      generalize l.getD k (0, 0) = z at *
      obtain ⟨y, n⟩ := z
      dsimp only at f1 f2 HT hz
      have hcl : (putCube y n).length ≤ 1046 := by
        have h1 := putSet_len (small_set hz.1).1
        have h2 := putSet_len (small_set hz.2).1
        simp only [putCube, List.length_append]; omega
      obtain ⟨pc, hpc⟩ : ∃ x, x = putCube y n := ⟨_, rfl⟩
      rw [← hpc] at HT hcl
      have HCu : Hid (∀ w, Calls Tryz.prog 58 #[.agg #[.int .u64 (y : Nat), .int .u64 (n : Nat)]] w (Ret (fun x w' => OwnU w' w.heap.size x pc) w)) := Lib.hid (fun w => by rw [hpc]; exact rcube36_any y n hz.1 hz.2 w)
      clear hpc
      go_wp2_with (first
        | ((with_reducible show wpList _ _ _ (⟨_, .binOp _ _ _ _ _, _, _, _, _⟩ :: _) _ _); (first | ((with_reducible show wpList _ _ _ (⟨_, .binOp .lss _ _ _ _, _, _, _, _⟩ :: _) _ _); refine st_lss rfl _ _ _ _ rfl _ _ _ rfl rfl (fun h_ => ?_) (fun h_ => ?_)) | ((with_reducible show wpList _ _ _ (⟨_, .binOp .leq _ _ _ _, _, _, _, _⟩ :: _) _ _); refine st_leq rfl _ _ _ _ rfl _ _ _ rfl rfl (fun h_ => ?_) (fun h_ => ?_)) | ((with_reducible show wpList _ _ _ (⟨_, .binOp .gtr _ _ _ _, _, _, _, _⟩ :: _) _ _); refine st_gtr rfl _ _ _ _ rfl _ _ _ rfl rfl (fun h_ => ?_) (fun h_ => ?_)) | ((with_reducible show wpList _ _ _ (⟨_, .binOp .geq _ _ _ _, _, _, _, _⟩ :: _) _ _); refine st_geq rfl _ _ _ _ rfl _ _ _ rfl rfl (fun h_ => ?_) (fun h_ => ?_)) | ((with_reducible show wpList _ _ _ (⟨_, .binOp .eql _ _ _ _, _, _, _, _⟩ :: _) _ _); refine st_eql rfl _ _ _ _ rfl _ _ _ rfl rfl (fun h_ => ?_) (fun h_ => ?_)) | ((with_reducible show wpList _ _ _ (⟨_, .binOp .neq _ _ _ _, _, _, _, _⟩ :: _) _ _); refine st_neq rfl _ _ _ _ rfl _ _ _ rfl rfl (fun h_ => ?_) (fun h_ => ?_))) <;> go_prune)
        | ((with_reducible show wpList _ _ _ (⟨_, .indexAddr _ _ _, _, _, _, _⟩ :: _) _ _); refine st_iaddr2 hS rfl _ _ _ rfl _ rfl rfl (by assumption) Tryz.underlying28 (by kernel_rfl) (by first | assumption | omega) _ _ (by assumption) (by assumption) ?_; intro b_ j_ hc0_ hc1_)
        | ((with_reducible show wpList _ _ _ (⟨some 5, _, _, _, _, _⟩ :: _) _ _); refine st_alloc hS rfl _ rfl (by kernel_rfl) ?_; clear hS; intro g5 w_ hS; (try simp only [Act.put, Act.eval, List.set_cons_zero, List.set_cons_succ, List.setIfInBounds_toArray, Array.getD_eq_getD_getElem?, List.getElem?_toArray, List.getElem?_cons_succ, List.getElem?_cons_zero, Option.getD_some, Value.cells] at hS))
        | ((with_reducible show wpList _ _ _ (⟨_, .store _ _ _, _, _, _, _⟩ :: _) _ _); first | (refine st_store hS 0 rfl _ _ _ rfl _ _ rfl rfl _ _ rfl (by kernel_rfl) (by kernel_rfl) (by kernel_rfl) ?_; clear hS; intro w_ hS; (try simp only [Act.put, Act.eval, List.set_cons_zero, List.set_cons_succ, List.setIfInBounds_toArray, Array.getD_eq_getD_getElem?, List.getElem?_toArray, List.getElem?_cons_succ, List.getElem?_cons_zero, Option.getD_some, Value.cells] at hS)) | (refine st_store hS 1 rfl _ _ _ rfl _ _ rfl rfl _ _ rfl (by kernel_rfl) (by kernel_rfl) (by kernel_rfl) ?_; clear hS; intro w_ hS; (try simp only [Act.put, Act.eval, List.set_cons_zero, List.set_cons_succ, List.setIfInBounds_toArray, Array.getD_eq_getD_getElem?, List.getElem?_toArray, List.getElem?_cons_succ, List.getElem?_cons_zero, Option.getD_some, Value.cells] at hS)) | (refine st_store hS 2 rfl _ _ _ rfl _ _ rfl rfl _ _ rfl (by kernel_rfl) (by kernel_rfl) (by kernel_rfl) ?_; clear hS; intro w_ hS; (try simp only [Act.put, Act.eval, List.set_cons_zero, List.set_cons_succ, List.setIfInBounds_toArray, Array.getD_eq_getD_getElem?, List.getElem?_toArray, List.getElem?_cons_succ, List.getElem?_cons_zero, Option.getD_some, Value.cells] at hS)) | (refine st_store hS 3 rfl _ _ _ rfl _ _ rfl rfl _ _ rfl (by kernel_rfl) (by kernel_rfl) (by kernel_rfl) ?_; clear hS; intro w_ hS; (try simp only [Act.put, Act.eval, List.set_cons_zero, List.set_cons_succ, List.setIfInBounds_toArray, Array.getD_eq_getD_getElem?, List.getElem?_toArray, List.getElem?_cons_succ, List.getElem?_cons_zero, Option.getD_some, Value.cells] at hS)) | (refine st_cstore hS 0 rfl _ _ _ rfl _ _ _ rfl rfl rfl (by first | (simp; done) | (simp; omega) | exact of_decide_eq_true (by kernel_rfl)) rfl (by first | rfl | assumption) (by kernel_rfl) ?_; clear hS; intro w_ hS; (try simp only [Act.put, Act.eval, List.set_cons_zero, List.set_cons_succ, List.setIfInBounds_toArray, Array.getD_eq_getD_getElem?, List.getElem?_toArray, List.getElem?_cons_succ, List.getElem?_cons_zero, Option.getD_some, Value.cells] at hS)) | (refine st_cstore hS 1 rfl _ _ _ rfl _ _ _ rfl rfl rfl (by first | (simp; done) | (simp; omega) | exact of_decide_eq_true (by kernel_rfl)) rfl (by first | rfl | assumption) (by kernel_rfl) ?_; clear hS; intro w_ hS; (try simp only [Act.put, Act.eval, List.set_cons_zero, List.set_cons_succ, List.setIfInBounds_toArray, Array.getD_eq_getD_getElem?, List.getElem?_toArray, List.getElem?_cons_succ, List.getElem?_cons_zero, Option.getD_some, Value.cells] at hS)) | (refine st_cstore hS 2 rfl _ _ _ rfl _ _ _ rfl rfl rfl (by first | (simp; done) | (simp; omega) | exact of_decide_eq_true (by kernel_rfl)) rfl (by first | rfl | assumption) (by kernel_rfl) ?_; clear hS; intro w_ hS; (try simp only [Act.put, Act.eval, List.set_cons_zero, List.set_cons_succ, List.setIfInBounds_toArray, Array.getD_eq_getD_getElem?, List.getElem?_toArray, List.getElem?_cons_succ, List.getElem?_cons_zero, Option.getD_some, Value.cells] at hS)) | (refine st_cstore hS 3 rfl _ _ _ rfl _ _ _ rfl rfl rfl (by first | (simp; done) | (simp; omega) | exact of_decide_eq_true (by kernel_rfl)) rfl (by first | rfl | assumption) (by kernel_rfl) ?_; clear hS; intro w_ hS; (try simp only [Act.put, Act.eval, List.set_cons_zero, List.set_cons_succ, List.setIfInBounds_toArray, Array.getD_eq_getD_getElem?, List.getElem?_toArray, List.getElem?_cons_succ, List.getElem?_cons_zero, Option.getD_some, Value.cells] at hS)))
        | ((with_reducible show wpList _ _ _ (⟨_, .load _ _, _, _, _, _⟩ :: _) _ _); first | refine st_load hS 0 rfl _ _ rfl _ rfl _ _ rfl _ Tryz.underlying60 rfl (by kernel_rfl) ?_ | refine st_load hS 1 rfl _ _ rfl _ rfl _ _ rfl _ Tryz.underlying60 rfl (by kernel_rfl) ?_ | refine st_load hS 2 rfl _ _ rfl _ rfl _ _ rfl _ Tryz.underlying60 rfl (by kernel_rfl) ?_ | refine st_load hS 3 rfl _ _ rfl _ rfl _ _ rfl _ Tryz.underlying60 rfl (by kernel_rfl) ?_)
        | (go_at_call 58; refine (HCu.out _).mono ?_; rintro r_ w2 ⟨v2, rfl, h2, hb2⟩; replace hS := hS.owned hb2 h2; clear h2 hb2)
        | ((with_reducible show wpList _ _ _ (⟨some 19, _, _, _, _, _⟩ :: _) _ _); refine st_app hS 2 rfl _ _ _ rfl ty_u8s _ _ _ rfl rfl _ _ _ _ rfl (Sl.of_own (hS.own 0 rfl)) (u8s_one _) (by unfold maxLen; omega) (by omega) ?_; clear hS; intro v_ w_ hS; (try simp only [Act.put, Act.eval, List.set_cons_zero, List.set_cons_succ, List.setIfInBounds_toArray, Array.getD_eq_getD_getElem?, List.getElem?_toArray, List.getElem?_cons_succ, List.getElem?_cons_zero, Option.getD_some, Value.cells] at hS)))
      refine ⟨⟨k + 1, v_, bs ++ pc, hlt, by go_num, rfl, by rw [HB.out, HT.out, List.append_assoc], ?_⟩, by simp [intOf]; omega⟩
      have h := hS.sub (F' := [_]) (.cons _ (.cons _ (.refl _)))
      simpa [u8s] using h
    · obtain rfl : k = l.length := by omega
      rw [List.take_length] at hbs
      go_wp2_with (first | ((with_reducible show wpList _ _ _ (⟨_, .binOp _ _ _ _ _, _, _, _, _⟩ :: _) _ _); (first | ((with_reducible show wpList _ _ _ (⟨_, .binOp .lss _ _ _ _, _, _, _, _⟩ :: _) _ _); refine st_lss rfl _ _ _ _ rfl _ _ _ rfl rfl (fun h_ => ?_) (fun h_ => ?_)) | ((with_reducible show wpList _ _ _ (⟨_, .binOp .leq _ _ _ _, _, _, _, _⟩ :: _) _ _); refine st_leq rfl _ _ _ _ rfl _ _ _ rfl rfl (fun h_ => ?_) (fun h_ => ?_)) | ((with_reducible show wpList _ _ _ (⟨_, .binOp .gtr _ _ _ _, _, _, _, _⟩ :: _) _ _); refine st_gtr rfl _ _ _ _ rfl _ _ _ rfl rfl (fun h_ => ?_) (fun h_ => ?_)) | ((with_reducible show wpList _ _ _ (⟨_, .binOp .geq _ _ _ _, _, _, _, _⟩ :: _) _ _); refine st_geq rfl _ _ _ _ rfl _ _ _ rfl rfl (fun h_ => ?_) (fun h_ => ?_)) | ((with_reducible show wpList _ _ _ (⟨_, .binOp .eql _ _ _ _, _, _, _, _⟩ :: _) _ _); refine st_eql rfl _ _ _ _ rfl _ _ _ rfl rfl (fun h_ => ?_) (fun h_ => ?_)) | ((with_reducible show wpList _ _ _ (⟨_, .binOp .neq _ _ _ _, _, _, _, _⟩ :: _) _ _); refine st_neq rfl _ _ _ _ rfl _ _ _ rfl rfl (fun h_ => ?_) (fun h_ => ?_))) <;> go_prune))
      go_ret
      subst hbs
      exact Ret.mk (hS.own 0 rfl) hS.below
/-- the front of a block as a slice -/
theorem sl_front {w : World} {g n : Nat} {t : TypeId} {cs : Array Value} {xs : List Value} (h : Box w g t cs) (hl : xs.length = n) (hn : n ≤ 1000000) (hx : ∀ (j : Nat) (x : Value), xs[j]? = some x → cs[j]? = some x) : Sl w (· = g) 1 (.slice (some ⟨g, 0, none⟩) n n) n xs :=
  ⟨by rw [hl, Nat.mul_one], _, _, rfl, Nat.le_refl _, by unfold maxLen; omega, fun _ => ⟨g, 0, rfl, rfl, h.lt, fun j x hj => by rw [Nat.zero_add, h.cell]; exact hx j x hj⟩⟩
set_option maxHeartbeats 2000000 in
theorem rbytes36_any (v : Value) (c : CertD) (w0 : World) (D : Nat → Prop) (hv : IsRCert w0 D v c) (hs : Small c.cubes) :
    Calls Tryz.prog 8 #[v] w0 (Ret (fun x w' => OwnU w' w0.heap.size x (bytesC c)) w0) := by
  have HCk := Lib.hid (fun (w : World) (D' : Nat → Prop) (h : IsRCert w D' v c) => rcheck_any v c w D' h hs)
  obtain ⟨K, hkc, hS⟩ : ∃ K, (∀ D w, K D w → IsRCert w D v c) ∧ St w0 w0 [] K := ⟨fun D w => IsRCert w D v c, fun _ _ h => h, St.start stable_rcertE hv⟩
  obtain ⟨pv, qv, rfl, h32, hpb, hp, hq⟩ := hv
  obtain ⟨A, cp, rfl, _, _⟩ := hp.shape
  obtain ⟨A', cq, rfl, _, _⟩ := hq.shape
  obtain ⟨prob, reach, plan, cubes⟩ := c
  dsimp only at *
  have hcc : ∀ D w, K D w → Sl w D 1 (.slice A plan.length cp) plan.length (ints plan) ∧ Sl w D 2 (.slice A' cubes.length cq) cubes.length (rcells cubes) := fun D w h => by
    obtain ⟨pv', qv', e, _, _, h1, h2⟩ := hkc D w h
    injection e with e
    have a1 := (cc_at prob reach (.slice A plan.length cp) (.slice A' cubes.length cq) h32)
    have a2 := (cc_at prob reach pv' qv' h32)
    rw [← e] at a2
    have e1 : pv' = .slice A plan.length cp := Option.some.inj (a2.2.1.symm.trans a1.2.1)
    have e2 : qv' = .slice A' cubes.length cq := Option.some.inj (a2.2.2.symm.trans a1.2.2)
    subst e1 e2; exact ⟨h1, h2⟩
  have k1 : ∀ D w, K D w → Sl w D 1 (.slice A plan.length cp) plan.length (ints plan) := fun D w h => (hcc D w h).1
  have k2 : ∀ D w, K D w → Sl w D 2 (.slice A' cubes.length cq) cubes.length (rcells cubes) := fun D w h => (hcc D w h).2
  obtain ⟨x32, x33, x34⟩ := cc_at prob reach (.slice A plan.length cp) (.slice A' cubes.length cq) h32
  have HFr := Lib.hid (show ∀ (j : Nat) (x : Value), (u8s prob)[j]? = some x → (cc prob reach (.slice A plan.length cp) (.slice A' cubes.length cq))[j]? = some x from fun j x hj => by
    have hjl := (List.getElem?_eq_some_iff.1 hj).1
    simp only [cc, List.getElem?_toArray]; rw [List.getElem?_append_left hjl]; exact hj)
  have HSz := Lib.hid (cc_info prob reach (.slice A plan.length cp) (.slice A' cubes.length cq) h32)
  have HKC := Lib.hid hkc
  generalize cc prob reach (.slice A plan.length cp) (.slice A' cubes.length cq) = cs at *
  have HSm := Lib.hid hs
  have HB := Lib.hid (show bytesC ⟨prob, reach, plan, cubes⟩ = if checkC ⟨prob, reach, plan, cubes⟩ = 0 then _ else [] from rfl)
  have HPO := Lib.hid (plan_ok (c := ⟨prob, reach, plan, cubes⟩))
  generalize checkC ⟨prob, reach, plan, cubes⟩ = CK at *
  clear hp hq hcc hkc hs
  by_cases h0 : CK = 0
  · subst h0
    obtain ⟨hpl, hcl, hpk⟩ := HPO.out rfl
    dsimp only at hpl hcl hpk
    have HBS := Lib.hid (HB.out.trans (if_pos rfl))
    have HPK := Lib.hid hpk
    have hw : IntKind.u64.wrap (plan.length : Int) = (plan.length : Int) := wrap_u64_nat (by unfold T64; omega)
    have hn1 := putN_len plan.length
    have hfl : (putFlag reach).length ≤ 1 := by cases reach <;> simp [putFlag]
    clear hpk HB HPO
    go_enter Tryz.func8, Tryz.ntmps8
    go_wp2_with (first
      | ((with_reducible show wpList _ _ _ (⟨some 1, _, _, _, _, _⟩ :: _) _ _); refine st_box hS rfl _ _ rfl (.agg cs) _ rfl rfl ?_; clear hS; intro g1 w_ hS; (try simp only [Act.put, Act.eval, List.set_cons_zero, List.set_cons_succ, List.setIfInBounds_toArray, Array.getD_eq_getD_getElem?, List.getElem?_toArray, List.getElem?_cons_succ, List.getElem?_cons_zero, Option.getD_some, Value.cells] at hS))
      | ((with_reducible show wpList _ _ _ (⟨some 6, _, _, _, _, _⟩ :: _) _ _); refine st_load hS 0 rfl _ _ rfl g1 rfl _ cs rfl _ Tryz.underlying30 rfl HSz.out ?_)
      | (go_at_call 11; refine (HCk.out _ _ (HKC.out _ _ hS.ro)).mono ?_; rintro r_ w2 ⟨_, rfl, rfl, hb2⟩; replace hS := hS.ext hb2; clear hb2)
      | ((with_reducible show wpList _ _ _ (⟨_, .binOp _ _ _ _ _, _, _, _, _⟩ :: _) _ _); (first | ((with_reducible show wpList _ _ _ (⟨_, .binOp .lss _ _ _ _, _, _, _, _⟩ :: _) _ _); refine st_lss rfl _ _ _ _ rfl _ _ _ rfl rfl (fun h_ => ?_) (fun h_ => ?_)) | ((with_reducible show wpList _ _ _ (⟨_, .binOp .leq _ _ _ _, _, _, _, _⟩ :: _) _ _); refine st_leq rfl _ _ _ _ rfl _ _ _ rfl rfl (fun h_ => ?_) (fun h_ => ?_)) | ((with_reducible show wpList _ _ _ (⟨_, .binOp .gtr _ _ _ _, _, _, _, _⟩ :: _) _ _); refine st_gtr rfl _ _ _ _ rfl _ _ _ rfl rfl (fun h_ => ?_) (fun h_ => ?_)) | ((with_reducible show wpList _ _ _ (⟨_, .binOp .geq _ _ _ _, _, _, _, _⟩ :: _) _ _); refine st_geq rfl _ _ _ _ rfl _ _ _ rfl rfl (fun h_ => ?_) (fun h_ => ?_)) | ((with_reducible show wpList _ _ _ (⟨_, .binOp .eql _ _ _ _, _, _, _, _⟩ :: _) _ _); refine st_eql rfl _ _ _ _ rfl _ _ _ rfl rfl (fun h_ => ?_) (fun h_ => ?_)) | ((with_reducible show wpList _ _ _ (⟨_, .binOp .neq _ _ _ _, _, _, _, _⟩ :: _) _ _); refine st_neq rfl _ _ _ _ rfl _ _ _ rfl rfl (fun h_ => ?_) (fun h_ => ?_))) <;> go_prune)
      | ((with_reducible show wpList _ _ _ (⟨_, .buildSlice _ 0 _, _, _, _, _⟩ :: _) _ _); refine st_empty hS rfl _ _ rfl Tryz.underlying37 (by kernel_rfl) 1 ?_; clear hS; intro ge w_ hS)
      | ((with_reducible show wpList _ _ _ (⟨some 12, _, _, _, _, _⟩ :: _) _ _); refine st_app hS 0 rfl _ _ _ rfl ty_u8s _ 0 [] rfl rfl _ _ 32 (u8s prob) rfl (sl_front (hS.box 1 rfl) (by rw [u8s_length]; exact h32) (by decide) HFr.out) (u8s_one _) (by unfold maxLen; omega) (by omega) ?_; clear hS; intro v_ w_ hS; (try simp only [Act.put, Act.eval, List.set_cons_zero, List.set_cons_succ, List.setIfInBounds_toArray, Array.getD_eq_getD_getElem?, List.getElem?_toArray, List.getElem?_cons_succ, List.getElem?_cons_zero, Option.getD_some, Value.cells] at hS); simp only [List.nil_append, Nat.zero_add] at hS)
      | ((with_reducible show wpList _ _ _ (⟨_, .load _ _, _, _, _, _⟩ :: _) _ _); first | (refine st_cell hS 0 rfl _ _ rfl _ _ rfl _ _ rfl (by decide +kernel) _ (by first | assumption | rfl) ?_) | (refine st_cell hS 1 rfl _ _ rfl _ _ rfl _ _ rfl (by decide +kernel) _ (by first | assumption | rfl) ?_) | (refine st_cell hS 2 rfl _ _ rfl _ _ rfl _ _ rfl (by decide +kernel) _ (by first | assumption | rfl) ?_))
      | (go_at_call 26; refine (rflag02_any reach _).mono ?_; rintro r_ w2 ⟨v2, rfl, h2, hb2⟩; replace hS := hS.owned hb2 h2; clear h2 hb2)
      | (go_at_call 27; refine (rput_any plan.length (by unfold T64; omega) _).mono ?_; rintro r_ w2 ⟨v2, rfl, h2, hb2⟩; replace hS := hS.owned hb2 h2; clear h2 hb2)
      | ((with_reducible show wpList _ _ _ (⟨some 17, _, _, _, _, _⟩ :: _) _ _); refine st_app hS 1 rfl _ _ _ rfl ty_u8s _ _ _ rfl rfl _ _ _ _ rfl (Sl.of_own (hS.own 0 rfl)) (u8s_one _) (by unfold maxLen; omega) (by omega) ?_; clear hS; intro v_ w_ hS; (try simp only [Act.put, Act.eval, List.set_cons_zero, List.set_cons_succ, List.setIfInBounds_toArray, Array.getD_eq_getD_getElem?, List.getElem?_toArray, List.getElem?_cons_succ, List.getElem?_cons_zero, Option.getD_some, Value.cells] at hS); replace hS := hS.sub (.cons _ (.refl _)))
      | ((with_reducible show wpList _ _ _ (⟨some 24, _, _, _, _, _⟩ :: _) _ _); refine st_app hS 1 rfl _ _ _ rfl ty_u8s _ _ _ rfl rfl _ _ _ _ rfl (Sl.of_own (hS.own 0 rfl)) (u8s_one _) (by unfold maxLen; omega) (by omega) ?_; clear hS; intro v_ w_ hS; (try simp only [Act.put, Act.eval, List.set_cons_zero, List.set_cons_succ, List.setIfInBounds_toArray, Array.getD_eq_getD_getElem?, List.getElem?_toArray, List.getElem?_cons_succ, List.getElem?_cons_zero, Option.getD_some, Value.cells] at hS); replace hS := hS.sub (.cons _ (.refl _))))
    obtain ⟨FR, hFR⟩ : ∃ x, x = prob ++ putFlag reach ++ putN plan.length := ⟨_, rfl⟩
    have hFRl : FR.length ≤ 50 := by rw [hFR]; simp only [List.length_append]; omega
    have HFR := Lib.hid hFR
    have hB0 : St w0 w_ [.own v_ 5 1 FR.length (u8s FR), .box g1 30 cs] K := by
      have e1 : 32 + (putFlag reach).length + (putN plan.length).length = FR.length := by rw [hFR]; simp [h32]; omega
      have e2 : u8s prob ++ u8s (putFlag reach) ++ u8s (putN plan.length) = u8s FR := by rw [hFR]; simp [u8s]
      rw [e1, e2] at hS; exact hS
    clear hS hFR hfl hn1 hw
    go_loopw [3, 28] (fun o i wr => ∃ (k : Nat) (ov : Value) (bs : List Nat), k ≤ plan.length ∧ i = .int .i64 k ∧ o = ov ∧ bs = FR ++ (plan.take k).flatMap (fun x => putN x.toNat) ∧ St w0 wr [.own ov 5 1 bs.length (u8s bs), .box g1 30 cs] K) (fun _ i _ => plan.length - (intOf i).toNat)
    case atStart => exact ⟨0, v_, _, by omega, rfl, rfl, rfl, by simpa using hB0⟩
    case round =>
      clear hB0
      obtain ⟨k, ov, bs, hk2, rfl, rfl, hbs, hS⟩ := hrel
      have hbl : bs.length ≤ 200000 := by
        have := plan_len (plan.take k)
        rw [hbs, List.length_append]; rw [List.length_take] at this; omega
      have HBB := Lib.hid hbs
      clear hbs
      by_cases hlt : k < plan.length
      · have f1 := ints_at plan k hlt
        have HT := Lib.hid (plan_step plan k hlt)
        have hz := HPK.out (plan.getD k 0) (by rw [List.getD_eq_getElem?_getD, List.getElem?_eq_getElem hlt]; exact List.getElem_mem hlt)
        generalize plan.getD k 0 = z at *
        obtain ⟨z, rfl⟩ := Int.eq_ofNat_of_zero_le hz.1
        have hw : IntKind.u64.wrap (z : Int) = (z : Int) := wrap_u64_nat (by unfold T64; omega)
        have hn1 := putN_len z
        go_wp2_with (first
          | ((with_reducible show wpList _ _ _ (⟨_, .binOp _ _ _ _ _, _, _, _, _⟩ :: _) _ _); (first | ((with_reducible show wpList _ _ _ (⟨_, .binOp .lss _ _ _ _, _, _, _, _⟩ :: _) _ _); refine st_lss rfl _ _ _ _ rfl _ _ _ rfl rfl (fun h_ => ?_) (fun h_ => ?_)) | ((with_reducible show wpList _ _ _ (⟨_, .binOp .leq _ _ _ _, _, _, _, _⟩ :: _) _ _); refine st_leq rfl _ _ _ _ rfl _ _ _ rfl rfl (fun h_ => ?_) (fun h_ => ?_)) | ((with_reducible show wpList _ _ _ (⟨_, .binOp .gtr _ _ _ _, _, _, _, _⟩ :: _) _ _); refine st_gtr rfl _ _ _ _ rfl _ _ _ rfl rfl (fun h_ => ?_) (fun h_ => ?_)) | ((with_reducible show wpList _ _ _ (⟨_, .binOp .geq _ _ _ _, _, _, _, _⟩ :: _) _ _); refine st_geq rfl _ _ _ _ rfl _ _ _ rfl rfl (fun h_ => ?_) (fun h_ => ?_)) | ((with_reducible show wpList _ _ _ (⟨_, .binOp .eql _ _ _ _, _, _, _, _⟩ :: _) _ _); refine st_eql rfl _ _ _ _ rfl _ _ _ rfl rfl (fun h_ => ?_) (fun h_ => ?_)) | ((with_reducible show wpList _ _ _ (⟨_, .binOp .neq _ _ _ _, _, _, _, _⟩ :: _) _ _); refine st_neq rfl _ _ _ _ rfl _ _ _ rfl rfl (fun h_ => ?_) (fun h_ => ?_))) <;> go_prune)
          | ((with_reducible show wpList _ _ _ (⟨_, .indexAddr _ _ _, _, _, _, _⟩ :: _) _ _); refine st_iaddr1 hS rfl _ _ _ rfl _ rfl rfl (by assumption) Tryz.underlying22 (by kernel_rfl) (by first | assumption | omega) _ (by assumption) ?_; intro p_ hc_)
          | (go_at_call 27; refine (rput_any z (by unfold T64; omega) _).mono ?_; rintro r_ w2 ⟨v2, rfl, h2, hb2⟩; replace hS := hS.owned hb2 h2; clear h2 hb2)
          | ((with_reducible show wpList _ _ _ (⟨some 36, _, _, _, _, _⟩ :: _) _ _); refine st_app hS 1 rfl _ _ _ rfl ty_u8s _ _ _ rfl rfl _ _ _ _ rfl (Sl.of_own (hS.own 0 rfl)) (u8s_one _) (by unfold maxLen; omega) (by omega) ?_; clear hS; intro v_ w_ hS; (try simp only [Act.put, Act.eval, List.set_cons_zero, List.set_cons_succ, List.setIfInBounds_toArray, Array.getD_eq_getD_getElem?, List.getElem?_toArray, List.getElem?_cons_succ, List.getElem?_cons_zero, Option.getD_some, Value.cells] at hS); replace hS := hS.sub (.cons _ (.refl _))))
        refine ⟨⟨k + 1, v_, bs ++ putN z, hlt, by go_num, rfl, by rw [HBB.out, HT.out, List.append_assoc]; rfl, by simpa [u8s] using hS⟩, by simp [intOf]; omega⟩
      · obtain rfl : k = plan.length := by omega
        rw [List.take_length] at HBB
        obtain ⟨pq, hpq⟩ : ∃ x, x = putCubes cubes := ⟨_, rfl⟩
        have hpql : pq.length ≤ 3000000 := by
          have h1 := flat_len1 cubes HSm.out
          have h2 := putN_len cubes.length
          rw [hpq, putCubes, List.length_append]; omega
        have HCu : Hid (∀ (w : World) (D : Nat → Prop), Sl w D 2 (.slice A' cubes.length cq) cubes.length (rcells cubes) → Calls Tryz.prog 28 #[.slice A' cubes.length cq] w (Ret (fun x w' => OwnU w' w.heap.size x pq) w)) := Lib.hid (fun w D h => by rw [hpq]; exact rcubes36_any _ cubes w D h HSm.out (by omega))
        have HPQ := Lib.hid hpq
        clear hpq
        go_wp2_with (first
          | ((with_reducible show wpList _ _ _ (⟨_, .binOp _ _ _ _ _, _, _, _, _⟩ :: _) _ _); (first | ((with_reducible show wpList _ _ _ (⟨_, .binOp .lss _ _ _ _, _, _, _, _⟩ :: _) _ _); refine st_lss rfl _ _ _ _ rfl _ _ _ rfl rfl (fun h_ => ?_) (fun h_ => ?_)) | ((with_reducible show wpList _ _ _ (⟨_, .binOp .leq _ _ _ _, _, _, _, _⟩ :: _) _ _); refine st_leq rfl _ _ _ _ rfl _ _ _ rfl rfl (fun h_ => ?_) (fun h_ => ?_)) | ((with_reducible show wpList _ _ _ (⟨_, .binOp .gtr _ _ _ _, _, _, _, _⟩ :: _) _ _); refine st_gtr rfl _ _ _ _ rfl _ _ _ rfl rfl (fun h_ => ?_) (fun h_ => ?_)) | ((with_reducible show wpList _ _ _ (⟨_, .binOp .geq _ _ _ _, _, _, _, _⟩ :: _) _ _); refine st_geq rfl _ _ _ _ rfl _ _ _ rfl rfl (fun h_ => ?_) (fun h_ => ?_)) | ((with_reducible show wpList _ _ _ (⟨_, .binOp .eql _ _ _ _, _, _, _, _⟩ :: _) _ _); refine st_eql rfl _ _ _ _ rfl _ _ _ rfl rfl (fun h_ => ?_) (fun h_ => ?_)) | ((with_reducible show wpList _ _ _ (⟨_, .binOp .neq _ _ _ _, _, _, _, _⟩ :: _) _ _); refine st_neq rfl _ _ _ _ rfl _ _ _ rfl rfl (fun h_ => ?_) (fun h_ => ?_))) <;> go_prune)
          | ((with_reducible show wpList _ _ _ (⟨_, .load _ _, _, _, _, _⟩ :: _) _ _); first | (refine st_cell hS 0 rfl _ _ rfl _ _ rfl _ _ rfl (by decide +kernel) _ (by first | assumption | rfl) ?_) | (refine st_cell hS 1 rfl _ _ rfl _ _ rfl _ _ rfl (by decide +kernel) _ (by first | assumption | rfl) ?_) | (refine st_cell hS 2 rfl _ _ rfl _ _ rfl _ _ rfl (by decide +kernel) _ (by first | assumption | rfl) ?_))
          | (go_at_call 28; refine (HCu.out _ _ (k2 _ _ hS.ro)).mono ?_; rintro r_ w2 ⟨v2, rfl, h2, hb2⟩; replace hS := hS.owned hb2 h2; clear h2 hb2)
          | ((with_reducible show wpList _ _ _ (⟨some 42, _, _, _, _, _⟩ :: _) _ _); refine st_app hS 1 rfl _ _ _ rfl ty_u8s _ _ _ rfl rfl _ _ _ _ rfl (Sl.of_own (hS.own 0 rfl)) (u8s_one _) (by unfold maxLen; omega) (by omega) ?_; clear hS; intro v_ w_ hS; (try simp only [Act.put, Act.eval, List.set_cons_zero, List.set_cons_succ, List.setIfInBounds_toArray, Array.getD_eq_getD_getElem?, List.getElem?_toArray, List.getElem?_cons_succ, List.getElem?_cons_zero, Option.getD_some, Value.cells] at hS); replace hS := hS.sub (.cons _ (.refl _))))
        go_ret
        rw [HBS.out]
        refine Ret.mk (own_u8s (hS.own 0 rfl) ?_) hS.below
        rw [HBB.out, HPQ.out, HFR.out]
        simp [u8s]
  · have hE : bytesC ⟨prob, reach, plan, cubes⟩ = [] := HB.out.trans (if_neg h0)
    rw [hE]
    go_enter Tryz.func8, Tryz.ntmps8
    go_wp2_with (first
      | ((with_reducible show wpList _ _ _ (⟨some 1, _, _, _, _, _⟩ :: _) _ _); refine st_box hS rfl _ _ rfl (.agg cs) _ rfl rfl ?_; clear hS; intro g1 w_ hS; (try simp only [Act.put, Act.eval, List.set_cons_zero, List.set_cons_succ, List.setIfInBounds_toArray, Array.getD_eq_getD_getElem?, List.getElem?_toArray, List.getElem?_cons_succ, List.getElem?_cons_zero, Option.getD_some, Value.cells] at hS))
      | ((with_reducible show wpList _ _ _ (⟨some 6, _, _, _, _, _⟩ :: _) _ _); refine st_load hS 0 rfl _ _ rfl g1 rfl _ cs rfl _ Tryz.underlying30 rfl HSz.out ?_)
      | (go_at_call 11; refine (HCk.out _ _ (HKC.out _ _ hS.ro)).mono ?_; rintro r_ w2 ⟨_, rfl, rfl, hb2⟩; replace hS := hS.ext hb2; clear hb2)
      | ((with_reducible show wpList _ _ _ (⟨_, .binOp _ _ _ _ _, _, _, _, _⟩ :: _) _ _); (first | ((with_reducible show wpList _ _ _ (⟨_, .binOp .lss _ _ _ _, _, _, _, _⟩ :: _) _ _); refine st_lss rfl _ _ _ _ rfl _ _ _ rfl rfl (fun h_ => ?_) (fun h_ => ?_)) | ((with_reducible show wpList _ _ _ (⟨_, .binOp .leq _ _ _ _, _, _, _, _⟩ :: _) _ _); refine st_leq rfl _ _ _ _ rfl _ _ _ rfl rfl (fun h_ => ?_) (fun h_ => ?_)) | ((with_reducible show wpList _ _ _ (⟨_, .binOp .gtr _ _ _ _, _, _, _, _⟩ :: _) _ _); refine st_gtr rfl _ _ _ _ rfl _ _ _ rfl rfl (fun h_ => ?_) (fun h_ => ?_)) | ((with_reducible show wpList _ _ _ (⟨_, .binOp .geq _ _ _ _, _, _, _, _⟩ :: _) _ _); refine st_geq rfl _ _ _ _ rfl _ _ _ rfl rfl (fun h_ => ?_) (fun h_ => ?_)) | ((with_reducible show wpList _ _ _ (⟨_, .binOp .eql _ _ _ _, _, _, _, _⟩ :: _) _ _); refine st_eql rfl _ _ _ _ rfl _ _ _ rfl rfl (fun h_ => ?_) (fun h_ => ?_)) | ((with_reducible show wpList _ _ _ (⟨_, .binOp .neq _ _ _ _, _, _, _, _⟩ :: _) _ _); refine st_neq rfl _ _ _ _ rfl _ _ _ rfl rfl (fun h_ => ?_) (fun h_ => ?_))) <;> go_prune))
    go_ret
    exact Ret.mk (World.ownsRow_nil _ _ _ _) hS.below
end Go.Proofs.YtenpkgdnlogfiaaGreatDoor
