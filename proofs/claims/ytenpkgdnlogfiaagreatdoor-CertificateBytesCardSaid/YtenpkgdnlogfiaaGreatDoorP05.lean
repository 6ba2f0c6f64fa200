/-
  The reference's hash (arbacref03): the padding, the digest, tags.
  The reference's hash (arbacref03): the digest, tags; its plain law.
-/
import Derived.Test.YtenpkgdnlogfiaaGreatDoorP03
import Derived.Test.YtenpkgdnlogfiaaGreatDoorP02
namespace Go.Proofs.YtenpkgdnlogfiaaGreatDoor
open Go.RowKit
attribute [local go_sem ↓] Go.wp_at_zero Go.wp_at_succ
set_option maxRecDepth 20000
set_option exponentiation.threshold 5000

/-- a message with its padding -/
def padB (l : List Nat) : List Nat := l.take (136 * (l.length / 136)) ++ lastK (l.drop (136 * (l.length / 136)))
theorem lastK_eq {r : List Nat} (h : r.length < 136) : lastK r = (r ++ 6 :: List.replicate (135 - r.length) 0).set 135 ((r ++ 6 :: List.replicate (135 - r.length) 0).getD 135 0 ^^^ 128) := by
  have e : (r ++ List.replicate (136 - r.length) 0).set r.length 6 = r ++ 6 :: List.replicate (135 - r.length) 0 := by
    rw [show 136 - r.length = (135 - r.length) + 1 by omega, List.replicate_succ, List.set_append_right _ _ (Nat.le_refl _), Nat.sub_self, List.set_cons_zero]
  unfold lastK
  dsimp only
  rw [e]
theorem padB_eq (l : List Nat) {z : Nat} (hz : z < 136) (h : (l.length + 1 + z) % 136 = 0) :
    (l ++ 6 :: List.replicate z 0).set (l.length + z) ((l ++ 6 :: List.replicate z 0).getD (l.length + z) 0 ^^^ 128) = padB l := by
  have hd := Nat.div_add_mod l.length 136
  have hr : (l.drop (136 * (l.length / 136))).length = l.length % 136 := by rw [List.length_drop]; omega
  have hz2 : z = 135 - l.length % 136 := by omega
  have htl : (l.take (136 * (l.length / 136))).length = 136 * (l.length / 136) := by rw [List.length_take]; omega
  have hs : l ++ 6 :: List.replicate z 0 = l.take (136 * (l.length / 136)) ++ (l.drop (136 * (l.length / 136)) ++ 6 :: List.replicate z 0) := by
    rw [← List.append_assoc, List.take_append_drop]
  unfold padB
  rw [lastK_eq (by rw [hr]; omega), hr, ← hz2, hs]
  generalize l.take (136 * (l.length / 136)) = A at *
  generalize l.drop (136 * (l.length / 136)) ++ 6 :: List.replicate z 0 = B at *
  have e : l.length + z = A.length + 135 := by omega
  rw [e, List.set_append_right _ _ (by omega), show A.length + 135 - A.length = 135 by omega]
  congr 2
  rw [List.getD_eq_getElem?_getD, List.getElem?_append_right (by omega), show A.length + 135 - A.length = 135 by omega, ← List.getD_eq_getElem?_getD]
theorem padB_len (l : List Nat) : (padB l).length = 136 * (l.length / 136 + 1) := by
  have hd := Nat.div_add_mod l.length 136
  have hr : (l.drop (136 * (l.length / 136))).length = l.length % 136 := by rw [List.length_drop]; omega
  unfold padB
  rw [lastK_eq (by rw [hr]; omega), List.length_append, List.length_set, List.length_append, List.length_cons, List.length_replicate, List.length_take, hr]
  omega
theorem padB_bytes {l : List Nat} (h : Bytes l) : Bytes (padB l) := by
  have hr : (l.drop (136 * (l.length / 136))).length = l.length % 136 := by have hd := Nat.div_add_mod l.length 136; rw [List.length_drop]; omega
  have hb : Bytes (l.drop (136 * (l.length / 136)) ++ 6 :: List.replicate (135 - l.length % 136) 0) := fun x hx => by
    rcases List.mem_append.1 hx with h1 | h1
    · exact h x (List.mem_of_mem_drop h1)
    · rcases List.mem_cons.1 h1 with rfl | h1
      · decide
      · exact Bytes.rep _ x h1
  unfold padB
  rw [lastK_eq (by rw [hr]; omega), hr]
  intro x hx
  rcases List.mem_append.1 hx with h1 | h1
  · exact h x (List.mem_of_mem_take h1)
  · rcases List.mem_or_eq_of_mem_set h1 with h2 | h2
    · exact hb x h2
    · rw [h2]; exact Nat.xor_lt_two_pow (n := 8) (hb.getD _) (by decide)

set_option maxHeartbeats 1000000 in
theorem pad03_any (p : Value) (l : List Nat) (hb : Bytes l) (hl : l.length ≤ 1000000000) (w0 : World) (D : Nat → Prop) (hp : Sl w0 D 1 p l.length (u8s l)) :
    Calls Tryz.prog 86 #[p] w0 (Ret (fun x w' => OwnU w' w0.heap.size x (padB l)) w0) := by
  obtain ⟨A, c, rfl, _, _⟩ := hp.shape
  obtain ⟨K, hk, hS⟩ : ∃ K, (∀ D w, K D w → Sl w D 1 (.slice A l.length c) l.length (u8s l)) ∧ St w0 w0 [] K := ⟨fun D w => Sl w D 1 (.slice A l.length c) l.length (u8s l), fun _ _ h => h, St.start stable_sl hp⟩
  clear hp
  have HK := Lib.hid hk
  clear hk
  go_enter Tryz.func86, Tryz.ntmps86
  go_wp2_with (first
    | ((with_reducible show wpList _ _ _ (⟨_, .buildSlice _ 0 _, _, _, _, _⟩ :: _) _ _); refine st_empty hS rfl _ _ rfl Tryz.underlying37 (by kernel_rfl) 1 ?_; clear hS; intro ge w_ hS)
    | ((with_reducible show wpList _ _ _ (⟨some 6, _, _, _, _, _⟩ :: _) _ _); refine st_app hS 0 rfl _ _ _ rfl ty_u8s _ 0 [] rfl rfl _ _ l.length (u8s l) rfl (HK.out _ _ hS.ro) (u8s_one _) (by unfold maxLen; omega) (by omega) ?_; clear hS; intro v_ w_ hS; (try simp only [Act.put, Act.eval, List.set_cons_zero, List.set_cons_succ, List.setIfInBounds_toArray, Array.getD_eq_getD_getElem?, List.getElem?_toArray, List.getElem?_cons_succ, List.getElem?_cons_zero, Option.getD_some, Value.cells] at hS); simp only [List.nil_append, Nat.zero_add] at hS)
    | ((with_reducible show wpList _ _ _ (⟨some 8, _, _, _, _, _⟩ :: _) _ _); refine st_push hS 0 rfl rfl _ _ _ _ rfl rfl ty_u8s _ _ _ (.int .u8 6) #[.int .u8 6] rfl (by kernel_rfl) rfl rfl rfl rfl (by intro u hu; simp at hu; subst hu; rfl) (by omega) (by omega) ?_; clear hS; intro z_ v' w_ hS; (try simp only [Act.put, Act.eval, List.set_cons_zero, List.set_cons_succ, List.setIfInBounds_toArray, Array.getD_eq_getD_getElem?, List.getElem?_toArray, List.getElem?_cons_succ, List.getElem?_cons_zero, Option.getD_some, Value.cells] at hS)))
  have hS1 : St w0 w_ [.own v' 5 1 (l.length + 1 + 0) (u8s (l ++ 6 :: List.replicate 0 0))] K := by simpa [u8s] using hS
  clear hS
  obtain ⟨z, hz⟩ : ∃ z, z = (136 - (l.length + 1) % 136) % 136 := ⟨_, rfl⟩
  have hz1 : z < 136 := by omega
  have hz2 : (l.length + 1 + z) % 136 = 0 := by omega
  have hz3 : ∀ j, j < z → (l.length + 1 + j) % 136 ≠ 0 := fun j hj => by omega
  have HZ := Lib.hid hz2
  have HZ3 := Lib.hid hz3
  clear hz hz2 hz3
  go_loopw [3] (fun o wr => ∃ (j : Nat) (ov : Value), j ≤ z ∧ o = ov ∧ (∃ g c, ov = .slice (some ⟨g, 0, none⟩) (l.length + 1 + j) c) ∧ St w0 wr [.own ov 5 1 (l.length + 1 + j) (u8s (l ++ 6 :: List.replicate j 0))] K) (fun o _ => match o with | .slice _ n _ => l.length + 1 + z - n | _ => 0)
  case atStart =>
    obtain ⟨g1, c1, e1, _, _⟩ := own_pos (hS1.own 0 rfl) (by omega)
    exact ⟨0, v', by omega, rfl, ⟨g1, c1, e1⟩, hS1⟩
  case round =>
    clear hS1
    obtain ⟨j, ov, hj, rfl, ⟨g1, c1, rfl⟩, hS⟩ := hrel
    have hm : ((l.length + 1 + j : Nat) : Int).tmod 136 = (((l.length + 1 + j) % 136 : Nat) : Int) := tmod_nat _ 136
    by_cases hlt : j < z
    · have hne := HZ3.out j hlt
      go_wp2_with (first
        | ((with_reducible show wpList _ _ _ (⟨_, .binOp _ _ _ _ _, _, _, _, _⟩ :: _) _ _); (first | ((with_reducible show wpList _ _ _ (⟨_, .binOp .lss _ _ _ _, _, _, _, _⟩ :: _) _ _); refine st_lss rfl _ _ _ _ rfl _ _ _ rfl rfl (fun h_ => ?_) (fun h_ => ?_)) | ((with_reducible show wpList _ _ _ (⟨_, .binOp .leq _ _ _ _, _, _, _, _⟩ :: _) _ _); refine st_leq rfl _ _ _ _ rfl _ _ _ rfl rfl (fun h_ => ?_) (fun h_ => ?_)) | ((with_reducible show wpList _ _ _ (⟨_, .binOp .gtr _ _ _ _, _, _, _, _⟩ :: _) _ _); refine st_gtr rfl _ _ _ _ rfl _ _ _ rfl rfl (fun h_ => ?_) (fun h_ => ?_)) | ((with_reducible show wpList _ _ _ (⟨_, .binOp .geq _ _ _ _, _, _, _, _⟩ :: _) _ _); refine st_geq rfl _ _ _ _ rfl _ _ _ rfl rfl (fun h_ => ?_) (fun h_ => ?_)) | ((with_reducible show wpList _ _ _ (⟨_, .binOp .eql _ _ _ _, _, _, _, _⟩ :: _) _ _); refine st_eql rfl _ _ _ _ rfl _ _ _ rfl rfl (fun h_ => ?_) (fun h_ => ?_)) | ((with_reducible show wpList _ _ _ (⟨_, .binOp .neq _ _ _ _, _, _, _, _⟩ :: _) _ _); refine st_neq rfl _ _ _ _ rfl _ _ _ rfl rfl (fun h_ => ?_) (fun h_ => ?_))) <;> go_prune)
        | ((with_reducible show wpList _ _ _ (⟨some 15, _, _, _, _, _⟩ :: _) _ _); refine st_push hS 0 rfl rfl _ _ _ _ rfl rfl ty_u8s _ _ _ (.int .u8 0) #[.int .u8 0] rfl (by kernel_rfl) rfl rfl rfl rfl (by intro u hu; simp at hu; subst hu; rfl) (by omega) (by omega) ?_; clear hS; intro z_ v' w_ hS; (try simp only [Act.put, Act.eval, List.set_cons_zero, List.set_cons_succ, List.setIfInBounds_toArray, Array.getD_eq_getD_getElem?, List.getElem?_toArray, List.getElem?_cons_succ, List.getElem?_cons_zero, Option.getD_some, Value.cells] at hS)))
      · obtain ⟨g2, c2, e2, _, _⟩ := own_pos (hS.own 0 rfl) (by omega)
        subst e2
        refine ⟨⟨j + 1, _, hlt, rfl, ⟨g2, c2, rfl⟩, ?_⟩, by simp; omega⟩
        rw [List.replicate_succ', ← List.cons_append, ← List.append_assoc]
        have : (u8s (l ++ 6 :: List.replicate j 0 ++ [0])) = u8s (l ++ 6 :: List.replicate j 0) ++ [.int .u8 0] := by simp [u8s]
        rw [this]; exact hS
    · obtain rfl : j = z := by omega
      have h0 := HZ.out
      rw [h0] at hm
      obtain ⟨k, hk⟩ : ∃ k, k = l.length + j := ⟨_, rfl⟩
      have t1 : (l.length : Int) + 1 + (j : Int) - 1 = (k : Int) := by omega
      have t2 : k < l.length + 1 + j := by omega
      have hc : (u8s (l ++ 6 :: List.replicate j 0))[k]? = some (.int .u8 ((l ++ 6 :: List.replicate j 0).getD k 0 : Nat)) := u8s_at _ _ (by simp; omega)
      have hbb : Bytes (l ++ 6 :: List.replicate j 0) := fun x hx => by
        rcases List.mem_append.1 hx with h | h
        · exact hb x h
        · rcases List.mem_cons.1 h with rfl | h
          · decide
          · exact Bytes.rep _ x h
      have hx := u8_xor_nat _ 128 (hbb.getD k) (by decide)
      have HPE := Lib.hid (padB_eq l hz1 h0)
      rw [← hk] at HPE
      have HC := Lib.hid hc
      have HX := Lib.hid hx
      clear hc hx hbb hk
      generalize (l ++ 6 :: List.replicate j 0) = L at *
      generalize L.getD k 0 = y at *
      go_wp2_with (first
        | ((with_reducible show wpList _ _ _ (⟨_, .binOp _ _ _ _ _, _, _, _, _⟩ :: _) _ _); (first | ((with_reducible show wpList _ _ _ (⟨_, .binOp .lss _ _ _ _, _, _, _, _⟩ :: _) _ _); refine st_lss rfl _ _ _ _ rfl _ _ _ rfl rfl (fun h_ => ?_) (fun h_ => ?_)) | ((with_reducible show wpList _ _ _ (⟨_, .binOp .leq _ _ _ _, _, _, _, _⟩ :: _) _ _); refine st_leq rfl _ _ _ _ rfl _ _ _ rfl rfl (fun h_ => ?_) (fun h_ => ?_)) | ((with_reducible show wpList _ _ _ (⟨_, .binOp .gtr _ _ _ _, _, _, _, _⟩ :: _) _ _); refine st_gtr rfl _ _ _ _ rfl _ _ _ rfl rfl (fun h_ => ?_) (fun h_ => ?_)) | ((with_reducible show wpList _ _ _ (⟨_, .binOp .geq _ _ _ _, _, _, _, _⟩ :: _) _ _); refine st_geq rfl _ _ _ _ rfl _ _ _ rfl rfl (fun h_ => ?_) (fun h_ => ?_)) | ((with_reducible show wpList _ _ _ (⟨_, .binOp .eql _ _ _ _, _, _, _, _⟩ :: _) _ _); refine st_eql rfl _ _ _ _ rfl _ _ _ rfl rfl (fun h_ => ?_) (fun h_ => ?_)) | ((with_reducible show wpList _ _ _ (⟨_, .binOp .neq _ _ _ _, _, _, _, _⟩ :: _) _ _); refine st_neq rfl _ _ _ _ rfl _ _ _ rfl rfl (fun h_ => ?_) (fun h_ => ?_))) <;> go_prune)
        | ((with_reducible show wpList _ _ _ (⟨some 26, _, _, _, _, _⟩ :: _) _ _); refine BigFrame.wpList_want rfl fun _ hK => opw_cell rfl rfl (by kernel_rfl) (own_cell (hS.own 0 rfl) k _ HC.out) (hK _ _ ?_))
        | ((with_reducible show wpList _ _ _ (⟨_, .store 5 _ _, _, _, _, _⟩ :: _) _ _); refine st_ostore hS 0 rfl _ _ _ rfl g1 k (.int .u8 ((y ^^^ 128 : Nat) : Int)) rfl (congrArg (Value.int .u8) HX.out) rfl (by omega) rfl rfl (by kernel_rfl) ?_; clear hS; intro w_ hS; (try simp only [Act.put, Act.eval, List.set_cons_zero, List.set_cons_succ, List.setIfInBounds_toArray, Array.getD_eq_getD_getElem?, List.getElem?_toArray, List.getElem?_cons_succ, List.getElem?_cons_zero, Option.getD_some, Value.cells] at hS)))
      go_ret
      rw [← u8s_set, HPE.out] at hS
      exact Ret.mk (own_u8s (hS.own 0 rfl) rfl) hS.below
end Go.Proofs.YtenpkgdnlogfiaaGreatDoor
namespace Go.Proofs.YtenpkgdnlogfiaaGreatDoor
open Go.RowKit
attribute [local go_sem ↓] Go.wp_at_zero Go.wp_at_succ
set_option maxRecDepth 20000

/-- the word of the first n of eight bytes, the least first -/
def pw (b : List Nat) (i : Nat) : Nat → Nat
  | 0 => 0
  | n + 1 => pw b i n + 2 ^ (8 * n) * b.getD (8 * i + n) 0
theorem pw_lt {b : List Nat} (h : ∀ k, b.getD k 0 < 256) (i n : Nat) : pw b i n < 2 ^ (8 * n) := by
  induction n with
  | zero => simp [pw]
  | succ n ih =>
    show pw b i n + 2 ^ (8 * n) * b.getD (8 * i + n) 0 < 2 ^ (8 * (n + 1))
    have h1 := h (8 * i + n)
    have h2 : 2 ^ (8 * (n + 1)) = 2 ^ (8 * n) * 256 := by rw [show 8 * (n + 1) = 8 * n + 8 by omega, Nat.pow_add]
    have h3 : 2 ^ (8 * n) * (b.getD (8 * i + n) 0 + 1) ≤ 2 ^ (8 * n) * 256 := Nat.mul_le_mul_left _ (by omega)
    rw [Nat.mul_add] at h3
    omega
theorem xor_disj {x i a : Nat} (h : x < 2 ^ i) : x ^^^ (2 ^ i * a) = x + 2 ^ i * a := by
  apply Nat.eq_of_testBit_eq
  intro j
  rw [Nat.testBit_xor, Nat.add_comm x, Nat.testBit_two_pow_mul_add _ h, Nat.testBit_two_pow_mul]
  rcases Nat.lt_or_ge j i with hj | hj
  · rw [if_pos hj]; simp [show ¬ i ≤ j by omega]
  · rw [if_neg (by omega), Nat.testBit_lt_two_pow (Nat.lt_of_lt_of_le h (Nat.pow_le_pow_right (by decide) hj))]; simp [hj]
theorem lew_pw {b : List Nat} (h : ∀ k, b.getD k 0 < 256) (i : Nat) : lew b i 8 = pw b i 8 := by
  have step : ∀ x y : Nat, y < 256 → x * 256 < T64 → (x * 256) % T64 ||| y = x * 256 + y := fun x y hy hx => by
    rw [Nat.mod_eq_of_lt hx, Nat.mul_comm x, show 256 = 2 ^ 8 from rfl, Nat.two_pow_add_eq_or_of_lt hy]
  have h0 := h (8 * i + 0)
  have h1 := h (8 * i + 1)
  have h2 := h (8 * i + 2)
  have h3 := h (8 * i + 3)
  have h4 := h (8 * i + 4)
  have h5 := h (8 * i + 5)
  have h6 := h (8 * i + 6)
  have h7 := h (8 * i + 7)
  simp only [lew, pw]
  simp only [show 7 - 0 = 7 from rfl, show 7 - 1 = 6 from rfl, show 7 - 2 = 5 from rfl, show 7 - 3 = 4 from rfl, show 7 - 4 = 3 from rfl, show 7 - 5 = 2 from rfl, show 7 - 6 = 1 from rfl, show 7 - 7 = 0 from rfl]
  generalize b.getD (8 * i + 0) 0 = y0 at *
  generalize b.getD (8 * i + 1) 0 = y1 at *
  generalize b.getD (8 * i + 2) 0 = y2 at *
  generalize b.getD (8 * i + 3) 0 = y3 at *
  generalize b.getD (8 * i + 4) 0 = y4 at *
  generalize b.getD (8 * i + 5) 0 = y5 at *
  generalize b.getD (8 * i + 6) 0 = y6 at *
  generalize b.getD (8 * i + 7) 0 = y7 at *
  rw [step 0 y7 h7 (by unfold T64; omega)]
  rw [step _ y6 h6 (by unfold T64; omega)]
  rw [step _ y5 h5 (by unfold T64; omega)]
  rw [step _ y4 h4 (by unfold T64; omega)]
  rw [step _ y3 h3 (by unfold T64; omega)]
  rw [step _ y2 h2 (by unfold T64; omega)]
  rw [step _ y1 h1 (by unfold T64; omega)]
  rw [step _ y0 h0 (by unfold T64; omega)]
  omega
/-- the state of which k bytes are turned -/
def xB (a b : List Nat) (k : Nat) : List Nat := (List.range 25).map fun i => a.getD i 0 ^^^ pw b i (min 8 (k - 8 * i))
theorem xB_len (a b : List Nat) (k : Nat) : (xB a b k).length = 25 := by simp [xB]
theorem xB_at (a b : List Nat) (k i : Nat) (h : i < 25) : (xB a b k).getD i 0 = a.getD i 0 ^^^ pw b i (min 8 (k - 8 * i)) := by
  simp [xB, List.getD_eq_getElem?_getD, h]
theorem xB_zero (a b : List Nat) (h : a.length = 25) : xB a b 0 = a := by
  apply List.ext_getElem
  · rw [xB_len, h]
  · intro j h1 h2
    simp [xB, pw, List.getElem?_eq_getElem h2]
theorem xB_step (a : List Nat) {b : List Nat} (hb : ∀ k, b.getD k 0 < 256) {k : Nat} (hk : k < 136) :
    (xB a b k).set (k / 8) ((xB a b k).getD (k / 8) 0 ^^^ (2 ^ (8 * (k % 8)) * b.getD k 0)) = xB a b (k + 1) := by
  apply List.ext_getElem
  · simp [xB]
  · intro j h1 h2
    have hj : j < 25 := by simpa [xB] using h2
    have e : (xB a b (k + 1))[j] = a.getD j 0 ^^^ pw b j (min 8 (k + 1 - 8 * j)) := by simp [xB]
    refine Eq.trans ?_ e.symm
    rw [List.getElem_set]
    split
    · rename_i hkj
      subst hkj
      rw [xB_at _ _ _ _ hj, Nat.xor_assoc]
      congr 1
      rw [show min 8 (k - 8 * (k / 8)) = k % 8 by omega, show min 8 (k + 1 - 8 * (k / 8)) = k % 8 + 1 by omega, xor_disj (pw_lt hb _ _)]
      show _ = pw b (k / 8) (k % 8) + 2 ^ (8 * (k % 8)) * b.getD (8 * (k / 8) + k % 8) 0
      rw [Nat.div_add_mod]
    · rename_i hkj
      have e2 : (xB a b k)[j]'(by rw [xB_len]; exact hj) = a.getD j 0 ^^^ pw b j (min 8 (k - 8 * j)) := by simp [xB]
      refine e2.trans ?_
      rw [show min 8 (k + 1 - 8 * j) = min 8 (k - 8 * j) by omega]
theorem xB_full (a : List Nat) {b : List Nat} (hb : ∀ k, b.getD k 0 < 256) : xB a b 136 = mixTo (absW a b) a 17 := by
  unfold xB mixTo
  apply List.map_congr_left
  intro i hi
  have hi : i < 25 := List.mem_range.1 hi
  split
  · rename_i h
    rw [show min 8 (136 - 8 * i) = 8 by omega, ← lew_pw hb]
    rfl
  · rename_i h
    rw [show min 8 (136 - 8 * i) = 0 by omega]
    simp [pw]
theorem lastK_len {r : List Nat} (h : r.length < 136) : (lastK r).length = 136 := by
  unfold lastK
  simp
  omega
theorem blk_pad (l : List Nat) {j : Nat} (hj : j < l.length / 136) : blkOf (padB l) j = blkOf l j := by
  have hd := Nat.div_add_mod l.length 136
  unfold blkOf padB
  have e : (l.take (136 * (l.length / 136))).drop (136 * j) = (l.drop (136 * j)).take (136 * (l.length / 136) - 136 * j) := by rw [List.drop_take]
  rw [List.drop_append_of_le_length (by rw [List.length_take]; omega), e, List.take_append_of_le_length (by rw [List.length_take, List.length_drop]; omega), List.take_take]
  congr 1
  omega
theorem blk_last (l : List Nat) : blkOf (padB l) (l.length / 136) = lastK (l.drop (136 * (l.length / 136))) := by
  have hd := Nat.div_add_mod l.length 136
  have hr : (l.drop (136 * (l.length / 136))).length < 136 := by rw [List.length_drop]; omega
  unfold blkOf padB
  have hl : (l.take (136 * (l.length / 136))).length = 136 * (l.length / 136) := by rw [List.length_take]; omega
  rw [List.drop_append, List.drop_eq_nil_of_le (by omega), hl, Nat.sub_self, List.drop_zero, List.nil_append, List.take_of_length_le (by rw [lastK_len hr]; omega)]
theorem stB_pad (st l : List Nat) : ∀ j, j ≤ l.length / 136 → stB st (padB l) j = stB st l j
  | 0, _ => rfl
  | j + 1, h => by
    show absorbK (stB st (padB l) j) (blkOf (padB l) j) = absorbK (stB st l j) (blkOf l j)
    rw [stB_pad st l j (by omega), blk_pad l h]
theorem sha3_pad (l : List Nat) : sha3 l = (List.range 32).map (outK (stB (List.replicate 25 0) (padB l) (l.length / 136 + 1))) := by
  unfold sha3 sumK
  show _ = (List.range 32).map (outK (absorbK (stB (List.replicate 25 0) (padB l) (l.length / 136)) (blkOf (padB l) (l.length / 136))))
  rw [stB_pad _ _ _ (Nat.le_refl _), blk_last]

theorem blk_at (M : List Nat) (j k : Nat) (hk : k < 136) : (blkOf M j).getD k 0 = M.getD (136 * j + k) 0 := by
  unfold blkOf
  rw [List.getD_eq_getElem?_getD, List.getElem?_take, if_pos hk, List.getElem?_drop, ← List.getD_eq_getElem?_getD]
theorem St.putBox {w0 w : World} {F : List Fact} {K : (Nat → Prop) → World → Prop} (h : St w0 w F K) (i : Nat) {g : Nat} {t : TypeId} {cs : Array Value} (hi : F[i]? = some (.box g t cs)) (j : Nat) (u : Value) :
    St w0 (w.setCell ⟨g, j, none⟩ u) (F.set i (.box g t (cs.setIfInBounds j u))) K :=
  (h.upd i hi (.box g t (cs.setIfInBounds j u)) (upd_gb (upd_setCell w g j u)) ⟨(h.holds _ (List.mem_of_getElem? hi)).1, (h.box i hi).setC u⟩ fun _ e => .inl e)
theorem sl_byte {w : World} {D : Nat → Prop} {b o n c : Nat} {l : List Nat} (h : Sl w D 1 (.slice (some ⟨b, o, none⟩) n c) n (u8s l)) (hl : l.length = n) {j : Nat} (hj : j < n) : w.cell? ⟨b, o + j, none⟩ = some (.int .u8 (l.getD j 0 : Nat)) := by
  obtain ⟨_, A, c', e, _, _, h3⟩ := h
  injection e with e1 e2 e3
  obtain ⟨b', o', hA, _, _, h4⟩ := h3 (by omega)
  rw [hA] at e1
  injection e1 with e1
  injection e1 with e1 e2 _
  subst e1 e2
  exact h4 j _ (u8s_at l j (by omega))

theorem run_shl8 {P : Program} {w : World} {t : TypeId} {y k : Nat} {e : Int} (hy : y < 256) (he : e = ((8 * (k % 8) : Nat) : Int)) : (binOp .shl t (.int .u64 (y : Nat)) (.int .i64 e)).run P w = .ok (.int .u64 ((2 ^ (8 * (k % 8)) * y : Nat) : Int)) w := by
  subst he
  have h := (shl8 hy (k % 8) (Nat.mod_lt _ (by decide))).1
  have h1 : (((8 * (k % 8) : Nat) : Int)).toNat = 8 * (k % 8) := by omega
  have h2 : ¬ (((8 * (k % 8) : Nat) : Int)) < 0 := by omega
  go_simp
  rw [show (8 * ((k : Int) % 8)).toNat = 8 * (k % 8) by omega, h]
  rw [Int.natCast_mul, Int.natCast_pow]; exact Int.mul_comm _ _
set_option maxHeartbeats 4000000 in
theorem sum03_any (p : Value) (l : List Nat) (hb : Bytes l) (hl : l.length ≤ 100000000) (w0 : World) (D : Nat → Prop) (hp : Sl w0 D 1 p l.length (u8s l)) :
    Calls Tryz.prog 60 #[p] w0 (Ret (fun x _ => x = .agg (u8s (sha3 l)).toArray) w0) := by
  obtain ⟨K, hk, hS⟩ : ∃ K : (Nat → Prop) → World → Prop, (∀ D w, K D w → Sl w D 1 p l.length (u8s l)) ∧ St w0 w0 [] K := ⟨_, fun _ _ h => h, St.start stable_sl hp⟩
  clear hp
  have HK := Lib.hid hk
  clear hk
  obtain ⟨M, q, hMb, hMl, hql, HPad, HSH⟩ : ∃ (M : List Nat) (q : Nat), Bytes M ∧ (M.length ≤ 136 * q ∧ 136 * q ≤ M.length) ∧ q ≤ 1000000 ∧ Hid (∀ (w : World) (D : Nat → Prop), Sl w D 1 p l.length (u8s l) → Calls Tryz.prog 86 #[p] w (Ret (fun x w' => OwnU w' w.heap.size x M) w)) ∧ Hid (sha3 l = (List.range 32).map (outK (stB (List.replicate 25 0) M q)) ∧ 0 < q) :=
    ⟨padB l, l.length / 136 + 1, padB_bytes hb, ⟨Nat.le_of_eq (padB_len l), Nat.le_of_eq (padB_len l).symm⟩, by omega, Lib.hid (fun w D h => pad03_any p l hb (by omega) w D h), Lib.hid ⟨sha3_pad l, by omega⟩⟩
  have HMB := Lib.hid hMb
  clear hMb hb
  obtain ⟨hMl, hMl'⟩ := hMl
  go_enter Tryz.func60, Tryz.ntmps60
  go_wp2_with (first
    | ((with_reducible show wpList _ _ _ (⟨some 2, _, _, _, _, _⟩ :: _) _ _); refine st_allocz hS rfl _ rfl (by kernel_rfl) (u8s (List.replicate 32 0)).toArray (by kernel_rfl) ?_; clear hS; intro g2 w_ hS; (try simp only [Act.put, Act.eval, List.set_cons_zero, List.set_cons_succ, List.setIfInBounds_toArray, Array.getD_eq_getD_getElem?, List.getElem?_toArray, List.getElem?_cons_succ, List.getElem?_cons_zero, Option.getD_some, Value.cells] at hS))
    | ((with_reducible show wpList _ _ _ (⟨_, .makeSlice _ _ _, _, _, _, _⟩ :: _) _ _); refine st_mk hS rfl _ _ _ rfl ty_u64s .i64 .i64 25 #[.int .u64 0] rfl rfl (by kernel_rfl) (by decide) (by decide) ?_; clear hS; intro g11 w_ hS)
    | (go_at_call 86; refine (HPad.out _ _ (HK.out _ _ hS.ro)).mono ?_; rintro r_ w2 ⟨v2, rfl, h2, hb2⟩; replace hS := hS.owned hb2 h2; clear h2 hb2))
  rw [mk_u64s] at hS
  obtain ⟨mb, mc, rfl, _, _⟩ := own_pos (hS.own 0 rfl) (by have := HSH.out.2; omega)
  replace hS := hS.freeze 0 (by decide) rfl
  obtain ⟨K2, hK2, hS2, hS⟩ : ∃ K2 : (Nat → Prop) → World → Prop, (∀ D w, K2 D w → Sl w D 1 (.slice (some ⟨mb, 0, none⟩) M.length mc) M.length (u8s M)) ∧ Stable K2 ∧ St w0 w2 [.own (.slice (some ⟨g11, 0, none⟩) 25 25) 58 1 25 (u64s (List.replicate 25 0)), .box g2 27 (u8s (List.replicate 32 0)).toArray] K2 := ⟨_, fun _ _ h => h.2, hS.stable, hS⟩
  have HK2 := Lib.hid hK2
  clear hK2 HK HPad
  go_loopw [3, 5] (fun av i wr => ∃ (j at_ g c : Nat), j ≤ q ∧ (at_ ≤ 136 * j ∧ 136 * j ≤ at_) ∧ i = .int .i64 (at_ : Nat) ∧ av = .slice (some ⟨g, 0, none⟩) 25 c ∧ St w0 wr [.own (.slice (some ⟨g, 0, none⟩) 25 c) 58 1 25 (u64s (stB (List.replicate 25 0) M j)), .box g2 27 (u8s (List.replicate 32 0)).toArray] K2) (fun _ i _ => M.length - (intOf i).toNat)
  case atStart => exact ⟨0, 0, g11, 25, by omega, by omega, rfl, rfl, hS⟩
  case round =>
    clear hS
    obtain ⟨j, at_, g, c, hj, hat, rfl, rfl, hS⟩ := hrel
    obtain ⟨hwA, hlA⟩ := stB_ok (Words.zeros 25) (by simp) HMB.out j
    by_cases hlt : j < q
    · obtain ⟨B, hB, hBb, hBn⟩ : ∃ B, B = blkOf M j ∧ Bytes B ∧ ∀ k, k < 136 → B.getD k 0 = M.getD (at_ + k) 0 := ⟨_, rfl, (HMB.out.drop _).take _, fun k hk => by rw [show at_ = 136 * j by omega]; exact blk_at M j k hk⟩
      have HST := Lib.hid (show stB (List.replicate 25 0) M (j + 1) = absorbK (stB (List.replicate 25 0) M j) B by rw [hB]; rfl)
      generalize stB (List.replicate 25 0) M j = a at *
      have HAB := Lib.hid (show absorbK a B = perm (xB a B 136) by rw [xB_full a fun k => hBb.getD k]; rfl)
      have HBB := Lib.hid hBb
      have HBN := Lib.hid hBn
      have HX0 := Lib.hid (xB_zero a B hlA)
      have hwX : ∀ k, Words (xB a B k) := fun k => Words.range _ _ fun i _ => xor_lt (hwA.getD i) (Nat.lt_of_lt_of_le (pw_lt (fun k => HBB.out.getD k) i _) (by rw [show T64 = 2 ^ 64 from rfl]; exact Nat.pow_le_pow_right (by decide) (by omega)))
      have HWX := Lib.hid hwX
      clear hB hBb hBn hwX
      go_wp2_with (first | ((with_reducible show wpList _ _ _ (⟨_, .binOp _ _ _ _ _, _, _, _, _⟩ :: _) _ _); (first | ((with_reducible show wpList _ _ _ (⟨_, .binOp .lss _ _ _ _, _, _, _, _⟩ :: _) _ _); refine st_lss rfl _ _ _ _ rfl _ _ _ rfl rfl (fun h_ => ?_) (fun h_ => ?_)) | ((with_reducible show wpList _ _ _ (⟨_, .binOp .leq _ _ _ _, _, _, _, _⟩ :: _) _ _); refine st_leq rfl _ _ _ _ rfl _ _ _ rfl rfl (fun h_ => ?_) (fun h_ => ?_)) | ((with_reducible show wpList _ _ _ (⟨_, .binOp .gtr _ _ _ _, _, _, _, _⟩ :: _) _ _); refine st_gtr rfl _ _ _ _ rfl _ _ _ rfl rfl (fun h_ => ?_) (fun h_ => ?_)) | ((with_reducible show wpList _ _ _ (⟨_, .binOp .geq _ _ _ _, _, _, _, _⟩ :: _) _ _); refine st_geq rfl _ _ _ _ rfl _ _ _ rfl rfl (fun h_ => ?_) (fun h_ => ?_)) | ((with_reducible show wpList _ _ _ (⟨_, .binOp .eql _ _ _ _, _, _, _, _⟩ :: _) _ _); refine st_eql rfl _ _ _ _ rfl _ _ _ rfl rfl (fun h_ => ?_) (fun h_ => ?_)) | ((with_reducible show wpList _ _ _ (⟨_, .binOp .neq _ _ _ _, _, _, _, _⟩ :: _) _ _); refine st_neq rfl _ _ _ _ rfl _ _ _ rfl rfl (fun h_ => ?_) (fun h_ => ?_))) <;> go_prune))
      rw [← HX0.out] at hS
      go_loopw [6] (fun i wr => ∃ (k : Nat), k ≤ 136 ∧ i = .int .i64 k ∧ St w0 wr [.own (.slice (some ⟨g, 0, none⟩) 25 c) 58 1 25 (u64s (xB a B k)), .box g2 27 (u8s (List.replicate 32 0)).toArray] K2) (fun i _ => 136 - (intOf i).toNat)
      case atStart => exact ⟨0, by omega, rfl, hS⟩
      case round =>
        clear hS
        obtain ⟨k, hk, rfl, hS⟩ := hrel
        by_cases hlk : k < 136
        · have hb8 := HBB.out.getD k
          have H0 := Lib.hid (fun (w : World) (h : Below wr.heap.size wr w) => sl_byte (HK2.out _ _ (hS.ext h).ro) rfl (j := at_ + k) (by omega))
          rw [← HBN.out k hlk] at H0
          have H3 := Lib.hid (fun (w : World) (h : Below wr.heap.size wr w) => own_cell ((hS.ext h).own 0 rfl) (k / 8) _ (u64s_at _ (k / 8) (by rw [xB_len]; omega)))
          have HXS := Lib.hid (xB_step a (b := B) (fun k => HBB.out.getD k) hlk)
          have hwk := (HWX.out k).getD (k / 8)
          generalize B.getD k 0 = y at *
          generalize hX : xB a B k = X at *
          have HX := Lib.hid hX
          clear hX
          generalize X.getD (k / 8) 0 = x at *
          have ta : at_ + k < M.length := by omega
          obtain ⟨hsh, hyT⟩ := shl8 hb8 (k % 8) (Nat.mod_lt _ (by decide))
          rw [Nat.mul_comm] at hyT
          go_wp2_with fail
          refine wp_region_tail (fun i v w => match i with
            | 0 => v = .slice (some ⟨g, 0, none⟩) 25 c
            | 1 => v = .int .i64 ((k : Nat) : Int)
            | 2 => v = .int .i64 (((k : Nat) : Int) / (8 : Int))
            | 3 => v = .slice (some ⟨g, 0, none⟩) 25 c
            | 4 => v = .int .i64 ((k : Nat) : Int)
            | 5 => v = .int .i64 (((k : Nat) : Int) / (8 : Int))
            | 6 => v = .pointer (some ⟨g, 0 + (k / 8) * 1, none⟩)
            | 7 => v = .int .u64 ((x : Nat) : Int)
            | 8 => v = .slice (some ⟨mb, 0, none⟩) M.length mc
            | 9 => v = .int .i64 ((at_ : Nat) : Int)
            | 10 => v = .int .i64 ((k : Nat) : Int)
            | 11 => v = .int .i64 (((at_ : Nat) : Int) + ((k : Nat) : Int))
            | 12 => v = .pointer (some ⟨mb, 0 + (at_ + k) * 1, none⟩)
            | 13 => v = .int .u8 ((y : Nat) : Int)
            | 14 => v = .int .u64 ((y : Nat) : Int)
            | 15 => v = .int .i64 ((k : Nat) : Int)
            | 16 => v = .int .i64 (((k : Nat) : Int) % (8 : Int))
            | 17 => v = .int .i64 ((8 : Int) * (((k : Nat) : Int) % (8 : Int)))
            | 18 => v = .int .u64 ((2 ^ (8 * (k % 8)) * y : Nat) : Int)
            | 19 => v = .int .u64 ((x ^^^ (2 ^ (8 * (k % 8)) * y) : Nat) : Int)
            | 20 => v = .pointer (some ⟨g, 0 + (k / 8) * 1, none⟩)
            | 21 => True
            | _ => True) 21 [] (by kernel_rfl) (by kernel_rfl) (by kernel_rfl) (by kernel_rfl) (by kernel_rfl) ?mono ⟨.inr ?r0, .inr ?r1, .inr ?r2, .inr ?r3, .inr ?r4, .inr ?r5, .inr ?r6, .inr ?r7, .inr ?r8, .inr ?r9, .inr ?r10, .inr ?r11, .inr ?r12, .inr ?r13, .inr ?r14, .inr ?r15, .inr ?r16, .inr ?r17, .inr ?r18, .inr ?r19, .inr ?r20, .inl (by decide), trivial⟩ ?post
          case mono =>
            intro i v w w' h hb
            match i, h with
            | 0, h => exact h
            | 1, h => exact h
            | 2, h => exact h
            | 3, h => exact h
            | 4, h => exact h
            | 5, h => exact h
            | 6, h => exact h
            | 7, h => exact h
            | 8, h => exact h
            | 9, h => exact h
            | 10, h => exact h
            | 11, h => exact h
            | 12, h => exact h
            | 13, h => exact h
            | 14, h => exact h
            | 15, h => exact h
            | 16, h => exact h
            | 17, h => exact h
            | 18, h => exact h
            | 19, h => exact h
            | 20, h => exact h
            | 21, h => exact h
            | _ + 22, h => trivial
          case r0 =>
            refine trule fun b w hW hold hpre => ⟨fun hwant K hK => ?_, fun hwant => ?_⟩
            · clear hwant
              have e3 : b.eval (.tmp 3) = .slice (some ⟨g, 0, none⟩) 25 c := (hold 3 (by kernel_rfl)).trans rfl
              exact opw_move rfl e3 (hK _ _ rfl (Below.refl _ _))
            · rw [want_none rfl] at hwant; cases hwant
          case r1 =>
            refine trule fun b w hW hold hpre => ⟨fun hwant K hK => ?_, fun hwant => ?_⟩
            · clear hwant
              have e6 : b.eval (.tmp 6) = .int .i64 ((k : Nat) : Int) := (hold 6 (by kernel_rfl)).trans rfl
              exact opw_move rfl e6 (hK _ _ rfl (Below.refl _ _))
            · rw [want_none rfl] at hwant; cases hwant
          case r2 =>
            refine trule fun b w hW hold hpre => ⟨fun hwant K hK => ?_, fun hwant => ?_⟩
            · clear hwant
              have e25 : b.eval (.tmp 25) = .int .i64 ((k : Nat) : Int) := hpre ⟨1, _⟩ (Array.mem_of_getElem? (i := 0) rfl) rfl _ _ rfl rfl
              exact opw_bin (vx := .int .i64 ((k : Nat) : Int)) (vy := .int .i64 (8 : Int)) (v := .int .i64 (((k : Nat) : Int) / (8 : Int))) rfl e25 rfl rfl (run_quo64 (by omega) (by omega)) (hK _ _ rfl (Below.refl _ _))
            · rw [want_none rfl] at hwant; cases hwant
          case r3 =>
            refine trule fun b w hW hold hpre => ⟨fun hwant K hK => ?_, fun hwant => ?_⟩
            · clear hwant
              have e3 : b.eval (.tmp 3) = .slice (some ⟨g, 0, none⟩) 25 c := (hold 3 (by kernel_rfl)).trans rfl
              exact opw_move rfl e3 (hK _ _ rfl (Below.refl _ _))
            · rw [want_none rfl] at hwant; cases hwant
          case r4 =>
            refine trule fun b w hW hold hpre => ⟨fun hwant K hK => ?_, fun hwant => ?_⟩
            · clear hwant
              have e6 : b.eval (.tmp 6) = .int .i64 ((k : Nat) : Int) := (hold 6 (by kernel_rfl)).trans rfl
              exact opw_move rfl e6 (hK _ _ rfl (Below.refl _ _))
            · rw [want_none rfl] at hwant; cases hwant
          case r5 =>
            refine trule fun b w hW hold hpre => ⟨fun hwant K hK => ?_, fun hwant => ?_⟩
            · clear hwant
              have e28 : b.eval (.tmp 28) = .int .i64 ((k : Nat) : Int) := hpre ⟨4, _⟩ (Array.mem_of_getElem? (i := 0) rfl) rfl _ _ rfl rfl
              exact opw_bin (vx := .int .i64 ((k : Nat) : Int)) (vy := .int .i64 (8 : Int)) (v := .int .i64 (((k : Nat) : Int) / (8 : Int))) rfl e28 rfl rfl (run_quo64 (by omega) (by omega)) (hK _ _ rfl (Below.refl _ _))
            · rw [want_none rfl] at hwant; cases hwant
          case r6 =>
            refine trule fun b w hW hold hpre => ⟨fun hwant K hK => ?_, fun hwant => ?_⟩
            · clear hwant
              have e27 : b.eval (.tmp 27) = .slice (some ⟨g, 0, none⟩) 25 c := hpre ⟨3, _⟩ (Array.mem_of_getElem? (i := 0) rfl) rfl _ _ rfl rfl
              have e29 : b.eval (.tmp 29) = .int .i64 (((k : Nat) : Int) / (8 : Int)) := hpre ⟨5, _⟩ (Array.mem_of_getElem? (i := 1) rfl) rfl _ _ rfl rfl
              exact opw_iaddr rfl e27 e29 (run_iaddr_lit (m := k / 8) Tryz.underlying49 (by kernel_rfl) (by omega) (by omega)) (hK _ _ rfl (Below.refl _ _))
            · rw [want_none rfl] at hwant; cases hwant
          case r7 =>
            refine trule fun b w hW hold hpre => ⟨fun hwant K hK => ?_, fun hwant => ?_⟩
            · clear hwant
              have e30 : b.eval (.tmp 30) = .pointer (some ⟨g, 0 + (k / 8) * 1, none⟩) := hpre ⟨6, _⟩ (Array.mem_of_getElem? (i := 0) rfl) rfl _ _ rfl rfl
              exact opw_cell rfl e30 (by kernel_rfl) (by rw [Nat.zero_add, Nat.mul_one]; exact H3.out w (undrew hW)) (hK _ _ rfl (Below.refl _ _))
            · rw [want_none rfl] at hwant; cases hwant
          case r8 =>
            refine trule fun b w hW hold hpre => ⟨fun hwant K hK => ?_, fun hwant => ?_⟩
            · clear hwant
              have e4 : b.eval (.tmp 4) = .slice (some ⟨mb, 0, none⟩) M.length mc := (hold 4 (by kernel_rfl)).trans rfl
              exact opw_move rfl e4 (hK _ _ rfl (Below.refl _ _))
            · rw [want_none rfl] at hwant; cases hwant
          case r9 =>
            refine trule fun b w hW hold hpre => ⟨fun hwant K hK => ?_, fun hwant => ?_⟩
            · clear hwant
              have e5 : b.eval (.tmp 5) = .int .i64 ((at_ : Nat) : Int) := (hold 5 (by kernel_rfl)).trans rfl
              exact opw_move rfl e5 (hK _ _ rfl (Below.refl _ _))
            · rw [want_none rfl] at hwant; cases hwant
          case r10 =>
            refine trule fun b w hW hold hpre => ⟨fun hwant K hK => ?_, fun hwant => ?_⟩
            · clear hwant
              have e6 : b.eval (.tmp 6) = .int .i64 ((k : Nat) : Int) := (hold 6 (by kernel_rfl)).trans rfl
              exact opw_move rfl e6 (hK _ _ rfl (Below.refl _ _))
            · rw [want_none rfl] at hwant; cases hwant
          case r11 =>
            refine trule fun b w hW hold hpre => ⟨fun hwant K hK => ?_, fun hwant => ?_⟩
            · clear hwant
              have e33 : b.eval (.tmp 33) = .int .i64 ((at_ : Nat) : Int) := hpre ⟨9, _⟩ (Array.mem_of_getElem? (i := 0) rfl) rfl _ _ rfl rfl
              have e34 : b.eval (.tmp 34) = .int .i64 ((k : Nat) : Int) := hpre ⟨10, _⟩ (Array.mem_of_getElem? (i := 1) rfl) rfl _ _ rfl rfl
              exact opw_bin (vx := .int .i64 ((at_ : Nat) : Int)) (vy := .int .i64 ((k : Nat) : Int)) (v := .int .i64 (((at_ : Nat) : Int) + ((k : Nat) : Int))) rfl e33 e34 rfl (run_add64 (by omega) (by omega)) (hK _ _ rfl (Below.refl _ _))
            · rw [want_none rfl] at hwant; cases hwant
          case r12 =>
            refine trule fun b w hW hold hpre => ⟨fun hwant K hK => ?_, fun hwant => ?_⟩
            · clear hwant
              have e32 : b.eval (.tmp 32) = .slice (some ⟨mb, 0, none⟩) M.length mc := hpre ⟨8, _⟩ (Array.mem_of_getElem? (i := 0) rfl) rfl _ _ rfl rfl
              have e35 : b.eval (.tmp 35) = .int .i64 (((at_ : Nat) : Int) + ((k : Nat) : Int)) := hpre ⟨11, _⟩ (Array.mem_of_getElem? (i := 1) rfl) rfl _ _ rfl rfl
              exact opw_iaddr rfl e32 e35 (run_iaddr_lit (m := at_ + k) Tryz.underlying37 (by kernel_rfl) (by omega) (by omega)) (hK _ _ rfl (Below.refl _ _))
            · rw [want_none rfl] at hwant; cases hwant
          case r13 =>
            refine trule fun b w hW hold hpre => ⟨fun hwant K hK => ?_, fun hwant => ?_⟩
            · clear hwant
              have e36 : b.eval (.tmp 36) = .pointer (some ⟨mb, 0 + (at_ + k) * 1, none⟩) := hpre ⟨12, _⟩ (Array.mem_of_getElem? (i := 0) rfl) rfl _ _ rfl rfl
              exact opw_cell rfl e36 (by kernel_rfl) (by rw [Nat.mul_one]; exact H0.out w (undrew hW)) (hK _ _ rfl (Below.refl _ _))
            · rw [want_none rfl] at hwant; cases hwant
          case r14 =>
            refine trule fun b w hW hold hpre => ⟨fun hwant K hK => ?_, fun hwant => ?_⟩
            · clear hwant
              have e37 : b.eval (.tmp 37) = .int .u8 ((y : Nat) : Int) := hpre ⟨13, _⟩ (Array.mem_of_getElem? (i := 0) rfl) rfl _ _ rfl rfl
              exact opw_conv (vx := .int .u8 ((y : Nat) : Int)) (v := .int .u64 ((y : Nat) : Int)) rfl e37 (by go_simp; exact wrap_u64_nat (by unfold T64; omega)) (hK _ _ rfl (Below.refl _ _))
            · rw [want_none rfl] at hwant; cases hwant
          case r15 =>
            refine trule fun b w hW hold hpre => ⟨fun hwant K hK => ?_, fun hwant => ?_⟩
            · clear hwant
              have e6 : b.eval (.tmp 6) = .int .i64 ((k : Nat) : Int) := (hold 6 (by kernel_rfl)).trans rfl
              exact opw_move rfl e6 (hK _ _ rfl (Below.refl _ _))
            · rw [want_none rfl] at hwant; cases hwant
          case r16 =>
            refine trule fun b w hW hold hpre => ⟨fun hwant K hK => ?_, fun hwant => ?_⟩
            · clear hwant
              have e39 : b.eval (.tmp 39) = .int .i64 ((k : Nat) : Int) := hpre ⟨15, _⟩ (Array.mem_of_getElem? (i := 0) rfl) rfl _ _ rfl rfl
              exact opw_bin (vx := .int .i64 ((k : Nat) : Int)) (vy := .int .i64 (8 : Int)) (v := .int .i64 (((k : Nat) : Int) % (8 : Int))) rfl e39 rfl rfl (run_rem64 (by omega) (by omega)) (hK _ _ rfl (Below.refl _ _))
            · rw [want_none rfl] at hwant; cases hwant
          case r17 =>
            refine trule fun b w hW hold hpre => ⟨fun hwant K hK => ?_, fun hwant => ?_⟩
            · clear hwant
              have e40 : b.eval (.tmp 40) = .int .i64 (((k : Nat) : Int) % (8 : Int)) := hpre ⟨16, _⟩ (Array.mem_of_getElem? (i := 0) rfl) rfl _ _ rfl rfl
              exact opw_bin (vx := .int .i64 (8 : Int)) (vy := .int .i64 (((k : Nat) : Int) % (8 : Int))) (v := .int .i64 ((8 : Int) * (((k : Nat) : Int) % (8 : Int)))) rfl rfl e40 rfl (run_mul64 (by omega) (by omega)) (hK _ _ rfl (Below.refl _ _))
            · rw [want_none rfl] at hwant; cases hwant
          case r18 =>
            refine trule fun b w hW hold hpre => ⟨fun hwant K hK => ?_, fun hwant => ?_⟩
            · clear hwant
              have e38 : b.eval (.tmp 38) = .int .u64 ((y : Nat) : Int) := hpre ⟨14, _⟩ (Array.mem_of_getElem? (i := 0) rfl) rfl _ _ rfl rfl
              have e41 : b.eval (.tmp 41) = .int .i64 ((8 : Int) * (((k : Nat) : Int) % (8 : Int))) := hpre ⟨17, _⟩ (Array.mem_of_getElem? (i := 1) rfl) rfl _ _ rfl rfl
              exact opw_bin (vx := .int .u64 ((y : Nat) : Int)) (vy := .int .i64 ((8 : Int) * (((k : Nat) : Int) % (8 : Int)))) (v := .int .u64 ((2 ^ (8 * (k % 8)) * y : Nat) : Int)) rfl e38 e41 rfl (run_shl8 hb8 (by omega)) (hK _ _ rfl (Below.refl _ _))
            · rw [want_none rfl] at hwant; cases hwant
          case r19 =>
            refine trule fun b w hW hold hpre => ⟨fun hwant K hK => ?_, fun hwant => ?_⟩
            · clear hwant
              have e31 : b.eval (.tmp 31) = .int .u64 ((x : Nat) : Int) := hpre ⟨7, _⟩ (Array.mem_of_getElem? (i := 0) rfl) rfl _ _ rfl rfl
              have e42 : b.eval (.tmp 42) = .int .u64 ((2 ^ (8 * (k % 8)) * y : Nat) : Int) := hpre ⟨18, _⟩ (Array.mem_of_getElem? (i := 1) rfl) rfl _ _ rfl rfl
              exact opw_bin (vx := .int .u64 ((x : Nat) : Int)) (vy := .int .u64 ((2 ^ (8 * (k % 8)) * y : Nat) : Int)) (v := .int .u64 ((x ^^^ (2 ^ (8 * (k % 8)) * y) : Nat) : Int)) rfl e31 e42 rfl (run_xor64' hwk hyT) (hK _ _ rfl (Below.refl _ _))
            · rw [want_none rfl] at hwant; cases hwant
          case r20 =>
            refine trule fun b w hW hold hpre => ⟨fun hwant K hK => ?_, fun hwant => ?_⟩
            · clear hwant
              have e24 : b.eval (.tmp 24) = .slice (some ⟨g, 0, none⟩) 25 c := hpre ⟨0, _⟩ (Array.mem_of_getElem? (i := 0) rfl) rfl _ _ rfl rfl
              have e26 : b.eval (.tmp 26) = .int .i64 (((k : Nat) : Int) / (8 : Int)) := hpre ⟨2, _⟩ (Array.mem_of_getElem? (i := 1) rfl) rfl _ _ rfl rfl
              exact opw_iaddr rfl e24 e26 (run_iaddr_lit (m := k / 8) Tryz.underlying49 (by kernel_rfl) (by omega) (by omega)) (hK _ _ rfl (Below.refl _ _))
            · rw [want_none rfl] at hwant; cases hwant
          case post =>
            intro b wz hW hdf hsz hold hT
            have e44 : b.eval (.tmp 44) = .pointer (some ⟨g, 0 + (k / 8) * 1, none⟩) := hT 20 _ 44 (by decide) rfl rfl
            have e43 : b.eval (.tmp 43) = .int .u64 ((x ^^^ (2 ^ (8 * (k % 8)) * y) : Nat) : Int) := hT 19 _ 43 (by decide) rfl rfl
            have e24 : b.eval (.tmp 24) = .slice (some ⟨g, 0, none⟩) 25 c := hT 0 _ 24 (by decide) rfl rfl
            have e25 : b.eval (.tmp 25) = .int .i64 ((k : Nat) : Int) := hT 1 _ 25 (by decide) rfl rfl
            have e26 : b.eval (.tmp 26) = .int .i64 (((k : Nat) : Int) / (8 : Int)) := hT 2 _ 26 (by decide) rfl rfl
            have e27 : b.eval (.tmp 27) = .slice (some ⟨g, 0, none⟩) 25 c := hT 3 _ 27 (by decide) rfl rfl
            have e28 : b.eval (.tmp 28) = .int .i64 ((k : Nat) : Int) := hT 4 _ 28 (by decide) rfl rfl
            have e29 : b.eval (.tmp 29) = .int .i64 (((k : Nat) : Int) / (8 : Int)) := hT 5 _ 29 (by decide) rfl rfl
            have e30 : b.eval (.tmp 30) = .pointer (some ⟨g, 0 + (k / 8) * 1, none⟩) := hT 6 _ 30 (by decide) rfl rfl
            have e31 : b.eval (.tmp 31) = .int .u64 ((x : Nat) : Int) := hT 7 _ 31 (by decide) rfl rfl
            have e32 : b.eval (.tmp 32) = .slice (some ⟨mb, 0, none⟩) M.length mc := hT 8 _ 32 (by decide) rfl rfl
            have e33 : b.eval (.tmp 33) = .int .i64 ((at_ : Nat) : Int) := hT 9 _ 33 (by decide) rfl rfl
            have e34 : b.eval (.tmp 34) = .int .i64 ((k : Nat) : Int) := hT 10 _ 34 (by decide) rfl rfl
            have e35 : b.eval (.tmp 35) = .int .i64 (((at_ : Nat) : Int) + ((k : Nat) : Int)) := hT 11 _ 35 (by decide) rfl rfl
            have e36 : b.eval (.tmp 36) = .pointer (some ⟨mb, 0 + (at_ + k) * 1, none⟩) := hT 12 _ 36 (by decide) rfl rfl
            have e37 : b.eval (.tmp 37) = .int .u8 ((y : Nat) : Int) := hT 13 _ 37 (by decide) rfl rfl
            have e38 : b.eval (.tmp 38) = .int .u64 ((y : Nat) : Int) := hT 14 _ 38 (by decide) rfl rfl
            have e39 : b.eval (.tmp 39) = .int .i64 ((k : Nat) : Int) := hT 15 _ 39 (by decide) rfl rfl
            have e40 : b.eval (.tmp 40) = .int .i64 (((k : Nat) : Int) % (8 : Int)) := hT 16 _ 40 (by decide) rfl rfl
            have e41 : b.eval (.tmp 41) = .int .i64 ((8 : Int) * (((k : Nat) : Int) % (8 : Int))) := hT 17 _ 41 (by decide) rfl rfl
            have e42 : b.eval (.tmp 42) = .int .u64 ((2 ^ (8 * (k % 8)) * y : Nat) : Int) := hT 18 _ 42 (by decide) rfl rfl
            obtain ⟨vs, hvs, hb⟩ := frame_of hdf hsz hold
            replace e44 : vs 44 = .pointer (some ⟨g, 0 + (k / 8) * 1, none⟩) := (hvs 44).symm.trans e44
            replace e43 : vs 43 = .int .u64 ((x ^^^ (2 ^ (8 * (k % 8)) * y) : Nat) : Int) := (hvs 43).symm.trans e43
            replace e24 : vs 24 = .slice (some ⟨g, 0, none⟩) 25 c := (hvs 24).symm.trans e24
            replace e25 : vs 25 = .int .i64 ((k : Nat) : Int) := (hvs 25).symm.trans e25
            replace e26 : vs 26 = .int .i64 (((k : Nat) : Int) / (8 : Int)) := (hvs 26).symm.trans e26
            replace e27 : vs 27 = .slice (some ⟨g, 0, none⟩) 25 c := (hvs 27).symm.trans e27
            replace e28 : vs 28 = .int .i64 ((k : Nat) : Int) := (hvs 28).symm.trans e28
            replace e29 : vs 29 = .int .i64 (((k : Nat) : Int) / (8 : Int)) := (hvs 29).symm.trans e29
            replace e30 : vs 30 = .pointer (some ⟨g, 0 + (k / 8) * 1, none⟩) := (hvs 30).symm.trans e30
            replace e31 : vs 31 = .int .u64 ((x : Nat) : Int) := (hvs 31).symm.trans e31
            replace e32 : vs 32 = .slice (some ⟨mb, 0, none⟩) M.length mc := (hvs 32).symm.trans e32
            replace e33 : vs 33 = .int .i64 ((at_ : Nat) : Int) := (hvs 33).symm.trans e33
            replace e34 : vs 34 = .int .i64 ((k : Nat) : Int) := (hvs 34).symm.trans e34
            replace e35 : vs 35 = .int .i64 (((at_ : Nat) : Int) + ((k : Nat) : Int)) := (hvs 35).symm.trans e35
            replace e36 : vs 36 = .pointer (some ⟨mb, 0 + (at_ + k) * 1, none⟩) := (hvs 36).symm.trans e36
            replace e37 : vs 37 = .int .u8 ((y : Nat) : Int) := (hvs 37).symm.trans e37
            replace e38 : vs 38 = .int .u64 ((y : Nat) : Int) := (hvs 38).symm.trans e38
            replace e39 : vs 39 = .int .i64 ((k : Nat) : Int) := (hvs 39).symm.trans e39
            replace e40 : vs 40 = .int .i64 (((k : Nat) : Int) % (8 : Int)) := (hvs 40).symm.trans e40
            replace e41 : vs 41 = .int .i64 ((8 : Int) * (((k : Nat) : Int) % (8 : Int))) := (hvs 41).symm.trans e41
            replace e42 : vs 42 = .int .u64 ((2 ^ (8 * (k % 8)) * y : Nat) : Int) := (hvs 42).symm.trans e42
            subst hb
            clear hvs hold hT hdf hsz
            simp only [setAll, Act.put, List.setIfInBounds_toArray, List.set_cons_zero, List.set_cons_succ, List.getElem_toArray, List.getElem_cons_succ, List.getElem_cons_zero]
            (intro o_ ho_; simp only [List.getElem?_toArray, List.getElem?_cons_succ, List.getElem?_cons_zero, Option.some.injEq] at ho_; subst ho_)
            refine opw_ostore rfl (g := g) (i := k / 8) (e44.trans (by rw [Nat.zero_add, Nat.mul_one])) e43 ((hS.ext hW).own 0 rfl) (by omega) rfl rfl (by kernel_rfl) fun w4 h1 hU => ?_
            replace hS := (hS.ext hW).upd 0 rfl (.own (.slice (some ⟨g, 0, none⟩) 25 c) 58 1 25 ((u64s X).set (k / 8) (Value.int .u64 ((x ^^^ (2 ^ (8 * (k % 8)) * y) : Nat) : Int)))) (by simpa [Fact.blk, Value.ownBlock] using upd_gb hU) h1 fun _ e => .inl e
            rw [← u64s_set, HXS.out] at hS
            simp only [TailWp]
            simp only [Act.put, List.setIfInBounds_toArray, List.set_cons_zero, List.set_cons_succ]
            clear e43 e44 h1 hU hW
            go_wp2_with fail
            exact ⟨⟨k + 1, hlk, by go_num, hS⟩, by simp [intOf]; omega⟩
        · obtain rfl : k = 136 := by omega
          obtain ⟨A, hAE, hAw, hAl⟩ : ∃ A, A = xB a B 136 ∧ Words A ∧ A.length = 25 := ⟨_, rfl, HWX.out 136, xB_len _ _ _⟩
          rw [← hAE] at hS HAB
          clear hAE hlk hk hwA hlA HWX HX0
          go_wp2_with (first
            | ((with_reducible show wpList _ _ _ (⟨_, .binOp _ _ _ _ _, _, _, _, _⟩ :: _) _ _); (first | ((with_reducible show wpList _ _ _ (⟨_, .binOp .lss _ _ _ _, _, _, _, _⟩ :: _) _ _); refine st_lss rfl _ _ _ _ rfl _ _ _ rfl rfl (fun h_ => ?_) (fun h_ => ?_)) | ((with_reducible show wpList _ _ _ (⟨_, .binOp .leq _ _ _ _, _, _, _, _⟩ :: _) _ _); refine st_leq rfl _ _ _ _ rfl _ _ _ rfl rfl (fun h_ => ?_) (fun h_ => ?_)) | ((with_reducible show wpList _ _ _ (⟨_, .binOp .gtr _ _ _ _, _, _, _, _⟩ :: _) _ _); refine st_gtr rfl _ _ _ _ rfl _ _ _ rfl rfl (fun h_ => ?_) (fun h_ => ?_)) | ((with_reducible show wpList _ _ _ (⟨_, .binOp .geq _ _ _ _, _, _, _, _⟩ :: _) _ _); refine st_geq rfl _ _ _ _ rfl _ _ _ rfl rfl (fun h_ => ?_) (fun h_ => ?_)) | ((with_reducible show wpList _ _ _ (⟨_, .binOp .eql _ _ _ _, _, _, _, _⟩ :: _) _ _); refine st_eql rfl _ _ _ _ rfl _ _ _ rfl rfl (fun h_ => ?_) (fun h_ => ?_)) | ((with_reducible show wpList _ _ _ (⟨_, .binOp .neq _ _ _ _, _, _, _, _⟩ :: _) _ _); refine st_neq rfl _ _ _ _ rfl _ _ _ rfl rfl (fun h_ => ?_) (fun h_ => ?_))) <;> go_prune)
            | (go_at_call 87; refine (rounds03_any _).mono ?_; rintro r_ w2 ⟨v2, rfl, h2, hb2⟩; replace hS := (hS.owned hb2 h2).freeze 0 (by decide) rfl; obtain ⟨A2, c2, rfl, _, _⟩ := Sl.shape hS.ro.2; clear h2 hb2))
          obtain ⟨K3, hK3, hK32, hS⟩ : ∃ K3 : (Nat → Prop) → World → Prop, (∀ D w, K3 D w → Sl w D 1 (.slice A2 24 c2) 24 (u64s roundsL)) ∧ (∀ D w, K3 D w → K2 D w) ∧ St w0 w2 [.own (.slice (some ⟨g, 0, none⟩) 25 c) 58 1 25 (u64s A), .box g2 27 (u8s (List.replicate 32 0)).toArray] K3 := ⟨_, fun _ _ h => h.2, fun _ _ h => h.1, hS⟩
          have HK32 := Lib.hid hK32
          have HK2S := Lib.hid hS2
          clear hK32 hS2
          go_loopw [3, 47] (fun av i wr => ∃ (k g c : Nat), k ≤ 24 ∧ i = .int .i64 k ∧ av = .slice (some ⟨g, 0, none⟩) 25 c ∧ St w0 wr [.own (.slice (some ⟨g, 0, none⟩) 25 c) 58 1 25 (u64s (permTo A k)), .box g2 27 (u8s (List.replicate 32 0)).toArray] K3) (fun _ i _ => 24 - (intOf i).toNat)
          case atStart => exact ⟨0, g, c, by omega, rfl, rfl, hS⟩
          case round =>
            clear hS
            obtain ⟨k, g, c, hk, rfl, rfl, hS⟩ := hrel
            by_cases hlk : k < 24
            · have k3 := hK3
              have f1 : (u64s roundsL)[k]? = some (.int .u64 (roundsL.getD k 0 : Nat)) := u64s_at roundsL k hlk
              have HP := Lib.hid (permTo_step A k hlk)
              obtain ⟨hwP, hlP⟩ := permTo_ok hAw hAl k hk
              have hwr := rounds_lt k
              generalize roundsL.getD k 0 = rc at *
              generalize permTo A k = B2 at *
              have HR3 := Lib.hid (fun (w : World) (D : Nat → Prop) (p : Value) (h : Sl w D 1 p 25 (u64s B2)) => round03_any p B2 rc hlP hwP hwr w D h)
              clear hwP hlP hwr
              go_wp2_with (first
                | ((with_reducible show wpList _ _ _ (⟨_, .binOp _ _ _ _ _, _, _, _, _⟩ :: _) _ _); (first | ((with_reducible show wpList _ _ _ (⟨_, .binOp .lss _ _ _ _, _, _, _, _⟩ :: _) _ _); refine st_lss rfl _ _ _ _ rfl _ _ _ rfl rfl (fun h_ => ?_) (fun h_ => ?_)) | ((with_reducible show wpList _ _ _ (⟨_, .binOp .leq _ _ _ _, _, _, _, _⟩ :: _) _ _); refine st_leq rfl _ _ _ _ rfl _ _ _ rfl rfl (fun h_ => ?_) (fun h_ => ?_)) | ((with_reducible show wpList _ _ _ (⟨_, .binOp .gtr _ _ _ _, _, _, _, _⟩ :: _) _ _); refine st_gtr rfl _ _ _ _ rfl _ _ _ rfl rfl (fun h_ => ?_) (fun h_ => ?_)) | ((with_reducible show wpList _ _ _ (⟨_, .binOp .geq _ _ _ _, _, _, _, _⟩ :: _) _ _); refine st_geq rfl _ _ _ _ rfl _ _ _ rfl rfl (fun h_ => ?_) (fun h_ => ?_)) | ((with_reducible show wpList _ _ _ (⟨_, .binOp .eql _ _ _ _, _, _, _, _⟩ :: _) _ _); refine st_eql rfl _ _ _ _ rfl _ _ _ rfl rfl (fun h_ => ?_) (fun h_ => ?_)) | ((with_reducible show wpList _ _ _ (⟨_, .binOp .neq _ _ _ _, _, _, _, _⟩ :: _) _ _); refine st_neq rfl _ _ _ _ rfl _ _ _ rfl rfl (fun h_ => ?_) (fun h_ => ?_))) <;> go_prune)
                | ((with_reducible show wpList _ _ _ (⟨_, .indexAddr _ _ _, _, _, _, _⟩ :: _) _ _); refine st_iaddr1 hS rfl _ _ _ rfl _ rfl rfl (by assumption) Tryz.underlying49 (by kernel_rfl) (by first | assumption | omega) _ (by assumption) ?_; intro p_ hc_)
                | (go_at_call 88; refine (HR3.out _ _ _ (Sl.of_own (hS.own 0 rfl))).mono ?_; rintro r_ w3 ⟨v3, rfl, h3, hb3⟩; replace hS := (hS.owned hb3 h3).sub (.cons_cons _ (.cons _ (.refl _))); clear h3 hb3))
              obtain ⟨g3, c3, rfl, _, _⟩ := own_pos (hS.own 0 rfl) (by omega)
              exact ⟨⟨k + 1, g3, c3, hlk, by go_num, rfl, by rw [HP.out]; exact hS⟩, by simp [intOf]; omega⟩
            · obtain rfl : k = 24 := by omega
              go_wp2_with (first | ((with_reducible show wpList _ _ _ (⟨_, .binOp _ _ _ _ _, _, _, _, _⟩ :: _) _ _); (first | ((with_reducible show wpList _ _ _ (⟨_, .binOp .lss _ _ _ _, _, _, _, _⟩ :: _) _ _); refine st_lss rfl _ _ _ _ rfl _ _ _ rfl rfl (fun h_ => ?_) (fun h_ => ?_)) | ((with_reducible show wpList _ _ _ (⟨_, .binOp .leq _ _ _ _, _, _, _, _⟩ :: _) _ _); refine st_leq rfl _ _ _ _ rfl _ _ _ rfl rfl (fun h_ => ?_) (fun h_ => ?_)) | ((with_reducible show wpList _ _ _ (⟨_, .binOp .gtr _ _ _ _, _, _, _, _⟩ :: _) _ _); refine st_gtr rfl _ _ _ _ rfl _ _ _ rfl rfl (fun h_ => ?_) (fun h_ => ?_)) | ((with_reducible show wpList _ _ _ (⟨_, .binOp .geq _ _ _ _, _, _, _, _⟩ :: _) _ _); refine st_geq rfl _ _ _ _ rfl _ _ _ rfl rfl (fun h_ => ?_) (fun h_ => ?_)) | ((with_reducible show wpList _ _ _ (⟨_, .binOp .eql _ _ _ _, _, _, _, _⟩ :: _) _ _); refine st_eql rfl _ _ _ _ rfl _ _ _ rfl rfl (fun h_ => ?_) (fun h_ => ?_)) | ((with_reducible show wpList _ _ _ (⟨_, .binOp .neq _ _ _ _, _, _, _, _⟩ :: _) _ _); refine st_neq rfl _ _ _ _ rfl _ _ _ rfl rfl (fun h_ => ?_) (fun h_ => ?_))) <;> go_prune))
              refine ⟨⟨j + 1, at_ + 136, g, c, by omega, by omega, by go_num, rfl, ?_⟩, by simp [intOf]; omega⟩
              rw [HST.out, HAB.out, perm_eq]
              exact hS.mono HK2S.out HK32.out
    · obtain rfl : j = q := by omega
      obtain ⟨A, hAE⟩ : ∃ A, A = stB (List.replicate 25 0) M j := ⟨_, rfl⟩
      rw [← hAE] at hS HSH hwA hlA
      have HAw := Lib.hid hwA
      have hfz : fillTo (outK A) 0 32 = List.replicate 32 0 := fillTo_zero _ _
      clear hAE hlt hj hwA
      go_wp2_with (first
        | ((with_reducible show wpList _ _ _ (⟨_, .binOp _ _ _ _ _, _, _, _, _⟩ :: _) _ _); (first | ((with_reducible show wpList _ _ _ (⟨_, .binOp .lss _ _ _ _, _, _, _, _⟩ :: _) _ _); refine st_lss rfl _ _ _ _ rfl _ _ _ rfl rfl (fun h_ => ?_) (fun h_ => ?_)) | ((with_reducible show wpList _ _ _ (⟨_, .binOp .leq _ _ _ _, _, _, _, _⟩ :: _) _ _); refine st_leq rfl _ _ _ _ rfl _ _ _ rfl rfl (fun h_ => ?_) (fun h_ => ?_)) | ((with_reducible show wpList _ _ _ (⟨_, .binOp .gtr _ _ _ _, _, _, _, _⟩ :: _) _ _); refine st_gtr rfl _ _ _ _ rfl _ _ _ rfl rfl (fun h_ => ?_) (fun h_ => ?_)) | ((with_reducible show wpList _ _ _ (⟨_, .binOp .geq _ _ _ _, _, _, _, _⟩ :: _) _ _); refine st_geq rfl _ _ _ _ rfl _ _ _ rfl rfl (fun h_ => ?_) (fun h_ => ?_)) | ((with_reducible show wpList _ _ _ (⟨_, .binOp .eql _ _ _ _, _, _, _, _⟩ :: _) _ _); refine st_eql rfl _ _ _ _ rfl _ _ _ rfl rfl (fun h_ => ?_) (fun h_ => ?_)) | ((with_reducible show wpList _ _ _ (⟨_, .binOp .neq _ _ _ _, _, _, _, _⟩ :: _) _ _); refine st_neq rfl _ _ _ _ rfl _ _ _ rfl rfl (fun h_ => ?_) (fun h_ => ?_))) <;> go_prune)
        | ((with_reducible show wpList _ _ _ (⟨some 9, _, _, _, _, _⟩ :: _) _ _); refine st_allocz hS rfl _ rfl (by kernel_rfl) (u8s (List.replicate 32 0)).toArray (by kernel_rfl) ?_; clear hS; intro g9 w_ hS; (try simp only [Act.put, Act.eval, List.set_cons_zero, List.set_cons_succ, List.setIfInBounds_toArray, Array.getD_eq_getD_getElem?, List.getElem?_toArray, List.getElem?_cons_succ, List.getElem?_cons_zero, Option.getD_some, Value.cells] at hS)))
      rw [← hfz] at hS
      clear hfz
      go_loopw [10] (fun i wr => ∃ (k : Nat), k ≤ 32 ∧ i = .int .i64 k ∧ St w0 wr [.box g9 27 (u8s (fillTo (outK A) k 32)).toArray, .own (.slice (some ⟨g, 0, none⟩) 25 c) 58 1 25 (u64s A), .box g2 27 (u8s (List.replicate 32 0)).toArray] K2) (fun i _ => 32 - (intOf i).toNat)
      case atStart => exact ⟨0, by omega, rfl, hS⟩
      case round =>
        clear hS
        obtain ⟨k, hk, rfl, hS⟩ := hrel
        by_cases hlt : k < 32
        · have h0 := (hS.own 1 rfl).cellAt (k / 8) (by omega)
          rw [u64s_at _ _ (by omega)] at h0
          have hO := hS.box 0 rfl
          have h1' := hO.byte (i := k) (by rw [fillTo_len]; omega)
          have h2' := hO.free k
          have l0 := HAw.out.getD (k / 8)
          have HO := Lib.hid (show outK A k = A.getD (k / 8) 0 / 2 ^ (8 * (k % 8)) % 256 from rfl)
          generalize A.getD (k / 8) 0 = x at *
          have s1 : (8 * ((k : Int) % 8)).toNat = 8 * (k % 8) := by omega
          clear hO
          go_wp2_with fail
          have he : (x : Int) / 2 ^ (8 * (k % 8)) % 256 = ((outK A k : Nat) : Int) := by rw [HO.out, Int.natCast_emod, Int.natCast_ediv, Int.natCast_pow]; rfl
          rw [he]
          have hS' := hS.putBox 0 rfl k (.int .u8 (outK A k : Nat))
          refine ⟨⟨k + 1, hlt, by go_num, ?_⟩, by simp [intOf]; omega⟩
          rw [← fillTo_set, u8s_set]
          simpa using hS'
        · obtain rfl : k = 32 := by omega
          rw [fillTo_full] at hS
          obtain ⟨L, hL, hLL⟩ : ∃ L, L = (List.range 32).map (outK A) ∧ L.length = 32 := ⟨_, rfl, by simp⟩
          rw [← hL] at hS HSH
          have hi32 : (Tryz.prog.info? 27).map (·.size) = some (u8s L).toArray.size := by rw [List.size_toArray, u8s_length, hLL]; kernel_rfl
          have HON := Lib.hid (show (u8s L).toArray.all (·.oneCell') = true from all_oneCell_toArray (u8s_one _))
          have HI := Lib.hid hi32
          have HOL := Lib.hid (show (u8s (List.replicate 32 0)).toArray.size = (u8s L).toArray.size by simp [u8s_length, hLL])
          clear hL hLL hi32
          go_wp2_with (first
            | ((with_reducible show wpList _ _ _ (⟨_, .binOp _ _ _ _ _, _, _, _, _⟩ :: _) _ _); (first | ((with_reducible show wpList _ _ _ (⟨_, .binOp .lss _ _ _ _, _, _, _, _⟩ :: _) _ _); refine st_lss rfl _ _ _ _ rfl _ _ _ rfl rfl (fun h_ => ?_) (fun h_ => ?_)) | ((with_reducible show wpList _ _ _ (⟨_, .binOp .leq _ _ _ _, _, _, _, _⟩ :: _) _ _); refine st_leq rfl _ _ _ _ rfl _ _ _ rfl rfl (fun h_ => ?_) (fun h_ => ?_)) | ((with_reducible show wpList _ _ _ (⟨_, .binOp .gtr _ _ _ _, _, _, _, _⟩ :: _) _ _); refine st_gtr rfl _ _ _ _ rfl _ _ _ rfl rfl (fun h_ => ?_) (fun h_ => ?_)) | ((with_reducible show wpList _ _ _ (⟨_, .binOp .geq _ _ _ _, _, _, _, _⟩ :: _) _ _); refine st_geq rfl _ _ _ _ rfl _ _ _ rfl rfl (fun h_ => ?_) (fun h_ => ?_)) | ((with_reducible show wpList _ _ _ (⟨_, .binOp .eql _ _ _ _, _, _, _, _⟩ :: _) _ _); refine st_eql rfl _ _ _ _ rfl _ _ _ rfl rfl (fun h_ => ?_) (fun h_ => ?_)) | ((with_reducible show wpList _ _ _ (⟨_, .binOp .neq _ _ _ _, _, _, _, _⟩ :: _) _ _); refine st_neq rfl _ _ _ _ rfl _ _ _ rfl rfl (fun h_ => ?_) (fun h_ => ?_))) <;> go_prune)
            | ((with_reducible show wpList _ _ _ (⟨some 71, _, _, _, _, _⟩ :: _) _ _); refine st_load hS 0 rfl _ _ rfl g9 rfl _ (u8s L).toArray rfl _ Tryz.underlying27 rfl HI.out ?_)
            | ((with_reducible show wpList _ _ _ (⟨_, .store 27 _ _, _, _, _, _⟩ :: _) _ _); refine st_store hS 2 rfl _ _ _ rfl g2 (u8s L).toArray rfl rfl _ _ rfl HI.out HOL.out HON.out ?_; clear hS; intro w_ hS; (try simp only [Act.put, Act.eval, List.set_cons_zero, List.set_cons_succ, List.setIfInBounds_toArray, Array.getD_eq_getD_getElem?, List.getElem?_toArray, List.getElem?_cons_succ, List.getElem?_cons_zero, Option.getD_some, Value.cells] at hS)))
          refine bodyPost_ret (v := .agg (u8s L).toArray) (by exact results_cell_row rfl _ _ g2 27 _ (0, 0) _ rfl (hS.box 2 rfl) Tryz.underlying27 rfl HI.out) rfl ?_
          exact Ret.mk (by rw [HSH.out.1]) hS.below
end Go.Proofs.YtenpkgdnlogfiaaGreatDoor
