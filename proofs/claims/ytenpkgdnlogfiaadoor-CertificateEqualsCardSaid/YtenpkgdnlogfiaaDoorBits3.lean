/-
  What bits.trim, Below, Without and Of compute.
-/
import Derived.Test.YtenpkgdnlogfiaaDoorBits2
namespace Go.Proofs.YtenpkgdnlogfiaaDoor
open Go.RowKit
attribute [local go_sem ↓] Go.wp_at_zero Go.wp_at_succ

theorem Words.take {l : List Nat} (h : Words l) (k : Nat) : Words (l.take k) := fun x hx => h x (List.mem_of_mem_take hx)
theorem trim_canon {l : List Nat} {k : Nat} (h : Words l) (hl : l.length ≤ 64) (hk : k ≤ l.length) (hz : ∀ j, k ≤ j → l.getD j 0 = 0) (hlast : 0 < k → l.getD (k - 1) 0 ≠ 0) :
    Canon (l.take k) ∧ val (l.take k) = val l := by
  refine ⟨⟨h.take k, fun x hx => ?_, by simp; omega⟩, val_ext (h.take k) fun j => ?_⟩
  · rw [List.getLast?_take] at hx
    by_cases h0 : k = 0
    · simp [h0] at hx
    · have := hlast (by omega)
      rw [List.getD_eq_getElem?_getD] at this
      rw [if_neg h0] at hx
      rw [List.getElem?_eq_getElem (by omega)] at this hx
      simp at hx this
      omega
  · rw [wd_val h]
    by_cases hj : j < k
    · simp [List.getD_eq_getElem?_getD, List.getElem?_take, hj]
    · rw [hz j (by omega)]; simp [List.getD_eq_getElem?_getD, List.getElem?_take, hj]
theorem Sl.take {w : World} {D : Nat → Prop} {c n k : Nat} {A : Option Addr} {xs : List Value} (h : Sl w D 1 (.slice A n c) n xs) (hk : k ≤ n) : Sl w D 1 (.slice A k c) k (xs.take k) := by
  obtain ⟨h1, A', c', h2, h3, h4, h5⟩ := h
  injection h2 with e1 e2 e3
  subst e1 e3
  refine ⟨by simp; omega, A, c, rfl, by omega, h4, fun h0 => ?_⟩
  obtain ⟨b, o, h6, h7, h9, h8⟩ := h5 (by omega)
  exact ⟨b, o, h6, h7, h9, fun j x hj => h8 j x (by rw [List.getElem?_take] at hj; split at hj <;> simp_all)⟩

theorem trim_any (v : Value) (l : List Nat) (w : World) (D : Nat → Prop) (hl : Words l) (h64 : l.length ≤ 64) (hs : Sl w D 1 v l.length (u64s l)) :
    Calls Tryd.prog 58 #[v] w (Ret (fun x w' => IsSet w' D x (val l)) w) := by
  have hs0 := hs
  obtain ⟨_, A, c, rfl, hc1, hc2, _⟩ := hs0
  have HC := Lib.hid fun k => @trim_canon l k hl h64
  clear hl
  unfold maxLen at hc2
  go_enter Tryd.func58, Tryd.ntmps58
  go_wp2
  have hs' := hs.alloc (Obj.cells #[Value.slice none 0 0] 53)
  go_loop [0] (fun v => ∃ k : Nat, k ≤ l.length ∧ v = .slice A k c ∧ Hid (∀ j, k ≤ j → l.getD j 0 = 0)) (fun v => match v with | .slice _ n _ => n | _ => 0)
  case atStart => exact ⟨l.length, Nat.le_refl _, rfl, fun j hj => by rw [List.getD_eq_getElem?_getD, List.getElem?_eq_none hj]; rfl⟩
  case round =>
    obtain ⟨k, hk, rfl, hz⟩ := hrel
    by_cases hk0 : 0 < k
    · obtain ⟨b, o, rfl, _, hb, hc⟩ := hs'.word (k := k - 1) (by omega)
      have hx := hc (k - 1) (by omega)
      have HX := Lib.hid (show l.getD (k - 1) 0 = 0 → ∀ j, k - 1 ≤ j → l.getD j 0 = 0 from fun h0 j hj => by
        rcases Nat.lt_or_ge j k with h | h
        · obtain rfl : j = k - 1 := by omega
          exact h0
        · exact hz.out j h)
      have HK := Lib.hid (HC.out k hk hz.out)
      clear hc hz
      generalize l.getD (k - 1) 0 = x at *
      have hk1 : (k : Int) - 1 = ((k - 1 : Nat) : Int) := by omega
      obtain ⟨q, rfl⟩ : ∃ q, k = q + 1 := ⟨k - 1, by omega⟩
      simp only [Nat.add_sub_cancel] at *
      clear hk1
      by_cases h0 : x = 0
      · subst h0
        have HZ := Lib.hid (HX.out rfl)
        go_wp2
        exact ⟨⟨q, by omega, rfl, HZ.out⟩, by simp⟩
      · have h1 : ((x : Int) == 0) = false := by simp; omega
        have HF := Lib.hid (HK.out fun _ => h0)
        clear h0
        go_wp2
        refine bodyPost_ret (v := .agg #[.slice (some ⟨b, o, none⟩) (q + 1) c]) (by simp [results, Tryd.results58, go_sem]) rfl ?_
        refine Ret.mk ⟨_, l.take (q + 1), rfl, HF.out.1, HF.out.2, ?_⟩ ((Below.refl _ _).alloc (Nat.le_refl _) _)
        have := (hs.take hk).alloc (Obj.cells #[Value.slice (some ⟨b, o, none⟩) (q + 1) c] 53)
        rw [u64s, ← List.map_take] at this
        simpa [u64s, Nat.min_eq_left hk] using this
    · obtain rfl : k = 0 := by omega
      have HF := Lib.hid (HC.out 0 hk hz.out (by omega))
      go_wp2
      refine bodyPost_ret (v := .agg #[.slice A 0 c]) (by simp [results, Tryd.results58, go_sem]) rfl ?_
      refine Ret.mk ⟨_, [], rfl, HF.out.1, HF.out.2, ?_⟩ ((Below.refl _ _).alloc (Nat.le_refl _) _)
      exact ⟨by simp [u64s], A, c, rfl, by simp, by simp [maxLen]; omega, fun h => absurd h (by simp)⟩

def allOnes : Nat := 18446744073709551615
theorem allOnes_int : ((allOnes : Nat) : Int) = 18446744073709551615 := rfl
/-- the set of the numbers below n -/
theorem below_wd (n k : Nat) : wd (2 ^ n - 1) k = 2 ^ (min (n - 64 * k) 64) - 1 := by
  apply Nat.eq_of_testBit_eq
  intro i
  by_cases hi : i < 64
  · rw [testBit_wd _ _ _ hi, Nat.testBit_two_pow_sub_one, Nat.testBit_two_pow_sub_one]
    have : (64 * k + i < n) ↔ (i < min (n - 64 * k) 64) := by omega
    simp [this]
  · rw [tb_big (wd_lt _ _) (by omega), Nat.testBit_two_pow_sub_one]
    simp
    omega
theorem below_words (n : Nat) (hn : n ≤ 4096) : Canon ((List.range ((n + 63) / 64)).map (wd (2 ^ n - 1))) ∧ val ((List.range ((n + 63) / 64)).map (wd (2 ^ n - 1))) = 2 ^ n - 1 := by
  refine ⟨Canon.range _ _ (fun _ _ => wd_lt _ _) (by omega) fun h0 => ?_, val_ext (Words.range _ _ fun _ _ => wd_lt _ _) fun k => ?_⟩
  · rw [below_wd]
    have : 2 ^ 1 ≤ 2 ^ (min (n - 64 * ((n + 63) / 64 - 1)) 64) := Nat.pow_le_pow_right (by decide) (by omega)
    omega
  · rw [range_getD]
    split
    · rfl
    · rw [below_wd, show min (n - 64 * k) 64 = 0 by omega]
theorem below_full (n j : Nat) (h : 64 * j + 64 ≤ n) : wd (2 ^ n - 1) j = allOnes := by
  rw [below_wd, show min (n - 64 * j) 64 = 64 by omega]; rfl
theorem below_fill (n : Nat) (h : n % 64 = 0) : fillTo (fun _ => allOnes) ((n + 63) / 64) ((n + 63) / 64) = (List.range ((n + 63) / 64)).map (wd (2 ^ n - 1)) := by
  rw [fillTo_full]
  apply List.map_congr_left
  intro j hj
  rw [below_full n j (by have := List.mem_range.1 hj; omega)]
theorem below_fill' (n : Nat) (h : n % 64 ≠ 0) : (fillTo (fun _ => allOnes) ((n + 63) / 64) ((n + 63) / 64)).set ((n + 63) / 64 - 1) (2 ^ (n % 64) - 1) = (List.range ((n + 63) / 64)).map (wd (2 ^ n - 1)) := by
  apply List.ext_getElem
  · simp [fillTo]
  · intro j h1 h2
    simp only [fillTo, List.getElem_set, List.getElem_map, List.getElem_range, List.length_map, List.length_range] at h1 h2 ⊢
    by_cases hj : (n + 63) / 64 - 1 = j
    · rw [if_pos hj, below_wd, show min (n - 64 * j) 64 = n % 64 by omega]
    · rw [if_neg hj, if_pos h2, below_full n j (by omega)]
theorem below_any (n : Nat) (w : World) (hn : n ≤ 4096) :
    Calls Tryd.prog 34 #[.int .i64 n] w (Ret (fun x w' => IsSet w' (w.heap.size ≤ ·) x (2 ^ n - 1)) w) := by
  obtain ⟨i0, hi, hz0, hz1, hz2⟩ := info_parts info_u64
  obtain ⟨m, hm⟩ : ∃ m, m = (n + 63) / 64 := ⟨_, rfl⟩
  have hm64 : m ≤ 64 := by omega
  have HM := Lib.hid hm
  have hme : ((n : Int) + 63) / 64 = (m : Int) := by omega
  clear hm
  go_enter Tryd.func34, Tryd.ntmps34
  go_wp2_with (at_make; refine wpList_make_full _ rfl _ _ 51 rfl (w.heap.size + 1) 68 i0 (.int .u64 0) 1 Tryd.underlying51 hi hz0 hz1 _ _ _ _ m rfl rfl (by omega) (by omega) (by rw [hz2]; omega) (by unfold maxLen; omega) (by simp) ?_; intro w1 hown hgrow)
  have hbw := (((Below.refl w.heap.size w).alloc (Nat.le_refl _) (Obj.cells #[Value.slice none 0 0] 53))).grown hgrow (by simp) (by simp)
  have hc2 : w1.cell? ⟨w.heap.size, 0, none⟩ = some (.slice none 0 0) := hgrow.cell (by go_simp) (by simp)
  have hf2 : w1.frozen? ⟨w.heap.size, 0, none⟩ = false := (World.frozen?_of_block (hgrow.block _ (by simp) (by simp))).trans (by go_simp)
  have hsz : w.heap.size + 1 ≤ w1.heap.size := by have := hgrow.size; simp at this; omega
  rw [Nat.mul_one, show (Value.int .u64 0).cells = #[Value.int .u64 0] from rfl, madeCells_u64, ← fillTo_zero (fun _ => allOnes)] at hown
  simp only [World.size_alloc] at hown
  clear hgrow hme
  go_loopw [14] (fun i wr => ∃ k : Nat, k ≤ m ∧ i = .int .i64 k ∧ wr.ownsRow (w.heap.size + 1) 68 1 (.slice (some ⟨w.heap.size + 1, 0, none⟩) m m) m (u64s (fillTo (fun _ => allOnes) k m)) ∧
    wr.cell? ⟨w.heap.size, 0, none⟩ = some (.slice none 0 0) ∧ wr.frozen? ⟨w.heap.size, 0, none⟩ = false ∧ Below w.heap.size w wr) (fun i _ => m - (intOf i).toNat)
  case atStart => exact ⟨0, by omega, rfl, hown, hc2, hf2, hbw⟩
  case round =>
    clear hown hc2 hf2 hsz hbw
    obtain ⟨k, hk1, rfl, hown, hc2, hf2, hbw⟩ := hrel
    by_cases hk : k < m
    · have hstep := hown.cellAt k (by omega)
      rw [fillTo_at _ _ _ _ hk] at hstep
      have hfz := hown.frozenAt k
      go_wp2
      refine ⟨⟨k + 1, hk, by go_num, own_fill hown (Below.refl _ _), (World.cell?_setCell_other _ _ _ _ (by simp)).trans hc2, ?_, hbw.setCell (by simp) _⟩, by simp [intOf]; omega⟩
      rw [World.frozen?_setCell]; exact hf2
    · obtain rfl : m = k := by omega
      by_cases hr : n % 64 = 0
      · have HL := Lib.hid (below_words n hn)
        have HF := Lib.hid (below_fill n hr)
        have h1 : ((n : Int) % 64) = 0 := by omega
        have HO := Lib.hid hown
        clear hown hr
        go_wp2
        refine bodyPost_ret (v := .agg #[.slice (some ⟨w.heap.size + 1, 0, none⟩) m m]) (by simp [results, Tryd.results34, go_sem, hc2]) rfl ?_
        have ho := HO.out
        rw [HM.out, HF.out, ← HM.out] at ho
        have hl := HL.out
        rw [← HM.out] at hl
        exact Ret.mk ((IsSet.of_range hl (ownsRow_setCell_below ho (by simp) _)).imp fun b hb _ => by omega) (hbw.setCell (by simp) _)
      · have HL := Lib.hid (below_words n hn)
        have HF := Lib.hid (below_fill' n hr)
        have h1 : 0 < ((n : Int) % 64) := by omega
        have hm0 : 0 < m := by have := HM.out; omega
        have hstep := hown.cellAt (m - 1) (by omega)
        rw [fillTo_at _ _ _ _ (by omega)] at hstep
        have hfz := hown.frozenAt (m - 1)
        have HO := Lib.hid hown
        clear hown hr
        obtain ⟨q, rfl⟩ : ∃ q, m = q + 1 := ⟨m - 1, by omega⟩
        simp only [Nat.add_sub_cancel] at hstep hfz
        go_wp2
        rw [shl64_sub _ (Nat.mod_lt n (by decide))]
        refine bodyPost_ret (v := .agg #[.slice (some ⟨w.heap.size + 1, 0, none⟩) (q + 1) (q + 1)]) (by simp [results, Tryd.results34, go_sem, hc2]) rfl ?_
        have ho := own_set (k := q) (y := 2 ^ (n % 64) - 1) HO.out (Below.refl _ _)
        have hF := HF.out
        rw [← HM.out] at hF
        simp only [Nat.add_sub_cancel] at hF
        rw [hF] at ho
        have hl := HL.out
        rw [← HM.out] at hl
        exact Ret.mk ((IsSet.of_range hl (ownsRow_setCell_below ho (by simp) _)).imp fun b hb _ => by omega) ((hbw.setCell (by simp) _).setCell (by simp) _)
end Go.Proofs.YtenpkgdnlogfiaaDoor
