/-
  What (bits.Set).Without and bits.Of compute.
-/
import Derived.Test.YtenpkgdnlogfiaaDoorBits3
import Derived.Deep.AppendLies
import Derived.BigRegion
namespace Go.Proofs.YtenpkgdnlogfiaaDoor
open Go.RowKit
attribute [local go_sem ↓] Go.wp_at_zero Go.wp_at_succ

theorem set_getD (l : List Nat) (k y j : Nat) (hk : k < l.length) : (l.set k y).getD j 0 = if j = k then y else l.getD j 0 := by
  rw [List.getD_eq_getElem?_getD, List.getElem?_set, List.getD_eq_getElem?_getD]
  by_cases h : k = j
  · subst h; simp [hk]
  · simp [h, Ne.symm h]
theorem Words.set {l : List Nat} (h : Words l) {k y : Nat} (hy : y < T64) : Words (l.set k y) := by
  intro x hx
  rcases List.mem_or_eq_of_mem_set hx with h1 | h1
  · exact h x h1
  · rw [h1]; exact hy
/-- a set without a member -/
def del (N : Nat) (i : Int) : Nat := if hasB N i then N ^^^ 2 ^ i.toNat else N
theorem val_del {l : List Nat} (h : Words l) {m : Nat} (hm : m / 64 < l.length) (hb : (val l).testBit m = true) :
    Words (l.set (m / 64) (l.getD (m / 64) 0 &&& not64 (2 ^ (m % 64)))) ∧ val (l.set (m / 64) (l.getD (m / 64) 0 &&& not64 (2 ^ (m % 64)))) = val l ^^^ 2 ^ m := by
  have hw : Words (l.set (m / 64) (l.getD (m / 64) 0 &&& not64 (2 ^ (m % 64)))) := h.set (and_lt (h.getD _))
  have hp : 2 ^ (m % 64) < T64 := by rw [T64_eq]; exact Nat.pow_lt_pow_right (by decide) (Nat.mod_lt _ (by decide))
  refine ⟨hw, Nat.eq_of_testBit_eq fun i => ?_⟩
  rw [testBit_val hw, set_getD _ _ _ _ hm, Nat.testBit_xor, Nat.testBit_two_pow, testBit_val h]
  by_cases hi : i / 64 = m / 64
  · rw [if_pos hi, Nat.testBit_and, testBit_not64 hp _ (Nat.mod_lt _ (by decide)), Nat.testBit_two_pow, hi]
    by_cases he : i % 64 = m % 64
    · have : m = i := by omega
      subst this
      rw [testBit_val h] at hb
      rw [hb]; simp
    · have h1 : m ≠ i := by intro e; subst e; exact he rfl
      simp [h1, Ne.symm he]
  · have h1 : m ≠ i := by intro e; subst e; exact hi rfl
    rw [if_neg hi]; simp [h1]

set_option maxRecDepth 20000 in
theorem without_any (v : Value) (N : Nat) (i : Int) (w : World) (D : Nat → Prop) (hv : IsSet w D v N) :
    Calls Tryd.prog 35 #[v, .int .i64 i] w (Ret (fun x w' => IsSet w' (fun b => D b ∨ w.heap.size ≤ b) x (del N i)) w) := by
  obtain ⟨A, c, l, rfl, hl, hN, hc1, hc2, hs⟩ := hv.parts
  obtain ⟨i0, hi, hz0, hz1, hz2⟩ := info_parts info_u64
  have hbw : Below w.heap.size w ((w.alloc (.cells #[.slice A l.length c] 53)).alloc (.cells #[.slice none 0 0] 53)) := ((Below.refl _ _).alloc (Nat.le_refl _) _).alloc (by simp) _
  have hv1 := (hv.alloc (.cells #[.slice A l.length c] 53)).alloc (.cells #[.slice none 0 0] 53)
  by_cases hh : hasB N i = true
  · have hi0 : 0 ≤ i := by by_cases h : 0 ≤ i; exact h; rw [has_neg N i h] at hh; cases hh
    obtain ⟨m, rfl⟩ := Int.eq_ofNat_of_zero_le hi0
    have hbit : N.testBit m = true := by simpa [hasB] using hh
    have hm64 : m / 64 < l.length := by
      apply wd_ne_zero_lt hl.1
      rw [← hN]
      intro e
      have := testBit_wd N (m / 64) (m % 64) (Nat.mod_lt _ (by decide))
      rw [e, Nat.div_add_mod, hbit] at this
      simp at this
    have HD := Lib.hid (val_del hl.1 hm64 (by rw [← hN]; exact hbit))
    have HH := Lib.hid hh
    have HN := Lib.hid (show del N m = val l ^^^ 2 ^ m by rw [del, if_pos hh, Int.toNat_natCast, hN])
    have hlen := hl.2.2
    obtain ⟨b, o, rfl, _, hb, hc⟩ := hs.word (k := 0) (by omega)
    have HA := Lib.hid (andNot64 (hl.1.getD (m / 64)) (b := 2 ^ (m % 64)) (by rw [T64_eq]; exact Nat.pow_lt_pow_right (by decide) (Nat.mod_lt _ (by decide))))
    have HC := Lib.hid hc
    clear hh hN hl hbit hs hc hi0
    unfold maxLen at hc2
    go_enter Tryd.func35, Tryd.ntmps35
    go_wp2_with fail
    refine (has_any _ N _ _ D hv1).mono ?_
    rintro e w1 ⟨_, rfl, rfl, hb1⟩
    rw [HH.out]
    have hbw1 := hbw.trans (hb1.mono (by simp; omega))
    have hk1 : w1.cell? ⟨w.heap.size, 0, none⟩ = some (.slice (some ⟨b, o, none⟩) l.length c) := (hb1.cell (p := ⟨w.heap.size, 0, none⟩) (by simp; omega)).trans (by go_simp)
    have hk2 : w1.cell? ⟨w.heap.size + 1, 0, none⟩ = some (.slice none 0 0) := (hb1.cell (p := ⟨w.heap.size + 1, 0, none⟩) (by simp)).trans (by go_simp)
    have hf2 : w1.frozen? ⟨w.heap.size + 1, 0, none⟩ = false := (hb1.frozen (p := ⟨w.heap.size + 1, 0, none⟩) (by simp)).trans (by go_simp)
    have hsz1 : w.heap.size + 2 ≤ w1.heap.size := by have := hb1.size; simp at this; omega
    clear hb1 hbw hv1
    have hcells : ∀ j u, (u64s l)[j]? = some u → (w1.alloc (.cells #[] 68)).cell? ((⟨b, o, none⟩ : Addr).add j) = some u := fun j u hj => by
      have hj' : j < l.length := by
        rcases Nat.lt_or_ge j l.length with h | h
        · exact h
        · rw [List.getElem?_eq_none (by rw [u64s_length]; exact h)] at hj; cases hj
      rw [u64s_at l j hj'] at hj
      injection hj with hj
      subst hj
      rw [Addr.add_lit, World.cell?_alloc_lt _ _ _ (by show b < _; omega), hbw1.cell (p := ⟨b, o + j, none⟩) hb]
      exact HC.out j hj'
    have hk1' : (w1.alloc (.cells #[] 68)).cell? ⟨w.heap.size, 0, none⟩ = some (.slice (some ⟨b, o, none⟩) l.length c) := (World.cell?_alloc_lt _ _ _ (by show w.heap.size < _; omega)).trans hk1
    have HCC := Lib.hid hcells
    clear hcells
    go_wp2_with (at_builtin; refine wpList_append_own _ rfl _ _ 51 rfl (w.heap.size + 2) 68 i0 (.int .u64 0) 1 8 Tryd.underlying51 hi hz0 hz1 hz2 rfl (by decide) _ 0 [] rfl (World.ownsRow_made w1 #[] 0 hsz1 (by simp [maxLen]) (by simp)) ⟨b, o, none⟩ l.length c (u64s l) rfl (by simp [u64s]) HCC.out (by intro u hu; simp [u64s] at hu; obtain ⟨x, _, rfl⟩ := hu; rfl) (by unfold maxLen; omega) (by omega) (by simp; omega) ?_; intro v' w2 hown hgrow _)
    obtain ⟨g, cap, rfl, hg1, hg2⟩ := hown.form (by omega)
    simp only [Nat.zero_add, List.nil_append] at hown
    replace hgrow : (w1.alloc (Obj.cells #[] 68)).grownBy w2 (some w1.heap.size) := hgrow
    have hbw2 := (hbw1.alloc (by omega) (.cells #[] 68)).grown hgrow (by simp; omega) (fun k hk => by injection hk with hk; omega)
    have hstep := hown.cellAt (m / 64) (by omega)
    rw [u64s_at l _ hm64] at hstep
    have hfz := hown.frozenAt (m / 64)
    have hk2' : w2.cell? ⟨w.heap.size + 1, 0, none⟩ = some (.slice none 0 0) := hgrow.cell ((World.cell?_alloc_lt _ _ _ (by show w.heap.size + 1 < _; omega)).trans hk2) (fun e => by injection e with e; simp only at e; omega)
    have hf2' : w2.frozen? ⟨w.heap.size + 1, 0, none⟩ = false := (World.frozen?_of_block (hgrow.block _ (by simp; omega) (fun e => by injection e with e; simp only at e; omega))).trans ((World.frozen?_of_block (Below.heap_alloc w1 _ _ (by show w.heap.size + 1 < _; omega))).trans hf2)
    have hsh := shl64 (m % 64) (Nat.mod_lt _ (by decide))
    have hA : bits .andNot .u64 ((l.getD (m / 64) 0 : Nat) : Int) (IntKind.u64.wrap ((2 : Int) ^ (m % 64))) = ((l.getD (m / 64) 0 &&& not64 (2 ^ (m % 64)) : Nat) : Int) := by rw [hsh, ← HA.out]
    clear hsh
    have HS : Hid (∀ x : World, Below w2.heap.size w2 x → (x.setCell ⟨g, m / 64, none⟩ (.int .u64 (l.getD (m / 64) 0 &&& not64 (2 ^ (m % 64)) : Nat))).ownsRow (w.heap.size + 2) 68 1 (.slice (some ⟨g, 0, none⟩) l.length cap) l.length (u64s (l.set (m / 64) (l.getD (m / 64) 0 &&& not64 (2 ^ (m % 64)))))) := fun x hx => own_set hown hx
    clear hown hgrow
    generalize (l.getD (m / 64) 0 &&& not64 (2 ^ (m % 64))) = z at *
    generalize l.getD (m / 64) 0 = y at *
    go_region
    go_wp2_with fail
    have hs2 := Sl.of_own (HS.out w2 (Below.refl _ _))
    refine (trim_any _ (l.set (m / 64) z) _ _ HD.out.1 (by simpa using hlen) (by simpa using hs2.drew)).mono ?_
    rintro e w3 ⟨u, rfl, hu, hb3⟩
    obtain ⟨A3, c3, l3, rfl, _, _, _, _, _⟩ := hu.parts
    have hk3 : w3.cell? ⟨w.heap.size + 1, 0, none⟩ = some (.slice none 0 0) := (hb3.cell (p := ⟨w.heap.size + 1, 0, none⟩) (by simp; omega)).trans ((World.cell?_setCell_other _ _ _ _ (fun e => by injection e with e; omega)).trans hk2')
    have hf3 : w3.frozen? ⟨w.heap.size + 1, 0, none⟩ = false := (hb3.frozen (p := ⟨w.heap.size + 1, 0, none⟩) (by simp; omega)).trans ((World.frozen?_setCell ..).trans hf2')
    have hbw3 : Below w.heap.size w w3 := ((hbw2.setCell (p := ⟨g, m / 64, none⟩) (by show _ ≤ g; omega) _).drew).trans (hb3.mono (by simp; omega))
    go_wp2_with fail
    refine bodyPost_ret (v := .agg #[.slice A3 l3.length c3]) (by simp [results, Tryd.results35, go_sem, hk3]) rfl ?_
    rw [HN.out, ← HD.out.2]
    exact Ret.mk ((hu.setCell (by show ¬ _ ≤ w.heap.size + 1; omega) _).imp fun b hb _ => .inr (by omega)) (hbw3.setCell (by simp) _)
  · have hh' : hasB N i = false := by simpa using hh
    have HH := Lib.hid hh'
    rw [show del N i = N by simp [del, hh']]
    clear hh hh' hN hl hs
    go_enter Tryd.func35, Tryd.ntmps35
    go_wp2_with fail
    refine (has_any _ N _ _ D hv1).mono ?_
    rintro e w1 ⟨_, rfl, rfl, hb1⟩
    rw [HH.out]
    have hbw1 := hbw.trans (hb1.mono (by simp; omega))
    have hk1 : w1.cell? ⟨w.heap.size, 0, none⟩ = some (.slice A l.length c) := (hb1.cell (p := ⟨w.heap.size, 0, none⟩) (by simp; omega)).trans (by go_simp)
    have hk2 : w1.cell? ⟨w.heap.size + 1, 0, none⟩ = some (.slice none 0 0) := (hb1.cell (p := ⟨w.heap.size + 1, 0, none⟩) (by simp)).trans (by go_simp)
    have hf2 : w1.frozen? ⟨w.heap.size + 1, 0, none⟩ = false := (hb1.frozen (p := ⟨w.heap.size + 1, 0, none⟩) (by simp)).trans (by go_simp)
    go_wp2_with fail
    refine bodyPost_ret (v := .agg #[.slice A l.length c]) (by simp [results, Tryd.results35, go_sem, hk2]) rfl ?_
    have h1 := (hv.imp (D' := fun b => D b ∧ b < w.heap.size) fun b h1 h2 => ⟨h1, h2⟩).ext hbw1
    exact Ret.mk ((h1.setCell (q := ⟨w.heap.size + 1, 0, none⟩) (by simp) _).imp fun b hb _ => .inl hb.1) (hbw1.setCell (by simp) _)

end Go.Proofs.YtenpkgdnlogfiaaDoor
