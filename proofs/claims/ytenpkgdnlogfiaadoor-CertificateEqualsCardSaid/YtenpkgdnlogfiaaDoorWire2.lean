/-
  What (bits.Set).Greatest and (bits.Set).Bytes compute.
-/
import Derived.Test.YtenpkgdnlogfiaaDoorWire1
import Derived.Test.YtenpkgdnlogfiaaDoorBits5
import Derived.Test.YtenpkgdnlogfiaaDoorShelf
import Derived.Lib.ItoaNum
namespace Go.Proofs.YtenpkgdnlogfiaaDoor
open Go.RowKit
set_option maxRecDepth 20000

theorem log2_val {l : List Nat} (hl : Canon l) (h0 : 0 < l.length) : (val l).log2 = 64 * (l.length - 1) + (l.getD (l.length - 1) 0).log2 ∧ val l ≠ 0 := by
  have hx := canon_last hl h0
  have hw := wd_val hl.1 (l.length - 1)
  have hne : val l ≠ 0 := by
    intro e
    rw [e] at hw
    exact hx (by rw [← hw]; simp [wd])
  refine ⟨?_, hne⟩
  have hlt : (l.getD (l.length - 1) 0) < T64 := hl.1.getD _
  generalize hxe : l.getD (l.length - 1) 0 = x at *
  have hlog : x.log2 < 64 := (Nat.log2_lt hx).2 hlt
  have hb : (val l).testBit (64 * (l.length - 1) + x.log2) = true := by
    rw [testBit_val hl.1, show (64 * (l.length - 1) + x.log2) / 64 = l.length - 1 by omega, show (64 * (l.length - 1) + x.log2) % 64 = x.log2 by omega, hxe]
    exact Nat.testBit_log2 hx
  have hge : 2 ^ (64 * (l.length - 1) + x.log2) ≤ val l := Nat.ge_two_pow_of_testBit hb
  have hup : val l < 2 ^ (64 * (l.length - 1) + x.log2 + 1) := by
    apply Nat.lt_pow_two_of_testBit
    intro i hi
    rw [testBit_val hl.1]
    by_cases hq : i / 64 = l.length - 1
    · rw [hq, hxe]
      apply Nat.testBit_lt_two_pow
      exact Nat.lt_of_lt_of_le (Nat.lt_log2_self) (Nat.pow_le_pow_right (by decide) (by omega))
    · rw [List.getD_eq_getElem?_getD, List.getElem?_eq_none (by omega)]; simp
  have h1 : (val l).log2 < 64 * (l.length - 1) + x.log2 + 1 := (Nat.log2_lt hne).2 hup
  have h2 : 64 * (l.length - 1) + x.log2 ≤ (val l).log2 := (Nat.le_log2 hne).2 hge
  omega
theorem bitLen_log2 {x : Nat} (h : x < T64) (h0 : x ≠ 0) : Lib.bitLen x = x.log2 + 1 := by
  obtain ⟨h1, h2, h3⟩ := Go.Lib.bitLenAux_bounds 64 x h h0
  unfold Lib.bitLen
  have h4 : x.log2 < Lib.bitLenAux 64 x := (Nat.log2_lt h0).2 h3
  have h5 : Lib.bitLenAux 64 x - 1 ≤ x.log2 := (Nat.le_log2 h0).2 h2
  omega

/-- the greatest member, and whether there is one -/
def gtst (N : Nat) : Value := .tuple #[.int .i64 ((if N = 0 then 0 else N.log2 : Nat) : Int), .bool (N != 0)]
theorem greatest_any (v : Value) (N : Nat) (w : World) (D : Nat → Prop) (hv : IsSet w D v N) :
    Calls Tryd.prog 55 #[v] w (Ret (fun x _ => x = gtst N) w) := by
  obtain ⟨A, c, l, rfl, hl, rfl, hc1, hc2, hs⟩ := hv.parts
  have hl64 := hl.2.2
  have hv1 := hv.alloc (.cells #[.slice A l.length c] 53)
  have hbw : Below w.heap.size w (w.alloc (.cells #[.slice A l.length c] 53)) := (Below.refl _ _).alloc (Nat.le_refl _) _
  by_cases h0 : l.length = 0
  · obtain rfl : l = [] := List.eq_nil_of_length_eq_zero h0
    have HR := Lib.hid (show (val [] == 0) = true by rfl)
    clear hl hs hc1 hl64 h0
    go_enter Tryd.func55, Tryd.ntmps55
    go_wp2_with fail
    refine (empty_any _ _ _ D hv1).mono ?_
    rintro e w1 ⟨_, rfl, rfl, hb1⟩
    rw [HR.out]
    go_wp2_with fail
    go_ret2
    exact Ret.mk rfl (hbw.trans (hb1.mono (by simp)))
  · obtain ⟨hlog, hne⟩ := log2_val hl (by omega)
    have HR := Lib.hid (show (val l == 0) = false by simp [hne])
    have HE := Lib.hid (show gtst (val l) = .tuple #[.int .i64 (64 * ((l.length : Int) - 1) + ((l.getD (l.length - 1) 0).log2 + 1) - 1), .bool true] by
      have h1 : (((if val l = 0 then 0 else (val l).log2 : Nat)) : Int) = 64 * ((l.length : Int) - 1) + ((l.getD (l.length - 1) 0).log2 + 1) - 1 := by rw [if_neg hne, hlog]; omega
      have h2 : (val l != 0) = true := by simp [hne]
      rw [gtst, h1, h2])
    obtain ⟨b, o, rfl, _, hb, hc⟩ := hs.word (k := l.length - 1) (by omega)
    have hx := hc (l.length - 1) (by omega)
    have HB := Lib.hid (bitLen_log2 (hl.1.getD (l.length - 1)) (canon_last hl (by omega)))
    have HT := Lib.hid (hl.1.getD (l.length - 1))
    have hlg : (l.getD (l.length - 1) 0).log2 < 64 := (Nat.log2_lt (canon_last hl (by omega))).2 (hl.1.getD _)
    clear hl hs hc hlog hne
    generalize l.getD (l.length - 1) 0 = x at *
    obtain ⟨q, hq⟩ : ∃ q, l.length = q + 1 := ⟨l.length - 1, by omega⟩
    rw [hq] at hx hc1 hl64 h0 HE
    simp only [Nat.add_sub_cancel] at hx
    rw [hq] at hv1 hbw
    rw [hq]
    generalize val l = N at *
    clear hq hv
    go_enter Tryd.func55, Tryd.ntmps55
    go_wp2_with fail
    refine (empty_any _ N _ D hv1).mono ?_
    rintro e w1 ⟨_, rfl, rfl, hb1⟩
    rw [HR.out]
    have hbw1 := hbw.trans (hb1.mono (by simp))
    have hk1 : w1.cell? ⟨w.heap.size, 0, none⟩ = some (.slice (some ⟨b, o, none⟩) (q + 1) c) := (hb1.cell (p := ⟨w.heap.size, 0, none⟩) (by simp)).trans (by go_simp)
    have hx1 := (hbw1.cell (p := ⟨b, o + q, none⟩) hb).trans hx
    go_wp2_with fail
    refine (Tryd.bits_Len64 _ _ (by omega) (by have := HT.out; unfold T64 at this; omega)).mono ?_
    rintro e w2 ⟨rfl, rfl⟩
    rw [Int.toNat_natCast, HB.out]
    go_wp2_with fail
    go_ret2
    refine Ret.mk ?_ hbw1
    rw [HE.out]
    simp

/-- the bytes of a set -/
def setBytes (N : Nat) : List Nat := if N = 0 then [] else (List.range (N.log2 / 8 + 1)).map fun k => (N >>> (8 * k)) % 256
theorem setBytes_byte (N : Nat) : Bytes (setBytes N) := by
  intro x hx
  unfold setBytes at hx
  split at hx
  · simp at hx
  · obtain ⟨k, _, rfl⟩ := List.mem_map.1 hx
    exact Nat.mod_lt _ (by decide)
theorem byte_of_word (N k : Nat) : (wd N (k / 8) / 2 ^ (8 * (k % 8))) % 256 = (N >>> (8 * k)) % 256 := by
  apply Nat.eq_of_testBit_eq
  intro i
  rw [← Nat.shiftRight_eq_div_pow, show (256 : Nat) = 2 ^ 8 from rfl, Nat.testBit_mod_two_pow, Nat.testBit_mod_two_pow, Nat.testBit_shiftRight, Nat.testBit_shiftRight]
  by_cases hi : i < 8
  · rw [testBit_wd _ _ _ (by omega), show 64 * (k / 8) + (8 * (k % 8) + i) = 8 * k + i by omega]
  · simp [hi]

theorem set_bytes_any (v : Value) (N : Nat) (w : World) (D : Nat → Prop) (hv : IsSet w D v N) :
    Calls Tryd.prog 89 #[v] w (Ret (fun x w' => Sl w' (w.heap.size ≤ ·) 1 x (setBytes N).length (u8s (setBytes N))) w) := by
  obtain ⟨A, c, l, rfl, hl, hN, hc1, hc2, hs⟩ := hv.parts
  obtain ⟨i0, hi, hz0, hz1, hz2⟩ := info_parts info_u8
  have hv1 := hv.alloc (.cells #[.slice A l.length c] 53)
  have hbw : Below w.heap.size w (w.alloc (.cells #[.slice A l.length c] 53)) := (Below.refl _ _).alloc (Nat.le_refl _) _
  by_cases h0 : N = 0
  · subst h0
    have HG := Lib.hid (show gtst 0 = .tuple #[.int .i64 0, .bool false] from rfl)
    clear hl hs hN
    go_enter Tryd.func89, Tryd.ntmps89
    go_wp2_with fail
    refine (greatest_any _ _ _ D hv1).mono ?_
    rintro e w1 ⟨_, rfl, rfl, hb1⟩
    rw [HG.out]
    go_wp2_with fail
    go_ret
    exact Ret.mk Sl.none_ (hbw.trans (hb1.mono (by simp)))
  · have HG := Lib.hid (show gtst N = .tuple #[.int .i64 (N.log2 : Nat), .bool true] by simp [gtst, h0])
    obtain ⟨n, hn⟩ : ∃ n, n = N.log2 / 8 + 1 := ⟨_, rfl⟩
    have hlog : N.log2 < 4096 := (Nat.log2_lt h0).2 hv.bound
    have hn512 : n ≤ 512 := by omega
    have hti : ((N.log2 : Nat) : Int) / 8 + 1 = n := by omega
    have hwl : ∀ k, k < n → k / 8 < l.length := fun k hk => by
      have hl0 : 0 < l.length := by
        rcases Nat.eq_zero_or_pos l.length with h | h
        · obtain rfl : l = [] := List.eq_nil_of_length_eq_zero h
          exact absurd hN h0
        · exact h
      have := (log2_val hl hl0).1
      rw [← hN] at this
      have : (l.getD (l.length - 1) 0).log2 < 64 := (Nat.log2_lt (canon_last hl hl0)).2 (hl.1.getD (l.length - 1))
      omega
    have HS := Lib.hid (show setBytes N = (List.range n).map fun k => (N >>> (8 * k)) % 256 by rw [setBytes, if_neg h0, hn])
    have HW := Lib.hid hwl
    have HC := Lib.hid fun k hk => @Sl.word _ _ _ _ _ hs k hk
    have HV := Lib.hid (fun k => show wd N k = l.getD k 0 by rw [hN]; exact wd_val hl.1 k)
    have HB := Lib.hid (byte_of_word N)
    have hll := hl.2.2
    clear hl hs hN h0 hn hwl
    generalize N.log2 = t at *
    go_enter Tryd.func89, Tryd.ntmps89
    go_wp2_with fail
    refine (greatest_any _ _ _ D hv1).mono ?_
    rintro e w1 ⟨_, rfl, rfl, hb1⟩
    rw [HG.out]
    have hbw1 := hbw.trans (hb1.mono (by simp))
    have hk1 : w1.cell? ⟨w.heap.size, 0, none⟩ = some (.slice A l.length c) := (hb1.cell (p := ⟨w.heap.size, 0, none⟩) (by simp)).trans (by go_simp)
    have hsz1 : w.heap.size + 1 ≤ w1.heap.size := by have := hb1.size; simpa using this
    clear hb1 hbw hv1
    go_wp2_with (at_make; refine wpList_make_full _ rfl _ _ 47 rfl w1.heap.size 5 i0 (.int .u8 0) 1 Tryd.underlying47 hi hz0 hz1 _ _ _ _ n rfl rfl (by omega) (by omega) (by rw [hz2]; omega) (by unfold maxLen; omega) (Nat.le_refl _) ?_; intro w2 hown hgrow)
    have hbw2 := hbw1.grown hgrow (by omega) (by simp)
    have hk2 : w2.cell? ⟨w.heap.size, 0, none⟩ = some (.slice A l.length c) := hgrow.cell hk1 (by simp)
    rw [Nat.mul_one, show (Value.int .u8 0).cells = #[Value.int .u8 0] from rfl, madeCells_u8, ← fillTo_zero (fun k => (N >>> (8 * k)) % 256)] at hown
    clear hgrow hk1 hti hbw1
    go_loopw [20] (fun i wr => ∃ k : Nat, k ≤ n ∧ i = .int .i64 k ∧ wr.ownsRow w1.heap.size 5 1 (.slice (some ⟨w1.heap.size, 0, none⟩) n n) n (u8s (fillTo (fun k => (N >>> (8 * k)) % 256) k n)) ∧
      wr.cell? ⟨w.heap.size, 0, none⟩ = some (.slice A l.length c) ∧ Below w.heap.size w wr) (fun i _ => n - (intOf i).toNat)
    case atStart => exact ⟨0, by omega, rfl, hown, hk2, hbw2⟩
    case round =>
      clear hown hk2 hbw2
      obtain ⟨k, hk1, rfl, hown, hk2, hbw2⟩ := hrel
      by_cases hk : k < n
      · have hkl := HW.out k hk
        obtain ⟨b, o, rfl, _, hb, hc⟩ := HC.out (k / 8) hkl
        have hx := (hbw2.cell (p := ⟨b, o + k / 8, none⟩) hb).trans (hc (k / 8) hkl)
        rw [← HV.out (k / 8)] at hx
        have hstep := hown.cellAt k (by omega)
        rw [fillTo_at8 _ _ _ _ hk] at hstep
        have hfz := hown.frozenAt k
        have HF := Lib.hid (own_fill8 hown (Below.refl _ _))
        have HBk := Lib.hid (HB.out k)
        clear hc hown
        have hbyte : ((wd N (k / 8) : Nat) : Int) / 2 ^ (8 * (k % 8)) % 256 = (((N >>> (8 * k)) % 256 : Nat) : Int) := by rw [← HBk.out]; simp
        have HBY := Lib.hid hbyte
        clear hbyte
        go_wp2
        rw [HBY.out]
        exact ⟨⟨k + 1, hk, by go_num, HF.out, (World.cell?_setCell_other _ _ _ _ (fun e => by injection e with e; omega)).trans hk2, hbw2.setCell (by simp; omega) _⟩, by simp [intOf]; omega⟩
      · obtain rfl : n = k := by omega
        rw [fillTo_full] at hown
        have HO := Lib.hid (Sl.of_own hown)
        clear hown
        go_wp2
        go_ret
        rw [HS.out]
        exact Ret.mk (by simpa using HO.out.imp fun b hb _ => by omega) hbw2
end Go.Proofs.YtenpkgdnlogfiaaDoor
