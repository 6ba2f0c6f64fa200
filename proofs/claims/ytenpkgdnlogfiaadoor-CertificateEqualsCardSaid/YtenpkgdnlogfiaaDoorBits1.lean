/-
  What the functions of package bits that make no new set compute: word, Has, Empty, Meets, Within, Equal.
-/
import Derived.Test.YtenpkgdnlogfiaaDoorMem
import Derived.Test.YtenpkgdnlogfiaaDoorProg
import Derived.WalkLawsBesides
import Derived.WalkSpells
import Derived.Outline
import Derived.Deep.QuietTactic
import Derived.BigQuiet
import Derived.Deep.LoopGhost
import Derived.Deep.DeepMust
namespace Go.Proofs.YtenpkgdnlogfiaaDoor
open Go.RowKit

theorem word_any (v : Value) (N : Nat) (k : Int) (w : World) (D : Nat → Prop) (hv : IsSet w D v N) (h0 : 0 ≤ k) :
    Calls Tryd.prog 66 #[v, .int .i64 k] w (Ret (fun u _ => u = .int .u64 (wd N k.toNat)) w) := by
  obtain ⟨u, l, rfl, hl, rfl, hlen, A, c, rfl, hc1, hc2, hcell⟩ := hv
  obtain ⟨k, rfl⟩ := Int.eq_ofNat_of_zero_le h0
  have hw := wd_val hl.1 k
  simp only [Int.toNat_natCast]
  have hl64 := hl.2.2
  unfold maxLen at hc2
  by_cases hk : k < l.length
  · obtain ⟨b, o, rfl, _, hb, hx⟩ := hcell (by omega)
    have hc3 : (w.alloc (.cells #[.slice (some ⟨b, o, none⟩) l.length c] 53)).cell? ⟨b, o + k, none⟩ = some (.int .u64 (wd (val l) k)) := by
      rw [World.cell?_alloc_lt _ _ _ hb, hw]
      exact hx k _ (u64s_at l k hk)
    clear hcell hx hw hlen hl
    go_enter Tryd.func66, Tryd.ntmps66
    go_wp2
    go_ret
    exact Ret.mk rfl ((Below.refl _ _).alloc (Nat.le_refl _) _)
  · have hz : wd (val l) k = 0 := wd_ge hl.1 (by omega)
    rw [hz]
    clear hcell hw hlen hl hz
    go_enter Tryd.func66, Tryd.ntmps66
    go_wp2
    go_ret
    exact Ret.mk rfl ((Below.refl _ _).alloc (Nat.le_refl _) _)

theorem empty_any (v : Value) (N : Nat) (w : World) (D : Nat → Prop) (hv : IsSet w D v N) :
    Calls Tryd.prog 75 #[v] w (Ret (fun u _ => u = .bool (N == 0)) w) := by
  obtain ⟨u, l, rfl, hl, rfl, hlen, A, c, rfl, hc1, hc2, hcell⟩ := hv
  rw [empty_calc hl]
  clear hcell hlen hl
  go_enter Tryd.func75, Tryd.ntmps75
  go_wp2
  go_ret
  exact Ret.mk rfl ((Below.refl _ _).alloc (Nat.le_refl _) _)

theorem has_any (v : Value) (N : Nat) (i : Int) (w : World) (D : Nat → Prop) (hv : IsSet w D v N) :
    Calls Tryd.prog 65 #[v, .int .i64 i] w (Ret (fun u _ => u = .bool (hasB N i)) w) := by
  have hN : N < 2 ^ 4096 := hv.bound
  have hv0 := hv
  obtain ⟨u, l, rfl, _, _, _, A, c, rfl, _, _, _⟩ := hv0
  by_cases h0 : 0 ≤ i
  · by_cases h1 : i ≤ 4095
    · clear hN
      have HC := Lib.hid (has_calc N i h0)
      go_enter Tryd.func65, Tryd.ntmps65
      go_wp2_with fail
      refine (word_any _ N _ _ D (hv.alloc _) (by omega)).mono ?_
      rintro e w1 ⟨u, rfl, rfl, hb⟩
      go_wp2_with fail
      rw [HC.out]
      go_ret
      exact Ret.mk rfl (((Below.refl _ _).alloc (Nat.le_refl _) _).trans (hb.mono (by simp)))
    · rw [has_big N i hN h1]
      clear hN
      go_enter Tryd.func65, Tryd.ntmps65
      go_wp2
      go_ret
      exact Ret.mk rfl ((Below.refl _ _).alloc (Nat.le_refl _) _)
  · rw [has_neg N i h0]
    clear hN
    go_enter Tryd.func65, Tryd.ntmps65
    go_wp2
    go_ret
    exact Ret.mk rfl ((Below.refl _ _).alloc (Nat.le_refl _) _)

theorem meets_any (v u : Value) (M N : Nat) (w : World) (D E : Nat → Prop) (hv : IsSet w D v M) (hu : IsSet w E u N) :
    Calls Tryd.prog 67 #[v, u] w (Ret (fun x _ => x = .bool (M &&& N != 0)) w) := by
  obtain ⟨A, ca, a, rfl, ha, rfl, _, _, hsa⟩ := hv.parts
  obtain ⟨A', cb, b, rfl, hb, rfl, _, _, hsb⟩ := hu.parts
  have hn1 := ha.2.2
  have hn2 := hb.2.2
  have hyes : ∀ k, _ := fun k => @meets_yes a b ha.1 hb.1 k
  have hno : ∀ k, _ := fun k => @meets_no a b ha.1 hb.1 k
  have hand : ∀ k, _ := fun k => and64 (ha.1.getD k) (hb.1.getD k)
  have HY := Lib.hid hyes
  have HN := Lib.hid hno
  have HA := Lib.hid hand
  clear hyes hno hand ha hb hv hu
  generalize (val a &&& val b != 0) = res at *
  rcases Nat.lt_or_ge b.length a.length with hlt | hlt
  all_goals
    go_enter Tryd.func67, Tryd.ntmps67
    go_wp2
    have hW1 : ((w.alloc (Obj.cells #[Value.slice A a.length ca] 53)).alloc (Obj.cells #[Value.slice A' b.length cb] 53)).cell? ⟨w.heap.size, 0, none⟩ = some (.slice A a.length ca) := by go_simp
    have hW2 : ((w.alloc (Obj.cells #[Value.slice A a.length ca] 53)).alloc (Obj.cells #[Value.slice A' b.length cb] 53)).cell? ⟨w.heap.size + 1, 0, none⟩ = some (.slice A' b.length cb) := by go_simp
    have hsa' := (hsa.alloc (Obj.cells #[Value.slice A a.length ca] 53)).alloc (Obj.cells #[Value.slice A' b.length cb] 53)
    have hsb' := (hsb.alloc (Obj.cells #[Value.slice A a.length ca] 53)).alloc (Obj.cells #[Value.slice A' b.length cb] 53)
    have hbel := ((Below.refl w.heap.size w).alloc (Nat.le_refl _) (Obj.cells #[Value.slice A a.length ca] 53)).alloc (by simp) (Obj.cells #[Value.slice A' b.length cb] 53)
    generalize ((w.alloc (Obj.cells #[Value.slice A a.length ca] 53)).alloc (Obj.cells #[Value.slice A' b.length cb] 53)) = W at *
    clear hsa hsb
    go_loopw [13] (fun i wr => ∃ k m : Nat, k ≤ a.length ∧ k ≤ b.length ∧ i = .int .i64 k ∧ wr = W.drewN m ∧ Hid (∀ j, j < k → a.getD j 0 &&& b.getD j 0 = 0)) (fun i _ => 64 - (intOf i).toNat)
    case atStart => exact ⟨0, 0, by omega, by omega, rfl, rfl, fun j hj => absurd hj (by omega)⟩
    case round =>
      obtain ⟨k, m, hk1, hk2, rfl, rfl, hz⟩ := hrel
      by_cases hk : k < a.length ∧ k < b.length
      · obtain ⟨hka, hkb⟩ := hk
        obtain ⟨b1, o1, rfl, _, hb1, hc1⟩ := hsa'.word hka
        obtain ⟨b2, o2, rfl, _, hb2, hc2⟩ := hsb'.word hkb
        have hx := hc1 k hka
        have hy := hc2 k hkb
        have hq := HA.out k
        have hY := HY.out k
        clear hc1 hc2 hsa' hsb'
        have hz' : a.getD k 0 &&& b.getD k 0 = 0 → ∀ j, j < k + 1 → a.getD j 0 &&& b.getD j 0 = 0 := by
          intro h0 j hj
          rcases Nat.lt_or_ge j k with h | h
          · exact hz.out j h
          · obtain rfl : j = k := by omega
            omega
        have HZ := Lib.hid hz'
        have HYk := Lib.hid hY
        clear hz' hY hz
        generalize hxe : a.getD k 0 = x at *
        generalize hye : b.getD k 0 = y at *
        clear hxe hye
        go_wp2
        go_quiet (fail)
        go_wp2
        · have h1 := bne_cast (by assumption : ((x &&& y : Nat) : Int) != 0) 
          rw [HYk.out h1]
          go_ret
          exact Ret.mk rfl (bel_drewN (bel_drewN hbel _) _)
        · have h1 := beq_cast (by assumption : (((x &&& y : Nat) : Int) != 0) = false)
          exact ⟨⟨k + 1, m + nq, hka, hkb, by go_num, rfl, HZ.out h1⟩, by simp [intOf]; omega⟩
      · have HR := Lib.hid (HN.out k hz.out (by omega))
        go_wp2
        rw [HR.out]
        go_ret
        exact Ret.mk rfl (bel_drewN hbel _)

theorem within_any (v u : Value) (M N : Nat) (w : World) (D E : Nat → Prop) (hv : IsSet w D v M) (hu : IsSet w E u N) :
    Calls Tryd.prog 37 #[v, u] w (Ret (fun x _ => x = .bool (M &&& N == M)) w) := by
  obtain ⟨A, ca, a, rfl, ha, rfl, _, _, hsa⟩ := hv.parts
  obtain ⟨A', cb, b, rfl, hb, hN, _, _, hsb⟩ := hu.parts
  have hn1 := ha.2.2
  have hno : ∀ k, _ := fun k => @within_no a b ha.1 hb.1 k
  have hyes : ∀ k, _ := fun k => @within_yes a b ha.1 hb.1 k
  have hand : ∀ k, _ := fun k => andNot64 (ha.1.getD k) (hb.1.getD k)
  have hwd : ∀ k, wd N k = b.getD k 0 := fun k => by rw [hN]; exact wd_val hb.1 k
  have HY := Lib.hid hyes
  have HN := Lib.hid hno
  have HA := Lib.hid hand
  have HW := Lib.hid hwd
  rw [← hN] at HY HN
  clear hyes hno hand ha hb hv hN hwd
  generalize (val a &&& N == val a) = res at *
  go_enter Tryd.func37, Tryd.ntmps37
  go_wp2
  have hW2 : ((w.alloc (Obj.cells #[Value.slice A a.length ca] 53)).alloc (Obj.cells #[Value.slice A' b.length cb] 53)).cell? ⟨w.heap.size + 1, 0, none⟩ = some (.slice A' b.length cb) := by go_simp
  have hsa' := (hsa.alloc (Obj.cells #[Value.slice A a.length ca] 53)).alloc (Obj.cells #[Value.slice A' b.length cb] 53)
  have hu' := (hu.alloc (Obj.cells #[Value.slice A a.length ca] 53)).alloc (Obj.cells #[Value.slice A' b.length cb] 53)
  have hsz : w.heap.size + 1 < ((w.alloc (Obj.cells #[Value.slice A a.length ca] 53)).alloc (Obj.cells #[Value.slice A' b.length cb] 53)).heap.size := by simp
  have hbel := ((Below.refl w.heap.size w).alloc (Nat.le_refl _) (Obj.cells #[Value.slice A a.length ca] 53)).alloc (by simp) (Obj.cells #[Value.slice A' b.length cb] 53)
  generalize ((w.alloc (Obj.cells #[Value.slice A a.length ca] 53)).alloc (Obj.cells #[Value.slice A' b.length cb] 53)) = W at *
  clear hsa hsb hu
  go_loopw [10] (fun i wr => ∃ k : Nat, k ≤ a.length ∧ i = .int .i64 k ∧ Below W.heap.size W wr ∧ Hid (∀ j, j < k → a.getD j 0 &&& not64 (b.getD j 0) = 0)) (fun i _ => 64 - (intOf i).toNat)
  case atStart => exact ⟨0, by omega, rfl, Below.refl _ _, fun j hj => absurd hj (by omega)⟩
  case round =>
    obtain ⟨k, hk1, rfl, hbr, hz⟩ := hrel
    have hW2' := (hbr.cell (p := ⟨w.heap.size + 1, 0, none⟩) hsz).trans hW2
    have hu'' := hu'.ext hbr
    by_cases hk : k < a.length
    · obtain ⟨b1, o1, rfl, _, hb1, hc1⟩ := hsa'.word hk
      have hx := (hbr.cell (p := ⟨b1, o1 + k, none⟩) hb1).trans (hc1 k hk)
      have hq := HA.out k
      rw [← HW.out k] at hq
      have hY := HN.out k
      have hz' : a.getD k 0 &&& not64 (b.getD k 0) = 0 → ∀ j, j < k + 1 → a.getD j 0 &&& not64 (b.getD j 0) = 0 := by
        intro h0 j hj
        rcases Nat.lt_or_ge j k with h | h
        · exact hz.out j h
        · obtain rfl : j = k := by omega
          omega
      rw [← HW.out k] at hz' hY
      have HZ := Lib.hid hz'
      have HYk := Lib.hid hY
      have HQ := Lib.hid hq
      clear hc1 hsa' hz' hY hz hq
      generalize hxe : a.getD k 0 = x at *
      clear hxe
      go_wp2_with fail
      refine (word_any _ N _ _ E hu'' (by omega)).mono ?_
      rintro e w1 ⟨_, rfl, rfl, hb3⟩
      have hq := HQ.out
      simp only [Int.toNat_natCast]
      go_wp2_with fail
      · have h1 := bne_cast (by assumption)
        rw [HYk.out h1]
        go_ret
        exact Ret.mk rfl (hbel.trans ((hbr.mono (by omega)).trans (hb3.mono (by have := hbr.size; omega))))
      · have h1 := beq_cast (by assumption)
        exact ⟨⟨k + 1, hk, by go_num, hbr.trans (hb3.mono hbr.size), HZ.out h1⟩, by simp [intOf]; omega⟩
    · have HR := Lib.hid (HY.out k hz.out (by omega))
      go_wp2
      rw [HR.out]
      go_ret
      exact Ret.mk rfl (hbel.trans (hbr.mono (by omega)))
end Go.Proofs.YtenpkgdnlogfiaaDoor
