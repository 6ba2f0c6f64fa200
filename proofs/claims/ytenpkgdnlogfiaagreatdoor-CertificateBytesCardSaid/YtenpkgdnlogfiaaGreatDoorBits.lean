/-
  What the functions of package bits that make no new set compute: word, Has, Empty, Meets, Within, Equal.
  What the functions of package bits compute that make sets: Equal, trim, Or.
  What bits.trim, Below, Without and Of compute.
  What (bits.Set).Without and bits.Of compute.
  What bits.Of computes: the set of some numbers.
-/
import Derived.Test.YtenpkgdnlogfiaaGreatDoorMem
import Derived.Test.YtenpkgdnlogfiaaGreatDoorProg
import Derived.WalkLawsBesides
import Derived.WalkSpells
import Derived.Outline
import Derived.Deep.QuietTactic
import Derived.BigQuiet
import Derived.Deep.LoopGhost
import Derived.Deep.DeepMust
import Derived.Deep.RegionHeld3
import Derived.Deep.DrawnRows
import Derived.Deep.AppendLies
import Derived.BigRegion
namespace Go.Proofs.YtenpkgdnlogfiaaGreatDoor
open Go.RowKit

theorem word_any (v : Value) (N : Nat) (k : Int) (w : World) (D : Nat → Prop) (hv : IsSet w D v N) (h0 : 0 ≤ k) :
    Calls Tryz.prog 81 #[v, .int .i64 k] w (Ret (fun u _ => u = .int .u64 (wd N k.toNat)) w) := by
  obtain ⟨u, l, rfl, hl, rfl, hlen, A, c, rfl, hc1, hc2, hcell⟩ := hv
  obtain ⟨k, rfl⟩ := Int.eq_ofNat_of_zero_le h0
  have hw := wd_val hl.1 k
  simp only [Int.toNat_natCast]
  have hl64 := hl.2.2
  unfold maxLen at hc2
  by_cases hk : k < l.length
  · obtain ⟨b, o, rfl, _, hb, hx⟩ := hcell (by omega)
    have hc3 : (w.alloc (.cells #[.slice (some ⟨b, o, none⟩) l.length c] 51)).cell? ⟨b, o + k, none⟩ = some (.int .u64 (wd (val l) k)) := by
      rw [World.cell?_alloc_lt _ _ _ hb, hw]
      exact hx k _ (u64s_at l k hk)
    clear hcell hx hw hlen hl
    go_enter Tryz.func81, Tryz.ntmps81
    go_wp2
    go_ret
    exact Ret.mk rfl ((Below.refl _ _).alloc (Nat.le_refl _) _)
  · have hz : wd (val l) k = 0 := wd_ge hl.1 (by omega)
    rw [hz]
    clear hcell hw hlen hl hz
    go_enter Tryz.func81, Tryz.ntmps81
    go_wp2
    go_ret
    exact Ret.mk rfl ((Below.refl _ _).alloc (Nat.le_refl _) _)

theorem empty_any (v : Value) (N : Nat) (w : World) (D : Nat → Prop) (hv : IsSet w D v N) :
    Calls Tryz.prog 90 #[v] w (Ret (fun u _ => u = .bool (N == 0)) w) := by
  obtain ⟨u, l, rfl, hl, rfl, hlen, A, c, rfl, hc1, hc2, hcell⟩ := hv
  rw [empty_calc hl]
  clear hcell hlen hl
  go_enter Tryz.func90, Tryz.ntmps90
  go_wp2
  go_ret
  exact Ret.mk rfl ((Below.refl _ _).alloc (Nat.le_refl _) _)

theorem has_any (v : Value) (N : Nat) (i : Int) (w : World) (D : Nat → Prop) (hv : IsSet w D v N) :
    Calls Tryz.prog 80 #[v, .int .i64 i] w (Ret (fun u _ => u = .bool (hasB N i)) w) := by
  have hN : N < 2 ^ 4096 := hv.bound
  have hv0 := hv
  obtain ⟨u, l, rfl, _, _, _, A, c, rfl, _, _, _⟩ := hv0
  by_cases h0 : 0 ≤ i
  · by_cases h1 : i ≤ 4095
    · clear hN
      have HC := Lib.hid (has_calc N i h0)
      go_enter Tryz.func80, Tryz.ntmps80
      go_wp2_with fail
      refine (word_any _ N _ _ D (hv.alloc _) (by omega)).mono ?_
      rintro e w1 ⟨u, rfl, rfl, hb⟩
      go_wp2_with fail
      rw [HC.out]
      go_ret
      exact Ret.mk rfl (((Below.refl _ _).alloc (Nat.le_refl _) _).trans (hb.mono (by simp)))
    · rw [has_big N i hN h1]
      clear hN
      go_enter Tryz.func80, Tryz.ntmps80
      go_wp2
      go_ret
      exact Ret.mk rfl ((Below.refl _ _).alloc (Nat.le_refl _) _)
  · rw [has_neg N i h0]
    clear hN
    go_enter Tryz.func80, Tryz.ntmps80
    go_wp2
    go_ret
    exact Ret.mk rfl ((Below.refl _ _).alloc (Nat.le_refl _) _)

theorem meets_any (v u : Value) (M N : Nat) (w : World) (D E : Nat → Prop) (hv : IsSet w D v M) (hu : IsSet w E u N) :
    Calls Tryz.prog 82 #[v, u] w (Ret (fun x _ => x = .bool (M &&& N != 0)) w) := by
  obtain ⟨A, ca, a, rfl, ha, rfl, _, _, hsa⟩ := hv.parts
  obtain ⟨A', cb, b, rfl, hb, rfl, _, _, hsb⟩ := hu.parts
  have hn1 := ha.2.2
  have hn2 := hb.2.2
  have hyes : ∀ k, _ := fun k => @meets_yes a b ha.1 hb.1 k
  have hno : ∀ k, _ := fun k => @meets_no a b ha.1 hb.1 k
  have hand : ∀ k, _ := fun k => and64 (ha.1.getD k) (hb.1.getD k)
  have HY := Lib.hid hyes
  have HN := Lib.hid hno
  have HA := Lib.hid hand
  clear hyes hno hand ha hb hv hu
  generalize (val a &&& val b != 0) = res at *
  rcases Nat.lt_or_ge b.length a.length with hlt | hlt
  all_goals
    go_enter Tryz.func82, Tryz.ntmps82
    go_wp2
    have hW1 : ((w.alloc (Obj.cells #[Value.slice A a.length ca] 51)).alloc (Obj.cells #[Value.slice A' b.length cb] 51)).cell? ⟨w.heap.size, 0, none⟩ = some (.slice A a.length ca) := by go_simp
    have hW2 : ((w.alloc (Obj.cells #[Value.slice A a.length ca] 51)).alloc (Obj.cells #[Value.slice A' b.length cb] 51)).cell? ⟨w.heap.size + 1, 0, none⟩ = some (.slice A' b.length cb) := by go_simp
    have hsa' := (hsa.alloc (Obj.cells #[Value.slice A a.length ca] 51)).alloc (Obj.cells #[Value.slice A' b.length cb] 51)
    have hsb' := (hsb.alloc (Obj.cells #[Value.slice A a.length ca] 51)).alloc (Obj.cells #[Value.slice A' b.length cb] 51)
    have hbel := ((Below.refl w.heap.size w).alloc (Nat.le_refl _) (Obj.cells #[Value.slice A a.length ca] 51)).alloc (by simp) (Obj.cells #[Value.slice A' b.length cb] 51)
    generalize ((w.alloc (Obj.cells #[Value.slice A a.length ca] 51)).alloc (Obj.cells #[Value.slice A' b.length cb] 51)) = W at *
    clear hsa hsb
    go_loopw [13] (fun i wr => ∃ k m : Nat, k ≤ a.length ∧ k ≤ b.length ∧ i = .int .i64 k ∧ wr = W.drewN m ∧ Hid (∀ j, j < k → a.getD j 0 &&& b.getD j 0 = 0)) (fun i _ => 64 - (intOf i).toNat)
    case atStart => exact ⟨0, 0, by omega, by omega, rfl, rfl, fun j hj => absurd hj (by omega)⟩
    case round =>
      obtain ⟨k, m, hk1, hk2, rfl, rfl, hz⟩ := hrel
      by_cases hk : k < a.length ∧ k < b.length
      · obtain ⟨hka, hkb⟩ := hk
        obtain ⟨b1, o1, rfl, _, hb1, hc1⟩ := hsa'.word hka
        obtain ⟨b2, o2, rfl, _, hb2, hc2⟩ := hsb'.word hkb
        have hx := hc1 k hka
        have hy := hc2 k hkb
        have hq := HA.out k
        have hY := HY.out k
        clear hc1 hc2 hsa' hsb'
        have hz' : a.getD k 0 &&& b.getD k 0 = 0 → ∀ j, j < k + 1 → a.getD j 0 &&& b.getD j 0 = 0 := by
          intro h0 j hj
          rcases Nat.lt_or_ge j k with h | h
          · exact hz.out j h
          · obtain rfl : j = k := by omega
            omega
        have HZ := Lib.hid hz'
        have HYk := Lib.hid hY
        clear hz' hY hz
        generalize hxe : a.getD k 0 = x at *
        generalize hye : b.getD k 0 = y at *
        clear hxe hye
        go_wp2
        go_quiet (fail)
        go_wp2
        · have h1 := bne_cast (by assumption : ((x &&& y : Nat) : Int) != 0) 
          rw [HYk.out h1]
          go_ret
          exact Ret.mk rfl (bel_drewN (bel_drewN hbel _) _)
        · have h1 := beq_cast (by assumption : (((x &&& y : Nat) : Int) != 0) = false)
          exact ⟨⟨k + 1, m + nq, hka, hkb, by go_num, rfl, HZ.out h1⟩, by simp [intOf]; omega⟩
      · have HR := Lib.hid (HN.out k hz.out (by omega))
        go_wp2
        rw [HR.out]
        go_ret
        exact Ret.mk rfl (bel_drewN hbel _)

theorem within_any (v u : Value) (M N : Nat) (w : World) (D E : Nat → Prop) (hv : IsSet w D v M) (hu : IsSet w E u N) :
    Calls Tryz.prog 53 #[v, u] w (Ret (fun x _ => x = .bool (M &&& N == M)) w) := by
  obtain ⟨A, ca, a, rfl, ha, rfl, _, _, hsa⟩ := hv.parts
  obtain ⟨A', cb, b, rfl, hb, hN, _, _, hsb⟩ := hu.parts
  have hn1 := ha.2.2
  have hno : ∀ k, _ := fun k => @within_no a b ha.1 hb.1 k
  have hyes : ∀ k, _ := fun k => @within_yes a b ha.1 hb.1 k
  have hand : ∀ k, _ := fun k => andNot64 (ha.1.getD k) (hb.1.getD k)
  have hwd : ∀ k, wd N k = b.getD k 0 := fun k => by rw [hN]; exact wd_val hb.1 k
  have HY := Lib.hid hyes
  have HN := Lib.hid hno
  have HA := Lib.hid hand
  have HW := Lib.hid hwd
  rw [← hN] at HY HN
  clear hyes hno hand ha hb hv hN hwd
  generalize (val a &&& N == val a) = res at *
  go_enter Tryz.func53, Tryz.ntmps53
  go_wp2
  have hW2 : ((w.alloc (Obj.cells #[Value.slice A a.length ca] 51)).alloc (Obj.cells #[Value.slice A' b.length cb] 51)).cell? ⟨w.heap.size + 1, 0, none⟩ = some (.slice A' b.length cb) := by go_simp
  have hsa' := (hsa.alloc (Obj.cells #[Value.slice A a.length ca] 51)).alloc (Obj.cells #[Value.slice A' b.length cb] 51)
  have hu' := (hu.alloc (Obj.cells #[Value.slice A a.length ca] 51)).alloc (Obj.cells #[Value.slice A' b.length cb] 51)
  have hsz : w.heap.size + 1 < ((w.alloc (Obj.cells #[Value.slice A a.length ca] 51)).alloc (Obj.cells #[Value.slice A' b.length cb] 51)).heap.size := by simp
  have hbel := ((Below.refl w.heap.size w).alloc (Nat.le_refl _) (Obj.cells #[Value.slice A a.length ca] 51)).alloc (by simp) (Obj.cells #[Value.slice A' b.length cb] 51)
  generalize ((w.alloc (Obj.cells #[Value.slice A a.length ca] 51)).alloc (Obj.cells #[Value.slice A' b.length cb] 51)) = W at *
  clear hsa hsb hu
  go_loopw [10] (fun i wr => ∃ k : Nat, k ≤ a.length ∧ i = .int .i64 k ∧ Below W.heap.size W wr ∧ Hid (∀ j, j < k → a.getD j 0 &&& not64 (b.getD j 0) = 0)) (fun i _ => 64 - (intOf i).toNat)
  case atStart => exact ⟨0, by omega, rfl, Below.refl _ _, fun j hj => absurd hj (by omega)⟩
  case round =>
    obtain ⟨k, hk1, rfl, hbr, hz⟩ := hrel
    have hW2' := (hbr.cell (p := ⟨w.heap.size + 1, 0, none⟩) hsz).trans hW2
    have hu'' := hu'.ext hbr
    by_cases hk : k < a.length
    · obtain ⟨b1, o1, rfl, _, hb1, hc1⟩ := hsa'.word hk
      have hx := (hbr.cell (p := ⟨b1, o1 + k, none⟩) hb1).trans (hc1 k hk)
      have hq := HA.out k
      rw [← HW.out k] at hq
      have hY := HN.out k
      have hz' : a.getD k 0 &&& not64 (b.getD k 0) = 0 → ∀ j, j < k + 1 → a.getD j 0 &&& not64 (b.getD j 0) = 0 := by
        intro h0 j hj
        rcases Nat.lt_or_ge j k with h | h
        · exact hz.out j h
        · obtain rfl : j = k := by omega
          omega
      rw [← HW.out k] at hz' hY
      have HZ := Lib.hid hz'
      have HYk := Lib.hid hY
      have HQ := Lib.hid hq
      clear hc1 hsa' hz' hY hz hq
      generalize hxe : a.getD k 0 = x at *
      clear hxe
      go_wp2_with fail
      refine (word_any _ N _ _ E hu'' (by omega)).mono ?_
      rintro e w1 ⟨_, rfl, rfl, hb3⟩
      have hq := HQ.out
      simp only [Int.toNat_natCast]
      go_wp2_with fail
      · have h1 := bne_cast (by assumption)
        rw [HYk.out h1]
        go_ret
        exact Ret.mk rfl (hbel.trans ((hbr.mono (by omega)).trans (hb3.mono (by have := hbr.size; omega))))
      · have h1 := beq_cast (by assumption)
        exact ⟨⟨k + 1, hk, by go_num, hbr.trans (hb3.mono hbr.size), HZ.out h1⟩, by simp [intOf]; omega⟩
    · have HR := Lib.hid (HY.out k hz.out (by omega))
      go_wp2
      rw [HR.out]
      go_ret
      exact Ret.mk rfl (hbel.trans (hbr.mono (by omega)))
end Go.Proofs.YtenpkgdnlogfiaaGreatDoor
namespace Go.Proofs.YtenpkgdnlogfiaaGreatDoor
open Go.RowKit
attribute [local go_sem ↓] Go.wp_at_zero Go.wp_at_succ

theorem equal_any (v u : Value) (M N : Nat) (w : World) (D E : Nat → Prop) (hv : IsSet w D v M) (hu : IsSet w E u N) :
    Calls Tryz.prog 74 #[v, u] w (Ret (fun x _ => x = .bool (M == N)) w) := by
  obtain ⟨A, ca, a, rfl, ha, rfl, _, _, hsa⟩ := hv.parts
  obtain ⟨A', cb, b, rfl, hb, rfl, _, _, hsb⟩ := hu.parts
  have hn1 := ha.2.2
  have hn2 := hb.2.2
  have hno : ∀ k, _ := fun k => @equal_no a b ha hb k
  have hnl := @equal_no_len a b ha hb
  have hyes := @equal_yes a b
  have HY := Lib.hid hyes
  have HN := Lib.hid hno
  have HL := Lib.hid hnl
  clear hyes hno hnl ha hb hv hu
  generalize (val a == val b) = res at *
  by_cases hlen : a.length = b.length
  · have hq : ((a.length : Int) != b.length) = false := by simp [hlen]
    have hlen' : a.length ≤ b.length ∧ b.length ≤ a.length := by omega
    have HQ := Lib.hid hlen
    clear hlen
    obtain ⟨hl1, hl2⟩ := hlen'
    go_enter Tryz.func74, Tryz.ntmps74
    go_wp2
    have hW2 : ((w.alloc (Obj.cells #[Value.slice A a.length ca] 51)).alloc (Obj.cells #[Value.slice A' b.length cb] 51)).cell? ⟨w.heap.size + 1, 0, none⟩ = some (.slice A' b.length cb) := by go_simp
    have hsa' := (hsa.alloc (Obj.cells #[Value.slice A a.length ca] 51)).alloc (Obj.cells #[Value.slice A' b.length cb] 51)
    have hsb' := (hsb.alloc (Obj.cells #[Value.slice A a.length ca] 51)).alloc (Obj.cells #[Value.slice A' b.length cb] 51)
    have hbel := ((Below.refl w.heap.size w).alloc (Nat.le_refl _) (Obj.cells #[Value.slice A a.length ca] 51)).alloc (by simp) (Obj.cells #[Value.slice A' b.length cb] 51)
    generalize ((w.alloc (Obj.cells #[Value.slice A a.length ca] 51)).alloc (Obj.cells #[Value.slice A' b.length cb] 51)) = W at *
    clear hsa hsb
    go_loop [17] (fun i => ∃ k : Nat, k ≤ a.length ∧ i = .int .i64 k ∧ Hid (∀ j, j < k → a.getD j 0 = b.getD j 0)) (fun i => 64 - (intOf i).toNat)
    case atStart => exact ⟨0, by omega, rfl, fun j hj => absurd hj (by omega)⟩
    case round =>
      obtain ⟨k, hk1, rfl, hz⟩ := hrel
      by_cases hk : k < a.length
      · obtain ⟨b1, o1, rfl, _, hb1, hc1⟩ := hsa'.word hk
        obtain ⟨b2, o2, rfl, _, hb2, hc2⟩ := hsb'.word (by omega : k < b.length)
        have hx := hc1 k hk
        have hy := hc2 k (by omega)
        have HYk := Lib.hid (HN.out k)
        have HZ := Lib.hid (show a.getD k 0 = b.getD k 0 → ∀ j, j < k + 1 → a.getD j 0 = b.getD j 0 from fun h0 j hj => by
          rcases Nat.lt_or_ge j k with h | h
          · exact hz.out j h
          · obtain rfl : j = k := by omega
            exact h0)
        clear hc1 hc2 hsa' hsb' hz
        generalize hxe : a.getD k 0 = x at *
        generalize hye : b.getD k 0 = y at *
        clear hxe hye
        by_cases hxy : x = y
        · have h0 : ((x : Int) != y) = false := by simp [hxy]
          have HX := Lib.hid (HZ.out hxy)
          clear hxy HZ HYk
          go_wp2
          go_round
          case rel => exact ⟨k + 1, hk, by go_num, HX.out⟩
          case measure => simp [intOf]; omega
        · have h0 : ((x : Int) != y) = true := by simp; omega
          have HR := Lib.hid (HYk.out hxy)
          clear hxy
          go_wp2
          rw [HR.out]
          go_ret
          exact Ret.mk rfl hbel
      · have HR := Lib.hid (HY.out HQ.out (fun j hj => hz.out j (by omega)))
        go_wp2
        rw [HR.out]
        go_ret
        exact Ret.mk rfl hbel
  · have hq : ((a.length : Int) != b.length) = true := by simp; omega
    have HR := Lib.hid (HL.out hlen)
    clear hlen
    go_enter Tryz.func74, Tryz.ntmps74
    go_wp2
    rw [HR.out]
    go_ret
    exact Ret.mk rfl (((Below.refl w.heap.size w).alloc (Nat.le_refl _) _).alloc (by simp) _)

theorem info_u64 : (Tryz.prog.info? 58).map (fun i => (i.zero, i.size, i.bytes)) = some (some (.int .u64 0), 1, 8) := by kernel_rfl

theorem or_any (v u : Value) (M N : Nat) (w : World) (D E : Nat → Prop) (hv : IsSet w D v M) (hu : IsSet w E u N) :
    Calls Tryz.prog 52 #[v, u] w (Ret (fun x w' => IsSet w' (w.heap.size ≤ ·) x (M ||| N)) w) := by
  obtain ⟨A, ca, a, rfl, ha, hM, _, _, hsa⟩ := hv.parts
  obtain ⟨A', cb, b, rfl, hb, hN, _, _, hsb⟩ := hu.parts
  have hn1 := ha.2.2
  have hn2 := hb.2.2
  obtain ⟨n, hn⟩ : ∃ n, n = max a.length b.length := ⟨_, rfl⟩
  have hn64 : n ≤ 64 := by omega
  obtain ⟨i0, hi, hz0, hz1, hz2⟩ := info_parts info_u64
  have HM := Lib.hid hM
  have HN := Lib.hid hN
  have HA := Lib.hid ha
  have HB := Lib.hid hb
  have Hn := Lib.hid hn
  have hnb : a.length ≤ n ∧ b.length ≤ n ∧ (n ≤ a.length ∨ n ≤ b.length) := by omega
  obtain ⟨hna, hnb, hnc⟩ := hnb
  clear hM hN ha hb hsa hsb hn
  rcases Nat.lt_or_ge a.length b.length with hlt | hlt
  all_goals
    go_enter Tryz.func52, Tryz.ntmps52
    go_wp2_with (at_make; refine wpList_make_full _ rfl _ _ 49 rfl (w.heap.size + 3) 58 i0 (.int .u64 0) 1 Tryz.underlying49 hi hz0 hz1 _ _ _ _ n rfl rfl (by omega) (by omega) (by rw [hz2]; omega) (by unfold maxLen; omega) (by simp) ?_; intro w1 hown hgrow)
    have hbw := ((((Below.refl w.heap.size w).alloc (Nat.le_refl _) (Obj.cells #[Value.slice A a.length ca] 51)).alloc (by simp) (Obj.cells #[Value.slice A' b.length cb] 51)).alloc (by simp; omega) (Obj.cells #[Value.slice none 0 0] 51)).grown hgrow (by simp; omega) (by simp)
    have hc2 : w1.cell? ⟨w.heap.size, 0, none⟩ = some (.slice A a.length ca) := hgrow.cell (by go_simp) (by simp)
    have hc3 : w1.cell? ⟨w.heap.size + 1, 0, none⟩ = some (.slice A' b.length cb) := hgrow.cell (by go_simp) (by simp)
    have hc4 : w1.cell? ⟨w.heap.size + 1 + 1, 0, none⟩ = some (.slice none 0 0) := hgrow.cell (by go_simp) (by simp)
    have hf4 : w1.frozen? ⟨w.heap.size + 1 + 1, 0, none⟩ = false := (World.frozen?_of_block (hgrow.block _ (by simp) (by simp))).trans (by go_simp)
    have hsz : w.heap.size + 3 ≤ w1.heap.size := by have := hgrow.size; simp at this; omega
    rw [Nat.mul_one, show (Value.int .u64 0).cells = #[Value.int .u64 0] from rfl, madeCells_u64, ← fillTo_zero (fun j => wd M j ||| wd N j)] at hown
    simp only [World.size_alloc] at hown
    clear hgrow
    go_loopw [17] (fun i wr => ∃ k : Nat, k ≤ n ∧ i = .int .i64 k ∧ wr.ownsRow (w.heap.size + 3) 58 1 (.slice (some ⟨w.heap.size + 1 + 1 + 1, 0, none⟩) n n) n (u64s (fillTo (fun j => wd M j ||| wd N j) k n)) ∧
      wr.cell? ⟨w.heap.size, 0, none⟩ = some (.slice A a.length ca) ∧ wr.cell? ⟨w.heap.size + 1, 0, none⟩ = some (.slice A' b.length cb) ∧ wr.cell? ⟨w.heap.size + 1 + 1, 0, none⟩ = some (.slice none 0 0) ∧ wr.frozen? ⟨w.heap.size + 1 + 1, 0, none⟩ = false ∧
      w.heap.size + 3 ≤ wr.heap.size ∧ Below w.heap.size w wr) (fun i _ => n - (intOf i).toNat)
    case atStart => exact ⟨0, by omega, rfl, hown, hc2, hc3, hc4, hf4, hsz, hbw⟩
    case round =>
      clear hown hc2 hc3 hc4 hf4 hsz hbw
      obtain ⟨k, hk1, rfl, hown, hc2, hc3, hc4, hf4, hsz, hbw⟩ := hrel
      by_cases hk : k < n
      · have hvr := (hv.ext hbw).drew
        have hur := (hu.ext hbw).drew
        have hstep := hown.cellAt k (by omega)
        rw [fillTo_at _ _ _ _ hk] at hstep
        have hlt3 : w.heap.size + 1 + 1 + 1 < wr.heap.size := (hown.lt _ rfl).2
        have hor := or64 (wd_lt M k) (wd_lt N k)
        go_wp2
        go_region_held3 (fun w' => w'.cell? ⟨w.heap.size, 0, none⟩ = some (.slice A a.length ca) ∧ w'.cell? ⟨w.heap.size + 1, 0, none⟩ = some (.slice A' b.length cb)) (first | go_keep | exact ⟨(World.cell?_setCell_other _ _ _ _ (by simp)).trans k2, (World.cell?_setCell_other _ _ _ _ (by simp)).trans k3⟩) (first
          | (go_simp; go_at_call 81; (with_reducible refine (word_any (.agg #[.slice A a.length ca]) M _ _ D hvr (by omega)).mono ?_); rintro e x1 ⟨_, rfl, rfl, hb1⟩; have k2 := (hb1.cell (p := ⟨w.heap.size, 0, none⟩) (by simp; omega)).trans hc2; have k3 := (hb1.cell (p := ⟨w.heap.size + 1, 0, none⟩) (by simp; omega)).trans hc3)
          | (go_simp; go_at_call 81; (with_reducible refine (word_any (.agg #[.slice A' b.length cb]) N _ _ E (hur.ext hb1) (by omega)).mono ?_); rintro e x2 ⟨_, rfl, rfl, hb2⟩; have hb := hb1.trans (hb2.mono hb1.size); have k2 := (hb.cell (p := ⟨w.heap.size, 0, none⟩) (by simp; omega)).trans hc2; have k3 := (hb.cell (p := ⟨w.heap.size + 1, 0, none⟩) (by simp; omega)).trans hc3; have k4 := (hb.cell (p := ⟨w.heap.size + 1 + 1 + 1, k, none⟩) (by simp; omega)).trans hstep; have k5 := (hb.frozen (p := ⟨w.heap.size + 1 + 1 + 1, k, none⟩) (by simp; omega)).trans (hown.frozenAt k); simp only [Int.toNat_natCast]))
        go_wp2
        have hb' := undrew hb
        refine ⟨⟨k + 1, hk, by go_num, own_fill hown hb', (World.cell?_setCell_other _ _ _ _ (by simp)).trans k2, (World.cell?_setCell_other _ _ _ _ (by simp)).trans k3, (World.cell?_setCell_other _ _ _ _ (by simp)).trans ((hb'.cell (by simp; omega)).trans hc4), ?_, ?_, ?_⟩, by simp [intOf]; omega⟩
        · rw [World.frozen?_setCell]; exact (hb'.frozen (by simp; omega)).trans hf4
        · have := hb'.size; simp; omega
        · exact (hbw.trans (hb'.mono (by omega))).setCell (by simp; omega) _
      · have HR := Lib.hid hown
        clear hown
        obtain rfl : n = k := by omega
        rw [fillTo_full] at HR
        go_wp2
        refine bodyPost_ret (v := .agg #[.slice (some ⟨w.heap.size + 1 + 1 + 1, 0, none⟩) n n]) (by simp [results, Tryz.results52, go_sem, hc4]) rfl ?_
        have hl := canon_or HA.out HB.out Hn.out
        rw [← HM.out, ← HN.out] at hl
        exact Ret.mk ((IsSet.of_range hl (ownsRow_setCell_below HR.out (by simp) _)).imp fun b hb _ => by omega) (hbw.setCell (by simp; omega) _)
end Go.Proofs.YtenpkgdnlogfiaaGreatDoor
namespace Go.Proofs.YtenpkgdnlogfiaaGreatDoor
open Go.RowKit
attribute [local go_sem ↓] Go.wp_at_zero Go.wp_at_succ

theorem Words.take {l : List Nat} (h : Words l) (k : Nat) : Words (l.take k) := fun x hx => h x (List.mem_of_mem_take hx)
theorem trim_canon {l : List Nat} {k : Nat} (h : Words l) (hl : l.length ≤ 64) (hk : k ≤ l.length) (hz : ∀ j, k ≤ j → l.getD j 0 = 0) (hlast : 0 < k → l.getD (k - 1) 0 ≠ 0) :
    Canon (l.take k) ∧ val (l.take k) = val l := by
  refine ⟨⟨h.take k, fun x hx => ?_, by simp; omega⟩, val_ext (h.take k) fun j => ?_⟩
  · rw [List.getLast?_take] at hx
    by_cases h0 : k = 0
    · simp [h0] at hx
    · have := hlast (by omega)
      rw [List.getD_eq_getElem?_getD] at this
      rw [if_neg h0] at hx
      rw [List.getElem?_eq_getElem (by omega)] at this hx
      simp at hx this
      omega
  · rw [wd_val h]
    by_cases hj : j < k
    · simp [List.getD_eq_getElem?_getD, List.getElem?_take, hj]
    · rw [hz j (by omega)]; simp [List.getD_eq_getElem?_getD, List.getElem?_take, hj]
theorem Sl.take {w : World} {D : Nat → Prop} {c n k : Nat} {A : Option Addr} {xs : List Value} (h : Sl w D 1 (.slice A n c) n xs) (hk : k ≤ n) : Sl w D 1 (.slice A k c) k (xs.take k) := by
  obtain ⟨h1, A', c', h2, h3, h4, h5⟩ := h
  injection h2 with e1 e2 e3
  subst e1 e3
  refine ⟨by simp; omega, A, c, rfl, by omega, h4, fun h0 => ?_⟩
  obtain ⟨b, o, h6, h7, h9, h8⟩ := h5 (by omega)
  exact ⟨b, o, h6, h7, h9, fun j x hj => h8 j x (by rw [List.getElem?_take] at hj; split at hj <;> simp_all)⟩

theorem trim_any (v : Value) (l : List Nat) (w : World) (D : Nat → Prop) (hl : Words l) (h64 : l.length ≤ 64) (hs : Sl w D 1 v l.length (u64s l)) :
    Calls Tryz.prog 42 #[v] w (Ret (fun x w' => IsSet w' D x (val l)) w) := by
  have hs0 := hs
  obtain ⟨_, A, c, rfl, hc1, hc2, _⟩ := hs0
  have HC := Lib.hid fun k => @trim_canon l k hl h64
  clear hl
  unfold maxLen at hc2
  go_enter Tryz.func42, Tryz.ntmps42
  go_wp2
  have hs' := hs.alloc (Obj.cells #[Value.slice none 0 0] 51)
  go_loop [0] (fun v => ∃ k : Nat, k ≤ l.length ∧ v = .slice A k c ∧ Hid (∀ j, k ≤ j → l.getD j 0 = 0)) (fun v => match v with | .slice _ n _ => n | _ => 0)
  case atStart => exact ⟨l.length, Nat.le_refl _, rfl, fun j hj => by rw [List.getD_eq_getElem?_getD, List.getElem?_eq_none hj]; rfl⟩
  case round =>
    obtain ⟨k, hk, rfl, hz⟩ := hrel
    by_cases hk0 : 0 < k
    · obtain ⟨b, o, rfl, _, hb, hc⟩ := hs'.word (k := k - 1) (by omega)
      have hx := hc (k - 1) (by omega)
      have HX := Lib.hid (show l.getD (k - 1) 0 = 0 → ∀ j, k - 1 ≤ j → l.getD j 0 = 0 from fun h0 j hj => by
        rcases Nat.lt_or_ge j k with h | h
        · obtain rfl : j = k - 1 := by omega
          exact h0
        · exact hz.out j h)
      have HK := Lib.hid (HC.out k hk hz.out)
      clear hc hz
      generalize l.getD (k - 1) 0 = x at *
      have hk1 : (k : Int) - 1 = ((k - 1 : Nat) : Int) := by omega
      obtain ⟨q, rfl⟩ : ∃ q, k = q + 1 := ⟨k - 1, by omega⟩
      simp only [Nat.add_sub_cancel] at *
      clear hk1
      by_cases h0 : x = 0
      · subst h0
        have HZ := Lib.hid (HX.out rfl)
        go_wp2
        exact ⟨⟨q, by omega, rfl, HZ.out⟩, by simp⟩
      · have h1 : ((x : Int) == 0) = false := by simp; omega
        have HF := Lib.hid (HK.out fun _ => h0)
        clear h0
        go_wp2
        refine bodyPost_ret (v := .agg #[.slice (some ⟨b, o, none⟩) (q + 1) c]) (by simp [results, Tryz.results42, go_sem]) rfl ?_
        refine Ret.mk ⟨_, l.take (q + 1), rfl, HF.out.1, HF.out.2, ?_⟩ ((Below.refl _ _).alloc (Nat.le_refl _) _)
        have := (hs.take hk).alloc (Obj.cells #[Value.slice (some ⟨b, o, none⟩) (q + 1) c] 51)
        rw [u64s, ← List.map_take] at this
        simpa [u64s, Nat.min_eq_left hk] using this
    · obtain rfl : k = 0 := by omega
      have HF := Lib.hid (HC.out 0 hk hz.out (by omega))
      go_wp2
      refine bodyPost_ret (v := .agg #[.slice A 0 c]) (by simp [results, Tryz.results42, go_sem]) rfl ?_
      refine Ret.mk ⟨_, [], rfl, HF.out.1, HF.out.2, ?_⟩ ((Below.refl _ _).alloc (Nat.le_refl _) _)
      exact ⟨by simp [u64s], A, c, rfl, by simp, by simp [maxLen]; omega, fun h => absurd h (by simp)⟩

def allOnes : Nat := 18446744073709551615
theorem allOnes_int : ((allOnes : Nat) : Int) = 18446744073709551615 := rfl
/-- the set of the numbers below n -/
theorem below_wd (n k : Nat) : wd (2 ^ n - 1) k = 2 ^ (min (n - 64 * k) 64) - 1 := by
  apply Nat.eq_of_testBit_eq
  intro i
  by_cases hi : i < 64
  · rw [testBit_wd _ _ _ hi, Nat.testBit_two_pow_sub_one, Nat.testBit_two_pow_sub_one]
    have : (64 * k + i < n) ↔ (i < min (n - 64 * k) 64) := by omega
    simp [this]
  · rw [tb_big (wd_lt _ _) (by omega), Nat.testBit_two_pow_sub_one]
    simp
    omega
theorem below_words (n : Nat) (hn : n ≤ 4096) : Canon ((List.range ((n + 63) / 64)).map (wd (2 ^ n - 1))) ∧ val ((List.range ((n + 63) / 64)).map (wd (2 ^ n - 1))) = 2 ^ n - 1 := by
  refine ⟨Canon.range _ _ (fun _ _ => wd_lt _ _) (by omega) fun h0 => ?_, val_ext (Words.range _ _ fun _ _ => wd_lt _ _) fun k => ?_⟩
  · rw [below_wd]
    have : 2 ^ 1 ≤ 2 ^ (min (n - 64 * ((n + 63) / 64 - 1)) 64) := Nat.pow_le_pow_right (by decide) (by omega)
    omega
  · rw [range_getD]
    split
    · rfl
    · rw [below_wd, show min (n - 64 * k) 64 = 0 by omega]
theorem below_full (n j : Nat) (h : 64 * j + 64 ≤ n) : wd (2 ^ n - 1) j = allOnes := by
  rw [below_wd, show min (n - 64 * j) 64 = 64 by omega]; rfl
theorem below_fill (n : Nat) (h : n % 64 = 0) : fillTo (fun _ => allOnes) ((n + 63) / 64) ((n + 63) / 64) = (List.range ((n + 63) / 64)).map (wd (2 ^ n - 1)) := by
  rw [fillTo_full]
  apply List.map_congr_left
  intro j hj
  rw [below_full n j (by have := List.mem_range.1 hj; omega)]
theorem below_fill' (n : Nat) (h : n % 64 ≠ 0) : (fillTo (fun _ => allOnes) ((n + 63) / 64) ((n + 63) / 64)).set ((n + 63) / 64 - 1) (2 ^ (n % 64) - 1) = (List.range ((n + 63) / 64)).map (wd (2 ^ n - 1)) := by
  apply List.ext_getElem
  · simp [fillTo]
  · intro j h1 h2
    simp only [fillTo, List.getElem_set, List.getElem_map, List.getElem_range, List.length_map, List.length_range] at h1 h2 ⊢
    by_cases hj : (n + 63) / 64 - 1 = j
    · rw [if_pos hj, below_wd, show min (n - 64 * j) 64 = n % 64 by omega]
    · rw [if_neg hj, if_pos h2, below_full n j (by omega)]
theorem below_any (n : Nat) (w : World) (hn : n ≤ 4096) :
    Calls Tryz.prog 50 #[.int .i64 n] w (Ret (fun x w' => IsSet w' (w.heap.size ≤ ·) x (2 ^ n - 1)) w) := by
  obtain ⟨i0, hi, hz0, hz1, hz2⟩ := info_parts info_u64
  obtain ⟨m, hm⟩ : ∃ m, m = (n + 63) / 64 := ⟨_, rfl⟩
  have hm64 : m ≤ 64 := by omega
  have HM := Lib.hid hm
  have hme : ((n : Int) + 63) / 64 = (m : Int) := by omega
  clear hm
  go_enter Tryz.func50, Tryz.ntmps50
  go_wp2_with (at_make; refine wpList_make_full _ rfl _ _ 49 rfl (w.heap.size + 1) 58 i0 (.int .u64 0) 1 Tryz.underlying49 hi hz0 hz1 _ _ _ _ m rfl rfl (by omega) (by omega) (by rw [hz2]; omega) (by unfold maxLen; omega) (by simp) ?_; intro w1 hown hgrow)
  have hbw := (((Below.refl w.heap.size w).alloc (Nat.le_refl _) (Obj.cells #[Value.slice none 0 0] 51))).grown hgrow (by simp) (by simp)
  have hc2 : w1.cell? ⟨w.heap.size, 0, none⟩ = some (.slice none 0 0) := hgrow.cell (by go_simp) (by simp)
  have hf2 : w1.frozen? ⟨w.heap.size, 0, none⟩ = false := (World.frozen?_of_block (hgrow.block _ (by simp) (by simp))).trans (by go_simp)
  have hsz : w.heap.size + 1 ≤ w1.heap.size := by have := hgrow.size; simp at this; omega
  rw [Nat.mul_one, show (Value.int .u64 0).cells = #[Value.int .u64 0] from rfl, madeCells_u64, ← fillTo_zero (fun _ => allOnes)] at hown
  simp only [World.size_alloc] at hown
  clear hgrow hme
  go_loopw [14] (fun i wr => ∃ k : Nat, k ≤ m ∧ i = .int .i64 k ∧ wr.ownsRow (w.heap.size + 1) 58 1 (.slice (some ⟨w.heap.size + 1, 0, none⟩) m m) m (u64s (fillTo (fun _ => allOnes) k m)) ∧
    wr.cell? ⟨w.heap.size, 0, none⟩ = some (.slice none 0 0) ∧ wr.frozen? ⟨w.heap.size, 0, none⟩ = false ∧ Below w.heap.size w wr) (fun i _ => m - (intOf i).toNat)
  case atStart => exact ⟨0, by omega, rfl, hown, hc2, hf2, hbw⟩
  case round =>
    clear hown hc2 hf2 hsz hbw
    obtain ⟨k, hk1, rfl, hown, hc2, hf2, hbw⟩ := hrel
    by_cases hk : k < m
    · have hstep := hown.cellAt k (by omega)
      rw [fillTo_at _ _ _ _ hk] at hstep
      have hfz := hown.frozenAt k
      go_wp2
      refine ⟨⟨k + 1, hk, by go_num, own_fill hown (Below.refl _ _), (World.cell?_setCell_other _ _ _ _ (by simp)).trans hc2, ?_, hbw.setCell (by simp) _⟩, by simp [intOf]; omega⟩
      rw [World.frozen?_setCell]; exact hf2
    · obtain rfl : m = k := by omega
      by_cases hr : n % 64 = 0
      · have HL := Lib.hid (below_words n hn)
        have HF := Lib.hid (below_fill n hr)
        have h1 : ((n : Int) % 64) = 0 := by omega
        have HO := Lib.hid hown
        clear hown hr
        go_wp2
        refine bodyPost_ret (v := .agg #[.slice (some ⟨w.heap.size + 1, 0, none⟩) m m]) (by simp [results, Tryz.results50, go_sem, hc2]) rfl ?_
        have ho := HO.out
        rw [HM.out, HF.out, ← HM.out] at ho
        have hl := HL.out
        rw [← HM.out] at hl
        exact Ret.mk ((IsSet.of_range hl (ownsRow_setCell_below ho (by simp) _)).imp fun b hb _ => by omega) (hbw.setCell (by simp) _)
      · have HL := Lib.hid (below_words n hn)
        have HF := Lib.hid (below_fill' n hr)
        have h1 : 0 < ((n : Int) % 64) := by omega
        have hm0 : 0 < m := by have := HM.out; omega
        have hstep := hown.cellAt (m - 1) (by omega)
        rw [fillTo_at _ _ _ _ (by omega)] at hstep
        have hfz := hown.frozenAt (m - 1)
        have HO := Lib.hid hown
        clear hown hr
        obtain ⟨q, rfl⟩ : ∃ q, m = q + 1 := ⟨m - 1, by omega⟩
        simp only [Nat.add_sub_cancel] at hstep hfz
        go_wp2
        rw [shl64_sub _ (Nat.mod_lt n (by decide))]
        refine bodyPost_ret (v := .agg #[.slice (some ⟨w.heap.size + 1, 0, none⟩) (q + 1) (q + 1)]) (by simp [results, Tryz.results50, go_sem, hc2]) rfl ?_
        have ho := own_set (k := q) (y := 2 ^ (n % 64) - 1) HO.out (Below.refl _ _)
        have hF := HF.out
        rw [← HM.out] at hF
        simp only [Nat.add_sub_cancel] at hF
        rw [hF] at ho
        have hl := HL.out
        rw [← HM.out] at hl
        exact Ret.mk ((IsSet.of_range hl (ownsRow_setCell_below ho (by simp) _)).imp fun b hb _ => by omega) ((hbw.setCell (by simp) _).setCell (by simp) _)
end Go.Proofs.YtenpkgdnlogfiaaGreatDoor
namespace Go.Proofs.YtenpkgdnlogfiaaGreatDoor
open Go.RowKit
attribute [local go_sem ↓] Go.wp_at_zero Go.wp_at_succ

theorem set_getD (l : List Nat) (k y j : Nat) (hk : k < l.length) : (l.set k y).getD j 0 = if j = k then y else l.getD j 0 := by
  rw [List.getD_eq_getElem?_getD, List.getElem?_set, List.getD_eq_getElem?_getD]
  by_cases h : k = j
  · subst h; simp [hk]
  · simp [h, Ne.symm h]
theorem Words.set {l : List Nat} (h : Words l) {k y : Nat} (hy : y < T64) : Words (l.set k y) := by
  intro x hx
  rcases List.mem_or_eq_of_mem_set hx with h1 | h1
  · exact h x h1
  · rw [h1]; exact hy
/-- a set without a member -/
def del (N : Nat) (i : Int) : Nat := if hasB N i then N ^^^ 2 ^ i.toNat else N
theorem val_del {l : List Nat} (h : Words l) {m : Nat} (hm : m / 64 < l.length) (hb : (val l).testBit m = true) :
    Words (l.set (m / 64) (l.getD (m / 64) 0 &&& not64 (2 ^ (m % 64)))) ∧ val (l.set (m / 64) (l.getD (m / 64) 0 &&& not64 (2 ^ (m % 64)))) = val l ^^^ 2 ^ m := by
  have hw : Words (l.set (m / 64) (l.getD (m / 64) 0 &&& not64 (2 ^ (m % 64)))) := h.set (and_lt (h.getD _))
  have hp : 2 ^ (m % 64) < T64 := by rw [T64_eq]; exact Nat.pow_lt_pow_right (by decide) (Nat.mod_lt _ (by decide))
  refine ⟨hw, Nat.eq_of_testBit_eq fun i => ?_⟩
  rw [testBit_val hw, set_getD _ _ _ _ hm, Nat.testBit_xor, Nat.testBit_two_pow, testBit_val h]
  by_cases hi : i / 64 = m / 64
  · rw [if_pos hi, Nat.testBit_and, testBit_not64 hp _ (Nat.mod_lt _ (by decide)), Nat.testBit_two_pow, hi]
    by_cases he : i % 64 = m % 64
    · have : m = i := by omega
      subst this
      rw [testBit_val h] at hb
      rw [hb]; simp
    · have h1 : m ≠ i := by intro e; subst e; exact he rfl
      simp [h1, Ne.symm he]
  · have h1 : m ≠ i := by intro e; subst e; exact hi rfl
    rw [if_neg hi]; simp [h1]

set_option maxRecDepth 20000 in
theorem without_any (v : Value) (N : Nat) (i : Int) (w : World) (D : Nat → Prop) (hv : IsSet w D v N) :
    Calls Tryz.prog 51 #[v, .int .i64 i] w (Ret (fun x w' => IsSet w' (fun b => D b ∨ w.heap.size ≤ b) x (del N i)) w) := by
  obtain ⟨A, c, l, rfl, hl, hN, hc1, hc2, hs⟩ := hv.parts
  obtain ⟨i0, hi, hz0, hz1, hz2⟩ := info_parts info_u64
  have hbw : Below w.heap.size w ((w.alloc (.cells #[.slice A l.length c] 51)).alloc (.cells #[.slice none 0 0] 51)) := ((Below.refl _ _).alloc (Nat.le_refl _) _).alloc (by simp) _
  have hv1 := (hv.alloc (.cells #[.slice A l.length c] 51)).alloc (.cells #[.slice none 0 0] 51)
  by_cases hh : hasB N i = true
  · have hi0 : 0 ≤ i := by by_cases h : 0 ≤ i; exact h; rw [has_neg N i h] at hh; cases hh
    obtain ⟨m, rfl⟩ := Int.eq_ofNat_of_zero_le hi0
    have hbit : N.testBit m = true := by simpa [hasB] using hh
    have hm64 : m / 64 < l.length := by
      apply wd_ne_zero_lt hl.1
      rw [← hN]
      intro e
      have := testBit_wd N (m / 64) (m % 64) (Nat.mod_lt _ (by decide))
      rw [e, Nat.div_add_mod, hbit] at this
      simp at this
    have HD := Lib.hid (val_del hl.1 hm64 (by rw [← hN]; exact hbit))
    have HH := Lib.hid hh
    have HN := Lib.hid (show del N m = val l ^^^ 2 ^ m by rw [del, if_pos hh, Int.toNat_natCast, hN])
    have hlen := hl.2.2
    obtain ⟨b, o, rfl, _, hb, hc⟩ := hs.word (k := 0) (by omega)
    have HA := Lib.hid (andNot64 (hl.1.getD (m / 64)) (b := 2 ^ (m % 64)) (by rw [T64_eq]; exact Nat.pow_lt_pow_right (by decide) (Nat.mod_lt _ (by decide))))
    have HC := Lib.hid hc
    clear hh hN hl hbit hs hc hi0
    unfold maxLen at hc2
    go_enter Tryz.func51, Tryz.ntmps51
    go_wp2_with fail
    refine (has_any _ N _ _ D hv1).mono ?_
    rintro e w1 ⟨_, rfl, rfl, hb1⟩
    rw [HH.out]
    have hbw1 := hbw.trans (hb1.mono (by simp; omega))
    have hk1 : w1.cell? ⟨w.heap.size, 0, none⟩ = some (.slice (some ⟨b, o, none⟩) l.length c) := (hb1.cell (p := ⟨w.heap.size, 0, none⟩) (by simp; omega)).trans (by go_simp)
    have hk2 : w1.cell? ⟨w.heap.size + 1, 0, none⟩ = some (.slice none 0 0) := (hb1.cell (p := ⟨w.heap.size + 1, 0, none⟩) (by simp)).trans (by go_simp)
    have hf2 : w1.frozen? ⟨w.heap.size + 1, 0, none⟩ = false := (hb1.frozen (p := ⟨w.heap.size + 1, 0, none⟩) (by simp)).trans (by go_simp)
    have hsz1 : w.heap.size + 2 ≤ w1.heap.size := by have := hb1.size; simp at this; omega
    clear hb1 hbw hv1
    have hcells : ∀ j u, (u64s l)[j]? = some u → (w1.alloc (.cells #[] 58)).cell? ((⟨b, o, none⟩ : Addr).add j) = some u := fun j u hj => by
      have hj' : j < l.length := by
        rcases Nat.lt_or_ge j l.length with h | h
        · exact h
        · rw [List.getElem?_eq_none (by rw [u64s_length]; exact h)] at hj; cases hj
      rw [u64s_at l j hj'] at hj
      injection hj with hj
      subst hj
      rw [Addr.add_lit, World.cell?_alloc_lt _ _ _ (by show b < _; omega), hbw1.cell (p := ⟨b, o + j, none⟩) hb]
      exact HC.out j hj'
    have hk1' : (w1.alloc (.cells #[] 58)).cell? ⟨w.heap.size, 0, none⟩ = some (.slice (some ⟨b, o, none⟩) l.length c) := (World.cell?_alloc_lt _ _ _ (by show w.heap.size < _; omega)).trans hk1
    have HCC := Lib.hid hcells
    clear hcells
    go_wp2_with (at_builtin; refine wpList_append_own _ rfl _ _ 49 rfl (w.heap.size + 2) 58 i0 (.int .u64 0) 1 8 Tryz.underlying49 hi hz0 hz1 hz2 rfl (by decide) _ 0 [] rfl (World.ownsRow_made w1 #[] 0 hsz1 (by simp [maxLen]) (by simp)) ⟨b, o, none⟩ l.length c (u64s l) rfl (by simp [u64s]) HCC.out (by intro u hu; simp [u64s] at hu; obtain ⟨x, _, rfl⟩ := hu; rfl) (by unfold maxLen; omega) (by omega) (by simp; omega) ?_; intro v' w2 hown hgrow _)
    obtain ⟨g, cap, rfl, hg1, hg2⟩ := hown.form (by omega)
    simp only [Nat.zero_add, List.nil_append] at hown
    replace hgrow : (w1.alloc (Obj.cells #[] 58)).grownBy w2 (some w1.heap.size) := hgrow
    have hbw2 := (hbw1.alloc (by omega) (.cells #[] 58)).grown hgrow (by simp; omega) (fun k hk => by injection hk with hk; omega)
    have hstep := hown.cellAt (m / 64) (by omega)
    rw [u64s_at l _ hm64] at hstep
    have hfz := hown.frozenAt (m / 64)
    have hk2' : w2.cell? ⟨w.heap.size + 1, 0, none⟩ = some (.slice none 0 0) := hgrow.cell ((World.cell?_alloc_lt _ _ _ (by show w.heap.size + 1 < _; omega)).trans hk2) (fun e => by injection e with e; simp only at e; omega)
    have hf2' : w2.frozen? ⟨w.heap.size + 1, 0, none⟩ = false := (World.frozen?_of_block (hgrow.block _ (by simp; omega) (fun e => by injection e with e; simp only at e; omega))).trans ((World.frozen?_of_block (Below.heap_alloc w1 _ _ (by show w.heap.size + 1 < _; omega))).trans hf2)
    have hsh := shl64 (m % 64) (Nat.mod_lt _ (by decide))
    have hA : bits .andNot .u64 ((l.getD (m / 64) 0 : Nat) : Int) (IntKind.u64.wrap ((2 : Int) ^ (m % 64))) = ((l.getD (m / 64) 0 &&& not64 (2 ^ (m % 64)) : Nat) : Int) := by rw [hsh, ← HA.out]
    clear hsh
    have HS : Hid (∀ x : World, Below w2.heap.size w2 x → (x.setCell ⟨g, m / 64, none⟩ (.int .u64 (l.getD (m / 64) 0 &&& not64 (2 ^ (m % 64)) : Nat))).ownsRow (w.heap.size + 2) 58 1 (.slice (some ⟨g, 0, none⟩) l.length cap) l.length (u64s (l.set (m / 64) (l.getD (m / 64) 0 &&& not64 (2 ^ (m % 64)))))) := fun x hx => own_set hown hx
    clear hown hgrow
    generalize (l.getD (m / 64) 0 &&& not64 (2 ^ (m % 64))) = z at *
    generalize l.getD (m / 64) 0 = y at *
    go_region
    go_wp2_with fail
    have hs2 := Sl.of_own (HS.out w2 (Below.refl _ _))
    refine (trim_any _ (l.set (m / 64) z) _ _ HD.out.1 (by simpa using hlen) (by simpa using hs2.drew)).mono ?_
    rintro e w3 ⟨u, rfl, hu, hb3⟩
    obtain ⟨A3, c3, l3, rfl, _, _, _, _, _⟩ := hu.parts
    have hk3 : w3.cell? ⟨w.heap.size + 1, 0, none⟩ = some (.slice none 0 0) := (hb3.cell (p := ⟨w.heap.size + 1, 0, none⟩) (by simp; omega)).trans ((World.cell?_setCell_other _ _ _ _ (fun e => by injection e with e; omega)).trans hk2')
    have hf3 : w3.frozen? ⟨w.heap.size + 1, 0, none⟩ = false := (hb3.frozen (p := ⟨w.heap.size + 1, 0, none⟩) (by simp; omega)).trans ((World.frozen?_setCell ..).trans hf2')
    have hbw3 : Below w.heap.size w w3 := ((hbw2.setCell (p := ⟨g, m / 64, none⟩) (by show _ ≤ g; omega) _).drew).trans (hb3.mono (by simp; omega))
    go_wp2_with fail
    refine bodyPost_ret (v := .agg #[.slice A3 l3.length c3]) (by simp [results, Tryz.results51, go_sem, hk3]) rfl ?_
    rw [HN.out, ← HD.out.2]
    exact Ret.mk ((hu.setCell (by show ¬ _ ≤ w.heap.size + 1; omega) _).imp fun b hb _ => .inr (by omega)) (hbw3.setCell (by simp) _)
  · have hh' : hasB N i = false := by simpa using hh
    have HH := Lib.hid hh'
    rw [show del N i = N by simp [del, hh']]
    clear hh hh' hN hl hs
    go_enter Tryz.func51, Tryz.ntmps51
    go_wp2_with fail
    refine (has_any _ N _ _ D hv1).mono ?_
    rintro e w1 ⟨_, rfl, rfl, hb1⟩
    rw [HH.out]
    have hbw1 := hbw.trans (hb1.mono (by simp; omega))
    have hk1 : w1.cell? ⟨w.heap.size, 0, none⟩ = some (.slice A l.length c) := (hb1.cell (p := ⟨w.heap.size, 0, none⟩) (by simp; omega)).trans (by go_simp)
    have hk2 : w1.cell? ⟨w.heap.size + 1, 0, none⟩ = some (.slice none 0 0) := (hb1.cell (p := ⟨w.heap.size + 1, 0, none⟩) (by simp)).trans (by go_simp)
    have hf2 : w1.frozen? ⟨w.heap.size + 1, 0, none⟩ = false := (hb1.frozen (p := ⟨w.heap.size + 1, 0, none⟩) (by simp)).trans (by go_simp)
    go_wp2_with fail
    refine bodyPost_ret (v := .agg #[.slice A l.length c]) (by simp [results, Tryz.results51, go_sem, hk2]) rfl ?_
    have h1 := (hv.imp (D' := fun b => D b ∧ b < w.heap.size) fun b h1 h2 => ⟨h1, h2⟩).ext hbw1
    exact Ret.mk ((h1.setCell (q := ⟨w.heap.size + 1, 0, none⟩) (by simp) _).imp fun b hb _ => .inl hb.1) (hbw1.setCell (by simp) _)

end Go.Proofs.YtenpkgdnlogfiaaGreatDoor
namespace Go.Proofs.YtenpkgdnlogfiaaGreatDoor
open Go.RowKit
attribute [local go_sem ↓] Go.wp_at_zero Go.wp_at_succ

/-- the set of some numbers: those from 0 to 4095 -/
def addM (N : Nat) (i : Int) : Nat := if 0 ≤ i ∧ i ≤ 4095 then N ||| 2 ^ i.toNat else N
def ofN (l : List Int) : Nat := l.foldl addM 0
def ints (l : List Int) : List Value := l.map (Value.int .i64)
theorem ints_length (l : List Int) : (ints l).length = l.length := by simp [ints]
theorem ints_at (l : List Int) (k : Nat) (h : k < l.length) : (ints l)[k]? = some (.int .i64 (l.getD k 0)) := by simp [ints, List.getElem?_eq_getElem h]
/-- the greatest of some numbers that is at most 4095; -1: there is none -/
def topM (t i : Int) : Int := if i ≤ 4095 then max t i else t
def topOf (l : List Int) : Int := l.foldl topM (-1)
theorem take_step {β : Type} (f : β → Int → β) (b : β) (l : List Int) (k : Nat) (h : k < l.length) : (l.take (k + 1)).foldl f b = f ((l.take k).foldl f b) (l.getD k 0) := by
  rw [List.take_succ_eq_append_getElem h, List.foldl_append, List.getD_eq_getElem?_getD, List.getElem?_eq_getElem h]; rfl
theorem topM_bd (l : List Int) : ∀ t : Int, -1 ≤ t → t ≤ 4095 → t ≤ l.foldl topM t ∧ l.foldl topM t ≤ 4095 ∧ ∀ x ∈ l, x ≤ 4095 → x ≤ l.foldl topM t := by
  induction l with
  | nil => intro t h1 h2; exact ⟨Int.le_refl _, h2, fun x hx => by simp at hx⟩
  | cons y r ih =>
    intro t h1 h2
    have h3 : t ≤ topM t y ∧ topM t y ≤ 4095 ∧ (y ≤ 4095 → y ≤ topM t y) := by unfold topM; split <;> omega
    obtain ⟨h4, h5, h6⟩ := ih (topM t y) (by omega) h3.2.1
    refine ⟨by simp only [List.foldl_cons]; omega, h5, fun x hx hx' => ?_⟩
    rcases List.mem_cons.1 hx with rfl | hx
    · have := h3.2.2 hx'; simp only [List.foldl_cons]; omega
    · exact h6 x hx hx'
theorem topOf_bd (l : List Int) : -1 ≤ topOf l ∧ topOf l ≤ 4095 := ⟨(topM_bd l (-1) (by omega) (by omega)).1, (topM_bd l (-1) (by omega) (by omega)).2.1⟩
theorem topOf_mem {l : List Int} {x : Int} (h : x ∈ l) (hx : x ≤ 4095) : x ≤ topOf l := (topM_bd l (-1) (by omega) (by omega)).2.2 x h hx
theorem ofN_empty {l : List Int} (h : topOf l < 0) : ofN l = 0 := by
  have : ∀ m : List Int, (∀ x ∈ m, x ∈ l) → m.foldl addM 0 = 0 := by
    intro m
    induction m with
    | nil => intro _; rfl
    | cons y r ih =>
      intro hm
      have hy : addM 0 y = 0 := by
        unfold addM
        rw [if_neg]
        intro hc
        have := topOf_mem (hm y (by simp)) hc.2
        omega
      rw [List.foldl_cons, hy]
      exact ih fun x hx => hm x (by simp [hx])
  exact this l fun _ h => h
theorem val_addM {L : List Nat} (h : Words L) {m : Nat} (hm : m / 64 < L.length) :
    Words (L.set (m / 64) (L.getD (m / 64) 0 ||| 2 ^ (m % 64))) ∧ val (L.set (m / 64) (L.getD (m / 64) 0 ||| 2 ^ (m % 64))) = val L ||| 2 ^ m := by
  have hp : 2 ^ (m % 64) < T64 := by rw [T64_eq]; exact Nat.pow_lt_pow_right (by decide) (Nat.mod_lt _ (by decide))
  have hw : Words (L.set (m / 64) (L.getD (m / 64) 0 ||| 2 ^ (m % 64))) := h.set (or_lt (h.getD _) hp)
  refine ⟨hw, Nat.eq_of_testBit_eq fun i => ?_⟩
  rw [testBit_val hw, set_getD _ _ _ _ hm, Nat.testBit_or, Nat.testBit_two_pow, testBit_val h]
  by_cases hi : i / 64 = m / 64
  · rw [if_pos hi, Nat.testBit_or, Nat.testBit_two_pow, hi]
    congr 1
    by_cases he : i % 64 = m % 64
    · have : m = i := by omega
      subst this; simp
    · have h1 : m ≠ i := by intro e; subst e; exact he rfl
      simp [h1, Ne.symm he]
  · have h1 : m ≠ i := by intro e; subst e; exact hi rfl
    rw [if_neg hi]; simp [h1]
/-- the cell of number k of a slice of ints -/
theorem Sl.int {w : World} {D : Nat → Prop} {A : Option Addr} {c : Nat} {l : List Int} (h : Sl w D 1 (.slice A l.length c) l.length (ints l)) {k : Nat} (hk : k < l.length) :
    ∃ b o, A = some ⟨b, o, none⟩ ∧ D b ∧ b < w.heap.size ∧ ∀ j, j < l.length → w.cell? ⟨b, o + j, none⟩ = some (.int .i64 (l.getD j 0)) := by
  obtain ⟨_, A', c', h1, _, _, h2⟩ := h
  obtain ⟨b, o, h3, h4, h6, h5⟩ := h2 (by omega)
  injection h1 with h1
  exact ⟨b, o, h1.trans h3, h4, h6, fun j hj => h5 j _ (ints_at l j hj)⟩

set_option maxRecDepth 20000 in
theorem of_any (v : Value) (l : List Int) (w : World) (D : Nat → Prop) (hs : Sl w D 1 v l.length (ints l)) :
    Calls Tryz.prog 15 #[v] w (Ret (fun x w' => IsSet w' (w.heap.size ≤ ·) x (ofN l)) w) := by
  have hs0 := hs
  obtain ⟨_, A, c, rfl, hc1, hc2, _⟩ := hs0
  obtain ⟨i0, hi, hz0, hz1, hz2⟩ := info_parts info_u64
  unfold maxLen at hc2
  go_enter Tryz.func15, Tryz.ntmps15
  go_wp2
  have hs' := hs.alloc (Obj.cells #[Value.slice none 0 0] 51)
  go_loop [3, 11] (fun t i => ∃ k : Nat, k ≤ l.length ∧ i = .int .i64 k ∧ t = .int .i64 (topOf (l.take k))) (fun _ i => l.length - (intOf i).toNat)
  case atStart => exact ⟨0, by omega, rfl, rfl⟩
  case round =>
    obtain ⟨k, hk, rfl, rfl⟩ := hrel
    by_cases hlt : k < l.length
    · obtain ⟨b, o, rfl, _, hb, hc⟩ := hs'.int hlt
      have hx := hc k hlt
      have HT := Lib.hid (show topOf (l.take (k + 1)) = topM (topOf (l.take k)) (l.getD k 0) from take_step topM (-1) l k hlt)
      have hbd := topOf_bd (l.take k)
      obtain ⟨hbd1, hbd2⟩ := hbd
      clear hc
      generalize l.getD k 0 = x at *
      generalize topOf (l.take k) = t at *
      by_cases h1 : x ≤ 4095
      · by_cases h2 : t < x
        · have HE := Lib.hid (show topM t x = x by unfold topM; rw [if_pos h1]; omega)
          go_wp2
          go_round
          case rel => exact ⟨k + 1, hlt, by go_num, by rw [HT.out, HE.out]⟩
          case measure => simp [intOf]; omega
        · have HE := Lib.hid (show topM t x = t by unfold topM; rw [if_pos h1]; omega)
          go_wp2
          go_round
          case rel => exact ⟨k + 1, hlt, by go_num, by rw [HT.out, HE.out]⟩
          case measure => simp [intOf]; omega
      · have HE := Lib.hid (show topM t x = t by unfold topM; rw [if_neg h1])
        go_wp2
        go_round
        case rel => exact ⟨k + 1, hlt, by go_num, by rw [HT.out, HE.out]⟩
        case measure => simp [intOf]; omega
    · obtain rfl : k = l.length := by omega
      rw [List.take_length]
      have hbd := topOf_bd l
      obtain ⟨hbd1, hbd2⟩ := hbd
      have HM := Lib.hid (fun x (hx : x ∈ l) => @topOf_mem l x hx)
      have HE := Lib.hid (@ofN_empty l)
      generalize topOf l = t at *
      by_cases ht : t < 0
      · have HE' := Lib.hid (HE.out ht)
        go_wp2
        refine bodyPost_ret (v := .agg #[.slice none 0 0]) (by simp [results, Tryz.results15, go_sem]) rfl ?_
        rw [HE'.out]
        exact Ret.mk IsSet.empty ((Below.refl _ _).alloc (Nat.le_refl _) _)
      · obtain ⟨t, rfl⟩ := Int.eq_ofNat_of_zero_le (by omega : 0 ≤ t)
        obtain ⟨n, hn⟩ : ∃ n, n = t / 64 + 1 := ⟨_, rfl⟩
        have hn64 : n ≤ 64 := by omega
        have hti : (t : Int) / 64 + 1 = n := by omega
        have HN := Lib.hid hn
        clear hn ht
        go_wp2_with (at_make; refine wpList_make_full _ rfl _ _ 49 rfl (w.heap.size + 1) 58 i0 (.int .u64 0) 1 Tryz.underlying49 hi hz0 hz1 _ _ _ _ n rfl rfl (by omega) (by omega) (by rw [hz2]; omega) (by unfold maxLen; omega) (by simp) ?_; intro w1 hown hgrow)
        have hbw := (((Below.refl w.heap.size w).alloc (Nat.le_refl _) (Obj.cells #[Value.slice none 0 0] 51))).grown hgrow (by simp) (by simp)
        have hc2 : w1.cell? ⟨w.heap.size, 0, none⟩ = some (.slice none 0 0) := hgrow.cell (by go_simp) (by simp)
        have hf2 : w1.frozen? ⟨w.heap.size, 0, none⟩ = false := (World.frozen?_of_block (hgrow.block _ (by simp) (by simp))).trans (by go_simp)
        rw [Nat.mul_one, show (Value.int .u64 0).cells = #[Value.int .u64 0] from rfl, madeCells_u64] at hown
        simp only [World.size_alloc] at hown
        clear hgrow hti
        go_loopw [30] (fun i wr => ∃ (k : Nat) (L : List Nat), k ≤ l.length ∧ i = .int .i64 k ∧ L.length = n ∧ Words L ∧ val L = ofN (l.take k) ∧ wr.ownsRow (w.heap.size + 1) 58 1 (.slice (some ⟨w.heap.size + 1, 0, none⟩) n n) n (u64s L) ∧
          wr.cell? ⟨w.heap.size, 0, none⟩ = some (.slice none 0 0) ∧ wr.frozen? ⟨w.heap.size, 0, none⟩ = false ∧ Below w.heap.size w wr) (fun i _ => l.length - (intOf i).toNat)
        case atStart =>
          refine ⟨0, List.replicate n 0, by omega, rfl, by simp, ?_, ?_, hown, hc2, hf2, hbw⟩
          · intro x hx; rw [List.mem_replicate] at hx; rw [hx.2]; simp [T64]
          · have : ∀ q, val (List.replicate q 0) = 0 := by intro q; induction q with
              | zero => rfl
              | succ q ih => simp [List.replicate_succ, val, ih]
            rw [this]; rfl
        case round =>
          clear hown hc2 hf2 hbw
          obtain ⟨k, L, hk, rfl, hL, hW, hV, hown, hc2, hf2, hbw⟩ := hrel
          by_cases hlt : k < l.length
          · obtain ⟨b, o, rfl, _, hb, hc⟩ := (hs.ext hbw).int hlt
            have hx := hc k hlt
            have hmem : l.getD k 0 ∈ l := by rw [List.getD_eq_getElem?_getD, List.getElem?_eq_getElem hlt]; exact List.getElem_mem hlt
            have hxt := HM.out _ hmem
            have HT := Lib.hid (show ofN (l.take (k + 1)) = addM (ofN (l.take k)) (l.getD k 0) from take_step addM 0 l k hlt)
            have HV := Lib.hid hV
            have HL := Lib.hid hL
            have HW := Lib.hid hW
            clear hc hmem hV hL hW
            generalize l.getD k 0 = x at *
            by_cases hx0 : 0 ≤ x
            · by_cases hx1 : x ≤ t
              · obtain ⟨m, rfl⟩ := Int.eq_ofNat_of_zero_le hx0
                have hmn : m / 64 < n := by have := HN.out; omega
                have HE := Lib.hid (show addM (ofN (l.take k)) m = ofN (l.take k) ||| 2 ^ m by unfold addM; rw [if_pos (by omega)]; rfl)
                have hstep := hown.cellAt (m / 64) (by omega)
                rw [u64s_at L _ (by have := HL.out; omega)] at hstep
                have hfz := hown.frozenAt (m / 64)
                have HA := Lib.hid (val_addM HW.out (m := m) (by have := HL.out; omega))
                have hA : bits .or .u64 ((L.getD (m / 64) 0 : Nat) : Int) (IntKind.u64.wrap ((2 : Int) ^ (m % 64))) = ((L.getD (m / 64) 0 ||| 2 ^ (m % 64) : Nat) : Int) := by
                  rw [shl64 (m % 64) (Nat.mod_lt _ (by decide))]
                  exact or64 (HW.out.getD _) (by rw [T64_eq]; exact Nat.pow_lt_pow_right (by decide) (Nat.mod_lt _ (by decide)))
                have HS : Hid _ := @own_set wr wr _ _ _ _ _ (m / 64) (L.getD (m / 64) 0 ||| 2 ^ (m % 64)) _ hown (Below.refl _ _)
                clear hown
                generalize (L.getD (m / 64) 0 ||| 2 ^ (m % 64)) = z at *
                generalize L.getD (m / 64) 0 = y at *
                go_wp2
                go_region
                all_goals
                  go_wp2
                  refine ⟨⟨k + 1, L.set (m / 64) z, hlt, by go_num, by rw [List.length_set]; exact HL.out, HA.out.1, by rw [HA.out.2, HV.out, HT.out, HE.out], HS.out, (World.cell?_setCell_other _ _ _ _ (by simp)).trans hc2, ?_, (hbw.setCell (by simp) _).drew⟩, by simp [intOf]; omega⟩
                  rw [World.frozen?_drew, World.frozen?_setCell]; exact hf2
              · have HE := Lib.hid (show addM (ofN (l.take k)) x = ofN (l.take k) by unfold addM; rw [if_neg (by intro h; have := hxt h.2; omega)])
                go_wp2
                exact ⟨⟨k + 1, L, hlt, by go_num, HL.out, HW.out, by rw [HV.out, HT.out, HE.out], hown, hc2, hf2, hbw⟩, by simp [intOf]; omega⟩
            · have HE := Lib.hid (show addM (ofN (l.take k)) x = ofN (l.take k) by unfold addM; rw [if_neg (by omega)])
              go_wp2
              exact ⟨⟨k + 1, L, hlt, by go_num, HL.out, HW.out, by rw [HV.out, HT.out, HE.out], hown, hc2, hf2, hbw⟩, by simp [intOf]; omega⟩
          · obtain rfl : k = l.length := by omega
            rw [List.take_length] at hV
            have HV := Lib.hid hV
            have hs2 := Sl.of_own hown
            have HL := Lib.hid hL
            clear hV hown hL
            go_wp2_with fail
            refine (trim_any _ L _ _ hW (by rw [HL.out]; exact hn64) (by rw [HL.out]; exact hs2)).mono ?_
            rintro e w3 ⟨u, rfl, hu, hb3⟩
            obtain ⟨A3, c3, l3, rfl, _, _, _, _, _⟩ := hu.parts
            have hsz := (World.block_lt_of_cell? _ _ hc2 : w.heap.size < wr.heap.size)
            have hk3 : w3.cell? ⟨w.heap.size, 0, none⟩ = some (.slice none 0 0) := (hb3.cell (p := ⟨w.heap.size, 0, none⟩) hsz).trans hc2
            have hf3 : w3.frozen? ⟨w.heap.size, 0, none⟩ = false := (hb3.frozen (p := ⟨w.heap.size, 0, none⟩) hsz).trans hf2
            have hbw3 : Below w.heap.size w w3 := hbw.trans (hb3.mono (Nat.le_of_lt hsz))
            go_wp2_with fail
            refine bodyPost_ret (v := .agg #[.slice A3 l3.length c3]) (by simp [results, Tryz.results15, go_sem, hk3]) rfl ?_
            rw [← HV.out]
            exact Ret.mk ((hu.setCell (by show ¬ _ ≤ w.heap.size; omega) _).imp fun b hb _ => by omega) (hbw3.setCell (by simp) _)
theorem IsSet.shape {w : World} {D : Nat → Prop} {v : Value} {N : Nat} (h : IsSet w D (.agg #[v]) N) : ∃ A n c, v = .slice A n c := by
  obtain ⟨A, c, l, e, _⟩ := h.parts
  injection e with e
  exact ⟨A, l.length, c, by simpa using e⟩
end Go.Proofs.YtenpkgdnlogfiaaGreatDoor
