/-
  What the functions of package bits compute that make sets: Equal, trim, Or.
-/
import Derived.Test.YtenpkgdnlogfiaaDoorBits1
import Derived.Deep.RegionHeld3
import Derived.Deep.DrawnRows
namespace Go.Proofs.YtenpkgdnlogfiaaDoor
open Go.RowKit
attribute [local go_sem ↓] Go.wp_at_zero Go.wp_at_succ

theorem equal_any (v u : Value) (M N : Nat) (w : World) (D E : Nat → Prop) (hv : IsSet w D v M) (hu : IsSet w E u N) :
    Calls Tryd.prog 56 #[v, u] w (Ret (fun x _ => x = .bool (M == N)) w) := by
  obtain ⟨A, ca, a, rfl, ha, rfl, _, _, hsa⟩ := hv.parts
  obtain ⟨A', cb, b, rfl, hb, rfl, _, _, hsb⟩ := hu.parts
  have hn1 := ha.2.2
  have hn2 := hb.2.2
  have hno : ∀ k, _ := fun k => @equal_no a b ha hb k
  have hnl := @equal_no_len a b ha hb
  have hyes := @equal_yes a b
  have HY := Lib.hid hyes
  have HN := Lib.hid hno
  have HL := Lib.hid hnl
  clear hyes hno hnl ha hb hv hu
  generalize (val a == val b) = res at *
  by_cases hlen : a.length = b.length
  · have hq : ((a.length : Int) != b.length) = false := by simp [hlen]
    have hlen' : a.length ≤ b.length ∧ b.length ≤ a.length := by omega
    have HQ := Lib.hid hlen
    clear hlen
    obtain ⟨hl1, hl2⟩ := hlen'
    go_enter Tryd.func56, Tryd.ntmps56
    go_wp2
    have hW2 : ((w.alloc (Obj.cells #[Value.slice A a.length ca] 53)).alloc (Obj.cells #[Value.slice A' b.length cb] 53)).cell? ⟨w.heap.size + 1, 0, none⟩ = some (.slice A' b.length cb) := by go_simp
    have hsa' := (hsa.alloc (Obj.cells #[Value.slice A a.length ca] 53)).alloc (Obj.cells #[Value.slice A' b.length cb] 53)
    have hsb' := (hsb.alloc (Obj.cells #[Value.slice A a.length ca] 53)).alloc (Obj.cells #[Value.slice A' b.length cb] 53)
    have hbel := ((Below.refl w.heap.size w).alloc (Nat.le_refl _) (Obj.cells #[Value.slice A a.length ca] 53)).alloc (by simp) (Obj.cells #[Value.slice A' b.length cb] 53)
    generalize ((w.alloc (Obj.cells #[Value.slice A a.length ca] 53)).alloc (Obj.cells #[Value.slice A' b.length cb] 53)) = W at *
    clear hsa hsb
    go_loop [17] (fun i => ∃ k : Nat, k ≤ a.length ∧ i = .int .i64 k ∧ Hid (∀ j, j < k → a.getD j 0 = b.getD j 0)) (fun i => 64 - (intOf i).toNat)
    case atStart => exact ⟨0, by omega, rfl, fun j hj => absurd hj (by omega)⟩
    case round =>
      obtain ⟨k, hk1, rfl, hz⟩ := hrel
      by_cases hk : k < a.length
      · obtain ⟨b1, o1, rfl, _, hb1, hc1⟩ := hsa'.word hk
        obtain ⟨b2, o2, rfl, _, hb2, hc2⟩ := hsb'.word (by omega : k < b.length)
        have hx := hc1 k hk
        have hy := hc2 k (by omega)
        have HYk := Lib.hid (HN.out k)
        have HZ := Lib.hid (show a.getD k 0 = b.getD k 0 → ∀ j, j < k + 1 → a.getD j 0 = b.getD j 0 from fun h0 j hj => by
          rcases Nat.lt_or_ge j k with h | h
          · exact hz.out j h
          · obtain rfl : j = k := by omega
            exact h0)
        clear hc1 hc2 hsa' hsb' hz
        generalize hxe : a.getD k 0 = x at *
        generalize hye : b.getD k 0 = y at *
        clear hxe hye
        by_cases hxy : x = y
        · have h0 : ((x : Int) != y) = false := by simp [hxy]
          have HX := Lib.hid (HZ.out hxy)
          clear hxy HZ HYk
          go_wp2
          go_round
          case rel => exact ⟨k + 1, hk, by go_num, HX.out⟩
          case measure => simp [intOf]; omega
        · have h0 : ((x : Int) != y) = true := by simp; omega
          have HR := Lib.hid (HYk.out hxy)
          clear hxy
          go_wp2
          rw [HR.out]
          go_ret
          exact Ret.mk rfl hbel
      · have HR := Lib.hid (HY.out HQ.out (fun j hj => hz.out j (by omega)))
        go_wp2
        rw [HR.out]
        go_ret
        exact Ret.mk rfl hbel
  · have hq : ((a.length : Int) != b.length) = true := by simp; omega
    have HR := Lib.hid (HL.out hlen)
    clear hlen
    go_enter Tryd.func56, Tryd.ntmps56
    go_wp2
    rw [HR.out]
    go_ret
    exact Ret.mk rfl (((Below.refl w.heap.size w).alloc (Nat.le_refl _) _).alloc (by simp) _)

theorem info_u64 : (Tryd.prog.info? 68).map (fun i => (i.zero, i.size, i.bytes)) = some (some (.int .u64 0), 1, 8) := by kernel_rfl

theorem or_any (v u : Value) (M N : Nat) (w : World) (D E : Nat → Prop) (hv : IsSet w D v M) (hu : IsSet w E u N) :
    Calls Tryd.prog 36 #[v, u] w (Ret (fun x w' => IsSet w' (w.heap.size ≤ ·) x (M ||| N)) w) := by
  obtain ⟨A, ca, a, rfl, ha, hM, _, _, hsa⟩ := hv.parts
  obtain ⟨A', cb, b, rfl, hb, hN, _, _, hsb⟩ := hu.parts
  have hn1 := ha.2.2
  have hn2 := hb.2.2
  obtain ⟨n, hn⟩ : ∃ n, n = max a.length b.length := ⟨_, rfl⟩
  have hn64 : n ≤ 64 := by omega
  obtain ⟨i0, hi, hz0, hz1, hz2⟩ := info_parts info_u64
  have HM := Lib.hid hM
  have HN := Lib.hid hN
  have HA := Lib.hid ha
  have HB := Lib.hid hb
  have Hn := Lib.hid hn
  have hnb : a.length ≤ n ∧ b.length ≤ n ∧ (n ≤ a.length ∨ n ≤ b.length) := by omega
  obtain ⟨hna, hnb, hnc⟩ := hnb
  clear hM hN ha hb hsa hsb hn
  rcases Nat.lt_or_ge a.length b.length with hlt | hlt
  all_goals
    go_enter Tryd.func36, Tryd.ntmps36
    go_wp2_with (at_make; refine wpList_make_full _ rfl _ _ 51 rfl (w.heap.size + 3) 68 i0 (.int .u64 0) 1 Tryd.underlying51 hi hz0 hz1 _ _ _ _ n rfl rfl (by omega) (by omega) (by rw [hz2]; omega) (by unfold maxLen; omega) (by simp) ?_; intro w1 hown hgrow)
    have hbw := ((((Below.refl w.heap.size w).alloc (Nat.le_refl _) (Obj.cells #[Value.slice A a.length ca] 53)).alloc (by simp) (Obj.cells #[Value.slice A' b.length cb] 53)).alloc (by simp; omega) (Obj.cells #[Value.slice none 0 0] 53)).grown hgrow (by simp; omega) (by simp)
    have hc2 : w1.cell? ⟨w.heap.size, 0, none⟩ = some (.slice A a.length ca) := hgrow.cell (by go_simp) (by simp)
    have hc3 : w1.cell? ⟨w.heap.size + 1, 0, none⟩ = some (.slice A' b.length cb) := hgrow.cell (by go_simp) (by simp)
    have hc4 : w1.cell? ⟨w.heap.size + 1 + 1, 0, none⟩ = some (.slice none 0 0) := hgrow.cell (by go_simp) (by simp)
    have hf4 : w1.frozen? ⟨w.heap.size + 1 + 1, 0, none⟩ = false := (World.frozen?_of_block (hgrow.block _ (by simp) (by simp))).trans (by go_simp)
    have hsz : w.heap.size + 3 ≤ w1.heap.size := by have := hgrow.size; simp at this; omega
    rw [Nat.mul_one, show (Value.int .u64 0).cells = #[Value.int .u64 0] from rfl, madeCells_u64, ← fillTo_zero (fun j => wd M j ||| wd N j)] at hown
    simp only [World.size_alloc] at hown
    clear hgrow
    go_loopw [17] (fun i wr => ∃ k : Nat, k ≤ n ∧ i = .int .i64 k ∧ wr.ownsRow (w.heap.size + 3) 68 1 (.slice (some ⟨w.heap.size + 1 + 1 + 1, 0, none⟩) n n) n (u64s (fillTo (fun j => wd M j ||| wd N j) k n)) ∧
      wr.cell? ⟨w.heap.size, 0, none⟩ = some (.slice A a.length ca) ∧ wr.cell? ⟨w.heap.size + 1, 0, none⟩ = some (.slice A' b.length cb) ∧ wr.cell? ⟨w.heap.size + 1 + 1, 0, none⟩ = some (.slice none 0 0) ∧ wr.frozen? ⟨w.heap.size + 1 + 1, 0, none⟩ = false ∧
      w.heap.size + 3 ≤ wr.heap.size ∧ Below w.heap.size w wr) (fun i _ => n - (intOf i).toNat)
    case atStart => exact ⟨0, by omega, rfl, hown, hc2, hc3, hc4, hf4, hsz, hbw⟩
    case round =>
      clear hown hc2 hc3 hc4 hf4 hsz hbw
      obtain ⟨k, hk1, rfl, hown, hc2, hc3, hc4, hf4, hsz, hbw⟩ := hrel
      by_cases hk : k < n
      · have hvr := (hv.ext hbw).drew
        have hur := (hu.ext hbw).drew
        have hstep := hown.cellAt k (by omega)
        rw [fillTo_at _ _ _ _ hk] at hstep
        have hlt3 : w.heap.size + 1 + 1 + 1 < wr.heap.size := (hown.lt _ rfl).2
        have hor := or64 (wd_lt M k) (wd_lt N k)
        go_wp2
        go_region_held3 (fun w' => w'.cell? ⟨w.heap.size, 0, none⟩ = some (.slice A a.length ca) ∧ w'.cell? ⟨w.heap.size + 1, 0, none⟩ = some (.slice A' b.length cb)) (first | go_keep | exact ⟨(World.cell?_setCell_other _ _ _ _ (by simp)).trans k2, (World.cell?_setCell_other _ _ _ _ (by simp)).trans k3⟩) (first
          | (go_simp; go_at_call 66; (with_reducible refine (word_any (.agg #[.slice A a.length ca]) M _ _ D hvr (by omega)).mono ?_); rintro e x1 ⟨_, rfl, rfl, hb1⟩; have k2 := (hb1.cell (p := ⟨w.heap.size, 0, none⟩) (by simp; omega)).trans hc2; have k3 := (hb1.cell (p := ⟨w.heap.size + 1, 0, none⟩) (by simp; omega)).trans hc3)
          | (go_simp; go_at_call 66; (with_reducible refine (word_any (.agg #[.slice A' b.length cb]) N _ _ E (hur.ext hb1) (by omega)).mono ?_); rintro e x2 ⟨_, rfl, rfl, hb2⟩; have hb := hb1.trans (hb2.mono hb1.size); have k2 := (hb.cell (p := ⟨w.heap.size, 0, none⟩) (by simp; omega)).trans hc2; have k3 := (hb.cell (p := ⟨w.heap.size + 1, 0, none⟩) (by simp; omega)).trans hc3; have k4 := (hb.cell (p := ⟨w.heap.size + 1 + 1 + 1, k, none⟩) (by simp; omega)).trans hstep; have k5 := (hb.frozen (p := ⟨w.heap.size + 1 + 1 + 1, k, none⟩) (by simp; omega)).trans (hown.frozenAt k); simp only [Int.toNat_natCast]))
        go_wp2
        have hb' := undrew hb
        refine ⟨⟨k + 1, hk, by go_num, own_fill hown hb', (World.cell?_setCell_other _ _ _ _ (by simp)).trans k2, (World.cell?_setCell_other _ _ _ _ (by simp)).trans k3, (World.cell?_setCell_other _ _ _ _ (by simp)).trans ((hb'.cell (by simp; omega)).trans hc4), ?_, ?_, ?_⟩, by simp [intOf]; omega⟩
        · rw [World.frozen?_setCell]; exact (hb'.frozen (by simp; omega)).trans hf4
        · have := hb'.size; simp; omega
        · exact (hbw.trans (hb'.mono (by omega))).setCell (by simp; omega) _
      · have HR := Lib.hid hown
        clear hown
        obtain rfl : n = k := by omega
        rw [fillTo_full] at HR
        go_wp2
        refine bodyPost_ret (v := .agg #[.slice (some ⟨w.heap.size + 1 + 1 + 1, 0, none⟩) n n]) (by simp [results, Tryd.results36, go_sem, hc4]) rfl ?_
        have hl := canon_or HA.out HB.out Hn.out
        rw [← HM.out, ← HN.out] at hl
        exact Ret.mk ((IsSet.of_range hl (ownsRow_setCell_below HR.out (by simp) _)).imp fun b hb _ => by omega) (hbw.setCell (by simp; omega) _)
end Go.Proofs.YtenpkgdnlogfiaaDoor
