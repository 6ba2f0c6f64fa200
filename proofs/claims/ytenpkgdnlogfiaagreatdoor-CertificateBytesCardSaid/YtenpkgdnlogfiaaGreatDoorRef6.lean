/-
  What cube.Equal, slices.Equal, slices.EqualFunc and certificate.Equal compute.
-/
import Derived.Test.YtenpkgdnlogfiaaGreatDoorRef5
import Derived.Test.YtenpkgdnlogfiaaGreatDoorShelf
import Derived.Test.YtenpkgdnlogfiaaGreatDoorEq
namespace Go.Proofs.YtenpkgdnlogfiaaGreatDoor
open Go.RowKit
attribute [local go_sem ↓] Go.wp_at_zero Go.wp_at_succ
set_option maxRecDepth 20000

/-- slices.Equal on slices of int -/
theorem sleq_any (u v : Value) (l m : List Int) (w : World) (D E : Nat → Prop) (hu : Sl w D 1 u l.length (ints l)) (hv : Sl w E 1 v m.length (ints m)) :
    Calls Tryz.prog 38 #[u, v] w (Ret (fun x _ => x = .bool (l == m)) w) := by
  obtain ⟨A, c, rfl, h1, h2⟩ := hu.shape
  obtain ⟨A', c', rfl, h3, h4⟩ := hv.shape
  by_cases hlen : l.length = m.length
  · rcases Nat.eq_zero_or_pos l.length with h0 | h0
    · obtain rfl : l = [] := List.eq_nil_of_length_eq_zero h0
      obtain rfl : m = [] := List.eq_nil_of_length_eq_zero (by simpa using hlen.symm)
      refine (Tryz.slices_Equal_int_empty A A' c 0 c' w (by omega)).mono ?_
      rintro e w' ⟨rfl, rfl⟩
      exact Ret.mk rfl (Below.refl _ _)
    · obtain ⟨b, o, rfl, _, _, hc⟩ := hu.int (k := 0) h0
      obtain ⟨b', o', rfl, _, _, hc'⟩ := hv.int (k := 0) (by omega)
      refine (Tryz.slices_Equal_int b o l.length c b' o' m.length c' l m w (Nat.le_refl _) (Nat.le_refl _) (by omega) (by omega) hc hc').mono ?_
      rintro e w' ⟨rfl, q, rfl⟩
      rw [List.take_length, List.take_length]
      exact Ret.mk rfl (bel_drewN (Below.refl _ _) _)
  · refine (Tryz.slices_Equal_int_lens A A' l.length c m.length c' w hlen).mono ?_
    rintro e w' ⟨rfl, rfl⟩
    refine Ret.mk ?_ (Below.refl _ _)
    have : (l == m) = false := by rw [beq_eq_false_iff_ne]; rintro rfl; exact hlen rfl
    rw [this]

theorem cube_equal_any (u v : Value) (z t : Nat × Nat) (w : World) (D E : Nat → Prop) (hu : IsCube w D u z) (hv : IsCube w E v t) :
    Calls Tryz.prog 41 #[u, v] w (Ret (fun x _ => x = .bool (z == t)) w) := by
  obtain ⟨a, b, rfl, ha, hb⟩ := hu
  obtain ⟨a', b', rfl, ha', hb'⟩ := hv
  obtain ⟨y, n⟩ := z
  obtain ⟨y', n'⟩ := t
  dsimp only at ha hb ha' hb'
  obtain ⟨A, m, c, rfl⟩ := ha.shape
  obtain ⟨B, k, d, rfl⟩ := hb.shape
  obtain ⟨A', m', c', rfl⟩ := ha'.shape
  obtain ⟨B', k', d', rfl⟩ := hb'.shape
  have hX := (Box.new w 54 #[.slice A m c, .slice B k d]).alloc (.cells #[.slice A' m' c', .slice B' k' d'] 54)
  have hY := Box.new (w.alloc (.cells #[.slice A m c, .slice B k d] 54)) 54 #[.slice A' m' c', .slice B' k' d']
  have hB := ((Below.refl w.heap.size w).alloc (Nat.le_refl _) (.cells #[.slice A m c, .slice B k d] 54)).alloc (by simp) (.cells #[.slice A' m' c', .slice B' k' d'] 54)
  rw [World.size_alloc] at hY
  have HR := Lib.hid (show ((y, n) == (y', n')) = (y == y' && n == n') from rfl)
  go_enter Tryz.func41, Tryz.ntmps41
  go_wp2_with fail
  change Calls _ _ _ ((w.alloc (.cells #[.slice A m c, .slice B k d] 54)).alloc (.cells #[.slice A' m' c', .slice B' k' d'] 54)) _
  generalize ((w.alloc (.cells #[.slice A m c, .slice B k d] 54)).alloc (.cells #[.slice A' m' c', .slice B' k' d'] 54)) = W at *
  refine (equal_any _ _ y y' W D E (ha.ext hB) (ha'.ext hB)).mono ?_
  rintro e w1 ⟨_, rfl, rfl, hb1⟩
  have x1 := (hX.ext hb1).cell 1
  have y1 := (hY.ext hb1).cell 1
  simp at x1 y1
  have hB1 := bel_tr hB hb1
  generalize (y == y') = q at *
  cases q
  · go_wp2_with fail
    go_ret
    exact Ret.mk (by rw [HR.out]; rfl) hB1
  · go_wp2_with fail
    refine (equal_any _ _ n n' w1 D E (hb.ext hB1) (hb'.ext hB1)).mono ?_
    rintro e w2 ⟨_, rfl, rfl, hb2⟩
    go_wp2_with fail
    go_ret
    exact Ret.mk (v := .bool (n == n')) (by rw [HR.out]; rfl) (bel_tr hB1 hb2)

theorem getD_eq_list {α : Type} {l t : List α} (d : α) (h : l.length = t.length) (ha : ∀ j, j < l.length → l.getD j d = t.getD j d) : l = t := by
  apply List.ext_getElem h
  intro i h1 h2
  have := ha i h1
  simpa [List.getD_eq_getElem?_getD, List.getElem?_eq_getElem h1, List.getElem?_eq_getElem h2] using this
theorem eqcubes_any (u v : Value) (l t : List (Nat × Nat)) (w : World) (D E : Nat → Prop) (hu : IsCubes w D u l) (hv : IsCubes w E v t) :
    Calls Tryz.prog 40 #[u, v, .func (.func 41) #[] #[]] w (Ret (fun x _ => x = .bool (l == t)) w) := by
  obtain ⟨A, c, rfl, h1, h2⟩ := hu.shape
  obtain ⟨A', c', rfl, h3, h4⟩ := hv.shape
  by_cases hlen : l.length = t.length
  · have HL := Lib.hid hlen
    have hd : ((l.length : Int) != t.length) = false := by simp [hlen]
    have hle : l.length ≤ t.length := by omega
    have hge : t.length ≤ l.length := by omega
    clear hlen
    go_enter Tryz.func40, Tryz.ntmps40
    go_wp2
    go_loopw [17] (fun i wr => ∃ k : Nat, k ≤ l.length ∧ i = .int .i64 k ∧ Below w.heap.size w wr ∧ Hid (∀ j, j < k → l.getD j (0, 0) = t.getD j (0, 0))) (fun i _ => l.length - (intOf i).toNat)
    case atStart => exact ⟨0, by omega, rfl, Below.refl _ _, fun j hj => absurd hj (by omega)⟩
    case round =>
      obtain ⟨k, hk, rfl, hB, hz⟩ := hrel
      by_cases hlt : k < l.length
      · obtain ⟨b, o, y, n, rfl, _, hb, c0, c1, hy, hn⟩ := (hu.ext hB).at_ hlt
        obtain ⟨b', o', y', n', rfl, _, hb', c0', c1', hy', hn'⟩ := (hv.ext hB).at_ (k := k) (by omega)
        obtain ⟨Ay, my, cy, rfl⟩ := hy.shape
        obtain ⟨An, mn, cn, rfl⟩ := hn.shape
        obtain ⟨Ay', my', cy', rfl⟩ := hy'.shape
        obtain ⟨An', mn', cn', rfl⟩ := hn'.shape
        have hc1 : IsCube wr D (.agg #[.slice Ay my cy, .slice An mn cn]) (l.getD k (0, 0)) := ⟨_, _, rfl, hy, hn⟩
        have hc2 : IsCube wr E (.agg #[.slice Ay' my' cy', .slice An' mn' cn']) (t.getD k (0, 0)) := ⟨_, _, rfl, hy', hn'⟩
        have hN : l.getD k (0, 0) ≠ t.getD k (0, 0) → (l == t) = false := fun h => by rw [beq_eq_false_iff_ne]; rintro rfl; exact h rfl
        have HN := Lib.hid hN
        have HZ := Lib.hid (show l.getD k (0, 0) = t.getD k (0, 0) → ∀ j, j < k + 1 → l.getD j (0, 0) = t.getD j (0, 0) from fun h0 j hj => by
          rcases Nat.lt_or_ge j k with h | h
          · exact hz.out j h
          · obtain rfl : j = k := by omega
            exact h0)
        clear hz hN hy hn hy' hn'
        generalize l.getD k (0, 0) = z1 at *
        generalize t.getD k (0, 0) = z2 at *
        have d1 : (wr.alloc (.cells #[.slice Ay my cy, .slice An mn cn] 54)).cell? ⟨b', o' + k * 2, none⟩ = some (.slice Ay' my' cy') := (World.cell?_alloc_lt _ _ _ hb').trans c0'
        have d2 : (wr.alloc (.cells #[.slice Ay my cy, .slice An mn cn] 54)).cell? ⟨b', o' + k * 2 + 1, none⟩ = some (.slice An' mn' cn') := (World.cell?_alloc_lt _ _ _ hb').trans c1'
        go_wp2_with fail
        have hBB := ((Below.refl wr.heap.size wr).alloc (Nat.le_refl _) (.cells #[.slice Ay my cy, .slice An mn cn] 54)).alloc (by simp) (.cells #[.slice Ay' my' cy', .slice An' mn' cn'] 54)
        refine (cube_equal_any _ _ z1 z2 _ D E (hc1.ext hBB) (hc2.ext hBB)).mono ?_
        rintro e w2 ⟨_, rfl, rfl, hb2⟩
        have hB2 := bel_tr (bel_tr hB hBB) hb2
        by_cases hq : z1 = z2
        · have he : (z1 == z2) = true := by simpa using hq
          have HZ2 := Lib.hid (HZ.out hq)
          rw [he]
          clear hq he
          go_wp2_with fail
          exact ⟨⟨k + 1, hlt, by go_num, hB2, HZ2.out⟩, by simp [intOf]; omega⟩
        · have he : (z1 == z2) = false := by simpa using hq
          have HE := Lib.hid (HN.out hq)
          rw [he]
          clear hq he
          go_wp2_with fail
          rw [HE.out]
          go_ret
          exact Ret.mk rfl hB2
      · obtain rfl : k = l.length := by omega
        have HE := Lib.hid (show (l == t) = true by rw [beq_iff_eq]; exact getD_eq_list (0, 0) HL.out hz.out)
        go_wp2_with fail
        rw [HE.out]
        go_ret
        exact Ret.mk rfl hB
  · have hd : ((l.length : Int) != t.length) = true := by simp; omega
    have HE := Lib.hid (show (l == t) = false by rw [beq_eq_false_iff_ne]; rintro rfl; exact hlen rfl)
    clear hlen
    go_enter Tryz.func40, Tryz.ntmps40
    go_wp2
    rw [HE.out]
    go_ret
    exact Ret.mk rfl (Below.refl _ _)
end Go.Proofs.YtenpkgdnlogfiaaGreatDoor
