/-
  What certificate.Check computes.
-/
import Derived.Test.YtenpkgdnlogfiaaDoorMem3
import Derived.Test.YtenpkgdnlogfiaaDoorCert1
import Derived.Deep.MidRow
namespace Go.Proofs.YtenpkgdnlogfiaaDoor
open Go.RowKit
attribute [local go_sem ↓] Go.wp_at_zero Go.wp_at_succ
set_option maxRecDepth 20000

/-- the roles: the numbers from 1 to 63 -/
def roles : Nat := del (2 ^ 64 - 1) 0
/-- the error of a cube of a certificate -/
def cubeE (y n : Nat) : Int := if (y ||| n) &&& roles == (y ||| n) then (if y &&& n != 0 then 6 else 0) else 2
/-- the error of the first cube that has one -/
def cubesE : List (Nat × Nat) → Int
  | [] => 0
  | (y, n) :: r => if cubeE y n = 0 then cubesE r else cubeE y n
theorem cubesE_at {l : List (Nat × Nat)} {k : Nat} (hk : k < l.length) (h : ∀ j, j < k → cubeE (l.getD j (0, 0)).1 (l.getD j (0, 0)).2 = 0) (hx : cubeE (l.getD k (0, 0)).1 (l.getD k (0, 0)).2 ≠ 0) : cubesE l = cubeE (l.getD k (0, 0)).1 (l.getD k (0, 0)).2 := by
  induction l generalizing k with
  | nil => simp at hk
  | cons z r ih =>
    obtain ⟨y, n⟩ := z
    cases k with
    | zero => simp at hx; simp [cubesE, hx]
    | succ k =>
      have h0 := h 0 (by omega)
      simp at h0
      simp only [cubesE, h0, if_true]
      exact ih (by simpa using hk) (fun j hj => by simpa using h (j + 1) (by omega)) (by simpa using hx)
theorem cubesE_none {l : List (Nat × Nat)} (h : ∀ j, j < l.length → cubeE (l.getD j (0, 0)).1 (l.getD j (0, 0)).2 = 0) : cubesE l = 0 := by
  induction l with
  | nil => rfl
  | cons z r ih =>
    obtain ⟨y, n⟩ := z
    have h0 := h 0 (by simp)
    simp at h0
    simp only [cubesE, h0, if_true]
    exact ih (fun j hj => by simpa using h (j + 1) (by simpa using hj))
/-- the error of the form of a certificate -/
def checkC (c : CertD) : Int :=
  if 10000 < c.plan.length ∨ 2000 < c.cubes.length then 3
  else if (c.reach = true ∧ 0 < c.cubes.length) ∨ (c.reach = false ∧ 0 < c.plan.length) then 6
  else if c.plan.any outB then 2 else cubesE c.cubes

set_option maxHeartbeats 4000000 in
theorem check_late (r : Bool) (c : CertD) (w : World) (D : Nat → Prop) (cs : Array Value) (A A' : Option Addr) (cp cq : Nat) (hr : c.reach = r) (hrc : (r = true ∧ ¬ 0 < c.cubes.length) ∨ (r = false ∧ ¬ 0 < c.plan.length))
    (h1 : ¬ 10000 < c.plan.length) (h2 : ¬ 2000 < c.cubes.length) (h5 : c.plan.any outB = false) (hR : checkC c = cubesE c.cubes)
    (c32 : (w.alloc (.cells cs 35)).cell? ⟨w.heap.size, 32, none⟩ = some (.bool r))
    (c33 : (w.alloc (.cells cs 35)).cell? ⟨w.heap.size, 33, none⟩ = some (.slice A c.plan.length cp))
    (c34 : (w.alloc (.cells cs 35)).cell? ⟨w.heap.size, 34, none⟩ = some (.slice A' c.cubes.length cq))
    (hb0 : Below w.heap.size w (w.alloc (.cells cs 35)))
    (hp1 : Sl (w.alloc (.cells cs 35)) D 1 (.slice A c.plan.length cp) c.plan.length (ints c.plan))
    (hq1 : IsCubes (w.alloc (.cells cs 35)) D (.slice A' c.cubes.length cq) c.cubes) :
    Calls Tryd.prog 12 #[.agg cs] w (Ret (fun x _ => x = .int .i64 (checkC c)) w) := by
  have HR := Lib.hid hR
  have H5 := Lib.hid h5
  clear hr h5 hR
  have HA := Lib.hid fun k => @cubesE_at c.cubes k
  have HN := Lib.hid (@cubesE_none c.cubes)
  generalize hW : w.alloc (.cells cs 35) = W at *
  rcases hrc with ⟨rfl, h6⟩ | ⟨rfl, h6⟩
  all_goals
    go_enter Tryd.func12, Tryd.ntmps12
    go_wp2_with fail
    refine (contains_any _ c.plan _ D hp1).mono ?_
    rintro e w1 ⟨rfl, rfl⟩
    rw [H5.out]
    go_wp2_with fail
    refine (below_any 64 _ (by decide)).mono ?_
    rintro e w2 ⟨m, rfl, hm, hb2⟩
    go_wp2_with fail
    refine (without_any m _ 0 _ _ hm).mono ?_
    rintro e w3 ⟨m3, rfl, hm3, hb3⟩
    obtain ⟨A3, c3, l3, rfl, _, _, _, _, _⟩ := id hm3.parts
    have hb23 := hb2.trans (hb3.mono hb2.size)
    have hlw : w.heap.size < W.heap.size := World.block_lt_of_cell? _ _ c34
    have c34' : (w3.alloc (.cells #[.slice A3 l3.length c3] 53)).cell? ⟨w.heap.size, 34, none⟩ = some (.slice A' c.cubes.length cq) :=
      (World.cell?_alloc_lt _ _ _ (by show w.heap.size < w3.heap.size; have := hb23.size; omega)).trans ((hb23.cell (p := ⟨w.heap.size, 34, none⟩) hlw).trans c34)
    go_wp2_with fail
    have hk3 : (w3.alloc (.cells #[.slice A3 l3.length c3] 53)).cell? ⟨w3.heap.size, 0, none⟩ = some (.slice A3 l3.length c3) := by go_simp
    have hm4 := hm3.alloc (.cells #[.slice A3 l3.length c3] 53)
    have hq4 := (hq1.ext hb23).ext ((Below.refl _ w3).alloc (Nat.le_refl _) (.cells #[.slice A3 l3.length c3] 53))
    have hb4 : Below w.heap.size w (w3.alloc (.cells #[.slice A3 l3.length c3] 53)) := (hb0.trans (hb23.mono (by omega))).alloc (by have := hb23.size; omega) _
    have hl3 : w3.heap.size < (w3.alloc (.cells #[.slice A3 l3.length c3] 53)).heap.size := by simp
    clear hb2 hb3 hb23 hm hm3 hq1 hp1 c34 c34' c32 c33
    generalize (w3.alloc (.cells #[.slice A3 l3.length c3] 53)) = W4 at *
    have hsz4 := hb4.size
    go_loopw [46] (fun i wr => ∃ k : Nat, k ≤ c.cubes.length ∧ i = .int .i64 k ∧ Below W4.heap.size W4 wr ∧ Hid (∀ j, j < k → cubeE (c.cubes.getD j (0, 0)).1 (c.cubes.getD j (0, 0)).2 = 0)) (fun i _ => c.cubes.length - (intOf i).toNat)
    case atStart => exact ⟨0, by omega, rfl, Below.refl _ _, fun j hj => absurd hj (by omega)⟩
    case round =>
      obtain ⟨k, hk, rfl, hbr, hz⟩ := hrel
      by_cases hlt : k < c.cubes.length
      · have hqr := hq4.ext hbr
        obtain ⟨b, o, y, n, rfl, _, hb, hcy, hcn, hy, hn⟩ := hqr.at_ hlt
        obtain ⟨Ay, ny, cy, rfl⟩ := hy.shape
        obtain ⟨An, nn, cn, rfl⟩ := hn.shape
        have hk3r := (hbr.cell (p := ⟨w3.heap.size, 0, none⟩) hl3).trans hk3
        have hmr := hm4.ext hbr
        have HAk := Lib.hid (HA.out k hlt hz.out)
        have HZ := Lib.hid (show cubeE (c.cubes.getD k (0, 0)).1 (c.cubes.getD k (0, 0)).2 = 0 → ∀ j, j < k + 1 → cubeE (c.cubes.getD j (0, 0)).1 (c.cubes.getD j (0, 0)).2 = 0 from fun h0 j hj => by
          rcases Nat.lt_or_ge j k with h | h
          · exact hz.out j h
          · obtain rfl : j = k := by omega
            exact h0)
        clear hz
        generalize (c.cubes.getD k (0, 0)).1 = y at *
        generalize (c.cubes.getD k (0, 0)).2 = n at *
        first | (exfalso; omega) | skip
        all_goals
          go_wp2_with fail
          have k5a : (wr.alloc (.cells #[.slice Ay ny cy, .slice An nn cn] 55)).cell? ⟨wr.heap.size, 0, none⟩ = some (.slice Ay ny cy) := by go_simp
          have k5b : (wr.alloc (.cells #[.slice Ay ny cy, .slice An nn cn] 55)).cell? ⟨wr.heap.size, 1, none⟩ = some (.slice An nn cn) := by go_simp
          have hw3r : w3.heap.size < wr.heap.size := World.block_lt_of_cell? _ _ hk3r
          have k5c : (wr.alloc (.cells #[.slice Ay ny cy, .slice An nn cn] 55)).cell? ⟨w3.heap.size, 0, none⟩ = some (.slice A3 l3.length c3) := (World.cell?_alloc_lt _ _ _ hw3r).trans hk3r
          have hy5 := (hy.alloc (.cells #[.slice Ay ny cy, .slice An nn cn] 55)).drew
          have hn5 := (hn.alloc (.cells #[.slice Ay ny cy, .slice An nn cn] 55)).drew
          have hm5 := (hmr.alloc (.cells #[.slice Ay ny cy, .slice An nn cn] 55)).drew
          have hy6 := hy.alloc (.cells #[.slice Ay ny cy, .slice An nn cn] 55)
          have hn6 := hn.alloc (.cells #[.slice Ay ny cy, .slice An nn cn] 55)
          have hb5 : Below W4.heap.size W4 (wr.alloc (.cells #[.slice Ay ny cy, .slice An nn cn] 55)) := hbr.alloc hbr.size _
          have hl5 : wr.heap.size < (wr.alloc (.cells #[.slice Ay ny cy, .slice An nn cn] 55)).heap.size := by simp
          clear hcy hcn hy hn hmr hqr hk3r hbr
          generalize (wr.alloc (.cells #[.slice Ay ny cy, .slice An nn cn] 55)) = W5 at *
          go_region_held3 (fun w' => w'.cell? ⟨wr.heap.size, 0, none⟩ = some (.slice Ay ny cy) ∧ w'.cell? ⟨wr.heap.size, 1, none⟩ = some (.slice An nn cn) ∧ w'.cell? ⟨w3.heap.size, 0, none⟩ = some (.slice A3 l3.length c3)) (first | go_keep) (first
            | (go_simp; go_at_call 36; (with_reducible refine (or_any (.agg #[.slice Ay ny cy]) (.agg #[.slice An nn cn]) y n _ D D hy5 hn5).mono ?_); rintro e x1 ⟨u1, rfl, hu1, hx1⟩; have k6a := (hx1.cell (p := ⟨wr.heap.size, 0, none⟩) hl5).trans k5a; have k6b := (hx1.cell (p := ⟨wr.heap.size, 1, none⟩) hl5).trans k5b; have k6c := (hx1.cell (p := ⟨w3.heap.size, 0, none⟩) (by simp; omega)).trans k5c)
            | (go_simp; go_at_call 37; (with_reducible refine (within_any u1 (.agg #[.slice A3 l3.length c3]) (y ||| n) roles _ _ _ hu1 (hm5.ext hx1)).mono ?_); rintro e x2 ⟨_, rfl, rfl, hx2⟩; have hx := hx1.trans (hx2.mono hx1.size); have k6a := (hx.cell (p := ⟨wr.heap.size, 0, none⟩) hl5).trans k5a; have k6b := (hx.cell (p := ⟨wr.heap.size, 1, none⟩) hl5).trans k5b; have k6c := (hx.cell (p := ⟨w3.heap.size, 0, none⟩) (by simp; omega)).trans k5c))
          have hx := hx1.trans (hx2.mono hx1.size)
          have hbx : Below W4.heap.size W4 x2 := hb5.trans ((undrew hx).mono hb5.size)
          have hy7 := hy6.ext (undrew hx)
          have hn7 := hn6.ext (undrew hx)
          have hC := Lib.hid (show cubeE y n = if ((y ||| n) &&& roles == (y ||| n)) = true then (if (y &&& n != 0) = true then 6 else 0) else 2 from rfl)
          generalize ((y ||| n) &&& roles == (y ||| n)) = bw at *
          cases bw
          · have HE := Lib.hid (hC.out.trans (if_neg (by simp)))
            have HF := Lib.hid (HAk.out (by rw [HE.out]; decide))
            go_wp2
            rw [HR.out, HF.out, HE.out]
            go_ret
            exact Ret.mk rfl (hb4.trans (hbx.mono (by omega)))
          · have HE := Lib.hid (hC.out.trans (if_pos rfl))
            go_wp2_with fail
            refine (cube_empty_any _ _ y n _ D D hy7 hn7).mono ?_
            rintro e x3 ⟨_, rfl, rfl, hx3⟩
            have hbx3 := hbx.trans (hx3.mono hbx.size)
            generalize (y &&& n != 0) = be at *
            cases be
            · have HE2 := Lib.hid (HE.out.trans (if_neg (by simp)))
              have HZ2 := Lib.hid (HZ.out HE2.out)
              go_wp2
              exact ⟨⟨k + 1, hlt, by go_num, hbx3, HZ2.out⟩, by simp [intOf]; omega⟩
            · have HE2 := Lib.hid (HE.out.trans (if_pos rfl))
              have HF := Lib.hid (HAk.out (by rw [HE2.out]; decide))
              go_wp2
              rw [HR.out, HF.out, HE2.out]
              go_ret
              exact Ret.mk rfl (hb4.trans (hbx3.mono (by omega)))
      · have HF := Lib.hid (HN.out fun j hj => hz.out j (by omega))
        go_wp2
        rw [HR.out, HF.out]
        go_ret
        exact Ret.mk rfl (hb4.trans (hbr.mono (by omega)))

theorem check_any (v : Value) (c : CertD) (w : World) (D : Nat → Prop) (hv : IsCert w D v c) :
    Calls Tryd.prog 12 #[v] w (Ret (fun x _ => x = .int .i64 (checkC c)) w) := by
  obtain ⟨cs, pv, qv, rfl, hsz, _, _, _, h32, h33, h34, hp, hq⟩ := hv
  obtain ⟨A, cp, rfl, _, _⟩ := hp.shape
  obtain ⟨A', cq, rfl, _, _⟩ := hq.shape
  have hbox := Box.new w 35 cs
  have hW : ∃ W, W = w.alloc (.cells cs 35) := ⟨_, rfl⟩
  have c32 := (hbox.cell 32).trans h32
  have c33 := (hbox.cell 33).trans h33
  have c34 := (hbox.cell 34).trans h34
  have hb0 : Below w.heap.size w (w.alloc (.cells cs 35)) := (Below.refl _ _).alloc (Nat.le_refl _) _
  have hp1 := hp.alloc (.cells cs 35)
  have hq1 := hq.ext hb0
  clear h32 h33 h34 hp hq hW hbox
  generalize hr : c.reach = r at *
  have HRl := Lib.hid hr
  clear hr
  by_cases h1 : 10000 < c.plan.length
  · have HR := Lib.hid (show checkC c = 3 by rw [checkC, if_pos (.inl h1)])
    go_enter Tryd.func12, Tryd.ntmps12
    go_wp2
    rw [HR.out]
    go_ret
    exact Ret.mk rfl hb0
  by_cases h2 : 2000 < c.cubes.length
  · have HR := Lib.hid (show checkC c = 3 by rw [checkC, if_pos (.inr h2)])
    go_enter Tryd.func12, Tryd.ntmps12
    go_wp2
    rw [HR.out]
    go_ret
    exact Ret.mk rfl hb0
  by_cases h3 : r = true ∧ 0 < c.cubes.length
  · obtain ⟨rfl, h3⟩ := h3
    have HR := Lib.hid (show checkC c = 6 by rw [checkC, if_neg (by omega), if_pos (.inl ⟨HRl.out, h3⟩)])
    go_enter Tryd.func12, Tryd.ntmps12
    go_wp2
    rw [HR.out]
    go_ret
    exact Ret.mk rfl hb0
  by_cases h4 : r = false ∧ 0 < c.plan.length
  · obtain ⟨rfl, h4⟩ := h4
    have HR := Lib.hid (show checkC c = 6 by rw [checkC, if_neg (by omega), if_pos (.inr ⟨HRl.out, h4⟩)])
    go_enter Tryd.func12, Tryd.ntmps12
    go_wp2
    rw [HR.out]
    go_ret
    exact Ret.mk rfl hb0
  have HK := Lib.hid (show checkC c = if c.plan.any outB then 2 else cubesE c.cubes by rw [checkC, if_neg (by omega), if_neg (by rw [HRl.out]; intro h; rcases h with h | h; exact h3 h; exact h4 h)])
  have hrc : (r = true ∧ ¬ 0 < c.cubes.length) ∨ (r = false ∧ ¬ 0 < c.plan.length) := by
    cases r
    · right; exact ⟨rfl, fun h => h4 ⟨rfl, h⟩⟩
    · left; exact ⟨rfl, fun h => h3 ⟨rfl, h⟩⟩
  clear h3 h4
  by_cases h5 : c.plan.any outB = true
  · have HR := Lib.hid (show checkC c = 2 by rw [HK.out, if_pos h5])
    have H5 := Lib.hid h5
    clear h5
    rcases hrc with ⟨rfl, h6⟩ | ⟨rfl, h6⟩
    all_goals
      go_enter Tryd.func12, Tryd.ntmps12
      go_wp2_with fail
      refine (contains_any _ c.plan _ D hp1).mono ?_
      rintro e w1 ⟨rfl, rfl⟩
      rw [H5.out]
      go_wp2_with fail
      rw [HR.out]
      go_ret
      exact Ret.mk rfl hb0
  exact check_late r c w D cs A A' cp cq HRl.out hrc h1 h2 (by simpa using h5) (HK.out.trans (if_neg h5)) c32 c33 c34 hb0 hp1 hq1
end Go.Proofs.YtenpkgdnlogfiaaDoor
