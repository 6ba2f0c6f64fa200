/-
  What the callees of certificate.Check compute: the look for a step out of range, cube.Empty.
  What certificate.Check computes.
  What certificate.put, list and the method Bytes write.
  What the method Bytes of a certificate returns.
-/
import Derived.Test.YtenpkgdnlogfiaaGreatDoorBits
import Derived.Test.YtenpkgdnlogfiaaGreatDoorMem3
import Derived.Deep.MidRow
import Derived.Test.YtenpkgdnlogfiaaGreatDoorWire
namespace Go.Proofs.YtenpkgdnlogfiaaGreatDoor
open Go.RowKit
attribute [local go_sem ↓] Go.wp_at_zero Go.wp_at_succ

/-- a number of a rule that is none -/
def outB (k : Int) : Bool := decide (k < 0) || decide (64 ≤ k)
theorem out_any (k : Int) (w : World) : Calls Tryz.prog 49 #[.int .i64 k] w fun e w' => e = .returned (.bool (outB k)) ∧ w = w' := by
  by_cases h0 : k < 0
  · have HR := Lib.hid (show outB k = true by simp [outB, h0])
    go_enter Tryz.func49, Tryz.ntmps49
    go_wp2
    rw [HR.out]
    go_ret
    exact ⟨rfl, rfl⟩
  · by_cases h1 : 64 ≤ k
    · have HR := Lib.hid (show outB k = true by simp [outB, h1])
      go_enter Tryz.func49, Tryz.ntmps49
      go_wp2
      rw [HR.out]
      go_ret
      exact ⟨rfl, rfl⟩
    · have HR := Lib.hid (show outB k = false by simp [outB, h0, h1])
      go_enter Tryz.func49, Tryz.ntmps49
      go_wp2
      rw [HR.out]
      go_ret
      exact ⟨rfl, rfl⟩

def idxOut : List Int → Int
  | [] => -1
  | x :: r => if outB x then 0 else if idxOut r < 0 then -1 else idxOut r + 1
theorem idx_yes {l : List Int} {k : Nat} (hk : k < l.length) (h : ∀ j, j < k → outB (l.getD j 0) = false) (hx : outB (l.getD k 0) = true) : idxOut l = k := by
  induction l generalizing k with
  | nil => simp at hk
  | cons y r ih =>
    cases k with
    | zero => simp at hx; simp [idxOut, hx]
    | succ k =>
      have h0 := h 0 (by omega)
      simp at h0
      have := ih (k := k) (by simp at hk; omega) (fun j hj => by simpa using h (j + 1) (by omega)) (by simpa using hx)
      simp only [idxOut, h0, this]
      simp
      omega
theorem idx_no {l : List Int} (h : ∀ j, j < l.length → outB (l.getD j 0) = false) : idxOut l = -1 := by
  induction l with
  | nil => rfl
  | cons y r ih =>
    have h0 := h 0 (by simp)
    simp at h0
    have := ih (fun j hj => by simpa using h (j + 1) (by simp; omega))
    simp [idxOut, h0, this]
theorem idx_any (l : List Int) : decide (0 ≤ idxOut l) = l.any outB := by
  induction l with
  | nil => rfl
  | cons y r ih =>
    simp only [idxOut, List.any_cons, ← ih]
    by_cases hy : outB y = true
    · simp [hy]
    · by_cases h : idxOut r < 0
      · simp [hy, h]
      · simp [hy, h]; omega

theorem index_any (v : Value) (l : List Int) (w : World) (D : Nat → Prop) (hs : Sl w D 1 v l.length (ints l)) :
    Calls Tryz.prog 79 #[v, .func (.func 49) #[] #[]] w fun e w' => e = .returned (.int .i64 (idxOut l)) ∧ w = w' := by
  have hs0 := hs
  obtain ⟨_, A, c, rfl, hc1, hc2, _⟩ := hs0
  unfold maxLen at hc2
  have HY := Lib.hid fun k => @idx_yes l k
  have HN := Lib.hid (@idx_no l)
  go_enter Tryz.func79, Tryz.ntmps79
  go_wp2
  go_loop [8] (fun i => ∃ k : Nat, k ≤ l.length ∧ i = .int .i64 k ∧ Hid (∀ j, j < k → outB (l.getD j 0) = false)) (fun i => l.length - (intOf i).toNat)
  case atStart => exact ⟨0, by omega, rfl, fun j hj => absurd hj (by omega)⟩
  case round =>
    obtain ⟨k, hk, rfl, hz⟩ := hrel
    by_cases hlt : k < l.length
    · obtain ⟨b, o, rfl, _, hb, hc⟩ := hs.int hlt
      have hx := hc k hlt
      have HYk := Lib.hid (HY.out k hlt hz.out)
      have HZ := Lib.hid (show outB (l.getD k 0) = false → ∀ j, j < k + 1 → outB (l.getD j 0) = false from fun h0 j hj => by
        rcases Nat.lt_or_ge j k with h | h
        · exact hz.out j h
        · obtain rfl : j = k := by omega
          exact h0)
      clear hc hz
      generalize l.getD k 0 = x at *
      go_wp2_with (go_at_call 49; refine (out_any _ _).mono ?_; rintro e w' ⟨rfl, rfl⟩)
      · rename_i hq
        rw [HYk.out (by assumption)]
        go_ret
        exact ⟨rfl, rfl⟩
      · go_round
        case rel => exact ⟨k + 1, hlt, by go_num, HZ.out (by assumption)⟩
        case measure => simp [intOf]; omega
    · have HR := Lib.hid (HN.out fun j hj => hz.out j (by omega))
      go_wp2
      rw [HR.out]
      go_ret
      exact ⟨rfl, rfl⟩

theorem contains_any (v : Value) (l : List Int) (w : World) (D : Nat → Prop) (hs : Sl w D 1 v l.length (ints l)) :
    Calls Tryz.prog 48 #[v, .func (.func 49) #[] #[]] w fun e w' => e = .returned (.bool (l.any outB)) ∧ w = w' := by
  have HR := Lib.hid (idx_any l)
  go_enter Tryz.func48, Tryz.ntmps48
  go_wp2_with (go_at_call 79; refine (index_any _ l _ D hs).mono ?_; rintro e w' ⟨rfl, rfl⟩)
  go_ret
  exact ⟨by rw [← HR.out]; rfl, rfl⟩

theorem cube_empty_any (y n : Value) (Y N : Nat) (w : World) (D E : Nat → Prop) (hy : IsSet w D (.agg #[y]) Y) (hn : IsSet w E (.agg #[n]) N) :
    Calls Tryz.prog 54 #[.agg #[y, n]] w (Ret (fun u _ => u = .bool (Y &&& N != 0)) w) := by
  obtain ⟨A, l, c, rfl⟩ := hy.shape
  obtain ⟨A', l', c', rfl⟩ := hn.shape
  go_enter Tryz.func54, Tryz.ntmps54
  go_wp2_with (go_at_call 82; refine (meets_any _ _ Y N _ D E (hy.alloc _) (hn.alloc _)).mono ?_; rintro e w' ⟨_, rfl, rfl, hb⟩)
  go_ret
  exact Ret.mk rfl (((Below.refl _ _).alloc (Nat.le_refl _) _).trans (hb.mono (by simp)))
end Go.Proofs.YtenpkgdnlogfiaaGreatDoor
namespace Go.Proofs.YtenpkgdnlogfiaaGreatDoor
open Go.RowKit
attribute [local go_sem ↓] Go.wp_at_zero Go.wp_at_succ
set_option maxRecDepth 20000

/-- the roles: the numbers from 1 to 63 -/
def roles : Nat := del (2 ^ 64 - 1) 0
/-- the error of a cube of a certificate -/
def cubeE (y n : Nat) : Int := if (y ||| n) &&& roles == (y ||| n) then (if y &&& n != 0 then 6 else 0) else 2
/-- the error of the first cube that has one -/
def cubesE : List (Nat × Nat) → Int
  | [] => 0
  | (y, n) :: r => if cubeE y n = 0 then cubesE r else cubeE y n
theorem cubesE_at {l : List (Nat × Nat)} {k : Nat} (hk : k < l.length) (h : ∀ j, j < k → cubeE (l.getD j (0, 0)).1 (l.getD j (0, 0)).2 = 0) (hx : cubeE (l.getD k (0, 0)).1 (l.getD k (0, 0)).2 ≠ 0) : cubesE l = cubeE (l.getD k (0, 0)).1 (l.getD k (0, 0)).2 := by
  induction l generalizing k with
  | nil => simp at hk
  | cons z r ih =>
    obtain ⟨y, n⟩ := z
    cases k with
    | zero => simp at hx; simp [cubesE, hx]
    | succ k =>
      have h0 := h 0 (by omega)
      simp at h0
      simp only [cubesE, h0, if_true]
      exact ih (by simpa using hk) (fun j hj => by simpa using h (j + 1) (by omega)) (by simpa using hx)
theorem cubesE_none {l : List (Nat × Nat)} (h : ∀ j, j < l.length → cubeE (l.getD j (0, 0)).1 (l.getD j (0, 0)).2 = 0) : cubesE l = 0 := by
  induction l with
  | nil => rfl
  | cons z r ih =>
    obtain ⟨y, n⟩ := z
    have h0 := h 0 (by simp)
    simp at h0
    simp only [cubesE, h0, if_true]
    exact ih (fun j hj => by simpa using h (j + 1) (by simpa using hj))
/-- the error of the form of a certificate -/
def checkC (c : CertD) : Int :=
  if 10000 < c.plan.length ∨ 2000 < c.cubes.length then 3
  else if (c.reach = true ∧ 0 < c.cubes.length) ∨ (c.reach = false ∧ 0 < c.plan.length) then 6
  else if c.plan.any outB then 2 else cubesE c.cubes

set_option maxHeartbeats 4000000 in
theorem check_late (r : Bool) (c : CertD) (w : World) (D : Nat → Prop) (cs : Array Value) (A A' : Option Addr) (cp cq : Nat) (hr : c.reach = r) (hrc : (r = true ∧ ¬ 0 < c.cubes.length) ∨ (r = false ∧ ¬ 0 < c.plan.length))
    (h1 : ¬ 10000 < c.plan.length) (h2 : ¬ 2000 < c.cubes.length) (h5 : c.plan.any outB = false) (hR : checkC c = cubesE c.cubes)
    (c32 : (w.alloc (.cells cs 35)).cell? ⟨w.heap.size, 32, none⟩ = some (.bool r))
    (c33 : (w.alloc (.cells cs 35)).cell? ⟨w.heap.size, 33, none⟩ = some (.slice A c.plan.length cp))
    (c34 : (w.alloc (.cells cs 35)).cell? ⟨w.heap.size, 34, none⟩ = some (.slice A' c.cubes.length cq))
    (hb0 : Below w.heap.size w (w.alloc (.cells cs 35)))
    (hp1 : Sl (w.alloc (.cells cs 35)) D 1 (.slice A c.plan.length cp) c.plan.length (ints c.plan))
    (hq1 : IsCubes (w.alloc (.cells cs 35)) D (.slice A' c.cubes.length cq) c.cubes) :
    Calls Tryz.prog 19 #[.agg cs] w (Ret (fun x _ => x = .int .i64 (checkC c)) w) := by
  have HR := Lib.hid hR
  have H5 := Lib.hid h5
  clear hr h5 hR
  have HA := Lib.hid fun k => @cubesE_at c.cubes k
  have HN := Lib.hid (@cubesE_none c.cubes)
  generalize hW : w.alloc (.cells cs 35) = W at *
  rcases hrc with ⟨rfl, h6⟩ | ⟨rfl, h6⟩
  all_goals
    go_enter Tryz.func19, Tryz.ntmps19
    go_wp2_with fail
    refine (contains_any _ c.plan _ D hp1).mono ?_
    rintro e w1 ⟨rfl, rfl⟩
    rw [H5.out]
    go_wp2_with fail
    refine (below_any 64 _ (by decide)).mono ?_
    rintro e w2 ⟨m, rfl, hm, hb2⟩
    go_wp2_with fail
    refine (without_any m _ 0 _ _ hm).mono ?_
    rintro e w3 ⟨m3, rfl, hm3, hb3⟩
    obtain ⟨A3, c3, l3, rfl, _, _, _, _, _⟩ := id hm3.parts
    have hb23 := hb2.trans (hb3.mono hb2.size)
    have hlw : w.heap.size < W.heap.size := World.block_lt_of_cell? _ _ c34
    have c34' : (w3.alloc (.cells #[.slice A3 l3.length c3] 51)).cell? ⟨w.heap.size, 34, none⟩ = some (.slice A' c.cubes.length cq) :=
      (World.cell?_alloc_lt _ _ _ (by show w.heap.size < w3.heap.size; have := hb23.size; omega)).trans ((hb23.cell (p := ⟨w.heap.size, 34, none⟩) hlw).trans c34)
    go_wp2_with fail
    have hk3 : (w3.alloc (.cells #[.slice A3 l3.length c3] 51)).cell? ⟨w3.heap.size, 0, none⟩ = some (.slice A3 l3.length c3) := by go_simp
    have hm4 := hm3.alloc (.cells #[.slice A3 l3.length c3] 51)
    have hq4 := (hq1.ext hb23).ext ((Below.refl _ w3).alloc (Nat.le_refl _) (.cells #[.slice A3 l3.length c3] 51))
    have hb4 : Below w.heap.size w (w3.alloc (.cells #[.slice A3 l3.length c3] 51)) := (hb0.trans (hb23.mono (by omega))).alloc (by have := hb23.size; omega) _
    have hl3 : w3.heap.size < (w3.alloc (.cells #[.slice A3 l3.length c3] 51)).heap.size := by simp
    clear hb2 hb3 hb23 hm hm3 hq1 hp1 c34 c34' c32 c33
    generalize (w3.alloc (.cells #[.slice A3 l3.length c3] 51)) = W4 at *
    have hsz4 := hb4.size
    go_loopw [46] (fun i wr => ∃ k : Nat, k ≤ c.cubes.length ∧ i = .int .i64 k ∧ Below W4.heap.size W4 wr ∧ Hid (∀ j, j < k → cubeE (c.cubes.getD j (0, 0)).1 (c.cubes.getD j (0, 0)).2 = 0)) (fun i _ => c.cubes.length - (intOf i).toNat)
    case atStart => exact ⟨0, by omega, rfl, Below.refl _ _, fun j hj => absurd hj (by omega)⟩
    case round =>
      obtain ⟨k, hk, rfl, hbr, hz⟩ := hrel
      by_cases hlt : k < c.cubes.length
      · have hqr := hq4.ext hbr
        obtain ⟨b, o, y, n, rfl, _, hb, hcy, hcn, hy, hn⟩ := hqr.at_ hlt
        obtain ⟨Ay, ny, cy, rfl⟩ := hy.shape
        obtain ⟨An, nn, cn, rfl⟩ := hn.shape
        have hk3r := (hbr.cell (p := ⟨w3.heap.size, 0, none⟩) hl3).trans hk3
        have hmr := hm4.ext hbr
        have HAk := Lib.hid (HA.out k hlt hz.out)
        have HZ := Lib.hid (show cubeE (c.cubes.getD k (0, 0)).1 (c.cubes.getD k (0, 0)).2 = 0 → ∀ j, j < k + 1 → cubeE (c.cubes.getD j (0, 0)).1 (c.cubes.getD j (0, 0)).2 = 0 from fun h0 j hj => by
          rcases Nat.lt_or_ge j k with h | h
          · exact hz.out j h
          · obtain rfl : j = k := by omega
            exact h0)
        clear hz
        generalize (c.cubes.getD k (0, 0)).1 = y at *
        generalize (c.cubes.getD k (0, 0)).2 = n at *
        first | (exfalso; omega) | skip
        all_goals
          go_wp2_with fail
          have k5a : (wr.alloc (.cells #[.slice Ay ny cy, .slice An nn cn] 54)).cell? ⟨wr.heap.size, 0, none⟩ = some (.slice Ay ny cy) := by go_simp
          have k5b : (wr.alloc (.cells #[.slice Ay ny cy, .slice An nn cn] 54)).cell? ⟨wr.heap.size, 1, none⟩ = some (.slice An nn cn) := by go_simp
          have hw3r : w3.heap.size < wr.heap.size := World.block_lt_of_cell? _ _ hk3r
          have k5c : (wr.alloc (.cells #[.slice Ay ny cy, .slice An nn cn] 54)).cell? ⟨w3.heap.size, 0, none⟩ = some (.slice A3 l3.length c3) := (World.cell?_alloc_lt _ _ _ hw3r).trans hk3r
          have hy5 := (hy.alloc (.cells #[.slice Ay ny cy, .slice An nn cn] 54)).drew
          have hn5 := (hn.alloc (.cells #[.slice Ay ny cy, .slice An nn cn] 54)).drew
          have hm5 := (hmr.alloc (.cells #[.slice Ay ny cy, .slice An nn cn] 54)).drew
          have hy6 := hy.alloc (.cells #[.slice Ay ny cy, .slice An nn cn] 54)
          have hn6 := hn.alloc (.cells #[.slice Ay ny cy, .slice An nn cn] 54)
          have hb5 : Below W4.heap.size W4 (wr.alloc (.cells #[.slice Ay ny cy, .slice An nn cn] 54)) := hbr.alloc hbr.size _
          have hl5 : wr.heap.size < (wr.alloc (.cells #[.slice Ay ny cy, .slice An nn cn] 54)).heap.size := by simp
          clear hcy hcn hy hn hmr hqr hk3r hbr
          generalize (wr.alloc (.cells #[.slice Ay ny cy, .slice An nn cn] 54)) = W5 at *
          go_region_held3 (fun w' => w'.cell? ⟨wr.heap.size, 0, none⟩ = some (.slice Ay ny cy) ∧ w'.cell? ⟨wr.heap.size, 1, none⟩ = some (.slice An nn cn) ∧ w'.cell? ⟨w3.heap.size, 0, none⟩ = some (.slice A3 l3.length c3)) (first | go_keep) (first
            | (go_simp; go_at_call 52; (with_reducible refine (or_any (.agg #[.slice Ay ny cy]) (.agg #[.slice An nn cn]) y n _ D D hy5 hn5).mono ?_); rintro e x1 ⟨u1, rfl, hu1, hx1⟩; have k6a := (hx1.cell (p := ⟨wr.heap.size, 0, none⟩) hl5).trans k5a; have k6b := (hx1.cell (p := ⟨wr.heap.size, 1, none⟩) hl5).trans k5b; have k6c := (hx1.cell (p := ⟨w3.heap.size, 0, none⟩) (by simp; omega)).trans k5c)
            | (go_simp; go_at_call 53; (with_reducible refine (within_any u1 (.agg #[.slice A3 l3.length c3]) (y ||| n) roles _ _ _ hu1 (hm5.ext hx1)).mono ?_); rintro e x2 ⟨_, rfl, rfl, hx2⟩; have hx := hx1.trans (hx2.mono hx1.size); have k6a := (hx.cell (p := ⟨wr.heap.size, 0, none⟩) hl5).trans k5a; have k6b := (hx.cell (p := ⟨wr.heap.size, 1, none⟩) hl5).trans k5b; have k6c := (hx.cell (p := ⟨w3.heap.size, 0, none⟩) (by simp; omega)).trans k5c))
          have hx := hx1.trans (hx2.mono hx1.size)
          have hbx : Below W4.heap.size W4 x2 := hb5.trans ((undrew hx).mono hb5.size)
          have hy7 := hy6.ext (undrew hx)
          have hn7 := hn6.ext (undrew hx)
          have hC := Lib.hid (show cubeE y n = if ((y ||| n) &&& roles == (y ||| n)) = true then (if (y &&& n != 0) = true then 6 else 0) else 2 from rfl)
          generalize ((y ||| n) &&& roles == (y ||| n)) = bw at *
          cases bw
          · have HE := Lib.hid (hC.out.trans (if_neg (by simp)))
            have HF := Lib.hid (HAk.out (by rw [HE.out]; decide))
            go_wp2
            rw [HR.out, HF.out, HE.out]
            go_ret
            exact Ret.mk rfl (hb4.trans (hbx.mono (by omega)))
          · have HE := Lib.hid (hC.out.trans (if_pos rfl))
            go_wp2_with fail
            refine (cube_empty_any _ _ y n _ D D hy7 hn7).mono ?_
            rintro e x3 ⟨_, rfl, rfl, hx3⟩
            have hbx3 := hbx.trans (hx3.mono hbx.size)
            generalize (y &&& n != 0) = be at *
            cases be
            · have HE2 := Lib.hid (HE.out.trans (if_neg (by simp)))
              have HZ2 := Lib.hid (HZ.out HE2.out)
              go_wp2
              exact ⟨⟨k + 1, hlt, by go_num, hbx3, HZ2.out⟩, by simp [intOf]; omega⟩
            · have HE2 := Lib.hid (HE.out.trans (if_pos rfl))
              have HF := Lib.hid (HAk.out (by rw [HE2.out]; decide))
              go_wp2
              rw [HR.out, HF.out, HE2.out]
              go_ret
              exact Ret.mk rfl (hb4.trans (hbx3.mono (by omega)))
      · have HF := Lib.hid (HN.out fun j hj => hz.out j (by omega))
        go_wp2
        rw [HR.out, HF.out]
        go_ret
        exact Ret.mk rfl (hb4.trans (hbr.mono (by omega)))

theorem check_any (v : Value) (c : CertD) (w : World) (D : Nat → Prop) (hv : IsCert w D v c) :
    Calls Tryz.prog 19 #[v] w (Ret (fun x _ => x = .int .i64 (checkC c)) w) := by
  obtain ⟨cs, pv, qv, rfl, hsz, _, _, _, h32, h33, h34, hp, hq⟩ := hv
  obtain ⟨A, cp, rfl, _, _⟩ := hp.shape
  obtain ⟨A', cq, rfl, _, _⟩ := hq.shape
  have hbox := Box.new w 35 cs
  have hW : ∃ W, W = w.alloc (.cells cs 35) := ⟨_, rfl⟩
  have c32 := (hbox.cell 32).trans h32
  have c33 := (hbox.cell 33).trans h33
  have c34 := (hbox.cell 34).trans h34
  have hb0 : Below w.heap.size w (w.alloc (.cells cs 35)) := (Below.refl _ _).alloc (Nat.le_refl _) _
  have hp1 := hp.alloc (.cells cs 35)
  have hq1 := hq.ext hb0
  clear h32 h33 h34 hp hq hW hbox
  generalize hr : c.reach = r at *
  have HRl := Lib.hid hr
  clear hr
  by_cases h1 : 10000 < c.plan.length
  · have HR := Lib.hid (show checkC c = 3 by rw [checkC, if_pos (.inl h1)])
    go_enter Tryz.func19, Tryz.ntmps19
    go_wp2
    rw [HR.out]
    go_ret
    exact Ret.mk rfl hb0
  by_cases h2 : 2000 < c.cubes.length
  · have HR := Lib.hid (show checkC c = 3 by rw [checkC, if_pos (.inr h2)])
    go_enter Tryz.func19, Tryz.ntmps19
    go_wp2
    rw [HR.out]
    go_ret
    exact Ret.mk rfl hb0
  by_cases h3 : r = true ∧ 0 < c.cubes.length
  · obtain ⟨rfl, h3⟩ := h3
    have HR := Lib.hid (show checkC c = 6 by rw [checkC, if_neg (by omega), if_pos (.inl ⟨HRl.out, h3⟩)])
    go_enter Tryz.func19, Tryz.ntmps19
    go_wp2
    rw [HR.out]
    go_ret
    exact Ret.mk rfl hb0
  by_cases h4 : r = false ∧ 0 < c.plan.length
  · obtain ⟨rfl, h4⟩ := h4
    have HR := Lib.hid (show checkC c = 6 by rw [checkC, if_neg (by omega), if_pos (.inr ⟨HRl.out, h4⟩)])
    go_enter Tryz.func19, Tryz.ntmps19
    go_wp2
    rw [HR.out]
    go_ret
    exact Ret.mk rfl hb0
  have HK := Lib.hid (show checkC c = if c.plan.any outB then 2 else cubesE c.cubes by rw [checkC, if_neg (by omega), if_neg (by rw [HRl.out]; intro h; rcases h with h | h; exact h3 h; exact h4 h)])
  have hrc : (r = true ∧ ¬ 0 < c.cubes.length) ∨ (r = false ∧ ¬ 0 < c.plan.length) := by
    cases r
    · right; exact ⟨rfl, fun h => h4 ⟨rfl, h⟩⟩
    · left; exact ⟨rfl, fun h => h3 ⟨rfl, h⟩⟩
  clear h3 h4
  by_cases h5 : c.plan.any outB = true
  · have HR := Lib.hid (show checkC c = 2 by rw [HK.out, if_pos h5])
    have H5 := Lib.hid h5
    clear h5
    rcases hrc with ⟨rfl, h6⟩ | ⟨rfl, h6⟩
    all_goals
      go_enter Tryz.func19, Tryz.ntmps19
      go_wp2_with fail
      refine (contains_any _ c.plan _ D hp1).mono ?_
      rintro e w1 ⟨rfl, rfl⟩
      rw [H5.out]
      go_wp2_with fail
      rw [HR.out]
      go_ret
      exact Ret.mk rfl hb0
  exact check_late r c w D cs A A' cp cq HRl.out hrc h1 h2 (by simpa using h5) (HK.out.trans (if_neg h5)) c32 c33 c34 hb0 hp1 hq1
end Go.Proofs.YtenpkgdnlogfiaaGreatDoor
namespace Go.Proofs.YtenpkgdnlogfiaaGreatDoor
open Go.RowKit
attribute [local go_sem ↓] Go.wp_at_zero Go.wp_at_succ
set_option maxRecDepth 20000

def putCube (y n : Nat) : List Nat := putSet y ++ putSet n
theorem putSet_len {N : Nat} (h : N < 2 ^ 4096) : (putSet N).length ≤ 523 := by
  have := setBytes_len h
  have := putN_len (setBytes N).length
  simp [putSet]; omega

theorem put_any (q : Nat) (y n : Value) (Y N : Nat) (bs : List Nat) (w : World) (R D : Nat → Prop) (hW : IsW w R q bs) (hy : IsSet w D (.agg #[y]) Y) (hn : IsSet w D (.agg #[n]) N)
    (hD : ∀ b, D b → b < w.heap.size → b ≠ q ∧ ¬ R b) (hlen : bs.length ≤ 9000000000) :
    Calls Tryz.prog 56 #[.pointer (some ⟨q, 0, none⟩), .agg #[y, n]] w (WRet R q (bs ++ putCube Y N) w) := by
  obtain ⟨A, l, c, rfl⟩ := hy.shape
  obtain ⟨A', l', c', rfl⟩ := hn.shape
  have hlq := hW.lt
  have hsl := putSet_len hy.bound
  have hbox := Box.new w 54 #[.slice A l c, .slice A' l' c']
  have hn1 := (hn.imp (D' := fun b => D b ∧ b < w.heap.size) fun b h1 h2 => ⟨h1, h2⟩).alloc (.cells #[.slice A l c, .slice A' l' c'] 54)
  have hW1 := (hW.imp (R' := fun k => R k ∧ k < w.heap.size) fun k h1 h2 => ⟨h1, h2⟩).alloc (.cells #[.slice A l c, .slice A' l' c'] 54)
  go_enter Tryz.func56, Tryz.ntmps56
  go_wp2_with fail
  refine (wset_any q _ Y bs _ _ D hW1 (hy.alloc _) (by omega)).mono ?_
  rintro e w1 ⟨rfl, hW2, hF⟩
  have hb1 := hF.box hbox (by omega) (by decide)
  have hc1 := hb1.cell 1
  simp at hc1
  have hn2 := hn1.wf hF (fun b hb _ => ⟨(hD b hb.1 hb.2).1, fun h => (hD b hb.1 hb.2).2 h.1⟩)
  go_wp2_with fail
  refine (wset_any q _ N _ _ _ _ hW2 hn2 (by simp; omega)).mono ?_
  rintro e w2 ⟨rfl, hW3, hF2⟩
  have hF3 := hF.trans hF2
  go_wp2_with fail
  refine bodyPost_end (results_none rfl _ _ _) rfl ⟨rfl, ?_, (WF.of_below ((Below.refl _ _).alloc (Nat.le_refl _) _)).trans (hF3.imp fun k hk _ => .inl hk.1)⟩
  rw [putCube, ← List.append_assoc]
  refine hW3.imp fun k hk _ => ?_
  rcases since_since hF.size k hk with h | h
  · exact .inl h.1
  · exact .inr (by simp at h; omega)

def putCubes (l : List (Nat × Nat)) : List Nat := putN l.length ++ l.flatMap fun z => putCube z.1 z.2
theorem flat_step (l : List (Nat × Nat)) (k : Nat) (h : k < l.length) : (l.take (k + 1)).flatMap (fun z => putCube z.1 z.2) = (l.take k).flatMap (fun z => putCube z.1 z.2) ++ putCube (l.getD k (0, 0)).1 (l.getD k (0, 0)).2 := by
  rw [List.take_succ_eq_append_getElem h, List.flatMap_append, List.getD_eq_getElem?_getD, List.getElem?_eq_getElem h]; simp
set_option exponentiation.threshold 5000 in
theorem flat_len (l : List (Nat × Nat)) (h : ∀ z ∈ l, z.1 < 2 ^ 4096 ∧ z.2 < 2 ^ 4096) : (l.flatMap fun z => putCube z.1 z.2).length ≤ 1046 * l.length := by
  induction l with
  | nil => simp
  | cons z r ih =>
    have h1 := h z (by simp)
    have h2 := ih fun x hx => h x (by simp [hx])
    have h3 := putSet_len h1.1
    have h4 := putSet_len h1.2
    simp [List.flatMap_cons, putCube] at *
    omega
theorem IsCubes.bound {w : World} {D : Nat → Prop} {v : Value} {l : List (Nat × Nat)} (h : IsCubes w D v l) : ∀ z ∈ l, z.1 < 2 ^ 4096 ∧ z.2 < 2 ^ 4096 := by
  intro z hz
  obtain ⟨i, hi, rfl⟩ := List.getElem_of_mem hz
  obtain ⟨xs, _, h2⟩ := h
  obtain ⟨a, b, _, _, h5, h6⟩ := h2 i l[i].1 l[i].2 (by simp [List.getElem?_eq_getElem hi])
  exact ⟨h5.bound, h6.bound⟩

theorem list_any (q : Nat) (v : Value) (l : List (Nat × Nat)) (bs : List Nat) (w : World) (R D : Nat → Prop) (hW : IsW w R q bs) (hv : IsCubes w D v l)
    (hD : ∀ b, D b → b < w.heap.size → b ≠ q ∧ ¬ R b) (hlen : bs.length ≤ 1000000000) (hll : l.length ≤ 2000) :
    Calls Tryz.prog 24 #[.pointer (some ⟨q, 0, none⟩), v] w (WRet R q (bs ++ putCubes l) w) := by
  obtain ⟨A, c, rfl, _, _⟩ := hv.shape
  have hlq := hW.lt
  have hbd := Lib.hid hv.bound
  have hpn := putN_len l.length
  have hv1 := hv.imp (D' := fun b => D b ∧ b < w.heap.size) fun b h1 h2 => ⟨h1, h2⟩
  have hW1 := hW.imp (R' := fun k => R k ∧ k < w.heap.size) fun k h1 h2 => ⟨h1, h2⟩
  have hD1 : ∀ b, (D b ∧ b < w.heap.size) → b ≠ q ∧ ¬ (R b ∧ b < w.heap.size) := fun b hb => ⟨(hD b hb.1 hb.2).1, fun h => (hD b hb.1 hb.2).2 h.1⟩
  have HD1 := Lib.hid hD1
  go_enter Tryz.func24, Tryz.ntmps24
  go_wp2_with fail
  refine (uint_any q l.length bs _ _ hW1 (by unfold T64; omega) (by omega)).mono ?_
  rintro e w1 ⟨rfl, hW2, hF⟩
  have hv2 := hv1.wf hF (fun b hb _ => HD1.out b hb)
  go_wp2_with fail
  go_loopw [13] (fun i wr => ∃ k : Nat, k ≤ l.length ∧ i = .int .i64 k ∧ IsW wr (Since (fun k => R k ∧ k < w.heap.size) w) q (bs ++ putN l.length ++ (l.take k).flatMap fun z => putCube z.1 z.2) ∧ WF (fun k => R k ∧ k < w.heap.size) q w wr ∧ IsCubes wr (fun b => D b ∧ b < w.heap.size) (.slice A l.length c) l) (fun i _ => l.length - (intOf i).toNat)
  case atStart => exact ⟨0, by omega, rfl, by simpa using hW2, hF, hv2⟩
  case round =>
    clear hW2 hF hv2 hv1 hW1 hv hW
    obtain ⟨k, hk, rfl, hWr, hFr, hvr⟩ := hrel
    by_cases hlt : k < l.length
    · obtain ⟨b, o, y, n, rfl, _, hb, hcy, hcn, hy, hn⟩ := hvr.at_ hlt
      obtain ⟨Ay, ny, cy, rfl⟩ := hy.shape
      obtain ⟨An, nn, cn, rfl⟩ := hn.shape
      have HS := Lib.hid (flat_step l k hlt)
      have hfl := flat_len (l.take k) (fun z hz => hbd.out z (List.mem_of_mem_take hz))
      have htk : (l.take k).length ≤ 2000 := by simp; omega
      have hlr := hWr.lt
      have hFs := hFr.size
      have hWb := hWr.alloc (.cells #[.slice Ay ny cy, .slice An nn cn] 54)
      have hyb := hy.alloc (.cells #[.slice Ay ny cy, .slice An nn cn] 54)
      have hnb := hn.alloc (.cells #[.slice Ay ny cy, .slice An nn cn] 54)
      have hvb := hvr.ext ((Below.refl _ wr).alloc (Nat.le_refl _) (.cells #[.slice Ay ny cy, .slice An nn cn] 54))
      go_wp2_with fail
      refine (put_any q _ _ _ _ _ _ _ _ hWb hyb hnb (fun b hb _ => ⟨(HD1.out b hb).1, fun h => by rcases h with h | h; exact (HD1.out b hb).2 h; omega⟩) (by rw [List.length_append, List.length_append]; omega)).mono ?_
      rintro e w2 ⟨rfl, hW3, hF3⟩
      have hv3 := hvb.wf hF3 (fun b hb _ => ⟨(HD1.out b hb).1, fun h => by rcases h with h | h; exact (HD1.out b hb).2 h; omega⟩)
      go_wp2_with fail
      refine ⟨⟨k + 1, hlt, by go_num, ?_, ?_, hv3⟩, by simp [intOf]; omega⟩
      · rw [HS.out, ← List.append_assoc]
        refine hW3.imp fun j hj _ => ?_
        rcases hj with hj | hj
        · exact hj
        · exact .inr (by simp at hj; omega)
      · exact hFr.trans ((WF.of_below ((Below.refl _ wr).alloc (Nat.le_refl _) _)).trans (hF3.imp fun j hj _ => .inl hj))
    · obtain rfl : k = l.length := by omega
      rw [List.take_length] at hWr
      go_wp2_with fail
      refine bodyPost_end (results_none rfl _ _ _) rfl ⟨rfl, ?_, hFr.imp fun k hk _ => hk.1⟩
      rw [putCubes, ← List.append_assoc]
      refine hWr.imp fun k hk _ => ?_
      rcases hk with h | h
      · exact .inl h.1
      · exact .inr h
end Go.Proofs.YtenpkgdnlogfiaaGreatDoor
namespace Go.Proofs.YtenpkgdnlogfiaaGreatDoor
open Go.RowKit
attribute [local go_sem ↓] Go.wp_at_zero Go.wp_at_succ
set_option maxRecDepth 20000

/-- the bytes of a certificate -/
def bytesC (c : CertD) : List Nat :=
  if checkC c = 0 then c.prob ++ (putFlag c.reach ++ (putN c.plan.length ++ ((c.plan.flatMap fun k => putN k.toNat) ++ putCubes c.cubes))) else []
theorem cubeE_pos (y n : Nat) : 0 ≤ cubeE y n := by unfold cubeE; split; split <;> omega; omega
theorem plan_ok {c : CertD} (h : checkC c = 0) : c.plan.length ≤ 10000 ∧ c.cubes.length ≤ 2000 ∧ ∀ k ∈ c.plan, 0 ≤ k ∧ k < 64 := by
  unfold checkC at h
  split at h
  · omega
  · split at h
    · omega
    · split at h
      · omega
      · rename_i h1 _ h2
        refine ⟨by omega, by omega, fun k hk => ?_⟩
        have h3 : outB k = false := by
          cases hb : outB k
          · rfl
          · exact absurd (List.any_eq_true.2 ⟨k, hk, hb⟩) h2
        simp [outB] at h3
        omega
theorem plan_step (l : List Int) (k : Nat) (h : k < l.length) : (l.take (k + 1)).flatMap (fun x => putN x.toNat) = (l.take k).flatMap (fun x => putN x.toNat) ++ putN (l.getD k 0).toNat := by
  rw [List.take_succ_eq_append_getElem h, List.flatMap_append, List.getD_eq_getElem?_getD, List.getElem?_eq_getElem h]; simp
theorem plan_len (l : List Int) : (l.flatMap fun x => putN x.toNat).length ≤ 11 * l.length := by
  induction l with
  | nil => simp
  | cons z r ih =>
    have h3 := putN_len z.toNat
    simp [List.flatMap_cons] at *
    omega

theorem cbytes_own (v : Value) (c : CertD) (w : World) (D : Nat → Prop) (hv : IsCert w D v c) :
    Calls Tryz.prog 7 #[v] w (Ret (fun x w' => OwnB w' w.heap.size x (bytesC c)) w) := by
  obtain ⟨cs, pv, qv, rfl, hsz, hl32, hby, hpr, h32, h33, h34, hp, hq⟩ := id hv
  obtain ⟨A, cp, rfl, _, _⟩ := hp.shape
  obtain ⟨A', cq, rfl, _, _⟩ := hq.shape
  have hbox := Box.new w 35 cs
  have hb0 : Below w.heap.size w (w.alloc (.cells cs 35)) := (Below.refl _ _).alloc (Nat.le_refl _) _
  have hv1 := (hv.imp (D' := (· < w.heap.size)) fun b _ h => h).ext hb0
  have hp1 := (hp.imp (D' := (· < w.heap.size)) fun b _ h => h).ext hb0
  have hq1 := (hq.imp (D' := (· < w.heap.size)) fun b _ h => h).ext hb0
  have HSZ := Lib.hid hsz
  have HPR := Lib.hid hpr
  have H32 := Lib.hid h32
  have H33 := Lib.hid h33
  have H34 := Lib.hid h34
  have HL := Lib.hid hl32
  have HX := Lib.hid hbox
  have hi35 : (Tryz.prog.info? 35).map (·.size) = some cs.size := by rw [hsz]; kernel_rfl
  have HI := Lib.hid hi35
  clear hsz hpr h32 h33 h34 hp hq hv hl32 hbox hi35
  by_cases hc : checkC c = 0
  · have hok := plan_ok hc
    obtain ⟨hpl, hcl, hpk⟩ := hok
    have HB := Lib.hid (show bytesC c = c.prob ++ (putFlag c.reach ++ (putN c.plan.length ++ ((c.plan.flatMap fun k => putN k.toNat) ++ putCubes c.cubes))) by rw [bytesC, if_pos hc])
    have heq : (checkC c != 0) = false := by simpa using hc
    have HPK := Lib.hid hpk
    have hp32a : c.prob.length ≤ 32 := by have := HL.out; omega
    have hp32b : 32 ≤ c.prob.length := by have := HL.out; omega
    clear hc hpk
    go_enter Tryz.func7, Tryz.ntmps7
    go_wp2_with ((with_reducible show wpList _ _ _ (⟨some 6, _, _, _, _, _⟩ :: _) _ _); refine wpList_load_row rfl 35 _ rfl w.heap.size rfl 35 cs (0, 0) _ HX.out Tryz.underlying35 rfl HI.out ?_)
    refine (check_any _ c _ _ hv1).mono ?_
    rintro e w1 ⟨_, rfl, rfl, hb1⟩
    have hX1 := HX.out.ext hb1
    have hbw1 := hb0.trans (hb1.mono (by simp))
    have hp2 := hp1.ext hb1
    have hq2 := hq1.ext hb1
    have hH1 := hX1.lt
    clear hb1 hp1 hq1 hv1 hb0
    go_wp2_with fail
    refine (newWriter_any _).mono ?_
    rintro e w2 ⟨rfl, rfl⟩
    have hW2 := IsW.new w1 (fun _ => False)
    have hX2 := hX1.alloc (.cells #[.slice none 0 0] 97)
    have hWl := hW2.lt
    have hp3 := hp2.alloc (.cells #[.slice none 0 0] 97)
    have hq3 := hq2.ext ((Below.refl _ w1).alloc (Nat.le_refl _) (.cells #[.slice none 0 0] 97))
    have hs3 : Sl (w1.alloc (.cells #[.slice none 0 0] 97)) (· = w.heap.size) 1 (.slice (some ⟨w.heap.size, 0, none⟩) 32 32) c.prob.length (u8s c.prob) := by
      refine ⟨by simp [u8s], _, 32, by rw [HL.out], by omega, by simp [maxLen], fun _ => ⟨w.heap.size, 0, rfl, rfl, hX2.lt, fun j x hj => ?_⟩⟩
      have hj32 : j < 32 := by
        rcases Nat.lt_or_ge j 32 with h | h
        · exact h
        · rw [List.getElem?_eq_none (by rw [u8s_length, HL.out]; exact h)] at hj; cases hj
      rw [Nat.zero_add, hX2.cell, HPR.out j hj32]
      rw [u8s_at _ _ (by rw [HL.out]; exact hj32)] at hj
      exact hj
    have hbw2 := hbw1.alloc (by omega) (.cells #[.slice none 0 0] 97)
    have hq1 : w.heap.size < w1.heap.size := hH1
    clear hX1 hp2 hq2
    generalize hW1e : (w1.alloc (.cells #[.slice none 0 0] 97)) = W at *
    clear hW1e
    go_wp2_with fail
    refine (raw_any w1.heap.size _ [] c.prob _ _ _ hW2 hs3 (by simp; omega)).mono ?_
    rintro e w3 ⟨rfl, hW3, hF3⟩
    have hX3 := hF3.box hX2 (by omega) (by decide)
    have hc32 := (hX3.cell 32).trans H32.out
    go_wp2_with fail
    refine (flag_any w1.heap.size _ _ _ _ hW3 (by simp; omega)).mono ?_
    rintro e w4 ⟨rfl, hW4, hF4⟩
    have hF4' := hF3.trans hF4
    have hX4 := hF4.box hX3 (by omega) (by decide)
    have hc33 := (hX4.cell 33).trans H33.out
    go_wp2_with fail
    have hfl : (putFlag c.reach).length = 1 := by unfold putFlag; split <;> rfl
    refine (uint_any w1.heap.size c.plan.length _ _ _ hW4 (by unfold T64; omega) (by simp; omega)).mono ?_
    rintro e w5 ⟨rfl, hW5, hF5⟩
    have hpn := putN_len c.plan.length
    have hF5' := hF4'.trans (hF5.imp fun k hk _ => since_since hF3.size k hk)
    have hX5 := hF5.box hX4 (by omega) (by decide)
    have hc33' := (hX5.cell 33).trans H33.out
    have hW5' := hW5.imp fun k hk _ => since_since hF3.size k (since_since hF4.size k hk)
    clear hW2 hW3 hW4 hW5 hF3 hF4 hF4' hF5 hX3 hX4 hc32 hc33 hs3
    have hfin : ∀ b, b < w.heap.size → b < W.heap.size → b ≠ w1.heap.size ∧ ¬ (fun _ : Nat => False) b := fun b hb _ => ⟨by omega, fun h => h⟩
    have HFIN := Lib.hid hfin
    clear hfin
    have hP : ([] ++ c.prob ++ putFlag c.reach ++ putN c.plan.length).length ≤ 50 := by simp only [List.length_append, List.length_nil]; omega
    go_wp2_with fail
    go_loopw [27] (fun i wr => ∃ k : Nat, k ≤ c.plan.length ∧ i = .int .i64 k ∧ IsW wr (Since (fun _ => False) W) w1.heap.size (([] ++ c.prob ++ putFlag c.reach ++ putN c.plan.length) ++ (c.plan.take k).flatMap fun x => putN x.toNat) ∧ WF (fun _ => False) w1.heap.size W wr) (fun i _ => c.plan.length - (intOf i).toNat)
    case atStart => exact ⟨0, by omega, rfl, by simpa using hW5', hF5'⟩
    case round =>
      clear hW5' hF5' hX5 hc33'
      obtain ⟨k, hk, rfl, hWr, hFr⟩ := hrel
      by_cases hlt : k < c.plan.length
      · obtain ⟨b, o, rfl, _, hb, hcell⟩ := (hp3.wf hFr (fun b hb hl => HFIN.out b hb hl)).int hlt
        have hck := hcell k hlt
        have HS := Lib.hid (plan_step c.plan k hlt)
        have hfl2 := plan_len (c.plan.take k)
        have htk : (c.plan.take k).length ≤ 10000 := by simp; omega
        have hxr := HPK.out (c.plan.getD k 0) (by rw [List.getD_eq_getElem?_getD, List.getElem?_eq_getElem hlt]; exact List.getElem_mem hlt)
        generalize c.plan.getD k 0 = x at *
        obtain ⟨x, rfl⟩ := Int.eq_ofNat_of_zero_le hxr.1
        have hx64 : x < 64 := by omega
        have hlr := hWr.lt
        have hFs := hFr.size
        clear hcell
        go_wp2_with fail
        refine (uint_any w1.heap.size x _ _ _ hWr (by unfold T64; omega) (by rw [List.length_append]; omega)).mono ?_
        rintro e w7 ⟨rfl, hW7, hF7⟩
        go_wp2_with fail
        refine ⟨⟨k + 1, hlt, by go_num, ?_, hFr.trans hF7⟩, by simp [intOf]; omega⟩
        rw [HS.out, ← List.append_assoc]
        exact hW7.imp fun j hj _ => since_since hFs j hj
      · obtain rfl : k = c.plan.length := by omega
        rw [List.take_length] at hWr
        have hfl2 := plan_len c.plan
        have hXr := hFr.box hX2 (by omega) (by decide)
        have hc34 := (hXr.cell 34).trans H34.out
        have hqr := hq3.wf hFr (fun b hb hl => HFIN.out b hb hl)
        have hFs := hFr.size
        go_wp2_with fail
        refine (list_any w1.heap.size _ c.cubes _ _ _ _ hWr hqr (fun b hb _ => ⟨by have : b < w.heap.size := hb; omega, fun h => by rcases h with h | h; exact h; have : b < w.heap.size := hb; have := hX2.lt; omega⟩) (by rw [List.length_append]; omega) hcl).mono ?_
        rintro e w8 ⟨rfl, hW8, hF8⟩
        go_wp2_with fail
        have hcub : (putCubes c.cubes).length ≤ 3000000 := by
          have h1 := flat_len c.cubes hqr.bound
          have h2 := putN_len c.cubes.length
          rw [putCubes, List.length_append]; omega
        refine (wout_own w1.heap.size _ _ _ hW8 (by rw [List.length_append, List.length_append]; omega)).mono ?_
        rintro e w9 ⟨v9, rfl, hv9, hb9⟩
        go_wp2_with fail
        go_ret
        have hFF := hFr.trans hF8
        have hs8 := hF8.size
        refine Ret.mk ?_ ((hbw2.trans (hFF.below (by omega) (fun _ h => h.elim) (by omega))).trans (hb9.mono (by omega)))
        rw [HB.out]
        have he : ([] ++ c.prob ++ putFlag c.reach ++ putN c.plan.length) ++ (c.plan.flatMap fun x => putN x.toNat) ++ putCubes c.cubes = c.prob ++ (putFlag c.reach ++ (putN c.plan.length ++ ((c.plan.flatMap fun k => putN k.toNat) ++ putCubes c.cubes))) := by simp
        rw [← he]
        exact hv9.down (by have := hbw2.size; omega)
  · have HB := Lib.hid (show bytesC c = [] by rw [bytesC, if_neg hc])
    have hne : (checkC c != 0) = true := by simpa using hc
    clear hc
    go_enter Tryz.func7, Tryz.ntmps7
    go_wp2_with ((with_reducible show wpList _ _ _ (⟨some 6, _, _, _, _, _⟩ :: _) _ _); refine wpList_load_row rfl 35 _ rfl w.heap.size rfl 35 cs (0, 0) _ HX.out Tryz.underlying35 rfl HI.out ?_)
    refine (check_any _ c _ _ hv1).mono ?_
    rintro e w1 ⟨_, rfl, rfl, hb1⟩
    go_wp2_with fail
    go_ret
    rw [HB.out]
    exact Ret.mk OwnB.nil (hb0.trans (hb1.mono (by simp)))
theorem cbytes_any (v : Value) (c : CertD) (w : World) (D : Nat → Prop) (hv : IsCert w D v c) :
    Calls Tryz.prog 7 #[v] w (Ret (fun x w' => Sl w' (w.heap.size ≤ ·) 1 x (bytesC c).length (u8s (bytesC c))) w) :=
  (cbytes_own v c w D hv).mono fun _ _ ⟨v, h1, h2, h3⟩ => ⟨v, h1, h2.1, h3⟩
end Go.Proofs.YtenpkgdnlogfiaaGreatDoor
