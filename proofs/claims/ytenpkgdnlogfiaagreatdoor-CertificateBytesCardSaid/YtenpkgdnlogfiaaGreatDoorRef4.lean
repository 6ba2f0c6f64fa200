/-
  The certificate that arbacref36.Make makes of a raw one.
-/
import Derived.Test.YtenpkgdnlogfiaaGreatDoorRef3
import Derived.Test.YtenpkgdnlogfiaaGreatDoorTyp3
import Derived.Deep.Cut
import Derived.Deep.CutBlock
namespace Go.Proofs.YtenpkgdnlogfiaaGreatDoor
open Go.RowKit
attribute [local go_sem ↓] Go.wp_at_zero Go.wp_at_succ
set_option maxRecDepth 20000

/-- a raw certificate -/
structure RawCert where
  prob : Nat
  odd : Nat
  reach : Bool
  plan : List Int
  cubes : List RawC
def RawCert.ok (x : RawCert) : Prop := x.prob < 256 ∧ x.odd < 256 ∧ ∀ c ∈ x.cubes, c.ok
def rawCells (l : List RawC) : List Value := l.flatMap fun c => [.int .u8 (c.a : Nat), .int .u8 (c.b : Nat), .bool c.odd]
def IsRaw (w : World) (D : Nat → Prop) (v : Value) (x : RawCert) : Prop :=
  ∃ pv qv, v = .agg #[.int .u8 (x.prob : Nat), .int .u8 (x.odd : Nat), .bool x.reach, pv, qv] ∧ Sl w D 1 pv x.plan.length (ints x.plan) ∧ Sl w D 3 qv x.cubes.length (rawCells x.cubes)
theorem rawCells_at (l : List RawC) (k : Nat) (h : k < l.length) : ∃ c, l[k]? = some c ∧ (rawCells l)[k * 3]? = some (.int .u8 (c.a : Nat)) ∧ (rawCells l)[k * 3 + 1]? = some (.int .u8 (c.b : Nat)) ∧ (rawCells l)[k * 3 + 2]? = some (.bool c.odd) := by
  induction l generalizing k with
  | nil => simp at h
  | cons z r ih =>
    cases k with
    | zero => exact ⟨z, rfl, by simp [rawCells], by simp [rawCells], by simp [rawCells]⟩
    | succ k =>
      obtain ⟨c, h0, h1, h2, h3⟩ := ih k (by simpa using h)
      exact ⟨c, by simpa using h0, by rw [show (k + 1) * 3 = k * 3 + 3 by omega]; simpa [rawCells] using h1, by rw [show (k + 1) * 3 + 1 = k * 3 + 1 + 3 by omega]; simpa [rawCells] using h2, by rw [show (k + 1) * 3 + 2 = k * 3 + 2 + 3 by omega]; simpa [rawCells] using h3⟩

/-- the cells of a certificate -/
def cc (prob : List Nat) (r : Bool) (pv qv : Value) : Array Value := (u8s prob ++ [.bool r, pv, qv]).toArray
theorem cc_size (prob : List Nat) (r : Bool) (pv qv : Value) (h : prob.length = 32) : (cc prob r pv qv).size = 35 := by simp [cc, u8s, h]
theorem cc_set33 (prob : List Nat) (r : Bool) (pv qv v : Value) (h : prob.length = 32) : (cc prob r pv qv).setIfInBounds 33 v = cc prob r v qv := by
  simp [cc, u8s, h, List.set_append]
theorem cc_set34 (prob : List Nat) (r : Bool) (pv qv v : Value) (h : prob.length = 32) : (cc prob r pv qv).setIfInBounds 34 v = cc prob r pv v := by
  simp [cc, u8s, h, List.set_append]
theorem cc_setp (prob : List Nat) (r : Bool) (pv qv : Value) (i x : Nat) (hi : i < prob.length) : (cc prob r pv qv).setIfInBounds i (.int .u8 (x : Nat)) = cc (prob.set i x) r pv qv := by
  simp [cc, u8s, List.set_append, hi, List.map_set]
theorem cc_at (prob : List Nat) (r : Bool) (pv qv : Value) (h : prob.length = 32) : (cc prob r pv qv)[32]? = some (.bool r) ∧ (cc prob r pv qv)[33]? = some pv ∧ (cc prob r pv qv)[34]? = some qv := by
  refine ⟨?_, ?_, ?_⟩ <;> simp [cc, u8s, h, List.getElem?_append]
theorem cc_info (prob : List Nat) (r : Bool) (pv qv : Value) (h : prob.length = 32) : (Tryz.prog.info? 30).map (·.size) = some (cc prob r pv qv).size := by
  rw [cc_size _ _ _ _ h]; kernel_rfl
theorem cc_one (prob : List Nat) (r : Bool) (A A' : Option Addr) (n c n' c' : Nat) : (cc prob r (.slice A n c) (.slice A' n' c')).all (·.oneCell') = true := by
  refine all_oneCell_toArray fun v hv => ?_
  rcases List.mem_append.1 hv with h | h
  · exact u8s_one _ v h
  · simp at h; rcases h with rfl | rfl | rfl <;> rfl
theorem ty_rcubes : SliceTy Tryz.prog 28 60 2 16 := ⟨Tryz.underlying28, by kernel_rfl⟩

def fitO (odd : Nat) (c : RawC) : Nat × Nat := fit ⟨c.a, c.b, c.odd && decide (0 < odd)⟩
def stepO (odd : Nat) (s : Int) : Int := if odd = 0 then bits .and .i64 s 63 else s
def planM (x : RawCert) : List Int := (x.plan.take 12).map (stepO x.odd)
def cubesM (x : RawCert) : List (Nat × Nat) := (x.cubes.take 8).map (fitO x.odd)
def headOdd (l : List (Nat × Nat)) : List (Nat × Nat) := match l with
  | [] => []
  | (y, n) :: r => (y ||| 1, n) :: r
/-- the certificate of a raw one -/
def makeC (x : RawCert) : CertD :=
  let cubes1 := if x.odd = 1 then headOdd (cubesM x) else if x.odd = 9 then List.replicate 2001 (0, 0) else if x.odd = 0 ∧ x.reach = true then [] else cubesM x
  let plan1 := if x.odd = 8 then List.replicate 10001 0 else if x.odd = 0 ∧ x.reach = false then [] else planM x
  ⟨(List.replicate 32 0).set (x.prob % 32) x.prob, x.reach, plan1, cubes1⟩

theorem own_shape2 {w : World} {base : Nat} {e : TypeId} {size n : Nat} {v : Value} {xs : List Value} (h : w.ownsRow base e size v n xs) : ∃ A c, v = .slice A n c := by
  rcases h.2 with ⟨rfl, rfl⟩ | ⟨g, cap, cur, rfl, _⟩
  · exact ⟨_, _, rfl⟩
  · exact ⟨_, _, rfl⟩
theorem own_cells {w : World} {base : Nat} {e : TypeId} {size n : Nat} {v : Value} {xs : List Value} (h : w.ownsRow base e size v n xs) : v.cells = #[v] := by obtain ⟨A, c, rfl⟩ := own_shape2 h; rfl
theorem own_one {w : World} {base : Nat} {e : TypeId} {size n : Nat} {v : Value} {xs : List Value} (h : w.ownsRow base e size v n xs) : v.oneCell' = true := by obtain ⟨A, c, rfl⟩ := own_shape2 h; rfl
theorem cc_one' {w : World} {base n n' size' : Nat} {e e' : TypeId} {P : List Nat} {r : Bool} {pv qv : Value} {xs xs' : List Value} (h1 : w.ownsRow base e 1 pv n xs) (h2 : w.ownsRow base e' size' qv n' xs') : (cc P r pv qv).all (·.oneCell') = true := by
  obtain ⟨A, c, rfl⟩ := own_shape2 h1
  obtain ⟨A', c', rfl⟩ := own_shape2 h2
  exact cc_one _ _ _ _ _ _ _ _
theorem made_rcells (n : Nat) : (madeCells #[.int .u64 0, .int .u64 0] (n * 2)).toList = rcells (List.replicate n (0, 0)) := by
  have h0 : ∀ i, i < n * 2 → (rcells (List.replicate n (0, 0)))[i]? = some (.int .u64 0) := by
    intro i h
    have h2 := rcells_at (List.replicate n (0, 0)) (i / 2) (by simp; omega)
    have hd : (List.replicate n ((0 : Nat), (0 : Nat))).getD (i / 2) (0, 0) = (0, 0) := by simp [List.getD_eq_getElem?_getD, List.getElem?_replicate]; split <;> rfl
    rw [hd] at h2
    rcases Nat.mod_two_eq_zero_or_one i with h3 | h3
    · have := h2.1; rw [show i / 2 * 2 = i by omega] at this; exact this
    · have := h2.2; rw [show i / 2 * 2 + 1 = i by omega] at this; exact this
  apply List.ext_getElem?
  intro i
  rcases Nat.lt_or_ge i (n * 2) with h | h
  · rw [h0 i h]
    have : i % 2 = 0 ∨ i % 2 = 1 := by omega
    simp only [madeCells, Array.toList_map, List.getElem?_map, Array.toList_range, List.getElem?_range h, Option.map_some]
    rcases this with h3 | h3 <;> simp [h3]
  · rw [List.getElem?_eq_none (by simp [madeCells]; omega), List.getElem?_eq_none (by rw [rcells_len]; simp; omega)]
theorem made_ints (n : Nat) : (madeCells #[.int .i64 0] (n * 1)).toList = ints (List.replicate n 0) := by
  rw [Nat.mul_one, toList_madeCells_one]; simp [ints]
theorem own_base {w : World} {b b' : Nat} {e : TypeId} {size n : Nat} {v : Value} {xs : List Value} (h : w.ownsRow b e size v n xs) (hb : b' ≤ b) : w.ownsRow b' e size v n xs := by
  refine ⟨h.1, ?_⟩
  rcases h.2 with h | ⟨g, cap, cur, h1, h2, h3⟩
  · exact .inl h
  · exact .inr ⟨g, cap, cur, h1, by omega, h3⟩
/-- how the certificate stands while it is made: its cells lie in block C -/
structure MkSt (w : World) (C : Nat) (par z : Array Value) (P : List Nat) (r : Bool) (plan : List Int) (cubes : List (Nat × Nat)) (pv qv : Value) (wr : World) : Prop where
  bel : Below w.heap.size w wr
  hP : Box wr w.heap.size 25 par
  hR : Box wr (w.heap.size + 1) 30 z
  hC : Box wr C 30 (cc P r pv qv)
  own1 : wr.ownsRow w.heap.size 3 1 pv plan.length (ints plan)
  own2 : wr.ownsRow w.heap.size 60 2 qv cubes.length (rcells cubes)
  lt : w.heap.size + 1 < C
section
variable {w wr w1 w2 : World} {C : Nat} {par z : Array Value} {P : List Nat} {r : Bool} {plan plan' : List Int} {cubes cubes' : List (Nat × Nat)} {pv qv v : Value}
theorem MkSt.sz (h : MkSt w C par z P r plan cubes pv qv wr) : w.heap.size ≤ wr.heap.size := h.bel.size
theorem MkSt.ext (h : MkSt w C par z P r plan cubes pv qv wr) (hb : Below wr.heap.size wr w1) : MkSt w C par z P r plan cubes pv qv w1 :=
  ⟨bel_tr h.bel hb, h.hP.ext hb, h.hR.ext hb, h.hC.ext hb, own_ext h.own1 hb, own_ext h.own2 hb, h.lt⟩
/-- the plan is another row of the call's own: it has been stored -/
theorem MkSt.upd {g : Nat} {cs : Array Value} (h : MkSt w C par z P r plan cubes pv qv wr) (hY : Box wr g 57 cs) (hU : Upd g wr w1) (hg : w.heap.size + 1 < g) (hC : C ≠ g) : MkSt w C par z P r plan cubes pv qv w1 :=
  ⟨hU.below h.bel (by omega), h.hP.upd hU (by omega), h.hR.upd hU (by omega), h.hC.upd hU hC, own_upd h.own1 hY (by decide) hU, own_upd h.own2 hY (by decide) hU, h.lt⟩
theorem MkSt.setPlan (hP32 : P.length = 32) (h : MkSt w C par z P r plan cubes pv qv wr) (ho : w1.ownsRow w.heap.size 3 1 v plan'.length (ints plan')) (hg : wr.grownBy w1 pv.ownBlock) (hC : Box w2 C 30 ((cc P r pv qv).setIfInBounds 33 v)) (hU : Upd C w1 w2) :
    MkSt w C par z P r plan' cubes v qv w2 := by
  have hlt := h.lt
  have hC1 := own_box_grown h.hC h.own1 (by decide) hg
  rw [cc_set33 _ _ _ _ _ hP32] at hC
  exact ⟨hU.below (grown_below hg h.bel h.sz (own_ge h.own1)) (by omega), (own_box_grown h.hP h.own1 (by decide) hg).upd hU (by omega), (own_box_grown h.hR h.own1 (by decide) hg).upd hU (by omega), hC, own_upd ho hC1 (by decide) hU, own_upd (own_other h.own2 h.own1 (by decide) hg) hC1 (by decide) hU, hlt⟩
theorem MkSt.setCubes (hP32 : P.length = 32) (h : MkSt w C par z P r plan cubes pv qv wr) (ho : w1.ownsRow w.heap.size 60 2 v cubes'.length (rcells cubes')) (hg : wr.grownBy w1 qv.ownBlock) (hC : Box w2 C 30 ((cc P r pv qv).setIfInBounds 34 v)) (hU : Upd C w1 w2) :
    MkSt w C par z P r plan cubes' pv v w2 := by
  have hlt := h.lt
  have hC1 := own_box_grown h.hC h.own2 (by decide) hg
  rw [cc_set34 _ _ _ _ _ hP32] at hC
  exact ⟨hU.below (grown_below hg h.bel h.sz (own_ge h.own2)) (by omega), (own_box_grown h.hP h.own2 (by decide) hg).upd hU (by omega), (own_box_grown h.hR h.own2 (by decide) hg).upd hU (by omega), hC, own_upd (own_other h.own1 h.own2 (by decide) hg) hC1 (by decide) hU, own_upd ho hC1 (by decide) hU, hlt⟩
theorem MkSt.ostore {g n c : Nat} (h : MkSt w C par z P r plan cubes pv (.slice (some ⟨g, 0, none⟩) n c) wr) (ho : w1.ownsRow w.heap.size 60 2 (.slice (some ⟨g, 0, none⟩) n c) cubes'.length (rcells cubes')) (hU : Upd g wr w1) : MkSt w C par z P r plan cubes' pv (.slice (some ⟨g, 0, none⟩) n c) w1 :=
  have hg := upd_grown hU
  ⟨grown_below hg h.bel h.sz (own_ge h.own2), own_box_grown h.hP h.own2 (by decide) hg, own_box_grown h.hR h.own2 (by decide) hg, own_box_grown h.hC h.own2 (by decide) hg, own_other h.own1 h.own2 (by decide) hg, ho, h.lt⟩
theorem MkSt.c33 (h : MkSt w C par z P r plan cubes pv qv wr) (hP32 : P.length = 32) : wr.cell? ⟨C, 33, none⟩ = some pv := (h.hC.cell 33).trans (cc_at _ _ _ _ hP32).2.1
theorem MkSt.c34 (h : MkSt w C par z P r plan cubes pv qv wr) (hP32 : P.length = 32) : wr.cell? ⟨C, 34, none⟩ = some qv := (h.hC.cell 34).trans (cc_at _ _ _ _ hP32).2.2
end

theorem fit_small {c : RawC} (h : c.ok) : (fit c).1 < 256 ∧ (fit c).2 < 256 := by
  unfold fit
  split
  · exact ⟨Nat.lt_of_le_of_lt Nat.and_le_left h.1, Nat.lt_of_le_of_lt Nat.and_le_left h.2⟩
  · have h1 : c.a &&& c.b &&& 63 ≤ 63 := Nat.and_le_right
    have h2 : (c.a % 64) &&& (255 - c.b) ≤ c.a % 64 := Nat.and_le_left
    simp only [make14]; omega
theorem cubesM_small {x : RawCert} (hx : x.ok) : ∀ z ∈ cubesM x, z.1 < T64 ∧ z.2 < T64 := by
  intro z hz
  obtain ⟨c, hc, rfl⟩ := List.mem_map.1 hz
  have := fit_small (c := ⟨c.a, c.b, c.odd && decide (0 < x.odd)⟩) (hx.2.2 c (List.mem_of_mem_take hc))
  unfold fitO T64; omega
theorem idx0 (n g c : Nat) (w : World) : (Instr.indexAt 28 (.slice (some ⟨g, 0, none⟩) (n + 1) c) (.int .i64 0)).run Tryz.prog w = .ok (.pointer (some ⟨g, 0, none⟩)) w := by
  go_simp
set_option maxHeartbeats 4000000 in
theorem rmake_any (v : Value) (x : RawCert) (hx : x.ok) (w : World) (D : Nat → Prop) (hv : IsRaw w D v x) :
    Calls Tryz.prog 5 #[v] w (Ret (fun u w' => ∃ pv qv, u = .agg (cc (makeC x).prob (makeC x).reach pv qv) ∧ Sl w' (w.heap.size ≤ ·) 1 pv (makeC x).plan.length (ints (makeC x).plan) ∧ RCubes w' (w.heap.size ≤ ·) qv (makeC x).cubes) w) := by
  obtain ⟨pv, qv, rfl, hp, hq⟩ := hv
  obtain ⟨Ap, cp, rfl, _, _⟩ := hp.shape
  obtain ⟨Aq, cq, rfl, _, _⟩ := hq.shape
  go_enter Tryz.func5, Tryz.ntmps5
  have hi35 := cc_info (List.replicate 32 0) x.reach (.slice none 0 0) (.slice none 0 0) (by simp)
  have hb30 : Tryz.prog.built 30 [(1, .bool x.reach)] = some (cc (List.replicate 32 0) x.reach (.slice none 0 0) (.slice none 0 0)) := by cases x.reach <;> kernel_rfl
  have HI := Lib.hid hi35
  have HB := Lib.hid hb30
  have hx1 := hx.1
  have hx2 := hx.2.1
  have HX := Lib.hid hx
  clear hi35 hb30 hx
  go_upto_block 0 with (first
    | ((with_reducible show wpList _ _ _ (⟨some 8, _, _, _, _, _⟩ :: _) _ _); change wpList _ _ _ _ _ ((w.alloc (.cells #[.int .u8 (x.prob : Nat), .int .u8 (x.odd : Nat), .bool x.reach, .slice Ap x.plan.length cp, .slice Aq x.cubes.length cq] 25)).alloc (.cells (cc (List.replicate 32 0) false (.slice none 0 0) (.slice none 0 0)) 30)); have hP := (Box.new w 25 #[.int .u8 (x.prob : Nat), .int .u8 (x.odd : Nat), .bool x.reach, .slice Ap x.plan.length cp, .slice Aq x.cubes.length cq]).alloc (.cells (cc (List.replicate 32 0) false (.slice none 0 0) (.slice none 0 0)) 30); have hR := Box.new (w.alloc (.cells #[.int .u8 (x.prob : Nat), .int .u8 (x.odd : Nat), .bool x.reach, .slice Ap x.plan.length cp, .slice Aq x.cubes.length cq] 25)) 30 (cc (List.replicate 32 0) false (.slice none 0 0) (.slice none 0 0)); have hB := ((Below.refl w.heap.size w).alloc (Nat.le_refl _) (.cells #[.int .u8 (x.prob : Nat), .int .u8 (x.odd : Nat), .bool x.reach, .slice Ap x.plan.length cp, .slice Aq x.cubes.length cq] 25)).alloc (by simp) (.cells (cc (List.replicate 32 0) false (.slice none 0 0) (.slice none 0 0)) 30); rw [World.size_alloc] at hR; generalize ((w.alloc (.cells #[.int .u8 (x.prob : Nat), .int .u8 (x.odd : Nat), .bool x.reach, .slice Ap x.plan.length cp, .slice Aq x.cubes.length cq] 25)).alloc (.cells (cc (List.replicate 32 0) false (.slice none 0 0) (.slice none 0 0)) 30)) = W at *; have p0 := hP.cell 0; have p1 := hP.cell 1; have p2 := hP.cell 2; have p3 := hP.cell 3; have p4 := hP.cell 4; simp at p0 p1 p2 p3 p4)
    | ((with_reducible show wpList _ _ _ (⟨some 10, _, _, _, _, _⟩ :: _) _ _); refine wpList_build_of rfl _ _ rfl (cc (List.replicate 32 0) x.reach (.slice none 0 0) (.slice none 0 0)) HB.out ?_)
    | ((with_reducible show wpList _ _ _ (⟨some 3, _, _, _, _, _⟩ :: _) _ _); refine wpList_alloc_op rfl _ rfl (by kernel_rfl) ?_; intro W1 hA hb; have hl1 := hA.lt; have hlR := hR.lt; replace hP := hP.ext hb; replace hR := hR.ext hb; replace hB := bel_tr hB hb; clear hb p0 p1 p2 p3 p4; have p0 := hP.cell 0; have p1 := hP.cell 1; have p2 := hP.cell 2; have p3 := hP.cell 3; have p4 := hP.cell 4; simp at p0 p1 p2 p3 p4)
    | ((with_reducible show wpList _ _ _ (⟨none, _, _, _, _, _⟩ :: _) _ _); refine wpList_store_op rfl 30 _ _ rfl W.heap.size (cc (List.replicate 32 0) x.reach (.slice none 0 0) (.slice none 0 0)) rfl rfl _ _ hA HI.out (by rw [cc_size _ _ _ _ (by simp)]; kernel_rfl) (cc_one _ _ _ _ _ _ _ _) ?_; intro W2 hC hU; replace hP := hP.upd hU (by omega); replace hR := hR.upd hU (by omega); replace hB := hU.below hB (by omega); clear hA p0 p1 p2 p3 p4; have p0 := hP.cell 0; have p1 := hP.cell 1; have p2 := hP.cell 2; have p3 := hP.cell 3; have p4 := hP.cell 4; simp at p0 p1 p2 p3 p4)
    | ((with_reducible show wpList _ _ _ (⟨none, _, _, _, _, _⟩ :: _) _ _); refine wpList_cstore_op rfl 5 _ _ rfl W.heap.size (x.prob % 32) (.int .u8 (x.prob : Nat)) rfl rfl hC (by rw [cc_size _ _ _ _ (by simp)]; omega) rfl rfl (by kernel_rfl) ?_; intro W3 hC2 hU2; replace hP := hP.upd hU2 (by omega); replace hR := hR.upd hU2 (by omega); replace hB := hU2.below hB (by omega); rw [cc_setp _ _ _ _ _ _ (by simp; omega)] at hC2; clear hC hU2 p0 p1 p2 p3 p4))
  have hP32 : ((List.replicate 32 0).set (x.prob % 32) x.prob).length = 32 := by simp
  have hM : MkSt w W.heap.size #[.int .u8 (x.prob : Nat), .int .u8 (x.odd : Nat), .bool x.reach, .slice Ap x.plan.length cp, .slice Aq x.cubes.length cq] (cc (List.replicate 32 0) false (.slice none 0 0) (.slice none 0 0)) ((List.replicate 32 0).set (x.prob % 32) x.prob) x.reach [] [] (.slice none 0 0) (.slice none 0 0) W3 :=
    ⟨hB, hP, hR, hC2, World.ownsRow_nil _ _ _ _, World.ownsRow_nil _ _ _ _, by omega⟩
  have HMK : (makeC x).prob = ((List.replicate 32 0).set (x.prob % 32) x.prob) := rfl
  have HMK' := Lib.hid HMK
  generalize ((List.replicate 32 0).set (x.prob % 32) x.prob) = P at *
  have H32 := Lib.hid hP32
  clear hB hP hR hC2 HMK hP32
  generalize W.heap.size = C at *
  clear hlR hl1
  go_cut [3] from 8 (fun c w' => c = .pointer (some ⟨C, 0, none⟩) ∧ ∃ pv, MkSt w C #[.int .u8 (x.prob : Nat), .int .u8 (x.odd : Nat), .bool x.reach, .slice Ap x.plan.length cp, .slice Aq x.cubes.length cq] (cc (List.replicate 32 0) false (.slice none 0 0) (.slice none 0 0)) P x.reach (planM x) [] pv (.slice none 0 0) w')
  case first =>
    go_wp2_with fail
    go_loopw [4] (fun i wr => ∃ k : Nat, k ≤ 12 ∧ k ≤ x.plan.length ∧ i = .int .i64 k ∧ ∃ pv, MkSt w C #[.int .u8 (x.prob : Nat), .int .u8 (x.odd : Nat), .bool x.reach, .slice Ap x.plan.length cp, .slice Aq x.cubes.length cq] (cc (List.replicate 32 0) false (.slice none 0 0) (.slice none 0 0)) P x.reach ((x.plan.take k).map (stepO x.odd)) [] pv (.slice none 0 0) wr) (fun i _ => 12 - (intOf i).toNat)
    case atStart => exact ⟨0, by omega, by omega, rfl, _, by simpa using hM⟩
    case round =>
      clear hM
      obtain ⟨k, hk, hkl, rfl, pv, hM⟩ := hrel
      have p1 := hM.hP.cell 1
      have p3 := hM.hP.cell 3
      have p4 := hM.hP.cell 4
      have p2 := hM.hP.cell 2
      simp at p1 p2 p3 p4
      by_cases hc : k < x.plan.length ∧ k < 12
      · obtain ⟨h1, h2⟩ := hc
        obtain ⟨b, o, rfl, _, hb, hcell⟩ := (hp.ext hM.bel).int h1
        have hs := hcell k h1
        have c33 := hM.c33 H32.out
        have HT : (x.plan.take (k + 1)).map (stepO x.odd) = (x.plan.take k).map (stepO x.odd) ++ [stepO x.odd (x.plan.getD k 0)] := by
          rw [take_getD x.plan k 0 h1, List.map_append]; rfl
        have HT' := Lib.hid HT
        have hszr := hM.sz
        have hlen : ((x.plan.take k).map (stepO x.odd)).length = k := by simp; omega
        have ho1 := hM.own1
        rw [hlen] at ho1
        obtain ⟨A1, c1, rfl⟩ := own_shape2 ho1
        have HO1 := Lib.hid ho1
        clear hcell HT hlen ho1
        generalize x.plan.getD k 0 = s at *
        have HMh := Lib.hid hM
        clear hM
        by_cases h0 : x.odd = 0
        · have hd : ((x.odd : Int) == 0) = true := by simp [h0]
          have HS := Lib.hid (show stepO x.odd s = bits .and .i64 s 63 by simp [stepO, h0])
          clear h0
          go_wp2_with (first
            | ((with_reducible show wpList _ _ _ (⟨some 43, _, _, _, _, _⟩ :: _) _ _); refine wpList_push_op rfl rfl _ _ _ _ rfl rfl ty_ints w.heap.size (.slice A1 k c1) k _ (.int .i64 (bits .and .i64 s 63)) #[.int .i64 (bits .and .i64 s 63)] rfl (by kernel_rfl) rfl rfl rfl HO1.out (by intro u hu; simp at hu; subst hu; rfl) (by omega) (by omega) hszr ?_; intro v' w1 ho hg _; have HO := Lib.hid ho; have HG := Lib.hid hg; clear ho hg)
            | ((with_reducible show wpList _ _ _ (⟨none, _, _, _, _, _⟩ :: _) _ _); refine wpList_cstore_op rfl 22 _ _ rfl C 33 _ rfl rfl (own_box_grown HMh.out.hC HMh.out.own1 (by decide) HG.out) (by rw [cc_size _ _ _ _ H32.out]; omega) (own_cells HO.out) (own_one HO.out) (by kernel_rfl) ?_; intro w2 hC2 hU))
          refine ⟨⟨k + 1, by omega, h1, by go_num, v', ?_⟩, by simp [intOf]; omega⟩
          rw [HT'.out, HS.out]
          refine HMh.out.setPlan H32.out ?_ HG.out hC2 hU
          have := HO.out
          simpa [ints, show min k x.plan.length = k by omega] using this
        · have hd : ((x.odd : Int) == 0) = false := by simp; omega
          have HS := Lib.hid (show stepO x.odd s = s by simp [stepO, h0])
          clear h0
          go_wp2_with (first
            | ((with_reducible show wpList _ _ _ (⟨some 43, _, _, _, _, _⟩ :: _) _ _); refine wpList_push_op rfl rfl _ _ _ _ rfl rfl ty_ints w.heap.size (.slice A1 k c1) k _ (.int .i64 s) #[.int .i64 s] rfl (by kernel_rfl) rfl rfl rfl HO1.out (by intro u hu; simp at hu; subst hu; rfl) (by omega) (by omega) hszr ?_; intro v' w1 ho hg _; have HO := Lib.hid ho; have HG := Lib.hid hg; clear ho hg)
            | ((with_reducible show wpList _ _ _ (⟨none, _, _, _, _, _⟩ :: _) _ _); refine wpList_cstore_op rfl 22 _ _ rfl C 33 _ rfl rfl (own_box_grown HMh.out.hC HMh.out.own1 (by decide) HG.out) (by rw [cc_size _ _ _ _ H32.out]; omega) (own_cells HO.out) (own_one HO.out) (by kernel_rfl) ?_; intro w2 hC2 hU))
          refine ⟨⟨k + 1, by omega, h1, by go_num, v', ?_⟩, by simp [intOf]; omega⟩
          rw [HT'.out, HS.out]
          refine HMh.out.setPlan H32.out ?_ HG.out hC2 hU
          have := HO.out
          simpa [ints, show min k x.plan.length = k by omega] using this
      · have hk2 : planM x = (x.plan.take k).map (stepO x.odd) := by
          unfold planM
          congr 1
          rcases Nat.lt_or_ge k 12 with h | h
          · rw [List.take_of_length_le (i := 12) (by omega), List.take_of_length_le (i := k) (by omega)]
          · obtain rfl : k = 12 := by omega
            rfl
        have HK2 := Lib.hid hk2
        have HMh := Lib.hid hM
        clear hM hk2
        by_cases h1 : k < x.plan.length
        all_goals
          go_wp2_with fail
          go_meet
          case rel => exact ⟨rfl, pv, by rw [HK2.out]; exact HMh.out⟩
  case rest =>
    obtain ⟨rfl, pv, hM⟩ := hcut
    have hH := Lib.hid hM
    clear hM
    go_upto_block 2 with fail
    go_cut [3] from 8 (fun c w' => c = .pointer (some ⟨C, 0, none⟩) ∧ ∃ pv qv, MkSt w C #[.int .u8 (x.prob : Nat), .int .u8 (x.odd : Nat), .bool x.reach, .slice Ap x.plan.length cp, .slice Aq x.cubes.length cq] (cc (List.replicate 32 0) false (.slice none 0 0) (.slice none 0 0)) P x.reach (planM x) (cubesM x) pv qv w')
    case first =>
      go_wp2_with fail
      go_loopw [6] (fun i wr => ∃ k : Nat, k ≤ 8 ∧ k ≤ x.cubes.length ∧ i = .int .i64 k ∧ ∃ qv, MkSt w C #[.int .u8 (x.prob : Nat), .int .u8 (x.odd : Nat), .bool x.reach, .slice Ap x.plan.length cp, .slice Aq x.cubes.length cq] (cc (List.replicate 32 0) false (.slice none 0 0) (.slice none 0 0)) P x.reach (planM x) ((x.cubes.take k).map (fitO x.odd)) pv qv wr) (fun i _ => 8 - (intOf i).toNat)
      case atStart => exact ⟨0, by omega, by omega, rfl, _, by simpa using hH.out⟩
      case round =>
        clear hH
        obtain ⟨k, hk, hkl, rfl, qv, hM⟩ := hrel
        have p1 := hM.hP.cell 1
        have p3 := hM.hP.cell 3
        have p4 := hM.hP.cell 4
        have p2 := hM.hP.cell 2
        simp at p1 p2 p3 p4
        by_cases hc : k < x.cubes.length ∧ k < 8
        · obtain ⟨h1, h2⟩ := hc
          obtain ⟨rc, hrc, g0, g1, g2⟩ := rawCells_at x.cubes k h1
          obtain ⟨_, Aq', cq', hqe, _, _, hqc⟩ := hq.ext hM.bel
          injection hqe with hqe _ hqe2
          subst hqe
          subst hqe2
          obtain ⟨b, o, rfl, _, hb, hcell⟩ := hqc (by omega)
          have r0 := hcell _ _ g0
          have r1 := hcell _ _ g1
          have r2 := hcell _ _ g2
          rw [← Nat.add_assoc] at r1 r2
          have HT : (x.cubes.take (k + 1)).map (fitO x.odd) = (x.cubes.take k).map (fitO x.odd) ++ [fitO x.odd rc] := by
            rw [List.take_add_one, hrc, List.map_append]; rfl
          obtain ⟨z0, hz0⟩ : ∃ z0, z0 = fitO x.odd rc := ⟨_, rfl⟩
          rw [← hz0] at HT
          have HT' := Lib.hid HT
          have hok := HX.out.2.2 rc (List.mem_of_getElem? hrc)
          have hlen : ((x.cubes.take k).map (fitO x.odd)).length = k := by simp; omega
          have ho1 := hM.own2
          rw [hlen] at ho1
          obtain ⟨A1, c1, rfl⟩ := own_shape2 ho1
          have HO1 := Lib.hid ho1
          have HM := Lib.hid hM
          have hCl := hM.hC.lt
          have hlt1 := hM.lt
          have hszr := hM.sz
          have hlen0 := Lib.hid hlen
          clear hcell HT hlen ho1 hM g0 g1 g2 hqc hrc
          obtain ⟨ra, rb, rodd⟩ := rc
          dsimp only at r0 r1 r2 hok
          obtain ⟨bv, hbv⟩ : ∃ bv, bv = (rodd && decide (0 < x.odd)) := ⟨_, rfl⟩
          have hfo : z0 = fit ⟨ra, rb, bv⟩ := by rw [hz0, hbv]; rfl
          have HF := Lib.hid hfo
          have hcs : (rodd = false ∧ bv = false) ∨ (rodd = true ∧ x.odd = 0 ∧ bv = false) ∨ (rodd = true ∧ 0 < x.odd ∧ bv = true) := by
            cases rodd
            · left; exact ⟨rfl, by simp [hbv]⟩
            · rcases Nat.eq_zero_or_pos x.odd with h | h
              · right; left; exact ⟨rfl, h, by simp [hbv, h]⟩
              · right; right; exact ⟨rfl, h, by simp [hbv, h]⟩
          clear hfo hbv hz0
          have hlen' := hlen0.out
          rcases hcs with ⟨rfl, rfl⟩ | ⟨rfl, h0, rfl⟩ | ⟨rfl, h0, rfl⟩
          all_goals
            first
              | have hd : decide (0 < x.odd) = true := by simpa using h0
              | have hd : decide (0 < x.odd) = false := by simpa using h0
              | skip
            try clear h0
            go_upto_region 15 with (first
              | ((with_reducible show wpList _ _ _ (⟨some 7, _, _, _, _, _⟩ :: _) _ _); refine wpList_alloc_op rfl _ rfl (by kernel_rfl) ?_; intro W5 hY hb5; have HM5 := Lib.hid (HM.out.ext hb5); have hl5 := hY.lt)
              | ((with_reducible show wpList _ _ _ (⟨none, _, _, _, _, _⟩ :: _) _ _); refine wpList_store_op rfl 57 _ _ rfl wr.heap.size #[.int .u8 (ra : Nat), .int .u8 (rb : Nat), .bool _] rfl rfl _ _ hY (by kernel_rfl) (by kernel_rfl) (by kernel_rfl) ?_; intro W6 hY6 hU6; have HM6 := Lib.hid (HM5.out.upd hY hU6 (by omega) (by omega)); have q1 := HM6.out.hP.cell 1; have q2 := hY6.cell 2; simp at q1 q2)
              | ((with_reducible show wpList _ _ _ (⟨none, _, _, _, _, _⟩ :: _) _ _); refine wpList_cstore_op rfl 4 _ _ rfl wr.heap.size 2 (.bool false) rfl rfl hY6 (by simp) rfl rfl (by kernel_rfl) ?_; intro W7 hY7 hU7; have HM7 := Lib.hid (HM6.out.upd hY6 hU7 (by omega) (by omega)))
              | ((with_reducible show wpList _ _ _ (⟨none, _, _, _, _, _⟩ :: _) _ _); refine wpList_cstore_op rfl 4 _ _ rfl wr.heap.size 2 (.bool true) rfl rfl hY6 (by simp) rfl rfl (by kernel_rfl) ?_; intro W7 hY7 hU7; have HM7 := Lib.hid (HM6.out.upd hY6 hU7 (by omega) (by omega))))
            simp at hY7
            have hl6 := HM7.out.sz
            refine wp_region_tail (fun i v w => match i with
              | 0 => v = .pointer (some ⟨C, 34, none⟩)
              | 1 => v = .slice A1 k c1
              | 2 => ∃ bv', v = .agg #[.int .u8 (ra : Nat), .int .u8 (rb : Nat), .bool bv'] ∧ fit ⟨ra, rb, bv'⟩ = z0
              | 3 => v = rcube (z0)
              | 4 => Sl w (fun _ => True) 2 v 1 (rcells [z0])
              | 5 => True
              | 6 => True
              | 7 => True
              | _ => True) 5 [6, 7] (by kernel_rfl) (by kernel_rfl) (by kernel_rfl) (by kernel_rfl) (by kernel_rfl) ?mono ⟨.inr ?r0, .inr ?r1, .inr ?r2, .inr ?r3, .inr ?r4, .inl (by decide), .inl (by decide), .inl (by decide), trivial⟩ ?post
            case mono =>
              intro i v w w' h hb
              match i, h with
              | 0, h => exact h
              | 1, h => exact h
              | 2, h => exact h
              | 3, h => exact h
              | 4, h => exact Sl.ext h hb
              | 5, h => exact h
              | 6, h => exact h
              | 7, h => exact h
              | _ + 8, h => trivial
            case r0 =>
              refine trule fun b w hW hold hpre => ⟨fun hwant K hK => ?_, fun hwant => ?_⟩
              · clear hwant
                have e3 : b.eval (.tmp 3) = .pointer (some ⟨C, 0, none⟩) := (hold 3 (by kernel_rfl)).trans rfl
                exact opw_faddr rfl e3 (by kernel_rfl) (hK _ _ rfl (Below.refl _ _))
              · rw [want_none rfl] at hwant; cases hwant
            case r1 =>
              refine trule fun b w hW hold hpre => ⟨fun hwant K hK => ?_, fun hwant => ?_⟩
              · clear hwant
                have e70 : b.eval (.tmp 70) = .pointer (some ⟨C, 34, none⟩) := hpre ⟨0, _⟩ (Array.mem_of_getElem? (i := 0) rfl) rfl _ _ rfl rfl
                exact opw_cell rfl e70 (by kernel_rfl) ((HM7.out.ext (undrew hW)).c34 H32.out) (hK _ _ rfl (Below.refl _ _))
              · rw [want_none rfl] at hwant; cases hwant
            case r2 =>
              refine trule fun b w hW hold hpre => ⟨fun hwant K hK => ?_, fun hwant => ?_⟩
              · clear hwant
                have e7 : b.eval (.tmp 7) = .pointer (some ⟨wr.heap.size, 0, none⟩) := (hold 7 (by kernel_rfl)).trans rfl
                exact opw_row rfl e7 (hY7.ext (undrew hW)) Tryz.underlying57 rfl (by kernel_rfl) (hK _ _ ⟨_, rfl, HF.out.symm⟩ (Below.refl _ _))
              · rw [want_none rfl] at hwant; cases hwant
            case r3 =>
              refine trule fun b w hW hold hpre => ⟨fun hwant K hK => ?_, fun hwant => ?_⟩
              · clear hwant
                have e72 : (fun (v : Value) (w : World) => ∃ bv', v = .agg #[.int .u8 (ra : Nat), .int .u8 (rb : Nat), .bool bv'] ∧ fit ⟨ra, rb, bv'⟩ = z0) (b.eval (.tmp 72)) w := hpre ⟨2, _⟩ (Array.mem_of_getElem? (i := 0) rfl) rfl _ _ rfl rfl
                obtain ⟨bv', e1, e2⟩ := e72
                exact opw_call rfl (by kernel_rfl) (by simp [e1]) (fit_any ⟨ra, rb, bv'⟩ hok w) fun v w' h hb => hK v w' (show v = _ from h.trans (congrArg rcube e2)) hb
              · rw [want_none rfl] at hwant; cases hwant
            case r4 =>
              refine trule fun b w hW hold hpre => ⟨fun hwant K hK => ?_, fun hwant => ?_⟩
              · clear hwant
                have e73 : b.eval (.tmp 73) = rcube (z0) := hpre ⟨3, _⟩ (Array.mem_of_getElem? (i := 0) rfl) rfl _ _ rfl rfl
                refine opw_slice rfl Tryz.underlying28 (ps := [(0, rcube (z0))]) (by simp [e73]) (cells := #[.int .u64 (z0.1 : Nat), .int .u64 (z0.2 : Nat)]) (by kernel_rfl) fun w' hX hb => hK _ _ ((Sl.of_box (n := 1) (size := 2) hX rfl (by omega)).imp fun _ _ _ => trivial) hb
              · rw [want_none rfl] at hwant; cases hwant
            case post =>
              intro b wz hW hdf hsz hold hT
              have e71 : b.eval (.tmp 71) = .slice A1 k c1 := hT 1 _ 71 (by decide) rfl rfl
              have e74 : (fun (v : Value) (w : World) => Sl w (fun _ => True) 2 v 1 (rcells [z0])) (b.eval (.tmp 74)) wz := hT 4 _ 74 (by decide) rfl rfl
              have e3 : b.eval (.tmp 3) = .pointer (some ⟨C, 0, none⟩) := (hold 3 (by kernel_rfl)).trans rfl
              have e70 : b.eval (.tmp 70) = .pointer (some ⟨C, 34, none⟩) := hT 0 _ 70 (by decide) rfl rfl
              have e72 : (fun (v : Value) (w : World) => ∃ bv', v = .agg #[.int .u8 (ra : Nat), .int .u8 (rb : Nat), .bool bv'] ∧ fit ⟨ra, rb, bv'⟩ = z0) (b.eval (.tmp 72)) wz := hT 2 _ 72 (by decide) rfl rfl
              have e73 : b.eval (.tmp 73) = rcube (z0) := hT 3 _ 73 (by decide) rfl rfl
              obtain ⟨vs, hvs, hb⟩ := frame_of hdf hsz hold
              replace e71 : vs 71 = .slice A1 k c1 := (hvs 71).symm.trans e71
              replace e74 := (hvs 74) ▸ e74
              clear e3
              replace e70 : vs 70 = .pointer (some ⟨C, 34, none⟩) := (hvs 70).symm.trans e70
              replace e72 := (hvs 72) ▸ e72
              replace e73 : vs 73 = rcube (z0) := (hvs 73).symm.trans e73
              subst hb
              clear hvs hold hT hdf hsz
              simp only [setAll, Act.put, List.setIfInBounds_toArray, List.set_cons_zero, List.set_cons_succ, List.getElem_toArray, List.getElem_cons_succ, List.getElem_cons_zero]
              have hM8 := HM7.out.ext hW
              have HO8 := own_ext (own_len HM7.out.own2 hlen') hW
              (intro o_ ho_; simp only [List.getElem?_toArray, List.getElem?_cons_succ, List.getElem?_cons_zero, Option.some.injEq] at ho_; subst ho_)
              refine opw_app rfl ty_rcubes e71 HO8 rfl e74 (rcells_one _) (by omega) (by omega) hM8.sz fun v9 w9 ho9 hg9 hat9 => ?_
              (intro o_ ho_; simp only [List.getElem?_toArray, List.getElem?_cons_succ, List.getElem?_cons_zero, Option.some.injEq] at ho_; subst ho_)
              simp only [Act.put, List.setIfInBounds_toArray, List.set_cons_zero, List.set_cons_succ]
              refine opw_faddr (vx := .pointer (some ⟨C, 0, none⟩)) (v := .pointer (some ⟨C, 34, none⟩)) rfl rfl (by kernel_rfl) ?_
              (intro o_ ho_; simp only [List.getElem?_toArray, List.getElem?_cons_succ, List.getElem?_cons_zero, Option.some.injEq] at ho_; subst ho_)
              simp only [Act.put, List.setIfInBounds_toArray, List.set_cons_zero, List.set_cons_succ]
              refine opw_cstore (v := v9) rfl rfl rfl (own_box_grown hM8.hC hM8.own2 (by decide) hg9) (by rw [cc_size _ _ _ _ H32.out]; omega) (own_cells ho9) (own_one ho9) (by kernel_rfl) fun w10 hC10 hU10 => ?_
              have hM10 := hM8.setCubes (cubes' := (x.cubes.take (k + 1)).map (fitO x.odd)) H32.out (by rw [HT'.out, rcells_append, List.length_append, hlen']; exact ho9) hg9 hC10 hU10
              simp only [TailWp]
              simp only [Act.put, List.setIfInBounds_toArray, List.set_cons_zero, List.set_cons_succ]
              go_wp2_with fail
              refine ⟨⟨k + 1, by omega, h1, by go_num, v9, hM10⟩, by simp [intOf]; omega⟩
        · have hk2 : cubesM x = (x.cubes.take k).map (fitO x.odd) := by
            unfold cubesM
            congr 1
            rcases Nat.lt_or_ge k 8 with h | h
            · rw [List.take_of_length_le (i := 8) (by omega), List.take_of_length_le (i := k) (by omega)]
            · obtain rfl : k = 8 := by omega
              rfl
          have HK2 := Lib.hid hk2
          have HMh := Lib.hid hM
          clear hM hk2
          by_cases h1 : k < x.cubes.length
          all_goals
            go_wp2_with fail
            go_meet
            case rel => exact ⟨rfl, pv, qv, by rw [HK2.out]; exact HMh.out⟩
    case rest =>
      obtain ⟨rfl, pv, qv, hM⟩ := hcut
      have HMR := Lib.hid (show (makeC x).reach = x.reach from rfl)
      have p1 := hM.hP.cell 1
      have p2 := hM.hP.cell 2
      have c33 := hM.c33 H32.out
      have c34 := hM.c34 H32.out
      simp at p1 p2
      have hlt := hM.lt
      have hsz := hM.sz
      obtain ⟨A1, c1, rfl⟩ := own_shape2 hM.own1
      obtain ⟨A2, c2, rfl⟩ := own_shape2 hM.own2
      have hdc : ∀ n : Nat, ((x.odd : Int) == (n : Int)) = (x.odd == n) := fun n => by
        rw [Bool.eq_iff_iff, beq_iff_eq, beq_iff_eq]; omega
      have d1 := hdc 1
      have d9 := hdc 9
      have d8 := hdc 8
      have d0 := hdc 0
      change ((x.odd : Int) == 1) = _ at d1
      change ((x.odd : Int) == 9) = _ at d9
      change ((x.odd : Int) == 8) = _ at d8
      change ((x.odd : Int) == 0) = _ at d0
      have HMe := Lib.hid hM
      clear hM hdc
      by_cases h9 : x.odd = 9
      · rw [show (x.odd == 1) = false by simp [*]] at d1
        rw [show (x.odd == 9) = true by simp [*]] at d9
        rw [show (x.odd == 8) = false by simp [*]] at d8
        rw [show (x.odd == 0) = false by simp [*]] at d0
        have HMP := Lib.hid (show (makeC x).plan = planM x by unfold makeC; dsimp only; rw [if_neg (by omega), if_neg (by omega)])
        have HMC := Lib.hid (show (makeC x).cubes = List.replicate 2001 (0, 0) by unfold makeC; dsimp only; rw [if_neg (by omega), if_pos h9])
        clear h9
        go_wp2_with (first
          | ((with_reducible show wpList _ _ _ (⟨some 99, _, _, _, _, _⟩ :: _) _ _); refine wpList_mk_op rfl _ _ _ rfl ty_rcubes .i64 .i64 2001 #[.int .u64 0, .int .u64 0] rfl rfl (by kernel_rfl) (by omega) (by omega) ?_; intro w1 ho hb; have HO := Lib.hid ho; have HG := Lib.hid hb; clear ho hb)
          | ((with_reducible show wpList _ _ _ (⟨none, _, _, _, _, _⟩ :: _) _ _); refine wpList_cstore_op rfl 28 _ _ rfl C 34 (.slice (some ⟨wc.heap.size, 0, none⟩) 2001 2001) rfl rfl (HMe.out.hC.ext HG.out) (by rw [cc_size _ _ _ _ H32.out]; omega) rfl rfl (by kernel_rfl) ?_; intro w2 hC2 hU2; have HMf := Lib.hid (HMe.out.setCubes (cubes' := List.replicate 2001 (0, 0)) H32.out (by rw [List.length_replicate, ← made_rcells]; exact own_base HO.out HMe.out.sz) (below_grown HG.out _) hC2 hU2); have q1 := HMf.out.hP.cell 1; have q2 := HMf.out.hP.cell 2; simp at q1 q2)
          | ((with_reducible show wpList _ _ _ (⟨some 123, _, _, _, _, _⟩ :: _) _ _); refine wpList_load_op rfl _ _ rfl C rfl _ _ HMf.out.hC _ Tryz.underlying30 rfl (cc_info _ _ _ _ H32.out) ?_)
          | ((with_reducible show wpList _ _ _ (⟨none, _, _, _, _, _⟩ :: _) _ _); refine wpList_store_op rfl 30 _ _ rfl (w.heap.size + 1) _ rfl rfl _ _ HMf.out.hR (cc_info _ _ _ _ H32.out) (by rw [cc_size _ _ _ _ (by simp), cc_size _ _ _ _ H32.out]) (cc_one' HMf.out.own1 HMf.out.own2) ?_; intro wf hXf hUf))
        exact ret_cell rfl rfl hXf Tryz.underlying30 rfl (cc_info _ _ _ _ H32.out) rfl (Ret.mk ⟨_, _, by rw [HMK'.out, HMR.out], by rw [HMP.out]; exact Sl.of_own (own_upd HMf.out.own1 HMf.out.hR (by decide) hUf), by rw [HMC.out]; exact Sl.of_own (own_upd HMf.out.own2 HMf.out.hR (by decide) hUf)⟩ (hUf.below HMf.out.bel (by omega)))
      by_cases h8 : x.odd = 8
      · rw [show (x.odd == 1) = false by simp [*]] at d1
        rw [show (x.odd == 9) = false by simp [*]] at d9
        rw [show (x.odd == 8) = true by simp [*]] at d8
        rw [show (x.odd == 0) = false by simp [*]] at d0
        have HMP := Lib.hid (show (makeC x).plan = List.replicate 10001 0 by unfold makeC; dsimp only; rw [if_pos h8])
        have HMC := Lib.hid (show (makeC x).cubes = cubesM x by unfold makeC; dsimp only; rw [if_neg (by omega), if_neg (by omega), if_neg (by omega)])
        clear h8 h9
        go_wp2_with (first
          | ((with_reducible show wpList _ _ _ (⟨some 104, _, _, _, _, _⟩ :: _) _ _); refine wpList_mk_op rfl _ _ _ rfl ty_ints .i64 .i64 10001 #[.int .i64 0] rfl rfl (by kernel_rfl) (by omega) (by omega) ?_; intro w1 ho hb; have HO := Lib.hid ho; have HG := Lib.hid hb; clear ho hb)
          | ((with_reducible show wpList _ _ _ (⟨none, _, _, _, _, _⟩ :: _) _ _); refine wpList_cstore_op rfl 22 _ _ rfl C 33 (.slice (some ⟨wc.heap.size, 0, none⟩) 10001 10001) rfl rfl (HMe.out.hC.ext HG.out) (by rw [cc_size _ _ _ _ H32.out]; omega) rfl rfl (by kernel_rfl) ?_; intro w2 hC2 hU2; have HMf := Lib.hid (HMe.out.setPlan (plan' := List.replicate 10001 0) H32.out (by rw [List.length_replicate, ← made_ints]; exact own_base HO.out HMe.out.sz) (below_grown HG.out _) hC2 hU2); have q1 := HMf.out.hP.cell 1; have q2 := HMf.out.hP.cell 2; simp at q1 q2)
          | ((with_reducible show wpList _ _ _ (⟨some 123, _, _, _, _, _⟩ :: _) _ _); refine wpList_load_op rfl _ _ rfl C rfl _ _ HMf.out.hC _ Tryz.underlying30 rfl (cc_info _ _ _ _ H32.out) ?_)
          | ((with_reducible show wpList _ _ _ (⟨none, _, _, _, _, _⟩ :: _) _ _); refine wpList_store_op rfl 30 _ _ rfl (w.heap.size + 1) _ rfl rfl _ _ HMf.out.hR (cc_info _ _ _ _ H32.out) (by rw [cc_size _ _ _ _ (by simp), cc_size _ _ _ _ H32.out]) (cc_one' HMf.out.own1 HMf.out.own2) ?_; intro wf hXf hUf))
        exact ret_cell rfl rfl hXf Tryz.underlying30 rfl (cc_info _ _ _ _ H32.out) rfl (Ret.mk ⟨_, _, by rw [HMK'.out, HMR.out], by rw [HMP.out]; exact Sl.of_own (own_upd HMf.out.own1 HMf.out.hR (by decide) hUf), by rw [HMC.out]; exact Sl.of_own (own_upd HMf.out.own2 HMf.out.hR (by decide) hUf)⟩ (hUf.below HMf.out.bel (by omega)))
      by_cases h0 : x.odd = 0
      · cases hr : x.reach
        · rw [show (x.odd == 1) = false by simp [*]] at d1
          rw [show (x.odd == 9) = false by simp [*]] at d9
          rw [show (x.odd == 8) = false by simp [*]] at d8
          rw [show (x.odd == 0) = true by simp [*]] at d0
          have HMP := Lib.hid (show (makeC x).plan = [] by unfold makeC; dsimp only; rw [if_neg (by omega), if_pos ⟨h0, hr⟩])
          have HMC := Lib.hid (show (makeC x).cubes = cubesM x by unfold makeC; dsimp only; rw [if_neg (by omega), if_neg (by omega), if_neg (by simp [hr])])
          clear h8 h9 h0
          rw [hr] at HMe HMR p2
          clear hr
          go_wp2_with (first
            | ((with_reducible show wpList _ _ _ (⟨none, _, _, _, _, _⟩ :: _) _ _); refine wpList_cstore_op rfl 22 _ _ rfl C 33 (.slice none 0 0) rfl rfl HMe.out.hC (by rw [cc_size _ _ _ _ H32.out]; omega) rfl rfl (by kernel_rfl) ?_; intro w2 hC2 hU2; have HMf := Lib.hid (HMe.out.setPlan (plan' := []) H32.out (World.ownsRow_nil _ _ _ _) (World.grownBy.refl _ _) hC2 hU2); have q1 := HMf.out.hP.cell 1; have q2 := HMf.out.hP.cell 2; simp at q1 q2)
            | ((with_reducible show wpList _ _ _ (⟨some 123, _, _, _, _, _⟩ :: _) _ _); refine wpList_load_op rfl _ _ rfl C rfl _ _ HMf.out.hC _ Tryz.underlying30 rfl (cc_info _ _ _ _ H32.out) ?_)
            | ((with_reducible show wpList _ _ _ (⟨none, _, _, _, _, _⟩ :: _) _ _); refine wpList_store_op rfl 30 _ _ rfl (w.heap.size + 1) _ rfl rfl _ _ HMf.out.hR (cc_info _ _ _ _ H32.out) (by rw [cc_size _ _ _ _ (by simp), cc_size _ _ _ _ H32.out]) (cc_one' HMf.out.own1 HMf.out.own2) ?_; intro wf hXf hUf))
          exact ret_cell rfl rfl hXf Tryz.underlying30 rfl (cc_info _ _ _ _ H32.out) rfl (Ret.mk ⟨_, _, by rw [HMK'.out, HMR.out], by rw [HMP.out]; exact Sl.of_own (own_upd HMf.out.own1 HMf.out.hR (by decide) hUf), by rw [HMC.out]; exact Sl.of_own (own_upd HMf.out.own2 HMf.out.hR (by decide) hUf)⟩ (hUf.below HMf.out.bel (by omega)))
        · rw [show (x.odd == 1) = false by simp [*]] at d1
          rw [show (x.odd == 9) = false by simp [*]] at d9
          rw [show (x.odd == 8) = false by simp [*]] at d8
          rw [show (x.odd == 0) = true by simp [*]] at d0
          have HMP := Lib.hid (show (makeC x).plan = planM x by unfold makeC; dsimp only; rw [if_neg (by omega), if_neg (by simp [hr])])
          have HMC := Lib.hid (show (makeC x).cubes = [] by unfold makeC; dsimp only; rw [if_neg (by omega), if_neg (by omega), if_pos ⟨h0, hr⟩])
          clear h8 h9 h0
          rw [hr] at HMe HMR p2
          clear hr
          go_wp2_with (first
            | ((with_reducible show wpList _ _ _ (⟨none, _, _, _, _, _⟩ :: _) _ _); refine wpList_cstore_op rfl 28 _ _ rfl C 34 (.slice none 0 0) rfl rfl HMe.out.hC (by rw [cc_size _ _ _ _ H32.out]; omega) rfl rfl (by kernel_rfl) ?_; intro w2 hC2 hU2; have HMf := Lib.hid (HMe.out.setCubes (cubes' := []) H32.out (World.ownsRow_nil _ _ _ _) (World.grownBy.refl _ _) hC2 hU2); have q1 := HMf.out.hP.cell 1; have q2 := HMf.out.hP.cell 2; simp at q1 q2)
            | ((with_reducible show wpList _ _ _ (⟨some 123, _, _, _, _, _⟩ :: _) _ _); refine wpList_load_op rfl _ _ rfl C rfl _ _ HMf.out.hC _ Tryz.underlying30 rfl (cc_info _ _ _ _ H32.out) ?_)
            | ((with_reducible show wpList _ _ _ (⟨none, _, _, _, _, _⟩ :: _) _ _); refine wpList_store_op rfl 30 _ _ rfl (w.heap.size + 1) _ rfl rfl _ _ HMf.out.hR (cc_info _ _ _ _ H32.out) (by rw [cc_size _ _ _ _ (by simp), cc_size _ _ _ _ H32.out]) (cc_one' HMf.out.own1 HMf.out.own2) ?_; intro wf hXf hUf))
          exact ret_cell rfl rfl hXf Tryz.underlying30 rfl (cc_info _ _ _ _ H32.out) rfl (Ret.mk ⟨_, _, by rw [HMK'.out, HMR.out], by rw [HMP.out]; exact Sl.of_own (own_upd HMf.out.own1 HMf.out.hR (by decide) hUf), by rw [HMC.out]; exact Sl.of_own (own_upd HMf.out.own2 HMf.out.hR (by decide) hUf)⟩ (hUf.below HMf.out.bel (by omega)))
      by_cases h1 : x.odd = 1
      · by_cases hn : cubesM x = []
        · rw [show (x.odd == 1) = true by simp [*]] at d1
          rw [show (x.odd == 9) = false by simp [*]] at d9
          rw [show (x.odd == 8) = false by simp [*]] at d8
          rw [show (x.odd == 0) = false by simp [*]] at d0
          have HMP := Lib.hid (show (makeC x).plan = planM x by unfold makeC; dsimp only; rw [if_neg (by omega), if_neg (by omega)])
          have HMC := Lib.hid (show (makeC x).cubes = [] by unfold makeC; dsimp only; rw [if_pos h1, hn]; rfl)
          rw [hn] at HMe c34
          clear h8 h9 h0 h1 hn
          go_wp2_with (first
            | ((with_reducible show wpList _ _ _ (⟨some 123, _, _, _, _, _⟩ :: _) _ _); refine wpList_load_op rfl _ _ rfl C rfl _ _ HMe.out.hC _ Tryz.underlying30 rfl (cc_info _ _ _ _ H32.out) ?_)
            | ((with_reducible show wpList _ _ _ (⟨none, _, _, _, _, _⟩ :: _) _ _); refine wpList_store_op rfl 30 _ _ rfl (w.heap.size + 1) _ rfl rfl _ _ HMe.out.hR (cc_info _ _ _ _ H32.out) (by rw [cc_size _ _ _ _ (by simp), cc_size _ _ _ _ H32.out]) (cc_one' HMe.out.own1 HMe.out.own2) ?_; intro wf hXf hUf))
          exact ret_cell rfl rfl hXf Tryz.underlying30 rfl (cc_info _ _ _ _ H32.out) rfl (Ret.mk ⟨_, _, by rw [HMK'.out, HMR.out], by rw [HMP.out]; exact Sl.of_own (own_upd HMe.out.own1 HMe.out.hR (by decide) hUf), by rw [HMC.out]; exact Sl.of_own (own_upd HMe.out.own2 HMe.out.hR (by decide) hUf)⟩ (hUf.below HMe.out.bel (by omega)))
        · rw [show (x.odd == 1) = true by simp [*]] at d1
          rw [show (x.odd == 9) = false by simp [*]] at d9
          rw [show (x.odd == 8) = false by simp [*]] at d8
          rw [show (x.odd == 0) = false by simp [*]] at d0
          obtain ⟨⟨y1, n1⟩, r1, hn'⟩ : ∃ z r, cubesM x = z :: r := by cases h : cubesM x with | nil => exact absurd h hn | cons z r => exact ⟨z, r, rfl⟩
          have hsm : y1 < T64 := by
            have : (y1, n1) ∈ cubesM x := by rw [hn']; simp
            exact (cubesM_small HX.out (y1, n1) this).1
          have HMP := Lib.hid (show (makeC x).plan = planM x by unfold makeC; dsimp only; rw [if_neg (by omega), if_neg (by omega)])
          have HMC := Lib.hid (show (makeC x).cubes = (y1 ||| 1, n1) :: r1 by unfold makeC; dsimp only; rw [if_pos h1, hn']; rfl)
          rw [hn'] at HMe c34
          clear h8 h9 h0 h1 hn hn'
          obtain ⟨g, hA2⟩ : ∃ g, A2 = some ⟨g, 0, none⟩ := by
            rcases HMe.out.own2.2 with ⟨h, h'⟩ | ⟨g, cap, cur, h, _⟩
            · simp at h'
            · injection h with h; exact ⟨g, h⟩
          subst hA2
          have hia := fun (w : World) => idx0 (r1.length) g c2 w
          have HIA := Lib.hid hia
          clear hia
          have hor := or64 hsm (b := 1) (by unfold T64; omega)
          go_upto_region 17 with fail
          refine wp_region_tail (fun i v w => match i with
            | 0 => v = .pointer (some ⟨C, 34, none⟩)
            | 1 => v = .slice (some ⟨g, 0, none⟩) (r1.length + 1) c2
            | 2 => v = .pointer (some ⟨C, 34, none⟩)
            | 3 => v = .slice (some ⟨g, 0, none⟩) (r1.length + 1) c2
            | 4 => v = .pointer (some ⟨g, 0, none⟩)
            | 5 => v = .pointer (some ⟨g, 0, none⟩)
            | 6 => v = .int .u64 (y1 : Nat)
            | 7 => v = .int .u64 ((y1 ||| 1 : Nat) : Int)
            | 8 => v = .pointer (some ⟨g, 0, none⟩)
            | 9 => v = .pointer (some ⟨g, 0, none⟩)
            | 10 => True
            | _ => True) 10 [] (by kernel_rfl) (by kernel_rfl) (by kernel_rfl) (by kernel_rfl) (by kernel_rfl) ?mono ⟨.inr ?r0, .inr ?r1, .inr ?r2, .inr ?r3, .inr ?r4, .inr ?r5, .inr ?r6, .inr ?r7, .inr ?r8, .inr ?r9, .inl (by decide), trivial⟩ ?post
          case mono =>
            intro i v w w' h hb
            match i, h with
            | 0, h => exact h
            | 1, h => exact h
            | 2, h => exact h
            | 3, h => exact h
            | 4, h => exact h
            | 5, h => exact h
            | 6, h => exact h
            | 7, h => exact h
            | 8, h => exact h
            | 9, h => exact h
            | 10, h => exact h
            | _ + 11, h => trivial
          case r0 =>
            refine trule fun b w hW hold hpre => ⟨fun hwant K hK => ?_, fun hwant => ?_⟩
            · clear hwant
              have e3 : b.eval (.tmp 3) = .pointer (some ⟨C, 0, none⟩) := (hold 3 (by kernel_rfl)).trans rfl
              exact opw_faddr rfl e3 (by kernel_rfl) (hK _ _ rfl (Below.refl _ _))
            · rw [want_none rfl] at hwant; cases hwant
          case r1 =>
            refine trule fun b w hW hold hpre => ⟨fun hwant K hK => ?_, fun hwant => ?_⟩
            · clear hwant
              have e86 : b.eval (.tmp 86) = .pointer (some ⟨C, 34, none⟩) := hpre ⟨0, _⟩ (Array.mem_of_getElem? (i := 0) rfl) rfl _ _ rfl rfl
              exact opw_cell rfl e86 (by kernel_rfl) ((HMe.out.ext (undrew hW)).c34 H32.out) (hK _ _ rfl (Below.refl _ _))
            · rw [want_none rfl] at hwant; cases hwant
          case r2 =>
            refine trule fun b w hW hold hpre => ⟨fun hwant K hK => ?_, fun hwant => ?_⟩
            · clear hwant
              have e3 : b.eval (.tmp 3) = .pointer (some ⟨C, 0, none⟩) := (hold 3 (by kernel_rfl)).trans rfl
              exact opw_faddr rfl e3 (by kernel_rfl) (hK _ _ rfl (Below.refl _ _))
            · rw [want_none rfl] at hwant; cases hwant
          case r3 =>
            refine trule fun b w hW hold hpre => ⟨fun hwant K hK => ?_, fun hwant => ?_⟩
            · clear hwant
              have e88 : b.eval (.tmp 88) = .pointer (some ⟨C, 34, none⟩) := hpre ⟨2, _⟩ (Array.mem_of_getElem? (i := 0) rfl) rfl _ _ rfl rfl
              exact opw_cell rfl e88 (by kernel_rfl) ((HMe.out.ext (undrew hW)).c34 H32.out) (hK _ _ rfl (Below.refl _ _))
            · rw [want_none rfl] at hwant; cases hwant
          case r4 =>
            refine trule fun b w hW hold hpre => ⟨fun hwant K hK => ?_, fun hwant => ?_⟩
            · clear hwant
              have e89 : b.eval (.tmp 89) = .slice (some ⟨g, 0, none⟩) (r1.length + 1) c2 := hpre ⟨3, _⟩ (Array.mem_of_getElem? (i := 0) rfl) rfl _ _ rfl rfl
              exact opw_iaddr rfl e89 rfl (HIA.out w) (hK _ _ rfl (Below.refl _ _))
            · rw [want_none rfl] at hwant; cases hwant
          case r5 =>
            refine trule fun b w hW hold hpre => ⟨fun hwant K hK => ?_, fun hwant => ?_⟩
            · clear hwant
              have e90 : b.eval (.tmp 90) = .pointer (some ⟨g, 0, none⟩) := hpre ⟨4, _⟩ (Array.mem_of_getElem? (i := 0) rfl) rfl _ _ rfl rfl
              exact opw_faddr rfl e90 (by kernel_rfl) (hK _ _ rfl (Below.refl _ _))
            · rw [want_none rfl] at hwant; cases hwant
          case r6 =>
            refine trule fun b w hW hold hpre => ⟨fun hwant K hK => ?_, fun hwant => ?_⟩
            · clear hwant
              have e91 : b.eval (.tmp 91) = .pointer (some ⟨g, 0, none⟩) := hpre ⟨5, _⟩ (Array.mem_of_getElem? (i := 0) rfl) rfl _ _ rfl rfl
              exact opw_cell rfl e91 (by kernel_rfl) (own_cell (HMe.out.ext (undrew hW)).own2 0 _ (by simp [rcells])) (hK _ _ rfl (Below.refl _ _))
            · rw [want_none rfl] at hwant; cases hwant
          case r7 =>
            refine trule fun b w hW hold hpre => ⟨fun hwant K hK => ?_, fun hwant => ?_⟩
            · clear hwant
              have e92 : b.eval (.tmp 92) = .int .u64 (y1 : Nat) := hpre ⟨6, _⟩ (Array.mem_of_getElem? (i := 0) rfl) rfl _ _ rfl rfl
              exact opw_bin (vy := .int .u64 1) rfl e92 rfl rfl (by rw [← hor]; go_simp) (hK _ _ rfl (Below.refl _ _))
            · rw [want_none rfl] at hwant; cases hwant
          case r8 =>
            refine trule fun b w hW hold hpre => ⟨fun hwant K hK => ?_, fun hwant => ?_⟩
            · clear hwant
              have e87 : b.eval (.tmp 87) = .slice (some ⟨g, 0, none⟩) (r1.length + 1) c2 := hpre ⟨1, _⟩ (Array.mem_of_getElem? (i := 0) rfl) rfl _ _ rfl rfl
              exact opw_iaddr rfl e87 rfl (HIA.out w) (hK _ _ rfl (Below.refl _ _))
            · rw [want_none rfl] at hwant; cases hwant
          case r9 =>
            refine trule fun b w hW hold hpre => ⟨fun hwant K hK => ?_, fun hwant => ?_⟩
            · clear hwant
              have e94 : b.eval (.tmp 94) = .pointer (some ⟨g, 0, none⟩) := hpre ⟨8, _⟩ (Array.mem_of_getElem? (i := 0) rfl) rfl _ _ rfl rfl
              exact opw_faddr rfl e94 (by kernel_rfl) (hK _ _ rfl (Below.refl _ _))
            · rw [want_none rfl] at hwant; cases hwant
          case post =>
            intro b wz hW hdf hsz hold hT
            have e95 : b.eval (.tmp 95) = .pointer (some ⟨g, 0, none⟩) := hT 9 _ 95 (by decide) rfl rfl
            have e93 : b.eval (.tmp 93) = .int .u64 ((y1 ||| 1 : Nat) : Int) := hT 7 _ 93 (by decide) rfl rfl
            have e86 : b.eval (.tmp 86) = .pointer (some ⟨C, 34, none⟩) := hT 0 _ 86 (by decide) rfl rfl
            have e87 : b.eval (.tmp 87) = .slice (some ⟨g, 0, none⟩) (r1.length + 1) c2 := hT 1 _ 87 (by decide) rfl rfl
            have e88 : b.eval (.tmp 88) = .pointer (some ⟨C, 34, none⟩) := hT 2 _ 88 (by decide) rfl rfl
            have e89 : b.eval (.tmp 89) = .slice (some ⟨g, 0, none⟩) (r1.length + 1) c2 := hT 3 _ 89 (by decide) rfl rfl
            have e90 : b.eval (.tmp 90) = .pointer (some ⟨g, 0, none⟩) := hT 4 _ 90 (by decide) rfl rfl
            have e91 : b.eval (.tmp 91) = .pointer (some ⟨g, 0, none⟩) := hT 5 _ 91 (by decide) rfl rfl
            have e92 : b.eval (.tmp 92) = .int .u64 (y1 : Nat) := hT 6 _ 92 (by decide) rfl rfl
            have e94 : b.eval (.tmp 94) = .pointer (some ⟨g, 0, none⟩) := hT 8 _ 94 (by decide) rfl rfl
            obtain ⟨vs, hvs, hb⟩ := frame_of hdf hsz hold
            replace e95 : vs 95 = .pointer (some ⟨g, 0, none⟩) := (hvs 95).symm.trans e95
            replace e93 : vs 93 = .int .u64 ((y1 ||| 1 : Nat) : Int) := (hvs 93).symm.trans e93
            replace e86 : vs 86 = .pointer (some ⟨C, 34, none⟩) := (hvs 86).symm.trans e86
            replace e87 : vs 87 = .slice (some ⟨g, 0, none⟩) (r1.length + 1) c2 := (hvs 87).symm.trans e87
            replace e88 : vs 88 = .pointer (some ⟨C, 34, none⟩) := (hvs 88).symm.trans e88
            replace e89 : vs 89 = .slice (some ⟨g, 0, none⟩) (r1.length + 1) c2 := (hvs 89).symm.trans e89
            replace e90 : vs 90 = .pointer (some ⟨g, 0, none⟩) := (hvs 90).symm.trans e90
            replace e91 : vs 91 = .pointer (some ⟨g, 0, none⟩) := (hvs 91).symm.trans e91
            replace e92 : vs 92 = .int .u64 (y1 : Nat) := (hvs 92).symm.trans e92
            replace e94 : vs 94 = .pointer (some ⟨g, 0, none⟩) := (hvs 94).symm.trans e94
            subst hb
            clear hvs hold hT hdf hsz
            simp only [setAll, Act.put, List.setIfInBounds_toArray, List.set_cons_zero, List.set_cons_succ, List.getElem_toArray, List.getElem_cons_succ, List.getElem_cons_zero]
            have HM8 := Lib.hid (HMe.out.ext hW)
            (intro o_ ho_; simp only [List.getElem?_toArray, List.getElem?_cons_succ, List.getElem?_cons_zero, Option.some.injEq] at ho_; subst ho_)
            refine opw_ostore (v := .int .u64 ((y1 ||| 1 : Nat) : Int)) rfl e95 e93 HM8.out.own2 (by simp) rfl rfl (by kernel_rfl) fun w10 ho10 hU10 => ?_
            have HMf := Lib.hid (HM8.out.ostore (cubes' := (y1 ||| 1, n1) :: r1) (by simpa [rcells] using ho10) hU10)
            have q1 := HMf.out.hP.cell 1
            have q2 := HMf.out.hP.cell 2
            simp at q1 q2
            simp only [TailWp]
            simp only [Act.put, List.setIfInBounds_toArray, List.set_cons_zero, List.set_cons_succ]
            go_wp2_with (first
              | ((with_reducible show wpList _ _ _ (⟨some 123, _, _, _, _, _⟩ :: _) _ _); refine wpList_load_op rfl _ _ rfl C rfl _ _ HMf.out.hC _ Tryz.underlying30 rfl (cc_info _ _ _ _ H32.out) ?_)
              | ((with_reducible show wpList _ _ _ (⟨none, _, _, _, _, _⟩ :: _) _ _); refine wpList_store_op rfl 30 _ _ rfl (w.heap.size + 1) _ rfl rfl _ _ HMf.out.hR (cc_info _ _ _ _ H32.out) (by rw [cc_size _ _ _ _ (by simp), cc_size _ _ _ _ H32.out]) (cc_one' HMf.out.own1 HMf.out.own2) ?_; intro wf hXf hUf))
            exact ret_cell rfl rfl hXf Tryz.underlying30 rfl (cc_info _ _ _ _ H32.out) rfl (Ret.mk ⟨_, _, by rw [HMK'.out, HMR.out], by rw [HMP.out]; exact Sl.of_own (own_upd HMf.out.own1 HMf.out.hR (by decide) hUf), by rw [HMC.out]; exact Sl.of_own (own_upd HMf.out.own2 HMf.out.hR (by decide) hUf)⟩ (hUf.below HMf.out.bel (by omega)))
      · rw [show (x.odd == 1) = false by simp [*]] at d1
        rw [show (x.odd == 9) = false by simp [*]] at d9
        rw [show (x.odd == 8) = false by simp [*]] at d8
        rw [show (x.odd == 0) = false by simp [*]] at d0
        have HMP := Lib.hid (show (makeC x).plan = planM x by unfold makeC; dsimp only; rw [if_neg (by omega), if_neg (by omega)])
        have HMC := Lib.hid (show (makeC x).cubes = cubesM x by unfold makeC; dsimp only; rw [if_neg (by omega), if_neg (by omega), if_neg (by omega)])
        clear h8 h9 h0 h1
        go_wp2_with (first
          | ((with_reducible show wpList _ _ _ (⟨some 123, _, _, _, _, _⟩ :: _) _ _); refine wpList_load_op rfl _ _ rfl C rfl _ _ HMe.out.hC _ Tryz.underlying30 rfl (cc_info _ _ _ _ H32.out) ?_)
          | ((with_reducible show wpList _ _ _ (⟨none, _, _, _, _, _⟩ :: _) _ _); refine wpList_store_op rfl 30 _ _ rfl (w.heap.size + 1) _ rfl rfl _ _ HMe.out.hR (cc_info _ _ _ _ H32.out) (by rw [cc_size _ _ _ _ (by simp), cc_size _ _ _ _ H32.out]) (cc_one' HMe.out.own1 HMe.out.own2) ?_; intro wf hXf hUf))
        exact ret_cell rfl rfl hXf Tryz.underlying30 rfl (cc_info _ _ _ _ H32.out) rfl (Ret.mk ⟨_, _, by rw [HMK'.out, HMR.out], by rw [HMP.out]; exact Sl.of_own (own_upd HMe.out.own1 HMe.out.hR (by decide) hUf), by rw [HMC.out]; exact Sl.of_own (own_upd HMe.out.own2 HMe.out.hR (by decide) hUf)⟩ (hUf.below HMe.out.bel (by omega)))
end Go.Proofs.YtenpkgdnlogfiaaGreatDoor
