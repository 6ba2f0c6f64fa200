/-
  What certificate.Equal computes.
-/
import Derived.Test.YtenpkgdnlogfiaaGreatDoorRef6
namespace Go.Proofs.YtenpkgdnlogfiaaGreatDoor
open Go.RowKit
attribute [local go_sem ↓] Go.wp_at_zero Go.wp_at_succ
set_option maxRecDepth 20000

theorem IsCert.cc {w : World} {D : Nat → Prop} {v : Value} {c : CertD} (h : IsCert w D v c) : ∃ pv qv, v = .agg (cc c.prob c.reach pv qv) ∧ c.prob.length = 32 ∧ Bytes c.prob ∧ Sl w D 1 pv c.plan.length (ints c.plan) ∧ IsCubes w D qv c.cubes := by
  obtain ⟨cs, pv, qv, h1, h2, h3, h4, h5, h6, h7, h8, h9, h10⟩ := h
  refine ⟨pv, qv, ?_, h3, h4, h9, h10⟩
  rw [h1]
  congr 1
  have ha := cc_at c.prob c.reach pv qv h3
  apply Array.ext_getElem?
  intro i
  rcases Nat.lt_or_ge i 32 with hi | hi
  · rw [h5 i hi]
    simp only [Go.Proofs.YtenpkgdnlogfiaaGreatDoor.cc, List.getElem?_toArray]
    rw [List.getElem?_append_left (by simp [u8s]; omega)]
    exact (u8s_at _ _ (by omega)).symm
  · rcases Nat.lt_or_ge i 35 with hi2 | hi2
    · have : i = 32 ∨ i = 33 ∨ i = 34 := by omega
      rcases this with rfl | rfl | rfl
      · rw [h6, ha.1]
      · rw [h7, ha.2.1]
      · rw [h8, ha.2.2]
    · rw [Array.getElem?_eq_none (by omega), Array.getElem?_eq_none (by rw [cc_size _ _ _ _ h3]; omega)]

def eqC (a b : CertD) : Bool := a.prob == b.prob && (a.reach == b.reach && (a.plan == b.plan && a.cubes == b.cubes))

theorem certeq_any (u v : Value) (c d : CertD) (w : World) (D E : Nat → Prop) (hu : IsCert w D u c) (hv : IsCert w E v d) :
    Calls Tryz.prog 14 #[u, v] w (Ret (fun x _ => x = .bool (eqC c d)) w) := by
  obtain ⟨pv, qv, rfl, h32, _, hp, hq⟩ := hu.cc
  obtain ⟨pv', qv', rfl, h32', _, hp', hq'⟩ := hv.cc
  obtain ⟨A, c1, rfl, _, _⟩ := hp.shape
  obtain ⟨B, c2, rfl, _, _⟩ := hq.shape
  obtain ⟨A', c3, rfl, _, _⟩ := hp'.shape
  obtain ⟨B', c4, rfl, _, _⟩ := hq'.shape
  obtain ⟨prob, r, plan, cubes⟩ := c
  obtain ⟨prob', r', plan', cubes'⟩ := d
  dsimp only at *
  have hX := (Box.new w 35 (cc prob r (.slice A plan.length c1) (.slice B cubes.length c2))).alloc (.cells (cc prob' r' (.slice A' plan'.length c3) (.slice B' cubes'.length c4)) 35)
  have hY := Box.new (w.alloc (.cells (cc prob r (.slice A plan.length c1) (.slice B cubes.length c2)) 35)) 35 (cc prob' r' (.slice A' plan'.length c3) (.slice B' cubes'.length c4))
  have hB := ((Below.refl w.heap.size w).alloc (Nat.le_refl _) (.cells (cc prob r (.slice A plan.length c1) (.slice B cubes.length c2)) 35)).alloc (by simp) (.cells (cc prob' r' (.slice A' plan'.length c3) (.slice B' cubes'.length c4)) 35)
  rw [World.size_alloc] at hY
  have HR := Lib.hid (show eqC ⟨prob, r, plan, cubes⟩ ⟨prob', r', plan', cubes'⟩ = (prob == prob' && (r == r' && (plan == plan' && cubes == cubes'))) from rfl)
  have hq1 := fun (w : World) => eql_id w prob prob' h32 h32'
  have HX := Lib.hid hX
  have HY := Lib.hid hY
  have H32 := Lib.hid h32
  have H32' := Lib.hid h32'
  have x32 := (hX.cell 32).trans (cc_at _ _ _ _ h32).1
  have x33 := (hX.cell 33).trans (cc_at _ _ _ _ h32).2.1
  have y32 := (hY.cell 32).trans (cc_at _ _ _ _ h32').1
  have y33 := (hY.cell 33).trans (cc_at _ _ _ _ h32').2.1
  generalize hqb : (prob == prob') = b1 at *
  have HB1 := Lib.hid hqb
  clear hX hY h32 h32' hu hv hqb
  go_enter Tryz.func14, Tryz.ntmps14
  have HI1 := Lib.hid (show (Tryz.prog.info? 32).map (·.size) = some (u8s prob).length by rw [u8s_length, H32.out]; kernel_rfl)
  have HI2 := Lib.hid (show (Tryz.prog.info? 32).map (·.size) = some (u8s prob').length by rw [u8s_length, H32'.out]; kernel_rfl)
  generalize hW : ((w.alloc (.cells (cc prob r (.slice A plan.length c1) (.slice B cubes.length c2)) 35)).alloc (.cells (cc prob' r' (.slice A' plan'.length c3) (.slice B' cubes'.length c4)) 35)) = W at *
  have HW := Lib.hid hW
  clear hW
  cases b1
  · go_wp2_with (first
      | ((with_reducible show wpList _ _ _ (⟨some 5, _, _, _, _, _⟩ :: _) _ _); simp only [HW.out])
      | ((with_reducible show wpList _ _ _ (⟨some 6, _, _, _, _, _⟩ :: _) _ _); refine wpList_load_mid rfl _ _ rfl w.heap.size 0 rfl _ _ (cc_range HX.out) Tryz.underlying32 rfl HI1.out ?_)
      | ((with_reducible show wpList _ _ _ (⟨some 8, _, _, _, _, _⟩ :: _) _ _); refine wpList_load_mid rfl _ _ rfl (w.heap.size + 1) 0 rfl _ _ (cc_range HY.out) Tryz.underlying32 rfl HI2.out ?_))
    go_ret
    exact Ret.mk (v := .bool false) (by rw [HR.out]; rfl) hB
  by_cases hr : r = r'
  · subst hr
    have HRR := Lib.hid (show (r == r) = true by simp)
    have hp1 := hp.ext hB
    have hp2 := hp'.ext hB
    go_wp2_with (first
      | ((with_reducible show wpList _ _ _ (⟨some 5, _, _, _, _, _⟩ :: _) _ _); simp only [HW.out])
      | ((with_reducible show wpList _ _ _ (⟨some 6, _, _, _, _, _⟩ :: _) _ _); refine wpList_load_mid rfl _ _ rfl w.heap.size 0 rfl _ _ (cc_range HX.out) Tryz.underlying32 rfl HI1.out ?_)
      | ((with_reducible show wpList _ _ _ (⟨some 8, _, _, _, _, _⟩ :: _) _ _); refine wpList_load_mid rfl _ _ rfl (w.heap.size + 1) 0 rfl _ _ (cc_range HY.out) Tryz.underlying32 rfl HI2.out ?_))
    refine (sleq_any _ _ plan plan' W D E hp1 hp2).mono ?_
    rintro e w1 ⟨_, rfl, rfl, hb1⟩
    have hB1 := bel_tr hB hb1
    have x34 := ((HX.out.ext hb1).cell 34).trans (cc_at _ _ _ _ H32.out).2.2
    have y34 := ((HY.out.ext hb1).cell 34).trans (cc_at _ _ _ _ H32'.out).2.2
    generalize (plan == plan') = q at *
    cases q
    · go_wp2_with fail
      go_ret
      exact Ret.mk (v := .bool false) (by rw [HR.out, HRR.out]; rfl) hB1
    · go_wp2_with fail
      refine (eqcubes_any _ _ cubes cubes' w1 D E (hq.ext hB1) (hq'.ext hB1)).mono ?_
      rintro e w2 ⟨_, rfl, rfl, hb2⟩
      go_wp2_with fail
      go_ret
      exact Ret.mk (v := .bool (cubes == cubes')) (by rw [HR.out, HRR.out]; rfl) (bel_tr hB1 hb2)
  · have hne : (r == r') = false := by simpa using hr
    have HRR := Lib.hid hne
    clear hr
    go_wp2_with (first
      | ((with_reducible show wpList _ _ _ (⟨some 5, _, _, _, _, _⟩ :: _) _ _); simp only [HW.out])
      | ((with_reducible show wpList _ _ _ (⟨some 6, _, _, _, _, _⟩ :: _) _ _); refine wpList_load_mid rfl _ _ rfl w.heap.size 0 rfl _ _ (cc_range HX.out) Tryz.underlying32 rfl HI1.out ?_)
      | ((with_reducible show wpList _ _ _ (⟨some 8, _, _, _, _, _⟩ :: _) _ _); refine wpList_load_mid rfl _ _ rfl (w.heap.size + 1) 0 rfl _ _ (cc_range HY.out) Tryz.underlying32 rfl HI2.out ?_))
    go_ret
    exact Ret.mk (v := .bool false) (by rw [HR.out, HRR.out]; rfl) hB
end Go.Proofs.YtenpkgdnlogfiaaGreatDoor
