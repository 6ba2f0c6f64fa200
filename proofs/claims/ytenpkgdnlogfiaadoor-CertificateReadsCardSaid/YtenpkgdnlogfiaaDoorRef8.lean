/-
  What arbacref36.Same computes.
-/
import Derived.Test.YtenpkgdnlogfiaaDoorRef7
import Derived.Deep.QuietTactic
import Derived.BigQuiet
namespace Go.Proofs.YtenpkgdnlogfiaaDoor
open Go.RowKit
attribute [local go_sem ↓] Go.wp_at_zero Go.wp_at_succ
set_option maxRecDepth 20000

theorem neq_arr (w : World) (a b : List Nat) (hx : a.length = 32) (hy : b.length = 32) : (binOp .neq 27 (.agg (u8s a).toArray) (.agg (u8s b).toArray)).run Tryd.prog w = .ok (.bool (a != b)) w := by
  obtain ⟨i, hi⟩ : ∃ i, Tryd.prog.info? 5 = some i := Option.isSome_iff_exists.1 (show (Tryd.prog.info? 5).isSome = true by kernel_rfl)
  exact run_neq_u8s w _ 5 32 Tryd.underlying27 i hi Tryd.underlying5 (by kernel_rfl) a b hx hy
theorem eqC_false {a b : CertD} (h : ¬ (a.prob = b.prob ∧ a.reach = b.reach ∧ a.plan = b.plan ∧ a.cubes = b.cubes)) : eqC a b = false := by
  cases hq : eqC a b with
  | false => rfl
  | true =>
    exfalso
    simp only [eqC, Bool.and_eq_true, beq_iff_eq] at hq
    exact h hq

set_option maxHeartbeats 4000000 in
theorem rsame_any (u v : Value) (c d : CertD) (w : World) (D E : Nat → Prop) (hu : IsRCert w D u c) (hv : IsRCert w E v d) :
    Calls Tryd.prog 11 #[u, v] w (Ret (fun x _ => x = .bool (eqC c d)) w) := by
  obtain ⟨pv, qv, rfl, h32, _, hp, hq⟩ := hu
  obtain ⟨pv', qv', rfl, h32', _, hp', hq'⟩ := hv
  obtain ⟨A, c1, rfl, _, _⟩ := hp.shape
  obtain ⟨B, c2, rfl, _, _⟩ := hq.shape
  obtain ⟨A', c3, rfl, _, _⟩ := hp'.shape
  obtain ⟨B', c4, rfl, _, _⟩ := hq'.shape
  obtain ⟨prob, r, plan, cubes⟩ := c
  obtain ⟨prob', r', plan', cubes'⟩ := d
  dsimp only at *
  have hX := (Box.new w 30 (cc prob r (.slice A plan.length c1) (.slice B cubes.length c2))).alloc (.cells (cc prob' r' (.slice A' plan'.length c3) (.slice B' cubes'.length c4)) 30)
  have hY := Box.new (w.alloc (.cells (cc prob r (.slice A plan.length c1) (.slice B cubes.length c2)) 30)) 30 (cc prob' r' (.slice A' plan'.length c3) (.slice B' cubes'.length c4))
  have hB := ((Below.refl w.heap.size w).alloc (Nat.le_refl _) (.cells (cc prob r (.slice A plan.length c1) (.slice B cubes.length c2)) 30)).alloc (by simp) (.cells (cc prob' r' (.slice A' plan'.length c3) (.slice B' cubes'.length c4)) 30)
  rw [World.size_alloc] at hY
  have hE := @eqC_false ⟨prob, r, plan, cubes⟩ ⟨prob', r', plan', cubes'⟩
  dsimp only at hE
  have HEF := Lib.hid hE
  have hq1 := fun (w : World) => neq_arr w prob prob' h32 h32'
  have HX := Lib.hid hX
  have HY := Lib.hid hY
  have H32 := Lib.hid h32
  have H32' := Lib.hid h32'
  have x32 := (hX.cell 32).trans (cc_at _ _ _ _ h32).1
  have x33 := (hX.cell 33).trans (cc_at _ _ _ _ h32).2.1
  have x34 := (hX.cell 34).trans (cc_at _ _ _ _ h32).2.2
  have y32 := (hY.cell 32).trans (cc_at _ _ _ _ h32').1
  have y33 := (hY.cell 33).trans (cc_at _ _ _ _ h32').2.1
  have y34 := (hY.cell 34).trans (cc_at _ _ _ _ h32').2.2
  replace hp := hp.ext hB
  replace hq := hq.ext hB
  replace hp' := hp'.ext hB
  replace hq' := hq'.ext hB
  clear hX hY h32 h32' hE
  go_enter Tryd.func11, Tryd.ntmps11
  have HI1 := Lib.hid (show (Tryd.prog.info? 27).map (·.size) = some (u8s prob).length by rw [u8s_length, H32.out]; kernel_rfl)
  have HI2 := Lib.hid (show (Tryd.prog.info? 27).map (·.size) = some (u8s prob').length by rw [u8s_length, H32'.out]; kernel_rfl)
  generalize hW : ((w.alloc (.cells (cc prob r (.slice A plan.length c1) (.slice B cubes.length c2)) 30)).alloc (.cells (cc prob' r' (.slice A' plan'.length c3) (.slice B' cubes'.length c4)) 30)) = W at *
  have HW := Lib.hid hW
  clear hW
  by_cases h1 : prob = prob'
  · have e1 : (prob != prob') = false := by simp [h1]
    have H1 := Lib.hid h1
    rw [e1] at hq1
    clear h1 e1
    by_cases h2 : r = r'
    · subst h2
      by_cases h3 : plan.length = plan'.length
      · have e3 : ((plan.length : Int) != plan'.length) = false := by simp [h3]
        have H3 := Lib.hid h3
        have l3 : plan.length ≤ plan'.length := by omega
        have l3' : plan'.length ≤ plan.length := by omega
        clear h3
        by_cases h4 : cubes.length = cubes'.length
        · have e4 : ((cubes.length : Int) != cubes'.length) = false := by simp [h4]
          have H4 := Lib.hid h4
          have l4 : cubes.length ≤ cubes'.length := by omega
          have l4' : cubes'.length ≤ cubes.length := by omega
          clear h4
          go_wp2_with (first
      | ((with_reducible show wpList _ _ _ (⟨some 7, _, _, _, _, _⟩ :: _) _ _); simp only [HW.out])
      | ((with_reducible show wpList _ _ _ (⟨some 8, _, _, _, _, _⟩ :: _) _ _); refine wpList_load_mid rfl _ _ rfl w.heap.size 0 rfl _ _ (cc_range HX.out) Tryd.underlying27 rfl HI1.out ?_)
      | ((with_reducible show wpList _ _ _ (⟨some 10, _, _, _, _, _⟩ :: _) _ _); refine wpList_load_mid rfl _ _ rfl (w.heap.size + 1) 0 rfl _ _ (cc_range HY.out) Tryd.underlying27 rfl HI2.out ?_))
          go_loopw [40] (fun i wr => ∃ k q : Nat, k ≤ plan.length ∧ i = .int .i64 k ∧ wr = W.drewN q ∧ Hid (∀ j, j < k → plan.getD j 0 = plan'.getD j 0)) (fun i _ => plan.length - (intOf i).toNat)
          case atStart => exact ⟨0, 0, by omega, rfl, rfl, fun j hj => absurd hj (by omega)⟩
          case round =>
            obtain ⟨k, q, hk, rfl, rfl, hz⟩ := hrel
            by_cases hlt : k < plan.length
            · obtain ⟨b, o, rfl, _, hb, hc⟩ := hp.int hlt
              obtain ⟨b', o', rfl, _, hb', hc'⟩ := hp'.int (k := k) (by omega)
              have f1 := hc k hlt
              have f2 := hc' k (by omega)
              have HZ := Lib.hid (show plan.getD k 0 = plan'.getD k 0 → ∀ j, j < k + 1 → plan.getD j 0 = plan'.getD j 0 from fun h0 j hj => by
                rcases Nat.lt_or_ge j k with h | h
                · exact hz.out j h
                · obtain rfl : j = k := by omega
                  exact h0)
              have HN := Lib.hid (show plan.getD k 0 ≠ plan'.getD k 0 → plan ≠ plan' from fun h e => h (by rw [e]))
              clear hc hc' hz
              generalize plan.getD k 0 = s1 at *
              generalize plan'.getD k 0 = s2 at *
              by_cases hs : s1 = s2
              · have e5 : ((s1 : Int) != s2) = false := by simp [hs]
                have HZ2 := Lib.hid (HZ.out hs)
                clear hs
                go_wp2_with fail
                go_quiet (fail)
                go_wp2_with fail
                exact ⟨⟨k + 1, q + nq, hlt, by go_num, rfl, HZ2.out⟩, by simp [intOf]; omega⟩
              · have e5 : ((s1 : Int) != s2) = true := by simp [hs]
                have HE := Lib.hid (HEF.out (fun h => HN.out hs h.2.2.1))
                clear hs
                go_wp2_with fail
                go_quiet (fail)
                go_wp2_with fail
                rw [HE.out]
                go_ret
                exact Ret.mk rfl (bel_drewN (bel_drewN hB _) _)
            · obtain rfl : k = plan.length := by omega
              have HPL := Lib.hid (getD_eq_list 0 H3.out hz.out)
              clear hz
              go_wp2_with fail
              go_loopw [58] (fun i wr => ∃ k q : Nat, k ≤ cubes.length ∧ i = .int .i64 k ∧ wr = W.drewN q ∧ Hid (∀ j, j < k → cubes.getD j (0, 0) = cubes'.getD j (0, 0))) (fun i _ => cubes.length - (intOf i).toNat)
              case atStart => exact ⟨0, q, by omega, rfl, rfl, fun j hj => absurd hj (by omega)⟩
              case round =>
                obtain ⟨k, q, hk, rfl, rfl, hz⟩ := hrel
                by_cases hlt : k < cubes.length
                · obtain ⟨b, o, rfl, _, hb, f1, f2⟩ := hq.at_ hlt
                  obtain ⟨b', o', rfl, _, hb', g1, g2⟩ := hq'.at_ (k := k) (by omega)
                  have HZ := Lib.hid (show cubes.getD k (0, 0) = cubes'.getD k (0, 0) → ∀ j, j < k + 1 → cubes.getD j (0, 0) = cubes'.getD j (0, 0) from fun h0 j hj => by
                    rcases Nat.lt_or_ge j k with h | h
                    · exact hz.out j h
                    · obtain rfl : j = k := by omega
                      exact h0)
                  have HN := Lib.hid (show cubes.getD k (0, 0) ≠ cubes'.getD k (0, 0) → cubes ≠ cubes' from fun h e => h (by rw [e]))
                  clear hz
                  generalize cubes.getD k (0, 0) = z1 at *
                  generalize cubes'.getD k (0, 0) = z2 at *
                  obtain ⟨y1, n1⟩ := z1
                  obtain ⟨y2, n2⟩ := z2
                  dsimp only at f1 f2 g1 g2
                  by_cases hs : y1 = y2
                  · by_cases hs2 : n1 = n2
                    · have e5 : ((y1 : Int) == y2) = true := by simp [hs]
                      have e6 : ((n1 : Int) == n2) = true := by simp [hs2]
                      have HZ2 := Lib.hid (HZ.out (by rw [hs, hs2]))
                      clear hs hs2
                      go_wp2_with fail
                      go_quiet (fail)
                      go_wp2_with fail
                      exact ⟨⟨k + 1, q + nq, hlt, by go_num, rfl, HZ2.out⟩, by simp [intOf]; omega⟩
                    · have e5 : ((y1 : Int) == y2) = true := by simp [hs]
                      have e6 : ((n1 : Int) == n2) = false := by simp; omega
                      have HE := Lib.hid (HEF.out (fun h => HN.out (by simp [hs2]) h.2.2.2))
                      clear hs hs2
                      go_wp2_with fail
                      go_quiet (fail)
                      go_wp2_with fail
                      rw [HE.out]
                      go_ret
                      exact Ret.mk rfl (bel_drewN (bel_drewN hB _) _)
                  · have e5 : ((y1 : Int) == y2) = false := by simp; omega
                    have HE := Lib.hid (HEF.out (fun h => HN.out (by simp [hs]) h.2.2.2))
                    clear hs
                    go_wp2_with fail
                    go_quiet (fail)
                    go_wp2_with fail
                    rw [HE.out]
                    go_ret
                    exact Ret.mk rfl (bel_drewN (bel_drewN hB _) _)
                · obtain rfl : k = cubes.length := by omega
                  have HE := Lib.hid (show eqC ⟨prob, r, plan, cubes⟩ ⟨prob', r, plan', cubes'⟩ = true by simp only [eqC, Bool.and_eq_true, beq_iff_eq]; exact ⟨H1.out, trivial, HPL.out, getD_eq_list (0, 0) H4.out hz.out⟩)
                  go_wp2_with fail
                  rw [HE.out]
                  go_ret
                  exact Ret.mk rfl (bel_drewN hB _)
        · have e4 : ((cubes.length : Int) != cubes'.length) = true := by simp; omega
          have HE := Lib.hid (HEF.out (fun h => h4 (by rw [h.2.2.2])))
          clear h4
          go_wp2_with (first
      | ((with_reducible show wpList _ _ _ (⟨some 7, _, _, _, _, _⟩ :: _) _ _); simp only [HW.out])
      | ((with_reducible show wpList _ _ _ (⟨some 8, _, _, _, _, _⟩ :: _) _ _); refine wpList_load_mid rfl _ _ rfl w.heap.size 0 rfl _ _ (cc_range HX.out) Tryd.underlying27 rfl HI1.out ?_)
      | ((with_reducible show wpList _ _ _ (⟨some 10, _, _, _, _, _⟩ :: _) _ _); refine wpList_load_mid rfl _ _ rfl (w.heap.size + 1) 0 rfl _ _ (cc_range HY.out) Tryd.underlying27 rfl HI2.out ?_))
          rw [HE.out]
          go_ret
          exact Ret.mk rfl hB
      · have e3 : ((plan.length : Int) != plan'.length) = true := by simp; omega
        have HE := Lib.hid (HEF.out (fun h => h3 (by rw [h.2.2.1])))
        clear h3
        go_wp2_with (first
      | ((with_reducible show wpList _ _ _ (⟨some 7, _, _, _, _, _⟩ :: _) _ _); simp only [HW.out])
      | ((with_reducible show wpList _ _ _ (⟨some 8, _, _, _, _, _⟩ :: _) _ _); refine wpList_load_mid rfl _ _ rfl w.heap.size 0 rfl _ _ (cc_range HX.out) Tryd.underlying27 rfl HI1.out ?_)
      | ((with_reducible show wpList _ _ _ (⟨some 10, _, _, _, _, _⟩ :: _) _ _); refine wpList_load_mid rfl _ _ rfl (w.heap.size + 1) 0 rfl _ _ (cc_range HY.out) Tryd.underlying27 rfl HI2.out ?_))
        rw [HE.out]
        go_ret
        exact Ret.mk rfl hB
    · have HE := Lib.hid (HEF.out (fun h => h2 h.2.1))
      have h2' : (r = true ∧ r' = false) ∨ (r = false ∧ r' = true) := by
        revert h2; cases r <;> cases r' <;> simp
      clear h2
      rcases h2' with ⟨rfl, rfl⟩ | ⟨rfl, rfl⟩
      · go_wp2_with (first
        | ((with_reducible show wpList _ _ _ (⟨some 7, _, _, _, _, _⟩ :: _) _ _); simp only [HW.out])
        | ((with_reducible show wpList _ _ _ (⟨some 8, _, _, _, _, _⟩ :: _) _ _); refine wpList_load_mid rfl _ _ rfl w.heap.size 0 rfl _ _ (cc_range HX.out) Tryd.underlying27 rfl HI1.out ?_)
        | ((with_reducible show wpList _ _ _ (⟨some 10, _, _, _, _, _⟩ :: _) _ _); refine wpList_load_mid rfl _ _ rfl (w.heap.size + 1) 0 rfl _ _ (cc_range HY.out) Tryd.underlying27 rfl HI2.out ?_))
        rw [HE.out]
        go_ret
        exact Ret.mk rfl hB
      · go_wp2_with (first
        | ((with_reducible show wpList _ _ _ (⟨some 7, _, _, _, _, _⟩ :: _) _ _); simp only [HW.out])
        | ((with_reducible show wpList _ _ _ (⟨some 8, _, _, _, _, _⟩ :: _) _ _); refine wpList_load_mid rfl _ _ rfl w.heap.size 0 rfl _ _ (cc_range HX.out) Tryd.underlying27 rfl HI1.out ?_)
        | ((with_reducible show wpList _ _ _ (⟨some 10, _, _, _, _, _⟩ :: _) _ _); refine wpList_load_mid rfl _ _ rfl (w.heap.size + 1) 0 rfl _ _ (cc_range HY.out) Tryd.underlying27 rfl HI2.out ?_))
        rw [HE.out]
        go_ret
        exact Ret.mk rfl hB
  · have e1 : (prob != prob') = true := by simp [h1]
    have HE := Lib.hid (HEF.out (fun h => h1 h.1))
    rw [e1] at hq1
    clear h1 e1
    go_wp2_with (first
      | ((with_reducible show wpList _ _ _ (⟨some 7, _, _, _, _, _⟩ :: _) _ _); simp only [HW.out])
      | ((with_reducible show wpList _ _ _ (⟨some 8, _, _, _, _, _⟩ :: _) _ _); refine wpList_load_mid rfl _ _ rfl w.heap.size 0 rfl _ _ (cc_range HX.out) Tryd.underlying27 rfl HI1.out ?_)
      | ((with_reducible show wpList _ _ _ (⟨some 10, _, _, _, _, _⟩ :: _) _ _); refine wpList_load_mid rfl _ _ rfl (w.heap.size + 1) 0 rfl _ _ (cc_range HY.out) Tryd.underlying27 rfl HI2.out ?_))
    rw [HE.out]
    go_ret
    exact Ret.mk rfl hB
end Go.Proofs.YtenpkgdnlogfiaaDoor
