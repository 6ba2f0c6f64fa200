/-
  What the method Bytes of a certificate returns.
-/
import Derived.Test.YtenpkgdnlogfiaaDoorCert3
namespace Go.Proofs.YtenpkgdnlogfiaaDoor
open Go.RowKit
attribute [local go_sem ↓] Go.wp_at_zero Go.wp_at_succ
set_option maxRecDepth 20000

/-- the bytes of a certificate -/
def bytesC (c : CertD) : List Nat :=
  if checkC c = 0 then c.prob ++ (putFlag c.reach ++ (putN c.plan.length ++ ((c.plan.flatMap fun k => putN k.toNat) ++ putCubes c.cubes))) else []
theorem cubeE_pos (y n : Nat) : 0 ≤ cubeE y n := by unfold cubeE; split; split <;> omega; omega
theorem plan_ok {c : CertD} (h : checkC c = 0) : c.plan.length ≤ 10000 ∧ c.cubes.length ≤ 2000 ∧ ∀ k ∈ c.plan, 0 ≤ k ∧ k < 64 := by
  unfold checkC at h
  split at h
  · omega
  · split at h
    · omega
    · split at h
      · omega
      · rename_i h1 _ h2
        refine ⟨by omega, by omega, fun k hk => ?_⟩
        have h3 : outB k = false := by
          cases hb : outB k
          · rfl
          · exact absurd (List.any_eq_true.2 ⟨k, hk, hb⟩) h2
        simp [outB] at h3
        omega
theorem plan_step (l : List Int) (k : Nat) (h : k < l.length) : (l.take (k + 1)).flatMap (fun x => putN x.toNat) = (l.take k).flatMap (fun x => putN x.toNat) ++ putN (l.getD k 0).toNat := by
  rw [List.take_succ_eq_append_getElem h, List.flatMap_append, List.getD_eq_getElem?_getD, List.getElem?_eq_getElem h]; simp
theorem plan_len (l : List Int) : (l.flatMap fun x => putN x.toNat).length ≤ 11 * l.length := by
  induction l with
  | nil => simp
  | cons z r ih =>
    have h3 := putN_len z.toNat
    simp [List.flatMap_cons] at *
    omega

theorem cbytes_any (v : Value) (c : CertD) (w : World) (D : Nat → Prop) (hv : IsCert w D v c) :
    Calls Tryd.prog 16 #[v] w (Ret (fun x w' => Sl w' (w.heap.size ≤ ·) 1 x (bytesC c).length (u8s (bytesC c))) w) := by
  obtain ⟨cs, pv, qv, rfl, hsz, hl32, hby, hpr, h32, h33, h34, hp, hq⟩ := id hv
  obtain ⟨A, cp, rfl, _, _⟩ := hp.shape
  obtain ⟨A', cq, rfl, _, _⟩ := hq.shape
  have hbox := Box.new w 35 cs
  have hb0 : Below w.heap.size w (w.alloc (.cells cs 35)) := (Below.refl _ _).alloc (Nat.le_refl _) _
  have hv1 := (hv.imp (D' := (· < w.heap.size)) fun b _ h => h).ext hb0
  have hp1 := (hp.imp (D' := (· < w.heap.size)) fun b _ h => h).ext hb0
  have hq1 := (hq.imp (D' := (· < w.heap.size)) fun b _ h => h).ext hb0
  have HSZ := Lib.hid hsz
  have HPR := Lib.hid hpr
  have H32 := Lib.hid h32
  have H33 := Lib.hid h33
  have H34 := Lib.hid h34
  have HL := Lib.hid hl32
  have HX := Lib.hid hbox
  have hi35 : (Tryd.prog.info? 35).map (·.size) = some cs.size := by rw [hsz]; kernel_rfl
  have HI := Lib.hid hi35
  clear hsz hpr h32 h33 h34 hp hq hv hl32 hbox hi35
  by_cases hc : checkC c = 0
  · have hok := plan_ok hc
    obtain ⟨hpl, hcl, hpk⟩ := hok
    have HB := Lib.hid (show bytesC c = c.prob ++ (putFlag c.reach ++ (putN c.plan.length ++ ((c.plan.flatMap fun k => putN k.toNat) ++ putCubes c.cubes))) by rw [bytesC, if_pos hc])
    have heq : (checkC c != 0) = false := by simpa using hc
    have HPK := Lib.hid hpk
    have hp32a : c.prob.length ≤ 32 := by have := HL.out; omega
    have hp32b : 32 ≤ c.prob.length := by have := HL.out; omega
    clear hc hpk
    go_enter Tryd.func16, Tryd.ntmps16
    go_wp2_with ((with_reducible show wpList _ _ _ (⟨some 6, _, _, _, _, _⟩ :: _) _ _); refine wpList_load_row rfl 35 _ rfl w.heap.size rfl 35 cs (0, 0) _ HX.out Tryd.underlying35 rfl HI.out ?_)
    refine (check_any _ c _ _ hv1).mono ?_
    rintro e w1 ⟨_, rfl, rfl, hb1⟩
    have hX1 := HX.out.ext hb1
    have hbw1 := hb0.trans (hb1.mono (by simp))
    have hp2 := hp1.ext hb1
    have hq2 := hq1.ext hb1
    have hH1 := hX1.lt
    clear hb1 hp1 hq1 hv1 hb0
    go_wp2_with fail
    refine (newWriter_any _).mono ?_
    rintro e w2 ⟨rfl, rfl⟩
    have hW2 := IsW.new w1 (fun _ => False)
    have hX2 := hX1.alloc (.cells #[.slice none 0 0] 112)
    have hWl := hW2.lt
    have hp3 := hp2.alloc (.cells #[.slice none 0 0] 112)
    have hq3 := hq2.ext ((Below.refl _ w1).alloc (Nat.le_refl _) (.cells #[.slice none 0 0] 112))
    have hs3 : Sl (w1.alloc (.cells #[.slice none 0 0] 112)) (· = w.heap.size) 1 (.slice (some ⟨w.heap.size, 0, none⟩) 32 32) c.prob.length (u8s c.prob) := by
      refine ⟨by simp [u8s], _, 32, by rw [HL.out], by omega, by simp [maxLen], fun _ => ⟨w.heap.size, 0, rfl, rfl, hX2.lt, fun j x hj => ?_⟩⟩
      have hj32 : j < 32 := by
        rcases Nat.lt_or_ge j 32 with h | h
        · exact h
        · rw [List.getElem?_eq_none (by rw [u8s_length, HL.out]; exact h)] at hj; cases hj
      rw [Nat.zero_add, hX2.cell, HPR.out j hj32]
      rw [u8s_at _ _ (by rw [HL.out]; exact hj32)] at hj
      exact hj
    have hbw2 := hbw1.alloc (by omega) (.cells #[.slice none 0 0] 112)
    have hq1 : w.heap.size < w1.heap.size := hH1
    clear hX1 hp2 hq2
    generalize hW1e : (w1.alloc (.cells #[.slice none 0 0] 112)) = W at *
    clear hW1e
    go_wp2_with fail
    refine (raw_any w1.heap.size _ [] c.prob _ _ _ hW2 hs3 (by simp; omega)).mono ?_
    rintro e w3 ⟨rfl, hW3, hF3⟩
    have hX3 := hF3.box hX2 (by omega) (by decide)
    have hc32 := (hX3.cell 32).trans H32.out
    go_wp2_with fail
    refine (flag_any w1.heap.size _ _ _ _ hW3 (by simp; omega)).mono ?_
    rintro e w4 ⟨rfl, hW4, hF4⟩
    have hF4' := hF3.trans hF4
    have hX4 := hF4.box hX3 (by omega) (by decide)
    have hc33 := (hX4.cell 33).trans H33.out
    go_wp2_with fail
    have hfl : (putFlag c.reach).length = 1 := by unfold putFlag; split <;> rfl
    refine (uint_any w1.heap.size c.plan.length _ _ _ hW4 (by unfold T64; omega) (by simp; omega)).mono ?_
    rintro e w5 ⟨rfl, hW5, hF5⟩
    have hpn := putN_len c.plan.length
    have hF5' := hF4'.trans (hF5.imp fun k hk _ => since_since hF3.size k hk)
    have hX5 := hF5.box hX4 (by omega) (by decide)
    have hc33' := (hX5.cell 33).trans H33.out
    have hW5' := hW5.imp fun k hk _ => since_since hF3.size k (since_since hF4.size k hk)
    clear hW2 hW3 hW4 hW5 hF3 hF4 hF4' hF5 hX3 hX4 hc32 hc33 hs3
    have hfin : ∀ b, b < w.heap.size → b < W.heap.size → b ≠ w1.heap.size ∧ ¬ (fun _ : Nat => False) b := fun b hb _ => ⟨by omega, fun h => h⟩
    have HFIN := Lib.hid hfin
    clear hfin
    have hP : ([] ++ c.prob ++ putFlag c.reach ++ putN c.plan.length).length ≤ 50 := by simp only [List.length_append, List.length_nil]; omega
    go_wp2_with fail
    go_loopw [27] (fun i wr => ∃ k : Nat, k ≤ c.plan.length ∧ i = .int .i64 k ∧ IsW wr (Since (fun _ => False) W) w1.heap.size (([] ++ c.prob ++ putFlag c.reach ++ putN c.plan.length) ++ (c.plan.take k).flatMap fun x => putN x.toNat) ∧ WF (fun _ => False) w1.heap.size W wr) (fun i _ => c.plan.length - (intOf i).toNat)
    case atStart => exact ⟨0, by omega, rfl, by simpa using hW5', hF5'⟩
    case round =>
      clear hW5' hF5' hX5 hc33'
      obtain ⟨k, hk, rfl, hWr, hFr⟩ := hrel
      by_cases hlt : k < c.plan.length
      · obtain ⟨b, o, rfl, _, hb, hcell⟩ := (hp3.wf hFr (fun b hb hl => HFIN.out b hb hl)).int hlt
        have hck := hcell k hlt
        have HS := Lib.hid (plan_step c.plan k hlt)
        have hfl2 := plan_len (c.plan.take k)
        have htk : (c.plan.take k).length ≤ 10000 := by simp; omega
        have hxr := HPK.out (c.plan.getD k 0) (by rw [List.getD_eq_getElem?_getD, List.getElem?_eq_getElem hlt]; exact List.getElem_mem hlt)
        generalize c.plan.getD k 0 = x at *
        obtain ⟨x, rfl⟩ := Int.eq_ofNat_of_zero_le hxr.1
        have hx64 : x < 64 := by omega
        have hlr := hWr.lt
        have hFs := hFr.size
        clear hcell
        go_wp2_with fail
        refine (uint_any w1.heap.size x _ _ _ hWr (by unfold T64; omega) (by rw [List.length_append]; omega)).mono ?_
        rintro e w7 ⟨rfl, hW7, hF7⟩
        go_wp2_with fail
        refine ⟨⟨k + 1, hlt, by go_num, ?_, hFr.trans hF7⟩, by simp [intOf]; omega⟩
        rw [HS.out, ← List.append_assoc]
        exact hW7.imp fun j hj _ => since_since hFs j hj
      · obtain rfl : k = c.plan.length := by omega
        rw [List.take_length] at hWr
        have hfl2 := plan_len c.plan
        have hXr := hFr.box hX2 (by omega) (by decide)
        have hc34 := (hXr.cell 34).trans H34.out
        have hqr := hq3.wf hFr (fun b hb hl => HFIN.out b hb hl)
        have hFs := hFr.size
        go_wp2_with fail
        refine (list_any w1.heap.size _ c.cubes _ _ _ _ hWr hqr (fun b hb _ => ⟨by have : b < w.heap.size := hb; omega, fun h => by rcases h with h | h; exact h; have : b < w.heap.size := hb; have := hX2.lt; omega⟩) (by rw [List.length_append]; omega) hcl).mono ?_
        rintro e w8 ⟨rfl, hW8, hF8⟩
        go_wp2_with fail
        have hcub : (putCubes c.cubes).length ≤ 3000000 := by
          have h1 := flat_len c.cubes hqr.bound
          have h2 := putN_len c.cubes.length
          rw [putCubes, List.length_append]; omega
        refine (wout_any w1.heap.size _ _ _ hW8 (by rw [List.length_append, List.length_append]; omega)).mono ?_
        rintro e w9 ⟨v9, rfl, hv9, hb9⟩
        go_wp2_with fail
        go_ret
        have hFF := hFr.trans hF8
        have hs8 := hF8.size
        refine Ret.mk ?_ ((hbw2.trans (hFF.below (by omega) (fun _ h => h.elim) (by omega))).trans (hb9.mono (by omega)))
        rw [HB.out]
        have he : ([] ++ c.prob ++ putFlag c.reach ++ putN c.plan.length) ++ (c.plan.flatMap fun x => putN x.toNat) ++ putCubes c.cubes = c.prob ++ (putFlag c.reach ++ (putN c.plan.length ++ ((c.plan.flatMap fun k => putN k.toNat) ++ putCubes c.cubes))) := by simp
        rw [← he]
        exact hv9.imp fun b hb _ => by have := hbw2.size; omega
  · have HB := Lib.hid (show bytesC c = [] by rw [bytesC, if_neg hc])
    have hne : (checkC c != 0) = true := by simpa using hc
    clear hc
    go_enter Tryd.func16, Tryd.ntmps16
    go_wp2_with ((with_reducible show wpList _ _ _ (⟨some 6, _, _, _, _, _⟩ :: _) _ _); refine wpList_load_row rfl 35 _ rfl w.heap.size rfl 35 cs (0, 0) _ HX.out Tryd.underlying35 rfl HI.out ?_)
    refine (check_any _ c _ _ hv1).mono ?_
    rintro e w1 ⟨_, rfl, rfl, hb1⟩
    go_wp2_with fail
    go_ret
    rw [HB.out]
    exact Ret.mk Sl.none_ (hb0.trans (hb1.mono (by simp)))
end Go.Proofs.YtenpkgdnlogfiaaDoor
