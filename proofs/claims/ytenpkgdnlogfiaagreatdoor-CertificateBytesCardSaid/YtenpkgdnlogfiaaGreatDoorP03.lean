/-
  The reference's hash (arbacref03).
-/
import Derived.Test.YtenpkgdnlogfiaaGreatDoorP02
import Derived.Test.YtenpkgdnlogfiaaGreatDoorKec
import Derived.Test.YtenpkgdnlogfiaaGreatDoorTyp7
namespace Go.Proofs.YtenpkgdnlogfiaaGreatDoor
open Go.RowKit
attribute [local go_sem ↓] Go.wp_at_zero Go.wp_at_succ
set_option maxRecDepth 20000
set_option exponentiation.threshold 5000

theorem rotl03_any (x n : Nat) (hx : x < T64) (hn : n < 64) (w : World) :
    Calls Tryz.prog 97 #[.int .u64 (x : Int), .int .i64 (n : Int)] w fun e w' => e = .returned (.int .u64 (rotl x n : Nat)) ∧ ∃ m, w' = w.drewN m := by
  obtain ⟨m, hm⟩ : ∃ m, m = 64 - n := ⟨_, rfl⟩
  have h3 : IntKind.i64.wrap (64 - (n : Int)) = (m : Int) := by rw [IntWalk.i64_in _ (by omega)]; omega
  have h4 : (64 : Int) - (n : Int) = (m : Int) := by omega
  have HR := Lib.hid (show bits .or .u64 (IntKind.u64.wrap ((x : Int) * 2 ^ n)) ((x : Int) / 2 ^ m) = ((rotl x n : Nat) : Int) by
    have h6 : IntKind.u64.wrap ((x : Int) * 2 ^ n) = ((x * 2 ^ n % T64 : Nat) : Int) := by
      rw [show (x : Int) * 2 ^ n = ((x * 2 ^ n : Nat) : Int) by rw [Int.natCast_mul, Int.natCast_pow]; rfl]
      exact wrap_u64 _
    have h7 : (x : Int) / 2 ^ m = ((x / 2 ^ m : Nat) : Int) := by rw [Int.natCast_ediv, Int.natCast_pow]; rfl
    rw [h6, h7, or64 (Nat.mod_lt _ (by simp [T64])) (Nat.lt_of_le_of_lt (Nat.div_le_self _ _) hx), hm]; rfl)
  have hm64 : m ≤ 64 := by omega
  clear hm
  go_enter Tryz.func97, Tryz.ntmps97
  go_wp2_with (go_region)
  rw [HR.out]
  go_ret
  exact ⟨rfl, 1, rfl⟩
theorem rotl03_ret (x n : Nat) (hx : x < T64) (hn : n < 64) (w : World) : Calls Tryz.prog 97 #[.int .u64 (x : Int), .int .i64 (n : Int)] w (Ret (fun r _ => r = .int .u64 (rotl x n : Nat)) w) :=
  (rotl03_any x n hx hn w).mono fun _ _ ⟨h, m, hm⟩ => ⟨_, h, rfl, by rw [hm]; exact bel_drewN (Below.refl _ _) m⟩
theorem turns03_any (w0 : World) : Calls Tryz.prog 98 #[] w0 (Ret (fun x w' => w'.ownsRow w0.heap.size 3 1 x 25 (i64s turnsL)) w0) := by
  have hS := St.start0 (w := w0)
  go_enter Tryz.func98, Tryz.ntmps98
  go_wp2_with ((with_reducible show wpList _ _ _ (⟨_, .buildSlice _ 25 _, _, _, _, _⟩ :: _) _ _); refine st_litown hS rfl _ 3 25 _ rfl Tryz.underlying22 (i64s turnsL).toArray (by kernel_rfl) 1 (by kernel_rfl) (by decide) ?_; clear hS; intro g w_ hS)
  go_ret
  exact Ret.mk (hS.own 0 rfl) hS.below
theorem rounds03_any (w0 : World) : Calls Tryz.prog 87 #[] w0 (Ret (fun x w' => w'.ownsRow w0.heap.size 58 1 x 24 (u64s roundsL)) w0) := by
  have hS := St.start0 (w := w0)
  go_enter Tryz.func87, Tryz.ntmps87
  go_wp2_with ((with_reducible show wpList _ _ _ (⟨_, .buildSlice _ 24 _, _, _, _, _⟩ :: _) _ _); refine st_litown hS rfl _ 58 24 _ rfl Tryz.underlying49 (u64s roundsL).toArray (by kernel_rfl) 1 (by kernel_rfl) (by decide) ?_; clear hS; intro g w_ hS)
  go_ret
  exact Ret.mk (hS.own 0 rfl) hS.below
/-- what 'out' holds: the columns below x, and of column x the rows below y -/
def oTo (B : List Nat) (x y : Nat) : List Nat := (List.range 25).map fun i => if i % 5 < x ∨ (i % 5 = x ∧ i / 5 < y) then ka B i else 0
theorem oTo_len (B : List Nat) (x y : Nat) : (oTo B x y).length = 25 := by simp [oTo]
theorem oTo_zero (B : List Nat) : oTo B 0 0 = List.replicate 25 0 := by
  apply List.ext_getElem
  · simp [oTo]
  · intro j h1 h2
    simp only [oTo, List.getElem_map, List.getElem_range, List.getElem_replicate]
    rw [if_neg (by omega)]
theorem oTo_wrap (B : List Nat) (x : Nat) : oTo B x 5 = oTo B (x + 1) 0 := by
  apply List.ext_getElem
  · simp [oTo]
  · intro j h1 h2
    simp [oTo] at h1
    simp only [oTo, List.getElem_map, List.getElem_range]
    have : (j % 5 < x ∨ (j % 5 = x ∧ j / 5 < 5)) ↔ (j % 5 < x + 1 ∨ (j % 5 = x + 1 ∧ j / 5 < 0)) := by omega
    simp only [this]
theorem oTo_full (B : List Nat) : oTo B 5 0 = (List.range 25).map (ka B) := by
  apply List.ext_getElem
  · simp [oTo]
  · intro j h1 h2
    simp only [oTo, List.getElem_map, List.getElem_range]
    rw [if_pos (by omega)]
theorem oTo_step (B : List Nat) {x y : Nat} (hx : x < 5) (hy : y < 5) : (oTo B x y).set (x + 5 * y) (ka B (x + 5 * y)) = oTo B x (y + 1) := by
  apply List.ext_getElem
  · simp [oTo]
  · intro j h1 h2
    simp [oTo] at h1
    rw [List.getElem_set]
    simp only [oTo, List.getElem_map, List.getElem_range]
    split
    · rename_i e; subst e; rw [if_pos (by omega)]
    · have : (j % 5 < x ∨ (j % 5 = x ∧ j / 5 < y)) ↔ (j % 5 < x ∨ (j % 5 = x ∧ j / 5 < y + 1)) := by omega
      simp only [this]
theorem sl_at {w : World} {D : Nat → Prop} {b o n c : Nat} {l : List Nat} (h : Sl w D 1 (.slice (some ⟨b, o, none⟩) n c) n (u64s l)) (hl : l.length = n) {j : Nat} (hj : j < n) : w.cell? ⟨b, o + j, none⟩ = some (.int .u64 (l.getD j 0 : Nat)) := by
  obtain ⟨_, A', c', e, _, _, h⟩ := h
  injection e with e1 e2 e3
  obtain ⟨b', o', e4, _, _, h⟩ := h (by omega)
  rw [← e1] at e4
  injection e4 with e4
  injection e4 with e5 e6
  subst e5 e6
  exact h j _ (u64s_at l j (by omega))
theorem sl_at1 {w : World} {D : Nat → Prop} {b o n c : Nat} {l : List Nat} (h : Sl w D 1 (.slice (some ⟨b, o, none⟩) n c) n (u64s l)) (hl : l.length = n) {j : Nat} (hj : j < n) : w.cell? ⟨b, o + j * 1, none⟩ = some (.int .u64 (l.getD j 0 : Nat)) := by
  rw [Nat.mul_one]; exact sl_at h hl hj
set_option maxHeartbeats 4000000 in
theorem round03_any (p : Value) (a : List Nat) (c : Nat) (hl : a.length = 25) (hw : Words a) (hc : c < T64) (w0 : World) (D : Nat → Prop) (hp : Sl w0 D 1 p 25 (u64s a)) :
    Calls Tryz.prog 88 #[p, .int .u64 (c : Nat)] w0 (Ret (fun x w' => w'.ownsRow w0.heap.size 58 1 x 25 (u64s (kround a c))) w0) := by
  obtain ⟨_, A, ca, rfl, hca, _, hA⟩ := id hp
  obtain ⟨ab, ao, rfl, _, _, _⟩ := hA (by decide)
  obtain ⟨K, hk, hS⟩ : ∃ K, (∀ D w, K D w → Sl w D 1 (.slice (some ⟨ab, ao, none⟩) 25 ca) 25 (u64s a)) ∧ St w0 w0 [] K := ⟨fun D w => Sl w D 1 (.slice (some ⟨ab, ao, none⟩) 25 ca) 25 (u64s a), fun _ _ h => h, St.start stable_sl hp⟩
  clear hp
  have HK := Lib.hid hk
  clear hk hA
  go_enter Tryz.func88, Tryz.ntmps88
  go_wp2_with fail
  go_loopw [5, 6] (fun o i wr => ∃ (x : Nat) (ov : Value), x ≤ 5 ∧ i = .int .i64 x ∧ o = ov ∧ St w0 wr [.own ov 58 1 x (u64s ((List.range x).map (kc a)))] K) (fun _ i _ => 5 - (intOf i).toNat)
  case atStart => exact ⟨0, _, by omega, rfl, rfl, hS.nil _ _⟩
  case round =>
    clear hS
    obtain ⟨x, ov, hx, rfl, rfl, hS⟩ := hrel
    by_cases hlt : x < 5
    · have H0 := Lib.hid (fun (w : World) (h : Below wr.heap.size wr w) => sl_at1 (HK.out _ _ (hS.ext h).ro) hl (j := x) (by omega))
      have H1 := Lib.hid (fun (w : World) (h : Below wr.heap.size wr w) => sl_at1 (HK.out _ _ (hS.ext h).ro) hl (j := x + 5) (by omega))
      have H2 := Lib.hid (fun (w : World) (h : Below wr.heap.size wr w) => sl_at1 (HK.out _ _ (hS.ext h).ro) hl (j := x + 10) (by omega))
      have H3 := Lib.hid (fun (w : World) (h : Below wr.heap.size wr w) => sl_at1 (HK.out _ _ (hS.ext h).ro) hl (j := x + 15) (by omega))
      have H4 := Lib.hid (fun (w : World) (h : Below wr.heap.size wr w) => sl_at1 (HK.out _ _ (hS.ext h).ro) hl (j := x + 20) (by omega))
      have hkc : kc a x = (((a.getD x 0 ^^^ a.getD (x + 5) 0) ^^^ a.getD (x + 10) 0) ^^^ a.getD (x + 15) 0) ^^^ a.getD (x + 20) 0 := rfl
      have l0 := hw.getD x
      have l1 := hw.getD (x + 5)
      have l2 := hw.getD (x + 10)
      have l3 := hw.getD (x + 15)
      have l4 := hw.getD (x + 20)
      generalize a.getD x 0 = a0 at *
      generalize a.getD (x + 5) 0 = a1 at *
      generalize a.getD (x + 10) 0 = a2 at *
      generalize a.getD (x + 15) 0 = a3 at *
      generalize a.getD (x + 20) 0 = a4 at *
      have HKC := Lib.hid hkc
      clear hkc
      go_wp2_with fail
      refine wp_region_tailS (fun i v w => match i with
        | 0 => v = u5
        | 1 => v = .slice (some ⟨ab, ao, none⟩) 25 ca
        | 2 => v = .int .i64 ((x : Nat) : Int)
        | 3 => v = .pointer (some ⟨ab, ao + (x) * 1, none⟩)
        | 4 => v = .int .u64 (a0 : Nat)
        | 5 => v = .slice (some ⟨ab, ao, none⟩) 25 ca
        | 6 => v = .int .i64 ((x : Nat) : Int)
        | 7 => v = .int .i64 (((x : Nat) : Int) + (5 : Int))
        | 8 => v = .pointer (some ⟨ab, ao + (x + 5) * 1, none⟩)
        | 9 => v = .int .u64 (a1 : Nat)
        | 10 => v = .int .u64 ((a0 ^^^ a1 : Nat) : Int)
        | 11 => v = .slice (some ⟨ab, ao, none⟩) 25 ca
        | 12 => v = .int .i64 ((x : Nat) : Int)
        | 13 => v = .int .i64 (((x : Nat) : Int) + (10 : Int))
        | 14 => v = .pointer (some ⟨ab, ao + (x + 10) * 1, none⟩)
        | 15 => v = .int .u64 (a2 : Nat)
        | 16 => v = .int .u64 (((a0 ^^^ a1) ^^^ a2 : Nat) : Int)
        | 17 => v = .slice (some ⟨ab, ao, none⟩) 25 ca
        | 18 => v = .int .i64 ((x : Nat) : Int)
        | 19 => v = .int .i64 (((x : Nat) : Int) + (15 : Int))
        | 20 => v = .pointer (some ⟨ab, ao + (x + 15) * 1, none⟩)
        | 21 => v = .int .u64 (a3 : Nat)
        | 22 => v = .int .u64 ((((a0 ^^^ a1) ^^^ a2) ^^^ a3 : Nat) : Int)
        | 23 => v = .slice (some ⟨ab, ao, none⟩) 25 ca
        | 24 => v = .int .i64 ((x : Nat) : Int)
        | 25 => v = .int .i64 (((x : Nat) : Int) + (20 : Int))
        | 26 => v = .pointer (some ⟨ab, ao + (x + 20) * 1, none⟩)
        | 27 => v = .int .u64 (a4 : Nat)
        | 28 => v = .int .u64 (((((a0 ^^^ a1) ^^^ a2) ^^^ a3) ^^^ a4 : Nat) : Int)
        | 29 => Sl w (fun _ => True) 1 v 1 [.int .u64 (kc a x : Nat)]
        | 30 => True
        | 31 => True
        | _ => True) 30 [31] (by kernel_rfl) (by kernel_rfl) (by kernel_rfl) (by kernel_rfl) (by kernel_rfl) ?mono ⟨.inr ?r0, .inr ?r1, .inr ?r2, .inr ?r3, .inr ?r4, .inr ?r5, .inr ?r6, .inr ?r7, .inr ?r8, .inr ?r9, .inr ?r10, .inr ?r11, .inr ?r12, .inr ?r13, .inr ?r14, .inr ?r15, .inr ?r16, .inr ?r17, .inr ?r18, .inr ?r19, .inr ?r20, .inr ?r21, .inr ?r22, .inr ?r23, .inr ?r24, .inr ?r25, .inr ?r26, .inr ?r27, .inr ?r28, .inr ?r29, .inl (by decide), .inl (by decide), trivial⟩ ?post
      case mono =>
        intro i v w w' h hb
        match i, h with
        | 0, h => exact h
        | 1, h => exact h
        | 2, h => exact h
        | 3, h => exact h
        | 4, h => exact h
        | 5, h => exact h
        | 6, h => exact h
        | 7, h => exact h
        | 8, h => exact h
        | 9, h => exact h
        | 10, h => exact h
        | 11, h => exact h
        | 12, h => exact h
        | 13, h => exact h
        | 14, h => exact h
        | 15, h => exact h
        | 16, h => exact h
        | 17, h => exact h
        | 18, h => exact h
        | 19, h => exact h
        | 20, h => exact h
        | 21, h => exact h
        | 22, h => exact h
        | 23, h => exact h
        | 24, h => exact h
        | 25, h => exact h
        | 26, h => exact h
        | 27, h => exact h
        | 28, h => exact h
        | 29, h => exact h.ext hb
        | 30, h => exact h
        | 31, h => exact h
        | _ + 32, h => trivial
      case r0 =>
        refine truleT fun b w hW hold hpre => ⟨fun hwant K hK => ?_, fun hwant => ?_⟩
        · clear hwant
          have e5 : b.eval (.tmp 5) = u5 := (hold 5 (by kernel_rfl)).trans rfl
          exact opw_move rfl e5 (hK _ _ rfl (Below.refl _ _))
        · rw [want_none rfl] at hwant; cases hwant
      case r1 =>
        refine truleT fun b w hW hold hpre => ⟨fun hwant K hK => ?_, fun hwant => ?_⟩
        · clear hwant
          have e0 : b.eval (.tmp 0) = .slice (some ⟨ab, ao, none⟩) 25 ca := (hold 0 (by kernel_rfl)).trans rfl
          exact opw_move rfl e0 (hK _ _ rfl (Below.refl _ _))
        · rw [want_none rfl] at hwant; cases hwant
      case r2 =>
        refine truleT fun b w hW hold hpre => ⟨fun hwant K hK => ?_, fun hwant => ?_⟩
        · clear hwant
          have e6 : b.eval (.tmp 6) = .int .i64 ((x : Nat) : Int) := (hold 6 (by kernel_rfl)).trans rfl
          exact opw_move rfl e6 (hK _ _ rfl (Below.refl _ _))
        · rw [want_none rfl] at hwant; cases hwant
      case r3 =>
        refine truleT fun b w hW hold hpre => ⟨fun hwant K hK => ?_, fun hwant => ?_⟩
        · clear hwant
          have e19 : b.eval (.tmp 19) = .slice (some ⟨ab, ao, none⟩) 25 ca := hpre ⟨1, _⟩ (Array.mem_of_getElem? (i := 0) rfl) rfl _ _ rfl rfl
          have e20 : b.eval (.tmp 20) = .int .i64 ((x : Nat) : Int) := hpre ⟨2, _⟩ (Array.mem_of_getElem? (i := 1) rfl) rfl _ _ rfl rfl
          exact opw_iaddr rfl e19 e20 (run_iaddr_lit (m := x) Tryz.underlying49 (by kernel_rfl) (by omega) (by omega)) (hK _ _ rfl (Below.refl _ _))
        · rw [want_none rfl] at hwant; cases hwant
      case r4 =>
        refine truleT fun b w hW hold hpre => ⟨fun hwant K hK => ?_, fun hwant => ?_⟩
        · clear hwant
          have e21 : b.eval (.tmp 21) = .pointer (some ⟨ab, ao + (x) * 1, none⟩) := hpre ⟨3, _⟩ (Array.mem_of_getElem? (i := 0) rfl) rfl _ _ rfl rfl
          exact opw_cell rfl e21 (by kernel_rfl) (H0.out w (undrew hW)) (hK _ _ rfl (Below.refl _ _))
        · rw [want_none rfl] at hwant; cases hwant
      case r5 =>
        refine truleT fun b w hW hold hpre => ⟨fun hwant K hK => ?_, fun hwant => ?_⟩
        · clear hwant
          have e0 : b.eval (.tmp 0) = .slice (some ⟨ab, ao, none⟩) 25 ca := (hold 0 (by kernel_rfl)).trans rfl
          exact opw_move rfl e0 (hK _ _ rfl (Below.refl _ _))
        · rw [want_none rfl] at hwant; cases hwant
      case r6 =>
        refine truleT fun b w hW hold hpre => ⟨fun hwant K hK => ?_, fun hwant => ?_⟩
        · clear hwant
          have e6 : b.eval (.tmp 6) = .int .i64 ((x : Nat) : Int) := (hold 6 (by kernel_rfl)).trans rfl
          exact opw_move rfl e6 (hK _ _ rfl (Below.refl _ _))
        · rw [want_none rfl] at hwant; cases hwant
      case r7 =>
        refine truleT fun b w hW hold hpre => ⟨fun hwant K hK => ?_, fun hwant => ?_⟩
        · clear hwant
          have e24 : b.eval (.tmp 24) = .int .i64 ((x : Nat) : Int) := hpre ⟨6, _⟩ (Array.mem_of_getElem? (i := 0) rfl) rfl _ _ rfl rfl
          exact opw_bin (vx := .int .i64 ((x : Nat) : Int)) (vy := .int .i64 (5 : Int)) (v := .int .i64 (((x : Nat) : Int) + (5 : Int))) rfl e24 rfl rfl (run_add64 (by omega) (by omega)) (hK _ _ rfl (Below.refl _ _))
        · rw [want_none rfl] at hwant; cases hwant
      case r8 =>
        refine truleT fun b w hW hold hpre => ⟨fun hwant K hK => ?_, fun hwant => ?_⟩
        · clear hwant
          have e23 : b.eval (.tmp 23) = .slice (some ⟨ab, ao, none⟩) 25 ca := hpre ⟨5, _⟩ (Array.mem_of_getElem? (i := 0) rfl) rfl _ _ rfl rfl
          have e25 : b.eval (.tmp 25) = .int .i64 (((x : Nat) : Int) + (5 : Int)) := hpre ⟨7, _⟩ (Array.mem_of_getElem? (i := 1) rfl) rfl _ _ rfl rfl
          exact opw_iaddr rfl e23 e25 (run_iaddr_lit (m := x + 5) Tryz.underlying49 (by kernel_rfl) (by omega) (by omega)) (hK _ _ rfl (Below.refl _ _))
        · rw [want_none rfl] at hwant; cases hwant
      case r9 =>
        refine truleT fun b w hW hold hpre => ⟨fun hwant K hK => ?_, fun hwant => ?_⟩
        · clear hwant
          have e26 : b.eval (.tmp 26) = .pointer (some ⟨ab, ao + (x + 5) * 1, none⟩) := hpre ⟨8, _⟩ (Array.mem_of_getElem? (i := 0) rfl) rfl _ _ rfl rfl
          exact opw_cell rfl e26 (by kernel_rfl) (H1.out w (undrew hW)) (hK _ _ rfl (Below.refl _ _))
        · rw [want_none rfl] at hwant; cases hwant
      case r10 =>
        refine truleT fun b w hW hold hpre => ⟨fun hwant K hK => ?_, fun hwant => ?_⟩
        · clear hwant
          have e22 : b.eval (.tmp 22) = .int .u64 (a0 : Nat) := hpre ⟨4, _⟩ (Array.mem_of_getElem? (i := 0) rfl) rfl _ _ rfl rfl
          have e27 : b.eval (.tmp 27) = .int .u64 (a1 : Nat) := hpre ⟨9, _⟩ (Array.mem_of_getElem? (i := 1) rfl) rfl _ _ rfl rfl
          exact opw_bin rfl e22 e27 rfl (run_xor64' l0 l1) (hK _ _ rfl (Below.refl _ _))
        · rw [want_none rfl] at hwant; cases hwant
      case r11 =>
        refine truleT fun b w hW hold hpre => ⟨fun hwant K hK => ?_, fun hwant => ?_⟩
        · clear hwant
          have e0 : b.eval (.tmp 0) = .slice (some ⟨ab, ao, none⟩) 25 ca := (hold 0 (by kernel_rfl)).trans rfl
          exact opw_move rfl e0 (hK _ _ rfl (Below.refl _ _))
        · rw [want_none rfl] at hwant; cases hwant
      case r12 =>
        refine truleT fun b w hW hold hpre => ⟨fun hwant K hK => ?_, fun hwant => ?_⟩
        · clear hwant
          have e6 : b.eval (.tmp 6) = .int .i64 ((x : Nat) : Int) := (hold 6 (by kernel_rfl)).trans rfl
          exact opw_move rfl e6 (hK _ _ rfl (Below.refl _ _))
        · rw [want_none rfl] at hwant; cases hwant
      case r13 =>
        refine truleT fun b w hW hold hpre => ⟨fun hwant K hK => ?_, fun hwant => ?_⟩
        · clear hwant
          have e30 : b.eval (.tmp 30) = .int .i64 ((x : Nat) : Int) := hpre ⟨12, _⟩ (Array.mem_of_getElem? (i := 0) rfl) rfl _ _ rfl rfl
          exact opw_bin (vx := .int .i64 ((x : Nat) : Int)) (vy := .int .i64 (10 : Int)) (v := .int .i64 (((x : Nat) : Int) + (10 : Int))) rfl e30 rfl rfl (run_add64 (by omega) (by omega)) (hK _ _ rfl (Below.refl _ _))
        · rw [want_none rfl] at hwant; cases hwant
      case r14 =>
        refine truleT fun b w hW hold hpre => ⟨fun hwant K hK => ?_, fun hwant => ?_⟩
        · clear hwant
          have e29 : b.eval (.tmp 29) = .slice (some ⟨ab, ao, none⟩) 25 ca := hpre ⟨11, _⟩ (Array.mem_of_getElem? (i := 0) rfl) rfl _ _ rfl rfl
          have e31 : b.eval (.tmp 31) = .int .i64 (((x : Nat) : Int) + (10 : Int)) := hpre ⟨13, _⟩ (Array.mem_of_getElem? (i := 1) rfl) rfl _ _ rfl rfl
          exact opw_iaddr rfl e29 e31 (run_iaddr_lit (m := x + 10) Tryz.underlying49 (by kernel_rfl) (by omega) (by omega)) (hK _ _ rfl (Below.refl _ _))
        · rw [want_none rfl] at hwant; cases hwant
      case r15 =>
        refine truleT fun b w hW hold hpre => ⟨fun hwant K hK => ?_, fun hwant => ?_⟩
        · clear hwant
          have e32 : b.eval (.tmp 32) = .pointer (some ⟨ab, ao + (x + 10) * 1, none⟩) := hpre ⟨14, _⟩ (Array.mem_of_getElem? (i := 0) rfl) rfl _ _ rfl rfl
          exact opw_cell rfl e32 (by kernel_rfl) (H2.out w (undrew hW)) (hK _ _ rfl (Below.refl _ _))
        · rw [want_none rfl] at hwant; cases hwant
      case r16 =>
        refine truleT fun b w hW hold hpre => ⟨fun hwant K hK => ?_, fun hwant => ?_⟩
        · clear hwant
          have e28 : b.eval (.tmp 28) = .int .u64 ((a0 ^^^ a1 : Nat) : Int) := hpre ⟨10, _⟩ (Array.mem_of_getElem? (i := 0) rfl) rfl _ _ rfl rfl
          have e33 : b.eval (.tmp 33) = .int .u64 (a2 : Nat) := hpre ⟨15, _⟩ (Array.mem_of_getElem? (i := 1) rfl) rfl _ _ rfl rfl
          exact opw_bin rfl e28 e33 rfl (run_xor64' (xor_lt l0 l1) l2) (hK _ _ rfl (Below.refl _ _))
        · rw [want_none rfl] at hwant; cases hwant
      case r17 =>
        refine truleT fun b w hW hold hpre => ⟨fun hwant K hK => ?_, fun hwant => ?_⟩
        · clear hwant
          have e0 : b.eval (.tmp 0) = .slice (some ⟨ab, ao, none⟩) 25 ca := (hold 0 (by kernel_rfl)).trans rfl
          exact opw_move rfl e0 (hK _ _ rfl (Below.refl _ _))
        · rw [want_none rfl] at hwant; cases hwant
      case r18 =>
        refine truleT fun b w hW hold hpre => ⟨fun hwant K hK => ?_, fun hwant => ?_⟩
        · clear hwant
          have e6 : b.eval (.tmp 6) = .int .i64 ((x : Nat) : Int) := (hold 6 (by kernel_rfl)).trans rfl
          exact opw_move rfl e6 (hK _ _ rfl (Below.refl _ _))
        · rw [want_none rfl] at hwant; cases hwant
      case r19 =>
        refine truleT fun b w hW hold hpre => ⟨fun hwant K hK => ?_, fun hwant => ?_⟩
        · clear hwant
          have e36 : b.eval (.tmp 36) = .int .i64 ((x : Nat) : Int) := hpre ⟨18, _⟩ (Array.mem_of_getElem? (i := 0) rfl) rfl _ _ rfl rfl
          exact opw_bin (vx := .int .i64 ((x : Nat) : Int)) (vy := .int .i64 (15 : Int)) (v := .int .i64 (((x : Nat) : Int) + (15 : Int))) rfl e36 rfl rfl (run_add64 (by omega) (by omega)) (hK _ _ rfl (Below.refl _ _))
        · rw [want_none rfl] at hwant; cases hwant
      case r20 =>
        refine truleT fun b w hW hold hpre => ⟨fun hwant K hK => ?_, fun hwant => ?_⟩
        · clear hwant
          have e35 : b.eval (.tmp 35) = .slice (some ⟨ab, ao, none⟩) 25 ca := hpre ⟨17, _⟩ (Array.mem_of_getElem? (i := 0) rfl) rfl _ _ rfl rfl
          have e37 : b.eval (.tmp 37) = .int .i64 (((x : Nat) : Int) + (15 : Int)) := hpre ⟨19, _⟩ (Array.mem_of_getElem? (i := 1) rfl) rfl _ _ rfl rfl
          exact opw_iaddr rfl e35 e37 (run_iaddr_lit (m := x + 15) Tryz.underlying49 (by kernel_rfl) (by omega) (by omega)) (hK _ _ rfl (Below.refl _ _))
        · rw [want_none rfl] at hwant; cases hwant
      case r21 =>
        refine truleT fun b w hW hold hpre => ⟨fun hwant K hK => ?_, fun hwant => ?_⟩
        · clear hwant
          have e38 : b.eval (.tmp 38) = .pointer (some ⟨ab, ao + (x + 15) * 1, none⟩) := hpre ⟨20, _⟩ (Array.mem_of_getElem? (i := 0) rfl) rfl _ _ rfl rfl
          exact opw_cell rfl e38 (by kernel_rfl) (H3.out w (undrew hW)) (hK _ _ rfl (Below.refl _ _))
        · rw [want_none rfl] at hwant; cases hwant
      case r22 =>
        refine truleT fun b w hW hold hpre => ⟨fun hwant K hK => ?_, fun hwant => ?_⟩
        · clear hwant
          have e34 : b.eval (.tmp 34) = .int .u64 (((a0 ^^^ a1) ^^^ a2 : Nat) : Int) := hpre ⟨16, _⟩ (Array.mem_of_getElem? (i := 0) rfl) rfl _ _ rfl rfl
          have e39 : b.eval (.tmp 39) = .int .u64 (a3 : Nat) := hpre ⟨21, _⟩ (Array.mem_of_getElem? (i := 1) rfl) rfl _ _ rfl rfl
          exact opw_bin rfl e34 e39 rfl (run_xor64' (xor_lt (xor_lt l0 l1) l2) l3) (hK _ _ rfl (Below.refl _ _))
        · rw [want_none rfl] at hwant; cases hwant
      case r23 =>
        refine truleT fun b w hW hold hpre => ⟨fun hwant K hK => ?_, fun hwant => ?_⟩
        · clear hwant
          have e0 : b.eval (.tmp 0) = .slice (some ⟨ab, ao, none⟩) 25 ca := (hold 0 (by kernel_rfl)).trans rfl
          exact opw_move rfl e0 (hK _ _ rfl (Below.refl _ _))
        · rw [want_none rfl] at hwant; cases hwant
      case r24 =>
        refine truleT fun b w hW hold hpre => ⟨fun hwant K hK => ?_, fun hwant => ?_⟩
        · clear hwant
          have e6 : b.eval (.tmp 6) = .int .i64 ((x : Nat) : Int) := (hold 6 (by kernel_rfl)).trans rfl
          exact opw_move rfl e6 (hK _ _ rfl (Below.refl _ _))
        · rw [want_none rfl] at hwant; cases hwant
      case r25 =>
        refine truleT fun b w hW hold hpre => ⟨fun hwant K hK => ?_, fun hwant => ?_⟩
        · clear hwant
          have e42 : b.eval (.tmp 42) = .int .i64 ((x : Nat) : Int) := hpre ⟨24, _⟩ (Array.mem_of_getElem? (i := 0) rfl) rfl _ _ rfl rfl
          exact opw_bin (vx := .int .i64 ((x : Nat) : Int)) (vy := .int .i64 (20 : Int)) (v := .int .i64 (((x : Nat) : Int) + (20 : Int))) rfl e42 rfl rfl (run_add64 (by omega) (by omega)) (hK _ _ rfl (Below.refl _ _))
        · rw [want_none rfl] at hwant; cases hwant
      case r26 =>
        refine truleT fun b w hW hold hpre => ⟨fun hwant K hK => ?_, fun hwant => ?_⟩
        · clear hwant
          have e41 : b.eval (.tmp 41) = .slice (some ⟨ab, ao, none⟩) 25 ca := hpre ⟨23, _⟩ (Array.mem_of_getElem? (i := 0) rfl) rfl _ _ rfl rfl
          have e43 : b.eval (.tmp 43) = .int .i64 (((x : Nat) : Int) + (20 : Int)) := hpre ⟨25, _⟩ (Array.mem_of_getElem? (i := 1) rfl) rfl _ _ rfl rfl
          exact opw_iaddr rfl e41 e43 (run_iaddr_lit (m := x + 20) Tryz.underlying49 (by kernel_rfl) (by omega) (by omega)) (hK _ _ rfl (Below.refl _ _))
        · rw [want_none rfl] at hwant; cases hwant
      case r27 =>
        refine truleT fun b w hW hold hpre => ⟨fun hwant K hK => ?_, fun hwant => ?_⟩
        · clear hwant
          have e44 : b.eval (.tmp 44) = .pointer (some ⟨ab, ao + (x + 20) * 1, none⟩) := hpre ⟨26, _⟩ (Array.mem_of_getElem? (i := 0) rfl) rfl _ _ rfl rfl
          exact opw_cell rfl e44 (by kernel_rfl) (H4.out w (undrew hW)) (hK _ _ rfl (Below.refl _ _))
        · rw [want_none rfl] at hwant; cases hwant
      case r28 =>
        refine truleT fun b w hW hold hpre => ⟨fun hwant K hK => ?_, fun hwant => ?_⟩
        · clear hwant
          have e40 : b.eval (.tmp 40) = .int .u64 ((((a0 ^^^ a1) ^^^ a2) ^^^ a3 : Nat) : Int) := hpre ⟨22, _⟩ (Array.mem_of_getElem? (i := 0) rfl) rfl _ _ rfl rfl
          have e45 : b.eval (.tmp 45) = .int .u64 (a4 : Nat) := hpre ⟨27, _⟩ (Array.mem_of_getElem? (i := 1) rfl) rfl _ _ rfl rfl
          exact opw_bin rfl e40 e45 rfl (run_xor64' (xor_lt (xor_lt (xor_lt l0 l1) l2) l3) l4) (hK _ _ rfl (Below.refl _ _))
        · rw [want_none rfl] at hwant; cases hwant
      case r29 =>
        refine truleT fun b w hW hold hpre => ⟨fun hwant K hK => ?_, fun hwant => ?_⟩
        · clear hwant
          have e46 : b.eval (.tmp 46) = .int .u64 (((((a0 ^^^ a1) ^^^ a2) ^^^ a3) ^^^ a4 : Nat) : Int) := hpre ⟨28, _⟩ (Array.mem_of_getElem? (i := 0) rfl) rfl _ _ rfl rfl
          exact opw_slice rfl Tryz.underlying49 (ps := [(0, .int .u64 (kc a x : Nat))]) (cells := #[.int .u64 (kc a x : Nat)]) (by simp [e46, HKC.out]) (by kernel_rfl) fun w' hbx hbel => hK _ w' (sl_one hbx) hbel
        · rw [want_none rfl] at hwant; cases hwant
      case post =>
        intro b wz hW hdf hsz hold hT
        have e18 : b.eval (.tmp 18) = u5 := hT 0 _ 18 (by decide) rfl rfl
        have e47 : (fun (v : Value) (w : World) => Sl w (fun _ => True) 1 v 1 [.int .u64 (kc a x : Nat)]) (b.eval (.tmp 47)) wz := hT 29 _ 47 (by decide) rfl rfl
        have e19 : b.eval (.tmp 19) = .slice (some ⟨ab, ao, none⟩) 25 ca := hT 1 _ 19 (by decide) rfl rfl
        have e20 : b.eval (.tmp 20) = .int .i64 ((x : Nat) : Int) := hT 2 _ 20 (by decide) rfl rfl
        have e21 : b.eval (.tmp 21) = .pointer (some ⟨ab, ao + (x) * 1, none⟩) := hT 3 _ 21 (by decide) rfl rfl
        have e22 : b.eval (.tmp 22) = .int .u64 (a0 : Nat) := hT 4 _ 22 (by decide) rfl rfl
        have e23 : b.eval (.tmp 23) = .slice (some ⟨ab, ao, none⟩) 25 ca := hT 5 _ 23 (by decide) rfl rfl
        have e24 : b.eval (.tmp 24) = .int .i64 ((x : Nat) : Int) := hT 6 _ 24 (by decide) rfl rfl
        have e25 : b.eval (.tmp 25) = .int .i64 (((x : Nat) : Int) + (5 : Int)) := hT 7 _ 25 (by decide) rfl rfl
        have e26 : b.eval (.tmp 26) = .pointer (some ⟨ab, ao + (x + 5) * 1, none⟩) := hT 8 _ 26 (by decide) rfl rfl
        have e27 : b.eval (.tmp 27) = .int .u64 (a1 : Nat) := hT 9 _ 27 (by decide) rfl rfl
        have e28 : b.eval (.tmp 28) = .int .u64 ((a0 ^^^ a1 : Nat) : Int) := hT 10 _ 28 (by decide) rfl rfl
        have e29 : b.eval (.tmp 29) = .slice (some ⟨ab, ao, none⟩) 25 ca := hT 11 _ 29 (by decide) rfl rfl
        have e30 : b.eval (.tmp 30) = .int .i64 ((x : Nat) : Int) := hT 12 _ 30 (by decide) rfl rfl
        have e31 : b.eval (.tmp 31) = .int .i64 (((x : Nat) : Int) + (10 : Int)) := hT 13 _ 31 (by decide) rfl rfl
        have e32 : b.eval (.tmp 32) = .pointer (some ⟨ab, ao + (x + 10) * 1, none⟩) := hT 14 _ 32 (by decide) rfl rfl
        have e33 : b.eval (.tmp 33) = .int .u64 (a2 : Nat) := hT 15 _ 33 (by decide) rfl rfl
        have e34 : b.eval (.tmp 34) = .int .u64 (((a0 ^^^ a1) ^^^ a2 : Nat) : Int) := hT 16 _ 34 (by decide) rfl rfl
        have e35 : b.eval (.tmp 35) = .slice (some ⟨ab, ao, none⟩) 25 ca := hT 17 _ 35 (by decide) rfl rfl
        have e36 : b.eval (.tmp 36) = .int .i64 ((x : Nat) : Int) := hT 18 _ 36 (by decide) rfl rfl
        have e37 : b.eval (.tmp 37) = .int .i64 (((x : Nat) : Int) + (15 : Int)) := hT 19 _ 37 (by decide) rfl rfl
        have e38 : b.eval (.tmp 38) = .pointer (some ⟨ab, ao + (x + 15) * 1, none⟩) := hT 20 _ 38 (by decide) rfl rfl
        have e39 : b.eval (.tmp 39) = .int .u64 (a3 : Nat) := hT 21 _ 39 (by decide) rfl rfl
        have e40 : b.eval (.tmp 40) = .int .u64 ((((a0 ^^^ a1) ^^^ a2) ^^^ a3 : Nat) : Int) := hT 22 _ 40 (by decide) rfl rfl
        have e41 : b.eval (.tmp 41) = .slice (some ⟨ab, ao, none⟩) 25 ca := hT 23 _ 41 (by decide) rfl rfl
        have e42 : b.eval (.tmp 42) = .int .i64 ((x : Nat) : Int) := hT 24 _ 42 (by decide) rfl rfl
        have e43 : b.eval (.tmp 43) = .int .i64 (((x : Nat) : Int) + (20 : Int)) := hT 25 _ 43 (by decide) rfl rfl
        have e44 : b.eval (.tmp 44) = .pointer (some ⟨ab, ao + (x + 20) * 1, none⟩) := hT 26 _ 44 (by decide) rfl rfl
        have e45 : b.eval (.tmp 45) = .int .u64 (a4 : Nat) := hT 27 _ 45 (by decide) rfl rfl
        have e46 : b.eval (.tmp 46) = .int .u64 (((((a0 ^^^ a1) ^^^ a2) ^^^ a3) ^^^ a4 : Nat) : Int) := hT 28 _ 46 (by decide) rfl rfl
        obtain ⟨vs, hvs, hb⟩ := frame_of hdf hsz (fun s hs => hold s (noDstS_of hs))
        replace e18 : vs 18 = u5 := (hvs 18).symm.trans e18
        replace e47 := (hvs 47) ▸ e47
        replace e19 : vs 19 = .slice (some ⟨ab, ao, none⟩) 25 ca := (hvs 19).symm.trans e19
        replace e20 : vs 20 = .int .i64 ((x : Nat) : Int) := (hvs 20).symm.trans e20
        replace e21 : vs 21 = .pointer (some ⟨ab, ao + (x) * 1, none⟩) := (hvs 21).symm.trans e21
        replace e22 : vs 22 = .int .u64 (a0 : Nat) := (hvs 22).symm.trans e22
        replace e23 : vs 23 = .slice (some ⟨ab, ao, none⟩) 25 ca := (hvs 23).symm.trans e23
        replace e24 : vs 24 = .int .i64 ((x : Nat) : Int) := (hvs 24).symm.trans e24
        replace e25 : vs 25 = .int .i64 (((x : Nat) : Int) + (5 : Int)) := (hvs 25).symm.trans e25
        replace e26 : vs 26 = .pointer (some ⟨ab, ao + (x + 5) * 1, none⟩) := (hvs 26).symm.trans e26
        replace e27 : vs 27 = .int .u64 (a1 : Nat) := (hvs 27).symm.trans e27
        replace e28 : vs 28 = .int .u64 ((a0 ^^^ a1 : Nat) : Int) := (hvs 28).symm.trans e28
        replace e29 : vs 29 = .slice (some ⟨ab, ao, none⟩) 25 ca := (hvs 29).symm.trans e29
        replace e30 : vs 30 = .int .i64 ((x : Nat) : Int) := (hvs 30).symm.trans e30
        replace e31 : vs 31 = .int .i64 (((x : Nat) : Int) + (10 : Int)) := (hvs 31).symm.trans e31
        replace e32 : vs 32 = .pointer (some ⟨ab, ao + (x + 10) * 1, none⟩) := (hvs 32).symm.trans e32
        replace e33 : vs 33 = .int .u64 (a2 : Nat) := (hvs 33).symm.trans e33
        replace e34 : vs 34 = .int .u64 (((a0 ^^^ a1) ^^^ a2 : Nat) : Int) := (hvs 34).symm.trans e34
        replace e35 : vs 35 = .slice (some ⟨ab, ao, none⟩) 25 ca := (hvs 35).symm.trans e35
        replace e36 : vs 36 = .int .i64 ((x : Nat) : Int) := (hvs 36).symm.trans e36
        replace e37 : vs 37 = .int .i64 (((x : Nat) : Int) + (15 : Int)) := (hvs 37).symm.trans e37
        replace e38 : vs 38 = .pointer (some ⟨ab, ao + (x + 15) * 1, none⟩) := (hvs 38).symm.trans e38
        replace e39 : vs 39 = .int .u64 (a3 : Nat) := (hvs 39).symm.trans e39
        replace e40 : vs 40 = .int .u64 ((((a0 ^^^ a1) ^^^ a2) ^^^ a3 : Nat) : Int) := (hvs 40).symm.trans e40
        replace e41 : vs 41 = .slice (some ⟨ab, ao, none⟩) 25 ca := (hvs 41).symm.trans e41
        replace e42 : vs 42 = .int .i64 ((x : Nat) : Int) := (hvs 42).symm.trans e42
        replace e43 : vs 43 = .int .i64 (((x : Nat) : Int) + (20 : Int)) := (hvs 43).symm.trans e43
        replace e44 : vs 44 = .pointer (some ⟨ab, ao + (x + 20) * 1, none⟩) := (hvs 44).symm.trans e44
        replace e45 : vs 45 = .int .u64 (a4 : Nat) := (hvs 45).symm.trans e45
        replace e46 : vs 46 = .int .u64 (((((a0 ^^^ a1) ^^^ a2) ^^^ a3) ^^^ a4 : Nat) : Int) := (hvs 46).symm.trans e46
        subst hb
        clear hvs hold hT hdf hsz
        simp only [setAll, Act.put, List.setIfInBounds_toArray, List.set_cons_zero, List.set_cons_succ, List.getElem_toArray, List.getElem_cons_succ, List.getElem_cons_zero]
        (intro o_ ho_; simp only [List.getElem?_toArray, List.getElem?_cons_succ, List.getElem?_cons_zero, Option.some.injEq] at ho_; subst ho_)
        refine opw_app (n := x) (m := 1) rfl ty_u64s e18 ((hS.ext hW).own 0 rfl) rfl e47 (by intro u hu; simp at hu; subst hu; rfl) (by omega) (by omega) (hS.ext hW).size fun v' w4 a1 a2 a3 => ?_
        replace hS := (hS.ext hW).upd 0 rfl (.own v' 58 1 (x + 1) (u64s ((List.range x).map (kc a)) ++ [Value.int .u64 ((kc a x : Nat) : Int)])) a2 a1 a3
        (intro o_ ho_; simp only [List.getElem?_toArray, List.getElem?_cons_succ, List.getElem?_cons_zero, Option.some.injEq] at ho_; subst ho_)
        simp only [Act.put, List.setIfInBounds_toArray, List.set_cons_zero, List.set_cons_succ]
        refine opw_assign rfl rfl ?_
        simp only [TailWp]
        simp only [Act.put, List.setIfInBounds_toArray, List.set_cons_zero, List.set_cons_succ]
        clear e47
        go_wp2_with fail
        refine ⟨⟨x + 1, v', hlt, by go_num, rfl, ?_⟩, by simp [intOf]; omega⟩
        rw [List.range_succ, List.map_append]
        simpa [u64s] using hS
    · obtain rfl : x = 5 := by omega
      simp only [show ((5 : Nat) : Int) = 5 from rfl]
      replace hS := hS.freeze 0 (by decide) rfl
      have hwC := kc_words hw
      have hlC : ((List.range 5).map (kc a)).length = 5 := by simp
      obtain ⟨_, Ac, cc, rfl, _, _, hcA⟩ := id hS.ro.2
      obtain ⟨cb, co, rfl, _, _, _⟩ := hcA (by decide)
      clear hcA
      obtain ⟨C, hCE⟩ : ∃ C, C = (List.range 5).map (kc a) := ⟨_, rfl⟩
      rw [← hCE] at hS hwC hlC
      have HCE := Lib.hid hCE
      clear hCE hlt hx
      go_wp2_with (first
        | ((with_reducible show wpList _ _ _ (⟨_, .makeSlice _ _ _, _, _, _, _⟩ :: _) _ _); refine st_mk hS rfl _ _ _ rfl ty_u64s .i64 .i64 25 #[.int .u64 0] rfl rfl (by kernel_rfl) (by decide) (by decide) ?_; clear hS; intro g7 w_ hS))
      rw [mk_u64s] at hS
      go_loopw [8] (fun i wr => ∃ (x : Nat), x ≤ 5 ∧ i = .int .i64 x ∧ St w0 wr [.own (.slice (some ⟨g7, 0, none⟩) 25 25) 58 1 25 (u64s (kbTo a C x))] (fun D w => K D w ∧ Sl w D 1 (.slice (some ⟨cb, co, none⟩) 5 cc) 5 (u64s C))) (fun i _ => 5 - (intOf i).toNat)
      case atStart => exact ⟨0, by omega, rfl, hS⟩
      case round =>
        clear hS
        obtain ⟨x, hx, rfl, hS⟩ := hrel
        by_cases hlt : x < 5
        · have hsl := hS.ro.2
          have h0 := sl_at hsl hlC (j := (x + 4) % 5) (by omega)
          have h1 := sl_at hsl hlC (j := (x + 1) % 5) (by omega)
          have HD := Lib.hid (show kd C x = C.getD ((x + 4) % 5) 0 ^^^ rotl (C.getD ((x + 1) % 5) 0) 1 from rfl)
          have l0 := hwC.getD ((x + 4) % 5)
          have l1 := hwC.getD ((x + 1) % 5)
          generalize C.getD ((x + 4) % 5) 0 = c0 at *
          generalize C.getD ((x + 1) % 5) 0 = c1 at *
          have ta : IntKind.i64.wrap ((x : Int) + 4) = (x : Int) + 4 := IntWalk.i64_in _ (by omega)
          have tb : IntKind.i64.wrap ((x : Int) + 1) = (x : Int) + 1 := IntWalk.i64_in _ (by omega)
          have tc : ((x : Int) + 4).tmod 5 = (((x + 4) % 5 : Nat) : Int) := by rw [Int.tmod_eq_emod_of_nonneg (by omega)]; omega
          have td : ((x : Int) + 1).tmod 5 = (((x + 1) % 5 : Nat) : Int) := by rw [Int.tmod_eq_emod_of_nonneg (by omega)]; omega
          have q4 : (x + 4) % 5 < 5 := by omega
          have q1 : (x + 1) % 5 < 5 := by omega
          generalize (x + 4) % 5 = x4 at *
          generalize (x + 1) % 5 = x1 at *
          clear hsl
          go_wp2_with (go_quiet ((go_at_call 97; exact Calls.quiet_of (rotl03_any _ 1 l1 (by decide) _))))
          have HE := Lib.hid (show bits .xor .u64 (c0 : Int) (rotl c1 1 : Nat) = ((kd C x : Nat) : Int) by rw [xor64 l0 (rotl_lt l1), HD.out])
          simp only [HE.out]
          have ld := kd_lt hwC x
          replace hS := hS.drewN nq
          clear h0 h1 HD HE l0 l1 ta tb tc td q4 q1
          generalize wr.drewN nq = W2 at *
          have hwB := kbTo_words hw hwC x
          have hlB := kbTo_len a C x
          have HSB := Lib.hid (kbTo_step a C x)
          generalize kbTo a C x = B at *
          generalize hd0 : kd C x = d0 at *
          have HD0 := Lib.hid hd0
          clear hd0
          go_loopw [10] (fun i wr => ∃ (y : Nat), y ≤ 5 ∧ i = .int .i64 y ∧ St w0 wr [.own (.slice (some ⟨g7, 0, none⟩) 25 25) 58 1 25 (u64s (kbRow a C B x y))] (fun D w => K D w ∧ Sl w D 1 (.slice (some ⟨cb, co, none⟩) 5 cc) 5 (u64s C))) (fun i _ => 5 - (intOf i).toNat)
          case atStart => exact ⟨0, by omega, rfl, hS⟩
          case round =>
            clear hS
            obtain ⟨y, hy, rfl, hS⟩ := hrel
            by_cases hlt4 : y < 5
            · have HA := Lib.hid (fun (w : World) (h : Below wr.heap.size wr w) => sl_at1 (HK.out _ _ (hS.ext h).ro.1) hl (j := x + 5 * y) (by omega))
              have hlR := kbRow_len a C B x y
              have l0 := hw.getD (x + 5 * y)
              have l1 := turns_lt (x + 5 * y)
              have HTU := Lib.hid (show (i64s turnsL)[(x + 5 * y) * 1 + 0]? = some (.int .i64 (turnsL.getD (x + 5 * y) 0 : Nat)) by
                simp [i64s, List.getD_eq_getElem?_getD, List.getElem?_eq_getElem (show x + 5 * y < turnsL.length by show _ < 25; omega)])
              have HKA := Lib.hid (show kbAt a C x (kbRow a C B x y) y = (kbRow a C B x y).set (y + 5 * ((2 * x + 3 * y) % 5)) (rotl (a.getD (x + 5 * y) 0 ^^^ kd C x) (turnsL.getD (x + 5 * y) 0)) from rfl)
              rw [HD0.out] at HKA
              have HSR := Lib.hid (kbRow_step a C B x y)
              generalize a.getD (x + 5 * y) 0 = a0 at *
              generalize turnsL.getD (x + 5 * y) 0 = t0 at *
              generalize kbRow a C B x y = R at *
              have lx := xor_lt l0 ld
              go_wp2_with fail
              refine wp_region_tail (fun i v w => match i with
                | 0 => v = .slice (some ⟨g7, 0, none⟩) 25 25
                | 1 => v = .int .i64 ((y : Nat) : Int)
                | 2 => v = .int .i64 ((x : Nat) : Int)
                | 3 => v = .int .i64 ((2 : Int) * ((x : Nat) : Int))
                | 4 => v = .int .i64 ((y : Nat) : Int)
                | 5 => v = .int .i64 ((3 : Int) * ((y : Nat) : Int))
                | 6 => v = .int .i64 (((2 : Int) * ((x : Nat) : Int)) + ((3 : Int) * ((y : Nat) : Int)))
                | 7 => v = .int .i64 ((((2 : Int) * ((x : Nat) : Int)) + ((3 : Int) * ((y : Nat) : Int))) % (5 : Int))
                | 8 => v = .int .i64 ((5 : Int) * ((((2 : Int) * ((x : Nat) : Int)) + ((3 : Int) * ((y : Nat) : Int))) % (5 : Int)))
                | 9 => v = .int .i64 (((y : Nat) : Int) + ((5 : Int) * ((((2 : Int) * ((x : Nat) : Int)) + ((3 : Int) * ((y : Nat) : Int))) % (5 : Int))))
                | 10 => v = .slice (some ⟨ab, ao, none⟩) 25 ca
                | 11 => v = .int .i64 ((x : Nat) : Int)
                | 12 => v = .int .i64 ((y : Nat) : Int)
                | 13 => v = .int .i64 ((5 : Int) * ((y : Nat) : Int))
                | 14 => v = .int .i64 (((x : Nat) : Int) + ((5 : Int) * ((y : Nat) : Int)))
                | 15 => v = .pointer (some ⟨ab, ao + (x + 5 * y) * 1, none⟩)
                | 16 => v = .int .u64 ((a0 : Nat) : Int)
                | 17 => v = .int .u64 ((d0 : Nat) : Int)
                | 18 => v = .int .u64 ((a0 ^^^ d0 : Nat) : Int)
                | 19 => Sl w (fun _ => True) 1 v 25 (i64s turnsL)
                | 20 => v = .int .i64 ((x : Nat) : Int)
                | 21 => v = .int .i64 ((y : Nat) : Int)
                | 22 => v = .int .i64 ((5 : Int) * ((y : Nat) : Int))
                | 23 => v = .int .i64 (((x : Nat) : Int) + ((5 : Int) * ((y : Nat) : Int)))
                | 24 => ∃ p : Addr, v = .pointer (some p) ∧ w.cell? p = some (.int .i64 ((t0 : Nat) : Int)) ∧ p.block < w.heap.size
                | 25 => v = .int .i64 ((t0 : Nat) : Int)
                | 26 => v = .int .u64 ((rotl (a0 ^^^ d0) t0 : Nat) : Int)
                | 27 => v = .pointer (some ⟨g7, 0 + (y + 5 * ((2 * x + 3 * y) % 5)) * 1, none⟩)
                | 28 => True
                | _ => True) 28 [] (by kernel_rfl) (by kernel_rfl) (by kernel_rfl) (by kernel_rfl) (by kernel_rfl) ?mono ⟨.inr ?r0, .inr ?r1, .inr ?r2, .inr ?r3, .inr ?r4, .inr ?r5, .inr ?r6, .inr ?r7, .inr ?r8, .inr ?r9, .inr ?r10, .inr ?r11, .inr ?r12, .inr ?r13, .inr ?r14, .inr ?r15, .inr ?r16, .inr ?r17, .inr ?r18, .inr ?r19, .inr ?r20, .inr ?r21, .inr ?r22, .inr ?r23, .inr ?r24, .inr ?r25, .inr ?r26, .inr ?r27, .inl (by decide), trivial⟩ ?post
              case mono =>
                intro i v w w' h hb
                match i, h with
                | 0, h => exact h
                | 1, h => exact h
                | 2, h => exact h
                | 3, h => exact h
                | 4, h => exact h
                | 5, h => exact h
                | 6, h => exact h
                | 7, h => exact h
                | 8, h => exact h
                | 9, h => exact h
                | 10, h => exact h
                | 11, h => exact h
                | 12, h => exact h
                | 13, h => exact h
                | 14, h => exact h
                | 15, h => exact h
                | 16, h => exact h
                | 17, h => exact h
                | 18, h => exact h
                | 19, h => exact h.ext hb
                | 20, h => exact h
                | 21, h => exact h
                | 22, h => exact h
                | 23, h => exact h
                | 24, h => exact by obtain ⟨p, h1, h2, h3⟩ := h; exact ⟨p, h1, (hb.cell h3).trans h2, Nat.lt_of_lt_of_le h3 hb.size⟩
                | 25, h => exact h
                | 26, h => exact h
                | 27, h => exact h
                | 28, h => exact h
                | _ + 29, h => trivial
              case r0 =>
                refine trule fun b w hW hold hpre => ⟨fun hwant K hK => ?_, fun hwant => ?_⟩
                · clear hwant
                  have e7 : b.eval (.tmp 7) = .slice (some ⟨g7, 0, none⟩) 25 25 := (hold 7 (by kernel_rfl)).trans rfl
                  exact opw_move rfl e7 (hK _ _ rfl (Below.refl _ _))
                · rw [want_none rfl] at hwant; cases hwant
              case r1 =>
                refine trule fun b w hW hold hpre => ⟨fun hwant K hK => ?_, fun hwant => ?_⟩
                · clear hwant
                  have e10 : b.eval (.tmp 10) = .int .i64 ((y : Nat) : Int) := (hold 10 (by kernel_rfl)).trans rfl
                  exact opw_move rfl e10 (hK _ _ rfl (Below.refl _ _))
                · rw [want_none rfl] at hwant; cases hwant
              case r2 =>
                refine trule fun b w hW hold hpre => ⟨fun hwant K hK => ?_, fun hwant => ?_⟩
                · clear hwant
                  have e8 : b.eval (.tmp 8) = .int .i64 ((x : Nat) : Int) := (hold 8 (by kernel_rfl)).trans rfl
                  exact opw_move rfl e8 (hK _ _ rfl (Below.refl _ _))
                · rw [want_none rfl] at hwant; cases hwant
              case r3 =>
                refine trule fun b w hW hold hpre => ⟨fun hwant K hK => ?_, fun hwant => ?_⟩
                · clear hwant
                  have e74 : b.eval (.tmp 74) = .int .i64 ((x : Nat) : Int) := hpre ⟨2, _⟩ (Array.mem_of_getElem? (i := 0) rfl) rfl _ _ rfl rfl
                  exact opw_bin (vx := .int .i64 (2 : Int)) (vy := .int .i64 ((x : Nat) : Int)) (v := .int .i64 ((2 : Int) * ((x : Nat) : Int))) rfl rfl e74 rfl (run_mul64 (by omega) (by omega)) (hK _ _ rfl (Below.refl _ _))
                · rw [want_none rfl] at hwant; cases hwant
              case r4 =>
                refine trule fun b w hW hold hpre => ⟨fun hwant K hK => ?_, fun hwant => ?_⟩
                · clear hwant
                  have e10 : b.eval (.tmp 10) = .int .i64 ((y : Nat) : Int) := (hold 10 (by kernel_rfl)).trans rfl
                  exact opw_move rfl e10 (hK _ _ rfl (Below.refl _ _))
                · rw [want_none rfl] at hwant; cases hwant
              case r5 =>
                refine trule fun b w hW hold hpre => ⟨fun hwant K hK => ?_, fun hwant => ?_⟩
                · clear hwant
                  have e76 : b.eval (.tmp 76) = .int .i64 ((y : Nat) : Int) := hpre ⟨4, _⟩ (Array.mem_of_getElem? (i := 0) rfl) rfl _ _ rfl rfl
                  exact opw_bin (vx := .int .i64 (3 : Int)) (vy := .int .i64 ((y : Nat) : Int)) (v := .int .i64 ((3 : Int) * ((y : Nat) : Int))) rfl rfl e76 rfl (run_mul64 (by omega) (by omega)) (hK _ _ rfl (Below.refl _ _))
                · rw [want_none rfl] at hwant; cases hwant
              case r6 =>
                refine trule fun b w hW hold hpre => ⟨fun hwant K hK => ?_, fun hwant => ?_⟩
                · clear hwant
                  have e75 : b.eval (.tmp 75) = .int .i64 ((2 : Int) * ((x : Nat) : Int)) := hpre ⟨3, _⟩ (Array.mem_of_getElem? (i := 0) rfl) rfl _ _ rfl rfl
                  have e77 : b.eval (.tmp 77) = .int .i64 ((3 : Int) * ((y : Nat) : Int)) := hpre ⟨5, _⟩ (Array.mem_of_getElem? (i := 1) rfl) rfl _ _ rfl rfl
                  exact opw_bin (vx := .int .i64 ((2 : Int) * ((x : Nat) : Int))) (vy := .int .i64 ((3 : Int) * ((y : Nat) : Int))) (v := .int .i64 (((2 : Int) * ((x : Nat) : Int)) + ((3 : Int) * ((y : Nat) : Int)))) rfl e75 e77 rfl (run_add64 (by omega) (by omega)) (hK _ _ rfl (Below.refl _ _))
                · rw [want_none rfl] at hwant; cases hwant
              case r7 =>
                refine trule fun b w hW hold hpre => ⟨fun hwant K hK => ?_, fun hwant => ?_⟩
                · clear hwant
                  have e78 : b.eval (.tmp 78) = .int .i64 (((2 : Int) * ((x : Nat) : Int)) + ((3 : Int) * ((y : Nat) : Int))) := hpre ⟨6, _⟩ (Array.mem_of_getElem? (i := 0) rfl) rfl _ _ rfl rfl
                  exact opw_bin (vx := .int .i64 (((2 : Int) * ((x : Nat) : Int)) + ((3 : Int) * ((y : Nat) : Int)))) (vy := .int .i64 (5 : Int)) (v := .int .i64 ((((2 : Int) * ((x : Nat) : Int)) + ((3 : Int) * ((y : Nat) : Int))) % (5 : Int))) rfl e78 rfl rfl (run_rem64 (by omega) (by omega)) (hK _ _ rfl (Below.refl _ _))
                · rw [want_none rfl] at hwant; cases hwant
              case r8 =>
                refine trule fun b w hW hold hpre => ⟨fun hwant K hK => ?_, fun hwant => ?_⟩
                · clear hwant
                  have e79 : b.eval (.tmp 79) = .int .i64 ((((2 : Int) * ((x : Nat) : Int)) + ((3 : Int) * ((y : Nat) : Int))) % (5 : Int)) := hpre ⟨7, _⟩ (Array.mem_of_getElem? (i := 0) rfl) rfl _ _ rfl rfl
                  exact opw_bin (vx := .int .i64 (5 : Int)) (vy := .int .i64 ((((2 : Int) * ((x : Nat) : Int)) + ((3 : Int) * ((y : Nat) : Int))) % (5 : Int))) (v := .int .i64 ((5 : Int) * ((((2 : Int) * ((x : Nat) : Int)) + ((3 : Int) * ((y : Nat) : Int))) % (5 : Int)))) rfl rfl e79 rfl (run_mul64 (by omega) (by omega)) (hK _ _ rfl (Below.refl _ _))
                · rw [want_none rfl] at hwant; cases hwant
              case r9 =>
                refine trule fun b w hW hold hpre => ⟨fun hwant K hK => ?_, fun hwant => ?_⟩
                · clear hwant
                  have e73 : b.eval (.tmp 73) = .int .i64 ((y : Nat) : Int) := hpre ⟨1, _⟩ (Array.mem_of_getElem? (i := 0) rfl) rfl _ _ rfl rfl
                  have e80 : b.eval (.tmp 80) = .int .i64 ((5 : Int) * ((((2 : Int) * ((x : Nat) : Int)) + ((3 : Int) * ((y : Nat) : Int))) % (5 : Int))) := hpre ⟨8, _⟩ (Array.mem_of_getElem? (i := 1) rfl) rfl _ _ rfl rfl
                  exact opw_bin (vx := .int .i64 ((y : Nat) : Int)) (vy := .int .i64 ((5 : Int) * ((((2 : Int) * ((x : Nat) : Int)) + ((3 : Int) * ((y : Nat) : Int))) % (5 : Int)))) (v := .int .i64 (((y : Nat) : Int) + ((5 : Int) * ((((2 : Int) * ((x : Nat) : Int)) + ((3 : Int) * ((y : Nat) : Int))) % (5 : Int))))) rfl e73 e80 rfl (run_add64 (by omega) (by omega)) (hK _ _ rfl (Below.refl _ _))
                · rw [want_none rfl] at hwant; cases hwant
              case r10 =>
                refine trule fun b w hW hold hpre => ⟨fun hwant K hK => ?_, fun hwant => ?_⟩
                · clear hwant
                  have e0 : b.eval (.tmp 0) = .slice (some ⟨ab, ao, none⟩) 25 ca := (hold 0 (by kernel_rfl)).trans rfl
                  exact opw_move rfl e0 (hK _ _ rfl (Below.refl _ _))
                · rw [want_none rfl] at hwant; cases hwant
              case r11 =>
                refine trule fun b w hW hold hpre => ⟨fun hwant K hK => ?_, fun hwant => ?_⟩
                · clear hwant
                  have e8 : b.eval (.tmp 8) = .int .i64 ((x : Nat) : Int) := (hold 8 (by kernel_rfl)).trans rfl
                  exact opw_move rfl e8 (hK _ _ rfl (Below.refl _ _))
                · rw [want_none rfl] at hwant; cases hwant
              case r12 =>
                refine trule fun b w hW hold hpre => ⟨fun hwant K hK => ?_, fun hwant => ?_⟩
                · clear hwant
                  have e10 : b.eval (.tmp 10) = .int .i64 ((y : Nat) : Int) := (hold 10 (by kernel_rfl)).trans rfl
                  exact opw_move rfl e10 (hK _ _ rfl (Below.refl _ _))
                · rw [want_none rfl] at hwant; cases hwant
              case r13 =>
                refine trule fun b w hW hold hpre => ⟨fun hwant K hK => ?_, fun hwant => ?_⟩
                · clear hwant
                  have e84 : b.eval (.tmp 84) = .int .i64 ((y : Nat) : Int) := hpre ⟨12, _⟩ (Array.mem_of_getElem? (i := 0) rfl) rfl _ _ rfl rfl
                  exact opw_bin (vx := .int .i64 (5 : Int)) (vy := .int .i64 ((y : Nat) : Int)) (v := .int .i64 ((5 : Int) * ((y : Nat) : Int))) rfl rfl e84 rfl (run_mul64 (by omega) (by omega)) (hK _ _ rfl (Below.refl _ _))
                · rw [want_none rfl] at hwant; cases hwant
              case r14 =>
                refine trule fun b w hW hold hpre => ⟨fun hwant K hK => ?_, fun hwant => ?_⟩
                · clear hwant
                  have e83 : b.eval (.tmp 83) = .int .i64 ((x : Nat) : Int) := hpre ⟨11, _⟩ (Array.mem_of_getElem? (i := 0) rfl) rfl _ _ rfl rfl
                  have e85 : b.eval (.tmp 85) = .int .i64 ((5 : Int) * ((y : Nat) : Int)) := hpre ⟨13, _⟩ (Array.mem_of_getElem? (i := 1) rfl) rfl _ _ rfl rfl
                  exact opw_bin (vx := .int .i64 ((x : Nat) : Int)) (vy := .int .i64 ((5 : Int) * ((y : Nat) : Int))) (v := .int .i64 (((x : Nat) : Int) + ((5 : Int) * ((y : Nat) : Int)))) rfl e83 e85 rfl (run_add64 (by omega) (by omega)) (hK _ _ rfl (Below.refl _ _))
                · rw [want_none rfl] at hwant; cases hwant
              case r15 =>
                refine trule fun b w hW hold hpre => ⟨fun hwant K hK => ?_, fun hwant => ?_⟩
                · clear hwant
                  have e82 : b.eval (.tmp 82) = .slice (some ⟨ab, ao, none⟩) 25 ca := hpre ⟨10, _⟩ (Array.mem_of_getElem? (i := 0) rfl) rfl _ _ rfl rfl
                  have e86 : b.eval (.tmp 86) = .int .i64 (((x : Nat) : Int) + ((5 : Int) * ((y : Nat) : Int))) := hpre ⟨14, _⟩ (Array.mem_of_getElem? (i := 1) rfl) rfl _ _ rfl rfl
                  exact opw_iaddr rfl e82 e86 (run_iaddr_lit (m := x + 5 * y) Tryz.underlying49 (by kernel_rfl) (by omega) (by omega)) (hK _ _ rfl (Below.refl _ _))
                · rw [want_none rfl] at hwant; cases hwant
              case r16 =>
                refine trule fun b w hW hold hpre => ⟨fun hwant K hK => ?_, fun hwant => ?_⟩
                · clear hwant
                  have e87 : b.eval (.tmp 87) = .pointer (some ⟨ab, ao + (x + 5 * y) * 1, none⟩) := hpre ⟨15, _⟩ (Array.mem_of_getElem? (i := 0) rfl) rfl _ _ rfl rfl
                  exact opw_cell rfl e87 (by kernel_rfl) (HA.out w (undrew hW)) (hK _ _ rfl (Below.refl _ _))
                · rw [want_none rfl] at hwant; cases hwant
              case r17 =>
                refine trule fun b w hW hold hpre => ⟨fun hwant K hK => ?_, fun hwant => ?_⟩
                · clear hwant
                  have e9 : b.eval (.tmp 9) = .int .u64 ((d0 : Nat) : Int) := (hold 9 (by kernel_rfl)).trans rfl
                  exact opw_move rfl e9 (hK _ _ rfl (Below.refl _ _))
                · rw [want_none rfl] at hwant; cases hwant
              case r18 =>
                refine trule fun b w hW hold hpre => ⟨fun hwant K hK => ?_, fun hwant => ?_⟩
                · clear hwant
                  have e88 : b.eval (.tmp 88) = .int .u64 ((a0 : Nat) : Int) := hpre ⟨16, _⟩ (Array.mem_of_getElem? (i := 0) rfl) rfl _ _ rfl rfl
                  have e89 : b.eval (.tmp 89) = .int .u64 ((d0 : Nat) : Int) := hpre ⟨17, _⟩ (Array.mem_of_getElem? (i := 1) rfl) rfl _ _ rfl rfl
                  exact opw_bin rfl e88 e89 rfl (run_xor64' l0 ld) (hK _ _ rfl (Below.refl _ _))
                · rw [want_none rfl] at hwant; cases hwant
              case r19 =>
                refine trule fun b w hW hold hpre => ⟨fun hwant K hK => ?_, fun hwant => ?_⟩
                · clear hwant
                  exact opw_call rfl (by kernel_rfl) rfl (turns03_any w) fun v w' h hb => hK v w' ((Sl.of_own h).imp fun _ _ _ => trivial) hb
                · rw [want_none rfl] at hwant; cases hwant
              case r20 =>
                refine trule fun b w hW hold hpre => ⟨fun hwant K hK => ?_, fun hwant => ?_⟩
                · clear hwant
                  have e8 : b.eval (.tmp 8) = .int .i64 ((x : Nat) : Int) := (hold 8 (by kernel_rfl)).trans rfl
                  exact opw_move rfl e8 (hK _ _ rfl (Below.refl _ _))
                · rw [want_none rfl] at hwant; cases hwant
              case r21 =>
                refine trule fun b w hW hold hpre => ⟨fun hwant K hK => ?_, fun hwant => ?_⟩
                · clear hwant
                  have e10 : b.eval (.tmp 10) = .int .i64 ((y : Nat) : Int) := (hold 10 (by kernel_rfl)).trans rfl
                  exact opw_move rfl e10 (hK _ _ rfl (Below.refl _ _))
                · rw [want_none rfl] at hwant; cases hwant
              case r22 =>
                refine trule fun b w hW hold hpre => ⟨fun hwant K hK => ?_, fun hwant => ?_⟩
                · clear hwant
                  have e93 : b.eval (.tmp 93) = .int .i64 ((y : Nat) : Int) := hpre ⟨21, _⟩ (Array.mem_of_getElem? (i := 0) rfl) rfl _ _ rfl rfl
                  exact opw_bin (vx := .int .i64 (5 : Int)) (vy := .int .i64 ((y : Nat) : Int)) (v := .int .i64 ((5 : Int) * ((y : Nat) : Int))) rfl rfl e93 rfl (run_mul64 (by omega) (by omega)) (hK _ _ rfl (Below.refl _ _))
                · rw [want_none rfl] at hwant; cases hwant
              case r23 =>
                refine trule fun b w hW hold hpre => ⟨fun hwant K hK => ?_, fun hwant => ?_⟩
                · clear hwant
                  have e92 : b.eval (.tmp 92) = .int .i64 ((x : Nat) : Int) := hpre ⟨20, _⟩ (Array.mem_of_getElem? (i := 0) rfl) rfl _ _ rfl rfl
                  have e94 : b.eval (.tmp 94) = .int .i64 ((5 : Int) * ((y : Nat) : Int)) := hpre ⟨22, _⟩ (Array.mem_of_getElem? (i := 1) rfl) rfl _ _ rfl rfl
                  exact opw_bin (vx := .int .i64 ((x : Nat) : Int)) (vy := .int .i64 ((5 : Int) * ((y : Nat) : Int))) (v := .int .i64 (((x : Nat) : Int) + ((5 : Int) * ((y : Nat) : Int)))) rfl e92 e94 rfl (run_add64 (by omega) (by omega)) (hK _ _ rfl (Below.refl _ _))
                · rw [want_none rfl] at hwant; cases hwant
              case r24 =>
                refine trule fun b w hW hold hpre => ⟨fun hwant K hK => ?_, fun hwant => ?_⟩
                · clear hwant
                  have e91 : (fun (v : Value) (w : World) => Sl w (fun _ => True) 1 v 25 (i64s turnsL)) (b.eval (.tmp 91)) w := hpre ⟨19, _⟩ (Array.mem_of_getElem? (i := 0) rfl) rfl _ _ rfl rfl
                  have e95 : b.eval (.tmp 95) = .int .i64 (((x : Nat) : Int) + ((5 : Int) * ((y : Nat) : Int))) := hpre ⟨23, _⟩ (Array.mem_of_getElem? (i := 1) rfl) rfl _ _ rfl rfl
                  obtain ⟨b1, j1, h1, -, h3, h4⟩ := run_iaddr_sl (P := Tryz.prog) (T := 22) (kk := .i64) (k := x + 5 * y) e91 Tryz.underlying22 (by kernel_rfl) (by omega)
                  exact opw_iaddr rfl rfl (e95.trans (congrArg (Value.int .i64) (by omega))) h1 (hK _ _ ⟨_, rfl, h4 0 _ HTU.out, h3⟩ (Below.refl _ _))
                · rw [want_none rfl] at hwant; cases hwant
              case r25 =>
                refine trule fun b w hW hold hpre => ⟨fun hwant K hK => ?_, fun hwant => ?_⟩
                · clear hwant
                  have e96 : (fun (v : Value) (w : World) => ∃ p : Addr, v = .pointer (some p) ∧ w.cell? p = some (.int .i64 ((t0 : Nat) : Int)) ∧ p.block < w.heap.size) (b.eval (.tmp 96)) w := hpre ⟨24, _⟩ (Array.mem_of_getElem? (i := 0) rfl) rfl _ _ rfl rfl
                  obtain ⟨p, hp, hc, -⟩ := e96
                  exact opw_cell rfl hp (by kernel_rfl) hc (hK _ _ rfl (Below.refl _ _))
                · rw [want_none rfl] at hwant; cases hwant
              case r26 =>
                refine trule fun b w hW hold hpre => ⟨fun hwant K hK => ?_, fun hwant => ?_⟩
                · clear hwant
                  have e90 : b.eval (.tmp 90) = .int .u64 ((a0 ^^^ d0 : Nat) : Int) := hpre ⟨18, _⟩ (Array.mem_of_getElem? (i := 0) rfl) rfl _ _ rfl rfl
                  have e97 : b.eval (.tmp 97) = .int .i64 ((t0 : Nat) : Int) := hpre ⟨25, _⟩ (Array.mem_of_getElem? (i := 1) rfl) rfl _ _ rfl rfl
                  exact opw_call rfl (by kernel_rfl) (by simp only [List.map_cons, List.map_nil, e90, e97]) (rotl03_ret (a0 ^^^ d0) t0 lx l1 w) fun v w' h hb => hK v w' h hb
                · rw [want_none rfl] at hwant; cases hwant
              case r27 =>
                refine trule fun b w hW hold hpre => ⟨fun hwant K hK => ?_, fun hwant => ?_⟩
                · clear hwant
                  have e72 : b.eval (.tmp 72) = .slice (some ⟨g7, 0, none⟩) 25 25 := hpre ⟨0, _⟩ (Array.mem_of_getElem? (i := 0) rfl) rfl _ _ rfl rfl
                  have e81 : b.eval (.tmp 81) = .int .i64 (((y : Nat) : Int) + ((5 : Int) * ((((2 : Int) * ((x : Nat) : Int)) + ((3 : Int) * ((y : Nat) : Int))) % (5 : Int)))) := hpre ⟨9, _⟩ (Array.mem_of_getElem? (i := 1) rfl) rfl _ _ rfl rfl
                  exact opw_iaddr rfl e72 e81 (run_iaddr_lit (m := y + 5 * ((2 * x + 3 * y) % 5)) Tryz.underlying49 (by kernel_rfl) (by omega) (by omega)) (hK _ _ rfl (Below.refl _ _))
                · rw [want_none rfl] at hwant; cases hwant
              case post =>
                intro b wz hW hdf hsz hold hT
                have e99 : b.eval (.tmp 99) = .pointer (some ⟨g7, 0 + (y + 5 * ((2 * x + 3 * y) % 5)) * 1, none⟩) := hT 27 _ 99 (by decide) rfl rfl
                have e98 : b.eval (.tmp 98) = .int .u64 ((rotl (a0 ^^^ d0) t0 : Nat) : Int) := hT 26 _ 98 (by decide) rfl rfl
                have e72 : b.eval (.tmp 72) = .slice (some ⟨g7, 0, none⟩) 25 25 := hT 0 _ 72 (by decide) rfl rfl
                have e73 : b.eval (.tmp 73) = .int .i64 ((y : Nat) : Int) := hT 1 _ 73 (by decide) rfl rfl
                have e74 : b.eval (.tmp 74) = .int .i64 ((x : Nat) : Int) := hT 2 _ 74 (by decide) rfl rfl
                have e75 : b.eval (.tmp 75) = .int .i64 ((2 : Int) * ((x : Nat) : Int)) := hT 3 _ 75 (by decide) rfl rfl
                have e76 : b.eval (.tmp 76) = .int .i64 ((y : Nat) : Int) := hT 4 _ 76 (by decide) rfl rfl
                have e77 : b.eval (.tmp 77) = .int .i64 ((3 : Int) * ((y : Nat) : Int)) := hT 5 _ 77 (by decide) rfl rfl
                have e78 : b.eval (.tmp 78) = .int .i64 (((2 : Int) * ((x : Nat) : Int)) + ((3 : Int) * ((y : Nat) : Int))) := hT 6 _ 78 (by decide) rfl rfl
                have e79 : b.eval (.tmp 79) = .int .i64 ((((2 : Int) * ((x : Nat) : Int)) + ((3 : Int) * ((y : Nat) : Int))) % (5 : Int)) := hT 7 _ 79 (by decide) rfl rfl
                have e80 : b.eval (.tmp 80) = .int .i64 ((5 : Int) * ((((2 : Int) * ((x : Nat) : Int)) + ((3 : Int) * ((y : Nat) : Int))) % (5 : Int))) := hT 8 _ 80 (by decide) rfl rfl
                have e81 : b.eval (.tmp 81) = .int .i64 (((y : Nat) : Int) + ((5 : Int) * ((((2 : Int) * ((x : Nat) : Int)) + ((3 : Int) * ((y : Nat) : Int))) % (5 : Int)))) := hT 9 _ 81 (by decide) rfl rfl
                have e82 : b.eval (.tmp 82) = .slice (some ⟨ab, ao, none⟩) 25 ca := hT 10 _ 82 (by decide) rfl rfl
                have e83 : b.eval (.tmp 83) = .int .i64 ((x : Nat) : Int) := hT 11 _ 83 (by decide) rfl rfl
                have e84 : b.eval (.tmp 84) = .int .i64 ((y : Nat) : Int) := hT 12 _ 84 (by decide) rfl rfl
                have e85 : b.eval (.tmp 85) = .int .i64 ((5 : Int) * ((y : Nat) : Int)) := hT 13 _ 85 (by decide) rfl rfl
                have e86 : b.eval (.tmp 86) = .int .i64 (((x : Nat) : Int) + ((5 : Int) * ((y : Nat) : Int))) := hT 14 _ 86 (by decide) rfl rfl
                have e87 : b.eval (.tmp 87) = .pointer (some ⟨ab, ao + (x + 5 * y) * 1, none⟩) := hT 15 _ 87 (by decide) rfl rfl
                have e88 : b.eval (.tmp 88) = .int .u64 ((a0 : Nat) : Int) := hT 16 _ 88 (by decide) rfl rfl
                have e89 : b.eval (.tmp 89) = .int .u64 ((d0 : Nat) : Int) := hT 17 _ 89 (by decide) rfl rfl
                have e90 : b.eval (.tmp 90) = .int .u64 ((a0 ^^^ d0 : Nat) : Int) := hT 18 _ 90 (by decide) rfl rfl
                have e91 : (fun (v : Value) (w : World) => Sl w (fun _ => True) 1 v 25 (i64s turnsL)) (b.eval (.tmp 91)) wz := hT 19 _ 91 (by decide) rfl rfl
                have e92 : b.eval (.tmp 92) = .int .i64 ((x : Nat) : Int) := hT 20 _ 92 (by decide) rfl rfl
                have e93 : b.eval (.tmp 93) = .int .i64 ((y : Nat) : Int) := hT 21 _ 93 (by decide) rfl rfl
                have e94 : b.eval (.tmp 94) = .int .i64 ((5 : Int) * ((y : Nat) : Int)) := hT 22 _ 94 (by decide) rfl rfl
                have e95 : b.eval (.tmp 95) = .int .i64 (((x : Nat) : Int) + ((5 : Int) * ((y : Nat) : Int))) := hT 23 _ 95 (by decide) rfl rfl
                have e96 : (fun (v : Value) (w : World) => ∃ p : Addr, v = .pointer (some p) ∧ w.cell? p = some (.int .i64 ((t0 : Nat) : Int)) ∧ p.block < w.heap.size) (b.eval (.tmp 96)) wz := hT 24 _ 96 (by decide) rfl rfl
                have e97 : b.eval (.tmp 97) = .int .i64 ((t0 : Nat) : Int) := hT 25 _ 97 (by decide) rfl rfl
                obtain ⟨vs, hvs, hb⟩ := frame_of hdf hsz hold
                replace e99 : vs 99 = .pointer (some ⟨g7, 0 + (y + 5 * ((2 * x + 3 * y) % 5)) * 1, none⟩) := (hvs 99).symm.trans e99
                replace e98 : vs 98 = .int .u64 ((rotl (a0 ^^^ d0) t0 : Nat) : Int) := (hvs 98).symm.trans e98
                replace e72 : vs 72 = .slice (some ⟨g7, 0, none⟩) 25 25 := (hvs 72).symm.trans e72
                replace e73 : vs 73 = .int .i64 ((y : Nat) : Int) := (hvs 73).symm.trans e73
                replace e74 : vs 74 = .int .i64 ((x : Nat) : Int) := (hvs 74).symm.trans e74
                replace e75 : vs 75 = .int .i64 ((2 : Int) * ((x : Nat) : Int)) := (hvs 75).symm.trans e75
                replace e76 : vs 76 = .int .i64 ((y : Nat) : Int) := (hvs 76).symm.trans e76
                replace e77 : vs 77 = .int .i64 ((3 : Int) * ((y : Nat) : Int)) := (hvs 77).symm.trans e77
                replace e78 : vs 78 = .int .i64 (((2 : Int) * ((x : Nat) : Int)) + ((3 : Int) * ((y : Nat) : Int))) := (hvs 78).symm.trans e78
                replace e79 : vs 79 = .int .i64 ((((2 : Int) * ((x : Nat) : Int)) + ((3 : Int) * ((y : Nat) : Int))) % (5 : Int)) := (hvs 79).symm.trans e79
                replace e80 : vs 80 = .int .i64 ((5 : Int) * ((((2 : Int) * ((x : Nat) : Int)) + ((3 : Int) * ((y : Nat) : Int))) % (5 : Int))) := (hvs 80).symm.trans e80
                replace e81 : vs 81 = .int .i64 (((y : Nat) : Int) + ((5 : Int) * ((((2 : Int) * ((x : Nat) : Int)) + ((3 : Int) * ((y : Nat) : Int))) % (5 : Int)))) := (hvs 81).symm.trans e81
                replace e82 : vs 82 = .slice (some ⟨ab, ao, none⟩) 25 ca := (hvs 82).symm.trans e82
                replace e83 : vs 83 = .int .i64 ((x : Nat) : Int) := (hvs 83).symm.trans e83
                replace e84 : vs 84 = .int .i64 ((y : Nat) : Int) := (hvs 84).symm.trans e84
                replace e85 : vs 85 = .int .i64 ((5 : Int) * ((y : Nat) : Int)) := (hvs 85).symm.trans e85
                replace e86 : vs 86 = .int .i64 (((x : Nat) : Int) + ((5 : Int) * ((y : Nat) : Int))) := (hvs 86).symm.trans e86
                replace e87 : vs 87 = .pointer (some ⟨ab, ao + (x + 5 * y) * 1, none⟩) := (hvs 87).symm.trans e87
                replace e88 : vs 88 = .int .u64 ((a0 : Nat) : Int) := (hvs 88).symm.trans e88
                replace e89 : vs 89 = .int .u64 ((d0 : Nat) : Int) := (hvs 89).symm.trans e89
                replace e90 : vs 90 = .int .u64 ((a0 ^^^ d0 : Nat) : Int) := (hvs 90).symm.trans e90
                replace e91 := (hvs 91) ▸ e91
                replace e92 : vs 92 = .int .i64 ((x : Nat) : Int) := (hvs 92).symm.trans e92
                replace e93 : vs 93 = .int .i64 ((y : Nat) : Int) := (hvs 93).symm.trans e93
                replace e94 : vs 94 = .int .i64 ((5 : Int) * ((y : Nat) : Int)) := (hvs 94).symm.trans e94
                replace e95 : vs 95 = .int .i64 (((x : Nat) : Int) + ((5 : Int) * ((y : Nat) : Int))) := (hvs 95).symm.trans e95
                replace e96 := (hvs 96) ▸ e96
                replace e97 : vs 97 = .int .i64 ((t0 : Nat) : Int) := (hvs 97).symm.trans e97
                subst hb
                clear hvs hold hT hdf hsz
                simp only [setAll, Act.put, List.setIfInBounds_toArray, List.set_cons_zero, List.set_cons_succ, List.getElem_toArray, List.getElem_cons_succ, List.getElem_cons_zero]
                (intro o_ ho_; simp only [List.getElem?_toArray, List.getElem?_cons_succ, List.getElem?_cons_zero, Option.some.injEq] at ho_; subst ho_)
                refine opw_ostore rfl (g := g7) (i := y + 5 * ((2 * x + 3 * y) % 5)) (e99.trans (by rw [Nat.zero_add, Nat.mul_one])) e98 ((hS.ext hW).own 0 rfl) (by omega) rfl rfl (by kernel_rfl) fun w4 h1 hU => ?_
                replace hS := (hS.ext hW).upd 0 rfl (.own (.slice (some ⟨g7, 0, none⟩) 25 25) 58 1 25 ((u64s R).set (y + 5 * ((2 * x + 3 * y) % 5)) (Value.int .u64 ((rotl (a0 ^^^ d0) t0 : Nat) : Int)))) (by simpa [Fact.blk, Value.ownBlock] using upd_gb hU) h1 fun _ e => .inl e
                rw [← u64s_set, ← HKA.out, ← HSR.out] at hS
                simp only [TailWp]
                simp only [Act.put, List.setIfInBounds_toArray, List.set_cons_zero, List.set_cons_succ]
                clear e98 e99 h1 hU hW
                go_wp2_with fail
                exact ⟨⟨y + 1, hlt4, by go_num, hS⟩, by simp [intOf]; omega⟩
            · obtain rfl : y = 5 := by omega
              go_wp2_with fail
              exact ⟨⟨x + 1, hlt, by go_num, by rw [HSB.out]; exact hS⟩, by simp [intOf]; omega⟩
        · obtain rfl : x = 5 := by omega
          simp only [show ((5 : Nat) : Int) = 5 from rfl]
          have hwB := kbTo_words hw hwC 5
          have hlB := kbTo_len a C 5
          have HKR := Lib.hid (show kround a c = ((List.range 25).map (ka (kbTo a C 5))).set 0 (ka (kbTo a C 5) 0 ^^^ c) by rw [HCE.out]; rfl)
          generalize kbTo a C 5 = B at *
          replace hS := hS.freeze 0 (by decide) rfl
          clear hlt hx hwC hlC
          go_wp2_with (first
            | ((with_reducible show wpList _ _ _ (⟨_, .makeSlice _ _ _, _, _, _, _⟩ :: _) _ _); refine st_mk hS rfl _ _ _ rfl ty_u64s .i64 .i64 25 #[.int .u64 0] rfl rfl (by kernel_rfl) (by decide) (by decide) ?_; clear hS; intro g11 w_ hS))
          rw [mk_u64s, ← oTo_zero B] at hS
          obtain ⟨K2, hK2, hS⟩ : ∃ K2, (∀ D w, K2 D w → Sl w D 1 (.slice (some ⟨g7, 0, none⟩) 25 25) 25 (u64s B)) ∧ St w0 w_ [.own (.slice (some ⟨g11, 0, none⟩) 25 25) 58 1 25 (u64s (oTo B 0 0))] K2 := ⟨_, fun _ _ h => h.2, hS⟩
          have HK2 := Lib.hid hK2
          clear hK2
          go_loopw [12] (fun i wr => ∃ (x : Nat), x ≤ 5 ∧ i = .int .i64 x ∧ St w0 wr [.own (.slice (some ⟨g11, 0, none⟩) 25 25) 58 1 25 (u64s (oTo B x 0))] K2) (fun i _ => 5 - (intOf i).toNat)
          case atStart => exact ⟨0, by omega, rfl, hS⟩
          case round =>
            clear hS
            obtain ⟨x, hx, rfl, hS⟩ := hrel
            by_cases hlt : x < 5
            · go_wp2_with fail
              go_loopw [13] (fun i wr => ∃ (y : Nat), y ≤ 5 ∧ i = .int .i64 y ∧ St w0 wr [.own (.slice (some ⟨g11, 0, none⟩) 25 25) 58 1 25 (u64s (oTo B x y))] K2) (fun i _ => 5 - (intOf i).toNat)
              case atStart => exact ⟨0, by omega, rfl, hS⟩
              case round =>
                clear hS
                obtain ⟨y, hy, rfl, hS⟩ := hrel
                by_cases hlt4 : y < 5
                · have hsl := HK2.out _ _ hS.ro
                  have h0 := sl_at hsl hlB (j := x + 5 * y) (by omega)
                  have h1 := sl_at hsl hlB (j := (x + 1) % 5 + 5 * y) (by omega)
                  have h2 := sl_at hsl hlB (j := (x + 2) % 5 + 5 * y) (by omega)
                  have hown := hS.own 0 rfl
                  have h3 := hown.cellAt (x + 5 * y) (by omega)
                  rw [u64s_at _ _ (by rw [oTo_len]; omega)] at h3
                  have h4 := hown.frozenAt (x + 5 * y)
                  have HSP := Lib.hid (hS.put64 0 rfl (x + 5 * y) (ka B (x + 5 * y)))
                  have HOS := Lib.hid (oTo_step B (x := x) (y := y) hlt hlt4)
                  have HKA := Lib.hid (show ka B (x + 5 * y) = B.getD (x + 5 * y) 0 ^^^ (not64 (B.getD ((x + 1) % 5 + 5 * y) 0) &&& B.getD ((x + 2) % 5 + 5 * y) 0) by
                    unfold ka
                    rw [show (x + 5 * y) % 5 = x by omega, show (x + 5 * y) / 5 * 5 = 5 * y by omega])
                  have l0 := hwB.getD (x + 5 * y)
                  have l1 := hwB.getD ((x + 1) % 5 + 5 * y)
                  have l2 := hwB.getD ((x + 2) % 5 + 5 * y)
                  simp only [Nat.zero_add] at h0 h1 h2
                  generalize B.getD (x + 5 * y) 0 = b0 at *
                  generalize B.getD ((x + 1) % 5 + 5 * y) 0 = b1 at *
                  generalize B.getD ((x + 2) % 5 + 5 * y) 0 = b2 at *
                  clear hsl hown
                  go_wp2_with (go_region)
                  have he : bits .xor .u64 (b0 : Int) (bits .and .u64 (bits .xor .u64 (if IntKind.u64.signed = true then -1 else IntKind.u64.max) (b1 : Int)) (b2 : Int)) = ((ka B (x + 5 * y) : Nat) : Int) := by
                    rw [notu l1, and64 (not64_lt _) l2, xor64 l0 (and_lt (not64_lt _)), HKA.out]
                  rw [he]
                  exact ⟨⟨y + 1, hlt4, by go_num, by rw [← HOS.out]; exact HSP.out⟩, by simp [intOf]; omega⟩
                · obtain rfl : y = 5 := by omega
                  go_wp2_with fail
                  exact ⟨⟨x + 1, hlt, by go_num, by rw [← oTo_wrap]; exact hS⟩, by simp [intOf]; omega⟩
            · obtain rfl : x = 5 := by omega
              rw [oTo_full] at hS
              have hc0 : (u64s ((List.range 25).map (ka B)))[0]? = some (.int .u64 (ka B 0 : Nat)) := by rw [u64s_at _ _ (by simp)]; simp
              have hx0 := xor64 (ka_lt hwB 0) hc
              have HC0 := Lib.hid hc0
              have HX0 := Lib.hid hx0
              clear hc0 hx0
              generalize ka B 0 = k0 at *
              obtain ⟨M, hM⟩ : ∃ M, M = (List.range 25).map (ka B) := ⟨_, rfl⟩
              rw [← hM] at hS HC0 HKR
              clear hM
              go_wp2_with (first
                | ((with_reducible show wpList _ _ _ (⟨some 146, _, _, _, _, _⟩ :: _) _ _); refine BigFrame.wpList_want rfl fun _ hK => opw_cell rfl rfl (by kernel_rfl) (own_cell (hS.own 0 rfl) 0 _ HC0.out) (hK _ _ ?_))
                | ((with_reducible show wpList _ _ _ (⟨_, .store 58 _ _, _, _, _, _⟩ :: _) _ _); refine st_ostore hS 0 rfl _ _ _ rfl g11 0 (.int .u64 ((k0 ^^^ c : Nat) : Int)) rfl (congrArg (Value.int .u64) HX0.out) rfl (by decide) rfl rfl (by kernel_rfl) ?_; clear hS; intro w_ hS; (try simp only [Act.put, Act.eval, List.set_cons_zero, List.set_cons_succ, List.setIfInBounds_toArray, Array.getD_eq_getD_getElem?, List.getElem?_toArray, List.getElem?_cons_succ, List.getElem?_cons_zero, Option.getD_some, Value.cells] at hS)))
              go_ret
              rw [HKR.out]
              have h := hS.own 0 rfl
              rw [← u64s_set] at h
              exact Ret.mk h hS.below
end Go.Proofs.YtenpkgdnlogfiaaGreatDoor
