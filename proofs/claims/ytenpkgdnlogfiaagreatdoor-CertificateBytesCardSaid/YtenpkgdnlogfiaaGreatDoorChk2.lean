/-
  What arbaclaw14.Same and arbaclaw36.Same compute.
-/
import Derived.Test.YtenpkgdnlogfiaaGreatDoorAll1
import Derived.Test.YtenpkgdnlogfiaaGreatDoorRef7
import Derived.Test.YtenpkgdnlogfiaaGreatDoorChk1
namespace Go.Proofs.YtenpkgdnlogfiaaGreatDoor
open Go.RowKit
attribute [local go_sem ↓] Go.wp_at_zero Go.wp_at_succ
set_option maxRecDepth 20000

theorem list64_any (v : Value) (N : Nat) (hN : N < T64) (D : Nat → Prop) (w0 : World) (hv : IsSet w0 D v N) (hT : DTab w0) :
    Calls Tryz.prog 72 #[v] w0 (Ret (fun x w' => Sl w' (w0.heap.size ≤ ·) 1 x (natInts (members N)).length (ints (natInts (members N)))) w0) := by
  refine (slist_any v N D w0 hv hT).mono ?_
  rintro e w' ⟨x, rfl, ⟨ws, hc, hv, hs⟩, hb⟩
  rw [memL_eq hc (by omega), hv] at hs
  exact Ret.mk hs hb
theorem members_beq {a b : Nat} (ha : a < T64) (hb : b < T64) : (natInts (members a) == natInts (members b)) = (a == b) := by
  rw [Bool.eq_iff_iff, beq_iff_eq, beq_iff_eq]
  constructor
  · intro h
    have := congrArg ofN h
    rwa [ofN_members ha, ofN_members hb] at this
  · rintro rfl; rfl
theorem members_any' (N : Nat) (w : World) :
    Calls Tryz.prog 73 #[.int .u64 N] w (Ret (fun x w' => Sl w' (w.heap.size ≤ ·) 1 x (natInts (members N)).length (ints (natInts (members N)))) w) := by
  have h : (natInts (members N)).length = (members N).length := by simp [natInts]
  rw [h]; exact members_any N w

/-- a struct of one field in the middle of a block is read -/
theorem opw_row1 {P : Program} {o : Oper} {a : Act} {w : World} {K : Act → World → Prop} {Q : Exit → Act → World → Prop} {t : TypeId} {x : Operand} {g j : Nat} {ty : TypeId} {cs : Array Value} {x' : Value} {d : TypeDesc} (ho : o.op = .load t x) (hx : a.eval x = .pointer (some ⟨g, j, none⟩)) (hb : Box w g ty cs) (hx' : cs[j]? = some x')
    (hu : P.underlying t = some d) (hd : d.isRow = true) (hi : (P.info? t).map (·.size) = some 1) (hk : K (a.put o.dst (.agg #[x'])) w) : o.wp P a w K Q :=
  opw_mid (cs := [x']) ho hx (fun i v hi => by
    cases i with
    | zero => simp at hi; subst hi; rw [Nat.add_zero, hb.cell]; exact hx'
    | succ i => simp at hi) hu hd hi hk
theorem same1_any (u : Value) (y n y' n' : Nat) (hy : y < T64) (hn : n < T64) (hy' : y' < T64) (hn' : n' < T64) (D : Nat → Prop) (w0 : World) (hu : IsCube w0 D u (y, n)) (hT : DTab w0) :
    Calls Tryz.prog 71 #[u, .agg #[.int .u64 y', .int .u64 n']] w0 (Ret (fun x _ => x = .bool ((y, n) == (y', n'))) w0) := by
  obtain ⟨a, b, rfl, ha, hb⟩ := hu
  dsimp only at ha hb
  obtain ⟨A, m, c, rfl⟩ := ha.shape
  obtain ⟨B, k, d, rfl⟩ := hb.shape
  obtain ⟨K, k1, k2, k3, hS⟩ : ∃ K : (Nat → Prop) → World → Prop, (∀ D w, K D w → IsSet w D (.agg #[.slice A m c]) y) ∧ (∀ D w, K D w → IsSet w D (.agg #[.slice B k d]) n) ∧ (∀ D w, K D w → DTab w ∧ D 0) ∧ St w0 w0 [] K :=
    ⟨fun D w => IsSet w D (.agg #[.slice A m c]) y ∧ IsSet w D (.agg #[.slice B k d]) n ∧ DTab w ∧ D 0, fun _ _ h => h.1, fun _ _ h => h.2.1, fun _ _ h => h.2.2, St.start (D := fun _ => True) (stable_set.and (stable_set.and dtab_stable)) ⟨ha.imp fun _ _ _ => trivial, hb.imp fun _ _ _ => trivial, hT, trivial⟩⟩
  have e0 : ((y, n) == (y', n')) = ((y == y') && (n == n')) := rfl
  rw [e0]
  have Q1 := Lib.hid (members_beq hy hy')
  have Q2 := Lib.hid (members_beq hn hn')
  generalize (n == n') = q2 at *
  clear ha hb hT
  go_enter Tryz.func71, Tryz.ntmps71
  go_wp2_with (first | ((with_reducible show wpList _ _ _ (⟨some 2, _, _, _, _, _⟩ :: _) _ _); refine st_box hS rfl _ _ rfl (.agg #[.slice A m c, .slice B k d]) _ rfl rfl ?_; clear hS; intro g2 w_ hS; (try simp only [Act.put, Act.eval, List.set_cons_zero, List.set_cons_succ, List.setIfInBounds_toArray, Array.getD_eq_getD_getElem?, List.getElem?_toArray, List.getElem?_cons_succ, List.getElem?_cons_zero, Option.getD_some, Value.cells] at hS)) | ((with_reducible show wpList _ _ _ (⟨some 3, _, _, _, _, _⟩ :: _) _ _); refine st_box hS rfl _ _ rfl (.agg #[.int .u64 y', .int .u64 n']) _ rfl rfl ?_; clear hS; intro g3 w_ hS; (try simp only [Act.put, Act.eval, List.set_cons_zero, List.set_cons_succ, List.setIfInBounds_toArray, Array.getD_eq_getD_getElem?, List.getElem?_toArray, List.getElem?_cons_succ, List.getElem?_cons_zero, Option.getD_some, Value.cells] at hS)))
  cases hq1 : (y == y')
  ·
    refine wp_region_typed (fun i v w => match i with
      | 0 => v = .pointer (some ⟨g2, 0, none⟩)
      | 1 => v = .agg #[.slice A m c]
      | 2 => Sl w (fun _ => True) 1 v (natInts (members y)).length (ints (natInts (members y)))
      | 3 => v = .pointer (some ⟨g3, 0, none⟩)
      | 4 => v = .int .u64 y'
      | 5 => Sl w (fun _ => True) 1 v (natInts (members y')).length (ints (natInts (members y')))
      | 6 => v = .bool false
      | 7 => v = .bool false
      | 8 => True
      | 9 => True
      | 10 => True
      | 11 => True
      | 12 => True
      | 13 => True
      | 14 => True
      | 15 => v = .bool false
      | 16 => v = .bool false
      | _ => True) (by kernel_rfl) (by kernel_rfl) ?mono ⟨?r0, ?r1, ?r2, ?r3, ?r4, ?r5, ?r6, ?r7, ?r8, ?r9, ?r10, ?r11, ?r12, ?r13, ?r14, ?r15, ?r16, trivial⟩ ?post
    case mono =>
      intro i v w w' h hb
      match i, h with
      | 0, h => exact h
      | 1, h => exact h
      | 2, h => exact Sl.ext h hb
      | 3, h => exact h
      | 4, h => exact h
      | 5, h => exact Sl.ext h hb
      | 6, h => exact h
      | 7, h => exact h
      | 8, h => exact h
      | 9, h => exact h
      | 10, h => exact h
      | 11, h => exact h
      | 12, h => exact h
      | 13, h => exact h
      | 14, h => exact h
      | 15, h => exact h
      | 16, h => exact h
      | _ + 17, h => trivial
    case r0 =>
      refine trule fun b w hW hold hpre => ⟨fun hwant K hK => ?_, fun hwant => ?_⟩
      · clear hwant
        have e2 : b.eval (.tmp 2) = .pointer (some ⟨g2, 0, none⟩) := (hold 2 (by kernel_rfl)).trans rfl
        exact opw_faddr rfl e2 (by kernel_rfl) (hK _ _ rfl (Below.refl _ _))
      · rw [want_none rfl] at hwant; cases hwant
    case r1 =>
      refine trule fun b w hW hold hpre => ⟨fun hwant K hK => ?_, fun hwant => ?_⟩
      · clear hwant
        have e5 : b.eval (.tmp 5) = .pointer (some ⟨g2, 0, none⟩) := hpre ⟨0, _⟩ (Array.mem_of_getElem? (i := 0) rfl) rfl _ _ rfl rfl
        exact opw_row1 rfl e5 ((hS.ext (undrew hW)).box 1 rfl) rfl Tryz.underlying51 (by kernel_rfl) (by kernel_rfl) (hK _ _ rfl (Below.refl _ _))
      · rw [want_none rfl] at hwant; cases hwant
    case r2 =>
      refine trule fun b w hW hold hpre => ⟨fun hwant K hK => ?_, fun hwant => ?_⟩
      · clear hwant
        have e6 : b.eval (.tmp 6) = .agg #[.slice A m c] := hpre ⟨1, _⟩ (Array.mem_of_getElem? (i := 0) rfl) rfl _ _ rfl rfl
        exact opw_call rfl (by kernel_rfl) (by simp [e6]) (list64_any _ y hy _ w (k1 _ _ (hS.ext (undrew hW)).ro) (k3 _ _ (hS.ext (undrew hW)).ro).1) fun v w' h hb => hK v w' (h.imp fun _ _ _ => trivial) hb
      · rw [want_none rfl] at hwant; cases hwant
    case r3 =>
      refine trule fun b w hW hold hpre => ⟨fun hwant K hK => ?_, fun hwant => ?_⟩
      · clear hwant
        have e3 : b.eval (.tmp 3) = .pointer (some ⟨g3, 0, none⟩) := (hold 3 (by kernel_rfl)).trans rfl
        exact opw_faddr rfl e3 (by kernel_rfl) (hK _ _ rfl (Below.refl _ _))
      · rw [want_none rfl] at hwant; cases hwant
    case r4 =>
      refine trule fun b w hW hold hpre => ⟨fun hwant K hK => ?_, fun hwant => ?_⟩
      · clear hwant
        have e8 : b.eval (.tmp 8) = .pointer (some ⟨g3, 0, none⟩) := hpre ⟨3, _⟩ (Array.mem_of_getElem? (i := 0) rfl) rfl _ _ rfl rfl
        exact opw_cell rfl e8 (by kernel_rfl) ((hS.ext (undrew hW)).shut 0 rfl 0 rfl) (hK _ _ rfl (Below.refl _ _))
      · rw [want_none rfl] at hwant; cases hwant
    case r5 =>
      refine trule fun b w hW hold hpre => ⟨fun hwant K hK => ?_, fun hwant => ?_⟩
      · clear hwant
        have e9 : b.eval (.tmp 9) = .int .u64 y' := hpre ⟨4, _⟩ (Array.mem_of_getElem? (i := 0) rfl) rfl _ _ rfl rfl
        exact opw_call rfl (by kernel_rfl) (by simp [e9]) (members_any' y' w) fun v w' h hb => hK v w' (h.imp fun _ _ _ => trivial) hb
      · rw [want_none rfl] at hwant; cases hwant
    case r6 =>
      refine trule fun b w hW hold hpre => ⟨fun hwant K hK => ?_, fun hwant => ?_⟩
      · clear hwant
        have e7 : (fun (v : Value) (w : World) => Sl w (fun _ => True) 1 v (natInts (members y)).length (ints (natInts (members y)))) (b.eval (.tmp 7)) w := hpre ⟨2, _⟩ (Array.mem_of_getElem? (i := 0) rfl) rfl _ _ rfl rfl
        have e10 : (fun (v : Value) (w : World) => Sl w (fun _ => True) 1 v (natInts (members y')).length (ints (natInts (members y')))) (b.eval (.tmp 10)) w := hpre ⟨5, _⟩ (Array.mem_of_getElem? (i := 1) rfl) rfl _ _ rfl rfl
        exact opw_call rfl (by kernel_rfl) rfl (sleq_any _ _ _ _ w _ _ e7 e10) fun v w' h hb => hK v w' (h.trans (by rw [Q1.out, hq1])) hb
      · rw [want_none rfl] at hwant; cases hwant
    case r7 =>
      refine trule fun b w hW hold hpre => ⟨fun hwant K hK => ?_, fun hwant => ?_⟩
      · clear hwant
        have e11 : b.eval (.tmp 11) = .bool false := hpre ⟨6, _⟩ (Array.mem_of_getElem? (i := 0) rfl) rfl _ _ rfl rfl
        exact opw_move rfl e11 (hK _ _ rfl (Below.refl _ _))
      · rw [want_none rfl] at hwant; cases hwant
    case r8 =>
      refine trule fun b w hW hold hpre => ⟨fun hwant K hK => ?_, fun hwant => ?_⟩
      · rw [want_some rfl rfl rfl (show b.eval (.tmp 12) = .bool false from hpre ⟨7, _⟩ (Array.mem_of_getElem? (i := 0) rfl) rfl _ _ rfl rfl)] at hwant; cases hwant
      · exact trivial
    case r9 =>
      refine trule fun b w hW hold hpre => ⟨fun hwant K hK => ?_, fun hwant => ?_⟩
      · rw [want_some rfl rfl rfl (show b.eval (.tmp 12) = .bool false from hpre ⟨7, _⟩ (Array.mem_of_getElem? (i := 1) rfl) rfl _ _ rfl rfl)] at hwant; cases hwant
      · exact trivial
    case r10 =>
      refine trule fun b w hW hold hpre => ⟨fun hwant K hK => ?_, fun hwant => ?_⟩
      · rw [want_some rfl rfl rfl (show b.eval (.tmp 12) = .bool false from hpre ⟨7, _⟩ (Array.mem_of_getElem? (i := 1) rfl) rfl _ _ rfl rfl)] at hwant; cases hwant
      · exact trivial
    case r11 =>
      refine trule fun b w hW hold hpre => ⟨fun hwant K hK => ?_, fun hwant => ?_⟩
      · rw [want_some rfl rfl rfl (show b.eval (.tmp 12) = .bool false from hpre ⟨7, _⟩ (Array.mem_of_getElem? (i := 0) rfl) rfl _ _ rfl rfl)] at hwant; cases hwant
      · exact trivial
    case r12 =>
      refine trule fun b w hW hold hpre => ⟨fun hwant K hK => ?_, fun hwant => ?_⟩
      · rw [want_some rfl rfl rfl (show b.eval (.tmp 12) = .bool false from hpre ⟨7, _⟩ (Array.mem_of_getElem? (i := 1) rfl) rfl _ _ rfl rfl)] at hwant; cases hwant
      · exact trivial
    case r13 =>
      refine trule fun b w hW hold hpre => ⟨fun hwant K hK => ?_, fun hwant => ?_⟩
      · rw [want_some rfl rfl rfl (show b.eval (.tmp 12) = .bool false from hpre ⟨7, _⟩ (Array.mem_of_getElem? (i := 2) rfl) rfl _ _ rfl rfl)] at hwant; cases hwant
      · exact trivial
    case r14 =>
      refine trule fun b w hW hold hpre => ⟨fun hwant K hK => ?_, fun hwant => ?_⟩
      · rw [want_some rfl rfl rfl (show b.eval (.tmp 12) = .bool false from hpre ⟨7, _⟩ (Array.mem_of_getElem? (i := 3) rfl) rfl _ _ rfl rfl)] at hwant; cases hwant
      · exact trivial
    case r15 =>
      refine trule fun b w hW hold hpre => ⟨fun hwant K hK => ?_, fun hwant => ?_⟩
      · clear hwant
        have e12 : b.eval (.tmp 12) = .bool false := hpre ⟨7, _⟩ (Array.mem_of_getElem? (i := 0) rfl) rfl _ _ rfl rfl
        have e19 : (fun (v : Value) (w : World) => True) (b.eval (.tmp 19)) w := hpre ⟨14, _⟩ (Array.mem_of_getElem? (i := 1) rfl) rfl _ _ rfl rfl
        exact opw_pick rfl e12 rfl (hK _ _ rfl (Below.refl _ _))
      · rw [want_none rfl] at hwant; cases hwant
    case r16 =>
      refine trule fun b w hW hold hpre => ⟨fun hwant K hK => ?_, fun hwant => ?_⟩
      · clear hwant
        have e20 : b.eval (.tmp 20) = .bool false := hpre ⟨15, _⟩ (Array.mem_of_getElem? (i := 0) rfl) rfl _ _ rfl rfl
        exact opw_assign rfl e20 (hK _ _ rfl (Below.refl _ _))
      · rw [want_none rfl] at hwant; cases hwant
    case post =>
      intro b wz hW hdf hsz hold hT
      have e5 : b.eval (.tmp 5) = .pointer (some ⟨g2, 0, none⟩) := hT 0 _ 5 rfl rfl
      have e6 : b.eval (.tmp 6) = .agg #[.slice A m c] := hT 1 _ 6 rfl rfl
      have e7 : (fun (v : Value) (w : World) => Sl w (fun _ => True) 1 v (natInts (members y)).length (ints (natInts (members y)))) (b.eval (.tmp 7)) wz := hT 2 _ 7 rfl rfl
      have e8 : b.eval (.tmp 8) = .pointer (some ⟨g3, 0, none⟩) := hT 3 _ 8 rfl rfl
      have e9 : b.eval (.tmp 9) = .int .u64 y' := hT 4 _ 9 rfl rfl
      have e10 : (fun (v : Value) (w : World) => Sl w (fun _ => True) 1 v (natInts (members y')).length (ints (natInts (members y')))) (b.eval (.tmp 10)) wz := hT 5 _ 10 rfl rfl
      have e11 : b.eval (.tmp 11) = .bool false := hT 6 _ 11 rfl rfl
      have e12 : b.eval (.tmp 12) = .bool false := hT 7 _ 12 rfl rfl
      have e20 : b.eval (.tmp 20) = .bool false := hT 15 _ 20 rfl rfl
      have e4 : b.eval (.tmp 4) = .bool false := hT 16 _ 4 rfl rfl
      obtain ⟨vs, hvs, hb⟩ := frame_of hdf hsz hold
      replace e5 : vs 5 = .pointer (some ⟨g2, 0, none⟩) := (hvs 5).symm.trans e5
      replace e6 : vs 6 = .agg #[.slice A m c] := (hvs 6).symm.trans e6
      replace e7 := (hvs 7) ▸ e7
      replace e8 : vs 8 = .pointer (some ⟨g3, 0, none⟩) := (hvs 8).symm.trans e8
      replace e9 : vs 9 = .int .u64 y' := (hvs 9).symm.trans e9
      replace e10 := (hvs 10) ▸ e10
      replace e11 : vs 11 = .bool false := (hvs 11).symm.trans e11
      replace e12 : vs 12 = .bool false := (hvs 12).symm.trans e12
      replace e20 : vs 20 = .bool false := (hvs 20).symm.trans e20
      replace e4 : vs 4 = .bool false := (hvs 4).symm.trans e4
      subst hb
      clear hvs hold hT hdf hsz
      simp only [setAll, Act.put, List.setIfInBounds_toArray, List.set_cons_zero, List.set_cons_succ, List.getElem_toArray, List.getElem_cons_succ, List.getElem_cons_zero]
      go_wp2_with fail
      go_ret
      exact Ret.mk rfl (bel_tr hS.below hW)
  ·
    refine wp_region_typed (fun i v w => match i with
      | 0 => v = .pointer (some ⟨g2, 0, none⟩)
      | 1 => v = .agg #[.slice A m c]
      | 2 => Sl w (fun _ => True) 1 v (natInts (members y)).length (ints (natInts (members y)))
      | 3 => v = .pointer (some ⟨g3, 0, none⟩)
      | 4 => v = .int .u64 y'
      | 5 => Sl w (fun _ => True) 1 v (natInts (members y')).length (ints (natInts (members y')))
      | 6 => v = .bool true
      | 7 => v = .bool true
      | 8 => v = .pointer (some ⟨g2, 1, none⟩)
      | 9 => v = .agg #[.slice B k d]
      | 10 => Sl w (fun _ => True) 1 v (natInts (members n)).length (ints (natInts (members n)))
      | 11 => v = .pointer (some ⟨g3, 1, none⟩)
      | 12 => v = .int .u64 n'
      | 13 => Sl w (fun _ => True) 1 v (natInts (members n')).length (ints (natInts (members n')))
      | 14 => v = .bool q2
      | 15 => v = .bool q2
      | 16 => v = .bool q2
      | _ => True) (by kernel_rfl) (by kernel_rfl) ?mono ⟨?r0, ?r1, ?r2, ?r3, ?r4, ?r5, ?r6, ?r7, ?r8, ?r9, ?r10, ?r11, ?r12, ?r13, ?r14, ?r15, ?r16, trivial⟩ ?post
    case mono =>
      intro i v w w' h hb
      match i, h with
      | 0, h => exact h
      | 1, h => exact h
      | 2, h => exact Sl.ext h hb
      | 3, h => exact h
      | 4, h => exact h
      | 5, h => exact Sl.ext h hb
      | 6, h => exact h
      | 7, h => exact h
      | 8, h => exact h
      | 9, h => exact h
      | 10, h => exact Sl.ext h hb
      | 11, h => exact h
      | 12, h => exact h
      | 13, h => exact Sl.ext h hb
      | 14, h => exact h
      | 15, h => exact h
      | 16, h => exact h
      | _ + 17, h => trivial
    case r0 =>
      refine trule fun b w hW hold hpre => ⟨fun hwant K hK => ?_, fun hwant => ?_⟩
      · clear hwant
        have e2 : b.eval (.tmp 2) = .pointer (some ⟨g2, 0, none⟩) := (hold 2 (by kernel_rfl)).trans rfl
        exact opw_faddr rfl e2 (by kernel_rfl) (hK _ _ rfl (Below.refl _ _))
      · rw [want_none rfl] at hwant; cases hwant
    case r1 =>
      refine trule fun b w hW hold hpre => ⟨fun hwant K hK => ?_, fun hwant => ?_⟩
      · clear hwant
        have e5 : b.eval (.tmp 5) = .pointer (some ⟨g2, 0, none⟩) := hpre ⟨0, _⟩ (Array.mem_of_getElem? (i := 0) rfl) rfl _ _ rfl rfl
        exact opw_row1 rfl e5 ((hS.ext (undrew hW)).box 1 rfl) rfl Tryz.underlying51 (by kernel_rfl) (by kernel_rfl) (hK _ _ rfl (Below.refl _ _))
      · rw [want_none rfl] at hwant; cases hwant
    case r2 =>
      refine trule fun b w hW hold hpre => ⟨fun hwant K hK => ?_, fun hwant => ?_⟩
      · clear hwant
        have e6 : b.eval (.tmp 6) = .agg #[.slice A m c] := hpre ⟨1, _⟩ (Array.mem_of_getElem? (i := 0) rfl) rfl _ _ rfl rfl
        exact opw_call rfl (by kernel_rfl) (by simp [e6]) (list64_any _ y hy _ w (k1 _ _ (hS.ext (undrew hW)).ro) (k3 _ _ (hS.ext (undrew hW)).ro).1) fun v w' h hb => hK v w' (h.imp fun _ _ _ => trivial) hb
      · rw [want_none rfl] at hwant; cases hwant
    case r3 =>
      refine trule fun b w hW hold hpre => ⟨fun hwant K hK => ?_, fun hwant => ?_⟩
      · clear hwant
        have e3 : b.eval (.tmp 3) = .pointer (some ⟨g3, 0, none⟩) := (hold 3 (by kernel_rfl)).trans rfl
        exact opw_faddr rfl e3 (by kernel_rfl) (hK _ _ rfl (Below.refl _ _))
      · rw [want_none rfl] at hwant; cases hwant
    case r4 =>
      refine trule fun b w hW hold hpre => ⟨fun hwant K hK => ?_, fun hwant => ?_⟩
      · clear hwant
        have e8 : b.eval (.tmp 8) = .pointer (some ⟨g3, 0, none⟩) := hpre ⟨3, _⟩ (Array.mem_of_getElem? (i := 0) rfl) rfl _ _ rfl rfl
        exact opw_cell rfl e8 (by kernel_rfl) ((hS.ext (undrew hW)).shut 0 rfl 0 rfl) (hK _ _ rfl (Below.refl _ _))
      · rw [want_none rfl] at hwant; cases hwant
    case r5 =>
      refine trule fun b w hW hold hpre => ⟨fun hwant K hK => ?_, fun hwant => ?_⟩
      · clear hwant
        have e9 : b.eval (.tmp 9) = .int .u64 y' := hpre ⟨4, _⟩ (Array.mem_of_getElem? (i := 0) rfl) rfl _ _ rfl rfl
        exact opw_call rfl (by kernel_rfl) (by simp [e9]) (members_any' y' w) fun v w' h hb => hK v w' (h.imp fun _ _ _ => trivial) hb
      · rw [want_none rfl] at hwant; cases hwant
    case r6 =>
      refine trule fun b w hW hold hpre => ⟨fun hwant K hK => ?_, fun hwant => ?_⟩
      · clear hwant
        have e7 : (fun (v : Value) (w : World) => Sl w (fun _ => True) 1 v (natInts (members y)).length (ints (natInts (members y)))) (b.eval (.tmp 7)) w := hpre ⟨2, _⟩ (Array.mem_of_getElem? (i := 0) rfl) rfl _ _ rfl rfl
        have e10 : (fun (v : Value) (w : World) => Sl w (fun _ => True) 1 v (natInts (members y')).length (ints (natInts (members y')))) (b.eval (.tmp 10)) w := hpre ⟨5, _⟩ (Array.mem_of_getElem? (i := 1) rfl) rfl _ _ rfl rfl
        exact opw_call rfl (by kernel_rfl) rfl (sleq_any _ _ _ _ w _ _ e7 e10) fun v w' h hb => hK v w' (h.trans (by rw [Q1.out, hq1])) hb
      · rw [want_none rfl] at hwant; cases hwant
    case r7 =>
      refine trule fun b w hW hold hpre => ⟨fun hwant K hK => ?_, fun hwant => ?_⟩
      · clear hwant
        have e11 : b.eval (.tmp 11) = .bool true := hpre ⟨6, _⟩ (Array.mem_of_getElem? (i := 0) rfl) rfl _ _ rfl rfl
        exact opw_move rfl e11 (hK _ _ rfl (Below.refl _ _))
      · rw [want_none rfl] at hwant; cases hwant
    case r8 =>
      refine trule fun b w hW hold hpre => ⟨fun hwant K hK => ?_, fun hwant => ?_⟩
      · clear hwant
        have e2 : b.eval (.tmp 2) = .pointer (some ⟨g2, 0, none⟩) := (hold 2 (by kernel_rfl)).trans rfl
        exact opw_faddr rfl e2 (by kernel_rfl) (hK _ _ rfl (Below.refl _ _))
      · rw [want_some rfl rfl rfl (show b.eval (.tmp 12) = .bool true from (hpre ⟨7, _⟩ (Array.mem_of_getElem? (i := 0) rfl) rfl _ _ rfl rfl))] at hwant; cases hwant
    case r9 =>
      refine trule fun b w hW hold hpre => ⟨fun hwant K hK => ?_, fun hwant => ?_⟩
      · clear hwant
        have e13 : b.eval (.tmp 13) = .pointer (some ⟨g2, 1, none⟩) := hpre ⟨8, _⟩ (Array.mem_of_getElem? (i := 0) rfl) rfl _ _ rfl rfl
        exact opw_row1 rfl e13 ((hS.ext (undrew hW)).box 1 rfl) rfl Tryz.underlying51 (by kernel_rfl) (by kernel_rfl) (hK _ _ rfl (Below.refl _ _))
      · rw [want_some rfl rfl rfl (show b.eval (.tmp 12) = .bool true from (hpre ⟨7, _⟩ (Array.mem_of_getElem? (i := 1) rfl) rfl _ _ rfl rfl))] at hwant; cases hwant
    case r10 =>
      refine trule fun b w hW hold hpre => ⟨fun hwant K hK => ?_, fun hwant => ?_⟩
      · clear hwant
        have e14 : b.eval (.tmp 14) = .agg #[.slice B k d] := hpre ⟨9, _⟩ (Array.mem_of_getElem? (i := 0) rfl) rfl _ _ rfl rfl
        exact opw_call rfl (by kernel_rfl) (by simp [e14]) (list64_any _ n hn _ w (k2 _ _ (hS.ext (undrew hW)).ro) (k3 _ _ (hS.ext (undrew hW)).ro).1) fun v w' h hb => hK v w' (h.imp fun _ _ _ => trivial) hb
      · rw [want_some rfl rfl rfl (show b.eval (.tmp 12) = .bool true from (hpre ⟨7, _⟩ (Array.mem_of_getElem? (i := 1) rfl) rfl _ _ rfl rfl))] at hwant; cases hwant
    case r11 =>
      refine trule fun b w hW hold hpre => ⟨fun hwant K hK => ?_, fun hwant => ?_⟩
      · clear hwant
        have e3 : b.eval (.tmp 3) = .pointer (some ⟨g3, 0, none⟩) := (hold 3 (by kernel_rfl)).trans rfl
        exact opw_faddr rfl e3 (by kernel_rfl) (hK _ _ rfl (Below.refl _ _))
      · rw [want_some rfl rfl rfl (show b.eval (.tmp 12) = .bool true from (hpre ⟨7, _⟩ (Array.mem_of_getElem? (i := 0) rfl) rfl _ _ rfl rfl))] at hwant; cases hwant
    case r12 =>
      refine trule fun b w hW hold hpre => ⟨fun hwant K hK => ?_, fun hwant => ?_⟩
      · clear hwant
        have e16 : b.eval (.tmp 16) = .pointer (some ⟨g3, 1, none⟩) := hpre ⟨11, _⟩ (Array.mem_of_getElem? (i := 0) rfl) rfl _ _ rfl rfl
        exact opw_cell rfl e16 (by kernel_rfl) ((hS.ext (undrew hW)).shut 0 rfl 1 rfl) (hK _ _ rfl (Below.refl _ _))
      · rw [want_some rfl rfl rfl (show b.eval (.tmp 12) = .bool true from (hpre ⟨7, _⟩ (Array.mem_of_getElem? (i := 1) rfl) rfl _ _ rfl rfl))] at hwant; cases hwant
    case r13 =>
      refine trule fun b w hW hold hpre => ⟨fun hwant K hK => ?_, fun hwant => ?_⟩
      · clear hwant
        have e17 : b.eval (.tmp 17) = .int .u64 n' := hpre ⟨12, _⟩ (Array.mem_of_getElem? (i := 0) rfl) rfl _ _ rfl rfl
        exact opw_call rfl (by kernel_rfl) (by simp [e17]) (members_any' n' w) fun v w' h hb => hK v w' (h.imp fun _ _ _ => trivial) hb
      · rw [want_some rfl rfl rfl (show b.eval (.tmp 12) = .bool true from (hpre ⟨7, _⟩ (Array.mem_of_getElem? (i := 2) rfl) rfl _ _ rfl rfl))] at hwant; cases hwant
    case r14 =>
      refine trule fun b w hW hold hpre => ⟨fun hwant K hK => ?_, fun hwant => ?_⟩
      · clear hwant
        have e15 : (fun (v : Value) (w : World) => Sl w (fun _ => True) 1 v (natInts (members n)).length (ints (natInts (members n)))) (b.eval (.tmp 15)) w := hpre ⟨10, _⟩ (Array.mem_of_getElem? (i := 0) rfl) rfl _ _ rfl rfl
        have e18 : (fun (v : Value) (w : World) => Sl w (fun _ => True) 1 v (natInts (members n')).length (ints (natInts (members n')))) (b.eval (.tmp 18)) w := hpre ⟨13, _⟩ (Array.mem_of_getElem? (i := 1) rfl) rfl _ _ rfl rfl
        exact opw_call rfl (by kernel_rfl) rfl (sleq_any _ _ _ _ w _ _ e15 e18) fun v w' h hb => hK v w' (h.trans (by rw [Q2.out])) hb
      · rw [want_some rfl rfl rfl (show b.eval (.tmp 12) = .bool true from (hpre ⟨7, _⟩ (Array.mem_of_getElem? (i := 3) rfl) rfl _ _ rfl rfl))] at hwant; cases hwant
    case r15 =>
      refine trule fun b w hW hold hpre => ⟨fun hwant K hK => ?_, fun hwant => ?_⟩
      · clear hwant
        have e12 : b.eval (.tmp 12) = .bool true := hpre ⟨7, _⟩ (Array.mem_of_getElem? (i := 0) rfl) rfl _ _ rfl rfl
        have e19 : b.eval (.tmp 19) = .bool q2 := hpre ⟨14, _⟩ (Array.mem_of_getElem? (i := 1) rfl) rfl _ _ rfl rfl
        exact opw_pick rfl e12 (if_pos rfl) (hK _ _ e19 (Below.refl _ _))
      · rw [want_none rfl] at hwant; cases hwant
    case r16 =>
      refine trule fun b w hW hold hpre => ⟨fun hwant K hK => ?_, fun hwant => ?_⟩
      · clear hwant
        have e20 : b.eval (.tmp 20) = .bool q2 := hpre ⟨15, _⟩ (Array.mem_of_getElem? (i := 0) rfl) rfl _ _ rfl rfl
        exact opw_assign rfl e20 (hK _ _ rfl (Below.refl _ _))
      · rw [want_none rfl] at hwant; cases hwant
    case post =>
      intro b wz hW hdf hsz hold hT
      have e5 : b.eval (.tmp 5) = .pointer (some ⟨g2, 0, none⟩) := hT 0 _ 5 rfl rfl
      have e6 : b.eval (.tmp 6) = .agg #[.slice A m c] := hT 1 _ 6 rfl rfl
      have e7 : (fun (v : Value) (w : World) => Sl w (fun _ => True) 1 v (natInts (members y)).length (ints (natInts (members y)))) (b.eval (.tmp 7)) wz := hT 2 _ 7 rfl rfl
      have e8 : b.eval (.tmp 8) = .pointer (some ⟨g3, 0, none⟩) := hT 3 _ 8 rfl rfl
      have e9 : b.eval (.tmp 9) = .int .u64 y' := hT 4 _ 9 rfl rfl
      have e10 : (fun (v : Value) (w : World) => Sl w (fun _ => True) 1 v (natInts (members y')).length (ints (natInts (members y')))) (b.eval (.tmp 10)) wz := hT 5 _ 10 rfl rfl
      have e11 : b.eval (.tmp 11) = .bool true := hT 6 _ 11 rfl rfl
      have e12 : b.eval (.tmp 12) = .bool true := hT 7 _ 12 rfl rfl
      have e13 : b.eval (.tmp 13) = .pointer (some ⟨g2, 1, none⟩) := hT 8 _ 13 rfl rfl
      have e14 : b.eval (.tmp 14) = .agg #[.slice B k d] := hT 9 _ 14 rfl rfl
      have e15 : (fun (v : Value) (w : World) => Sl w (fun _ => True) 1 v (natInts (members n)).length (ints (natInts (members n)))) (b.eval (.tmp 15)) wz := hT 10 _ 15 rfl rfl
      have e16 : b.eval (.tmp 16) = .pointer (some ⟨g3, 1, none⟩) := hT 11 _ 16 rfl rfl
      have e17 : b.eval (.tmp 17) = .int .u64 n' := hT 12 _ 17 rfl rfl
      have e18 : (fun (v : Value) (w : World) => Sl w (fun _ => True) 1 v (natInts (members n')).length (ints (natInts (members n')))) (b.eval (.tmp 18)) wz := hT 13 _ 18 rfl rfl
      have e19 : b.eval (.tmp 19) = .bool q2 := hT 14 _ 19 rfl rfl
      have e20 : b.eval (.tmp 20) = .bool q2 := hT 15 _ 20 rfl rfl
      have e4 : b.eval (.tmp 4) = .bool q2 := hT 16 _ 4 rfl rfl
      obtain ⟨vs, hvs, hb⟩ := frame_of hdf hsz hold
      replace e5 : vs 5 = .pointer (some ⟨g2, 0, none⟩) := (hvs 5).symm.trans e5
      replace e6 : vs 6 = .agg #[.slice A m c] := (hvs 6).symm.trans e6
      replace e7 := (hvs 7) ▸ e7
      replace e8 : vs 8 = .pointer (some ⟨g3, 0, none⟩) := (hvs 8).symm.trans e8
      replace e9 : vs 9 = .int .u64 y' := (hvs 9).symm.trans e9
      replace e10 := (hvs 10) ▸ e10
      replace e11 : vs 11 = .bool true := (hvs 11).symm.trans e11
      replace e12 : vs 12 = .bool true := (hvs 12).symm.trans e12
      replace e13 : vs 13 = .pointer (some ⟨g2, 1, none⟩) := (hvs 13).symm.trans e13
      replace e14 : vs 14 = .agg #[.slice B k d] := (hvs 14).symm.trans e14
      replace e15 := (hvs 15) ▸ e15
      replace e16 : vs 16 = .pointer (some ⟨g3, 1, none⟩) := (hvs 16).symm.trans e16
      replace e17 : vs 17 = .int .u64 n' := (hvs 17).symm.trans e17
      replace e18 := (hvs 18) ▸ e18
      replace e19 : vs 19 = .bool q2 := (hvs 19).symm.trans e19
      replace e20 : vs 20 = .bool q2 := (hvs 20).symm.trans e20
      replace e4 : vs 4 = .bool q2 := (hvs 4).symm.trans e4
      subst hb
      clear hvs hold hT hdf hsz
      simp only [setAll, Act.put, List.setIfInBounds_toArray, List.set_cons_zero, List.set_cons_succ, List.getElem_toArray, List.getElem_cons_succ, List.getElem_cons_zero]
      go_wp2_with fail
      go_ret
      exact Ret.mk rfl (bel_tr hS.below hW)

theorem stable_cube {v : Value} {z : Nat × Nat} : Stable fun D w => IsCube w D v z := fun D D' w w' h a b c => by
  obtain ⟨x, y, h1, h2, h3⟩ := h
  exact ⟨x, y, h1, stable_set D D' w w' h2 a b c, stable_set D D' w w' h3 a b c⟩
theorem drop_beq {l t : List (Nat × Nat)} {k : Nat} (h : k < l.length) (h' : k < t.length) : (l.drop k == t.drop k) = (l.getD k (0, 0) == t.getD k (0, 0) && (l.drop (k + 1) == t.drop (k + 1))) := by
  rw [List.drop_eq_getElem_cons h, List.drop_eq_getElem_cons h']
  simp only [List.getD_eq_getElem?_getD, List.getElem?_eq_getElem h, List.getElem?_eq_getElem h', Option.getD_some]
  rfl
/-- slices.EqualFunc on cubes and the references' -/
theorem eqrcubes_any (u v : Value) (l t : List (Nat × Nat)) (w0 : World) (D E : Nat → Prop) (hu : IsCubes w0 D u l) (hv : RCubes w0 E v t) (hl : Small l) (ht : Small t) (hT : DTab w0) :
    Calls Tryz.prog 70 #[u, v, .func (.func 71) #[] #[]] w0 (Ret (fun x _ => x = .bool (l == t)) w0) := by
  obtain ⟨A, c, rfl, _, _⟩ := hu.shape
  obtain ⟨A', c', rfl, _, _⟩ := hv.shape
  obtain ⟨K, k1, k2, k3, hS⟩ : ∃ K : (Nat → Prop) → World → Prop, (∀ D w, K D w → IsCubes w D (.slice A l.length c) l) ∧ (∀ D w, K D w → Sl w D 2 (.slice A' t.length c') t.length (rcells t)) ∧ (∀ D w, K D w → DTab w ∧ D 0) ∧ St w0 w0 [] K :=
    ⟨fun D w => IsCubes w D (.slice A l.length c) l ∧ Sl w D 2 (.slice A' t.length c') t.length (rcells t) ∧ DTab w ∧ D 0, fun _ _ h => h.1, fun _ _ h => h.2.1, fun _ _ h => h.2.2, St.start (D := fun _ => True) (stable_cubes.and (Stable.and stable_sl dtab_stable)) ⟨hu.imp fun _ _ _ => trivial, Sl.imp hv fun _ _ _ => trivial, hT, trivial⟩⟩
  have hSt0 := Lib.hid hS.stable
  have HL := Lib.hid hl
  have HT := Lib.hid ht
  clear hu hv hT hl ht
  go_enter Tryz.func70, Tryz.ntmps70
  by_cases hlen : l.length = t.length
  · have HLen := Lib.hid hlen
    have hle : l.length ≤ t.length := by omega
    have hge : t.length ≤ l.length := by omega
    have hR : Hid ((l == t) = (l.drop 0 == t.drop 0)) := Lib.hid rfl
    generalize (l == t) = RES at *
    clear hlen
    go_wp2_with (first | ((with_reducible show wpList _ _ _ (⟨_, .binOp _ _ _ _ _, _, _, _, _⟩ :: _) _ _); (first | ((with_reducible show wpList _ _ _ (⟨_, .binOp .lss _ _ _ _, _, _, _, _⟩ :: _) _ _); refine st_lss rfl _ _ _ _ rfl _ _ _ rfl rfl (fun h_ => ?_) (fun h_ => ?_)) | ((with_reducible show wpList _ _ _ (⟨_, .binOp .leq _ _ _ _, _, _, _, _⟩ :: _) _ _); refine st_leq rfl _ _ _ _ rfl _ _ _ rfl rfl (fun h_ => ?_) (fun h_ => ?_)) | ((with_reducible show wpList _ _ _ (⟨_, .binOp .gtr _ _ _ _, _, _, _, _⟩ :: _) _ _); refine st_gtr rfl _ _ _ _ rfl _ _ _ rfl rfl (fun h_ => ?_) (fun h_ => ?_)) | ((with_reducible show wpList _ _ _ (⟨_, .binOp .geq _ _ _ _, _, _, _, _⟩ :: _) _ _); refine st_geq rfl _ _ _ _ rfl _ _ _ rfl rfl (fun h_ => ?_) (fun h_ => ?_)) | ((with_reducible show wpList _ _ _ (⟨_, .binOp .eql _ _ _ _, _, _, _, _⟩ :: _) _ _); refine st_eql rfl _ _ _ _ rfl _ _ _ rfl rfl (fun h_ => ?_) (fun h_ => ?_)) | ((with_reducible show wpList _ _ _ (⟨_, .binOp .neq _ _ _ _, _, _, _, _⟩ :: _) _ _); refine st_neq rfl _ _ _ _ rfl _ _ _ rfl rfl (fun h_ => ?_) (fun h_ => ?_))) <;> go_prune))
    go_loopw [17] (fun i wr => ∃ k : Nat, ∃ F, k ≤ l.length ∧ i = .int .i64 k ∧ St w0 wr F K ∧ Hid (RES = (l.drop k == t.drop k))) (fun i _ => l.length - (intOf i).toNat)
    case atStart => exact ⟨0, _, by omega, rfl, hS, hR⟩
    case round =>
      obtain ⟨k, F, hk, rfl, hS, hR⟩ := hrel
      by_cases hlt : k < l.length
      · obtain ⟨b, o, y, n, rfl, _, hb, c0, c1, hy, hn⟩ := (k1 _ _ hS.ro).at_ hlt
        obtain ⟨Ay, my, cy, rfl⟩ := hy.shape
        obtain ⟨An, mn, cn, rfl⟩ := hn.shape
        obtain ⟨f1, f2⟩ := rcells_at t k (by omega)
        have hlt' : k < t.length := by omega
        have hz := HT.out.at_ k hlt'
        have hz2 := HL.out.at_ k hlt
        have HD := Lib.hid (drop_beq hlt hlt')
        replace hS := hS.add (D := Free F) (stable_cube (v := .agg #[.slice Ay my cy, .slice An mn cn]) (z := l.getD k (0, 0))) ⟨_, _, rfl, hy, hn⟩ fun _ h _ => h
        clear hy hn
        generalize l.getD k (0, 0) = z1 at *
        generalize t.getD k (0, 0) = z2 at *
        obtain ⟨y1, n1⟩ := z1
        obtain ⟨y2, n2⟩ := z2
        dsimp only at f1 f2 hz hz2
        obtain ⟨K', kk, kc, k2', k3', hS'⟩ : ∃ K' : (Nat → Prop) → World → Prop, (∀ D w, K' D w → K D w) ∧ (∀ D w, K' D w → IsCube w D (.agg #[.slice Ay my cy, .slice An mn cn]) (y1, n1)) ∧ (∀ D w, K' D w → Sl w D 2 (.slice A' t.length c') t.length (rcells t)) ∧ (∀ D w, K' D w → DTab w ∧ D 0) ∧ St w0 wr F K' :=
          ⟨_, fun _ _ h => h.1, fun _ _ h => h.2, fun _ _ h => k2 _ _ h.1, fun _ _ h => k3 _ _ h.1, hS⟩
        clear hS
        have hS := hS'
        clear hS'
        go_wp2_with (first
          | ((with_reducible show wpList _ _ _ (⟨some 8, _, _, _, _, _⟩ :: _) _ _); refine st_allocz hS rfl _ rfl (by kernel_rfl) #[.slice none 0 0, .slice none 0 0] (by kernel_rfl) ?_; clear hS; intro g8 w_ hS; (try simp only [Act.put, Act.eval, List.set_cons_zero, List.set_cons_succ, List.setIfInBounds_toArray, Array.getD_eq_getD_getElem?, List.getElem?_toArray, List.getElem?_cons_succ, List.getElem?_cons_zero, Option.getD_some, Value.cells] at hS))
          | ((with_reducible show wpList _ _ _ (⟨some 9, _, _, _, _, _⟩ :: _) _ _); refine st_allocz hS rfl _ rfl (by kernel_rfl) #[.int .u64 0, .int .u64 0] (by kernel_rfl) ?_; clear hS; intro g9 w_ hS; (try simp only [Act.put, Act.eval, List.set_cons_zero, List.set_cons_succ, List.setIfInBounds_toArray, Array.getD_eq_getD_getElem?, List.getElem?_toArray, List.getElem?_cons_succ, List.getElem?_cons_zero, Option.getD_some, Value.cells] at hS))
          | ((with_reducible show wpList _ _ _ (⟨_, .store _ _ _, _, _, _, _⟩ :: _) _ _); first | (refine st_store hS 0 rfl _ _ _ rfl _ _ rfl rfl _ _ rfl (by kernel_rfl) (by kernel_rfl) (by kernel_rfl) ?_; clear hS; intro w_ hS; (try simp only [Act.put, Act.eval, List.set_cons_zero, List.set_cons_succ, List.setIfInBounds_toArray, Array.getD_eq_getD_getElem?, List.getElem?_toArray, List.getElem?_cons_succ, List.getElem?_cons_zero, Option.getD_some, Value.cells] at hS)) | (refine st_store hS 1 rfl _ _ _ rfl _ _ rfl rfl _ _ rfl (by kernel_rfl) (by kernel_rfl) (by kernel_rfl) ?_; clear hS; intro w_ hS; (try simp only [Act.put, Act.eval, List.set_cons_zero, List.set_cons_succ, List.setIfInBounds_toArray, Array.getD_eq_getD_getElem?, List.getElem?_toArray, List.getElem?_cons_succ, List.getElem?_cons_zero, Option.getD_some, Value.cells] at hS)) | (refine st_store hS 2 rfl _ _ _ rfl _ _ rfl rfl _ _ rfl (by kernel_rfl) (by kernel_rfl) (by kernel_rfl) ?_; clear hS; intro w_ hS; (try simp only [Act.put, Act.eval, List.set_cons_zero, List.set_cons_succ, List.setIfInBounds_toArray, Array.getD_eq_getD_getElem?, List.getElem?_toArray, List.getElem?_cons_succ, List.getElem?_cons_zero, Option.getD_some, Value.cells] at hS)) | (refine st_store hS 3 rfl _ _ _ rfl _ _ rfl rfl _ _ rfl (by kernel_rfl) (by kernel_rfl) (by kernel_rfl) ?_; clear hS; intro w_ hS; (try simp only [Act.put, Act.eval, List.set_cons_zero, List.set_cons_succ, List.setIfInBounds_toArray, Array.getD_eq_getD_getElem?, List.getElem?_toArray, List.getElem?_cons_succ, List.getElem?_cons_zero, Option.getD_some, Value.cells] at hS)) | (refine st_cstore hS 0 rfl _ _ _ rfl _ _ _ rfl rfl rfl (by first | (simp; done) | (simp; omega) | exact of_decide_eq_true (by kernel_rfl)) rfl (by first | rfl | assumption) (by kernel_rfl) ?_; clear hS; intro w_ hS; (try simp only [Act.put, Act.eval, List.set_cons_zero, List.set_cons_succ, List.setIfInBounds_toArray, Array.getD_eq_getD_getElem?, List.getElem?_toArray, List.getElem?_cons_succ, List.getElem?_cons_zero, Option.getD_some, Value.cells] at hS)) | (refine st_cstore hS 1 rfl _ _ _ rfl _ _ _ rfl rfl rfl (by first | (simp; done) | (simp; omega) | exact of_decide_eq_true (by kernel_rfl)) rfl (by first | rfl | assumption) (by kernel_rfl) ?_; clear hS; intro w_ hS; (try simp only [Act.put, Act.eval, List.set_cons_zero, List.set_cons_succ, List.setIfInBounds_toArray, Array.getD_eq_getD_getElem?, List.getElem?_toArray, List.getElem?_cons_succ, List.getElem?_cons_zero, Option.getD_some, Value.cells] at hS)) | (refine st_cstore hS 2 rfl _ _ _ rfl _ _ _ rfl rfl rfl (by first | (simp; done) | (simp; omega) | exact of_decide_eq_true (by kernel_rfl)) rfl (by first | rfl | assumption) (by kernel_rfl) ?_; clear hS; intro w_ hS; (try simp only [Act.put, Act.eval, List.set_cons_zero, List.set_cons_succ, List.setIfInBounds_toArray, Array.getD_eq_getD_getElem?, List.getElem?_toArray, List.getElem?_cons_succ, List.getElem?_cons_zero, Option.getD_some, Value.cells] at hS)) | (refine st_cstore hS 3 rfl _ _ _ rfl _ _ _ rfl rfl rfl (by first | (simp; done) | (simp; omega) | exact of_decide_eq_true (by kernel_rfl)) rfl (by first | rfl | assumption) (by kernel_rfl) ?_; clear hS; intro w_ hS; (try simp only [Act.put, Act.eval, List.set_cons_zero, List.set_cons_succ, List.setIfInBounds_toArray, Array.getD_eq_getD_getElem?, List.getElem?_toArray, List.getElem?_cons_succ, List.getElem?_cons_zero, Option.getD_some, Value.cells] at hS)))
          | ((with_reducible show wpList _ _ _ (⟨_, .binOp _ _ _ _ _, _, _, _, _⟩ :: _) _ _); (first | ((with_reducible show wpList _ _ _ (⟨_, .binOp .lss _ _ _ _, _, _, _, _⟩ :: _) _ _); refine st_lss rfl _ _ _ _ rfl _ _ _ rfl rfl (fun h_ => ?_) (fun h_ => ?_)) | ((with_reducible show wpList _ _ _ (⟨_, .binOp .leq _ _ _ _, _, _, _, _⟩ :: _) _ _); refine st_leq rfl _ _ _ _ rfl _ _ _ rfl rfl (fun h_ => ?_) (fun h_ => ?_)) | ((with_reducible show wpList _ _ _ (⟨_, .binOp .gtr _ _ _ _, _, _, _, _⟩ :: _) _ _); refine st_gtr rfl _ _ _ _ rfl _ _ _ rfl rfl (fun h_ => ?_) (fun h_ => ?_)) | ((with_reducible show wpList _ _ _ (⟨_, .binOp .geq _ _ _ _, _, _, _, _⟩ :: _) _ _); refine st_geq rfl _ _ _ _ rfl _ _ _ rfl rfl (fun h_ => ?_) (fun h_ => ?_)) | ((with_reducible show wpList _ _ _ (⟨_, .binOp .eql _ _ _ _, _, _, _, _⟩ :: _) _ _); refine st_eql rfl _ _ _ _ rfl _ _ _ rfl rfl (fun h_ => ?_) (fun h_ => ?_)) | ((with_reducible show wpList _ _ _ (⟨_, .binOp .neq _ _ _ _, _, _, _, _⟩ :: _) _ _); refine st_neq rfl _ _ _ _ rfl _ _ _ rfl rfl (fun h_ => ?_) (fun h_ => ?_))) <;> go_prune)
          | ((with_reducible show wpList _ _ _ (⟨_, .load _ _, _, _, _, _⟩ :: _) _ _); first | refine st_load hS 0 rfl _ _ rfl _ rfl _ _ rfl _ Tryz.underlying54 rfl (by kernel_rfl) ?_ | refine st_load hS 1 rfl _ _ rfl _ rfl _ _ rfl _ Tryz.underlying54 rfl (by kernel_rfl) ?_ | refine st_load hS 2 rfl _ _ rfl _ rfl _ _ rfl _ Tryz.underlying54 rfl (by kernel_rfl) ?_ | refine st_load hS 3 rfl _ _ rfl _ rfl _ _ rfl _ Tryz.underlying54 rfl (by kernel_rfl) ?_)
          | ((with_reducible show wpList _ _ _ (⟨_, .load _ _, _, _, _, _⟩ :: _) _ _); first | refine st_load hS 0 rfl _ _ rfl _ rfl _ _ rfl _ Tryz.underlying60 rfl (by kernel_rfl) ?_ | refine st_load hS 1 rfl _ _ rfl _ rfl _ _ rfl _ Tryz.underlying60 rfl (by kernel_rfl) ?_ | refine st_load hS 2 rfl _ _ rfl _ rfl _ _ rfl _ Tryz.underlying60 rfl (by kernel_rfl) ?_ | refine st_load hS 3 rfl _ _ rfl _ rfl _ _ rfl _ Tryz.underlying60 rfl (by kernel_rfl) ?_)
          | ((with_reducible show wpList _ _ _ (⟨_, .indexAddr _ _ _, _, _, _, _⟩ :: _) _ _); refine st_iaddr2 hS rfl _ _ _ rfl _ rfl rfl (by assumption) Tryz.underlying28 (by kernel_rfl) (by first | assumption | omega) _ _ (by assumption) (by assumption) ?_; intro b_ j_ hc0_ hc1_))
        refine (same1_any _ y1 n1 y2 n2 hz2.1 hz2.2 hz.1 hz.2 _ _ (kc _ _ hS.ro) (k3' _ _ hS.ro).1).mono ?_
        rintro e w2 ⟨_, rfl, rfl, hb2⟩
        replace hS := (hS.ext hb2).mono hSt0.out kk
        generalize ((y1, n1) == (y2, n2)) = q at *
        cases q
        · go_wp2_with fail
          have hE : RES = false := by rw [hR.out, HD.out]; rfl
          subst hE
          go_ret
          exact Ret.mk rfl hS.below
        · go_wp2_with fail
          exact ⟨⟨k + 1, _, hlt, by go_num, hS, Lib.hid (by rw [hR.out, HD.out]; rfl)⟩, by simp [intOf]; omega⟩
      · obtain rfl : k = l.length := by omega
        have hE : RES = true := by rw [hR.out, List.drop_length, HLen.out, List.drop_length]; rfl
        go_wp2_with (first | ((with_reducible show wpList _ _ _ (⟨_, .binOp _ _ _ _ _, _, _, _, _⟩ :: _) _ _); (first | ((with_reducible show wpList _ _ _ (⟨_, .binOp .lss _ _ _ _, _, _, _, _⟩ :: _) _ _); refine st_lss rfl _ _ _ _ rfl _ _ _ rfl rfl (fun h_ => ?_) (fun h_ => ?_)) | ((with_reducible show wpList _ _ _ (⟨_, .binOp .leq _ _ _ _, _, _, _, _⟩ :: _) _ _); refine st_leq rfl _ _ _ _ rfl _ _ _ rfl rfl (fun h_ => ?_) (fun h_ => ?_)) | ((with_reducible show wpList _ _ _ (⟨_, .binOp .gtr _ _ _ _, _, _, _, _⟩ :: _) _ _); refine st_gtr rfl _ _ _ _ rfl _ _ _ rfl rfl (fun h_ => ?_) (fun h_ => ?_)) | ((with_reducible show wpList _ _ _ (⟨_, .binOp .geq _ _ _ _, _, _, _, _⟩ :: _) _ _); refine st_geq rfl _ _ _ _ rfl _ _ _ rfl rfl (fun h_ => ?_) (fun h_ => ?_)) | ((with_reducible show wpList _ _ _ (⟨_, .binOp .eql _ _ _ _, _, _, _, _⟩ :: _) _ _); refine st_eql rfl _ _ _ _ rfl _ _ _ rfl rfl (fun h_ => ?_) (fun h_ => ?_)) | ((with_reducible show wpList _ _ _ (⟨_, .binOp .neq _ _ _ _, _, _, _, _⟩ :: _) _ _); refine st_neq rfl _ _ _ _ rfl _ _ _ rfl rfl (fun h_ => ?_) (fun h_ => ?_))) <;> go_prune))
        subst hE
        go_ret
        exact Ret.mk rfl hS.below
  · have hd : (l == t) = false := by rw [beq_eq_false_iff_ne]; rintro rfl; exact hlen rfl
    go_wp2_with (first | ((with_reducible show wpList _ _ _ (⟨_, .binOp _ _ _ _ _, _, _, _, _⟩ :: _) _ _); (first | ((with_reducible show wpList _ _ _ (⟨_, .binOp .lss _ _ _ _, _, _, _, _⟩ :: _) _ _); refine st_lss rfl _ _ _ _ rfl _ _ _ rfl rfl (fun h_ => ?_) (fun h_ => ?_)) | ((with_reducible show wpList _ _ _ (⟨_, .binOp .leq _ _ _ _, _, _, _, _⟩ :: _) _ _); refine st_leq rfl _ _ _ _ rfl _ _ _ rfl rfl (fun h_ => ?_) (fun h_ => ?_)) | ((with_reducible show wpList _ _ _ (⟨_, .binOp .gtr _ _ _ _, _, _, _, _⟩ :: _) _ _); refine st_gtr rfl _ _ _ _ rfl _ _ _ rfl rfl (fun h_ => ?_) (fun h_ => ?_)) | ((with_reducible show wpList _ _ _ (⟨_, .binOp .geq _ _ _ _, _, _, _, _⟩ :: _) _ _); refine st_geq rfl _ _ _ _ rfl _ _ _ rfl rfl (fun h_ => ?_) (fun h_ => ?_)) | ((with_reducible show wpList _ _ _ (⟨_, .binOp .eql _ _ _ _, _, _, _, _⟩ :: _) _ _); refine st_eql rfl _ _ _ _ rfl _ _ _ rfl rfl (fun h_ => ?_) (fun h_ => ?_)) | ((with_reducible show wpList _ _ _ (⟨_, .binOp .neq _ _ _ _, _, _, _, _⟩ :: _) _ _); refine st_neq rfl _ _ _ _ rfl _ _ _ rfl rfl (fun h_ => ?_) (fun h_ => ?_))) <;> go_prune))
    rw [hd]
    go_ret
    exact Ret.mk rfl hS.below

theorem lsame_any (u v : Value) (l t : List (Nat × Nat)) (w0 : World) (D E : Nat → Prop) (hu : IsCubes w0 D u l) (hv : RCubes w0 E v t) (hl : Small l) (ht : Small t) (hT : DTab w0) :
    Calls Tryz.prog 39 #[u, v] w0 (Ret (fun x _ => x = .bool (l == t)) w0) := by
  have HC := Lib.hid (eqrcubes_any u v l t w0 D E hu hv hl ht hT)
  clear hu hv
  go_enter Tryz.func39, Tryz.ntmps39
  go_wp2_with fail
  refine HC.out.mono ?_
  rintro e w2 ⟨_, rfl, rfl, hb2⟩
  go_wp2_with fail
  go_ret
  exact Ret.mk rfl hb2

set_option maxHeartbeats 2000000 in
/-- arbaclaw36.Same: a certificate against the reference's -/
theorem csame_any (u v : Value) (x y : CertD) (w0 : World) (D E : Nat → Prop) (hu : IsCert w0 D u x) (hv : IsRCert w0 E v y) (hx : Small x.cubes) (hy : Small y.cubes) (hT : DTab w0) :
    Calls Tryz.prog 13 #[u, v] w0 (Ret (fun r _ => r = .bool (eqC x y)) w0) := by
  obtain ⟨pv, qv, rfl, h32, _, hp, hq⟩ := hu.cc
  obtain ⟨pv', qv', rfl, h32', _, hp', hq'⟩ := hv
  obtain ⟨A, c1, rfl, _, _⟩ := hp.shape
  obtain ⟨B, c2, rfl, _, _⟩ := hq.shape
  obtain ⟨A', c3, rfl, _, _⟩ := hp'.shape
  obtain ⟨B', c4, rfl, _, _⟩ := hq'.shape
  obtain ⟨prob, r, plan, cubes⟩ := x
  obtain ⟨prob', r', plan', cubes'⟩ := y
  dsimp only at *
  have HR := Lib.hid (show eqC ⟨prob, r, plan, cubes⟩ ⟨prob', r', plan', cubes'⟩ = (prob == prob' && (r == r' && (plan == plan' && cubes == cubes'))) from rfl)
  generalize eqC ⟨prob, r, plan, cubes⟩ ⟨prob', r', plan', cubes'⟩ = RES at *
  obtain ⟨K, k1, k2, k3, k4, k5, hS⟩ : ∃ K : (Nat → Prop) → World → Prop, (∀ D w, K D w → Sl w D 1 (.slice A plan.length c1) plan.length (ints plan)) ∧ (∀ D w, K D w → IsCubes w D (.slice B cubes.length c2) cubes) ∧ (∀ D w, K D w → Sl w D 1 (.slice A' plan'.length c3) plan'.length (ints plan')) ∧ (∀ D w, K D w → RCubes w D (.slice B' cubes'.length c4) cubes') ∧ (∀ D w, K D w → DTab w ∧ D 0) ∧ St w0 w0 [] K :=
    ⟨fun D w => Sl w D 1 (.slice A plan.length c1) plan.length (ints plan) ∧ IsCubes w D (.slice B cubes.length c2) cubes ∧ Sl w D 1 (.slice A' plan'.length c3) plan'.length (ints plan') ∧ Sl w D 2 (.slice B' cubes'.length c4) cubes'.length (rcells cubes') ∧ DTab w ∧ D 0,
      fun _ _ h => h.1, fun _ _ h => h.2.1, fun _ _ h => h.2.2.1, fun _ _ h => h.2.2.2.1, fun _ _ h => h.2.2.2.2, St.start (D := fun _ => True) (Stable.and stable_sl (Stable.and stable_cubes (Stable.and stable_sl (Stable.and stable_sl dtab_stable)))) ⟨hp.imp fun _ _ _ => trivial, hq.imp fun _ _ _ => trivial, hp'.imp fun _ _ _ => trivial, Sl.imp hq' fun _ _ _ => trivial, hT, trivial⟩⟩
  have hq1 := fun (w : World) => eql_id w prob prob' h32 h32'
  obtain ⟨x32, x33, x34⟩ := cc_at prob r (.slice A plan.length c1) (.slice B cubes.length c2) h32
  obtain ⟨y32, y33, y34⟩ := cc_at prob' r' (.slice A' plan'.length c3) (.slice B' cubes'.length c4) h32'
  have HI1 := Lib.hid (show (Tryz.prog.info? 32).map (·.size) = some (u8s prob).length by rw [u8s_length, h32]; kernel_rfl)
  have HI2 := Lib.hid (show (Tryz.prog.info? 27).map (·.size) = some (u8s prob').length by rw [u8s_length, h32']; kernel_rfl)
  obtain ⟨cs, hcs⟩ : ∃ cs, cs = cc prob r (.slice A plan.length c1) (.slice B cubes.length c2) := ⟨_, rfl⟩
  obtain ⟨ds, hds⟩ : ∃ cs, cs = cc prob' r' (.slice A' plan'.length c3) (.slice B' cubes'.length c4) := ⟨_, rfl⟩
  rw [← hcs] at x32 x33 x34 ⊢
  rw [← hds] at y32 y33 y34 ⊢
  have HC := Lib.hid hcs
  have HD := Lib.hid hds
  have HX := Lib.hid hx
  have HY := Lib.hid hy
  clear hcs hds h32 h32' hu hp hq hp' hq' hT hx hy
  generalize (prob == prob') = b1 at *
  go_enter Tryz.func13, Tryz.ntmps13
  cases b1 <;> cases r <;> cases r'
  all_goals
    go_wp2_with (first
      | ((with_reducible show wpList _ _ _ (⟨some 2, _, _, _, _, _⟩ :: _) _ _); refine st_box hS rfl _ _ rfl (.agg cs) _ rfl rfl ?_; clear hS; intro g2 w_ hS; (try simp only [Act.put, Act.eval, List.set_cons_zero, List.set_cons_succ, List.setIfInBounds_toArray, Array.getD_eq_getD_getElem?, List.getElem?_toArray, List.getElem?_cons_succ, List.getElem?_cons_zero, Option.getD_some, Value.cells] at hS))
      | ((with_reducible show wpList _ _ _ (⟨some 3, _, _, _, _, _⟩ :: _) _ _); refine st_box hS rfl _ _ rfl (.agg ds) _ rfl rfl ?_; clear hS; intro g3 w_ hS; (try simp only [Act.put, Act.eval, List.set_cons_zero, List.set_cons_succ, List.setIfInBounds_toArray, Array.getD_eq_getD_getElem?, List.getElem?_toArray, List.getElem?_cons_succ, List.getElem?_cons_zero, Option.getD_some, Value.cells] at hS))
      | ((with_reducible show wpList _ _ _ (⟨some 6, _, _, _, _, _⟩ :: _) _ _); refine wpList_load_mid rfl _ _ rfl g2 0 rfl _ _ (cc_range (HC.out ▸ hS.box 1 rfl)) Tryz.underlying32 rfl HI1.out ?_)
      | ((with_reducible show wpList _ _ _ (⟨some 8, _, _, _, _, _⟩ :: _) _ _); refine wpList_load_mid rfl _ _ rfl g3 0 rfl _ _ (cc_range (HD.out ▸ hS.box 0 rfl)) Tryz.underlying27 rfl HI2.out ?_)
      | ((with_reducible show wpList _ _ _ (⟨_, .load _ _, _, _, _, _⟩ :: _) _ _); first | (refine st_cell hS 0 rfl _ _ rfl _ _ rfl _ _ rfl (by decide +kernel) _ (by first | assumption | rfl) ?_) | (refine st_cell hS 1 rfl _ _ rfl _ _ rfl _ _ rfl (by decide +kernel) _ (by first | assumption | rfl) ?_) | (refine st_cell hS 2 rfl _ _ rfl _ _ rfl _ _ rfl (by decide +kernel) _ (by first | assumption | rfl) ?_)))
  all_goals first
    | (go_ret; exact Ret.mk (by rw [HR.out]; rfl) hS.below)
    | (
      refine (sleq_any _ _ plan plan' _ _ _ (k1 _ _ hS.ro) (k3 _ _ hS.ro)).mono ?_
      rintro e w1 ⟨_, rfl, rfl, hb1⟩
      replace hS := hS.ext hb1
      generalize (plan == plan') = q at *
      cases q
      · go_wp2_with (first | ((with_reducible show wpList _ _ _ (⟨_, .load _ _, _, _, _, _⟩ :: _) _ _); first | (refine st_cell hS 0 rfl _ _ rfl _ _ rfl _ _ rfl (by decide +kernel) _ (by first | assumption | rfl) ?_) | (refine st_cell hS 1 rfl _ _ rfl _ _ rfl _ _ rfl (by decide +kernel) _ (by first | assumption | rfl) ?_) | (refine st_cell hS 2 rfl _ _ rfl _ _ rfl _ _ rfl (by decide +kernel) _ (by first | assumption | rfl) ?_)))
        go_ret; exact Ret.mk (by rw [HR.out]; rfl) hS.below
      · go_wp2_with (first | ((with_reducible show wpList _ _ _ (⟨_, .load _ _, _, _, _, _⟩ :: _) _ _); first | (refine st_cell hS 0 rfl _ _ rfl _ _ rfl _ _ rfl (by decide +kernel) _ (by first | assumption | rfl) ?_) | (refine st_cell hS 1 rfl _ _ rfl _ _ rfl _ _ rfl (by decide +kernel) _ (by first | assumption | rfl) ?_) | (refine st_cell hS 2 rfl _ _ rfl _ _ rfl _ _ rfl (by decide +kernel) _ (by first | assumption | rfl) ?_)))
        refine (lsame_any _ _ cubes cubes' _ _ _ (k2 _ _ hS.ro) (k4 _ _ hS.ro) HX.out HY.out (k5 _ _ hS.ro).1).mono ?_
        rintro e w2 ⟨_, rfl, rfl, hb2⟩
        replace hS := hS.ext hb2
        go_wp2_with fail
        go_ret; exact Ret.mk (by rw [HR.out]; rfl) hS.below)
end Go.Proofs.YtenpkgdnlogfiaaGreatDoor
