/-
  The card of HierarchyCloses.
-/
import Derived.Test.YtmlkgaiphpimiaaDoorRows
import Derived.ProofKit
import Derived.Lib.LaidU8
import Derived.Lay
import Derived.MakeChecks
import Derived.LaidLaws
import Derived.Stop.Joined
import Derived.Test.YtmlkgaiphpimiaaDoorCards
import Derived.Test.YtmlkgaiphpimiaaDoorTie
import Derived.SevenTiedAt
import Derived.Test.YtmlkgaiphpimiaaDoorCl5
namespace Go.Proofs.YtmlkgaiphpimiaaDoor
open Go.RowKit
attribute [local go_sem ↓] Go.wp_at_zero Go.wp_at_succ
set_option maxRecDepth 20000
set_option exponentiation.threshold 5000

theorem sl_pair {w : World} {D : Nat → Prop} {n c b o j : Nat} {L : List (Nat × Nat)} (h : Sl w D 2 (.slice (some ⟨b, o, none⟩) n c) n (pcells L)) (hj : j < L.length) : w.rangeAt b (o + j * 2) [.int .i64 ((L.getD j (0, 0)).1 : Nat), .int .i64 ((L.getD j (0, 0)).2 : Nat)] := fun i v hi => by
  obtain ⟨h1, h2⟩ := pcells_at L j hj
  match i, hi with
  | 0, hi =>
    obtain rfl := Option.some.inj (show some _ = some v from hi)
    have h3 := sl_cell (o := o) (b := b) (xs := pcells L) h h1
    exact h3
  | 1, hi =>
    obtain rfl := Option.some.inj (show some _ = some v from hi)
    have h3 := sl_cell (o := o) (b := b) (xs := pcells L) h h2
    rw [← Nat.add_assoc] at h3
    exact h3
  | i + 2, hi => simp at hi
theorem peq_any {w0 : World} {D E : Nat → Prop} {u v : Value} {L M : List (Nat × Nat)} (hu : Sl w0 D 2 u L.length (pcells L)) (hv : Sl w0 E 2 v M.length (pcells M)) (hl : L.length ≤ 1000000) :
    Calls Tryd.prog 30 #[u, v] w0 (Ret (fun x _ => x = .bool (decide (L = M))) w0) := by
  obtain ⟨A, c, rfl, _, _⟩ := hu.shape
  obtain ⟨B, d, rfl, _, _⟩ := hv.shape
  obtain ⟨K, k1, k2, hS⟩ : ∃ K : (Nat → Prop) → World → Prop, (∀ D w, K D w → Sl w D 2 (.slice A L.length c) L.length (pcells L)) ∧ (∀ D w, K D w → Sl w D 2 (.slice B M.length d) M.length (pcells M)) ∧ St w0 w0 [] K := ⟨_, fun _ _ h => h.1, fun _ _ h => h.2, St.start (D := fun _ => True) ((stable_sl (by decide)).and (stable_sl (by decide))) ⟨hu.imp fun _ _ _ => trivial, hv.imp fun _ _ _ => trivial⟩⟩
  clear hu hv
  by_cases hlm : L.length = M.length
  · have HE : Hid ((∀ t, t < L.length → L.getD t (0, 0) = M.getD t (0, 0)) → L = M) := Lib.hid fun h => List.ext_getElem hlm fun i h1 h2 => by
      have := h i h1
      rwa [List.getD_eq_getElem?_getD, List.getD_eq_getElem?_getD, List.getElem?_eq_getElem h1, List.getElem?_eq_getElem h2] at this
    go_enter Tryd.func30, Tryd.ntmps30
    go_wp2_with (first | ((with_reducible show wpList _ _ _ (⟨_, .binOp _ _ _ _ _, _, _, _, _⟩ :: _) _ _); (first | ((with_reducible show wpList _ _ _ (⟨_, .binOp .lss _ _ _ _, _, _, _, _⟩ :: _) _ _); refine st_lss rfl _ _ _ _ rfl _ _ _ rfl rfl (fun h_ => ?_) (fun h_ => ?_)) | ((with_reducible show wpList _ _ _ (⟨_, .binOp .leq _ _ _ _, _, _, _, _⟩ :: _) _ _); refine st_leq rfl _ _ _ _ rfl _ _ _ rfl rfl (fun h_ => ?_) (fun h_ => ?_)) | ((with_reducible show wpList _ _ _ (⟨_, .binOp .gtr _ _ _ _, _, _, _, _⟩ :: _) _ _); refine st_gtr rfl _ _ _ _ rfl _ _ _ rfl rfl (fun h_ => ?_) (fun h_ => ?_)) | ((with_reducible show wpList _ _ _ (⟨_, .binOp .geq _ _ _ _, _, _, _, _⟩ :: _) _ _); refine st_geq rfl _ _ _ _ rfl _ _ _ rfl rfl (fun h_ => ?_) (fun h_ => ?_)) | ((with_reducible show wpList _ _ _ (⟨_, .binOp .eql _ _ _ _, _, _, _, _⟩ :: _) _ _); refine st_eql rfl _ _ _ _ rfl _ _ _ rfl rfl (fun h_ => ?_) (fun h_ => ?_)) | ((with_reducible show wpList _ _ _ (⟨_, .binOp .neq _ _ _ _, _, _, _, _⟩ :: _) _ _); refine st_neq rfl _ _ _ _ rfl _ _ _ rfl rfl (fun h_ => ?_) (fun h_ => ?_))) <;> go_prune))
    go_loopw [13] (fun i wr => ∃ j : Nat, j ≤ L.length ∧ i = .int .i64 (j : Nat) ∧ Hid (∀ t, t < j → L.getD t (0, 0) = M.getD t (0, 0)) ∧ St w0 wr [] K) (fun i _ => L.length - (intOf i).toNat)
    case atStart => exact ⟨0, by omega, rfl, Lib.hid (fun t h => absurd h (by omega)), hS⟩
    case round =>
      clear hS
      obtain ⟨j, hj, rfl, HJ, hS⟩ := hrel
      by_cases hlj : j < L.length
      · have hmj : j < M.length := by omega
        obtain ⟨b1, o1, rfl⟩ : ∃ b o, A = some ⟨b, o, none⟩ := by
          obtain ⟨_, A2, c2, e2, _, _, h5⟩ := k1 _ _ hS.ro
          obtain ⟨b, o, h6, _⟩ := h5 (by omega)
          injection e2 with e2
          exact ⟨b, o, e2.trans h6⟩
        obtain ⟨b2, o2, rfl⟩ : ∃ b o, B = some ⟨b, o, none⟩ := by
          obtain ⟨_, A2, c2, e2, _, _, h5⟩ := k2 _ _ hS.ro
          obtain ⟨b, o, h6, _⟩ := h5 (by omega)
          injection e2 with e2
          exact ⟨b, o, e2.trans h6⟩
        have p1 := Lib.hid (fun (w : World) (h : K (Free []) w) => sl_pair (k1 _ _ h) hlj)
        have p2 := Lib.hid (fun (w : World) (h : K (Free []) w) => sl_pair (k2 _ _ h) hmj)
        have HJ2 : Hid (L.getD j (0, 0) = M.getD j (0, 0) → ∀ t, t < j + 1 → L.getD t (0, 0) = M.getD t (0, 0)) := Lib.hid fun h t ht => if e : t = j then e ▸ h else HJ.out t (by omega)
        have HNE : Hid (L.getD j (0, 0) ≠ M.getD j (0, 0) → ¬ L = M) := Lib.hid fun h e => h (by rw [e])
        generalize L.getD j (0, 0) = x at *
        generalize M.getD j (0, 0) = y at *
        go_wp2_with (first | ((with_reducible show wpList _ _ _ (⟨_, .binOp _ _ _ _ _, _, _, _, _⟩ :: _) _ _); (first | ((with_reducible show wpList _ _ _ (⟨_, .binOp .lss _ _ _ _, _, _, _, _⟩ :: _) _ _); refine st_lss rfl _ _ _ _ rfl _ _ _ rfl rfl (fun h_ => ?_) (fun h_ => ?_)) | ((with_reducible show wpList _ _ _ (⟨_, .binOp .leq _ _ _ _, _, _, _, _⟩ :: _) _ _); refine st_leq rfl _ _ _ _ rfl _ _ _ rfl rfl (fun h_ => ?_) (fun h_ => ?_)) | ((with_reducible show wpList _ _ _ (⟨_, .binOp .gtr _ _ _ _, _, _, _, _⟩ :: _) _ _); refine st_gtr rfl _ _ _ _ rfl _ _ _ rfl rfl (fun h_ => ?_) (fun h_ => ?_)) | ((with_reducible show wpList _ _ _ (⟨_, .binOp .geq _ _ _ _, _, _, _, _⟩ :: _) _ _); refine st_geq rfl _ _ _ _ rfl _ _ _ rfl rfl (fun h_ => ?_) (fun h_ => ?_)) | ((with_reducible show wpList _ _ _ (⟨_, .binOp .eql _ _ _ _, _, _, _, _⟩ :: _) _ _); refine st_eql rfl _ _ _ _ rfl _ _ _ rfl rfl (fun h_ => ?_) (fun h_ => ?_)) | ((with_reducible show wpList _ _ _ (⟨_, .binOp .neq _ _ _ _, _, _, _, _⟩ :: _) _ _); refine st_neq rfl _ _ _ _ rfl _ _ _ rfl rfl (fun h_ => ?_) (fun h_ => ?_))) <;> go_prune))
        refine wp_region_typed (fun i__ v w => match i__ with
          | 0 => v = .slice (some ⟨b1, o1, none⟩) M.length c
          | 1 => v = .int .i64 ((j : Nat) : Int)
          | 2 => v = .pointer (some ⟨b1, o1 + (j) * 2, none⟩)
          | 3 => v = .agg #[.int .i64 ((x.1 : Nat) : Int), .int .i64 ((x.2 : Nat) : Int)]
          | 4 => v = .slice (some ⟨b2, o2, none⟩) M.length d
          | 5 => v = .int .i64 ((j : Nat) : Int)
          | 6 => v = .pointer (some ⟨b2, o2 + (j) * 2, none⟩)
          | 7 => v = .agg #[.int .i64 ((y.1 : Nat) : Int), .int .i64 ((y.2 : Nat) : Int)]
          | 8 => v = .bool (decide (x ≠ y))
          | _ => True) (by kernel_rfl) (by kernel_rfl) ?mono ⟨?r0, ?r1, ?r2, ?r3, ?r4, ?r5, ?r6, ?r7, ?r8, trivial⟩ ?post
        case mono =>
          intro i v w w' h hb
          match i, h with
          | 0, h => exact h
          | 1, h => exact h
          | 2, h => exact h
          | 3, h => exact h
          | 4, h => exact h
          | 5, h => exact h
          | 6, h => exact h
          | 7, h => exact h
          | 8, h => exact h
          | _ + 9, h => trivial
        case r0 =>
          refine trule fun b__ w hW hold hpre => ⟨fun hwant K hK => ?_, fun hwant => ?_⟩
          · clear hwant
            have e0 : b__.eval (.tmp 0) = .slice (some ⟨b1, o1, none⟩) M.length c := (hold 0 (by kernel_rfl)).trans rfl
            exact opw_move rfl e0 (hK _ _ rfl (Below.refl _ _))
          · rw [want_none rfl] at hwant; cases hwant
        case r1 =>
          refine trule fun b__ w hW hold hpre => ⟨fun hwant K hK => ?_, fun hwant => ?_⟩
          · clear hwant
            have e5 : b__.eval (.tmp 5) = .int .i64 ((j : Nat) : Int) := (hold 5 (by kernel_rfl)).trans rfl
            exact opw_move rfl e5 (hK _ _ rfl (Below.refl _ _))
          · rw [want_none rfl] at hwant; cases hwant
        case r2 =>
          refine trule fun b__ w hW hold hpre => ⟨fun hwant K hK => ?_, fun hwant => ?_⟩
          · clear hwant
            have e16 : b__.eval (.tmp 16) = .slice (some ⟨b1, o1, none⟩) M.length c := hpre ⟨0, _⟩ (Array.mem_of_getElem? (i := 0) rfl) rfl _ _ rfl rfl
            have e17 : b__.eval (.tmp 17) = .int .i64 ((j : Nat) : Int) := hpre ⟨1, _⟩ (Array.mem_of_getElem? (i := 1) rfl) rfl _ _ rfl rfl
            exact opw_iaddr rfl e16 e17 (run_iaddr_lit (m := j) Tryd.underlying25 (by kernel_rfl) (by omega) (by omega)) (hK _ _ rfl (Below.refl _ _))
          · rw [want_none rfl] at hwant; cases hwant
        case r3 =>
          refine trule fun b__ w hW hold hpre => ⟨fun hwant K hK => ?_, fun hwant => ?_⟩
          · clear hwant
            have e18 : b__.eval (.tmp 18) = .pointer (some ⟨b1, o1 + (j) * 2, none⟩) := hpre ⟨2, _⟩ (Array.mem_of_getElem? (i := 0) rfl) rfl _ _ rfl rfl
            exact opw_mid (cs := [_, _]) rfl e18 (p1.out _ (hS.ext (undrew hW)).ro) Tryd.underlying50 rfl (by kernel_rfl) (hK _ _ rfl (Below.refl _ _))
          · rw [want_none rfl] at hwant; cases hwant
        case r4 =>
          refine trule fun b__ w hW hold hpre => ⟨fun hwant K hK => ?_, fun hwant => ?_⟩
          · clear hwant
            have e1 : b__.eval (.tmp 1) = .slice (some ⟨b2, o2, none⟩) M.length d := (hold 1 (by kernel_rfl)).trans rfl
            exact opw_move rfl e1 (hK _ _ rfl (Below.refl _ _))
          · rw [want_none rfl] at hwant; cases hwant
        case r5 =>
          refine trule fun b__ w hW hold hpre => ⟨fun hwant K hK => ?_, fun hwant => ?_⟩
          · clear hwant
            have e5 : b__.eval (.tmp 5) = .int .i64 ((j : Nat) : Int) := (hold 5 (by kernel_rfl)).trans rfl
            exact opw_move rfl e5 (hK _ _ rfl (Below.refl _ _))
          · rw [want_none rfl] at hwant; cases hwant
        case r6 =>
          refine trule fun b__ w hW hold hpre => ⟨fun hwant K hK => ?_, fun hwant => ?_⟩
          · clear hwant
            have e20 : b__.eval (.tmp 20) = .slice (some ⟨b2, o2, none⟩) M.length d := hpre ⟨4, _⟩ (Array.mem_of_getElem? (i := 0) rfl) rfl _ _ rfl rfl
            have e21 : b__.eval (.tmp 21) = .int .i64 ((j : Nat) : Int) := hpre ⟨5, _⟩ (Array.mem_of_getElem? (i := 1) rfl) rfl _ _ rfl rfl
            exact opw_iaddr rfl e20 e21 (run_iaddr_lit (m := j) Tryd.underlying25 (by kernel_rfl) (by omega) (by omega)) (hK _ _ rfl (Below.refl _ _))
          · rw [want_none rfl] at hwant; cases hwant
        case r7 =>
          refine trule fun b__ w hW hold hpre => ⟨fun hwant K hK => ?_, fun hwant => ?_⟩
          · clear hwant
            have e22 : b__.eval (.tmp 22) = .pointer (some ⟨b2, o2 + (j) * 2, none⟩) := hpre ⟨6, _⟩ (Array.mem_of_getElem? (i := 0) rfl) rfl _ _ rfl rfl
            exact opw_mid (cs := [_, _]) rfl e22 (p2.out _ (hS.ext (undrew hW)).ro) Tryd.underlying50 rfl (by kernel_rfl) (hK _ _ rfl (Below.refl _ _))
          · rw [want_none rfl] at hwant; cases hwant
        case r8 =>
          refine trule fun b__ w hW hold hpre => ⟨fun hwant K hK => ?_, fun hwant => ?_⟩
          · clear hwant
            have e19 : b__.eval (.tmp 19) = .agg #[.int .i64 ((x.1 : Nat) : Int), .int .i64 ((x.2 : Nat) : Int)] := hpre ⟨3, _⟩ (Array.mem_of_getElem? (i := 0) rfl) rfl _ _ rfl rfl
            have e23 : b__.eval (.tmp 23) = .agg #[.int .i64 ((y.1 : Nat) : Int), .int .i64 ((y.2 : Nat) : Int)] := hpre ⟨7, _⟩ (Array.mem_of_getElem? (i := 1) rfl) rfl _ _ rfl rfl
            exact opw_bin (vx := .agg #[.int .i64 ((x.1 : Nat) : Int), .int .i64 ((x.2 : Nat) : Int)]) (vy := .agg #[.int .i64 ((y.1 : Nat) : Int), .int .i64 ((y.2 : Nat) : Int)]) (v := .bool (decide (x ≠ y))) rfl e19 e23 rfl (ne_pairs _ _ _) (hK _ _ rfl (Below.refl _ _))
          · rw [want_none rfl] at hwant; cases hwant
        case post =>
          intro b__ wz hW hdf hsz hold hT
          have e16 : b__.eval (.tmp 16) = .slice (some ⟨b1, o1, none⟩) M.length c := hT 0 _ 16 rfl rfl
          have e17 : b__.eval (.tmp 17) = .int .i64 ((j : Nat) : Int) := hT 1 _ 17 rfl rfl
          have e18 : b__.eval (.tmp 18) = .pointer (some ⟨b1, o1 + (j) * 2, none⟩) := hT 2 _ 18 rfl rfl
          have e19 : b__.eval (.tmp 19) = .agg #[.int .i64 ((x.1 : Nat) : Int), .int .i64 ((x.2 : Nat) : Int)] := hT 3 _ 19 rfl rfl
          have e20 : b__.eval (.tmp 20) = .slice (some ⟨b2, o2, none⟩) M.length d := hT 4 _ 20 rfl rfl
          have e21 : b__.eval (.tmp 21) = .int .i64 ((j : Nat) : Int) := hT 5 _ 21 rfl rfl
          have e22 : b__.eval (.tmp 22) = .pointer (some ⟨b2, o2 + (j) * 2, none⟩) := hT 6 _ 22 rfl rfl
          have e23 : b__.eval (.tmp 23) = .agg #[.int .i64 ((y.1 : Nat) : Int), .int .i64 ((y.2 : Nat) : Int)] := hT 7 _ 23 rfl rfl
          have e24 : b__.eval (.tmp 24) = .bool (decide (x ≠ y)) := hT 8 _ 24 rfl rfl
          obtain ⟨vs, hvs, hb⟩ := frame_of hdf hsz hold
          replace e16 : vs 16 = .slice (some ⟨b1, o1, none⟩) M.length c := (hvs 16).symm.trans e16
          replace e17 : vs 17 = .int .i64 ((j : Nat) : Int) := (hvs 17).symm.trans e17
          replace e18 : vs 18 = .pointer (some ⟨b1, o1 + (j) * 2, none⟩) := (hvs 18).symm.trans e18
          replace e19 : vs 19 = .agg #[.int .i64 ((x.1 : Nat) : Int), .int .i64 ((x.2 : Nat) : Int)] := (hvs 19).symm.trans e19
          replace e20 : vs 20 = .slice (some ⟨b2, o2, none⟩) M.length d := (hvs 20).symm.trans e20
          replace e21 : vs 21 = .int .i64 ((j : Nat) : Int) := (hvs 21).symm.trans e21
          replace e22 : vs 22 = .pointer (some ⟨b2, o2 + (j) * 2, none⟩) := (hvs 22).symm.trans e22
          replace e23 : vs 23 = .agg #[.int .i64 ((y.1 : Nat) : Int), .int .i64 ((y.2 : Nat) : Int)] := (hvs 23).symm.trans e23
          replace e24 : vs 24 = .bool (decide (x ≠ y)) := (hvs 24).symm.trans e24
          subst hb
          clear hvs hold hT hdf hsz
          simp only [setAll, Act.put, List.setIfInBounds_toArray, List.set_cons_zero, List.set_cons_succ, List.getElem_toArray, List.getElem_cons_succ, List.getElem_cons_zero]
          rw [e24]
          replace hS := hS.ext hW
          by_cases hxy : x = y
          · have H3 := Lib.hid (HJ2.out hxy)
            rw [decide_eq_false (by simp [hxy])]
            clear hW e16 e17 e18 e19 e20 e21 e22 e23 e24 hxy
            go_wp2_with fail
            exact ⟨⟨j + 1, hlj, by go_num, H3, hS⟩, by simp [intOf]; omega⟩
          · have H3 := Lib.hid (HNE.out hxy)
            rw [decide_eq_true hxy]
            clear hW e16 e17 e18 e19 e20 e21 e22 e23 e24 hxy
            go_wp2_with fail
            go_ret
            exact Ret.mk (congrArg Value.bool (decide_eq_false H3.out).symm) hS.below
      · obtain rfl : j = L.length := by omega
        have H3 := Lib.hid (HE.out HJ.out)
        go_wp2_with (first | ((with_reducible show wpList _ _ _ (⟨_, .binOp _ _ _ _ _, _, _, _, _⟩ :: _) _ _); (first | ((with_reducible show wpList _ _ _ (⟨_, .binOp .lss _ _ _ _, _, _, _, _⟩ :: _) _ _); refine st_lss rfl _ _ _ _ rfl _ _ _ rfl rfl (fun h_ => ?_) (fun h_ => ?_)) | ((with_reducible show wpList _ _ _ (⟨_, .binOp .leq _ _ _ _, _, _, _, _⟩ :: _) _ _); refine st_leq rfl _ _ _ _ rfl _ _ _ rfl rfl (fun h_ => ?_) (fun h_ => ?_)) | ((with_reducible show wpList _ _ _ (⟨_, .binOp .gtr _ _ _ _, _, _, _, _⟩ :: _) _ _); refine st_gtr rfl _ _ _ _ rfl _ _ _ rfl rfl (fun h_ => ?_) (fun h_ => ?_)) | ((with_reducible show wpList _ _ _ (⟨_, .binOp .geq _ _ _ _, _, _, _, _⟩ :: _) _ _); refine st_geq rfl _ _ _ _ rfl _ _ _ rfl rfl (fun h_ => ?_) (fun h_ => ?_)) | ((with_reducible show wpList _ _ _ (⟨_, .binOp .eql _ _ _ _, _, _, _, _⟩ :: _) _ _); refine st_eql rfl _ _ _ _ rfl _ _ _ rfl rfl (fun h_ => ?_) (fun h_ => ?_)) | ((with_reducible show wpList _ _ _ (⟨_, .binOp .neq _ _ _ _, _, _, _, _⟩ :: _) _ _); refine st_neq rfl _ _ _ _ rfl _ _ _ rfl rfl (fun h_ => ?_) (fun h_ => ?_))) <;> go_prune))
        go_ret
        exact Ret.mk (congrArg Value.bool (decide_eq_true H3.out).symm) hS.below
  · have HE : Hid (¬ L = M) := Lib.hid fun e => hlm (by rw [e])
    have hlm2 : ¬ ((L.length : Nat) : Int) = ((M.length : Nat) : Int) := by omega
    go_enter Tryd.func30, Tryd.ntmps30
    go_wp2_with (first | ((with_reducible show wpList _ _ _ (⟨_, .binOp _ _ _ _ _, _, _, _, _⟩ :: _) _ _); (first | ((with_reducible show wpList _ _ _ (⟨_, .binOp .lss _ _ _ _, _, _, _, _⟩ :: _) _ _); refine st_lss rfl _ _ _ _ rfl _ _ _ rfl rfl (fun h_ => ?_) (fun h_ => ?_)) | ((with_reducible show wpList _ _ _ (⟨_, .binOp .leq _ _ _ _, _, _, _, _⟩ :: _) _ _); refine st_leq rfl _ _ _ _ rfl _ _ _ rfl rfl (fun h_ => ?_) (fun h_ => ?_)) | ((with_reducible show wpList _ _ _ (⟨_, .binOp .gtr _ _ _ _, _, _, _, _⟩ :: _) _ _); refine st_gtr rfl _ _ _ _ rfl _ _ _ rfl rfl (fun h_ => ?_) (fun h_ => ?_)) | ((with_reducible show wpList _ _ _ (⟨_, .binOp .geq _ _ _ _, _, _, _, _⟩ :: _) _ _); refine st_geq rfl _ _ _ _ rfl _ _ _ rfl rfl (fun h_ => ?_) (fun h_ => ?_)) | ((with_reducible show wpList _ _ _ (⟨_, .binOp .eql _ _ _ _, _, _, _, _⟩ :: _) _ _); refine st_eql rfl _ _ _ _ rfl _ _ _ rfl rfl (fun h_ => ?_) (fun h_ => ?_)) | ((with_reducible show wpList _ _ _ (⟨_, .binOp .neq _ _ _ _, _, _, _, _⟩ :: _) _ _); refine st_neq rfl _ _ _ _ rfl _ _ _ rfl rfl (fun h_ => ?_) (fun h_ => ?_))) <;> go_prune))
    go_ret
    exact Ret.mk (congrArg Value.bool (decide_eq_false HE.out).symm) hS.below
/-- the roles of a number: its bits from 1 on, as far as k -/
noncomputable def rolesTo (s k : Nat) : Nat := maskOf k fun i => 1 ≤ i ∧ s.testBit i = true
theorem rolesTo_step (s k : Nat) : rolesTo s (k + 1) = if 1 ≤ k ∧ s.testBit k = true then rolesTo s k ||| 2 ^ k else rolesTo s k := mask_ext fun i => by
  split
  · rename_i h
    rw [tb_or, tb_pow, rolesTo, rolesTo, tb_mask, tb_mask]
    constructor
    · rintro ⟨h1, h2⟩
      rcases Nat.lt_or_ge i k with h3 | h3
      · exact .inl ⟨h3, h2⟩
      · exact .inr (by omega)
    · rintro (⟨h1, h2⟩ | rfl)
      · exact ⟨by omega, h2⟩
      · exact ⟨by omega, h⟩
  · rename_i h
    rw [rolesTo, rolesTo, tb_mask, tb_mask]
    constructor
    · rintro ⟨h1, h2⟩
      rcases Nat.lt_or_ge i k with h3 | h3
      · exact ⟨h3, h2⟩
      · obtain rfl : i = k := by omega
        exact absurd h2 h
    · rintro ⟨h1, h2⟩
      exact ⟨by omega, h2⟩
noncomputable def rolesM (s : Nat) : Nat := rolesTo s 64
theorem tb_roles {s i : Nat} : (rolesM s).testBit i = true ↔ i < 64 ∧ 1 ≤ i ∧ s.testBit i = true := tb_mask ..
theorem lset10_any (s : Nat) (hs : s < T64) (w0 : World) : Calls Tryd.prog 36 #[.int .u64 (s : Nat)] w0 (Ret (fun x w' => IsSet w' (w0.heap.size ≤ ·) x (rolesM s)) w0) := by
  have hS := St.start0 (w := w0)
  have H0 := Lib.hid (show ofN [] = rolesTo s 1 by rw [rolesTo_step, if_neg (by omega)]; simp [rolesTo, maskOf, ofN])
  go_enter Tryd.func36, Tryd.ntmps36
  go_wp2_with (first
    | ((with_reducible show wpList _ _ _ (⟨some 2, _, _, _, _, _⟩ :: _) _ _); refine st_allocz hS rfl _ rfl (by kernel_rfl) #[.slice none 0 0] (by kernel_rfl) ?_; clear hS; intro g2 w_ hS; (try simp only [Act.put, Act.eval, List.set_cons_zero, List.set_cons_succ, List.setIfInBounds_toArray, Array.getD_eq_getD_getElem?, List.getElem?_toArray, List.getElem?_cons_succ, List.getElem?_cons_zero, Option.getD_some, Value.cells] at hS))
    | ((with_reducible show wpList _ _ _ (⟨some 3, _, _, _, _, _⟩ :: _) _ _); refine st_allocz hS rfl _ rfl (by kernel_rfl) #[.slice none 0 0] (by kernel_rfl) ?_; clear hS; intro g3 w_ hS; (try simp only [Act.put, Act.eval, List.set_cons_zero, List.set_cons_succ, List.setIfInBounds_toArray, Array.getD_eq_getD_getElem?, List.getElem?_toArray, List.getElem?_cons_succ, List.getElem?_cons_zero, Option.getD_some, Value.cells] at hS))
    | (go_at_call 46; refine (of_any _ [] _ (fun _ => True) Sl.none_).mono ?_; rintro r_ w_ ⟨_, rfl, hM, hb_⟩; rw [H0.out] at hM; obtain ⟨A3, c3, l3, rfl, -⟩ := hM.parts; replace hS := hS.ret hb_ (stable_inter stable_set fun z => w0.heap.size ≤ z) (hM.imp fun z hz _ => ⟨hz, Nat.le_trans hS.size hz⟩); clear hb_ hM)
    | ((with_reducible show wpList _ _ _ (⟨_, .store _ _ _, _, _, _, _⟩ :: _) _ _); (first | (refine st_store hS 0 rfl _ _ _ rfl _ _ rfl rfl _ _ rfl (by kernel_rfl) (by kernel_rfl) (by kernel_rfl) ?_) | (refine st_store hS 1 rfl _ _ _ rfl _ _ rfl rfl _ _ rfl (by kernel_rfl) (by kernel_rfl) (by kernel_rfl) ?_) | (refine st_store hS 2 rfl _ _ _ rfl _ _ rfl rfl _ _ rfl (by kernel_rfl) (by kernel_rfl) (by kernel_rfl) ?_) | (refine st_store hS 3 rfl _ _ _ rfl _ _ rfl rfl _ _ rfl (by kernel_rfl) (by kernel_rfl) (by kernel_rfl) ?_) | (refine st_cstore hS 0 rfl _ _ _ rfl _ _ _ rfl rfl rfl (by first | (simp; done) | (simp; omega) | exact of_decide_eq_true (by kernel_rfl)) rfl (by first | rfl | assumption) (by kernel_rfl) ?_) | (refine st_cstore hS 1 rfl _ _ _ rfl _ _ _ rfl rfl rfl (by first | (simp; done) | (simp; omega) | exact of_decide_eq_true (by kernel_rfl)) rfl (by first | rfl | assumption) (by kernel_rfl) ?_) | (refine st_cstore hS 2 rfl _ _ _ rfl _ _ _ rfl rfl rfl (by first | (simp; done) | (simp; omega) | exact of_decide_eq_true (by kernel_rfl)) rfl (by first | rfl | assumption) (by kernel_rfl) ?_) | (refine st_cstore hS 3 rfl _ _ _ rfl _ _ _ rfl rfl rfl (by first | (simp; done) | (simp; omega) | exact of_decide_eq_true (by kernel_rfl)) rfl (by first | rfl | assumption) (by kernel_rfl) ?_)); clear hS; intro w_ hS; (try simp only [Act.put, Act.eval, List.set_cons_zero, List.set_cons_succ, List.setIfInBounds_toArray, Array.getD_eq_getD_getElem?, List.getElem?_toArray, List.getElem?_cons_succ, List.getElem?_cons_zero, Option.getD_some, Value.cells] at hS)))
  go_loopw [4] (fun i wr => ∃ (k : Nat) (u : Value) (K : (Nat → Prop) → World → Prop), 1 ≤ k ∧ k ≤ 64 ∧ i = .int .i64 (k : Nat) ∧ (∀ D w, K D w → IsSet w (fun z => D z ∧ w0.heap.size ≤ z) (.agg #[u]) (rolesTo s k)) ∧ St w0 wr [.box g3 42 #[u], .box g2 42 #[.slice none 0 0]] K) (fun i _ => 64 - (intOf i).toNat)
  case atStart => exact ⟨1, _, _, by omega, by omega, rfl, fun D w h => h.2, hS⟩
  case round =>
    clear hS
    obtain ⟨k, u, K, hk1, hk2, rfl, kk, hS⟩ := hrel
    obtain ⟨A3, c3, l3, he, -⟩ := (kk _ _ hS.ro).parts
    obtain rfl : u = .slice A3 l3.length c3 := by injection he with he; simpa using he
    clear he
    by_cases hk : k < 64
    · have HSt := Lib.hid (rolesTo_step s k)
      cases hbit : s.testBit k
      · have HE := Lib.hid (HSt.out.trans (if_neg (by simp [hbit])))
        go_wp2_with (first
          | ((with_reducible show wpList _ _ _ (⟨_, .binOp .shr _ _ _ _, _, _, _, _⟩ :: _) _ _); refine st_shrN rfl _ _ _ _ rfl _ _ rfl rfl (by omega) ?_)
          | ((with_reducible show wpList _ _ _ (⟨_, .binOp .rem _ _ _ _, _, _, _, _⟩ :: _) _ _); refine st_rem2 rfl _ _ _ _ rfl _ rfl rfl ?_)
          | ((with_reducible show wpList _ _ _ (⟨some 14, _, _, _, _, _⟩ :: _) _ _); refine st_btest rfl _ _ _ _ rfl _ _ rfl rfl hbit ?_)
          | ((with_reducible show wpList _ _ _ (⟨_, .binOp _ _ _ _ _, _, _, _, _⟩ :: _) _ _); (first | ((with_reducible show wpList _ _ _ (⟨_, .binOp .lss _ _ _ _, _, _, _, _⟩ :: _) _ _); refine st_lss rfl _ _ _ _ rfl _ _ _ rfl rfl (fun h_ => ?_) (fun h_ => ?_)) | ((with_reducible show wpList _ _ _ (⟨_, .binOp .leq _ _ _ _, _, _, _, _⟩ :: _) _ _); refine st_leq rfl _ _ _ _ rfl _ _ _ rfl rfl (fun h_ => ?_) (fun h_ => ?_)) | ((with_reducible show wpList _ _ _ (⟨_, .binOp .gtr _ _ _ _, _, _, _, _⟩ :: _) _ _); refine st_gtr rfl _ _ _ _ rfl _ _ _ rfl rfl (fun h_ => ?_) (fun h_ => ?_)) | ((with_reducible show wpList _ _ _ (⟨_, .binOp .geq _ _ _ _, _, _, _, _⟩ :: _) _ _); refine st_geq rfl _ _ _ _ rfl _ _ _ rfl rfl (fun h_ => ?_) (fun h_ => ?_)) | ((with_reducible show wpList _ _ _ (⟨_, .binOp .eql _ _ _ _, _, _, _, _⟩ :: _) _ _); refine st_eql rfl _ _ _ _ rfl _ _ _ rfl rfl (fun h_ => ?_) (fun h_ => ?_)) | ((with_reducible show wpList _ _ _ (⟨_, .binOp .neq _ _ _ _, _, _, _, _⟩ :: _) _ _); refine st_neq rfl _ _ _ _ rfl _ _ _ rfl rfl (fun h_ => ?_) (fun h_ => ?_))) <;> go_prune))
        exact ⟨⟨k + 1, _, K, by omega, by omega, by go_num, by rw [HE.out]; exact kk, hS⟩, by simp [intOf]; omega⟩
      · have HE := Lib.hid (HSt.out.trans (if_pos ⟨hk1, hbit⟩))
        have HW := Lib.hid (show withN (rolesTo s k) (k : Int) = rolesTo s (k + 1) by rw [withN_nat hk, HE.out])
        go_wp2_with (first
          | ((with_reducible show wpList _ _ _ (⟨_, .binOp .shr _ _ _ _, _, _, _, _⟩ :: _) _ _); refine st_shrN rfl _ _ _ _ rfl _ _ rfl rfl (by omega) ?_)
          | ((with_reducible show wpList _ _ _ (⟨_, .binOp .rem _ _ _ _, _, _, _, _⟩ :: _) _ _); refine st_rem2 rfl _ _ _ _ rfl _ rfl rfl ?_)
          | ((with_reducible show wpList _ _ _ (⟨some 14, _, _, _, _, _⟩ :: _) _ _); refine st_btest rfl _ _ _ _ rfl _ _ rfl rfl hbit ?_)
          | (go_at_call 24; refine (with_any _ _ _ _ _ (kk _ _ hS.ro)).mono ?_; rintro r_ w_ ⟨_, rfl, hM, hb_⟩; rw [HW.out] at hM; obtain ⟨A4, c4, l4, rfl, -⟩ := hM.parts; replace hS := hS.ret2 hb_ (stable_inter stable_set fun z => w0.heap.size ≤ z) (hM.imp fun z hz _ => ⟨hz.imp (fun h => h.1) id, hz.elim (fun h => h.2) fun h => Nat.le_trans hS.size h⟩); clear hb_ hM)
          | ((with_reducible show wpList _ _ _ (⟨_, .load _ _, _, _, _, _⟩ :: _) _ _); first | refine st_load hS 0 rfl _ _ rfl _ rfl _ _ rfl _ Tryd.underlying42 rfl (by kernel_rfl) ?_ | refine st_load hS 1 rfl _ _ rfl _ rfl _ _ rfl _ Tryd.underlying42 rfl (by kernel_rfl) ?_ | refine st_load hS 2 rfl _ _ rfl _ rfl _ _ rfl _ Tryd.underlying42 rfl (by kernel_rfl) ?_ | refine st_load hS 3 rfl _ _ rfl _ rfl _ _ rfl _ Tryd.underlying42 rfl (by kernel_rfl) ?_)
          | ((with_reducible show wpList _ _ _ (⟨_, .store _ _ _, _, _, _, _⟩ :: _) _ _); (first | (refine st_store hS 0 rfl _ _ _ rfl _ _ rfl rfl _ _ rfl (by kernel_rfl) (by kernel_rfl) (by kernel_rfl) ?_) | (refine st_store hS 1 rfl _ _ _ rfl _ _ rfl rfl _ _ rfl (by kernel_rfl) (by kernel_rfl) (by kernel_rfl) ?_) | (refine st_store hS 2 rfl _ _ _ rfl _ _ rfl rfl _ _ rfl (by kernel_rfl) (by kernel_rfl) (by kernel_rfl) ?_) | (refine st_store hS 3 rfl _ _ _ rfl _ _ rfl rfl _ _ rfl (by kernel_rfl) (by kernel_rfl) (by kernel_rfl) ?_) | (refine st_cstore hS 0 rfl _ _ _ rfl _ _ _ rfl rfl rfl (by first | (simp; done) | (simp; omega) | exact of_decide_eq_true (by kernel_rfl)) rfl (by first | rfl | assumption) (by kernel_rfl) ?_) | (refine st_cstore hS 1 rfl _ _ _ rfl _ _ _ rfl rfl rfl (by first | (simp; done) | (simp; omega) | exact of_decide_eq_true (by kernel_rfl)) rfl (by first | rfl | assumption) (by kernel_rfl) ?_) | (refine st_cstore hS 2 rfl _ _ _ rfl _ _ _ rfl rfl rfl (by first | (simp; done) | (simp; omega) | exact of_decide_eq_true (by kernel_rfl)) rfl (by first | rfl | assumption) (by kernel_rfl) ?_) | (refine st_cstore hS 3 rfl _ _ _ rfl _ _ _ rfl rfl rfl (by first | (simp; done) | (simp; omega) | exact of_decide_eq_true (by kernel_rfl)) rfl (by first | rfl | assumption) (by kernel_rfl) ?_)); clear hS; intro w_ hS; (try simp only [Act.put, Act.eval, List.set_cons_zero, List.set_cons_succ, List.setIfInBounds_toArray, Array.getD_eq_getD_getElem?, List.getElem?_toArray, List.getElem?_cons_succ, List.getElem?_cons_zero, Option.getD_some, Value.cells] at hS))
          | ((with_reducible show wpList _ _ _ (⟨_, .binOp _ _ _ _ _, _, _, _, _⟩ :: _) _ _); (first | ((with_reducible show wpList _ _ _ (⟨_, .binOp .lss _ _ _ _, _, _, _, _⟩ :: _) _ _); refine st_lss rfl _ _ _ _ rfl _ _ _ rfl rfl (fun h_ => ?_) (fun h_ => ?_)) | ((with_reducible show wpList _ _ _ (⟨_, .binOp .leq _ _ _ _, _, _, _, _⟩ :: _) _ _); refine st_leq rfl _ _ _ _ rfl _ _ _ rfl rfl (fun h_ => ?_) (fun h_ => ?_)) | ((with_reducible show wpList _ _ _ (⟨_, .binOp .gtr _ _ _ _, _, _, _, _⟩ :: _) _ _); refine st_gtr rfl _ _ _ _ rfl _ _ _ rfl rfl (fun h_ => ?_) (fun h_ => ?_)) | ((with_reducible show wpList _ _ _ (⟨_, .binOp .geq _ _ _ _, _, _, _, _⟩ :: _) _ _); refine st_geq rfl _ _ _ _ rfl _ _ _ rfl rfl (fun h_ => ?_) (fun h_ => ?_)) | ((with_reducible show wpList _ _ _ (⟨_, .binOp .eql _ _ _ _, _, _, _, _⟩ :: _) _ _); refine st_eql rfl _ _ _ _ rfl _ _ _ rfl rfl (fun h_ => ?_) (fun h_ => ?_)) | ((with_reducible show wpList _ _ _ (⟨_, .binOp .neq _ _ _ _, _, _, _, _⟩ :: _) _ _); refine st_neq rfl _ _ _ _ rfl _ _ _ rfl rfl (fun h_ => ?_) (fun h_ => ?_))) <;> go_prune))
        exact ⟨⟨k + 1, _, _, by omega, by omega, by go_num, fun D w h => h.2, hS⟩, by simp [intOf]; omega⟩
    · obtain rfl : k = 64 := by omega
      go_wp2_with (first
        | ((with_reducible show wpList _ _ _ (⟨_, .binOp _ _ _ _ _, _, _, _, _⟩ :: _) _ _); (first | ((with_reducible show wpList _ _ _ (⟨_, .binOp .lss _ _ _ _, _, _, _, _⟩ :: _) _ _); refine st_lss rfl _ _ _ _ rfl _ _ _ rfl rfl (fun h_ => ?_) (fun h_ => ?_)) | ((with_reducible show wpList _ _ _ (⟨_, .binOp .leq _ _ _ _, _, _, _, _⟩ :: _) _ _); refine st_leq rfl _ _ _ _ rfl _ _ _ rfl rfl (fun h_ => ?_) (fun h_ => ?_)) | ((with_reducible show wpList _ _ _ (⟨_, .binOp .gtr _ _ _ _, _, _, _, _⟩ :: _) _ _); refine st_gtr rfl _ _ _ _ rfl _ _ _ rfl rfl (fun h_ => ?_) (fun h_ => ?_)) | ((with_reducible show wpList _ _ _ (⟨_, .binOp .geq _ _ _ _, _, _, _, _⟩ :: _) _ _); refine st_geq rfl _ _ _ _ rfl _ _ _ rfl rfl (fun h_ => ?_) (fun h_ => ?_)) | ((with_reducible show wpList _ _ _ (⟨_, .binOp .eql _ _ _ _, _, _, _, _⟩ :: _) _ _); refine st_eql rfl _ _ _ _ rfl _ _ _ rfl rfl (fun h_ => ?_) (fun h_ => ?_)) | ((with_reducible show wpList _ _ _ (⟨_, .binOp .neq _ _ _ _, _, _, _, _⟩ :: _) _ _); refine st_neq rfl _ _ _ _ rfl _ _ _ rfl rfl (fun h_ => ?_) (fun h_ => ?_))) <;> go_prune)
        | ((with_reducible show wpList _ _ _ (⟨_, .load _ _, _, _, _, _⟩ :: _) _ _); first | refine st_load hS 0 rfl _ _ rfl _ rfl _ _ rfl _ Tryd.underlying42 rfl (by kernel_rfl) ?_ | refine st_load hS 1 rfl _ _ rfl _ rfl _ _ rfl _ Tryd.underlying42 rfl (by kernel_rfl) ?_ | refine st_load hS 2 rfl _ _ rfl _ rfl _ _ rfl _ Tryd.underlying42 rfl (by kernel_rfl) ?_ | refine st_load hS 3 rfl _ _ rfl _ rfl _ _ rfl _ Tryd.underlying42 rfl (by kernel_rfl) ?_)
        | ((with_reducible show wpList _ _ _ (⟨_, .store _ _ _, _, _, _, _⟩ :: _) _ _); (first | (refine st_store hS 0 rfl _ _ _ rfl _ _ rfl rfl _ _ rfl (by kernel_rfl) (by kernel_rfl) (by kernel_rfl) ?_) | (refine st_store hS 1 rfl _ _ _ rfl _ _ rfl rfl _ _ rfl (by kernel_rfl) (by kernel_rfl) (by kernel_rfl) ?_) | (refine st_store hS 2 rfl _ _ _ rfl _ _ rfl rfl _ _ rfl (by kernel_rfl) (by kernel_rfl) (by kernel_rfl) ?_) | (refine st_store hS 3 rfl _ _ _ rfl _ _ rfl rfl _ _ rfl (by kernel_rfl) (by kernel_rfl) (by kernel_rfl) ?_) | (refine st_cstore hS 0 rfl _ _ _ rfl _ _ _ rfl rfl rfl (by first | (simp; done) | (simp; omega) | exact of_decide_eq_true (by kernel_rfl)) rfl (by first | rfl | assumption) (by kernel_rfl) ?_) | (refine st_cstore hS 1 rfl _ _ _ rfl _ _ _ rfl rfl rfl (by first | (simp; done) | (simp; omega) | exact of_decide_eq_true (by kernel_rfl)) rfl (by first | rfl | assumption) (by kernel_rfl) ?_) | (refine st_cstore hS 2 rfl _ _ _ rfl _ _ _ rfl rfl rfl (by first | (simp; done) | (simp; omega) | exact of_decide_eq_true (by kernel_rfl)) rfl (by first | rfl | assumption) (by kernel_rfl) ?_) | (refine st_cstore hS 3 rfl _ _ _ rfl _ _ _ rfl rfl rfl (by first | (simp; done) | (simp; omega) | exact of_decide_eq_true (by kernel_rfl)) rfl (by first | rfl | assumption) (by kernel_rfl) ?_)); clear hS; intro w_ hS; (try simp only [Act.put, Act.eval, List.set_cons_zero, List.set_cons_succ, List.setIfInBounds_toArray, Array.getD_eq_getD_getElem?, List.getElem?_toArray, List.getElem?_cons_succ, List.getElem?_cons_zero, Option.getD_some, Value.cells] at hS)))
      refine ret_cell Tryd.results36 rfl (hS.box 1 rfl) Tryd.underlying42 rfl (by kernel_rfl) rfl ?_
      exact Ret.mk ((kk _ _ hS.ro).imp fun z hz _ => hz.2) hS.below
/-- a link more, of a list of links without cycles -/
theorem LinkP.next {w0 w : World} {F : List Fact} {K : (Nat → Prop) → World → Prop} {L M : List (Nat × Nat)} {x : Nat × Nat} {r : Value} {z : Int} (h : LinkP w0 F K L (x.1 : Nat) (x.2 : Nat) r z w) {j : Nat} (hx : M[j]? = some x) (hL : ∀ u, u ∈ L ↔ u ∈ M.take j) (hN : M.Nodup) (hR : ∀ u ∈ M, (1 ≤ u.1 ∧ u.1 < 64) ∧ 1 ≤ u.2 ∧ u.2 < 64) (hA : Acyc M) :
    z = 0 ∧ ∃ L', HOK L' ∧ (∀ u, u ∈ L' ↔ u ∈ M.take (j + 1)) ∧ St w0 w F fun D w => K D w ∧ IsH w D r L' := by
  have hm := List.mem_of_getElem? hx
  have h1 := hR x hm
  have hne := hA.ne hm
  have htk : ∀ u, u ∈ M.take (j + 1) ↔ u ∈ L ++ [x] := fun u => by
    rw [List.take_add_one, hx, List.mem_append, List.mem_append, hL]; simp
  rcases h with ⟨h, _⟩ | ⟨a, b, ha, hb, _, _, _, h⟩
  · exact absurd ⟨⟨by omega, by omega⟩, ⟨by omega, by omega⟩, by omega⟩ h
  · obtain rfl : x = (a, b) := Prod.ext (by show x.1 = a; omega) (by show x.2 = b; omega)
    rcases h with ⟨h, _⟩ | ⟨_, h, _⟩ | ⟨_, hz, L', h3, h4, h5⟩
    · exfalso
      obtain ⟨i, hi, e⟩ := List.getElem_of_mem ((hL _).1 h)
      rw [List.length_take] at hi
      obtain ⟨hj, ej⟩ := List.getElem?_eq_some_iff.1 hx
      rw [List.getElem_take] at e
      exact List.pairwise_iff_getElem.1 hN i j (by omega) hj (by omega) (e.trans ej.symm)
    · exact absurd (hA.sub fun u hu => List.mem_of_mem_take ((htk u).2 hu)) h
    · exact ⟨hz, L', h3, fun u => (h4 u).trans (htk u).symm, h5⟩
end Go.Proofs.YtmlkgaiphpimiaaDoor
namespace Go.Proofs.YtmlkgaiphpimiaaDoor
open Go.RowKit
attribute [local go_sem ↓] Go.wp_at_zero Go.wp_at_succ
set_option maxRecDepth 20000
set_option exponentiation.threshold 5000

theorem nodup_le : ∀ {T S : List (Nat × Nat)}, T.Nodup → (∀ y ∈ T, y ∈ S) → T.length ≤ S.length
  | [], _, _, _ => by simp
  | t :: T, S, hT, hs => by
    have hT := List.nodup_cons.1 hT
    have ht := hs t (List.mem_cons_self ..)
    have := nodup_le (T := T) (S := S.erase t) hT.2 fun y hy => (List.mem_erase_of_ne (fun e => hT.1 (by rw [← e]; exact hy))).2 (hs y (List.mem_cons_of_mem _ hy))
    rw [List.length_erase_of_mem ht] at this
    have := List.length_pos_of_mem ht
    rw [List.length_cons]
    omega
/-- some of the links M, as a hierarchy has them -/
def Part (M : List (Nat × Nat)) (j : Nat) (L : List (Nat × Nat)) : Prop := HOK L ∧ ∀ u, u ∈ L ↔ u ∈ M.take j
theorem Part.len {M L : List (Nat × Nat)} {j : Nat} (h : Part M j L) : L.length ≤ M.length := nodup_le h.1.asc.nodup fun y hy => List.mem_of_mem_take ((h.2 y).1 hy)
theorem Part.full {M L : List (Nat × Nat)} (h : Part M M.length L) (hM : Asc M) : L = M := Asc.uniq h.1.asc hM fun u => by rw [h.2, List.take_length]
set_option maxHeartbeats 1000000 in
theorem lmake10_any {w0 w : World} {F : List Fact} {K : (Nat → Prop) → World → Prop} (x : Nat) (hx : x < T64) (hS : St w0 w F K) (kt : ∀ D w, K D w → DTab w ∧ D 0) :
    Calls Tryd.prog 14 #[.int .u64 (x : Nat)] w fun e w' => ∃ (p v : Value) (L : List (Nat × Nat)), e = .returned (.tuple #[p, v]) ∧ HOK L ∧ Six L ∧ L.length ≤ 36 ∧ St w0 w' F fun D w => (K D w ∧ Sl w D 2 v L.length (pcells L)) ∧ IsH w D p L := by
  have HX := Lib.hid hx
  have KSt := hS.stable
  clear hx
  go_enter Tryd.func14, Tryd.ntmps14
  go_wp2_with (first
    | (go_at_call 54; refine (rlinks_any x HX.out _).mono ?_; rintro e w_ ⟨v, L, rfl, hH, h6, hl, hs⟩; replace hH := Lib.hid hH; replace h6 := Lib.hid h6; replace hS := (hS.new hs.below (.own v 50 2 L.length (pcells L)) (hs.own 0 rfl)).freeze 0 (by decide) rfl; have KS1 := hS.stable; obtain ⟨A, c, rfl, _, _⟩ := own_shp (hs.own 0 rfl); clear hs)
    | (go_at_call 53; refine (hnew_any hS (fun D w h => kt D w h.1)).mono ?_; rintro e w_ ⟨p, rfl, hS⟩))
  obtain ⟨KX, k1, kp, KF, KS, hS2⟩ : ∃ KX : (Nat → Prop) → World → Prop, (∀ D w, KX D w → K D w) ∧ (∀ D w, KX D w → Sl w D 2 (.slice A L.length c) L.length (pcells L)) ∧ (∀ D w, KX D w → K D w ∧ Sl w D 2 (.slice A L.length c) L.length (pcells L)) ∧ Stable KX ∧ St w0 w_ F fun D w => KX D w ∧ IsH w D p [] := ⟨_, fun _ _ h => h.1, fun _ _ h => h.2, fun _ _ h => h, KS1, hS⟩
  clear hS KS1
  have hS := hS2
  clear hS2
  have HNX : Hid (∀ (j : Nat) (x : Nat × Nat) (L' : List (Nat × Nat)), L[j]? = some x → Part L j L' → ∀ (F : List Fact) (K : (Nat → Prop) → World → Prop) (w : World) (r : Value) (z : Int), LinkP w0 F K L' (x.1 : Nat) (x.2 : Nat) r z w → z = 0 ∧ ∃ L'', Part L (j + 1) L'' ∧ St w0 w F fun D w => K D w ∧ IsH w D r L'') := Lib.hid fun j x L' hx hP F K w r z h => by
    obtain ⟨h1, L'', h2, h3, h4⟩ := h.next hx hP.2 hH.out.asc.nodup hH.out.role hH.out.acyc
    exact ⟨h1, L'', ⟨h2, h3⟩, h4⟩
  have HLF : Hid (∀ L', Part L L.length L' → L' = L) := Lib.hid fun L' h => h.full hH.out.asc
  have KSF : Stable fun D w => K D w ∧ Sl w D 2 (.slice A L.length c) L.length (pcells L) := KSt.and (stable_sl (by decide))
  have hP0 : Part L 0 [] := ⟨HOK.nil, by simp⟩
  go_loopw [5, 15] (fun v i wr => ∃ (j : Nat) (p : Value) (L' : List (Nat × Nat)), i = .int .i64 (j : Nat) ∧ p = v ∧ j ≤ L.length ∧ Hid (Part L j L') ∧ St w0 wr F fun D w => KX D w ∧ IsH w D p L') (fun _ i _ => L.length - (intOf i).toNat)
  case atStart => exact ⟨0, p, [], rfl, rfl, by omega, Lib.hid hP0, hS⟩
  case round =>
    clear hS hP0
    obtain ⟨j, p, L', rfl, rfl, hj, HP, hS⟩ := hrel
    by_cases hlj : j < L.length
    · obtain ⟨f1, f2⟩ := pcells_at L j hlj
      have HNY := Lib.hid (HNX.out j _ L' (getD_at (0, 0) hlj) HP.out)
      have HLL : Hid (L'.length ≤ 900000) := Lib.hid (by have := HP.out.len; omega)
      generalize L.getD j (0, 0) = z at *
      obtain ⟨za, zb⟩ := z
      dsimp only at f1 f2 HNY
      have kp2 : ∀ D w, (KX D w ∧ IsH w D p L') → Sl w D 2 (.slice A L.length c) L.length (pcells L) := fun D w h => kp D w h.1
      go_wp2_with (first
        | ((with_reducible show wpList _ _ _ (⟨_, .binOp _ _ _ _ _, _, _, _, _⟩ :: _) _ _); (first | ((with_reducible show wpList _ _ _ (⟨_, .binOp .lss _ _ _ _, _, _, _, _⟩ :: _) _ _); refine st_lss rfl _ _ _ _ rfl _ _ _ rfl rfl (fun h_ => ?_) (fun h_ => ?_)) | ((with_reducible show wpList _ _ _ (⟨_, .binOp .leq _ _ _ _, _, _, _, _⟩ :: _) _ _); refine st_leq rfl _ _ _ _ rfl _ _ _ rfl rfl (fun h_ => ?_) (fun h_ => ?_)) | ((with_reducible show wpList _ _ _ (⟨_, .binOp .gtr _ _ _ _, _, _, _, _⟩ :: _) _ _); refine st_gtr rfl _ _ _ _ rfl _ _ _ rfl rfl (fun h_ => ?_) (fun h_ => ?_)) | ((with_reducible show wpList _ _ _ (⟨_, .binOp .geq _ _ _ _, _, _, _, _⟩ :: _) _ _); refine st_geq rfl _ _ _ _ rfl _ _ _ rfl rfl (fun h_ => ?_) (fun h_ => ?_)) | ((with_reducible show wpList _ _ _ (⟨_, .binOp .eql _ _ _ _, _, _, _, _⟩ :: _) _ _); refine st_eql rfl _ _ _ _ rfl _ _ _ rfl rfl (fun h_ => ?_) (fun h_ => ?_)) | ((with_reducible show wpList _ _ _ (⟨_, .binOp .neq _ _ _ _, _, _, _, _⟩ :: _) _ _); refine st_neq rfl _ _ _ _ rfl _ _ _ rfl rfl (fun h_ => ?_) (fun h_ => ?_))) <;> go_prune)
        | ((with_reducible show wpList _ _ _ (⟨_, .indexAddr _ _ _, _, _, _, _⟩ :: _) _ _); refine st_iaddr2 hS rfl _ _ _ rfl _ rfl rfl (by assumption) Tryd.underlying25 (by kernel_rfl) (by first | assumption | omega) _ _ (by assumption) (by assumption) ?_; intro b_ j_ hc0_ hc1_)
        | ((with_reducible show wpList _ _ _ (⟨some 7, _, _, _, _, _⟩ :: _) _ _); refine st_alloc hS rfl _ rfl (by kernel_rfl) ?_; clear hS; intro g4 w_ hS; (try simp only [Act.put, Act.eval, List.set_cons_zero, List.set_cons_succ, List.setIfInBounds_toArray, Array.getD_eq_getD_getElem?, List.getElem?_toArray, List.getElem?_cons_succ, List.getElem?_cons_zero, Option.getD_some, Value.cells] at hS))
        | ((with_reducible show wpList _ _ _ (⟨_, .store _ _ _, _, _, _, _⟩ :: _) _ _); (first | (refine st_store hS 0 rfl _ _ _ rfl _ _ rfl rfl _ _ rfl (by kernel_rfl) (by kernel_rfl) (by kernel_rfl) ?_) | (refine st_store hS 1 rfl _ _ _ rfl _ _ rfl rfl _ _ rfl (by kernel_rfl) (by kernel_rfl) (by kernel_rfl) ?_) | (refine st_store hS 2 rfl _ _ _ rfl _ _ rfl rfl _ _ rfl (by kernel_rfl) (by kernel_rfl) (by kernel_rfl) ?_) | (refine st_store hS 3 rfl _ _ _ rfl _ _ rfl rfl _ _ rfl (by kernel_rfl) (by kernel_rfl) (by kernel_rfl) ?_) | (refine st_cstore hS 0 rfl _ _ _ rfl _ _ _ rfl rfl rfl (by first | (simp; done) | (simp; omega) | exact of_decide_eq_true (by kernel_rfl)) rfl (by first | rfl | assumption) (by kernel_rfl) ?_) | (refine st_cstore hS 1 rfl _ _ _ rfl _ _ _ rfl rfl rfl (by first | (simp; done) | (simp; omega) | exact of_decide_eq_true (by kernel_rfl)) rfl (by first | rfl | assumption) (by kernel_rfl) ?_) | (refine st_cstore hS 2 rfl _ _ _ rfl _ _ _ rfl rfl rfl (by first | (simp; done) | (simp; omega) | exact of_decide_eq_true (by kernel_rfl)) rfl (by first | rfl | assumption) (by kernel_rfl) ?_) | (refine st_cstore hS 3 rfl _ _ _ rfl _ _ _ rfl rfl rfl (by first | (simp; done) | (simp; omega) | exact of_decide_eq_true (by kernel_rfl)) rfl (by first | rfl | assumption) (by kernel_rfl) ?_)); clear hS; intro w_ hS; (try simp only [Act.put, Act.eval, List.set_cons_zero, List.set_cons_succ, List.setIfInBounds_toArray, Array.getD_eq_getD_getElem?, List.getElem?_toArray, List.getElem?_cons_succ, List.getElem?_cons_zero, Option.getD_some, Value.cells] at hS))
        | (go_at_call 44; refine (hlink_any p L' (za : Nat) (zb : Nat) HP.out.1 HLL.out hS (fun D w h => h.2) (fun D w h => kt D w (k1 D w h.1))).mono ?_; rintro e w_ ⟨r, z, rfl, hP⟩; obtain ⟨rfl, L'', hP2, hS⟩ := HNY.out _ _ _ _ _ hP; replace hP2 := Lib.hid hP2; clear hP)
        | ((with_reducible show wpList _ _ _ (⟨_, .load _ _, _, _, _, _⟩ :: _) _ _); first | (refine st_cell hS 0 rfl _ _ rfl _ _ rfl _ _ rfl (by decide +kernel) _ (by first | assumption | rfl) ?_) | (refine st_cell hS 1 rfl _ _ rfl _ _ rfl _ _ rfl (by decide +kernel) _ (by first | assumption | rfl) ?_) | (refine st_cell hS 2 rfl _ _ rfl _ _ rfl _ _ rfl (by decide +kernel) _ (by first | assumption | rfl) ?_) | (refine st_cell hS 3 rfl _ _ rfl _ _ rfl _ _ rfl (by decide +kernel) _ (by first | assumption | rfl) ?_) | (refine st_cell hS 4 rfl _ _ rfl _ _ rfl _ _ rfl (by decide +kernel) _ (by first | assumption | rfl) ?_) | (refine st_cell hS 5 rfl _ _ rfl _ _ rfl _ _ rfl (by decide +kernel) _ (by first | assumption | rfl) ?_) | (refine st_cell hS 6 rfl _ _ rfl _ _ rfl _ _ rfl (by decide +kernel) _ (by first | assumption | rfl) ?_) | (refine st_cell hS 7 rfl _ _ rfl _ _ rfl _ _ rfl (by decide +kernel) _ (by first | assumption | rfl) ?_)))
      exact ⟨⟨j + 1, r, L'', by go_num, rfl, hlj, hP2, (hS.sub (List.sublist_cons_self _ _)).mono (KS.and stable_isH) fun D w h => ⟨h.1.1, h.2⟩⟩, by simp [intOf]; omega⟩
    · obtain rfl : j = L.length := by omega
      rw [HLF.out _ HP.out] at hS
      go_wp2_with (first | ((with_reducible show wpList _ _ _ (⟨_, .binOp _ _ _ _ _, _, _, _, _⟩ :: _) _ _); (first | ((with_reducible show wpList _ _ _ (⟨_, .binOp .lss _ _ _ _, _, _, _, _⟩ :: _) _ _); refine st_lss rfl _ _ _ _ rfl _ _ _ rfl rfl (fun h_ => ?_) (fun h_ => ?_)) | ((with_reducible show wpList _ _ _ (⟨_, .binOp .leq _ _ _ _, _, _, _, _⟩ :: _) _ _); refine st_leq rfl _ _ _ _ rfl _ _ _ rfl rfl (fun h_ => ?_) (fun h_ => ?_)) | ((with_reducible show wpList _ _ _ (⟨_, .binOp .gtr _ _ _ _, _, _, _, _⟩ :: _) _ _); refine st_gtr rfl _ _ _ _ rfl _ _ _ rfl rfl (fun h_ => ?_) (fun h_ => ?_)) | ((with_reducible show wpList _ _ _ (⟨_, .binOp .geq _ _ _ _, _, _, _, _⟩ :: _) _ _); refine st_geq rfl _ _ _ _ rfl _ _ _ rfl rfl (fun h_ => ?_) (fun h_ => ?_)) | ((with_reducible show wpList _ _ _ (⟨_, .binOp .eql _ _ _ _, _, _, _, _⟩ :: _) _ _); refine st_eql rfl _ _ _ _ rfl _ _ _ rfl rfl (fun h_ => ?_) (fun h_ => ?_)) | ((with_reducible show wpList _ _ _ (⟨_, .binOp .neq _ _ _ _, _, _, _, _⟩ :: _) _ _); refine st_neq rfl _ _ _ _ rfl _ _ _ rfl rfl (fun h_ => ?_) (fun h_ => ?_))) <;> go_prune))
      go_ret2

      exact ⟨_, _, rfl, _, hH.out, h6.out, hl, hS.mono (KSF.and stable_isH) fun D w h => ⟨KF D w h.1, h.2⟩⟩
end Go.Proofs.YtmlkgaiphpimiaaDoor
namespace Go.Proofs.YtmlkgaiphpimiaaDoor
open Go.RowKit
attribute [local go_sem ↓] Go.wp_at_zero Go.wp_at_succ
set_option maxRecDepth 20000
set_option exponentiation.threshold 5000

/-- '[]T{x, ..}', perhaps guarded: a row of the call's own -/
theorem st_litw {P : Program} {ops : Array Oper} {rest : List Oper} {o : Oper} {a : Act} {Q : Exit → Act → World → Prop} {w0 w : World} {F : List Fact} {K : (Nat → Prop) → World → Prop} (h : St w0 w F K) (hg : Region.wanted o (yielded ops a.tmps) = true) (t e : TypeId) (len : Nat) (parts : Array (Nat × Operand)) (ho : o.op = .buildSlice t len parts) (ht : P.underlying t = some (.slice e)) (cells : Array Value)
    (hb : builtSlice P e len (parts.map fun (i, x) => (i, a.eval x)).toList = some cells) (size : Nat) (hs : cells.size = len * size) (hm : len ≤ 1000000000000)
    (hk : ∀ g w', St w0 w' (.own (.slice (some ⟨g, 0, none⟩) len len) e size len cells.toList :: F) K → wpList P ops Q rest (a.put o.dst (.slice (some ⟨g, 0, none⟩) len len)) w') : wpList P ops Q (o :: rest) a w :=
  BigFrame.wpList_want hg fun _ hK => opw_slice ho ht rfl hb fun w' hX hB => hK _ _ (hk _ w' (h.new hB _ ⟨by simpa using hs, .inr ⟨w.heap.size, len, cells, rfl, Nat.le_refl _, hX, Nat.le_refl _, by unfold maxLen; omega, hs, by rw [← hs, show cells.size = cells.toList.length by simp, List.take_length]⟩⟩))
def T3 : List (Nat × Nat) := [(1, 2), (1, 3), (2, 3)]
def M3 : List (Nat × Nat) := [(1, 2), (2, 3), (1, 3)]
/-- links that lead upwards: no cycle -/
theorem acyc_up {L : List (Nat × Nat)} (h : ∀ x ∈ L, x.1 < x.2) : Acyc L := by
  have key : ∀ {a b : Nat}, TC L a b → a < b := by
    intro a b k
    induction k with
    | one h1 => exact h _ h1
    | cons h1 _ ih => exact Nat.lt_trans (h _ h1) ih
  exact fun a ha => Nat.lt_irrefl _ (key ha)
theorem t3_hok : HOK T3 := by
  refine ⟨?_, ?_, acyc_up ?_⟩
  · unfold Asc T3 plt; simp
  · unfold T3; simp
  · unfold T3; simp
theorem m3_acyc : Acyc M3 := acyc_up (by unfold M3; simp)
theorem t3_part {L : List (Nat × Nat)} (h : Part M3 3 L) : L = T3 := Asc.uniq h.1.asc t3_hok.asc fun u => by
  rw [h.2]; unfold M3 T3; simp; constructor
  · rintro (h | h | h) <;> simp [h]
  · rintro (h | h | h) <;> simp [h]
theorem t3_chain {l : List Nat} {c : Bool} (h : ChainP T3 1 3 l c) : l = [1, 3] ∧ c = true := by
  have h13 : (1, 3) ∈ T3 := by unfold T3; simp
  rcases h with ⟨_, _, h⟩ | ⟨h, i, j, d, e1, e2, _, _, hd, hl⟩
  · exact absurd ⟨1, 3, rfl, rfl, by omega, by omega, .inr (.one h13)⟩ h
  · obtain rfl : i = 1 := by omega
    obtain rfl : j = 3 := by omega
    have h1 : isDist T3 3 1 1 := ⟨⟨3, h13, rfl⟩, fun k hk hw => by
      obtain rfl : k = 0 := by omega
      exact absurd (show 1 = 3 from hw) (by decide)⟩
    obtain rfl := isDist_uniq hd h1
    refine ⟨?_, h⟩
    rw [hl, gp_first (L := T3) (b := 3) (v := 1) (d := 0) (t := 1) (x := (1, 3)) rfl rfl (show isDist T3 3 3 0 from ⟨rfl, fun k hk => absurd hk (Nat.not_lt_zero _)⟩) fun s hs y hy hc => ?_]
    · rfl
    · obtain rfl : s = 0 := by omega
      cases hy
      exact absurd (show 2 = 3 from hc.2.1) (by decide)
theorem t3_link {w0 w : World} {F : List Fact} {K : (Nat → Prop) → World → Prop} {r : Value} {z : Int} (h : LinkP w0 F K T3 3 1 r z w) : r = .pointer none ∧ z = 16 ∧ St w0 w F K := by
  rcases h with ⟨h, _⟩ | ⟨x, y, hx, hy, _, _, _, h⟩
  · exact absurd ⟨⟨by omega, by omega⟩, ⟨by omega, by omega⟩, by omega⟩ h
  · obtain rfl : x = 3 := by omega
    obtain rfl : y = 1 := by omega
    rcases h with ⟨h, _⟩ | ⟨_, _, h1, h2, h3⟩ | ⟨_, _, L', h1, h2, _⟩
    · exact absurd h (by unfold T3; decide)
    · exact ⟨h1, h2, h3⟩
    · exfalso
      have h3 : (3, 1) ∈ L' := (h2 _).2 (by simp)
      have h4 : (1, 3) ∈ L' := (h2 _).2 (by unfold T3; simp)
      exact h1.acyc 3 (.cons h3 (.one h4))
theorem t3_tc {a b : Nat} : TC T3 a b ↔ (a, b) ∈ T3 := by
  constructor
  · intro h
    induction h with
    | one h => exact h
    | @cons a b c h _ ih =>
      unfold T3 at *
      simp only [List.mem_cons, Prod.mk.injEq, List.not_mem_nil, or_false] at *
      omega
  · exact .one
theorem t3_jun : junM T3 1 = 14 := mask_ext fun i => by
  rw [tb_jun t3_hok.inr (by omega), t3_tc]
  constructor
  · rintro (rfl | h)
    · decide
    · unfold T3 at h
      simp only [List.mem_cons, Prod.mk.injEq, List.not_mem_nil, or_false] at h
      have : i = 2 ∨ i = 3 := by omega
      rcases this with rfl | rfl <;> decide
  · intro h
    have hi : i < 4 := by
      rcases Nat.lt_or_ge i 4 with h1 | h1
      · exact h1
      · rw [Nat.testBit_lt_two_pow (Nat.lt_of_lt_of_le (show 14 < 2 ^ 4 by decide) (Nat.pow_le_pow_right (by decide) h1))] at h; cases h
    have : i = 0 ∨ i = 1 ∨ i = 2 ∨ i = 3 := by omega
    rcases this with rfl | rfl | rfl | rfl
    · revert h; decide
    · exact .inl rfl
    · exact .inr (by unfold T3; decide)
    · exact .inr (by unfold T3; decide)
theorem t3_of : ofN [1, 2, 3] = 14 := by decide
theorem tc_unl {L : List (Nat × Nat)} {z : Nat × Nat} {a b : Nat} (h : TC (unl L z) a b) : TC L a b := h.mono fun x hx => (mem_unl.1 hx).1
theorem t3_red : redL T3 T3 = [(1, 3)] := by
  have h1 : ¬ TC (unl T3 (1, 2)) 1 2 := fun h => by
    obtain ⟨y, hy, hk⟩ := h.first
    obtain ⟨hy1, hy2⟩ := mem_unl.1 hy
    rcases hk with rfl | hk
    · exact hy2 rfl
    · have := t3_tc.1 (tc_unl hk)
      unfold T3 at hy1 this
      simp only [List.mem_cons, Prod.mk.injEq, List.not_mem_nil, or_false] at hy1 this
      omega
  have h2 : TC (unl T3 (1, 3)) 1 3 := .cons (b := 2) (mem_unl.2 ⟨by unfold T3; simp, by decide⟩) (.one (mem_unl.2 ⟨by unfold T3; simp, by decide⟩))
  have h3 : ¬ TC (unl T3 (2, 3)) 2 3 := fun h => by
    obtain ⟨y, hy, hk⟩ := h.first
    obtain ⟨hy1, hy2⟩ := mem_unl.1 hy
    unfold T3 at hy1
    simp only [List.mem_cons, Prod.mk.injEq, List.not_mem_nil, or_false] at hy1
    have : y = 3 := by omega
    subst this
    exact hy2 rfl
  unfold redL
  rw [show T3.filter _ = (T3.filter fun x => decide (x = (1, 3))) from List.filter_congr fun x hx => ?_]
  · unfold T3; decide
  · unfold T3 at hx
    simp only [List.mem_cons, List.not_mem_nil, or_false] at hx
    rcases hx with rfl | rfl | rfl
    · simpa using h1
    · simpa using h2
    · simpa using h3
set_option maxHeartbeats 2000000 in
theorem lawake10_any {w0 w : World} {F : List Fact} {K : (Nat → Prop) → World → Prop} (hS : St w0 w F K) (kt : ∀ D w, K D w → DTab w ∧ D 0) :
    Calls Tryd.prog 13 #[] w fun e w' => e = .returned (.bool true) ∧ St w0 w' F K := by
  have KSt := hS.stable
  go_enter Tryd.func13, Tryd.ntmps13
  go_wp2_with (first
    | (go_at_call 53; refine (hnew_any hS kt).mono ?_; rintro e w_ ⟨p, rfl, hS⟩)
    | ((with_reducible show wpList _ _ _ (⟨some 14, _, _, _, _, _⟩ :: _) _ _); refine st_litown hS rfl _ _ _ _ rfl Tryd.underlying25 #[.int .i64 1, .int .i64 2, .int .i64 2, .int .i64 3, .int .i64 1, .int .i64 3] (by kernel_rfl) 2 rfl (by decide) ?_; clear hS; intro gl w_ hS; replace hS := hS.freeze 0 (by decide) rfl))
  obtain ⟨KX, k1, kp, KS, hS2⟩ : ∃ KX : (Nat → Prop) → World → Prop, (∀ D w, KX D w → K D w) ∧ (∀ D w, KX D w → Sl w D 2 (.slice (some ⟨gl, 0, none⟩) 3 3) 3 (pcells M3)) ∧ Stable KX ∧ St w0 w_ F fun D w => KX D w ∧ IsH w D p [] := ⟨fun D w => K D w ∧ Sl w D 2 (.slice (some ⟨gl, 0, none⟩) 3 3) 3 (pcells M3), fun _ _ h => h.1, fun _ _ h => h.2, KSt.and (stable_sl (by decide)), hS.mono ((KSt.and (stable_sl (by decide))).and stable_isH) fun D w h => ⟨⟨h.1.1, h.2⟩, h.1.2⟩⟩
  clear hS
  have hS := hS2
  clear hS2
  have HNX : Hid (∀ (j : Nat) (x : Nat × Nat) (L' : List (Nat × Nat)), M3[j]? = some x → Part M3 j L' → ∀ (F : List Fact) (K : (Nat → Prop) → World → Prop) (w : World) (r : Value) (z : Int), LinkP w0 F K L' (x.1 : Nat) (x.2 : Nat) r z w → z = 0 ∧ ∃ L'', Part M3 (j + 1) L'' ∧ St w0 w F fun D w => K D w ∧ IsH w D r L'') := Lib.hid fun j x L' hx hP F K w r z h => by
    obtain ⟨h1, L'', h2, h3, h4⟩ := h.next hx hP.2 (by unfold M3; decide) (by unfold M3; simp) m3_acyc
    exact ⟨h1, L'', ⟨h2, h3⟩, h4⟩
  have hP0 : Part M3 0 [] := ⟨HOK.nil, by simp⟩
  go_loopw [1, 16] (fun v i wr => ∃ (j : Nat) (p : Value) (L' : List (Nat × Nat)), i = .int .i64 (j : Nat) ∧ p = v ∧ j ≤ 3 ∧ Hid (Part M3 j L') ∧ St w0 wr F fun D w => KX D w ∧ IsH w D p L') (fun _ i _ => 3 - (intOf i).toNat)
  case atStart => exact ⟨0, p, [], rfl, rfl, by omega, Lib.hid hP0, hS⟩
  case round =>
    clear hS hP0
    obtain ⟨j, p, L', rfl, rfl, hj, HP, hS⟩ := hrel
    by_cases hlj : j < 3
    · obtain ⟨f1, f2⟩ := pcells_at M3 j hlj
      have HNY := Lib.hid (HNX.out j _ L' (getD_at (0, 0) hlj) HP.out)
      have HLL : Hid (L'.length ≤ 900000) := Lib.hid (by have := HP.out.len; have e : M3.length = 3 := rfl; omega)
      generalize M3.getD j (0, 0) = z at *
      obtain ⟨za, zb⟩ := z
      dsimp only at f1 f2 HNY
      have kp2 : ∀ D w, (KX D w ∧ IsH w D p L') → Sl w D 2 (.slice (some ⟨gl, 0, none⟩) 3 3) 3 (pcells M3) := fun D w h => kp D w h.1
      go_wp2_with (first
        | ((with_reducible show wpList _ _ _ (⟨_, .binOp _ _ _ _ _, _, _, _, _⟩ :: _) _ _); (first | ((with_reducible show wpList _ _ _ (⟨_, .binOp .lss _ _ _ _, _, _, _, _⟩ :: _) _ _); refine st_lss rfl _ _ _ _ rfl _ _ _ rfl rfl (fun h_ => ?_) (fun h_ => ?_)) | ((with_reducible show wpList _ _ _ (⟨_, .binOp .leq _ _ _ _, _, _, _, _⟩ :: _) _ _); refine st_leq rfl _ _ _ _ rfl _ _ _ rfl rfl (fun h_ => ?_) (fun h_ => ?_)) | ((with_reducible show wpList _ _ _ (⟨_, .binOp .gtr _ _ _ _, _, _, _, _⟩ :: _) _ _); refine st_gtr rfl _ _ _ _ rfl _ _ _ rfl rfl (fun h_ => ?_) (fun h_ => ?_)) | ((with_reducible show wpList _ _ _ (⟨_, .binOp .geq _ _ _ _, _, _, _, _⟩ :: _) _ _); refine st_geq rfl _ _ _ _ rfl _ _ _ rfl rfl (fun h_ => ?_) (fun h_ => ?_)) | ((with_reducible show wpList _ _ _ (⟨_, .binOp .eql _ _ _ _, _, _, _, _⟩ :: _) _ _); refine st_eql rfl _ _ _ _ rfl _ _ _ rfl rfl (fun h_ => ?_) (fun h_ => ?_)) | ((with_reducible show wpList _ _ _ (⟨_, .binOp .neq _ _ _ _, _, _, _, _⟩ :: _) _ _); refine st_neq rfl _ _ _ _ rfl _ _ _ rfl rfl (fun h_ => ?_) (fun h_ => ?_))) <;> go_prune)
        | ((with_reducible show wpList _ _ _ (⟨_, .indexAddr _ _ _, _, _, _, _⟩ :: _) _ _); refine st_iaddr2 hS rfl _ _ _ rfl _ rfl rfl (by assumption) Tryd.underlying25 (by kernel_rfl) (by first | assumption | omega) _ _ (by assumption) (by assumption) ?_; intro b_ j_ hc0_ hc1_)
        | ((with_reducible show wpList _ _ _ (⟨some 3, _, _, _, _, _⟩ :: _) _ _); refine st_alloc hS rfl _ rfl (by kernel_rfl) ?_; clear hS; intro g4 w_ hS; (try simp only [Act.put, Act.eval, List.set_cons_zero, List.set_cons_succ, List.setIfInBounds_toArray, Array.getD_eq_getD_getElem?, List.getElem?_toArray, List.getElem?_cons_succ, List.getElem?_cons_zero, Option.getD_some, Value.cells] at hS))
        | ((with_reducible show wpList _ _ _ (⟨_, .store _ _ _, _, _, _, _⟩ :: _) _ _); (first | (refine st_store hS 0 rfl _ _ _ rfl _ _ rfl rfl _ _ rfl (by kernel_rfl) (by kernel_rfl) (by kernel_rfl) ?_) | (refine st_store hS 1 rfl _ _ _ rfl _ _ rfl rfl _ _ rfl (by kernel_rfl) (by kernel_rfl) (by kernel_rfl) ?_) | (refine st_store hS 2 rfl _ _ _ rfl _ _ rfl rfl _ _ rfl (by kernel_rfl) (by kernel_rfl) (by kernel_rfl) ?_) | (refine st_store hS 3 rfl _ _ _ rfl _ _ rfl rfl _ _ rfl (by kernel_rfl) (by kernel_rfl) (by kernel_rfl) ?_) | (refine st_cstore hS 0 rfl _ _ _ rfl _ _ _ rfl rfl rfl (by first | (simp; done) | (simp; omega) | exact of_decide_eq_true (by kernel_rfl)) rfl (by first | rfl | assumption) (by kernel_rfl) ?_) | (refine st_cstore hS 1 rfl _ _ _ rfl _ _ _ rfl rfl rfl (by first | (simp; done) | (simp; omega) | exact of_decide_eq_true (by kernel_rfl)) rfl (by first | rfl | assumption) (by kernel_rfl) ?_) | (refine st_cstore hS 2 rfl _ _ _ rfl _ _ _ rfl rfl rfl (by first | (simp; done) | (simp; omega) | exact of_decide_eq_true (by kernel_rfl)) rfl (by first | rfl | assumption) (by kernel_rfl) ?_) | (refine st_cstore hS 3 rfl _ _ _ rfl _ _ _ rfl rfl rfl (by first | (simp; done) | (simp; omega) | exact of_decide_eq_true (by kernel_rfl)) rfl (by first | rfl | assumption) (by kernel_rfl) ?_)); clear hS; intro w_ hS; (try simp only [Act.put, Act.eval, List.set_cons_zero, List.set_cons_succ, List.setIfInBounds_toArray, Array.getD_eq_getD_getElem?, List.getElem?_toArray, List.getElem?_cons_succ, List.getElem?_cons_zero, Option.getD_some, Value.cells] at hS))
        | (go_at_call 44; refine (hlink_any p L' (za : Nat) (zb : Nat) HP.out.1 HLL.out hS (fun D w h => h.2) (fun D w h => kt D w (k1 D w h.1))).mono ?_; rintro e w_ ⟨r, z, rfl, hP⟩; obtain ⟨rfl, L'', hP2, hS⟩ := HNY.out _ _ _ _ _ hP; replace hP2 := Lib.hid hP2; clear hP; obtain ⟨qr, _, rfl, -⟩ := hS.ro.2)
        | ((with_reducible show wpList _ _ _ (⟨_, .load _ _, _, _, _, _⟩ :: _) _ _); first | (refine st_cell hS 0 rfl _ _ rfl _ _ rfl _ _ rfl (by decide +kernel) _ (by first | assumption | rfl) ?_) | (refine st_cell hS 1 rfl _ _ rfl _ _ rfl _ _ rfl (by decide +kernel) _ (by first | assumption | rfl) ?_) | (refine st_cell hS 2 rfl _ _ rfl _ _ rfl _ _ rfl (by decide +kernel) _ (by first | assumption | rfl) ?_) | (refine st_cell hS 3 rfl _ _ rfl _ _ rfl _ _ rfl (by decide +kernel) _ (by first | assumption | rfl) ?_) | (refine st_cell hS 4 rfl _ _ rfl _ _ rfl _ _ rfl (by decide +kernel) _ (by first | assumption | rfl) ?_) | (refine st_cell hS 5 rfl _ _ rfl _ _ rfl _ _ rfl (by decide +kernel) _ (by first | assumption | rfl) ?_) | (refine st_cell hS 6 rfl _ _ rfl _ _ rfl _ _ rfl (by decide +kernel) _ (by first | assumption | rfl) ?_) | (refine st_cell hS 7 rfl _ _ rfl _ _ rfl _ _ rfl (by decide +kernel) _ (by first | assumption | rfl) ?_)))
      exact ⟨⟨j + 1, _, L'', by go_num, rfl, hlj, hP2, (hS.sub (List.sublist_cons_self _ _)).mono (KS.and stable_isH) fun D w h => ⟨h.1.1, h.2⟩⟩, by simp [intOf]; omega⟩
    · obtain rfl : j = 3 := by omega
      rw [t3_part HP.out] at hS
      obtain ⟨KY, ky1, ky2, hS2⟩ : ∃ KY : (Nat → Prop) → World → Prop, (∀ D w, KY D w → K D w) ∧ (∀ D w, KY D w → IsH w D p T3) ∧ St w0 wr F KY := ⟨_, fun D w h => k1 D w h.1, fun D w h => h.2, hS⟩
      clear hS
      have hS := hS2
      clear hS2 HNX HP k1 kp KS
      have HCH := Lib.hid (fun l c (h : ChainP T3 1 3 l c) => t3_chain h)
      have HLK := Lib.hid (fun (w0 w : World) (F : List Fact) (K : (Nat → Prop) → World → Prop) r z (h : LinkP w0 F K T3 3 1 r z w) => t3_link h)
      have H3 := Lib.hid t3_hok
      have HJ := Lib.hid (show (if (1 : Int) ≤ 1 ∧ (1 : Int) ≤ 63 then junM T3 (1 : Int).toNat else 0) = 14 by rw [if_pos (by omega)]; exact t3_jun)
      have HO := Lib.hid t3_of
      have HR := Lib.hid t3_red
      have HL3 : Hid (T3.length ≤ 900000) := Lib.hid (by decide)
      go_wp2_with (first
        | ((with_reducible show wpList _ _ _ (⟨_, .binOp _ _ _ _ _, _, _, _, _⟩ :: _) _ _); (first | ((with_reducible show wpList _ _ _ (⟨_, .binOp .lss _ _ _ _, _, _, _, _⟩ :: _) _ _); refine st_lss rfl _ _ _ _ rfl _ _ _ rfl rfl (fun h_ => ?_) (fun h_ => ?_)) | ((with_reducible show wpList _ _ _ (⟨_, .binOp .leq _ _ _ _, _, _, _, _⟩ :: _) _ _); refine st_leq rfl _ _ _ _ rfl _ _ _ rfl rfl (fun h_ => ?_) (fun h_ => ?_)) | ((with_reducible show wpList _ _ _ (⟨_, .binOp .gtr _ _ _ _, _, _, _, _⟩ :: _) _ _); refine st_gtr rfl _ _ _ _ rfl _ _ _ rfl rfl (fun h_ => ?_) (fun h_ => ?_)) | ((with_reducible show wpList _ _ _ (⟨_, .binOp .geq _ _ _ _, _, _, _, _⟩ :: _) _ _); refine st_geq rfl _ _ _ _ rfl _ _ _ rfl rfl (fun h_ => ?_) (fun h_ => ?_)) | ((with_reducible show wpList _ _ _ (⟨_, .binOp .eql _ _ _ _, _, _, _, _⟩ :: _) _ _); refine st_eql rfl _ _ _ _ rfl _ _ _ rfl rfl (fun h_ => ?_) (fun h_ => ?_)) | ((with_reducible show wpList _ _ _ (⟨_, .binOp .neq _ _ _ _, _, _, _, _⟩ :: _) _ _); refine st_neq rfl _ _ _ _ rfl _ _ _ rfl rfl (fun h_ => ?_) (fun h_ => ?_))) <;> go_prune)
        | (go_at_call 17; refine (hchain_any (ky2 _ _ hS.ro) H3.out HL3.out 1 3).mono ?_; rintro e w_ ⟨v, c, l, rfl, hp, hll, hs⟩; obtain ⟨rfl, rfl⟩ := HCH.out _ _ hp; replace hS := hS.new hs.below (.own v 3 1 2 (ints (natInts [1, 3]))) (hs.own 0 rfl); clear hs hp hll)
        | (go_at_call 44; refine (hlink_any p T3 3 1 H3.out HL3.out hS ky2 (fun D w h => kt D w (ky1 D w h))).mono ?_; rintro e w_ ⟨r, z, rfl, hP⟩; obtain ⟨rfl, rfl, hS⟩ := HLK.out _ _ _ _ _ _ hP; clear hP)
        | (go_at_call 21; refine (hjun_any (ky2 _ _ hS.ro) H3.out 1).mono ?_; rintro r_ w_ ⟨_, rfl, hj1, hb_⟩; rw [HJ.out] at hj1; replace hS := hS.ret2 hb_ stable_set hj1; clear hb_ hj1)
        | ((with_reducible show wpList _ _ _ (⟨some 49, _, _, _, _, _⟩ :: _) _ _); refine st_litown hS rfl _ _ _ _ rfl Tryd.underlying31 #[.int .i64 1, .int .i64 2, .int .i64 3] (by kernel_rfl) 1 rfl (by decide) ?_; clear hS; intro g49 w_ hS)
        | (go_at_call 46; refine (of_any _ [1, 2, 3] _ _ (Sl.of_own (hS.own 0 rfl))).mono ?_; rintro r_ w_ ⟨_, rfl, hO1, hb_⟩; rw [HO.out] at hO1; replace hS := hS.ret hb_ stable_set hO1; clear hb_ hO1)
        | (go_at_call 22; refine (equal_any _ _ 14 14 _ _ _ hS.ro.1.2 hS.ro.2).mono ?_; rintro r_ w_ ⟨_, rfl, rfl, hb_⟩; rw [show ((14 : Nat) == 14) = true from rfl]; replace hS := hS.ext hb_; clear hb_)
        | ((with_reducible show wpList _ _ _ (⟨some 54, _, _, _, _, _⟩ :: _) _ _); refine st_litw hS rfl _ _ _ _ rfl Tryd.underlying31 #[.int .i64 1, .int .i64 3] (by kernel_rfl) 1 rfl (by decide) ?_; clear hS; intro g54 w_ hS)
        | (go_at_call 19; refine (sleq_any _ _ [1, 3] [1, 3] _ _ _ (Sl.of_own (hS.own 2 rfl)) (Sl.of_own (hS.own 0 rfl))).mono ?_; rintro r_ w_ ⟨_, rfl, rfl, hb_⟩; rw [show (([1, 3] : List Int) == [1, 3]) = true from rfl]; replace hS := hS.ext hb_; clear hb_)
        | (go_at_call 32; refine (hred_any (ky2 _ _ hS.ro.1.1) (kt _ _ (ky1 _ _ hS.ro.1.1)).1 H3.out HL3.out).mono ?_; rintro e w_ ⟨v2, rfl, hs⟩; rw [HR.out] at hs; replace hS := hS.new hs.below (.own v2 50 2 1 (pcells [(1, 3)])) (hs.own 0 rfl); clear hs)
        | ((with_reducible show wpList _ _ _ (⟨some 64, _, _, _, _, _⟩ :: _) _ _); refine st_litw hS rfl _ _ _ _ rfl Tryd.underlying25 #[.int .i64 1, .int .i64 3] (by kernel_rfl) 2 rfl (by decide) ?_; clear hS; intro g64 w_ hS)
        | (go_at_call 30; refine (peq_any (L := [(1, 3)]) (M := [(1, 3)]) (Sl.of_own (hS.own 1 rfl)) (Sl.of_own (hS.own 0 rfl)) (by decide)).mono ?_; rintro r_ w_ ⟨_, rfl, rfl, hb_⟩; rw [show decide (([(1, 3)] : List (Nat × Nat)) = [(1, 3)]) = true from rfl]; replace hS := hS.ext hb_; clear hb_))
      go_ret
      exact ⟨rfl, (hS.sub (.cons _ (.cons _ (.cons _ (.cons _ (.cons _ (List.Sublist.refl _))))))).mono KSt fun D w h => ky1 D w h.1.1⟩
end Go.Proofs.YtmlkgaiphpimiaaDoor
namespace Go.Proofs.YtmlkgaiphpimiaaDoor
open Go.RowKit
attribute [local go_sem ↓] Go.wp_at_zero Go.wp_at_succ
set_option maxRecDepth 20000
set_option exponentiation.threshold 5000

/-- what a statement begins with: the laid table, which only reads -/
theorem start_tab {W : World} (h : DTab W) : ∃ K : (Nat → Prop) → World → Prop, (∀ D w, K D w → DTab w ∧ D 0) ∧ St W W [] K :=
  ⟨_, fun _ _ h => h, St.start (D := fun _ => True) dtab_stable ⟨h, trivial⟩⟩
end Go.Proofs.YtmlkgaiphpimiaaDoor
namespace Go.Proofs.YtmlkgaiphpimiaaDoor
open Go.RowKit
attribute [local go_sem ↓] Go.wp_at_zero Go.wp_at_succ
set_option maxRecDepth 20000
set_option exponentiation.threshold 5000

theorem tc_role {L : List (Nat × Nat)} (hH : HOK L) {a b : Nat} (h : TC L a b) : (1 ≤ a ∧ a < 64) ∧ 1 ≤ b ∧ b < 64 := by
  obtain ⟨y, h1, _⟩ := h.first
  obtain ⟨z, h2, _⟩ := h.last
  exact ⟨(hH.role _ h1).1, (hH.role _ h2).2⟩
theorem junR_role {L : List (Nat × Nat)} (hH : HOK L) {r : Int} {i : Nat} (h : (junR L r).testBit i = true) : 1 ≤ i ∧ i < 64 := by
  unfold junR at h
  split at h
  · rename_i hr
    rw [tb_jun hH.inr (by omega)] at h
    rcases h with rfl | h
    · omega
    · exact (tc_role hH h).2
  · rw [Nat.zero_testBit] at h; cases h
theorem roles_same {N : Nat} (h : ∀ i, N.testBit i = true → 1 ≤ i ∧ i < 64) : rolesM N = N := mask_ext fun i => by
  rw [tb_roles]
  exact ⟨fun q => q.2.2, fun q => ⟨(h i q).2, (h i q).1, q⟩⟩
theorem roles_closM {L : List (Nat × Nat)} (hH : HOK L) (s : Nat) : rolesM (closM L s) = closM L s := roles_same fun i h => by
  unfold closM at h
  rw [tb_closTo] at h
  obtain ⟨r, h1, h2, _, h4⟩ := h
  refine junR_role hH (r := (r : Int)) (i := i) ?_
  rw [junR, if_pos (by omega), Int.toNat_natCast]
  exact h4
end Go.Proofs.YtmlkgaiphpimiaaDoor
namespace Go.Proofs.YtmlkgaiphpimiaaDoor
open Go.RowKit
attribute [local go_sem ↓] Go.wp_at_zero Go.wp_at_succ
set_option maxRecDepth 20000
set_option exponentiation.threshold 5000

theorem run_and64 {P : Program} {w : World} {t : TypeId} {x y : Nat} (hx : x < T64) (hy : y < T64) : (binOp .and t (.int .u64 (x : Nat)) (.int .u64 (y : Nat))).run P w = .ok (.int .u64 ((x &&& y : Nat) : Int)) w := by
  go_simp; rw [and64 hx hy]
theorem and_words {a b : List Nat} (ha : Words a) (hb : Words b) {n : Nat} (hn : a.length ≤ n ∨ b.length ≤ n) : Words ((List.range n).map fun j => wd (val a) j &&& wd (val b) j) ∧ val ((List.range n).map fun j => wd (val a) j &&& wd (val b) j) = val a &&& val b := by
  have h1 : Words ((List.range n).map fun j => wd (val a) j &&& wd (val b) j) := fun x hx => by
    obtain ⟨j, _, rfl⟩ := List.mem_map.1 hx
    exact Nat.lt_of_le_of_lt Nat.and_le_left (wd_lt _ _)
  refine ⟨h1, val_ext h1 fun k => ?_⟩
  rw [wd_and, List.getD_eq_getElem?_getD, List.getElem?_map]
  rcases Nat.lt_or_ge k n with hk | hk
  · rw [List.getElem?_range hk]; rfl
  · rw [List.getElem?_eq_none (by simpa using hk)]
    rcases hn with hn | hn
    · rw [wd_ge ha (by omega), Nat.zero_and]; rfl
    · rw [wd_ge hb (by omega), Nat.and_zero]; rfl
theorem Sl.only {w : World} {D : Nat → Prop} {size n c g o : Nat} {xs : List Value} (h : Sl w D size (.slice (some ⟨g, o, none⟩) n c) n xs) : Sl w (fun z => D z ∧ z = g) size (.slice (some ⟨g, o, none⟩) n c) n xs := by
  obtain ⟨h1, A, c', e, h3, h4, h5⟩ := h
  injection e with e1 e2 e3
  subst e1 e3
  refine ⟨h1, _, _, rfl, h3, h4, fun hp => ?_⟩
  obtain ⟨b, o', q1, q2, q3, q4⟩ := h5 hp
  injection q1 with q1
  injection q1 with q1 q5 _
  subst q1 q5
  exact ⟨_, _, rfl, ⟨q2, rfl⟩, q3, q4⟩
set_option maxHeartbeats 2000000 in
theorem and_any {w0 : World} {D E : Nat → Prop} {v u : Value} {M N : Nat} (hv : IsSet w0 D v M) (hu : IsSet w0 E u N) :
    Calls Tryd.prog 43 #[v, u] w0 (Ret (fun x w' => IsSet w' (w0.heap.size ≤ ·) x (M &&& N)) w0) := by
  obtain ⟨A, ca, a, rfl, ha, rfl, ha1, ha2, hsa⟩ := hv.parts
  obtain ⟨B, cb, b, rfl, hb, rfl, hb1, hb2, hsb⟩ := hu.parts
  obtain ⟨K, k1, k2, hS⟩ : ∃ K : (Nat → Prop) → World → Prop, (∀ D w, K D w → Sl w D 1 (.slice A a.length ca) a.length (u64s a)) ∧ (∀ D w, K D w → Sl w D 1 (.slice B b.length cb) b.length (u64s b)) ∧ St w0 w0 [] K := ⟨_, fun _ _ h => h.1, fun _ _ h => h.2, St.start (D := fun _ => True) ((stable_sl (by decide)).and (stable_sl (by decide))) ⟨hsa.imp fun _ _ _ => trivial, hsb.imp fun _ _ _ => trivial⟩⟩
  have hla := ha.2.2
  have hlb := hb.2.2
  obtain ⟨n, hn⟩ : ∃ n, n = min a.length b.length := ⟨_, rfl⟩
  have HW := Lib.hid (and_words ha.1 hb.1 (n := n) (by omega))
  have HA := Lib.hid ha.1
  have HB := Lib.hid hb.1
  have hna : n ≤ a.length := by omega
  have hnb : n ≤ b.length := by omega
  have hnm : min (a.length : Int) (b.length : Int) = (n : Int) := by omega
  clear hsa hsb hv hu ha hb hn
  go_enter Tryd.func43, Tryd.ntmps43
  go_wp2_with (first
    | ((with_reducible show wpList _ _ _ (⟨some 2, _, _, _, _, _⟩ :: _) _ _); refine st_box hS rfl _ _ rfl (.agg #[.slice A a.length ca]) _ rfl rfl ?_; clear hS; intro g2 w_ hS; (try simp only [Act.put, Act.eval, List.set_cons_zero, List.set_cons_succ, List.setIfInBounds_toArray, Array.getD_eq_getD_getElem?, List.getElem?_toArray, List.getElem?_cons_succ, List.getElem?_cons_zero, Option.getD_some, Value.cells] at hS))
    | ((with_reducible show wpList _ _ _ (⟨some 3, _, _, _, _, _⟩ :: _) _ _); refine st_box hS rfl _ _ rfl (.agg #[.slice B b.length cb]) _ rfl rfl ?_; clear hS; intro g3 w_ hS; (try simp only [Act.put, Act.eval, List.set_cons_zero, List.set_cons_succ, List.setIfInBounds_toArray, Array.getD_eq_getD_getElem?, List.getElem?_toArray, List.getElem?_cons_succ, List.getElem?_cons_zero, Option.getD_some, Value.cells] at hS))
    | ((with_reducible show wpList _ _ _ (⟨some 4, _, _, _, _, _⟩ :: _) _ _); refine st_allocz hS rfl _ rfl (by kernel_rfl) #[.slice none 0 0] (by kernel_rfl) ?_; clear hS; intro g4 w_ hS; (try simp only [Act.put, Act.eval, List.set_cons_zero, List.set_cons_succ, List.setIfInBounds_toArray, Array.getD_eq_getD_getElem?, List.getElem?_toArray, List.getElem?_cons_succ, List.getElem?_cons_zero, Option.getD_some, Value.cells] at hS))
    | ((with_reducible show wpList _ _ _ (⟨_, .load _ _, _, _, _, _⟩ :: _) _ _); first | (refine st_cell hS 0 rfl _ _ rfl _ _ rfl _ _ rfl (by decide +kernel) _ (by first | assumption | rfl) ?_) | (refine st_cell hS 1 rfl _ _ rfl _ _ rfl _ _ rfl (by decide +kernel) _ (by first | assumption | rfl) ?_) | (refine st_cell hS 2 rfl _ _ rfl _ _ rfl _ _ rfl (by decide +kernel) _ (by first | assumption | rfl) ?_) | (refine st_cell hS 3 rfl _ _ rfl _ _ rfl _ _ rfl (by decide +kernel) _ (by first | assumption | rfl) ?_) | (refine st_cell hS 4 rfl _ _ rfl _ _ rfl _ _ rfl (by decide +kernel) _ (by first | assumption | rfl) ?_) | (refine st_cell hS 5 rfl _ _ rfl _ _ rfl _ _ rfl (by decide +kernel) _ (by first | assumption | rfl) ?_) | (refine st_cell hS 6 rfl _ _ rfl _ _ rfl _ _ rfl (by decide +kernel) _ (by first | assumption | rfl) ?_) | (refine st_cell hS 7 rfl _ _ rfl _ _ rfl _ _ rfl (by decide +kernel) _ (by first | assumption | rfl) ?_))
    | ((with_reducible show wpList _ _ _ (⟨_, .makeSlice _ _ _, _, _, _, _⟩ :: _) _ _); refine st_mk hS rfl _ _ _ rfl ty_u64s' .i64 .i64 n #[.int .u64 0] rfl rfl (by kernel_rfl) (by omega) (by omega) ?_; clear hS; intro g5 w_ hS))
  rw [mk_u64s] at hS
  obtain ⟨f, hf⟩ : ∃ f : Nat → Nat, f = fun j => wd (val a) j &&& wd (val b) j := ⟨_, rfl⟩
  rw [← hf] at HW
  replace hf := Lib.hid hf
  rw [← fillTo_zero f] at hS
  go_loopw [17] (fun i wr => ∃ k : Nat, i = .int .i64 (k : Nat) ∧ k ≤ n ∧ St w0 wr [.own (.slice (some ⟨g5, 0, none⟩) n n) 22 1 n (u64s (fillTo f k n)), .box g4 42 #[.slice none 0 0], .box g3 42 #[.slice B b.length cb], .box g2 42 #[.slice A a.length ca]] K) (fun i _ => n - (intOf i).toNat)
  case atStart => exact ⟨0, rfl, by omega, hS⟩
  case round =>
    clear hS
    obtain ⟨k, rfl, hk, hS⟩ := hrel
    by_cases hkn : k < n
    · obtain ⟨b1, o1, rfl⟩ : ∃ b o, A = some ⟨b, o, none⟩ := by
        obtain ⟨_, A2, c2, e2, _, _, h5⟩ := k1 _ _ hS.ro
        obtain ⟨b, o, h6, _⟩ := h5 (by omega)
        injection e2 with e2
        exact ⟨b, o, e2.trans h6⟩
      obtain ⟨b2, o2, rfl⟩ : ∃ b o, B = some ⟨b, o, none⟩ := by
        obtain ⟨_, A2, c2, e2, _, _, h5⟩ := k2 _ _ hS.ro
        obtain ⟨b, o, h6, _⟩ := h5 (by omega)
        injection e2 with e2
        exact ⟨b, o, e2.trans h6⟩
      have HX := Lib.hid (u64s_at a k (by omega))
      have HY := Lib.hid (u64s_at b k (by omega))
      have hx : a.getD k 0 < T64 := HA.out.getD k
      have hy : b.getD k 0 < T64 := HB.out.getD k
      have HF := Lib.hid (show (u64s (fillTo f k n)).set k (.int .u64 ((a.getD k 0 &&& b.getD k 0 : Nat) : Int)) = u64s (fillTo f (k + 1) n) by
        rw [← fillTo_set, show f k = a.getD k 0 &&& b.getD k 0 by rw [hf.out]; show wd (val a) k &&& wd (val b) k = _; rw [wd_val HA.out, wd_val HB.out], u64s_set])
      generalize a.getD k 0 = x at *
      generalize b.getD k 0 = y at *
      go_wp2_with (first | ((with_reducible show wpList _ _ _ (⟨_, .binOp _ _ _ _ _, _, _, _, _⟩ :: _) _ _); (first | ((with_reducible show wpList _ _ _ (⟨_, .binOp .lss _ _ _ _, _, _, _, _⟩ :: _) _ _); refine st_lss rfl _ _ _ _ rfl _ _ _ rfl rfl (fun h_ => ?_) (fun h_ => ?_)) | ((with_reducible show wpList _ _ _ (⟨_, .binOp .leq _ _ _ _, _, _, _, _⟩ :: _) _ _); refine st_leq rfl _ _ _ _ rfl _ _ _ rfl rfl (fun h_ => ?_) (fun h_ => ?_)) | ((with_reducible show wpList _ _ _ (⟨_, .binOp .gtr _ _ _ _, _, _, _, _⟩ :: _) _ _); refine st_gtr rfl _ _ _ _ rfl _ _ _ rfl rfl (fun h_ => ?_) (fun h_ => ?_)) | ((with_reducible show wpList _ _ _ (⟨_, .binOp .geq _ _ _ _, _, _, _, _⟩ :: _) _ _); refine st_geq rfl _ _ _ _ rfl _ _ _ rfl rfl (fun h_ => ?_) (fun h_ => ?_)) | ((with_reducible show wpList _ _ _ (⟨_, .binOp .eql _ _ _ _, _, _, _, _⟩ :: _) _ _); refine st_eql rfl _ _ _ _ rfl _ _ _ rfl rfl (fun h_ => ?_) (fun h_ => ?_)) | ((with_reducible show wpList _ _ _ (⟨_, .binOp .neq _ _ _ _, _, _, _, _⟩ :: _) _ _); refine st_neq rfl _ _ _ _ rfl _ _ _ rfl rfl (fun h_ => ?_) (fun h_ => ?_))) <;> go_prune))
      refine wp_region_tail (fun i__ v w => match i__ with
        | 0 => v = .slice (some ⟨g5, 0, none⟩) n n
        | 1 => v = .int .i64 ((k : Nat) : Int)
        | 2 => v = .pointer (some ⟨g2, 0, none⟩)
        | 3 => v = .slice (some ⟨b1, o1, none⟩) a.length ca
        | 4 => v = .int .i64 ((k : Nat) : Int)
        | 5 => v = .pointer (some ⟨b1, o1 + (k) * 1, none⟩)
        | 6 => v = .int .u64 ((x : Nat) : Int)
        | 7 => v = .pointer (some ⟨g3, 0, none⟩)
        | 8 => v = .slice (some ⟨b2, o2, none⟩) b.length cb
        | 9 => v = .int .i64 ((k : Nat) : Int)
        | 10 => v = .pointer (some ⟨b2, o2 + (k) * 1, none⟩)
        | 11 => v = .int .u64 ((y : Nat) : Int)
        | 12 => v = .int .u64 ((x &&& y : Nat) : Int)
        | 13 => v = .pointer (some ⟨g5, 0 + (k) * 1, none⟩)
        | 14 => True
        | _ => True) 14 [] (by kernel_rfl) (by kernel_rfl) (by kernel_rfl) (by kernel_rfl) (by kernel_rfl) ?mono ⟨.inr ?r0, .inr ?r1, .inr ?r2, .inr ?r3, .inr ?r4, .inr ?r5, .inr ?r6, .inr ?r7, .inr ?r8, .inr ?r9, .inr ?r10, .inr ?r11, .inr ?r12, .inr ?r13, .inl (by decide), trivial⟩ ?post
      case mono =>
        intro i v w w' h hb
        match i, h with
        | 0, h => exact h
        | 1, h => exact h
        | 2, h => exact h
        | 3, h => exact h
        | 4, h => exact h
        | 5, h => exact h
        | 6, h => exact h
        | 7, h => exact h
        | 8, h => exact h
        | 9, h => exact h
        | 10, h => exact h
        | 11, h => exact h
        | 12, h => exact h
        | 13, h => exact h
        | 14, h => exact h
        | _ + 15, h => trivial
      case r0 =>
        refine trule fun b__ w hW hold hpre => ⟨fun hwant K hK => ?_, fun hwant => ?_⟩
        · clear hwant
          have e5 : b__.eval (.tmp 5) = .slice (some ⟨g5, 0, none⟩) n n := (hold 5 (by kernel_rfl)).trans rfl
          exact opw_move rfl e5 (hK _ _ rfl (Below.refl _ _))
        · rw [want_none rfl] at hwant; cases hwant
      case r1 =>
        refine trule fun b__ w hW hold hpre => ⟨fun hwant K hK => ?_, fun hwant => ?_⟩
        · clear hwant
          have e6 : b__.eval (.tmp 6) = .int .i64 ((k : Nat) : Int) := (hold 6 (by kernel_rfl)).trans rfl
          exact opw_move rfl e6 (hK _ _ rfl (Below.refl _ _))
        · rw [want_none rfl] at hwant; cases hwant
      case r2 =>
        refine trule fun b__ w hW hold hpre => ⟨fun hwant K hK => ?_, fun hwant => ?_⟩
        · clear hwant
          have e2 : b__.eval (.tmp 2) = .pointer (some ⟨g2, 0, none⟩) := (hold 2 (by kernel_rfl)).trans rfl
          exact opw_faddr rfl e2 (by kernel_rfl) (hK _ _ rfl (Below.refl _ _))
        · rw [want_none rfl] at hwant; cases hwant
      case r3 =>
        refine trule fun b__ w hW hold hpre => ⟨fun hwant K hK => ?_, fun hwant => ?_⟩
        · clear hwant
          have e22 : b__.eval (.tmp 22) = .pointer (some ⟨g2, 0, none⟩) := hpre ⟨2, _⟩ (Array.mem_of_getElem? (i := 0) rfl) rfl _ _ rfl rfl
          exact opw_cell rfl e22 (by kernel_rfl) (((hS.ext (undrew hW)).box 3 rfl).cell 0) (hK _ _ rfl (Below.refl _ _))
        · rw [want_none rfl] at hwant; cases hwant
      case r4 =>
        refine trule fun b__ w hW hold hpre => ⟨fun hwant K hK => ?_, fun hwant => ?_⟩
        · clear hwant
          have e6 : b__.eval (.tmp 6) = .int .i64 ((k : Nat) : Int) := (hold 6 (by kernel_rfl)).trans rfl
          exact opw_move rfl e6 (hK _ _ rfl (Below.refl _ _))
        · rw [want_none rfl] at hwant; cases hwant
      case r5 =>
        refine trule fun b__ w hW hold hpre => ⟨fun hwant K hK => ?_, fun hwant => ?_⟩
        · clear hwant
          have e23 : b__.eval (.tmp 23) = .slice (some ⟨b1, o1, none⟩) a.length ca := hpre ⟨3, _⟩ (Array.mem_of_getElem? (i := 0) rfl) rfl _ _ rfl rfl
          have e24 : b__.eval (.tmp 24) = .int .i64 ((k : Nat) : Int) := hpre ⟨4, _⟩ (Array.mem_of_getElem? (i := 1) rfl) rfl _ _ rfl rfl
          exact opw_iaddr rfl e23 e24 (run_iaddr_lit (m := k) Tryd.underlying40 (by kernel_rfl) (by omega) (by omega)) (hK _ _ rfl (Below.refl _ _))
        · rw [want_none rfl] at hwant; cases hwant
      case r6 =>
        refine trule fun b__ w hW hold hpre => ⟨fun hwant K hK => ?_, fun hwant => ?_⟩
        · clear hwant
          have e25 : b__.eval (.tmp 25) = .pointer (some ⟨b1, o1 + (k) * 1, none⟩) := hpre ⟨5, _⟩ (Array.mem_of_getElem? (i := 0) rfl) rfl _ _ rfl rfl
          exact opw_cell rfl e25 (by kernel_rfl) (by rw [Nat.mul_one]; exact sl_cell (k1 _ _ (hS.ext (undrew hW)).ro) HX.out) (hK _ _ rfl (Below.refl _ _))
        · rw [want_none rfl] at hwant; cases hwant
      case r7 =>
        refine trule fun b__ w hW hold hpre => ⟨fun hwant K hK => ?_, fun hwant => ?_⟩
        · clear hwant
          have e3 : b__.eval (.tmp 3) = .pointer (some ⟨g3, 0, none⟩) := (hold 3 (by kernel_rfl)).trans rfl
          exact opw_faddr rfl e3 (by kernel_rfl) (hK _ _ rfl (Below.refl _ _))
        · rw [want_none rfl] at hwant; cases hwant
      case r8 =>
        refine trule fun b__ w hW hold hpre => ⟨fun hwant K hK => ?_, fun hwant => ?_⟩
        · clear hwant
          have e27 : b__.eval (.tmp 27) = .pointer (some ⟨g3, 0, none⟩) := hpre ⟨7, _⟩ (Array.mem_of_getElem? (i := 0) rfl) rfl _ _ rfl rfl
          exact opw_cell rfl e27 (by kernel_rfl) (((hS.ext (undrew hW)).box 2 rfl).cell 0) (hK _ _ rfl (Below.refl _ _))
        · rw [want_none rfl] at hwant; cases hwant
      case r9 =>
        refine trule fun b__ w hW hold hpre => ⟨fun hwant K hK => ?_, fun hwant => ?_⟩
        · clear hwant
          have e6 : b__.eval (.tmp 6) = .int .i64 ((k : Nat) : Int) := (hold 6 (by kernel_rfl)).trans rfl
          exact opw_move rfl e6 (hK _ _ rfl (Below.refl _ _))
        · rw [want_none rfl] at hwant; cases hwant
      case r10 =>
        refine trule fun b__ w hW hold hpre => ⟨fun hwant K hK => ?_, fun hwant => ?_⟩
        · clear hwant
          have e28 : b__.eval (.tmp 28) = .slice (some ⟨b2, o2, none⟩) b.length cb := hpre ⟨8, _⟩ (Array.mem_of_getElem? (i := 0) rfl) rfl _ _ rfl rfl
          have e29 : b__.eval (.tmp 29) = .int .i64 ((k : Nat) : Int) := hpre ⟨9, _⟩ (Array.mem_of_getElem? (i := 1) rfl) rfl _ _ rfl rfl
          exact opw_iaddr rfl e28 e29 (run_iaddr_lit (m := k) Tryd.underlying40 (by kernel_rfl) (by omega) (by omega)) (hK _ _ rfl (Below.refl _ _))
        · rw [want_none rfl] at hwant; cases hwant
      case r11 =>
        refine trule fun b__ w hW hold hpre => ⟨fun hwant K hK => ?_, fun hwant => ?_⟩
        · clear hwant
          have e30 : b__.eval (.tmp 30) = .pointer (some ⟨b2, o2 + (k) * 1, none⟩) := hpre ⟨10, _⟩ (Array.mem_of_getElem? (i := 0) rfl) rfl _ _ rfl rfl
          exact opw_cell rfl e30 (by kernel_rfl) (by rw [Nat.mul_one]; exact sl_cell (k2 _ _ (hS.ext (undrew hW)).ro) HY.out) (hK _ _ rfl (Below.refl _ _))
        · rw [want_none rfl] at hwant; cases hwant
      case r12 =>
        refine trule fun b__ w hW hold hpre => ⟨fun hwant K hK => ?_, fun hwant => ?_⟩
        · clear hwant
          have e26 : b__.eval (.tmp 26) = .int .u64 ((x : Nat) : Int) := hpre ⟨6, _⟩ (Array.mem_of_getElem? (i := 0) rfl) rfl _ _ rfl rfl
          have e31 : b__.eval (.tmp 31) = .int .u64 ((y : Nat) : Int) := hpre ⟨11, _⟩ (Array.mem_of_getElem? (i := 1) rfl) rfl _ _ rfl rfl
          exact opw_bin (vx := .int .u64 ((x : Nat) : Int)) (vy := .int .u64 ((y : Nat) : Int)) (v := .int .u64 ((x &&& y : Nat) : Int)) rfl e26 e31 rfl (run_and64 hx hy) (hK _ _ rfl (Below.refl _ _))
        · rw [want_none rfl] at hwant; cases hwant
      case r13 =>
        refine trule fun b__ w hW hold hpre => ⟨fun hwant K hK => ?_, fun hwant => ?_⟩
        · clear hwant
          have e20 : b__.eval (.tmp 20) = .slice (some ⟨g5, 0, none⟩) n n := hpre ⟨0, _⟩ (Array.mem_of_getElem? (i := 0) rfl) rfl _ _ rfl rfl
          have e21 : b__.eval (.tmp 21) = .int .i64 ((k : Nat) : Int) := hpre ⟨1, _⟩ (Array.mem_of_getElem? (i := 1) rfl) rfl _ _ rfl rfl
          exact opw_iaddr rfl e20 e21 (run_iaddr_lit (m := k) Tryd.underlying40 (by kernel_rfl) (by omega) (by omega)) (hK _ _ rfl (Below.refl _ _))
        · rw [want_none rfl] at hwant; cases hwant
      case post =>
        intro b__ wz hW hdf hsz hold hT
        have e33 : b__.eval (.tmp 33) = .pointer (some ⟨g5, 0 + (k) * 1, none⟩) := hT 13 _ 33 (by decide) rfl rfl
        have e32 : b__.eval (.tmp 32) = .int .u64 ((x &&& y : Nat) : Int) := hT 12 _ 32 (by decide) rfl rfl
        have e20 : b__.eval (.tmp 20) = .slice (some ⟨g5, 0, none⟩) n n := hT 0 _ 20 (by decide) rfl rfl
        have e21 : b__.eval (.tmp 21) = .int .i64 ((k : Nat) : Int) := hT 1 _ 21 (by decide) rfl rfl
        have e22 : b__.eval (.tmp 22) = .pointer (some ⟨g2, 0, none⟩) := hT 2 _ 22 (by decide) rfl rfl
        have e23 : b__.eval (.tmp 23) = .slice (some ⟨b1, o1, none⟩) a.length ca := hT 3 _ 23 (by decide) rfl rfl
        have e24 : b__.eval (.tmp 24) = .int .i64 ((k : Nat) : Int) := hT 4 _ 24 (by decide) rfl rfl
        have e25 : b__.eval (.tmp 25) = .pointer (some ⟨b1, o1 + (k) * 1, none⟩) := hT 5 _ 25 (by decide) rfl rfl
        have e26 : b__.eval (.tmp 26) = .int .u64 ((x : Nat) : Int) := hT 6 _ 26 (by decide) rfl rfl
        have e27 : b__.eval (.tmp 27) = .pointer (some ⟨g3, 0, none⟩) := hT 7 _ 27 (by decide) rfl rfl
        have e28 : b__.eval (.tmp 28) = .slice (some ⟨b2, o2, none⟩) b.length cb := hT 8 _ 28 (by decide) rfl rfl
        have e29 : b__.eval (.tmp 29) = .int .i64 ((k : Nat) : Int) := hT 9 _ 29 (by decide) rfl rfl
        have e30 : b__.eval (.tmp 30) = .pointer (some ⟨b2, o2 + (k) * 1, none⟩) := hT 10 _ 30 (by decide) rfl rfl
        have e31 : b__.eval (.tmp 31) = .int .u64 ((y : Nat) : Int) := hT 11 _ 31 (by decide) rfl rfl
        obtain ⟨vs, hvs, hb⟩ := frame_of hdf hsz hold
        replace e33 : vs 33 = .pointer (some ⟨g5, 0 + (k) * 1, none⟩) := (hvs 33).symm.trans e33
        replace e32 : vs 32 = .int .u64 ((x &&& y : Nat) : Int) := (hvs 32).symm.trans e32
        replace e20 : vs 20 = .slice (some ⟨g5, 0, none⟩) n n := (hvs 20).symm.trans e20
        replace e21 : vs 21 = .int .i64 ((k : Nat) : Int) := (hvs 21).symm.trans e21
        replace e22 : vs 22 = .pointer (some ⟨g2, 0, none⟩) := (hvs 22).symm.trans e22
        replace e23 : vs 23 = .slice (some ⟨b1, o1, none⟩) a.length ca := (hvs 23).symm.trans e23
        replace e24 : vs 24 = .int .i64 ((k : Nat) : Int) := (hvs 24).symm.trans e24
        replace e25 : vs 25 = .pointer (some ⟨b1, o1 + (k) * 1, none⟩) := (hvs 25).symm.trans e25
        replace e26 : vs 26 = .int .u64 ((x : Nat) : Int) := (hvs 26).symm.trans e26
        replace e27 : vs 27 = .pointer (some ⟨g3, 0, none⟩) := (hvs 27).symm.trans e27
        replace e28 : vs 28 = .slice (some ⟨b2, o2, none⟩) b.length cb := (hvs 28).symm.trans e28
        replace e29 : vs 29 = .int .i64 ((k : Nat) : Int) := (hvs 29).symm.trans e29
        replace e30 : vs 30 = .pointer (some ⟨b2, o2 + (k) * 1, none⟩) := (hvs 30).symm.trans e30
        replace e31 : vs 31 = .int .u64 ((y : Nat) : Int) := (hvs 31).symm.trans e31
        subst hb
        clear hvs hold hT hdf hsz
        simp only [setAll, Act.put, List.setIfInBounds_toArray, List.set_cons_zero, List.set_cons_succ, List.getElem_toArray, List.getElem_cons_succ, List.getElem_cons_zero]
        (intro o_ ho_; simp only [List.getElem?_toArray, List.getElem?_cons_succ, List.getElem?_cons_zero, Option.some.injEq] at ho_; subst ho_)
        refine opw_ostore rfl (g := g5) (i := k) (e33.trans (by rw [Nat.zero_add, Nat.mul_one])) e32 ((hS.ext hW).own 0 rfl) (by omega) rfl rfl (by kernel_rfl) fun w4 h1 hU => ?_
        replace hS := (hS.ext hW).upd 0 rfl (.own (.slice (some ⟨g5, 0, none⟩) n n) 22 1 n (u64s (fillTo f (k + 1) n))) (by simpa [Fact.blk, Value.ownBlock] using upd_gb hU) (by rw [← HF.out]; exact h1) fun _ e => .inl e
        simp only [TailWp]
        simp only [Act.put, List.setIfInBounds_toArray, List.set_cons_zero, List.set_cons_succ]
        clear e32 e33 h1 hU hW
        go_wp2_with fail
        exact ⟨⟨k + 1, by go_num, hkn, hS⟩, by simp [intOf]; omega⟩
    · obtain rfl : k = n := by omega
      rw [fillTo_full, hf.out] at hS
      rw [hf.out] at HW
      generalize hl : (List.range k).map (fun j => wd (val a) j &&& wd (val b) j) = l at hS HW
      obtain rfl : l.length = k := by rw [← hl]; simp
      clear hl
      have hs0 := ((hS.own 0 rfl).lt _ rfl).1
      have hS1 := hS.freeze 0 (by decide) rfl
      clear hS
      have hS := hS1
      clear hS1
      go_wp2_with (first
        | ((with_reducible show wpList _ _ _ (⟨_, .binOp _ _ _ _ _, _, _, _, _⟩ :: _) _ _); (first | ((with_reducible show wpList _ _ _ (⟨_, .binOp .lss _ _ _ _, _, _, _, _⟩ :: _) _ _); refine st_lss rfl _ _ _ _ rfl _ _ _ rfl rfl (fun h_ => ?_) (fun h_ => ?_)) | ((with_reducible show wpList _ _ _ (⟨_, .binOp .leq _ _ _ _, _, _, _, _⟩ :: _) _ _); refine st_leq rfl _ _ _ _ rfl _ _ _ rfl rfl (fun h_ => ?_) (fun h_ => ?_)) | ((with_reducible show wpList _ _ _ (⟨_, .binOp .gtr _ _ _ _, _, _, _, _⟩ :: _) _ _); refine st_gtr rfl _ _ _ _ rfl _ _ _ rfl rfl (fun h_ => ?_) (fun h_ => ?_)) | ((with_reducible show wpList _ _ _ (⟨_, .binOp .geq _ _ _ _, _, _, _, _⟩ :: _) _ _); refine st_geq rfl _ _ _ _ rfl _ _ _ rfl rfl (fun h_ => ?_) (fun h_ => ?_)) | ((with_reducible show wpList _ _ _ (⟨_, .binOp .eql _ _ _ _, _, _, _, _⟩ :: _) _ _); refine st_eql rfl _ _ _ _ rfl _ _ _ rfl rfl (fun h_ => ?_) (fun h_ => ?_)) | ((with_reducible show wpList _ _ _ (⟨_, .binOp .neq _ _ _ _, _, _, _, _⟩ :: _) _ _); refine st_neq rfl _ _ _ _ rfl _ _ _ rfl rfl (fun h_ => ?_) (fun h_ => ?_))) <;> go_prune)
        | (go_at_call 72; refine (trim_any _ l _ _ HW.out.1 (by omega) (hS.ro.2.only)).mono ?_; rintro r_ w_ ⟨_, rfl, hM, hb_⟩; obtain ⟨A3, c3, l3, rfl, -⟩ := hM.parts; replace hS := hS.ret2 hb_ (stable_inter stable_set (w0.heap.size ≤ ·)) (hM.imp fun z hz _ => ⟨.inl hz.1, by rw [hz.2]; exact hs0⟩); clear hb_ hM)
        | ((with_reducible show wpList _ _ _ (⟨_, .store _ _ _, _, _, _, _⟩ :: _) _ _); (first | (refine st_store hS 0 rfl _ _ _ rfl _ _ rfl rfl _ _ rfl (by kernel_rfl) (by kernel_rfl) (by kernel_rfl) ?_) | (refine st_store hS 1 rfl _ _ _ rfl _ _ rfl rfl _ _ rfl (by kernel_rfl) (by kernel_rfl) (by kernel_rfl) ?_) | (refine st_store hS 2 rfl _ _ _ rfl _ _ rfl rfl _ _ rfl (by kernel_rfl) (by kernel_rfl) (by kernel_rfl) ?_) | (refine st_store hS 3 rfl _ _ _ rfl _ _ rfl rfl _ _ rfl (by kernel_rfl) (by kernel_rfl) (by kernel_rfl) ?_) | (refine st_cstore hS 0 rfl _ _ _ rfl _ _ _ rfl rfl rfl (by first | (simp; done) | (simp; omega) | exact of_decide_eq_true (by kernel_rfl)) rfl (by first | rfl | assumption) (by kernel_rfl) ?_) | (refine st_cstore hS 1 rfl _ _ _ rfl _ _ _ rfl rfl rfl (by first | (simp; done) | (simp; omega) | exact of_decide_eq_true (by kernel_rfl)) rfl (by first | rfl | assumption) (by kernel_rfl) ?_) | (refine st_cstore hS 2 rfl _ _ _ rfl _ _ _ rfl rfl rfl (by first | (simp; done) | (simp; omega) | exact of_decide_eq_true (by kernel_rfl)) rfl (by first | rfl | assumption) (by kernel_rfl) ?_) | (refine st_cstore hS 3 rfl _ _ _ rfl _ _ _ rfl rfl rfl (by first | (simp; done) | (simp; omega) | exact of_decide_eq_true (by kernel_rfl)) rfl (by first | rfl | assumption) (by kernel_rfl) ?_)); clear hS; intro w_ hS; (try simp only [Act.put, Act.eval, List.set_cons_zero, List.set_cons_succ, List.setIfInBounds_toArray, Array.getD_eq_getD_getElem?, List.getElem?_toArray, List.getElem?_cons_succ, List.getElem?_cons_zero, Option.getD_some, Value.cells] at hS)))
      refine ret_cell Tryd.results43 rfl (hS.box 0 rfl) Tryd.underlying42 rfl (by kernel_rfl) rfl ?_
      exact Ret.mk (by rw [← HW.out.2]; exact hS.ro.2.imp fun z hz _ => hz.2) hS.below
end Go.Proofs.YtmlkgaiphpimiaaDoor
namespace Go.Proofs.YtmlkgaiphpimiaaDoor
open Go.RowKit
attribute [local go_sem ↓] Go.wp_at_zero Go.wp_at_succ
set_option maxRecDepth 20000
set_option exponentiation.threshold 5000

theorem tb_clos {L : List (Nat × Nat)} {s i : Nat} : (closM L s).testBit i = true ↔ ∃ r, r < 64 ∧ 1 ≤ r ∧ s.testBit r = true ∧ (junM L r).testBit i = true := tb_closTo
theorem sub_iff {M N : Nat} : (M &&& N == M) = true ↔ ∀ i, M.testBit i = true → N.testBit i = true := by
  rw [beq_iff_eq]
  constructor
  · intro h i hi
    rw [← h, Nat.testBit_and, Bool.and_eq_true] at hi
    exact hi.2
  · intro h
    refine mask_ext fun i => ?_
    rw [Nat.testBit_and, Bool.and_eq_true]
    exact ⟨fun h => h.1, fun hi => ⟨hi, h i hi⟩⟩
theorem clos_mono {L : List (Nat × Nat)} {a b : Nat} (h : ∀ i, a.testBit i = true → b.testBit i = true) : ∀ i, (closM L a).testBit i = true → (closM L b).testBit i = true := fun i hi => by
  obtain ⟨r, h1, h2, h3, h4⟩ := tb_clos.1 hi
  exact tb_clos.2 ⟨r, h1, h2, h r h3, h4⟩
theorem clos_or {L : List (Nat × Nat)} (a b : Nat) : closM L (a ||| b) = closM L a ||| closM L b := mask_ext fun i => by
  rw [tb_or, tb_clos, tb_clos, tb_clos]
  constructor
  · rintro ⟨r, h1, h2, h3, h4⟩
    rw [tb_or] at h3
    rcases h3 with h3 | h3
    · exact .inl ⟨r, h1, h2, h3, h4⟩
    · exact .inr ⟨r, h1, h2, h3, h4⟩
  · rintro (⟨r, h1, h2, h3, h4⟩ | ⟨r, h1, h2, h3, h4⟩)
    · exact ⟨r, h1, h2, tb_or.2 (.inl h3), h4⟩
    · exact ⟨r, h1, h2, tb_or.2 (.inr h3), h4⟩
theorem clos_sup {L : List (Nat × Nat)} (hH : HOK L) {a : Nat} (ha : rolesM a = a) : ∀ i, a.testBit i = true → (closM L a).testBit i = true := fun i hi => by
  rw [← ha, tb_roles] at hi
  exact tb_clos.2 ⟨i, hi.1, hi.2.1, hi.2.2, (tb_jun hH.inr hi.1).2 (.inl rfl)⟩
theorem clos_idem {L : List (Nat × Nat)} (hH : HOK L) (a : Nat) : closM L (closM L a) = closM L a := mask_ext fun i => by
  constructor
  · intro h
    obtain ⟨r, h1, h2, h3, h4⟩ := tb_clos.1 h
    obtain ⟨q, g1, g2, g3, g4⟩ := tb_clos.1 h3
    refine tb_clos.2 ⟨q, g1, g2, g3, ?_⟩
    rw [tb_jun hH.inr h1] at h4
    rw [tb_jun hH.inr g1] at g4 ⊢
    rcases h4 with rfl | h4
    · exact g4
    · rcases g4 with rfl | g4
      · exact .inr h4
      · exact .inr (g4.trans h4)
  · exact clos_sup hH (roles_closM hH a) i
theorem roles_idem (s : Nat) : rolesM (rolesM s) = rolesM s := mask_ext fun i => by
  rw [tb_roles, tb_roles]
  exact ⟨fun h => h.2.2, fun h => ⟨h.1, h.2.1, h⟩⟩
theorem clos_and {L : List (Nat × Nat)} (a b : Nat) : (closM L (a &&& b) &&& (closM L a &&& closM L b) == closM L (a &&& b)) = true := sub_iff.2 fun i hi => by
  rw [Nat.testBit_and, Bool.and_eq_true]
  exact ⟨clos_mono (fun i h => by rw [Nat.testBit_and, Bool.and_eq_true] at h; exact h.1) i hi, clos_mono (fun i h => by rw [Nat.testBit_and, Bool.and_eq_true] at h; exact h.2) i hi⟩
set_option maxHeartbeats 4000000 in
theorem lcloses_any (x s t : Nat) (hx : x < T64) (hs : s < T64) (ht : t < T64) (W : World) (hT : DTab W) : Calls Tryd.prog 9 #[.int .u64 (x : Nat), .int .u64 (s : Nat), .int .u64 (t : Nat)] W (Ret (fun x _ => x = .bool true) W) := by
  obtain ⟨K, kt, hS⟩ := start_tab hT
  have HX := Lib.hid hx
  have HRs := Lib.hid (roles_idem s)
  have HRt := Lib.hid (roles_idem t)
  have HLs := Lib.hid (lset10_any s hs)
  have HLt := Lib.hid (lset10_any t ht)
  generalize rolesM s = Ms at *
  generalize rolesM t = Mt at *
  clear hx hT hs ht
  go_enter Tryd.func9, Tryd.ntmps9
  go_wp2_with (first
    | (go_at_call 13; refine (lawake10_any hS kt).mono ?_; rintro e w_ ⟨rfl, hS⟩)
    | (go_at_call 14; refine (lmake10_any x HX.out hS kt).mono ?_; rintro e w_ ⟨p, v, L, rfl, hH, h6, hl, hS⟩; replace hH := Lib.hid hH; obtain ⟨q, o, rfl, -⟩ := id hS.ro.2; obtain ⟨A, c, rfl, _, _⟩ := hS.ro.1.2.shape; obtain ⟨KY, kI, kT, hS2⟩ : ∃ KY : (Nat → Prop) → World → Prop, (∀ D w, KY D w → IsH w D (.pointer (some ⟨q, 0, none⟩)) L) ∧ (∀ D w, KY D w → DTab w) ∧ St W w_ [] KY := ⟨_, fun D w h => h.2, fun D w h => (kt D w h.1.1).1, hS⟩; clear hS; have hS := hS2; clear hS2)
    | (go_at_call 36; first
        | ((with_reducible show Calls _ _ #[.int .u64 (s : Nat)] _ _); refine (HLs.out _).mono ?_; rintro r_ w_ ⟨_, rfl, hM, hb_⟩; obtain ⟨Aa, cA, la, rfl, -⟩ := hM.parts; replace hS := hS.ret hb_ stable_set hM; clear hb_ hM)
        | ((with_reducible show Calls _ _ #[.int .u64 (t : Nat)] _ _); refine (HLt.out _).mono ?_; rintro r_ w_ ⟨_, rfl, hM, hb_⟩; obtain ⟨Ab, cB, lb, rfl, -⟩ := hM.parts; replace hS := hS.ret hb_ stable_set hM; clear hb_ hM))
    | ((with_reducible show wpList _ _ _ (⟨some 9, _, _, _, _, _⟩ :: _) _ _); refine st_alloc hS rfl _ rfl (by kernel_rfl) ?_; clear hS; intro g9 w_ hS; (try simp only [Act.put, Act.eval, List.set_cons_zero, List.set_cons_succ, List.setIfInBounds_toArray, Array.getD_eq_getD_getElem?, List.getElem?_toArray, List.getElem?_cons_succ, List.getElem?_cons_zero, Option.getD_some, Value.cells] at hS))
    | ((with_reducible show wpList _ _ _ (⟨some 10, _, _, _, _, _⟩ :: _) _ _); refine st_alloc hS rfl _ rfl (by kernel_rfl) ?_; clear hS; intro g10 w_ hS; (try simp only [Act.put, Act.eval, List.set_cons_zero, List.set_cons_succ, List.setIfInBounds_toArray, Array.getD_eq_getD_getElem?, List.getElem?_toArray, List.getElem?_cons_succ, List.getElem?_cons_zero, Option.getD_some, Value.cells] at hS))
    | ((with_reducible show wpList _ _ _ (⟨_, .store _ _ _, _, _, _, _⟩ :: _) _ _); (first | (refine st_store hS 0 rfl _ _ _ rfl _ _ rfl rfl _ _ rfl (by kernel_rfl) (by kernel_rfl) (by kernel_rfl) ?_) | (refine st_store hS 1 rfl _ _ _ rfl _ _ rfl rfl _ _ rfl (by kernel_rfl) (by kernel_rfl) (by kernel_rfl) ?_) | (refine st_store hS 2 rfl _ _ _ rfl _ _ rfl rfl _ _ rfl (by kernel_rfl) (by kernel_rfl) (by kernel_rfl) ?_) | (refine st_store hS 3 rfl _ _ _ rfl _ _ rfl rfl _ _ rfl (by kernel_rfl) (by kernel_rfl) (by kernel_rfl) ?_) | (refine st_cstore hS 0 rfl _ _ _ rfl _ _ _ rfl rfl rfl (by first | (simp; done) | (simp; omega) | exact of_decide_eq_true (by kernel_rfl)) rfl (by first | rfl | assumption) (by kernel_rfl) ?_) | (refine st_cstore hS 1 rfl _ _ _ rfl _ _ _ rfl rfl rfl (by first | (simp; done) | (simp; omega) | exact of_decide_eq_true (by kernel_rfl)) rfl (by first | rfl | assumption) (by kernel_rfl) ?_) | (refine st_cstore hS 2 rfl _ _ _ rfl _ _ _ rfl rfl rfl (by first | (simp; done) | (simp; omega) | exact of_decide_eq_true (by kernel_rfl)) rfl (by first | rfl | assumption) (by kernel_rfl) ?_) | (refine st_cstore hS 3 rfl _ _ _ rfl _ _ _ rfl rfl rfl (by first | (simp; done) | (simp; omega) | exact of_decide_eq_true (by kernel_rfl)) rfl (by first | rfl | assumption) (by kernel_rfl) ?_)); clear hS; intro w_ hS; (try simp only [Act.put, Act.eval, List.set_cons_zero, List.set_cons_succ, List.setIfInBounds_toArray, Array.getD_eq_getD_getElem?, List.getElem?_toArray, List.getElem?_cons_succ, List.getElem?_cons_zero, Option.getD_some, Value.cells] at hS)))
  simp only [Act.put, List.setIfInBounds_toArray, List.set_cons_zero, List.set_cons_succ]
  obtain ⟨KZ, ki, kt2, ka, kb, hS2⟩ : ∃ KZ : (Nat → Prop) → World → Prop, (∀ D w, KZ D w → IsH w D (.pointer (some ⟨q, 0, none⟩)) L) ∧ (∀ D w, KZ D w → DTab w) ∧ (∀ D w, KZ D w → IsSet w D (.agg #[.slice Aa la.length cA]) Ms) ∧ (∀ D w, KZ D w → IsSet w D (.agg #[.slice Ab lb.length cB]) Mt) ∧ St W w_ [.box g10 42 #[.slice Ab lb.length cB], .box g9 42 #[.slice Aa la.length cA]] KZ := ⟨_, fun D w h => kI D w h.1.1, fun D w h => kT D w h.1.1, fun D w h => h.1.2, fun D w h => h.2, hS⟩
  clear hS kI kT HLs HLt kt
  have hS := hS2
  clear hS2
  refine wp_region_tail2 (fun i__ lo hi v w => match i__ with
    | 0 => v = .pointer (some ⟨q, 0, none⟩)
    | 1 => v = .agg #[.slice Aa la.length cA]
    | 2 => IsSet w (fun b => lo ≤ b ∧ b < hi) v (closM L Ms)
    | 3 => v = .pointer (some ⟨q, 0, none⟩)
    | 4 => v = .agg #[.slice Ab lb.length cB]
    | 5 => IsSet w (fun b => lo ≤ b ∧ b < hi) v (closM L Mt)
    | 6 => ∃ g, v = .pointer (some ⟨g, 0, none⟩) ∧ Box w g 42 (zeroCells Tryd.prog 42) ∧ lo ≤ g ∧ g < hi
    | 7 => ∃ g, v = .pointer (some ⟨g, 0, none⟩) ∧ Box w g 42 (zeroCells Tryd.prog 42) ∧ lo ≤ g ∧ g < hi
    | 8 => True
    | 9 => True
    | _ => True) 8 [9] (by kernel_rfl) (by kernel_rfl) (by kernel_rfl) (by kernel_rfl) (by kernel_rfl) ?mono ⟨.inr ?r0, .inr ?r1, .inr ?r2, .inr ?r3, .inr ?r4, .inr ?r5, .inr ?r6, .inr ?r7, .inl (by decide), .inl (by decide), trivial⟩ ?post
  case mono =>
    intro i lo hi v w w' h hb
    match i, h with
    | 0, h => exact h
    | 1, h => exact h
    | 2, h => exact IsSet.ext h hb
    | 3, h => exact h
    | 4, h => exact h
    | 5, h => exact IsSet.ext h hb
    | 6, h => exact by obtain ⟨g, e, hb2, h1⟩ := h; exact ⟨g, e, hb2.ext hb, h1⟩
    | 7, h => exact by obtain ⟨g, e, hb2, h1⟩ := h; exact ⟨g, e, hb2.ext hb, h1⟩
    | 8, h => exact h
    | 9, h => exact h
    | _ + 10, h => trivial
  case r0 =>
    refine truleG fun b__ w hW hold hpre => ⟨fun hwant K hK => ?_, fun hwant => ?_⟩
    · clear hwant
      have e7 : b__.eval (.tmp 7) = .pointer (some ⟨q, 0, none⟩) := (hold 7 (by kernel_rfl)).trans rfl
      exact opw_move rfl e7 (hK _ _ rfl (Below.refl _ _))
    · rw [want_none rfl] at hwant; cases hwant
  case r1 =>
    refine truleG fun b__ w hW hold hpre => ⟨fun hwant K hK => ?_, fun hwant => ?_⟩
    · clear hwant
      have e9 : b__.eval (.tmp 9) = .pointer (some ⟨g9, 0, none⟩) := (hold 9 (by kernel_rfl)).trans rfl
      exact opw_row rfl e9 ((hS.ext (undrew hW)).box 1 rfl) Tryd.underlying42 rfl (by kernel_rfl) (hK _ _ rfl (Below.refl _ _))
    · rw [want_none rfl] at hwant; cases hwant
  case r2 =>
    refine truleG fun b__ w hW hold hpre => ⟨fun hwant K hK => ?_, fun hwant => ?_⟩
    · clear hwant
      have e26 : b__.eval (.tmp 26) = .pointer (some ⟨q, 0, none⟩) := by obtain ⟨_, _, h⟩ := hpre ⟨0, _⟩ (Array.mem_of_getElem? (i := 0) rfl) rfl _ _ rfl rfl; exact h
      have e27 : b__.eval (.tmp 27) = .agg #[.slice Aa la.length cA] := by obtain ⟨_, _, h⟩ := hpre ⟨1, _⟩ (Array.mem_of_getElem? (i := 1) rfl) rfl _ _ rfl rfl; exact h
      exact opw_call rfl (by kernel_rfl) (by simp [e26, e27]) (hclos_any (ki _ _ (hS.ext (undrew hW)).ro) (kt2 _ _ (hS.ext (undrew hW)).ro) hH.out (ka _ _ (hS.ext (undrew hW)).ro)) fun v w' h hb => hK v w' (h.imp fun z h1 h2 => ⟨h1, h2⟩) hb
    · rw [want_none rfl] at hwant; cases hwant
  case r3 =>
    refine truleG fun b__ w hW hold hpre => ⟨fun hwant K hK => ?_, fun hwant => ?_⟩
    · clear hwant
      have e7 : b__.eval (.tmp 7) = .pointer (some ⟨q, 0, none⟩) := (hold 7 (by kernel_rfl)).trans rfl
      exact opw_move rfl e7 (hK _ _ rfl (Below.refl _ _))
    · rw [want_none rfl] at hwant; cases hwant
  case r4 =>
    refine truleG fun b__ w hW hold hpre => ⟨fun hwant K hK => ?_, fun hwant => ?_⟩
    · clear hwant
      have e10 : b__.eval (.tmp 10) = .pointer (some ⟨g10, 0, none⟩) := (hold 10 (by kernel_rfl)).trans rfl
      exact opw_row rfl e10 ((hS.ext (undrew hW)).box 0 rfl) Tryd.underlying42 rfl (by kernel_rfl) (hK _ _ rfl (Below.refl _ _))
    · rw [want_none rfl] at hwant; cases hwant
  case r5 =>
    refine truleG fun b__ w hW hold hpre => ⟨fun hwant K hK => ?_, fun hwant => ?_⟩
    · clear hwant
      have e29 : b__.eval (.tmp 29) = .pointer (some ⟨q, 0, none⟩) := by obtain ⟨_, _, h⟩ := hpre ⟨3, _⟩ (Array.mem_of_getElem? (i := 0) rfl) rfl _ _ rfl rfl; exact h
      have e30 : b__.eval (.tmp 30) = .agg #[.slice Ab lb.length cB] := by obtain ⟨_, _, h⟩ := hpre ⟨4, _⟩ (Array.mem_of_getElem? (i := 1) rfl) rfl _ _ rfl rfl; exact h
      exact opw_call rfl (by kernel_rfl) (by simp [e29, e30]) (hclos_any (ki _ _ (hS.ext (undrew hW)).ro) (kt2 _ _ (hS.ext (undrew hW)).ro) hH.out (kb _ _ (hS.ext (undrew hW)).ro)) fun v w' h hb => hK v w' (h.imp fun z h1 h2 => ⟨h1, h2⟩) hb
    · rw [want_none rfl] at hwant; cases hwant
  case r6 =>
    refine truleG fun b__ w hW hold hpre => ⟨fun hwant K hK => opw_alloc rfl (by kernel_rfl) fun w' hb hbel => hK _ _ ⟨_, rfl, hb, Nat.le_refl _, hb.lt⟩ hbel, fun hwant => ?_⟩
    rw [want_none rfl] at hwant; cases hwant
  case r7 =>
    refine truleG fun b__ w hW hold hpre => ⟨fun hwant K hK => opw_alloc rfl (by kernel_rfl) fun w' hb hbel => hK _ _ ⟨_, rfl, hb, Nat.le_refl _, hb.lt⟩ hbel, fun hwant => ?_⟩
    rw [want_none rfl] at hwant; cases hwant
  case post =>
    intro b__ wz lo hi hW hdf hsz hold hT hap hlim
    have e11 : (fun (v : Value) (w : World) => ∃ g, v = .pointer (some ⟨g, 0, none⟩) ∧ Box w g 42 (zeroCells Tryd.prog 42) ∧ (lo 6) ≤ g ∧ g < (hi 6)) (b__.eval (.tmp 11)) wz := hT 6 _ 11 (by decide) rfl rfl
    have e28 : (fun (v : Value) (w : World) => IsSet w (fun b => (lo 2) ≤ b ∧ b < (hi 2)) v (closM L Ms)) (b__.eval (.tmp 28)) wz := hT 2 _ 28 (by decide) rfl rfl
    have e12 : (fun (v : Value) (w : World) => ∃ g, v = .pointer (some ⟨g, 0, none⟩) ∧ Box w g 42 (zeroCells Tryd.prog 42) ∧ (lo 7) ≤ g ∧ g < (hi 7)) (b__.eval (.tmp 12)) wz := hT 7 _ 12 (by decide) rfl rfl
    have e31 : (fun (v : Value) (w : World) => IsSet w (fun b => (lo 5) ≤ b ∧ b < (hi 5)) v (closM L Mt)) (b__.eval (.tmp 31)) wz := hT 5 _ 31 (by decide) rfl rfl
    have e26 : b__.eval (.tmp 26) = .pointer (some ⟨q, 0, none⟩) := hT 0 _ 26 (by decide) rfl rfl
    have e27 : b__.eval (.tmp 27) = .agg #[.slice Aa la.length cA] := hT 1 _ 27 (by decide) rfl rfl
    have e29 : b__.eval (.tmp 29) = .pointer (some ⟨q, 0, none⟩) := hT 3 _ 29 (by decide) rfl rfl
    have e30 : b__.eval (.tmp 30) = .agg #[.slice Ab lb.length cB] := hT 4 _ 30 (by decide) rfl rfl
    obtain ⟨vs, hvs, hb⟩ := frame_of hdf hsz hold
    replace e11 := (hvs 11) ▸ e11
    replace e28 := (hvs 28) ▸ e28
    replace e12 := (hvs 12) ▸ e12
    replace e31 := (hvs 31) ▸ e31
    replace e26 : vs 26 = .pointer (some ⟨q, 0, none⟩) := (hvs 26).symm.trans e26
    replace e27 : vs 27 = .agg #[.slice Aa la.length cA] := (hvs 27).symm.trans e27
    replace e29 : vs 29 = .pointer (some ⟨q, 0, none⟩) := (hvs 29).symm.trans e29
    replace e30 : vs 30 = .agg #[.slice Ab lb.length cB] := (hvs 30).symm.trans e30
    subst hb
    clear hvs hold hT hdf hsz
    simp only [setAll, Act.put, List.setIfInBounds_toArray, List.set_cons_zero, List.set_cons_succ, List.getElem_toArray, List.getElem_cons_succ, List.getElem_cons_zero]
    obtain ⟨g11, e11, hb11, l11, u11⟩ := e11
    obtain ⟨g12, e12, hb12, l12, u12⟩ := e12
    replace e28 : IsSet wz (fun b => lo 2 ≤ b ∧ b < hi 2) (vs 28) (closM L Ms) := e28
    replace e31 : IsSet wz (fun b => lo 5 ≤ b ∧ b < hi 5) (vs 31) (closM L Mt) := e31
    have a67 := hap 6 7 (by decide) (by decide) (by decide) (by decide) (by decide)
    have a62 := hap 6 2 (by decide) (by decide) (by decide) (by decide) (by decide)
    have a65 := hap 6 5 (by decide) (by decide) (by decide) (by decide) (by decide)
    have a72 := hap 7 2 (by decide) (by decide) (by decide) (by decide) (by decide)
    have a75 := hap 7 5 (by decide) (by decide) (by decide) (by decide) (by decide)
    have L6 := (hlim 6 (by decide) (by decide)).1
    have L7 := (hlim 7 (by decide) (by decide)).1
    have L2 := (hlim 2 (by decide) (by decide)).1
    have L5 := (hlim 5 (by decide) (by decide)).1
    have n1 : g11 ≠ g12 := by omega
    obtain ⟨Ac, cC, lc, hvc, -⟩ := e28.parts
    obtain ⟨Ad, cD, ld, hvd, -⟩ := e31.parts
    rw [hvc] at e28
    rw [hvd] at e31
    have r1 : IsSet wz (fun b => w_.heap.size ≤ b ∧ b ≠ g11 ∧ b ≠ g12) (.agg #[.slice Ac lc.length cC]) (closM L Ms) := e28.imp fun b h _ => by omega
    have r2 : IsSet wz (fun b => w_.heap.size ≤ b ∧ b ≠ g11 ∧ b ≠ g12) (.agg #[.slice Ad ld.length cD]) (closM L Mt) := e31.imp fun b h _ => by omega
    have hfr : ∀ b, (w_.heap.size ≤ b ∧ b ≠ g11 ∧ b ≠ g12) → Free [.box g11 42 (zeroCells Tryd.prog 42), .box g12 42 (zeroCells Tryd.prog 42), .box g10 42 #[.slice Ab lb.length cB], .box g9 42 #[.slice Aa la.length cA]] b := fun b hb f hf => by
      rcases List.mem_cons.1 hf with rfl | hf
      · exact fun e => hb.2.1 (by injection e with e; exact e.symm)
      · rcases List.mem_cons.1 hf with rfl | hf
        · exact fun e => hb.2.2 (by injection e with e; exact e.symm)
        · exact hS.fresh hb.1 f hf
    have hS2 := ((hS.new2 hW (.box g11 42 (zeroCells Tryd.prog 42)) (.box g12 42 (zeroCells Tryd.prog 42)) ⟨by omega, hb11⟩ ⟨by omega, hb12⟩ (by intro k e e2; cases e; cases e2; exact n1 rfl)).add stable_set r1 (fun b h _ => hfr b h)).add stable_set r2 (fun b h _ => hfr b h)
    clear hS r1 r2 hfr
    have hS := hS2
    clear hS2
    simp only [show vs (11 : Nat) = _ from e11, show vs (12 : Nat) = _ from e12, hvc, hvd]
    (intro o_ ho_; simp only [List.getElem?_toArray, List.getElem?_cons_succ, List.getElem?_cons_zero, Option.some.injEq] at ho_; subst ho_)
    refine opw_store rfl rfl rfl (hS.box 0 rfl) (by kernel_rfl) (by kernel_rfl) (by first | rfl | (simp; done) | (simp; rfl)) fun w4 h4 hU4 => ?_
    replace hS := hS.upd 0 rfl (.box g11 42 #[.slice Ac lc.length cC]) (upd_gb hU4) ⟨(hS.holds (.box g11 42 (zeroCells Tryd.prog 42)) (by simp)).1, h4⟩ fun _ e => .inl e
    (intro o_ ho_; simp only [List.getElem?_toArray, List.getElem?_cons_succ, List.getElem?_cons_zero, Option.some.injEq] at ho_; subst ho_)
    simp only [Act.put, List.setIfInBounds_toArray, List.set_cons_zero, List.set_cons_succ]
    refine opw_store rfl rfl rfl (hS.box 1 rfl) (by kernel_rfl) (by kernel_rfl) (by first | rfl | (simp; done) | (simp; rfl)) fun w5 h5 hU5 => ?_
    replace hS := hS.upd 1 rfl (.box g12 42 #[.slice Ad ld.length cD]) (upd_gb hU5) ⟨(hS.holds (.box g12 42 (zeroCells Tryd.prog 42)) (by simp)).1, h5⟩ fun _ e => .inl e
    simp only [TailWp]
    simp only [Act.put, List.setIfInBounds_toArray, List.set_cons_zero, List.set_cons_succ]
    clear h4 h5 hU4 hU5 hb11 hb12 e28 e31 e11 e12 hvc hvd hW hap hlim
    --R8
    go_wp2_with fail
    have H1 := Lib.hid (sub_iff.2 (clos_sup hH.out HRs.out))
    have H2 := Lib.hid (show (closM L (closM L Ms) == closM L Ms) = true by rw [clos_idem hH.out]; exact beq_self_eq_true _)
    have H3 := Lib.hid (show (closM L (Ms ||| Mt) == (closM L Ms ||| closM L Mt)) = true by rw [clos_or]; exact beq_self_eq_true _)
    have H5 := Lib.hid (clos_and (L := L) Ms Mt)
    obtain ⟨KU, ki, kt2, ka, kb, kc, kd, hS2⟩ : ∃ KU : (Nat → Prop) → World → Prop, (∀ D w, KU D w → IsH w D (.pointer (some ⟨q, 0, none⟩)) L) ∧ (∀ D w, KU D w → DTab w) ∧ (∀ D w, KU D w → IsSet w D (.agg #[.slice Aa la.length cA]) Ms) ∧ (∀ D w, KU D w → IsSet w D (.agg #[.slice Ab lb.length cB]) Mt) ∧ (∀ D w, KU D w → IsSet w D (.agg #[.slice Ac lc.length cC]) (closM L Ms)) ∧ (∀ D w, KU D w → IsSet w D (.agg #[.slice Ad ld.length cD]) (closM L Mt)) ∧ St W w5 [.box g11 42 #[.slice Ac lc.length cC], .box g12 42 #[.slice Ad ld.length cD], .box g10 42 #[.slice Ab lb.length cB], .box g9 42 #[.slice Aa la.length cA]] KU := ⟨_, fun D w h => ki D w h.1.1, fun D w h => kt2 D w h.1.1, fun D w h => ka D w h.1.1, fun D w h => kb D w h.1.1, fun D w h => h.1.2, fun D w h => h.2, hS⟩
    clear hS
    have hS := hS2
    clear hS2
    cases hB : (Ms &&& Mt == Ms)
    · have HB := Lib.hid hB
      clear hB
      refine wp_region_typed (fun i__ v w => match i__ with
        | 0 => v = .agg #[.slice Aa la.length cA]
        | 1 => v = .agg #[.slice Ac lc.length cC]
        | 2 => v = .bool true
        | 3 => v = .bool true
        | 4 => v = .pointer (some ⟨q, 0, none⟩)
        | 5 => v = .agg #[.slice Ac lc.length cC]
        | 6 => IsSet w (fun _ => True) v (closM L (closM L Ms))
        | 7 => v = .agg #[.slice Ac lc.length cC]
        | 8 => v = .bool true
        | 9 => v = .bool true
        | 10 => v = .bool true
        | 11 => v = .pointer (some ⟨q, 0, none⟩)
        | 12 => v = .agg #[.slice Aa la.length cA]
        | 13 => v = .agg #[.slice Ab lb.length cB]
        | 14 => IsSet w (fun _ => True) v (Ms ||| Mt)
        | 15 => IsSet w (fun _ => True) v (closM L (Ms ||| Mt))
        | 16 => v = .agg #[.slice Ac lc.length cC]
        | 17 => v = .agg #[.slice Ad ld.length cD]
        | 18 => IsSet w (fun _ => True) v (closM L Ms ||| closM L Mt)
        | 19 => v = .bool true
        | 20 => v = .bool true
        | 21 => v = .bool true
        | 22 => v = .agg #[.slice Aa la.length cA]
        | 23 => v = .agg #[.slice Ab lb.length cB]
        | 24 => v = .bool false
        | 25 => v = .bool true
        | 26 => v = .bool true
        | 27 => True
        | 28 => True
        | 29 => True
        | 30 => v = .bool true
        | 31 => v = .bool true
        | 32 => v = .bool true
        | 33 => v = .pointer (some ⟨q, 0, none⟩)
        | 34 => v = .agg #[.slice Aa la.length cA]
        | 35 => v = .agg #[.slice Ab lb.length cB]
        | 36 => IsSet w (fun _ => True) v (Ms &&& Mt)
        | 37 => IsSet w (fun _ => True) v (closM L (Ms &&& Mt))
        | 38 => v = .agg #[.slice Ac lc.length cC]
        | 39 => v = .agg #[.slice Ad ld.length cD]
        | 40 => IsSet w (fun _ => True) v (closM L Ms &&& closM L Mt)
        | 41 => v = .bool true
        | 42 => v = .bool true
        | 43 => v = .bool true
        | _ => True) (by kernel_rfl) (by kernel_rfl) ?mono ⟨?r0, ?r1, ?r2, ?r3, ?r4, ?r5, ?r6, ?r7, ?r8, ?r9, ?r10, ?r11, ?r12, ?r13, ?r14, ?r15, ?r16, ?r17, ?r18, ?r19, ?r20, ?r21, ?r22, ?r23, ?r24, ?r25, ?r26, ?r27, ?r28, ?r29, ?r30, ?r31, ?r32, ?r33, ?r34, ?r35, ?r36, ?r37, ?r38, ?r39, ?r40, ?r41, ?r42, ?r43, trivial⟩ ?post
      case mono =>
        intro i v w w' h hb
        match i, h with
        | 0, h => exact h
        | 1, h => exact h
        | 2, h => exact h
        | 3, h => exact h
        | 4, h => exact h
        | 5, h => exact h
        | 6, h => exact h.ext hb
        | 7, h => exact h
        | 8, h => exact h
        | 9, h => exact h
        | 10, h => exact h
        | 11, h => exact h
        | 12, h => exact h
        | 13, h => exact h
        | 14, h => exact h.ext hb
        | 15, h => exact h.ext hb
        | 16, h => exact h
        | 17, h => exact h
        | 18, h => exact h.ext hb
        | 19, h => exact h
        | 20, h => exact h
        | 21, h => exact h
        | 22, h => exact h
        | 23, h => exact h
        | 24, h => exact h
        | 25, h => exact h
        | 26, h => exact h
        | 27, h => exact h
        | 28, h => exact h
        | 29, h => exact h
        | 30, h => exact h
        | 31, h => exact h
        | 32, h => exact h
        | 33, h => exact h
        | 34, h => exact h
        | 35, h => exact h
        | 36, h => exact h.ext hb
        | 37, h => exact h.ext hb
        | 38, h => exact h
        | 39, h => exact h
        | 40, h => exact h.ext hb
        | 41, h => exact h
        | 42, h => exact h
        | 43, h => exact h
        | _ + 44, h => trivial
      case r0 =>
        refine trule fun b__ w hW hold hpre => ⟨fun hwant K hK => ?_, fun hwant => ?_⟩
        · clear hwant
          have e9 : b__.eval (.tmp 9) = .pointer (some ⟨g9, 0, none⟩) := (hold 9 (by kernel_rfl)).trans rfl
          exact opw_row rfl e9 ((hS.ext (undrew hW)).box 3 rfl) Tryd.underlying42 rfl (by kernel_rfl) (hK _ _ rfl (Below.refl _ _))
        · rw [want_none rfl] at hwant; cases hwant
      case r1 =>
        refine trule fun b__ w hW hold hpre => ⟨fun hwant K hK => ?_, fun hwant => ?_⟩
        · clear hwant
          have e11 : b__.eval (.tmp 11) = .pointer (some ⟨g11, 0, none⟩) := (hold 11 (by kernel_rfl)).trans rfl
          exact opw_row rfl e11 ((hS.ext (undrew hW)).box 0 rfl) Tryd.underlying42 rfl (by kernel_rfl) (hK _ _ rfl (Below.refl _ _))
        · rw [want_none rfl] at hwant; cases hwant
      case r2 =>
        refine trule fun b__ w hW hold hpre => ⟨fun hwant K hK => ?_, fun hwant => ?_⟩
        · clear hwant
          have e32 : b__.eval (.tmp 32) = .agg #[.slice Aa la.length cA] := hpre ⟨0, _⟩ (Array.mem_of_getElem? (i := 0) rfl) rfl _ _ rfl rfl
          have e33 : b__.eval (.tmp 33) = .agg #[.slice Ac lc.length cC] := hpre ⟨1, _⟩ (Array.mem_of_getElem? (i := 1) rfl) rfl _ _ rfl rfl
          exact opw_call rfl (by kernel_rfl) (by simp only [List.map_cons, List.map_nil, e32, e33]) (within_any _ _ _ _ _ _ _ (ka _ _ (hS.ext (undrew hW)).ro) (kc _ _ (hS.ext (undrew hW)).ro)) fun v w' h hb => hK v w' (h.trans (by rw [H1.out])) hb
        · rw [want_none rfl] at hwant; cases hwant
      case r3 =>
        refine trule fun b__ w hW hold hpre => ⟨fun hwant K hK => ?_, fun hwant => ?_⟩
        · clear hwant
          have e34 : b__.eval (.tmp 34) = .bool true := hpre ⟨2, _⟩ (Array.mem_of_getElem? (i := 0) rfl) rfl _ _ rfl rfl
          exact opw_move rfl e34 (hK _ _ rfl (Below.refl _ _))
        · rw [want_none rfl] at hwant; cases hwant
      case r4 =>
        refine trule fun b__ w hW hold hpre => ⟨fun hwant K hK => ?_, fun hwant => ?_⟩
        · clear hwant
          have e7 : b__.eval (.tmp 7) = .pointer (some ⟨q, 0, none⟩) := (hold 7 (by kernel_rfl)).trans rfl
          exact opw_move rfl e7 (hK _ _ rfl (Below.refl _ _))
        · rw [want_some rfl rfl rfl (show b__.eval (.tmp 35) = .bool true from (hpre ⟨3, _⟩ (Array.mem_of_getElem? (i := 0) rfl) rfl _ _ rfl rfl))] at hwant; cases hwant
      case r5 =>
        refine trule fun b__ w hW hold hpre => ⟨fun hwant K hK => ?_, fun hwant => ?_⟩
        · clear hwant
          have e11 : b__.eval (.tmp 11) = .pointer (some ⟨g11, 0, none⟩) := (hold 11 (by kernel_rfl)).trans rfl
          exact opw_row rfl e11 ((hS.ext (undrew hW)).box 0 rfl) Tryd.underlying42 rfl (by kernel_rfl) (hK _ _ rfl (Below.refl _ _))
        · rw [want_some rfl rfl rfl (show b__.eval (.tmp 35) = .bool true from (hpre ⟨3, _⟩ (Array.mem_of_getElem? (i := 0) rfl) rfl _ _ rfl rfl))] at hwant; cases hwant
      case r6 =>
        refine trule fun b__ w hW hold hpre => ⟨fun hwant K hK => ?_, fun hwant => ?_⟩
        · clear hwant
          have e36 : b__.eval (.tmp 36) = .pointer (some ⟨q, 0, none⟩) := hpre ⟨4, _⟩ (Array.mem_of_getElem? (i := 0) rfl) rfl _ _ rfl rfl
          have e37 : b__.eval (.tmp 37) = .agg #[.slice Ac lc.length cC] := hpre ⟨5, _⟩ (Array.mem_of_getElem? (i := 1) rfl) rfl _ _ rfl rfl
          exact opw_call rfl (by kernel_rfl) (by simp only [List.map_cons, List.map_nil, e36, e37]) (hclos_any (ki _ _ (hS.ext (undrew hW)).ro) (kt2 _ _ (hS.ext (undrew hW)).ro) hH.out (kc _ _ (hS.ext (undrew hW)).ro)) fun v w' h hb => hK v w' (h.imp fun _ _ _ => trivial) hb
        · rw [want_some rfl rfl rfl (show b__.eval (.tmp 35) = .bool true from (hpre ⟨3, _⟩ (Array.mem_of_getElem? (i := 2) rfl) rfl _ _ rfl rfl))] at hwant; cases hwant
      case r7 =>
        refine trule fun b__ w hW hold hpre => ⟨fun hwant K hK => ?_, fun hwant => ?_⟩
        · clear hwant
          have e11 : b__.eval (.tmp 11) = .pointer (some ⟨g11, 0, none⟩) := (hold 11 (by kernel_rfl)).trans rfl
          exact opw_row rfl e11 ((hS.ext (undrew hW)).box 0 rfl) Tryd.underlying42 rfl (by kernel_rfl) (hK _ _ rfl (Below.refl _ _))
        · rw [want_some rfl rfl rfl (show b__.eval (.tmp 35) = .bool true from (hpre ⟨3, _⟩ (Array.mem_of_getElem? (i := 0) rfl) rfl _ _ rfl rfl))] at hwant; cases hwant
      case r8 =>
        refine trule fun b__ w hW hold hpre => ⟨fun hwant K hK => ?_, fun hwant => ?_⟩
        · clear hwant
          have e38 : (fun (v : Value) (w : World) => IsSet w (fun _ => True) v (closM L (closM L Ms))) (b__.eval (.tmp 38)) w := hpre ⟨6, _⟩ (Array.mem_of_getElem? (i := 0) rfl) rfl _ _ rfl rfl
          have e39 : b__.eval (.tmp 39) = .agg #[.slice Ac lc.length cC] := hpre ⟨7, _⟩ (Array.mem_of_getElem? (i := 1) rfl) rfl _ _ rfl rfl
          exact opw_call rfl (by kernel_rfl) (by simp only [List.map_cons, List.map_nil, e39]) (equal_any _ _ _ _ _ _ _ e38 (kc _ _ (hS.ext (undrew hW)).ro)) fun v w' h hb => hK v w' (h.trans (by rw [H2.out])) hb
        · rw [want_some rfl rfl rfl (show b__.eval (.tmp 35) = .bool true from (hpre ⟨3, _⟩ (Array.mem_of_getElem? (i := 3) rfl) rfl _ _ rfl rfl))] at hwant; cases hwant
      case r9 =>
        refine trule fun b__ w hW hold hpre => ⟨fun hwant K hK => ?_, fun hwant => ?_⟩
        · clear hwant
          have e35 : b__.eval (.tmp 35) = .bool true := hpre ⟨3, _⟩ (Array.mem_of_getElem? (i := 0) rfl) rfl _ _ rfl rfl
          have e40 : b__.eval (.tmp 40) = .bool true := hpre ⟨8, _⟩ (Array.mem_of_getElem? (i := 1) rfl) rfl _ _ rfl rfl
          exact opw_pick rfl e35 (if_pos rfl) (hK _ _ e40 (Below.refl _ _))
        · rw [want_none rfl] at hwant; cases hwant
      case r10 =>
        refine trule fun b__ w hW hold hpre => ⟨fun hwant K hK => ?_, fun hwant => ?_⟩
        · clear hwant
          have e41 : b__.eval (.tmp 41) = .bool true := hpre ⟨9, _⟩ (Array.mem_of_getElem? (i := 0) rfl) rfl _ _ rfl rfl
          exact opw_move rfl e41 (hK _ _ rfl (Below.refl _ _))
        · rw [want_none rfl] at hwant; cases hwant
      case r11 =>
        refine trule fun b__ w hW hold hpre => ⟨fun hwant K hK => ?_, fun hwant => ?_⟩
        · clear hwant
          have e7 : b__.eval (.tmp 7) = .pointer (some ⟨q, 0, none⟩) := (hold 7 (by kernel_rfl)).trans rfl
          exact opw_move rfl e7 (hK _ _ rfl (Below.refl _ _))
        · rw [want_some rfl rfl rfl (show b__.eval (.tmp 42) = .bool true from (hpre ⟨10, _⟩ (Array.mem_of_getElem? (i := 0) rfl) rfl _ _ rfl rfl))] at hwant; cases hwant
      case r12 =>
        refine trule fun b__ w hW hold hpre => ⟨fun hwant K hK => ?_, fun hwant => ?_⟩
        · clear hwant
          have e9 : b__.eval (.tmp 9) = .pointer (some ⟨g9, 0, none⟩) := (hold 9 (by kernel_rfl)).trans rfl
          exact opw_row rfl e9 ((hS.ext (undrew hW)).box 3 rfl) Tryd.underlying42 rfl (by kernel_rfl) (hK _ _ rfl (Below.refl _ _))
        · rw [want_some rfl rfl rfl (show b__.eval (.tmp 42) = .bool true from (hpre ⟨10, _⟩ (Array.mem_of_getElem? (i := 0) rfl) rfl _ _ rfl rfl))] at hwant; cases hwant
      case r13 =>
        refine trule fun b__ w hW hold hpre => ⟨fun hwant K hK => ?_, fun hwant => ?_⟩
        · clear hwant
          have e10 : b__.eval (.tmp 10) = .pointer (some ⟨g10, 0, none⟩) := (hold 10 (by kernel_rfl)).trans rfl
          exact opw_row rfl e10 ((hS.ext (undrew hW)).box 2 rfl) Tryd.underlying42 rfl (by kernel_rfl) (hK _ _ rfl (Below.refl _ _))
        · rw [want_some rfl rfl rfl (show b__.eval (.tmp 42) = .bool true from (hpre ⟨10, _⟩ (Array.mem_of_getElem? (i := 0) rfl) rfl _ _ rfl rfl))] at hwant; cases hwant
      case r14 =>
        refine trule fun b__ w hW hold hpre => ⟨fun hwant K hK => ?_, fun hwant => ?_⟩
        · clear hwant
          have e44 : b__.eval (.tmp 44) = .agg #[.slice Aa la.length cA] := hpre ⟨12, _⟩ (Array.mem_of_getElem? (i := 0) rfl) rfl _ _ rfl rfl
          have e45 : b__.eval (.tmp 45) = .agg #[.slice Ab lb.length cB] := hpre ⟨13, _⟩ (Array.mem_of_getElem? (i := 1) rfl) rfl _ _ rfl rfl
          exact opw_call rfl (by kernel_rfl) (by simp only [List.map_cons, List.map_nil, e44, e45]) (or_any _ _ _ _ _ _ _ (ka _ _ (hS.ext (undrew hW)).ro) (kb _ _ (hS.ext (undrew hW)).ro)) fun v w' h hb => hK v w' (h.imp fun _ _ _ => trivial) hb
        · rw [want_some rfl rfl rfl (show b__.eval (.tmp 42) = .bool true from (hpre ⟨10, _⟩ (Array.mem_of_getElem? (i := 2) rfl) rfl _ _ rfl rfl))] at hwant; cases hwant
      case r15 =>
        refine trule fun b__ w hW hold hpre => ⟨fun hwant K hK => ?_, fun hwant => ?_⟩
        · clear hwant
          have e43 : b__.eval (.tmp 43) = .pointer (some ⟨q, 0, none⟩) := hpre ⟨11, _⟩ (Array.mem_of_getElem? (i := 0) rfl) rfl _ _ rfl rfl
          have e46 : (fun (v : Value) (w : World) => IsSet w (fun _ => True) v (Ms ||| Mt)) (b__.eval (.tmp 46)) w := hpre ⟨14, _⟩ (Array.mem_of_getElem? (i := 1) rfl) rfl _ _ rfl rfl
          exact opw_call rfl (by kernel_rfl) (by simp only [List.map_cons, List.map_nil, e43]) (hclos_any (ki _ _ (hS.ext (undrew hW)).ro) (kt2 _ _ (hS.ext (undrew hW)).ro) hH.out e46) fun v w' h hb => hK v w' (h.imp fun _ _ _ => trivial) hb
        · rw [want_some rfl rfl rfl (show b__.eval (.tmp 42) = .bool true from (hpre ⟨10, _⟩ (Array.mem_of_getElem? (i := 3) rfl) rfl _ _ rfl rfl))] at hwant; cases hwant
      case r16 =>
        refine trule fun b__ w hW hold hpre => ⟨fun hwant K hK => ?_, fun hwant => ?_⟩
        · clear hwant
          have e11 : b__.eval (.tmp 11) = .pointer (some ⟨g11, 0, none⟩) := (hold 11 (by kernel_rfl)).trans rfl
          exact opw_row rfl e11 ((hS.ext (undrew hW)).box 0 rfl) Tryd.underlying42 rfl (by kernel_rfl) (hK _ _ rfl (Below.refl _ _))
        · rw [want_some rfl rfl rfl (show b__.eval (.tmp 42) = .bool true from (hpre ⟨10, _⟩ (Array.mem_of_getElem? (i := 0) rfl) rfl _ _ rfl rfl))] at hwant; cases hwant
      case r17 =>
        refine trule fun b__ w hW hold hpre => ⟨fun hwant K hK => ?_, fun hwant => ?_⟩
        · clear hwant
          have e12 : b__.eval (.tmp 12) = .pointer (some ⟨g12, 0, none⟩) := (hold 12 (by kernel_rfl)).trans rfl
          exact opw_row rfl e12 ((hS.ext (undrew hW)).box 1 rfl) Tryd.underlying42 rfl (by kernel_rfl) (hK _ _ rfl (Below.refl _ _))
        · rw [want_some rfl rfl rfl (show b__.eval (.tmp 42) = .bool true from (hpre ⟨10, _⟩ (Array.mem_of_getElem? (i := 0) rfl) rfl _ _ rfl rfl))] at hwant; cases hwant
      case r18 =>
        refine trule fun b__ w hW hold hpre => ⟨fun hwant K hK => ?_, fun hwant => ?_⟩
        · clear hwant
          have e48 : b__.eval (.tmp 48) = .agg #[.slice Ac lc.length cC] := hpre ⟨16, _⟩ (Array.mem_of_getElem? (i := 0) rfl) rfl _ _ rfl rfl
          have e49 : b__.eval (.tmp 49) = .agg #[.slice Ad ld.length cD] := hpre ⟨17, _⟩ (Array.mem_of_getElem? (i := 1) rfl) rfl _ _ rfl rfl
          exact opw_call rfl (by kernel_rfl) (by simp only [List.map_cons, List.map_nil, e48, e49]) (or_any _ _ _ _ _ _ _ (kc _ _ (hS.ext (undrew hW)).ro) (kd _ _ (hS.ext (undrew hW)).ro)) fun v w' h hb => hK v w' (h.imp fun _ _ _ => trivial) hb
        · rw [want_some rfl rfl rfl (show b__.eval (.tmp 42) = .bool true from (hpre ⟨10, _⟩ (Array.mem_of_getElem? (i := 3) rfl) rfl _ _ rfl rfl))] at hwant; cases hwant
      case r19 =>
        refine trule fun b__ w hW hold hpre => ⟨fun hwant K hK => ?_, fun hwant => ?_⟩
        · clear hwant
          have e47 : (fun (v : Value) (w : World) => IsSet w (fun _ => True) v (closM L (Ms ||| Mt))) (b__.eval (.tmp 47)) w := hpre ⟨15, _⟩ (Array.mem_of_getElem? (i := 0) rfl) rfl _ _ rfl rfl
          have e50 : (fun (v : Value) (w : World) => IsSet w (fun _ => True) v (closM L Ms ||| closM L Mt)) (b__.eval (.tmp 50)) w := hpre ⟨18, _⟩ (Array.mem_of_getElem? (i := 1) rfl) rfl _ _ rfl rfl
          exact opw_call rfl (by kernel_rfl) (by simp only [List.map_cons, List.map_nil]) (equal_any _ _ _ _ _ _ _ e47 e50) fun v w' h hb => hK v w' (h.trans (by rw [H3.out])) hb
        · rw [want_some rfl rfl rfl (show b__.eval (.tmp 42) = .bool true from (hpre ⟨10, _⟩ (Array.mem_of_getElem? (i := 3) rfl) rfl _ _ rfl rfl))] at hwant; cases hwant
      case r20 =>
        refine trule fun b__ w hW hold hpre => ⟨fun hwant K hK => ?_, fun hwant => ?_⟩
        · clear hwant
          have e42 : b__.eval (.tmp 42) = .bool true := hpre ⟨10, _⟩ (Array.mem_of_getElem? (i := 0) rfl) rfl _ _ rfl rfl
          have e51 : b__.eval (.tmp 51) = .bool true := hpre ⟨19, _⟩ (Array.mem_of_getElem? (i := 1) rfl) rfl _ _ rfl rfl
          exact opw_pick rfl e42 (if_pos rfl) (hK _ _ e51 (Below.refl _ _))
        · rw [want_none rfl] at hwant; cases hwant
      case r21 =>
        refine trule fun b__ w hW hold hpre => ⟨fun hwant K hK => ?_, fun hwant => ?_⟩
        · clear hwant
          have e52 : b__.eval (.tmp 52) = .bool true := hpre ⟨20, _⟩ (Array.mem_of_getElem? (i := 0) rfl) rfl _ _ rfl rfl
          exact opw_move rfl e52 (hK _ _ rfl (Below.refl _ _))
        · rw [want_none rfl] at hwant; cases hwant
      case r22 =>
        refine trule fun b__ w hW hold hpre => ⟨fun hwant K hK => ?_, fun hwant => ?_⟩
        · clear hwant
          have e9 : b__.eval (.tmp 9) = .pointer (some ⟨g9, 0, none⟩) := (hold 9 (by kernel_rfl)).trans rfl
          exact opw_row rfl e9 ((hS.ext (undrew hW)).box 3 rfl) Tryd.underlying42 rfl (by kernel_rfl) (hK _ _ rfl (Below.refl _ _))
        · rw [want_some rfl rfl rfl (show b__.eval (.tmp 53) = .bool true from (hpre ⟨21, _⟩ (Array.mem_of_getElem? (i := 0) rfl) rfl _ _ rfl rfl))] at hwant; cases hwant
      case r23 =>
        refine trule fun b__ w hW hold hpre => ⟨fun hwant K hK => ?_, fun hwant => ?_⟩
        · clear hwant
          have e10 : b__.eval (.tmp 10) = .pointer (some ⟨g10, 0, none⟩) := (hold 10 (by kernel_rfl)).trans rfl
          exact opw_row rfl e10 ((hS.ext (undrew hW)).box 2 rfl) Tryd.underlying42 rfl (by kernel_rfl) (hK _ _ rfl (Below.refl _ _))
        · rw [want_some rfl rfl rfl (show b__.eval (.tmp 53) = .bool true from (hpre ⟨21, _⟩ (Array.mem_of_getElem? (i := 0) rfl) rfl _ _ rfl rfl))] at hwant; cases hwant
      case r24 =>
        refine trule fun b__ w hW hold hpre => ⟨fun hwant K hK => ?_, fun hwant => ?_⟩
        · clear hwant
          have e54 : b__.eval (.tmp 54) = .agg #[.slice Aa la.length cA] := hpre ⟨22, _⟩ (Array.mem_of_getElem? (i := 0) rfl) rfl _ _ rfl rfl
          have e55 : b__.eval (.tmp 55) = .agg #[.slice Ab lb.length cB] := hpre ⟨23, _⟩ (Array.mem_of_getElem? (i := 1) rfl) rfl _ _ rfl rfl
          exact opw_call rfl (by kernel_rfl) (by simp only [List.map_cons, List.map_nil, e54, e55]) (within_any _ _ _ _ _ _ _ (ka _ _ (hS.ext (undrew hW)).ro) (kb _ _ (hS.ext (undrew hW)).ro)) fun v w' h hb => hK v w' (h.trans (by rw [HB.out])) hb
        · rw [want_some rfl rfl rfl (show b__.eval (.tmp 53) = .bool true from (hpre ⟨21, _⟩ (Array.mem_of_getElem? (i := 2) rfl) rfl _ _ rfl rfl))] at hwant; cases hwant
      case r25 =>
        refine trule fun b__ w hW hold hpre => ⟨fun hwant K hK => ?_, fun hwant => ?_⟩
        · clear hwant
          have e56 : b__.eval (.tmp 56) = .bool false := hpre ⟨24, _⟩ (Array.mem_of_getElem? (i := 0) rfl) rfl _ _ rfl rfl
          exact opw_un rfl e56 rfl (hK _ _ rfl (Below.refl _ _))
        · rw [want_some rfl rfl rfl (show b__.eval (.tmp 53) = .bool true from (hpre ⟨21, _⟩ (Array.mem_of_getElem? (i := 1) rfl) rfl _ _ rfl rfl))] at hwant; cases hwant
      case r26 =>
        refine trule fun b__ w hW hold hpre => ⟨fun hwant K hK => ?_, fun hwant => ?_⟩
        · clear hwant
          have e57 : b__.eval (.tmp 57) = .bool true := hpre ⟨25, _⟩ (Array.mem_of_getElem? (i := 0) rfl) rfl _ _ rfl rfl
          exact opw_move rfl e57 (hK _ _ rfl (Below.refl _ _))
        · rw [want_some rfl rfl rfl (show b__.eval (.tmp 53) = .bool true from (hpre ⟨21, _⟩ (Array.mem_of_getElem? (i := 2) rfl) rfl _ _ rfl rfl))] at hwant; cases hwant
      case r27 =>
        refine trule fun b__ w hW hold hpre => ⟨fun hwant K hK => ?_, fun hwant => ?_⟩
        · rw [want_some rfl rfl rfl (show b__.eval (.tmp 58) = .bool true from hpre ⟨26, _⟩ (Array.mem_of_getElem? (i := 0) rfl) rfl _ _ rfl rfl)] at hwant; cases hwant
        · exact trivial
      case r28 =>
        refine trule fun b__ w hW hold hpre => ⟨fun hwant K hK => ?_, fun hwant => ?_⟩
        · rw [want_some rfl rfl rfl (show b__.eval (.tmp 58) = .bool true from hpre ⟨26, _⟩ (Array.mem_of_getElem? (i := 0) rfl) rfl _ _ rfl rfl)] at hwant; cases hwant
        · exact trivial
      case r29 =>
        refine trule fun b__ w hW hold hpre => ⟨fun hwant K hK => ?_, fun hwant => ?_⟩
        · rw [want_some rfl rfl rfl (show b__.eval (.tmp 58) = .bool true from hpre ⟨26, _⟩ (Array.mem_of_getElem? (i := 2) rfl) rfl _ _ rfl rfl)] at hwant; cases hwant
        · exact trivial
      case r30 =>
        refine trule fun b__ w hW hold hpre => ⟨fun hwant K hK => ?_, fun hwant => ?_⟩
        · clear hwant
          have e58 : b__.eval (.tmp 58) = .bool true := hpre ⟨26, _⟩ (Array.mem_of_getElem? (i := 0) rfl) rfl _ _ rfl rfl
          have e61 : (fun (v : Value) (w : World) => True) (b__.eval (.tmp 61)) w := hpre ⟨29, _⟩ (Array.mem_of_getElem? (i := 1) rfl) rfl _ _ rfl rfl
          exact opw_pick rfl e58 rfl (hK _ _ rfl (Below.refl _ _))
        · rw [want_some rfl rfl rfl (show b__.eval (.tmp 53) = .bool true from (hpre ⟨21, _⟩ (Array.mem_of_getElem? (i := 2) rfl) rfl _ _ rfl rfl))] at hwant; cases hwant
      case r31 =>
        refine trule fun b__ w hW hold hpre => ⟨fun hwant K hK => ?_, fun hwant => ?_⟩
        · clear hwant
          have e53 : b__.eval (.tmp 53) = .bool true := hpre ⟨21, _⟩ (Array.mem_of_getElem? (i := 0) rfl) rfl _ _ rfl rfl
          have e62 : b__.eval (.tmp 62) = .bool true := hpre ⟨30, _⟩ (Array.mem_of_getElem? (i := 1) rfl) rfl _ _ rfl rfl
          exact opw_pick rfl e53 (if_pos rfl) (hK _ _ e62 (Below.refl _ _))
        · rw [want_none rfl] at hwant; cases hwant
      case r32 =>
        refine trule fun b__ w hW hold hpre => ⟨fun hwant K hK => ?_, fun hwant => ?_⟩
        · clear hwant
          have e63 : b__.eval (.tmp 63) = .bool true := hpre ⟨31, _⟩ (Array.mem_of_getElem? (i := 0) rfl) rfl _ _ rfl rfl
          exact opw_move rfl e63 (hK _ _ rfl (Below.refl _ _))
        · rw [want_none rfl] at hwant; cases hwant
      case r33 =>
        refine trule fun b__ w hW hold hpre => ⟨fun hwant K hK => ?_, fun hwant => ?_⟩
        · clear hwant
          have e7 : b__.eval (.tmp 7) = .pointer (some ⟨q, 0, none⟩) := (hold 7 (by kernel_rfl)).trans rfl
          exact opw_move rfl e7 (hK _ _ rfl (Below.refl _ _))
        · rw [want_some rfl rfl rfl (show b__.eval (.tmp 64) = .bool true from (hpre ⟨32, _⟩ (Array.mem_of_getElem? (i := 0) rfl) rfl _ _ rfl rfl))] at hwant; cases hwant
      case r34 =>
        refine trule fun b__ w hW hold hpre => ⟨fun hwant K hK => ?_, fun hwant => ?_⟩
        · clear hwant
          have e9 : b__.eval (.tmp 9) = .pointer (some ⟨g9, 0, none⟩) := (hold 9 (by kernel_rfl)).trans rfl
          exact opw_row rfl e9 ((hS.ext (undrew hW)).box 3 rfl) Tryd.underlying42 rfl (by kernel_rfl) (hK _ _ rfl (Below.refl _ _))
        · rw [want_some rfl rfl rfl (show b__.eval (.tmp 64) = .bool true from (hpre ⟨32, _⟩ (Array.mem_of_getElem? (i := 0) rfl) rfl _ _ rfl rfl))] at hwant; cases hwant
      case r35 =>
        refine trule fun b__ w hW hold hpre => ⟨fun hwant K hK => ?_, fun hwant => ?_⟩
        · clear hwant
          have e10 : b__.eval (.tmp 10) = .pointer (some ⟨g10, 0, none⟩) := (hold 10 (by kernel_rfl)).trans rfl
          exact opw_row rfl e10 ((hS.ext (undrew hW)).box 2 rfl) Tryd.underlying42 rfl (by kernel_rfl) (hK _ _ rfl (Below.refl _ _))
        · rw [want_some rfl rfl rfl (show b__.eval (.tmp 64) = .bool true from (hpre ⟨32, _⟩ (Array.mem_of_getElem? (i := 0) rfl) rfl _ _ rfl rfl))] at hwant; cases hwant
      case r36 =>
        refine trule fun b__ w hW hold hpre => ⟨fun hwant K hK => ?_, fun hwant => ?_⟩
        · clear hwant
          have e66 : b__.eval (.tmp 66) = .agg #[.slice Aa la.length cA] := hpre ⟨34, _⟩ (Array.mem_of_getElem? (i := 0) rfl) rfl _ _ rfl rfl
          have e67 : b__.eval (.tmp 67) = .agg #[.slice Ab lb.length cB] := hpre ⟨35, _⟩ (Array.mem_of_getElem? (i := 1) rfl) rfl _ _ rfl rfl
          exact opw_call rfl (by kernel_rfl) (by simp only [List.map_cons, List.map_nil, e66, e67]) (and_any (ka _ _ (hS.ext (undrew hW)).ro) (kb _ _ (hS.ext (undrew hW)).ro)) fun v w' h hb => hK v w' (h.imp fun _ _ _ => trivial) hb
        · rw [want_some rfl rfl rfl (show b__.eval (.tmp 64) = .bool true from (hpre ⟨32, _⟩ (Array.mem_of_getElem? (i := 2) rfl) rfl _ _ rfl rfl))] at hwant; cases hwant
      case r37 =>
        refine trule fun b__ w hW hold hpre => ⟨fun hwant K hK => ?_, fun hwant => ?_⟩
        · clear hwant
          have e65 : b__.eval (.tmp 65) = .pointer (some ⟨q, 0, none⟩) := hpre ⟨33, _⟩ (Array.mem_of_getElem? (i := 0) rfl) rfl _ _ rfl rfl
          have e68 : (fun (v : Value) (w : World) => IsSet w (fun _ => True) v (Ms &&& Mt)) (b__.eval (.tmp 68)) w := hpre ⟨36, _⟩ (Array.mem_of_getElem? (i := 1) rfl) rfl _ _ rfl rfl
          exact opw_call rfl (by kernel_rfl) (by simp only [List.map_cons, List.map_nil, e65]) (hclos_any (ki _ _ (hS.ext (undrew hW)).ro) (kt2 _ _ (hS.ext (undrew hW)).ro) hH.out e68) fun v w' h hb => hK v w' (h.imp fun _ _ _ => trivial) hb
        · rw [want_some rfl rfl rfl (show b__.eval (.tmp 64) = .bool true from (hpre ⟨32, _⟩ (Array.mem_of_getElem? (i := 3) rfl) rfl _ _ rfl rfl))] at hwant; cases hwant
      case r38 =>
        refine trule fun b__ w hW hold hpre => ⟨fun hwant K hK => ?_, fun hwant => ?_⟩
        · clear hwant
          have e11 : b__.eval (.tmp 11) = .pointer (some ⟨g11, 0, none⟩) := (hold 11 (by kernel_rfl)).trans rfl
          exact opw_row rfl e11 ((hS.ext (undrew hW)).box 0 rfl) Tryd.underlying42 rfl (by kernel_rfl) (hK _ _ rfl (Below.refl _ _))
        · rw [want_some rfl rfl rfl (show b__.eval (.tmp 64) = .bool true from (hpre ⟨32, _⟩ (Array.mem_of_getElem? (i := 0) rfl) rfl _ _ rfl rfl))] at hwant; cases hwant
      case r39 =>
        refine trule fun b__ w hW hold hpre => ⟨fun hwant K hK => ?_, fun hwant => ?_⟩
        · clear hwant
          have e12 : b__.eval (.tmp 12) = .pointer (some ⟨g12, 0, none⟩) := (hold 12 (by kernel_rfl)).trans rfl
          exact opw_row rfl e12 ((hS.ext (undrew hW)).box 1 rfl) Tryd.underlying42 rfl (by kernel_rfl) (hK _ _ rfl (Below.refl _ _))
        · rw [want_some rfl rfl rfl (show b__.eval (.tmp 64) = .bool true from (hpre ⟨32, _⟩ (Array.mem_of_getElem? (i := 0) rfl) rfl _ _ rfl rfl))] at hwant; cases hwant
      case r40 =>
        refine trule fun b__ w hW hold hpre => ⟨fun hwant K hK => ?_, fun hwant => ?_⟩
        · clear hwant
          have e70 : b__.eval (.tmp 70) = .agg #[.slice Ac lc.length cC] := hpre ⟨38, _⟩ (Array.mem_of_getElem? (i := 0) rfl) rfl _ _ rfl rfl
          have e71 : b__.eval (.tmp 71) = .agg #[.slice Ad ld.length cD] := hpre ⟨39, _⟩ (Array.mem_of_getElem? (i := 1) rfl) rfl _ _ rfl rfl
          exact opw_call rfl (by kernel_rfl) (by simp only [List.map_cons, List.map_nil, e70, e71]) (and_any (kc _ _ (hS.ext (undrew hW)).ro) (kd _ _ (hS.ext (undrew hW)).ro)) fun v w' h hb => hK v w' (h.imp fun _ _ _ => trivial) hb
        · rw [want_some rfl rfl rfl (show b__.eval (.tmp 64) = .bool true from (hpre ⟨32, _⟩ (Array.mem_of_getElem? (i := 3) rfl) rfl _ _ rfl rfl))] at hwant; cases hwant
      case r41 =>
        refine trule fun b__ w hW hold hpre => ⟨fun hwant K hK => ?_, fun hwant => ?_⟩
        · clear hwant
          have e69 : (fun (v : Value) (w : World) => IsSet w (fun _ => True) v (closM L (Ms &&& Mt))) (b__.eval (.tmp 69)) w := hpre ⟨37, _⟩ (Array.mem_of_getElem? (i := 0) rfl) rfl _ _ rfl rfl
          have e72 : (fun (v : Value) (w : World) => IsSet w (fun _ => True) v (closM L Ms &&& closM L Mt)) (b__.eval (.tmp 72)) w := hpre ⟨40, _⟩ (Array.mem_of_getElem? (i := 1) rfl) rfl _ _ rfl rfl
          exact opw_call rfl (by kernel_rfl) (by simp only [List.map_cons, List.map_nil]) (within_any _ _ _ _ _ _ _ e69 e72) fun v w' h hb => hK v w' (h.trans (by rw [H5.out])) hb
        · rw [want_some rfl rfl rfl (show b__.eval (.tmp 64) = .bool true from (hpre ⟨32, _⟩ (Array.mem_of_getElem? (i := 3) rfl) rfl _ _ rfl rfl))] at hwant; cases hwant
      case r42 =>
        refine trule fun b__ w hW hold hpre => ⟨fun hwant K hK => ?_, fun hwant => ?_⟩
        · clear hwant
          have e64 : b__.eval (.tmp 64) = .bool true := hpre ⟨32, _⟩ (Array.mem_of_getElem? (i := 0) rfl) rfl _ _ rfl rfl
          have e73 : b__.eval (.tmp 73) = .bool true := hpre ⟨41, _⟩ (Array.mem_of_getElem? (i := 1) rfl) rfl _ _ rfl rfl
          exact opw_pick rfl e64 (if_pos rfl) (hK _ _ e73 (Below.refl _ _))
        · rw [want_none rfl] at hwant; cases hwant
      case r43 =>
        refine trule fun b__ w hW hold hpre => ⟨fun hwant K hK => ?_, fun hwant => ?_⟩
        · clear hwant
          have e74 : b__.eval (.tmp 74) = .bool true := hpre ⟨42, _⟩ (Array.mem_of_getElem? (i := 0) rfl) rfl _ _ rfl rfl
          exact opw_assign rfl e74 (hK _ _ rfl (Below.refl _ _))
        · rw [want_none rfl] at hwant; cases hwant
      case post =>
        intro b__ wz hW hdf hsz hold hT
        have e32 : b__.eval (.tmp 32) = .agg #[.slice Aa la.length cA] := hT 0 _ 32 rfl rfl
        have e33 : b__.eval (.tmp 33) = .agg #[.slice Ac lc.length cC] := hT 1 _ 33 rfl rfl
        have e34 : b__.eval (.tmp 34) = .bool true := hT 2 _ 34 rfl rfl
        have e35 : b__.eval (.tmp 35) = .bool true := hT 3 _ 35 rfl rfl
        have e36 : b__.eval (.tmp 36) = .pointer (some ⟨q, 0, none⟩) := hT 4 _ 36 rfl rfl
        have e37 : b__.eval (.tmp 37) = .agg #[.slice Ac lc.length cC] := hT 5 _ 37 rfl rfl
        have e38 : (fun (v : Value) (w : World) => IsSet w (fun _ => True) v (closM L (closM L Ms))) (b__.eval (.tmp 38)) wz := hT 6 _ 38 rfl rfl
        have e39 : b__.eval (.tmp 39) = .agg #[.slice Ac lc.length cC] := hT 7 _ 39 rfl rfl
        have e40 : b__.eval (.tmp 40) = .bool true := hT 8 _ 40 rfl rfl
        have e41 : b__.eval (.tmp 41) = .bool true := hT 9 _ 41 rfl rfl
        have e42 : b__.eval (.tmp 42) = .bool true := hT 10 _ 42 rfl rfl
        have e43 : b__.eval (.tmp 43) = .pointer (some ⟨q, 0, none⟩) := hT 11 _ 43 rfl rfl
        have e44 : b__.eval (.tmp 44) = .agg #[.slice Aa la.length cA] := hT 12 _ 44 rfl rfl
        have e45 : b__.eval (.tmp 45) = .agg #[.slice Ab lb.length cB] := hT 13 _ 45 rfl rfl
        have e46 : (fun (v : Value) (w : World) => IsSet w (fun _ => True) v (Ms ||| Mt)) (b__.eval (.tmp 46)) wz := hT 14 _ 46 rfl rfl
        have e47 : (fun (v : Value) (w : World) => IsSet w (fun _ => True) v (closM L (Ms ||| Mt))) (b__.eval (.tmp 47)) wz := hT 15 _ 47 rfl rfl
        have e48 : b__.eval (.tmp 48) = .agg #[.slice Ac lc.length cC] := hT 16 _ 48 rfl rfl
        have e49 : b__.eval (.tmp 49) = .agg #[.slice Ad ld.length cD] := hT 17 _ 49 rfl rfl
        have e50 : (fun (v : Value) (w : World) => IsSet w (fun _ => True) v (closM L Ms ||| closM L Mt)) (b__.eval (.tmp 50)) wz := hT 18 _ 50 rfl rfl
        have e51 : b__.eval (.tmp 51) = .bool true := hT 19 _ 51 rfl rfl
        have e52 : b__.eval (.tmp 52) = .bool true := hT 20 _ 52 rfl rfl
        have e53 : b__.eval (.tmp 53) = .bool true := hT 21 _ 53 rfl rfl
        have e54 : b__.eval (.tmp 54) = .agg #[.slice Aa la.length cA] := hT 22 _ 54 rfl rfl
        have e55 : b__.eval (.tmp 55) = .agg #[.slice Ab lb.length cB] := hT 23 _ 55 rfl rfl
        have e56 : b__.eval (.tmp 56) = .bool false := hT 24 _ 56 rfl rfl
        have e57 : b__.eval (.tmp 57) = .bool true := hT 25 _ 57 rfl rfl
        have e58 : b__.eval (.tmp 58) = .bool true := hT 26 _ 58 rfl rfl
        have e62 : b__.eval (.tmp 62) = .bool true := hT 30 _ 62 rfl rfl
        have e63 : b__.eval (.tmp 63) = .bool true := hT 31 _ 63 rfl rfl
        have e64 : b__.eval (.tmp 64) = .bool true := hT 32 _ 64 rfl rfl
        have e65 : b__.eval (.tmp 65) = .pointer (some ⟨q, 0, none⟩) := hT 33 _ 65 rfl rfl
        have e66 : b__.eval (.tmp 66) = .agg #[.slice Aa la.length cA] := hT 34 _ 66 rfl rfl
        have e67 : b__.eval (.tmp 67) = .agg #[.slice Ab lb.length cB] := hT 35 _ 67 rfl rfl
        have e68 : (fun (v : Value) (w : World) => IsSet w (fun _ => True) v (Ms &&& Mt)) (b__.eval (.tmp 68)) wz := hT 36 _ 68 rfl rfl
        have e69 : (fun (v : Value) (w : World) => IsSet w (fun _ => True) v (closM L (Ms &&& Mt))) (b__.eval (.tmp 69)) wz := hT 37 _ 69 rfl rfl
        have e70 : b__.eval (.tmp 70) = .agg #[.slice Ac lc.length cC] := hT 38 _ 70 rfl rfl
        have e71 : b__.eval (.tmp 71) = .agg #[.slice Ad ld.length cD] := hT 39 _ 71 rfl rfl
        have e72 : (fun (v : Value) (w : World) => IsSet w (fun _ => True) v (closM L Ms &&& closM L Mt)) (b__.eval (.tmp 72)) wz := hT 40 _ 72 rfl rfl
        have e73 : b__.eval (.tmp 73) = .bool true := hT 41 _ 73 rfl rfl
        have e74 : b__.eval (.tmp 74) = .bool true := hT 42 _ 74 rfl rfl
        have e6 : b__.eval (.tmp 6) = .bool true := hT 43 _ 6 rfl rfl
        obtain ⟨vs, hvs, hb⟩ := frame_of hdf hsz hold
        replace e32 : vs 32 = .agg #[.slice Aa la.length cA] := (hvs 32).symm.trans e32
        replace e33 : vs 33 = .agg #[.slice Ac lc.length cC] := (hvs 33).symm.trans e33
        replace e34 : vs 34 = .bool true := (hvs 34).symm.trans e34
        replace e35 : vs 35 = .bool true := (hvs 35).symm.trans e35
        replace e36 : vs 36 = .pointer (some ⟨q, 0, none⟩) := (hvs 36).symm.trans e36
        replace e37 : vs 37 = .agg #[.slice Ac lc.length cC] := (hvs 37).symm.trans e37
        replace e38 := (hvs 38) ▸ e38
        replace e39 : vs 39 = .agg #[.slice Ac lc.length cC] := (hvs 39).symm.trans e39
        replace e40 : vs 40 = .bool true := (hvs 40).symm.trans e40
        replace e41 : vs 41 = .bool true := (hvs 41).symm.trans e41
        replace e42 : vs 42 = .bool true := (hvs 42).symm.trans e42
        replace e43 : vs 43 = .pointer (some ⟨q, 0, none⟩) := (hvs 43).symm.trans e43
        replace e44 : vs 44 = .agg #[.slice Aa la.length cA] := (hvs 44).symm.trans e44
        replace e45 : vs 45 = .agg #[.slice Ab lb.length cB] := (hvs 45).symm.trans e45
        replace e46 := (hvs 46) ▸ e46
        replace e47 := (hvs 47) ▸ e47
        replace e48 : vs 48 = .agg #[.slice Ac lc.length cC] := (hvs 48).symm.trans e48
        replace e49 : vs 49 = .agg #[.slice Ad ld.length cD] := (hvs 49).symm.trans e49
        replace e50 := (hvs 50) ▸ e50
        replace e51 : vs 51 = .bool true := (hvs 51).symm.trans e51
        replace e52 : vs 52 = .bool true := (hvs 52).symm.trans e52
        replace e53 : vs 53 = .bool true := (hvs 53).symm.trans e53
        replace e54 : vs 54 = .agg #[.slice Aa la.length cA] := (hvs 54).symm.trans e54
        replace e55 : vs 55 = .agg #[.slice Ab lb.length cB] := (hvs 55).symm.trans e55
        replace e56 : vs 56 = .bool false := (hvs 56).symm.trans e56
        replace e57 : vs 57 = .bool true := (hvs 57).symm.trans e57
        replace e58 : vs 58 = .bool true := (hvs 58).symm.trans e58
        replace e62 : vs 62 = .bool true := (hvs 62).symm.trans e62
        replace e63 : vs 63 = .bool true := (hvs 63).symm.trans e63
        replace e64 : vs 64 = .bool true := (hvs 64).symm.trans e64
        replace e65 : vs 65 = .pointer (some ⟨q, 0, none⟩) := (hvs 65).symm.trans e65
        replace e66 : vs 66 = .agg #[.slice Aa la.length cA] := (hvs 66).symm.trans e66
        replace e67 : vs 67 = .agg #[.slice Ab lb.length cB] := (hvs 67).symm.trans e67
        replace e68 := (hvs 68) ▸ e68
        replace e69 := (hvs 69) ▸ e69
        replace e70 : vs 70 = .agg #[.slice Ac lc.length cC] := (hvs 70).symm.trans e70
        replace e71 : vs 71 = .agg #[.slice Ad ld.length cD] := (hvs 71).symm.trans e71
        replace e72 := (hvs 72) ▸ e72
        replace e73 : vs 73 = .bool true := (hvs 73).symm.trans e73
        replace e74 : vs 74 = .bool true := (hvs 74).symm.trans e74
        replace e6 : vs 6 = .bool true := (hvs 6).symm.trans e6
        subst hb
        clear hvs hold hT hdf hsz
        simp only [setAll, Act.put, List.setIfInBounds_toArray, List.set_cons_zero, List.set_cons_succ, List.getElem_toArray, List.getElem_cons_succ, List.getElem_cons_zero]
        rw [e6]
        replace hS := hS.ext hW
        go_wp2_with fail
        go_ret
        exact Ret.mk rfl hS.below
    · have HB := Lib.hid hB
      have H4 := Lib.hid (sub_iff.2 (clos_mono (L := L) (sub_iff.1 hB)))
      clear hB
      refine wp_region_typed (fun i__ v w => match i__ with
        | 0 => v = .agg #[.slice Aa la.length cA]
        | 1 => v = .agg #[.slice Ac lc.length cC]
        | 2 => v = .bool true
        | 3 => v = .bool true
        | 4 => v = .pointer (some ⟨q, 0, none⟩)
        | 5 => v = .agg #[.slice Ac lc.length cC]
        | 6 => IsSet w (fun _ => True) v (closM L (closM L Ms))
        | 7 => v = .agg #[.slice Ac lc.length cC]
        | 8 => v = .bool true
        | 9 => v = .bool true
        | 10 => v = .bool true
        | 11 => v = .pointer (some ⟨q, 0, none⟩)
        | 12 => v = .agg #[.slice Aa la.length cA]
        | 13 => v = .agg #[.slice Ab lb.length cB]
        | 14 => IsSet w (fun _ => True) v (Ms ||| Mt)
        | 15 => IsSet w (fun _ => True) v (closM L (Ms ||| Mt))
        | 16 => v = .agg #[.slice Ac lc.length cC]
        | 17 => v = .agg #[.slice Ad ld.length cD]
        | 18 => IsSet w (fun _ => True) v (closM L Ms ||| closM L Mt)
        | 19 => v = .bool true
        | 20 => v = .bool true
        | 21 => v = .bool true
        | 22 => v = .agg #[.slice Aa la.length cA]
        | 23 => v = .agg #[.slice Ab lb.length cB]
        | 24 => v = .bool true
        | 25 => v = .bool false
        | 26 => v = .bool false
        | 27 => v = .agg #[.slice Ac lc.length cC]
        | 28 => v = .agg #[.slice Ad ld.length cD]
        | 29 => v = .bool true
        | 30 => v = .bool true
        | 31 => v = .bool true
        | 32 => v = .bool true
        | 33 => v = .pointer (some ⟨q, 0, none⟩)
        | 34 => v = .agg #[.slice Aa la.length cA]
        | 35 => v = .agg #[.slice Ab lb.length cB]
        | 36 => IsSet w (fun _ => True) v (Ms &&& Mt)
        | 37 => IsSet w (fun _ => True) v (closM L (Ms &&& Mt))
        | 38 => v = .agg #[.slice Ac lc.length cC]
        | 39 => v = .agg #[.slice Ad ld.length cD]
        | 40 => IsSet w (fun _ => True) v (closM L Ms &&& closM L Mt)
        | 41 => v = .bool true
        | 42 => v = .bool true
        | 43 => v = .bool true
        | _ => True) (by kernel_rfl) (by kernel_rfl) ?mono ⟨?r0, ?r1, ?r2, ?r3, ?r4, ?r5, ?r6, ?r7, ?r8, ?r9, ?r10, ?r11, ?r12, ?r13, ?r14, ?r15, ?r16, ?r17, ?r18, ?r19, ?r20, ?r21, ?r22, ?r23, ?r24, ?r25, ?r26, ?r27, ?r28, ?r29, ?r30, ?r31, ?r32, ?r33, ?r34, ?r35, ?r36, ?r37, ?r38, ?r39, ?r40, ?r41, ?r42, ?r43, trivial⟩ ?post
      case mono =>
        intro i v w w' h hb
        match i, h with
        | 0, h => exact h
        | 1, h => exact h
        | 2, h => exact h
        | 3, h => exact h
        | 4, h => exact h
        | 5, h => exact h
        | 6, h => exact h.ext hb
        | 7, h => exact h
        | 8, h => exact h
        | 9, h => exact h
        | 10, h => exact h
        | 11, h => exact h
        | 12, h => exact h
        | 13, h => exact h
        | 14, h => exact h.ext hb
        | 15, h => exact h.ext hb
        | 16, h => exact h
        | 17, h => exact h
        | 18, h => exact h.ext hb
        | 19, h => exact h
        | 20, h => exact h
        | 21, h => exact h
        | 22, h => exact h
        | 23, h => exact h
        | 24, h => exact h
        | 25, h => exact h
        | 26, h => exact h
        | 27, h => exact h
        | 28, h => exact h
        | 29, h => exact h
        | 30, h => exact h
        | 31, h => exact h
        | 32, h => exact h
        | 33, h => exact h
        | 34, h => exact h
        | 35, h => exact h
        | 36, h => exact h.ext hb
        | 37, h => exact h.ext hb
        | 38, h => exact h
        | 39, h => exact h
        | 40, h => exact h.ext hb
        | 41, h => exact h
        | 42, h => exact h
        | 43, h => exact h
        | _ + 44, h => trivial
      case r0 =>
        refine trule fun b__ w hW hold hpre => ⟨fun hwant K hK => ?_, fun hwant => ?_⟩
        · clear hwant
          have e9 : b__.eval (.tmp 9) = .pointer (some ⟨g9, 0, none⟩) := (hold 9 (by kernel_rfl)).trans rfl
          exact opw_row rfl e9 ((hS.ext (undrew hW)).box 3 rfl) Tryd.underlying42 rfl (by kernel_rfl) (hK _ _ rfl (Below.refl _ _))
        · rw [want_none rfl] at hwant; cases hwant
      case r1 =>
        refine trule fun b__ w hW hold hpre => ⟨fun hwant K hK => ?_, fun hwant => ?_⟩
        · clear hwant
          have e11 : b__.eval (.tmp 11) = .pointer (some ⟨g11, 0, none⟩) := (hold 11 (by kernel_rfl)).trans rfl
          exact opw_row rfl e11 ((hS.ext (undrew hW)).box 0 rfl) Tryd.underlying42 rfl (by kernel_rfl) (hK _ _ rfl (Below.refl _ _))
        · rw [want_none rfl] at hwant; cases hwant
      case r2 =>
        refine trule fun b__ w hW hold hpre => ⟨fun hwant K hK => ?_, fun hwant => ?_⟩
        · clear hwant
          have e32 : b__.eval (.tmp 32) = .agg #[.slice Aa la.length cA] := hpre ⟨0, _⟩ (Array.mem_of_getElem? (i := 0) rfl) rfl _ _ rfl rfl
          have e33 : b__.eval (.tmp 33) = .agg #[.slice Ac lc.length cC] := hpre ⟨1, _⟩ (Array.mem_of_getElem? (i := 1) rfl) rfl _ _ rfl rfl
          exact opw_call rfl (by kernel_rfl) (by simp only [List.map_cons, List.map_nil, e32, e33]) (within_any _ _ _ _ _ _ _ (ka _ _ (hS.ext (undrew hW)).ro) (kc _ _ (hS.ext (undrew hW)).ro)) fun v w' h hb => hK v w' (h.trans (by rw [H1.out])) hb
        · rw [want_none rfl] at hwant; cases hwant
      case r3 =>
        refine trule fun b__ w hW hold hpre => ⟨fun hwant K hK => ?_, fun hwant => ?_⟩
        · clear hwant
          have e34 : b__.eval (.tmp 34) = .bool true := hpre ⟨2, _⟩ (Array.mem_of_getElem? (i := 0) rfl) rfl _ _ rfl rfl
          exact opw_move rfl e34 (hK _ _ rfl (Below.refl _ _))
        · rw [want_none rfl] at hwant; cases hwant
      case r4 =>
        refine trule fun b__ w hW hold hpre => ⟨fun hwant K hK => ?_, fun hwant => ?_⟩
        · clear hwant
          have e7 : b__.eval (.tmp 7) = .pointer (some ⟨q, 0, none⟩) := (hold 7 (by kernel_rfl)).trans rfl
          exact opw_move rfl e7 (hK _ _ rfl (Below.refl _ _))
        · rw [want_some rfl rfl rfl (show b__.eval (.tmp 35) = .bool true from (hpre ⟨3, _⟩ (Array.mem_of_getElem? (i := 0) rfl) rfl _ _ rfl rfl))] at hwant; cases hwant
      case r5 =>
        refine trule fun b__ w hW hold hpre => ⟨fun hwant K hK => ?_, fun hwant => ?_⟩
        · clear hwant
          have e11 : b__.eval (.tmp 11) = .pointer (some ⟨g11, 0, none⟩) := (hold 11 (by kernel_rfl)).trans rfl
          exact opw_row rfl e11 ((hS.ext (undrew hW)).box 0 rfl) Tryd.underlying42 rfl (by kernel_rfl) (hK _ _ rfl (Below.refl _ _))
        · rw [want_some rfl rfl rfl (show b__.eval (.tmp 35) = .bool true from (hpre ⟨3, _⟩ (Array.mem_of_getElem? (i := 0) rfl) rfl _ _ rfl rfl))] at hwant; cases hwant
      case r6 =>
        refine trule fun b__ w hW hold hpre => ⟨fun hwant K hK => ?_, fun hwant => ?_⟩
        · clear hwant
          have e36 : b__.eval (.tmp 36) = .pointer (some ⟨q, 0, none⟩) := hpre ⟨4, _⟩ (Array.mem_of_getElem? (i := 0) rfl) rfl _ _ rfl rfl
          have e37 : b__.eval (.tmp 37) = .agg #[.slice Ac lc.length cC] := hpre ⟨5, _⟩ (Array.mem_of_getElem? (i := 1) rfl) rfl _ _ rfl rfl
          exact opw_call rfl (by kernel_rfl) (by simp only [List.map_cons, List.map_nil, e36, e37]) (hclos_any (ki _ _ (hS.ext (undrew hW)).ro) (kt2 _ _ (hS.ext (undrew hW)).ro) hH.out (kc _ _ (hS.ext (undrew hW)).ro)) fun v w' h hb => hK v w' (h.imp fun _ _ _ => trivial) hb
        · rw [want_some rfl rfl rfl (show b__.eval (.tmp 35) = .bool true from (hpre ⟨3, _⟩ (Array.mem_of_getElem? (i := 2) rfl) rfl _ _ rfl rfl))] at hwant; cases hwant
      case r7 =>
        refine trule fun b__ w hW hold hpre => ⟨fun hwant K hK => ?_, fun hwant => ?_⟩
        · clear hwant
          have e11 : b__.eval (.tmp 11) = .pointer (some ⟨g11, 0, none⟩) := (hold 11 (by kernel_rfl)).trans rfl
          exact opw_row rfl e11 ((hS.ext (undrew hW)).box 0 rfl) Tryd.underlying42 rfl (by kernel_rfl) (hK _ _ rfl (Below.refl _ _))
        · rw [want_some rfl rfl rfl (show b__.eval (.tmp 35) = .bool true from (hpre ⟨3, _⟩ (Array.mem_of_getElem? (i := 0) rfl) rfl _ _ rfl rfl))] at hwant; cases hwant
      case r8 =>
        refine trule fun b__ w hW hold hpre => ⟨fun hwant K hK => ?_, fun hwant => ?_⟩
        · clear hwant
          have e38 : (fun (v : Value) (w : World) => IsSet w (fun _ => True) v (closM L (closM L Ms))) (b__.eval (.tmp 38)) w := hpre ⟨6, _⟩ (Array.mem_of_getElem? (i := 0) rfl) rfl _ _ rfl rfl
          have e39 : b__.eval (.tmp 39) = .agg #[.slice Ac lc.length cC] := hpre ⟨7, _⟩ (Array.mem_of_getElem? (i := 1) rfl) rfl _ _ rfl rfl
          exact opw_call rfl (by kernel_rfl) (by simp only [List.map_cons, List.map_nil, e39]) (equal_any _ _ _ _ _ _ _ e38 (kc _ _ (hS.ext (undrew hW)).ro)) fun v w' h hb => hK v w' (h.trans (by rw [H2.out])) hb
        · rw [want_some rfl rfl rfl (show b__.eval (.tmp 35) = .bool true from (hpre ⟨3, _⟩ (Array.mem_of_getElem? (i := 3) rfl) rfl _ _ rfl rfl))] at hwant; cases hwant
      case r9 =>
        refine trule fun b__ w hW hold hpre => ⟨fun hwant K hK => ?_, fun hwant => ?_⟩
        · clear hwant
          have e35 : b__.eval (.tmp 35) = .bool true := hpre ⟨3, _⟩ (Array.mem_of_getElem? (i := 0) rfl) rfl _ _ rfl rfl
          have e40 : b__.eval (.tmp 40) = .bool true := hpre ⟨8, _⟩ (Array.mem_of_getElem? (i := 1) rfl) rfl _ _ rfl rfl
          exact opw_pick rfl e35 (if_pos rfl) (hK _ _ e40 (Below.refl _ _))
        · rw [want_none rfl] at hwant; cases hwant
      case r10 =>
        refine trule fun b__ w hW hold hpre => ⟨fun hwant K hK => ?_, fun hwant => ?_⟩
        · clear hwant
          have e41 : b__.eval (.tmp 41) = .bool true := hpre ⟨9, _⟩ (Array.mem_of_getElem? (i := 0) rfl) rfl _ _ rfl rfl
          exact opw_move rfl e41 (hK _ _ rfl (Below.refl _ _))
        · rw [want_none rfl] at hwant; cases hwant
      case r11 =>
        refine trule fun b__ w hW hold hpre => ⟨fun hwant K hK => ?_, fun hwant => ?_⟩
        · clear hwant
          have e7 : b__.eval (.tmp 7) = .pointer (some ⟨q, 0, none⟩) := (hold 7 (by kernel_rfl)).trans rfl
          exact opw_move rfl e7 (hK _ _ rfl (Below.refl _ _))
        · rw [want_some rfl rfl rfl (show b__.eval (.tmp 42) = .bool true from (hpre ⟨10, _⟩ (Array.mem_of_getElem? (i := 0) rfl) rfl _ _ rfl rfl))] at hwant; cases hwant
      case r12 =>
        refine trule fun b__ w hW hold hpre => ⟨fun hwant K hK => ?_, fun hwant => ?_⟩
        · clear hwant
          have e9 : b__.eval (.tmp 9) = .pointer (some ⟨g9, 0, none⟩) := (hold 9 (by kernel_rfl)).trans rfl
          exact opw_row rfl e9 ((hS.ext (undrew hW)).box 3 rfl) Tryd.underlying42 rfl (by kernel_rfl) (hK _ _ rfl (Below.refl _ _))
        · rw [want_some rfl rfl rfl (show b__.eval (.tmp 42) = .bool true from (hpre ⟨10, _⟩ (Array.mem_of_getElem? (i := 0) rfl) rfl _ _ rfl rfl))] at hwant; cases hwant
      case r13 =>
        refine trule fun b__ w hW hold hpre => ⟨fun hwant K hK => ?_, fun hwant => ?_⟩
        · clear hwant
          have e10 : b__.eval (.tmp 10) = .pointer (some ⟨g10, 0, none⟩) := (hold 10 (by kernel_rfl)).trans rfl
          exact opw_row rfl e10 ((hS.ext (undrew hW)).box 2 rfl) Tryd.underlying42 rfl (by kernel_rfl) (hK _ _ rfl (Below.refl _ _))
        · rw [want_some rfl rfl rfl (show b__.eval (.tmp 42) = .bool true from (hpre ⟨10, _⟩ (Array.mem_of_getElem? (i := 0) rfl) rfl _ _ rfl rfl))] at hwant; cases hwant
      case r14 =>
        refine trule fun b__ w hW hold hpre => ⟨fun hwant K hK => ?_, fun hwant => ?_⟩
        · clear hwant
          have e44 : b__.eval (.tmp 44) = .agg #[.slice Aa la.length cA] := hpre ⟨12, _⟩ (Array.mem_of_getElem? (i := 0) rfl) rfl _ _ rfl rfl
          have e45 : b__.eval (.tmp 45) = .agg #[.slice Ab lb.length cB] := hpre ⟨13, _⟩ (Array.mem_of_getElem? (i := 1) rfl) rfl _ _ rfl rfl
          exact opw_call rfl (by kernel_rfl) (by simp only [List.map_cons, List.map_nil, e44, e45]) (or_any _ _ _ _ _ _ _ (ka _ _ (hS.ext (undrew hW)).ro) (kb _ _ (hS.ext (undrew hW)).ro)) fun v w' h hb => hK v w' (h.imp fun _ _ _ => trivial) hb
        · rw [want_some rfl rfl rfl (show b__.eval (.tmp 42) = .bool true from (hpre ⟨10, _⟩ (Array.mem_of_getElem? (i := 2) rfl) rfl _ _ rfl rfl))] at hwant; cases hwant
      case r15 =>
        refine trule fun b__ w hW hold hpre => ⟨fun hwant K hK => ?_, fun hwant => ?_⟩
        · clear hwant
          have e43 : b__.eval (.tmp 43) = .pointer (some ⟨q, 0, none⟩) := hpre ⟨11, _⟩ (Array.mem_of_getElem? (i := 0) rfl) rfl _ _ rfl rfl
          have e46 : (fun (v : Value) (w : World) => IsSet w (fun _ => True) v (Ms ||| Mt)) (b__.eval (.tmp 46)) w := hpre ⟨14, _⟩ (Array.mem_of_getElem? (i := 1) rfl) rfl _ _ rfl rfl
          exact opw_call rfl (by kernel_rfl) (by simp only [List.map_cons, List.map_nil, e43]) (hclos_any (ki _ _ (hS.ext (undrew hW)).ro) (kt2 _ _ (hS.ext (undrew hW)).ro) hH.out e46) fun v w' h hb => hK v w' (h.imp fun _ _ _ => trivial) hb
        · rw [want_some rfl rfl rfl (show b__.eval (.tmp 42) = .bool true from (hpre ⟨10, _⟩ (Array.mem_of_getElem? (i := 3) rfl) rfl _ _ rfl rfl))] at hwant; cases hwant
      case r16 =>
        refine trule fun b__ w hW hold hpre => ⟨fun hwant K hK => ?_, fun hwant => ?_⟩
        · clear hwant
          have e11 : b__.eval (.tmp 11) = .pointer (some ⟨g11, 0, none⟩) := (hold 11 (by kernel_rfl)).trans rfl
          exact opw_row rfl e11 ((hS.ext (undrew hW)).box 0 rfl) Tryd.underlying42 rfl (by kernel_rfl) (hK _ _ rfl (Below.refl _ _))
        · rw [want_some rfl rfl rfl (show b__.eval (.tmp 42) = .bool true from (hpre ⟨10, _⟩ (Array.mem_of_getElem? (i := 0) rfl) rfl _ _ rfl rfl))] at hwant; cases hwant
      case r17 =>
        refine trule fun b__ w hW hold hpre => ⟨fun hwant K hK => ?_, fun hwant => ?_⟩
        · clear hwant
          have e12 : b__.eval (.tmp 12) = .pointer (some ⟨g12, 0, none⟩) := (hold 12 (by kernel_rfl)).trans rfl
          exact opw_row rfl e12 ((hS.ext (undrew hW)).box 1 rfl) Tryd.underlying42 rfl (by kernel_rfl) (hK _ _ rfl (Below.refl _ _))
        · rw [want_some rfl rfl rfl (show b__.eval (.tmp 42) = .bool true from (hpre ⟨10, _⟩ (Array.mem_of_getElem? (i := 0) rfl) rfl _ _ rfl rfl))] at hwant; cases hwant
      case r18 =>
        refine trule fun b__ w hW hold hpre => ⟨fun hwant K hK => ?_, fun hwant => ?_⟩
        · clear hwant
          have e48 : b__.eval (.tmp 48) = .agg #[.slice Ac lc.length cC] := hpre ⟨16, _⟩ (Array.mem_of_getElem? (i := 0) rfl) rfl _ _ rfl rfl
          have e49 : b__.eval (.tmp 49) = .agg #[.slice Ad ld.length cD] := hpre ⟨17, _⟩ (Array.mem_of_getElem? (i := 1) rfl) rfl _ _ rfl rfl
          exact opw_call rfl (by kernel_rfl) (by simp only [List.map_cons, List.map_nil, e48, e49]) (or_any _ _ _ _ _ _ _ (kc _ _ (hS.ext (undrew hW)).ro) (kd _ _ (hS.ext (undrew hW)).ro)) fun v w' h hb => hK v w' (h.imp fun _ _ _ => trivial) hb
        · rw [want_some rfl rfl rfl (show b__.eval (.tmp 42) = .bool true from (hpre ⟨10, _⟩ (Array.mem_of_getElem? (i := 3) rfl) rfl _ _ rfl rfl))] at hwant; cases hwant
      case r19 =>
        refine trule fun b__ w hW hold hpre => ⟨fun hwant K hK => ?_, fun hwant => ?_⟩
        · clear hwant
          have e47 : (fun (v : Value) (w : World) => IsSet w (fun _ => True) v (closM L (Ms ||| Mt))) (b__.eval (.tmp 47)) w := hpre ⟨15, _⟩ (Array.mem_of_getElem? (i := 0) rfl) rfl _ _ rfl rfl
          have e50 : (fun (v : Value) (w : World) => IsSet w (fun _ => True) v (closM L Ms ||| closM L Mt)) (b__.eval (.tmp 50)) w := hpre ⟨18, _⟩ (Array.mem_of_getElem? (i := 1) rfl) rfl _ _ rfl rfl
          exact opw_call rfl (by kernel_rfl) (by simp only [List.map_cons, List.map_nil]) (equal_any _ _ _ _ _ _ _ e47 e50) fun v w' h hb => hK v w' (h.trans (by rw [H3.out])) hb
        · rw [want_some rfl rfl rfl (show b__.eval (.tmp 42) = .bool true from (hpre ⟨10, _⟩ (Array.mem_of_getElem? (i := 3) rfl) rfl _ _ rfl rfl))] at hwant; cases hwant
      case r20 =>
        refine trule fun b__ w hW hold hpre => ⟨fun hwant K hK => ?_, fun hwant => ?_⟩
        · clear hwant
          have e42 : b__.eval (.tmp 42) = .bool true := hpre ⟨10, _⟩ (Array.mem_of_getElem? (i := 0) rfl) rfl _ _ rfl rfl
          have e51 : b__.eval (.tmp 51) = .bool true := hpre ⟨19, _⟩ (Array.mem_of_getElem? (i := 1) rfl) rfl _ _ rfl rfl
          exact opw_pick rfl e42 (if_pos rfl) (hK _ _ e51 (Below.refl _ _))
        · rw [want_none rfl] at hwant; cases hwant
      case r21 =>
        refine trule fun b__ w hW hold hpre => ⟨fun hwant K hK => ?_, fun hwant => ?_⟩
        · clear hwant
          have e52 : b__.eval (.tmp 52) = .bool true := hpre ⟨20, _⟩ (Array.mem_of_getElem? (i := 0) rfl) rfl _ _ rfl rfl
          exact opw_move rfl e52 (hK _ _ rfl (Below.refl _ _))
        · rw [want_none rfl] at hwant; cases hwant
      case r22 =>
        refine trule fun b__ w hW hold hpre => ⟨fun hwant K hK => ?_, fun hwant => ?_⟩
        · clear hwant
          have e9 : b__.eval (.tmp 9) = .pointer (some ⟨g9, 0, none⟩) := (hold 9 (by kernel_rfl)).trans rfl
          exact opw_row rfl e9 ((hS.ext (undrew hW)).box 3 rfl) Tryd.underlying42 rfl (by kernel_rfl) (hK _ _ rfl (Below.refl _ _))
        · rw [want_some rfl rfl rfl (show b__.eval (.tmp 53) = .bool true from (hpre ⟨21, _⟩ (Array.mem_of_getElem? (i := 0) rfl) rfl _ _ rfl rfl))] at hwant; cases hwant
      case r23 =>
        refine trule fun b__ w hW hold hpre => ⟨fun hwant K hK => ?_, fun hwant => ?_⟩
        · clear hwant
          have e10 : b__.eval (.tmp 10) = .pointer (some ⟨g10, 0, none⟩) := (hold 10 (by kernel_rfl)).trans rfl
          exact opw_row rfl e10 ((hS.ext (undrew hW)).box 2 rfl) Tryd.underlying42 rfl (by kernel_rfl) (hK _ _ rfl (Below.refl _ _))
        · rw [want_some rfl rfl rfl (show b__.eval (.tmp 53) = .bool true from (hpre ⟨21, _⟩ (Array.mem_of_getElem? (i := 0) rfl) rfl _ _ rfl rfl))] at hwant; cases hwant
      case r24 =>
        refine trule fun b__ w hW hold hpre => ⟨fun hwant K hK => ?_, fun hwant => ?_⟩
        · clear hwant
          have e54 : b__.eval (.tmp 54) = .agg #[.slice Aa la.length cA] := hpre ⟨22, _⟩ (Array.mem_of_getElem? (i := 0) rfl) rfl _ _ rfl rfl
          have e55 : b__.eval (.tmp 55) = .agg #[.slice Ab lb.length cB] := hpre ⟨23, _⟩ (Array.mem_of_getElem? (i := 1) rfl) rfl _ _ rfl rfl
          exact opw_call rfl (by kernel_rfl) (by simp only [List.map_cons, List.map_nil, e54, e55]) (within_any _ _ _ _ _ _ _ (ka _ _ (hS.ext (undrew hW)).ro) (kb _ _ (hS.ext (undrew hW)).ro)) fun v w' h hb => hK v w' (h.trans (by rw [HB.out])) hb
        · rw [want_some rfl rfl rfl (show b__.eval (.tmp 53) = .bool true from (hpre ⟨21, _⟩ (Array.mem_of_getElem? (i := 2) rfl) rfl _ _ rfl rfl))] at hwant; cases hwant
      case r25 =>
        refine trule fun b__ w hW hold hpre => ⟨fun hwant K hK => ?_, fun hwant => ?_⟩
        · clear hwant
          have e56 : b__.eval (.tmp 56) = .bool true := hpre ⟨24, _⟩ (Array.mem_of_getElem? (i := 0) rfl) rfl _ _ rfl rfl
          exact opw_un rfl e56 rfl (hK _ _ rfl (Below.refl _ _))
        · rw [want_some rfl rfl rfl (show b__.eval (.tmp 53) = .bool true from (hpre ⟨21, _⟩ (Array.mem_of_getElem? (i := 1) rfl) rfl _ _ rfl rfl))] at hwant; cases hwant
      case r26 =>
        refine trule fun b__ w hW hold hpre => ⟨fun hwant K hK => ?_, fun hwant => ?_⟩
        · clear hwant
          have e57 : b__.eval (.tmp 57) = .bool false := hpre ⟨25, _⟩ (Array.mem_of_getElem? (i := 0) rfl) rfl _ _ rfl rfl
          exact opw_move rfl e57 (hK _ _ rfl (Below.refl _ _))
        · rw [want_some rfl rfl rfl (show b__.eval (.tmp 53) = .bool true from (hpre ⟨21, _⟩ (Array.mem_of_getElem? (i := 2) rfl) rfl _ _ rfl rfl))] at hwant; cases hwant
      case r27 =>
        refine trule fun b__ w hW hold hpre => ⟨fun hwant K hK => ?_, fun hwant => ?_⟩
        · clear hwant
          have e11 : b__.eval (.tmp 11) = .pointer (some ⟨g11, 0, none⟩) := (hold 11 (by kernel_rfl)).trans rfl
          exact opw_row rfl e11 ((hS.ext (undrew hW)).box 0 rfl) Tryd.underlying42 rfl (by kernel_rfl) (hK _ _ rfl (Below.refl _ _))
        · rw [want_some rfl rfl rfl (show b__.eval (.tmp 58) = .bool false from (hpre ⟨26, _⟩ (Array.mem_of_getElem? (i := 0) rfl) rfl _ _ rfl rfl))] at hwant; cases hwant
      case r28 =>
        refine trule fun b__ w hW hold hpre => ⟨fun hwant K hK => ?_, fun hwant => ?_⟩
        · clear hwant
          have e12 : b__.eval (.tmp 12) = .pointer (some ⟨g12, 0, none⟩) := (hold 12 (by kernel_rfl)).trans rfl
          exact opw_row rfl e12 ((hS.ext (undrew hW)).box 1 rfl) Tryd.underlying42 rfl (by kernel_rfl) (hK _ _ rfl (Below.refl _ _))
        · rw [want_some rfl rfl rfl (show b__.eval (.tmp 58) = .bool false from (hpre ⟨26, _⟩ (Array.mem_of_getElem? (i := 0) rfl) rfl _ _ rfl rfl))] at hwant; cases hwant
      case r29 =>
        refine trule fun b__ w hW hold hpre => ⟨fun hwant K hK => ?_, fun hwant => ?_⟩
        · clear hwant
          have e59 : b__.eval (.tmp 59) = .agg #[.slice Ac lc.length cC] := hpre ⟨27, _⟩ (Array.mem_of_getElem? (i := 0) rfl) rfl _ _ rfl rfl
          have e60 : b__.eval (.tmp 60) = .agg #[.slice Ad ld.length cD] := hpre ⟨28, _⟩ (Array.mem_of_getElem? (i := 1) rfl) rfl _ _ rfl rfl
          exact opw_call rfl (by kernel_rfl) (by simp only [List.map_cons, List.map_nil, e59, e60]) (within_any _ _ _ _ _ _ _ (kc _ _ (hS.ext (undrew hW)).ro) (kd _ _ (hS.ext (undrew hW)).ro)) fun v w' h hb => hK v w' (h.trans (by rw [H4.out])) hb
        · rw [want_some rfl rfl rfl (show b__.eval (.tmp 58) = .bool false from (hpre ⟨26, _⟩ (Array.mem_of_getElem? (i := 2) rfl) rfl _ _ rfl rfl))] at hwant; cases hwant
      case r30 =>
        refine trule fun b__ w hW hold hpre => ⟨fun hwant K hK => ?_, fun hwant => ?_⟩
        · clear hwant
          have e58 : b__.eval (.tmp 58) = .bool false := hpre ⟨26, _⟩ (Array.mem_of_getElem? (i := 0) rfl) rfl _ _ rfl rfl
          have e61 : b__.eval (.tmp 61) = .bool true := hpre ⟨29, _⟩ (Array.mem_of_getElem? (i := 1) rfl) rfl _ _ rfl rfl
          exact opw_pick rfl e58 e61 (hK _ _ rfl (Below.refl _ _))
        · rw [want_some rfl rfl rfl (show b__.eval (.tmp 53) = .bool true from (hpre ⟨21, _⟩ (Array.mem_of_getElem? (i := 2) rfl) rfl _ _ rfl rfl))] at hwant; cases hwant
      case r31 =>
        refine trule fun b__ w hW hold hpre => ⟨fun hwant K hK => ?_, fun hwant => ?_⟩
        · clear hwant
          have e53 : b__.eval (.tmp 53) = .bool true := hpre ⟨21, _⟩ (Array.mem_of_getElem? (i := 0) rfl) rfl _ _ rfl rfl
          have e62 : b__.eval (.tmp 62) = .bool true := hpre ⟨30, _⟩ (Array.mem_of_getElem? (i := 1) rfl) rfl _ _ rfl rfl
          exact opw_pick rfl e53 (if_pos rfl) (hK _ _ e62 (Below.refl _ _))
        · rw [want_none rfl] at hwant; cases hwant
      case r32 =>
        refine trule fun b__ w hW hold hpre => ⟨fun hwant K hK => ?_, fun hwant => ?_⟩
        · clear hwant
          have e63 : b__.eval (.tmp 63) = .bool true := hpre ⟨31, _⟩ (Array.mem_of_getElem? (i := 0) rfl) rfl _ _ rfl rfl
          exact opw_move rfl e63 (hK _ _ rfl (Below.refl _ _))
        · rw [want_none rfl] at hwant; cases hwant
      case r33 =>
        refine trule fun b__ w hW hold hpre => ⟨fun hwant K hK => ?_, fun hwant => ?_⟩
        · clear hwant
          have e7 : b__.eval (.tmp 7) = .pointer (some ⟨q, 0, none⟩) := (hold 7 (by kernel_rfl)).trans rfl
          exact opw_move rfl e7 (hK _ _ rfl (Below.refl _ _))
        · rw [want_some rfl rfl rfl (show b__.eval (.tmp 64) = .bool true from (hpre ⟨32, _⟩ (Array.mem_of_getElem? (i := 0) rfl) rfl _ _ rfl rfl))] at hwant; cases hwant
      case r34 =>
        refine trule fun b__ w hW hold hpre => ⟨fun hwant K hK => ?_, fun hwant => ?_⟩
        · clear hwant
          have e9 : b__.eval (.tmp 9) = .pointer (some ⟨g9, 0, none⟩) := (hold 9 (by kernel_rfl)).trans rfl
          exact opw_row rfl e9 ((hS.ext (undrew hW)).box 3 rfl) Tryd.underlying42 rfl (by kernel_rfl) (hK _ _ rfl (Below.refl _ _))
        · rw [want_some rfl rfl rfl (show b__.eval (.tmp 64) = .bool true from (hpre ⟨32, _⟩ (Array.mem_of_getElem? (i := 0) rfl) rfl _ _ rfl rfl))] at hwant; cases hwant
      case r35 =>
        refine trule fun b__ w hW hold hpre => ⟨fun hwant K hK => ?_, fun hwant => ?_⟩
        · clear hwant
          have e10 : b__.eval (.tmp 10) = .pointer (some ⟨g10, 0, none⟩) := (hold 10 (by kernel_rfl)).trans rfl
          exact opw_row rfl e10 ((hS.ext (undrew hW)).box 2 rfl) Tryd.underlying42 rfl (by kernel_rfl) (hK _ _ rfl (Below.refl _ _))
        · rw [want_some rfl rfl rfl (show b__.eval (.tmp 64) = .bool true from (hpre ⟨32, _⟩ (Array.mem_of_getElem? (i := 0) rfl) rfl _ _ rfl rfl))] at hwant; cases hwant
      case r36 =>
        refine trule fun b__ w hW hold hpre => ⟨fun hwant K hK => ?_, fun hwant => ?_⟩
        · clear hwant
          have e66 : b__.eval (.tmp 66) = .agg #[.slice Aa la.length cA] := hpre ⟨34, _⟩ (Array.mem_of_getElem? (i := 0) rfl) rfl _ _ rfl rfl
          have e67 : b__.eval (.tmp 67) = .agg #[.slice Ab lb.length cB] := hpre ⟨35, _⟩ (Array.mem_of_getElem? (i := 1) rfl) rfl _ _ rfl rfl
          exact opw_call rfl (by kernel_rfl) (by simp only [List.map_cons, List.map_nil, e66, e67]) (and_any (ka _ _ (hS.ext (undrew hW)).ro) (kb _ _ (hS.ext (undrew hW)).ro)) fun v w' h hb => hK v w' (h.imp fun _ _ _ => trivial) hb
        · rw [want_some rfl rfl rfl (show b__.eval (.tmp 64) = .bool true from (hpre ⟨32, _⟩ (Array.mem_of_getElem? (i := 2) rfl) rfl _ _ rfl rfl))] at hwant; cases hwant
      case r37 =>
        refine trule fun b__ w hW hold hpre => ⟨fun hwant K hK => ?_, fun hwant => ?_⟩
        · clear hwant
          have e65 : b__.eval (.tmp 65) = .pointer (some ⟨q, 0, none⟩) := hpre ⟨33, _⟩ (Array.mem_of_getElem? (i := 0) rfl) rfl _ _ rfl rfl
          have e68 : (fun (v : Value) (w : World) => IsSet w (fun _ => True) v (Ms &&& Mt)) (b__.eval (.tmp 68)) w := hpre ⟨36, _⟩ (Array.mem_of_getElem? (i := 1) rfl) rfl _ _ rfl rfl
          exact opw_call rfl (by kernel_rfl) (by simp only [List.map_cons, List.map_nil, e65]) (hclos_any (ki _ _ (hS.ext (undrew hW)).ro) (kt2 _ _ (hS.ext (undrew hW)).ro) hH.out e68) fun v w' h hb => hK v w' (h.imp fun _ _ _ => trivial) hb
        · rw [want_some rfl rfl rfl (show b__.eval (.tmp 64) = .bool true from (hpre ⟨32, _⟩ (Array.mem_of_getElem? (i := 3) rfl) rfl _ _ rfl rfl))] at hwant; cases hwant
      case r38 =>
        refine trule fun b__ w hW hold hpre => ⟨fun hwant K hK => ?_, fun hwant => ?_⟩
        · clear hwant
          have e11 : b__.eval (.tmp 11) = .pointer (some ⟨g11, 0, none⟩) := (hold 11 (by kernel_rfl)).trans rfl
          exact opw_row rfl e11 ((hS.ext (undrew hW)).box 0 rfl) Tryd.underlying42 rfl (by kernel_rfl) (hK _ _ rfl (Below.refl _ _))
        · rw [want_some rfl rfl rfl (show b__.eval (.tmp 64) = .bool true from (hpre ⟨32, _⟩ (Array.mem_of_getElem? (i := 0) rfl) rfl _ _ rfl rfl))] at hwant; cases hwant
      case r39 =>
        refine trule fun b__ w hW hold hpre => ⟨fun hwant K hK => ?_, fun hwant => ?_⟩
        · clear hwant
          have e12 : b__.eval (.tmp 12) = .pointer (some ⟨g12, 0, none⟩) := (hold 12 (by kernel_rfl)).trans rfl
          exact opw_row rfl e12 ((hS.ext (undrew hW)).box 1 rfl) Tryd.underlying42 rfl (by kernel_rfl) (hK _ _ rfl (Below.refl _ _))
        · rw [want_some rfl rfl rfl (show b__.eval (.tmp 64) = .bool true from (hpre ⟨32, _⟩ (Array.mem_of_getElem? (i := 0) rfl) rfl _ _ rfl rfl))] at hwant; cases hwant
      case r40 =>
        refine trule fun b__ w hW hold hpre => ⟨fun hwant K hK => ?_, fun hwant => ?_⟩
        · clear hwant
          have e70 : b__.eval (.tmp 70) = .agg #[.slice Ac lc.length cC] := hpre ⟨38, _⟩ (Array.mem_of_getElem? (i := 0) rfl) rfl _ _ rfl rfl
          have e71 : b__.eval (.tmp 71) = .agg #[.slice Ad ld.length cD] := hpre ⟨39, _⟩ (Array.mem_of_getElem? (i := 1) rfl) rfl _ _ rfl rfl
          exact opw_call rfl (by kernel_rfl) (by simp only [List.map_cons, List.map_nil, e70, e71]) (and_any (kc _ _ (hS.ext (undrew hW)).ro) (kd _ _ (hS.ext (undrew hW)).ro)) fun v w' h hb => hK v w' (h.imp fun _ _ _ => trivial) hb
        · rw [want_some rfl rfl rfl (show b__.eval (.tmp 64) = .bool true from (hpre ⟨32, _⟩ (Array.mem_of_getElem? (i := 3) rfl) rfl _ _ rfl rfl))] at hwant; cases hwant
      case r41 =>
        refine trule fun b__ w hW hold hpre => ⟨fun hwant K hK => ?_, fun hwant => ?_⟩
        · clear hwant
          have e69 : (fun (v : Value) (w : World) => IsSet w (fun _ => True) v (closM L (Ms &&& Mt))) (b__.eval (.tmp 69)) w := hpre ⟨37, _⟩ (Array.mem_of_getElem? (i := 0) rfl) rfl _ _ rfl rfl
          have e72 : (fun (v : Value) (w : World) => IsSet w (fun _ => True) v (closM L Ms &&& closM L Mt)) (b__.eval (.tmp 72)) w := hpre ⟨40, _⟩ (Array.mem_of_getElem? (i := 1) rfl) rfl _ _ rfl rfl
          exact opw_call rfl (by kernel_rfl) (by simp only [List.map_cons, List.map_nil]) (within_any _ _ _ _ _ _ _ e69 e72) fun v w' h hb => hK v w' (h.trans (by rw [H5.out])) hb
        · rw [want_some rfl rfl rfl (show b__.eval (.tmp 64) = .bool true from (hpre ⟨32, _⟩ (Array.mem_of_getElem? (i := 3) rfl) rfl _ _ rfl rfl))] at hwant; cases hwant
      case r42 =>
        refine trule fun b__ w hW hold hpre => ⟨fun hwant K hK => ?_, fun hwant => ?_⟩
        · clear hwant
          have e64 : b__.eval (.tmp 64) = .bool true := hpre ⟨32, _⟩ (Array.mem_of_getElem? (i := 0) rfl) rfl _ _ rfl rfl
          have e73 : b__.eval (.tmp 73) = .bool true := hpre ⟨41, _⟩ (Array.mem_of_getElem? (i := 1) rfl) rfl _ _ rfl rfl
          exact opw_pick rfl e64 (if_pos rfl) (hK _ _ e73 (Below.refl _ _))
        · rw [want_none rfl] at hwant; cases hwant
      case r43 =>
        refine trule fun b__ w hW hold hpre => ⟨fun hwant K hK => ?_, fun hwant => ?_⟩
        · clear hwant
          have e74 : b__.eval (.tmp 74) = .bool true := hpre ⟨42, _⟩ (Array.mem_of_getElem? (i := 0) rfl) rfl _ _ rfl rfl
          exact opw_assign rfl e74 (hK _ _ rfl (Below.refl _ _))
        · rw [want_none rfl] at hwant; cases hwant
      case post =>
        intro b__ wz hW hdf hsz hold hT
        have e32 : b__.eval (.tmp 32) = .agg #[.slice Aa la.length cA] := hT 0 _ 32 rfl rfl
        have e33 : b__.eval (.tmp 33) = .agg #[.slice Ac lc.length cC] := hT 1 _ 33 rfl rfl
        have e34 : b__.eval (.tmp 34) = .bool true := hT 2 _ 34 rfl rfl
        have e35 : b__.eval (.tmp 35) = .bool true := hT 3 _ 35 rfl rfl
        have e36 : b__.eval (.tmp 36) = .pointer (some ⟨q, 0, none⟩) := hT 4 _ 36 rfl rfl
        have e37 : b__.eval (.tmp 37) = .agg #[.slice Ac lc.length cC] := hT 5 _ 37 rfl rfl
        have e38 : (fun (v : Value) (w : World) => IsSet w (fun _ => True) v (closM L (closM L Ms))) (b__.eval (.tmp 38)) wz := hT 6 _ 38 rfl rfl
        have e39 : b__.eval (.tmp 39) = .agg #[.slice Ac lc.length cC] := hT 7 _ 39 rfl rfl
        have e40 : b__.eval (.tmp 40) = .bool true := hT 8 _ 40 rfl rfl
        have e41 : b__.eval (.tmp 41) = .bool true := hT 9 _ 41 rfl rfl
        have e42 : b__.eval (.tmp 42) = .bool true := hT 10 _ 42 rfl rfl
        have e43 : b__.eval (.tmp 43) = .pointer (some ⟨q, 0, none⟩) := hT 11 _ 43 rfl rfl
        have e44 : b__.eval (.tmp 44) = .agg #[.slice Aa la.length cA] := hT 12 _ 44 rfl rfl
        have e45 : b__.eval (.tmp 45) = .agg #[.slice Ab lb.length cB] := hT 13 _ 45 rfl rfl
        have e46 : (fun (v : Value) (w : World) => IsSet w (fun _ => True) v (Ms ||| Mt)) (b__.eval (.tmp 46)) wz := hT 14 _ 46 rfl rfl
        have e47 : (fun (v : Value) (w : World) => IsSet w (fun _ => True) v (closM L (Ms ||| Mt))) (b__.eval (.tmp 47)) wz := hT 15 _ 47 rfl rfl
        have e48 : b__.eval (.tmp 48) = .agg #[.slice Ac lc.length cC] := hT 16 _ 48 rfl rfl
        have e49 : b__.eval (.tmp 49) = .agg #[.slice Ad ld.length cD] := hT 17 _ 49 rfl rfl
        have e50 : (fun (v : Value) (w : World) => IsSet w (fun _ => True) v (closM L Ms ||| closM L Mt)) (b__.eval (.tmp 50)) wz := hT 18 _ 50 rfl rfl
        have e51 : b__.eval (.tmp 51) = .bool true := hT 19 _ 51 rfl rfl
        have e52 : b__.eval (.tmp 52) = .bool true := hT 20 _ 52 rfl rfl
        have e53 : b__.eval (.tmp 53) = .bool true := hT 21 _ 53 rfl rfl
        have e54 : b__.eval (.tmp 54) = .agg #[.slice Aa la.length cA] := hT 22 _ 54 rfl rfl
        have e55 : b__.eval (.tmp 55) = .agg #[.slice Ab lb.length cB] := hT 23 _ 55 rfl rfl
        have e56 : b__.eval (.tmp 56) = .bool true := hT 24 _ 56 rfl rfl
        have e57 : b__.eval (.tmp 57) = .bool false := hT 25 _ 57 rfl rfl
        have e58 : b__.eval (.tmp 58) = .bool false := hT 26 _ 58 rfl rfl
        have e59 : b__.eval (.tmp 59) = .agg #[.slice Ac lc.length cC] := hT 27 _ 59 rfl rfl
        have e60 : b__.eval (.tmp 60) = .agg #[.slice Ad ld.length cD] := hT 28 _ 60 rfl rfl
        have e61 : b__.eval (.tmp 61) = .bool true := hT 29 _ 61 rfl rfl
        have e62 : b__.eval (.tmp 62) = .bool true := hT 30 _ 62 rfl rfl
        have e63 : b__.eval (.tmp 63) = .bool true := hT 31 _ 63 rfl rfl
        have e64 : b__.eval (.tmp 64) = .bool true := hT 32 _ 64 rfl rfl
        have e65 : b__.eval (.tmp 65) = .pointer (some ⟨q, 0, none⟩) := hT 33 _ 65 rfl rfl
        have e66 : b__.eval (.tmp 66) = .agg #[.slice Aa la.length cA] := hT 34 _ 66 rfl rfl
        have e67 : b__.eval (.tmp 67) = .agg #[.slice Ab lb.length cB] := hT 35 _ 67 rfl rfl
        have e68 : (fun (v : Value) (w : World) => IsSet w (fun _ => True) v (Ms &&& Mt)) (b__.eval (.tmp 68)) wz := hT 36 _ 68 rfl rfl
        have e69 : (fun (v : Value) (w : World) => IsSet w (fun _ => True) v (closM L (Ms &&& Mt))) (b__.eval (.tmp 69)) wz := hT 37 _ 69 rfl rfl
        have e70 : b__.eval (.tmp 70) = .agg #[.slice Ac lc.length cC] := hT 38 _ 70 rfl rfl
        have e71 : b__.eval (.tmp 71) = .agg #[.slice Ad ld.length cD] := hT 39 _ 71 rfl rfl
        have e72 : (fun (v : Value) (w : World) => IsSet w (fun _ => True) v (closM L Ms &&& closM L Mt)) (b__.eval (.tmp 72)) wz := hT 40 _ 72 rfl rfl
        have e73 : b__.eval (.tmp 73) = .bool true := hT 41 _ 73 rfl rfl
        have e74 : b__.eval (.tmp 74) = .bool true := hT 42 _ 74 rfl rfl
        have e6 : b__.eval (.tmp 6) = .bool true := hT 43 _ 6 rfl rfl
        obtain ⟨vs, hvs, hb⟩ := frame_of hdf hsz hold
        replace e32 : vs 32 = .agg #[.slice Aa la.length cA] := (hvs 32).symm.trans e32
        replace e33 : vs 33 = .agg #[.slice Ac lc.length cC] := (hvs 33).symm.trans e33
        replace e34 : vs 34 = .bool true := (hvs 34).symm.trans e34
        replace e35 : vs 35 = .bool true := (hvs 35).symm.trans e35
        replace e36 : vs 36 = .pointer (some ⟨q, 0, none⟩) := (hvs 36).symm.trans e36
        replace e37 : vs 37 = .agg #[.slice Ac lc.length cC] := (hvs 37).symm.trans e37
        replace e38 := (hvs 38) ▸ e38
        replace e39 : vs 39 = .agg #[.slice Ac lc.length cC] := (hvs 39).symm.trans e39
        replace e40 : vs 40 = .bool true := (hvs 40).symm.trans e40
        replace e41 : vs 41 = .bool true := (hvs 41).symm.trans e41
        replace e42 : vs 42 = .bool true := (hvs 42).symm.trans e42
        replace e43 : vs 43 = .pointer (some ⟨q, 0, none⟩) := (hvs 43).symm.trans e43
        replace e44 : vs 44 = .agg #[.slice Aa la.length cA] := (hvs 44).symm.trans e44
        replace e45 : vs 45 = .agg #[.slice Ab lb.length cB] := (hvs 45).symm.trans e45
        replace e46 := (hvs 46) ▸ e46
        replace e47 := (hvs 47) ▸ e47
        replace e48 : vs 48 = .agg #[.slice Ac lc.length cC] := (hvs 48).symm.trans e48
        replace e49 : vs 49 = .agg #[.slice Ad ld.length cD] := (hvs 49).symm.trans e49
        replace e50 := (hvs 50) ▸ e50
        replace e51 : vs 51 = .bool true := (hvs 51).symm.trans e51
        replace e52 : vs 52 = .bool true := (hvs 52).symm.trans e52
        replace e53 : vs 53 = .bool true := (hvs 53).symm.trans e53
        replace e54 : vs 54 = .agg #[.slice Aa la.length cA] := (hvs 54).symm.trans e54
        replace e55 : vs 55 = .agg #[.slice Ab lb.length cB] := (hvs 55).symm.trans e55
        replace e56 : vs 56 = .bool true := (hvs 56).symm.trans e56
        replace e57 : vs 57 = .bool false := (hvs 57).symm.trans e57
        replace e58 : vs 58 = .bool false := (hvs 58).symm.trans e58
        replace e59 : vs 59 = .agg #[.slice Ac lc.length cC] := (hvs 59).symm.trans e59
        replace e60 : vs 60 = .agg #[.slice Ad ld.length cD] := (hvs 60).symm.trans e60
        replace e61 : vs 61 = .bool true := (hvs 61).symm.trans e61
        replace e62 : vs 62 = .bool true := (hvs 62).symm.trans e62
        replace e63 : vs 63 = .bool true := (hvs 63).symm.trans e63
        replace e64 : vs 64 = .bool true := (hvs 64).symm.trans e64
        replace e65 : vs 65 = .pointer (some ⟨q, 0, none⟩) := (hvs 65).symm.trans e65
        replace e66 : vs 66 = .agg #[.slice Aa la.length cA] := (hvs 66).symm.trans e66
        replace e67 : vs 67 = .agg #[.slice Ab lb.length cB] := (hvs 67).symm.trans e67
        replace e68 := (hvs 68) ▸ e68
        replace e69 := (hvs 69) ▸ e69
        replace e70 : vs 70 = .agg #[.slice Ac lc.length cC] := (hvs 70).symm.trans e70
        replace e71 : vs 71 = .agg #[.slice Ad ld.length cD] := (hvs 71).symm.trans e71
        replace e72 := (hvs 72) ▸ e72
        replace e73 : vs 73 = .bool true := (hvs 73).symm.trans e73
        replace e74 : vs 74 = .bool true := (hvs 74).symm.trans e74
        replace e6 : vs 6 = .bool true := (hvs 6).symm.trans e6
        subst hb
        clear hvs hold hT hdf hsz
        simp only [setAll, Act.put, List.setIfInBounds_toArray, List.set_cons_zero, List.set_cons_succ, List.getElem_toArray, List.getElem_cons_succ, List.getElem_cons_zero]
        rw [e6]
        replace hS := hS.ext hW
        go_wp2_with fail
        go_ret
        exact Ret.mk rfl hS.below
end Go.Proofs.YtmlkgaiphpimiaaDoor
namespace Go.Proofs.YtmlkgaiphpimiaaDoor
open Go.RowKit Go.ChangeShapes Go.WideShapes

theorem boxF_of_reads {w : World} {n : String} {g : Nat} {t e : TypeId} {m : Nat} {k : IntKind} {zs : List Int} (hg : Tryd.prog.globalNamed n = some g) (hty : (Tryd.prog.globals[g]?).map (·.type) = some t)
    (ht : Tryd.prog.underlying t = some (.array m e)) (he : Tryd.prog.underlying e = some (.int k)) (hce : Tryd.prog.cellsOf e = 1) (hct : Tryd.prog.cellsOf t = m) (h : Lib.VarReads Tryd.prog w n (Lib.tabData k zs)) :
    ∃ t, BoxF w g t (zs.map fun z => Value.int k z).toArray := by
  obtain ⟨g', t', cs, fuel, p, hg', hty', hvar, hd⟩ := h
  obtain rfl := Option.some.inj (hg.symm.trans hg')
  obtain rfl := Option.some.inj (hty.symm.trans hty')
  have hcs := Lib.cells_of_tab ht he hce hct hd
  simp only [World.var?, hg, Option.bind_some] at hvar
  split at hvar
  · rename_i cs' t'' f heq
    obtain rfl := Option.some.inj hvar
    refine ⟨(t'', f), ?_⟩
    rw [← hcs]
    exact heq
  · cases hvar
end Go.Proofs.YtmlkgaiphpimiaaDoor
namespace Go.Proofs.YtmlkgaiphpimiaaDoor
open Go.RowKit Go.ChangeShapes Go.WideShapes

theorem dtab_of_reads {w : World} (h1 : Lib.VarReads Tryd.prog w "math/bits.deBruijn64tab" Rows.laid_math_bits_deBruijn64tab) : DTab w := by
  have e1 : (Rows.laid_math_bits_deBruijn64tab : DataW Unit) = Lib.tabData .u8 (dbL.map fun x : Nat => (x : Int)) := by kernel_rfl
  rw [e1] at h1
  obtain ⟨t, b1⟩ := boxF_of_reads (g := 0) (by kernel_rfl) (t := 133) (by kernel_rfl) Tryd.underlying133 Tryd.underlying5 (by kernel_rfl) (by kernel_rfl) h1
  have e : (List.map (fun z => Value.int .u8 z) (dbL.map fun x : Nat => (x : Int))) = u8s dbL := by simp [u8s]
  rw [e] at b1
  intro q hq
  rw [b1.cell, List.getElem?_toArray]
  exact u8s_at _ _ hq
end Go.Proofs.YtmlkgaiphpimiaaDoor
namespace Go.Proofs.YtmlkgaiphpimiaaDoor
open Go.ChangeShapes Go.WideShapes Go.ChangeAt Go.RowKit

section
variable {P : Program} {H : Type} {enc : TypeId × Value → H} {W : World} {r : Reach} {b0 base : Nat} {sp : Nat → Bool} {held : Bool} {v : Value} {d : DataW H} {p : List MemPlace} {t : TypeId}
theorem int_open {k : IntKind} (ht : P.underlying t = some (.int k)) (hv : Value.okWide P W r b0 t v) (h : DataW.Trod enc P W base sp held t v d p) : ∃ n, v = .int k n ∧ (Lit.int k n).wf = true := by
  obtain ⟨n, rfl⟩ := okWide_int ht hv
  obtain ⟨fuel, hf⟩ := h
  obtain ⟨m, e, _, w⟩ := DataW.trod_int ht hf
  simp [Value.cells] at e
  subst e
  exact ⟨_, rfl, w⟩
theorem u64_open (ht : P.underlying t = some (.int .u64)) (hv : Value.okWide P W r b0 t v) (h : DataW.Trod enc P W base sp held t v d p) : ∃ n : Nat, v = .int .u64 n ∧ n < T64 := by
  obtain ⟨n, rfl, w⟩ := int_open ht hv h
  have := bounds_u64 w
  obtain ⟨m, rfl⟩ := Int.eq_ofNat_of_zero_le (by omega : 0 ≤ n)
  exact ⟨m, rfl, by unfold T64; omega⟩
end
end Go.Proofs.YtmlkgaiphpimiaaDoor
namespace Go.Proofs.YtmlkgaiphpimiaaDoor
open Go.ChangeShapes Go.WideShapes Go.ChangeAt Go.RowKit

theorem clos_laid_plain (W : World) (h : laidMetH Tryd.prog Rows.hierarchyClosesRow.laid W) : DTab W := by
  have h' : laidMetH Tryd.prog [("math/bits.deBruijn64tab", Rows.laid_math_bits_deBruijn64tab)] W := h
  rw [MakeChecks.laidMetH_plain _ _ _ (by kernel_rfl)] at h'
  exact dtab_of_reads (Lib.laidMet.reads h' (.head _))
noncomputable def closStart (os : Os) : World := World.laidAll Tryd.prog os Rows.hierarchyClosesRow.laid
theorem clos_start_met (os : Os) (args : Array Value) : laidMetH Tryd.prog Rows.hierarchyClosesRow.laid ((closStart os).forCall (fun _ _ => 0) ⟨#[], args, []⟩).memory := by
  rw [MakeChecks.laidMetH_plain _ _ _ (by kernel_rfl)]
  exact laidMet_laidAll _ (by kernel_rfl) (by kernel_rfl)
theorem clos_own : ownKnob Tryd.prog.godebug = none := by kernel_rfl
theorem clos_laidOut : laidOutB Tryd.prog = true := by kernel_rfl

set_option maxRecDepth 100000 in
theorem clos_lifted (os : Os) (started : os.Started) (H : Type) (enc : TypeId × Value → H) :
    ReturnsInHanded {} Tryd.checked os 9 .any (fun w args => (Rows.hierarchyClosesSpec.pre enc Tryd.prog Tryd.f9 [] false w args ∧ laidMetH Tryd.prog Rows.hierarchyClosesRow.laid w) ∧ sizedMet enc Tryd.prog Tryd.f9 (OpenSpec.ofChange Rows.hierarchyClosesSpec) false w args)
      (Rows.hierarchyClosesSpec.post enc Tryd.prog Tryd.f9 false true false false) := by
  refine returnsInHanded_of_change_and (C := Tryd.checked) (X := fun w _ => laidMetH Tryd.prog Rows.hierarchyClosesRow.laid w) (fun _ _ _ hh h => h.of_heap hh) clos_own started (by kernel_rfl) Tryd.func9
    (ChangeSpec.witness_shaped (enc := enc) (C := Tryd.checked) (os := os) (X := fun w _ => laidMetH Tryd.prog Rows.hierarchyClosesRow.laid w) false (closStart os) #[.int .u64 0, .int .u64 0, .int .u64 0] 8 (World.laidAll_os _ _ _) (World.shaped_of_ZipB (by kernel_rfl) (by kernel_rfl)) (by kernel_rfl) (by kernel_rfl) (by kernel_rfl) (clos_start_met os _)) ?_
  intro W base args ds gs before hval0 hW _ _ hL _
  have hval : ∀ (j : Nat) t v, Tryd.f9.params[j]? = some t → args[j]? = some v → Value.okWide Tryd.prog W .any base t v := hval0
  have hW' := hW
  obtain ⟨p, q, hA0, hV, rfl, hfz, hnd⟩ := hW
  have hA : DataW.TrodAll enc Tryd.prog W 0 (fun _ => true) true Tryd.f9.params.toList args.toList ds p := hA0
  rw [Tryd.params9] at hA hval
  obtain ⟨v0, v1, v2, d0, d1, d2, p0, p1, p2, rfl, rfl, rfl, h0, h1, h2⟩ := trodAll_three hA
  obtain ⟨rfl, rfl⟩ := trodVars_none hV
  obtain ⟨x, rfl, hx⟩ := u64_open Tryd.underlying22 (hval 0 _ v0 rfl rfl) h0
  obtain ⟨s, rfl, hs⟩ := u64_open Tryd.underlying22 (hval 1 _ v1 rfl rfl) h1
  obtain ⟨t, rfl, ht⟩ := u64_open Tryd.underlying22 (hval 2 _ v2 rfl rfl) h2
  have hT := clos_laid_plain W hL
  have lt : ∀ z ∈ p0 ++ p1 ++ p2, z.block < W.heap.size := fun z hz => by simpa using hW'.lt z (by simpa using hz)
  refine (lcloses_any x s t hx hs ht W hT).mono fun E W' he => ?_
  obtain ⟨r, rfl, rfl, hb⟩ := he
  refine ⟨_, rfl, _, _, _, [], p0 ++ p1 ++ p2, [], hW', ?_, ?_, ?_, hb.frame _, fun h => by cases h⟩
  · exact trodAll_mk1 (shut_bool Tryd.underlying4 true)
  · rw [Tryd.params9]
    rw [List.append_assoc]
    exact trodAll_mk3 (Below.trod clos_laidOut (by kernel_rfl) (of_decide_eq_true (by kernel_rfl)) h0 hb fun z hz => lt z (List.mem_append_left _ (List.mem_append_left _ hz))) (Below.trod clos_laidOut (by kernel_rfl) (of_decide_eq_true (by kernel_rfl)) h1 hb fun z hz => lt z (List.mem_append_left _ (List.mem_append_right _ hz))) (Below.trod clos_laidOut (by kernel_rfl) (of_decide_eq_true (by kernel_rfl)) h2 hb fun z hz => lt z (List.mem_append_right _ hz))
  · rfl

theorem clos_holds : Rows.HierarchyClosesSaid :=
  OpenClaim.holds_of_wide 9 Tryd.f9 rfl rfl rfl rfl rfl rfl rfl ⟨rfl, rfl, rfl, rfl, rfl⟩ rfl rfl rfl rfl rfl (by kernel_rfl) Tryd.func9 (by kernel_rfl)
    (of_decide_eq_true (by kernel_rfl)) (by unfold Func.isWrapper; rw [if_neg (by decide +kernel)]; exact ⟨rfl, rfl⟩)
    (fun os started H enc _ => clos_lifted os started H enc)
end Go.Proofs.YtmlkgaiphpimiaaDoor
namespace Go.Proofs.YtmlkgaiphpimiaaDoor
open Go

theorem clos_card : Rows.HierarchyClosesCardSaid :=
  Claim7.holds_tied_plain_at .later [] [.data] true (true, "cfd49cb4656b8bd54bde5f9242d591093a1a57a61d44ec1a091c4818a6365428") false
    clos_holds (fun _ h => by cases h) (by kernel_rfl) (fun _ h => by cases h) hierarchyCloses_row_tie rfl ⟨rfl, rfl⟩ (by kernel_rfl) rfl
    (fun f fn hf hfn => by
      obtain rfl : f = 9 := Option.some.inj ((show Tryd.prog.funcNamed "arbac/arbaclaw10.HierarchyCloses" = some 9 by kernel_rfl).symm.trans hf) |>.symm
      obtain rfl : fn = Tryd.f9 := (Option.some.inj (Tryd.func9.symm.trans hfn)).symm
      exact ⟨by kernel_rfl, fun j t ht => by
        rw [Tryd.params9] at ht
        have h3 : t = 22 := by
          rcases j with _ | _ | _ | j
          · simp at ht; simp [← ht]
          · simp at ht; simp [← ht]
          · simp at ht; simp [← ht]
          · simp at ht
        rcases h3 with rfl
        · exact (show Tryd.prog.wantsStandIn 22 = false by kernel_rfl)⟩)
    (by kernel_rfl)
end Go.Proofs.YtmlkgaiphpimiaaDoor
namespace Go.Proofs.YtmlkgaiphpimiaaDoor
#print axioms clos_card
end Go.Proofs.YtmlkgaiphpimiaaDoor
