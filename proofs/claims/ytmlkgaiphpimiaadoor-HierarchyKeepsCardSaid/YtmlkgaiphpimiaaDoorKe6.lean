/-
  The card of HierarchyKeeps.
-/
import Derived.Deep.Cut
import Derived.Deep.CutBlock
import Derived.Deep.MidRow
import Derived.Laws.CopyRow
import Derived.Laws.CopyOwn
import Derived.Laws.IdiomStrings
import Derived.Test.YtmlkgaiphpimiaaDoorShelf
import Derived.Test.YtmlkgaiphpimiaaDoorRows
import Derived.ProofKit
import Derived.OpenShut
import Derived.Lib.LaidU8
import Derived.Lay
import Derived.MakeChecks
import Derived.LaidLaws
import Derived.Stop.Joined
import Derived.Test.YtmlkgaiphpimiaaDoorCards
import Derived.Test.YtmlkgaiphpimiaaDoorTie
import Derived.SevenTiedAt
import Derived.Test.YtmlkgaiphpimiaaDoorKe5
namespace Go.Proofs.YtmlkgaiphpimiaaDoor
open Go.RowKit
attribute [local go_sem ↓] Go.wp_at_zero Go.wp_at_succ
set_option maxRecDepth 20000
set_option exponentiation.threshold 5000

theorem HOK.unl {L : List (Nat × Nat)} (h : HOK L) (z : Nat × Nat) : HOK (unl L z) := ⟨unl_asc h.asc z, fun x hx => h.role x (mem_unl.1 hx).1, h.acyc.sub fun x hx => (mem_unl.1 hx).1⟩
/-- what Unlink gives -/
def UnlinkP (w0 : World) (F : List Fact) (K : (Nat → Prop) → World → Prop) (L : List (Nat × Nat)) (a b : Int) (r : Value) (z : Int) (w : World) : Prop :=
  (¬ ((1 ≤ a ∧ a ≤ 63) ∧ (1 ≤ b ∧ b ≤ 63) ∧ a ≠ b) ∧ r = .pointer none ∧ z = 1 ∧ St w0 w F K) ∨
  ∃ x y : Nat, a = (x : Int) ∧ b = (y : Int) ∧ (1 ≤ x ∧ x < 64) ∧ (1 ≤ y ∧ y < 64) ∧ x ≠ y ∧
    (((x, y) ∉ L ∧ r = .pointer none ∧ z = 4 ∧ St w0 w F K) ∨ ((x, y) ∈ L ∧ z = 0 ∧ St w0 w F fun D w => K D w ∧ IsH w D r (unl L (x, y))))
theorem hunlink_any {w0 w : World} {F : List Fact} {K : (Nat → Prop) → World → Prop} (p : Value) (L : List (Nat × Nat)) (a b : Int) (hH : HOK L) (hl : L.length ≤ 900000) (hS : St w0 w F K)
    (ko : ∀ D w, K D w → IsH w D p L) (kt : ∀ D w, K D w → DTab w ∧ D 0) :
    Calls Tryd.prog 34 #[p, .int .i64 a, .int .i64 b] w fun e w' => ∃ (r : Value) (z : Int), e = .returned (.tuple #[r, .int .i64 z]) ∧ UnlinkP w0 F K L a b r z w' := by
  have KS := hS.stable
  obtain ⟨q, o, rfl, hX⟩ := ko _ _ hS.ro
  have hS := hS.add stable_hierX hX fun b h _ => h
  clear hX
  have HH := Lib.hid hH
  clear hH
  by_cases hra : 1 ≤ a ∧ a ≤ 63
  · have HRA := Lib.hid (decide_eq_true hra)
    by_cases hrb : 1 ≤ b ∧ b ≤ 63
    · have HRB := Lib.hid (decide_eq_true hrb)
      by_cases hab : a = b
      · subst hab
        have HNO : Hid (¬ ((1 ≤ a ∧ a ≤ 63) ∧ (1 ≤ a ∧ a ≤ 63) ∧ a ≠ a)) := Lib.hid fun h => h.2.2 rfl
        clear hra hrb
        go_enter Tryd.func34, Tryd.ntmps34
        go_wp2_with (first
          | ((with_reducible show wpList _ _ _ (⟨_, .binOp _ _ _ _ _, _, _, _, _⟩ :: _) _ _); (first | ((with_reducible show wpList _ _ _ (⟨_, .binOp .lss _ _ _ _, _, _, _, _⟩ :: _) _ _); refine st_lss rfl _ _ _ _ rfl _ _ _ rfl rfl (fun h_ => ?_) (fun h_ => ?_)) | ((with_reducible show wpList _ _ _ (⟨_, .binOp .leq _ _ _ _, _, _, _, _⟩ :: _) _ _); refine st_leq rfl _ _ _ _ rfl _ _ _ rfl rfl (fun h_ => ?_) (fun h_ => ?_)) | ((with_reducible show wpList _ _ _ (⟨_, .binOp .gtr _ _ _ _, _, _, _, _⟩ :: _) _ _); refine st_gtr rfl _ _ _ _ rfl _ _ _ rfl rfl (fun h_ => ?_) (fun h_ => ?_)) | ((with_reducible show wpList _ _ _ (⟨_, .binOp .geq _ _ _ _, _, _, _, _⟩ :: _) _ _); refine st_geq rfl _ _ _ _ rfl _ _ _ rfl rfl (fun h_ => ?_) (fun h_ => ?_)) | ((with_reducible show wpList _ _ _ (⟨_, .binOp .eql _ _ _ _, _, _, _, _⟩ :: _) _ _); refine st_eql rfl _ _ _ _ rfl _ _ _ rfl rfl (fun h_ => ?_) (fun h_ => ?_)) | ((with_reducible show wpList _ _ _ (⟨_, .binOp .neq _ _ _ _, _, _, _, _⟩ :: _) _ _); refine st_neq rfl _ _ _ _ rfl _ _ _ rfl rfl (fun h_ => ?_) (fun h_ => ?_))) <;> go_prune)
          | (go_at_call 55; refine (role_any _ _).mono ?_; (first | rw [HRA.out] | rw [HRB.out]); rintro r_ w_ ⟨_, rfl, rfl, hb_⟩; replace hS := hS.ext hb_; clear hb_))
        go_ret2
        exact ⟨_, _, rfl, .inl ⟨HNO.out, rfl, rfl, hS.mono KS fun _ _ h => h.1⟩⟩
      · obtain ⟨x, rfl⟩ : ∃ x : Nat, a = (x : Int) := ⟨a.toNat, by omega⟩
        obtain ⟨y, rfl⟩ : ∃ y : Nat, b = (y : Int) := ⟨b.toNat, by omega⟩
        have hx1 : Hid (1 ≤ x ∧ x < 64) := Lib.hid (by omega)
        have hy1 : Hid (1 ≤ y ∧ y < 64) := Lib.hid (by omega)
        have hxy : Hid (x ≠ y) := Lib.hid (by omega)
        clear hra hrb
        have HW := Lib.hid (fun (w : World) (h : St w0 w F fun D w => K D w ∧ HierX q o L D w) => owithout_any o 64 L x y (by omega) HH.out.inr HH.out.asc HH.out.acyc hl h (fun D w h => h.2.2) (fun D w h => kt D w h.1))
        go_enter Tryd.func34, Tryd.ntmps34
        go_wp2_with (first
          | ((with_reducible show wpList _ _ _ (⟨_, .binOp _ _ _ _ _, _, _, _, _⟩ :: _) _ _); (first | ((with_reducible show wpList _ _ _ (⟨_, .binOp .lss _ _ _ _, _, _, _, _⟩ :: _) _ _); refine st_lss rfl _ _ _ _ rfl _ _ _ rfl rfl (fun h_ => ?_) (fun h_ => ?_)) | ((with_reducible show wpList _ _ _ (⟨_, .binOp .leq _ _ _ _, _, _, _, _⟩ :: _) _ _); refine st_leq rfl _ _ _ _ rfl _ _ _ rfl rfl (fun h_ => ?_) (fun h_ => ?_)) | ((with_reducible show wpList _ _ _ (⟨_, .binOp .gtr _ _ _ _, _, _, _, _⟩ :: _) _ _); refine st_gtr rfl _ _ _ _ rfl _ _ _ rfl rfl (fun h_ => ?_) (fun h_ => ?_)) | ((with_reducible show wpList _ _ _ (⟨_, .binOp .geq _ _ _ _, _, _, _, _⟩ :: _) _ _); refine st_geq rfl _ _ _ _ rfl _ _ _ rfl rfl (fun h_ => ?_) (fun h_ => ?_)) | ((with_reducible show wpList _ _ _ (⟨_, .binOp .eql _ _ _ _, _, _, _, _⟩ :: _) _ _); refine st_eql rfl _ _ _ _ rfl _ _ _ rfl rfl (fun h_ => ?_) (fun h_ => ?_)) | ((with_reducible show wpList _ _ _ (⟨_, .binOp .neq _ _ _ _, _, _, _, _⟩ :: _) _ _); refine st_neq rfl _ _ _ _ rfl _ _ _ rfl rfl (fun h_ => ?_) (fun h_ => ?_))) <;> go_prune)
          | (go_at_call 55; refine (role_any _ _).mono ?_; (first | rw [HRA.out] | rw [HRB.out]); rintro r_ w_ ⟨_, rfl, rfl, hb_⟩; replace hS := hS.ext hb_; clear hb_)
          | ((with_reducible show wpList _ _ _ (⟨_, .load _ _, _, _, _, _⟩ :: _) _ _); refine st_kcell hS rfl _ _ rfl _ rfl _ (fun D w h => h.2.1.cell 0 rfl) (by kernel_rfl) ?_)
          | (go_at_call 69; refine (HW.out _ hS).mono ?_; rintro e w_ (⟨hm, rfl, hS⟩ | ⟨hm, pp, rfl, hS⟩) <;> (try obtain ⟨qo, _, _, _, _, _, _, rfl, -⟩ := hS.ro.2))
          | ((with_reducible show wpList _ _ _ (⟨some 42, _, _, _, _, _⟩ :: _) _ _); refine st_box hS rfl _ _ rfl (.agg #[.pointer (some ⟨qo, 0, none⟩)]) _ rfl rfl ?_; clear hS; intro g w_ hS; (try simp only [Act.put, Act.eval, List.set_cons_zero, List.set_cons_succ, List.setIfInBounds_toArray, Array.getD_eq_getD_getElem?, List.getElem?_toArray, List.getElem?_cons_succ, List.getElem?_cons_zero, Option.getD_some, Value.cells] at hS)))
        · go_ret2
          exact ⟨_, _, rfl, .inr ⟨x, y, rfl, rfl, hx1.out, hy1.out, hxy.out, .inl ⟨hm, rfl, rfl, hS.mono KS fun _ _ h => h.1⟩⟩⟩
        · go_ret2
          exact ⟨_, _, rfl, .inr ⟨x, y, rfl, rfl, hx1.out, hy1.out, hxy.out, .inr ⟨hm, rfl, (hS.seal 0 (by simp) rfl).mono (KS.and stable_isH) fun D w h => ⟨h.1.1.1, g, _, rfl, h.2, h.1.2⟩⟩⟩⟩
    · have HRB := Lib.hid (decide_eq_false hrb)
      have HNO : Hid (¬ ((1 ≤ a ∧ a ≤ 63) ∧ (1 ≤ b ∧ b ≤ 63) ∧ a ≠ b)) := Lib.hid fun h => hrb h.2.1
      clear hra hrb
      go_enter Tryd.func34, Tryd.ntmps34
      go_wp2_with (first
        | ((with_reducible show wpList _ _ _ (⟨_, .binOp _ _ _ _ _, _, _, _, _⟩ :: _) _ _); (first | ((with_reducible show wpList _ _ _ (⟨_, .binOp .lss _ _ _ _, _, _, _, _⟩ :: _) _ _); refine st_lss rfl _ _ _ _ rfl _ _ _ rfl rfl (fun h_ => ?_) (fun h_ => ?_)) | ((with_reducible show wpList _ _ _ (⟨_, .binOp .leq _ _ _ _, _, _, _, _⟩ :: _) _ _); refine st_leq rfl _ _ _ _ rfl _ _ _ rfl rfl (fun h_ => ?_) (fun h_ => ?_)) | ((with_reducible show wpList _ _ _ (⟨_, .binOp .gtr _ _ _ _, _, _, _, _⟩ :: _) _ _); refine st_gtr rfl _ _ _ _ rfl _ _ _ rfl rfl (fun h_ => ?_) (fun h_ => ?_)) | ((with_reducible show wpList _ _ _ (⟨_, .binOp .geq _ _ _ _, _, _, _, _⟩ :: _) _ _); refine st_geq rfl _ _ _ _ rfl _ _ _ rfl rfl (fun h_ => ?_) (fun h_ => ?_)) | ((with_reducible show wpList _ _ _ (⟨_, .binOp .eql _ _ _ _, _, _, _, _⟩ :: _) _ _); refine st_eql rfl _ _ _ _ rfl _ _ _ rfl rfl (fun h_ => ?_) (fun h_ => ?_)) | ((with_reducible show wpList _ _ _ (⟨_, .binOp .neq _ _ _ _, _, _, _, _⟩ :: _) _ _); refine st_neq rfl _ _ _ _ rfl _ _ _ rfl rfl (fun h_ => ?_) (fun h_ => ?_))) <;> go_prune)
        | (go_at_call 55; refine (role_any _ _).mono ?_; (first | rw [HRA.out] | rw [HRB.out]); rintro r_ w_ ⟨_, rfl, rfl, hb_⟩; replace hS := hS.ext hb_; clear hb_))
      go_ret2
      exact ⟨_, _, rfl, .inl ⟨HNO.out, rfl, rfl, hS.mono KS fun _ _ h => h.1⟩⟩
  · have HRA := Lib.hid (decide_eq_false hra)
    have HRB := HRA
    have HNO : Hid (¬ ((1 ≤ a ∧ a ≤ 63) ∧ (1 ≤ b ∧ b ≤ 63) ∧ a ≠ b)) := Lib.hid fun h => hra h.1
    clear hra
    go_enter Tryd.func34, Tryd.ntmps34
    go_wp2_with (first
      | ((with_reducible show wpList _ _ _ (⟨_, .binOp _ _ _ _ _, _, _, _, _⟩ :: _) _ _); (first | ((with_reducible show wpList _ _ _ (⟨_, .binOp .lss _ _ _ _, _, _, _, _⟩ :: _) _ _); refine st_lss rfl _ _ _ _ rfl _ _ _ rfl rfl (fun h_ => ?_) (fun h_ => ?_)) | ((with_reducible show wpList _ _ _ (⟨_, .binOp .leq _ _ _ _, _, _, _, _⟩ :: _) _ _); refine st_leq rfl _ _ _ _ rfl _ _ _ rfl rfl (fun h_ => ?_) (fun h_ => ?_)) | ((with_reducible show wpList _ _ _ (⟨_, .binOp .gtr _ _ _ _, _, _, _, _⟩ :: _) _ _); refine st_gtr rfl _ _ _ _ rfl _ _ _ rfl rfl (fun h_ => ?_) (fun h_ => ?_)) | ((with_reducible show wpList _ _ _ (⟨_, .binOp .geq _ _ _ _, _, _, _, _⟩ :: _) _ _); refine st_geq rfl _ _ _ _ rfl _ _ _ rfl rfl (fun h_ => ?_) (fun h_ => ?_)) | ((with_reducible show wpList _ _ _ (⟨_, .binOp .eql _ _ _ _, _, _, _, _⟩ :: _) _ _); refine st_eql rfl _ _ _ _ rfl _ _ _ rfl rfl (fun h_ => ?_) (fun h_ => ?_)) | ((with_reducible show wpList _ _ _ (⟨_, .binOp .neq _ _ _ _, _, _, _, _⟩ :: _) _ _); refine st_neq rfl _ _ _ _ rfl _ _ _ rfl rfl (fun h_ => ?_) (fun h_ => ?_))) <;> go_prune)
      | (go_at_call 55; refine (role_any _ _).mono ?_; (first | rw [HRA.out] | rw [HRB.out]); rintro r_ w_ ⟨_, rfl, rfl, hb_⟩; replace hS := hS.ext hb_; clear hb_))
    go_ret2
    exact ⟨_, _, rfl, .inl ⟨HNO.out, rfl, rfl, hS.mono KS fun _ _ h => h.1⟩⟩
/-- what Chain gives -/
def ChainP (L : List (Nat × Nat)) (a b : Int) (l : List Nat) (c : Bool) : Prop :=
  (c = false ∧ l = [] ∧ ¬ impl L a b) ∨ (c = true ∧ ∃ i j d : Nat, a = (i : Int) ∧ b = (j : Int) ∧ (1 ≤ i ∧ i < 64) ∧ (1 ≤ j ∧ j < 64) ∧ isDist L j i d ∧ l = gp L j d i)
def ChainR (w0 : World) (L : List (Nat × Nat)) (a b : Int) (e : Ending) (w' : World) : Prop :=
  ∃ (v : Value) (c : Bool) (l : List Nat), e = .returned (.tuple #[v, .bool c]) ∧ ChainP L a b l c ∧ l.length ≤ 64 ∧ St w0 w' [.own v 3 1 l.length (ints (natInts l))] fun _ _ => True
theorem chain_of_path {L : List (Nat × Nat)} {a b : Int} {l : List Nat} {c : Bool} (hi : impl L a b) (h : PathP L 64 a b l c) : ChainP L a b l c := by
  obtain ⟨i, j, rfl, rfl, h1, h2, h3⟩ := hi
  rcases h with ⟨_, _, h⟩ | ⟨h, i', j', d, e1, e2, _, _, h4, h5⟩
  · refine absurd ?_ h
    rcases h3 with rfl | h3
    · exact ⟨i, i, 0, rfl, rfl, h1.2, h1.2, rfl⟩
    · obtain ⟨k, hk⟩ := h3.wk
      exact ⟨i, j, k, rfl, rfl, h1.2, h2.2, hk⟩
  · obtain rfl : i = i' := by omega
    obtain rfl : j = j' := by omega
    exact .inr ⟨h, i, j, d, rfl, rfl, h1, h2, h4, h5⟩
theorem hchain_any {w0 : World} {D : Nat → Prop} {p : Value} {L : List (Nat × Nat)} (h : IsH w0 D p L) (hH : HOK L) (hl : L.length ≤ 900000) (r s : Int) : Calls Tryd.prog 17 #[p, .int .i64 r, .int .i64 s] w0 (ChainR w0 L r s) := by
  obtain ⟨q, o, rfl, hX⟩ := h
  obtain ⟨K, ko, hS⟩ : ∃ K : (Nat → Prop) → World → Prop, (∀ D w, K D w → HierX q o L D w) ∧ St w0 w0 [] K := ⟨_, fun _ _ h => h, St.start stable_hierX hX⟩
  clear hX
  have HI := Lib.hid (fun (w : World) (h : HierX q o L (Free []) w) => himplies_any (w0 := w) ⟨q, o, rfl, h⟩ hH r s)
  have HP := Lib.hid (fun (w : World) (h : HierX q o L (Free []) w) => opath_any h.2 hH.inr hH.acyc (by omega) (by omega) r s)
  by_cases hi : impl L r s
  · have HC := Lib.hid (fun l c (h : PathP L 64 r s l c) => chain_of_path hi h)
    have HB : Hid (∀ c : Bool, (c = true ↔ impl L r s) → c = true) := Lib.hid fun c h => h.2 hi
    clear hi hH
    go_enter Tryd.func17, Tryd.ntmps17
    go_wp2_with (first
      | ((with_reducible show wpList _ _ _ (⟨_, .binOp _ _ _ _ _, _, _, _, _⟩ :: _) _ _); (first | ((with_reducible show wpList _ _ _ (⟨_, .binOp .lss _ _ _ _, _, _, _, _⟩ :: _) _ _); refine st_lss rfl _ _ _ _ rfl _ _ _ rfl rfl (fun h_ => ?_) (fun h_ => ?_)) | ((with_reducible show wpList _ _ _ (⟨_, .binOp .leq _ _ _ _, _, _, _, _⟩ :: _) _ _); refine st_leq rfl _ _ _ _ rfl _ _ _ rfl rfl (fun h_ => ?_) (fun h_ => ?_)) | ((with_reducible show wpList _ _ _ (⟨_, .binOp .gtr _ _ _ _, _, _, _, _⟩ :: _) _ _); refine st_gtr rfl _ _ _ _ rfl _ _ _ rfl rfl (fun h_ => ?_) (fun h_ => ?_)) | ((with_reducible show wpList _ _ _ (⟨_, .binOp .geq _ _ _ _, _, _, _, _⟩ :: _) _ _); refine st_geq rfl _ _ _ _ rfl _ _ _ rfl rfl (fun h_ => ?_) (fun h_ => ?_)) | ((with_reducible show wpList _ _ _ (⟨_, .binOp .eql _ _ _ _, _, _, _, _⟩ :: _) _ _); refine st_eql rfl _ _ _ _ rfl _ _ _ rfl rfl (fun h_ => ?_) (fun h_ => ?_)) | ((with_reducible show wpList _ _ _ (⟨_, .binOp .neq _ _ _ _, _, _, _, _⟩ :: _) _ _); refine st_neq rfl _ _ _ _ rfl _ _ _ rfl rfl (fun h_ => ?_) (fun h_ => ?_))) <;> go_prune)
      | (go_at_call 15; refine (HI.out _ (ko _ _ hS.ro)).mono ?_; rintro r_ w_ ⟨_, rfl, ⟨c, rfl, hc⟩, hb_⟩; obtain rfl := HB.out c hc; clear hc; replace hS := hS.ext hb_; clear hb_)
      | ((with_reducible show wpList _ _ _ (⟨_, .load _ _, _, _, _, _⟩ :: _) _ _); refine st_kcell hS rfl _ _ rfl _ rfl _ (fun D w h => (ko D w h).1.cell 0 rfl) (by kernel_rfl) ?_)
      | (go_at_call 27; refine (HP.out _ (ko _ _ hS.ro)).mono ?_; rintro e w_ ⟨v, c, l, rfl, hp, hll, hs⟩; replace hp := Lib.hid (HC.out l c hp); replace hS := hS.new hs.below (.own v 3 1 l.length (ints (natInts l))) (hs.own 0 rfl); clear hs))
    go_ret2
    exact ⟨v, c, l, rfl, hp.out, hll, hS.mono (Stable.pure True) fun _ _ _ => trivial⟩
  · have HB : Hid (∀ c : Bool, (c = true ↔ impl L r s) → c = false) := Lib.hid fun c h => by
      cases c with
      | true => exact absurd (h.1 rfl) hi
      | false => rfl
    have HNI := Lib.hid hi
    clear hi hH
    go_enter Tryd.func17, Tryd.ntmps17
    go_wp2_with (first
      | ((with_reducible show wpList _ _ _ (⟨_, .binOp _ _ _ _ _, _, _, _, _⟩ :: _) _ _); (first | ((with_reducible show wpList _ _ _ (⟨_, .binOp .lss _ _ _ _, _, _, _, _⟩ :: _) _ _); refine st_lss rfl _ _ _ _ rfl _ _ _ rfl rfl (fun h_ => ?_) (fun h_ => ?_)) | ((with_reducible show wpList _ _ _ (⟨_, .binOp .leq _ _ _ _, _, _, _, _⟩ :: _) _ _); refine st_leq rfl _ _ _ _ rfl _ _ _ rfl rfl (fun h_ => ?_) (fun h_ => ?_)) | ((with_reducible show wpList _ _ _ (⟨_, .binOp .gtr _ _ _ _, _, _, _, _⟩ :: _) _ _); refine st_gtr rfl _ _ _ _ rfl _ _ _ rfl rfl (fun h_ => ?_) (fun h_ => ?_)) | ((with_reducible show wpList _ _ _ (⟨_, .binOp .geq _ _ _ _, _, _, _, _⟩ :: _) _ _); refine st_geq rfl _ _ _ _ rfl _ _ _ rfl rfl (fun h_ => ?_) (fun h_ => ?_)) | ((with_reducible show wpList _ _ _ (⟨_, .binOp .eql _ _ _ _, _, _, _, _⟩ :: _) _ _); refine st_eql rfl _ _ _ _ rfl _ _ _ rfl rfl (fun h_ => ?_) (fun h_ => ?_)) | ((with_reducible show wpList _ _ _ (⟨_, .binOp .neq _ _ _ _, _, _, _, _⟩ :: _) _ _); refine st_neq rfl _ _ _ _ rfl _ _ _ rfl rfl (fun h_ => ?_) (fun h_ => ?_))) <;> go_prune)
      | (go_at_call 15; refine (HI.out _ (ko _ _ hS.ro)).mono ?_; rintro r_ w_ ⟨_, rfl, ⟨c, rfl, hc⟩, hb_⟩; obtain rfl := HB.out c hc; clear hc; replace hS := hS.ext hb_; clear hb_))
    go_ret2
    exact ⟨_, false, [], rfl, .inl ⟨rfl, rfl, HNI.out⟩, by simp, (hS.nil 3 1).mono (Stable.pure True) fun _ _ _ => trivial⟩
set_option maxHeartbeats 2000000 in
theorem hred_any {w0 : World} {D : Nat → Prop} {p : Value} {L : List (Nat × Nat)} (h : IsH w0 D p L) (hT : DTab w0) (hH : HOK L) (hl : L.length ≤ 900000) : Calls Tryd.prog 32 #[p] w0 fun e w' => ∃ v, e = .returned v ∧ St w0 w' [.own v 50 2 (redL L L).length (pcells (redL L L))] fun _ _ => True := by
  have HL := Lib.hid (hlinks_any h (by omega))
  obtain ⟨q, o, rfl, hX⟩ := h
  obtain ⟨K0, ko, kt, hS⟩ : ∃ K : (Nat → Prop) → World → Prop, (∀ D w, K D w → HierX q o L D w) ∧ (∀ D w, K D w → DTab w ∧ D 0) ∧ St w0 w0 [] K := ⟨fun D w => HierX q o L D w ∧ DTab w ∧ D 0, fun _ _ h => h.1, fun _ _ h => h.2, St.start (D := fun _ => True) (stable_hierX.and dtab_stable) ⟨stable_hierX D _ w0 w0 hX (Nat.le_refl _) (fun _ _ _ _ h => h) fun _ _ _ _ => trivial, hT, trivial⟩⟩
  clear hX hT
  go_enter Tryd.func32, Tryd.ntmps32
  go_wp2_with (first
    | (go_at_call 31; refine HL.out.mono ?_; rintro e w_ ⟨v, rfl, hs⟩; replace hS := hS.new hs.below (.own v 50 2 L.length (pcells L)) (hs.own 0 rfl); obtain ⟨A, c, rfl, _, _⟩ := own_shp (hS.own 0 rfl); clear hs))
  obtain ⟨K, ko, kt, kp, hS⟩ : ∃ K : (Nat → Prop) → World → Prop, (∀ D w, K D w → HierX q o L D w) ∧ (∀ D w, K D w → DTab w ∧ D 0) ∧ (∀ D w, K D w → Sl w D 2 (.slice A L.length c) L.length (pcells L)) ∧ St w0 w_ [] K := ⟨_, fun D w h => ko D w h.1, fun D w h => kt D w h.1, fun _ _ h => h.2, hS.freeze 0 (by decide) rfl⟩
  have KS := hS.stable
  have HWO : Hid (∀ (F : List Fact) (z : Nat × Nat), z ∈ L → ∀ w, St w0 w F K → Calls Tryd.prog 69 #[o, .int .i64 (z.1 : Nat), .int .i64 (z.2 : Nat)] w fun e w' => ∃ p', e = .returned (.tuple #[p', .int .i64 0]) ∧ St w0 w' F fun D w => K D w ∧ IsOrd w D p' 64 (unl L z)) := Lib.hid fun F z hz w h => (owithout_any o 64 L z.1 z.2 (by omega) hH.inr hH.asc hH.acyc hl h (fun D w h => (ko D w h).2) kt).mono (by
    rintro e w' (⟨h, _⟩ | ⟨_, p', h1, h2⟩)
    · exact absurd hz h
    · exact ⟨p', h1, h2⟩)
  have HU0 := Lib.hid hH.inr
  replace hS := hS.nil 50 2
  clear hH HL
  go_loopw [3, 11] (fun v i wr => ∃ (j : Nat) (vo : Value), i = .int .i64 (j : Nat) ∧ vo = v ∧ j ≤ L.length ∧ St w0 wr [.own vo 50 2 (redL L (L.take j)).length (pcells (redL L (L.take j)))] K) (fun _ i _ => L.length - (intOf i).toNat)
  case atStart => exact ⟨0, _, rfl, rfl, by omega, hS⟩
  case round =>
    clear hS
    obtain ⟨j, vo, rfl, rfl, hj, hS⟩ := hrel
    by_cases hlj : j < L.length
    · obtain ⟨f1, f2⟩ := pcells_at L j hlj
      have HG := getD_at (0, 0) hlj
      have HST := Lib.hid (redL_step (L := L) HG)
      have HWO := Lib.hid (fun F => HWO.out F _ (List.mem_of_getElem? HG))
      have HU := Lib.hid (HU0.out.unl (L.getD j (0, 0)))
      have hM := redL_len L L j
      clear HG
      generalize L.getD j (0, 0) = z at *
      generalize hMM : redL L (L.take j) = M at *
      clear hMM
      by_cases hz : TC (unl L z) z.1 z.2
      · have HE := Lib.hid (HST.out.trans (if_pos hz))
        have HCB : Hid (∀ c : Bool, (c = true ↔ ∃ i j : Nat, (z.2 : Int) = (i : Int) ∧ (z.1 : Int) = (j : Int) ∧ TC (unl L z) j i) → c = true) := Lib.hid fun c hc => hc.2 ⟨_, _, rfl, rfl, hz⟩
        obtain ⟨za, zb⟩ := z
        dsimp only at f1 f2 HWO HCB
        clear hz HST
        go_wp2_with (first
          | ((with_reducible show wpList _ _ _ (⟨_, .binOp _ _ _ _ _, _, _, _, _⟩ :: _) _ _); (first | ((with_reducible show wpList _ _ _ (⟨_, .binOp .lss _ _ _ _, _, _, _, _⟩ :: _) _ _); refine st_lss rfl _ _ _ _ rfl _ _ _ rfl rfl (fun h_ => ?_) (fun h_ => ?_)) | ((with_reducible show wpList _ _ _ (⟨_, .binOp .leq _ _ _ _, _, _, _, _⟩ :: _) _ _); refine st_leq rfl _ _ _ _ rfl _ _ _ rfl rfl (fun h_ => ?_) (fun h_ => ?_)) | ((with_reducible show wpList _ _ _ (⟨_, .binOp .gtr _ _ _ _, _, _, _, _⟩ :: _) _ _); refine st_gtr rfl _ _ _ _ rfl _ _ _ rfl rfl (fun h_ => ?_) (fun h_ => ?_)) | ((with_reducible show wpList _ _ _ (⟨_, .binOp .geq _ _ _ _, _, _, _, _⟩ :: _) _ _); refine st_geq rfl _ _ _ _ rfl _ _ _ rfl rfl (fun h_ => ?_) (fun h_ => ?_)) | ((with_reducible show wpList _ _ _ (⟨_, .binOp .eql _ _ _ _, _, _, _, _⟩ :: _) _ _); refine st_eql rfl _ _ _ _ rfl _ _ _ rfl rfl (fun h_ => ?_) (fun h_ => ?_)) | ((with_reducible show wpList _ _ _ (⟨_, .binOp .neq _ _ _ _, _, _, _, _⟩ :: _) _ _); refine st_neq rfl _ _ _ _ rfl _ _ _ rfl rfl (fun h_ => ?_) (fun h_ => ?_))) <;> go_prune)
          | ((with_reducible show wpList _ _ _ (⟨_, .indexAddr _ _ _, _, _, _, _⟩ :: _) _ _); refine st_iaddr2 hS rfl _ _ _ rfl _ rfl rfl (by assumption) Tryd.underlying25 (by kernel_rfl) (by first | assumption | omega) _ _ (by assumption) (by assumption) ?_; intro b_ j_ hc0_ hc1_)
          | ((with_reducible show wpList _ _ _ (⟨some 5, _, _, _, _, _⟩ :: _) _ _); refine st_alloc hS rfl _ rfl (by kernel_rfl) ?_; clear hS; intro g4 w_ hS; (try simp only [Act.put, Act.eval, List.set_cons_zero, List.set_cons_succ, List.setIfInBounds_toArray, Array.getD_eq_getD_getElem?, List.getElem?_toArray, List.getElem?_cons_succ, List.getElem?_cons_zero, Option.getD_some, Value.cells] at hS))
          | ((with_reducible show wpList _ _ _ (⟨_, .store _ _ _, _, _, _, _⟩ :: _) _ _); first | (refine st_store hS 0 rfl _ _ _ rfl _ _ rfl rfl _ _ rfl (by kernel_rfl) (by kernel_rfl) (by kernel_rfl) ?_; clear hS; intro w_ hS; (try simp only [Act.put, Act.eval, List.set_cons_zero, List.set_cons_succ, List.setIfInBounds_toArray, Array.getD_eq_getD_getElem?, List.getElem?_toArray, List.getElem?_cons_succ, List.getElem?_cons_zero, Option.getD_some, Value.cells] at hS)) | (refine st_store hS 1 rfl _ _ _ rfl _ _ rfl rfl _ _ rfl (by kernel_rfl) (by kernel_rfl) (by kernel_rfl) ?_; clear hS; intro w_ hS; (try simp only [Act.put, Act.eval, List.set_cons_zero, List.set_cons_succ, List.setIfInBounds_toArray, Array.getD_eq_getD_getElem?, List.getElem?_toArray, List.getElem?_cons_succ, List.getElem?_cons_zero, Option.getD_some, Value.cells] at hS)) | (refine st_store hS 2 rfl _ _ _ rfl _ _ rfl rfl _ _ rfl (by kernel_rfl) (by kernel_rfl) (by kernel_rfl) ?_; clear hS; intro w_ hS; (try simp only [Act.put, Act.eval, List.set_cons_zero, List.set_cons_succ, List.setIfInBounds_toArray, Array.getD_eq_getD_getElem?, List.getElem?_toArray, List.getElem?_cons_succ, List.getElem?_cons_zero, Option.getD_some, Value.cells] at hS)) | (refine st_store hS 3 rfl _ _ _ rfl _ _ rfl rfl _ _ rfl (by kernel_rfl) (by kernel_rfl) (by kernel_rfl) ?_; clear hS; intro w_ hS; (try simp only [Act.put, Act.eval, List.set_cons_zero, List.set_cons_succ, List.setIfInBounds_toArray, Array.getD_eq_getD_getElem?, List.getElem?_toArray, List.getElem?_cons_succ, List.getElem?_cons_zero, Option.getD_some, Value.cells] at hS)) | (refine st_cstore hS 0 rfl _ _ _ rfl _ _ _ rfl rfl rfl (by first | (simp; done) | (simp; omega) | exact of_decide_eq_true (by kernel_rfl)) rfl (by first | rfl | assumption) (by kernel_rfl) ?_; clear hS; intro w_ hS; (try simp only [Act.put, Act.eval, List.set_cons_zero, List.set_cons_succ, List.setIfInBounds_toArray, Array.getD_eq_getD_getElem?, List.getElem?_toArray, List.getElem?_cons_succ, List.getElem?_cons_zero, Option.getD_some, Value.cells] at hS)) | (refine st_cstore hS 1 rfl _ _ _ rfl _ _ _ rfl rfl rfl (by first | (simp; done) | (simp; omega) | exact of_decide_eq_true (by kernel_rfl)) rfl (by first | rfl | assumption) (by kernel_rfl) ?_; clear hS; intro w_ hS; (try simp only [Act.put, Act.eval, List.set_cons_zero, List.set_cons_succ, List.setIfInBounds_toArray, Array.getD_eq_getD_getElem?, List.getElem?_toArray, List.getElem?_cons_succ, List.getElem?_cons_zero, Option.getD_some, Value.cells] at hS)) | (refine st_cstore hS 2 rfl _ _ _ rfl _ _ _ rfl rfl rfl (by first | (simp; done) | (simp; omega) | exact of_decide_eq_true (by kernel_rfl)) rfl (by first | rfl | assumption) (by kernel_rfl) ?_; clear hS; intro w_ hS; (try simp only [Act.put, Act.eval, List.set_cons_zero, List.set_cons_succ, List.setIfInBounds_toArray, Array.getD_eq_getD_getElem?, List.getElem?_toArray, List.getElem?_cons_succ, List.getElem?_cons_zero, Option.getD_some, Value.cells] at hS)) | (refine st_cstore hS 3 rfl _ _ _ rfl _ _ _ rfl rfl rfl (by first | (simp; done) | (simp; omega) | exact of_decide_eq_true (by kernel_rfl)) rfl (by first | rfl | assumption) (by kernel_rfl) ?_; clear hS; intro w_ hS; (try simp only [Act.put, Act.eval, List.set_cons_zero, List.set_cons_succ, List.setIfInBounds_toArray, Array.getD_eq_getD_getElem?, List.getElem?_toArray, List.getElem?_cons_succ, List.getElem?_cons_zero, Option.getD_some, Value.cells] at hS))))
        have KS2 := hS.stable
        have hJ0 : OJ (fun w => St w0 w [.box g4 50 #[.int .i64 (za : Nat), .int .i64 (zb : Nat)], .own vo 50 2 M.length (pcells M)] K) (fun r w => ∃ p', r = .tuple #[p', .int .i64 0] ∧ St w0 w [.box g4 50 #[.int .i64 (za : Nat), .int .i64 (zb : Nat)], .own vo 50 2 M.length (pcells M)] fun D w => K D w ∧ IsOrd w D p' 64 (unl L (za, zb))) (w_.drew, none) := OJ.start hS.drew
        have hN0 := ON.start 8 w_.drew
        obtain ⟨C, hC⟩ : ∃ C : World → Prop, C = fun w => St w0 w [.box g4 50 #[.int .i64 (za : Nat), .int .i64 (zb : Nat)], .own vo 50 2 M.length (pcells M)] K := ⟨_, rfl⟩
        obtain ⟨S, hSS⟩ : ∃ S : Value → World → Prop, S = fun r w => ∃ p', r = .tuple #[p', .int .i64 0] ∧ St w0 w [.box g4 50 #[.int .i64 (za : Nat), .int .i64 (zb : Nat)], .own vo 50 2 M.length (pcells M)] fun D w => K D w ∧ IsOrd w D p' 64 (unl L (za, zb)) := ⟨_, rfl⟩
        rw [← hC, ← hSS] at hJ0
        have HC2 := Lib.hid (fun w (h : C w) => show St w0 w [.box g4 50 #[.int .i64 (za : Nat), .int .i64 (zb : Nat)], .own vo 50 2 M.length (pcells M)] K by rw [hC] at h; exact h)
        have HC3 := Lib.hid (fun w (h : St w0 w [.box g4 50 #[.int .i64 (za : Nat), .int .i64 (zb : Nat)], .own vo 50 2 M.length (pcells M)] K) => show C w by rw [hC]; exact h)
        have HS2 := Lib.hid (fun r w (h : S r w) => show ∃ p', r = .tuple #[p', .int .i64 0] ∧ St w0 w [.box g4 50 #[.int .i64 (za : Nat), .int .i64 (zb : Nat)], .own vo 50 2 M.length (pcells M)] fun D w => K D w ∧ IsOrd w D p' 64 (unl L (za, zb)) by rw [hSS] at h; exact h)
        have HS3 := Lib.hid (fun r w (h : ∃ p', r = .tuple #[p', .int .i64 0] ∧ St w0 w [.box g4 50 #[.int .i64 (za : Nat), .int .i64 (zb : Nat)], .own vo 50 2 M.length (pcells M)] fun D w => K D w ∧ IsOrd w D p' 64 (unl L (za, zb))) => show S r w by rw [hSS]; exact h)
        clear hC hSS
        have hRr := @OR.refl C S
        have hRt := @OR.trans C S
        refine wp_region_ghost (fun i__ v w => match i__ with
          | 0 => v = .pointer (some ⟨q, 0, none⟩)
          | 1 => v = .pointer (some ⟨q, 0, none⟩)
          | 2 => v = .pointer (some ⟨q, 0, none⟩)
          | 3 => v = o
          | 4 => v = .pointer (some ⟨g4, 0, none⟩)
          | 5 => v = .int .i64 ((za : Nat) : Int)
          | 6 => v = .pointer (some ⟨g4, 1, none⟩)
          | 7 => v = .int .i64 ((zb : Nat) : Int)
          | 8 => w.2 = some v ∧ isTup2 v
          | 9 => w.2 = some v ∧ isTup2 v
          | 10 => ∃ x y : Value, w.2 = some (.tuple #[x, y]) ∧ v = x
          | 11 => ∃ x y : Value, w.2 = some (.tuple #[x, y]) ∧ v = y
          | 12 => ∃ x y : Value, w.2 = some (.tuple #[x, y]) ∧ v = x
          | 13 => ∃ x y : Value, w.2 = some (.tuple #[x, y]) ∧ v = y
          | _ => True) (OR C S) (ON 8) (none) (by kernel_rfl) (by kernel_rfl) hRr hRt ?mono ?hN ⟨?r0, ?r1, ?r2, ?r3, ?r4, ?r5, ?r6, ?r7, ?r8, ?r9, ?r10, ?r11, ?r12, ?r13, trivial⟩ ?post
        case hN => first | assumption | (intro i; (try dsimp only); split <;> first | trivial | assumption | (left; assumption))
        case mono =>
          intro i v w w' h hb
          match i, h with
          | 0, h => exact h
          | 1, h => exact h
          | 2, h => exact h
          | 3, h => exact h
          | 4, h => exact h
          | 5, h => exact h
          | 6, h => exact h
          | 7, h => exact h
          | 8, h => exact ⟨hb.2 _ h.1, h.2⟩
          | 9, h => exact ⟨hb.2 _ h.1, h.2⟩
          | 10, h => exact by obtain ⟨x, y, h1, h2⟩ := h; exact ⟨x, y, hb.2 _ h1, h2⟩
          | 11, h => exact by obtain ⟨x, y, h1, h2⟩ := h; exact ⟨x, y, hb.2 _ h1, h2⟩
          | 12, h => exact by obtain ⟨x, y, h1, h2⟩ := h; exact ⟨x, y, hb.2 _ h1, h2⟩
          | 13, h => exact by obtain ⟨x, y, h1, h2⟩ := h; exact ⟨x, y, hb.2 _ h1, h2⟩
          | _ + 14, h => trivial
        case r0 =>
          refine truleGh fun b__ w hW hN hold hpre => ⟨fun hwant K hK => ?_, fun hwant => ?_⟩
          · clear hwant
            have e0 : b__.eval (.tmp 0) = .pointer (some ⟨q, 0, none⟩) := (hold 0 (by kernel_rfl)).trans rfl
            exact opw_move rfl e0 (hK _ _ rfl ⟨hRr _, fun _ _ h => h⟩)
          · rw [want_none rfl] at hwant; cases hwant
        case r1 =>
          refine truleGh fun b__ w hW hN hold hpre => ⟨fun hwant K hK => ?_, fun hwant => ?_⟩
          · clear hwant
            have e16 : b__.eval (.tmp 16) = .pointer (some ⟨q, 0, none⟩) := hpre ⟨0, _⟩ (Array.mem_of_getElem? (i := 0) rfl) rfl _ _ rfl rfl
            exact opw_nil rfl e16 (hK _ _ rfl ⟨hRr _, fun _ _ h => h⟩)
          · rw [want_none rfl] at hwant; cases hwant
        case r2 =>
          refine truleGh fun b__ w hW hN hold hpre => ⟨fun hwant K hK => ?_, fun hwant => ?_⟩
          · clear hwant
            have e17 : b__.eval (.tmp 17) = .pointer (some ⟨q, 0, none⟩) := hpre ⟨1, _⟩ (Array.mem_of_getElem? (i := 0) rfl) rfl _ _ rfl rfl
            exact opw_faddr rfl e17 (by kernel_rfl) (hK _ _ rfl ⟨hRr _, fun _ _ h => h⟩)
          · rw [want_none rfl] at hwant; cases hwant
        case r3 =>
          refine truleGh fun b__ w hW hN hold hpre => ⟨fun hwant K hK => ?_, fun hwant => ?_⟩
          · clear hwant
            have e18 : b__.eval (.tmp 18) = .pointer (some ⟨q, 0, none⟩) := hpre ⟨2, _⟩ (Array.mem_of_getElem? (i := 0) rfl) rfl _ _ rfl rfl
            exact opw_cell rfl e18 (by kernel_rfl) ((ko _ _ (HC2.out _ (hW.1 hJ0).1).ro).1.cell 0 rfl) (hK _ _ rfl ⟨hRr _, fun _ _ h => h⟩)
          · rw [want_none rfl] at hwant; cases hwant
        case r4 =>
          refine truleGh fun b__ w hW hN hold hpre => ⟨fun hwant K hK => ?_, fun hwant => ?_⟩
          · clear hwant
            have e5 : b__.eval (.tmp 5) = .pointer (some ⟨g4, 0, none⟩) := (hold 5 (by kernel_rfl)).trans rfl
            exact opw_iaddr rfl e5 rfl (by kernel_rfl) (hK _ _ rfl ⟨hRr _, fun _ _ h => h⟩)
          · rw [want_none rfl] at hwant; cases hwant
        case r5 =>
          refine truleGh fun b__ w hW hN hold hpre => ⟨fun hwant K hK => ?_, fun hwant => ?_⟩
          · clear hwant
            have e20 : b__.eval (.tmp 20) = .pointer (some ⟨g4, 0, none⟩) := hpre ⟨4, _⟩ (Array.mem_of_getElem? (i := 0) rfl) rfl _ _ rfl rfl
            exact opw_cell rfl e20 (by kernel_rfl) ((HC2.out _ (hW.1 hJ0).1).shut 0 rfl 0 rfl) (hK _ _ rfl ⟨hRr _, fun _ _ h => h⟩)
          · rw [want_none rfl] at hwant; cases hwant
        case r6 =>
          refine truleGh fun b__ w hW hN hold hpre => ⟨fun hwant K hK => ?_, fun hwant => ?_⟩
          · clear hwant
            have e5 : b__.eval (.tmp 5) = .pointer (some ⟨g4, 0, none⟩) := (hold 5 (by kernel_rfl)).trans rfl
            exact opw_iaddr rfl e5 rfl (by kernel_rfl) (hK _ _ rfl ⟨hRr _, fun _ _ h => h⟩)
          · rw [want_none rfl] at hwant; cases hwant
        case r7 =>
          refine truleGh fun b__ w hW hN hold hpre => ⟨fun hwant K hK => ?_, fun hwant => ?_⟩
          · clear hwant
            have e22 : b__.eval (.tmp 22) = .pointer (some ⟨g4, 1, none⟩) := hpre ⟨6, _⟩ (Array.mem_of_getElem? (i := 0) rfl) rfl _ _ rfl rfl
            exact opw_cell rfl e22 (by kernel_rfl) ((HC2.out _ (hW.1 hJ0).1).shut 0 rfl 1 rfl) (hK _ _ rfl ⟨hRr _, fun _ _ h => h⟩)
          · rw [want_none rfl] at hwant; cases hwant
        case r8 =>
          refine truleGh fun b__ w hW hN hold hpre => ⟨fun hwant K hK => ?_, fun hwant => ?_⟩
          · clear hwant
            have e19 : b__.eval (.tmp 19) = o := hpre ⟨3, _⟩ (Array.mem_of_getElem? (i := 0) rfl) rfl _ _ rfl rfl
            have e21 : b__.eval (.tmp 21) = .int .i64 ((za : Nat) : Int) := hpre ⟨5, _⟩ (Array.mem_of_getElem? (i := 1) rfl) rfl _ _ rfl rfl
            have e23 : b__.eval (.tmp 23) = .int .i64 ((zb : Nat) : Int) := hpre ⟨7, _⟩ (Array.mem_of_getElem? (i := 2) rfl) rfl _ _ rfl rfl
            exact one_call isTup2 rfl (by kernel_rfl) (by simp only [List.map_cons, List.map_nil, e19, e21, e23]) (HWO.out _ _ (HC2.out _ (hW.1 hJ0).1)) hN (fun e w' h => by obtain ⟨p', rfl, h⟩ := h; exact ⟨_, rfl, HC3.out _ (h.mono KS2 fun _ _ h => h.1), HS3.out _ _ ⟨p', rfl, h⟩, _, _, rfl⟩) hK
          · rw [want_none rfl] at hwant; cases hwant
        case r9 =>
          refine truleGh fun b__ w hW hN hold hpre => ⟨fun hwant K hK => ?_, fun hwant => ?_⟩
          · clear hwant
            have e24 : (fun (v : Value) (w : World × _) => w.2 = some v ∧ isTup2 v) (b__.eval (.tmp 24)) w := hpre ⟨8, _⟩ (Array.mem_of_getElem? (i := 0) rfl) rfl _ _ rfl rfl
            exact opw_move rfl rfl (hK _ _ e24 ⟨hRr _, fun _ _ h => h⟩)
          · rw [want_none rfl] at hwant; cases hwant
        case r10 =>
          refine truleGh fun b__ w hW hN hold hpre => ⟨fun hwant K hK => ?_, fun hwant => ?_⟩
          · clear hwant
            have e15 : (fun (v : Value) (w : World × _) => w.2 = some v ∧ isTup2 v) (b__.eval (.tmp 15)) w := hpre ⟨9, _⟩ (Array.mem_of_getElem? (i := 0) rfl) rfl _ _ rfl rfl
            obtain ⟨hd, x, y, hv⟩ := e15
            rw [hv] at hd
            exact opw_extract rfl hv rfl (hK _ _ ⟨x, y, hd, rfl⟩ ⟨hRr _, fun _ _ h => h⟩)
          · rw [want_none rfl] at hwant; cases hwant
        case r11 =>
          refine truleGh fun b__ w hW hN hold hpre => ⟨fun hwant K hK => ?_, fun hwant => ?_⟩
          · clear hwant
            have e15 : (fun (v : Value) (w : World × _) => w.2 = some v ∧ isTup2 v) (b__.eval (.tmp 15)) w := hpre ⟨9, _⟩ (Array.mem_of_getElem? (i := 0) rfl) rfl _ _ rfl rfl
            obtain ⟨hd, x, y, hv⟩ := e15
            rw [hv] at hd
            exact opw_extract rfl hv rfl (hK _ _ ⟨x, y, hd, rfl⟩ ⟨hRr _, fun _ _ h => h⟩)
          · rw [want_none rfl] at hwant; cases hwant
        case r12 =>
          refine truleGh fun b__ w hW hN hold hpre => ⟨fun hwant K hK => ?_, fun hwant => ?_⟩
          · clear hwant
            have e25 : (fun (v : Value) (w : World × _) => ∃ x y : Value, w.2 = some (.tuple #[x, y]) ∧ v = x) (b__.eval (.tmp 25)) w := hpre ⟨10, _⟩ (Array.mem_of_getElem? (i := 0) rfl) rfl _ _ rfl rfl
            exact opw_assign rfl rfl (hK _ _ e25 ⟨hRr _, fun _ _ h => h⟩)
          · rw [want_none rfl] at hwant; cases hwant
        case r13 =>
          refine truleGh fun b__ w hW hN hold hpre => ⟨fun hwant K hK => ?_, fun hwant => ?_⟩
          · clear hwant
            have e26 : (fun (v : Value) (w : World × _) => ∃ x y : Value, w.2 = some (.tuple #[x, y]) ∧ v = y) (b__.eval (.tmp 26)) w := hpre ⟨11, _⟩ (Array.mem_of_getElem? (i := 0) rfl) rfl _ _ rfl rfl
            exact opw_assign rfl rfl (hK _ _ e26 ⟨hRr _, fun _ _ h => h⟩)
          · rw [want_none rfl] at hwant; cases hwant
        case post =>
          intro b__ wz hW hdf hsz hold hT hZ
          have e16 : b__.eval (.tmp 16) = .pointer (some ⟨q, 0, none⟩) := hT 0 _ 16 rfl rfl
          have e17 : b__.eval (.tmp 17) = .pointer (some ⟨q, 0, none⟩) := hT 1 _ 17 rfl rfl
          have e18 : b__.eval (.tmp 18) = .pointer (some ⟨q, 0, none⟩) := hT 2 _ 18 rfl rfl
          have e19 : b__.eval (.tmp 19) = o := hT 3 _ 19 rfl rfl
          have e20 : b__.eval (.tmp 20) = .pointer (some ⟨g4, 0, none⟩) := hT 4 _ 20 rfl rfl
          have e21 : b__.eval (.tmp 21) = .int .i64 ((za : Nat) : Int) := hT 5 _ 21 rfl rfl
          have e22 : b__.eval (.tmp 22) = .pointer (some ⟨g4, 1, none⟩) := hT 6 _ 22 rfl rfl
          have e23 : b__.eval (.tmp 23) = .int .i64 ((zb : Nat) : Int) := hT 7 _ 23 rfl rfl
          have e24 : (fun (v : Value) (w : World × _) => w.2 = some v ∧ isTup2 v) (b__.eval (.tmp 24)) wz := hT 8 _ 24 rfl rfl
          have e15 : (fun (v : Value) (w : World × _) => w.2 = some v ∧ isTup2 v) (b__.eval (.tmp 15)) wz := hT 9 _ 15 rfl rfl
          have e25 : (fun (v : Value) (w : World × _) => ∃ x y : Value, w.2 = some (.tuple #[x, y]) ∧ v = x) (b__.eval (.tmp 25)) wz := hT 10 _ 25 rfl rfl
          have e26 : (fun (v : Value) (w : World × _) => ∃ x y : Value, w.2 = some (.tuple #[x, y]) ∧ v = y) (b__.eval (.tmp 26)) wz := hT 11 _ 26 rfl rfl
          have e6 : (fun (v : Value) (w : World × _) => ∃ x y : Value, w.2 = some (.tuple #[x, y]) ∧ v = x) (b__.eval (.tmp 6)) wz := hT 12 _ 6 rfl rfl
          have e7 : (fun (v : Value) (w : World × _) => ∃ x y : Value, w.2 = some (.tuple #[x, y]) ∧ v = y) (b__.eval (.tmp 7)) wz := hT 13 _ 7 rfl rfl
          obtain ⟨vs, hvs, hb⟩ := frame_of hdf hsz hold
          replace e16 : vs 16 = .pointer (some ⟨q, 0, none⟩) := (hvs 16).symm.trans e16
          replace e17 : vs 17 = .pointer (some ⟨q, 0, none⟩) := (hvs 17).symm.trans e17
          replace e18 : vs 18 = .pointer (some ⟨q, 0, none⟩) := (hvs 18).symm.trans e18
          replace e19 : vs 19 = o := (hvs 19).symm.trans e19
          replace e20 : vs 20 = .pointer (some ⟨g4, 0, none⟩) := (hvs 20).symm.trans e20
          replace e21 : vs 21 = .int .i64 ((za : Nat) : Int) := (hvs 21).symm.trans e21
          replace e22 : vs 22 = .pointer (some ⟨g4, 1, none⟩) := (hvs 22).symm.trans e22
          replace e23 : vs 23 = .int .i64 ((zb : Nat) : Int) := (hvs 23).symm.trans e23
          replace e24 := (hvs 24) ▸ e24
          replace e15 := (hvs 15) ▸ e15
          replace e25 := (hvs 25) ▸ e25
          replace e26 := (hvs 26) ▸ e26
          replace e6 := (hvs 6) ▸ e6
          replace e7 := (hvs 7) ▸ e7
          subst hb
          clear hvs hold hT hdf hsz
          simp only [setAll, Act.put, List.setIfInBounds_toArray, List.set_cons_zero, List.set_cons_succ, List.getElem_toArray, List.getElem_cons_succ, List.getElem_cons_zero]
          obtain ⟨x1, y1, d1, e6⟩ := e6
          obtain ⟨x2, y2, d2, e7⟩ := e7
          rw [d1] at d2
          obtain ⟨rfl, rfl⟩ : x1 = x2 ∧ y1 = y2 := by simpa using d2
          obtain ⟨p', hp, hS⟩ := HS2.out _ _ ((hW.1 hJ0).2 _ d1)
          obtain ⟨rfl, rfl⟩ : x1 = p' ∧ y1 = .int .i64 0 := by simpa using hp
          rw [e6, e7]
          generalize wz.1 = wf at *
          clear hJ0 hRr hRt hW hZ hN0 d1 d2 e6 e7 hp HC2 HC3 HS2 HS3
          have hIO := Lib.hid (fun (w : World) (h : K (Free [.box g4 50 #[.int .i64 (za : Nat), .int .i64 (zb : Nat)], .own vo 50 2 M.length (pcells M)]) w ∧ IsOrd w (Free [.box g4 50 #[.int .i64 (za : Nat), .int .i64 (zb : Nat)], .own vo 50 2 M.length (pcells M)]) x1 64 (unl L (za, zb))) => oless_any h.2 HU.out (zb : Nat) (za : Nat))
          go_wp2_with (first
            | ((with_reducible show wpList _ _ _ (⟨_, .binOp _ _ _ _ _, _, _, _, _⟩ :: _) _ _); (first | ((with_reducible show wpList _ _ _ (⟨_, .binOp .lss _ _ _ _, _, _, _, _⟩ :: _) _ _); refine st_lss rfl _ _ _ _ rfl _ _ _ rfl rfl (fun h_ => ?_) (fun h_ => ?_)) | ((with_reducible show wpList _ _ _ (⟨_, .binOp .leq _ _ _ _, _, _, _, _⟩ :: _) _ _); refine st_leq rfl _ _ _ _ rfl _ _ _ rfl rfl (fun h_ => ?_) (fun h_ => ?_)) | ((with_reducible show wpList _ _ _ (⟨_, .binOp .gtr _ _ _ _, _, _, _, _⟩ :: _) _ _); refine st_gtr rfl _ _ _ _ rfl _ _ _ rfl rfl (fun h_ => ?_) (fun h_ => ?_)) | ((with_reducible show wpList _ _ _ (⟨_, .binOp .geq _ _ _ _, _, _, _, _⟩ :: _) _ _); refine st_geq rfl _ _ _ _ rfl _ _ _ rfl rfl (fun h_ => ?_) (fun h_ => ?_)) | ((with_reducible show wpList _ _ _ (⟨_, .binOp .eql _ _ _ _, _, _, _, _⟩ :: _) _ _); refine st_eql rfl _ _ _ _ rfl _ _ _ rfl rfl (fun h_ => ?_) (fun h_ => ?_)) | ((with_reducible show wpList _ _ _ (⟨_, .binOp .neq _ _ _ _, _, _, _, _⟩ :: _) _ _); refine st_neq rfl _ _ _ _ rfl _ _ _ rfl rfl (fun h_ => ?_) (fun h_ => ?_))) <;> go_prune)
            | (go_at_call 56; refine (hIO.out _ hS.ro).mono ?_; rintro r_ w_ ⟨_, rfl, ⟨c, rfl, hc⟩, hb_⟩; obtain rfl := HCB.out c hc; clear hc; replace hS := hS.ext hb_; clear hb_)
            | ((with_reducible show wpList _ _ _ (⟨_, .load _ _, _, _, _, _⟩ :: _) _ _); first | refine st_load hS 0 rfl _ _ rfl _ rfl _ _ rfl _ Tryd.underlying50 rfl (by kernel_rfl) ?_ | refine st_load hS 1 rfl _ _ rfl _ rfl _ _ rfl _ Tryd.underlying50 rfl (by kernel_rfl) ?_ | refine st_load hS 2 rfl _ _ rfl _ rfl _ _ rfl _ Tryd.underlying50 rfl (by kernel_rfl) ?_ | refine st_load hS 3 rfl _ _ rfl _ rfl _ _ rfl _ Tryd.underlying50 rfl (by kernel_rfl) ?_)
            | ((with_reducible show wpList _ _ _ (⟨_, .buildSlice _ 1 _, _, _, _, _⟩ :: _) _ _); refine st_push hS 1 rfl rfl _ _ _ _ rfl rfl ty_pairs _ _ _ (.agg #[.int .i64 (za : Nat), .int .i64 (zb : Nat)]) #[.int .i64 (za : Nat), .int .i64 (zb : Nat)] rfl (by kernel_rfl) rfl rfl rfl rfl (by intro u hu; simp at hu; first | (subst hu; rfl) | (rcases hu with rfl | rfl <;> rfl)) (by omega) (by omega) ?_; clear hS; intro z_ v_ w_ hS; (try simp only [Act.put, Act.eval, List.set_cons_zero, List.set_cons_succ, List.setIfInBounds_toArray, Array.getD_eq_getD_getElem?, List.getElem?_toArray, List.getElem?_cons_succ, List.getElem?_cons_zero, Option.getD_some, Value.cells] at hS))
            | ((with_reducible show wpList _ _ _ (⟨_, .load _ _, _, _, _, _⟩ :: _) _ _); first | (refine st_cell hS 0 rfl _ _ rfl _ _ rfl _ _ rfl (by decide +kernel) _ (by first | assumption | rfl) ?_) | (refine st_cell hS 1 rfl _ _ rfl _ _ rfl _ _ rfl (by decide +kernel) _ (by first | assumption | rfl) ?_) | (refine st_cell hS 2 rfl _ _ rfl _ _ rfl _ _ rfl (by decide +kernel) _ (by first | assumption | rfl) ?_) | (refine st_cell hS 3 rfl _ _ rfl _ _ rfl _ _ rfl (by decide +kernel) _ (by first | assumption | rfl) ?_) | (refine st_cell hS 4 rfl _ _ rfl _ _ rfl _ _ rfl (by decide +kernel) _ (by first | assumption | rfl) ?_) | (refine st_cell hS 5 rfl _ _ rfl _ _ rfl _ _ rfl (by decide +kernel) _ (by first | assumption | rfl) ?_) | (refine st_cell hS 6 rfl _ _ rfl _ _ rfl _ _ rfl (by decide +kernel) _ (by first | assumption | rfl) ?_) | (refine st_cell hS 7 rfl _ _ rfl _ _ rfl _ _ rfl (by decide +kernel) _ (by first | assumption | rfl) ?_)))
          refine ⟨⟨j + 1, _, by go_num, rfl, hlj, ?_⟩, by simp [intOf]; omega⟩
          have e : pcells (M ++ [(za, zb)]) = pcells M ++ [.int .i64 (za : Nat), .int .i64 (zb : Nat)] := pcells_app M [(za, zb)]
          rw [HE.out, e, List.length_append]
          exact (hS.sub (List.sublist_cons_self _ _)).mono KS fun _ _ h => h.1
      · have HE := Lib.hid (HST.out.trans (if_neg hz))
        have HCB : Hid (∀ c : Bool, (c = true ↔ ∃ i j : Nat, (z.2 : Int) = (i : Int) ∧ (z.1 : Int) = (j : Int) ∧ TC (unl L z) j i) → c = false) := Lib.hid fun c hc => by
          cases c with
          | false => rfl
          | true =>
            obtain ⟨i, j, h1, h2, h3⟩ := hc.1 rfl
            obtain rfl : z.2 = i := by omega
            obtain rfl : z.1 = j := by omega
            exact absurd h3 hz
        obtain ⟨za, zb⟩ := z
        dsimp only at f1 f2 HWO HCB
        clear hz HST
        go_wp2_with (first
          | ((with_reducible show wpList _ _ _ (⟨_, .binOp _ _ _ _ _, _, _, _, _⟩ :: _) _ _); (first | ((with_reducible show wpList _ _ _ (⟨_, .binOp .lss _ _ _ _, _, _, _, _⟩ :: _) _ _); refine st_lss rfl _ _ _ _ rfl _ _ _ rfl rfl (fun h_ => ?_) (fun h_ => ?_)) | ((with_reducible show wpList _ _ _ (⟨_, .binOp .leq _ _ _ _, _, _, _, _⟩ :: _) _ _); refine st_leq rfl _ _ _ _ rfl _ _ _ rfl rfl (fun h_ => ?_) (fun h_ => ?_)) | ((with_reducible show wpList _ _ _ (⟨_, .binOp .gtr _ _ _ _, _, _, _, _⟩ :: _) _ _); refine st_gtr rfl _ _ _ _ rfl _ _ _ rfl rfl (fun h_ => ?_) (fun h_ => ?_)) | ((with_reducible show wpList _ _ _ (⟨_, .binOp .geq _ _ _ _, _, _, _, _⟩ :: _) _ _); refine st_geq rfl _ _ _ _ rfl _ _ _ rfl rfl (fun h_ => ?_) (fun h_ => ?_)) | ((with_reducible show wpList _ _ _ (⟨_, .binOp .eql _ _ _ _, _, _, _, _⟩ :: _) _ _); refine st_eql rfl _ _ _ _ rfl _ _ _ rfl rfl (fun h_ => ?_) (fun h_ => ?_)) | ((with_reducible show wpList _ _ _ (⟨_, .binOp .neq _ _ _ _, _, _, _, _⟩ :: _) _ _); refine st_neq rfl _ _ _ _ rfl _ _ _ rfl rfl (fun h_ => ?_) (fun h_ => ?_))) <;> go_prune)
          | ((with_reducible show wpList _ _ _ (⟨_, .indexAddr _ _ _, _, _, _, _⟩ :: _) _ _); refine st_iaddr2 hS rfl _ _ _ rfl _ rfl rfl (by assumption) Tryd.underlying25 (by kernel_rfl) (by first | assumption | omega) _ _ (by assumption) (by assumption) ?_; intro b_ j_ hc0_ hc1_)
          | ((with_reducible show wpList _ _ _ (⟨some 5, _, _, _, _, _⟩ :: _) _ _); refine st_alloc hS rfl _ rfl (by kernel_rfl) ?_; clear hS; intro g4 w_ hS; (try simp only [Act.put, Act.eval, List.set_cons_zero, List.set_cons_succ, List.setIfInBounds_toArray, Array.getD_eq_getD_getElem?, List.getElem?_toArray, List.getElem?_cons_succ, List.getElem?_cons_zero, Option.getD_some, Value.cells] at hS))
          | ((with_reducible show wpList _ _ _ (⟨_, .store _ _ _, _, _, _, _⟩ :: _) _ _); first | (refine st_store hS 0 rfl _ _ _ rfl _ _ rfl rfl _ _ rfl (by kernel_rfl) (by kernel_rfl) (by kernel_rfl) ?_; clear hS; intro w_ hS; (try simp only [Act.put, Act.eval, List.set_cons_zero, List.set_cons_succ, List.setIfInBounds_toArray, Array.getD_eq_getD_getElem?, List.getElem?_toArray, List.getElem?_cons_succ, List.getElem?_cons_zero, Option.getD_some, Value.cells] at hS)) | (refine st_store hS 1 rfl _ _ _ rfl _ _ rfl rfl _ _ rfl (by kernel_rfl) (by kernel_rfl) (by kernel_rfl) ?_; clear hS; intro w_ hS; (try simp only [Act.put, Act.eval, List.set_cons_zero, List.set_cons_succ, List.setIfInBounds_toArray, Array.getD_eq_getD_getElem?, List.getElem?_toArray, List.getElem?_cons_succ, List.getElem?_cons_zero, Option.getD_some, Value.cells] at hS)) | (refine st_store hS 2 rfl _ _ _ rfl _ _ rfl rfl _ _ rfl (by kernel_rfl) (by kernel_rfl) (by kernel_rfl) ?_; clear hS; intro w_ hS; (try simp only [Act.put, Act.eval, List.set_cons_zero, List.set_cons_succ, List.setIfInBounds_toArray, Array.getD_eq_getD_getElem?, List.getElem?_toArray, List.getElem?_cons_succ, List.getElem?_cons_zero, Option.getD_some, Value.cells] at hS)) | (refine st_store hS 3 rfl _ _ _ rfl _ _ rfl rfl _ _ rfl (by kernel_rfl) (by kernel_rfl) (by kernel_rfl) ?_; clear hS; intro w_ hS; (try simp only [Act.put, Act.eval, List.set_cons_zero, List.set_cons_succ, List.setIfInBounds_toArray, Array.getD_eq_getD_getElem?, List.getElem?_toArray, List.getElem?_cons_succ, List.getElem?_cons_zero, Option.getD_some, Value.cells] at hS)) | (refine st_cstore hS 0 rfl _ _ _ rfl _ _ _ rfl rfl rfl (by first | (simp; done) | (simp; omega) | exact of_decide_eq_true (by kernel_rfl)) rfl (by first | rfl | assumption) (by kernel_rfl) ?_; clear hS; intro w_ hS; (try simp only [Act.put, Act.eval, List.set_cons_zero, List.set_cons_succ, List.setIfInBounds_toArray, Array.getD_eq_getD_getElem?, List.getElem?_toArray, List.getElem?_cons_succ, List.getElem?_cons_zero, Option.getD_some, Value.cells] at hS)) | (refine st_cstore hS 1 rfl _ _ _ rfl _ _ _ rfl rfl rfl (by first | (simp; done) | (simp; omega) | exact of_decide_eq_true (by kernel_rfl)) rfl (by first | rfl | assumption) (by kernel_rfl) ?_; clear hS; intro w_ hS; (try simp only [Act.put, Act.eval, List.set_cons_zero, List.set_cons_succ, List.setIfInBounds_toArray, Array.getD_eq_getD_getElem?, List.getElem?_toArray, List.getElem?_cons_succ, List.getElem?_cons_zero, Option.getD_some, Value.cells] at hS)) | (refine st_cstore hS 2 rfl _ _ _ rfl _ _ _ rfl rfl rfl (by first | (simp; done) | (simp; omega) | exact of_decide_eq_true (by kernel_rfl)) rfl (by first | rfl | assumption) (by kernel_rfl) ?_; clear hS; intro w_ hS; (try simp only [Act.put, Act.eval, List.set_cons_zero, List.set_cons_succ, List.setIfInBounds_toArray, Array.getD_eq_getD_getElem?, List.getElem?_toArray, List.getElem?_cons_succ, List.getElem?_cons_zero, Option.getD_some, Value.cells] at hS)) | (refine st_cstore hS 3 rfl _ _ _ rfl _ _ _ rfl rfl rfl (by first | (simp; done) | (simp; omega) | exact of_decide_eq_true (by kernel_rfl)) rfl (by first | rfl | assumption) (by kernel_rfl) ?_; clear hS; intro w_ hS; (try simp only [Act.put, Act.eval, List.set_cons_zero, List.set_cons_succ, List.setIfInBounds_toArray, Array.getD_eq_getD_getElem?, List.getElem?_toArray, List.getElem?_cons_succ, List.getElem?_cons_zero, Option.getD_some, Value.cells] at hS))))
        have KS2 := hS.stable
        have hJ0 : OJ (fun w => St w0 w [.box g4 50 #[.int .i64 (za : Nat), .int .i64 (zb : Nat)], .own vo 50 2 M.length (pcells M)] K) (fun r w => ∃ p', r = .tuple #[p', .int .i64 0] ∧ St w0 w [.box g4 50 #[.int .i64 (za : Nat), .int .i64 (zb : Nat)], .own vo 50 2 M.length (pcells M)] fun D w => K D w ∧ IsOrd w D p' 64 (unl L (za, zb))) (w_.drew, none) := OJ.start hS.drew
        have hN0 := ON.start 8 w_.drew
        obtain ⟨C, hC⟩ : ∃ C : World → Prop, C = fun w => St w0 w [.box g4 50 #[.int .i64 (za : Nat), .int .i64 (zb : Nat)], .own vo 50 2 M.length (pcells M)] K := ⟨_, rfl⟩
        obtain ⟨S, hSS⟩ : ∃ S : Value → World → Prop, S = fun r w => ∃ p', r = .tuple #[p', .int .i64 0] ∧ St w0 w [.box g4 50 #[.int .i64 (za : Nat), .int .i64 (zb : Nat)], .own vo 50 2 M.length (pcells M)] fun D w => K D w ∧ IsOrd w D p' 64 (unl L (za, zb)) := ⟨_, rfl⟩
        rw [← hC, ← hSS] at hJ0
        have HC2 := Lib.hid (fun w (h : C w) => show St w0 w [.box g4 50 #[.int .i64 (za : Nat), .int .i64 (zb : Nat)], .own vo 50 2 M.length (pcells M)] K by rw [hC] at h; exact h)
        have HC3 := Lib.hid (fun w (h : St w0 w [.box g4 50 #[.int .i64 (za : Nat), .int .i64 (zb : Nat)], .own vo 50 2 M.length (pcells M)] K) => show C w by rw [hC]; exact h)
        have HS2 := Lib.hid (fun r w (h : S r w) => show ∃ p', r = .tuple #[p', .int .i64 0] ∧ St w0 w [.box g4 50 #[.int .i64 (za : Nat), .int .i64 (zb : Nat)], .own vo 50 2 M.length (pcells M)] fun D w => K D w ∧ IsOrd w D p' 64 (unl L (za, zb)) by rw [hSS] at h; exact h)
        have HS3 := Lib.hid (fun r w (h : ∃ p', r = .tuple #[p', .int .i64 0] ∧ St w0 w [.box g4 50 #[.int .i64 (za : Nat), .int .i64 (zb : Nat)], .own vo 50 2 M.length (pcells M)] fun D w => K D w ∧ IsOrd w D p' 64 (unl L (za, zb))) => show S r w by rw [hSS]; exact h)
        clear hC hSS
        have hRr := @OR.refl C S
        have hRt := @OR.trans C S
        refine wp_region_ghost (fun i__ v w => match i__ with
          | 0 => v = .pointer (some ⟨q, 0, none⟩)
          | 1 => v = .pointer (some ⟨q, 0, none⟩)
          | 2 => v = .pointer (some ⟨q, 0, none⟩)
          | 3 => v = o
          | 4 => v = .pointer (some ⟨g4, 0, none⟩)
          | 5 => v = .int .i64 ((za : Nat) : Int)
          | 6 => v = .pointer (some ⟨g4, 1, none⟩)
          | 7 => v = .int .i64 ((zb : Nat) : Int)
          | 8 => w.2 = some v ∧ isTup2 v
          | 9 => w.2 = some v ∧ isTup2 v
          | 10 => ∃ x y : Value, w.2 = some (.tuple #[x, y]) ∧ v = x
          | 11 => ∃ x y : Value, w.2 = some (.tuple #[x, y]) ∧ v = y
          | 12 => ∃ x y : Value, w.2 = some (.tuple #[x, y]) ∧ v = x
          | 13 => ∃ x y : Value, w.2 = some (.tuple #[x, y]) ∧ v = y
          | _ => True) (OR C S) (ON 8) (none) (by kernel_rfl) (by kernel_rfl) hRr hRt ?mono ?hN ⟨?r0, ?r1, ?r2, ?r3, ?r4, ?r5, ?r6, ?r7, ?r8, ?r9, ?r10, ?r11, ?r12, ?r13, trivial⟩ ?post
        case hN => first | assumption | (intro i; (try dsimp only); split <;> first | trivial | assumption | (left; assumption))
        case mono =>
          intro i v w w' h hb
          match i, h with
          | 0, h => exact h
          | 1, h => exact h
          | 2, h => exact h
          | 3, h => exact h
          | 4, h => exact h
          | 5, h => exact h
          | 6, h => exact h
          | 7, h => exact h
          | 8, h => exact ⟨hb.2 _ h.1, h.2⟩
          | 9, h => exact ⟨hb.2 _ h.1, h.2⟩
          | 10, h => exact by obtain ⟨x, y, h1, h2⟩ := h; exact ⟨x, y, hb.2 _ h1, h2⟩
          | 11, h => exact by obtain ⟨x, y, h1, h2⟩ := h; exact ⟨x, y, hb.2 _ h1, h2⟩
          | 12, h => exact by obtain ⟨x, y, h1, h2⟩ := h; exact ⟨x, y, hb.2 _ h1, h2⟩
          | 13, h => exact by obtain ⟨x, y, h1, h2⟩ := h; exact ⟨x, y, hb.2 _ h1, h2⟩
          | _ + 14, h => trivial
        case r0 =>
          refine truleGh fun b__ w hW hN hold hpre => ⟨fun hwant K hK => ?_, fun hwant => ?_⟩
          · clear hwant
            have e0 : b__.eval (.tmp 0) = .pointer (some ⟨q, 0, none⟩) := (hold 0 (by kernel_rfl)).trans rfl
            exact opw_move rfl e0 (hK _ _ rfl ⟨hRr _, fun _ _ h => h⟩)
          · rw [want_none rfl] at hwant; cases hwant
        case r1 =>
          refine truleGh fun b__ w hW hN hold hpre => ⟨fun hwant K hK => ?_, fun hwant => ?_⟩
          · clear hwant
            have e16 : b__.eval (.tmp 16) = .pointer (some ⟨q, 0, none⟩) := hpre ⟨0, _⟩ (Array.mem_of_getElem? (i := 0) rfl) rfl _ _ rfl rfl
            exact opw_nil rfl e16 (hK _ _ rfl ⟨hRr _, fun _ _ h => h⟩)
          · rw [want_none rfl] at hwant; cases hwant
        case r2 =>
          refine truleGh fun b__ w hW hN hold hpre => ⟨fun hwant K hK => ?_, fun hwant => ?_⟩
          · clear hwant
            have e17 : b__.eval (.tmp 17) = .pointer (some ⟨q, 0, none⟩) := hpre ⟨1, _⟩ (Array.mem_of_getElem? (i := 0) rfl) rfl _ _ rfl rfl
            exact opw_faddr rfl e17 (by kernel_rfl) (hK _ _ rfl ⟨hRr _, fun _ _ h => h⟩)
          · rw [want_none rfl] at hwant; cases hwant
        case r3 =>
          refine truleGh fun b__ w hW hN hold hpre => ⟨fun hwant K hK => ?_, fun hwant => ?_⟩
          · clear hwant
            have e18 : b__.eval (.tmp 18) = .pointer (some ⟨q, 0, none⟩) := hpre ⟨2, _⟩ (Array.mem_of_getElem? (i := 0) rfl) rfl _ _ rfl rfl
            exact opw_cell rfl e18 (by kernel_rfl) ((ko _ _ (HC2.out _ (hW.1 hJ0).1).ro).1.cell 0 rfl) (hK _ _ rfl ⟨hRr _, fun _ _ h => h⟩)
          · rw [want_none rfl] at hwant; cases hwant
        case r4 =>
          refine truleGh fun b__ w hW hN hold hpre => ⟨fun hwant K hK => ?_, fun hwant => ?_⟩
          · clear hwant
            have e5 : b__.eval (.tmp 5) = .pointer (some ⟨g4, 0, none⟩) := (hold 5 (by kernel_rfl)).trans rfl
            exact opw_iaddr rfl e5 rfl (by kernel_rfl) (hK _ _ rfl ⟨hRr _, fun _ _ h => h⟩)
          · rw [want_none rfl] at hwant; cases hwant
        case r5 =>
          refine truleGh fun b__ w hW hN hold hpre => ⟨fun hwant K hK => ?_, fun hwant => ?_⟩
          · clear hwant
            have e20 : b__.eval (.tmp 20) = .pointer (some ⟨g4, 0, none⟩) := hpre ⟨4, _⟩ (Array.mem_of_getElem? (i := 0) rfl) rfl _ _ rfl rfl
            exact opw_cell rfl e20 (by kernel_rfl) ((HC2.out _ (hW.1 hJ0).1).shut 0 rfl 0 rfl) (hK _ _ rfl ⟨hRr _, fun _ _ h => h⟩)
          · rw [want_none rfl] at hwant; cases hwant
        case r6 =>
          refine truleGh fun b__ w hW hN hold hpre => ⟨fun hwant K hK => ?_, fun hwant => ?_⟩
          · clear hwant
            have e5 : b__.eval (.tmp 5) = .pointer (some ⟨g4, 0, none⟩) := (hold 5 (by kernel_rfl)).trans rfl
            exact opw_iaddr rfl e5 rfl (by kernel_rfl) (hK _ _ rfl ⟨hRr _, fun _ _ h => h⟩)
          · rw [want_none rfl] at hwant; cases hwant
        case r7 =>
          refine truleGh fun b__ w hW hN hold hpre => ⟨fun hwant K hK => ?_, fun hwant => ?_⟩
          · clear hwant
            have e22 : b__.eval (.tmp 22) = .pointer (some ⟨g4, 1, none⟩) := hpre ⟨6, _⟩ (Array.mem_of_getElem? (i := 0) rfl) rfl _ _ rfl rfl
            exact opw_cell rfl e22 (by kernel_rfl) ((HC2.out _ (hW.1 hJ0).1).shut 0 rfl 1 rfl) (hK _ _ rfl ⟨hRr _, fun _ _ h => h⟩)
          · rw [want_none rfl] at hwant; cases hwant
        case r8 =>
          refine truleGh fun b__ w hW hN hold hpre => ⟨fun hwant K hK => ?_, fun hwant => ?_⟩
          · clear hwant
            have e19 : b__.eval (.tmp 19) = o := hpre ⟨3, _⟩ (Array.mem_of_getElem? (i := 0) rfl) rfl _ _ rfl rfl
            have e21 : b__.eval (.tmp 21) = .int .i64 ((za : Nat) : Int) := hpre ⟨5, _⟩ (Array.mem_of_getElem? (i := 1) rfl) rfl _ _ rfl rfl
            have e23 : b__.eval (.tmp 23) = .int .i64 ((zb : Nat) : Int) := hpre ⟨7, _⟩ (Array.mem_of_getElem? (i := 2) rfl) rfl _ _ rfl rfl
            exact one_call isTup2 rfl (by kernel_rfl) (by simp only [List.map_cons, List.map_nil, e19, e21, e23]) (HWO.out _ _ (HC2.out _ (hW.1 hJ0).1)) hN (fun e w' h => by obtain ⟨p', rfl, h⟩ := h; exact ⟨_, rfl, HC3.out _ (h.mono KS2 fun _ _ h => h.1), HS3.out _ _ ⟨p', rfl, h⟩, _, _, rfl⟩) hK
          · rw [want_none rfl] at hwant; cases hwant
        case r9 =>
          refine truleGh fun b__ w hW hN hold hpre => ⟨fun hwant K hK => ?_, fun hwant => ?_⟩
          · clear hwant
            have e24 : (fun (v : Value) (w : World × _) => w.2 = some v ∧ isTup2 v) (b__.eval (.tmp 24)) w := hpre ⟨8, _⟩ (Array.mem_of_getElem? (i := 0) rfl) rfl _ _ rfl rfl
            exact opw_move rfl rfl (hK _ _ e24 ⟨hRr _, fun _ _ h => h⟩)
          · rw [want_none rfl] at hwant; cases hwant
        case r10 =>
          refine truleGh fun b__ w hW hN hold hpre => ⟨fun hwant K hK => ?_, fun hwant => ?_⟩
          · clear hwant
            have e15 : (fun (v : Value) (w : World × _) => w.2 = some v ∧ isTup2 v) (b__.eval (.tmp 15)) w := hpre ⟨9, _⟩ (Array.mem_of_getElem? (i := 0) rfl) rfl _ _ rfl rfl
            obtain ⟨hd, x, y, hv⟩ := e15
            rw [hv] at hd
            exact opw_extract rfl hv rfl (hK _ _ ⟨x, y, hd, rfl⟩ ⟨hRr _, fun _ _ h => h⟩)
          · rw [want_none rfl] at hwant; cases hwant
        case r11 =>
          refine truleGh fun b__ w hW hN hold hpre => ⟨fun hwant K hK => ?_, fun hwant => ?_⟩
          · clear hwant
            have e15 : (fun (v : Value) (w : World × _) => w.2 = some v ∧ isTup2 v) (b__.eval (.tmp 15)) w := hpre ⟨9, _⟩ (Array.mem_of_getElem? (i := 0) rfl) rfl _ _ rfl rfl
            obtain ⟨hd, x, y, hv⟩ := e15
            rw [hv] at hd
            exact opw_extract rfl hv rfl (hK _ _ ⟨x, y, hd, rfl⟩ ⟨hRr _, fun _ _ h => h⟩)
          · rw [want_none rfl] at hwant; cases hwant
        case r12 =>
          refine truleGh fun b__ w hW hN hold hpre => ⟨fun hwant K hK => ?_, fun hwant => ?_⟩
          · clear hwant
            have e25 : (fun (v : Value) (w : World × _) => ∃ x y : Value, w.2 = some (.tuple #[x, y]) ∧ v = x) (b__.eval (.tmp 25)) w := hpre ⟨10, _⟩ (Array.mem_of_getElem? (i := 0) rfl) rfl _ _ rfl rfl
            exact opw_assign rfl rfl (hK _ _ e25 ⟨hRr _, fun _ _ h => h⟩)
          · rw [want_none rfl] at hwant; cases hwant
        case r13 =>
          refine truleGh fun b__ w hW hN hold hpre => ⟨fun hwant K hK => ?_, fun hwant => ?_⟩
          · clear hwant
            have e26 : (fun (v : Value) (w : World × _) => ∃ x y : Value, w.2 = some (.tuple #[x, y]) ∧ v = y) (b__.eval (.tmp 26)) w := hpre ⟨11, _⟩ (Array.mem_of_getElem? (i := 0) rfl) rfl _ _ rfl rfl
            exact opw_assign rfl rfl (hK _ _ e26 ⟨hRr _, fun _ _ h => h⟩)
          · rw [want_none rfl] at hwant; cases hwant
        case post =>
          intro b__ wz hW hdf hsz hold hT hZ
          have e16 : b__.eval (.tmp 16) = .pointer (some ⟨q, 0, none⟩) := hT 0 _ 16 rfl rfl
          have e17 : b__.eval (.tmp 17) = .pointer (some ⟨q, 0, none⟩) := hT 1 _ 17 rfl rfl
          have e18 : b__.eval (.tmp 18) = .pointer (some ⟨q, 0, none⟩) := hT 2 _ 18 rfl rfl
          have e19 : b__.eval (.tmp 19) = o := hT 3 _ 19 rfl rfl
          have e20 : b__.eval (.tmp 20) = .pointer (some ⟨g4, 0, none⟩) := hT 4 _ 20 rfl rfl
          have e21 : b__.eval (.tmp 21) = .int .i64 ((za : Nat) : Int) := hT 5 _ 21 rfl rfl
          have e22 : b__.eval (.tmp 22) = .pointer (some ⟨g4, 1, none⟩) := hT 6 _ 22 rfl rfl
          have e23 : b__.eval (.tmp 23) = .int .i64 ((zb : Nat) : Int) := hT 7 _ 23 rfl rfl
          have e24 : (fun (v : Value) (w : World × _) => w.2 = some v ∧ isTup2 v) (b__.eval (.tmp 24)) wz := hT 8 _ 24 rfl rfl
          have e15 : (fun (v : Value) (w : World × _) => w.2 = some v ∧ isTup2 v) (b__.eval (.tmp 15)) wz := hT 9 _ 15 rfl rfl
          have e25 : (fun (v : Value) (w : World × _) => ∃ x y : Value, w.2 = some (.tuple #[x, y]) ∧ v = x) (b__.eval (.tmp 25)) wz := hT 10 _ 25 rfl rfl
          have e26 : (fun (v : Value) (w : World × _) => ∃ x y : Value, w.2 = some (.tuple #[x, y]) ∧ v = y) (b__.eval (.tmp 26)) wz := hT 11 _ 26 rfl rfl
          have e6 : (fun (v : Value) (w : World × _) => ∃ x y : Value, w.2 = some (.tuple #[x, y]) ∧ v = x) (b__.eval (.tmp 6)) wz := hT 12 _ 6 rfl rfl
          have e7 : (fun (v : Value) (w : World × _) => ∃ x y : Value, w.2 = some (.tuple #[x, y]) ∧ v = y) (b__.eval (.tmp 7)) wz := hT 13 _ 7 rfl rfl
          obtain ⟨vs, hvs, hb⟩ := frame_of hdf hsz hold
          replace e16 : vs 16 = .pointer (some ⟨q, 0, none⟩) := (hvs 16).symm.trans e16
          replace e17 : vs 17 = .pointer (some ⟨q, 0, none⟩) := (hvs 17).symm.trans e17
          replace e18 : vs 18 = .pointer (some ⟨q, 0, none⟩) := (hvs 18).symm.trans e18
          replace e19 : vs 19 = o := (hvs 19).symm.trans e19
          replace e20 : vs 20 = .pointer (some ⟨g4, 0, none⟩) := (hvs 20).symm.trans e20
          replace e21 : vs 21 = .int .i64 ((za : Nat) : Int) := (hvs 21).symm.trans e21
          replace e22 : vs 22 = .pointer (some ⟨g4, 1, none⟩) := (hvs 22).symm.trans e22
          replace e23 : vs 23 = .int .i64 ((zb : Nat) : Int) := (hvs 23).symm.trans e23
          replace e24 := (hvs 24) ▸ e24
          replace e15 := (hvs 15) ▸ e15
          replace e25 := (hvs 25) ▸ e25
          replace e26 := (hvs 26) ▸ e26
          replace e6 := (hvs 6) ▸ e6
          replace e7 := (hvs 7) ▸ e7
          subst hb
          clear hvs hold hT hdf hsz
          simp only [setAll, Act.put, List.setIfInBounds_toArray, List.set_cons_zero, List.set_cons_succ, List.getElem_toArray, List.getElem_cons_succ, List.getElem_cons_zero]
          obtain ⟨x1, y1, d1, e6⟩ := e6
          obtain ⟨x2, y2, d2, e7⟩ := e7
          rw [d1] at d2
          obtain ⟨rfl, rfl⟩ : x1 = x2 ∧ y1 = y2 := by simpa using d2
          obtain ⟨p', hp, hS⟩ := HS2.out _ _ ((hW.1 hJ0).2 _ d1)
          obtain ⟨rfl, rfl⟩ : x1 = p' ∧ y1 = .int .i64 0 := by simpa using hp
          rw [e6, e7]
          generalize wz.1 = wf at *
          clear hJ0 hRr hRt hW hZ hN0 d1 d2 e6 e7 hp HC2 HC3 HS2 HS3
          have hIO := Lib.hid (fun (w : World) (h : K (Free [.box g4 50 #[.int .i64 (za : Nat), .int .i64 (zb : Nat)], .own vo 50 2 M.length (pcells M)]) w ∧ IsOrd w (Free [.box g4 50 #[.int .i64 (za : Nat), .int .i64 (zb : Nat)], .own vo 50 2 M.length (pcells M)]) x1 64 (unl L (za, zb))) => oless_any h.2 HU.out (zb : Nat) (za : Nat))
          go_wp2_with (first
            | ((with_reducible show wpList _ _ _ (⟨_, .binOp _ _ _ _ _, _, _, _, _⟩ :: _) _ _); (first | ((with_reducible show wpList _ _ _ (⟨_, .binOp .lss _ _ _ _, _, _, _, _⟩ :: _) _ _); refine st_lss rfl _ _ _ _ rfl _ _ _ rfl rfl (fun h_ => ?_) (fun h_ => ?_)) | ((with_reducible show wpList _ _ _ (⟨_, .binOp .leq _ _ _ _, _, _, _, _⟩ :: _) _ _); refine st_leq rfl _ _ _ _ rfl _ _ _ rfl rfl (fun h_ => ?_) (fun h_ => ?_)) | ((with_reducible show wpList _ _ _ (⟨_, .binOp .gtr _ _ _ _, _, _, _, _⟩ :: _) _ _); refine st_gtr rfl _ _ _ _ rfl _ _ _ rfl rfl (fun h_ => ?_) (fun h_ => ?_)) | ((with_reducible show wpList _ _ _ (⟨_, .binOp .geq _ _ _ _, _, _, _, _⟩ :: _) _ _); refine st_geq rfl _ _ _ _ rfl _ _ _ rfl rfl (fun h_ => ?_) (fun h_ => ?_)) | ((with_reducible show wpList _ _ _ (⟨_, .binOp .eql _ _ _ _, _, _, _, _⟩ :: _) _ _); refine st_eql rfl _ _ _ _ rfl _ _ _ rfl rfl (fun h_ => ?_) (fun h_ => ?_)) | ((with_reducible show wpList _ _ _ (⟨_, .binOp .neq _ _ _ _, _, _, _, _⟩ :: _) _ _); refine st_neq rfl _ _ _ _ rfl _ _ _ rfl rfl (fun h_ => ?_) (fun h_ => ?_))) <;> go_prune)
            | (go_at_call 56; refine (hIO.out _ hS.ro).mono ?_; rintro r_ w_ ⟨_, rfl, ⟨c, rfl, hc⟩, hb_⟩; obtain rfl := HCB.out c hc; clear hc; replace hS := hS.ext hb_; clear hb_)
            | ((with_reducible show wpList _ _ _ (⟨_, .load _ _, _, _, _, _⟩ :: _) _ _); first | (refine st_cell hS 0 rfl _ _ rfl _ _ rfl _ _ rfl (by decide +kernel) _ (by first | assumption | rfl) ?_) | (refine st_cell hS 1 rfl _ _ rfl _ _ rfl _ _ rfl (by decide +kernel) _ (by first | assumption | rfl) ?_) | (refine st_cell hS 2 rfl _ _ rfl _ _ rfl _ _ rfl (by decide +kernel) _ (by first | assumption | rfl) ?_) | (refine st_cell hS 3 rfl _ _ rfl _ _ rfl _ _ rfl (by decide +kernel) _ (by first | assumption | rfl) ?_) | (refine st_cell hS 4 rfl _ _ rfl _ _ rfl _ _ rfl (by decide +kernel) _ (by first | assumption | rfl) ?_) | (refine st_cell hS 5 rfl _ _ rfl _ _ rfl _ _ rfl (by decide +kernel) _ (by first | assumption | rfl) ?_) | (refine st_cell hS 6 rfl _ _ rfl _ _ rfl _ _ rfl (by decide +kernel) _ (by first | assumption | rfl) ?_) | (refine st_cell hS 7 rfl _ _ rfl _ _ rfl _ _ rfl (by decide +kernel) _ (by first | assumption | rfl) ?_)))
          refine ⟨⟨j + 1, _, by go_num, rfl, hlj, ?_⟩, by simp [intOf]; omega⟩
          rw [HE.out]
          exact (hS.sub (List.sublist_cons_self _ _)).mono KS fun _ _ h => h.1
    · obtain rfl : j = L.length := by omega
      rw [List.take_length] at hS
      go_wp2_with (first | ((with_reducible show wpList _ _ _ (⟨_, .binOp _ _ _ _ _, _, _, _, _⟩ :: _) _ _); (first | ((with_reducible show wpList _ _ _ (⟨_, .binOp .lss _ _ _ _, _, _, _, _⟩ :: _) _ _); refine st_lss rfl _ _ _ _ rfl _ _ _ rfl rfl (fun h_ => ?_) (fun h_ => ?_)) | ((with_reducible show wpList _ _ _ (⟨_, .binOp .leq _ _ _ _, _, _, _, _⟩ :: _) _ _); refine st_leq rfl _ _ _ _ rfl _ _ _ rfl rfl (fun h_ => ?_) (fun h_ => ?_)) | ((with_reducible show wpList _ _ _ (⟨_, .binOp .gtr _ _ _ _, _, _, _, _⟩ :: _) _ _); refine st_gtr rfl _ _ _ _ rfl _ _ _ rfl rfl (fun h_ => ?_) (fun h_ => ?_)) | ((with_reducible show wpList _ _ _ (⟨_, .binOp .geq _ _ _ _, _, _, _, _⟩ :: _) _ _); refine st_geq rfl _ _ _ _ rfl _ _ _ rfl rfl (fun h_ => ?_) (fun h_ => ?_)) | ((with_reducible show wpList _ _ _ (⟨_, .binOp .eql _ _ _ _, _, _, _, _⟩ :: _) _ _); refine st_eql rfl _ _ _ _ rfl _ _ _ rfl rfl (fun h_ => ?_) (fun h_ => ?_)) | ((with_reducible show wpList _ _ _ (⟨_, .binOp .neq _ _ _ _, _, _, _, _⟩ :: _) _ _); refine st_neq rfl _ _ _ _ rfl _ _ _ rfl rfl (fun h_ => ?_) (fun h_ => ?_))) <;> go_prune))
      go_ret
      exact ⟨_, rfl, hS.mono (Stable.pure True) fun _ _ _ => trivial⟩
end Go.Proofs.YtmlkgaiphpimiaaDoor
namespace Go.Proofs.YtmlkgaiphpimiaaDoor
open Go.RowKit
attribute [local go_sem ↓] Go.wp_at_zero Go.wp_at_succ
set_option maxRecDepth 20000
set_option exponentiation.threshold 5000

section
variable {P : Program} {ops : Array Oper} {rest : List Oper} {o : Oper} {a : Act} {w : World} {Q : Exit → Act → World → Prop}
end
theorem HOK.ins {L : List (Nat × Nat)} (h : HOK L) {x y : Nat} (hx : 1 ≤ x ∧ x < 64) (hy : 1 ≤ y ∧ y < 64) (hne : x ≠ y) (hm : (x, y) ∉ L) (ht : ¬ TC L y x) : HOK (ins L (x, y)) := by
  refine ⟨ins_asc h.asc hm, fun z hz => ?_, (acyc_ins h.acyc fun z => mem_ins).2 ?_⟩
  · rcases mem_ins.1 hz with rfl | hz
    · exact ⟨hx, hy⟩
    · exact h.role z hz
  · rintro (e | e)
    · exact hne e.symm
    · exact ht e
/-- links among the roles 1 to 6 -/
def Six (L : List (Nat × Nat)) : Prop := ∀ x ∈ L, x.1 ≤ 6 ∧ x.2 ≤ 6
theorem Six.ins {L : List (Nat × Nat)} (h : Six L) {x y : Nat} (hx : x ≤ 6) (hy : y ≤ 6) : Six (ins L (x, y)) := fun z hz => by
  rcases mem_ins.1 hz with rfl | hz
  · exact ⟨hx, hy⟩
  · exact h z hz
/-- what a link more leaves -/
theorem RLinkP.step {w0 w w' : World} {F : List Fact} {K : (Nat → Prop) → World → Prop} {pv : Value} {L : List (Nat × Nat)} {a b : Int} {e : Ending} (h : RLinkP w pv L a b e w') (hS : St w0 w (.own pv 50 2 L.length (pcells L) :: F) K) (hH : HOK L) (h6 : Six L) (ha : a ≤ 6) (hb : b ≤ 6) :
    ∃ (v : Value) (z : Int) (L' : List (Nat × Nat)), e = .returned (.tuple #[v, .int .i64 z]) ∧ HOK L' ∧ Six L' ∧ L'.length ≤ L.length + 1 ∧ St w0 w' (.own v 50 2 L'.length (pcells L') :: F) K ∧ St w0 w' (.own pv 50 2 L.length (pcells L) :: F) K := by
  rcases h with ⟨_, rfl, h⟩ | ⟨x, y, rfl, rfl, hx, hy, hne, ⟨_, rfl, h⟩ | ⟨_, _, rfl, h⟩ | ⟨hm, ht, v, rfl, hs⟩⟩
  · exact ⟨_, _, L, rfl, hH, h6, by omega, hS.ext h, hS.ext h⟩
  · exact ⟨_, _, L, rfl, hH, h6, by omega, hS.ext h, hS.ext h⟩
  · exact ⟨_, _, L, rfl, hH, h6, by omega, hS.ext h, hS.ext h⟩
  · refine ⟨v, _, _, rfl, hH.ins hx hy hne hm ht, h6.ins (by omega) (by omega), by rw [ins_len]; omega, ?_⟩
    have hn := hS.new hs.below (.own v 50 2 (L.length + 1) (pcells (ins L (x, y)))) (hs.own 0 rfl)
    rw [ins_len]
    exact ⟨hn.sub (.cons_cons _ (.cons _ (List.Sublist.refl _))), hn.sub (List.sublist_cons_self _ _)⟩
theorem sl_cell {w : World} {D : Nat → Prop} {size n c b o j : Nat} {xs : List Value} {x : Value} (h : Sl w D size (.slice (some ⟨b, o, none⟩) n c) n xs) (hj : xs[j]? = some x) : w.cell? ⟨b, o + j, none⟩ = some x := by
  obtain ⟨h1, A, c2, h2, _, _, h5⟩ := h
  have hlt := (List.getElem?_eq_some_iff.1 hj).1
  have hn : 0 < n := by
    rcases Nat.eq_zero_or_pos n with h0 | h0
    · subst h0; simp at h1; subst h1; simp at hlt
    · exact h0
  obtain ⟨b2, o2, h6, _, _, h8⟩ := h5 hn
  injection h2 with h2
  rw [h6] at h2
  injection h2 with h2
  injection h2 with h9 h10
  rw [h9, h10]
  exact h8 j x hj
end Go.Proofs.YtmlkgaiphpimiaaDoor
namespace Go.Proofs.YtmlkgaiphpimiaaDoor
open Go.RowKit
attribute [local go_sem ↓] Go.wp_at_zero Go.wp_at_succ
set_option maxRecDepth 20000

/-- the cells of a list of cubes given by masks -/
def rcells (l : List (Nat × Nat)) : List Value := l.flatMap fun z => [.int .u64 (z.1 : Nat), .int .u64 (z.2 : Nat)]
theorem rcells_at (l : List (Nat × Nat)) (k : Nat) (h : k < l.length) : (rcells l)[k * 2]? = some (.int .u64 ((l.getD k (0, 0)).1 : Nat)) ∧ (rcells l)[k * 2 + 1]? = some (.int .u64 ((l.getD k (0, 0)).2 : Nat)) := by
  induction l generalizing k with
  | nil => simp at h
  | cons z r ih =>
    cases k with
    | zero => simp [rcells]
    | succ k =>
      have := ih k (by simpa using h)
      rw [show (k + 1) * 2 = k * 2 + 2 by omega]
      simpa [rcells] using this
/-- v is a list of cubes as the references have it -/
def RCubes (w : World) (D : Nat → Prop) (v : Value) (l : List (Nat × Nat)) : Prop := Sl w D 2 v l.length (rcells l)
theorem RCubes.keep {w w' : World} {D : Nat → Prop} {v : Value} {l : List (Nat × Nat)} (h : RCubes w D v l) (hsz : w.heap.size ≤ w'.heap.size) (hk : ∀ p : Addr, D p.block → p.block < w.heap.size → w'.cell? p = w.cell? p) : RCubes w' D v l := Sl.keep h hsz hk
theorem RCubes.imp {w : World} {D D' : Nat → Prop} {v : Value} {l : List (Nat × Nat)} (h : RCubes w D v l) (hD : ∀ b, D b → b < w.heap.size → D' b) : RCubes w D' v l := Sl.imp h hD
theorem RCubes.ext {w w' : World} {D : Nat → Prop} {v : Value} {l : List (Nat × Nat)} (h : RCubes w D v l) (hb : Below w.heap.size w w') : RCubes w' D v l := h.keep hb.size fun _ _ hp => hb.cell hp
theorem RCubes.drew {w : World} {D : Nat → Prop} {v : Value} {l : List (Nat × Nat)} (h : RCubes w D v l) : RCubes w.drew D v l := h.keep (Nat.le_refl _) fun _ _ _ => rfl
theorem RCubes.alloc {w : World} {D : Nat → Prop} {v : Value} {l : List (Nat × Nat)} (h : RCubes w D v l) (o : Obj) : RCubes (w.alloc o) D v l := h.keep (by simp) fun p _ hp => World.cell?_alloc_lt w o p hp
theorem RCubes.upd {g : Nat} {w w' : World} {D : Nat → Prop} {v : Value} {l : List (Nat × Nat)} (h : RCubes w D v l) (hU : Upd g w w') (hD : ∀ b, D b → b < w.heap.size → b ≠ g) : RCubes w' D v l := h.keep (Nat.le_of_eq hU.size.symm) fun _ h1 h2 => hU.cell (hD _ h1 h2)
theorem RCubes.shape {w : World} {D : Nat → Prop} {v : Value} {l : List (Nat × Nat)} (h : RCubes w D v l) : ∃ A c, v = .slice A l.length c ∧ l.length ≤ c ∧ c ≤ 9223372036854775807 := Sl.shape h
theorem RCubes.at_ {w : World} {D : Nat → Prop} {A : Option Addr} {c : Nat} {l : List (Nat × Nat)} (h : RCubes w D (.slice A l.length c) l) {k : Nat} (hk : k < l.length) :
    ∃ b o, A = some ⟨b, o, none⟩ ∧ D b ∧ b < w.heap.size ∧ w.cell? ⟨b, o + k * 2, none⟩ = some (.int .u64 ((l.getD k (0, 0)).1 : Nat)) ∧ w.cell? ⟨b, o + k * 2 + 1, none⟩ = some (.int .u64 ((l.getD k (0, 0)).2 : Nat)) := by
  obtain ⟨_, A', c', h1, _, _, h2⟩ := h
  obtain ⟨b, o, h3, h4, h6, h5⟩ := h2 (by omega)
  injection h1 with h1
  obtain ⟨g1, g2⟩ := rcells_at l k hk
  exact ⟨b, o, h1.trans h3, h4, h6, h5 _ _ g1, by have := h5 _ _ g2; rw [← Nat.add_assoc] at this; exact this⟩

/-- the cells xs are the cubes l -/
def CubeCells (w : World) (D : Nat → Prop) (xs : List Value) (l : List (Nat × Nat)) : Prop :=
  ∀ i y n, l[i]? = some (y, n) → ∃ a b, xs[i * 2]? = some a ∧ xs[i * 2 + 1]? = some b ∧ IsSet w D (.agg #[a]) y ∧ IsSet w D (.agg #[b]) n
theorem CubeCells.keep {w w' : World} {D : Nat → Prop} {xs : List Value} {l : List (Nat × Nat)} (h : CubeCells w D xs l) (hsz : w.heap.size ≤ w'.heap.size) (hk : ∀ p : Addr, D p.block → p.block < w.heap.size → w'.cell? p = w.cell? p) : CubeCells w' D xs l := fun i y n hi => by
  obtain ⟨a, b, h1, h2, h3, h4⟩ := h i y n hi
  exact ⟨a, b, h1, h2, h3.keep hsz hk, h4.keep hsz hk⟩
theorem CubeCells.imp {w : World} {D D' : Nat → Prop} {xs : List Value} {l : List (Nat × Nat)} (h : CubeCells w D xs l) (hD : ∀ b, D b → b < w.heap.size → D' b) : CubeCells w D' xs l := fun i y n hi => by
  obtain ⟨a, b, h1, h2, h3, h4⟩ := h i y n hi
  exact ⟨a, b, h1, h2, h3.imp hD, h4.imp hD⟩
theorem CubeCells.ext {w w' : World} {D : Nat → Prop} {xs : List Value} {l : List (Nat × Nat)} (h : CubeCells w D xs l) (hb : Below w.heap.size w w') : CubeCells w' D xs l := h.keep hb.size fun _ _ hp => hb.cell hp
theorem CubeCells.drew {w : World} {D : Nat → Prop} {xs : List Value} {l : List (Nat × Nat)} (h : CubeCells w D xs l) : CubeCells w.drew D xs l := h.keep (Nat.le_refl _) fun _ _ _ => rfl
theorem CubeCells.alloc {w : World} {D : Nat → Prop} {xs : List Value} {l : List (Nat × Nat)} (h : CubeCells w D xs l) (o : Obj) : CubeCells (w.alloc o) D xs l := h.keep (by simp) fun p _ hp => World.cell?_alloc_lt w o p hp
theorem CubeCells.upd {g : Nat} {w w' : World} {D : Nat → Prop} {xs : List Value} {l : List (Nat × Nat)} (h : CubeCells w D xs l) (hU : Upd g w w') (hD : ∀ b, D b → b < w.heap.size → b ≠ g) : CubeCells w' D xs l := h.keep (Nat.le_of_eq hU.size.symm) fun _ h1 h2 => hU.cell (hD _ h1 h2)
theorem CubeCells.nil {w : World} {D : Nat → Prop} : CubeCells w D [] [] := fun i y n h => by simp at h
theorem CubeCells.cubes {w : World} {base : Nat} {v : Value} {xs : List Value} {l : List (Nat × Nat)} {e : TypeId} {D : Nat → Prop} (h : CubeCells w D xs l) (ho : w.ownsRow base e 2 v l.length xs) (hD : ∀ b, base ≤ b → D b) : IsCubes w D v l := ⟨xs, (Sl.of_own ho).imp fun b h1 _ => hD b h1, h⟩
def Small (l : List (Nat × Nat)) : Prop := ∀ z ∈ l, z.1 < T64 ∧ z.2 < T64
theorem Small.at_ {l : List (Nat × Nat)} (h : Small l) (k : Nat) (hk : k < l.length) : (l.getD k (0, 0)).1 < T64 ∧ (l.getD k (0, 0)).2 < T64 := h _ (by rw [List.getD_eq_getElem?_getD, List.getElem?_eq_getElem hk]; exact List.getElem_mem hk)

end Go.Proofs.YtmlkgaiphpimiaaDoor
namespace Go.Proofs.YtmlkgaiphpimiaaDoor
open Go.RowKit
attribute [local go_sem ↓] Go.wp_at_zero Go.wp_at_succ
set_option maxRecDepth 20000

/-- a raw cube -/
structure RawC where
  a : Nat
  b : Nat
  odd : Bool
def RawC.ok (x : RawC) : Prop := x.a < 256 ∧ x.b < 256
end Go.Proofs.YtmlkgaiphpimiaaDoor
namespace Go.Proofs.YtmlkgaiphpimiaaDoor
open Go.RowKit
attribute [local go_sem ↓] Go.wp_at_zero Go.wp_at_succ
set_option maxRecDepth 20000

/-- a raw certificate -/
structure RawCert where
  prob : Nat
  odd : Nat
  reach : Bool
  plan : List Int
  cubes : List RawC
def RawCert.ok (x : RawCert) : Prop := x.prob < 256 ∧ x.odd < 256 ∧ ∀ c ∈ x.cubes, c.ok
/-- the cells of a certificate -/
def cc (prob : List Nat) (r : Bool) (pv qv : Value) : Array Value := (u8s prob ++ [.bool r, pv, qv]).toArray
section
variable {w wr w1 w2 : World} {C : Nat} {par z : Array Value} {P : List Nat} {r : Bool} {plan plan' : List Int} {cubes cubes' : List (Nat × Nat)} {pv qv v : Value}
end

end Go.Proofs.YtmlkgaiphpimiaaDoor
namespace Go.Proofs.YtmlkgaiphpimiaaDoor
open Go.RowKit
attribute [local go_sem ↓] Go.wp_at_zero Go.wp_at_succ

end Go.Proofs.YtmlkgaiphpimiaaDoor
namespace Go.Proofs.YtmlkgaiphpimiaaDoor
open Go.RowKit
attribute [local go_sem ↓] Go.wp_at_zero Go.wp_at_succ
set_option maxRecDepth 20000

end Go.Proofs.YtmlkgaiphpimiaaDoor
namespace Go.Proofs.YtmlkgaiphpimiaaDoor
open Go.RowKit
attribute [local go_sem ↓] Go.wp_at_zero Go.wp_at_succ
set_option maxRecDepth 20000

theorem IsCubes.bound {w : World} {D : Nat → Prop} {v : Value} {l : List (Nat × Nat)} (h : IsCubes w D v l) : ∀ z ∈ l, z.1 < 2 ^ 4096 ∧ z.2 < 2 ^ 4096 := by
  intro z hz
  obtain ⟨i, hi, rfl⟩ := List.getElem_of_mem hz
  obtain ⟨xs, _, h2⟩ := h
  obtain ⟨a, b, _, _, h5, h6⟩ := h2 i l[i].1 l[i].2 (by simp [List.getElem?_eq_getElem hi])
  exact ⟨h5.bound, h6.bound⟩

end Go.Proofs.YtmlkgaiphpimiaaDoor
namespace Go.Proofs.YtmlkgaiphpimiaaDoor
open Go.RowKit
attribute [local go_sem ↓] Go.wp_at_zero Go.wp_at_succ
set_option maxRecDepth 20000

end Go.Proofs.YtmlkgaiphpimiaaDoor
namespace Go.Proofs.YtmlkgaiphpimiaaDoor
open Go.RowKit
attribute [local go_sem ↓] Go.wp_at_zero Go.wp_at_succ
set_option maxRecDepth 20000

end Go.Proofs.YtmlkgaiphpimiaaDoor
namespace Go.Proofs.YtmlkgaiphpimiaaDoor
open Go.RowKit
attribute [local go_sem ↓] Go.wp_at_zero Go.wp_at_succ
set_option maxRecDepth 20000

/-- the word of eight bytes, of which the n last are taken in -/
def lew (l : List Nat) (i : Nat) : Nat → Nat
  | 0 => 0
  | n + 1 => (lew l i n * 256) % T64 ||| l.getD (8 * i + (7 - n)) 0
theorem Bytes.getD {l : List Nat} (h : Bytes l) (k : Nat) : l.getD k 0 < 256 := by
  rcases Nat.lt_or_ge k l.length with h1 | h1
  · rw [List.getD_eq_getElem?_getD, List.getElem?_eq_getElem h1]; exact h _ (List.getElem_mem h1)
  · rw [List.getD_eq_getElem?_getD, List.getElem?_eq_none h1]; simp
def absW (a l : List Nat) (i : Nat) : Nat := a.getD i 0 ^^^ lew l i 8
def absorbK (a l : List Nat) : List Nat := perm (mixTo (absW a l) a 17)
end Go.Proofs.YtmlkgaiphpimiaaDoor
namespace Go.Proofs.YtmlkgaiphpimiaaDoor
open Go.RowKit
attribute [local go_sem ↓] Go.wp_at_zero Go.wp_at_succ
set_option maxRecDepth 20000

section
variable {w : World} {h : Nat} {t : TypeId} {st blk : List Nat} {u tot : Nat}
end
def blkOf (l : List Nat) (j : Nat) : List Nat := (l.drop (136 * j)).take 136
def stB (st l : List Nat) : Nat → List Nat
  | 0 => st
  | j + 1 => absorbK (stB st l j) (blkOf l j)
theorem Bytes.take {l : List Nat} (h : Bytes l) (k : Nat) : Bytes (l.take k) := fun x hx => h x (List.mem_of_mem_take hx)
theorem Bytes.drop {l : List Nat} (h : Bytes l) (k : Nat) : Bytes (l.drop k) := fun x hx => h x (List.mem_of_mem_drop hx)
theorem Bytes.append {a b : List Nat} (h : Bytes a) (k : Bytes b) : Bytes (a ++ b) := fun x hx => by rcases List.mem_append.1 hx with h1 | h1; exact h x h1; exact k x h1
theorem WF.row (w : World) (h : Nat) (cs : Array Value) : WF (fun _ => False) h w (w.setRow h cs) :=
  ⟨rfl, rfl, rfl, by simp, fun k _ hq _ => setRow_other w h k cs hq, fun k cs' t fr hk _ h3 => (setRow_other w h k cs hk).trans h3⟩

end Go.Proofs.YtmlkgaiphpimiaaDoor
namespace Go.Proofs.YtmlkgaiphpimiaaDoor
open Go.RowKit
attribute [local go_sem ↓] Go.wp_at_zero Go.wp_at_succ
set_option maxRecDepth 20000

section
variable {w : World} {b : Nat} {t : TypeId} {l : List Nat}
end
end Go.Proofs.YtmlkgaiphpimiaaDoor
namespace Go.Proofs.YtmlkgaiphpimiaaDoor
open Go.RowKit
attribute [local go_sem ↓] Go.wp_at_zero Go.wp_at_succ
set_option maxRecDepth 20000

end Go.Proofs.YtmlkgaiphpimiaaDoor
namespace Go.Proofs.YtmlkgaiphpimiaaDoor
open Go.RowKit
attribute [local go_sem ↓] Go.wp_at_zero Go.wp_at_succ
set_option maxRecDepth 20000

end Go.Proofs.YtmlkgaiphpimiaaDoor
namespace Go.Proofs.YtmlkgaiphpimiaaDoor
open Go.RowKit
attribute [local go_sem ↓] Go.wp_at_zero Go.wp_at_succ
set_option maxRecDepth 20000

/-- v is a certificate as the references have it -/
def IsRCert (w : World) (D : Nat → Prop) (v : Value) (c : CertD) : Prop :=
  ∃ pv qv, v = .agg (cc c.prob c.reach pv qv) ∧ c.prob.length = 32 ∧ Bytes c.prob ∧ Sl w D 1 pv c.plan.length (ints c.plan) ∧ RCubes w D qv c.cubes
theorem IsRCert.keep {w w' : World} {D : Nat → Prop} {v : Value} {c : CertD} (h : IsRCert w D v c) (hsz : w.heap.size ≤ w'.heap.size) (hk : ∀ p : Addr, D p.block → p.block < w.heap.size → w'.cell? p = w.cell? p) : IsRCert w' D v c := by
  obtain ⟨pv, qv, h1, h2, h3, h4, h5⟩ := h
  exact ⟨pv, qv, h1, h2, h3, h4.keep hsz hk, h5.keep hsz hk⟩
theorem IsRCert.imp {w : World} {D D' : Nat → Prop} {v : Value} {c : CertD} (h : IsRCert w D v c) (hD : ∀ b, D b → b < w.heap.size → D' b) : IsRCert w D' v c := by
  obtain ⟨pv, qv, h1, h2, h3, h4, h5⟩ := h
  exact ⟨pv, qv, h1, h2, h3, h4.imp hD, h5.imp hD⟩
theorem IsRCert.ext {w w' : World} {D : Nat → Prop} {v : Value} {c : CertD} (h : IsRCert w D v c) (hb : Below w.heap.size w w') : IsRCert w' D v c := h.keep hb.size fun _ _ hp => hb.cell hp
theorem IsRCert.drew {w : World} {D : Nat → Prop} {v : Value} {c : CertD} (h : IsRCert w D v c) : IsRCert w.drew D v c := h.keep (Nat.le_refl _) fun _ _ _ => rfl
theorem IsRCert.alloc {w : World} {D : Nat → Prop} {v : Value} {c : CertD} (h : IsRCert w D v c) (o : Obj) : IsRCert (w.alloc o) D v c := h.keep (by simp) fun p _ hp => World.cell?_alloc_lt w o p hp
theorem IsRCert.upd {g : Nat} {w w' : World} {D : Nat → Prop} {v : Value} {c : CertD} (h : IsRCert w D v c) (hU : Upd g w w') (hD : ∀ b, D b → b < w.heap.size → b ≠ g) : IsRCert w' D v c := h.keep (Nat.le_of_eq hU.size.symm) fun _ h1 h2 => hU.cell (hD _ h1 h2)
end Go.Proofs.YtmlkgaiphpimiaaDoor
namespace Go.Proofs.YtmlkgaiphpimiaaDoor
open Go.RowKit
attribute [local go_sem ↓] Go.wp_at_zero Go.wp_at_succ
set_option maxRecDepth 20000

/-- slices.Equal on slices of int -/
theorem sleq_any (u v : Value) (l m : List Int) (w : World) (D E : Nat → Prop) (hu : Sl w D 1 u l.length (ints l)) (hv : Sl w E 1 v m.length (ints m)) :
    Calls Tryd.prog 19 #[u, v] w (Ret (fun x _ => x = .bool (l == m)) w) := by
  obtain ⟨A, c, rfl, h1, h2⟩ := hu.shape
  obtain ⟨A', c', rfl, h3, h4⟩ := hv.shape
  by_cases hlen : l.length = m.length
  · rcases Nat.eq_zero_or_pos l.length with h0 | h0
    · obtain rfl : l = [] := List.eq_nil_of_length_eq_zero h0
      obtain rfl : m = [] := List.eq_nil_of_length_eq_zero (by simpa using hlen.symm)
      refine (Tryd.slices_Equal_int_empty A A' c 0 c' w (by omega)).mono ?_
      rintro e w' ⟨rfl, rfl⟩
      exact Ret.mk rfl (Below.refl _ _)
    · obtain ⟨b, o, rfl, _, _, hc⟩ := hu.int (k := 0) h0
      obtain ⟨b', o', rfl, _, _, hc'⟩ := hv.int (k := 0) (by omega)
      refine (Tryd.slices_Equal_int b o l.length c b' o' m.length c' l m w (Nat.le_refl _) (Nat.le_refl _) (by omega) (by omega) hc hc').mono ?_
      rintro e w' ⟨rfl, q, rfl⟩
      rw [List.take_length, List.take_length]
      exact Ret.mk rfl (bel_drewN (Below.refl _ _) _)
  · refine (Tryd.slices_Equal_int_lens A A' l.length c m.length c' w hlen).mono ?_
    rintro e w' ⟨rfl, rfl⟩
    refine Ret.mk ?_ (Below.refl _ _)
    have : (l == m) = false := by rw [beq_eq_false_iff_ne]; rintro rfl; exact hlen rfl
    rw [this]

end Go.Proofs.YtmlkgaiphpimiaaDoor
namespace Go.Proofs.YtmlkgaiphpimiaaDoor
open Go.RowKit
attribute [local go_sem ↓] Go.wp_at_zero Go.wp_at_succ
set_option maxRecDepth 20000
set_option exponentiation.threshold 5000

theorem sl_pair {w : World} {D : Nat → Prop} {n c b o j : Nat} {L : List (Nat × Nat)} (h : Sl w D 2 (.slice (some ⟨b, o, none⟩) n c) n (pcells L)) (hj : j < L.length) : w.rangeAt b (o + j * 2) [.int .i64 ((L.getD j (0, 0)).1 : Nat), .int .i64 ((L.getD j (0, 0)).2 : Nat)] := fun i v hi => by
  obtain ⟨h1, h2⟩ := pcells_at L j hj
  match i, hi with
  | 0, hi =>
    obtain rfl := Option.some.inj (show some _ = some v from hi)
    have h3 := sl_cell (o := o) (b := b) (xs := pcells L) h h1
    exact h3
  | 1, hi =>
    obtain rfl := Option.some.inj (show some _ = some v from hi)
    have h3 := sl_cell (o := o) (b := b) (xs := pcells L) h h2
    rw [← Nat.add_assoc] at h3
    exact h3
  | i + 2, hi => simp at hi
theorem peq_any {w0 : World} {D E : Nat → Prop} {u v : Value} {L M : List (Nat × Nat)} (hu : Sl w0 D 2 u L.length (pcells L)) (hv : Sl w0 E 2 v M.length (pcells M)) (hl : L.length ≤ 1000000) :
    Calls Tryd.prog 30 #[u, v] w0 (Ret (fun x _ => x = .bool (decide (L = M))) w0) := by
  obtain ⟨A, c, rfl, _, _⟩ := hu.shape
  obtain ⟨B, d, rfl, _, _⟩ := hv.shape
  obtain ⟨K, k1, k2, hS⟩ : ∃ K : (Nat → Prop) → World → Prop, (∀ D w, K D w → Sl w D 2 (.slice A L.length c) L.length (pcells L)) ∧ (∀ D w, K D w → Sl w D 2 (.slice B M.length d) M.length (pcells M)) ∧ St w0 w0 [] K := ⟨_, fun _ _ h => h.1, fun _ _ h => h.2, St.start (D := fun _ => True) ((stable_sl (by decide)).and (stable_sl (by decide))) ⟨hu.imp fun _ _ _ => trivial, hv.imp fun _ _ _ => trivial⟩⟩
  clear hu hv
  by_cases hlm : L.length = M.length
  · have HE : Hid ((∀ t, t < L.length → L.getD t (0, 0) = M.getD t (0, 0)) → L = M) := Lib.hid fun h => List.ext_getElem hlm fun i h1 h2 => by
      have := h i h1
      rwa [List.getD_eq_getElem?_getD, List.getD_eq_getElem?_getD, List.getElem?_eq_getElem h1, List.getElem?_eq_getElem h2] at this
    go_enter Tryd.func30, Tryd.ntmps30
    go_wp2_with (first | ((with_reducible show wpList _ _ _ (⟨_, .binOp _ _ _ _ _, _, _, _, _⟩ :: _) _ _); (first | ((with_reducible show wpList _ _ _ (⟨_, .binOp .lss _ _ _ _, _, _, _, _⟩ :: _) _ _); refine st_lss rfl _ _ _ _ rfl _ _ _ rfl rfl (fun h_ => ?_) (fun h_ => ?_)) | ((with_reducible show wpList _ _ _ (⟨_, .binOp .leq _ _ _ _, _, _, _, _⟩ :: _) _ _); refine st_leq rfl _ _ _ _ rfl _ _ _ rfl rfl (fun h_ => ?_) (fun h_ => ?_)) | ((with_reducible show wpList _ _ _ (⟨_, .binOp .gtr _ _ _ _, _, _, _, _⟩ :: _) _ _); refine st_gtr rfl _ _ _ _ rfl _ _ _ rfl rfl (fun h_ => ?_) (fun h_ => ?_)) | ((with_reducible show wpList _ _ _ (⟨_, .binOp .geq _ _ _ _, _, _, _, _⟩ :: _) _ _); refine st_geq rfl _ _ _ _ rfl _ _ _ rfl rfl (fun h_ => ?_) (fun h_ => ?_)) | ((with_reducible show wpList _ _ _ (⟨_, .binOp .eql _ _ _ _, _, _, _, _⟩ :: _) _ _); refine st_eql rfl _ _ _ _ rfl _ _ _ rfl rfl (fun h_ => ?_) (fun h_ => ?_)) | ((with_reducible show wpList _ _ _ (⟨_, .binOp .neq _ _ _ _, _, _, _, _⟩ :: _) _ _); refine st_neq rfl _ _ _ _ rfl _ _ _ rfl rfl (fun h_ => ?_) (fun h_ => ?_))) <;> go_prune))
    go_loopw [13] (fun i wr => ∃ j : Nat, j ≤ L.length ∧ i = .int .i64 (j : Nat) ∧ Hid (∀ t, t < j → L.getD t (0, 0) = M.getD t (0, 0)) ∧ St w0 wr [] K) (fun i _ => L.length - (intOf i).toNat)
    case atStart => exact ⟨0, by omega, rfl, Lib.hid (fun t h => absurd h (by omega)), hS⟩
    case round =>
      clear hS
      obtain ⟨j, hj, rfl, HJ, hS⟩ := hrel
      by_cases hlj : j < L.length
      · have hmj : j < M.length := by omega
        obtain ⟨b1, o1, rfl⟩ : ∃ b o, A = some ⟨b, o, none⟩ := by
          obtain ⟨_, A2, c2, e2, _, _, h5⟩ := k1 _ _ hS.ro
          obtain ⟨b, o, h6, _⟩ := h5 (by omega)
          injection e2 with e2
          exact ⟨b, o, e2.trans h6⟩
        obtain ⟨b2, o2, rfl⟩ : ∃ b o, B = some ⟨b, o, none⟩ := by
          obtain ⟨_, A2, c2, e2, _, _, h5⟩ := k2 _ _ hS.ro
          obtain ⟨b, o, h6, _⟩ := h5 (by omega)
          injection e2 with e2
          exact ⟨b, o, e2.trans h6⟩
        have p1 := Lib.hid (fun (w : World) (h : K (Free []) w) => sl_pair (k1 _ _ h) hlj)
        have p2 := Lib.hid (fun (w : World) (h : K (Free []) w) => sl_pair (k2 _ _ h) hmj)
        have HJ2 : Hid (L.getD j (0, 0) = M.getD j (0, 0) → ∀ t, t < j + 1 → L.getD t (0, 0) = M.getD t (0, 0)) := Lib.hid fun h t ht => if e : t = j then e ▸ h else HJ.out t (by omega)
        have HNE : Hid (L.getD j (0, 0) ≠ M.getD j (0, 0) → ¬ L = M) := Lib.hid fun h e => h (by rw [e])
        generalize L.getD j (0, 0) = x at *
        generalize M.getD j (0, 0) = y at *
        go_wp2_with (first | ((with_reducible show wpList _ _ _ (⟨_, .binOp _ _ _ _ _, _, _, _, _⟩ :: _) _ _); (first | ((with_reducible show wpList _ _ _ (⟨_, .binOp .lss _ _ _ _, _, _, _, _⟩ :: _) _ _); refine st_lss rfl _ _ _ _ rfl _ _ _ rfl rfl (fun h_ => ?_) (fun h_ => ?_)) | ((with_reducible show wpList _ _ _ (⟨_, .binOp .leq _ _ _ _, _, _, _, _⟩ :: _) _ _); refine st_leq rfl _ _ _ _ rfl _ _ _ rfl rfl (fun h_ => ?_) (fun h_ => ?_)) | ((with_reducible show wpList _ _ _ (⟨_, .binOp .gtr _ _ _ _, _, _, _, _⟩ :: _) _ _); refine st_gtr rfl _ _ _ _ rfl _ _ _ rfl rfl (fun h_ => ?_) (fun h_ => ?_)) | ((with_reducible show wpList _ _ _ (⟨_, .binOp .geq _ _ _ _, _, _, _, _⟩ :: _) _ _); refine st_geq rfl _ _ _ _ rfl _ _ _ rfl rfl (fun h_ => ?_) (fun h_ => ?_)) | ((with_reducible show wpList _ _ _ (⟨_, .binOp .eql _ _ _ _, _, _, _, _⟩ :: _) _ _); refine st_eql rfl _ _ _ _ rfl _ _ _ rfl rfl (fun h_ => ?_) (fun h_ => ?_)) | ((with_reducible show wpList _ _ _ (⟨_, .binOp .neq _ _ _ _, _, _, _, _⟩ :: _) _ _); refine st_neq rfl _ _ _ _ rfl _ _ _ rfl rfl (fun h_ => ?_) (fun h_ => ?_))) <;> go_prune))
        refine wp_region_typed (fun i__ v w => match i__ with
          | 0 => v = .slice (some ⟨b1, o1, none⟩) M.length c
          | 1 => v = .int .i64 ((j : Nat) : Int)
          | 2 => v = .pointer (some ⟨b1, o1 + (j) * 2, none⟩)
          | 3 => v = .agg #[.int .i64 ((x.1 : Nat) : Int), .int .i64 ((x.2 : Nat) : Int)]
          | 4 => v = .slice (some ⟨b2, o2, none⟩) M.length d
          | 5 => v = .int .i64 ((j : Nat) : Int)
          | 6 => v = .pointer (some ⟨b2, o2 + (j) * 2, none⟩)
          | 7 => v = .agg #[.int .i64 ((y.1 : Nat) : Int), .int .i64 ((y.2 : Nat) : Int)]
          | 8 => v = .bool (decide (x ≠ y))
          | _ => True) (by kernel_rfl) (by kernel_rfl) ?mono ⟨?r0, ?r1, ?r2, ?r3, ?r4, ?r5, ?r6, ?r7, ?r8, trivial⟩ ?post
        case mono =>
          intro i v w w' h hb
          match i, h with
          | 0, h => exact h
          | 1, h => exact h
          | 2, h => exact h
          | 3, h => exact h
          | 4, h => exact h
          | 5, h => exact h
          | 6, h => exact h
          | 7, h => exact h
          | 8, h => exact h
          | _ + 9, h => trivial
        case r0 =>
          refine trule fun b__ w hW hold hpre => ⟨fun hwant K hK => ?_, fun hwant => ?_⟩
          · clear hwant
            have e0 : b__.eval (.tmp 0) = .slice (some ⟨b1, o1, none⟩) M.length c := (hold 0 (by kernel_rfl)).trans rfl
            exact opw_move rfl e0 (hK _ _ rfl (Below.refl _ _))
          · rw [want_none rfl] at hwant; cases hwant
        case r1 =>
          refine trule fun b__ w hW hold hpre => ⟨fun hwant K hK => ?_, fun hwant => ?_⟩
          · clear hwant
            have e5 : b__.eval (.tmp 5) = .int .i64 ((j : Nat) : Int) := (hold 5 (by kernel_rfl)).trans rfl
            exact opw_move rfl e5 (hK _ _ rfl (Below.refl _ _))
          · rw [want_none rfl] at hwant; cases hwant
        case r2 =>
          refine trule fun b__ w hW hold hpre => ⟨fun hwant K hK => ?_, fun hwant => ?_⟩
          · clear hwant
            have e16 : b__.eval (.tmp 16) = .slice (some ⟨b1, o1, none⟩) M.length c := hpre ⟨0, _⟩ (Array.mem_of_getElem? (i := 0) rfl) rfl _ _ rfl rfl
            have e17 : b__.eval (.tmp 17) = .int .i64 ((j : Nat) : Int) := hpre ⟨1, _⟩ (Array.mem_of_getElem? (i := 1) rfl) rfl _ _ rfl rfl
            exact opw_iaddr rfl e16 e17 (run_iaddr_lit (m := j) Tryd.underlying25 (by kernel_rfl) (by omega) (by omega)) (hK _ _ rfl (Below.refl _ _))
          · rw [want_none rfl] at hwant; cases hwant
        case r3 =>
          refine trule fun b__ w hW hold hpre => ⟨fun hwant K hK => ?_, fun hwant => ?_⟩
          · clear hwant
            have e18 : b__.eval (.tmp 18) = .pointer (some ⟨b1, o1 + (j) * 2, none⟩) := hpre ⟨2, _⟩ (Array.mem_of_getElem? (i := 0) rfl) rfl _ _ rfl rfl
            exact opw_mid (cs := [_, _]) rfl e18 (p1.out _ (hS.ext (undrew hW)).ro) Tryd.underlying50 rfl (by kernel_rfl) (hK _ _ rfl (Below.refl _ _))
          · rw [want_none rfl] at hwant; cases hwant
        case r4 =>
          refine trule fun b__ w hW hold hpre => ⟨fun hwant K hK => ?_, fun hwant => ?_⟩
          · clear hwant
            have e1 : b__.eval (.tmp 1) = .slice (some ⟨b2, o2, none⟩) M.length d := (hold 1 (by kernel_rfl)).trans rfl
            exact opw_move rfl e1 (hK _ _ rfl (Below.refl _ _))
          · rw [want_none rfl] at hwant; cases hwant
        case r5 =>
          refine trule fun b__ w hW hold hpre => ⟨fun hwant K hK => ?_, fun hwant => ?_⟩
          · clear hwant
            have e5 : b__.eval (.tmp 5) = .int .i64 ((j : Nat) : Int) := (hold 5 (by kernel_rfl)).trans rfl
            exact opw_move rfl e5 (hK _ _ rfl (Below.refl _ _))
          · rw [want_none rfl] at hwant; cases hwant
        case r6 =>
          refine trule fun b__ w hW hold hpre => ⟨fun hwant K hK => ?_, fun hwant => ?_⟩
          · clear hwant
            have e20 : b__.eval (.tmp 20) = .slice (some ⟨b2, o2, none⟩) M.length d := hpre ⟨4, _⟩ (Array.mem_of_getElem? (i := 0) rfl) rfl _ _ rfl rfl
            have e21 : b__.eval (.tmp 21) = .int .i64 ((j : Nat) : Int) := hpre ⟨5, _⟩ (Array.mem_of_getElem? (i := 1) rfl) rfl _ _ rfl rfl
            exact opw_iaddr rfl e20 e21 (run_iaddr_lit (m := j) Tryd.underlying25 (by kernel_rfl) (by omega) (by omega)) (hK _ _ rfl (Below.refl _ _))
          · rw [want_none rfl] at hwant; cases hwant
        case r7 =>
          refine trule fun b__ w hW hold hpre => ⟨fun hwant K hK => ?_, fun hwant => ?_⟩
          · clear hwant
            have e22 : b__.eval (.tmp 22) = .pointer (some ⟨b2, o2 + (j) * 2, none⟩) := hpre ⟨6, _⟩ (Array.mem_of_getElem? (i := 0) rfl) rfl _ _ rfl rfl
            exact opw_mid (cs := [_, _]) rfl e22 (p2.out _ (hS.ext (undrew hW)).ro) Tryd.underlying50 rfl (by kernel_rfl) (hK _ _ rfl (Below.refl _ _))
          · rw [want_none rfl] at hwant; cases hwant
        case r8 =>
          refine trule fun b__ w hW hold hpre => ⟨fun hwant K hK => ?_, fun hwant => ?_⟩
          · clear hwant
            have e19 : b__.eval (.tmp 19) = .agg #[.int .i64 ((x.1 : Nat) : Int), .int .i64 ((x.2 : Nat) : Int)] := hpre ⟨3, _⟩ (Array.mem_of_getElem? (i := 0) rfl) rfl _ _ rfl rfl
            have e23 : b__.eval (.tmp 23) = .agg #[.int .i64 ((y.1 : Nat) : Int), .int .i64 ((y.2 : Nat) : Int)] := hpre ⟨7, _⟩ (Array.mem_of_getElem? (i := 1) rfl) rfl _ _ rfl rfl
            exact opw_bin (vx := .agg #[.int .i64 ((x.1 : Nat) : Int), .int .i64 ((x.2 : Nat) : Int)]) (vy := .agg #[.int .i64 ((y.1 : Nat) : Int), .int .i64 ((y.2 : Nat) : Int)]) (v := .bool (decide (x ≠ y))) rfl e19 e23 rfl (ne_pairs _ _ _) (hK _ _ rfl (Below.refl _ _))
          · rw [want_none rfl] at hwant; cases hwant
        case post =>
          intro b__ wz hW hdf hsz hold hT
          have e16 : b__.eval (.tmp 16) = .slice (some ⟨b1, o1, none⟩) M.length c := hT 0 _ 16 rfl rfl
          have e17 : b__.eval (.tmp 17) = .int .i64 ((j : Nat) : Int) := hT 1 _ 17 rfl rfl
          have e18 : b__.eval (.tmp 18) = .pointer (some ⟨b1, o1 + (j) * 2, none⟩) := hT 2 _ 18 rfl rfl
          have e19 : b__.eval (.tmp 19) = .agg #[.int .i64 ((x.1 : Nat) : Int), .int .i64 ((x.2 : Nat) : Int)] := hT 3 _ 19 rfl rfl
          have e20 : b__.eval (.tmp 20) = .slice (some ⟨b2, o2, none⟩) M.length d := hT 4 _ 20 rfl rfl
          have e21 : b__.eval (.tmp 21) = .int .i64 ((j : Nat) : Int) := hT 5 _ 21 rfl rfl
          have e22 : b__.eval (.tmp 22) = .pointer (some ⟨b2, o2 + (j) * 2, none⟩) := hT 6 _ 22 rfl rfl
          have e23 : b__.eval (.tmp 23) = .agg #[.int .i64 ((y.1 : Nat) : Int), .int .i64 ((y.2 : Nat) : Int)] := hT 7 _ 23 rfl rfl
          have e24 : b__.eval (.tmp 24) = .bool (decide (x ≠ y)) := hT 8 _ 24 rfl rfl
          obtain ⟨vs, hvs, hb⟩ := frame_of hdf hsz hold
          replace e16 : vs 16 = .slice (some ⟨b1, o1, none⟩) M.length c := (hvs 16).symm.trans e16
          replace e17 : vs 17 = .int .i64 ((j : Nat) : Int) := (hvs 17).symm.trans e17
          replace e18 : vs 18 = .pointer (some ⟨b1, o1 + (j) * 2, none⟩) := (hvs 18).symm.trans e18
          replace e19 : vs 19 = .agg #[.int .i64 ((x.1 : Nat) : Int), .int .i64 ((x.2 : Nat) : Int)] := (hvs 19).symm.trans e19
          replace e20 : vs 20 = .slice (some ⟨b2, o2, none⟩) M.length d := (hvs 20).symm.trans e20
          replace e21 : vs 21 = .int .i64 ((j : Nat) : Int) := (hvs 21).symm.trans e21
          replace e22 : vs 22 = .pointer (some ⟨b2, o2 + (j) * 2, none⟩) := (hvs 22).symm.trans e22
          replace e23 : vs 23 = .agg #[.int .i64 ((y.1 : Nat) : Int), .int .i64 ((y.2 : Nat) : Int)] := (hvs 23).symm.trans e23
          replace e24 : vs 24 = .bool (decide (x ≠ y)) := (hvs 24).symm.trans e24
          subst hb
          clear hvs hold hT hdf hsz
          simp only [setAll, Act.put, List.setIfInBounds_toArray, List.set_cons_zero, List.set_cons_succ, List.getElem_toArray, List.getElem_cons_succ, List.getElem_cons_zero]
          rw [e24]
          replace hS := hS.ext hW
          by_cases hxy : x = y
          · have H3 := Lib.hid (HJ2.out hxy)
            rw [decide_eq_false (by simp [hxy])]
            clear hW e16 e17 e18 e19 e20 e21 e22 e23 e24 hxy
            go_wp2_with fail
            exact ⟨⟨j + 1, hlj, by go_num, H3, hS⟩, by simp [intOf]; omega⟩
          · have H3 := Lib.hid (HNE.out hxy)
            rw [decide_eq_true hxy]
            clear hW e16 e17 e18 e19 e20 e21 e22 e23 e24 hxy
            go_wp2_with fail
            go_ret
            exact Ret.mk (congrArg Value.bool (decide_eq_false H3.out).symm) hS.below
      · obtain rfl : j = L.length := by omega
        have H3 := Lib.hid (HE.out HJ.out)
        go_wp2_with (first | ((with_reducible show wpList _ _ _ (⟨_, .binOp _ _ _ _ _, _, _, _, _⟩ :: _) _ _); (first | ((with_reducible show wpList _ _ _ (⟨_, .binOp .lss _ _ _ _, _, _, _, _⟩ :: _) _ _); refine st_lss rfl _ _ _ _ rfl _ _ _ rfl rfl (fun h_ => ?_) (fun h_ => ?_)) | ((with_reducible show wpList _ _ _ (⟨_, .binOp .leq _ _ _ _, _, _, _, _⟩ :: _) _ _); refine st_leq rfl _ _ _ _ rfl _ _ _ rfl rfl (fun h_ => ?_) (fun h_ => ?_)) | ((with_reducible show wpList _ _ _ (⟨_, .binOp .gtr _ _ _ _, _, _, _, _⟩ :: _) _ _); refine st_gtr rfl _ _ _ _ rfl _ _ _ rfl rfl (fun h_ => ?_) (fun h_ => ?_)) | ((with_reducible show wpList _ _ _ (⟨_, .binOp .geq _ _ _ _, _, _, _, _⟩ :: _) _ _); refine st_geq rfl _ _ _ _ rfl _ _ _ rfl rfl (fun h_ => ?_) (fun h_ => ?_)) | ((with_reducible show wpList _ _ _ (⟨_, .binOp .eql _ _ _ _, _, _, _, _⟩ :: _) _ _); refine st_eql rfl _ _ _ _ rfl _ _ _ rfl rfl (fun h_ => ?_) (fun h_ => ?_)) | ((with_reducible show wpList _ _ _ (⟨_, .binOp .neq _ _ _ _, _, _, _, _⟩ :: _) _ _); refine st_neq rfl _ _ _ _ rfl _ _ _ rfl rfl (fun h_ => ?_) (fun h_ => ?_))) <;> go_prune))
        go_ret
        exact Ret.mk (congrArg Value.bool (decide_eq_true H3.out).symm) hS.below
  · have HE : Hid (¬ L = M) := Lib.hid fun e => hlm (by rw [e])
    have hlm2 : ¬ ((L.length : Nat) : Int) = ((M.length : Nat) : Int) := by omega
    go_enter Tryd.func30, Tryd.ntmps30
    go_wp2_with (first | ((with_reducible show wpList _ _ _ (⟨_, .binOp _ _ _ _ _, _, _, _, _⟩ :: _) _ _); (first | ((with_reducible show wpList _ _ _ (⟨_, .binOp .lss _ _ _ _, _, _, _, _⟩ :: _) _ _); refine st_lss rfl _ _ _ _ rfl _ _ _ rfl rfl (fun h_ => ?_) (fun h_ => ?_)) | ((with_reducible show wpList _ _ _ (⟨_, .binOp .leq _ _ _ _, _, _, _, _⟩ :: _) _ _); refine st_leq rfl _ _ _ _ rfl _ _ _ rfl rfl (fun h_ => ?_) (fun h_ => ?_)) | ((with_reducible show wpList _ _ _ (⟨_, .binOp .gtr _ _ _ _, _, _, _, _⟩ :: _) _ _); refine st_gtr rfl _ _ _ _ rfl _ _ _ rfl rfl (fun h_ => ?_) (fun h_ => ?_)) | ((with_reducible show wpList _ _ _ (⟨_, .binOp .geq _ _ _ _, _, _, _, _⟩ :: _) _ _); refine st_geq rfl _ _ _ _ rfl _ _ _ rfl rfl (fun h_ => ?_) (fun h_ => ?_)) | ((with_reducible show wpList _ _ _ (⟨_, .binOp .eql _ _ _ _, _, _, _, _⟩ :: _) _ _); refine st_eql rfl _ _ _ _ rfl _ _ _ rfl rfl (fun h_ => ?_) (fun h_ => ?_)) | ((with_reducible show wpList _ _ _ (⟨_, .binOp .neq _ _ _ _, _, _, _, _⟩ :: _) _ _); refine st_neq rfl _ _ _ _ rfl _ _ _ rfl rfl (fun h_ => ?_) (fun h_ => ?_))) <;> go_prune))
    go_ret
    exact Ret.mk (congrArg Value.bool (decide_eq_false HE.out).symm) hS.below
/-- a link more, of a list of links without cycles -/
theorem LinkP.next {w0 w : World} {F : List Fact} {K : (Nat → Prop) → World → Prop} {L M : List (Nat × Nat)} {x : Nat × Nat} {r : Value} {z : Int} (h : LinkP w0 F K L (x.1 : Nat) (x.2 : Nat) r z w) {j : Nat} (hx : M[j]? = some x) (hL : ∀ u, u ∈ L ↔ u ∈ M.take j) (hN : M.Nodup) (hR : ∀ u ∈ M, (1 ≤ u.1 ∧ u.1 < 64) ∧ 1 ≤ u.2 ∧ u.2 < 64) (hA : Acyc M) :
    z = 0 ∧ ∃ L', HOK L' ∧ (∀ u, u ∈ L' ↔ u ∈ M.take (j + 1)) ∧ St w0 w F fun D w => K D w ∧ IsH w D r L' := by
  have hm := List.mem_of_getElem? hx
  have h1 := hR x hm
  have hne := hA.ne hm
  have htk : ∀ u, u ∈ M.take (j + 1) ↔ u ∈ L ++ [x] := fun u => by
    rw [List.take_add_one, hx, List.mem_append, List.mem_append, hL]; simp
  rcases h with ⟨h, _⟩ | ⟨a, b, ha, hb, _, _, _, h⟩
  · exact absurd ⟨⟨by omega, by omega⟩, ⟨by omega, by omega⟩, by omega⟩ h
  · obtain rfl : x = (a, b) := Prod.ext (by show x.1 = a; omega) (by show x.2 = b; omega)
    rcases h with ⟨h, _⟩ | ⟨_, h, _⟩ | ⟨_, hz, L', h3, h4, h5⟩
    · exfalso
      obtain ⟨i, hi, e⟩ := List.getElem_of_mem ((hL _).1 h)
      rw [List.length_take] at hi
      obtain ⟨hj, ej⟩ := List.getElem?_eq_some_iff.1 hx
      rw [List.getElem_take] at e
      exact List.pairwise_iff_getElem.1 hN i j (by omega) hj (by omega) (e.trans ej.symm)
    · exact absurd (hA.sub fun u hu => List.mem_of_mem_take ((htk u).2 hu)) h
    · exact ⟨hz, L', h3, fun u => (h4 u).trans (htk u).symm, h5⟩
end Go.Proofs.YtmlkgaiphpimiaaDoor
namespace Go.Proofs.YtmlkgaiphpimiaaDoor
open Go.RowKit
attribute [local go_sem ↓] Go.wp_at_zero Go.wp_at_succ
set_option maxRecDepth 20000
set_option exponentiation.threshold 5000

theorem nodup_le : ∀ {T S : List (Nat × Nat)}, T.Nodup → (∀ y ∈ T, y ∈ S) → T.length ≤ S.length
  | [], _, _, _ => by simp
  | t :: T, S, hT, hs => by
    have hT := List.nodup_cons.1 hT
    have ht := hs t (List.mem_cons_self ..)
    have := nodup_le (T := T) (S := S.erase t) hT.2 fun y hy => (List.mem_erase_of_ne (fun e => hT.1 (by rw [← e]; exact hy))).2 (hs y (List.mem_cons_of_mem _ hy))
    rw [List.length_erase_of_mem ht] at this
    have := List.length_pos_of_mem ht
    rw [List.length_cons]
    omega
/-- some of the links M, as a hierarchy has them -/
def Part (M : List (Nat × Nat)) (j : Nat) (L : List (Nat × Nat)) : Prop := HOK L ∧ ∀ u, u ∈ L ↔ u ∈ M.take j
theorem Part.len {M L : List (Nat × Nat)} {j : Nat} (h : Part M j L) : L.length ≤ M.length := nodup_le h.1.asc.nodup fun y hy => List.mem_of_mem_take ((h.2 y).1 hy)
theorem Part.full {M L : List (Nat × Nat)} (h : Part M M.length L) (hM : Asc M) : L = M := Asc.uniq h.1.asc hM fun u => by rw [h.2, List.take_length]
end Go.Proofs.YtmlkgaiphpimiaaDoor
namespace Go.Proofs.YtmlkgaiphpimiaaDoor
open Go.RowKit
attribute [local go_sem ↓] Go.wp_at_zero Go.wp_at_succ
set_option maxRecDepth 20000
set_option exponentiation.threshold 5000

/-- '[]T{x, ..}', perhaps guarded: a row of the call's own -/
theorem st_litw {P : Program} {ops : Array Oper} {rest : List Oper} {o : Oper} {a : Act} {Q : Exit → Act → World → Prop} {w0 w : World} {F : List Fact} {K : (Nat → Prop) → World → Prop} (h : St w0 w F K) (hg : Region.wanted o (yielded ops a.tmps) = true) (t e : TypeId) (len : Nat) (parts : Array (Nat × Operand)) (ho : o.op = .buildSlice t len parts) (ht : P.underlying t = some (.slice e)) (cells : Array Value)
    (hb : builtSlice P e len (parts.map fun (i, x) => (i, a.eval x)).toList = some cells) (size : Nat) (hs : cells.size = len * size) (hm : len ≤ 1000000000000)
    (hk : ∀ g w', St w0 w' (.own (.slice (some ⟨g, 0, none⟩) len len) e size len cells.toList :: F) K → wpList P ops Q rest (a.put o.dst (.slice (some ⟨g, 0, none⟩) len len)) w') : wpList P ops Q (o :: rest) a w :=
  BigFrame.wpList_want hg fun _ hK => opw_slice ho ht rfl hb fun w' hX hB => hK _ _ (hk _ w' (h.new hB _ ⟨by simpa using hs, .inr ⟨w.heap.size, len, cells, rfl, Nat.le_refl _, hX, Nat.le_refl _, by unfold maxLen; omega, hs, by rw [← hs, show cells.size = cells.toList.length by simp, List.take_length]⟩⟩))
def T3 : List (Nat × Nat) := [(1, 2), (1, 3), (2, 3)]
def M3 : List (Nat × Nat) := [(1, 2), (2, 3), (1, 3)]
/-- links that lead upwards: no cycle -/
theorem acyc_up {L : List (Nat × Nat)} (h : ∀ x ∈ L, x.1 < x.2) : Acyc L := by
  have key : ∀ {a b : Nat}, TC L a b → a < b := by
    intro a b k
    induction k with
    | one h1 => exact h _ h1
    | cons h1 _ ih => exact Nat.lt_trans (h _ h1) ih
  exact fun a ha => Nat.lt_irrefl _ (key ha)
theorem t3_hok : HOK T3 := by
  refine ⟨?_, ?_, acyc_up ?_⟩
  · unfold Asc T3 plt; simp
  · unfold T3; simp
  · unfold T3; simp
theorem m3_acyc : Acyc M3 := acyc_up (by unfold M3; simp)
theorem t3_part {L : List (Nat × Nat)} (h : Part M3 3 L) : L = T3 := Asc.uniq h.1.asc t3_hok.asc fun u => by
  rw [h.2]; unfold M3 T3; simp; constructor
  · rintro (h | h | h) <;> simp [h]
  · rintro (h | h | h) <;> simp [h]
theorem t3_chain {l : List Nat} {c : Bool} (h : ChainP T3 1 3 l c) : l = [1, 3] ∧ c = true := by
  have h13 : (1, 3) ∈ T3 := by unfold T3; simp
  rcases h with ⟨_, _, h⟩ | ⟨h, i, j, d, e1, e2, _, _, hd, hl⟩
  · exact absurd ⟨1, 3, rfl, rfl, by omega, by omega, .inr (.one h13)⟩ h
  · obtain rfl : i = 1 := by omega
    obtain rfl : j = 3 := by omega
    have h1 : isDist T3 3 1 1 := ⟨⟨3, h13, rfl⟩, fun k hk hw => by
      obtain rfl : k = 0 := by omega
      exact absurd (show 1 = 3 from hw) (by decide)⟩
    obtain rfl := isDist_uniq hd h1
    refine ⟨?_, h⟩
    rw [hl, gp_first (L := T3) (b := 3) (v := 1) (d := 0) (t := 1) (x := (1, 3)) rfl rfl (show isDist T3 3 3 0 from ⟨rfl, fun k hk => absurd hk (Nat.not_lt_zero _)⟩) fun s hs y hy hc => ?_]
    · rfl
    · obtain rfl : s = 0 := by omega
      cases hy
      exact absurd (show 2 = 3 from hc.2.1) (by decide)
theorem t3_link {w0 w : World} {F : List Fact} {K : (Nat → Prop) → World → Prop} {r : Value} {z : Int} (h : LinkP w0 F K T3 3 1 r z w) : r = .pointer none ∧ z = 16 ∧ St w0 w F K := by
  rcases h with ⟨h, _⟩ | ⟨x, y, hx, hy, _, _, _, h⟩
  · exact absurd ⟨⟨by omega, by omega⟩, ⟨by omega, by omega⟩, by omega⟩ h
  · obtain rfl : x = 3 := by omega
    obtain rfl : y = 1 := by omega
    rcases h with ⟨h, _⟩ | ⟨_, _, h1, h2, h3⟩ | ⟨_, _, L', h1, h2, _⟩
    · exact absurd h (by unfold T3; decide)
    · exact ⟨h1, h2, h3⟩
    · exfalso
      have h3 : (3, 1) ∈ L' := (h2 _).2 (by simp)
      have h4 : (1, 3) ∈ L' := (h2 _).2 (by unfold T3; simp)
      exact h1.acyc 3 (.cons h3 (.one h4))
theorem t3_tc {a b : Nat} : TC T3 a b ↔ (a, b) ∈ T3 := by
  constructor
  · intro h
    induction h with
    | one h => exact h
    | @cons a b c h _ ih =>
      unfold T3 at *
      simp only [List.mem_cons, Prod.mk.injEq, List.not_mem_nil, or_false] at *
      omega
  · exact .one
theorem t3_jun : junM T3 1 = 14 := mask_ext fun i => by
  rw [tb_jun t3_hok.inr (by omega), t3_tc]
  constructor
  · rintro (rfl | h)
    · decide
    · unfold T3 at h
      simp only [List.mem_cons, Prod.mk.injEq, List.not_mem_nil, or_false] at h
      have : i = 2 ∨ i = 3 := by omega
      rcases this with rfl | rfl <;> decide
  · intro h
    have hi : i < 4 := by
      rcases Nat.lt_or_ge i 4 with h1 | h1
      · exact h1
      · rw [Nat.testBit_lt_two_pow (Nat.lt_of_lt_of_le (show 14 < 2 ^ 4 by decide) (Nat.pow_le_pow_right (by decide) h1))] at h; cases h
    have : i = 0 ∨ i = 1 ∨ i = 2 ∨ i = 3 := by omega
    rcases this with rfl | rfl | rfl | rfl
    · revert h; decide
    · exact .inl rfl
    · exact .inr (by unfold T3; decide)
    · exact .inr (by unfold T3; decide)
theorem t3_of : ofN [1, 2, 3] = 14 := by decide
theorem tc_unl {L : List (Nat × Nat)} {z : Nat × Nat} {a b : Nat} (h : TC (unl L z) a b) : TC L a b := h.mono fun x hx => (mem_unl.1 hx).1
theorem t3_red : redL T3 T3 = [(1, 3)] := by
  have h1 : ¬ TC (unl T3 (1, 2)) 1 2 := fun h => by
    obtain ⟨y, hy, hk⟩ := h.first
    obtain ⟨hy1, hy2⟩ := mem_unl.1 hy
    rcases hk with rfl | hk
    · exact hy2 rfl
    · have := t3_tc.1 (tc_unl hk)
      unfold T3 at hy1 this
      simp only [List.mem_cons, Prod.mk.injEq, List.not_mem_nil, or_false] at hy1 this
      omega
  have h2 : TC (unl T3 (1, 3)) 1 3 := .cons (b := 2) (mem_unl.2 ⟨by unfold T3; simp, by decide⟩) (.one (mem_unl.2 ⟨by unfold T3; simp, by decide⟩))
  have h3 : ¬ TC (unl T3 (2, 3)) 2 3 := fun h => by
    obtain ⟨y, hy, hk⟩ := h.first
    obtain ⟨hy1, hy2⟩ := mem_unl.1 hy
    unfold T3 at hy1
    simp only [List.mem_cons, Prod.mk.injEq, List.not_mem_nil, or_false] at hy1
    have : y = 3 := by omega
    subst this
    exact hy2 rfl
  unfold redL
  rw [show T3.filter _ = (T3.filter fun x => decide (x = (1, 3))) from List.filter_congr fun x hx => ?_]
  · unfold T3; decide
  · unfold T3 at hx
    simp only [List.mem_cons, List.not_mem_nil, or_false] at hx
    rcases hx with rfl | rfl | rfl
    · simpa using h1
    · simpa using h2
    · simpa using h3
set_option maxHeartbeats 2000000 in
theorem lawake10_any {w0 w : World} {F : List Fact} {K : (Nat → Prop) → World → Prop} (hS : St w0 w F K) (kt : ∀ D w, K D w → DTab w ∧ D 0) :
    Calls Tryd.prog 13 #[] w fun e w' => e = .returned (.bool true) ∧ St w0 w' F K := by
  have KSt := hS.stable
  go_enter Tryd.func13, Tryd.ntmps13
  go_wp2_with (first
    | (go_at_call 53; refine (hnew_any hS kt).mono ?_; rintro e w_ ⟨p, rfl, hS⟩)
    | ((with_reducible show wpList _ _ _ (⟨some 14, _, _, _, _, _⟩ :: _) _ _); refine st_litown hS rfl _ _ _ _ rfl Tryd.underlying25 #[.int .i64 1, .int .i64 2, .int .i64 2, .int .i64 3, .int .i64 1, .int .i64 3] (by kernel_rfl) 2 rfl (by decide) ?_; clear hS; intro gl w_ hS; replace hS := hS.freeze 0 (by decide) rfl))
  obtain ⟨KX, k1, kp, KS, hS2⟩ : ∃ KX : (Nat → Prop) → World → Prop, (∀ D w, KX D w → K D w) ∧ (∀ D w, KX D w → Sl w D 2 (.slice (some ⟨gl, 0, none⟩) 3 3) 3 (pcells M3)) ∧ Stable KX ∧ St w0 w_ F fun D w => KX D w ∧ IsH w D p [] := ⟨fun D w => K D w ∧ Sl w D 2 (.slice (some ⟨gl, 0, none⟩) 3 3) 3 (pcells M3), fun _ _ h => h.1, fun _ _ h => h.2, KSt.and (stable_sl (by decide)), hS.mono ((KSt.and (stable_sl (by decide))).and stable_isH) fun D w h => ⟨⟨h.1.1, h.2⟩, h.1.2⟩⟩
  clear hS
  have hS := hS2
  clear hS2
  have HNX : Hid (∀ (j : Nat) (x : Nat × Nat) (L' : List (Nat × Nat)), M3[j]? = some x → Part M3 j L' → ∀ (F : List Fact) (K : (Nat → Prop) → World → Prop) (w : World) (r : Value) (z : Int), LinkP w0 F K L' (x.1 : Nat) (x.2 : Nat) r z w → z = 0 ∧ ∃ L'', Part M3 (j + 1) L'' ∧ St w0 w F fun D w => K D w ∧ IsH w D r L'') := Lib.hid fun j x L' hx hP F K w r z h => by
    obtain ⟨h1, L'', h2, h3, h4⟩ := h.next hx hP.2 (by unfold M3; decide) (by unfold M3; simp) m3_acyc
    exact ⟨h1, L'', ⟨h2, h3⟩, h4⟩
  have hP0 : Part M3 0 [] := ⟨HOK.nil, by simp⟩
  go_loopw [1, 16] (fun v i wr => ∃ (j : Nat) (p : Value) (L' : List (Nat × Nat)), i = .int .i64 (j : Nat) ∧ p = v ∧ j ≤ 3 ∧ Hid (Part M3 j L') ∧ St w0 wr F fun D w => KX D w ∧ IsH w D p L') (fun _ i _ => 3 - (intOf i).toNat)
  case atStart => exact ⟨0, p, [], rfl, rfl, by omega, Lib.hid hP0, hS⟩
  case round =>
    clear hS hP0
    obtain ⟨j, p, L', rfl, rfl, hj, HP, hS⟩ := hrel
    by_cases hlj : j < 3
    · obtain ⟨f1, f2⟩ := pcells_at M3 j hlj
      have HNY := Lib.hid (HNX.out j _ L' (getD_at (0, 0) hlj) HP.out)
      have HLL : Hid (L'.length ≤ 900000) := Lib.hid (by have := HP.out.len; have e : M3.length = 3 := rfl; omega)
      generalize M3.getD j (0, 0) = z at *
      obtain ⟨za, zb⟩ := z
      dsimp only at f1 f2 HNY
      have kp2 : ∀ D w, (KX D w ∧ IsH w D p L') → Sl w D 2 (.slice (some ⟨gl, 0, none⟩) 3 3) 3 (pcells M3) := fun D w h => kp D w h.1
      go_wp2_with (first
        | ((with_reducible show wpList _ _ _ (⟨_, .binOp _ _ _ _ _, _, _, _, _⟩ :: _) _ _); (first | ((with_reducible show wpList _ _ _ (⟨_, .binOp .lss _ _ _ _, _, _, _, _⟩ :: _) _ _); refine st_lss rfl _ _ _ _ rfl _ _ _ rfl rfl (fun h_ => ?_) (fun h_ => ?_)) | ((with_reducible show wpList _ _ _ (⟨_, .binOp .leq _ _ _ _, _, _, _, _⟩ :: _) _ _); refine st_leq rfl _ _ _ _ rfl _ _ _ rfl rfl (fun h_ => ?_) (fun h_ => ?_)) | ((with_reducible show wpList _ _ _ (⟨_, .binOp .gtr _ _ _ _, _, _, _, _⟩ :: _) _ _); refine st_gtr rfl _ _ _ _ rfl _ _ _ rfl rfl (fun h_ => ?_) (fun h_ => ?_)) | ((with_reducible show wpList _ _ _ (⟨_, .binOp .geq _ _ _ _, _, _, _, _⟩ :: _) _ _); refine st_geq rfl _ _ _ _ rfl _ _ _ rfl rfl (fun h_ => ?_) (fun h_ => ?_)) | ((with_reducible show wpList _ _ _ (⟨_, .binOp .eql _ _ _ _, _, _, _, _⟩ :: _) _ _); refine st_eql rfl _ _ _ _ rfl _ _ _ rfl rfl (fun h_ => ?_) (fun h_ => ?_)) | ((with_reducible show wpList _ _ _ (⟨_, .binOp .neq _ _ _ _, _, _, _, _⟩ :: _) _ _); refine st_neq rfl _ _ _ _ rfl _ _ _ rfl rfl (fun h_ => ?_) (fun h_ => ?_))) <;> go_prune)
        | ((with_reducible show wpList _ _ _ (⟨_, .indexAddr _ _ _, _, _, _, _⟩ :: _) _ _); refine st_iaddr2 hS rfl _ _ _ rfl _ rfl rfl (by assumption) Tryd.underlying25 (by kernel_rfl) (by first | assumption | omega) _ _ (by assumption) (by assumption) ?_; intro b_ j_ hc0_ hc1_)
        | ((with_reducible show wpList _ _ _ (⟨some 3, _, _, _, _, _⟩ :: _) _ _); refine st_alloc hS rfl _ rfl (by kernel_rfl) ?_; clear hS; intro g4 w_ hS; (try simp only [Act.put, Act.eval, List.set_cons_zero, List.set_cons_succ, List.setIfInBounds_toArray, Array.getD_eq_getD_getElem?, List.getElem?_toArray, List.getElem?_cons_succ, List.getElem?_cons_zero, Option.getD_some, Value.cells] at hS))
        | ((with_reducible show wpList _ _ _ (⟨_, .store _ _ _, _, _, _, _⟩ :: _) _ _); first | (refine st_store hS 0 rfl _ _ _ rfl _ _ rfl rfl _ _ rfl (by kernel_rfl) (by kernel_rfl) (by kernel_rfl) ?_; clear hS; intro w_ hS; (try simp only [Act.put, Act.eval, List.set_cons_zero, List.set_cons_succ, List.setIfInBounds_toArray, Array.getD_eq_getD_getElem?, List.getElem?_toArray, List.getElem?_cons_succ, List.getElem?_cons_zero, Option.getD_some, Value.cells] at hS)) | (refine st_store hS 1 rfl _ _ _ rfl _ _ rfl rfl _ _ rfl (by kernel_rfl) (by kernel_rfl) (by kernel_rfl) ?_; clear hS; intro w_ hS; (try simp only [Act.put, Act.eval, List.set_cons_zero, List.set_cons_succ, List.setIfInBounds_toArray, Array.getD_eq_getD_getElem?, List.getElem?_toArray, List.getElem?_cons_succ, List.getElem?_cons_zero, Option.getD_some, Value.cells] at hS)) | (refine st_store hS 2 rfl _ _ _ rfl _ _ rfl rfl _ _ rfl (by kernel_rfl) (by kernel_rfl) (by kernel_rfl) ?_; clear hS; intro w_ hS; (try simp only [Act.put, Act.eval, List.set_cons_zero, List.set_cons_succ, List.setIfInBounds_toArray, Array.getD_eq_getD_getElem?, List.getElem?_toArray, List.getElem?_cons_succ, List.getElem?_cons_zero, Option.getD_some, Value.cells] at hS)) | (refine st_store hS 3 rfl _ _ _ rfl _ _ rfl rfl _ _ rfl (by kernel_rfl) (by kernel_rfl) (by kernel_rfl) ?_; clear hS; intro w_ hS; (try simp only [Act.put, Act.eval, List.set_cons_zero, List.set_cons_succ, List.setIfInBounds_toArray, Array.getD_eq_getD_getElem?, List.getElem?_toArray, List.getElem?_cons_succ, List.getElem?_cons_zero, Option.getD_some, Value.cells] at hS)) | (refine st_cstore hS 0 rfl _ _ _ rfl _ _ _ rfl rfl rfl (by first | (simp; done) | (simp; omega) | exact of_decide_eq_true (by kernel_rfl)) rfl (by first | rfl | assumption) (by kernel_rfl) ?_; clear hS; intro w_ hS; (try simp only [Act.put, Act.eval, List.set_cons_zero, List.set_cons_succ, List.setIfInBounds_toArray, Array.getD_eq_getD_getElem?, List.getElem?_toArray, List.getElem?_cons_succ, List.getElem?_cons_zero, Option.getD_some, Value.cells] at hS)) | (refine st_cstore hS 1 rfl _ _ _ rfl _ _ _ rfl rfl rfl (by first | (simp; done) | (simp; omega) | exact of_decide_eq_true (by kernel_rfl)) rfl (by first | rfl | assumption) (by kernel_rfl) ?_; clear hS; intro w_ hS; (try simp only [Act.put, Act.eval, List.set_cons_zero, List.set_cons_succ, List.setIfInBounds_toArray, Array.getD_eq_getD_getElem?, List.getElem?_toArray, List.getElem?_cons_succ, List.getElem?_cons_zero, Option.getD_some, Value.cells] at hS)) | (refine st_cstore hS 2 rfl _ _ _ rfl _ _ _ rfl rfl rfl (by first | (simp; done) | (simp; omega) | exact of_decide_eq_true (by kernel_rfl)) rfl (by first | rfl | assumption) (by kernel_rfl) ?_; clear hS; intro w_ hS; (try simp only [Act.put, Act.eval, List.set_cons_zero, List.set_cons_succ, List.setIfInBounds_toArray, Array.getD_eq_getD_getElem?, List.getElem?_toArray, List.getElem?_cons_succ, List.getElem?_cons_zero, Option.getD_some, Value.cells] at hS)) | (refine st_cstore hS 3 rfl _ _ _ rfl _ _ _ rfl rfl rfl (by first | (simp; done) | (simp; omega) | exact of_decide_eq_true (by kernel_rfl)) rfl (by first | rfl | assumption) (by kernel_rfl) ?_; clear hS; intro w_ hS; (try simp only [Act.put, Act.eval, List.set_cons_zero, List.set_cons_succ, List.setIfInBounds_toArray, Array.getD_eq_getD_getElem?, List.getElem?_toArray, List.getElem?_cons_succ, List.getElem?_cons_zero, Option.getD_some, Value.cells] at hS)))
        | (go_at_call 44; refine (hlink_any p L' (za : Nat) (zb : Nat) HP.out.1 HLL.out hS (fun D w h => h.2) (fun D w h => kt D w (k1 D w h.1))).mono ?_; rintro e w_ ⟨r, z, rfl, hP⟩; obtain ⟨rfl, L'', hP2, hS⟩ := HNY.out _ _ _ _ _ hP; replace hP2 := Lib.hid hP2; clear hP; obtain ⟨qr, _, rfl, -⟩ := hS.ro.2)
        | ((with_reducible show wpList _ _ _ (⟨_, .load _ _, _, _, _, _⟩ :: _) _ _); first | (refine st_cell hS 0 rfl _ _ rfl _ _ rfl _ _ rfl (by decide +kernel) _ (by first | assumption | rfl) ?_) | (refine st_cell hS 1 rfl _ _ rfl _ _ rfl _ _ rfl (by decide +kernel) _ (by first | assumption | rfl) ?_) | (refine st_cell hS 2 rfl _ _ rfl _ _ rfl _ _ rfl (by decide +kernel) _ (by first | assumption | rfl) ?_) | (refine st_cell hS 3 rfl _ _ rfl _ _ rfl _ _ rfl (by decide +kernel) _ (by first | assumption | rfl) ?_) | (refine st_cell hS 4 rfl _ _ rfl _ _ rfl _ _ rfl (by decide +kernel) _ (by first | assumption | rfl) ?_) | (refine st_cell hS 5 rfl _ _ rfl _ _ rfl _ _ rfl (by decide +kernel) _ (by first | assumption | rfl) ?_) | (refine st_cell hS 6 rfl _ _ rfl _ _ rfl _ _ rfl (by decide +kernel) _ (by first | assumption | rfl) ?_) | (refine st_cell hS 7 rfl _ _ rfl _ _ rfl _ _ rfl (by decide +kernel) _ (by first | assumption | rfl) ?_)))
      exact ⟨⟨j + 1, _, L'', by go_num, rfl, hlj, hP2, (hS.sub (List.sublist_cons_self _ _)).mono (KS.and stable_isH) fun D w h => ⟨h.1.1, h.2⟩⟩, by simp [intOf]; omega⟩
    · obtain rfl : j = 3 := by omega
      rw [t3_part HP.out] at hS
      obtain ⟨KY, ky1, ky2, hS2⟩ : ∃ KY : (Nat → Prop) → World → Prop, (∀ D w, KY D w → K D w) ∧ (∀ D w, KY D w → IsH w D p T3) ∧ St w0 wr F KY := ⟨_, fun D w h => k1 D w h.1, fun D w h => h.2, hS⟩
      clear hS
      have hS := hS2
      clear hS2 HNX HP k1 kp KS
      have HCH := Lib.hid (fun l c (h : ChainP T3 1 3 l c) => t3_chain h)
      have HLK := Lib.hid (fun (w0 w : World) (F : List Fact) (K : (Nat → Prop) → World → Prop) r z (h : LinkP w0 F K T3 3 1 r z w) => t3_link h)
      have H3 := Lib.hid t3_hok
      have HJ := Lib.hid (show (if (1 : Int) ≤ 1 ∧ (1 : Int) ≤ 63 then junM T3 (1 : Int).toNat else 0) = 14 by rw [if_pos (by omega)]; exact t3_jun)
      have HO := Lib.hid t3_of
      have HR := Lib.hid t3_red
      have HL3 : Hid (T3.length ≤ 900000) := Lib.hid (by decide)
      go_wp2_with (first
        | ((with_reducible show wpList _ _ _ (⟨_, .binOp _ _ _ _ _, _, _, _, _⟩ :: _) _ _); (first | ((with_reducible show wpList _ _ _ (⟨_, .binOp .lss _ _ _ _, _, _, _, _⟩ :: _) _ _); refine st_lss rfl _ _ _ _ rfl _ _ _ rfl rfl (fun h_ => ?_) (fun h_ => ?_)) | ((with_reducible show wpList _ _ _ (⟨_, .binOp .leq _ _ _ _, _, _, _, _⟩ :: _) _ _); refine st_leq rfl _ _ _ _ rfl _ _ _ rfl rfl (fun h_ => ?_) (fun h_ => ?_)) | ((with_reducible show wpList _ _ _ (⟨_, .binOp .gtr _ _ _ _, _, _, _, _⟩ :: _) _ _); refine st_gtr rfl _ _ _ _ rfl _ _ _ rfl rfl (fun h_ => ?_) (fun h_ => ?_)) | ((with_reducible show wpList _ _ _ (⟨_, .binOp .geq _ _ _ _, _, _, _, _⟩ :: _) _ _); refine st_geq rfl _ _ _ _ rfl _ _ _ rfl rfl (fun h_ => ?_) (fun h_ => ?_)) | ((with_reducible show wpList _ _ _ (⟨_, .binOp .eql _ _ _ _, _, _, _, _⟩ :: _) _ _); refine st_eql rfl _ _ _ _ rfl _ _ _ rfl rfl (fun h_ => ?_) (fun h_ => ?_)) | ((with_reducible show wpList _ _ _ (⟨_, .binOp .neq _ _ _ _, _, _, _, _⟩ :: _) _ _); refine st_neq rfl _ _ _ _ rfl _ _ _ rfl rfl (fun h_ => ?_) (fun h_ => ?_))) <;> go_prune)
        | (go_at_call 17; refine (hchain_any (ky2 _ _ hS.ro) H3.out HL3.out 1 3).mono ?_; rintro e w_ ⟨v, c, l, rfl, hp, hll, hs⟩; obtain ⟨rfl, rfl⟩ := HCH.out _ _ hp; replace hS := hS.new hs.below (.own v 3 1 2 (ints (natInts [1, 3]))) (hs.own 0 rfl); clear hs hp hll)
        | (go_at_call 44; refine (hlink_any p T3 3 1 H3.out HL3.out hS ky2 (fun D w h => kt D w (ky1 D w h))).mono ?_; rintro e w_ ⟨r, z, rfl, hP⟩; obtain ⟨rfl, rfl, hS⟩ := HLK.out _ _ _ _ _ _ hP; clear hP)
        | (go_at_call 21; refine (hjun_any (ky2 _ _ hS.ro) H3.out 1).mono ?_; rintro r_ w_ ⟨_, rfl, hj1, hb_⟩; rw [HJ.out] at hj1; replace hS := hS.ret2 hb_ stable_set hj1; clear hb_ hj1)
        | ((with_reducible show wpList _ _ _ (⟨some 49, _, _, _, _, _⟩ :: _) _ _); refine st_litown hS rfl _ _ _ _ rfl Tryd.underlying31 #[.int .i64 1, .int .i64 2, .int .i64 3] (by kernel_rfl) 1 rfl (by decide) ?_; clear hS; intro g49 w_ hS)
        | (go_at_call 46; refine (of_any _ [1, 2, 3] _ _ (Sl.of_own (hS.own 0 rfl))).mono ?_; rintro r_ w_ ⟨_, rfl, hO1, hb_⟩; rw [HO.out] at hO1; replace hS := hS.ret hb_ stable_set hO1; clear hb_ hO1)
        | (go_at_call 22; refine (equal_any _ _ 14 14 _ _ _ hS.ro.1.2 hS.ro.2).mono ?_; rintro r_ w_ ⟨_, rfl, rfl, hb_⟩; rw [show ((14 : Nat) == 14) = true from rfl]; replace hS := hS.ext hb_; clear hb_)
        | ((with_reducible show wpList _ _ _ (⟨some 54, _, _, _, _, _⟩ :: _) _ _); refine st_litw hS rfl _ _ _ _ rfl Tryd.underlying31 #[.int .i64 1, .int .i64 3] (by kernel_rfl) 1 rfl (by decide) ?_; clear hS; intro g54 w_ hS)
        | (go_at_call 19; refine (sleq_any _ _ [1, 3] [1, 3] _ _ _ (Sl.of_own (hS.own 2 rfl)) (Sl.of_own (hS.own 0 rfl))).mono ?_; rintro r_ w_ ⟨_, rfl, rfl, hb_⟩; rw [show (([1, 3] : List Int) == [1, 3]) = true from rfl]; replace hS := hS.ext hb_; clear hb_)
        | (go_at_call 32; refine (hred_any (ky2 _ _ hS.ro.1.1) (kt _ _ (ky1 _ _ hS.ro.1.1)).1 H3.out HL3.out).mono ?_; rintro e w_ ⟨v2, rfl, hs⟩; rw [HR.out] at hs; replace hS := hS.new hs.below (.own v2 50 2 1 (pcells [(1, 3)])) (hs.own 0 rfl); clear hs)
        | ((with_reducible show wpList _ _ _ (⟨some 64, _, _, _, _, _⟩ :: _) _ _); refine st_litw hS rfl _ _ _ _ rfl Tryd.underlying25 #[.int .i64 1, .int .i64 3] (by kernel_rfl) 2 rfl (by decide) ?_; clear hS; intro g64 w_ hS)
        | (go_at_call 30; refine (peq_any (L := [(1, 3)]) (M := [(1, 3)]) (Sl.of_own (hS.own 1 rfl)) (Sl.of_own (hS.own 0 rfl)) (by decide)).mono ?_; rintro r_ w_ ⟨_, rfl, rfl, hb_⟩; rw [show decide (([(1, 3)] : List (Nat × Nat)) = [(1, 3)]) = true from rfl]; replace hS := hS.ext hb_; clear hb_))
      go_ret
      exact ⟨rfl, (hS.sub (.cons _ (.cons _ (.cons _ (.cons _ (.cons _ (List.Sublist.refl _))))))).mono KSt fun D w h => ky1 D w h.1.1⟩
end Go.Proofs.YtmlkgaiphpimiaaDoor
namespace Go.Proofs.YtmlkgaiphpimiaaDoor
open Go.RowKit
attribute [local go_sem ↓] Go.wp_at_zero Go.wp_at_succ
set_option maxRecDepth 20000
set_option exponentiation.threshold 5000

/-- a change: a link is taken away, or made -/
structure OpD where
  away : Bool
  a : Int
  b : Int
def OpD.ok (x : OpD) : Prop := (-128 ≤ x.a ∧ x.a ≤ 127) ∧ -128 ≤ x.b ∧ x.b ≤ 127
def ocells (l : List OpD) : List Value := l.flatMap fun x => [.bool x.away, .int .i8 x.a, .int .i8 x.b]
theorem ocells_at : ∀ (l : List OpD) (k : Nat), k < l.length → ∃ x, l[k]? = some x ∧ (ocells l)[k * 3 + 0]? = some (.bool x.away) ∧ (ocells l)[k * 3 + 1]? = some (.int .i8 x.a) ∧ (ocells l)[k * 3 + 2]? = some (.int .i8 x.b)
  | x :: l, 0, _ => ⟨x, rfl, rfl, rfl, rfl⟩
  | x :: l, k + 1, h => by
    obtain ⟨y, h1, h2, h3, h4⟩ := ocells_at l k (by simpa using h)
    refine ⟨y, by simpa using h1, ?_⟩
    have e : ocells (x :: l) = .bool x.away :: .int .i8 x.a :: .int .i8 x.b :: ocells l := rfl
    rw [e, show (k + 1) * 3 + 0 = k * 3 + 0 + 1 + 1 + 1 by omega, show (k + 1) * 3 + 1 = k * 3 + 1 + 1 + 1 + 1 by omega, show (k + 1) * 3 + 2 = k * 3 + 2 + 1 + 1 + 1 by omega]
    simp only [List.getElem?_cons_succ]
    exact ⟨h2, h3, h4⟩
theorem RUnlinkP.none1 {w0 w' : World} {pv : Value} {L : List (Nat × Nat)} {a b : Int} {e : Ending} (h : RUnlinkP w0 pv L a b e w') (hn : ¬ twoR a b) : e = .returned (.tuple #[pv, .int .i64 1]) ∧ Below w0.heap.size w0 w' := by
  rcases h with ⟨_, h⟩ | ⟨x, y, rfl, rfl, h1, h2, h3, _⟩
  · exact h
  · exact absurd ⟨⟨by omega, by omega⟩, ⟨by omega, by omega⟩, by omega⟩ hn
theorem RUnlinkP.out {w0 w' : World} {pv : Value} {L : List (Nat × Nat)} {x y : Nat} {e : Ending} (h : RUnlinkP w0 pv L (x : Nat) (y : Nat) e w') (ht : twoR (x : Nat) (y : Nat)) (hn : (x, y) ∉ L) : e = .returned (.tuple #[pv, .int .i64 4]) ∧ Below w0.heap.size w0 w' := by
  rcases h with ⟨h, _⟩ | ⟨a, b, h1, h2, _, _, _, h⟩
  · exact absurd ht h
  · obtain rfl : x = a := by omega
    obtain rfl : y = b := by omega
    rcases h with ⟨_, h⟩ | ⟨h, _⟩
    · exact h
    · exact absurd h hn
theorem RLinkP.none1 {w0 w' : World} {pv : Value} {L : List (Nat × Nat)} {a b : Int} {e : Ending} (h : RLinkP w0 pv L a b e w') (hn : ¬ twoR a b) : e = .returned (.tuple #[pv, .int .i64 1]) ∧ Below w0.heap.size w0 w' := by
  rcases h with ⟨_, h⟩ | ⟨x, y, rfl, rfl, h1, h2, h3, _⟩
  · exact h
  · exact absurd ⟨⟨by omega, by omega⟩, ⟨by omega, by omega⟩, by omega⟩ hn
theorem RLinkP.some1 {w0 w' : World} {pv : Value} {L : List (Nat × Nat)} {x y : Nat} {e : Ending} (h : RLinkP w0 pv L (x : Nat) (y : Nat) e w') (ht : twoR (x : Nat) (y : Nat)) :
    ((x, y) ∈ L ∧ e = .returned (.tuple #[pv, .int .i64 5]) ∧ Below w0.heap.size w0 w') ∨ ((x, y) ∉ L ∧ TC L y x ∧ e = .returned (.tuple #[pv, .int .i64 16]) ∧ Below w0.heap.size w0 w') ∨
     ((x, y) ∉ L ∧ ¬ TC L y x ∧ ∃ v, e = .returned (.tuple #[v, .int .i64 0]) ∧ St w0 w' [.own v 50 2 (L.length + 1) (pcells (ins L (x, y)))] fun _ _ => True) := by
  rcases h with ⟨h, _⟩ | ⟨a, b, h1, h2, _, _, _, h⟩
  · exact absurd ht h
  · obtain rfl : x = a := by omega
    obtain rfl : y = b := by omega
    exact h
theorem acyc_app {L : List (Nat × Nat)} (hA : Acyc L) {x y : Nat} (hne : x ≠ y) : Acyc (L ++ [(x, y)]) ↔ ¬ TC L y x := by
  have h := acyc_ins (L' := L ++ [(x, y)]) (a := x) (b := y) hA fun u => by rw [List.mem_append, List.mem_singleton, Or.comm]
  rw [h]
  exact ⟨fun h k => h (.inr k), fun h k => h (k.resolve_left fun e => hne e.symm)⟩
/-- what two calls of Link, the program's and the specification's, leave: the same error, or the same links -/
theorem link_both {w0 w w1 : World} {F : List Fact} {K : (Nat → Prop) → World → Prop} {L : List (Nat × Nat)} {a b : Int} {r pv : Value} {z : Int} {e : Ending} (hH : HOK L) (h : LinkP w0 F K L a b r z w) (k : RLinkP w pv L a b e w1) :
    (r = .pointer none ∧ z ≠ 0 ∧ e = .returned (.tuple #[pv, .int .i64 z]) ∧ St w0 w1 F K) ∨
    (z = 0 ∧ ∃ v L', e = .returned (.tuple #[v, .int .i64 0]) ∧ HOK L' ∧ L'.length ≤ L.length + 1 ∧ St w0 w1 F fun D w => (K D w ∧ IsH w D r L') ∧ Sl w D 2 v L'.length (pcells L')) := by
  rcases h with ⟨hn, rfl, rfl, hS⟩ | ⟨x, y, rfl, rfl, hx, hy, hne, h⟩
  · obtain ⟨h1, h2⟩ := k.none1 hn
    exact .inl ⟨rfl, by decide, h1, hS.ext h2⟩
  · have ht : twoR (x : Nat) (y : Nat) := ⟨⟨by omega, by omega⟩, ⟨by omega, by omega⟩, by omega⟩
    rcases k.some1 ht with ⟨k1, k2, k3⟩ | ⟨k1, k2, k3, k4⟩ | ⟨k1, k2, v, k3, k4⟩ <;> rcases h with ⟨h1, h2, h3, h4⟩ | ⟨h1, h2, h3, h4, h5⟩ | ⟨h1, h2, L', h3, h4, h5⟩
    · exact .inl ⟨h2, by omega, by rw [h3]; exact k2, h4.ext k3⟩
    · exact absurd k1 h1
    · exact absurd k1 h1
    · exact absurd h1 k1
    · exact .inl ⟨h3, by omega, by rw [h4]; exact k3, h5.ext k4⟩
    · exact absurd k2 ((acyc_app hH.acyc hne).1 (h3.acyc.sub fun u hu => (h4 u).2 hu))
    · exact absurd h1 k1
    · exact absurd ((acyc_app hH.acyc hne).2 k2) h2
    · have e1 : L' = ins L (x, y) := Asc.uniq h3.asc (ins_asc hH.asc k1) fun u => by rw [h4, mem_ins, List.mem_append, List.mem_singleton, Or.comm]
      subst e1
      refine .inr ⟨h2, v, _, k3, h3, by rw [ins_len]; omega, ?_⟩
      have hn := (h5.new k4.below (.own v 50 2 (L.length + 1) (pcells (ins L (x, y)))) (k4.own 0 rfl)).freeze 0 (by decide) rfl
      rw [ins_len]
      exact hn
theorem unlink_both {w0 w w1 : World} {F : List Fact} {K : (Nat → Prop) → World → Prop} {L : List (Nat × Nat)} {a b : Int} {r pv : Value} {z : Int} {e : Ending} (hH : HOK L) (h : UnlinkP w0 F K L a b r z w) (k : RUnlinkP w pv L a b e w1) :
    (r = .pointer none ∧ z ≠ 0 ∧ e = .returned (.tuple #[pv, .int .i64 z]) ∧ St w0 w1 F K) ∨
    (z = 0 ∧ ∃ v L', e = .returned (.tuple #[v, .int .i64 0]) ∧ HOK L' ∧ L'.length ≤ L.length + 1 ∧ St w0 w1 F fun D w => (K D w ∧ IsH w D r L') ∧ Sl w D 2 v L'.length (pcells L')) := by
  rcases h with ⟨hn, rfl, rfl, hS⟩ | ⟨x, y, rfl, rfl, hx, hy, hne, h⟩
  · obtain ⟨h1, h2⟩ := k.none1 hn
    exact .inl ⟨rfl, by decide, h1, hS.ext h2⟩
  · have ht : twoR (x : Nat) (y : Nat) := ⟨⟨by omega, by omega⟩, ⟨by omega, by omega⟩, by omega⟩
    rcases h with ⟨h1, h2, h3, h4⟩ | ⟨h1, h2, h3⟩
    · obtain ⟨k1, k2⟩ := k.out ht h1
      exact .inl ⟨h2, by omega, by rw [h3]; exact k1, h4.ext k2⟩
    · obtain ⟨v, k1, k2⟩ := RUnlinkP.mem (x := (x, y)) k h1 ⟨hx, hy⟩ hne
      refine .inr ⟨h2, v, _, k1, hH.unl (x, y), by have := unl_len2 L (x, y); omega, ?_⟩
      exact (h3.new k2.below (.own v 50 2 (unl L (x, y)).length (pcells (unl L (x, y)))) (k2.own 0 rfl)).freeze 0 (by decide) rfl
theorem LinkP.known {w0 w : World} {F : List Fact} {K : (Nat → Prop) → World → Prop} {L : List (Nat × Nat)} {a b : Int} {r : Value} {z : Int} (h : LinkP w0 F K L a b r z w) : K (Free F) w := by
  rcases h with ⟨_, _, _, hS⟩ | ⟨x, y, _, _, _, _, _, ⟨_, _, _, hS⟩ | ⟨_, _, _, _, hS⟩ | ⟨_, _, L', _, _, hS⟩⟩
  · exact hS.ro
  · exact hS.ro
  · exact hS.ro
  · exact hS.ro.1
theorem UnlinkP.known {w0 w : World} {F : List Fact} {K : (Nat → Prop) → World → Prop} {L : List (Nat × Nat)} {a b : Int} {r : Value} {z : Int} (h : UnlinkP w0 F K L a b r z w) : K (Free F) w := by
  rcases h with ⟨_, _, _, hS⟩ | ⟨x, y, _, _, _, _, _, ⟨_, _, _, hS⟩ | ⟨_, _, hS⟩⟩
  · exact hS.ro
  · exact hS.ro
  · exact hS.ro.1
theorem rng3 {w : World} {g i : Nat} {a b c : Value} (h0 : w.cell? ⟨g, i + 0, none⟩ = some a) (h1 : w.cell? ⟨g, i + 1, none⟩ = some b) (h2 : w.cell? ⟨g, i + 2, none⟩ = some c) : w.rangeAt g i [a, b, c] := fun j v hj => by
  match j, hj with
  | 0, hj => obtain rfl := Option.some.inj (show some _ = some v from hj); exact h0
  | 1, hj => obtain rfl := Option.some.inj (show some _ = some v from hj); exact h1
  | 2, hj => obtain rfl := Option.some.inj (show some _ = some v from hj); exact h2
  | j + 3, hj => simp at hj
theorem run_conv8 {w : World} {n : Int} (h : -128 ≤ n ∧ n ≤ 127) : (convert 85 3 (.int .i8 n)).run Tryd.prog w = .ok (.int .i64 n) w := by
  go_simp
  exact IntWalk.i64_in _ (by omega)
set_option maxHeartbeats 2000000 in
theorem lplay_any {w0 w : World} {F : List Fact} {K : (Nat → Prop) → World → Prop} (pv : Value) (ops : List OpD) (hO : ∀ x ∈ ops, x.ok) (hS : St w0 w F K) (kt : ∀ D w, K D w → DTab w ∧ D 0) (kp : ∀ D w, K D w → Sl w D 3 pv ops.length (ocells ops)) :
    Calls Tryd.prog 29 #[pv] w fun e w' => ∃ (p v : Value) (L : List (Nat × Nat)), e = .returned (.tuple #[p, v]) ∧ HOK L ∧ L.length ≤ 24 ∧ St w0 w' F fun D w => (K D w ∧ Sl w D 2 v L.length (pcells L)) ∧ IsH w D p L := by
  obtain ⟨A, c, rfl, hc1, _⟩ := (kp _ _ hS.ro).shape
  have KSt := hS.stable
  obtain ⟨m, hm⟩ : ∃ m, m = min ops.length 24 := ⟨_, rfl⟩
  have hmin : min ((ops.length : Nat) : Int) 24 = (m : Int) := by omega
  have hm1 : m ≤ ops.length ∧ m ≤ 24 ∧ m ≤ c := by omega
  have HOK0 := Lib.hid hO
  clear hm hO
  go_enter Tryd.func29, Tryd.ntmps29
  go_wp2_with (first
    | (go_at_call 53; refine (hnew_any hS kt).mono ?_; rintro e w_ ⟨p, rfl, hS⟩)
    | ((with_reducible show wpList _ _ _ (⟨some 19, _, _, _, _, _⟩ :: _) _ _); refine BigFrame.wpList_want rfl fun _ hK => opw_slh rfl Tryd.underlying47 ⟨3, by kernel_rfl⟩ rfl rfl hm1.2.2 (hK _ _ ?_)))
  obtain ⟨KX, kx, hS2⟩ : ∃ KX : (Nat → Prop) → World → Prop, (∀ D w, KX D w → (K D w ∧ Sl w D 2 (.slice none 0 0) 0 (pcells [])) ∧ IsH w D p []) ∧ St w0 w_ F KX := ⟨fun D w => (K D w ∧ Sl w D 2 (.slice none 0 0) 0 (pcells [])) ∧ IsH w D p [], fun _ _ h => h, hS.mono ((KSt.and (stable_sl (by decide))).and stable_isH) fun D w h => ⟨⟨h.1, Sl.none_⟩, h.2⟩⟩
  clear hS
  have hS := hS2
  clear hS2
  have kq : ∀ D w, K D w → Sl w D 3 (.slice A m c) m ((ocells ops).take (m * 3)) := fun D w h => slc_take (kp D w h) hm1.1
  go_loopw [4, 5, 21] (fun hv wv i wr => ∃ (j : Nat) (p pv : Value) (L : List (Nat × Nat)) (KX : (Nat → Prop) → World → Prop), i = .int .i64 (j : Nat) ∧ p = hv ∧ pv = wv ∧ j ≤ m ∧ L.length ≤ j ∧ Hid (HOK L) ∧ (∀ D w, KX D w → (K D w ∧ Sl w D 2 pv L.length (pcells L)) ∧ IsH w D p L) ∧ St w0 wr F KX) (fun _ _ i _ => m - (intOf i).toNat)
  case atStart => exact ⟨0, p, _, [], KX, rfl, rfl, rfl, by omega, by simp, Lib.hid HOK.nil, kx, hS⟩
  case round =>
    clear hS kx KX
    obtain ⟨j, p, pv, L, KX, rfl, rfl, rfl, hj, hLj, HO, kk, hS⟩ := hrel
    have hlL : L.length ≤ 900000 := by omega
    by_cases hlj : j < m
    · obtain ⟨x, hx, f0, f1, f2⟩ := ocells_at ops j (by omega)
      have hxo := HOK0.out x (List.mem_of_getElem? hx)
      have g0 : ((ocells ops).take (m * 3))[j * 3 + 0]? = some (.bool x.away) := by rw [List.getElem?_take, if_pos (by omega)]; exact f0
      have g1 : ((ocells ops).take (m * 3))[j * 3 + 1]? = some (.int .i8 x.a) := by rw [List.getElem?_take, if_pos (by omega)]; exact f1
      have g2 : ((ocells ops).take (m * 3))[j * 3 + 2]? = some (.int .i8 x.b) := by rw [List.getElem?_take, if_pos (by omega)]; exact f2
      have KSX := hS.stable
      obtain ⟨aw, xa, xb⟩ := x
      obtain ⟨hxa, hxb⟩ := hxo
      dsimp only at g0 g1 g2 hxa hxb
      have G0 := Lib.hid g0
      have G1 := Lib.hid g1
      have G2 := Lib.hid g2
      clear hx f0 f1 f2 g0 g1 g2
      go_wp2_with (first
        | ((with_reducible show wpList _ _ _ (⟨_, .binOp _ _ _ _ _, _, _, _, _⟩ :: _) _ _); (first | ((with_reducible show wpList _ _ _ (⟨_, .binOp .lss _ _ _ _, _, _, _, _⟩ :: _) _ _); refine st_lss rfl _ _ _ _ rfl _ _ _ rfl rfl (fun h_ => ?_) (fun h_ => ?_)) | ((with_reducible show wpList _ _ _ (⟨_, .binOp .leq _ _ _ _, _, _, _, _⟩ :: _) _ _); refine st_leq rfl _ _ _ _ rfl _ _ _ rfl rfl (fun h_ => ?_) (fun h_ => ?_)) | ((with_reducible show wpList _ _ _ (⟨_, .binOp .gtr _ _ _ _, _, _, _, _⟩ :: _) _ _); refine st_gtr rfl _ _ _ _ rfl _ _ _ rfl rfl (fun h_ => ?_) (fun h_ => ?_)) | ((with_reducible show wpList _ _ _ (⟨_, .binOp .geq _ _ _ _, _, _, _, _⟩ :: _) _ _); refine st_geq rfl _ _ _ _ rfl _ _ _ rfl rfl (fun h_ => ?_) (fun h_ => ?_)) | ((with_reducible show wpList _ _ _ (⟨_, .binOp .eql _ _ _ _, _, _, _, _⟩ :: _) _ _); refine st_eql rfl _ _ _ _ rfl _ _ _ rfl rfl (fun h_ => ?_) (fun h_ => ?_)) | ((with_reducible show wpList _ _ _ (⟨_, .binOp .neq _ _ _ _, _, _, _, _⟩ :: _) _ _); refine st_neq rfl _ _ _ _ rfl _ _ _ rfl rfl (fun h_ => ?_) (fun h_ => ?_))) <;> go_prune)
        | ((with_reducible show wpList _ _ _ (⟨some 23, _, _, _, _, _⟩ :: _) _ _); refine st_iaddr rfl _ _ _ rfl _ rfl rfl (kq _ _ (kk _ _ hS.ro).1.1) Tryd.underlying47 (by kernel_rfl) hlj ?_; intro b_ j_ _ _ hc_)
        | ((with_reducible show wpList _ _ _ (⟨some 24, _, _, _, _, _⟩ :: _) _ _); refine BigFrame.wpList_want rfl fun _ hK => opw_mid (cs := [.bool aw, .int .i8 xa, .int .i8 xb]) rfl rfl (rng3 (hc_ 0 _ G0.out) (hc_ 1 _ G1.out) (hc_ 2 _ G2.out)) Tryd.underlying87 rfl (by kernel_rfl) (hK _ _ ?_))
        | ((with_reducible show wpList _ _ _ (⟨some 7, _, _, _, _, _⟩ :: _) _ _); refine st_alloc hS rfl _ rfl (by kernel_rfl) ?_; clear hS; intro g7 w_ hS; (try simp only [Act.put, Act.eval, List.set_cons_zero, List.set_cons_succ, List.setIfInBounds_toArray, Array.getD_eq_getD_getElem?, List.getElem?_toArray, List.getElem?_cons_succ, List.getElem?_cons_zero, Option.getD_some, Value.cells] at hS))
        | ((with_reducible show wpList _ _ _ (⟨_, .store _ _ _, _, _, _, _⟩ :: _) _ _); first | (refine st_store hS 0 rfl _ _ _ rfl _ _ rfl rfl _ _ rfl (by kernel_rfl) (by kernel_rfl) (by kernel_rfl) ?_; clear hS; intro w_ hS; (try simp only [Act.put, Act.eval, List.set_cons_zero, List.set_cons_succ, List.setIfInBounds_toArray, Array.getD_eq_getD_getElem?, List.getElem?_toArray, List.getElem?_cons_succ, List.getElem?_cons_zero, Option.getD_some, Value.cells] at hS)) | (refine st_store hS 1 rfl _ _ _ rfl _ _ rfl rfl _ _ rfl (by kernel_rfl) (by kernel_rfl) (by kernel_rfl) ?_; clear hS; intro w_ hS; (try simp only [Act.put, Act.eval, List.set_cons_zero, List.set_cons_succ, List.setIfInBounds_toArray, Array.getD_eq_getD_getElem?, List.getElem?_toArray, List.getElem?_cons_succ, List.getElem?_cons_zero, Option.getD_some, Value.cells] at hS)) | (refine st_store hS 2 rfl _ _ _ rfl _ _ rfl rfl _ _ rfl (by kernel_rfl) (by kernel_rfl) (by kernel_rfl) ?_; clear hS; intro w_ hS; (try simp only [Act.put, Act.eval, List.set_cons_zero, List.set_cons_succ, List.setIfInBounds_toArray, Array.getD_eq_getD_getElem?, List.getElem?_toArray, List.getElem?_cons_succ, List.getElem?_cons_zero, Option.getD_some, Value.cells] at hS)) | (refine st_store hS 3 rfl _ _ _ rfl _ _ rfl rfl _ _ rfl (by kernel_rfl) (by kernel_rfl) (by kernel_rfl) ?_; clear hS; intro w_ hS; (try simp only [Act.put, Act.eval, List.set_cons_zero, List.set_cons_succ, List.setIfInBounds_toArray, Array.getD_eq_getD_getElem?, List.getElem?_toArray, List.getElem?_cons_succ, List.getElem?_cons_zero, Option.getD_some, Value.cells] at hS)) | (refine st_cstore hS 0 rfl _ _ _ rfl _ _ _ rfl rfl rfl (by first | (simp; done) | (simp; omega) | exact of_decide_eq_true (by kernel_rfl)) rfl (by first | rfl | assumption) (by kernel_rfl) ?_; clear hS; intro w_ hS; (try simp only [Act.put, Act.eval, List.set_cons_zero, List.set_cons_succ, List.setIfInBounds_toArray, Array.getD_eq_getD_getElem?, List.getElem?_toArray, List.getElem?_cons_succ, List.getElem?_cons_zero, Option.getD_some, Value.cells] at hS)) | (refine st_cstore hS 1 rfl _ _ _ rfl _ _ _ rfl rfl rfl (by first | (simp; done) | (simp; omega) | exact of_decide_eq_true (by kernel_rfl)) rfl (by first | rfl | assumption) (by kernel_rfl) ?_; clear hS; intro w_ hS; (try simp only [Act.put, Act.eval, List.set_cons_zero, List.set_cons_succ, List.setIfInBounds_toArray, Array.getD_eq_getD_getElem?, List.getElem?_toArray, List.getElem?_cons_succ, List.getElem?_cons_zero, Option.getD_some, Value.cells] at hS)) | (refine st_cstore hS 2 rfl _ _ _ rfl _ _ _ rfl rfl rfl (by first | (simp; done) | (simp; omega) | exact of_decide_eq_true (by kernel_rfl)) rfl (by first | rfl | assumption) (by kernel_rfl) ?_; clear hS; intro w_ hS; (try simp only [Act.put, Act.eval, List.set_cons_zero, List.set_cons_succ, List.setIfInBounds_toArray, Array.getD_eq_getD_getElem?, List.getElem?_toArray, List.getElem?_cons_succ, List.getElem?_cons_zero, Option.getD_some, Value.cells] at hS)) | (refine st_cstore hS 3 rfl _ _ _ rfl _ _ _ rfl rfl rfl (by first | (simp; done) | (simp; omega) | exact of_decide_eq_true (by kernel_rfl)) rfl (by first | rfl | assumption) (by kernel_rfl) ?_; clear hS; intro w_ hS; (try simp only [Act.put, Act.eval, List.set_cons_zero, List.set_cons_succ, List.setIfInBounds_toArray, Array.getD_eq_getD_getElem?, List.getElem?_toArray, List.getElem?_cons_succ, List.getElem?_cons_zero, Option.getD_some, Value.cells] at hS))))
      refine wp_region_typed (fun i__ v w => match i__ with
        | 0 => v = .pointer (some ⟨g7, 1, none⟩)
        | 1 => v = .int .i8 xa
        | 2 => v = .int .i64 xa
        | 3 => v = .pointer (some ⟨g7, 2, none⟩)
        | 4 => v = .int .i8 xb
        | 5 => v = .int .i64 xb
        | 6 => v = .int .i64 xa
        | 7 => v = .int .i64 xb
        | _ => True) (by kernel_rfl) (by kernel_rfl) ?mono ⟨?r0, ?r1, ?r2, ?r3, ?r4, ?r5, ?r6, ?r7, trivial⟩ ?post
      case mono =>
        intro i v w w' h hb
        match i, h with
        | 0, h => exact h
        | 1, h => exact h
        | 2, h => exact h
        | 3, h => exact h
        | 4, h => exact h
        | 5, h => exact h
        | 6, h => exact h
        | 7, h => exact h
        | _ + 8, h => trivial
      case r0 =>
        refine trule fun b__ w hW hold hpre => ⟨fun hwant K hK => ?_, fun hwant => ?_⟩
        · clear hwant
          have e7 : b__.eval (.tmp 7) = .pointer (some ⟨g7, 0, none⟩) := (hold 7 (by kernel_rfl)).trans rfl
          exact opw_faddr rfl e7 (by kernel_rfl) (hK _ _ rfl (Below.refl _ _))
        · rw [want_none rfl] at hwant; cases hwant
      case r1 =>
        refine trule fun b__ w hW hold hpre => ⟨fun hwant K hK => ?_, fun hwant => ?_⟩
        · clear hwant
          have e25 : b__.eval (.tmp 25) = .pointer (some ⟨g7, 1, none⟩) := hpre ⟨0, _⟩ (Array.mem_of_getElem? (i := 0) rfl) rfl _ _ rfl rfl
          exact opw_cell rfl e25 (by kernel_rfl) ((hS.ext (undrew hW)).shut 0 rfl 1 rfl) (hK _ _ rfl (Below.refl _ _))
        · rw [want_none rfl] at hwant; cases hwant
      case r2 =>
        refine trule fun b__ w hW hold hpre => ⟨fun hwant K hK => ?_, fun hwant => ?_⟩
        · clear hwant
          have e26 : b__.eval (.tmp 26) = .int .i8 xa := hpre ⟨1, _⟩ (Array.mem_of_getElem? (i := 0) rfl) rfl _ _ rfl rfl
          exact opw_conv (vx := .int .i8 xa) (v := .int .i64 xa) rfl e26 (run_conv8 hxa) (hK _ _ rfl (Below.refl _ _))
        · rw [want_none rfl] at hwant; cases hwant
      case r3 =>
        refine trule fun b__ w hW hold hpre => ⟨fun hwant K hK => ?_, fun hwant => ?_⟩
        · clear hwant
          have e7 : b__.eval (.tmp 7) = .pointer (some ⟨g7, 0, none⟩) := (hold 7 (by kernel_rfl)).trans rfl
          exact opw_faddr rfl e7 (by kernel_rfl) (hK _ _ rfl (Below.refl _ _))
        · rw [want_none rfl] at hwant; cases hwant
      case r4 =>
        refine trule fun b__ w hW hold hpre => ⟨fun hwant K hK => ?_, fun hwant => ?_⟩
        · clear hwant
          have e28 : b__.eval (.tmp 28) = .pointer (some ⟨g7, 2, none⟩) := hpre ⟨3, _⟩ (Array.mem_of_getElem? (i := 0) rfl) rfl _ _ rfl rfl
          exact opw_cell rfl e28 (by kernel_rfl) ((hS.ext (undrew hW)).shut 0 rfl 2 rfl) (hK _ _ rfl (Below.refl _ _))
        · rw [want_none rfl] at hwant; cases hwant
      case r5 =>
        refine trule fun b__ w hW hold hpre => ⟨fun hwant K hK => ?_, fun hwant => ?_⟩
        · clear hwant
          have e29 : b__.eval (.tmp 29) = .int .i8 xb := hpre ⟨4, _⟩ (Array.mem_of_getElem? (i := 0) rfl) rfl _ _ rfl rfl
          exact opw_conv (vx := .int .i8 xb) (v := .int .i64 xb) rfl e29 (run_conv8 hxb) (hK _ _ rfl (Below.refl _ _))
        · rw [want_none rfl] at hwant; cases hwant
      case r6 =>
        refine trule fun b__ w hW hold hpre => ⟨fun hwant K hK => ?_, fun hwant => ?_⟩
        · clear hwant
          have e27 : b__.eval (.tmp 27) = .int .i64 xa := hpre ⟨2, _⟩ (Array.mem_of_getElem? (i := 0) rfl) rfl _ _ rfl rfl
          exact opw_assign rfl e27 (hK _ _ rfl (Below.refl _ _))
        · rw [want_none rfl] at hwant; cases hwant
      case r7 =>
        refine trule fun b__ w hW hold hpre => ⟨fun hwant K hK => ?_, fun hwant => ?_⟩
        · clear hwant
          have e30 : b__.eval (.tmp 30) = .int .i64 xb := hpre ⟨5, _⟩ (Array.mem_of_getElem? (i := 0) rfl) rfl _ _ rfl rfl
          exact opw_assign rfl e30 (hK _ _ rfl (Below.refl _ _))
        · rw [want_none rfl] at hwant; cases hwant
      case post =>
        intro b__ wz hW hdf hsz hold hT
        have e25 : b__.eval (.tmp 25) = .pointer (some ⟨g7, 1, none⟩) := hT 0 _ 25 rfl rfl
        have e26 : b__.eval (.tmp 26) = .int .i8 xa := hT 1 _ 26 rfl rfl
        have e27 : b__.eval (.tmp 27) = .int .i64 xa := hT 2 _ 27 rfl rfl
        have e28 : b__.eval (.tmp 28) = .pointer (some ⟨g7, 2, none⟩) := hT 3 _ 28 rfl rfl
        have e29 : b__.eval (.tmp 29) = .int .i8 xb := hT 4 _ 29 rfl rfl
        have e30 : b__.eval (.tmp 30) = .int .i64 xb := hT 5 _ 30 rfl rfl
        have e8 : b__.eval (.tmp 8) = .int .i64 xa := hT 6 _ 8 rfl rfl
        have e9 : b__.eval (.tmp 9) = .int .i64 xb := hT 7 _ 9 rfl rfl
        obtain ⟨vs, hvs, hb⟩ := frame_of hdf hsz hold
        replace e25 : vs 25 = .pointer (some ⟨g7, 1, none⟩) := (hvs 25).symm.trans e25
        replace e26 : vs 26 = .int .i8 xa := (hvs 26).symm.trans e26
        replace e27 : vs 27 = .int .i64 xa := (hvs 27).symm.trans e27
        replace e28 : vs 28 = .pointer (some ⟨g7, 2, none⟩) := (hvs 28).symm.trans e28
        replace e29 : vs 29 = .int .i8 xb := (hvs 29).symm.trans e29
        replace e30 : vs 30 = .int .i64 xb := (hvs 30).symm.trans e30
        replace e8 : vs 8 = .int .i64 xa := (hvs 8).symm.trans e8
        replace e9 : vs 9 = .int .i64 xb := (hvs 9).symm.trans e9
        subst hb
        clear hvs hold hT hdf hsz
        simp only [setAll, Act.put, List.setIfInBounds_toArray, List.set_cons_zero, List.set_cons_succ, List.getElem_toArray, List.getElem_cons_succ, List.getElem_cons_zero]
        rw [e8, e9]
        replace hS := hS.ext hW
        clear hW e25 e26 e27 e28 e29 e30 e8 e9
        cases aw
        all_goals
          go_wp2_with (first
            | ((with_reducible show wpList _ _ _ (⟨_, .binOp _ _ _ _ _, _, _, _, _⟩ :: _) _ _); (first | ((with_reducible show wpList _ _ _ (⟨_, .binOp .lss _ _ _ _, _, _, _, _⟩ :: _) _ _); refine st_lss rfl _ _ _ _ rfl _ _ _ rfl rfl (fun h_ => ?_) (fun h_ => ?_)) | ((with_reducible show wpList _ _ _ (⟨_, .binOp .leq _ _ _ _, _, _, _, _⟩ :: _) _ _); refine st_leq rfl _ _ _ _ rfl _ _ _ rfl rfl (fun h_ => ?_) (fun h_ => ?_)) | ((with_reducible show wpList _ _ _ (⟨_, .binOp .gtr _ _ _ _, _, _, _, _⟩ :: _) _ _); refine st_gtr rfl _ _ _ _ rfl _ _ _ rfl rfl (fun h_ => ?_) (fun h_ => ?_)) | ((with_reducible show wpList _ _ _ (⟨_, .binOp .geq _ _ _ _, _, _, _, _⟩ :: _) _ _); refine st_geq rfl _ _ _ _ rfl _ _ _ rfl rfl (fun h_ => ?_) (fun h_ => ?_)) | ((with_reducible show wpList _ _ _ (⟨_, .binOp .eql _ _ _ _, _, _, _, _⟩ :: _) _ _); refine st_eql rfl _ _ _ _ rfl _ _ _ rfl rfl (fun h_ => ?_) (fun h_ => ?_)) | ((with_reducible show wpList _ _ _ (⟨_, .binOp .neq _ _ _ _, _, _, _, _⟩ :: _) _ _); refine st_neq rfl _ _ _ _ rfl _ _ _ rfl rfl (fun h_ => ?_) (fun h_ => ?_))) <;> go_prune)
            | (go_at_call 44; refine (hlink_any p L xa xb HO.out hlL hS (fun D w h => (kk D w h).2) (fun D w h => kt D w (kk D w h).1.1)).mono ?_; rintro e w_ ⟨r, z, rfl, hP⟩)
            | (go_at_call 68; refine (rlink_any (kk _ _ hP.known).1.2 HO.out.inr (by omega) xa xb).mono ?_; rintro e w_ hk; rcases link_both HO.out hP hk with ⟨rfl, hz, rfl, hS⟩ | ⟨rfl, v, L', rfl, hH', hl', hS⟩ <;> clear hP hk <;> (try obtain ⟨qr, _, rfl, -⟩ := id hS.ro.1.2))
            | (go_at_call 34; refine (hunlink_any p L xa xb HO.out hlL hS (fun D w h => (kk D w h).2) (fun D w h => kt D w (kk D w h).1.1)).mono ?_; rintro e w_ ⟨r, z, rfl, hP⟩)
            | (go_at_call 67; refine (runlink_any (kk _ _ hP.known).1.2 (by omega) xa xb).mono ?_; rintro e w_ hk; rcases unlink_both HO.out hP hk with ⟨rfl, hz, rfl, hS⟩ | ⟨rfl, v, L', rfl, hH', hl', hS⟩ <;> clear hP hk <;> (try obtain ⟨qr, _, rfl, -⟩ := id hS.ro.1.2))
            | ((with_reducible show wpList _ _ _ (⟨_, .load _ _, _, _, _, _⟩ :: _) _ _); first | (refine st_cell hS 0 rfl _ _ rfl _ _ rfl _ _ rfl (by decide +kernel) _ (by first | assumption | rfl) ?_) | (refine st_cell hS 1 rfl _ _ rfl _ _ rfl _ _ rfl (by decide +kernel) _ (by first | assumption | rfl) ?_) | (refine st_cell hS 2 rfl _ _ rfl _ _ rfl _ _ rfl (by decide +kernel) _ (by first | assumption | rfl) ?_) | (refine st_cell hS 3 rfl _ _ rfl _ _ rfl _ _ rfl (by decide +kernel) _ (by first | assumption | rfl) ?_) | (refine st_cell hS 4 rfl _ _ rfl _ _ rfl _ _ rfl (by decide +kernel) _ (by first | assumption | rfl) ?_) | (refine st_cell hS 5 rfl _ _ rfl _ _ rfl _ _ rfl (by decide +kernel) _ (by first | assumption | rfl) ?_) | (refine st_cell hS 6 rfl _ _ rfl _ _ rfl _ _ rfl (by decide +kernel) _ (by first | assumption | rfl) ?_) | (refine st_cell hS 7 rfl _ _ rfl _ _ rfl _ _ rfl (by decide +kernel) _ (by first | assumption | rfl) ?_)))
          · exact ⟨⟨j + 1, p, pv, L, KX, by go_num, rfl, rfl, by omega, by omega, HO, kk, hS.sub (List.sublist_cons_self _ _)⟩, by simp [intOf]; omega⟩
          · exact ⟨⟨j + 1, _, v, L', _, by go_num, rfl, rfl, by omega, by omega, Lib.hid hH', fun D w h => ⟨⟨(kk _ _ h.1.1).1.1, h.2⟩, h.1.2⟩, hS.sub (List.sublist_cons_self _ _)⟩, by simp [intOf]; omega⟩
    · go_wp2_with (first | ((with_reducible show wpList _ _ _ (⟨_, .binOp _ _ _ _ _, _, _, _, _⟩ :: _) _ _); (first | ((with_reducible show wpList _ _ _ (⟨_, .binOp .lss _ _ _ _, _, _, _, _⟩ :: _) _ _); refine st_lss rfl _ _ _ _ rfl _ _ _ rfl rfl (fun h_ => ?_) (fun h_ => ?_)) | ((with_reducible show wpList _ _ _ (⟨_, .binOp .leq _ _ _ _, _, _, _, _⟩ :: _) _ _); refine st_leq rfl _ _ _ _ rfl _ _ _ rfl rfl (fun h_ => ?_) (fun h_ => ?_)) | ((with_reducible show wpList _ _ _ (⟨_, .binOp .gtr _ _ _ _, _, _, _, _⟩ :: _) _ _); refine st_gtr rfl _ _ _ _ rfl _ _ _ rfl rfl (fun h_ => ?_) (fun h_ => ?_)) | ((with_reducible show wpList _ _ _ (⟨_, .binOp .geq _ _ _ _, _, _, _, _⟩ :: _) _ _); refine st_geq rfl _ _ _ _ rfl _ _ _ rfl rfl (fun h_ => ?_) (fun h_ => ?_)) | ((with_reducible show wpList _ _ _ (⟨_, .binOp .eql _ _ _ _, _, _, _, _⟩ :: _) _ _); refine st_eql rfl _ _ _ _ rfl _ _ _ rfl rfl (fun h_ => ?_) (fun h_ => ?_)) | ((with_reducible show wpList _ _ _ (⟨_, .binOp .neq _ _ _ _, _, _, _, _⟩ :: _) _ _); refine st_neq rfl _ _ _ _ rfl _ _ _ rfl rfl (fun h_ => ?_) (fun h_ => ?_))) <;> go_prune))
      go_ret2
      exact ⟨_, _, rfl, L, HO.out, by omega, hS.mono ((KSt.and (stable_sl (by decide))).and stable_isH) fun D w h => kk D w h⟩
end Go.Proofs.YtmlkgaiphpimiaaDoor
namespace Go.Proofs.YtmlkgaiphpimiaaDoor
open Go.RowKit
attribute [local go_sem ↓] Go.wp_at_zero Go.wp_at_succ
set_option maxRecDepth 20000
set_option exponentiation.threshold 5000

/-- what a statement about changes begins with -/
theorem start_ops {W : World} {D : Nat → Prop} {pv : Value} {ops : List OpD} (h : DTab W) (hp : Sl W D 3 pv ops.length (ocells ops)) : ∃ K : (Nat → Prop) → World → Prop, (∀ D w, K D w → DTab w ∧ D 0) ∧ (∀ D w, K D w → Sl w D 3 pv ops.length (ocells ops)) ∧ St W W [] K :=
  ⟨fun D w => (DTab w ∧ D 0) ∧ Sl w D 3 pv ops.length (ocells ops), fun _ _ h => h.1, fun _ _ h => h.2, St.start (D := fun _ => True) (dtab_stable.and (stable_sl (by decide))) ⟨⟨h, trivial⟩, hp.imp fun _ _ _ => trivial⟩⟩
end Go.Proofs.YtmlkgaiphpimiaaDoor
namespace Go.Proofs.YtmlkgaiphpimiaaDoor
open Go.RowKit
attribute [local go_sem ↓] Go.wp_at_zero Go.wp_at_succ
set_option maxRecDepth 20000
set_option exponentiation.threshold 5000

theorem nlinks_any (w : World) : Calls Tryd.prog 31 #[.pointer none] w (Ret (fun x _ => x = .slice none 0 0) w) := by
  have hS : St w w [] fun _ _ => True := St.start (D := fun _ => True) (Stable.pure True) trivial
  go_enter Tryd.func31, Tryd.ntmps31
  go_wp2_with (first
    | ((with_reducible show wpList _ _ _ (⟨_, .binOp _ _ _ _ _, _, _, _, _⟩ :: _) _ _); (first | ((with_reducible show wpList _ _ _ (⟨_, .binOp .lss _ _ _ _, _, _, _, _⟩ :: _) _ _); refine st_lss rfl _ _ _ _ rfl _ _ _ rfl rfl (fun h_ => ?_) (fun h_ => ?_)) | ((with_reducible show wpList _ _ _ (⟨_, .binOp .leq _ _ _ _, _, _, _, _⟩ :: _) _ _); refine st_leq rfl _ _ _ _ rfl _ _ _ rfl rfl (fun h_ => ?_) (fun h_ => ?_)) | ((with_reducible show wpList _ _ _ (⟨_, .binOp .gtr _ _ _ _, _, _, _, _⟩ :: _) _ _); refine st_gtr rfl _ _ _ _ rfl _ _ _ rfl rfl (fun h_ => ?_) (fun h_ => ?_)) | ((with_reducible show wpList _ _ _ (⟨_, .binOp .geq _ _ _ _, _, _, _, _⟩ :: _) _ _); refine st_geq rfl _ _ _ _ rfl _ _ _ rfl rfl (fun h_ => ?_) (fun h_ => ?_)) | ((with_reducible show wpList _ _ _ (⟨_, .binOp .eql _ _ _ _, _, _, _, _⟩ :: _) _ _); refine st_eql rfl _ _ _ _ rfl _ _ _ rfl rfl (fun h_ => ?_) (fun h_ => ?_)) | ((with_reducible show wpList _ _ _ (⟨_, .binOp .neq _ _ _ _, _, _, _, _⟩ :: _) _ _); refine st_neq rfl _ _ _ _ rfl _ _ _ rfl rfl (fun h_ => ?_) (fun h_ => ?_))) <;> go_prune)
    | ((with_reducible show wpList _ _ _ (⟨_, .alloc _, _, _, _, _⟩ :: _) _ _); refine st_alloc hS rfl _ rfl (by kernel_rfl) ?_; clear hS; intro g4 w_ hS)
    | ((with_reducible show wpList _ _ _ (⟨_, .store _ _ _, _, _, _, _⟩ :: _) _ _); first | (refine st_store hS 0 rfl _ _ _ rfl _ _ rfl rfl _ _ rfl (by kernel_rfl) (by kernel_rfl) (by kernel_rfl) ?_; clear hS; intro w_ hS; (try simp only [Act.put, Act.eval, List.set_cons_zero, List.set_cons_succ, List.setIfInBounds_toArray, Array.getD_eq_getD_getElem?, List.getElem?_toArray, List.getElem?_cons_succ, List.getElem?_cons_zero, Option.getD_some, Value.cells] at hS)) | (refine st_store hS 1 rfl _ _ _ rfl _ _ rfl rfl _ _ rfl (by kernel_rfl) (by kernel_rfl) (by kernel_rfl) ?_; clear hS; intro w_ hS; (try simp only [Act.put, Act.eval, List.set_cons_zero, List.set_cons_succ, List.setIfInBounds_toArray, Array.getD_eq_getD_getElem?, List.getElem?_toArray, List.getElem?_cons_succ, List.getElem?_cons_zero, Option.getD_some, Value.cells] at hS)) | (refine st_store hS 2 rfl _ _ _ rfl _ _ rfl rfl _ _ rfl (by kernel_rfl) (by kernel_rfl) (by kernel_rfl) ?_; clear hS; intro w_ hS; (try simp only [Act.put, Act.eval, List.set_cons_zero, List.set_cons_succ, List.setIfInBounds_toArray, Array.getD_eq_getD_getElem?, List.getElem?_toArray, List.getElem?_cons_succ, List.getElem?_cons_zero, Option.getD_some, Value.cells] at hS)) | (refine st_store hS 3 rfl _ _ _ rfl _ _ rfl rfl _ _ rfl (by kernel_rfl) (by kernel_rfl) (by kernel_rfl) ?_; clear hS; intro w_ hS; (try simp only [Act.put, Act.eval, List.set_cons_zero, List.set_cons_succ, List.setIfInBounds_toArray, Array.getD_eq_getD_getElem?, List.getElem?_toArray, List.getElem?_cons_succ, List.getElem?_cons_zero, Option.getD_some, Value.cells] at hS)) | (refine st_cstore hS 0 rfl _ _ _ rfl _ _ _ rfl rfl rfl (by first | (simp; done) | (simp; omega) | exact of_decide_eq_true (by kernel_rfl)) rfl (by first | rfl | assumption) (by kernel_rfl) ?_; clear hS; intro w_ hS; (try simp only [Act.put, Act.eval, List.set_cons_zero, List.set_cons_succ, List.setIfInBounds_toArray, Array.getD_eq_getD_getElem?, List.getElem?_toArray, List.getElem?_cons_succ, List.getElem?_cons_zero, Option.getD_some, Value.cells] at hS)) | (refine st_cstore hS 1 rfl _ _ _ rfl _ _ _ rfl rfl rfl (by first | (simp; done) | (simp; omega) | exact of_decide_eq_true (by kernel_rfl)) rfl (by first | rfl | assumption) (by kernel_rfl) ?_; clear hS; intro w_ hS; (try simp only [Act.put, Act.eval, List.set_cons_zero, List.set_cons_succ, List.setIfInBounds_toArray, Array.getD_eq_getD_getElem?, List.getElem?_toArray, List.getElem?_cons_succ, List.getElem?_cons_zero, Option.getD_some, Value.cells] at hS)) | (refine st_cstore hS 2 rfl _ _ _ rfl _ _ _ rfl rfl rfl (by first | (simp; done) | (simp; omega) | exact of_decide_eq_true (by kernel_rfl)) rfl (by first | rfl | assumption) (by kernel_rfl) ?_; clear hS; intro w_ hS; (try simp only [Act.put, Act.eval, List.set_cons_zero, List.set_cons_succ, List.setIfInBounds_toArray, Array.getD_eq_getD_getElem?, List.getElem?_toArray, List.getElem?_cons_succ, List.getElem?_cons_zero, Option.getD_some, Value.cells] at hS)) | (refine st_cstore hS 3 rfl _ _ _ rfl _ _ _ rfl rfl rfl (by first | (simp; done) | (simp; omega) | exact of_decide_eq_true (by kernel_rfl)) rfl (by first | rfl | assumption) (by kernel_rfl) ?_; clear hS; intro w_ hS; (try simp only [Act.put, Act.eval, List.set_cons_zero, List.set_cons_succ, List.setIfInBounds_toArray, Array.getD_eq_getD_getElem?, List.getElem?_toArray, List.getElem?_cons_succ, List.getElem?_cons_zero, Option.getD_some, Value.cells] at hS))))
  go_ret
  exact Ret.mk rfl hS.below
theorem nlink_any (a b : Int) (w : World) : Calls Tryd.prog 44 #[.pointer none, .int .i64 a, .int .i64 b] w (Ret (fun x _ => x = .tuple #[.pointer none, .int .i64 1]) w) := by
  have hS : St w w [] fun _ _ => True := St.start (D := fun _ => True) (Stable.pure True) trivial
  go_enter Tryd.func44, Tryd.ntmps44
  go_wp2_with (first
    | ((with_reducible show wpList _ _ _ (⟨_, .binOp _ _ _ _ _, _, _, _, _⟩ :: _) _ _); (first | ((with_reducible show wpList _ _ _ (⟨_, .binOp .lss _ _ _ _, _, _, _, _⟩ :: _) _ _); refine st_lss rfl _ _ _ _ rfl _ _ _ rfl rfl (fun h_ => ?_) (fun h_ => ?_)) | ((with_reducible show wpList _ _ _ (⟨_, .binOp .leq _ _ _ _, _, _, _, _⟩ :: _) _ _); refine st_leq rfl _ _ _ _ rfl _ _ _ rfl rfl (fun h_ => ?_) (fun h_ => ?_)) | ((with_reducible show wpList _ _ _ (⟨_, .binOp .gtr _ _ _ _, _, _, _, _⟩ :: _) _ _); refine st_gtr rfl _ _ _ _ rfl _ _ _ rfl rfl (fun h_ => ?_) (fun h_ => ?_)) | ((with_reducible show wpList _ _ _ (⟨_, .binOp .geq _ _ _ _, _, _, _, _⟩ :: _) _ _); refine st_geq rfl _ _ _ _ rfl _ _ _ rfl rfl (fun h_ => ?_) (fun h_ => ?_)) | ((with_reducible show wpList _ _ _ (⟨_, .binOp .eql _ _ _ _, _, _, _, _⟩ :: _) _ _); refine st_eql rfl _ _ _ _ rfl _ _ _ rfl rfl (fun h_ => ?_) (fun h_ => ?_)) | ((with_reducible show wpList _ _ _ (⟨_, .binOp .neq _ _ _ _, _, _, _, _⟩ :: _) _ _); refine st_neq rfl _ _ _ _ rfl _ _ _ rfl rfl (fun h_ => ?_) (fun h_ => ?_))) <;> go_prune)
    | ((with_reducible show wpList _ _ _ (⟨_, .alloc _, _, _, _, _⟩ :: _) _ _); refine st_alloc hS rfl _ rfl (by kernel_rfl) ?_; clear hS; intro g4 w_ hS)
    | ((with_reducible show wpList _ _ _ (⟨_, .store _ _ _, _, _, _, _⟩ :: _) _ _); first | (refine st_store hS 0 rfl _ _ _ rfl _ _ rfl rfl _ _ rfl (by kernel_rfl) (by kernel_rfl) (by kernel_rfl) ?_; clear hS; intro w_ hS; (try simp only [Act.put, Act.eval, List.set_cons_zero, List.set_cons_succ, List.setIfInBounds_toArray, Array.getD_eq_getD_getElem?, List.getElem?_toArray, List.getElem?_cons_succ, List.getElem?_cons_zero, Option.getD_some, Value.cells] at hS)) | (refine st_store hS 1 rfl _ _ _ rfl _ _ rfl rfl _ _ rfl (by kernel_rfl) (by kernel_rfl) (by kernel_rfl) ?_; clear hS; intro w_ hS; (try simp only [Act.put, Act.eval, List.set_cons_zero, List.set_cons_succ, List.setIfInBounds_toArray, Array.getD_eq_getD_getElem?, List.getElem?_toArray, List.getElem?_cons_succ, List.getElem?_cons_zero, Option.getD_some, Value.cells] at hS)) | (refine st_store hS 2 rfl _ _ _ rfl _ _ rfl rfl _ _ rfl (by kernel_rfl) (by kernel_rfl) (by kernel_rfl) ?_; clear hS; intro w_ hS; (try simp only [Act.put, Act.eval, List.set_cons_zero, List.set_cons_succ, List.setIfInBounds_toArray, Array.getD_eq_getD_getElem?, List.getElem?_toArray, List.getElem?_cons_succ, List.getElem?_cons_zero, Option.getD_some, Value.cells] at hS)) | (refine st_store hS 3 rfl _ _ _ rfl _ _ rfl rfl _ _ rfl (by kernel_rfl) (by kernel_rfl) (by kernel_rfl) ?_; clear hS; intro w_ hS; (try simp only [Act.put, Act.eval, List.set_cons_zero, List.set_cons_succ, List.setIfInBounds_toArray, Array.getD_eq_getD_getElem?, List.getElem?_toArray, List.getElem?_cons_succ, List.getElem?_cons_zero, Option.getD_some, Value.cells] at hS)) | (refine st_cstore hS 0 rfl _ _ _ rfl _ _ _ rfl rfl rfl (by first | (simp; done) | (simp; omega) | exact of_decide_eq_true (by kernel_rfl)) rfl (by first | rfl | assumption) (by kernel_rfl) ?_; clear hS; intro w_ hS; (try simp only [Act.put, Act.eval, List.set_cons_zero, List.set_cons_succ, List.setIfInBounds_toArray, Array.getD_eq_getD_getElem?, List.getElem?_toArray, List.getElem?_cons_succ, List.getElem?_cons_zero, Option.getD_some, Value.cells] at hS)) | (refine st_cstore hS 1 rfl _ _ _ rfl _ _ _ rfl rfl rfl (by first | (simp; done) | (simp; omega) | exact of_decide_eq_true (by kernel_rfl)) rfl (by first | rfl | assumption) (by kernel_rfl) ?_; clear hS; intro w_ hS; (try simp only [Act.put, Act.eval, List.set_cons_zero, List.set_cons_succ, List.setIfInBounds_toArray, Array.getD_eq_getD_getElem?, List.getElem?_toArray, List.getElem?_cons_succ, List.getElem?_cons_zero, Option.getD_some, Value.cells] at hS)) | (refine st_cstore hS 2 rfl _ _ _ rfl _ _ _ rfl rfl rfl (by first | (simp; done) | (simp; omega) | exact of_decide_eq_true (by kernel_rfl)) rfl (by first | rfl | assumption) (by kernel_rfl) ?_; clear hS; intro w_ hS; (try simp only [Act.put, Act.eval, List.set_cons_zero, List.set_cons_succ, List.setIfInBounds_toArray, Array.getD_eq_getD_getElem?, List.getElem?_toArray, List.getElem?_cons_succ, List.getElem?_cons_zero, Option.getD_some, Value.cells] at hS)) | (refine st_cstore hS 3 rfl _ _ _ rfl _ _ _ rfl rfl rfl (by first | (simp; done) | (simp; omega) | exact of_decide_eq_true (by kernel_rfl)) rfl (by first | rfl | assumption) (by kernel_rfl) ?_; clear hS; intro w_ hS; (try simp only [Act.put, Act.eval, List.set_cons_zero, List.set_cons_succ, List.setIfInBounds_toArray, Array.getD_eq_getD_getElem?, List.getElem?_toArray, List.getElem?_cons_succ, List.getElem?_cons_zero, Option.getD_some, Value.cells] at hS))))
  go_ret2
  exact Ret.mk rfl hS.below
theorem nunlink_any (a b : Int) (w : World) : Calls Tryd.prog 34 #[.pointer none, .int .i64 a, .int .i64 b] w (Ret (fun x _ => x = .tuple #[.pointer none, .int .i64 1]) w) := by
  have hS : St w w [] fun _ _ => True := St.start (D := fun _ => True) (Stable.pure True) trivial
  go_enter Tryd.func34, Tryd.ntmps34
  go_wp2_with (first
    | ((with_reducible show wpList _ _ _ (⟨_, .binOp _ _ _ _ _, _, _, _, _⟩ :: _) _ _); (first | ((with_reducible show wpList _ _ _ (⟨_, .binOp .lss _ _ _ _, _, _, _, _⟩ :: _) _ _); refine st_lss rfl _ _ _ _ rfl _ _ _ rfl rfl (fun h_ => ?_) (fun h_ => ?_)) | ((with_reducible show wpList _ _ _ (⟨_, .binOp .leq _ _ _ _, _, _, _, _⟩ :: _) _ _); refine st_leq rfl _ _ _ _ rfl _ _ _ rfl rfl (fun h_ => ?_) (fun h_ => ?_)) | ((with_reducible show wpList _ _ _ (⟨_, .binOp .gtr _ _ _ _, _, _, _, _⟩ :: _) _ _); refine st_gtr rfl _ _ _ _ rfl _ _ _ rfl rfl (fun h_ => ?_) (fun h_ => ?_)) | ((with_reducible show wpList _ _ _ (⟨_, .binOp .geq _ _ _ _, _, _, _, _⟩ :: _) _ _); refine st_geq rfl _ _ _ _ rfl _ _ _ rfl rfl (fun h_ => ?_) (fun h_ => ?_)) | ((with_reducible show wpList _ _ _ (⟨_, .binOp .eql _ _ _ _, _, _, _, _⟩ :: _) _ _); refine st_eql rfl _ _ _ _ rfl _ _ _ rfl rfl (fun h_ => ?_) (fun h_ => ?_)) | ((with_reducible show wpList _ _ _ (⟨_, .binOp .neq _ _ _ _, _, _, _, _⟩ :: _) _ _); refine st_neq rfl _ _ _ _ rfl _ _ _ rfl rfl (fun h_ => ?_) (fun h_ => ?_))) <;> go_prune)
    | ((with_reducible show wpList _ _ _ (⟨_, .alloc _, _, _, _, _⟩ :: _) _ _); refine st_alloc hS rfl _ rfl (by kernel_rfl) ?_; clear hS; intro g4 w_ hS)
    | ((with_reducible show wpList _ _ _ (⟨_, .store _ _ _, _, _, _, _⟩ :: _) _ _); first | (refine st_store hS 0 rfl _ _ _ rfl _ _ rfl rfl _ _ rfl (by kernel_rfl) (by kernel_rfl) (by kernel_rfl) ?_; clear hS; intro w_ hS; (try simp only [Act.put, Act.eval, List.set_cons_zero, List.set_cons_succ, List.setIfInBounds_toArray, Array.getD_eq_getD_getElem?, List.getElem?_toArray, List.getElem?_cons_succ, List.getElem?_cons_zero, Option.getD_some, Value.cells] at hS)) | (refine st_store hS 1 rfl _ _ _ rfl _ _ rfl rfl _ _ rfl (by kernel_rfl) (by kernel_rfl) (by kernel_rfl) ?_; clear hS; intro w_ hS; (try simp only [Act.put, Act.eval, List.set_cons_zero, List.set_cons_succ, List.setIfInBounds_toArray, Array.getD_eq_getD_getElem?, List.getElem?_toArray, List.getElem?_cons_succ, List.getElem?_cons_zero, Option.getD_some, Value.cells] at hS)) | (refine st_store hS 2 rfl _ _ _ rfl _ _ rfl rfl _ _ rfl (by kernel_rfl) (by kernel_rfl) (by kernel_rfl) ?_; clear hS; intro w_ hS; (try simp only [Act.put, Act.eval, List.set_cons_zero, List.set_cons_succ, List.setIfInBounds_toArray, Array.getD_eq_getD_getElem?, List.getElem?_toArray, List.getElem?_cons_succ, List.getElem?_cons_zero, Option.getD_some, Value.cells] at hS)) | (refine st_store hS 3 rfl _ _ _ rfl _ _ rfl rfl _ _ rfl (by kernel_rfl) (by kernel_rfl) (by kernel_rfl) ?_; clear hS; intro w_ hS; (try simp only [Act.put, Act.eval, List.set_cons_zero, List.set_cons_succ, List.setIfInBounds_toArray, Array.getD_eq_getD_getElem?, List.getElem?_toArray, List.getElem?_cons_succ, List.getElem?_cons_zero, Option.getD_some, Value.cells] at hS)) | (refine st_cstore hS 0 rfl _ _ _ rfl _ _ _ rfl rfl rfl (by first | (simp; done) | (simp; omega) | exact of_decide_eq_true (by kernel_rfl)) rfl (by first | rfl | assumption) (by kernel_rfl) ?_; clear hS; intro w_ hS; (try simp only [Act.put, Act.eval, List.set_cons_zero, List.set_cons_succ, List.setIfInBounds_toArray, Array.getD_eq_getD_getElem?, List.getElem?_toArray, List.getElem?_cons_succ, List.getElem?_cons_zero, Option.getD_some, Value.cells] at hS)) | (refine st_cstore hS 1 rfl _ _ _ rfl _ _ _ rfl rfl rfl (by first | (simp; done) | (simp; omega) | exact of_decide_eq_true (by kernel_rfl)) rfl (by first | rfl | assumption) (by kernel_rfl) ?_; clear hS; intro w_ hS; (try simp only [Act.put, Act.eval, List.set_cons_zero, List.set_cons_succ, List.setIfInBounds_toArray, Array.getD_eq_getD_getElem?, List.getElem?_toArray, List.getElem?_cons_succ, List.getElem?_cons_zero, Option.getD_some, Value.cells] at hS)) | (refine st_cstore hS 2 rfl _ _ _ rfl _ _ _ rfl rfl rfl (by first | (simp; done) | (simp; omega) | exact of_decide_eq_true (by kernel_rfl)) rfl (by first | rfl | assumption) (by kernel_rfl) ?_; clear hS; intro w_ hS; (try simp only [Act.put, Act.eval, List.set_cons_zero, List.set_cons_succ, List.setIfInBounds_toArray, Array.getD_eq_getD_getElem?, List.getElem?_toArray, List.getElem?_cons_succ, List.getElem?_cons_zero, Option.getD_some, Value.cells] at hS)) | (refine st_cstore hS 3 rfl _ _ _ rfl _ _ _ rfl rfl rfl (by first | (simp; done) | (simp; omega) | exact of_decide_eq_true (by kernel_rfl)) rfl (by first | rfl | assumption) (by kernel_rfl) ?_; clear hS; intro w_ hS; (try simp only [Act.put, Act.eval, List.set_cons_zero, List.set_cons_succ, List.setIfInBounds_toArray, Array.getD_eq_getD_getElem?, List.getElem?_toArray, List.getElem?_cons_succ, List.getElem?_cons_zero, Option.getD_some, Value.cells] at hS))))
  go_ret2
  exact Ret.mk rfl hS.below
theorem nimplies_any (a b : Int) (w : World) : Calls Tryd.prog 15 #[.pointer none, .int .i64 a, .int .i64 b] w (Ret (fun x _ => x = .bool false) w) := by
  have hS : St w w [] fun _ _ => True := St.start (D := fun _ => True) (Stable.pure True) trivial
  go_enter Tryd.func15, Tryd.ntmps15
  go_wp2_with (first
    | ((with_reducible show wpList _ _ _ (⟨_, .binOp _ _ _ _ _, _, _, _, _⟩ :: _) _ _); (first | ((with_reducible show wpList _ _ _ (⟨_, .binOp .lss _ _ _ _, _, _, _, _⟩ :: _) _ _); refine st_lss rfl _ _ _ _ rfl _ _ _ rfl rfl (fun h_ => ?_) (fun h_ => ?_)) | ((with_reducible show wpList _ _ _ (⟨_, .binOp .leq _ _ _ _, _, _, _, _⟩ :: _) _ _); refine st_leq rfl _ _ _ _ rfl _ _ _ rfl rfl (fun h_ => ?_) (fun h_ => ?_)) | ((with_reducible show wpList _ _ _ (⟨_, .binOp .gtr _ _ _ _, _, _, _, _⟩ :: _) _ _); refine st_gtr rfl _ _ _ _ rfl _ _ _ rfl rfl (fun h_ => ?_) (fun h_ => ?_)) | ((with_reducible show wpList _ _ _ (⟨_, .binOp .geq _ _ _ _, _, _, _, _⟩ :: _) _ _); refine st_geq rfl _ _ _ _ rfl _ _ _ rfl rfl (fun h_ => ?_) (fun h_ => ?_)) | ((with_reducible show wpList _ _ _ (⟨_, .binOp .eql _ _ _ _, _, _, _, _⟩ :: _) _ _); refine st_eql rfl _ _ _ _ rfl _ _ _ rfl rfl (fun h_ => ?_) (fun h_ => ?_)) | ((with_reducible show wpList _ _ _ (⟨_, .binOp .neq _ _ _ _, _, _, _, _⟩ :: _) _ _); refine st_neq rfl _ _ _ _ rfl _ _ _ rfl rfl (fun h_ => ?_) (fun h_ => ?_))) <;> go_prune)
    | ((with_reducible show wpList _ _ _ (⟨_, .alloc _, _, _, _, _⟩ :: _) _ _); refine st_alloc hS rfl _ rfl (by kernel_rfl) ?_; clear hS; intro g4 w_ hS)
    | ((with_reducible show wpList _ _ _ (⟨_, .store _ _ _, _, _, _, _⟩ :: _) _ _); first | (refine st_store hS 0 rfl _ _ _ rfl _ _ rfl rfl _ _ rfl (by kernel_rfl) (by kernel_rfl) (by kernel_rfl) ?_; clear hS; intro w_ hS; (try simp only [Act.put, Act.eval, List.set_cons_zero, List.set_cons_succ, List.setIfInBounds_toArray, Array.getD_eq_getD_getElem?, List.getElem?_toArray, List.getElem?_cons_succ, List.getElem?_cons_zero, Option.getD_some, Value.cells] at hS)) | (refine st_store hS 1 rfl _ _ _ rfl _ _ rfl rfl _ _ rfl (by kernel_rfl) (by kernel_rfl) (by kernel_rfl) ?_; clear hS; intro w_ hS; (try simp only [Act.put, Act.eval, List.set_cons_zero, List.set_cons_succ, List.setIfInBounds_toArray, Array.getD_eq_getD_getElem?, List.getElem?_toArray, List.getElem?_cons_succ, List.getElem?_cons_zero, Option.getD_some, Value.cells] at hS)) | (refine st_store hS 2 rfl _ _ _ rfl _ _ rfl rfl _ _ rfl (by kernel_rfl) (by kernel_rfl) (by kernel_rfl) ?_; clear hS; intro w_ hS; (try simp only [Act.put, Act.eval, List.set_cons_zero, List.set_cons_succ, List.setIfInBounds_toArray, Array.getD_eq_getD_getElem?, List.getElem?_toArray, List.getElem?_cons_succ, List.getElem?_cons_zero, Option.getD_some, Value.cells] at hS)) | (refine st_store hS 3 rfl _ _ _ rfl _ _ rfl rfl _ _ rfl (by kernel_rfl) (by kernel_rfl) (by kernel_rfl) ?_; clear hS; intro w_ hS; (try simp only [Act.put, Act.eval, List.set_cons_zero, List.set_cons_succ, List.setIfInBounds_toArray, Array.getD_eq_getD_getElem?, List.getElem?_toArray, List.getElem?_cons_succ, List.getElem?_cons_zero, Option.getD_some, Value.cells] at hS)) | (refine st_cstore hS 0 rfl _ _ _ rfl _ _ _ rfl rfl rfl (by first | (simp; done) | (simp; omega) | exact of_decide_eq_true (by kernel_rfl)) rfl (by first | rfl | assumption) (by kernel_rfl) ?_; clear hS; intro w_ hS; (try simp only [Act.put, Act.eval, List.set_cons_zero, List.set_cons_succ, List.setIfInBounds_toArray, Array.getD_eq_getD_getElem?, List.getElem?_toArray, List.getElem?_cons_succ, List.getElem?_cons_zero, Option.getD_some, Value.cells] at hS)) | (refine st_cstore hS 1 rfl _ _ _ rfl _ _ _ rfl rfl rfl (by first | (simp; done) | (simp; omega) | exact of_decide_eq_true (by kernel_rfl)) rfl (by first | rfl | assumption) (by kernel_rfl) ?_; clear hS; intro w_ hS; (try simp only [Act.put, Act.eval, List.set_cons_zero, List.set_cons_succ, List.setIfInBounds_toArray, Array.getD_eq_getD_getElem?, List.getElem?_toArray, List.getElem?_cons_succ, List.getElem?_cons_zero, Option.getD_some, Value.cells] at hS)) | (refine st_cstore hS 2 rfl _ _ _ rfl _ _ _ rfl rfl rfl (by first | (simp; done) | (simp; omega) | exact of_decide_eq_true (by kernel_rfl)) rfl (by first | rfl | assumption) (by kernel_rfl) ?_; clear hS; intro w_ hS; (try simp only [Act.put, Act.eval, List.set_cons_zero, List.set_cons_succ, List.setIfInBounds_toArray, Array.getD_eq_getD_getElem?, List.getElem?_toArray, List.getElem?_cons_succ, List.getElem?_cons_zero, Option.getD_some, Value.cells] at hS)) | (refine st_cstore hS 3 rfl _ _ _ rfl _ _ _ rfl rfl rfl (by first | (simp; done) | (simp; omega) | exact of_decide_eq_true (by kernel_rfl)) rfl (by first | rfl | assumption) (by kernel_rfl) ?_; clear hS; intro w_ hS; (try simp only [Act.put, Act.eval, List.set_cons_zero, List.set_cons_succ, List.setIfInBounds_toArray, Array.getD_eq_getD_getElem?, List.getElem?_toArray, List.getElem?_cons_succ, List.getElem?_cons_zero, Option.getD_some, Value.cells] at hS))))
  go_ret
  exact Ret.mk rfl hS.below
theorem nchain_any (a b : Int) (w : World) : Calls Tryd.prog 17 #[.pointer none, .int .i64 a, .int .i64 b] w (Ret (fun x _ => x = .tuple #[.slice none 0 0, .bool false]) w) := by
  have hS : St w w [] fun _ _ => True := St.start (D := fun _ => True) (Stable.pure True) trivial
  go_enter Tryd.func17, Tryd.ntmps17
  go_wp2_with (first
    | ((with_reducible show wpList _ _ _ (⟨_, .binOp _ _ _ _ _, _, _, _, _⟩ :: _) _ _); (first | ((with_reducible show wpList _ _ _ (⟨_, .binOp .lss _ _ _ _, _, _, _, _⟩ :: _) _ _); refine st_lss rfl _ _ _ _ rfl _ _ _ rfl rfl (fun h_ => ?_) (fun h_ => ?_)) | ((with_reducible show wpList _ _ _ (⟨_, .binOp .leq _ _ _ _, _, _, _, _⟩ :: _) _ _); refine st_leq rfl _ _ _ _ rfl _ _ _ rfl rfl (fun h_ => ?_) (fun h_ => ?_)) | ((with_reducible show wpList _ _ _ (⟨_, .binOp .gtr _ _ _ _, _, _, _, _⟩ :: _) _ _); refine st_gtr rfl _ _ _ _ rfl _ _ _ rfl rfl (fun h_ => ?_) (fun h_ => ?_)) | ((with_reducible show wpList _ _ _ (⟨_, .binOp .geq _ _ _ _, _, _, _, _⟩ :: _) _ _); refine st_geq rfl _ _ _ _ rfl _ _ _ rfl rfl (fun h_ => ?_) (fun h_ => ?_)) | ((with_reducible show wpList _ _ _ (⟨_, .binOp .eql _ _ _ _, _, _, _, _⟩ :: _) _ _); refine st_eql rfl _ _ _ _ rfl _ _ _ rfl rfl (fun h_ => ?_) (fun h_ => ?_)) | ((with_reducible show wpList _ _ _ (⟨_, .binOp .neq _ _ _ _, _, _, _, _⟩ :: _) _ _); refine st_neq rfl _ _ _ _ rfl _ _ _ rfl rfl (fun h_ => ?_) (fun h_ => ?_))) <;> go_prune)
    | (go_at_call 15; refine (nimplies_any _ _ _).mono ?_; rintro r_ w_ ⟨_, rfl, rfl, hb_⟩; replace hS := hS.ext hb_; clear hb_))
  go_ret2
  exact Ret.mk rfl hS.below
theorem njun_any (a : Int) (w : World) : Calls Tryd.prog 21 #[.pointer none, .int .i64 a] w (Ret (fun x _ => x = .agg #[.slice none 0 0]) w) := by
  have hS : St w w [] fun _ _ => True := St.start (D := fun _ => True) (Stable.pure True) trivial
  go_enter Tryd.func21, Tryd.ntmps21
  go_wp2_with (first
    | ((with_reducible show wpList _ _ _ (⟨_, .binOp _ _ _ _ _, _, _, _, _⟩ :: _) _ _); (first | ((with_reducible show wpList _ _ _ (⟨_, .binOp .lss _ _ _ _, _, _, _, _⟩ :: _) _ _); refine st_lss rfl _ _ _ _ rfl _ _ _ rfl rfl (fun h_ => ?_) (fun h_ => ?_)) | ((with_reducible show wpList _ _ _ (⟨_, .binOp .leq _ _ _ _, _, _, _, _⟩ :: _) _ _); refine st_leq rfl _ _ _ _ rfl _ _ _ rfl rfl (fun h_ => ?_) (fun h_ => ?_)) | ((with_reducible show wpList _ _ _ (⟨_, .binOp .gtr _ _ _ _, _, _, _, _⟩ :: _) _ _); refine st_gtr rfl _ _ _ _ rfl _ _ _ rfl rfl (fun h_ => ?_) (fun h_ => ?_)) | ((with_reducible show wpList _ _ _ (⟨_, .binOp .geq _ _ _ _, _, _, _, _⟩ :: _) _ _); refine st_geq rfl _ _ _ _ rfl _ _ _ rfl rfl (fun h_ => ?_) (fun h_ => ?_)) | ((with_reducible show wpList _ _ _ (⟨_, .binOp .eql _ _ _ _, _, _, _, _⟩ :: _) _ _); refine st_eql rfl _ _ _ _ rfl _ _ _ rfl rfl (fun h_ => ?_) (fun h_ => ?_)) | ((with_reducible show wpList _ _ _ (⟨_, .binOp .neq _ _ _ _, _, _, _, _⟩ :: _) _ _); refine st_neq rfl _ _ _ _ rfl _ _ _ rfl rfl (fun h_ => ?_) (fun h_ => ?_))) <;> go_prune)
    | ((with_reducible show wpList _ _ _ (⟨some 4, _, _, _, _, _⟩ :: _) _ _); refine st_alloc hS rfl _ rfl (by kernel_rfl) ?_; clear hS; intro g w_ hS; (try simp only [Act.put, Act.eval, List.set_cons_zero, List.set_cons_succ, List.setIfInBounds_toArray, Array.getD_eq_getD_getElem?, List.getElem?_toArray, List.getElem?_cons_succ, List.getElem?_cons_zero, Option.getD_some, Value.cells] at hS))
    | ((with_reducible show wpList _ _ _ (⟨_, .build _ _, _, _, _, _⟩ :: _) _ _); refine wpList_build_of rfl _ _ rfl #[.slice none 0 0] (by kernel_rfl) ?_)
    | ((with_reducible show wpList _ _ _ (⟨_, .store _ _ _, _, _, _, _⟩ :: _) _ _); first | (refine st_store hS 0 rfl _ _ _ rfl _ _ rfl rfl _ _ rfl (by kernel_rfl) (by kernel_rfl) (by kernel_rfl) ?_; clear hS; intro w_ hS; (try simp only [Act.put, Act.eval, List.set_cons_zero, List.set_cons_succ, List.setIfInBounds_toArray, Array.getD_eq_getD_getElem?, List.getElem?_toArray, List.getElem?_cons_succ, List.getElem?_cons_zero, Option.getD_some, Value.cells] at hS)) | (refine st_store hS 1 rfl _ _ _ rfl _ _ rfl rfl _ _ rfl (by kernel_rfl) (by kernel_rfl) (by kernel_rfl) ?_; clear hS; intro w_ hS; (try simp only [Act.put, Act.eval, List.set_cons_zero, List.set_cons_succ, List.setIfInBounds_toArray, Array.getD_eq_getD_getElem?, List.getElem?_toArray, List.getElem?_cons_succ, List.getElem?_cons_zero, Option.getD_some, Value.cells] at hS)) | (refine st_store hS 2 rfl _ _ _ rfl _ _ rfl rfl _ _ rfl (by kernel_rfl) (by kernel_rfl) (by kernel_rfl) ?_; clear hS; intro w_ hS; (try simp only [Act.put, Act.eval, List.set_cons_zero, List.set_cons_succ, List.setIfInBounds_toArray, Array.getD_eq_getD_getElem?, List.getElem?_toArray, List.getElem?_cons_succ, List.getElem?_cons_zero, Option.getD_some, Value.cells] at hS)) | (refine st_store hS 3 rfl _ _ _ rfl _ _ rfl rfl _ _ rfl (by kernel_rfl) (by kernel_rfl) (by kernel_rfl) ?_; clear hS; intro w_ hS; (try simp only [Act.put, Act.eval, List.set_cons_zero, List.set_cons_succ, List.setIfInBounds_toArray, Array.getD_eq_getD_getElem?, List.getElem?_toArray, List.getElem?_cons_succ, List.getElem?_cons_zero, Option.getD_some, Value.cells] at hS)) | (refine st_cstore hS 0 rfl _ _ _ rfl _ _ _ rfl rfl rfl (by first | (simp; done) | (simp; omega) | exact of_decide_eq_true (by kernel_rfl)) rfl (by first | rfl | assumption) (by kernel_rfl) ?_; clear hS; intro w_ hS; (try simp only [Act.put, Act.eval, List.set_cons_zero, List.set_cons_succ, List.setIfInBounds_toArray, Array.getD_eq_getD_getElem?, List.getElem?_toArray, List.getElem?_cons_succ, List.getElem?_cons_zero, Option.getD_some, Value.cells] at hS)) | (refine st_cstore hS 1 rfl _ _ _ rfl _ _ _ rfl rfl rfl (by first | (simp; done) | (simp; omega) | exact of_decide_eq_true (by kernel_rfl)) rfl (by first | rfl | assumption) (by kernel_rfl) ?_; clear hS; intro w_ hS; (try simp only [Act.put, Act.eval, List.set_cons_zero, List.set_cons_succ, List.setIfInBounds_toArray, Array.getD_eq_getD_getElem?, List.getElem?_toArray, List.getElem?_cons_succ, List.getElem?_cons_zero, Option.getD_some, Value.cells] at hS)) | (refine st_cstore hS 2 rfl _ _ _ rfl _ _ _ rfl rfl rfl (by first | (simp; done) | (simp; omega) | exact of_decide_eq_true (by kernel_rfl)) rfl (by first | rfl | assumption) (by kernel_rfl) ?_; clear hS; intro w_ hS; (try simp only [Act.put, Act.eval, List.set_cons_zero, List.set_cons_succ, List.setIfInBounds_toArray, Array.getD_eq_getD_getElem?, List.getElem?_toArray, List.getElem?_cons_succ, List.getElem?_cons_zero, Option.getD_some, Value.cells] at hS)) | (refine st_cstore hS 3 rfl _ _ _ rfl _ _ _ rfl rfl rfl (by first | (simp; done) | (simp; omega) | exact of_decide_eq_true (by kernel_rfl)) rfl (by first | rfl | assumption) (by kernel_rfl) ?_; clear hS; intro w_ hS; (try simp only [Act.put, Act.eval, List.set_cons_zero, List.set_cons_succ, List.setIfInBounds_toArray, Array.getD_eq_getD_getElem?, List.getElem?_toArray, List.getElem?_cons_succ, List.getElem?_cons_zero, Option.getD_some, Value.cells] at hS))))
  refine ret_cell Tryd.results21 rfl (hS.box 0 rfl) Tryd.underlying42 rfl (by kernel_rfl) rfl ?_
  exact Ret.mk rfl hS.below
theorem nsen_any (a : Int) (w : World) : Calls Tryd.prog 25 #[.pointer none, .int .i64 a] w (Ret (fun x _ => x = .agg #[.slice none 0 0]) w) := by
  have hS : St w w [] fun _ _ => True := St.start (D := fun _ => True) (Stable.pure True) trivial
  go_enter Tryd.func25, Tryd.ntmps25
  go_wp2_with (first
    | ((with_reducible show wpList _ _ _ (⟨_, .binOp _ _ _ _ _, _, _, _, _⟩ :: _) _ _); (first | ((with_reducible show wpList _ _ _ (⟨_, .binOp .lss _ _ _ _, _, _, _, _⟩ :: _) _ _); refine st_lss rfl _ _ _ _ rfl _ _ _ rfl rfl (fun h_ => ?_) (fun h_ => ?_)) | ((with_reducible show wpList _ _ _ (⟨_, .binOp .leq _ _ _ _, _, _, _, _⟩ :: _) _ _); refine st_leq rfl _ _ _ _ rfl _ _ _ rfl rfl (fun h_ => ?_) (fun h_ => ?_)) | ((with_reducible show wpList _ _ _ (⟨_, .binOp .gtr _ _ _ _, _, _, _, _⟩ :: _) _ _); refine st_gtr rfl _ _ _ _ rfl _ _ _ rfl rfl (fun h_ => ?_) (fun h_ => ?_)) | ((with_reducible show wpList _ _ _ (⟨_, .binOp .geq _ _ _ _, _, _, _, _⟩ :: _) _ _); refine st_geq rfl _ _ _ _ rfl _ _ _ rfl rfl (fun h_ => ?_) (fun h_ => ?_)) | ((with_reducible show wpList _ _ _ (⟨_, .binOp .eql _ _ _ _, _, _, _, _⟩ :: _) _ _); refine st_eql rfl _ _ _ _ rfl _ _ _ rfl rfl (fun h_ => ?_) (fun h_ => ?_)) | ((with_reducible show wpList _ _ _ (⟨_, .binOp .neq _ _ _ _, _, _, _, _⟩ :: _) _ _); refine st_neq rfl _ _ _ _ rfl _ _ _ rfl rfl (fun h_ => ?_) (fun h_ => ?_))) <;> go_prune)
    | ((with_reducible show wpList _ _ _ (⟨some 4, _, _, _, _, _⟩ :: _) _ _); refine st_alloc hS rfl _ rfl (by kernel_rfl) ?_; clear hS; intro g w_ hS; (try simp only [Act.put, Act.eval, List.set_cons_zero, List.set_cons_succ, List.setIfInBounds_toArray, Array.getD_eq_getD_getElem?, List.getElem?_toArray, List.getElem?_cons_succ, List.getElem?_cons_zero, Option.getD_some, Value.cells] at hS))
    | ((with_reducible show wpList _ _ _ (⟨_, .build _ _, _, _, _, _⟩ :: _) _ _); refine wpList_build_of rfl _ _ rfl #[.slice none 0 0] (by kernel_rfl) ?_)
    | ((with_reducible show wpList _ _ _ (⟨_, .store _ _ _, _, _, _, _⟩ :: _) _ _); first | (refine st_store hS 0 rfl _ _ _ rfl _ _ rfl rfl _ _ rfl (by kernel_rfl) (by kernel_rfl) (by kernel_rfl) ?_; clear hS; intro w_ hS; (try simp only [Act.put, Act.eval, List.set_cons_zero, List.set_cons_succ, List.setIfInBounds_toArray, Array.getD_eq_getD_getElem?, List.getElem?_toArray, List.getElem?_cons_succ, List.getElem?_cons_zero, Option.getD_some, Value.cells] at hS)) | (refine st_store hS 1 rfl _ _ _ rfl _ _ rfl rfl _ _ rfl (by kernel_rfl) (by kernel_rfl) (by kernel_rfl) ?_; clear hS; intro w_ hS; (try simp only [Act.put, Act.eval, List.set_cons_zero, List.set_cons_succ, List.setIfInBounds_toArray, Array.getD_eq_getD_getElem?, List.getElem?_toArray, List.getElem?_cons_succ, List.getElem?_cons_zero, Option.getD_some, Value.cells] at hS)) | (refine st_store hS 2 rfl _ _ _ rfl _ _ rfl rfl _ _ rfl (by kernel_rfl) (by kernel_rfl) (by kernel_rfl) ?_; clear hS; intro w_ hS; (try simp only [Act.put, Act.eval, List.set_cons_zero, List.set_cons_succ, List.setIfInBounds_toArray, Array.getD_eq_getD_getElem?, List.getElem?_toArray, List.getElem?_cons_succ, List.getElem?_cons_zero, Option.getD_some, Value.cells] at hS)) | (refine st_store hS 3 rfl _ _ _ rfl _ _ rfl rfl _ _ rfl (by kernel_rfl) (by kernel_rfl) (by kernel_rfl) ?_; clear hS; intro w_ hS; (try simp only [Act.put, Act.eval, List.set_cons_zero, List.set_cons_succ, List.setIfInBounds_toArray, Array.getD_eq_getD_getElem?, List.getElem?_toArray, List.getElem?_cons_succ, List.getElem?_cons_zero, Option.getD_some, Value.cells] at hS)) | (refine st_cstore hS 0 rfl _ _ _ rfl _ _ _ rfl rfl rfl (by first | (simp; done) | (simp; omega) | exact of_decide_eq_true (by kernel_rfl)) rfl (by first | rfl | assumption) (by kernel_rfl) ?_; clear hS; intro w_ hS; (try simp only [Act.put, Act.eval, List.set_cons_zero, List.set_cons_succ, List.setIfInBounds_toArray, Array.getD_eq_getD_getElem?, List.getElem?_toArray, List.getElem?_cons_succ, List.getElem?_cons_zero, Option.getD_some, Value.cells] at hS)) | (refine st_cstore hS 1 rfl _ _ _ rfl _ _ _ rfl rfl rfl (by first | (simp; done) | (simp; omega) | exact of_decide_eq_true (by kernel_rfl)) rfl (by first | rfl | assumption) (by kernel_rfl) ?_; clear hS; intro w_ hS; (try simp only [Act.put, Act.eval, List.set_cons_zero, List.set_cons_succ, List.setIfInBounds_toArray, Array.getD_eq_getD_getElem?, List.getElem?_toArray, List.getElem?_cons_succ, List.getElem?_cons_zero, Option.getD_some, Value.cells] at hS)) | (refine st_cstore hS 2 rfl _ _ _ rfl _ _ _ rfl rfl rfl (by first | (simp; done) | (simp; omega) | exact of_decide_eq_true (by kernel_rfl)) rfl (by first | rfl | assumption) (by kernel_rfl) ?_; clear hS; intro w_ hS; (try simp only [Act.put, Act.eval, List.set_cons_zero, List.set_cons_succ, List.setIfInBounds_toArray, Array.getD_eq_getD_getElem?, List.getElem?_toArray, List.getElem?_cons_succ, List.getElem?_cons_zero, Option.getD_some, Value.cells] at hS)) | (refine st_cstore hS 3 rfl _ _ _ rfl _ _ _ rfl rfl rfl (by first | (simp; done) | (simp; omega) | exact of_decide_eq_true (by kernel_rfl)) rfl (by first | rfl | assumption) (by kernel_rfl) ?_; clear hS; intro w_ hS; (try simp only [Act.put, Act.eval, List.set_cons_zero, List.set_cons_succ, List.setIfInBounds_toArray, Array.getD_eq_getD_getElem?, List.getElem?_toArray, List.getElem?_cons_succ, List.getElem?_cons_zero, Option.getD_some, Value.cells] at hS))))
  refine ret_cell Tryd.results25 rfl (hS.box 0 rfl) Tryd.underlying42 rfl (by kernel_rfl) rfl ?_
  exact Ret.mk rfl hS.below
theorem ndirect_any (a : Int) (w : World) : Calls Tryd.prog 40 #[.pointer none, .int .i64 a] w (Ret (fun x _ => x = .slice none 0 0) w) := by
  have hS : St w w [] fun _ _ => True := St.start (D := fun _ => True) (Stable.pure True) trivial
  go_enter Tryd.func40, Tryd.ntmps40
  go_wp2_with (first
    | ((with_reducible show wpList _ _ _ (⟨_, .binOp _ _ _ _ _, _, _, _, _⟩ :: _) _ _); (first | ((with_reducible show wpList _ _ _ (⟨_, .binOp .lss _ _ _ _, _, _, _, _⟩ :: _) _ _); refine st_lss rfl _ _ _ _ rfl _ _ _ rfl rfl (fun h_ => ?_) (fun h_ => ?_)) | ((with_reducible show wpList _ _ _ (⟨_, .binOp .leq _ _ _ _, _, _, _, _⟩ :: _) _ _); refine st_leq rfl _ _ _ _ rfl _ _ _ rfl rfl (fun h_ => ?_) (fun h_ => ?_)) | ((with_reducible show wpList _ _ _ (⟨_, .binOp .gtr _ _ _ _, _, _, _, _⟩ :: _) _ _); refine st_gtr rfl _ _ _ _ rfl _ _ _ rfl rfl (fun h_ => ?_) (fun h_ => ?_)) | ((with_reducible show wpList _ _ _ (⟨_, .binOp .geq _ _ _ _, _, _, _, _⟩ :: _) _ _); refine st_geq rfl _ _ _ _ rfl _ _ _ rfl rfl (fun h_ => ?_) (fun h_ => ?_)) | ((with_reducible show wpList _ _ _ (⟨_, .binOp .eql _ _ _ _, _, _, _, _⟩ :: _) _ _); refine st_eql rfl _ _ _ _ rfl _ _ _ rfl rfl (fun h_ => ?_) (fun h_ => ?_)) | ((with_reducible show wpList _ _ _ (⟨_, .binOp .neq _ _ _ _, _, _, _, _⟩ :: _) _ _); refine st_neq rfl _ _ _ _ rfl _ _ _ rfl rfl (fun h_ => ?_) (fun h_ => ?_))) <;> go_prune)
    | (go_at_call 31; refine (nlinks_any _).mono ?_; rintro r_ w_ ⟨_, rfl, rfl, hb_⟩; replace hS := hS.ext hb_; clear hb_))
  go_loopw [5, 11] (fun v i wr => v = .slice none 0 0 ∧ i = .int .i64 0 ∧ St w wr [] fun _ _ => True) (fun _ i _ => 0)
  case atStart => exact ⟨rfl, rfl, hS⟩
  case round =>
    clear hS
    obtain ⟨rfl, rfl, hS⟩ := hrel
    go_wp2_with (first | ((with_reducible show wpList _ _ _ (⟨_, .binOp _ _ _ _ _, _, _, _, _⟩ :: _) _ _); (first | ((with_reducible show wpList _ _ _ (⟨_, .binOp .lss _ _ _ _, _, _, _, _⟩ :: _) _ _); refine st_lss rfl _ _ _ _ rfl _ _ _ rfl rfl (fun h_ => ?_) (fun h_ => ?_)) | ((with_reducible show wpList _ _ _ (⟨_, .binOp .leq _ _ _ _, _, _, _, _⟩ :: _) _ _); refine st_leq rfl _ _ _ _ rfl _ _ _ rfl rfl (fun h_ => ?_) (fun h_ => ?_)) | ((with_reducible show wpList _ _ _ (⟨_, .binOp .gtr _ _ _ _, _, _, _, _⟩ :: _) _ _); refine st_gtr rfl _ _ _ _ rfl _ _ _ rfl rfl (fun h_ => ?_) (fun h_ => ?_)) | ((with_reducible show wpList _ _ _ (⟨_, .binOp .geq _ _ _ _, _, _, _, _⟩ :: _) _ _); refine st_geq rfl _ _ _ _ rfl _ _ _ rfl rfl (fun h_ => ?_) (fun h_ => ?_)) | ((with_reducible show wpList _ _ _ (⟨_, .binOp .eql _ _ _ _, _, _, _, _⟩ :: _) _ _); refine st_eql rfl _ _ _ _ rfl _ _ _ rfl rfl (fun h_ => ?_) (fun h_ => ?_)) | ((with_reducible show wpList _ _ _ (⟨_, .binOp .neq _ _ _ _, _, _, _, _⟩ :: _) _ _); refine st_neq rfl _ _ _ _ rfl _ _ _ rfl rfl (fun h_ => ?_) (fun h_ => ?_))) <;> go_prune))
    go_ret
    exact Ret.mk rfl hS.below
theorem nred_any (w : World) : Calls Tryd.prog 32 #[.pointer none] w (Ret (fun x _ => x = .slice none 0 0) w) := by
  have hS : St w w [] fun _ _ => True := St.start (D := fun _ => True) (Stable.pure True) trivial
  go_enter Tryd.func32, Tryd.ntmps32
  go_wp2_with (first
    | ((with_reducible show wpList _ _ _ (⟨_, .binOp _ _ _ _ _, _, _, _, _⟩ :: _) _ _); (first | ((with_reducible show wpList _ _ _ (⟨_, .binOp .lss _ _ _ _, _, _, _, _⟩ :: _) _ _); refine st_lss rfl _ _ _ _ rfl _ _ _ rfl rfl (fun h_ => ?_) (fun h_ => ?_)) | ((with_reducible show wpList _ _ _ (⟨_, .binOp .leq _ _ _ _, _, _, _, _⟩ :: _) _ _); refine st_leq rfl _ _ _ _ rfl _ _ _ rfl rfl (fun h_ => ?_) (fun h_ => ?_)) | ((with_reducible show wpList _ _ _ (⟨_, .binOp .gtr _ _ _ _, _, _, _, _⟩ :: _) _ _); refine st_gtr rfl _ _ _ _ rfl _ _ _ rfl rfl (fun h_ => ?_) (fun h_ => ?_)) | ((with_reducible show wpList _ _ _ (⟨_, .binOp .geq _ _ _ _, _, _, _, _⟩ :: _) _ _); refine st_geq rfl _ _ _ _ rfl _ _ _ rfl rfl (fun h_ => ?_) (fun h_ => ?_)) | ((with_reducible show wpList _ _ _ (⟨_, .binOp .eql _ _ _ _, _, _, _, _⟩ :: _) _ _); refine st_eql rfl _ _ _ _ rfl _ _ _ rfl rfl (fun h_ => ?_) (fun h_ => ?_)) | ((with_reducible show wpList _ _ _ (⟨_, .binOp .neq _ _ _ _, _, _, _, _⟩ :: _) _ _); refine st_neq rfl _ _ _ _ rfl _ _ _ rfl rfl (fun h_ => ?_) (fun h_ => ?_))) <;> go_prune)
    | (go_at_call 31; refine (nlinks_any _).mono ?_; rintro r_ w_ ⟨_, rfl, rfl, hb_⟩; replace hS := hS.ext hb_; clear hb_))
  go_loopw [3, 11] (fun v i wr => v = .slice none 0 0 ∧ i = .int .i64 0 ∧ St w wr [] fun _ _ => True) (fun _ i _ => 0)
  case atStart => exact ⟨rfl, rfl, hS⟩
  case round =>
    clear hS
    obtain ⟨rfl, rfl, hS⟩ := hrel
    go_wp2_with (first | ((with_reducible show wpList _ _ _ (⟨_, .binOp _ _ _ _ _, _, _, _, _⟩ :: _) _ _); (first | ((with_reducible show wpList _ _ _ (⟨_, .binOp .lss _ _ _ _, _, _, _, _⟩ :: _) _ _); refine st_lss rfl _ _ _ _ rfl _ _ _ rfl rfl (fun h_ => ?_) (fun h_ => ?_)) | ((with_reducible show wpList _ _ _ (⟨_, .binOp .leq _ _ _ _, _, _, _, _⟩ :: _) _ _); refine st_leq rfl _ _ _ _ rfl _ _ _ rfl rfl (fun h_ => ?_) (fun h_ => ?_)) | ((with_reducible show wpList _ _ _ (⟨_, .binOp .gtr _ _ _ _, _, _, _, _⟩ :: _) _ _); refine st_gtr rfl _ _ _ _ rfl _ _ _ rfl rfl (fun h_ => ?_) (fun h_ => ?_)) | ((with_reducible show wpList _ _ _ (⟨_, .binOp .geq _ _ _ _, _, _, _, _⟩ :: _) _ _); refine st_geq rfl _ _ _ _ rfl _ _ _ rfl rfl (fun h_ => ?_) (fun h_ => ?_)) | ((with_reducible show wpList _ _ _ (⟨_, .binOp .eql _ _ _ _, _, _, _, _⟩ :: _) _ _); refine st_eql rfl _ _ _ _ rfl _ _ _ rfl rfl (fun h_ => ?_) (fun h_ => ?_)) | ((with_reducible show wpList _ _ _ (⟨_, .binOp .neq _ _ _ _, _, _, _, _⟩ :: _) _ _); refine st_neq rfl _ _ _ _ rfl _ _ _ rfl rfl (fun h_ => ?_) (fun h_ => ?_))) <;> go_prune))
    go_ret
    exact Ret.mk rfl hS.below
theorem nbytes_any (w : World) : Calls Tryd.prog 47 #[.pointer none] w (Ret (fun x _ => x = .slice none 0 0) w) := by
  have hS : St w w [] fun _ _ => True := St.start (D := fun _ => True) (Stable.pure True) trivial
  go_enter Tryd.func47, Tryd.ntmps47
  go_wp2_with (first
    | ((with_reducible show wpList _ _ _ (⟨_, .binOp _ _ _ _ _, _, _, _, _⟩ :: _) _ _); (first | ((with_reducible show wpList _ _ _ (⟨_, .binOp .lss _ _ _ _, _, _, _, _⟩ :: _) _ _); refine st_lss rfl _ _ _ _ rfl _ _ _ rfl rfl (fun h_ => ?_) (fun h_ => ?_)) | ((with_reducible show wpList _ _ _ (⟨_, .binOp .leq _ _ _ _, _, _, _, _⟩ :: _) _ _); refine st_leq rfl _ _ _ _ rfl _ _ _ rfl rfl (fun h_ => ?_) (fun h_ => ?_)) | ((with_reducible show wpList _ _ _ (⟨_, .binOp .gtr _ _ _ _, _, _, _, _⟩ :: _) _ _); refine st_gtr rfl _ _ _ _ rfl _ _ _ rfl rfl (fun h_ => ?_) (fun h_ => ?_)) | ((with_reducible show wpList _ _ _ (⟨_, .binOp .geq _ _ _ _, _, _, _, _⟩ :: _) _ _); refine st_geq rfl _ _ _ _ rfl _ _ _ rfl rfl (fun h_ => ?_) (fun h_ => ?_)) | ((with_reducible show wpList _ _ _ (⟨_, .binOp .eql _ _ _ _, _, _, _, _⟩ :: _) _ _); refine st_eql rfl _ _ _ _ rfl _ _ _ rfl rfl (fun h_ => ?_) (fun h_ => ?_)) | ((with_reducible show wpList _ _ _ (⟨_, .binOp .neq _ _ _ _, _, _, _, _⟩ :: _) _ _); refine st_neq rfl _ _ _ _ rfl _ _ _ rfl rfl (fun h_ => ?_) (fun h_ => ?_))) <;> go_prune)
    | ((with_reducible show wpList _ _ _ (⟨_, .alloc _, _, _, _, _⟩ :: _) _ _); refine st_alloc hS rfl _ rfl (by kernel_rfl) ?_; clear hS; intro g4 w_ hS)
    | ((with_reducible show wpList _ _ _ (⟨_, .store _ _ _, _, _, _, _⟩ :: _) _ _); first | (refine st_store hS 0 rfl _ _ _ rfl _ _ rfl rfl _ _ rfl (by kernel_rfl) (by kernel_rfl) (by kernel_rfl) ?_; clear hS; intro w_ hS; (try simp only [Act.put, Act.eval, List.set_cons_zero, List.set_cons_succ, List.setIfInBounds_toArray, Array.getD_eq_getD_getElem?, List.getElem?_toArray, List.getElem?_cons_succ, List.getElem?_cons_zero, Option.getD_some, Value.cells] at hS)) | (refine st_store hS 1 rfl _ _ _ rfl _ _ rfl rfl _ _ rfl (by kernel_rfl) (by kernel_rfl) (by kernel_rfl) ?_; clear hS; intro w_ hS; (try simp only [Act.put, Act.eval, List.set_cons_zero, List.set_cons_succ, List.setIfInBounds_toArray, Array.getD_eq_getD_getElem?, List.getElem?_toArray, List.getElem?_cons_succ, List.getElem?_cons_zero, Option.getD_some, Value.cells] at hS)) | (refine st_store hS 2 rfl _ _ _ rfl _ _ rfl rfl _ _ rfl (by kernel_rfl) (by kernel_rfl) (by kernel_rfl) ?_; clear hS; intro w_ hS; (try simp only [Act.put, Act.eval, List.set_cons_zero, List.set_cons_succ, List.setIfInBounds_toArray, Array.getD_eq_getD_getElem?, List.getElem?_toArray, List.getElem?_cons_succ, List.getElem?_cons_zero, Option.getD_some, Value.cells] at hS)) | (refine st_store hS 3 rfl _ _ _ rfl _ _ rfl rfl _ _ rfl (by kernel_rfl) (by kernel_rfl) (by kernel_rfl) ?_; clear hS; intro w_ hS; (try simp only [Act.put, Act.eval, List.set_cons_zero, List.set_cons_succ, List.setIfInBounds_toArray, Array.getD_eq_getD_getElem?, List.getElem?_toArray, List.getElem?_cons_succ, List.getElem?_cons_zero, Option.getD_some, Value.cells] at hS)) | (refine st_cstore hS 0 rfl _ _ _ rfl _ _ _ rfl rfl rfl (by first | (simp; done) | (simp; omega) | exact of_decide_eq_true (by kernel_rfl)) rfl (by first | rfl | assumption) (by kernel_rfl) ?_; clear hS; intro w_ hS; (try simp only [Act.put, Act.eval, List.set_cons_zero, List.set_cons_succ, List.setIfInBounds_toArray, Array.getD_eq_getD_getElem?, List.getElem?_toArray, List.getElem?_cons_succ, List.getElem?_cons_zero, Option.getD_some, Value.cells] at hS)) | (refine st_cstore hS 1 rfl _ _ _ rfl _ _ _ rfl rfl rfl (by first | (simp; done) | (simp; omega) | exact of_decide_eq_true (by kernel_rfl)) rfl (by first | rfl | assumption) (by kernel_rfl) ?_; clear hS; intro w_ hS; (try simp only [Act.put, Act.eval, List.set_cons_zero, List.set_cons_succ, List.setIfInBounds_toArray, Array.getD_eq_getD_getElem?, List.getElem?_toArray, List.getElem?_cons_succ, List.getElem?_cons_zero, Option.getD_some, Value.cells] at hS)) | (refine st_cstore hS 2 rfl _ _ _ rfl _ _ _ rfl rfl rfl (by first | (simp; done) | (simp; omega) | exact of_decide_eq_true (by kernel_rfl)) rfl (by first | rfl | assumption) (by kernel_rfl) ?_; clear hS; intro w_ hS; (try simp only [Act.put, Act.eval, List.set_cons_zero, List.set_cons_succ, List.setIfInBounds_toArray, Array.getD_eq_getD_getElem?, List.getElem?_toArray, List.getElem?_cons_succ, List.getElem?_cons_zero, Option.getD_some, Value.cells] at hS)) | (refine st_cstore hS 3 rfl _ _ _ rfl _ _ _ rfl rfl rfl (by first | (simp; done) | (simp; omega) | exact of_decide_eq_true (by kernel_rfl)) rfl (by first | rfl | assumption) (by kernel_rfl) ?_; clear hS; intro w_ hS; (try simp only [Act.put, Act.eval, List.set_cons_zero, List.set_cons_succ, List.setIfInBounds_toArray, Array.getD_eq_getD_getElem?, List.getElem?_toArray, List.getElem?_cons_succ, List.getElem?_cons_zero, Option.getD_some, Value.cells] at hS))))
  go_ret
  exact Ret.mk rfl hS.below
theorem neq_any (w : World) : Calls Tryd.prog 48 #[.pointer none, .pointer none] w (Ret (fun x _ => x = .bool true) w) := by
  have hS : St w w [] fun _ _ => True := St.start (D := fun _ => True) (Stable.pure True) trivial
  go_enter Tryd.func48, Tryd.ntmps48
  go_wp2_with fail
  go_ret
  exact Ret.mk rfl hS.below
theorem run_peqL {q : Addr} {w : World} : (binOp .eql 24 (.pointer none) (.pointer (some q))).run Tryd.prog w = .ok (.bool false) w := rfl
theorem neq1_any (q : Addr) (w : World) : Calls Tryd.prog 48 #[.pointer none, .pointer (some q)] w (Ret (fun x _ => x = .bool false) w) := by
  have hS : St w w [] fun _ _ => True := St.start (D := fun _ => True) (Stable.pure True) trivial
  go_enter Tryd.func48, Tryd.ntmps48
  go_wp2_with (first | ((with_reducible show wpList _ _ _ (⟨some 13, _, _, _, _, _⟩ :: _) _ _); refine BigFrame.wpList_want rfl fun _ hK => opw_bin (vx := .pointer none) (vy := .pointer (some q)) (v := .bool false) rfl rfl rfl rfl run_peqL (hK _ _ ?_)))
  go_ret
  exact Ret.mk rfl hS.below
theorem neq2_any (q : Addr) (w : World) : Calls Tryd.prog 48 #[.pointer (some q), .pointer none] w (Ret (fun x _ => x = .bool false) w) := by
  have hS : St w w [] fun _ _ => True := St.start (D := fun _ => True) (Stable.pure True) trivial
  go_enter Tryd.func48, Tryd.ntmps48
  go_wp2_with fail
  go_ret
  exact Ret.mk rfl hS.below
end Go.Proofs.YtmlkgaiphpimiaaDoor
namespace Go.Proofs.YtmlkgaiphpimiaaDoor
open Go.RowKit
attribute [local go_sem ↓] Go.wp_at_zero Go.wp_at_succ
set_option maxRecDepth 20000
set_option exponentiation.threshold 5000

set_option maxHeartbeats 2000000 in
theorem nclos_any {w0 : World} {E : Nat → Prop} {v : Value} {N : Nat} (hT : DTab w0) (hv : IsSet w0 E v N) : Calls Tryd.prog 35 #[.pointer none, v] w0 (Ret (fun x w' => IsSet w' (w0.heap.size ≤ ·) x 0) w0) := by
  obtain ⟨A, c, l, rfl, hl, rfl, _, _, hs⟩ := hv.parts
  obtain ⟨K, k1, kt, hS⟩ : ∃ K : (Nat → Prop) → World → Prop, (∀ D w, K D w → IsSet w D (.agg #[.slice A l.length c]) (val l)) ∧ (∀ D w, K D w → DTab w ∧ D 0) ∧ St w0 w0 [] K :=
    ⟨fun D w => IsSet w D (.agg #[.slice A l.length c]) (val l) ∧ DTab w ∧ D 0, fun _ _ h => h.1, fun _ _ h => h.2, St.start (D := fun _ => True) (stable_set.and dtab_stable) ⟨hv.imp fun _ _ _ => trivial, hT, trivial⟩⟩
  clear hs hv hT
  refine (callsIn_wide (n := 6)).1 (callsIn_of_wp_marks Tryd.func35 rfl trivial ?_ rfl)
  simp only [Tryd.ntmps35, List.size_toArray, List.length_cons, List.length_nil, Nat.reduceAdd, Nat.reduceSub, Array.replicate_succ, Array.replicate_zero, List.push_toArray, List.append_toArray, List.nil_append, List.cons_append]
  refine wpIn_wide.2 ?_
  go_wp2_with (first
    | ((with_reducible show wpList _ _ _ (⟨some 2, _, _, _, _, _⟩ :: _) _ _); refine st_box hS rfl _ _ rfl (.pointer none) _ rfl rfl ?_; clear hS; intro g2 w_ hS; (try simp only [Act.put, Act.eval, List.set_cons_zero, List.set_cons_succ, List.setIfInBounds_toArray, Array.getD_eq_getD_getElem?, List.getElem?_toArray, List.getElem?_cons_succ, List.getElem?_cons_zero, Option.getD_some, Value.cells] at hS))
    | ((with_reducible show wpList _ _ _ (⟨some 3, _, _, _, _, _⟩ :: _) _ _); refine st_box hS rfl _ _ rfl (.agg #[.slice A l.length c]) _ rfl rfl ?_; clear hS; intro g3 w_ hS; (try simp only [Act.put, Act.eval, List.set_cons_zero, List.set_cons_succ, List.setIfInBounds_toArray, Array.getD_eq_getD_getElem?, List.getElem?_toArray, List.getElem?_cons_succ, List.getElem?_cons_zero, Option.getD_some, Value.cells] at hS))
    | ((with_reducible show wpList _ _ _ (⟨some 4, _, _, _, _, _⟩ :: _) _ _); refine st_allocz hS rfl _ rfl (by kernel_rfl) #[.slice none 0 0] (by kernel_rfl) ?_; clear hS; intro g4 w_ hS; (try simp only [Act.put, Act.eval, List.set_cons_zero, List.set_cons_succ, List.setIfInBounds_toArray, Array.getD_eq_getD_getElem?, List.getElem?_toArray, List.getElem?_cons_succ, List.getElem?_cons_zero, Option.getD_some, Value.cells] at hS))
    | ((with_reducible show wpList _ _ _ (⟨some 5, _, _, _, _, _⟩ :: _) _ _); refine st_allocz hS rfl _ rfl (by kernel_rfl) #[.slice none 0 0] (by kernel_rfl) ?_; clear hS; intro g5 w_ hS; (try simp only [Act.put, Act.eval, List.set_cons_zero, List.set_cons_succ, List.setIfInBounds_toArray, Array.getD_eq_getD_getElem?, List.getElem?_toArray, List.getElem?_cons_succ, List.getElem?_cons_zero, Option.getD_some, Value.cells] at hS))
    | ((with_reducible show wpList _ _ _ (⟨_, .load _ _, _, _, _, _⟩ :: _) _ _); first | refine st_load hS 0 rfl _ _ rfl _ rfl _ _ rfl _ Tryd.underlying42 rfl (by kernel_rfl) ?_ | refine st_load hS 1 rfl _ _ rfl _ rfl _ _ rfl _ Tryd.underlying42 rfl (by kernel_rfl) ?_ | refine st_load hS 2 rfl _ _ rfl _ rfl _ _ rfl _ Tryd.underlying42 rfl (by kernel_rfl) ?_ | refine st_load hS 3 rfl _ _ rfl _ rfl _ _ rfl _ Tryd.underlying42 rfl (by kernel_rfl) ?_))
  refine (sall_any _ _ _ _ (k1 _ _ hS.ro)).mono ?_
  rintro e w3 ⟨_, rfl, ⟨Bs, A', cap, ws, rfl, e1, hcn, hvN, hsl, hBs, hX⟩, hb3⟩
  obtain rfl := canon_eq hcn hl hvN
  obtain ⟨rfl, rfl⟩ : A = A' ∧ c = cap := by simpa using e1
  clear e1 hvN
  obtain ⟨hT, hT0⟩ := kt _ _ hS.ro
  replace hS := hS.good hb3 hsl hT hT0 hBs hX
  obtain ⟨KK, kG, KKS, hS⟩ : ∃ KK : (Nat → Prop) → World → Prop, (∀ D w, KK D w → Good Bs A c ws w) ∧ Stable KK ∧ St w0 w3 [.box g5 42 #[.slice none 0 0], .box g4 42 #[.slice none 0 0], .box g3 42 #[.slice A ws.length c], .box g2 24 #[.pointer none]] KK := ⟨_, fun D w h => h.2.1, hS.stable, hS⟩
  have HCN := Lib.hid hcn
  clear hsl hX hT hT0 hb3 kt k1 hcn hl
  go_wp2_with fail
  have hsz := hS.size
  refine (wpIn_wide (n := 6)).1 ?_
  refine wpIn_act fun act hact => ?_
  refine range_allB hS HCN.out.1 HCN.out.2.2 kG (by rw [hact]; rfl) rfl
    (fun pre F' K' => ∃ u, F' = [.box g5 42 #[u], .box g4 42 #[.slice none 0 0], .box g3 42 #[.slice A ws.length c], .box g2 24 #[.pointer none]] ∧ Stable K' ∧ ∀ D w, K' D w → KK D w ∧ IsSet w (fun z => D z ∧ w0.heap.size ≤ z) (.agg #[u]) 0)
    (fun _ _ _ _ => False) (fun s F K' h D w hk => by obtain ⟨_, _, _, h4⟩ := h; exact (h4 D w hk).1) ?hr (fun _ _ _ _ h => h.elim) ⟨_, rfl, KKS, fun D w h => ⟨h, IsSet.empty⟩⟩
    (fun x => { tmps := (act.tmps.setIfInBounds 9 (.int .i64 x)).setIfInBounds 6 (.int .i64 x), defers := [] }) ?assign ?body ?done (fun _ _ _ _ _ _ _ _ h _ _ => h.elim)
  case hr =>
    rintro s F K' ⟨u, rfl, _⟩ f hf
    simp only [List.mem_cons, List.not_mem_nil, or_false] at hf
    rcases hf with rfl | rfl | rfl | rfl <;> exact .inl rfl
  case assign =>
    intro l x W K hK
    subst hact
    rw [zip_one]
    refine wpIn_region_lit ?_
    refine listIn_of (by intro _ _ h; exact h) _ _ _ (by rfl) _ _ ?_
    refine wpList_plain rfl fun _ hK' => opw_assign (v := .int .i64 x) rfl (by rfl) (hK' _ _ ?_)
    exact wpList_nil hK
  case body =>
    rintro l pre x hx W F' Xo K' ⟨ub, rfl, hKs, hk'⟩ hS hlt
    subst hact
    have HKP := Lib.hid hk'
    have hWs : W.heap.size ≤ W.heap.size := Nat.le_refl _
    clear hx hk'
    simp only [Act.put, List.setIfInBounds_toArray, List.set_cons_zero, List.set_cons_succ]
    refine wpIn_block ?_
    refine wpIn_region_of (by kernel_rfl) (by intro _ _ h; exact h) (by rfl) ?_
    refine any_region_tail (fun i__ v w => match i__ with
      | 0 => v = .agg #[ub]
      | 1 => v = .pointer none
      | 2 => v = .int .i64 x
      | 3 => v = .agg #[.slice none 0 0]
      | 4 => ∃ u, v = .agg #[u] ∧ u.oneCell' = true ∧ IsSet w (fun z => W.heap.size ≤ z) (.agg #[u]) 0
      | 5 => True
      | _ => True) 5 [] (by kernel_rfl) (by kernel_rfl) (by kernel_rfl) (by kernel_rfl) ?mono ⟨.inr ?r0, .inr ?r1, .inr ?r2, .inr ?r3, .inr ?r4, .inl (by decide), trivial⟩ ?post
    case mono =>
      intro i v w w' h hb
      match i, h with
      | 0, h => exact h
      | 1, h => exact h
      | 2, h => exact h
      | 3, h => exact h
      | 4, h => exact ⟨_, h.choose_spec.1, h.choose_spec.2.1, h.choose_spec.2.2.ext hb⟩
      | 5, h => exact h
      | _ + 6, h => trivial
    case r0 =>
      refine trule fun b__ w hW hold hpre => ⟨fun hwant K hK => ?_, fun hwant => ?_⟩
      · clear hwant
        have e5 : b__.eval (.tmp 5) = .pointer (some ⟨g5, 0, none⟩) := (hold 5 (by kernel_rfl)).trans rfl
        exact opw_row rfl e5 ((hS.ext (undrew hW)).box 0 rfl) Tryd.underlying42 rfl (by kernel_rfl) (hK _ _ rfl (Below.refl _ _))
      · rw [want_none rfl] at hwant; cases hwant
    case r1 =>
      refine trule fun b__ w hW hold hpre => ⟨fun hwant K hK => ?_, fun hwant => ?_⟩
      · clear hwant
        have e2 : b__.eval (.tmp 2) = .pointer (some ⟨g2, 0, none⟩) := (hold 2 (by kernel_rfl)).trans rfl
        exact opw_cell rfl e2 (by kernel_rfl) (((hS.ext (undrew hW)).box 3 rfl).cell 0) (hK _ _ rfl (Below.refl _ _))
      · rw [want_none rfl] at hwant; cases hwant
    case r2 =>
      refine trule fun b__ w hW hold hpre => ⟨fun hwant K hK => ?_, fun hwant => ?_⟩
      · clear hwant
        have e6 : b__.eval (.tmp 6) = .int .i64 x := (hold 6 (by kernel_rfl)).trans rfl
        exact opw_move rfl e6 (hK _ _ rfl (Below.refl _ _))
      · rw [want_none rfl] at hwant; cases hwant
    case r3 =>
      refine trule fun b__ w hW hold hpre => ⟨fun hwant K hK => ?_, fun hwant => ?_⟩
      · clear hwant
        have e11 : b__.eval (.tmp 11) = .pointer none := hpre ⟨1, _⟩ (Array.mem_of_getElem? (i := 0) rfl) rfl _ _ rfl rfl
        have e12 : b__.eval (.tmp 12) = .int .i64 x := hpre ⟨2, _⟩ (Array.mem_of_getElem? (i := 1) rfl) rfl _ _ rfl rfl
        refine opw_call rfl (by kernel_rfl) (by simp only [List.map_cons, List.map_nil, e11, e12]) (njun_any x w) fun v w' h hb => ?_
        exact hK v w' h hb
      · rw [want_none rfl] at hwant; cases hwant
    case r4 =>
      refine trule fun b__ w hW hold hpre => ⟨fun hwant K hK => ?_, fun hwant => ?_⟩
      · clear hwant
        have e10 : b__.eval (.tmp 10) = .agg #[ub] := hpre ⟨0, _⟩ (Array.mem_of_getElem? (i := 0) rfl) rfl _ _ rfl rfl
        have e13 : b__.eval (.tmp 13) = .agg #[.slice none 0 0] := hpre ⟨3, _⟩ (Array.mem_of_getElem? (i := 1) rfl) rfl _ _ rfl rfl
        refine opw_call rfl (by kernel_rfl) (by simp only [List.map_cons, List.map_nil, e10, e13]) (or_any (.agg #[ub]) (.agg #[.slice none 0 0]) 0 0 w _ (fun _ => True) (HKP.out _ _ (hS.ext (undrew hW)).ro.1).2 IsSet.empty) fun v w' h hb => ?_
        obtain ⟨u, rfl, h1⟩ := set_one h
        exact hK _ w' ⟨u, rfl, h1, h.imp fun z hz _ => Nat.le_trans (undrew hW).size hz⟩ hb
      · rw [want_none rfl] at hwant; cases hwant
    case post =>
      intro b__ wz hW hdf hsz hold hT
      have e5 : b__.eval (.tmp 5) = .pointer (some ⟨g5, 0, none⟩) := (hold 5 (by kernel_rfl)).trans rfl
      have e14 : (fun (v : Value) (w : World) => ∃ u, v = .agg #[u] ∧ u.oneCell' = true ∧ IsSet w (fun z => W.heap.size ≤ z) (.agg #[u]) 0) (b__.eval (.tmp 14)) wz := hT 4 _ 14 (by decide) rfl rfl
      have e10 : b__.eval (.tmp 10) = .agg #[ub] := hT 0 _ 10 (by decide) rfl rfl
      have e11 : b__.eval (.tmp 11) = .pointer none := hT 1 _ 11 (by decide) rfl rfl
      have e12 : b__.eval (.tmp 12) = .int .i64 x := hT 2 _ 12 (by decide) rfl rfl
      have e13 : b__.eval (.tmp 13) = .agg #[.slice none 0 0] := hT 3 _ 13 (by decide) rfl rfl
      obtain ⟨vs, hvs, hb⟩ := frame_of hdf hsz hold
      clear e5
      replace e14 := (hvs 14) ▸ e14
      replace e10 : vs 10 = .agg #[ub] := (hvs 10).symm.trans e10
      replace e11 : vs 11 = .pointer none := (hvs 11).symm.trans e11
      replace e12 : vs 12 = .int .i64 x := (hvs 12).symm.trans e12
      replace e13 : vs 13 = .agg #[.slice none 0 0] := (hvs 13).symm.trans e13
      subst hb
      clear hvs hold hT hdf hsz
      simp only [setAll, Act.put, List.setIfInBounds_toArray, List.set_cons_zero, List.set_cons_succ, List.getElem_toArray, List.getElem_cons_succ, List.getElem_cons_zero]
      (intro o_ ho_; simp only [List.getElem?_toArray, List.getElem?_cons_succ, List.getElem?_cons_zero, Option.some.injEq] at ho_; subst ho_)
      obtain ⟨un, e14, hu1, hun⟩ := e14
      have hsW := hS.size
      have hS1 := hS.ret hW (stable_inter (stable_set (v := .agg #[un]) (N := 0)) fun z => w0.heap.size ≤ z) (hun.imp fun z hz _ => ⟨hz, Nat.le_trans hsW hz⟩)
      refine opw_store rfl rfl e14 (hS1.box 0 rfl) (by kernel_rfl) rfl (by simpa using hu1) fun w4 h1 hU => ?_
      have hS2 := (hS1.upd 0 rfl (.box g5 42 #[un]) (upd_gb hU) ⟨(hS1.holds (.box g5 42 #[ub]) (by simp)).1, h1⟩ fun _ e => .inl e)
      refine ⟨_, _, ⟨un, rfl, hS2.stable, fun D w h => ⟨(HKP.out D w h.1.1).1, h.2⟩⟩, by rw [hU.size]; exact hW.size, hS2⟩
  case done =>
    rintro D W F' K' hD ⟨u, rfl, hKs, hk'⟩ hS hK
    subst hact
    obtain ⟨A3, c3, l3, he, -⟩ := ((hk' _ _ hS.ro).2).parts
    obtain rfl : u = .slice A3 l3.length c3 := by injection he with he; simpa using he
    clear he
    have hM := hS.mark hsz hD (by
      intro f hf
      simp only [List.mem_cons, List.not_mem_nil, or_false] at hf
      rcases hf with rfl | rfl | rfl | rfl <;> exact .inl rfl) hK rfl
    have HKP := Lib.hid hk'
    clear hk' hS hK
    have hS := hM
    clear hM
    simp only [List.cons_append, List.nil_append] at hS
    go_wp2_with (first
      | ((with_reducible show wpList _ _ _ (⟨_, .load _ _, _, _, _, _⟩ :: _) _ _); first | refine st_load hS 0 rfl _ _ rfl _ rfl _ _ rfl _ Tryd.underlying42 rfl (by kernel_rfl) ?_ | refine st_load hS 1 rfl _ _ rfl _ rfl _ _ rfl _ Tryd.underlying42 rfl (by kernel_rfl) ?_ | refine st_load hS 2 rfl _ _ rfl _ rfl _ _ rfl _ Tryd.underlying42 rfl (by kernel_rfl) ?_ | refine st_load hS 3 rfl _ _ rfl _ rfl _ _ rfl _ Tryd.underlying42 rfl (by kernel_rfl) ?_)
      | ((with_reducible show wpList _ _ _ (⟨_, .store _ _ _, _, _, _, _⟩ :: _) _ _); first | (refine st_store hS 0 rfl _ _ _ rfl _ _ rfl rfl _ _ rfl (by kernel_rfl) (by kernel_rfl) (by kernel_rfl) ?_; clear hS; intro w_ hS; (try simp only [Act.put, Act.eval, List.set_cons_zero, List.set_cons_succ, List.setIfInBounds_toArray, Array.getD_eq_getD_getElem?, List.getElem?_toArray, List.getElem?_cons_succ, List.getElem?_cons_zero, Option.getD_some, Value.cells] at hS)) | (refine st_store hS 1 rfl _ _ _ rfl _ _ rfl rfl _ _ rfl (by kernel_rfl) (by kernel_rfl) (by kernel_rfl) ?_; clear hS; intro w_ hS; (try simp only [Act.put, Act.eval, List.set_cons_zero, List.set_cons_succ, List.setIfInBounds_toArray, Array.getD_eq_getD_getElem?, List.getElem?_toArray, List.getElem?_cons_succ, List.getElem?_cons_zero, Option.getD_some, Value.cells] at hS)) | (refine st_store hS 2 rfl _ _ _ rfl _ _ rfl rfl _ _ rfl (by kernel_rfl) (by kernel_rfl) (by kernel_rfl) ?_; clear hS; intro w_ hS; (try simp only [Act.put, Act.eval, List.set_cons_zero, List.set_cons_succ, List.setIfInBounds_toArray, Array.getD_eq_getD_getElem?, List.getElem?_toArray, List.getElem?_cons_succ, List.getElem?_cons_zero, Option.getD_some, Value.cells] at hS)) | (refine st_store hS 3 rfl _ _ _ rfl _ _ rfl rfl _ _ rfl (by kernel_rfl) (by kernel_rfl) (by kernel_rfl) ?_; clear hS; intro w_ hS; (try simp only [Act.put, Act.eval, List.set_cons_zero, List.set_cons_succ, List.setIfInBounds_toArray, Array.getD_eq_getD_getElem?, List.getElem?_toArray, List.getElem?_cons_succ, List.getElem?_cons_zero, Option.getD_some, Value.cells] at hS)) | (refine st_cstore hS 0 rfl _ _ _ rfl _ _ _ rfl rfl rfl (by first | (simp; done) | (simp; omega) | exact of_decide_eq_true (by kernel_rfl)) rfl (by first | rfl | assumption) (by kernel_rfl) ?_; clear hS; intro w_ hS; (try simp only [Act.put, Act.eval, List.set_cons_zero, List.set_cons_succ, List.setIfInBounds_toArray, Array.getD_eq_getD_getElem?, List.getElem?_toArray, List.getElem?_cons_succ, List.getElem?_cons_zero, Option.getD_some, Value.cells] at hS)) | (refine st_cstore hS 1 rfl _ _ _ rfl _ _ _ rfl rfl rfl (by first | (simp; done) | (simp; omega) | exact of_decide_eq_true (by kernel_rfl)) rfl (by first | rfl | assumption) (by kernel_rfl) ?_; clear hS; intro w_ hS; (try simp only [Act.put, Act.eval, List.set_cons_zero, List.set_cons_succ, List.setIfInBounds_toArray, Array.getD_eq_getD_getElem?, List.getElem?_toArray, List.getElem?_cons_succ, List.getElem?_cons_zero, Option.getD_some, Value.cells] at hS)) | (refine st_cstore hS 2 rfl _ _ _ rfl _ _ _ rfl rfl rfl (by first | (simp; done) | (simp; omega) | exact of_decide_eq_true (by kernel_rfl)) rfl (by first | rfl | assumption) (by kernel_rfl) ?_; clear hS; intro w_ hS; (try simp only [Act.put, Act.eval, List.set_cons_zero, List.set_cons_succ, List.setIfInBounds_toArray, Array.getD_eq_getD_getElem?, List.getElem?_toArray, List.getElem?_cons_succ, List.getElem?_cons_zero, Option.getD_some, Value.cells] at hS)) | (refine st_cstore hS 3 rfl _ _ _ rfl _ _ _ rfl rfl rfl (by first | (simp; done) | (simp; omega) | exact of_decide_eq_true (by kernel_rfl)) rfl (by first | rfl | assumption) (by kernel_rfl) ?_; clear hS; intro w_ hS; (try simp only [Act.put, Act.eval, List.set_cons_zero, List.set_cons_succ, List.setIfInBounds_toArray, Array.getD_eq_getD_getElem?, List.getElem?_toArray, List.getElem?_cons_succ, List.getElem?_cons_zero, Option.getD_some, Value.cells] at hS))))
    refine leaves_marks (F := [.box g5 42 #[.slice A3 l3.length c3], .box g4 42 #[.slice A3 l3.length c3], .box g3 42 #[.slice A ws.length c], .box g2 24 #[.pointer none]]) ?_ [D] _ hS
    intro w' h
    refine ⟨_, results_cell_row rfl _ _ g4 42 _ (0, 0) _ rfl (h.box 1 rfl) Tryd.underlying42 rfl (by kernel_rfl), ?_⟩
    exact Ret.mk ((HKP.out _ _ h.ro).2.imp fun z hz _ => hz.2) h.below
end Go.Proofs.YtmlkgaiphpimiaaDoor
namespace Go.Proofs.YtmlkgaiphpimiaaDoor
open Go.RowKit
attribute [local go_sem ↓] Go.wp_at_zero Go.wp_at_succ
set_option maxRecDepth 20000
set_option exponentiation.threshold 5000

theorem LinkP.keep {w0 w : World} {F : List Fact} {K : (Nat → Prop) → World → Prop} {L : List (Nat × Nat)} {a b : Int} {r : Value} {z : Int} (h : LinkP w0 F K L a b r z w) (hs : Stable K) : St w0 w F K := by
  rcases h with ⟨_, _, _, h⟩ | ⟨_, _, _, _, _, _, _, ⟨_, _, _, h⟩ | ⟨_, _, _, _, h⟩ | ⟨_, _, _, _, _, h⟩⟩
  · exact h
  · exact h
  · exact h
  · exact h.mono hs fun _ _ h => h.1
theorem UnlinkP.keep {w0 w : World} {F : List Fact} {K : (Nat → Prop) → World → Prop} {L : List (Nat × Nat)} {a b : Int} {r : Value} {z : Int} (h : UnlinkP w0 F K L a b r z w) (hs : Stable K) : St w0 w F K := by
  rcases h with ⟨_, _, _, h⟩ | ⟨_, _, _, _, _, _, _, ⟨_, _, _, h⟩ | ⟨_, _, h⟩⟩
  · exact h
  · exact h
  · exact h.mono hs fun _ _ h => h.1
/-- a literal of one element -/
theorem St.lit1 {w0 w : World} {F : List Fact} {K : (Nat → Prop) → World → Prop} (h : St w0 w F K) (e : TypeId) (x : Value) : St w0 (w.alloc (.cells #[x] e)) (.own (.slice (some ⟨w.heap.size, 0, none⟩) 1 1) e 1 1 [x] :: F) K :=
  h.new ((Below.refl _ _).alloc (Nat.le_refl _) _) (.own _ e 1 1 [x]) ⟨rfl, .inr ⟨w.heap.size, 1, _, rfl, Nat.le_refl _, Box.new _ _ _, Nat.le_refl _, by simp [maxLen], rfl, rfl⟩⟩
set_option maxHeartbeats 4000000 in
theorem lkeeps_any (pv : Value) (ops : List OpD) (hO : ∀ x ∈ ops, x.ok) (a b : Int) (W : World) (D : Nat → Prop) (hp : Sl W D 3 pv ops.length (ocells ops)) (hT : DTab W) : Calls Tryd.prog 10 #[pv, .int .i64 a, .int .i64 b] W (Ret (fun x _ => x = .bool true) W) := by
  obtain ⟨A0, c0, rfl, _, _⟩ := hp.shape
  obtain ⟨K, kt, kp, hS⟩ := start_ops hT hp
  have HO := Lib.hid hO
  clear hO hT hp
  go_enter Tryd.func10, Tryd.ntmps10
  go_wp2_with (first
    | (go_at_call 13; refine (lawake10_any hS kt).mono ?_; rintro e w_ ⟨rfl, hS⟩)
    | (go_at_call 29; refine (lplay_any _ ops HO.out hS kt kp).mono ?_; rintro e w_ ⟨p, v, L, rfl, hH, hl, hS⟩; replace hH := Lib.hid hH; obtain ⟨q, o, rfl, -⟩ := id hS.ro.2; obtain ⟨A, c, rfl, _, _⟩ := hS.ro.1.2.shape; obtain ⟨KY, kI, kL, kt2, hS2⟩ : ∃ KY : (Nat → Prop) → World → Prop, (∀ D w, KY D w → IsH w D (.pointer (some ⟨q, 0, none⟩)) L) ∧ (∀ D w, KY D w → Sl w D 2 (.slice A L.length c) L.length (pcells L)) ∧ (∀ D w, KY D w → DTab w ∧ D 0) ∧ St W w_ [] KY := ⟨_, fun D w h => h.2, fun D w h => h.1.2, fun D w h => kt D w h.1.1, hS⟩; clear hS; have hS := hS2; clear hS2 kt kp; have KSY := hS.stable; have hll : L.length ≤ 900000 := by omega)
    | (go_at_call 44; refine (hlink_any _ L a b hH.out hll hS kI kt2).mono ?_; rintro e w_ ⟨r1, z1, rfl, hs⟩; replace hS := hs.keep KSY; clear hs)
    | (go_at_call 34; refine (hunlink_any _ L a b hH.out hll hS kI kt2).mono ?_; rintro e w_ ⟨r2, z2, rfl, hs⟩; replace hS := hs.keep KSY; clear hs)
    | (go_at_call 31; refine (hlinks_any (by first | exact kI _ _ hS.ro | exact kI _ _ hS.ro.1 | exact kI _ _ hS.ro.1.1 | exact kI _ _ hS.ro.1.1.1 | exact kI _ _ hS.ro.1.1.1.1 | exact kI _ _ hS.ro.1.1.1.1.1 | exact kI _ _ hS.ro.1.1.1.1.1.1 | exact kI _ _ hS.ro.1.1.1.1.1.1.1 | exact kI _ _ hS.ro.1.1.1.1.1.1.1.1 | exact kI _ _ hS.ro.1.1.1.1.1.1.1.1.1 | exact kI _ _ hS.ro.1.1.1.1.1.1.1.1.1.1 | exact kI _ _ hS.ro.1.1.1.1.1.1.1.1.1.1.1) (by omega)).mono ?_; rintro e w_ ⟨v1, rfl, hs⟩; replace hS := hS.new hs.below (.own v1 50 2 L.length (pcells L)) (hs.own 0 rfl); clear hs; obtain ⟨A1, c1, rfl, _, _⟩ := own_shp (hS.own 0 rfl)))
  go_loopw [39] (fun i wr => ∃ (j : Nat) (M : List (Nat × Nat)), i = .int .i64 (j : Nat) ∧ j ≤ L.length ∧ Hid (M.length = L.length) ∧ St W wr [.own (.slice A1 L.length c1) 50 2 L.length (pcells M)] KY) (fun i _ => L.length - (intOf i).toNat)
  case atStart => exact ⟨0, L, rfl, by omega, Lib.hid rfl, hS⟩
  case round =>
    clear hS
    obtain ⟨j, M, rfl, hj, HM, hS⟩ := hrel
    by_cases hjl : j < L.length
    · obtain ⟨g, cap, hv, _, _⟩ := own_pos (hS.own 0 rfl) (by omega)
      obtain ⟨rfl, rfl⟩ : A1 = some ⟨g, 0, none⟩ ∧ c1 = cap := by simpa using hv
      clear hv
      go_wp2_with (first
        | ((with_reducible show wpList _ _ _ (⟨_, .binOp _ _ _ _ _, _, _, _, _⟩ :: _) _ _); (first | ((with_reducible show wpList _ _ _ (⟨_, .binOp .lss _ _ _ _, _, _, _, _⟩ :: _) _ _); refine st_lss rfl _ _ _ _ rfl _ _ _ rfl rfl (fun h_ => ?_) (fun h_ => ?_)) | ((with_reducible show wpList _ _ _ (⟨_, .binOp .leq _ _ _ _, _, _, _, _⟩ :: _) _ _); refine st_leq rfl _ _ _ _ rfl _ _ _ rfl rfl (fun h_ => ?_) (fun h_ => ?_)) | ((with_reducible show wpList _ _ _ (⟨_, .binOp .gtr _ _ _ _, _, _, _, _⟩ :: _) _ _); refine st_gtr rfl _ _ _ _ rfl _ _ _ rfl rfl (fun h_ => ?_) (fun h_ => ?_)) | ((with_reducible show wpList _ _ _ (⟨_, .binOp .geq _ _ _ _, _, _, _, _⟩ :: _) _ _); refine st_geq rfl _ _ _ _ rfl _ _ _ rfl rfl (fun h_ => ?_) (fun h_ => ?_)) | ((with_reducible show wpList _ _ _ (⟨_, .binOp .eql _ _ _ _, _, _, _, _⟩ :: _) _ _); refine st_eql rfl _ _ _ _ rfl _ _ _ rfl rfl (fun h_ => ?_) (fun h_ => ?_)) | ((with_reducible show wpList _ _ _ (⟨_, .binOp .neq _ _ _ _, _, _, _, _⟩ :: _) _ _); refine st_neq rfl _ _ _ _ rfl _ _ _ rfl rfl (fun h_ => ?_) (fun h_ => ?_))) <;> go_prune)
        | ((with_reducible show wpList _ _ _ (⟨some 45, _, _, _, _, _⟩ :: _) _ _); refine BigFrame.wpList_want rfl fun _ hK => opw_iaddr (v := .pointer (some ⟨g, j * 2, none⟩)) rfl rfl rfl (by have h := run_iaddr_lit (P := Tryd.prog) (b := g) (o := 0) (c := c1) (k := .i64) (w := w_) Tryd.underlying25 (size := 2) (by kernel_rfl) rfl hjl; rw [Nat.zero_add] at h; exact h) (hK _ _ ?_))
        | ((with_reducible show wpList _ _ _ (⟨_, .store _ _ _, _, _, _, _⟩ :: _) _ _); refine BigFrame.wpList_want rfl fun _ hK => opw_ostore2 (i := j * 2) rfl rfl rfl (hS.own 0 rfl) (by omega) rfl rfl (by kernel_rfl) fun w3 hX hU => hK _ _ ?_; replace hS := hS.upd 0 rfl (.own (.slice (some ⟨g, 0, none⟩) L.length c1) 50 2 L.length _) (upd_gb hU) hX (fun _ e => .inl e)))
      have e := pcells_set M j (9, 9)
      replace hS : St W w3 [.own (.slice (some ⟨g, 0, none⟩) L.length c1) 50 2 L.length (pcells (M.set j (9, 9)))] KY := by rw [← e]; exact hS
      exact ⟨⟨j + 1, M.set j (9, 9), by go_num, hjl, Lib.hid (by rw [List.length_set]; exact HM.out), hS⟩, by simp [intOf]; omega⟩
    · have kT : ∀ D w, KY D w → DTab w := fun D w h => (kt2 D w h).1
      go_wp2_with (first
        | (go_at_call 44; refine (nlink_any _ _ _).mono ?_; rintro r_ w_ ⟨_, rfl, rfl, hb_⟩; replace hS := hS.ext hb_; clear hb_)
        | (go_at_call 34; refine (nunlink_any _ _ _).mono ?_; rintro r_ w_ ⟨_, rfl, rfl, hb_⟩; replace hS := hS.ext hb_; clear hb_)
        | (go_at_call 17; refine (nchain_any _ _ _).mono ?_; rintro r_ w_ ⟨_, rfl, rfl, hb_⟩; replace hS := hS.ext hb_; clear hb_)
        | (go_at_call 15; refine (nimplies_any _ _ _).mono ?_; rintro r_ w_ ⟨_, rfl, rfl, hb_⟩; replace hS := hS.ext hb_; clear hb_)
        | (go_at_call 21; refine (njun_any _ _).mono ?_; rintro r_ w_ ⟨_, rfl, rfl, hb_⟩; replace hS := hS.ext hb_; clear hb_)
        | (go_at_call 25; refine (nsen_any _ _).mono ?_; rintro r_ w_ ⟨_, rfl, rfl, hb_⟩; replace hS := hS.ext hb_; clear hb_)
        | (go_at_call 40; refine (ndirect_any _ _).mono ?_; rintro r_ w_ ⟨_, rfl, rfl, hb_⟩; replace hS := hS.ext hb_; clear hb_)
        | (go_at_call 32; refine (nred_any _).mono ?_; rintro r_ w_ ⟨_, rfl, rfl, hb_⟩; replace hS := hS.ext hb_; clear hb_)
        | (go_at_call 47; refine (nbytes_any _).mono ?_; rintro r_ w_ ⟨_, rfl, rfl, hb_⟩; replace hS := hS.ext hb_; clear hb_)
        | (go_at_call 31; first
        | ((with_reducible show Calls _ _ #[.pointer none] _ _); refine (nlinks_any _).mono ?_; rintro r_ w_ ⟨_, rfl, rfl, hb_⟩; replace hS := hS.ext hb_; clear hb_)
        | (refine (hlinks_any (by first | exact kI _ _ hS.ro | exact kI _ _ hS.ro.1 | exact kI _ _ hS.ro.1.1 | exact kI _ _ hS.ro.1.1.1 | exact kI _ _ hS.ro.1.1.1.1 | exact kI _ _ hS.ro.1.1.1.1.1 | exact kI _ _ hS.ro.1.1.1.1.1.1 | exact kI _ _ hS.ro.1.1.1.1.1.1.1 | exact kI _ _ hS.ro.1.1.1.1.1.1.1.1 | exact kI _ _ hS.ro.1.1.1.1.1.1.1.1.1 | exact kI _ _ hS.ro.1.1.1.1.1.1.1.1.1.1 | exact kI _ _ hS.ro.1.1.1.1.1.1.1.1.1.1.1) (by omega)).mono ?_; rintro e w_ ⟨v3, rfl, hs⟩; replace hS := hS.new hs.below (.own v3 50 2 L.length (pcells L)) (hs.own 0 rfl); clear hs))
        | (go_at_call 30; refine (peq_any (Sl.of_own (hS.own 0 rfl)) (by first | exact kL _ _ hS.ro | exact kL _ _ hS.ro.1 | exact kL _ _ hS.ro.1.1 | exact kL _ _ hS.ro.1.1.1 | exact kL _ _ hS.ro.1.1.1.1 | exact kL _ _ hS.ro.1.1.1.1.1 | exact kL _ _ hS.ro.1.1.1.1.1.1 | exact kL _ _ hS.ro.1.1.1.1.1.1.1 | exact kL _ _ hS.ro.1.1.1.1.1.1.1.1 | exact kL _ _ hS.ro.1.1.1.1.1.1.1.1.1 | exact kL _ _ hS.ro.1.1.1.1.1.1.1.1.1.1 | exact kL _ _ hS.ro.1.1.1.1.1.1.1.1.1.1.1) (by omega)).mono ?_; rintro r_ w_ ⟨_, rfl, rfl, hb_⟩; rw [decide_eq_true rfl]; replace hS := hS.ext hb_; clear hb_)
        | (go_at_call 46; replace hS := hS.lit1 3 (.int .i64 1); refine (of_any _ [1] _ _ (Sl.of_own (hS.own 0 rfl))).mono ?_; rintro r_ w_ ⟨_, rfl, hM, hb_⟩; replace hS := hS.ret2 hb_ stable_set (hM.imp fun z hz _ => .inr hz); clear hb_ hM)
        | (go_at_call 35; refine (nclos_any (by first | exact kT _ _ hS.ro | exact kT _ _ hS.ro.1 | exact kT _ _ hS.ro.1.1 | exact kT _ _ hS.ro.1.1.1 | exact kT _ _ hS.ro.1.1.1.1 | exact kT _ _ hS.ro.1.1.1.1.1 | exact kT _ _ hS.ro.1.1.1.1.1.1 | exact kT _ _ hS.ro.1.1.1.1.1.1.1 | exact kT _ _ hS.ro.1.1.1.1.1.1.1.1 | exact kT _ _ hS.ro.1.1.1.1.1.1.1.1.1 | exact kT _ _ hS.ro.1.1.1.1.1.1.1.1.1.1 | exact kT _ _ hS.ro.1.1.1.1.1.1.1.1.1.1.1) hS.ro.2).mono ?_; rintro r_ w_ ⟨_, rfl, hM, hb_⟩; replace hS := hS.ret2 hb_ stable_set (hM.imp fun z hz _ => .inr hz); clear hb_ hM)
        | (go_at_call 45; first
        | ((with_reducible show Calls _ _ #[.agg #[.slice none 0 0]] _ _); refine (empty_any _ 0 _ (fun _ => True) IsSet.empty).mono ?_; rintro r_ w_ ⟨_, rfl, rfl, hb_⟩; rw [beq_self_eq_true]; replace hS := hS.ext hb_; clear hb_)
        | (refine (empty_any _ 0 _ _ hS.ro.2).mono ?_; rintro r_ w_ ⟨_, rfl, rfl, hb_⟩; rw [beq_self_eq_true]; replace hS := hS.ext hb_; clear hb_))
        | (go_at_call 48; first
        | ((with_reducible show Calls _ _ #[.pointer none, .pointer none] _ _); refine (neq_any _).mono ?_; rintro r_ w_ ⟨_, rfl, rfl, hb_⟩; replace hS := hS.ext hb_; clear hb_)
        | ((with_reducible show Calls _ _ #[.pointer none, .pointer (some _)] _ _); refine (neq1_any _ _).mono ?_; rintro r_ w_ ⟨_, rfl, rfl, hb_⟩; replace hS := hS.ext hb_; clear hb_)
        | ((with_reducible show Calls _ _ #[.pointer (some _), .pointer none] _ _); refine (neq2_any _ _).mono ?_; rintro r_ w_ ⟨_, rfl, rfl, hb_⟩; replace hS := hS.ext hb_; clear hb_))
        | ((with_reducible show wpList _ _ _ (⟨_, .binOp _ _ _ _ _, _, _, _, _⟩ :: _) _ _); (first | ((with_reducible show wpList _ _ _ (⟨_, .binOp .lss _ _ _ _, _, _, _, _⟩ :: _) _ _); refine st_lss rfl _ _ _ _ rfl _ _ _ rfl rfl (fun h_ => ?_) (fun h_ => ?_)) | ((with_reducible show wpList _ _ _ (⟨_, .binOp .leq _ _ _ _, _, _, _, _⟩ :: _) _ _); refine st_leq rfl _ _ _ _ rfl _ _ _ rfl rfl (fun h_ => ?_) (fun h_ => ?_)) | ((with_reducible show wpList _ _ _ (⟨_, .binOp .gtr _ _ _ _, _, _, _, _⟩ :: _) _ _); refine st_gtr rfl _ _ _ _ rfl _ _ _ rfl rfl (fun h_ => ?_) (fun h_ => ?_)) | ((with_reducible show wpList _ _ _ (⟨_, .binOp .geq _ _ _ _, _, _, _, _⟩ :: _) _ _); refine st_geq rfl _ _ _ _ rfl _ _ _ rfl rfl (fun h_ => ?_) (fun h_ => ?_)) | ((with_reducible show wpList _ _ _ (⟨_, .binOp .eql _ _ _ _, _, _, _, _⟩ :: _) _ _); refine st_eql rfl _ _ _ _ rfl _ _ _ rfl rfl (fun h_ => ?_) (fun h_ => ?_)) | ((with_reducible show wpList _ _ _ (⟨_, .binOp .neq _ _ _ _, _, _, _, _⟩ :: _) _ _); refine st_neq rfl _ _ _ _ rfl _ _ _ rfl rfl (fun h_ => ?_) (fun h_ => ?_))) <;> go_prune))
      go_ret
      exact Ret.mk rfl hS.below
end Go.Proofs.YtmlkgaiphpimiaaDoor
namespace Go.Proofs.YtmlkgaiphpimiaaDoor
open Go.RowKit Go.ChangeShapes Go.WideShapes

section
variable {H : Type} {enc : TypeId × Value → H} {P : Program} {w : World} {base : Nat} {sp : Nat → Bool} {held : Bool}
/-- A SLICE THAT READS AS DATA: its cells, element by element. -/
theorem sl_of_trod {t e : TypeId} {size fuel : Nat} {cs : List Value} {x : DataW H × List MemPlace} (ht : P.underlying t = some (.slice e)) (hc : P.cellsOf e = size) (hsz : 0 < size) (h : DataW.trod enc P w base sp held fuel t cs = some x) :
    ∃ v n xs, cs = [v] ∧ Sl w (fun _ => True) size v n xs ∧ ∀ k, k < n → ∃ f' y, DataW.trod enc P w base sp held f' e ((xs.drop (k * size)).take size) = some y := by
  rcases DataW.trod_slice ht h with ⟨rfl, _⟩ | ⟨a, len, cap, elems, rest, n, _, rfl, _, hb, hl, hm, hlen, hel, _⟩
  · exact ⟨_, 0, [], rfl, ⟨by simp, none, 0, rfl, Nat.le_refl _, Nat.zero_le _, fun h => by omega⟩, fun k hk => by omega⟩
  · rw [hc] at hel
    have each : ∀ k, k < len → ∃ ck y, w.cells? base (a.add (k * size)) size = some ck ∧ DataW.trod enc P w base sp held n e ck = some y := by
      intro k hk
      have h1 := hel k hk
      rw [List.getElem?_eq_getElem (by omega)] at h1
      obtain ⟨ck, h2, h3⟩ := Option.bind_eq_some_iff.1 h1
      exact ⟨ck, _, h2, h3⟩
    have hadd : ∀ i j, (a.add i).add j = a.add (i + j) := by
      intro i j
      unfold Addr.add
      by_cases h1 : i = 0 <;> by_cases h2 : j = 0 <;> simp [h1, h2, Nat.add_assoc]
    have cell : ∀ j, j < len * size → ∃ x, w.cell? (a.add j) = some x := by
      intro j hj
      have hk : j / size < len := (Nat.div_lt_iff_lt_mul hsz).2 hj
      obtain ⟨ck, y, h1, h2⟩ := each _ hk
      obtain ⟨_, h3, h4⟩ := World.cells?_some h1
      have h5 := h4 (j % size) (Nat.mod_lt _ hsz)
      rw [hadd, Nat.mul_comm, Nat.div_add_mod] at h5
      rw [h5, List.getElem?_eq_getElem (by rw [h3]; exact Nat.mod_lt _ hsz)]
      exact ⟨_, rfl⟩
    refine ⟨.slice (some a) len cap, len, (List.range (len * size)).map fun j => (w.cell? (a.add j)).getD undef, rfl, ⟨by simp, some a, cap, rfl, hl, hm, fun h0 => ?_⟩, fun k hk => ?_⟩
    · obtain ⟨x0, hx0⟩ := cell 0 (Nat.mul_pos h0 hsz)
      obtain ⟨b, o, s⟩ := a
      have hs : s = none := cell_spot hx0
      subst hs
      refine ⟨b, o, rfl, trivial, ?_, fun j x hx => ?_⟩
      · have := hx0
        unfold World.cell? at this
        simp only [Addr.add] at this
        rcases Nat.lt_or_ge b w.heap.size with hlt | hge
        · exact hlt
        · simp [Array.getElem?_eq_none hge] at this
      · simp only [List.getElem?_map, Option.map_eq_some_iff] at hx
        obtain ⟨j', hj', rfl⟩ := hx
        have hjl := (List.getElem?_eq_some_iff.1 hj').1
        rw [List.getElem?_range (by simpa using hjl)] at hj'
        obtain rfl := Option.some.inj hj'
        obtain ⟨y, hy⟩ := cell j (by simpa using hjl)
        rw [hy]
        have e : (⟨b, o, none⟩ : Addr).add j = ⟨b, o + j, none⟩ := by
          unfold Addr.add; split <;> simp [*]
        rw [e] at hy
        exact hy
    · obtain ⟨ck, y, h1, h2⟩ := each k hk
      obtain ⟨_, h3, h4⟩ := World.cells?_some h1
      refine ⟨n, y, ?_⟩
      rw [← h2]
      congr 1
      have hle : k * size + size ≤ len * size := by
        rw [← Nat.succ_mul]; exact Nat.mul_le_mul_right _ hk
      apply List.ext_getElem?
      intro i
      rcases Nat.lt_or_ge i size with hi | hi
      · rw [List.getElem?_take_of_lt hi, List.getElem?_drop, List.getElem?_map, List.getElem?_range (by omega)]
        have h5 := h4 i hi
        rw [hadd] at h5
        simp only [Option.map_some]
        rw [h5, List.getElem?_eq_getElem (by omega)]
        simp
      · rw [List.getElem?_eq_none (by simp; omega), List.getElem?_eq_none (by omega)]
end
theorem list3 {α : Type} {l : List α} (h : l.length = 3) : ∃ a b c, l = [a, b, c] := by
  match l, h with
  | [a, b, c], _ => exact ⟨a, b, c, rfl⟩
theorem list3r {α : Type} {l : List α} {n : Nat} (h : l.length = (n + 1) * 3) : ∃ a b c r, l = a :: b :: c :: r := by
  match l, h with
  | [], h => simp at h
  | [_], h => simp at h; omega
  | [_, _], h => simp at h; omega
  | a :: b :: c :: r, _ => exact ⟨a, b, c, r, rfl⟩
end Go.Proofs.YtmlkgaiphpimiaaDoor
namespace Go.Proofs.YtmlkgaiphpimiaaDoor
open Go.RowKit Go.ChangeShapes Go.WideShapes

theorem boxF_of_reads {w : World} {n : String} {g : Nat} {t e : TypeId} {m : Nat} {k : IntKind} {zs : List Int} (hg : Tryd.prog.globalNamed n = some g) (hty : (Tryd.prog.globals[g]?).map (·.type) = some t)
    (ht : Tryd.prog.underlying t = some (.array m e)) (he : Tryd.prog.underlying e = some (.int k)) (hce : Tryd.prog.cellsOf e = 1) (hct : Tryd.prog.cellsOf t = m) (h : Lib.VarReads Tryd.prog w n (Lib.tabData k zs)) :
    ∃ t, BoxF w g t (zs.map fun z => Value.int k z).toArray := by
  obtain ⟨g', t', cs, fuel, p, hg', hty', hvar, hd⟩ := h
  obtain rfl := Option.some.inj (hg.symm.trans hg')
  obtain rfl := Option.some.inj (hty.symm.trans hty')
  have hcs := Lib.cells_of_tab ht he hce hct hd
  simp only [World.var?, hg, Option.bind_some] at hvar
  split at hvar
  · rename_i cs' t'' f heq
    obtain rfl := Option.some.inj hvar
    refine ⟨(t'', f), ?_⟩
    rw [← hcs]
    exact heq
  · cases hvar
end Go.Proofs.YtmlkgaiphpimiaaDoor
namespace Go.Proofs.YtmlkgaiphpimiaaDoor
open Go.RowKit Go.ChangeShapes Go.WideShapes

theorem dtab_of_reads {w : World} (h1 : Lib.VarReads Tryd.prog w "math/bits.deBruijn64tab" Rows.laid_math_bits_deBruijn64tab) : DTab w := by
  have e1 : (Rows.laid_math_bits_deBruijn64tab : DataW Unit) = Lib.tabData .u8 (dbL.map fun x : Nat => (x : Int)) := by kernel_rfl
  rw [e1] at h1
  obtain ⟨t, b1⟩ := boxF_of_reads (g := 0) (by kernel_rfl) (t := 133) (by kernel_rfl) Tryd.underlying133 Tryd.underlying5 (by kernel_rfl) (by kernel_rfl) h1
  have e : (List.map (fun z => Value.int .u8 z) (dbL.map fun x : Nat => (x : Int))) = u8s dbL := by simp [u8s]
  rw [e] at b1
  intro q hq
  rw [b1.cell, List.getElem?_toArray]
  exact u8s_at _ _ hq
end Go.Proofs.YtmlkgaiphpimiaaDoor
namespace Go.Proofs.YtmlkgaiphpimiaaDoor
open Go.ChangeShapes Go.WideShapes Go.ChangeAt Go.RowKit

section
variable {P : Program} {H : Type} {enc : TypeId × Value → H} {W : World} {r : Reach} {b0 base : Nat} {sp : Nat → Bool} {held : Bool} {v : Value} {d : DataW H} {p : List MemPlace} {t : TypeId}
theorem int_open {k : IntKind} (ht : P.underlying t = some (.int k)) (hv : Value.okWide P W r b0 t v) (h : DataW.Trod enc P W base sp held t v d p) : ∃ n, v = .int k n ∧ (Lit.int k n).wf = true := by
  obtain ⟨n, rfl⟩ := okWide_int ht hv
  obtain ⟨fuel, hf⟩ := h
  obtain ⟨m, e, _, w⟩ := DataW.trod_int ht hf
  simp [Value.cells] at e
  subst e
  exact ⟨_, rfl, w⟩
theorem i64_open (ht : P.underlying t = some (.int .i64)) (hv : Value.okWide P W r b0 t v) (h : DataW.Trod enc P W base sp held t v d p) : ∃ n : Int, v = .int .i64 n ∧ -9223372036854775808 ≤ n ∧ n < 9223372036854775808 := by
  obtain ⟨n, rfl, w⟩ := int_open ht hv h
  have := bounds_i64 w
  exact ⟨n, rfl, by omega, by omega⟩
end
end Go.Proofs.YtmlkgaiphpimiaaDoor
namespace Go.Proofs.YtmlkgaiphpimiaaDoor
open Go.ChangeShapes Go.WideShapes Go.ChangeAt Go.RowKit

theorem i8_of {n : Int} (h : (Lit.int .i8 n).wf = true) : -128 ≤ n ∧ n ≤ 127 := by
  have := bounds_i8 h
  omega
set_option maxRecDepth 20000 in
theorem ops_open {H : Type} {enc : TypeId × Value → H} {W : World} {r : Reach} {b0 base : Nat} {sp : Nat → Bool} {held : Bool} {v : Value} {d : DataW H} {p : List MemPlace} (hv : Value.okWide Tryd.prog W r b0 47 v) (h : DataW.Trod enc Tryd.prog W base sp held 47 v d p) :
    ∃ ops : List OpD, (∀ x ∈ ops, x.ok) ∧ Sl W (fun _ => True) 3 v ops.length (ocells ops) := by
  obtain ⟨a0, len0, cap0, rfl⟩ := okWide_slice Tryd.underlying47 hv
  obtain ⟨fuel, hf⟩ := h
  obtain ⟨v, n, xs, e, hs, he⟩ := sl_of_trod Tryd.underlying47 (size := 3) (by kernel_rfl) (by decide) hf
  obtain rfl : v = .slice a0 len0 cap0 := by simpa [Value.cells] using e.symm
  have hl := hs.1
  have : ∃ zs : List OpD, xs = ocells zs ∧ zs.length = n ∧ ∀ c ∈ zs, c.ok := by
    clear hs hf e
    induction n generalizing xs with
    | zero => exact ⟨[], List.length_eq_zero_iff.1 (by simpa using hl), rfl, by simp⟩
    | succ n ih =>
      obtain ⟨f', y, hy⟩ := he 0 (by omega)
      simp only [Nat.zero_mul, List.drop_zero] at hy
      obtain ⟨zs, hz, hn, hok⟩ := ih (xs.drop 3) (fun k hk => by
        obtain ⟨f', y, h⟩ := he (k + 1) (by omega)
        refine ⟨f', y, ?_⟩
        rw [List.drop_drop]
        rw [show 3 + k * 3 = (k + 1) * 3 by omega]
        exact h) (by simp; omega)
      obtain ⟨ys, m, rfl, _, _, hyl, hf⟩ := DataW.trod_struct Tryd.underlying87 hy
      obtain ⟨y0, y1, y2, rfl⟩ := list3 (show ys.length = 3 from hyl)
      obtain ⟨a, b, c, r, rfl⟩ := list3r hl
      · clear hyl
        have g0 : DataW.trod enc Tryd.prog W base sp held m 4 (((a :: b :: c :: r).take 3).drop 0 |>.take (Tryd.prog.cellsOf 4)) = some y0 := hf 0 _ rfl
        have g1 : DataW.trod enc Tryd.prog W base sp held m 85 (((a :: b :: c :: r).take 3).drop 1 |>.take (Tryd.prog.cellsOf 85)) = some y1 := hf 1 _ rfl
        have g2 : DataW.trod enc Tryd.prog W base sp held m 85 (((a :: b :: c :: r).take 3).drop 2 |>.take (Tryd.prog.cellsOf 85)) = some y2 := hf 2 _ rfl
        have c1 : Tryd.prog.cellsOf 85 = 1 := by kernel_rfl
        have c2 : Tryd.prog.cellsOf 4 = 1 := by kernel_rfl
        rw [c1] at g1 g2
        rw [c2] at g0
        obtain ⟨n0, e0, _⟩ := DataW.trod_bool Tryd.underlying4 (x := y0) (by simpa using g0)
        obtain ⟨n1, e1, _, w1⟩ := DataW.trod_int Tryd.underlying85 (x := y1) (by simpa using g1)
        obtain ⟨n2, e2, _, w2⟩ := DataW.trod_int Tryd.underlying85 (x := y2) (by simpa using g2)
        simp at e0 e1 e2
        subst e0 e1 e2
        refine ⟨⟨n0, n1, n2⟩ :: zs, ?_, by simp [hn], fun c hc => ?_⟩
        · show _ = _ :: _ :: _ :: ocells zs
          rw [← hz]; rfl
        · rcases List.mem_cons.1 hc with rfl | hc
          · exact ⟨i8_of w1, i8_of w2⟩
          · exact hok c hc
  obtain ⟨zs, rfl, rfl, hok⟩ := this
  exact ⟨zs, hok, hs⟩
end Go.Proofs.YtmlkgaiphpimiaaDoor
namespace Go.Proofs.YtmlkgaiphpimiaaDoor
open Go.ChangeShapes Go.WideShapes Go.ChangeAt Go.RowKit

theorem keeps_laid_plain (W : World) (h : laidMetH Tryd.prog Rows.hierarchyKeepsRow.laid W) : DTab W := by
  have h' : laidMetH Tryd.prog [("math/bits.deBruijn64tab", Rows.laid_math_bits_deBruijn64tab)] W := h
  rw [MakeChecks.laidMetH_plain _ _ _ (by kernel_rfl)] at h'
  exact dtab_of_reads (Lib.laidMet.reads h' (.head _))
noncomputable def keepsStart (os : Os) : World := World.laidAll Tryd.prog os Rows.hierarchyKeepsRow.laid
theorem keeps_start_met (os : Os) (args : Array Value) : laidMetH Tryd.prog Rows.hierarchyKeepsRow.laid ((keepsStart os).forCall (fun _ _ => 0) ⟨#[], args, []⟩).memory := by
  rw [MakeChecks.laidMetH_plain _ _ _ (by kernel_rfl)]
  exact laidMet_laidAll _ (by kernel_rfl) (by kernel_rfl)
theorem keeps_own : ownKnob Tryd.prog.godebug = none := by kernel_rfl
theorem keeps_laidOut : laidOutB Tryd.prog = true := by kernel_rfl

set_option maxRecDepth 100000 in
theorem keeps_lifted (os : Os) (started : os.Started) (H : Type) (enc : TypeId × Value → H) :
    ReturnsInHanded {} Tryd.checked os 10 .any (fun w args => (Rows.hierarchyKeepsSpec.pre enc Tryd.prog Tryd.f10 [] false w args ∧ laidMetH Tryd.prog Rows.hierarchyKeepsRow.laid w) ∧ sizedMet enc Tryd.prog Tryd.f10 (OpenSpec.ofChange Rows.hierarchyKeepsSpec) false w args)
      (Rows.hierarchyKeepsSpec.post enc Tryd.prog Tryd.f10 false true false false) := by
  refine returnsInHanded_of_change_and (C := Tryd.checked) (X := fun w _ => laidMetH Tryd.prog Rows.hierarchyKeepsRow.laid w) (fun _ _ _ hh h => h.of_heap hh) keeps_own started (by kernel_rfl) Tryd.func10
    (ChangeSpec.witness_shaped (enc := enc) (C := Tryd.checked) (os := os) (X := fun w _ => laidMetH Tryd.prog Rows.hierarchyKeepsRow.laid w) false (keepsStart os) #[.slice none 0 0, .int .i64 0, .int .i64 0] 8 (World.laidAll_os _ _ _) (World.shaped_of_ZipB (by kernel_rfl) (by kernel_rfl)) (by kernel_rfl) (by kernel_rfl) (by kernel_rfl) (keeps_start_met os _)) ?_
  intro W base args ds gs before hval0 hW _ _ hL _
  have hval : ∀ (j : Nat) t v, Tryd.f10.params[j]? = some t → args[j]? = some v → Value.okWide Tryd.prog W .any base t v := hval0
  have hW' := hW
  obtain ⟨p, q, hA0, hV, rfl, hfz, hnd⟩ := hW
  have hA : DataW.TrodAll enc Tryd.prog W 0 (fun _ => true) true Tryd.f10.params.toList args.toList ds p := hA0
  rw [Tryd.params10] at hA hval
  obtain ⟨v0, v1, v2, d0, d1, d2, p0, p1, p2, rfl, rfl, rfl, h0, h1, h2⟩ := trodAll_three hA
  obtain ⟨rfl, rfl⟩ := trodVars_none hV
  obtain ⟨ops, hO, hp⟩ := ops_open (hval 0 _ v0 rfl rfl) h0
  obtain ⟨y, rfl, hy, hy2⟩ := i64_open Tryd.underlying3 (hval 1 _ v1 rfl rfl) h1
  obtain ⟨z, rfl, hz, hz2⟩ := i64_open Tryd.underlying3 (hval 2 _ v2 rfl rfl) h2
  have hT := keeps_laid_plain W hL
  have lt : ∀ z ∈ p0 ++ p1 ++ p2, z.block < W.heap.size := fun z hz => by simpa using hW'.lt z (by simpa using hz)
  refine (lkeeps_any v0 ops hO y z W _ hp hT).mono fun E W' he => ?_
  obtain ⟨r, rfl, rfl, hb⟩ := he
  refine ⟨_, rfl, _, _, _, [], p0 ++ p1 ++ p2, [], hW', ?_, ?_, ?_, hb.frame _, fun h => by cases h⟩
  · exact trodAll_mk1 (shut_bool Tryd.underlying4 true)
  · rw [Tryd.params10]
    rw [List.append_assoc]
    exact trodAll_mk3 (Below.trod keeps_laidOut (by kernel_rfl) (of_decide_eq_true (by kernel_rfl)) h0 hb fun z hz => lt z (List.mem_append_left _ (List.mem_append_left _ hz))) (Below.trod keeps_laidOut (by kernel_rfl) (of_decide_eq_true (by kernel_rfl)) h1 hb fun z hz => lt z (List.mem_append_left _ (List.mem_append_right _ hz))) (Below.trod keeps_laidOut (by kernel_rfl) (of_decide_eq_true (by kernel_rfl)) h2 hb fun z hz => lt z (List.mem_append_right _ hz))
  · rfl

theorem keeps_holds : Rows.HierarchyKeepsSaid :=
  OpenClaim.holds_of_wide 10 Tryd.f10 rfl rfl rfl rfl rfl rfl rfl ⟨rfl, rfl, rfl, rfl, rfl⟩ rfl rfl rfl rfl rfl (by kernel_rfl) Tryd.func10 (by kernel_rfl)
    (of_decide_eq_true (by kernel_rfl)) (by unfold Func.isWrapper; rw [if_neg (by decide +kernel)]; exact ⟨rfl, rfl⟩)
    (fun os started H enc _ => keeps_lifted os started H enc)
end Go.Proofs.YtmlkgaiphpimiaaDoor
namespace Go.Proofs.YtmlkgaiphpimiaaDoor
open Go

theorem keeps_card : Rows.HierarchyKeepsCardSaid :=
  Claim7.holds_tied_plain_at .later [] [.data] true (true, "cfd49cb4656b8bd54bde5f9242d591093a1a57a61d44ec1a091c4818a6365428") false
    keeps_holds (fun _ h => by cases h) (by kernel_rfl) (fun _ h => by cases h) hierarchyKeeps_row_tie rfl ⟨rfl, rfl⟩ (by kernel_rfl) rfl
    (fun f fn hf hfn => by
      obtain rfl : f = 10 := Option.some.inj ((show Tryd.prog.funcNamed "arbac/arbaclaw10.HierarchyKeeps" = some 10 by kernel_rfl).symm.trans hf) |>.symm
      obtain rfl : fn = Tryd.f10 := (Option.some.inj (Tryd.func10.symm.trans hfn)).symm
      exact ⟨by kernel_rfl, fun j t ht => by
        rw [Tryd.params10] at ht
        have h3 : t = 47 ∨ t = 3 := by
          rcases j with _ | _ | _ | j
          · simp at ht; simp [← ht]
          · simp at ht; simp [← ht]
          · simp at ht; simp [← ht]
          · simp at ht
        rcases h3 with rfl | rfl
        · exact (show Tryd.prog.wantsStandIn 47 = false by kernel_rfl)
        · exact (show Tryd.prog.wantsStandIn 3 = false by kernel_rfl)⟩)
    (by kernel_rfl)
end Go.Proofs.YtmlkgaiphpimiaaDoor
namespace Go.Proofs.YtmlkgaiphpimiaaDoor
#print axioms keeps_card
end Go.Proofs.YtmlkgaiphpimiaaDoor
