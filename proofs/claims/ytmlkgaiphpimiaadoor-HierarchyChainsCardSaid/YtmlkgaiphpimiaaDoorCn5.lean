/-
  What the statement needs, part 5.
-/
import Derived.Deep.Cut
import Derived.Deep.CutBlock
import Derived.Deep.MidRow
import Derived.Laws.CopyRow
import Derived.Laws.CopyOwn
import Derived.Laws.IdiomStrings
import Derived.Test.YtmlkgaiphpimiaaDoorShelf
import Derived.Test.YtmlkgaiphpimiaaDoorCn4
namespace Go.Proofs.YtmlkgaiphpimiaaDoor
open Go.RowKit
attribute [local go_sem ↓] Go.wp_at_zero Go.wp_at_succ
set_option maxRecDepth 20000
set_option exponentiation.threshold 5000

/-- what the last region of With has made: the pairs, the new one, both, the result; whether n is read -/
structure WG where
  a : Option Value
  b : Option Value
  c : Option Value
  d : Option Value
  e : Bool
def ownP (L : List (Nat × Nat)) : Option Value → List Fact
  | some v => [.own v 50 2 L.length (pcells L)]
  | none => []
def WG.F (L : List (Nat × Nat)) (x : Nat × Nat) (g : WG) : List Fact := match g.c with
  | some v => [.own v 50 2 (L.length + 1) (pcells (L ++ [x]))]
  | none => ownP L g.a ++ ownP [x] g.b
/-- what order.New has made of the pairs M -/
def NewP (w0 : World) (F : List Fact) (K : (Nat → Prop) → World → Prop) (n : Nat) (M : List (Nat × Nat)) (r : Value) (w : World) : Prop :=
  (¬ Acyc M ∧ r = .tuple #[.pointer none, .int .i64 16] ∧ St w0 w F K) ∨
  ∃ (p : Value) (L : List (Nat × Nat)), r = .tuple #[p, .int .i64 0] ∧ Asc L ∧ (∀ x, x ∈ L ↔ x ∈ M) ∧ Acyc L ∧ St w0 w F fun D w => K D w ∧ IsOrd w D p n L
theorem NewP.shape {w0 w : World} {F : List Fact} {K : (Nat → Prop) → World → Prop} {n : Nat} {M : List (Nat × Nat)} {r : Value} (h : NewP w0 F K n M r w) : ∃ (p : Value) (e : Int), r = .tuple #[p, .int .i64 e] := by
  rcases h with ⟨_, rfl, _⟩ | ⟨p, L, rfl, _⟩ <;> exact ⟨_, _, rfl⟩
theorem NewP.mono {w0 w : World} {F : List Fact} {K K' : (Nat → Prop) → World → Prop} {n : Nat} {M : List (Nat × Nat)} {r : Value} (h : NewP w0 F K n M r w) (hs : Stable K') (hk : ∀ D w, K D w → K' D w) : NewP w0 F K' n M r w := by
  rcases h with ⟨h1, h2, h3⟩ | ⟨p, L, h1, h2, h3, h4, h5⟩
  · exact .inl ⟨h1, h2, h3.mono hs hk⟩
  · exact .inr ⟨p, L, h1, h2, h3, h4, h5.mono (hs.and stable_ord) fun D w h => ⟨hk D w h.1, h.2⟩⟩
/-- New of a row of the call's own -/
theorem onew_own {w0 w : World} {F : List Fact} {K : (Nat → Prop) → World → Prop} (n : Nat) (L0 : List (Nat × Nat)) (pv : Value) (hn : n ≤ 256) (hL : Inr n L0) (hl : L0.length ≤ 1000000) (hS : St w0 w (.own pv 50 2 L0.length (pcells L0) :: F) K)
    (kt : ∀ D w, K D w → DTab w ∧ D 0) :
    Calls Tryd.prog 20 #[.int .i64 (n : Nat), pv] w fun e w' => ∃ v, e = .returned v ∧ NewP w0 F K n L0 v w' := by
  have KS := hS.stable
  refine (onew_any n L0 pv hn hL hl (hS.freeze 0 (by decide) rfl) (fun D w h => h.2) fun D w h => kt D w h.1).mono ?_
  rintro e w' (⟨h1, rfl, h2⟩ | ⟨p, L, rfl, h1, h2, h3, h4⟩)
  · exact ⟨_, rfl, .inl ⟨h1, rfl, h2.mono KS fun _ _ h => h.1⟩⟩
  · exact ⟨_, rfl, .inr ⟨p, L, rfl, h1, h2, h3, h4.mono (KS.and stable_ord) fun _ _ h => ⟨h.1.1, h.2⟩⟩⟩
section
variable {w0 : World} {F : List Fact} {K : (Nat → Prop) → World → Prop} {n : Nat} {L : List (Nat × Nat)} {x : Nat × Nat} {p p' : World × WG}
def WJ (w0 : World) (F : List Fact) (K : (Nat → Prop) → World → Prop) (n : Nat) (L : List (Nat × Nat)) (x : Nat × Nat) (p : World × WG) : Prop := match p.2.d with
  | none => St w0 p.1 (p.2.F L x ++ F) K
  | some r => NewP w0 F K n (L ++ [x]) r p.1
def WR (w0 : World) (F : List Fact) (K : (Nat → Prop) → World → Prop) (n : Nat) (L : List (Nat × Nat)) (x : Nat × Nat) (p p' : World × WG) : Prop :=
  (WJ w0 F K n L x p → WJ w0 F K n L x p') ∧ (∀ v, p.2.a = some v → p'.2.a = some v) ∧ (∀ v, p.2.b = some v → p'.2.b = some v) ∧ (∀ v, p.2.c = some v → p'.2.c = some v) ∧ (∀ v, p.2.d = some v → p'.2.d = some v) ∧ (p.2.e = true → p'.2.e = true)
theorem WR.refl (p : World × WG) : WR w0 F K n L x p p := ⟨id, fun _ h => h, fun _ h => h, fun _ h => h, fun _ h => h, id⟩
theorem WR.trans (a b c : World × WG) (h : WR w0 F K n L x a b) (k : WR w0 F K n L x b c) : WR w0 F K n L x a c :=
  ⟨fun y => k.1 (h.1 y), fun g y => k.2.1 g (h.2.1 g y), fun g y => k.2.2.1 g (h.2.2.1 g y), fun g y => k.2.2.2.1 g (h.2.2.2.1 g y), fun g y => k.2.2.2.2.1 g (h.2.2.2.2.1 g y), fun y => k.2.2.2.2.2 (h.2.2.2.2.2 y)⟩
theorem WJ.st (h : WJ w0 F K n L x p) (hd : p.2.d = none) : St w0 p.1 (p.2.F L x ++ F) K := by unfold WJ at h; rw [hd] at h; exact h
theorem WJ.mk {w : World} {g : WG} (hd : g.d = none) (h : St w0 w (g.F L x ++ F) K) : WJ w0 F K n L x (w, g) := by unfold WJ; dsimp only; rw [hd]; exact h
theorem WJ.mkA {w' : World} {v : Value} (h : WJ w0 F K n L x p) (hn : p.2.a = none ∧ p.2.c = none ∧ p.2.d = none) (hs : St p.1 w' [.own v 50 2 L.length (pcells L)] fun _ _ => True) : WJ w0 F K n L x (w', { p.2 with a := some v }) := by
  obtain ⟨w, a, b, c, d, e⟩ := p
  obtain ⟨rfl, rfl, rfl⟩ := hn
  exact WJ.mk rfl (St.new (h.st rfl) hs.below (.own v 50 2 L.length (pcells L)) (hs.own 0 rfl))
theorem WJ.mkB {w' : World} (h : WJ w0 F K n L x p) (hn : p.2.b = none ∧ p.2.c = none ∧ p.2.d = none) (hb : Below p.1.heap.size p.1 w') (hx : Box w' p.1.heap.size 50 #[.int .i64 (x.1 : Nat), .int .i64 (x.2 : Nat)]) : WJ w0 F K n L x (w', { p.2 with b := some (.slice (some ⟨p.1.heap.size, 0, none⟩) 1 1) }) := by
  obtain ⟨w, a, b, c, d, e⟩ := p
  obtain ⟨rfl, rfl, rfl⟩ := hn
  have h1 := St.new (h.st rfl) hb (.own (.slice (some ⟨w.heap.size, 0, none⟩) 1 1) 50 2 [x].length (pcells [x])) ⟨rfl, .inr ⟨w.heap.size, 1, _, rfl, Nat.le_refl _, hx, Nat.le_refl _, by simp [maxLen], rfl, rfl⟩⟩
  refine WJ.mk rfl ?_
  cases a with
  | none => exact h1
  | some v => exact h1.swap
theorem WJ.mkC {w' : World} {u v l : Value} (h : WJ w0 F K n L x p) (hn : p.2.c = none ∧ p.2.d = none) (ha : p.2.a = some v) (hb : p.2.b = some l) (h1 : w'.ownsRow w0.heap.size 50 2 u (L.length + 1) (pcells L ++ pcells [x])) (h2 : p.1.grownBy w' v.ownBlock) (h3 : ∀ k, u.ownBlock = some k → v.ownBlock = some k ∨ p.1.heap.size ≤ k) : WJ w0 F K n L x (w', { p.2 with c := some u }) := by
  obtain ⟨w, a, b, c, d, e⟩ := p
  obtain ⟨rfl, rfl⟩ := hn
  dsimp only at ha hb
  subst ha hb
  refine WJ.mk rfl ?_
  rw [← pcells_app] at h1
  exact ((h.st rfl).upd 0 rfl (.own u 50 2 (L.length + 1) (pcells (L ++ [x]))) h2 h1 h3).sub (.cons_cons _ (.cons _ (List.Sublist.refl _)))
theorem WJ.own (h : WJ w0 F K n L x p) (hn : p.2.c = none ∧ p.2.d = none) {v l : Value} (ha : p.2.a = some v) (hb : p.2.b = some l) : p.1.ownsRow w0.heap.size 50 2 v L.length (pcells L) ∧ p.1.ownsRow w0.heap.size 50 2 l 1 (pcells [x]) ∧ w0.heap.size ≤ p.1.heap.size := by
  obtain ⟨w, a, b, c, d, e⟩ := p
  obtain ⟨rfl, rfl⟩ := hn
  dsimp only at ha hb
  subst ha hb
  exact ⟨(h.st rfl).own 0 rfl, (h.st rfl).own 1 rfl, (h.st rfl).size⟩
theorem WJ.last (h : WJ w0 F K n L x p) (hd : p.2.d = none) {v : Value} (hc : p.2.c = some v) : St w0 p.1 (.own v 50 2 (L ++ [x]).length (pcells (L ++ [x])) :: F) K := by
  obtain ⟨w, a, b, c, d, e⟩ := p
  dsimp only at hd hc
  subst hd hc
  have := h.st rfl
  rw [List.length_append]
  exact this
end
theorem owith_any {w0 w : World} {F : List Fact} {K : (Nat → Prop) → World → Prop} (p : Value) (n : Nat) (L : List (Nat × Nat)) (a b : Nat) (hn : n ≤ 256) (hL : Inr n L) (hl : L.length ≤ 900000) (ha : a < n) (hb : b < n) (hS : St w0 w F K)
    (ko : ∀ D w, K D w → IsOrd w D p n L) (kt : ∀ D w, K D w → DTab w ∧ D 0) :
    Calls Tryd.prog 73 #[p, .int .i64 (a : Nat), .int .i64 (b : Nat)] w fun e w' =>
      ((a, b) ∈ L ∧ e = .returned (.tuple #[.pointer none, .int .i64 5]) ∧ St w0 w' F K) ∨ (a, b) ∉ L ∧ ∃ v, e = .returned v ∧ NewP w0 F K n (L ++ [(a, b)]) v w' := by
  have KS := hS.stable
  obtain ⟨q, gp, av, bv, sv, xa, xb, rfl, hX⟩ := ko _ _ hS.ro
  have hS := hS.add stable_ordX hX fun b h _ => h
  clear hX
  have HIN := Lib.hid (fun (c : Int) (w : World) (hc : 0 ≤ c ∧ c < (n : Int)) (h : OrdX q gp av bv sv xa xb n L (Free F) w) => show Calls Tryd.prog 64 #[.pointer (some ⟨q, 0, none⟩), .int .i64 c] w (Ret (fun x _ => x = .bool true) w) from by rw [← decide_eq_true hc]; exact oin_any h.ord _)
  have HCN := Lib.hid (fun (w : World) (h : OrdX q gp av bv sv xa xb n L (Free F) w) => show Calls Tryd.prog 92 #[.slice (some ⟨gp, 0, none⟩) L.length L.length, .agg #[.int .i64 (a : Nat), .int .i64 (b : Nat)]] w (Ret (fun r _ => r = .bool (decide ((a, b) ∈ L))) w) from pcontains_any (by omega) h.2.1 (a, b))
  have HL := Lib.hid hL
  clear hL
  go_enter Tryd.func73, Tryd.ntmps73
  go_wp2_with (first
    | ((with_reducible show wpList _ _ _ (⟨_, .binOp _ _ _ _ _, _, _, _, _⟩ :: _) _ _); (first | ((with_reducible show wpList _ _ _ (⟨_, .binOp .lss _ _ _ _, _, _, _, _⟩ :: _) _ _); refine st_lss rfl _ _ _ _ rfl _ _ _ rfl rfl (fun h_ => ?_) (fun h_ => ?_)) | ((with_reducible show wpList _ _ _ (⟨_, .binOp .leq _ _ _ _, _, _, _, _⟩ :: _) _ _); refine st_leq rfl _ _ _ _ rfl _ _ _ rfl rfl (fun h_ => ?_) (fun h_ => ?_)) | ((with_reducible show wpList _ _ _ (⟨_, .binOp .gtr _ _ _ _, _, _, _, _⟩ :: _) _ _); refine st_gtr rfl _ _ _ _ rfl _ _ _ rfl rfl (fun h_ => ?_) (fun h_ => ?_)) | ((with_reducible show wpList _ _ _ (⟨_, .binOp .geq _ _ _ _, _, _, _, _⟩ :: _) _ _); refine st_geq rfl _ _ _ _ rfl _ _ _ rfl rfl (fun h_ => ?_) (fun h_ => ?_)) | ((with_reducible show wpList _ _ _ (⟨_, .binOp .eql _ _ _ _, _, _, _, _⟩ :: _) _ _); refine st_eql rfl _ _ _ _ rfl _ _ _ rfl rfl (fun h_ => ?_) (fun h_ => ?_)) | ((with_reducible show wpList _ _ _ (⟨_, .binOp .neq _ _ _ _, _, _, _, _⟩ :: _) _ _); refine st_neq rfl _ _ _ _ rfl _ _ _ rfl rfl (fun h_ => ?_) (fun h_ => ?_))) <;> go_prune)
    | (go_at_call 64; refine (HIN.out _ _ (by omega) hS.ro.2).mono ?_; rintro r_ w_ ⟨_, rfl, rfl, hb_⟩; replace hS := hS.ext hb_; clear hb_)
    | ((with_reducible show wpList _ _ _ (⟨some 23, _, _, _, _, _⟩ :: _) _ _); refine st_kcell hS rfl _ _ rfl _ rfl _ (fun D w h => h.2.1.cell 1 rfl) (by kernel_rfl) ?_)
    | (go_at_call 92; refine (HCN.out _ hS.ro.2).mono ?_; rintro r_ w_ ⟨_, rfl, rfl, hb_⟩; replace hS := hS.ext hb_; clear hb_; by_cases hx : (a, b) ∈ L <;> (first | rw [decide_eq_true hx] | rw [decide_eq_false hx])))
  · go_ret2
    exact .inl ⟨hx, rfl, hS.mono KS fun _ _ h => h.1⟩
  · obtain ⟨KX, k1, k2, hS⟩ : ∃ KX : (Nat → Prop) → World → Prop, (∀ D w, KX D w → K D w) ∧ (∀ D w, KX D w → OrdX q gp av bv sv xa xb n L D w) ∧ St w0 w_ F KX := ⟨_, fun _ _ h => h.1, fun _ _ h => h.2, hS⟩
    have hJ0 : WJ w0 F KX n L (a, b) (w_.drew, ⟨none, none, none, none, false⟩) := WJ.mk rfl hS.drew
    have hRr := @WR.refl w0 F KX n L (a, b)
    have hRt := @WR.trans w0 F KX n L (a, b)
    have hLx : Hid (Inr n (L ++ [(a, b)])) := Lib.hid fun y hy => by
      rcases List.mem_append.1 hy with h | h
      · exact HL.out y h
      · rw [List.mem_singleton] at h; subst h; exact ⟨ha, hb⟩
    replace ha := Lib.hid ha
    replace hb := Lib.hid hb
    clear HIN HCN
    refine wp_region_ghost (fun i__ v w => match i__ with
      | 0 => v = .pointer (some ⟨q, 0, none⟩)
      | 1 => v = .pointer (some ⟨q, 0, none⟩)
      | 2 => v = .pointer (some ⟨q, 0, none⟩)
      | 3 => w.2.e = true ∧ v = .int .i64 ((n : Nat) : Int)
      | 4 => v = .pointer (some ⟨q, 0, none⟩)
      | 5 => w.2.a = some v
      | 6 => v = .int .i64 ((a : Nat) : Int)
      | 7 => v = .int .i64 ((b : Nat) : Int)
      | 8 => v = .agg #[.int .i64 ((a : Nat) : Int), .int .i64 ((b : Nat) : Int)]
      | 9 => w.2.b = some v
      | 10 => w.2.c = some v
      | 11 => w.2.d = some v ∧ ∃ (p : Value) (e : Int), v = .tuple #[p, .int .i64 e]
      | 12 => ∃ (p : Value) (e : Int), w.2.d = some (.tuple #[p, .int .i64 e]) ∧ v = p
      | 13 => ∃ (p : Value) (e : Int), w.2.d = some (.tuple #[p, .int .i64 e]) ∧ v = .int .i64 e
      | 14 => ∃ (p : Value) (e : Int), w.2.d = some (.tuple #[p, .int .i64 e]) ∧ v = p
      | 15 => ∃ (p : Value) (e : Int), w.2.d = some (.tuple #[p, .int .i64 e]) ∧ v = .int .i64 e
      | _ => True) (WR w0 F KX n L (a, b)) (fun i p => match i with | 3 => p.2.e = false ∧ p.2.d = none | 5 => p.2.a = none ∧ p.2.c = none ∧ p.2.d = none | 9 => p.2.b = none ∧ p.2.c = none ∧ p.2.d = none | 10 => p.2.c = none ∧ p.2.d = none | 11 => p.2.d = none | _ => True) (⟨none, none, none, none, false⟩) (by kernel_rfl) (by kernel_rfl) hRr hRt ?mono ?hN ⟨?r0, ?r1, ?r2, ?r3, ?r4, ?r5, ?r6, ?r7, ?r8, ?r9, ?r10, ?r11, ?r12, ?r13, ?r14, ?r15, trivial⟩ ?post
    case hN => first | assumption | (intro i; (try dsimp only); split <;> first | trivial | assumption | (left; assumption))
    case mono =>
      intro i v w w' h hb
      match i, h with
      | 0, h => exact h
      | 1, h => exact h
      | 2, h => exact h
      | 3, h => exact ⟨hb.2.2.2.2.2 h.1, h.2⟩
      | 4, h => exact h
      | 5, h => exact hb.2.1 _ h
      | 6, h => exact h
      | 7, h => exact h
      | 8, h => exact h
      | 9, h => exact hb.2.2.1 _ h
      | 10, h => exact hb.2.2.2.1 _ h
      | 11, h => exact ⟨hb.2.2.2.2.1 _ h.1, h.2⟩
      | 12, h => exact by obtain ⟨p, e, h1, h2⟩ := h; exact ⟨p, e, hb.2.2.2.2.1 _ h1, h2⟩
      | 13, h => exact by obtain ⟨p, e, h1, h2⟩ := h; exact ⟨p, e, hb.2.2.2.2.1 _ h1, h2⟩
      | 14, h => exact by obtain ⟨p, e, h1, h2⟩ := h; exact ⟨p, e, hb.2.2.2.2.1 _ h1, h2⟩
      | 15, h => exact by obtain ⟨p, e, h1, h2⟩ := h; exact ⟨p, e, hb.2.2.2.2.1 _ h1, h2⟩
      | _ + 16, h => trivial
    case r0 =>
      refine truleGh fun b__ w hW hN hold hpre => ⟨fun hwant K hK => ?_, fun hwant => ?_⟩
      · clear hwant
        have e0 : b__.eval (.tmp 0) = .pointer (some ⟨q, 0, none⟩) := (hold 0 (by kernel_rfl)).trans rfl
        exact opw_move rfl e0 (hK _ _ rfl ⟨hRr _, fun _ _ h => h⟩)
      · rw [want_none rfl] at hwant; cases hwant
    case r1 =>
      refine truleGh fun b__ w hW hN hold hpre => ⟨fun hwant K hK => ?_, fun hwant => ?_⟩
      · clear hwant
        have e28 : b__.eval (.tmp 28) = .pointer (some ⟨q, 0, none⟩) := hpre ⟨0, _⟩ (Array.mem_of_getElem? (i := 0) rfl) rfl _ _ rfl rfl
        exact opw_nil rfl e28 (hK _ _ rfl ⟨hRr _, fun _ _ h => h⟩)
      · rw [want_none rfl] at hwant; cases hwant
    case r2 =>
      refine truleGh fun b__ w hW hN hold hpre => ⟨fun hwant K hK => ?_, fun hwant => ?_⟩
      · clear hwant
        have e29 : b__.eval (.tmp 29) = .pointer (some ⟨q, 0, none⟩) := hpre ⟨1, _⟩ (Array.mem_of_getElem? (i := 0) rfl) rfl _ _ rfl rfl
        exact opw_faddr rfl e29 (by kernel_rfl) (hK _ _ rfl ⟨hRr _, fun _ _ h => h⟩)
      · rw [want_none rfl] at hwant; cases hwant
    case r3 =>
      refine truleGh fun b__ w hW hN hold hpre => ⟨fun hwant K hK => ?_, fun hwant => ?_⟩
      · clear hwant
        have e30 : b__.eval (.tmp 30) = .pointer (some ⟨q, 0, none⟩) := hpre ⟨2, _⟩ (Array.mem_of_getElem? (i := 0) rfl) rfl _ _ rfl rfl
        exact opw_cell rfl e30 (by kernel_rfl) ((k2 _ _ ((hW.1 hJ0).st hN.2).ro).1.cell 0 rfl) (hK (.int .i64 (n : Nat)) (w.1, { w.2 with e := true }) ⟨rfl, rfl⟩ ⟨⟨fun hj => hj, (fun _ h => h), (fun _ h => h), (fun _ h => h), (fun _ h => h), (fun _ => rfl)⟩, fun j hj hn => by split <;> first | exact absurd rfl hj | exact hn | trivial⟩)
      · rw [want_none rfl] at hwant; cases hwant
    case r4 =>
      refine truleGh fun b__ w hW hN hold hpre => ⟨fun hwant K hK => ?_, fun hwant => ?_⟩
      · clear hwant
        have e0 : b__.eval (.tmp 0) = .pointer (some ⟨q, 0, none⟩) := (hold 0 (by kernel_rfl)).trans rfl
        exact opw_move rfl e0 (hK _ _ rfl ⟨hRr _, fun _ _ h => h⟩)
      · rw [want_none rfl] at hwant; cases hwant
    case r5 =>
      refine truleGh fun b__ w hW hN hold hpre => ⟨fun hwant K hK => ?_, fun hwant => ?_⟩
      · clear hwant
        have e32 : b__.eval (.tmp 32) = .pointer (some ⟨q, 0, none⟩) := hpre ⟨4, _⟩ (Array.mem_of_getElem? (i := 0) rfl) rfl _ _ rfl rfl
        exact opw_callw rfl (by kernel_rfl) (by simp only [List.map_cons, List.map_nil, e32]) (opairs_any (k2 _ _ ((hW.1 hJ0).st hN.2.2).ro).ord (by omega)) fun e w' ⟨v, he, hs⟩ => ⟨v, he, hK v (w', { w.2 with a := some v }) rfl ⟨⟨fun hj => hj.mkA hN hs, (fun g h => by rw [hN.1] at h; cases h), (fun _ h => h), (fun _ h => h), (fun _ h => h), id⟩, fun j hj hn => by split <;> first | exact absurd rfl hj | exact hn | trivial⟩⟩
      · rw [want_none rfl] at hwant; cases hwant
    case r6 =>
      refine truleGh fun b__ w hW hN hold hpre => ⟨fun hwant K hK => ?_, fun hwant => ?_⟩
      · clear hwant
        have e1 : b__.eval (.tmp 1) = .int .i64 ((a : Nat) : Int) := (hold 1 (by kernel_rfl)).trans rfl
        exact opw_move rfl e1 (hK _ _ rfl ⟨hRr _, fun _ _ h => h⟩)
      · rw [want_none rfl] at hwant; cases hwant
    case r7 =>
      refine truleGh fun b__ w hW hN hold hpre => ⟨fun hwant K hK => ?_, fun hwant => ?_⟩
      · clear hwant
        have e2 : b__.eval (.tmp 2) = .int .i64 ((b : Nat) : Int) := (hold 2 (by kernel_rfl)).trans rfl
        exact opw_move rfl e2 (hK _ _ rfl ⟨hRr _, fun _ _ h => h⟩)
      · rw [want_none rfl] at hwant; cases hwant
    case r8 =>
      refine truleGh fun b__ w hW hN hold hpre => ⟨fun hwant K hK => ?_, fun hwant => ?_⟩
      · clear hwant
        have e34 : b__.eval (.tmp 34) = .int .i64 ((a : Nat) : Int) := hpre ⟨6, _⟩ (Array.mem_of_getElem? (i := 0) rfl) rfl _ _ rfl rfl
        have e35 : b__.eval (.tmp 35) = .int .i64 ((b : Nat) : Int) := hpre ⟨7, _⟩ (Array.mem_of_getElem? (i := 1) rfl) rfl _ _ rfl rfl
        exact opw_built rfl (ps := [(0, .int .i64 ((a : Nat) : Int)), (1, .int .i64 ((b : Nat) : Int))]) (cells := #[.int .i64 ((a : Nat) : Int), .int .i64 ((b : Nat) : Int)]) (by simp [e34, e35]) (by kernel_rfl) (hK _ _ rfl ⟨hRr _, fun _ _ h => h⟩)
      · rw [want_none rfl] at hwant; cases hwant
    case r9 =>
      refine truleGh fun b__ w hW hN hold hpre => ⟨fun hwant K hK => ?_, fun hwant => ?_⟩
      · clear hwant
        have e36 : b__.eval (.tmp 36) = .agg #[.int .i64 ((a : Nat) : Int), .int .i64 ((b : Nat) : Int)] := hpre ⟨8, _⟩ (Array.mem_of_getElem? (i := 0) rfl) rfl _ _ rfl rfl
        exact opw_slice rfl Tryd.underlying25 (ps := [(0, .agg #[.int .i64 ((a : Nat) : Int), .int .i64 ((b : Nat) : Int)])]) (cells := #[.int .i64 ((a : Nat) : Int), .int .i64 ((b : Nat) : Int)]) (by simp [e36]) (by kernel_rfl) fun w' hbx hbel => hK _ (w', { w.2 with b := some (.slice (some ⟨w.1.heap.size, 0, none⟩) 1 1) }) rfl ⟨⟨fun hj => hj.mkB hN hbel hbx, (fun _ h => h), (fun g h => by rw [hN.1] at h; cases h), (fun _ h => h), (fun _ h => h), id⟩, fun j hj hn => by split <;> first | exact absurd rfl hj | exact hn | trivial⟩
      · rw [want_none rfl] at hwant; cases hwant
    case r10 =>
      refine truleGh fun b__ w hW hN hold hpre => ⟨fun hwant K hK => ?_, fun hwant => ?_⟩
      · clear hwant
        have e33 : (fun (v : Value) (w : World × _) => w.2.a = some v) (b__.eval (.tmp 33)) w := hpre ⟨5, _⟩ (Array.mem_of_getElem? (i := 0) rfl) rfl _ _ rfl rfl
        have e37 : (fun (v : Value) (w : World × _) => w.2.b = some v) (b__.eval (.tmp 37)) w := hpre ⟨9, _⟩ (Array.mem_of_getElem? (i := 1) rfl) rfl _ _ rfl rfl
        obtain ⟨o1, o2, o3⟩ := (hW.1 hJ0).own hN e33 e37
        exact opw_app (n := L.length) (m := 1) rfl ty_pairs rfl o1 rfl (Sl.of_own o2) (pcells_one _) (by omega) (by omega) o3 fun v' w' a1 a2 a3 => hK v' (w', { w.2 with c := some v' }) rfl ⟨⟨fun hj => hj.mkC hN e33 e37 a1 a2 a3, (fun _ h => h), (fun _ h => h), (fun g h => by rw [hN.1] at h; cases h), (fun _ h => h), id⟩, fun j hj hn => by split <;> first | exact absurd rfl hj | exact hn | exact absurd (hn.1.symm.trans e33) nofun | exact absurd (hn.1.symm.trans e37) nofun | trivial⟩
      · rw [want_none rfl] at hwant; cases hwant
    case r11 =>
      refine truleGh fun b__ w hW hN hold hpre => ⟨fun hwant K hK => ?_, fun hwant => ?_⟩
      · clear hwant
        have e31 : (fun (v : Value) (w : World × _) => w.2.e = true ∧ v = .int .i64 ((n : Nat) : Int)) (b__.eval (.tmp 31)) w := hpre ⟨3, _⟩ (Array.mem_of_getElem? (i := 0) rfl) rfl _ _ rfl rfl
        have e38 : (fun (v : Value) (w : World × _) => w.2.c = some v) (b__.eval (.tmp 38)) w := hpre ⟨10, _⟩ (Array.mem_of_getElem? (i := 1) rfl) rfl _ _ rfl rfl
        refine opw_callw rfl (by kernel_rfl) (by simp only [List.map_cons, List.map_nil, e31.2]) (onew_own n (L ++ [(a, b)]) _ hn hLx.out (by simp; omega) ((hW.1 hJ0).last hN e38) (fun D w h => kt D w (k1 D w h))) fun e w' h => ?_
        obtain ⟨v, he, hP⟩ := h
        exact ⟨v, he, hK v (w', { w.2 with d := some v }) ⟨rfl, hP.shape⟩ ⟨⟨fun _ => hP, (fun _ h => h), (fun _ h => h), (fun _ h => h), (fun g h => by rw [hN] at h; cases h), id⟩, fun j hj hn => by split <;> first | exact absurd rfl hj | exact hn | exact absurd (hn.1.symm.trans e31.1) nofun | exact absurd (hn.2.1.symm.trans e38) nofun | exact absurd (hn.1.symm.trans e38) nofun | trivial⟩⟩
      · rw [want_none rfl] at hwant; cases hwant
    case r12 =>
      refine truleGh fun b__ w hW hN hold hpre => ⟨fun hwant K hK => ?_, fun hwant => ?_⟩
      · clear hwant
        have e39 : (fun (v : Value) (w : World × _) => w.2.d = some v ∧ ∃ (p : Value) (e : Int), v = .tuple #[p, .int .i64 e]) (b__.eval (.tmp 39)) w := hpre ⟨11, _⟩ (Array.mem_of_getElem? (i := 0) rfl) rfl _ _ rfl rfl
        obtain ⟨hd, p, e, hv⟩ := e39
        rw [hv] at hd
        exact opw_extract rfl hv rfl (hK _ _ ⟨p, e, hd, rfl⟩ ⟨hRr _, fun _ _ h => h⟩)
      · rw [want_none rfl] at hwant; cases hwant
    case r13 =>
      refine truleGh fun b__ w hW hN hold hpre => ⟨fun hwant K hK => ?_, fun hwant => ?_⟩
      · clear hwant
        have e39 : (fun (v : Value) (w : World × _) => w.2.d = some v ∧ ∃ (p : Value) (e : Int), v = .tuple #[p, .int .i64 e]) (b__.eval (.tmp 39)) w := hpre ⟨11, _⟩ (Array.mem_of_getElem? (i := 0) rfl) rfl _ _ rfl rfl
        obtain ⟨hd, p, e, hv⟩ := e39
        rw [hv] at hd
        exact opw_extract rfl hv rfl (hK _ _ ⟨p, e, hd, rfl⟩ ⟨hRr _, fun _ _ h => h⟩)
      · rw [want_none rfl] at hwant; cases hwant
    case r14 =>
      refine truleGh fun b__ w hW hN hold hpre => ⟨fun hwant K hK => ?_, fun hwant => ?_⟩
      · clear hwant
        have e40 : (fun (v : Value) (w : World × _) => ∃ (p : Value) (e : Int), w.2.d = some (.tuple #[p, .int .i64 e]) ∧ v = p) (b__.eval (.tmp 40)) w := hpre ⟨12, _⟩ (Array.mem_of_getElem? (i := 0) rfl) rfl _ _ rfl rfl
        exact opw_assign rfl rfl (hK _ _ e40 ⟨hRr _, fun _ _ h => h⟩)
      · rw [want_none rfl] at hwant; cases hwant
    case r15 =>
      refine truleGh fun b__ w hW hN hold hpre => ⟨fun hwant K hK => ?_, fun hwant => ?_⟩
      · clear hwant
        have e41 : (fun (v : Value) (w : World × _) => ∃ (p : Value) (e : Int), w.2.d = some (.tuple #[p, .int .i64 e]) ∧ v = .int .i64 e) (b__.eval (.tmp 41)) w := hpre ⟨13, _⟩ (Array.mem_of_getElem? (i := 0) rfl) rfl _ _ rfl rfl
        exact opw_assign rfl rfl (hK _ _ e41 ⟨hRr _, fun _ _ h => h⟩)
      · rw [want_none rfl] at hwant; cases hwant
    case post =>
      intro b__ wz hW hdf hsz hold hT hZ
      have e28 : b__.eval (.tmp 28) = .pointer (some ⟨q, 0, none⟩) := hT 0 _ 28 rfl rfl
      have e29 : b__.eval (.tmp 29) = .pointer (some ⟨q, 0, none⟩) := hT 1 _ 29 rfl rfl
      have e30 : b__.eval (.tmp 30) = .pointer (some ⟨q, 0, none⟩) := hT 2 _ 30 rfl rfl
      have e31 : (fun (v : Value) (w : World × _) => w.2.e = true ∧ v = .int .i64 ((n : Nat) : Int)) (b__.eval (.tmp 31)) wz := hT 3 _ 31 rfl rfl
      have e32 : b__.eval (.tmp 32) = .pointer (some ⟨q, 0, none⟩) := hT 4 _ 32 rfl rfl
      have e33 : (fun (v : Value) (w : World × _) => w.2.a = some v) (b__.eval (.tmp 33)) wz := hT 5 _ 33 rfl rfl
      have e34 : b__.eval (.tmp 34) = .int .i64 ((a : Nat) : Int) := hT 6 _ 34 rfl rfl
      have e35 : b__.eval (.tmp 35) = .int .i64 ((b : Nat) : Int) := hT 7 _ 35 rfl rfl
      have e36 : b__.eval (.tmp 36) = .agg #[.int .i64 ((a : Nat) : Int), .int .i64 ((b : Nat) : Int)] := hT 8 _ 36 rfl rfl
      have e37 : (fun (v : Value) (w : World × _) => w.2.b = some v) (b__.eval (.tmp 37)) wz := hT 9 _ 37 rfl rfl
      have e38 : (fun (v : Value) (w : World × _) => w.2.c = some v) (b__.eval (.tmp 38)) wz := hT 10 _ 38 rfl rfl
      have e39 : (fun (v : Value) (w : World × _) => w.2.d = some v ∧ ∃ (p : Value) (e : Int), v = .tuple #[p, .int .i64 e]) (b__.eval (.tmp 39)) wz := hT 11 _ 39 rfl rfl
      have e40 : (fun (v : Value) (w : World × _) => ∃ (p : Value) (e : Int), w.2.d = some (.tuple #[p, .int .i64 e]) ∧ v = p) (b__.eval (.tmp 40)) wz := hT 12 _ 40 rfl rfl
      have e41 : (fun (v : Value) (w : World × _) => ∃ (p : Value) (e : Int), w.2.d = some (.tuple #[p, .int .i64 e]) ∧ v = .int .i64 e) (b__.eval (.tmp 41)) wz := hT 13 _ 41 rfl rfl
      have e6 : (fun (v : Value) (w : World × _) => ∃ (p : Value) (e : Int), w.2.d = some (.tuple #[p, .int .i64 e]) ∧ v = p) (b__.eval (.tmp 6)) wz := hT 14 _ 6 rfl rfl
      have e7 : (fun (v : Value) (w : World × _) => ∃ (p : Value) (e : Int), w.2.d = some (.tuple #[p, .int .i64 e]) ∧ v = .int .i64 e) (b__.eval (.tmp 7)) wz := hT 15 _ 7 rfl rfl
      obtain ⟨vs, hvs, hb⟩ := frame_of hdf hsz hold
      replace e28 : vs 28 = .pointer (some ⟨q, 0, none⟩) := (hvs 28).symm.trans e28
      replace e29 : vs 29 = .pointer (some ⟨q, 0, none⟩) := (hvs 29).symm.trans e29
      replace e30 : vs 30 = .pointer (some ⟨q, 0, none⟩) := (hvs 30).symm.trans e30
      replace e31 := (hvs 31) ▸ e31
      replace e32 : vs 32 = .pointer (some ⟨q, 0, none⟩) := (hvs 32).symm.trans e32
      replace e33 := (hvs 33) ▸ e33
      replace e34 : vs 34 = .int .i64 ((a : Nat) : Int) := (hvs 34).symm.trans e34
      replace e35 : vs 35 = .int .i64 ((b : Nat) : Int) := (hvs 35).symm.trans e35
      replace e36 : vs 36 = .agg #[.int .i64 ((a : Nat) : Int), .int .i64 ((b : Nat) : Int)] := (hvs 36).symm.trans e36
      replace e37 := (hvs 37) ▸ e37
      replace e38 := (hvs 38) ▸ e38
      replace e39 := (hvs 39) ▸ e39
      replace e40 := (hvs 40) ▸ e40
      replace e41 := (hvs 41) ▸ e41
      replace e6 := (hvs 6) ▸ e6
      replace e7 := (hvs 7) ▸ e7
      subst hb
      clear hvs hold hT hdf hsz
      simp only [setAll, Act.put, List.setIfInBounds_toArray, List.set_cons_zero, List.set_cons_succ, List.getElem_toArray, List.getElem_cons_succ, List.getElem_cons_zero]
      obtain ⟨r1, z1, hd1, e6⟩ := e6
      obtain ⟨r2, z2, hd2, e7⟩ := e7
      rw [hd1] at hd2
      obtain ⟨rfl, rfl⟩ : r1 = r2 ∧ z1 = z2 := by simpa using hd2
      have hJ := hW.1 hJ0
      unfold WJ at hJ
      rw [hd1] at hJ
      have hP := hJ.mono KS k1
      rw [e6, e7]
      generalize wz.1 = wf at *
      clear hJ hJ0 hRr hRt hW hZ hd1 hd2 e6 e7
      go_wp2_with fail
      go_ret2
      exact ⟨_, rfl, hP⟩
end Go.Proofs.YtmlkgaiphpimiaaDoor
namespace Go.Proofs.YtmlkgaiphpimiaaDoor
open Go.RowKit
attribute [local go_sem ↓] Go.wp_at_zero Go.wp_at_succ
set_option maxRecDepth 20000
set_option exponentiation.threshold 5000

theorem role_any (r : Int) (w : World) : Calls Tryd.prog 55 #[.int .i64 r] w (Ret (fun x _ => x = .bool (decide (1 ≤ r ∧ r ≤ 63))) w) := by
  by_cases h1 : 1 ≤ r
  · by_cases h2 : r ≤ 63
    · have HR := Lib.hid (show decide (1 ≤ r ∧ r ≤ 63) = true by simp [h1, h2])
      generalize decide (1 ≤ r ∧ r ≤ 63) = R at *
      go_enter Tryd.func55, Tryd.ntmps55
      go_wp2_with (first | ((with_reducible show wpList _ _ _ (⟨_, .binOp _ _ _ _ _, _, _, _, _⟩ :: _) _ _); (first | ((with_reducible show wpList _ _ _ (⟨_, .binOp .lss _ _ _ _, _, _, _, _⟩ :: _) _ _); refine st_lss rfl _ _ _ _ rfl _ _ _ rfl rfl (fun h_ => ?_) (fun h_ => ?_)) | ((with_reducible show wpList _ _ _ (⟨_, .binOp .leq _ _ _ _, _, _, _, _⟩ :: _) _ _); refine st_leq rfl _ _ _ _ rfl _ _ _ rfl rfl (fun h_ => ?_) (fun h_ => ?_)) | ((with_reducible show wpList _ _ _ (⟨_, .binOp .gtr _ _ _ _, _, _, _, _⟩ :: _) _ _); refine st_gtr rfl _ _ _ _ rfl _ _ _ rfl rfl (fun h_ => ?_) (fun h_ => ?_)) | ((with_reducible show wpList _ _ _ (⟨_, .binOp .geq _ _ _ _, _, _, _, _⟩ :: _) _ _); refine st_geq rfl _ _ _ _ rfl _ _ _ rfl rfl (fun h_ => ?_) (fun h_ => ?_)) | ((with_reducible show wpList _ _ _ (⟨_, .binOp .eql _ _ _ _, _, _, _, _⟩ :: _) _ _); refine st_eql rfl _ _ _ _ rfl _ _ _ rfl rfl (fun h_ => ?_) (fun h_ => ?_)) | ((with_reducible show wpList _ _ _ (⟨_, .binOp .neq _ _ _ _, _, _, _, _⟩ :: _) _ _); refine st_neq rfl _ _ _ _ rfl _ _ _ rfl rfl (fun h_ => ?_) (fun h_ => ?_))) <;> go_prune))
      go_ret
      exact Ret.mk (congrArg Value.bool HR.out.symm) (Below.refl _ _)
    · have HR := Lib.hid (show decide (1 ≤ r ∧ r ≤ 63) = false by simp [h2])
      generalize decide (1 ≤ r ∧ r ≤ 63) = R at *
      go_enter Tryd.func55, Tryd.ntmps55
      go_wp2_with (first | ((with_reducible show wpList _ _ _ (⟨_, .binOp _ _ _ _ _, _, _, _, _⟩ :: _) _ _); (first | ((with_reducible show wpList _ _ _ (⟨_, .binOp .lss _ _ _ _, _, _, _, _⟩ :: _) _ _); refine st_lss rfl _ _ _ _ rfl _ _ _ rfl rfl (fun h_ => ?_) (fun h_ => ?_)) | ((with_reducible show wpList _ _ _ (⟨_, .binOp .leq _ _ _ _, _, _, _, _⟩ :: _) _ _); refine st_leq rfl _ _ _ _ rfl _ _ _ rfl rfl (fun h_ => ?_) (fun h_ => ?_)) | ((with_reducible show wpList _ _ _ (⟨_, .binOp .gtr _ _ _ _, _, _, _, _⟩ :: _) _ _); refine st_gtr rfl _ _ _ _ rfl _ _ _ rfl rfl (fun h_ => ?_) (fun h_ => ?_)) | ((with_reducible show wpList _ _ _ (⟨_, .binOp .geq _ _ _ _, _, _, _, _⟩ :: _) _ _); refine st_geq rfl _ _ _ _ rfl _ _ _ rfl rfl (fun h_ => ?_) (fun h_ => ?_)) | ((with_reducible show wpList _ _ _ (⟨_, .binOp .eql _ _ _ _, _, _, _, _⟩ :: _) _ _); refine st_eql rfl _ _ _ _ rfl _ _ _ rfl rfl (fun h_ => ?_) (fun h_ => ?_)) | ((with_reducible show wpList _ _ _ (⟨_, .binOp .neq _ _ _ _, _, _, _, _⟩ :: _) _ _); refine st_neq rfl _ _ _ _ rfl _ _ _ rfl rfl (fun h_ => ?_) (fun h_ => ?_))) <;> go_prune))
      go_ret
      exact Ret.mk (congrArg Value.bool HR.out.symm) (Below.refl _ _)
  · have HR := Lib.hid (show decide (1 ≤ r ∧ r ≤ 63) = false by simp [h1])
    generalize decide (1 ≤ r ∧ r ≤ 63) = R at *
    go_enter Tryd.func55, Tryd.ntmps55
    go_wp2_with (first | ((with_reducible show wpList _ _ _ (⟨_, .binOp _ _ _ _ _, _, _, _, _⟩ :: _) _ _); (first | ((with_reducible show wpList _ _ _ (⟨_, .binOp .lss _ _ _ _, _, _, _, _⟩ :: _) _ _); refine st_lss rfl _ _ _ _ rfl _ _ _ rfl rfl (fun h_ => ?_) (fun h_ => ?_)) | ((with_reducible show wpList _ _ _ (⟨_, .binOp .leq _ _ _ _, _, _, _, _⟩ :: _) _ _); refine st_leq rfl _ _ _ _ rfl _ _ _ rfl rfl (fun h_ => ?_) (fun h_ => ?_)) | ((with_reducible show wpList _ _ _ (⟨_, .binOp .gtr _ _ _ _, _, _, _, _⟩ :: _) _ _); refine st_gtr rfl _ _ _ _ rfl _ _ _ rfl rfl (fun h_ => ?_) (fun h_ => ?_)) | ((with_reducible show wpList _ _ _ (⟨_, .binOp .geq _ _ _ _, _, _, _, _⟩ :: _) _ _); refine st_geq rfl _ _ _ _ rfl _ _ _ rfl rfl (fun h_ => ?_) (fun h_ => ?_)) | ((with_reducible show wpList _ _ _ (⟨_, .binOp .eql _ _ _ _, _, _, _, _⟩ :: _) _ _); refine st_eql rfl _ _ _ _ rfl _ _ _ rfl rfl (fun h_ => ?_) (fun h_ => ?_)) | ((with_reducible show wpList _ _ _ (⟨_, .binOp .neq _ _ _ _, _, _, _, _⟩ :: _) _ _); refine st_neq rfl _ _ _ _ rfl _ _ _ rfl rfl (fun h_ => ?_) (fun h_ => ?_))) <;> go_prune))
    go_ret
    exact Ret.mk (congrArg Value.bool HR.out.symm) (Below.refl _ _)
/-- a hierarchy with the links L -/
def HierX (q : Nat) (o : Value) (L : List (Nat × Nat)) (D : Nat → Prop) (w : World) : Prop := IsBox w D q #[o] ∧ IsOrd w D o 64 L
theorem stable_hierX {q : Nat} {o : Value} {L : List (Nat × Nat)} : Stable (HierX q o L) := stable_isBox.and stable_ord
def IsH (w : World) (D : Nat → Prop) (p : Value) (L : List (Nat × Nat)) : Prop := ∃ (q : Nat) (o : Value), p = .pointer (some ⟨q, 0, none⟩) ∧ HierX q o L D w
theorem stable_isH {p : Value} {L : List (Nat × Nat)} : Stable fun D w => IsH w D p L := fun D D' w w' h a b c => by
  obtain ⟨q, o, h1, h2⟩ := h
  exact ⟨q, o, h1, stable_hierX D D' w w' h2 a b c⟩
/-- links of roles, ascending, without cycles -/
structure HOK (L : List (Nat × Nat)) : Prop where
  asc : Asc L
  role : ∀ x ∈ L, (1 ≤ x.1 ∧ x.1 < 64) ∧ 1 ≤ x.2 ∧ x.2 < 64
  acyc : Acyc L
theorem HOK.inr {L : List (Nat × Nat)} (h : HOK L) : Inr 64 L := fun x hx => ⟨(h.role x hx).1.2, (h.role x hx).2.2⟩
theorem HOK.nil : HOK [] := ⟨.nil, by simp, fun a h => by obtain ⟨y, h, _⟩ := h.first; simp at h⟩
theorem hnew_any {w0 w : World} {F : List Fact} {K : (Nat → Prop) → World → Prop} (hS : St w0 w F K) (kt : ∀ D w, K D w → DTab w ∧ D 0) :
    Calls Tryd.prog 53 #[] w fun e w' => ∃ p, e = .returned p ∧ St w0 w' F fun D w => K D w ∧ IsH w D p [] := by
  have KS := hS.stable
  have HN := Lib.hid (onew_any 64 [] (.slice none 0 0) (by omega) (by intro x hx; simp at hx) (by simp) hS (fun D w _ => ⟨rfl, none, 0, rfl, by simp, by simp, fun h => by simp at h⟩) kt)
  clear hS
  go_enter Tryd.func53, Tryd.ntmps53
  go_wp2_with (first
    | (go_at_call 20; refine HN.out.mono ?_; rintro e w_ (⟨h1, -, -⟩ | ⟨p, L, rfl, hA, hm, hc, hS⟩); · exact absurd HOK.nil.acyc h1
       obtain rfl : L = [] := by
         cases L with
         | nil => rfl
         | cons x r => exact absurd ((hm x).1 (by simp)) (by simp)
       clear hA hm hc
       obtain ⟨qo, _, _, _, _, _, _, rfl, -⟩ := hS.ro.2)
    | ((with_reducible show wpList _ _ _ (⟨some 9, _, _, _, _, _⟩ :: _) _ _); refine st_box hS rfl _ _ rfl (.agg #[.pointer (some ⟨qo, 0, none⟩)]) _ rfl rfl ?_; clear hS; intro q w_ hS; (try simp only [Act.put, Act.eval, List.set_cons_zero, List.set_cons_succ, List.setIfInBounds_toArray, Array.getD_eq_getD_getElem?, List.getElem?_toArray, List.getElem?_cons_succ, List.getElem?_cons_zero, Option.getD_some, Value.cells] at hS)))
  go_ret
  exact ⟨_, rfl, (hS.seal 0 (by simp) rfl).mono (KS.and stable_isH) fun D w h => ⟨h.1.1, q, _, rfl, h.2, h.1.2⟩⟩
theorem hlinks_any {w0 : World} {D : Nat → Prop} {p : Value} {L : List (Nat × Nat)} (h : IsH w0 D p L) (hl : L.length ≤ 1000000) : Calls Tryd.prog 31 #[p] w0 fun e w' => ∃ v, e = .returned v ∧ St w0 w' [.own v 50 2 L.length (pcells L)] fun _ _ => True := by
  obtain ⟨q, o, rfl, hb, ho⟩ := h
  have k0 := Lib.hid (hb.cell 0 (x := o) rfl)
  have HC := Lib.hid (opairs_any ho hl)
  clear hb ho
  go_enter Tryd.func31, Tryd.ntmps31
  go_wp2_with (first
    | ((with_reducible show wpList _ _ _ (⟨_, .binOp _ _ _ _ _, _, _, _, _⟩ :: _) _ _); (first | ((with_reducible show wpList _ _ _ (⟨_, .binOp .lss _ _ _ _, _, _, _, _⟩ :: _) _ _); refine st_lss rfl _ _ _ _ rfl _ _ _ rfl rfl (fun h_ => ?_) (fun h_ => ?_)) | ((with_reducible show wpList _ _ _ (⟨_, .binOp .leq _ _ _ _, _, _, _, _⟩ :: _) _ _); refine st_leq rfl _ _ _ _ rfl _ _ _ rfl rfl (fun h_ => ?_) (fun h_ => ?_)) | ((with_reducible show wpList _ _ _ (⟨_, .binOp .gtr _ _ _ _, _, _, _, _⟩ :: _) _ _); refine st_gtr rfl _ _ _ _ rfl _ _ _ rfl rfl (fun h_ => ?_) (fun h_ => ?_)) | ((with_reducible show wpList _ _ _ (⟨_, .binOp .geq _ _ _ _, _, _, _, _⟩ :: _) _ _); refine st_geq rfl _ _ _ _ rfl _ _ _ rfl rfl (fun h_ => ?_) (fun h_ => ?_)) | ((with_reducible show wpList _ _ _ (⟨_, .binOp .eql _ _ _ _, _, _, _, _⟩ :: _) _ _); refine st_eql rfl _ _ _ _ rfl _ _ _ rfl rfl (fun h_ => ?_) (fun h_ => ?_)) | ((with_reducible show wpList _ _ _ (⟨_, .binOp .neq _ _ _ _, _, _, _, _⟩ :: _) _ _); refine st_neq rfl _ _ _ _ rfl _ _ _ rfl rfl (fun h_ => ?_) (fun h_ => ?_))) <;> go_prune)
    | ((with_reducible show wpList _ _ _ (⟨_, .load _ _, _, _, _, _⟩ :: _) _ _); refine BigFrame.wpList_want rfl fun _ hK => opw_cell rfl rfl (by kernel_rfl) k0.out (hK _ _ ?_))
    | (go_at_call 28; refine HC.out.mono ?_; rintro e w_ ⟨v, rfl, hS⟩))
  go_ret
  exact ⟨v, rfl, hS⟩
/-- what Link gives -/
def LinkP (w0 : World) (F : List Fact) (K : (Nat → Prop) → World → Prop) (L : List (Nat × Nat)) (a b : Int) (r : Value) (z : Int) (w : World) : Prop :=
  (¬ ((1 ≤ a ∧ a ≤ 63) ∧ (1 ≤ b ∧ b ≤ 63) ∧ a ≠ b) ∧ r = .pointer none ∧ z = 1 ∧ St w0 w F K) ∨
  ∃ x y : Nat, a = (x : Int) ∧ b = (y : Int) ∧ (1 ≤ x ∧ x < 64) ∧ (1 ≤ y ∧ y < 64) ∧ x ≠ y ∧
    (((x, y) ∈ L ∧ r = .pointer none ∧ z = 5 ∧ St w0 w F K) ∨ ((x, y) ∉ L ∧ ¬ Acyc (L ++ [(x, y)]) ∧ r = .pointer none ∧ z = 16 ∧ St w0 w F K) ∨
      ((x, y) ∉ L ∧ z = 0 ∧ ∃ L' : List (Nat × Nat), HOK L' ∧ (∀ u, u ∈ L' ↔ u ∈ L ++ [(x, y)]) ∧ St w0 w F fun D w => K D w ∧ IsH w D r L'))
theorem hlink_any {w0 w : World} {F : List Fact} {K : (Nat → Prop) → World → Prop} (p : Value) (L : List (Nat × Nat)) (a b : Int) (hH : HOK L) (hl : L.length ≤ 900000) (hS : St w0 w F K)
    (ko : ∀ D w, K D w → IsH w D p L) (kt : ∀ D w, K D w → DTab w ∧ D 0) :
    Calls Tryd.prog 44 #[p, .int .i64 a, .int .i64 b] w fun e w' => ∃ (r : Value) (z : Int), e = .returned (.tuple #[r, .int .i64 z]) ∧ LinkP w0 F K L a b r z w' := by
  have KS := hS.stable
  obtain ⟨q, o, rfl, hX⟩ := ko _ _ hS.ro
  have hS := hS.add stable_hierX hX fun b h _ => h
  clear hX
  have HH := Lib.hid hH
  clear hH
  by_cases hra : 1 ≤ a ∧ a ≤ 63
  · have HRA := Lib.hid (decide_eq_true hra)
    by_cases hrb : 1 ≤ b ∧ b ≤ 63
    · have HRB := Lib.hid (decide_eq_true hrb)
      by_cases hab : a = b
      · subst hab
        have HNO : Hid (¬ ((1 ≤ a ∧ a ≤ 63) ∧ (1 ≤ a ∧ a ≤ 63) ∧ a ≠ a)) := Lib.hid fun h => h.2.2 rfl
        clear hra hrb
        go_enter Tryd.func44, Tryd.ntmps44
        go_wp2_with (first
          | ((with_reducible show wpList _ _ _ (⟨_, .binOp _ _ _ _ _, _, _, _, _⟩ :: _) _ _); (first | ((with_reducible show wpList _ _ _ (⟨_, .binOp .lss _ _ _ _, _, _, _, _⟩ :: _) _ _); refine st_lss rfl _ _ _ _ rfl _ _ _ rfl rfl (fun h_ => ?_) (fun h_ => ?_)) | ((with_reducible show wpList _ _ _ (⟨_, .binOp .leq _ _ _ _, _, _, _, _⟩ :: _) _ _); refine st_leq rfl _ _ _ _ rfl _ _ _ rfl rfl (fun h_ => ?_) (fun h_ => ?_)) | ((with_reducible show wpList _ _ _ (⟨_, .binOp .gtr _ _ _ _, _, _, _, _⟩ :: _) _ _); refine st_gtr rfl _ _ _ _ rfl _ _ _ rfl rfl (fun h_ => ?_) (fun h_ => ?_)) | ((with_reducible show wpList _ _ _ (⟨_, .binOp .geq _ _ _ _, _, _, _, _⟩ :: _) _ _); refine st_geq rfl _ _ _ _ rfl _ _ _ rfl rfl (fun h_ => ?_) (fun h_ => ?_)) | ((with_reducible show wpList _ _ _ (⟨_, .binOp .eql _ _ _ _, _, _, _, _⟩ :: _) _ _); refine st_eql rfl _ _ _ _ rfl _ _ _ rfl rfl (fun h_ => ?_) (fun h_ => ?_)) | ((with_reducible show wpList _ _ _ (⟨_, .binOp .neq _ _ _ _, _, _, _, _⟩ :: _) _ _); refine st_neq rfl _ _ _ _ rfl _ _ _ rfl rfl (fun h_ => ?_) (fun h_ => ?_))) <;> go_prune)
          | (go_at_call 55; refine (role_any _ _).mono ?_; (first | rw [HRA.out] | rw [HRB.out]); rintro r_ w_ ⟨_, rfl, rfl, hb_⟩; replace hS := hS.ext hb_; clear hb_))
        go_ret2
        exact ⟨_, _, rfl, .inl ⟨HNO.out, rfl, rfl, hS.mono KS fun _ _ h => h.1⟩⟩
      · obtain ⟨x, rfl⟩ : ∃ x : Nat, a = (x : Int) := ⟨a.toNat, by omega⟩
        obtain ⟨y, rfl⟩ : ∃ y : Nat, b = (y : Int) := ⟨b.toNat, by omega⟩
        have hx1 : Hid (1 ≤ x ∧ x < 64) := Lib.hid (by omega)
        have hy1 : Hid (1 ≤ y ∧ y < 64) := Lib.hid (by omega)
        have hxy : Hid (x ≠ y) := Lib.hid (by omega)
        clear hra hrb
        have HW := Lib.hid (fun (w : World) (h : St w0 w F fun D w => K D w ∧ HierX q o L D w) => owith_any o 64 L x y (by omega) HH.out.inr hl hx1.out.2 hy1.out.2 h (fun D w h => h.2.2) (fun D w h => kt D w h.1))
        go_enter Tryd.func44, Tryd.ntmps44
        go_wp2_with (first
          | ((with_reducible show wpList _ _ _ (⟨_, .binOp _ _ _ _ _, _, _, _, _⟩ :: _) _ _); (first | ((with_reducible show wpList _ _ _ (⟨_, .binOp .lss _ _ _ _, _, _, _, _⟩ :: _) _ _); refine st_lss rfl _ _ _ _ rfl _ _ _ rfl rfl (fun h_ => ?_) (fun h_ => ?_)) | ((with_reducible show wpList _ _ _ (⟨_, .binOp .leq _ _ _ _, _, _, _, _⟩ :: _) _ _); refine st_leq rfl _ _ _ _ rfl _ _ _ rfl rfl (fun h_ => ?_) (fun h_ => ?_)) | ((with_reducible show wpList _ _ _ (⟨_, .binOp .gtr _ _ _ _, _, _, _, _⟩ :: _) _ _); refine st_gtr rfl _ _ _ _ rfl _ _ _ rfl rfl (fun h_ => ?_) (fun h_ => ?_)) | ((with_reducible show wpList _ _ _ (⟨_, .binOp .geq _ _ _ _, _, _, _, _⟩ :: _) _ _); refine st_geq rfl _ _ _ _ rfl _ _ _ rfl rfl (fun h_ => ?_) (fun h_ => ?_)) | ((with_reducible show wpList _ _ _ (⟨_, .binOp .eql _ _ _ _, _, _, _, _⟩ :: _) _ _); refine st_eql rfl _ _ _ _ rfl _ _ _ rfl rfl (fun h_ => ?_) (fun h_ => ?_)) | ((with_reducible show wpList _ _ _ (⟨_, .binOp .neq _ _ _ _, _, _, _, _⟩ :: _) _ _); refine st_neq rfl _ _ _ _ rfl _ _ _ rfl rfl (fun h_ => ?_) (fun h_ => ?_))) <;> go_prune)
          | (go_at_call 55; refine (role_any _ _).mono ?_; (first | rw [HRA.out] | rw [HRB.out]); rintro r_ w_ ⟨_, rfl, rfl, hb_⟩; replace hS := hS.ext hb_; clear hb_)
          | ((with_reducible show wpList _ _ _ (⟨_, .load _ _, _, _, _, _⟩ :: _) _ _); refine st_kcell hS rfl _ _ rfl _ rfl _ (fun D w h => h.2.1.cell 0 rfl) (by kernel_rfl) ?_)
          | (go_at_call 73; refine (HW.out _ hS).mono ?_; rintro e w_ (⟨hm, rfl, hS⟩ | ⟨hm, v, rfl, (⟨hc, rfl, hS⟩ | ⟨pp, L', rfl, hA, hmm, hc, hS⟩)⟩) <;> (try obtain ⟨qo, _, _, _, _, _, _, rfl, -⟩ := hS.ro.2))
          | ((with_reducible show wpList _ _ _ (⟨some 42, _, _, _, _, _⟩ :: _) _ _); refine st_box hS rfl _ _ rfl (.agg #[.pointer (some ⟨qo, 0, none⟩)]) _ rfl rfl ?_; clear hS; intro g w_ hS; (try simp only [Act.put, Act.eval, List.set_cons_zero, List.set_cons_succ, List.setIfInBounds_toArray, Array.getD_eq_getD_getElem?, List.getElem?_toArray, List.getElem?_cons_succ, List.getElem?_cons_zero, Option.getD_some, Value.cells] at hS)))
        · go_ret2
          exact ⟨_, _, rfl, .inr ⟨x, y, rfl, rfl, hx1.out, hy1.out, hxy.out, .inl ⟨hm, rfl, rfl, hS.mono KS fun _ _ h => h.1⟩⟩⟩
        · go_ret2
          exact ⟨_, _, rfl, .inr ⟨x, y, rfl, rfl, hx1.out, hy1.out, hxy.out, .inr (.inl ⟨hm, hc, rfl, rfl, hS.mono KS fun _ _ h => h.1⟩)⟩⟩
        · go_ret2
          refine ⟨_, _, rfl, .inr ⟨x, y, rfl, rfl, hx1.out, hy1.out, hxy.out, .inr (.inr ⟨hm, rfl, L', ⟨hA, fun u hu => ?_, hc⟩, hmm, (hS.seal 0 (by simp) rfl).mono (KS.and stable_isH) fun D w h => ⟨h.1.1.1, g, _, rfl, h.2, h.1.2⟩⟩)⟩⟩
          rcases List.mem_append.1 ((hmm u).1 hu) with h | h
          · exact HH.out.role u h
          · rw [List.mem_singleton] at h; subst h; exact ⟨hx1.out, hy1.out⟩
    · have HRB := Lib.hid (decide_eq_false hrb)
      have HNO : Hid (¬ ((1 ≤ a ∧ a ≤ 63) ∧ (1 ≤ b ∧ b ≤ 63) ∧ a ≠ b)) := Lib.hid fun h => hrb h.2.1
      clear hra hrb
      go_enter Tryd.func44, Tryd.ntmps44
      go_wp2_with (first
        | ((with_reducible show wpList _ _ _ (⟨_, .binOp _ _ _ _ _, _, _, _, _⟩ :: _) _ _); (first | ((with_reducible show wpList _ _ _ (⟨_, .binOp .lss _ _ _ _, _, _, _, _⟩ :: _) _ _); refine st_lss rfl _ _ _ _ rfl _ _ _ rfl rfl (fun h_ => ?_) (fun h_ => ?_)) | ((with_reducible show wpList _ _ _ (⟨_, .binOp .leq _ _ _ _, _, _, _, _⟩ :: _) _ _); refine st_leq rfl _ _ _ _ rfl _ _ _ rfl rfl (fun h_ => ?_) (fun h_ => ?_)) | ((with_reducible show wpList _ _ _ (⟨_, .binOp .gtr _ _ _ _, _, _, _, _⟩ :: _) _ _); refine st_gtr rfl _ _ _ _ rfl _ _ _ rfl rfl (fun h_ => ?_) (fun h_ => ?_)) | ((with_reducible show wpList _ _ _ (⟨_, .binOp .geq _ _ _ _, _, _, _, _⟩ :: _) _ _); refine st_geq rfl _ _ _ _ rfl _ _ _ rfl rfl (fun h_ => ?_) (fun h_ => ?_)) | ((with_reducible show wpList _ _ _ (⟨_, .binOp .eql _ _ _ _, _, _, _, _⟩ :: _) _ _); refine st_eql rfl _ _ _ _ rfl _ _ _ rfl rfl (fun h_ => ?_) (fun h_ => ?_)) | ((with_reducible show wpList _ _ _ (⟨_, .binOp .neq _ _ _ _, _, _, _, _⟩ :: _) _ _); refine st_neq rfl _ _ _ _ rfl _ _ _ rfl rfl (fun h_ => ?_) (fun h_ => ?_))) <;> go_prune)
        | (go_at_call 55; refine (role_any _ _).mono ?_; (first | rw [HRA.out] | rw [HRB.out]); rintro r_ w_ ⟨_, rfl, rfl, hb_⟩; replace hS := hS.ext hb_; clear hb_))
      go_ret2
      exact ⟨_, _, rfl, .inl ⟨HNO.out, rfl, rfl, hS.mono KS fun _ _ h => h.1⟩⟩
  · have HRA := Lib.hid (decide_eq_false hra)
    have HRB := HRA
    have HNO : Hid (¬ ((1 ≤ a ∧ a ≤ 63) ∧ (1 ≤ b ∧ b ≤ 63) ∧ a ≠ b)) := Lib.hid fun h => hra h.1
    clear hra
    go_enter Tryd.func44, Tryd.ntmps44
    go_wp2_with (first
      | ((with_reducible show wpList _ _ _ (⟨_, .binOp _ _ _ _ _, _, _, _, _⟩ :: _) _ _); (first | ((with_reducible show wpList _ _ _ (⟨_, .binOp .lss _ _ _ _, _, _, _, _⟩ :: _) _ _); refine st_lss rfl _ _ _ _ rfl _ _ _ rfl rfl (fun h_ => ?_) (fun h_ => ?_)) | ((with_reducible show wpList _ _ _ (⟨_, .binOp .leq _ _ _ _, _, _, _, _⟩ :: _) _ _); refine st_leq rfl _ _ _ _ rfl _ _ _ rfl rfl (fun h_ => ?_) (fun h_ => ?_)) | ((with_reducible show wpList _ _ _ (⟨_, .binOp .gtr _ _ _ _, _, _, _, _⟩ :: _) _ _); refine st_gtr rfl _ _ _ _ rfl _ _ _ rfl rfl (fun h_ => ?_) (fun h_ => ?_)) | ((with_reducible show wpList _ _ _ (⟨_, .binOp .geq _ _ _ _, _, _, _, _⟩ :: _) _ _); refine st_geq rfl _ _ _ _ rfl _ _ _ rfl rfl (fun h_ => ?_) (fun h_ => ?_)) | ((with_reducible show wpList _ _ _ (⟨_, .binOp .eql _ _ _ _, _, _, _, _⟩ :: _) _ _); refine st_eql rfl _ _ _ _ rfl _ _ _ rfl rfl (fun h_ => ?_) (fun h_ => ?_)) | ((with_reducible show wpList _ _ _ (⟨_, .binOp .neq _ _ _ _, _, _, _, _⟩ :: _) _ _); refine st_neq rfl _ _ _ _ rfl _ _ _ rfl rfl (fun h_ => ?_) (fun h_ => ?_))) <;> go_prune)
      | (go_at_call 55; refine (role_any _ _).mono ?_; (first | rw [HRA.out] | rw [HRB.out]); rintro r_ w_ ⟨_, rfl, rfl, hb_⟩; replace hS := hS.ext hb_; clear hb_))
    go_ret2
    exact ⟨_, _, rfl, .inl ⟨HNO.out, rfl, rfl, hS.mono KS fun _ _ h => h.1⟩⟩
end Go.Proofs.YtmlkgaiphpimiaaDoor
namespace Go.Proofs.YtmlkgaiphpimiaaDoor
open Go.RowKit
set_option maxRecDepth 20000

def OJ (C : World → Prop) (S : Value → World → Prop) (p : World × Option Value) : Prop := C p.1 ∧ ∀ r, p.2 = some r → S r p.1
def OR (C : World → Prop) (S : Value → World → Prop) (p p' : World × Option Value) : Prop := (OJ C S p → OJ C S p') ∧ ∀ v, p.2 = some v → p'.2 = some v
def ON (k : Nat) (i : Nat) (p : World × Option Value) : Prop := i = k → p.2 = none
section
variable {C : World → Prop} {S : Value → World → Prop} {p p' : World × Option Value} {k : Nat}
theorem OR.refl (p : World × Option Value) : OR C S p p := ⟨id, fun _ h => h⟩
theorem OR.trans (a b c : World × Option Value) (h : OR C S a b) (k : OR C S b c) : OR C S a c := ⟨fun y => k.1 (h.1 y), fun g y => k.2 g (h.2 g y)⟩
theorem OJ.start {w : World} (h : C w) : OJ C S (w, none) := ⟨h, fun _ h => by cases h⟩
theorem ON.start (k : Nat) (w : World) (i : Nat) : ON k i (w, none) := fun _ => rfl
theorem one_call {P : Program} {o : Oper} {a : Act} {Kt : Act → World → Prop} {Q : Exit → Act → World → Prop} {f : FuncId} {xs : Array Operand} {ts : Array TypeId} {vs : List Value} {R : Ending → World → Prop} (X : Value → Prop)
    (ho : o.op = .call { callee := .value (.func f), args := xs, argTypes := ts }) (hc : callsGo P f = true) (hv : xs.toList.map a.eval = vs) (h : Calls P f vs.toArray p.1 R) (hN : ON k k p) (hk : ∀ e w', R e w' → ∃ v, e = .returned v ∧ C w' ∧ S v w' ∧ X v)
    (hK : ∀ v w', (w'.2 = some v ∧ X v) → OR C S p w' ∧ (∀ j, j ≠ k → ON k j p → ON k j w') → Kt (a.put o.dst v) w'.1) : o.wp P a p.1 Kt Q := by
  refine opw_callw ho hc hv h fun e w' hr => ?_
  obtain ⟨v, he, h1, h2, h3⟩ := hk e w' hr
  refine ⟨v, he, hK v (w', some v) ⟨rfl, h3⟩ ⟨⟨fun _ => ⟨h1, fun r hr => by cases hr; exact h2⟩, fun g hg => ?_⟩, fun j hj _ e => absurd e hj⟩⟩
  rw [hN rfl] at hg
  cases hg
end
/-- a pair that a call hands back -/
def isTup2 (v : Value) : Prop := ∃ x y : Value, v = .tuple #[x, y]
end Go.Proofs.YtmlkgaiphpimiaaDoor
namespace Go.Proofs.YtmlkgaiphpimiaaDoor
open Go.RowKit
attribute [local go_sem ↓] Go.wp_at_zero Go.wp_at_succ
set_option maxRecDepth 20000
set_option exponentiation.threshold 5000

section
variable {P : Program} {ops : Array Oper} {rest : List Oper} {o : Oper} {a : Act} {w : World} {Q : Exit → Act → World → Prop}
/-- a remainder: a number below the divisor -/
theorem st_remlt (hg : Region.wanted o (yielded ops a.tmps) = true) (t t2 : TypeId) (x y : Operand) (ho : o.op = .binOp .rem t x y t2) (k : IntKind) (m : Int) (d : Nat) (hk : k = .u64 ∨ k = .i64) (hx : a.eval x = .int k m) (hy : a.eval y = .int k (d : Nat)) (hm : 0 ≤ m) (hd : 0 < d)
    (hr : ∀ r : Nat, r < d → wpList P ops Q rest (a.put o.dst (.int k (r : Nat))) w) : wpList P ops Q (o :: rest) a w := by
  obtain ⟨n, rfl⟩ := Int.eq_ofNat_of_zero_le hm
  refine BigFrame.wpList_want hg fun _ hK => opw_bin (v := .int k ((n % d : Nat) : Int)) ho hx hy (by simp [eqGuard]) ?_ (hK _ _ (hr _ (Nat.mod_lt _ hd)))
  have hd2 : ¬ d = 0 := by omega
  have hd1 : ¬ ((d : Nat) : Int) = 0 := by omega
  rcases hk with rfl | rfl <;> (go_simp; exact tmod_nat n d)
/-- a product of two small numbers -/
theorem st_mulsm (hg : Region.wanted o (yielded ops a.tmps) = true) (t t2 : TypeId) (x y : Operand) (ho : o.op = .binOp .mul t x y t2) (m n : Int) (hx : a.eval x = .int .i64 m) (hy : a.eval y = .int .i64 n) (hm : 0 ≤ m ∧ m ≤ 100) (hn : 0 ≤ n ∧ n ≤ 100)
    (hr : ∀ r : Nat, r ≤ 10000 → wpList P ops Q rest (a.put o.dst (.int .i64 (r : Nat))) w) : wpList P ops Q (o :: rest) a w := by
  obtain ⟨m, rfl⟩ := Int.eq_ofNat_of_zero_le hm.1
  obtain ⟨n, rfl⟩ := Int.eq_ofNat_of_zero_le hn.1
  have h1 : m * n ≤ 100 * 100 := Nat.mul_le_mul (by omega) (by omega)
  have h2 : ((m : Int) * (n : Int)) = ((m * n : Nat) : Int) := by push_cast; rfl
  refine BigFrame.wpList_want hg fun _ hK => opw_bin (v := .int .i64 ((m * n : Nat) : Int)) ho hx hy (by simp [eqGuard]) ?_ (hK _ _ (hr _ h1))
  rw [← h2]
  exact run_mul64 (by omega) (by omega)
end
theorem HOK.ins {L : List (Nat × Nat)} (h : HOK L) {x y : Nat} (hx : 1 ≤ x ∧ x < 64) (hy : 1 ≤ y ∧ y < 64) (hne : x ≠ y) (hm : (x, y) ∉ L) (ht : ¬ TC L y x) : HOK (ins L (x, y)) := by
  refine ⟨ins_asc h.asc hm, fun z hz => ?_, (acyc_ins h.acyc fun z => mem_ins).2 ?_⟩
  · rcases mem_ins.1 hz with rfl | hz
    · exact ⟨hx, hy⟩
    · exact h.role z hz
  · rintro (e | e)
    · exact hne e.symm
    · exact ht e
/-- links among the roles 1 to 6 -/
def Six (L : List (Nat × Nat)) : Prop := ∀ x ∈ L, x.1 ≤ 6 ∧ x.2 ≤ 6
theorem Six.ins {L : List (Nat × Nat)} (h : Six L) {x y : Nat} (hx : x ≤ 6) (hy : y ≤ 6) : Six (ins L (x, y)) := fun z hz => by
  rcases mem_ins.1 hz with rfl | hz
  · exact ⟨hx, hy⟩
  · exact h z hz
/-- what a link more leaves -/
theorem RLinkP.step {w0 w w' : World} {F : List Fact} {K : (Nat → Prop) → World → Prop} {pv : Value} {L : List (Nat × Nat)} {a b : Int} {e : Ending} (h : RLinkP w pv L a b e w') (hS : St w0 w (.own pv 50 2 L.length (pcells L) :: F) K) (hH : HOK L) (h6 : Six L) (ha : a ≤ 6) (hb : b ≤ 6) :
    ∃ (v : Value) (z : Int) (L' : List (Nat × Nat)), e = .returned (.tuple #[v, .int .i64 z]) ∧ HOK L' ∧ Six L' ∧ L'.length ≤ L.length + 1 ∧ St w0 w' (.own v 50 2 L'.length (pcells L') :: F) K ∧ St w0 w' (.own pv 50 2 L.length (pcells L) :: F) K := by
  rcases h with ⟨_, rfl, h⟩ | ⟨x, y, rfl, rfl, hx, hy, hne, ⟨_, rfl, h⟩ | ⟨_, _, rfl, h⟩ | ⟨hm, ht, v, rfl, hs⟩⟩
  · exact ⟨_, _, L, rfl, hH, h6, by omega, hS.ext h, hS.ext h⟩
  · exact ⟨_, _, L, rfl, hH, h6, by omega, hS.ext h, hS.ext h⟩
  · exact ⟨_, _, L, rfl, hH, h6, by omega, hS.ext h, hS.ext h⟩
  · refine ⟨v, _, _, rfl, hH.ins hx hy hne hm ht, h6.ins (by omega) (by omega), by rw [ins_len]; omega, ?_⟩
    have hn := hS.new hs.below (.own v 50 2 (L.length + 1) (pcells (ins L (x, y)))) (hs.own 0 rfl)
    rw [ins_len]
    exact ⟨hn.sub (.cons_cons _ (.cons _ (List.Sublist.refl _))), hn.sub (List.sublist_cons_self _ _)⟩
theorem sl_cell {w : World} {D : Nat → Prop} {size n c b o j : Nat} {xs : List Value} {x : Value} (h : Sl w D size (.slice (some ⟨b, o, none⟩) n c) n xs) (hj : xs[j]? = some x) : w.cell? ⟨b, o + j, none⟩ = some x := by
  obtain ⟨h1, A, c2, h2, _, _, h5⟩ := h
  have hlt := (List.getElem?_eq_some_iff.1 hj).1
  have hn : 0 < n := by
    rcases Nat.eq_zero_or_pos n with h0 | h0
    · subst h0; simp at h1; subst h1; simp at hlt
    · exact h0
  obtain ⟨b2, o2, h6, _, _, h8⟩ := h5 hn
  injection h2 with h2
  rw [h6] at h2
  injection h2 with h2
  injection h2 with h9 h10
  rw [h9, h10]
  exact h8 j x hj
set_option maxHeartbeats 1000000 in
theorem rlinks_any (x : Nat) (hx : x < T64) (w0 : World) : Calls Tryd.prog 54 #[.int .u64 (x : Nat)] w0 fun e w' => ∃ (v : Value) (L : List (Nat × Nat)), e = .returned v ∧ HOK L ∧ Six L ∧ L.length ≤ 36 ∧ St w0 w' [.own v 50 2 L.length (pcells L)] fun _ _ => True := by
  have hS := St.start0 (w := w0)
  have HX := Lib.hid hx
  clear hx
  go_enter Tryd.func54, Tryd.ntmps54
  go_wp2_with fail
  replace hS := hS.nil 3 1
  go_loopw [3, 4] (fun v i wr => ∃ (k : Nat) (l : List Nat) (vo : Value), i = .int .i64 (k : Nat) ∧ vo = v ∧ k ≤ 6 ∧ l.length = k ∧ Hid (∀ y ∈ l, 1 ≤ y ∧ y ≤ 6) ∧ St w0 wr [.own vo 3 1 l.length (ints (natInts l))] fun _ _ => True) (fun _ i _ => 6 - (intOf i).toNat)
  case atStart => exact ⟨0, [], _, rfl, rfl, by omega, rfl, Lib.hid (by simp), hS⟩
  case round =>
    clear hS
    obtain ⟨k, l, vo, rfl, rfl, hk, hlk, HL, hS⟩ := hrel
    by_cases hk6 : k < 6
    · go_wp2_with (first
        | ((with_reducible show wpList _ _ _ (⟨_, .binOp _ _ _ _ _, _, _, _, _⟩ :: _) _ _); (first | ((with_reducible show wpList _ _ _ (⟨_, .binOp .lss _ _ _ _, _, _, _, _⟩ :: _) _ _); refine st_lss rfl _ _ _ _ rfl _ _ _ rfl rfl (fun h_ => ?_) (fun h_ => ?_)) | ((with_reducible show wpList _ _ _ (⟨_, .binOp .leq _ _ _ _, _, _, _, _⟩ :: _) _ _); refine st_leq rfl _ _ _ _ rfl _ _ _ rfl rfl (fun h_ => ?_) (fun h_ => ?_)) | ((with_reducible show wpList _ _ _ (⟨_, .binOp .gtr _ _ _ _, _, _, _, _⟩ :: _) _ _); refine st_gtr rfl _ _ _ _ rfl _ _ _ rfl rfl (fun h_ => ?_) (fun h_ => ?_)) | ((with_reducible show wpList _ _ _ (⟨_, .binOp .geq _ _ _ _, _, _, _, _⟩ :: _) _ _); refine st_geq rfl _ _ _ _ rfl _ _ _ rfl rfl (fun h_ => ?_) (fun h_ => ?_)) | ((with_reducible show wpList _ _ _ (⟨_, .binOp .eql _ _ _ _, _, _, _, _⟩ :: _) _ _); refine st_eql rfl _ _ _ _ rfl _ _ _ rfl rfl (fun h_ => ?_) (fun h_ => ?_)) | ((with_reducible show wpList _ _ _ (⟨_, .binOp .neq _ _ _ _, _, _, _, _⟩ :: _) _ _); refine st_neq rfl _ _ _ _ rfl _ _ _ rfl rfl (fun h_ => ?_) (fun h_ => ?_))) <;> go_prune)
        | ((with_reducible show wpList _ _ _ (⟨some 17, _, _, _, _, _⟩ :: _) _ _); refine st_remlt rfl _ _ _ _ rfl .u64 _ 2 (.inl rfl) rfl rfl (by omega) (by omega) ?_; intro b hb2)
        | ((with_reducible show wpList _ _ _ (⟨some 21, _, _, _, _, _⟩ :: _) _ _); refine st_mulsm rfl _ _ _ _ rfl _ _ rfl rfl (by omega) (by omega) ?_; intro r2 hr2)
        | ((with_reducible show wpList _ _ _ (⟨some 24, _, _, _, _, _⟩ :: _) _ _); refine st_remlt rfl _ _ _ _ rfl .u64 _ 6 (.inl rfl) rfl rfl (by omega) (by omega) ?_; intro c hc2)
        | ((with_reducible show wpList _ _ _ (⟨some 27, _, _, _, _, _⟩ :: _) _ _); refine st_remlt rfl _ _ _ _ rfl .i64 _ 6 (.inr rfl) rfl rfl (by omega) (by omega) ?_; intro r3 hr3)
        | ((with_reducible show wpList _ _ _ (⟨_, .buildSlice _ 1 _, _, _, _, _⟩ :: _) _ _); refine st_push hS 0 rfl rfl _ _ _ _ rfl rfl ty_ints _ _ _ (.int .i64 ((1 + r3 : Nat) : Int)) #[.int .i64 ((1 + r3 : Nat) : Int)] rfl (by kernel_rfl) rfl rfl rfl rfl (by intro u hu; simp at hu; first | (subst hu; rfl) | (rcases hu with rfl | rfl <;> rfl)) (by omega) (by omega) ?_; clear hS; intro z_ v_ w_ hS; (try simp only [Act.put, Act.eval, List.set_cons_zero, List.set_cons_succ, List.setIfInBounds_toArray, Array.getD_eq_getD_getElem?, List.getElem?_toArray, List.getElem?_cons_succ, List.getElem?_cons_zero, Option.getD_some, Value.cells] at hS)))
      exact ⟨⟨k + 1, l ++ [1 + r3], _, by go_num, rfl, by omega, by simp; omega, Lib.hid (by
        intro y hy
        rcases List.mem_append.1 hy with h | h
        · exact HL.out y h
        · rw [List.mem_singleton] at h; omega), by rw [← natI_snoc, List.length_append]; exact hS⟩, by simp [intOf]; omega⟩
    · have hl6 : l.length = 6 := by omega
      obtain ⟨Ao, co, rfl, _, _⟩ := own_shp (hS.own 0 rfl)
      rw [hl6] at hS ⊢
      obtain ⟨K, kq, hS2⟩ : ∃ K : (Nat → Prop) → World → Prop, (∀ D w, K D w → Sl w D 1 (.slice Ao 6 co) 6 (ints (natInts l))) ∧ St w0 wr [] K := ⟨_, fun _ _ h => h.2, hS.freeze 0 (by decide) rfl⟩
      clear hS
      have hS := hS2
      clear hS2
      obtain ⟨bo, oo, rfl⟩ : ∃ bo oo, Ao = some ⟨bo, oo, none⟩ := by
        obtain ⟨_, A2, c2, e2, _, _, h5⟩ := kq _ _ hS.ro
        obtain ⟨b, o, h6, _⟩ := h5 (by omega)
        injection e2 with e2
        exact ⟨b, o, e2.trans h6⟩
      have KS := hS.stable
      have HR := Lib.hid (fun (w : World) (D : Nat → Prop) (pv : Value) (L : List (Nat × Nat)) (h : Sl w D 2 pv L.length (pcells L)) (hH : HOK L) (hl : L.length ≤ 36) => rlink_any h hH.inr (by omega))
      go_wp2_with (first | ((with_reducible show wpList _ _ _ (⟨_, .binOp _ _ _ _ _, _, _, _, _⟩ :: _) _ _); (first | ((with_reducible show wpList _ _ _ (⟨_, .binOp .lss _ _ _ _, _, _, _, _⟩ :: _) _ _); refine st_lss rfl _ _ _ _ rfl _ _ _ rfl rfl (fun h_ => ?_) (fun h_ => ?_)) | ((with_reducible show wpList _ _ _ (⟨_, .binOp .leq _ _ _ _, _, _, _, _⟩ :: _) _ _); refine st_leq rfl _ _ _ _ rfl _ _ _ rfl rfl (fun h_ => ?_) (fun h_ => ?_)) | ((with_reducible show wpList _ _ _ (⟨_, .binOp .gtr _ _ _ _, _, _, _, _⟩ :: _) _ _); refine st_gtr rfl _ _ _ _ rfl _ _ _ rfl rfl (fun h_ => ?_) (fun h_ => ?_)) | ((with_reducible show wpList _ _ _ (⟨_, .binOp .geq _ _ _ _, _, _, _, _⟩ :: _) _ _); refine st_geq rfl _ _ _ _ rfl _ _ _ rfl rfl (fun h_ => ?_) (fun h_ => ?_)) | ((with_reducible show wpList _ _ _ (⟨_, .binOp .eql _ _ _ _, _, _, _, _⟩ :: _) _ _); refine st_eql rfl _ _ _ _ rfl _ _ _ rfl rfl (fun h_ => ?_) (fun h_ => ?_)) | ((with_reducible show wpList _ _ _ (⟨_, .binOp .neq _ _ _ _, _, _, _, _⟩ :: _) _ _); refine st_neq rfl _ _ _ _ rfl _ _ _ rfl rfl (fun h_ => ?_) (fun h_ => ?_))) <;> go_prune))
      replace hS := hS.nil 50 2
      clear hlk hk hk6
      go_loopw [5, 6, 7] (fun v b i wr => ∃ (i' b' : Nat) (pv : Value) (L : List (Nat × Nat)), i = .int .i64 (i' : Nat) ∧ b = .int .i64 (b' : Nat) ∧ pv = v ∧ i' ≤ 6 ∧ b' ≤ 6 * i' ∧ L.length ≤ b' ∧ Hid (HOK L ∧ Six L) ∧ St w0 wr [.own pv 50 2 L.length (pcells L)] K) (fun _ _ i _ => 6 - (intOf i).toNat)
      case atStart => exact ⟨0, 0, _, [], rfl, rfl, rfl, by omega, by omega, by simp, Lib.hid ⟨HOK.nil, by intro x hx; simp at hx⟩, hS⟩
      case round =>
        clear hS
        obtain ⟨i, b, pv, L, rfl, rfl, rfl, hi, hb, hLb, HO, hS⟩ := hrel
        by_cases hi6 : i < 6
        · go_wp2_with (first | ((with_reducible show wpList _ _ _ (⟨_, .binOp _ _ _ _ _, _, _, _, _⟩ :: _) _ _); (first | ((with_reducible show wpList _ _ _ (⟨_, .binOp .lss _ _ _ _, _, _, _, _⟩ :: _) _ _); refine st_lss rfl _ _ _ _ rfl _ _ _ rfl rfl (fun h_ => ?_) (fun h_ => ?_)) | ((with_reducible show wpList _ _ _ (⟨_, .binOp .leq _ _ _ _, _, _, _, _⟩ :: _) _ _); refine st_leq rfl _ _ _ _ rfl _ _ _ rfl rfl (fun h_ => ?_) (fun h_ => ?_)) | ((with_reducible show wpList _ _ _ (⟨_, .binOp .gtr _ _ _ _, _, _, _, _⟩ :: _) _ _); refine st_gtr rfl _ _ _ _ rfl _ _ _ rfl rfl (fun h_ => ?_) (fun h_ => ?_)) | ((with_reducible show wpList _ _ _ (⟨_, .binOp .geq _ _ _ _, _, _, _, _⟩ :: _) _ _); refine st_geq rfl _ _ _ _ rfl _ _ _ rfl rfl (fun h_ => ?_) (fun h_ => ?_)) | ((with_reducible show wpList _ _ _ (⟨_, .binOp .eql _ _ _ _, _, _, _, _⟩ :: _) _ _); refine st_eql rfl _ _ _ _ rfl _ _ _ rfl rfl (fun h_ => ?_) (fun h_ => ?_)) | ((with_reducible show wpList _ _ _ (⟨_, .binOp .neq _ _ _ _, _, _, _, _⟩ :: _) _ _); refine st_neq rfl _ _ _ _ rfl _ _ _ rfl rfl (fun h_ => ?_) (fun h_ => ?_))) <;> go_prune))
          go_loopw [5, 6, 8] (fun v b_ k wr => ∃ (k' b' : Nat) (pv : Value) (L : List (Nat × Nat)), k = .int .i64 (k' : Nat) ∧ b_ = .int .i64 (b' : Nat) ∧ pv = v ∧ i < k' ∧ k' ≤ 6 ∧ b' + i + 1 ≤ 6 * i + k' ∧ L.length ≤ b' ∧ Hid (HOK L ∧ Six L) ∧ St w0 wr [.own pv 50 2 L.length (pcells L)] K) (fun _ _ k _ => 6 - (intOf k).toNat)
          case atStart => exact ⟨i + 1, b, _, L, by go_num, rfl, rfl, by omega, by omega, by omega, hLb, HO, hS⟩
          case round =>
            clear hS HO hb hLb
            obtain ⟨k, b, pv, L, rfl, rfl, rfl, hik, hk, hb, hLb, HO, hS⟩ := hrel
            by_cases hk6 : k < 6
            · cases hbit : x.testBit b
              · go_wp2_with (first
                  | ((with_reducible show wpList _ _ _ (⟨_, .binOp .shr _ _ _ _, _, _, _, _⟩ :: _) _ _); refine st_shrN rfl _ _ _ _ rfl _ _ rfl rfl (by omega) ?_)
                  | ((with_reducible show wpList _ _ _ (⟨some 44, _, _, _, _, _⟩ :: _) _ _); refine st_rem2 rfl _ _ _ _ rfl _ rfl rfl ?_)
                  | ((with_reducible show wpList _ _ _ (⟨some 45, _, _, _, _, _⟩ :: _) _ _); refine st_btest rfl _ _ _ _ rfl _ _ rfl rfl hbit ?_)
                  | ((with_reducible show wpList _ _ _ (⟨_, .binOp _ _ _ _ _, _, _, _, _⟩ :: _) _ _); (first | ((with_reducible show wpList _ _ _ (⟨_, .binOp .lss _ _ _ _, _, _, _, _⟩ :: _) _ _); refine st_lss rfl _ _ _ _ rfl _ _ _ rfl rfl (fun h_ => ?_) (fun h_ => ?_)) | ((with_reducible show wpList _ _ _ (⟨_, .binOp .leq _ _ _ _, _, _, _, _⟩ :: _) _ _); refine st_leq rfl _ _ _ _ rfl _ _ _ rfl rfl (fun h_ => ?_) (fun h_ => ?_)) | ((with_reducible show wpList _ _ _ (⟨_, .binOp .gtr _ _ _ _, _, _, _, _⟩ :: _) _ _); refine st_gtr rfl _ _ _ _ rfl _ _ _ rfl rfl (fun h_ => ?_) (fun h_ => ?_)) | ((with_reducible show wpList _ _ _ (⟨_, .binOp .geq _ _ _ _, _, _, _, _⟩ :: _) _ _); refine st_geq rfl _ _ _ _ rfl _ _ _ rfl rfl (fun h_ => ?_) (fun h_ => ?_)) | ((with_reducible show wpList _ _ _ (⟨_, .binOp .eql _ _ _ _, _, _, _, _⟩ :: _) _ _); refine st_eql rfl _ _ _ _ rfl _ _ _ rfl rfl (fun h_ => ?_) (fun h_ => ?_)) | ((with_reducible show wpList _ _ _ (⟨_, .binOp .neq _ _ _ _, _, _, _, _⟩ :: _) _ _); refine st_neq rfl _ _ _ _ rfl _ _ _ rfl rfl (fun h_ => ?_) (fun h_ => ?_))) <;> go_prune))
                exact ⟨⟨k + 1, b + 1, _, L, by go_num, by go_num, rfl, by omega, by omega, by omega, by omega, HO, hS⟩, by simp [intOf]; omega⟩
              · go_wp2_with (first
                  | ((with_reducible show wpList _ _ _ (⟨_, .binOp .shr _ _ _ _, _, _, _, _⟩ :: _) _ _); refine st_shrN rfl _ _ _ _ rfl _ _ rfl rfl (by omega) ?_)
                  | ((with_reducible show wpList _ _ _ (⟨some 44, _, _, _, _, _⟩ :: _) _ _); refine st_rem2 rfl _ _ _ _ rfl _ rfl rfl ?_)
                  | ((with_reducible show wpList _ _ _ (⟨some 45, _, _, _, _, _⟩ :: _) _ _); refine st_btest rfl _ _ _ _ rfl _ _ rfl rfl hbit ?_)
                  | ((with_reducible show wpList _ _ _ (⟨_, .binOp _ _ _ _ _, _, _, _, _⟩ :: _) _ _); (first | ((with_reducible show wpList _ _ _ (⟨_, .binOp .lss _ _ _ _, _, _, _, _⟩ :: _) _ _); refine st_lss rfl _ _ _ _ rfl _ _ _ rfl rfl (fun h_ => ?_) (fun h_ => ?_)) | ((with_reducible show wpList _ _ _ (⟨_, .binOp .leq _ _ _ _, _, _, _, _⟩ :: _) _ _); refine st_leq rfl _ _ _ _ rfl _ _ _ rfl rfl (fun h_ => ?_) (fun h_ => ?_)) | ((with_reducible show wpList _ _ _ (⟨_, .binOp .gtr _ _ _ _, _, _, _, _⟩ :: _) _ _); refine st_gtr rfl _ _ _ _ rfl _ _ _ rfl rfl (fun h_ => ?_) (fun h_ => ?_)) | ((with_reducible show wpList _ _ _ (⟨_, .binOp .geq _ _ _ _, _, _, _, _⟩ :: _) _ _); refine st_geq rfl _ _ _ _ rfl _ _ _ rfl rfl (fun h_ => ?_) (fun h_ => ?_)) | ((with_reducible show wpList _ _ _ (⟨_, .binOp .eql _ _ _ _, _, _, _, _⟩ :: _) _ _); refine st_eql rfl _ _ _ _ rfl _ _ _ rfl rfl (fun h_ => ?_) (fun h_ => ?_)) | ((with_reducible show wpList _ _ _ (⟨_, .binOp .neq _ _ _ _, _, _, _, _⟩ :: _) _ _); refine st_neq rfl _ _ _ _ rfl _ _ _ rfl rfl (fun h_ => ?_) (fun h_ => ?_))) <;> go_prune))
                have f1 := Lib.hid (natI_at (l := l) (k := i) (by omega))
                have f2 := Lib.hid (natI_at (l := l) (k := k) (by omega))
                have b1 := HL.out (l.getD i 0) (by rw [List.getD_eq_getElem?_getD, List.getElem?_eq_getElem (by omega)]; exact List.getElem_mem _)
                have b2 := HL.out (l.getD k 0) (by rw [List.getD_eq_getElem?_getD, List.getElem?_eq_getElem (by omega)]; exact List.getElem_mem _)
                generalize l.getD i 0 = y1 at *
                generalize l.getD k 0 = y2 at *
                obtain ⟨C, hC⟩ : ∃ C : World → Prop, C = fun w => St w0 w [.own pv 50 2 L.length (pcells L)] K := ⟨_, rfl⟩
                obtain ⟨S, hSS⟩ : ∃ S : Value → World → Prop, S = fun r w => ∃ (v : Value) (z : Int) (L' : List (Nat × Nat)), r = .tuple #[v, .int .i64 z] ∧ HOK L' ∧ Six L' ∧ L'.length ≤ L.length + 1 ∧ St w0 w [.own v 50 2 L'.length (pcells L')] K := ⟨_, rfl⟩
                have HC2 : Hid (∀ w, C w → St w0 w [.own pv 50 2 L.length (pcells L)] K) := Lib.hid fun w h => by rw [hC] at h; exact h
                have HC3 : Hid (∀ w, St w0 w [.own pv 50 2 L.length (pcells L)] K → C w) := Lib.hid fun w h => by rw [hC]; exact h
                have HS2 : Hid (∀ r w, S r w → ∃ (v : Value) (z : Int) (L' : List (Nat × Nat)), r = .tuple #[v, .int .i64 z] ∧ HOK L' ∧ Six L' ∧ L'.length ≤ L.length + 1 ∧ St w0 w [.own v 50 2 L'.length (pcells L')] K) := Lib.hid fun r w h => by rw [hSS] at h; exact h
                have HS3 : Hid (∀ r w, (∃ (v : Value) (z : Int) (L' : List (Nat × Nat)), r = .tuple #[v, .int .i64 z] ∧ HOK L' ∧ Six L' ∧ L'.length ≤ L.length + 1 ∧ St w0 w [.own v 50 2 L'.length (pcells L')] K) → S r w) := Lib.hid fun r w h => by rw [hSS]; exact h
                have hJ0 : OJ C S (wr.drew, none) := OJ.start (HC3.out _ hS.drew)
                have hN0 := ON.start 9 wr.drew
                clear hC hSS hS
                have hRr := @OR.refl C S
                have hRt := @OR.trans C S
                refine wp_region_ghost (fun i__ v w => match i__ with
                  | 0 => v = pv
                  | 1 => v = .slice (some ⟨bo, oo, none⟩) 6 co
                  | 2 => v = .int .i64 ((i : Nat) : Int)
                  | 3 => v = .pointer (some ⟨bo, oo + (i) * 1, none⟩)
                  | 4 => v = .int .i64 ((y1 : Nat) : Int)
                  | 5 => v = .slice (some ⟨bo, oo, none⟩) 6 co
                  | 6 => v = .int .i64 ((k : Nat) : Int)
                  | 7 => v = .pointer (some ⟨bo, oo + (k) * 1, none⟩)
                  | 8 => v = .int .i64 ((y2 : Nat) : Int)
                  | 9 => w.2 = some v ∧ isTup2 v
                  | 10 => w.2 = some v ∧ isTup2 v
                  | 11 => ∃ x y : Value, w.2 = some (.tuple #[x, y]) ∧ v = x
                  | 12 => True
                  | 13 => ∃ x y : Value, w.2 = some (.tuple #[x, y]) ∧ v = x
                  | _ => True) (OR C S) (ON 9) (none) (by kernel_rfl) (by kernel_rfl) hRr hRt ?mono ?hN ⟨?r0, ?r1, ?r2, ?r3, ?r4, ?r5, ?r6, ?r7, ?r8, ?r9, ?r10, ?r11, ?r12, ?r13, trivial⟩ ?post
                case hN => first | assumption | (intro i; (try dsimp only); split <;> first | trivial | assumption | (left; assumption))
                case mono =>
                  intro i v w w' h hb
                  match i, h with
                  | 0, h => exact h
                  | 1, h => exact h
                  | 2, h => exact h
                  | 3, h => exact h
                  | 4, h => exact h
                  | 5, h => exact h
                  | 6, h => exact h
                  | 7, h => exact h
                  | 8, h => exact h
                  | 9, h => exact ⟨hb.2 _ h.1, h.2⟩
                  | 10, h => exact ⟨hb.2 _ h.1, h.2⟩
                  | 11, h => exact by obtain ⟨x, y, h1, h2⟩ := h; exact ⟨x, y, hb.2 _ h1, h2⟩
                  | 12, h => exact h
                  | 13, h => exact by obtain ⟨x, y, h1, h2⟩ := h; exact ⟨x, y, hb.2 _ h1, h2⟩
                  | _ + 14, h => trivial
                case r0 =>
                  refine truleGh fun b__ w hW hN hold hpre => ⟨fun hwant K hK => ?_, fun hwant => ?_⟩
                  · clear hwant
                    have e5 : b__.eval (.tmp 5) = pv := (hold 5 (by kernel_rfl)).trans rfl
                    exact opw_move rfl e5 (hK _ _ rfl ⟨hRr _, fun _ _ h => h⟩)
                  · rw [want_none rfl] at hwant; cases hwant
                case r1 =>
                  refine truleGh fun b__ w hW hN hold hpre => ⟨fun hwant K hK => ?_, fun hwant => ?_⟩
                  · clear hwant
                    have e3 : b__.eval (.tmp 3) = .slice (some ⟨bo, oo, none⟩) 6 co := (hold 3 (by kernel_rfl)).trans rfl
                    exact opw_move rfl e3 (hK _ _ rfl ⟨hRr _, fun _ _ h => h⟩)
                  · rw [want_none rfl] at hwant; cases hwant
                case r2 =>
                  refine truleGh fun b__ w hW hN hold hpre => ⟨fun hwant K hK => ?_, fun hwant => ?_⟩
                  · clear hwant
                    have e7 : b__.eval (.tmp 7) = .int .i64 ((i : Nat) : Int) := (hold 7 (by kernel_rfl)).trans rfl
                    exact opw_move rfl e7 (hK _ _ rfl ⟨hRr _, fun _ _ h => h⟩)
                  · rw [want_none rfl] at hwant; cases hwant
                case r3 =>
                  refine truleGh fun b__ w hW hN hold hpre => ⟨fun hwant K hK => ?_, fun hwant => ?_⟩
                  · clear hwant
                    have e48 : b__.eval (.tmp 48) = .slice (some ⟨bo, oo, none⟩) 6 co := hpre ⟨1, _⟩ (Array.mem_of_getElem? (i := 0) rfl) rfl _ _ rfl rfl
                    have e49 : b__.eval (.tmp 49) = .int .i64 ((i : Nat) : Int) := hpre ⟨2, _⟩ (Array.mem_of_getElem? (i := 1) rfl) rfl _ _ rfl rfl
                    exact opw_iaddr rfl e48 e49 (run_iaddr_lit (m := i) Tryd.underlying31 (by kernel_rfl) (by omega) (by omega)) (hK _ _ rfl ⟨hRr _, fun _ _ h => h⟩)
                  · rw [want_none rfl] at hwant; cases hwant
                case r4 =>
                  refine truleGh fun b__ w hW hN hold hpre => ⟨fun hwant K hK => ?_, fun hwant => ?_⟩
                  · clear hwant
                    have e50 : b__.eval (.tmp 50) = .pointer (some ⟨bo, oo + (i) * 1, none⟩) := hpre ⟨3, _⟩ (Array.mem_of_getElem? (i := 0) rfl) rfl _ _ rfl rfl
                    exact opw_cell rfl e50 (by kernel_rfl) (by rw [Nat.mul_one]; exact sl_cell (kq _ _ (HC2.out _ (hW.1 hJ0).1).ro) f1.out) (hK _ _ rfl ⟨hRr _, fun _ _ h => h⟩)
                  · rw [want_none rfl] at hwant; cases hwant
                case r5 =>
                  refine truleGh fun b__ w hW hN hold hpre => ⟨fun hwant K hK => ?_, fun hwant => ?_⟩
                  · clear hwant
                    have e3 : b__.eval (.tmp 3) = .slice (some ⟨bo, oo, none⟩) 6 co := (hold 3 (by kernel_rfl)).trans rfl
                    exact opw_move rfl e3 (hK _ _ rfl ⟨hRr _, fun _ _ h => h⟩)
                  · rw [want_none rfl] at hwant; cases hwant
                case r6 =>
                  refine truleGh fun b__ w hW hN hold hpre => ⟨fun hwant K hK => ?_, fun hwant => ?_⟩
                  · clear hwant
                    have e8 : b__.eval (.tmp 8) = .int .i64 ((k : Nat) : Int) := (hold 8 (by kernel_rfl)).trans rfl
                    exact opw_move rfl e8 (hK _ _ rfl ⟨hRr _, fun _ _ h => h⟩)
                  · rw [want_none rfl] at hwant; cases hwant
                case r7 =>
                  refine truleGh fun b__ w hW hN hold hpre => ⟨fun hwant K hK => ?_, fun hwant => ?_⟩
                  · clear hwant
                    have e52 : b__.eval (.tmp 52) = .slice (some ⟨bo, oo, none⟩) 6 co := hpre ⟨5, _⟩ (Array.mem_of_getElem? (i := 0) rfl) rfl _ _ rfl rfl
                    have e53 : b__.eval (.tmp 53) = .int .i64 ((k : Nat) : Int) := hpre ⟨6, _⟩ (Array.mem_of_getElem? (i := 1) rfl) rfl _ _ rfl rfl
                    exact opw_iaddr rfl e52 e53 (run_iaddr_lit (m := k) Tryd.underlying31 (by kernel_rfl) (by omega) (by omega)) (hK _ _ rfl ⟨hRr _, fun _ _ h => h⟩)
                  · rw [want_none rfl] at hwant; cases hwant
                case r8 =>
                  refine truleGh fun b__ w hW hN hold hpre => ⟨fun hwant K hK => ?_, fun hwant => ?_⟩
                  · clear hwant
                    have e54 : b__.eval (.tmp 54) = .pointer (some ⟨bo, oo + (k) * 1, none⟩) := hpre ⟨7, _⟩ (Array.mem_of_getElem? (i := 0) rfl) rfl _ _ rfl rfl
                    exact opw_cell rfl e54 (by kernel_rfl) (by rw [Nat.mul_one]; exact sl_cell (kq _ _ (HC2.out _ (hW.1 hJ0).1).ro) f2.out) (hK _ _ rfl ⟨hRr _, fun _ _ h => h⟩)
                  · rw [want_none rfl] at hwant; cases hwant
                case r9 =>
                  refine truleGh fun b__ w hW hN hold hpre => ⟨fun hwant K hK => ?_, fun hwant => ?_⟩
                  · clear hwant
                    have e47 : b__.eval (.tmp 47) = pv := hpre ⟨0, _⟩ (Array.mem_of_getElem? (i := 0) rfl) rfl _ _ rfl rfl
                    have e51 : b__.eval (.tmp 51) = .int .i64 ((y1 : Nat) : Int) := hpre ⟨4, _⟩ (Array.mem_of_getElem? (i := 1) rfl) rfl _ _ rfl rfl
                    have e55 : b__.eval (.tmp 55) = .int .i64 ((y2 : Nat) : Int) := hpre ⟨8, _⟩ (Array.mem_of_getElem? (i := 2) rfl) rfl _ _ rfl rfl
                    exact one_call isTup2 rfl (by kernel_rfl) (by simp only [List.map_cons, List.map_nil, e47, e51, e55]) (rlink_any (Sl.of_own ((HC2.out _ (hW.1 hJ0).1).own 0 rfl)) HO.out.1.inr (by omega) ((y1 : Nat) : Int) ((y2 : Nat) : Int)) hN (fun e w' h => by obtain ⟨v, z, L', rfl, h1, h2, h3, h4, h5⟩ := h.step (HC2.out _ (hW.1 hJ0).1) HO.out.1 HO.out.2 (by omega) (by omega); exact ⟨_, rfl, HC3.out _ h5, HS3.out _ _ ⟨v, z, L', rfl, h1, h2, h3, h4⟩, _, _, rfl⟩) hK
                  · rw [want_none rfl] at hwant; cases hwant
                case r10 =>
                  refine truleGh fun b__ w hW hN hold hpre => ⟨fun hwant K hK => ?_, fun hwant => ?_⟩
                  · clear hwant
                    have e56 : (fun (v : Value) (w : World × _) => w.2 = some v ∧ isTup2 v) (b__.eval (.tmp 56)) w := hpre ⟨9, _⟩ (Array.mem_of_getElem? (i := 0) rfl) rfl _ _ rfl rfl
                    exact opw_move rfl rfl (hK _ _ e56 ⟨hRr _, fun _ _ h => h⟩)
                  · rw [want_none rfl] at hwant; cases hwant
                case r11 =>
                  refine truleGh fun b__ w hW hN hold hpre => ⟨fun hwant K hK => ?_, fun hwant => ?_⟩
                  · clear hwant
                    have e46 : (fun (v : Value) (w : World × _) => w.2 = some v ∧ isTup2 v) (b__.eval (.tmp 46)) w := hpre ⟨10, _⟩ (Array.mem_of_getElem? (i := 0) rfl) rfl _ _ rfl rfl
                    obtain ⟨hd, x, y, hv⟩ := e46
                    rw [hv] at hd
                    exact opw_extract rfl hv rfl (hK _ _ ⟨x, y, hd, rfl⟩ ⟨hRr _, fun _ _ h => h⟩)
                  · rw [want_none rfl] at hwant; cases hwant
                case r12 =>
                  refine truleGh fun b__ w hW hN hold hpre => ⟨fun hwant K hK => ?_, fun hwant => ?_⟩
                  · clear hwant
                    have e46 : (fun (v : Value) (w : World × _) => w.2 = some v ∧ isTup2 v) (b__.eval (.tmp 46)) w := hpre ⟨10, _⟩ (Array.mem_of_getElem? (i := 0) rfl) rfl _ _ rfl rfl
                    obtain ⟨hd, x, y, hv⟩ := e46
                    exact opw_extract rfl hv rfl (hK _ _ trivial ⟨hRr _, fun _ _ h => h⟩)
                  · rw [want_none rfl] at hwant; cases hwant
                case r13 =>
                  refine truleGh fun b__ w hW hN hold hpre => ⟨fun hwant K hK => ?_, fun hwant => ?_⟩
                  · clear hwant
                    have e57 : (fun (v : Value) (w : World × _) => ∃ x y : Value, w.2 = some (.tuple #[x, y]) ∧ v = x) (b__.eval (.tmp 57)) w := hpre ⟨11, _⟩ (Array.mem_of_getElem? (i := 0) rfl) rfl _ _ rfl rfl
                    exact opw_assign rfl rfl (hK _ _ e57 ⟨hRr _, fun _ _ h => h⟩)
                  · rw [want_none rfl] at hwant; cases hwant
                case post =>
                  intro b__ wz hW hdf hsz hold hT hZ
                  have e47 : b__.eval (.tmp 47) = pv := hT 0 _ 47 rfl rfl
                  have e48 : b__.eval (.tmp 48) = .slice (some ⟨bo, oo, none⟩) 6 co := hT 1 _ 48 rfl rfl
                  have e49 : b__.eval (.tmp 49) = .int .i64 ((i : Nat) : Int) := hT 2 _ 49 rfl rfl
                  have e50 : b__.eval (.tmp 50) = .pointer (some ⟨bo, oo + (i) * 1, none⟩) := hT 3 _ 50 rfl rfl
                  have e51 : b__.eval (.tmp 51) = .int .i64 ((y1 : Nat) : Int) := hT 4 _ 51 rfl rfl
                  have e52 : b__.eval (.tmp 52) = .slice (some ⟨bo, oo, none⟩) 6 co := hT 5 _ 52 rfl rfl
                  have e53 : b__.eval (.tmp 53) = .int .i64 ((k : Nat) : Int) := hT 6 _ 53 rfl rfl
                  have e54 : b__.eval (.tmp 54) = .pointer (some ⟨bo, oo + (k) * 1, none⟩) := hT 7 _ 54 rfl rfl
                  have e55 : b__.eval (.tmp 55) = .int .i64 ((y2 : Nat) : Int) := hT 8 _ 55 rfl rfl
                  have e56 : (fun (v : Value) (w : World × _) => w.2 = some v ∧ isTup2 v) (b__.eval (.tmp 56)) wz := hT 9 _ 56 rfl rfl
                  have e46 : (fun (v : Value) (w : World × _) => w.2 = some v ∧ isTup2 v) (b__.eval (.tmp 46)) wz := hT 10 _ 46 rfl rfl
                  have e57 : (fun (v : Value) (w : World × _) => ∃ x y : Value, w.2 = some (.tuple #[x, y]) ∧ v = x) (b__.eval (.tmp 57)) wz := hT 11 _ 57 rfl rfl
                  have e5 : (fun (v : Value) (w : World × _) => ∃ x y : Value, w.2 = some (.tuple #[x, y]) ∧ v = x) (b__.eval (.tmp 5)) wz := hT 13 _ 5 rfl rfl
                  obtain ⟨vs, hvs, hb⟩ := frame_of hdf hsz hold
                  replace e47 : vs 47 = pv := (hvs 47).symm.trans e47
                  replace e48 : vs 48 = .slice (some ⟨bo, oo, none⟩) 6 co := (hvs 48).symm.trans e48
                  replace e49 : vs 49 = .int .i64 ((i : Nat) : Int) := (hvs 49).symm.trans e49
                  replace e50 : vs 50 = .pointer (some ⟨bo, oo + (i) * 1, none⟩) := (hvs 50).symm.trans e50
                  replace e51 : vs 51 = .int .i64 ((y1 : Nat) : Int) := (hvs 51).symm.trans e51
                  replace e52 : vs 52 = .slice (some ⟨bo, oo, none⟩) 6 co := (hvs 52).symm.trans e52
                  replace e53 : vs 53 = .int .i64 ((k : Nat) : Int) := (hvs 53).symm.trans e53
                  replace e54 : vs 54 = .pointer (some ⟨bo, oo + (k) * 1, none⟩) := (hvs 54).symm.trans e54
                  replace e55 : vs 55 = .int .i64 ((y2 : Nat) : Int) := (hvs 55).symm.trans e55
                  replace e56 := (hvs 56) ▸ e56
                  replace e46 := (hvs 46) ▸ e46
                  replace e57 := (hvs 57) ▸ e57
                  replace e5 := (hvs 5) ▸ e5
                  subst hb
                  clear hvs hold hT hdf hsz
                  simp only [setAll, Act.put, List.setIfInBounds_toArray, List.set_cons_zero, List.set_cons_succ, List.getElem_toArray, List.getElem_cons_succ, List.getElem_cons_zero]
                  obtain ⟨x1, y1, d1, e5⟩ := e5
                  obtain ⟨v', z, L', hp, hO1, hO2, hLL, hS⟩ := HS2.out _ _ ((hW.1 hJ0).2 _ d1)
                  obtain ⟨rfl, rfl⟩ : x1 = v' ∧ y1 = .int .i64 z := by simpa using hp
                  rw [e5]
                  generalize wz.1 = wf at *
                  clear hJ0 hRr hRt hW hZ hN0 d1 e5 hp HC2 HC3 HS2 HS3
                  go_wp2_with fail
                  exact ⟨⟨k + 1, b + 1, _, L', by go_num, by go_num, rfl, by omega, by omega, by omega, by omega, Lib.hid ⟨hO1, hO2⟩, hS⟩, by simp [intOf]; omega⟩
            · go_wp2_with (first | ((with_reducible show wpList _ _ _ (⟨_, .binOp _ _ _ _ _, _, _, _, _⟩ :: _) _ _); (first | ((with_reducible show wpList _ _ _ (⟨_, .binOp .lss _ _ _ _, _, _, _, _⟩ :: _) _ _); refine st_lss rfl _ _ _ _ rfl _ _ _ rfl rfl (fun h_ => ?_) (fun h_ => ?_)) | ((with_reducible show wpList _ _ _ (⟨_, .binOp .leq _ _ _ _, _, _, _, _⟩ :: _) _ _); refine st_leq rfl _ _ _ _ rfl _ _ _ rfl rfl (fun h_ => ?_) (fun h_ => ?_)) | ((with_reducible show wpList _ _ _ (⟨_, .binOp .gtr _ _ _ _, _, _, _, _⟩ :: _) _ _); refine st_gtr rfl _ _ _ _ rfl _ _ _ rfl rfl (fun h_ => ?_) (fun h_ => ?_)) | ((with_reducible show wpList _ _ _ (⟨_, .binOp .geq _ _ _ _, _, _, _, _⟩ :: _) _ _); refine st_geq rfl _ _ _ _ rfl _ _ _ rfl rfl (fun h_ => ?_) (fun h_ => ?_)) | ((with_reducible show wpList _ _ _ (⟨_, .binOp .eql _ _ _ _, _, _, _, _⟩ :: _) _ _); refine st_eql rfl _ _ _ _ rfl _ _ _ rfl rfl (fun h_ => ?_) (fun h_ => ?_)) | ((with_reducible show wpList _ _ _ (⟨_, .binOp .neq _ _ _ _, _, _, _, _⟩ :: _) _ _); refine st_neq rfl _ _ _ _ rfl _ _ _ rfl rfl (fun h_ => ?_) (fun h_ => ?_))) <;> go_prune))
              exact ⟨⟨i + 1, b, _, L, by go_num, rfl, rfl, by omega, by omega, hLb, HO, hS⟩, by simp [intOf]; omega⟩
        · go_wp2_with (first | ((with_reducible show wpList _ _ _ (⟨_, .binOp _ _ _ _ _, _, _, _, _⟩ :: _) _ _); (first | ((with_reducible show wpList _ _ _ (⟨_, .binOp .lss _ _ _ _, _, _, _, _⟩ :: _) _ _); refine st_lss rfl _ _ _ _ rfl _ _ _ rfl rfl (fun h_ => ?_) (fun h_ => ?_)) | ((with_reducible show wpList _ _ _ (⟨_, .binOp .leq _ _ _ _, _, _, _, _⟩ :: _) _ _); refine st_leq rfl _ _ _ _ rfl _ _ _ rfl rfl (fun h_ => ?_) (fun h_ => ?_)) | ((with_reducible show wpList _ _ _ (⟨_, .binOp .gtr _ _ _ _, _, _, _, _⟩ :: _) _ _); refine st_gtr rfl _ _ _ _ rfl _ _ _ rfl rfl (fun h_ => ?_) (fun h_ => ?_)) | ((with_reducible show wpList _ _ _ (⟨_, .binOp .geq _ _ _ _, _, _, _, _⟩ :: _) _ _); refine st_geq rfl _ _ _ _ rfl _ _ _ rfl rfl (fun h_ => ?_) (fun h_ => ?_)) | ((with_reducible show wpList _ _ _ (⟨_, .binOp .eql _ _ _ _, _, _, _, _⟩ :: _) _ _); refine st_eql rfl _ _ _ _ rfl _ _ _ rfl rfl (fun h_ => ?_) (fun h_ => ?_)) | ((with_reducible show wpList _ _ _ (⟨_, .binOp .neq _ _ _ _, _, _, _, _⟩ :: _) _ _); refine st_neq rfl _ _ _ _ rfl _ _ _ rfl rfl (fun h_ => ?_) (fun h_ => ?_))) <;> go_prune))
          go_ret
          exact ⟨_, rfl, L, HO.out.1, HO.out.2, by omega, hS.mono (Stable.pure True) fun _ _ _ => trivial⟩
end Go.Proofs.YtmlkgaiphpimiaaDoor
namespace Go.Proofs.YtmlkgaiphpimiaaDoor
open Go.RowKit
attribute [local go_sem ↓] Go.wp_at_zero Go.wp_at_succ
set_option maxRecDepth 20000
set_option exponentiation.threshold 5000

theorem ty_intss : SliceTy Tryd.prog 79 31 1 24 := ⟨Tryd.underlying79, by kernel_rfl⟩
/-- slices that read as the lists ps -/
def PathsX (vs : List Value) (ps : List (List Nat)) (D : Nat → Prop) (w : World) : Prop := vs.length = ps.length ∧ ∀ (k : Nat) (v : Value) (p : List Nat), vs[k]? = some v → ps[k]? = some p → Sl w D 1 v p.length (ints (natInts p))
theorem PathsX.snoc {vs : List Value} {ps : List (List Nat)} {D : Nat → Prop} {w : World} (h : PathsX vs ps D w) {v : Value} {p : List Nat} (hs : Sl w D 1 v p.length (ints (natInts p))) : PathsX (vs ++ [v]) (ps ++ [p]) D w := by
  refine ⟨by simp [h.1], fun k u q h1 h2 => ?_⟩
  rcases Nat.lt_or_ge k vs.length with hk | hk
  · rw [List.getElem?_append_left hk] at h1
    rw [List.getElem?_append_left (by have := h.1; omega)] at h2
    exact h.2 k u q h1 h2
  · rw [List.getElem?_append_right hk] at h1
    rw [List.getElem?_append_right (by have := h.1; omega)] at h2
    rw [h.1] at h1
    cases e : k - ps.length with
    | zero => rw [e] at h1 h2; cases h1; cases h2; exact hs
    | succ i => rw [e] at h1; simp at h1
/-- what the region that makes a longer path has made: '[]int{}', the path, the new end, the longer path, the row of it, the rows with it -/
structure PG where
  a : Option Value
  b : Option Value
  c : Option Value
  d : Option Value
  e : Option Value
  f : Option Value
def optF (o : Option Value) (f : Value → Fact) : List Fact := match o with
  | some v => [f v]
  | none => []
def PG.F (lv : Value) (us : List Value) (p : List Nat) (y : Nat) (g : PG) : List Fact := match g.f with
  | some v => [.own v 31 1 (us.length + 1) (us ++ [g.d.getD undef]), .own (g.d.getD undef) 3 1 (p.length + 1) (ints (natInts (p ++ [y])))]
  | none => optF g.e (fun v => .own v 31 1 1 [g.d.getD undef]) ++ (.own lv 31 1 us.length us :: (match g.d with
    | some v => [.own v 3 1 (p.length + 1) (ints (natInts (p ++ [y])))]
    | none => (match g.b with
      | some v => [.own v 3 1 p.length (ints (natInts p))]
      | none => optF g.a fun v => .own v 3 1 0 []) ++ optF g.c fun v => .own v 3 1 1 [.int .i64 (y : Nat)]))
section
variable {w0 : World} {F : List Fact} {K : (Nat → Prop) → World → Prop} {lv : Value} {us : List Value} {p : List Nat} {y : Nat} {s s' : World × PG}
def PJ (w0 : World) (F : List Fact) (K : (Nat → Prop) → World → Prop) (lv : Value) (us : List Value) (p : List Nat) (y : Nat) (s : World × PG) : Prop := St w0 s.1 (s.2.F lv us p y ++ F) K
def PR (w0 : World) (F : List Fact) (K : (Nat → Prop) → World → Prop) (lv : Value) (us : List Value) (p : List Nat) (y : Nat) (s s' : World × PG) : Prop :=
  (PJ w0 F K lv us p y s → PJ w0 F K lv us p y s') ∧ (∀ v, s.2.a = some v → s'.2.a = some v) ∧ (∀ v, s.2.b = some v → s'.2.b = some v) ∧ (∀ v, s.2.c = some v → s'.2.c = some v) ∧ (∀ v, s.2.d = some v → s'.2.d = some v) ∧ (∀ v, s.2.e = some v → s'.2.e = some v) ∧ (∀ v, s.2.f = some v → s'.2.f = some v)
theorem PR.refl (s : World × PG) : PR w0 F K lv us p y s s := ⟨id, fun _ h => h, fun _ h => h, fun _ h => h, fun _ h => h, fun _ h => h, fun _ h => h⟩
theorem PR.trans (a b c : World × PG) (h : PR w0 F K lv us p y a b) (k : PR w0 F K lv us p y b c) : PR w0 F K lv us p y a c :=
  ⟨fun z => k.1 (h.1 z), fun g z => k.2.1 g (h.2.1 g z), fun g z => k.2.2.1 g (h.2.2.1 g z), fun g z => k.2.2.2.1 g (h.2.2.2.1 g z), fun g z => k.2.2.2.2.1 g (h.2.2.2.2.1 g z), fun g z => k.2.2.2.2.2.1 g (h.2.2.2.2.2.1 g z), fun g z => k.2.2.2.2.2.2 g (h.2.2.2.2.2.2 g z)⟩
/-- nothing beyond the path itself is made -/
def PG.low (g : PG) : Prop := g.d = none ∧ g.e = none ∧ g.f = none
theorem lit_own {w : World} {B : Nat} {e : TypeId} {x : Value} (hx : Box w B e #[x]) : w.ownsRow B e 1 (.slice (some ⟨B, 0, none⟩) 1 1) 1 [x] := ⟨rfl, .inr ⟨B, 1, _, rfl, Nat.le_refl _, hx, Nat.le_refl _, by simp [maxLen], rfl, rfl⟩⟩
theorem PJ.mkA {w' : World} {v : Value} (h : PJ w0 F K lv us p y s) (hn : s.2.a = none ∧ s.2.b = none ∧ s.2.low) (hb : Below s.1.heap.size s.1 w') (ho : w'.ownsRow s.1.heap.size 3 1 v 0 []) : PJ w0 F K lv us p y (w', { s.2 with a := some v }) := by
  obtain ⟨w, a, b, c, d, e, f⟩ := s
  obtain ⟨rfl, rfl, rfl, rfl, rfl⟩ := hn
  have h1 : St w0 w (.own lv 31 1 us.length us :: (optF c (fun v => .own v 3 1 1 [.int .i64 (y : Nat)]) ++ F)) K := h
  exact (h1.new hb (.own v 3 1 0 []) ho).swap
theorem PJ.mkC {w' : World} {v : Value} (h : PJ w0 F K lv us p y s) (hn : s.2.c = none ∧ s.2.low) (hb : Below s.1.heap.size s.1 w') (ho : w'.ownsRow s.1.heap.size 3 1 v 1 [.int .i64 (y : Nat)]) : PJ w0 F K lv us p y (w', { s.2 with c := some v }) := by
  obtain ⟨w, a, b, c, d, e, f⟩ := s
  obtain ⟨rfl, rfl, rfl, rfl⟩ := hn
  have h1 := St.new h hb (.own v 3 1 1 [.int .i64 (y : Nat)]) ho
  refine h1.perm ?_
  cases b with
  | some v' => exact (List.Perm.swap _ _ _).trans ((List.Perm.swap _ _ _).cons _ |>.trans (.refl _)) |>.symm.trans (.refl _) |>.symm |>.symm
  | none => cases a with
    | some v' => exact (List.Perm.swap _ _ _).trans ((List.Perm.swap _ _ _).cons _ |>.trans (.refl _)) |>.symm.trans (.refl _) |>.symm |>.symm
    | none => exact List.Perm.swap _ _ _
/-- what an append leaves -/
def App (w0 w w' : World) (v u : Value) (e : TypeId) (n : Nat) (xs : List Value) : Prop := w'.ownsRow w0.heap.size e 1 u n xs ∧ w.grownBy w' v.ownBlock ∧ ∀ k, u.ownBlock = some k → v.ownBlock = some k ∨ w.heap.size ≤ k
theorem PJ.mkB {w' : World} {u v : Value} (h : PJ w0 F K lv us p y s) (hn : s.2.b = none ∧ s.2.low) (ha : s.2.a = some u) (ho : App w0 s.1 w' u v 3 p.length (ints (natInts p))) : PJ w0 F K lv us p y (w', { s.2 with b := some v }) := by
  obtain ⟨w, a, b, c, d, e, f⟩ := s
  obtain ⟨rfl, rfl, rfl, rfl⟩ := hn
  cases ha
  exact St.upd h 1 (f := .own u 3 1 0 []) rfl (.own v 3 1 p.length (ints (natInts p))) ho.2.1 ho.1 ho.2.2
theorem PJ.mkD {w' : World} {u x v : Value} (h : PJ w0 F K lv us p y s) (hn : s.2.low) (hb : s.2.b = some u) (hc : s.2.c = some x) (ho : App w0 s.1 w' u v 3 (p.length + 1) (ints (natInts (p ++ [y])))) : PJ w0 F K lv us p y (w', { s.2 with d := some v }) := by
  obtain ⟨w, a, b, c, d, e, f⟩ := s
  obtain ⟨rfl, rfl, rfl⟩ := hn
  cases hb
  cases hc
  have h1 := St.upd h 1 (f := .own u 3 1 p.length (ints (natInts p))) rfl (.own v 3 1 (p.length + 1) (ints (natInts (p ++ [y])))) ho.2.1 ho.1 ho.2.2
  exact h1.sub (((List.sublist_cons_self _ _).cons_cons _).cons_cons _)
theorem PJ.mkE {w' : World} {u v : Value} (h : PJ w0 F K lv us p y s) (hn : s.2.e = none ∧ s.2.f = none) (hd : s.2.d = some u) (hb : Below s.1.heap.size s.1 w') (ho : w'.ownsRow s.1.heap.size 31 1 v 1 [u]) : PJ w0 F K lv us p y (w', { s.2 with e := some v }) := by
  obtain ⟨w, a, b, c, d, e, f⟩ := s
  obtain ⟨rfl, rfl⟩ := hn
  cases hd
  exact St.new h hb (.own v 31 1 1 [u]) ho
theorem PJ.mkF {w' : World} {u x v : Value} (h : PJ w0 F K lv us p y s) (hn : s.2.f = none) (hd : s.2.d = some u) (he : s.2.e = some x) (ho : App w0 s.1 w' lv v 31 (us.length + 1) (us ++ [u])) : PJ w0 F K lv us p y (w', { s.2 with f := some v }) := by
  obtain ⟨w, a, b, c, d, e, f⟩ := s
  cases hn
  cases hd
  cases he
  have h1 := St.upd h 1 (f := .own lv 31 1 us.length us) rfl (.own v 31 1 (us.length + 1) (us ++ [u])) ho.2.1 ho.1 ho.2.2
  exact h1.sub (List.sublist_cons_self _ _)
theorem PJ.ownA {u : Value} (h : PJ w0 F K lv us p y s) (hn : s.2.b = none ∧ s.2.low) (ha : s.2.a = some u) : s.1.ownsRow w0.heap.size 3 1 u 0 [] := by
  obtain ⟨w, a, b, c, d, e, f⟩ := s
  obtain ⟨rfl, rfl, rfl, rfl⟩ := hn
  cases ha
  exact St.own h 1 rfl
theorem PJ.ownB {u : Value} (h : PJ w0 F K lv us p y s) (hn : s.2.low) (hb : s.2.b = some u) : s.1.ownsRow w0.heap.size 3 1 u p.length (ints (natInts p)) := by
  obtain ⟨w, a, b, c, d, e, f⟩ := s
  obtain ⟨rfl, rfl, rfl⟩ := hn
  cases hb
  exact St.own h 1 rfl
theorem PJ.ownC {u x : Value} (h : PJ w0 F K lv us p y s) (hn : s.2.low) (hb : s.2.b = some u) (hc : s.2.c = some x) : s.1.ownsRow w0.heap.size 3 1 x 1 [.int .i64 (y : Nat)] := by
  obtain ⟨w, a, b, c, d, e, f⟩ := s
  obtain ⟨rfl, rfl, rfl⟩ := hn
  cases hb
  cases hc
  exact St.own h 2 rfl
theorem PJ.ownE {u x : Value} (h : PJ w0 F K lv us p y s) (hn : s.2.f = none) (hd : s.2.d = some u) (he : s.2.e = some x) : s.1.ownsRow w0.heap.size 31 1 x 1 [u] ∧ s.1.ownsRow w0.heap.size 31 1 lv us.length us := by
  obtain ⟨w, a, b, c, d, e, f⟩ := s
  cases hn
  cases hd
  cases he
  exact ⟨St.own h 0 rfl, St.own h 1 rfl⟩
theorem PJ.done {u v : Value} (h : PJ w0 F K lv us p y s) (hd : s.2.d = some u) (hf : s.2.f = some v) : St w0 s.1 (.own v 31 1 (us.length + 1) (us ++ [u]) :: .own u 3 1 (p.length + 1) (ints (natInts (p ++ [y]))) :: F) K := by
  obtain ⟨w, a, b, c, d, e, f⟩ := s
  cases hd
  cases hf
  exact h
theorem PJ.rest {f : Fact} (h : PJ w0 F K lv us p y s) (hf : f ∈ F) : f.holds w0.heap.size s.1 := h.holds _ (List.mem_append_right _ hf)
/-- what the operations of the region need not to have happened -/
def PN (i : Nat) (s : World × PG) : Prop := match i with
  | 1 => s.2.a = none ∧ s.2.b = none ∧ s.2.low
  | 3 => s.2.b = none ∧ s.2.low
  | 6 => s.2.c = none ∧ s.2.low
  | 7 => s.2.low
  | 8 => s.2.e = none ∧ s.2.f = none
  | 9 => s.2.f = none
  | _ => True
theorem PN.start (i : Nat) (w : World) : PN i (w, ⟨none, none, none, none, none, none⟩) := by
  unfold PN
  split <;> simp [PG.low]
variable {P : Program} {o : Oper} {a : Act} {Kt : Act → World → Prop} {Q : Exit → Act → World → Prop}
theorem p_start {t : TypeId} (ho : o.op = .buildSlice t 0 #[]) (ht : P.underlying t = some (.slice 3)) (hb : builtSlice P 3 0 [] = some #[]) (hN : PN 1 s)
    (hK : ∀ v w', w'.2.a = some v → PR w0 F K lv us p y s w' ∧ (∀ j, j ≠ 1 → PN j s → PN j w') → Kt (a.put o.dst v) w'.1) : o.wp P a s.1 Kt Q := by
  refine opw_slice (ps := []) (cells := #[]) ho ht (by simp) hb fun w' hx hB => ?_
  refine hK _ (w', { s.2 with a := some _ }) rfl ⟨⟨fun hJ => hJ.mkA hN hB ⟨by simp, .inr ⟨s.1.heap.size, 0, #[], rfl, Nat.le_refl _, hx, Nat.le_refl _, by simp [maxLen], by simp, by simp⟩⟩, fun g h => (by rw [hN.1] at h; cases h), fun _ h => h, fun _ h => h, fun _ h => h, fun _ h => h, fun _ h => h⟩, fun j hj hn => ?_⟩
  unfold PN at hn ⊢
  split at hn <;> first | exact absurd rfl hj | exact hn
theorem p_path {s1 x1 : Operand} {t : TypeId} {bytes : Nat} {D : Nat → Prop} (ho : o.op = .call { callee := .builtin .append, args := #[s1, x1], argTypes := #[t, t] }) (hT : SliceTy P t 3 1 bytes) (hby : bytes ≤ 100) (hN : PN 3 s) (hs : s.2.a = some (a.eval s1)) (hJ : PJ w0 F K lv us p y s)
    (hr : Sl s.1 D 1 (a.eval x1) p.length (ints (natInts p))) (hp : p.length ≤ 1000)
    (hK : ∀ v w', w'.2.b = some v → PR w0 F K lv us p y s w' ∧ (∀ j, j ≠ 3 → PN j s → PN j w') → Kt (a.put o.dst v) w'.1) : o.wp P a s.1 Kt Q := by
  refine opw_app ho hT rfl (hJ.ownA hN hs) rfl hr (fun u hu => by obtain ⟨z, _, rfl⟩ := List.mem_map.1 hu; rfl) (by omega) (Nat.le_trans (Nat.mul_le_mul (show 0 + p.length ≤ 1000 by omega) hby) (by decide)) hJ.size fun v' w' a1 a2 a3 => ?_
  rw [Nat.zero_add, List.nil_append] at a1
  refine hK v' (w', { s.2 with b := some v' }) rfl ⟨⟨fun hJ => hJ.mkB hN hs ⟨a1, a2, a3⟩, fun _ h => h, fun g h => (by rw [hN.1] at h; cases h), fun _ h => h, fun _ h => h, fun _ h => h, fun _ h => h⟩, fun j hj hn => ?_⟩
  unfold PN at hn ⊢
  split at hn <;> first | exact absurd rfl hj | exact hn | exact absurd (hn.1.symm.trans hs) nofun
theorem p_end {t : TypeId} {parts : Array (Nat × Operand)} (ho : o.op = .buildSlice t 1 parts) (ht : P.underlying t = some (.slice 3)) (hp : (parts.map fun (i, x) => (i, a.eval x)).toList = [(0, .int .i64 (y : Nat))]) (hb : builtSlice P 3 1 [(0, .int .i64 (y : Nat))] = some #[.int .i64 (y : Nat)]) (hN : PN 6 s)
    (hK : ∀ v w', w'.2.c = some v → PR w0 F K lv us p y s w' ∧ (∀ j, j ≠ 6 → PN j s → PN j w') → Kt (a.put o.dst v) w'.1) : o.wp P a s.1 Kt Q := by
  refine opw_slice (ps := _) (cells := _) ho ht hp hb fun w' hx hB => ?_
  refine hK _ (w', { s.2 with c := some _ }) rfl ⟨⟨fun hJ => hJ.mkC hN hB (lit_own hx), fun _ h => h, fun _ h => h, fun g h => (by rw [hN.1] at h; cases h), fun _ h => h, fun _ h => h, fun _ h => h⟩, fun j hj hn => ?_⟩
  unfold PN at hn ⊢
  split at hn <;> first | exact absurd rfl hj | exact hn
theorem p_long {s1 x1 : Operand} {t : TypeId} {bytes : Nat} (ho : o.op = .call { callee := .builtin .append, args := #[s1, x1], argTypes := #[t, t] }) (hT : SliceTy P t 3 1 bytes) (hby : bytes ≤ 100) (hN : PN 7 s) (hs : s.2.b = some (a.eval s1)) (hx : s.2.c = some (a.eval x1)) (hJ : PJ w0 F K lv us p y s) (hp : p.length ≤ 1000)
    (hK : ∀ v w', (w'.2.d = some v ∧ ∃ A n c, v = .slice A n c) → PR w0 F K lv us p y s w' ∧ (∀ j, j ≠ 7 → PN j s → PN j w') → Kt (a.put o.dst v) w'.1) : o.wp P a s.1 Kt Q := by
  refine opw_app ho hT rfl (hJ.ownB hN hs) rfl (Sl.of_own (hJ.ownC hN hs hx)) (fun u hu => by rw [List.mem_singleton.1 hu]; rfl) (by omega) (Nat.le_trans (Nat.mul_le_mul (show p.length + 1 ≤ 1001 by omega) hby) (by decide)) hJ.size fun v' w' a1 a2 a3 => ?_
  rw [natI_snoc] at a1
  refine hK v' (w', { s.2 with d := some v' }) ⟨rfl, by obtain ⟨A, c, h, _⟩ := own_shp a1; exact ⟨A, _, c, h⟩⟩ ⟨⟨fun hJ => hJ.mkD hN hs hx ⟨a1, a2, a3⟩, fun _ h => h, fun _ h => h, fun _ h => h, fun g h => (by rw [hN.1] at h; cases h), fun _ h => h, fun _ h => h⟩, fun j hj hn => ?_⟩
  unfold PN at hn ⊢
  split at hn <;> first | exact absurd rfl hj | exact hn | exact absurd (hn.1.symm.trans hs) nofun | exact absurd (hn.1.symm.trans hx) nofun | exact absurd (hn.2.1.symm.trans hs) nofun
theorem p_row {t : TypeId} {u : Value} {parts : Array (Nat × Operand)} (ho : o.op = .buildSlice t 1 parts) (ht : P.underlying t = some (.slice 31)) (hp : (parts.map fun (i, x) => (i, a.eval x)).toList = [(0, u)]) (hb : builtSlice P 31 1 [(0, u)] = some #[u]) (hN : PN 8 s) (hd : s.2.d = some u) (hu : u.oneCell' = true)
    (hK : ∀ v w', (w'.2.e = some v ∧ ∃ u, w'.2.d = some u ∧ u.oneCell' = true) → PR w0 F K lv us p y s w' ∧ (∀ j, j ≠ 8 → PN j s → PN j w') → Kt (a.put o.dst v) w'.1) : o.wp P a s.1 Kt Q := by
  refine opw_slice (ps := _) (cells := _) ho ht hp hb fun w' hx hB => ?_
  refine hK _ (w', { s.2 with e := some _ }) ⟨rfl, u, hd, hu⟩ ⟨⟨fun hJ => hJ.mkE hN hd hB (lit_own hx), fun _ h => h, fun _ h => h, fun _ h => h, fun _ h => h, fun g h => (by rw [hN.1] at h; cases h), fun _ h => h⟩, fun j hj hn => ?_⟩
  unfold PN at hn ⊢
  split at hn <;> first | exact absurd rfl hj | exact hn | exact absurd (hn.1.symm.trans hd) nofun | exact absurd (hn.2.1.symm.trans hd) nofun | exact absurd (hn.2.2.1.symm.trans hd) nofun
theorem p_rows {s1 x1 : Operand} {t : TypeId} {u : Value} {bytes : Nat} (ho : o.op = .call { callee := .builtin .append, args := #[s1, x1], argTypes := #[t, t] }) (hT : SliceTy P t 31 1 bytes) (hby : bytes ≤ 100) (hN : PN 9 s) (hs : a.eval s1 = lv) (hd : s.2.d = some u) (hx : s.2.e = some (a.eval x1)) (hu : u.oneCell' = true) (hJ : PJ w0 F K lv us p y s) (hp : us.length ≤ 4000000000)
    (hK : ∀ v w', (w'.2.f = some v ∧ ∃ u, w'.2.d = some u) → PR w0 F K lv us p y s w' ∧ (∀ j, j ≠ 9 → PN j s → PN j w') → Kt (a.put o.dst v) w'.1) : o.wp P a s.1 Kt Q := by
  refine opw_app ho hT hs (hJ.ownE hN hd hx).2 rfl (Sl.of_own (hJ.ownE hN hd hx).1) (fun v hv => by rw [List.mem_singleton.1 hv]; exact hu) (by omega) (Nat.le_trans (Nat.mul_le_mul (show us.length + 1 ≤ 4000000001 by omega) hby) (by decide)) hJ.size fun v' w' a1 a2 a3 => ?_
  refine hK v' (w', { s.2 with f := some v' }) ⟨rfl, u, hd⟩ ⟨⟨fun hJ => hJ.mkF hN hd hx ⟨a1, a2, a3⟩, fun _ h => h, fun _ h => h, fun _ h => h, fun _ h => h, fun _ h => h, fun g h => (by rw [hN] at h; cases h)⟩, fun j hj hn => ?_⟩
  unfold PN at hn ⊢
  split at hn <;> first | exact absurd rfl hj | exact hn | exact absurd (hn.1.symm.trans hd) nofun | exact absurd (hn.1.symm.trans hx) nofun | exact absurd (hn.2.1.symm.trans hd) nofun | exact absurd (hn.2.2.1.symm.trans hd) nofun
end
end Go.Proofs.YtmlkgaiphpimiaaDoor
namespace Go.Proofs.YtmlkgaiphpimiaaDoor
open Go.RowKit

structure TInvS (ops : Array Oper) (T : Nat → Value → World → Prop) (sk : List Nat) (a0 : Act) (W : World) (listed : Array Bool) (a : Act) (w : World) : Prop where
  bel : Below W.heap.size W w
  defers : a.defers = a0.defers
  size : a.tmps.size = a0.tmps.size
  old : ∀ t, (∀ (i : Nat) (o : Oper), sk.contains i = false → ops[i]? = some o → o.dst ≠ some t) → a.tmps.getD t undef = a0.tmps.getD t undef
  typ : ∀ (i : Nat) (o : Oper) (d : Tmp), ops[i]? = some o → listed.getD i false = true → o.dst = some d → T i (a.tmps.getD d undef) w
def TRuleS (P : Program) (ops : Array Oper) (T : Nat → Value → World → Prop) (sk : List Nat) (a0 : Act) (W : World) (Q : Exit → Act → World → Prop) (i : Nat) (o : Oper) : Prop :=
  ∀ a w, Below W.heap.size W w → (∀ t, (∀ (i : Nat) (o : Oper), sk.contains i = false → ops[i]? = some o → o.dst ≠ some t) → a.tmps.getD t undef = a0.tmps.getD t undef) →
    (∀ e ∈ o.after, Region.binds .any e = true → ∀ (oj : Oper) (d : Tmp), ops[e.on]? = some oj → oj.dst = some d → T e.on (a.tmps.getD d undef) w) →
    (Region.wanted o (yielded ops a.tmps) = true → ∀ K : Act → World → Prop, (∀ v w', T i v w' → Below w.heap.size w w' → K (a.put o.dst v) w') → o.wp P a w K Q) ∧
    (Region.wanted o (yielded ops a.tmps) = false → T i undef w)
def noDstS (ops : Array Oper) (sk : List Nat) (t : Tmp) : Bool := (List.range ops.size).all fun i => sk.contains i || match ops[i]? with | some o => o.dst != some t | none => true
theorem noDstS_spec {ops : Array Oper} {sk : List Nat} {t : Tmp} (h : noDstS ops sk t = true) (i : Nat) (o : Oper) (hs : sk.contains i = false) (ho : ops[i]? = some o) : o.dst ≠ some t := by
  have h1 := (List.all_eq_true.1 h) i (by simpa using (Array.getElem?_eq_some_iff.1 ho).1)
  simpa only [hs, ho, Bool.false_or, bne_iff_ne] using h1
theorem noDstS_of {ops : Array Oper} {sk : List Nat} {t : Tmp} (h : noDst ops t = true) : noDstS ops sk t = true := by
  rw [noDstS, List.all_eq_true]
  intro i hi
  rw [Bool.or_eq_true]; right
  cases ho : ops[i]? with
  | none => rfl
  | some o => simpa using noDst_spec h i o ho
section
variable {P : Program} {ops : Array Oper} {T : Nat → Value → World → Prop} {a0 : Act} {W : World} {Q : Exit → Act → World → Prop}
theorem wpAny_typed_tailS {t : Nat} {r : List Nat} {o1 : Oper} (h1 : ops[t]? = some o1) (hc1 : tHead ops (t :: r) o1 = true) (hch : tChain ops t r = true) (htr : r.contains t = false)
    (hmono : ∀ i v w w', T i v w → Below w.heap.size w w' → T i v w') (hk : tOk ops a0.tmps.size = true) (hr : ∀ i o, (t :: r).contains i = false → ops[i]? = some o → TRuleS P ops T (t :: r) a0 W Q i o)
    (hpost : ∀ (b : Act) (w : World), Below W.heap.size W w → b.defers = a0.defers → b.tmps.size = a0.tmps.size → (∀ s, (∀ (i : Nat) (o : Oper), (t :: r).contains i = false → ops[i]? = some o → o.dst ≠ some s) → b.tmps.getD s undef = a0.tmps.getD s undef) →
      (∀ (i : Nat) (o : Oper) (d : Tmp), (t :: r).contains i = false → ops[i]? = some o → o.dst = some d → T i (b.tmps.getD d undef) w) → TailWp P ops Q (t :: r) b w) :
    ∀ (fuel : Nat) (listed : Array Bool) (b : Act) (w : World), listed.size = ops.size → (∀ i ∈ t :: r, listed.getD i true = false) → unlisted ops listed ≤ fuel → ClosedL ops listed → TInvS ops T (t :: r) a0 W listed b w → wpAny P .any ops Q fuel listed b w := by
  simp only [tHead, Bool.and_eq_true] at hc1
  obtain ⟨hguard1, hcov1⟩ := hc1
  have htlt := (Array.getElem?_eq_some_iff.1 h1).1
  intro fuel
  induction fuel with
  | zero =>
    intro listed b w hsz hin hu hcl hI
    exfalso
    have := unlisted_set (ops := ops) (i := t) htlt (hin t List.mem_cons_self)
    omega
  | succ fuel ih =>
    intro listed b w hsz hin hu hcl hI
    refine ⟨fun h => ?_, fun i hi => ?_⟩
    · exfalso
      have := ready_nil hk h t htlt
      rw [hin t List.mem_cons_self] at this
      cases this
    rw [mem_ready] at hi
    obtain ⟨h0, o, ho, haf⟩ := hi
    have hlt := (Array.getElem?_eq_some_iff.1 ho).1
    by_cases hir : i ∈ r
    · exfalso
      obtain ⟨p, hp, o', ho', _, e, he, hb, hep⟩ := chain_pred r t hch i hir
      obtain rfl : o = o' := by rw [ho] at ho'; exact Option.some.inj ho'
      have := getD_tf (haf e he hb)
      rw [hep, hin p (by rcases hp with rfl | hp; exact List.mem_cons_self; exact List.mem_cons_of_mem _ hp)] at this
      cases this
    by_cases hit : i = t
    · subst hit
      obtain rfl : o = o1 := by rw [h1] at ho; exact (Option.some.inj ho).symm
      have hall : ∀ j, j < ops.size → (i :: r).contains j = false → listed.getD j false = true := by
        intro j hj hne
        have h3 := (List.all_eq_true.1 hcov1) j (by simpa using hj)
        simp only [Bool.or_eq_true, hne, Bool.false_eq_true, false_or] at h3
        exact covers_listed hcl _ o j h3 haf
      have hw : Region.wanted o (yielded ops b.tmps) = true := want_none (by cases hg : o.guard with | none => rfl | some x => simp [hg] at hguard1)
      unfold wpOp
      simp only [ho, hw, if_true]
      refine .inl (Oper.wp_mono (fun b1 w1 hq => ?_) (hpost b w hI.bel hI.defers hI.size hI.old (fun j oj d hj hoj hd => hI.typ j oj d hoj (hall j (Array.getElem?_eq_some_iff.1 hoj).1 hj) hd) o ho))
      have hrlen : r.length ≤ fuel := by
        -- the tail is not listed
        have key : ∀ (l : List Nat) (ls : Array Bool), l.Nodup → (∀ x ∈ l, x < ops.size ∧ ls.getD x true = false) → l.length ≤ unlisted ops ls := by
          intro l
          induction l with
          | nil => intro _ _ _; exact Nat.zero_le _
          | cons x l ih2 =>
            intro ls hnd hx
            have q1 := unlisted_set (ops := ops) (hx x List.mem_cons_self).1 (hx x List.mem_cons_self).2
            have q2 := ih2 (ls.setIfInBounds x true) (List.nodup_cons.1 hnd).2 (fun y hy => ⟨(hx y (List.mem_cons_of_mem _ hy)).1, by rw [getD_set_ne true (by rintro rfl; exact (List.nodup_cons.1 hnd).1 hy)]; exact (hx y (List.mem_cons_of_mem _ hy)).2⟩)
            simp; omega
        have hnd : ∀ (r : List Nat) (t : Nat), tChain ops t r = true → r.Nodup := by
          intro r
          induction r with
          | nil => intro _ _; exact List.nodup_nil
          | cons u r ih2 =>
            intro t h
            simp only [tChain, Bool.and_eq_true] at h
            exact List.nodup_cons.2 ⟨by simpa using h.1.2, ih2 u h.2⟩
        have q1 := unlisted_set (ops := ops) hlt h0
        have q2 := key r (listed.setIfInBounds i true) (hnd r i hch) (fun x hx => ⟨by
          obtain ⟨_, _, o', ho', _⟩ := chain_pred r i hch x hx
          exact (Array.getElem?_eq_some_iff.1 ho').1, by
          have : x ≠ i := fun e => hir (e ▸ hx)
          rw [getD_set_ne true (Ne.symm this)]; exact hin x (List.mem_cons_of_mem _ hx)⟩)
        omega
      refine wpAny_tail hk r i fuel _ b1 w1 (by simpa using hsz) hch (fun j hj hn => set_listed ?_) (fun j hj => ?_) hrlen hq
      · by_cases e : j = i
        · exact .inl e
        · exact .inr (getD_tf (hall j hj (by simp [e, hn])))
      · have : j ≠ i := fun e => hir (e ▸ hj)
        rw [getD_set_ne true (Ne.symm this)]
        exact hin j (List.mem_cons_of_mem _ hj)
    · have hnt : (t :: r).contains i = false := by simp [hit, hir]
      have hdst := tOk_dst hk ho
      have hrule := hr i o hnt ho b w hI.bel hI.old (fun e he hbd oj d hoj hd => hI.typ e.on oj d hoj (haf e he hbd) hd)
      have hcl' : ClosedL ops (listed.setIfInBounds i true) := by
        intro j oj hj hlj e he hb
        by_cases e2 : j = i
        · subst e2
          obtain rfl : oj = o := by rw [ho] at hj; exact (Option.some.inj hj).symm
          exact getD_set_true (haf e he hb)
        · rw [getD_set_ne false (Ne.symm e2)] at hlj
          exact getD_set_true (hcl j oj hj hlj e he hb)
      have next : ∀ v w', T i v w' → Below w.heap.size w w' → wpAny P .any ops Q fuel (listed.setIfInBounds i true) (b.put o.dst v) w' := by
        intro v w' hT hb
        refine ih _ _ _ (by simpa using hsz) (fun j hj => by
          have : j ≠ i := fun e => by subst e; simp at hj; rcases hj with e | e; exact hit e; exact hir e
          rw [getD_set_ne true (Ne.symm this)]; exact hin j hj) (by have := unlisted_set (ops := ops) hlt h0; omega) hcl' ⟨hI.bel.trans (hb.mono hI.bel.size), ?_, ?_, ?_, ?_⟩
        · rw [← hI.defers]; cases o.dst <;> rfl
        · rw [← hI.size]; cases o.dst <;> simp [Act.put]
        · intro t ht
          rw [← hI.old t ht]
          have h2 := ht i o hnt ho
          cases hd : o.dst with
          | none => rfl
          | some d =>
            have : d ≠ t := fun e => h2 (by rw [hd, e])
            simp [Act.put, Array.getElem?_setIfInBounds_ne this]
        · intro j oj d hj hlj hdj
          by_cases e : j = i
          · subst e
            obtain rfl : oj = o := by rw [ho] at hj; exact (Option.some.inj hj).symm
            have hd1 := hdst.1 d hdj
            rw [hdj]
            have hlt2 : d < b.tmps.size := by rw [hI.size]; exact hd1
            simpa [Act.put, hlt2] using hT
          · have hlj' : listed.getD j false = true := by rwa [getD_set_ne false (Ne.symm e)] at hlj
            have h3 := hmono j _ w w' (hI.typ j oj d hj hlj' hdj) hb
            have h4 : (b.put o.dst v).tmps.getD d undef = b.tmps.getD d undef := by
              cases hd : o.dst with
              | none => rfl
              | some d' =>
                have : d' ≠ d := fun e2 => hdst.2.2 j oj d' e hj hd (by rw [hdj, e2])
                simp [Act.put, Array.getElem?_setIfInBounds_ne this]
            rw [h4]; exact h3
      unfold wpOp
      simp only [ho]
      split
      · rename_i hw
        exact .inl (hrule.1 hw _ next)
      · rename_i hw
        exact next undef w (hrule.2 (by simpa using hw)) (Below.refl _ _)
/-- the rules of the operations but those at the places `skip` -/
def TRulesS (P : Program) (ops : Array Oper) (T : Nat → Value → World → Prop) (a0 : Act) (W : World) (Q : Exit → Act → World → Prop) (skip : List Nat) : Nat → List Oper → Prop
  | _, [] => True
  | i, o :: r => (skip.contains i = true ∨ TRuleS P ops T skip a0 W Q i o) ∧ TRulesS P ops T a0 W Q skip (i + 1) r
theorem TRulesS.at {skip : List Nat} : ∀ (l : List Oper) (k : Nat), TRulesS P ops T a0 W Q skip k l → ∀ i o, l[i]? = some o → skip.contains (k + i) = true ∨ TRuleS P ops T skip a0 W Q (k + i) o
  | [], _, _, i, o, h => by simp at h
  | x :: r, k, hr, 0, o, h => by simp at h; subst h; exact hr.1
  | x :: r, k, hr, i + 1, o, h => by
    have := TRulesS.at r (k + 1) hr.2 i o (by simpa using h)
    rwa [show k + 1 + i = k + (i + 1) by omega] at this
/-- as wp_region_tail, where what the tail writes may have been read before -/
theorem wp_region_tailS {id : Nat} {a : Act} (T : Nat → Value → World → Prop) (t : Nat) (r : List Nat) (hm : P.follows .mixedOrders = true)
    (hc1 : (match ops[t]? with | some o => tHead ops (t :: r) o | none => false) = true) (hch : tChain ops t r = true) (htr : r.contains t = false)
    (hk : tOk ops a.tmps.size = true) (hmono : ∀ i v w w', T i v w → Below w.heap.size w w' → T i v w') (hr : TRulesS P ops T a W.drew Q (t :: r) 0 ops.toList)
    (hpost : ∀ (b : Act) (w : World), Below W.heap.size W w → b.defers = a.defers → b.tmps.size = a.tmps.size → (∀ s, noDstS ops (t :: r) s = true → b.tmps.getD s undef = a.tmps.getD s undef) →
      (∀ (i : Nat) (o : Oper) (d : Tmp), (t :: r).contains i = false → ops[i]? = some o → o.dst = some d → T i (b.tmps.getD d undef) w) → TailWp P ops Q (t :: r) b w) : (Code.region id ops true).wp P Q a W := by
  refine wp_region_any hm ?_
  cases h1 : ops[t]? with
  | none => simp [h1] at hc1
  | some o1 =>
    simp only [h1] at hc1
    refine wpAny_typed_tailS (T := T) (W := W.drew) (a0 := a) h1 hc1 hch htr hmono hk (fun i o a1 a2 => ?_) (fun b w h1 h2 h3 h4 h5 => hpost b w (undrew h1) h2 h3 (fun s hs => h4 s (noDstS_spec hs)) h5) _ _ _ _ (by simp) (fun i hi => ?_) ?_ ?_ ⟨Below.refl _ _, rfl, rfl, fun _ _ => rfl, fun i o d ho hl _ => ?_⟩
    · have := TRulesS.at ops.toList 0 hr i o (by simpa using a2)
      rw [Nat.zero_add] at this
      rcases this with h | h
      · rw [a1] at h; cases h
      · exact h
    · have : i < ops.size := by
        rcases List.mem_cons.1 hi with rfl | hi
        · exact (Array.getElem?_eq_some_iff.1 h1).1
        · obtain ⟨_, _, o', ho', _⟩ := chain_pred r t hch i hi
          exact (Array.getElem?_eq_some_iff.1 ho').1
      simp [this]
    · unfold unlisted; exact Nat.le_trans (List.length_filter_le _ _) (by simp)
    · intro i o ho hl e he hb
      exfalso
      have hlt := (Array.getElem?_eq_some_iff.1 ho).1
      simp [hlt] at hl
    · exfalso
      have hlt := (Array.getElem?_eq_some_iff.1 ho).1
      simp [hlt] at hl
/-- one operation of such a region -/
theorem truleT {a : Act} {o : Oper} {sk : List Nat} {i : Nat}
    (h : ∀ (b : Act) (w : World), Below W.heap.size W w → (∀ t, noDstS ops sk t = true → b.eval (.tmp t) = a.eval (.tmp t)) →
      (∀ e ∈ o.after, Region.binds .any e = true → ∀ (oj : Oper) (d : Tmp), ops[e.on]? = some oj → oj.dst = some d → T e.on (b.eval (.tmp d)) w) →
      (Region.wanted o (yielded ops b.tmps) = true → ∀ K : Act → World → Prop, (∀ v w', T i v w' → Below w.heap.size w w' → K (b.put o.dst v) w') → o.wp P b w K Q) ∧ (Region.wanted o (yielded ops b.tmps) = false → T i undef w)) :
    TRuleS P ops T sk a W Q i o := fun b w h1 h2 h3 => h b w h1 (fun t ht => h2 t (noDstS_spec ht)) h3
end
end Go.Proofs.YtmlkgaiphpimiaaDoor
namespace Go.Proofs.YtmlkgaiphpimiaaDoor
open Go.RowKit
attribute [local go_sem ↓] Go.wp_at_zero Go.wp_at_succ
set_option maxRecDepth 20000
set_option exponentiation.threshold 5000

/-- append(s[:k], s[k1:]...) within a row of the call's own -/
theorem opw_amove {P : Program} {o : Oper} {a : Act} {w : World} {Kt : Act → World → Prop} {Q : Exit → Act → World → Prop} {s x : Operand} {t e : TypeId} {base g n cap k k1 : Nat} {xs : List Value} (ho : o.op = .call { callee := .builtin .append, args := #[s, x], argTypes := #[t, t] })
    (ht : P.underlying t = some (.slice e)) (hi : (P.info? e).map (·.size) = some 2) (hs : a.eval s = .slice (some ⟨g, 0, none⟩) k cap) (hx : a.eval x = sliced (some ⟨g, 0, none⟩) k1 n cap 2) (hown : w.ownsRow base e 2 (.slice (some ⟨g, 0, none⟩) n cap) n xs) (h1 : ∀ u ∈ xs, u.oneCell' = true) (hk : k ≤ k1) (hn : k1 ≤ n)
    (hK : ∀ w' ys, w'.ownsRow base e 2 (.slice (some ⟨g, 0, none⟩) n cap) n ys → ys.take ((k + (n - k1)) * 2) = xs.take (k * 2) ++ xs.drop (k1 * 2) → w.grownBy w' (some g) → Kt (a.put o.dst (.slice (some ⟨g, 0, none⟩) (k + (n - k1)) cap)) w') : o.wp P a w Kt Q := by
  cases hz : P.info? e with
  | none => rw [hz] at hi; cases hi
  | some i =>
    have hsize : i.size = 2 := by simpa [hz] using hi
    have hxl : xs.length = n * 2 := hown.1
    have hcell := fun j u hj => own_cell hown j u hj
    rcases hown.2 with ⟨h, _⟩ | ⟨g', cap', cur, h, hbg, hg, hnc, hcm, hcs, htake⟩
    · simp at h
    · simp only [Value.slice.injEq, Option.some.injEq, Addr.mk.injEq, and_true, true_and] at h
      obtain ⟨rfl, rfl⟩ := h
      have hcur : cur.toList.length = cap * 2 := by simpa using hcs
      have htk : cur.toList.take (k * 2) = xs.take (k * 2) := by rw [← htake, List.take_take]; congr 1; omega
      obtain ⟨ad, c2, hsl, hnews⟩ : ∃ ad c2, sliced (some ⟨g, 0, none⟩) k1 n cap 2 = .slice (some ad) (n - k1) c2 ∧ ∀ (j : Nat) u, (xs.drop (k1 * 2))[j]? = some u → w.cell? (ad.add j) = some u := by
        by_cases hc : cap = k1
        · refine ⟨⟨g, 0, none⟩, cap - k1, by simp [sliced, hc], fun j u hj => ?_⟩
          rw [List.getElem?_drop, List.getElem?_eq_none (by omega)] at hj
          cases hj
        · refine ⟨⟨g, k1 * 2, none⟩, cap - k1, by simp [sliced, hc, Addr.add]; omega, fun j u hj => ?_⟩
          rw [List.getElem?_drop] at hj
          rw [Addr.add_lit]
          exact hcell _ u hj
      have hdl : (xs.drop (k1 * 2)).length = (n - k1) * i.size := by rw [List.length_drop, hsize]; omega
      have hr := run_append_room (P := P) w t o.type e i ht hz g k cap cur hg ad (n - k1) c2 (xs.drop (k1 * 2)) hdl hnews (fun u hu => h1 u (List.mem_of_mem_drop hu)) (by omega) (by rw [hdl, hsize, hcs]; omega)
      unfold Oper.wp execOp
      simp only [ho, resolve, invoke, builtin, Sem.run_bind, Sem.run_pure, Result.andThen_ok, List.map_toArray, List.map_cons, List.map_nil, hs, hx, hsl, hr]
      refine hK _ ((cur.toList.take (k * 2) ++ xs.drop (k1 * 2) ++ cur.toList.drop (k * 2 + (xs.drop (k1 * 2)).length)).take (n * 2)) ⟨?_, .inr ⟨g, cap, _, rfl, hbg, setRow_heap w g cur _ e _ hg, hnc, hcm, ?_, ?_⟩⟩ ?_ ⟨rfl, rfl, rfl, by simp, fun k _ hk => setRow_other w g k _ (fun e => hk (by simp [e]))⟩
      · simp only [List.length_take, List.length_append, List.length_drop, hcur]
        omega
      · simp only [List.size_toArray, List.length_append, List.length_take, List.length_drop, hcur, hsize]
        omega
      · rw [hsize]
      · have hlen : (xs.take (k * 2) ++ xs.drop (k1 * 2)).length = (k + (n - k1)) * 2 := by
          rw [List.length_append, List.length_take, List.length_drop]
          omega
        rw [List.take_take, htk, Nat.min_eq_left (by omega), ← hlen, List.take_left]
theorem pcells_drop' (L : List (Nat × Nat)) : ∀ k, (pcells L).drop (k * 2) = pcells (L.drop k) := by
  induction L with
  | nil => intro k; simp [pcells]
  | cons x L ih =>
    intro k
    cases k with
    | zero => simp [pcells]
    | succ k => rw [show (k + 1) * 2 = k * 2 + 1 + 1 by omega, pcells_cons]; simp [ih]
theorem delp_any {w0 w : World} {F : List Fact} {K : (Nat → Prop) → World → Prop} (g n cap k k1 : Nat) (L : List (Nat × Nat)) (hl : L.length = n) (hn : n ≤ 1000000) (hk1 : k1 = k + 1) (hkn : k1 ≤ n) (hS : St w0 w (.own (.slice (some ⟨g, 0, none⟩) n cap) 50 2 n (pcells L) :: F) K) :
    Calls Tryd.prog 89 #[.slice (some ⟨g, 0, none⟩) n cap, .int .i64 (k : Nat), .int .i64 (k1 : Nat)] w fun e w' => e = .returned (.slice (some ⟨g, 0, none⟩) (n - 1) cap) ∧ St w0 w' (.own (.slice (some ⟨g, 0, none⟩) (n - 1) cap) 50 2 (n - 1) (pcells (L.eraseIdx k)) :: F) K := by
  obtain ⟨hc1, hc2⟩ := own_cap (hS.own 0 rfl)
  have H1 := Lib.hid (pcells_one L)
  have HL : Hid ((pcells L).take (k * 2) ++ (pcells L).drop (k1 * 2) = pcells (L.eraseIdx k) ∧ k + (n - k1) = n - 1) := Lib.hid ⟨by
    rw [pcells_take, pcells_drop', ← pcells_app, hk1, List.eraseIdx_eq_take_drop_succ], by omega⟩
  have hk2 : k < k1 := by omega
  obtain ⟨m, hm⟩ : ∃ m, m = n - 1 := ⟨_, rfl⟩
  rw [← hm] at HL ⊢
  have hk3 : n - m = 1 := by omega
  have hk4 : m < n := by omega
  clear hm
  clear hk1
  go_enter Tryd.func89, Tryd.ntmps89
  go_wp2_with (first | ((with_reducible show wpList _ _ _ (⟨_, .binOp _ _ _ _ _, _, _, _, _⟩ :: _) _ _); (first | ((with_reducible show wpList _ _ _ (⟨_, .binOp .lss _ _ _ _, _, _, _, _⟩ :: _) _ _); refine st_lss rfl _ _ _ _ rfl _ _ _ rfl rfl (fun h_ => ?_) (fun h_ => ?_)) | ((with_reducible show wpList _ _ _ (⟨_, .binOp .leq _ _ _ _, _, _, _, _⟩ :: _) _ _); refine st_leq rfl _ _ _ _ rfl _ _ _ rfl rfl (fun h_ => ?_) (fun h_ => ?_)) | ((with_reducible show wpList _ _ _ (⟨_, .binOp .gtr _ _ _ _, _, _, _, _⟩ :: _) _ _); refine st_gtr rfl _ _ _ _ rfl _ _ _ rfl rfl (fun h_ => ?_) (fun h_ => ?_)) | ((with_reducible show wpList _ _ _ (⟨_, .binOp .geq _ _ _ _, _, _, _, _⟩ :: _) _ _); refine st_geq rfl _ _ _ _ rfl _ _ _ rfl rfl (fun h_ => ?_) (fun h_ => ?_)) | ((with_reducible show wpList _ _ _ (⟨_, .binOp .eql _ _ _ _, _, _, _, _⟩ :: _) _ _); refine st_eql rfl _ _ _ _ rfl _ _ _ rfl rfl (fun h_ => ?_) (fun h_ => ?_)) | ((with_reducible show wpList _ _ _ (⟨_, .binOp .neq _ _ _ _, _, _, _, _⟩ :: _) _ _); refine st_neq rfl _ _ _ _ rfl _ _ _ rfl rfl (fun h_ => ?_) (fun h_ => ?_))) <;> go_prune))
  refine wp_region_tailS (fun i__ v w => match i__ with
    | 0 => v = .slice (some ⟨g, 0, none⟩) n cap
    | 1 => v = .int .i64 ((k : Nat) : Int)
    | 2 => v = .slice (some ⟨g, 0, none⟩) k cap
    | 3 => v = .slice (some ⟨g, 0, none⟩) n cap
    | 4 => v = .int .i64 ((k1 : Nat) : Int)
    | 5 => v = sliced (some ⟨g, 0, none⟩) k1 n cap 2
    | 6 => True
    | 7 => True
    | _ => True) 6 [7] (by kernel_rfl) (by kernel_rfl) (by kernel_rfl) (by kernel_rfl) (by kernel_rfl) ?mono ⟨.inr ?r0, .inr ?r1, .inr ?r2, .inr ?r3, .inr ?r4, .inr ?r5, .inl (by decide), .inl (by decide), trivial⟩ ?post
  case mono =>
    intro i v w w' h hb
    match i, h with
    | 0, h => exact h
    | 1, h => exact h
    | 2, h => exact h
    | 3, h => exact h
    | 4, h => exact h
    | 5, h => exact h
    | 6, h => exact h
    | 7, h => exact h
    | _ + 8, h => trivial
  case r0 =>
    refine truleT fun b__ w hW hold hpre => ⟨fun hwant K hK => ?_, fun hwant => ?_⟩
    · clear hwant
      have e0 : b__.eval (.tmp 0) = .slice (some ⟨g, 0, none⟩) n cap := (hold 0 (by kernel_rfl)).trans rfl
      exact opw_move rfl e0 (hK _ _ rfl (Below.refl _ _))
    · rw [want_none rfl] at hwant; cases hwant
  case r1 =>
    refine truleT fun b__ w hW hold hpre => ⟨fun hwant K hK => ?_, fun hwant => ?_⟩
    · clear hwant
      have e1 : b__.eval (.tmp 1) = .int .i64 ((k : Nat) : Int) := (hold 1 (by kernel_rfl)).trans rfl
      exact opw_move rfl e1 (hK _ _ rfl (Below.refl _ _))
    · rw [want_none rfl] at hwant; cases hwant
  case r2 =>
    refine truleT fun b__ w hW hold hpre => ⟨fun hwant K hK => ?_, fun hwant => ?_⟩
    · clear hwant
      have e20 : b__.eval (.tmp 20) = .slice (some ⟨g, 0, none⟩) n cap := hpre ⟨0, _⟩ (Array.mem_of_getElem? (i := 0) rfl) rfl _ _ rfl rfl
      have e21 : b__.eval (.tmp 21) = .int .i64 ((k : Nat) : Int) := hpre ⟨1, _⟩ (Array.mem_of_getElem? (i := 1) rfl) rfl _ _ rfl rfl
      exact opw_slh rfl Tryd.underlying25 ⟨2, by kernel_rfl⟩ e20 e21 (by omega) (hK _ _ rfl (Below.refl _ _))
    · rw [want_none rfl] at hwant; cases hwant
  case r3 =>
    refine truleT fun b__ w hW hold hpre => ⟨fun hwant K hK => ?_, fun hwant => ?_⟩
    · clear hwant
      have e0 : b__.eval (.tmp 0) = .slice (some ⟨g, 0, none⟩) n cap := (hold 0 (by kernel_rfl)).trans rfl
      exact opw_move rfl e0 (hK _ _ rfl (Below.refl _ _))
    · rw [want_none rfl] at hwant; cases hwant
  case r4 =>
    refine truleT fun b__ w hW hold hpre => ⟨fun hwant K hK => ?_, fun hwant => ?_⟩
    · clear hwant
      have e2 : b__.eval (.tmp 2) = .int .i64 ((k1 : Nat) : Int) := (hold 2 (by kernel_rfl)).trans rfl
      exact opw_move rfl e2 (hK _ _ rfl (Below.refl _ _))
    · rw [want_none rfl] at hwant; cases hwant
  case r5 =>
    refine truleT fun b__ w hW hold hpre => ⟨fun hwant K hK => ?_, fun hwant => ?_⟩
    · clear hwant
      have e23 : b__.eval (.tmp 23) = .slice (some ⟨g, 0, none⟩) n cap := hpre ⟨3, _⟩ (Array.mem_of_getElem? (i := 0) rfl) rfl _ _ rfl rfl
      have e24 : b__.eval (.tmp 24) = .int .i64 ((k1 : Nat) : Int) := hpre ⟨4, _⟩ (Array.mem_of_getElem? (i := 1) rfl) rfl _ _ rfl rfl
      exact opw_sll rfl Tryd.underlying25 (by kernel_rfl) e23 e24 (by omega) (by omega) (hK _ _ rfl (Below.refl _ _))
    · rw [want_none rfl] at hwant; cases hwant
  case post =>
    intro b__ wz hW hdf hsz hold hT
    have e22 : b__.eval (.tmp 22) = .slice (some ⟨g, 0, none⟩) k cap := hT 2 _ 22 (by decide) rfl rfl
    have e25 : b__.eval (.tmp 25) = sliced (some ⟨g, 0, none⟩) k1 n cap 2 := hT 5 _ 25 (by decide) rfl rfl
    have e20 : b__.eval (.tmp 20) = .slice (some ⟨g, 0, none⟩) n cap := hT 0 _ 20 (by decide) rfl rfl
    have e21 : b__.eval (.tmp 21) = .int .i64 ((k : Nat) : Int) := hT 1 _ 21 (by decide) rfl rfl
    have e23 : b__.eval (.tmp 23) = .slice (some ⟨g, 0, none⟩) n cap := hT 3 _ 23 (by decide) rfl rfl
    have e24 : b__.eval (.tmp 24) = .int .i64 ((k1 : Nat) : Int) := hT 4 _ 24 (by decide) rfl rfl
    obtain ⟨vs, hvs, hb⟩ := frame_of hdf hsz (fun s hs => hold s (noDstS_of hs))
    replace e22 : vs 22 = .slice (some ⟨g, 0, none⟩) k cap := (hvs 22).symm.trans e22
    replace e25 : vs 25 = sliced (some ⟨g, 0, none⟩) k1 n cap 2 := (hvs 25).symm.trans e25
    replace e20 : vs 20 = .slice (some ⟨g, 0, none⟩) n cap := (hvs 20).symm.trans e20
    replace e21 : vs 21 = .int .i64 ((k : Nat) : Int) := (hvs 21).symm.trans e21
    replace e23 : vs 23 = .slice (some ⟨g, 0, none⟩) n cap := (hvs 23).symm.trans e23
    replace e24 : vs 24 = .int .i64 ((k1 : Nat) : Int) := (hvs 24).symm.trans e24
    subst hb
    clear hvs hold hT hdf hsz
    simp only [setAll, Act.put, List.setIfInBounds_toArray, List.set_cons_zero, List.set_cons_succ, List.getElem_toArray, List.getElem_cons_succ, List.getElem_cons_zero]
    (intro o_ ho_; simp only [List.getElem?_toArray, List.getElem?_cons_succ, List.getElem?_cons_zero, Option.some.injEq] at ho_; subst ho_)
    refine opw_amove rfl Tryd.underlying25 (by kernel_rfl) e22 e25 ((hS.ext hW).own 0 rfl) H1.out (by omega) hkn fun w2 ys ho hy hg => ?_
    rw [HL.out.1] at hy
    replace hS := (hS.ext hW).upd 0 rfl (.own (.slice (some ⟨g, 0, none⟩) n cap) 50 2 n ys) hg ho fun _ e => .inl e
    rw [HL.out.2] at hy ⊢
    simp only [TailWp]
    simp only [Act.put, List.setIfInBounds_toArray, List.set_cons_zero, List.set_cons_succ]
    (intro o_ ho_; simp only [List.getElem?_toArray, List.getElem?_cons_succ, List.getElem?_cons_zero, Option.some.injEq] at ho_; subst ho_)
    refine opw_assign rfl rfl ?_
    simp only [TailWp]
    simp only [Act.put, List.setIfInBounds_toArray, List.set_cons_zero, List.set_cons_succ]
    simp only [Act.eval, Array.getD_eq_getD_getElem?, List.getElem?_toArray, List.getElem?_cons_succ, List.getElem?_cons_zero, Option.getD_some]
    clear e22 e25 ho hW
    obtain ⟨w3, zs, hrun, hX, hzs, hG⟩ := run_clear_own (ty := 0) (c := cap - m) (hS.own 0 rfl) Tryd.underlying25 (Tryd.zeroValue50 w2) rfl (by simp [Value.oneCell']) (show m + 1 = n by omega)
    replace hS := hS.upd 0 rfl (.own (.slice (some ⟨g, 0, none⟩) m cap) 50 2 m (pcells (L.eraseIdx k))) hG (by
      have := own_short hX (show m ≤ n by omega)
      rwa [hzs, hy] at this) (fun _ e => .inl e)
    clear hX hG hzs hy
    go_wp2_with (first | ((with_reducible show wpList _ _ _ (⟨_, .binOp _ _ _ _ _, _, _, _, _⟩ :: _) _ _); (first | ((with_reducible show wpList _ _ _ (⟨_, .binOp .lss _ _ _ _, _, _, _, _⟩ :: _) _ _); refine st_lss rfl _ _ _ _ rfl _ _ _ rfl rfl (fun h_ => ?_) (fun h_ => ?_)) | ((with_reducible show wpList _ _ _ (⟨_, .binOp .leq _ _ _ _, _, _, _, _⟩ :: _) _ _); refine st_leq rfl _ _ _ _ rfl _ _ _ rfl rfl (fun h_ => ?_) (fun h_ => ?_)) | ((with_reducible show wpList _ _ _ (⟨_, .binOp .gtr _ _ _ _, _, _, _, _⟩ :: _) _ _); refine st_gtr rfl _ _ _ _ rfl _ _ _ rfl rfl (fun h_ => ?_) (fun h_ => ?_)) | ((with_reducible show wpList _ _ _ (⟨_, .binOp .geq _ _ _ _, _, _, _, _⟩ :: _) _ _); refine st_geq rfl _ _ _ _ rfl _ _ _ rfl rfl (fun h_ => ?_) (fun h_ => ?_)) | ((with_reducible show wpList _ _ _ (⟨_, .binOp .eql _ _ _ _, _, _, _, _⟩ :: _) _ _); refine st_eql rfl _ _ _ _ rfl _ _ _ rfl rfl (fun h_ => ?_) (fun h_ => ?_)) | ((with_reducible show wpList _ _ _ (⟨_, .binOp .neq _ _ _ _, _, _, _, _⟩ :: _) _ _); refine st_neq rfl _ _ _ _ rfl _ _ _ rfl rfl (fun h_ => ?_) (fun h_ => ?_))) <;> go_prune) | ((with_reducible show wpList _ _ _ (⟨_, .call _, _, _, _, _⟩ :: _) _ _); refine BigFrame.wpList_want rfl fun _ hK => opw_clear (w' := w3) rfl rfl hrun (hK _ _ ?_)))
    go_ret
    exact ⟨rfl, hS⟩
theorem unl_asc {L : List (Nat × Nat)} (h : Asc L) (z : Nat × Nat) : Asc (unl L z) := h.filter _
theorem mem_eraseIdx {L : List (Nat × Nat)} (hN : L.Nodup) {k : Nat} {z : Nat × Nat} (hk : L[k]? = some z) (u : Nat × Nat) : u ∈ L.eraseIdx k ↔ u ∈ unl L z := by
  rw [mem_unl]
  obtain ⟨h1, h2⟩ := List.getElem?_eq_some_iff.1 hk
  have hp := List.pairwise_iff_getElem.1 hN
  rw [List.mem_iff_getElem?]
  constructor
  · rintro ⟨i, hi⟩
    rw [List.getElem?_eraseIdx] at hi
    split at hi
    · obtain ⟨h3, h4⟩ := List.getElem?_eq_some_iff.1 hi
      refine ⟨by rw [← h4]; exact List.getElem_mem h3, fun e => ?_⟩
      exact hp i k h3 h1 (by omega) (by rw [h4, h2, e])
    · obtain ⟨h3, h4⟩ := List.getElem?_eq_some_iff.1 hi
      refine ⟨by rw [← h4]; exact List.getElem_mem h3, fun e => ?_⟩
      exact hp k (i + 1) h1 h3 (by omega) (by rw [h4, h2, e])
  · rintro ⟨hu, hne⟩
    obtain ⟨i, hi, e⟩ := List.getElem_of_mem hu
    rcases Nat.lt_trichotomy i k with h | h | h
    · exact ⟨i, by rw [List.getElem?_eraseIdx, if_pos h, List.getElem?_eq_getElem hi, e]⟩
    · subst h
      exact absurd (by rw [← e, h2]) hne
    · exact ⟨i - 1, by rw [List.getElem?_eraseIdx, if_neg (by omega), show i - 1 + 1 = i by omega, List.getElem?_eq_getElem hi, e]⟩
/-- what the last region of Without has made: the pairs, those without one, the result; whether n is read -/
structure DG where
  a : Option Value
  c : Option Value
  d : Option Value
  e : Bool
section
variable {w0 : World} {F : List Fact} {K : (Nat → Prop) → World → Prop} {n : Nat} {L M : List (Nat × Nat)} {p p' : World × DG}
def DJ (w0 : World) (F : List Fact) (K : (Nat → Prop) → World → Prop) (n : Nat) (L M : List (Nat × Nat)) (p : World × DG) : Prop := match p.2.d with
  | none => St w0 p.1 ((match p.2.c with | some v => [.own v 50 2 M.length (pcells M)] | none => ownP L p.2.a) ++ F) K
  | some r => NewP w0 F K n M r p.1
def DR (w0 : World) (F : List Fact) (K : (Nat → Prop) → World → Prop) (n : Nat) (L M : List (Nat × Nat)) (p p' : World × DG) : Prop :=
  (DJ w0 F K n L M p → DJ w0 F K n L M p') ∧ (∀ v, p.2.a = some v → p'.2.a = some v) ∧ (∀ v, p.2.c = some v → p'.2.c = some v) ∧ (∀ v, p.2.d = some v → p'.2.d = some v) ∧ (p.2.e = true → p'.2.e = true)
theorem DR.refl (p : World × DG) : DR w0 F K n L M p p := ⟨id, fun _ h => h, fun _ h => h, fun _ h => h, id⟩
theorem DR.trans (a b c : World × DG) (h : DR w0 F K n L M a b) (k : DR w0 F K n L M b c) : DR w0 F K n L M a c :=
  ⟨fun y => k.1 (h.1 y), fun g y => k.2.1 g (h.2.1 g y), fun g y => k.2.2.1 g (h.2.2.1 g y), fun g y => k.2.2.2.1 g (h.2.2.2.1 g y), fun y => k.2.2.2.2 (h.2.2.2.2 y)⟩
theorem DJ.st (h : DJ w0 F K n L M p) (hd : p.2.d = none) : St w0 p.1 ((match p.2.c with | some v => [.own v 50 2 M.length (pcells M)] | none => ownP L p.2.a) ++ F) K := by unfold DJ at h; rw [hd] at h; exact h
theorem DJ.mkA {w' : World} {v : Value} (h : DJ w0 F K n L M p) (hn : p.2.a = none ∧ p.2.c = none ∧ p.2.d = none) (hs : St p.1 w' [.own v 50 2 L.length (pcells L)] fun _ _ => True) : DJ w0 F K n L M (w', { p.2 with a := some v }) := by
  obtain ⟨w, a, c, d, e⟩ := p
  obtain ⟨rfl, rfl, rfl⟩ := hn
  exact St.new (h.st rfl) hs.below (.own v 50 2 L.length (pcells L)) (hs.own 0 rfl)
theorem DJ.row (h : DJ w0 F K n L M p) (hn : p.2.c = none ∧ p.2.d = none) {v : Value} (ha : p.2.a = some v) : St w0 p.1 (.own v 50 2 L.length (pcells L) :: F) K := by
  obtain ⟨w, a, c, d, e⟩ := p
  obtain ⟨rfl, rfl⟩ := hn
  dsimp only at ha
  subst ha
  exact h.st rfl
theorem DJ.mkC {w' : World} {u : Value} (hn : p.2.d = none) (hs : St w0 w' (.own u 50 2 M.length (pcells M) :: F) K) : DJ w0 F K n L M (w', { p.2 with c := some u }) := by
  obtain ⟨w, a, c, d, e⟩ := p
  dsimp only at hn
  subst hn
  exact hs
theorem DJ.last (h : DJ w0 F K n L M p) (hd : p.2.d = none) {v : Value} (hc : p.2.c = some v) : St w0 p.1 (.own v 50 2 M.length (pcells M) :: F) K := by
  obtain ⟨w, a, c, d, e⟩ := p
  dsimp only at hd hc
  subst hd hc
  exact h.st rfl
end
theorem owithout_any {w0 w : World} {F : List Fact} {K : (Nat → Prop) → World → Prop} (p : Value) (n : Nat) (L : List (Nat × Nat)) (a b : Nat) (hn : n ≤ 256) (hL : Inr n L) (hA : Asc L) (hC : Acyc L) (hl : L.length ≤ 900000) (hS : St w0 w F K)
    (ko : ∀ D w, K D w → IsOrd w D p n L) (kt : ∀ D w, K D w → DTab w ∧ D 0) :
    Calls Tryd.prog 69 #[p, .int .i64 (a : Nat), .int .i64 (b : Nat)] w fun e w' =>
      ((a, b) ∉ L ∧ e = .returned (.tuple #[.pointer none, .int .i64 4]) ∧ St w0 w' F K) ∨ (a, b) ∈ L ∧ ∃ p', e = .returned (.tuple #[p', .int .i64 0]) ∧ St w0 w' F fun D w => K D w ∧ IsOrd w D p' n (unl L (a, b)) := by
  have KS := hS.stable
  obtain ⟨q, gp, av, bv, sv, xa, xb, rfl, hX⟩ := ko _ _ hS.ro
  have hS := hS.add stable_ordX hX fun b h _ => h
  clear hX
  have HCN := Lib.hid (fun (w : World) (h : OrdX q gp av bv sv xa xb n L (Free F) w) => pindex_any (w := w) (by omega) h.2.1 (a, b))
  have HE := Lib.hid (fun (k : Nat) (hk : L[k]? = some (a, b)) => show (∀ u, u ∈ L.eraseIdx k ↔ u ∈ unl L (a, b)) ∧ Inr n (L.eraseIdx k) ∧ Acyc (L.eraseIdx k) ∧ (a, b) ∈ L from ⟨mem_eraseIdx hA.nodup hk, fun u hu => hL u ((mem_unl.1 ((mem_eraseIdx hA.nodup hk u).1 hu)).1), hC.sub fun u hu => (mem_unl.1 ((mem_eraseIdx hA.nodup hk u).1 hu)).1, List.mem_of_getElem? hk⟩)
  have HU := Lib.hid (unl_asc hA (a, b))
  clear hL hA hC
  go_enter Tryd.func69, Tryd.ntmps69
  go_wp2_with (first
    | ((with_reducible show wpList _ _ _ (⟨_, .binOp _ _ _ _ _, _, _, _, _⟩ :: _) _ _); (first | ((with_reducible show wpList _ _ _ (⟨_, .binOp .lss _ _ _ _, _, _, _, _⟩ :: _) _ _); refine st_lss rfl _ _ _ _ rfl _ _ _ rfl rfl (fun h_ => ?_) (fun h_ => ?_)) | ((with_reducible show wpList _ _ _ (⟨_, .binOp .leq _ _ _ _, _, _, _, _⟩ :: _) _ _); refine st_leq rfl _ _ _ _ rfl _ _ _ rfl rfl (fun h_ => ?_) (fun h_ => ?_)) | ((with_reducible show wpList _ _ _ (⟨_, .binOp .gtr _ _ _ _, _, _, _, _⟩ :: _) _ _); refine st_gtr rfl _ _ _ _ rfl _ _ _ rfl rfl (fun h_ => ?_) (fun h_ => ?_)) | ((with_reducible show wpList _ _ _ (⟨_, .binOp .geq _ _ _ _, _, _, _, _⟩ :: _) _ _); refine st_geq rfl _ _ _ _ rfl _ _ _ rfl rfl (fun h_ => ?_) (fun h_ => ?_)) | ((with_reducible show wpList _ _ _ (⟨_, .binOp .eql _ _ _ _, _, _, _, _⟩ :: _) _ _); refine st_eql rfl _ _ _ _ rfl _ _ _ rfl rfl (fun h_ => ?_) (fun h_ => ?_)) | ((with_reducible show wpList _ _ _ (⟨_, .binOp .neq _ _ _ _, _, _, _, _⟩ :: _) _ _); refine st_neq rfl _ _ _ _ rfl _ _ _ rfl rfl (fun h_ => ?_) (fun h_ => ?_))) <;> go_prune)
    | ((with_reducible show wpList _ _ _ (⟨some 14, _, _, _, _, _⟩ :: _) _ _); refine st_kcell hS rfl _ _ rfl _ rfl _ (fun D w h => h.2.1.cell 1 rfl) (by kernel_rfl) ?_)
    | (go_at_call 88; refine (HCN.out _ hS.ro.2).mono ?_; rintro r_ w_ ⟨_, rfl, (⟨k, hk, rfl, hkx⟩ | ⟨rfl, hx⟩), hb_⟩ <;> (replace hS := hS.ext hb_; clear hb_)))
  · obtain ⟨H1, H2, H3, H4⟩ := HE.out k hkx
    have H1 := Lib.hid H1
    have H2 := Lib.hid H2
    have H3 := Lib.hid H3
    have HK := Lib.hid (show (L.eraseIdx k).length = L.length - 1 from List.length_eraseIdx_of_lt hk)
    obtain ⟨KX, k1, k2, hS⟩ : ∃ KX : (Nat → Prop) → World → Prop, (∀ D w, KX D w → K D w) ∧ (∀ D w, KX D w → OrdX q gp av bv sv xa xb n L D w) ∧ St w0 w_ F KX := ⟨_, fun _ _ h => h.1, fun _ _ h => h.2, hS⟩
    clear HCN HE hkx
    obtain ⟨M, hM⟩ : ∃ M, M = L.eraseIdx k := ⟨_, rfl⟩
    have HM := Lib.hid hM
    rw [← hM] at H1 H2 H3 HK
    clear hM
    have hJ0 : DJ w0 F KX n L M (w_.drew, ⟨none, none, none, false⟩) := hS.drew
    have hRr := @DR.refl w0 F KX n L M
    have hRt := @DR.trans w0 F KX n L M
    refine wp_region_ghost (fun i__ v w => match i__ with
      | 0 => v = .pointer (some ⟨q, 0, none⟩)
      | 1 => v = .pointer (some ⟨q, 0, none⟩)
      | 2 => v = .pointer (some ⟨q, 0, none⟩)
      | 3 => w.2.e = true ∧ v = .int .i64 ((n : Nat) : Int)
      | 4 => v = .pointer (some ⟨q, 0, none⟩)
      | 5 => w.2.a = some v
      | 6 => v = .int .i64 ((k : Nat) : Int)
      | 7 => v = .int .i64 ((k : Nat) : Int)
      | 8 => v = .int .i64 ((k + 1 : Nat) : Int)
      | 9 => w.2.c = some v
      | 10 => w.2.d = some v ∧ ∃ (p : Value) (e : Int), v = .tuple #[p, .int .i64 e]
      | 11 => ∃ (p : Value) (e : Int), w.2.d = some (.tuple #[p, .int .i64 e]) ∧ v = p
      | 12 => ∃ (p : Value) (e : Int), w.2.d = some (.tuple #[p, .int .i64 e]) ∧ v = .int .i64 e
      | 13 => ∃ (p : Value) (e : Int), w.2.d = some (.tuple #[p, .int .i64 e]) ∧ v = p
      | 14 => ∃ (p : Value) (e : Int), w.2.d = some (.tuple #[p, .int .i64 e]) ∧ v = .int .i64 e
      | _ => True) (DR w0 F KX n L M) (fun i p => match i with | 3 => p.2.e = false ∧ p.2.d = none | 5 => p.2.a = none ∧ p.2.c = none ∧ p.2.d = none | 9 => p.2.c = none ∧ p.2.d = none | 10 => p.2.d = none | _ => True) (⟨none, none, none, false⟩) (by kernel_rfl) (by kernel_rfl) hRr hRt ?mono ?hN ⟨?r0, ?r1, ?r2, ?r3, ?r4, ?r5, ?r6, ?r7, ?r8, ?r9, ?r10, ?r11, ?r12, ?r13, ?r14, trivial⟩ ?post
    case hN => first | assumption | (intro i; (try dsimp only); split <;> first | trivial | assumption | (left; assumption))
    case mono =>
      intro i v w w' h hb
      match i, h with
      | 0, h => exact h
      | 1, h => exact h
      | 2, h => exact h
      | 3, h => exact ⟨hb.2.2.2.2 h.1, h.2⟩
      | 4, h => exact h
      | 5, h => exact hb.2.1 _ h
      | 6, h => exact h
      | 7, h => exact h
      | 8, h => exact h
      | 9, h => exact hb.2.2.1 _ h
      | 10, h => exact ⟨hb.2.2.2.1 _ h.1, h.2⟩
      | 11, h => exact by obtain ⟨p, e, h1, h2⟩ := h; exact ⟨p, e, hb.2.2.2.1 _ h1, h2⟩
      | 12, h => exact by obtain ⟨p, e, h1, h2⟩ := h; exact ⟨p, e, hb.2.2.2.1 _ h1, h2⟩
      | 13, h => exact by obtain ⟨p, e, h1, h2⟩ := h; exact ⟨p, e, hb.2.2.2.1 _ h1, h2⟩
      | 14, h => exact by obtain ⟨p, e, h1, h2⟩ := h; exact ⟨p, e, hb.2.2.2.1 _ h1, h2⟩
      | _ + 15, h => trivial
    case r0 =>
      refine truleGh fun b__ w hW hN hold hpre => ⟨fun hwant K hK => ?_, fun hwant => ?_⟩
      · clear hwant
        have e0 : b__.eval (.tmp 0) = .pointer (some ⟨q, 0, none⟩) := (hold 0 (by kernel_rfl)).trans rfl
        exact opw_move rfl e0 (hK _ _ rfl ⟨hRr _, fun _ _ h => h⟩)
      · rw [want_none rfl] at hwant; cases hwant
    case r1 =>
      refine truleGh fun b__ w hW hN hold hpre => ⟨fun hwant K hK => ?_, fun hwant => ?_⟩
      · clear hwant
        have e21 : b__.eval (.tmp 21) = .pointer (some ⟨q, 0, none⟩) := hpre ⟨0, _⟩ (Array.mem_of_getElem? (i := 0) rfl) rfl _ _ rfl rfl
        exact opw_nil rfl e21 (hK _ _ rfl ⟨hRr _, fun _ _ h => h⟩)
      · rw [want_none rfl] at hwant; cases hwant
    case r2 =>
      refine truleGh fun b__ w hW hN hold hpre => ⟨fun hwant K hK => ?_, fun hwant => ?_⟩
      · clear hwant
        have e22 : b__.eval (.tmp 22) = .pointer (some ⟨q, 0, none⟩) := hpre ⟨1, _⟩ (Array.mem_of_getElem? (i := 0) rfl) rfl _ _ rfl rfl
        exact opw_faddr rfl e22 (by kernel_rfl) (hK _ _ rfl ⟨hRr _, fun _ _ h => h⟩)
      · rw [want_none rfl] at hwant; cases hwant
    case r3 =>
      refine truleGh fun b__ w hW hN hold hpre => ⟨fun hwant K hK => ?_, fun hwant => ?_⟩
      · clear hwant
        have e23 : b__.eval (.tmp 23) = .pointer (some ⟨q, 0, none⟩) := hpre ⟨2, _⟩ (Array.mem_of_getElem? (i := 0) rfl) rfl _ _ rfl rfl
        exact opw_cell rfl e23 (by kernel_rfl) ((k2 _ _ ((hW.1 hJ0).st hN.2).ro).1.cell 0 rfl) (hK (.int .i64 (n : Nat)) (w.1, { w.2 with e := true }) ⟨rfl, rfl⟩ ⟨⟨fun hj => hj, (fun _ h => h), (fun _ h => h), (fun _ h => h), (fun _ => rfl)⟩, fun j hj hn => by split <;> first | exact absurd rfl hj | exact hn | trivial⟩)
      · rw [want_none rfl] at hwant; cases hwant
    case r4 =>
      refine truleGh fun b__ w hW hN hold hpre => ⟨fun hwant K hK => ?_, fun hwant => ?_⟩
      · clear hwant
        have e0 : b__.eval (.tmp 0) = .pointer (some ⟨q, 0, none⟩) := (hold 0 (by kernel_rfl)).trans rfl
        exact opw_move rfl e0 (hK _ _ rfl ⟨hRr _, fun _ _ h => h⟩)
      · rw [want_none rfl] at hwant; cases hwant
    case r5 =>
      refine truleGh fun b__ w hW hN hold hpre => ⟨fun hwant K hK => ?_, fun hwant => ?_⟩
      · clear hwant
        have e25 : b__.eval (.tmp 25) = .pointer (some ⟨q, 0, none⟩) := hpre ⟨4, _⟩ (Array.mem_of_getElem? (i := 0) rfl) rfl _ _ rfl rfl
        exact opw_callw rfl (by kernel_rfl) (by simp only [List.map_cons, List.map_nil, e25]) (opairs_any (k2 _ _ ((hW.1 hJ0).st hN.2.2).ro).ord (by omega)) fun e w' ⟨v, he, hs⟩ => ⟨v, he, hK v (w', { w.2 with a := some v }) rfl ⟨⟨fun hj => hj.mkA hN hs, (fun g h => by rw [hN.1] at h; cases h), (fun _ h => h), (fun _ h => h), id⟩, fun j hj hn => by split <;> first | exact absurd rfl hj | exact hn | trivial⟩⟩
      · rw [want_none rfl] at hwant; cases hwant
    case r6 =>
      refine truleGh fun b__ w hW hN hold hpre => ⟨fun hwant K hK => ?_, fun hwant => ?_⟩
      · clear hwant
        have e8 : b__.eval (.tmp 8) = .int .i64 ((k : Nat) : Int) := (hold 8 (by kernel_rfl)).trans rfl
        exact opw_move rfl e8 (hK _ _ rfl ⟨hRr _, fun _ _ h => h⟩)
      · rw [want_none rfl] at hwant; cases hwant
    case r7 =>
      refine truleGh fun b__ w hW hN hold hpre => ⟨fun hwant K hK => ?_, fun hwant => ?_⟩
      · clear hwant
        have e8 : b__.eval (.tmp 8) = .int .i64 ((k : Nat) : Int) := (hold 8 (by kernel_rfl)).trans rfl
        exact opw_move rfl e8 (hK _ _ rfl ⟨hRr _, fun _ _ h => h⟩)
      · rw [want_none rfl] at hwant; cases hwant
    case r8 =>
      refine truleGh fun b__ w hW hN hold hpre => ⟨fun hwant K hK => ?_, fun hwant => ?_⟩
      · clear hwant
        have e28 : b__.eval (.tmp 28) = .int .i64 ((k : Nat) : Int) := hpre ⟨7, _⟩ (Array.mem_of_getElem? (i := 0) rfl) rfl _ _ rfl rfl
        exact opw_bin (vx := .int .i64 ((k : Nat) : Int)) (vy := .int .i64 1) (v := .int .i64 ((k + 1 : Nat) : Int)) rfl e28 rfl rfl (run_add64 (by omega) (by omega)) (hK _ _ rfl ⟨hRr _, fun _ _ h => h⟩)
      · rw [want_none rfl] at hwant; cases hwant
    case r9 =>
      refine truleGh fun b__ w hW hN hold hpre => ⟨fun hwant K hK => ?_, fun hwant => ?_⟩
      · clear hwant
        have e26 : (fun (v : Value) (w : World × _) => w.2.a = some v) (b__.eval (.tmp 26)) w := hpre ⟨5, _⟩ (Array.mem_of_getElem? (i := 0) rfl) rfl _ _ rfl rfl
        have e27 : b__.eval (.tmp 27) = .int .i64 ((k : Nat) : Int) := hpre ⟨6, _⟩ (Array.mem_of_getElem? (i := 1) rfl) rfl _ _ rfl rfl
        have e29 : b__.eval (.tmp 29) = .int .i64 ((k + 1 : Nat) : Int) := hpre ⟨8, _⟩ (Array.mem_of_getElem? (i := 2) rfl) rfl _ _ rfl rfl
        have hSx := (hW.1 hJ0).row hN e26
        obtain ⟨g, cap, hv, _, _⟩ := own_pos (hSx.own 0 rfl) (by omega)
        rw [hv] at hSx
        refine opw_callw rfl (by kernel_rfl) (by simp only [List.map_cons, List.map_nil, hv, e27, e29]) (delp_any g L.length cap k (k + 1) L rfl (by omega) rfl (by omega) hSx) fun e w' h => ?_
        obtain ⟨he, h⟩ := h
        rw [← HM.out, ← HK.out] at h
        rw [← HK.out] at he
        exact ⟨_, he, hK _ (w', { w.2 with c := some _ }) rfl ⟨⟨fun _ => DJ.mkC hN.2 h, (fun _ h => h), (fun g h => by rw [hN.1] at h; cases h), (fun _ h => h), id⟩, fun j hj hn => by split <;> first | exact absurd rfl hj | exact hn | exact absurd (hn.1.symm.trans e26) nofun | trivial⟩⟩
      · rw [want_none rfl] at hwant; cases hwant
    case r10 =>
      refine truleGh fun b__ w hW hN hold hpre => ⟨fun hwant K hK => ?_, fun hwant => ?_⟩
      · clear hwant
        have e24 : (fun (v : Value) (w : World × _) => w.2.e = true ∧ v = .int .i64 ((n : Nat) : Int)) (b__.eval (.tmp 24)) w := hpre ⟨3, _⟩ (Array.mem_of_getElem? (i := 0) rfl) rfl _ _ rfl rfl
        have e30 : (fun (v : Value) (w : World × _) => w.2.c = some v) (b__.eval (.tmp 30)) w := hpre ⟨9, _⟩ (Array.mem_of_getElem? (i := 1) rfl) rfl _ _ rfl rfl
        refine opw_callw rfl (by kernel_rfl) (by simp only [List.map_cons, List.map_nil, e24.2]) (onew_own n M _ hn H2.out (by have := HK.out; omega) ((hW.1 hJ0).last hN e30) (fun D w h => kt D w (k1 D w h))) fun e w' h => ?_
        obtain ⟨v, he, hP⟩ := h
        exact ⟨v, he, hK v (w', { w.2 with d := some v }) ⟨rfl, hP.shape⟩ ⟨⟨fun _ => hP, (fun _ h => h), (fun _ h => h), (fun g h => by rw [hN] at h; cases h), id⟩, fun j hj hn => by split <;> first | exact absurd rfl hj | exact hn | exact absurd (hn.1.symm.trans e24.1) nofun | exact absurd (hn.2.1.symm.trans e30) nofun | exact absurd (hn.1.symm.trans e30) nofun | trivial⟩⟩
      · rw [want_none rfl] at hwant; cases hwant
    case r11 =>
      refine truleGh fun b__ w hW hN hold hpre => ⟨fun hwant K hK => ?_, fun hwant => ?_⟩
      · clear hwant
        have e31 : (fun (v : Value) (w : World × _) => w.2.d = some v ∧ ∃ (p : Value) (e : Int), v = .tuple #[p, .int .i64 e]) (b__.eval (.tmp 31)) w := hpre ⟨10, _⟩ (Array.mem_of_getElem? (i := 0) rfl) rfl _ _ rfl rfl
        obtain ⟨hd, p, e, hv⟩ := e31
        rw [hv] at hd
        exact opw_extract rfl hv rfl (hK _ _ ⟨p, e, hd, rfl⟩ ⟨hRr _, fun _ _ h => h⟩)
      · rw [want_none rfl] at hwant; cases hwant
    case r12 =>
      refine truleGh fun b__ w hW hN hold hpre => ⟨fun hwant K hK => ?_, fun hwant => ?_⟩
      · clear hwant
        have e31 : (fun (v : Value) (w : World × _) => w.2.d = some v ∧ ∃ (p : Value) (e : Int), v = .tuple #[p, .int .i64 e]) (b__.eval (.tmp 31)) w := hpre ⟨10, _⟩ (Array.mem_of_getElem? (i := 0) rfl) rfl _ _ rfl rfl
        obtain ⟨hd, p, e, hv⟩ := e31
        rw [hv] at hd
        exact opw_extract rfl hv rfl (hK _ _ ⟨p, e, hd, rfl⟩ ⟨hRr _, fun _ _ h => h⟩)
      · rw [want_none rfl] at hwant; cases hwant
    case r13 =>
      refine truleGh fun b__ w hW hN hold hpre => ⟨fun hwant K hK => ?_, fun hwant => ?_⟩
      · clear hwant
        have e32 : (fun (v : Value) (w : World × _) => ∃ (p : Value) (e : Int), w.2.d = some (.tuple #[p, .int .i64 e]) ∧ v = p) (b__.eval (.tmp 32)) w := hpre ⟨11, _⟩ (Array.mem_of_getElem? (i := 0) rfl) rfl _ _ rfl rfl
        exact opw_assign rfl rfl (hK _ _ e32 ⟨hRr _, fun _ _ h => h⟩)
      · rw [want_none rfl] at hwant; cases hwant
    case r14 =>
      refine truleGh fun b__ w hW hN hold hpre => ⟨fun hwant K hK => ?_, fun hwant => ?_⟩
      · clear hwant
        have e33 : (fun (v : Value) (w : World × _) => ∃ (p : Value) (e : Int), w.2.d = some (.tuple #[p, .int .i64 e]) ∧ v = .int .i64 e) (b__.eval (.tmp 33)) w := hpre ⟨12, _⟩ (Array.mem_of_getElem? (i := 0) rfl) rfl _ _ rfl rfl
        exact opw_assign rfl rfl (hK _ _ e33 ⟨hRr _, fun _ _ h => h⟩)
      · rw [want_none rfl] at hwant; cases hwant
    case post =>
      intro b__ wz hW hdf hsz hold hT hZ
      have e21 : b__.eval (.tmp 21) = .pointer (some ⟨q, 0, none⟩) := hT 0 _ 21 rfl rfl
      have e22 : b__.eval (.tmp 22) = .pointer (some ⟨q, 0, none⟩) := hT 1 _ 22 rfl rfl
      have e23 : b__.eval (.tmp 23) = .pointer (some ⟨q, 0, none⟩) := hT 2 _ 23 rfl rfl
      have e24 : (fun (v : Value) (w : World × _) => w.2.e = true ∧ v = .int .i64 ((n : Nat) : Int)) (b__.eval (.tmp 24)) wz := hT 3 _ 24 rfl rfl
      have e25 : b__.eval (.tmp 25) = .pointer (some ⟨q, 0, none⟩) := hT 4 _ 25 rfl rfl
      have e26 : (fun (v : Value) (w : World × _) => w.2.a = some v) (b__.eval (.tmp 26)) wz := hT 5 _ 26 rfl rfl
      have e27 : b__.eval (.tmp 27) = .int .i64 ((k : Nat) : Int) := hT 6 _ 27 rfl rfl
      have e28 : b__.eval (.tmp 28) = .int .i64 ((k : Nat) : Int) := hT 7 _ 28 rfl rfl
      have e29 : b__.eval (.tmp 29) = .int .i64 ((k + 1 : Nat) : Int) := hT 8 _ 29 rfl rfl
      have e30 : (fun (v : Value) (w : World × _) => w.2.c = some v) (b__.eval (.tmp 30)) wz := hT 9 _ 30 rfl rfl
      have e31 : (fun (v : Value) (w : World × _) => w.2.d = some v ∧ ∃ (p : Value) (e : Int), v = .tuple #[p, .int .i64 e]) (b__.eval (.tmp 31)) wz := hT 10 _ 31 rfl rfl
      have e32 : (fun (v : Value) (w : World × _) => ∃ (p : Value) (e : Int), w.2.d = some (.tuple #[p, .int .i64 e]) ∧ v = p) (b__.eval (.tmp 32)) wz := hT 11 _ 32 rfl rfl
      have e33 : (fun (v : Value) (w : World × _) => ∃ (p : Value) (e : Int), w.2.d = some (.tuple #[p, .int .i64 e]) ∧ v = .int .i64 e) (b__.eval (.tmp 33)) wz := hT 12 _ 33 rfl rfl
      have e6 : (fun (v : Value) (w : World × _) => ∃ (p : Value) (e : Int), w.2.d = some (.tuple #[p, .int .i64 e]) ∧ v = p) (b__.eval (.tmp 6)) wz := hT 13 _ 6 rfl rfl
      have e7 : (fun (v : Value) (w : World × _) => ∃ (p : Value) (e : Int), w.2.d = some (.tuple #[p, .int .i64 e]) ∧ v = .int .i64 e) (b__.eval (.tmp 7)) wz := hT 14 _ 7 rfl rfl
      obtain ⟨vs, hvs, hb⟩ := frame_of hdf hsz hold
      replace e21 : vs 21 = .pointer (some ⟨q, 0, none⟩) := (hvs 21).symm.trans e21
      replace e22 : vs 22 = .pointer (some ⟨q, 0, none⟩) := (hvs 22).symm.trans e22
      replace e23 : vs 23 = .pointer (some ⟨q, 0, none⟩) := (hvs 23).symm.trans e23
      replace e24 := (hvs 24) ▸ e24
      replace e25 : vs 25 = .pointer (some ⟨q, 0, none⟩) := (hvs 25).symm.trans e25
      replace e26 := (hvs 26) ▸ e26
      replace e27 : vs 27 = .int .i64 ((k : Nat) : Int) := (hvs 27).symm.trans e27
      replace e28 : vs 28 = .int .i64 ((k : Nat) : Int) := (hvs 28).symm.trans e28
      replace e29 : vs 29 = .int .i64 ((k + 1 : Nat) : Int) := (hvs 29).symm.trans e29
      replace e30 := (hvs 30) ▸ e30
      replace e31 := (hvs 31) ▸ e31
      replace e32 := (hvs 32) ▸ e32
      replace e33 := (hvs 33) ▸ e33
      replace e6 := (hvs 6) ▸ e6
      replace e7 := (hvs 7) ▸ e7
      subst hb
      clear hvs hold hT hdf hsz
      simp only [setAll, Act.put, List.setIfInBounds_toArray, List.set_cons_zero, List.set_cons_succ, List.getElem_toArray, List.getElem_cons_succ, List.getElem_cons_zero]
      obtain ⟨r1, z1, hd1, e6⟩ := e6
      obtain ⟨r2, z2, hd2, e7⟩ := e7
      rw [hd1] at hd2
      obtain ⟨rfl, rfl⟩ : r1 = r2 ∧ z1 = z2 := by simpa using hd2
      have hJ := hW.1 hJ0
      unfold DJ at hJ
      rw [hd1] at hJ
      have hP := hJ.mono KS k1
      rcases hP with ⟨hc, _, _⟩ | ⟨p', L', hr, h1, h2, _, hSf⟩
      · exact absurd H3.out hc
      · obtain ⟨rfl, rfl⟩ : r1 = p' ∧ z1 = 0 := by simpa using hr
        obtain rfl : L' = unl L (a, b) := Asc.uniq h1 HU.out fun u => (h2 u).trans (H1.out u)
        rw [e6, e7]
        generalize wz.1 = wf at *
        clear hJ hJ0 hRr hRt hW hZ hd1 hd2 e6 e7 h1 h2
        go_wp2_with fail
        go_ret2
        first | exact .inr ⟨H4, _, rfl, hSf⟩ | exact ⟨_, rfl, hSf⟩
  · go_ret2
    exact .inl ⟨hx, rfl, hS.mono KS fun _ _ h => h.1⟩
end Go.Proofs.YtmlkgaiphpimiaaDoor
namespace Go.Proofs.YtmlkgaiphpimiaaDoor
open Go.RowKit
attribute [local go_sem ↓] Go.wp_at_zero Go.wp_at_succ
set_option maxRecDepth 20000
set_option exponentiation.threshold 5000

theorem withN_nat {N r : Nat} (h : r < 64) : withN N (r : Int) = N ||| 2 ^ r := by
  unfold withN
  rw [if_pos (by omega), Int.toNat_natCast]
theorem free1 {w0 w : World} {g z : Nat} {t : TypeId} {cs : Array Value} {K : (Nat → Prop) → World → Prop} (h : St w0 w [.box g t cs] K) (hz : z < w0.heap.size) : Free [.box g t cs] z := fun f hf e => by
  rw [List.mem_singleton] at hf
  subst hf
  have := Fact.ge (h.holds _ (List.mem_singleton.2 rfl)) e
  omega
theorem stable_inter {r : (Nat → Prop) → World → Prop} (hr : Stable r) (E : Nat → Prop) : Stable fun D w => r (fun z => D z ∧ E z) w := fun D D' w w' h a b c =>
  hr _ _ w w' h a (fun p x hp => b p x hp.1) fun z hz h1 h2 => ⟨c z hz.1 h1 h2, hz.2⟩
theorem hjun_any {w0 : World} {D : Nat → Prop} {p : Value} {L : List (Nat × Nat)} (h : IsH w0 D p L) (hH : HOK L) (r : Int) : Calls Tryd.prog 21 #[p, .int .i64 r] w0 (Ret (fun x w => IsSet w (fun z => D z ∨ w0.heap.size ≤ z) x (if 1 ≤ r ∧ r ≤ 63 then junM L r.toNat else 0)) w0) := by
  obtain ⟨q, o, rfl, hb, ho⟩ := h
  have HO := Lib.hid (stable_ord D (fun z => D z ∧ z < w0.heap.size) w0 w0 ho (Nat.le_refl _) (fun _ _ _ _ h => h) fun b h1 h2 _ => ⟨h1, h2⟩)
  obtain ⟨K, k0, hS⟩ : ∃ K : (Nat → Prop) → World → Prop, (∀ D w, K D w → w.cell? ⟨q, 0, none⟩ = some o) ∧ St w0 w0 [] K := ⟨_, fun _ _ h => IsBox.cell h 0 rfl, St.start stable_isBox hb⟩
  have HH := Lib.hid hH
  clear hb hH ho
  by_cases hr : 1 ≤ r ∧ r ≤ 63
  · obtain ⟨k, rfl⟩ : ∃ k : Nat, r = (k : Int) := ⟨r.toNat, by omega⟩
    have HR := Lib.hid (decide_eq_true hr)
    have HM := Lib.hid (fun (N : Nat) (h : ∀ i : Nat, N.testBit i = true ↔ ∃ b : Nat, (k : Int) = (b : Int) ∧ TC L b i) => show withN N (k : Int) = junM L k from by
      rw [withN_nat (by omega)]
      refine mask_ext fun i => ?_
      rw [tb_or, tb_pow, h, tb_jun HH.out.inr (by omega)]
      constructor
      · rintro (⟨b, e, h⟩ | h)
        · obtain rfl : k = b := by omega
          exact .inr h
        · exact .inl h
      · rintro (h | h)
        · exact .inr h
        · exact .inl ⟨k, rfl, h⟩)
    rw [if_pos hr, Int.toNat_natCast]
    clear hr
    go_enter Tryd.func21, Tryd.ntmps21
    go_wp2_with (first
      | ((with_reducible show wpList _ _ _ (⟨_, .binOp _ _ _ _ _, _, _, _, _⟩ :: _) _ _); (first | ((with_reducible show wpList _ _ _ (⟨_, .binOp .lss _ _ _ _, _, _, _, _⟩ :: _) _ _); refine st_lss rfl _ _ _ _ rfl _ _ _ rfl rfl (fun h_ => ?_) (fun h_ => ?_)) | ((with_reducible show wpList _ _ _ (⟨_, .binOp .leq _ _ _ _, _, _, _, _⟩ :: _) _ _); refine st_leq rfl _ _ _ _ rfl _ _ _ rfl rfl (fun h_ => ?_) (fun h_ => ?_)) | ((with_reducible show wpList _ _ _ (⟨_, .binOp .gtr _ _ _ _, _, _, _, _⟩ :: _) _ _); refine st_gtr rfl _ _ _ _ rfl _ _ _ rfl rfl (fun h_ => ?_) (fun h_ => ?_)) | ((with_reducible show wpList _ _ _ (⟨_, .binOp .geq _ _ _ _, _, _, _, _⟩ :: _) _ _); refine st_geq rfl _ _ _ _ rfl _ _ _ rfl rfl (fun h_ => ?_) (fun h_ => ?_)) | ((with_reducible show wpList _ _ _ (⟨_, .binOp .eql _ _ _ _, _, _, _, _⟩ :: _) _ _); refine st_eql rfl _ _ _ _ rfl _ _ _ rfl rfl (fun h_ => ?_) (fun h_ => ?_)) | ((with_reducible show wpList _ _ _ (⟨_, .binOp .neq _ _ _ _, _, _, _, _⟩ :: _) _ _); refine st_neq rfl _ _ _ _ rfl _ _ _ rfl rfl (fun h_ => ?_) (fun h_ => ?_))) <;> go_prune)
      | ((with_reducible show wpList _ _ _ (⟨some 4, _, _, _, _, _⟩ :: _) _ _); refine st_alloc hS rfl _ rfl (by kernel_rfl) ?_; clear hS; intro g w_ hS; (try simp only [Act.put, Act.eval, List.set_cons_zero, List.set_cons_succ, List.setIfInBounds_toArray, Array.getD_eq_getD_getElem?, List.getElem?_toArray, List.getElem?_cons_succ, List.getElem?_cons_zero, Option.getD_some, Value.cells] at hS))
      | (go_at_call 55; refine (role_any _ _).mono ?_; rw [HR.out]; rintro r_ w_ ⟨_, rfl, rfl, hb_⟩; replace hS := hS.ext hb_; clear hb_)
      | ((with_reducible show wpList _ _ _ (⟨some 16, _, _, _, _, _⟩ :: _) _ _); refine st_kcell hS rfl _ _ rfl _ rfl _ k0 (by kernel_rfl) ?_)
      | (go_at_call 23; refine (obelow_any (stable_ord _ _ _ _ HO.out hS.size (fun _ _ _ hp hc => (hS.below.cell hp).trans hc) fun _ h _ _ => h) HH.out.inr _).mono ?_; rintro r_ w_ ⟨_, rfl, ⟨N, hN, hs⟩, hb_⟩; replace hs := Lib.hid hs; replace hS := hS.ext hb_; clear hb_)
      | (go_at_call 24; refine (with_any _ N _ _ _ hN).mono ?_; rintro r_ w1 ⟨_, rfl, hM, hb_⟩; rw [HM.out N hs.out] at hM; obtain ⟨A3, c3, l3, rfl, -⟩ := hM.parts; replace hS := hS.ret2 hb_ (stable_inter stable_set fun z => D z ∨ w0.heap.size ≤ z) (hM.imp fun z hz _ => ⟨hz.imp (fun hz => free1 hS hz.2) id, hz.elim (fun hz => .inl hz.1) fun hz => .inr (Nat.le_trans hS.size hz)⟩); clear hb_)
      | ((with_reducible show wpList _ _ _ (⟨_, .store _ _ _, _, _, _, _⟩ :: _) _ _); first | (refine st_store hS 0 rfl _ _ _ rfl _ _ rfl rfl _ _ rfl (by kernel_rfl) (by kernel_rfl) (by kernel_rfl) ?_; clear hS; intro w_ hS; (try simp only [Act.put, Act.eval, List.set_cons_zero, List.set_cons_succ, List.setIfInBounds_toArray, Array.getD_eq_getD_getElem?, List.getElem?_toArray, List.getElem?_cons_succ, List.getElem?_cons_zero, Option.getD_some, Value.cells] at hS)) | (refine st_store hS 1 rfl _ _ _ rfl _ _ rfl rfl _ _ rfl (by kernel_rfl) (by kernel_rfl) (by kernel_rfl) ?_; clear hS; intro w_ hS; (try simp only [Act.put, Act.eval, List.set_cons_zero, List.set_cons_succ, List.setIfInBounds_toArray, Array.getD_eq_getD_getElem?, List.getElem?_toArray, List.getElem?_cons_succ, List.getElem?_cons_zero, Option.getD_some, Value.cells] at hS)) | (refine st_store hS 2 rfl _ _ _ rfl _ _ rfl rfl _ _ rfl (by kernel_rfl) (by kernel_rfl) (by kernel_rfl) ?_; clear hS; intro w_ hS; (try simp only [Act.put, Act.eval, List.set_cons_zero, List.set_cons_succ, List.setIfInBounds_toArray, Array.getD_eq_getD_getElem?, List.getElem?_toArray, List.getElem?_cons_succ, List.getElem?_cons_zero, Option.getD_some, Value.cells] at hS)) | (refine st_store hS 3 rfl _ _ _ rfl _ _ rfl rfl _ _ rfl (by kernel_rfl) (by kernel_rfl) (by kernel_rfl) ?_; clear hS; intro w_ hS; (try simp only [Act.put, Act.eval, List.set_cons_zero, List.set_cons_succ, List.setIfInBounds_toArray, Array.getD_eq_getD_getElem?, List.getElem?_toArray, List.getElem?_cons_succ, List.getElem?_cons_zero, Option.getD_some, Value.cells] at hS)) | (refine st_cstore hS 0 rfl _ _ _ rfl _ _ _ rfl rfl rfl (by first | (simp; done) | (simp; omega) | exact of_decide_eq_true (by kernel_rfl)) rfl (by first | rfl | assumption) (by kernel_rfl) ?_; clear hS; intro w_ hS; (try simp only [Act.put, Act.eval, List.set_cons_zero, List.set_cons_succ, List.setIfInBounds_toArray, Array.getD_eq_getD_getElem?, List.getElem?_toArray, List.getElem?_cons_succ, List.getElem?_cons_zero, Option.getD_some, Value.cells] at hS)) | (refine st_cstore hS 1 rfl _ _ _ rfl _ _ _ rfl rfl rfl (by first | (simp; done) | (simp; omega) | exact of_decide_eq_true (by kernel_rfl)) rfl (by first | rfl | assumption) (by kernel_rfl) ?_; clear hS; intro w_ hS; (try simp only [Act.put, Act.eval, List.set_cons_zero, List.set_cons_succ, List.setIfInBounds_toArray, Array.getD_eq_getD_getElem?, List.getElem?_toArray, List.getElem?_cons_succ, List.getElem?_cons_zero, Option.getD_some, Value.cells] at hS)) | (refine st_cstore hS 2 rfl _ _ _ rfl _ _ _ rfl rfl rfl (by first | (simp; done) | (simp; omega) | exact of_decide_eq_true (by kernel_rfl)) rfl (by first | rfl | assumption) (by kernel_rfl) ?_; clear hS; intro w_ hS; (try simp only [Act.put, Act.eval, List.set_cons_zero, List.set_cons_succ, List.setIfInBounds_toArray, Array.getD_eq_getD_getElem?, List.getElem?_toArray, List.getElem?_cons_succ, List.getElem?_cons_zero, Option.getD_some, Value.cells] at hS)) | (refine st_cstore hS 3 rfl _ _ _ rfl _ _ _ rfl rfl rfl (by first | (simp; done) | (simp; omega) | exact of_decide_eq_true (by kernel_rfl)) rfl (by first | rfl | assumption) (by kernel_rfl) ?_; clear hS; intro w_ hS; (try simp only [Act.put, Act.eval, List.set_cons_zero, List.set_cons_succ, List.setIfInBounds_toArray, Array.getD_eq_getD_getElem?, List.getElem?_toArray, List.getElem?_cons_succ, List.getElem?_cons_zero, Option.getD_some, Value.cells] at hS))))
    refine ret_cell Tryd.results21 rfl (hS.box 0 rfl) Tryd.underlying42 rfl (by kernel_rfl) rfl ?_
    exact Ret.mk (hS.ro.2.imp fun z hz _ => hz.2) hS.below
  · have HR := Lib.hid (decide_eq_false hr)
    rw [if_neg hr]
    clear hr
    go_enter Tryd.func21, Tryd.ntmps21
    go_wp2_with (first
      | ((with_reducible show wpList _ _ _ (⟨_, .binOp _ _ _ _ _, _, _, _, _⟩ :: _) _ _); (first | ((with_reducible show wpList _ _ _ (⟨_, .binOp .lss _ _ _ _, _, _, _, _⟩ :: _) _ _); refine st_lss rfl _ _ _ _ rfl _ _ _ rfl rfl (fun h_ => ?_) (fun h_ => ?_)) | ((with_reducible show wpList _ _ _ (⟨_, .binOp .leq _ _ _ _, _, _, _, _⟩ :: _) _ _); refine st_leq rfl _ _ _ _ rfl _ _ _ rfl rfl (fun h_ => ?_) (fun h_ => ?_)) | ((with_reducible show wpList _ _ _ (⟨_, .binOp .gtr _ _ _ _, _, _, _, _⟩ :: _) _ _); refine st_gtr rfl _ _ _ _ rfl _ _ _ rfl rfl (fun h_ => ?_) (fun h_ => ?_)) | ((with_reducible show wpList _ _ _ (⟨_, .binOp .geq _ _ _ _, _, _, _, _⟩ :: _) _ _); refine st_geq rfl _ _ _ _ rfl _ _ _ rfl rfl (fun h_ => ?_) (fun h_ => ?_)) | ((with_reducible show wpList _ _ _ (⟨_, .binOp .eql _ _ _ _, _, _, _, _⟩ :: _) _ _); refine st_eql rfl _ _ _ _ rfl _ _ _ rfl rfl (fun h_ => ?_) (fun h_ => ?_)) | ((with_reducible show wpList _ _ _ (⟨_, .binOp .neq _ _ _ _, _, _, _, _⟩ :: _) _ _); refine st_neq rfl _ _ _ _ rfl _ _ _ rfl rfl (fun h_ => ?_) (fun h_ => ?_))) <;> go_prune)
      | ((with_reducible show wpList _ _ _ (⟨some 4, _, _, _, _, _⟩ :: _) _ _); refine st_alloc hS rfl _ rfl (by kernel_rfl) ?_; clear hS; intro g w_ hS; (try simp only [Act.put, Act.eval, List.set_cons_zero, List.set_cons_succ, List.setIfInBounds_toArray, Array.getD_eq_getD_getElem?, List.getElem?_toArray, List.getElem?_cons_succ, List.getElem?_cons_zero, Option.getD_some, Value.cells] at hS))
      | (go_at_call 55; refine (role_any _ _).mono ?_; rw [HR.out]; rintro r_ w_ ⟨_, rfl, rfl, hb_⟩; replace hS := hS.ext hb_; clear hb_)
      | ((with_reducible show wpList _ _ _ (⟨_, .build _ _, _, _, _, _⟩ :: _) _ _); refine wpList_build_of rfl _ _ rfl #[.slice none 0 0] (by kernel_rfl) ?_)
      | ((with_reducible show wpList _ _ _ (⟨_, .store _ _ _, _, _, _, _⟩ :: _) _ _); first | (refine st_store hS 0 rfl _ _ _ rfl _ _ rfl rfl _ _ rfl (by kernel_rfl) (by kernel_rfl) (by kernel_rfl) ?_; clear hS; intro w_ hS; (try simp only [Act.put, Act.eval, List.set_cons_zero, List.set_cons_succ, List.setIfInBounds_toArray, Array.getD_eq_getD_getElem?, List.getElem?_toArray, List.getElem?_cons_succ, List.getElem?_cons_zero, Option.getD_some, Value.cells] at hS)) | (refine st_store hS 1 rfl _ _ _ rfl _ _ rfl rfl _ _ rfl (by kernel_rfl) (by kernel_rfl) (by kernel_rfl) ?_; clear hS; intro w_ hS; (try simp only [Act.put, Act.eval, List.set_cons_zero, List.set_cons_succ, List.setIfInBounds_toArray, Array.getD_eq_getD_getElem?, List.getElem?_toArray, List.getElem?_cons_succ, List.getElem?_cons_zero, Option.getD_some, Value.cells] at hS)) | (refine st_store hS 2 rfl _ _ _ rfl _ _ rfl rfl _ _ rfl (by kernel_rfl) (by kernel_rfl) (by kernel_rfl) ?_; clear hS; intro w_ hS; (try simp only [Act.put, Act.eval, List.set_cons_zero, List.set_cons_succ, List.setIfInBounds_toArray, Array.getD_eq_getD_getElem?, List.getElem?_toArray, List.getElem?_cons_succ, List.getElem?_cons_zero, Option.getD_some, Value.cells] at hS)) | (refine st_store hS 3 rfl _ _ _ rfl _ _ rfl rfl _ _ rfl (by kernel_rfl) (by kernel_rfl) (by kernel_rfl) ?_; clear hS; intro w_ hS; (try simp only [Act.put, Act.eval, List.set_cons_zero, List.set_cons_succ, List.setIfInBounds_toArray, Array.getD_eq_getD_getElem?, List.getElem?_toArray, List.getElem?_cons_succ, List.getElem?_cons_zero, Option.getD_some, Value.cells] at hS)) | (refine st_cstore hS 0 rfl _ _ _ rfl _ _ _ rfl rfl rfl (by first | (simp; done) | (simp; omega) | exact of_decide_eq_true (by kernel_rfl)) rfl (by first | rfl | assumption) (by kernel_rfl) ?_; clear hS; intro w_ hS; (try simp only [Act.put, Act.eval, List.set_cons_zero, List.set_cons_succ, List.setIfInBounds_toArray, Array.getD_eq_getD_getElem?, List.getElem?_toArray, List.getElem?_cons_succ, List.getElem?_cons_zero, Option.getD_some, Value.cells] at hS)) | (refine st_cstore hS 1 rfl _ _ _ rfl _ _ _ rfl rfl rfl (by first | (simp; done) | (simp; omega) | exact of_decide_eq_true (by kernel_rfl)) rfl (by first | rfl | assumption) (by kernel_rfl) ?_; clear hS; intro w_ hS; (try simp only [Act.put, Act.eval, List.set_cons_zero, List.set_cons_succ, List.setIfInBounds_toArray, Array.getD_eq_getD_getElem?, List.getElem?_toArray, List.getElem?_cons_succ, List.getElem?_cons_zero, Option.getD_some, Value.cells] at hS)) | (refine st_cstore hS 2 rfl _ _ _ rfl _ _ _ rfl rfl rfl (by first | (simp; done) | (simp; omega) | exact of_decide_eq_true (by kernel_rfl)) rfl (by first | rfl | assumption) (by kernel_rfl) ?_; clear hS; intro w_ hS; (try simp only [Act.put, Act.eval, List.set_cons_zero, List.set_cons_succ, List.setIfInBounds_toArray, Array.getD_eq_getD_getElem?, List.getElem?_toArray, List.getElem?_cons_succ, List.getElem?_cons_zero, Option.getD_some, Value.cells] at hS)) | (refine st_cstore hS 3 rfl _ _ _ rfl _ _ _ rfl rfl rfl (by first | (simp; done) | (simp; omega) | exact of_decide_eq_true (by kernel_rfl)) rfl (by first | rfl | assumption) (by kernel_rfl) ?_; clear hS; intro w_ hS; (try simp only [Act.put, Act.eval, List.set_cons_zero, List.set_cons_succ, List.setIfInBounds_toArray, Array.getD_eq_getD_getElem?, List.getElem?_toArray, List.getElem?_cons_succ, List.getElem?_cons_zero, Option.getD_some, Value.cells] at hS))))
    refine ret_cell Tryd.results21 rfl (hS.box 0 rfl) Tryd.underlying42 rfl (by kernel_rfl) rfl ?_
    exact Ret.mk IsSet.empty hS.below
/-- r implies s -/
def impl (L : List (Nat × Nat)) (r s : Int) : Prop := ∃ i j : Nat, r = (i : Int) ∧ s = (j : Int) ∧ (1 ≤ i ∧ i < 64) ∧ (1 ≤ j ∧ j < 64) ∧ (i = j ∨ TC L i j)
theorem himplies_any {w0 : World} {D : Nat → Prop} {p : Value} {L : List (Nat × Nat)} (h : IsH w0 D p L) (hH : HOK L) (r s : Int) : Calls Tryd.prog 15 #[p, .int .i64 r, .int .i64 s] w0 (Ret (fun x _ => ∃ c : Bool, x = .bool c ∧ (c = true ↔ impl L r s)) w0) := by
  obtain ⟨q, o, rfl, hX⟩ := h
  obtain ⟨K, ko, hS⟩ : ∃ K : (Nat → Prop) → World → Prop, (∀ D w, K D w → HierX q o L D w) ∧ St w0 w0 [] K := ⟨_, fun _ _ h => h, St.start stable_hierX hX⟩
  clear hX
  have HH := Lib.hid hH
  clear hH
  by_cases hrr : 1 ≤ r ∧ r ≤ 63
  · have HRA := Lib.hid (decide_eq_true hrr)
    by_cases hrs : 1 ≤ s ∧ s ≤ 63
    · have HRB := Lib.hid (decide_eq_true hrs)
      by_cases hab : r = s
      · subst hab
        have HI : Hid (impl L r r) := Lib.hid ⟨r.toNat, r.toNat, by omega, by omega, by omega, by omega, .inl rfl⟩
        clear hrr hrs
        go_enter Tryd.func15, Tryd.ntmps15
        go_wp2_with (first
          | ((with_reducible show wpList _ _ _ (⟨_, .binOp _ _ _ _ _, _, _, _, _⟩ :: _) _ _); (first | ((with_reducible show wpList _ _ _ (⟨_, .binOp .lss _ _ _ _, _, _, _, _⟩ :: _) _ _); refine st_lss rfl _ _ _ _ rfl _ _ _ rfl rfl (fun h_ => ?_) (fun h_ => ?_)) | ((with_reducible show wpList _ _ _ (⟨_, .binOp .leq _ _ _ _, _, _, _, _⟩ :: _) _ _); refine st_leq rfl _ _ _ _ rfl _ _ _ rfl rfl (fun h_ => ?_) (fun h_ => ?_)) | ((with_reducible show wpList _ _ _ (⟨_, .binOp .gtr _ _ _ _, _, _, _, _⟩ :: _) _ _); refine st_gtr rfl _ _ _ _ rfl _ _ _ rfl rfl (fun h_ => ?_) (fun h_ => ?_)) | ((with_reducible show wpList _ _ _ (⟨_, .binOp .geq _ _ _ _, _, _, _, _⟩ :: _) _ _); refine st_geq rfl _ _ _ _ rfl _ _ _ rfl rfl (fun h_ => ?_) (fun h_ => ?_)) | ((with_reducible show wpList _ _ _ (⟨_, .binOp .eql _ _ _ _, _, _, _, _⟩ :: _) _ _); refine st_eql rfl _ _ _ _ rfl _ _ _ rfl rfl (fun h_ => ?_) (fun h_ => ?_)) | ((with_reducible show wpList _ _ _ (⟨_, .binOp .neq _ _ _ _, _, _, _, _⟩ :: _) _ _); refine st_neq rfl _ _ _ _ rfl _ _ _ rfl rfl (fun h_ => ?_) (fun h_ => ?_))) <;> go_prune)
          | (go_at_call 55; refine (role_any _ _).mono ?_; (first | rw [HRA.out] | rw [HRB.out]); rintro r_ w_ ⟨_, rfl, rfl, hb_⟩; replace hS := hS.ext hb_; clear hb_))
        go_ret
        exact Ret.mk (v := .bool true) (.inr ⟨rfl, HI.out⟩) hS.below
      · have HI : Hid (∀ c : Bool, (c = true ↔ ∃ i j : Nat, s = (i : Int) ∧ r = (j : Int) ∧ TC L j i) → (c = true ↔ impl L r s)) := Lib.hid fun c h => h.trans ⟨fun ⟨i, j, h1, h2, h3⟩ => ⟨j, i, h2, h1, by omega, by omega, .inr h3⟩, fun ⟨i, j, h1, h2, _, _, h3⟩ => ⟨j, i, h2, h1, h3.resolve_left fun e => hab (by rw [h1, h2, e])⟩⟩
        clear hrr hrs
        go_enter Tryd.func15, Tryd.ntmps15
        go_wp2_with (first
          | ((with_reducible show wpList _ _ _ (⟨_, .binOp _ _ _ _ _, _, _, _, _⟩ :: _) _ _); (first | ((with_reducible show wpList _ _ _ (⟨_, .binOp .lss _ _ _ _, _, _, _, _⟩ :: _) _ _); refine st_lss rfl _ _ _ _ rfl _ _ _ rfl rfl (fun h_ => ?_) (fun h_ => ?_)) | ((with_reducible show wpList _ _ _ (⟨_, .binOp .leq _ _ _ _, _, _, _, _⟩ :: _) _ _); refine st_leq rfl _ _ _ _ rfl _ _ _ rfl rfl (fun h_ => ?_) (fun h_ => ?_)) | ((with_reducible show wpList _ _ _ (⟨_, .binOp .gtr _ _ _ _, _, _, _, _⟩ :: _) _ _); refine st_gtr rfl _ _ _ _ rfl _ _ _ rfl rfl (fun h_ => ?_) (fun h_ => ?_)) | ((with_reducible show wpList _ _ _ (⟨_, .binOp .geq _ _ _ _, _, _, _, _⟩ :: _) _ _); refine st_geq rfl _ _ _ _ rfl _ _ _ rfl rfl (fun h_ => ?_) (fun h_ => ?_)) | ((with_reducible show wpList _ _ _ (⟨_, .binOp .eql _ _ _ _, _, _, _, _⟩ :: _) _ _); refine st_eql rfl _ _ _ _ rfl _ _ _ rfl rfl (fun h_ => ?_) (fun h_ => ?_)) | ((with_reducible show wpList _ _ _ (⟨_, .binOp .neq _ _ _ _, _, _, _, _⟩ :: _) _ _); refine st_neq rfl _ _ _ _ rfl _ _ _ rfl rfl (fun h_ => ?_) (fun h_ => ?_))) <;> go_prune)
          | (go_at_call 55; refine (role_any _ _).mono ?_; (first | rw [HRA.out] | rw [HRB.out]); rintro r_ w_ ⟨_, rfl, rfl, hb_⟩; replace hS := hS.ext hb_; clear hb_)
          | ((with_reducible show wpList _ _ _ (⟨_, .load _ _, _, _, _, _⟩ :: _) _ _); refine st_kcell hS rfl _ _ rfl _ rfl _ (fun D w h => (ko D w h).1.cell 0 rfl) (by kernel_rfl) ?_)
          | (go_at_call 56; refine (oless_any (ko _ _ hS.ro).2 HH.out.inr _ _).mono ?_; rintro r_ w_ ⟨_, rfl, ⟨c, rfl, hc⟩, hb_⟩; replace hc := Lib.hid (HI.out c hc); replace hS := hS.ext hb_; clear hb_))
        go_ret
        exact Ret.mk ⟨c, rfl, hc.out⟩ hS.below
    · have HRB := Lib.hid (decide_eq_false hrs)
      have HI : Hid (¬ impl L r s) := Lib.hid fun ⟨i, j, h1, h2, h3, h4, _⟩ => hrs (by omega)
      clear hrr hrs
      go_enter Tryd.func15, Tryd.ntmps15
      go_wp2_with (first
        | ((with_reducible show wpList _ _ _ (⟨_, .binOp _ _ _ _ _, _, _, _, _⟩ :: _) _ _); (first | ((with_reducible show wpList _ _ _ (⟨_, .binOp .lss _ _ _ _, _, _, _, _⟩ :: _) _ _); refine st_lss rfl _ _ _ _ rfl _ _ _ rfl rfl (fun h_ => ?_) (fun h_ => ?_)) | ((with_reducible show wpList _ _ _ (⟨_, .binOp .leq _ _ _ _, _, _, _, _⟩ :: _) _ _); refine st_leq rfl _ _ _ _ rfl _ _ _ rfl rfl (fun h_ => ?_) (fun h_ => ?_)) | ((with_reducible show wpList _ _ _ (⟨_, .binOp .gtr _ _ _ _, _, _, _, _⟩ :: _) _ _); refine st_gtr rfl _ _ _ _ rfl _ _ _ rfl rfl (fun h_ => ?_) (fun h_ => ?_)) | ((with_reducible show wpList _ _ _ (⟨_, .binOp .geq _ _ _ _, _, _, _, _⟩ :: _) _ _); refine st_geq rfl _ _ _ _ rfl _ _ _ rfl rfl (fun h_ => ?_) (fun h_ => ?_)) | ((with_reducible show wpList _ _ _ (⟨_, .binOp .eql _ _ _ _, _, _, _, _⟩ :: _) _ _); refine st_eql rfl _ _ _ _ rfl _ _ _ rfl rfl (fun h_ => ?_) (fun h_ => ?_)) | ((with_reducible show wpList _ _ _ (⟨_, .binOp .neq _ _ _ _, _, _, _, _⟩ :: _) _ _); refine st_neq rfl _ _ _ _ rfl _ _ _ rfl rfl (fun h_ => ?_) (fun h_ => ?_))) <;> go_prune)
        | (go_at_call 55; refine (role_any _ _).mono ?_; (first | rw [HRA.out] | rw [HRB.out]); rintro r_ w_ ⟨_, rfl, rfl, hb_⟩; replace hS := hS.ext hb_; clear hb_))
      go_ret
      exact Ret.mk ⟨false, rfl, fun h => by simp at h, fun h => absurd h HI.out⟩ hS.below
  · have HRA := Lib.hid (decide_eq_false hrr)
    have HI : Hid (¬ impl L r s) := Lib.hid fun ⟨i, j, h1, h2, h3, h4, _⟩ => hrr (by omega)
    clear hrr
    go_enter Tryd.func15, Tryd.ntmps15
    go_wp2_with (first
      | ((with_reducible show wpList _ _ _ (⟨_, .binOp _ _ _ _ _, _, _, _, _⟩ :: _) _ _); (first | ((with_reducible show wpList _ _ _ (⟨_, .binOp .lss _ _ _ _, _, _, _, _⟩ :: _) _ _); refine st_lss rfl _ _ _ _ rfl _ _ _ rfl rfl (fun h_ => ?_) (fun h_ => ?_)) | ((with_reducible show wpList _ _ _ (⟨_, .binOp .leq _ _ _ _, _, _, _, _⟩ :: _) _ _); refine st_leq rfl _ _ _ _ rfl _ _ _ rfl rfl (fun h_ => ?_) (fun h_ => ?_)) | ((with_reducible show wpList _ _ _ (⟨_, .binOp .gtr _ _ _ _, _, _, _, _⟩ :: _) _ _); refine st_gtr rfl _ _ _ _ rfl _ _ _ rfl rfl (fun h_ => ?_) (fun h_ => ?_)) | ((with_reducible show wpList _ _ _ (⟨_, .binOp .geq _ _ _ _, _, _, _, _⟩ :: _) _ _); refine st_geq rfl _ _ _ _ rfl _ _ _ rfl rfl (fun h_ => ?_) (fun h_ => ?_)) | ((with_reducible show wpList _ _ _ (⟨_, .binOp .eql _ _ _ _, _, _, _, _⟩ :: _) _ _); refine st_eql rfl _ _ _ _ rfl _ _ _ rfl rfl (fun h_ => ?_) (fun h_ => ?_)) | ((with_reducible show wpList _ _ _ (⟨_, .binOp .neq _ _ _ _, _, _, _, _⟩ :: _) _ _); refine st_neq rfl _ _ _ _ rfl _ _ _ rfl rfl (fun h_ => ?_) (fun h_ => ?_))) <;> go_prune)
      | (go_at_call 55; refine (role_any _ _).mono ?_; rw [HRA.out]; rintro r_ w_ ⟨_, rfl, rfl, hb_⟩; replace hS := hS.ext hb_; clear hb_))
    go_ret
    exact Ret.mk ⟨false, rfl, fun h => by simp at h, fun h => absurd h HI.out⟩ hS.below
end Go.Proofs.YtmlkgaiphpimiaaDoor
namespace Go.Proofs.YtmlkgaiphpimiaaDoor
open Go.RowKit
attribute [local go_sem ↓] Go.wp_at_zero Go.wp_at_succ
set_option maxRecDepth 20000
set_option exponentiation.threshold 5000

theorem HOK.unl {L : List (Nat × Nat)} (h : HOK L) (z : Nat × Nat) : HOK (unl L z) := ⟨unl_asc h.asc z, fun x hx => h.role x (mem_unl.1 hx).1, h.acyc.sub fun x hx => (mem_unl.1 hx).1⟩
/-- what Chain gives -/
def ChainP (L : List (Nat × Nat)) (a b : Int) (l : List Nat) (c : Bool) : Prop :=
  (c = false ∧ l = [] ∧ ¬ impl L a b) ∨ (c = true ∧ ∃ i j d : Nat, a = (i : Int) ∧ b = (j : Int) ∧ (1 ≤ i ∧ i < 64) ∧ (1 ≤ j ∧ j < 64) ∧ isDist L j i d ∧ l = gp L j d i)
def ChainR (w0 : World) (L : List (Nat × Nat)) (a b : Int) (e : Ending) (w' : World) : Prop :=
  ∃ (v : Value) (c : Bool) (l : List Nat), e = .returned (.tuple #[v, .bool c]) ∧ ChainP L a b l c ∧ l.length ≤ 64 ∧ St w0 w' [.own v 3 1 l.length (ints (natInts l))] fun _ _ => True
theorem chain_of_path {L : List (Nat × Nat)} {a b : Int} {l : List Nat} {c : Bool} (hi : impl L a b) (h : PathP L 64 a b l c) : ChainP L a b l c := by
  obtain ⟨i, j, rfl, rfl, h1, h2, h3⟩ := hi
  rcases h with ⟨_, _, h⟩ | ⟨h, i', j', d, e1, e2, _, _, h4, h5⟩
  · refine absurd ?_ h
    rcases h3 with rfl | h3
    · exact ⟨i, i, 0, rfl, rfl, h1.2, h1.2, rfl⟩
    · obtain ⟨k, hk⟩ := h3.wk
      exact ⟨i, j, k, rfl, rfl, h1.2, h2.2, hk⟩
  · obtain rfl : i = i' := by omega
    obtain rfl : j = j' := by omega
    exact .inr ⟨h, i, j, d, rfl, rfl, h1, h2, h4, h5⟩
theorem hchain_any {w0 : World} {D : Nat → Prop} {p : Value} {L : List (Nat × Nat)} (h : IsH w0 D p L) (hH : HOK L) (hl : L.length ≤ 900000) (r s : Int) : Calls Tryd.prog 17 #[p, .int .i64 r, .int .i64 s] w0 (ChainR w0 L r s) := by
  obtain ⟨q, o, rfl, hX⟩ := h
  obtain ⟨K, ko, hS⟩ : ∃ K : (Nat → Prop) → World → Prop, (∀ D w, K D w → HierX q o L D w) ∧ St w0 w0 [] K := ⟨_, fun _ _ h => h, St.start stable_hierX hX⟩
  clear hX
  have HI := Lib.hid (fun (w : World) (h : HierX q o L (Free []) w) => himplies_any (w0 := w) ⟨q, o, rfl, h⟩ hH r s)
  have HP := Lib.hid (fun (w : World) (h : HierX q o L (Free []) w) => opath_any h.2 hH.inr hH.acyc (by omega) (by omega) r s)
  by_cases hi : impl L r s
  · have HC := Lib.hid (fun l c (h : PathP L 64 r s l c) => chain_of_path hi h)
    have HB : Hid (∀ c : Bool, (c = true ↔ impl L r s) → c = true) := Lib.hid fun c h => h.2 hi
    clear hi hH
    go_enter Tryd.func17, Tryd.ntmps17
    go_wp2_with (first
      | ((with_reducible show wpList _ _ _ (⟨_, .binOp _ _ _ _ _, _, _, _, _⟩ :: _) _ _); (first | ((with_reducible show wpList _ _ _ (⟨_, .binOp .lss _ _ _ _, _, _, _, _⟩ :: _) _ _); refine st_lss rfl _ _ _ _ rfl _ _ _ rfl rfl (fun h_ => ?_) (fun h_ => ?_)) | ((with_reducible show wpList _ _ _ (⟨_, .binOp .leq _ _ _ _, _, _, _, _⟩ :: _) _ _); refine st_leq rfl _ _ _ _ rfl _ _ _ rfl rfl (fun h_ => ?_) (fun h_ => ?_)) | ((with_reducible show wpList _ _ _ (⟨_, .binOp .gtr _ _ _ _, _, _, _, _⟩ :: _) _ _); refine st_gtr rfl _ _ _ _ rfl _ _ _ rfl rfl (fun h_ => ?_) (fun h_ => ?_)) | ((with_reducible show wpList _ _ _ (⟨_, .binOp .geq _ _ _ _, _, _, _, _⟩ :: _) _ _); refine st_geq rfl _ _ _ _ rfl _ _ _ rfl rfl (fun h_ => ?_) (fun h_ => ?_)) | ((with_reducible show wpList _ _ _ (⟨_, .binOp .eql _ _ _ _, _, _, _, _⟩ :: _) _ _); refine st_eql rfl _ _ _ _ rfl _ _ _ rfl rfl (fun h_ => ?_) (fun h_ => ?_)) | ((with_reducible show wpList _ _ _ (⟨_, .binOp .neq _ _ _ _, _, _, _, _⟩ :: _) _ _); refine st_neq rfl _ _ _ _ rfl _ _ _ rfl rfl (fun h_ => ?_) (fun h_ => ?_))) <;> go_prune)
      | (go_at_call 15; refine (HI.out _ (ko _ _ hS.ro)).mono ?_; rintro r_ w_ ⟨_, rfl, ⟨c, rfl, hc⟩, hb_⟩; obtain rfl := HB.out c hc; clear hc; replace hS := hS.ext hb_; clear hb_)
      | ((with_reducible show wpList _ _ _ (⟨_, .load _ _, _, _, _, _⟩ :: _) _ _); refine st_kcell hS rfl _ _ rfl _ rfl _ (fun D w h => (ko D w h).1.cell 0 rfl) (by kernel_rfl) ?_)
      | (go_at_call 27; refine (HP.out _ (ko _ _ hS.ro)).mono ?_; rintro e w_ ⟨v, c, l, rfl, hp, hll, hs⟩; replace hp := Lib.hid (HC.out l c hp); replace hS := hS.new hs.below (.own v 3 1 l.length (ints (natInts l))) (hs.own 0 rfl); clear hs))
    go_ret2
    exact ⟨v, c, l, rfl, hp.out, hll, hS.mono (Stable.pure True) fun _ _ _ => trivial⟩
  · have HB : Hid (∀ c : Bool, (c = true ↔ impl L r s) → c = false) := Lib.hid fun c h => by
      cases c with
      | true => exact absurd (h.1 rfl) hi
      | false => rfl
    have HNI := Lib.hid hi
    clear hi hH
    go_enter Tryd.func17, Tryd.ntmps17
    go_wp2_with (first
      | ((with_reducible show wpList _ _ _ (⟨_, .binOp _ _ _ _ _, _, _, _, _⟩ :: _) _ _); (first | ((with_reducible show wpList _ _ _ (⟨_, .binOp .lss _ _ _ _, _, _, _, _⟩ :: _) _ _); refine st_lss rfl _ _ _ _ rfl _ _ _ rfl rfl (fun h_ => ?_) (fun h_ => ?_)) | ((with_reducible show wpList _ _ _ (⟨_, .binOp .leq _ _ _ _, _, _, _, _⟩ :: _) _ _); refine st_leq rfl _ _ _ _ rfl _ _ _ rfl rfl (fun h_ => ?_) (fun h_ => ?_)) | ((with_reducible show wpList _ _ _ (⟨_, .binOp .gtr _ _ _ _, _, _, _, _⟩ :: _) _ _); refine st_gtr rfl _ _ _ _ rfl _ _ _ rfl rfl (fun h_ => ?_) (fun h_ => ?_)) | ((with_reducible show wpList _ _ _ (⟨_, .binOp .geq _ _ _ _, _, _, _, _⟩ :: _) _ _); refine st_geq rfl _ _ _ _ rfl _ _ _ rfl rfl (fun h_ => ?_) (fun h_ => ?_)) | ((with_reducible show wpList _ _ _ (⟨_, .binOp .eql _ _ _ _, _, _, _, _⟩ :: _) _ _); refine st_eql rfl _ _ _ _ rfl _ _ _ rfl rfl (fun h_ => ?_) (fun h_ => ?_)) | ((with_reducible show wpList _ _ _ (⟨_, .binOp .neq _ _ _ _, _, _, _, _⟩ :: _) _ _); refine st_neq rfl _ _ _ _ rfl _ _ _ rfl rfl (fun h_ => ?_) (fun h_ => ?_))) <;> go_prune)
      | (go_at_call 15; refine (HI.out _ (ko _ _ hS.ro)).mono ?_; rintro r_ w_ ⟨_, rfl, ⟨c, rfl, hc⟩, hb_⟩; obtain rfl := HB.out c hc; clear hc; replace hS := hS.ext hb_; clear hb_))
    go_ret2
    exact ⟨_, false, [], rfl, .inl ⟨rfl, rfl, HNI.out⟩, by simp, (hS.nil 3 1).mono (Stable.pure True) fun _ _ _ => trivial⟩
set_option maxHeartbeats 2000000 in
theorem hred_any {w0 : World} {D : Nat → Prop} {p : Value} {L : List (Nat × Nat)} (h : IsH w0 D p L) (hT : DTab w0) (hH : HOK L) (hl : L.length ≤ 900000) : Calls Tryd.prog 32 #[p] w0 fun e w' => ∃ v, e = .returned v ∧ St w0 w' [.own v 50 2 (redL L L).length (pcells (redL L L))] fun _ _ => True := by
  have HL := Lib.hid (hlinks_any h (by omega))
  obtain ⟨q, o, rfl, hX⟩ := h
  obtain ⟨K0, ko, kt, hS⟩ : ∃ K : (Nat → Prop) → World → Prop, (∀ D w, K D w → HierX q o L D w) ∧ (∀ D w, K D w → DTab w ∧ D 0) ∧ St w0 w0 [] K := ⟨fun D w => HierX q o L D w ∧ DTab w ∧ D 0, fun _ _ h => h.1, fun _ _ h => h.2, St.start (D := fun _ => True) (stable_hierX.and dtab_stable) ⟨stable_hierX D _ w0 w0 hX (Nat.le_refl _) (fun _ _ _ _ h => h) fun _ _ _ _ => trivial, hT, trivial⟩⟩
  clear hX hT
  go_enter Tryd.func32, Tryd.ntmps32
  go_wp2_with (first
    | (go_at_call 31; refine HL.out.mono ?_; rintro e w_ ⟨v, rfl, hs⟩; replace hS := hS.new hs.below (.own v 50 2 L.length (pcells L)) (hs.own 0 rfl); obtain ⟨A, c, rfl, _, _⟩ := own_shp (hS.own 0 rfl); clear hs))
  obtain ⟨K, ko, kt, kp, hS⟩ : ∃ K : (Nat → Prop) → World → Prop, (∀ D w, K D w → HierX q o L D w) ∧ (∀ D w, K D w → DTab w ∧ D 0) ∧ (∀ D w, K D w → Sl w D 2 (.slice A L.length c) L.length (pcells L)) ∧ St w0 w_ [] K := ⟨_, fun D w h => ko D w h.1, fun D w h => kt D w h.1, fun _ _ h => h.2, hS.freeze 0 (by decide) rfl⟩
  have KS := hS.stable
  have HWO : Hid (∀ (F : List Fact) (z : Nat × Nat), z ∈ L → ∀ w, St w0 w F K → Calls Tryd.prog 69 #[o, .int .i64 (z.1 : Nat), .int .i64 (z.2 : Nat)] w fun e w' => ∃ p', e = .returned (.tuple #[p', .int .i64 0]) ∧ St w0 w' F fun D w => K D w ∧ IsOrd w D p' 64 (unl L z)) := Lib.hid fun F z hz w h => (owithout_any o 64 L z.1 z.2 (by omega) hH.inr hH.asc hH.acyc hl h (fun D w h => (ko D w h).2) kt).mono (by
    rintro e w' (⟨h, _⟩ | ⟨_, p', h1, h2⟩)
    · exact absurd hz h
    · exact ⟨p', h1, h2⟩)
  have HU0 := Lib.hid hH.inr
  replace hS := hS.nil 50 2
  clear hH HL
  go_loopw [3, 11] (fun v i wr => ∃ (j : Nat) (vo : Value), i = .int .i64 (j : Nat) ∧ vo = v ∧ j ≤ L.length ∧ St w0 wr [.own vo 50 2 (redL L (L.take j)).length (pcells (redL L (L.take j)))] K) (fun _ i _ => L.length - (intOf i).toNat)
  case atStart => exact ⟨0, _, rfl, rfl, by omega, hS⟩
  case round =>
    clear hS
    obtain ⟨j, vo, rfl, rfl, hj, hS⟩ := hrel
    by_cases hlj : j < L.length
    · obtain ⟨f1, f2⟩ := pcells_at L j hlj
      have HG := getD_at (0, 0) hlj
      have HST := Lib.hid (redL_step (L := L) HG)
      have HWO := Lib.hid (fun F => HWO.out F _ (List.mem_of_getElem? HG))
      have HU := Lib.hid (HU0.out.unl (L.getD j (0, 0)))
      have hM := redL_len L L j
      clear HG
      generalize L.getD j (0, 0) = z at *
      generalize hMM : redL L (L.take j) = M at *
      clear hMM
      by_cases hz : TC (unl L z) z.1 z.2
      · have HE := Lib.hid (HST.out.trans (if_pos hz))
        have HCB : Hid (∀ c : Bool, (c = true ↔ ∃ i j : Nat, (z.2 : Int) = (i : Int) ∧ (z.1 : Int) = (j : Int) ∧ TC (unl L z) j i) → c = true) := Lib.hid fun c hc => hc.2 ⟨_, _, rfl, rfl, hz⟩
        obtain ⟨za, zb⟩ := z
        dsimp only at f1 f2 HWO HCB
        clear hz HST
        go_wp2_with (first
          | ((with_reducible show wpList _ _ _ (⟨_, .binOp _ _ _ _ _, _, _, _, _⟩ :: _) _ _); (first | ((with_reducible show wpList _ _ _ (⟨_, .binOp .lss _ _ _ _, _, _, _, _⟩ :: _) _ _); refine st_lss rfl _ _ _ _ rfl _ _ _ rfl rfl (fun h_ => ?_) (fun h_ => ?_)) | ((with_reducible show wpList _ _ _ (⟨_, .binOp .leq _ _ _ _, _, _, _, _⟩ :: _) _ _); refine st_leq rfl _ _ _ _ rfl _ _ _ rfl rfl (fun h_ => ?_) (fun h_ => ?_)) | ((with_reducible show wpList _ _ _ (⟨_, .binOp .gtr _ _ _ _, _, _, _, _⟩ :: _) _ _); refine st_gtr rfl _ _ _ _ rfl _ _ _ rfl rfl (fun h_ => ?_) (fun h_ => ?_)) | ((with_reducible show wpList _ _ _ (⟨_, .binOp .geq _ _ _ _, _, _, _, _⟩ :: _) _ _); refine st_geq rfl _ _ _ _ rfl _ _ _ rfl rfl (fun h_ => ?_) (fun h_ => ?_)) | ((with_reducible show wpList _ _ _ (⟨_, .binOp .eql _ _ _ _, _, _, _, _⟩ :: _) _ _); refine st_eql rfl _ _ _ _ rfl _ _ _ rfl rfl (fun h_ => ?_) (fun h_ => ?_)) | ((with_reducible show wpList _ _ _ (⟨_, .binOp .neq _ _ _ _, _, _, _, _⟩ :: _) _ _); refine st_neq rfl _ _ _ _ rfl _ _ _ rfl rfl (fun h_ => ?_) (fun h_ => ?_))) <;> go_prune)
          | ((with_reducible show wpList _ _ _ (⟨_, .indexAddr _ _ _, _, _, _, _⟩ :: _) _ _); refine st_iaddr2 hS rfl _ _ _ rfl _ rfl rfl (by assumption) Tryd.underlying25 (by kernel_rfl) (by first | assumption | omega) _ _ (by assumption) (by assumption) ?_; intro b_ j_ hc0_ hc1_)
          | ((with_reducible show wpList _ _ _ (⟨some 5, _, _, _, _, _⟩ :: _) _ _); refine st_alloc hS rfl _ rfl (by kernel_rfl) ?_; clear hS; intro g4 w_ hS; (try simp only [Act.put, Act.eval, List.set_cons_zero, List.set_cons_succ, List.setIfInBounds_toArray, Array.getD_eq_getD_getElem?, List.getElem?_toArray, List.getElem?_cons_succ, List.getElem?_cons_zero, Option.getD_some, Value.cells] at hS))
          | ((with_reducible show wpList _ _ _ (⟨_, .store _ _ _, _, _, _, _⟩ :: _) _ _); first | (refine st_store hS 0 rfl _ _ _ rfl _ _ rfl rfl _ _ rfl (by kernel_rfl) (by kernel_rfl) (by kernel_rfl) ?_; clear hS; intro w_ hS; (try simp only [Act.put, Act.eval, List.set_cons_zero, List.set_cons_succ, List.setIfInBounds_toArray, Array.getD_eq_getD_getElem?, List.getElem?_toArray, List.getElem?_cons_succ, List.getElem?_cons_zero, Option.getD_some, Value.cells] at hS)) | (refine st_store hS 1 rfl _ _ _ rfl _ _ rfl rfl _ _ rfl (by kernel_rfl) (by kernel_rfl) (by kernel_rfl) ?_; clear hS; intro w_ hS; (try simp only [Act.put, Act.eval, List.set_cons_zero, List.set_cons_succ, List.setIfInBounds_toArray, Array.getD_eq_getD_getElem?, List.getElem?_toArray, List.getElem?_cons_succ, List.getElem?_cons_zero, Option.getD_some, Value.cells] at hS)) | (refine st_store hS 2 rfl _ _ _ rfl _ _ rfl rfl _ _ rfl (by kernel_rfl) (by kernel_rfl) (by kernel_rfl) ?_; clear hS; intro w_ hS; (try simp only [Act.put, Act.eval, List.set_cons_zero, List.set_cons_succ, List.setIfInBounds_toArray, Array.getD_eq_getD_getElem?, List.getElem?_toArray, List.getElem?_cons_succ, List.getElem?_cons_zero, Option.getD_some, Value.cells] at hS)) | (refine st_store hS 3 rfl _ _ _ rfl _ _ rfl rfl _ _ rfl (by kernel_rfl) (by kernel_rfl) (by kernel_rfl) ?_; clear hS; intro w_ hS; (try simp only [Act.put, Act.eval, List.set_cons_zero, List.set_cons_succ, List.setIfInBounds_toArray, Array.getD_eq_getD_getElem?, List.getElem?_toArray, List.getElem?_cons_succ, List.getElem?_cons_zero, Option.getD_some, Value.cells] at hS)) | (refine st_cstore hS 0 rfl _ _ _ rfl _ _ _ rfl rfl rfl (by first | (simp; done) | (simp; omega) | exact of_decide_eq_true (by kernel_rfl)) rfl (by first | rfl | assumption) (by kernel_rfl) ?_; clear hS; intro w_ hS; (try simp only [Act.put, Act.eval, List.set_cons_zero, List.set_cons_succ, List.setIfInBounds_toArray, Array.getD_eq_getD_getElem?, List.getElem?_toArray, List.getElem?_cons_succ, List.getElem?_cons_zero, Option.getD_some, Value.cells] at hS)) | (refine st_cstore hS 1 rfl _ _ _ rfl _ _ _ rfl rfl rfl (by first | (simp; done) | (simp; omega) | exact of_decide_eq_true (by kernel_rfl)) rfl (by first | rfl | assumption) (by kernel_rfl) ?_; clear hS; intro w_ hS; (try simp only [Act.put, Act.eval, List.set_cons_zero, List.set_cons_succ, List.setIfInBounds_toArray, Array.getD_eq_getD_getElem?, List.getElem?_toArray, List.getElem?_cons_succ, List.getElem?_cons_zero, Option.getD_some, Value.cells] at hS)) | (refine st_cstore hS 2 rfl _ _ _ rfl _ _ _ rfl rfl rfl (by first | (simp; done) | (simp; omega) | exact of_decide_eq_true (by kernel_rfl)) rfl (by first | rfl | assumption) (by kernel_rfl) ?_; clear hS; intro w_ hS; (try simp only [Act.put, Act.eval, List.set_cons_zero, List.set_cons_succ, List.setIfInBounds_toArray, Array.getD_eq_getD_getElem?, List.getElem?_toArray, List.getElem?_cons_succ, List.getElem?_cons_zero, Option.getD_some, Value.cells] at hS)) | (refine st_cstore hS 3 rfl _ _ _ rfl _ _ _ rfl rfl rfl (by first | (simp; done) | (simp; omega) | exact of_decide_eq_true (by kernel_rfl)) rfl (by first | rfl | assumption) (by kernel_rfl) ?_; clear hS; intro w_ hS; (try simp only [Act.put, Act.eval, List.set_cons_zero, List.set_cons_succ, List.setIfInBounds_toArray, Array.getD_eq_getD_getElem?, List.getElem?_toArray, List.getElem?_cons_succ, List.getElem?_cons_zero, Option.getD_some, Value.cells] at hS))))
        have KS2 := hS.stable
        have hJ0 : OJ (fun w => St w0 w [.box g4 50 #[.int .i64 (za : Nat), .int .i64 (zb : Nat)], .own vo 50 2 M.length (pcells M)] K) (fun r w => ∃ p', r = .tuple #[p', .int .i64 0] ∧ St w0 w [.box g4 50 #[.int .i64 (za : Nat), .int .i64 (zb : Nat)], .own vo 50 2 M.length (pcells M)] fun D w => K D w ∧ IsOrd w D p' 64 (unl L (za, zb))) (w_.drew, none) := OJ.start hS.drew
        have hN0 := ON.start 8 w_.drew
        obtain ⟨C, hC⟩ : ∃ C : World → Prop, C = fun w => St w0 w [.box g4 50 #[.int .i64 (za : Nat), .int .i64 (zb : Nat)], .own vo 50 2 M.length (pcells M)] K := ⟨_, rfl⟩
        obtain ⟨S, hSS⟩ : ∃ S : Value → World → Prop, S = fun r w => ∃ p', r = .tuple #[p', .int .i64 0] ∧ St w0 w [.box g4 50 #[.int .i64 (za : Nat), .int .i64 (zb : Nat)], .own vo 50 2 M.length (pcells M)] fun D w => K D w ∧ IsOrd w D p' 64 (unl L (za, zb)) := ⟨_, rfl⟩
        rw [← hC, ← hSS] at hJ0
        have HC2 := Lib.hid (fun w (h : C w) => show St w0 w [.box g4 50 #[.int .i64 (za : Nat), .int .i64 (zb : Nat)], .own vo 50 2 M.length (pcells M)] K by rw [hC] at h; exact h)
        have HC3 := Lib.hid (fun w (h : St w0 w [.box g4 50 #[.int .i64 (za : Nat), .int .i64 (zb : Nat)], .own vo 50 2 M.length (pcells M)] K) => show C w by rw [hC]; exact h)
        have HS2 := Lib.hid (fun r w (h : S r w) => show ∃ p', r = .tuple #[p', .int .i64 0] ∧ St w0 w [.box g4 50 #[.int .i64 (za : Nat), .int .i64 (zb : Nat)], .own vo 50 2 M.length (pcells M)] fun D w => K D w ∧ IsOrd w D p' 64 (unl L (za, zb)) by rw [hSS] at h; exact h)
        have HS3 := Lib.hid (fun r w (h : ∃ p', r = .tuple #[p', .int .i64 0] ∧ St w0 w [.box g4 50 #[.int .i64 (za : Nat), .int .i64 (zb : Nat)], .own vo 50 2 M.length (pcells M)] fun D w => K D w ∧ IsOrd w D p' 64 (unl L (za, zb))) => show S r w by rw [hSS]; exact h)
        clear hC hSS
        have hRr := @OR.refl C S
        have hRt := @OR.trans C S
        refine wp_region_ghost (fun i__ v w => match i__ with
          | 0 => v = .pointer (some ⟨q, 0, none⟩)
          | 1 => v = .pointer (some ⟨q, 0, none⟩)
          | 2 => v = .pointer (some ⟨q, 0, none⟩)
          | 3 => v = o
          | 4 => v = .pointer (some ⟨g4, 0, none⟩)
          | 5 => v = .int .i64 ((za : Nat) : Int)
          | 6 => v = .pointer (some ⟨g4, 1, none⟩)
          | 7 => v = .int .i64 ((zb : Nat) : Int)
          | 8 => w.2 = some v ∧ isTup2 v
          | 9 => w.2 = some v ∧ isTup2 v
          | 10 => ∃ x y : Value, w.2 = some (.tuple #[x, y]) ∧ v = x
          | 11 => ∃ x y : Value, w.2 = some (.tuple #[x, y]) ∧ v = y
          | 12 => ∃ x y : Value, w.2 = some (.tuple #[x, y]) ∧ v = x
          | 13 => ∃ x y : Value, w.2 = some (.tuple #[x, y]) ∧ v = y
          | _ => True) (OR C S) (ON 8) (none) (by kernel_rfl) (by kernel_rfl) hRr hRt ?mono ?hN ⟨?r0, ?r1, ?r2, ?r3, ?r4, ?r5, ?r6, ?r7, ?r8, ?r9, ?r10, ?r11, ?r12, ?r13, trivial⟩ ?post
        case hN => first | assumption | (intro i; (try dsimp only); split <;> first | trivial | assumption | (left; assumption))
        case mono =>
          intro i v w w' h hb
          match i, h with
          | 0, h => exact h
          | 1, h => exact h
          | 2, h => exact h
          | 3, h => exact h
          | 4, h => exact h
          | 5, h => exact h
          | 6, h => exact h
          | 7, h => exact h
          | 8, h => exact ⟨hb.2 _ h.1, h.2⟩
          | 9, h => exact ⟨hb.2 _ h.1, h.2⟩
          | 10, h => exact by obtain ⟨x, y, h1, h2⟩ := h; exact ⟨x, y, hb.2 _ h1, h2⟩
          | 11, h => exact by obtain ⟨x, y, h1, h2⟩ := h; exact ⟨x, y, hb.2 _ h1, h2⟩
          | 12, h => exact by obtain ⟨x, y, h1, h2⟩ := h; exact ⟨x, y, hb.2 _ h1, h2⟩
          | 13, h => exact by obtain ⟨x, y, h1, h2⟩ := h; exact ⟨x, y, hb.2 _ h1, h2⟩
          | _ + 14, h => trivial
        case r0 =>
          refine truleGh fun b__ w hW hN hold hpre => ⟨fun hwant K hK => ?_, fun hwant => ?_⟩
          · clear hwant
            have e0 : b__.eval (.tmp 0) = .pointer (some ⟨q, 0, none⟩) := (hold 0 (by kernel_rfl)).trans rfl
            exact opw_move rfl e0 (hK _ _ rfl ⟨hRr _, fun _ _ h => h⟩)
          · rw [want_none rfl] at hwant; cases hwant
        case r1 =>
          refine truleGh fun b__ w hW hN hold hpre => ⟨fun hwant K hK => ?_, fun hwant => ?_⟩
          · clear hwant
            have e16 : b__.eval (.tmp 16) = .pointer (some ⟨q, 0, none⟩) := hpre ⟨0, _⟩ (Array.mem_of_getElem? (i := 0) rfl) rfl _ _ rfl rfl
            exact opw_nil rfl e16 (hK _ _ rfl ⟨hRr _, fun _ _ h => h⟩)
          · rw [want_none rfl] at hwant; cases hwant
        case r2 =>
          refine truleGh fun b__ w hW hN hold hpre => ⟨fun hwant K hK => ?_, fun hwant => ?_⟩
          · clear hwant
            have e17 : b__.eval (.tmp 17) = .pointer (some ⟨q, 0, none⟩) := hpre ⟨1, _⟩ (Array.mem_of_getElem? (i := 0) rfl) rfl _ _ rfl rfl
            exact opw_faddr rfl e17 (by kernel_rfl) (hK _ _ rfl ⟨hRr _, fun _ _ h => h⟩)
          · rw [want_none rfl] at hwant; cases hwant
        case r3 =>
          refine truleGh fun b__ w hW hN hold hpre => ⟨fun hwant K hK => ?_, fun hwant => ?_⟩
          · clear hwant
            have e18 : b__.eval (.tmp 18) = .pointer (some ⟨q, 0, none⟩) := hpre ⟨2, _⟩ (Array.mem_of_getElem? (i := 0) rfl) rfl _ _ rfl rfl
            exact opw_cell rfl e18 (by kernel_rfl) ((ko _ _ (HC2.out _ (hW.1 hJ0).1).ro).1.cell 0 rfl) (hK _ _ rfl ⟨hRr _, fun _ _ h => h⟩)
          · rw [want_none rfl] at hwant; cases hwant
        case r4 =>
          refine truleGh fun b__ w hW hN hold hpre => ⟨fun hwant K hK => ?_, fun hwant => ?_⟩
          · clear hwant
            have e5 : b__.eval (.tmp 5) = .pointer (some ⟨g4, 0, none⟩) := (hold 5 (by kernel_rfl)).trans rfl
            exact opw_iaddr rfl e5 rfl (by kernel_rfl) (hK _ _ rfl ⟨hRr _, fun _ _ h => h⟩)
          · rw [want_none rfl] at hwant; cases hwant
        case r5 =>
          refine truleGh fun b__ w hW hN hold hpre => ⟨fun hwant K hK => ?_, fun hwant => ?_⟩
          · clear hwant
            have e20 : b__.eval (.tmp 20) = .pointer (some ⟨g4, 0, none⟩) := hpre ⟨4, _⟩ (Array.mem_of_getElem? (i := 0) rfl) rfl _ _ rfl rfl
            exact opw_cell rfl e20 (by kernel_rfl) ((HC2.out _ (hW.1 hJ0).1).shut 0 rfl 0 rfl) (hK _ _ rfl ⟨hRr _, fun _ _ h => h⟩)
          · rw [want_none rfl] at hwant; cases hwant
        case r6 =>
          refine truleGh fun b__ w hW hN hold hpre => ⟨fun hwant K hK => ?_, fun hwant => ?_⟩
          · clear hwant
            have e5 : b__.eval (.tmp 5) = .pointer (some ⟨g4, 0, none⟩) := (hold 5 (by kernel_rfl)).trans rfl
            exact opw_iaddr rfl e5 rfl (by kernel_rfl) (hK _ _ rfl ⟨hRr _, fun _ _ h => h⟩)
          · rw [want_none rfl] at hwant; cases hwant
        case r7 =>
          refine truleGh fun b__ w hW hN hold hpre => ⟨fun hwant K hK => ?_, fun hwant => ?_⟩
          · clear hwant
            have e22 : b__.eval (.tmp 22) = .pointer (some ⟨g4, 1, none⟩) := hpre ⟨6, _⟩ (Array.mem_of_getElem? (i := 0) rfl) rfl _ _ rfl rfl
            exact opw_cell rfl e22 (by kernel_rfl) ((HC2.out _ (hW.1 hJ0).1).shut 0 rfl 1 rfl) (hK _ _ rfl ⟨hRr _, fun _ _ h => h⟩)
          · rw [want_none rfl] at hwant; cases hwant
        case r8 =>
          refine truleGh fun b__ w hW hN hold hpre => ⟨fun hwant K hK => ?_, fun hwant => ?_⟩
          · clear hwant
            have e19 : b__.eval (.tmp 19) = o := hpre ⟨3, _⟩ (Array.mem_of_getElem? (i := 0) rfl) rfl _ _ rfl rfl
            have e21 : b__.eval (.tmp 21) = .int .i64 ((za : Nat) : Int) := hpre ⟨5, _⟩ (Array.mem_of_getElem? (i := 1) rfl) rfl _ _ rfl rfl
            have e23 : b__.eval (.tmp 23) = .int .i64 ((zb : Nat) : Int) := hpre ⟨7, _⟩ (Array.mem_of_getElem? (i := 2) rfl) rfl _ _ rfl rfl
            exact one_call isTup2 rfl (by kernel_rfl) (by simp only [List.map_cons, List.map_nil, e19, e21, e23]) (HWO.out _ _ (HC2.out _ (hW.1 hJ0).1)) hN (fun e w' h => by obtain ⟨p', rfl, h⟩ := h; exact ⟨_, rfl, HC3.out _ (h.mono KS2 fun _ _ h => h.1), HS3.out _ _ ⟨p', rfl, h⟩, _, _, rfl⟩) hK
          · rw [want_none rfl] at hwant; cases hwant
        case r9 =>
          refine truleGh fun b__ w hW hN hold hpre => ⟨fun hwant K hK => ?_, fun hwant => ?_⟩
          · clear hwant
            have e24 : (fun (v : Value) (w : World × _) => w.2 = some v ∧ isTup2 v) (b__.eval (.tmp 24)) w := hpre ⟨8, _⟩ (Array.mem_of_getElem? (i := 0) rfl) rfl _ _ rfl rfl
            exact opw_move rfl rfl (hK _ _ e24 ⟨hRr _, fun _ _ h => h⟩)
          · rw [want_none rfl] at hwant; cases hwant
        case r10 =>
          refine truleGh fun b__ w hW hN hold hpre => ⟨fun hwant K hK => ?_, fun hwant => ?_⟩
          · clear hwant
            have e15 : (fun (v : Value) (w : World × _) => w.2 = some v ∧ isTup2 v) (b__.eval (.tmp 15)) w := hpre ⟨9, _⟩ (Array.mem_of_getElem? (i := 0) rfl) rfl _ _ rfl rfl
            obtain ⟨hd, x, y, hv⟩ := e15
            rw [hv] at hd
            exact opw_extract rfl hv rfl (hK _ _ ⟨x, y, hd, rfl⟩ ⟨hRr _, fun _ _ h => h⟩)
          · rw [want_none rfl] at hwant; cases hwant
        case r11 =>
          refine truleGh fun b__ w hW hN hold hpre => ⟨fun hwant K hK => ?_, fun hwant => ?_⟩
          · clear hwant
            have e15 : (fun (v : Value) (w : World × _) => w.2 = some v ∧ isTup2 v) (b__.eval (.tmp 15)) w := hpre ⟨9, _⟩ (Array.mem_of_getElem? (i := 0) rfl) rfl _ _ rfl rfl
            obtain ⟨hd, x, y, hv⟩ := e15
            rw [hv] at hd
            exact opw_extract rfl hv rfl (hK _ _ ⟨x, y, hd, rfl⟩ ⟨hRr _, fun _ _ h => h⟩)
          · rw [want_none rfl] at hwant; cases hwant
        case r12 =>
          refine truleGh fun b__ w hW hN hold hpre => ⟨fun hwant K hK => ?_, fun hwant => ?_⟩
          · clear hwant
            have e25 : (fun (v : Value) (w : World × _) => ∃ x y : Value, w.2 = some (.tuple #[x, y]) ∧ v = x) (b__.eval (.tmp 25)) w := hpre ⟨10, _⟩ (Array.mem_of_getElem? (i := 0) rfl) rfl _ _ rfl rfl
            exact opw_assign rfl rfl (hK _ _ e25 ⟨hRr _, fun _ _ h => h⟩)
          · rw [want_none rfl] at hwant; cases hwant
        case r13 =>
          refine truleGh fun b__ w hW hN hold hpre => ⟨fun hwant K hK => ?_, fun hwant => ?_⟩
          · clear hwant
            have e26 : (fun (v : Value) (w : World × _) => ∃ x y : Value, w.2 = some (.tuple #[x, y]) ∧ v = y) (b__.eval (.tmp 26)) w := hpre ⟨11, _⟩ (Array.mem_of_getElem? (i := 0) rfl) rfl _ _ rfl rfl
            exact opw_assign rfl rfl (hK _ _ e26 ⟨hRr _, fun _ _ h => h⟩)
          · rw [want_none rfl] at hwant; cases hwant
        case post =>
          intro b__ wz hW hdf hsz hold hT hZ
          have e16 : b__.eval (.tmp 16) = .pointer (some ⟨q, 0, none⟩) := hT 0 _ 16 rfl rfl
          have e17 : b__.eval (.tmp 17) = .pointer (some ⟨q, 0, none⟩) := hT 1 _ 17 rfl rfl
          have e18 : b__.eval (.tmp 18) = .pointer (some ⟨q, 0, none⟩) := hT 2 _ 18 rfl rfl
          have e19 : b__.eval (.tmp 19) = o := hT 3 _ 19 rfl rfl
          have e20 : b__.eval (.tmp 20) = .pointer (some ⟨g4, 0, none⟩) := hT 4 _ 20 rfl rfl
          have e21 : b__.eval (.tmp 21) = .int .i64 ((za : Nat) : Int) := hT 5 _ 21 rfl rfl
          have e22 : b__.eval (.tmp 22) = .pointer (some ⟨g4, 1, none⟩) := hT 6 _ 22 rfl rfl
          have e23 : b__.eval (.tmp 23) = .int .i64 ((zb : Nat) : Int) := hT 7 _ 23 rfl rfl
          have e24 : (fun (v : Value) (w : World × _) => w.2 = some v ∧ isTup2 v) (b__.eval (.tmp 24)) wz := hT 8 _ 24 rfl rfl
          have e15 : (fun (v : Value) (w : World × _) => w.2 = some v ∧ isTup2 v) (b__.eval (.tmp 15)) wz := hT 9 _ 15 rfl rfl
          have e25 : (fun (v : Value) (w : World × _) => ∃ x y : Value, w.2 = some (.tuple #[x, y]) ∧ v = x) (b__.eval (.tmp 25)) wz := hT 10 _ 25 rfl rfl
          have e26 : (fun (v : Value) (w : World × _) => ∃ x y : Value, w.2 = some (.tuple #[x, y]) ∧ v = y) (b__.eval (.tmp 26)) wz := hT 11 _ 26 rfl rfl
          have e6 : (fun (v : Value) (w : World × _) => ∃ x y : Value, w.2 = some (.tuple #[x, y]) ∧ v = x) (b__.eval (.tmp 6)) wz := hT 12 _ 6 rfl rfl
          have e7 : (fun (v : Value) (w : World × _) => ∃ x y : Value, w.2 = some (.tuple #[x, y]) ∧ v = y) (b__.eval (.tmp 7)) wz := hT 13 _ 7 rfl rfl
          obtain ⟨vs, hvs, hb⟩ := frame_of hdf hsz hold
          replace e16 : vs 16 = .pointer (some ⟨q, 0, none⟩) := (hvs 16).symm.trans e16
          replace e17 : vs 17 = .pointer (some ⟨q, 0, none⟩) := (hvs 17).symm.trans e17
          replace e18 : vs 18 = .pointer (some ⟨q, 0, none⟩) := (hvs 18).symm.trans e18
          replace e19 : vs 19 = o := (hvs 19).symm.trans e19
          replace e20 : vs 20 = .pointer (some ⟨g4, 0, none⟩) := (hvs 20).symm.trans e20
          replace e21 : vs 21 = .int .i64 ((za : Nat) : Int) := (hvs 21).symm.trans e21
          replace e22 : vs 22 = .pointer (some ⟨g4, 1, none⟩) := (hvs 22).symm.trans e22
          replace e23 : vs 23 = .int .i64 ((zb : Nat) : Int) := (hvs 23).symm.trans e23
          replace e24 := (hvs 24) ▸ e24
          replace e15 := (hvs 15) ▸ e15
          replace e25 := (hvs 25) ▸ e25
          replace e26 := (hvs 26) ▸ e26
          replace e6 := (hvs 6) ▸ e6
          replace e7 := (hvs 7) ▸ e7
          subst hb
          clear hvs hold hT hdf hsz
          simp only [setAll, Act.put, List.setIfInBounds_toArray, List.set_cons_zero, List.set_cons_succ, List.getElem_toArray, List.getElem_cons_succ, List.getElem_cons_zero]
          obtain ⟨x1, y1, d1, e6⟩ := e6
          obtain ⟨x2, y2, d2, e7⟩ := e7
          rw [d1] at d2
          obtain ⟨rfl, rfl⟩ : x1 = x2 ∧ y1 = y2 := by simpa using d2
          obtain ⟨p', hp, hS⟩ := HS2.out _ _ ((hW.1 hJ0).2 _ d1)
          obtain ⟨rfl, rfl⟩ : x1 = p' ∧ y1 = .int .i64 0 := by simpa using hp
          rw [e6, e7]
          generalize wz.1 = wf at *
          clear hJ0 hRr hRt hW hZ hN0 d1 d2 e6 e7 hp HC2 HC3 HS2 HS3
          have hIO := Lib.hid (fun (w : World) (h : K (Free [.box g4 50 #[.int .i64 (za : Nat), .int .i64 (zb : Nat)], .own vo 50 2 M.length (pcells M)]) w ∧ IsOrd w (Free [.box g4 50 #[.int .i64 (za : Nat), .int .i64 (zb : Nat)], .own vo 50 2 M.length (pcells M)]) x1 64 (unl L (za, zb))) => oless_any h.2 HU.out (zb : Nat) (za : Nat))
          go_wp2_with (first
            | ((with_reducible show wpList _ _ _ (⟨_, .binOp _ _ _ _ _, _, _, _, _⟩ :: _) _ _); (first | ((with_reducible show wpList _ _ _ (⟨_, .binOp .lss _ _ _ _, _, _, _, _⟩ :: _) _ _); refine st_lss rfl _ _ _ _ rfl _ _ _ rfl rfl (fun h_ => ?_) (fun h_ => ?_)) | ((with_reducible show wpList _ _ _ (⟨_, .binOp .leq _ _ _ _, _, _, _, _⟩ :: _) _ _); refine st_leq rfl _ _ _ _ rfl _ _ _ rfl rfl (fun h_ => ?_) (fun h_ => ?_)) | ((with_reducible show wpList _ _ _ (⟨_, .binOp .gtr _ _ _ _, _, _, _, _⟩ :: _) _ _); refine st_gtr rfl _ _ _ _ rfl _ _ _ rfl rfl (fun h_ => ?_) (fun h_ => ?_)) | ((with_reducible show wpList _ _ _ (⟨_, .binOp .geq _ _ _ _, _, _, _, _⟩ :: _) _ _); refine st_geq rfl _ _ _ _ rfl _ _ _ rfl rfl (fun h_ => ?_) (fun h_ => ?_)) | ((with_reducible show wpList _ _ _ (⟨_, .binOp .eql _ _ _ _, _, _, _, _⟩ :: _) _ _); refine st_eql rfl _ _ _ _ rfl _ _ _ rfl rfl (fun h_ => ?_) (fun h_ => ?_)) | ((with_reducible show wpList _ _ _ (⟨_, .binOp .neq _ _ _ _, _, _, _, _⟩ :: _) _ _); refine st_neq rfl _ _ _ _ rfl _ _ _ rfl rfl (fun h_ => ?_) (fun h_ => ?_))) <;> go_prune)
            | (go_at_call 56; refine (hIO.out _ hS.ro).mono ?_; rintro r_ w_ ⟨_, rfl, ⟨c, rfl, hc⟩, hb_⟩; obtain rfl := HCB.out c hc; clear hc; replace hS := hS.ext hb_; clear hb_)
            | ((with_reducible show wpList _ _ _ (⟨_, .load _ _, _, _, _, _⟩ :: _) _ _); first | refine st_load hS 0 rfl _ _ rfl _ rfl _ _ rfl _ Tryd.underlying50 rfl (by kernel_rfl) ?_ | refine st_load hS 1 rfl _ _ rfl _ rfl _ _ rfl _ Tryd.underlying50 rfl (by kernel_rfl) ?_ | refine st_load hS 2 rfl _ _ rfl _ rfl _ _ rfl _ Tryd.underlying50 rfl (by kernel_rfl) ?_ | refine st_load hS 3 rfl _ _ rfl _ rfl _ _ rfl _ Tryd.underlying50 rfl (by kernel_rfl) ?_)
            | ((with_reducible show wpList _ _ _ (⟨_, .buildSlice _ 1 _, _, _, _, _⟩ :: _) _ _); refine st_push hS 1 rfl rfl _ _ _ _ rfl rfl ty_pairs _ _ _ (.agg #[.int .i64 (za : Nat), .int .i64 (zb : Nat)]) #[.int .i64 (za : Nat), .int .i64 (zb : Nat)] rfl (by kernel_rfl) rfl rfl rfl rfl (by intro u hu; simp at hu; first | (subst hu; rfl) | (rcases hu with rfl | rfl <;> rfl)) (by omega) (by omega) ?_; clear hS; intro z_ v_ w_ hS; (try simp only [Act.put, Act.eval, List.set_cons_zero, List.set_cons_succ, List.setIfInBounds_toArray, Array.getD_eq_getD_getElem?, List.getElem?_toArray, List.getElem?_cons_succ, List.getElem?_cons_zero, Option.getD_some, Value.cells] at hS))
            | ((with_reducible show wpList _ _ _ (⟨_, .load _ _, _, _, _, _⟩ :: _) _ _); first | (refine st_cell hS 0 rfl _ _ rfl _ _ rfl _ _ rfl (by decide +kernel) _ (by first | assumption | rfl) ?_) | (refine st_cell hS 1 rfl _ _ rfl _ _ rfl _ _ rfl (by decide +kernel) _ (by first | assumption | rfl) ?_) | (refine st_cell hS 2 rfl _ _ rfl _ _ rfl _ _ rfl (by decide +kernel) _ (by first | assumption | rfl) ?_) | (refine st_cell hS 3 rfl _ _ rfl _ _ rfl _ _ rfl (by decide +kernel) _ (by first | assumption | rfl) ?_) | (refine st_cell hS 4 rfl _ _ rfl _ _ rfl _ _ rfl (by decide +kernel) _ (by first | assumption | rfl) ?_) | (refine st_cell hS 5 rfl _ _ rfl _ _ rfl _ _ rfl (by decide +kernel) _ (by first | assumption | rfl) ?_) | (refine st_cell hS 6 rfl _ _ rfl _ _ rfl _ _ rfl (by decide +kernel) _ (by first | assumption | rfl) ?_) | (refine st_cell hS 7 rfl _ _ rfl _ _ rfl _ _ rfl (by decide +kernel) _ (by first | assumption | rfl) ?_)))
          refine ⟨⟨j + 1, _, by go_num, rfl, hlj, ?_⟩, by simp [intOf]; omega⟩
          have e : pcells (M ++ [(za, zb)]) = pcells M ++ [.int .i64 (za : Nat), .int .i64 (zb : Nat)] := pcells_app M [(za, zb)]
          rw [HE.out, e, List.length_append]
          exact (hS.sub (List.sublist_cons_self _ _)).mono KS fun _ _ h => h.1
      · have HE := Lib.hid (HST.out.trans (if_neg hz))
        have HCB : Hid (∀ c : Bool, (c = true ↔ ∃ i j : Nat, (z.2 : Int) = (i : Int) ∧ (z.1 : Int) = (j : Int) ∧ TC (unl L z) j i) → c = false) := Lib.hid fun c hc => by
          cases c with
          | false => rfl
          | true =>
            obtain ⟨i, j, h1, h2, h3⟩ := hc.1 rfl
            obtain rfl : z.2 = i := by omega
            obtain rfl : z.1 = j := by omega
            exact absurd h3 hz
        obtain ⟨za, zb⟩ := z
        dsimp only at f1 f2 HWO HCB
        clear hz HST
        go_wp2_with (first
          | ((with_reducible show wpList _ _ _ (⟨_, .binOp _ _ _ _ _, _, _, _, _⟩ :: _) _ _); (first | ((with_reducible show wpList _ _ _ (⟨_, .binOp .lss _ _ _ _, _, _, _, _⟩ :: _) _ _); refine st_lss rfl _ _ _ _ rfl _ _ _ rfl rfl (fun h_ => ?_) (fun h_ => ?_)) | ((with_reducible show wpList _ _ _ (⟨_, .binOp .leq _ _ _ _, _, _, _, _⟩ :: _) _ _); refine st_leq rfl _ _ _ _ rfl _ _ _ rfl rfl (fun h_ => ?_) (fun h_ => ?_)) | ((with_reducible show wpList _ _ _ (⟨_, .binOp .gtr _ _ _ _, _, _, _, _⟩ :: _) _ _); refine st_gtr rfl _ _ _ _ rfl _ _ _ rfl rfl (fun h_ => ?_) (fun h_ => ?_)) | ((with_reducible show wpList _ _ _ (⟨_, .binOp .geq _ _ _ _, _, _, _, _⟩ :: _) _ _); refine st_geq rfl _ _ _ _ rfl _ _ _ rfl rfl (fun h_ => ?_) (fun h_ => ?_)) | ((with_reducible show wpList _ _ _ (⟨_, .binOp .eql _ _ _ _, _, _, _, _⟩ :: _) _ _); refine st_eql rfl _ _ _ _ rfl _ _ _ rfl rfl (fun h_ => ?_) (fun h_ => ?_)) | ((with_reducible show wpList _ _ _ (⟨_, .binOp .neq _ _ _ _, _, _, _, _⟩ :: _) _ _); refine st_neq rfl _ _ _ _ rfl _ _ _ rfl rfl (fun h_ => ?_) (fun h_ => ?_))) <;> go_prune)
          | ((with_reducible show wpList _ _ _ (⟨_, .indexAddr _ _ _, _, _, _, _⟩ :: _) _ _); refine st_iaddr2 hS rfl _ _ _ rfl _ rfl rfl (by assumption) Tryd.underlying25 (by kernel_rfl) (by first | assumption | omega) _ _ (by assumption) (by assumption) ?_; intro b_ j_ hc0_ hc1_)
          | ((with_reducible show wpList _ _ _ (⟨some 5, _, _, _, _, _⟩ :: _) _ _); refine st_alloc hS rfl _ rfl (by kernel_rfl) ?_; clear hS; intro g4 w_ hS; (try simp only [Act.put, Act.eval, List.set_cons_zero, List.set_cons_succ, List.setIfInBounds_toArray, Array.getD_eq_getD_getElem?, List.getElem?_toArray, List.getElem?_cons_succ, List.getElem?_cons_zero, Option.getD_some, Value.cells] at hS))
          | ((with_reducible show wpList _ _ _ (⟨_, .store _ _ _, _, _, _, _⟩ :: _) _ _); first | (refine st_store hS 0 rfl _ _ _ rfl _ _ rfl rfl _ _ rfl (by kernel_rfl) (by kernel_rfl) (by kernel_rfl) ?_; clear hS; intro w_ hS; (try simp only [Act.put, Act.eval, List.set_cons_zero, List.set_cons_succ, List.setIfInBounds_toArray, Array.getD_eq_getD_getElem?, List.getElem?_toArray, List.getElem?_cons_succ, List.getElem?_cons_zero, Option.getD_some, Value.cells] at hS)) | (refine st_store hS 1 rfl _ _ _ rfl _ _ rfl rfl _ _ rfl (by kernel_rfl) (by kernel_rfl) (by kernel_rfl) ?_; clear hS; intro w_ hS; (try simp only [Act.put, Act.eval, List.set_cons_zero, List.set_cons_succ, List.setIfInBounds_toArray, Array.getD_eq_getD_getElem?, List.getElem?_toArray, List.getElem?_cons_succ, List.getElem?_cons_zero, Option.getD_some, Value.cells] at hS)) | (refine st_store hS 2 rfl _ _ _ rfl _ _ rfl rfl _ _ rfl (by kernel_rfl) (by kernel_rfl) (by kernel_rfl) ?_; clear hS; intro w_ hS; (try simp only [Act.put, Act.eval, List.set_cons_zero, List.set_cons_succ, List.setIfInBounds_toArray, Array.getD_eq_getD_getElem?, List.getElem?_toArray, List.getElem?_cons_succ, List.getElem?_cons_zero, Option.getD_some, Value.cells] at hS)) | (refine st_store hS 3 rfl _ _ _ rfl _ _ rfl rfl _ _ rfl (by kernel_rfl) (by kernel_rfl) (by kernel_rfl) ?_; clear hS; intro w_ hS; (try simp only [Act.put, Act.eval, List.set_cons_zero, List.set_cons_succ, List.setIfInBounds_toArray, Array.getD_eq_getD_getElem?, List.getElem?_toArray, List.getElem?_cons_succ, List.getElem?_cons_zero, Option.getD_some, Value.cells] at hS)) | (refine st_cstore hS 0 rfl _ _ _ rfl _ _ _ rfl rfl rfl (by first | (simp; done) | (simp; omega) | exact of_decide_eq_true (by kernel_rfl)) rfl (by first | rfl | assumption) (by kernel_rfl) ?_; clear hS; intro w_ hS; (try simp only [Act.put, Act.eval, List.set_cons_zero, List.set_cons_succ, List.setIfInBounds_toArray, Array.getD_eq_getD_getElem?, List.getElem?_toArray, List.getElem?_cons_succ, List.getElem?_cons_zero, Option.getD_some, Value.cells] at hS)) | (refine st_cstore hS 1 rfl _ _ _ rfl _ _ _ rfl rfl rfl (by first | (simp; done) | (simp; omega) | exact of_decide_eq_true (by kernel_rfl)) rfl (by first | rfl | assumption) (by kernel_rfl) ?_; clear hS; intro w_ hS; (try simp only [Act.put, Act.eval, List.set_cons_zero, List.set_cons_succ, List.setIfInBounds_toArray, Array.getD_eq_getD_getElem?, List.getElem?_toArray, List.getElem?_cons_succ, List.getElem?_cons_zero, Option.getD_some, Value.cells] at hS)) | (refine st_cstore hS 2 rfl _ _ _ rfl _ _ _ rfl rfl rfl (by first | (simp; done) | (simp; omega) | exact of_decide_eq_true (by kernel_rfl)) rfl (by first | rfl | assumption) (by kernel_rfl) ?_; clear hS; intro w_ hS; (try simp only [Act.put, Act.eval, List.set_cons_zero, List.set_cons_succ, List.setIfInBounds_toArray, Array.getD_eq_getD_getElem?, List.getElem?_toArray, List.getElem?_cons_succ, List.getElem?_cons_zero, Option.getD_some, Value.cells] at hS)) | (refine st_cstore hS 3 rfl _ _ _ rfl _ _ _ rfl rfl rfl (by first | (simp; done) | (simp; omega) | exact of_decide_eq_true (by kernel_rfl)) rfl (by first | rfl | assumption) (by kernel_rfl) ?_; clear hS; intro w_ hS; (try simp only [Act.put, Act.eval, List.set_cons_zero, List.set_cons_succ, List.setIfInBounds_toArray, Array.getD_eq_getD_getElem?, List.getElem?_toArray, List.getElem?_cons_succ, List.getElem?_cons_zero, Option.getD_some, Value.cells] at hS))))
        have KS2 := hS.stable
        have hJ0 : OJ (fun w => St w0 w [.box g4 50 #[.int .i64 (za : Nat), .int .i64 (zb : Nat)], .own vo 50 2 M.length (pcells M)] K) (fun r w => ∃ p', r = .tuple #[p', .int .i64 0] ∧ St w0 w [.box g4 50 #[.int .i64 (za : Nat), .int .i64 (zb : Nat)], .own vo 50 2 M.length (pcells M)] fun D w => K D w ∧ IsOrd w D p' 64 (unl L (za, zb))) (w_.drew, none) := OJ.start hS.drew
        have hN0 := ON.start 8 w_.drew
        obtain ⟨C, hC⟩ : ∃ C : World → Prop, C = fun w => St w0 w [.box g4 50 #[.int .i64 (za : Nat), .int .i64 (zb : Nat)], .own vo 50 2 M.length (pcells M)] K := ⟨_, rfl⟩
        obtain ⟨S, hSS⟩ : ∃ S : Value → World → Prop, S = fun r w => ∃ p', r = .tuple #[p', .int .i64 0] ∧ St w0 w [.box g4 50 #[.int .i64 (za : Nat), .int .i64 (zb : Nat)], .own vo 50 2 M.length (pcells M)] fun D w => K D w ∧ IsOrd w D p' 64 (unl L (za, zb)) := ⟨_, rfl⟩
        rw [← hC, ← hSS] at hJ0
        have HC2 := Lib.hid (fun w (h : C w) => show St w0 w [.box g4 50 #[.int .i64 (za : Nat), .int .i64 (zb : Nat)], .own vo 50 2 M.length (pcells M)] K by rw [hC] at h; exact h)
        have HC3 := Lib.hid (fun w (h : St w0 w [.box g4 50 #[.int .i64 (za : Nat), .int .i64 (zb : Nat)], .own vo 50 2 M.length (pcells M)] K) => show C w by rw [hC]; exact h)
        have HS2 := Lib.hid (fun r w (h : S r w) => show ∃ p', r = .tuple #[p', .int .i64 0] ∧ St w0 w [.box g4 50 #[.int .i64 (za : Nat), .int .i64 (zb : Nat)], .own vo 50 2 M.length (pcells M)] fun D w => K D w ∧ IsOrd w D p' 64 (unl L (za, zb)) by rw [hSS] at h; exact h)
        have HS3 := Lib.hid (fun r w (h : ∃ p', r = .tuple #[p', .int .i64 0] ∧ St w0 w [.box g4 50 #[.int .i64 (za : Nat), .int .i64 (zb : Nat)], .own vo 50 2 M.length (pcells M)] fun D w => K D w ∧ IsOrd w D p' 64 (unl L (za, zb))) => show S r w by rw [hSS]; exact h)
        clear hC hSS
        have hRr := @OR.refl C S
        have hRt := @OR.trans C S
        refine wp_region_ghost (fun i__ v w => match i__ with
          | 0 => v = .pointer (some ⟨q, 0, none⟩)
          | 1 => v = .pointer (some ⟨q, 0, none⟩)
          | 2 => v = .pointer (some ⟨q, 0, none⟩)
          | 3 => v = o
          | 4 => v = .pointer (some ⟨g4, 0, none⟩)
          | 5 => v = .int .i64 ((za : Nat) : Int)
          | 6 => v = .pointer (some ⟨g4, 1, none⟩)
          | 7 => v = .int .i64 ((zb : Nat) : Int)
          | 8 => w.2 = some v ∧ isTup2 v
          | 9 => w.2 = some v ∧ isTup2 v
          | 10 => ∃ x y : Value, w.2 = some (.tuple #[x, y]) ∧ v = x
          | 11 => ∃ x y : Value, w.2 = some (.tuple #[x, y]) ∧ v = y
          | 12 => ∃ x y : Value, w.2 = some (.tuple #[x, y]) ∧ v = x
          | 13 => ∃ x y : Value, w.2 = some (.tuple #[x, y]) ∧ v = y
          | _ => True) (OR C S) (ON 8) (none) (by kernel_rfl) (by kernel_rfl) hRr hRt ?mono ?hN ⟨?r0, ?r1, ?r2, ?r3, ?r4, ?r5, ?r6, ?r7, ?r8, ?r9, ?r10, ?r11, ?r12, ?r13, trivial⟩ ?post
        case hN => first | assumption | (intro i; (try dsimp only); split <;> first | trivial | assumption | (left; assumption))
        case mono =>
          intro i v w w' h hb
          match i, h with
          | 0, h => exact h
          | 1, h => exact h
          | 2, h => exact h
          | 3, h => exact h
          | 4, h => exact h
          | 5, h => exact h
          | 6, h => exact h
          | 7, h => exact h
          | 8, h => exact ⟨hb.2 _ h.1, h.2⟩
          | 9, h => exact ⟨hb.2 _ h.1, h.2⟩
          | 10, h => exact by obtain ⟨x, y, h1, h2⟩ := h; exact ⟨x, y, hb.2 _ h1, h2⟩
          | 11, h => exact by obtain ⟨x, y, h1, h2⟩ := h; exact ⟨x, y, hb.2 _ h1, h2⟩
          | 12, h => exact by obtain ⟨x, y, h1, h2⟩ := h; exact ⟨x, y, hb.2 _ h1, h2⟩
          | 13, h => exact by obtain ⟨x, y, h1, h2⟩ := h; exact ⟨x, y, hb.2 _ h1, h2⟩
          | _ + 14, h => trivial
        case r0 =>
          refine truleGh fun b__ w hW hN hold hpre => ⟨fun hwant K hK => ?_, fun hwant => ?_⟩
          · clear hwant
            have e0 : b__.eval (.tmp 0) = .pointer (some ⟨q, 0, none⟩) := (hold 0 (by kernel_rfl)).trans rfl
            exact opw_move rfl e0 (hK _ _ rfl ⟨hRr _, fun _ _ h => h⟩)
          · rw [want_none rfl] at hwant; cases hwant
        case r1 =>
          refine truleGh fun b__ w hW hN hold hpre => ⟨fun hwant K hK => ?_, fun hwant => ?_⟩
          · clear hwant
            have e16 : b__.eval (.tmp 16) = .pointer (some ⟨q, 0, none⟩) := hpre ⟨0, _⟩ (Array.mem_of_getElem? (i := 0) rfl) rfl _ _ rfl rfl
            exact opw_nil rfl e16 (hK _ _ rfl ⟨hRr _, fun _ _ h => h⟩)
          · rw [want_none rfl] at hwant; cases hwant
        case r2 =>
          refine truleGh fun b__ w hW hN hold hpre => ⟨fun hwant K hK => ?_, fun hwant => ?_⟩
          · clear hwant
            have e17 : b__.eval (.tmp 17) = .pointer (some ⟨q, 0, none⟩) := hpre ⟨1, _⟩ (Array.mem_of_getElem? (i := 0) rfl) rfl _ _ rfl rfl
            exact opw_faddr rfl e17 (by kernel_rfl) (hK _ _ rfl ⟨hRr _, fun _ _ h => h⟩)
          · rw [want_none rfl] at hwant; cases hwant
        case r3 =>
          refine truleGh fun b__ w hW hN hold hpre => ⟨fun hwant K hK => ?_, fun hwant => ?_⟩
          · clear hwant
            have e18 : b__.eval (.tmp 18) = .pointer (some ⟨q, 0, none⟩) := hpre ⟨2, _⟩ (Array.mem_of_getElem? (i := 0) rfl) rfl _ _ rfl rfl
            exact opw_cell rfl e18 (by kernel_rfl) ((ko _ _ (HC2.out _ (hW.1 hJ0).1).ro).1.cell 0 rfl) (hK _ _ rfl ⟨hRr _, fun _ _ h => h⟩)
          · rw [want_none rfl] at hwant; cases hwant
        case r4 =>
          refine truleGh fun b__ w hW hN hold hpre => ⟨fun hwant K hK => ?_, fun hwant => ?_⟩
          · clear hwant
            have e5 : b__.eval (.tmp 5) = .pointer (some ⟨g4, 0, none⟩) := (hold 5 (by kernel_rfl)).trans rfl
            exact opw_iaddr rfl e5 rfl (by kernel_rfl) (hK _ _ rfl ⟨hRr _, fun _ _ h => h⟩)
          · rw [want_none rfl] at hwant; cases hwant
        case r5 =>
          refine truleGh fun b__ w hW hN hold hpre => ⟨fun hwant K hK => ?_, fun hwant => ?_⟩
          · clear hwant
            have e20 : b__.eval (.tmp 20) = .pointer (some ⟨g4, 0, none⟩) := hpre ⟨4, _⟩ (Array.mem_of_getElem? (i := 0) rfl) rfl _ _ rfl rfl
            exact opw_cell rfl e20 (by kernel_rfl) ((HC2.out _ (hW.1 hJ0).1).shut 0 rfl 0 rfl) (hK _ _ rfl ⟨hRr _, fun _ _ h => h⟩)
          · rw [want_none rfl] at hwant; cases hwant
        case r6 =>
          refine truleGh fun b__ w hW hN hold hpre => ⟨fun hwant K hK => ?_, fun hwant => ?_⟩
          · clear hwant
            have e5 : b__.eval (.tmp 5) = .pointer (some ⟨g4, 0, none⟩) := (hold 5 (by kernel_rfl)).trans rfl
            exact opw_iaddr rfl e5 rfl (by kernel_rfl) (hK _ _ rfl ⟨hRr _, fun _ _ h => h⟩)
          · rw [want_none rfl] at hwant; cases hwant
        case r7 =>
          refine truleGh fun b__ w hW hN hold hpre => ⟨fun hwant K hK => ?_, fun hwant => ?_⟩
          · clear hwant
            have e22 : b__.eval (.tmp 22) = .pointer (some ⟨g4, 1, none⟩) := hpre ⟨6, _⟩ (Array.mem_of_getElem? (i := 0) rfl) rfl _ _ rfl rfl
            exact opw_cell rfl e22 (by kernel_rfl) ((HC2.out _ (hW.1 hJ0).1).shut 0 rfl 1 rfl) (hK _ _ rfl ⟨hRr _, fun _ _ h => h⟩)
          · rw [want_none rfl] at hwant; cases hwant
        case r8 =>
          refine truleGh fun b__ w hW hN hold hpre => ⟨fun hwant K hK => ?_, fun hwant => ?_⟩
          · clear hwant
            have e19 : b__.eval (.tmp 19) = o := hpre ⟨3, _⟩ (Array.mem_of_getElem? (i := 0) rfl) rfl _ _ rfl rfl
            have e21 : b__.eval (.tmp 21) = .int .i64 ((za : Nat) : Int) := hpre ⟨5, _⟩ (Array.mem_of_getElem? (i := 1) rfl) rfl _ _ rfl rfl
            have e23 : b__.eval (.tmp 23) = .int .i64 ((zb : Nat) : Int) := hpre ⟨7, _⟩ (Array.mem_of_getElem? (i := 2) rfl) rfl _ _ rfl rfl
            exact one_call isTup2 rfl (by kernel_rfl) (by simp only [List.map_cons, List.map_nil, e19, e21, e23]) (HWO.out _ _ (HC2.out _ (hW.1 hJ0).1)) hN (fun e w' h => by obtain ⟨p', rfl, h⟩ := h; exact ⟨_, rfl, HC3.out _ (h.mono KS2 fun _ _ h => h.1), HS3.out _ _ ⟨p', rfl, h⟩, _, _, rfl⟩) hK
          · rw [want_none rfl] at hwant; cases hwant
        case r9 =>
          refine truleGh fun b__ w hW hN hold hpre => ⟨fun hwant K hK => ?_, fun hwant => ?_⟩
          · clear hwant
            have e24 : (fun (v : Value) (w : World × _) => w.2 = some v ∧ isTup2 v) (b__.eval (.tmp 24)) w := hpre ⟨8, _⟩ (Array.mem_of_getElem? (i := 0) rfl) rfl _ _ rfl rfl
            exact opw_move rfl rfl (hK _ _ e24 ⟨hRr _, fun _ _ h => h⟩)
          · rw [want_none rfl] at hwant; cases hwant
        case r10 =>
          refine truleGh fun b__ w hW hN hold hpre => ⟨fun hwant K hK => ?_, fun hwant => ?_⟩
          · clear hwant
            have e15 : (fun (v : Value) (w : World × _) => w.2 = some v ∧ isTup2 v) (b__.eval (.tmp 15)) w := hpre ⟨9, _⟩ (Array.mem_of_getElem? (i := 0) rfl) rfl _ _ rfl rfl
            obtain ⟨hd, x, y, hv⟩ := e15
            rw [hv] at hd
            exact opw_extract rfl hv rfl (hK _ _ ⟨x, y, hd, rfl⟩ ⟨hRr _, fun _ _ h => h⟩)
          · rw [want_none rfl] at hwant; cases hwant
        case r11 =>
          refine truleGh fun b__ w hW hN hold hpre => ⟨fun hwant K hK => ?_, fun hwant => ?_⟩
          · clear hwant
            have e15 : (fun (v : Value) (w : World × _) => w.2 = some v ∧ isTup2 v) (b__.eval (.tmp 15)) w := hpre ⟨9, _⟩ (Array.mem_of_getElem? (i := 0) rfl) rfl _ _ rfl rfl
            obtain ⟨hd, x, y, hv⟩ := e15
            rw [hv] at hd
            exact opw_extract rfl hv rfl (hK _ _ ⟨x, y, hd, rfl⟩ ⟨hRr _, fun _ _ h => h⟩)
          · rw [want_none rfl] at hwant; cases hwant
        case r12 =>
          refine truleGh fun b__ w hW hN hold hpre => ⟨fun hwant K hK => ?_, fun hwant => ?_⟩
          · clear hwant
            have e25 : (fun (v : Value) (w : World × _) => ∃ x y : Value, w.2 = some (.tuple #[x, y]) ∧ v = x) (b__.eval (.tmp 25)) w := hpre ⟨10, _⟩ (Array.mem_of_getElem? (i := 0) rfl) rfl _ _ rfl rfl
            exact opw_assign rfl rfl (hK _ _ e25 ⟨hRr _, fun _ _ h => h⟩)
          · rw [want_none rfl] at hwant; cases hwant
        case r13 =>
          refine truleGh fun b__ w hW hN hold hpre => ⟨fun hwant K hK => ?_, fun hwant => ?_⟩
          · clear hwant
            have e26 : (fun (v : Value) (w : World × _) => ∃ x y : Value, w.2 = some (.tuple #[x, y]) ∧ v = y) (b__.eval (.tmp 26)) w := hpre ⟨11, _⟩ (Array.mem_of_getElem? (i := 0) rfl) rfl _ _ rfl rfl
            exact opw_assign rfl rfl (hK _ _ e26 ⟨hRr _, fun _ _ h => h⟩)
          · rw [want_none rfl] at hwant; cases hwant
        case post =>
          intro b__ wz hW hdf hsz hold hT hZ
          have e16 : b__.eval (.tmp 16) = .pointer (some ⟨q, 0, none⟩) := hT 0 _ 16 rfl rfl
          have e17 : b__.eval (.tmp 17) = .pointer (some ⟨q, 0, none⟩) := hT 1 _ 17 rfl rfl
          have e18 : b__.eval (.tmp 18) = .pointer (some ⟨q, 0, none⟩) := hT 2 _ 18 rfl rfl
          have e19 : b__.eval (.tmp 19) = o := hT 3 _ 19 rfl rfl
          have e20 : b__.eval (.tmp 20) = .pointer (some ⟨g4, 0, none⟩) := hT 4 _ 20 rfl rfl
          have e21 : b__.eval (.tmp 21) = .int .i64 ((za : Nat) : Int) := hT 5 _ 21 rfl rfl
          have e22 : b__.eval (.tmp 22) = .pointer (some ⟨g4, 1, none⟩) := hT 6 _ 22 rfl rfl
          have e23 : b__.eval (.tmp 23) = .int .i64 ((zb : Nat) : Int) := hT 7 _ 23 rfl rfl
          have e24 : (fun (v : Value) (w : World × _) => w.2 = some v ∧ isTup2 v) (b__.eval (.tmp 24)) wz := hT 8 _ 24 rfl rfl
          have e15 : (fun (v : Value) (w : World × _) => w.2 = some v ∧ isTup2 v) (b__.eval (.tmp 15)) wz := hT 9 _ 15 rfl rfl
          have e25 : (fun (v : Value) (w : World × _) => ∃ x y : Value, w.2 = some (.tuple #[x, y]) ∧ v = x) (b__.eval (.tmp 25)) wz := hT 10 _ 25 rfl rfl
          have e26 : (fun (v : Value) (w : World × _) => ∃ x y : Value, w.2 = some (.tuple #[x, y]) ∧ v = y) (b__.eval (.tmp 26)) wz := hT 11 _ 26 rfl rfl
          have e6 : (fun (v : Value) (w : World × _) => ∃ x y : Value, w.2 = some (.tuple #[x, y]) ∧ v = x) (b__.eval (.tmp 6)) wz := hT 12 _ 6 rfl rfl
          have e7 : (fun (v : Value) (w : World × _) => ∃ x y : Value, w.2 = some (.tuple #[x, y]) ∧ v = y) (b__.eval (.tmp 7)) wz := hT 13 _ 7 rfl rfl
          obtain ⟨vs, hvs, hb⟩ := frame_of hdf hsz hold
          replace e16 : vs 16 = .pointer (some ⟨q, 0, none⟩) := (hvs 16).symm.trans e16
          replace e17 : vs 17 = .pointer (some ⟨q, 0, none⟩) := (hvs 17).symm.trans e17
          replace e18 : vs 18 = .pointer (some ⟨q, 0, none⟩) := (hvs 18).symm.trans e18
          replace e19 : vs 19 = o := (hvs 19).symm.trans e19
          replace e20 : vs 20 = .pointer (some ⟨g4, 0, none⟩) := (hvs 20).symm.trans e20
          replace e21 : vs 21 = .int .i64 ((za : Nat) : Int) := (hvs 21).symm.trans e21
          replace e22 : vs 22 = .pointer (some ⟨g4, 1, none⟩) := (hvs 22).symm.trans e22
          replace e23 : vs 23 = .int .i64 ((zb : Nat) : Int) := (hvs 23).symm.trans e23
          replace e24 := (hvs 24) ▸ e24
          replace e15 := (hvs 15) ▸ e15
          replace e25 := (hvs 25) ▸ e25
          replace e26 := (hvs 26) ▸ e26
          replace e6 := (hvs 6) ▸ e6
          replace e7 := (hvs 7) ▸ e7
          subst hb
          clear hvs hold hT hdf hsz
          simp only [setAll, Act.put, List.setIfInBounds_toArray, List.set_cons_zero, List.set_cons_succ, List.getElem_toArray, List.getElem_cons_succ, List.getElem_cons_zero]
          obtain ⟨x1, y1, d1, e6⟩ := e6
          obtain ⟨x2, y2, d2, e7⟩ := e7
          rw [d1] at d2
          obtain ⟨rfl, rfl⟩ : x1 = x2 ∧ y1 = y2 := by simpa using d2
          obtain ⟨p', hp, hS⟩ := HS2.out _ _ ((hW.1 hJ0).2 _ d1)
          obtain ⟨rfl, rfl⟩ : x1 = p' ∧ y1 = .int .i64 0 := by simpa using hp
          rw [e6, e7]
          generalize wz.1 = wf at *
          clear hJ0 hRr hRt hW hZ hN0 d1 d2 e6 e7 hp HC2 HC3 HS2 HS3
          have hIO := Lib.hid (fun (w : World) (h : K (Free [.box g4 50 #[.int .i64 (za : Nat), .int .i64 (zb : Nat)], .own vo 50 2 M.length (pcells M)]) w ∧ IsOrd w (Free [.box g4 50 #[.int .i64 (za : Nat), .int .i64 (zb : Nat)], .own vo 50 2 M.length (pcells M)]) x1 64 (unl L (za, zb))) => oless_any h.2 HU.out (zb : Nat) (za : Nat))
          go_wp2_with (first
            | ((with_reducible show wpList _ _ _ (⟨_, .binOp _ _ _ _ _, _, _, _, _⟩ :: _) _ _); (first | ((with_reducible show wpList _ _ _ (⟨_, .binOp .lss _ _ _ _, _, _, _, _⟩ :: _) _ _); refine st_lss rfl _ _ _ _ rfl _ _ _ rfl rfl (fun h_ => ?_) (fun h_ => ?_)) | ((with_reducible show wpList _ _ _ (⟨_, .binOp .leq _ _ _ _, _, _, _, _⟩ :: _) _ _); refine st_leq rfl _ _ _ _ rfl _ _ _ rfl rfl (fun h_ => ?_) (fun h_ => ?_)) | ((with_reducible show wpList _ _ _ (⟨_, .binOp .gtr _ _ _ _, _, _, _, _⟩ :: _) _ _); refine st_gtr rfl _ _ _ _ rfl _ _ _ rfl rfl (fun h_ => ?_) (fun h_ => ?_)) | ((with_reducible show wpList _ _ _ (⟨_, .binOp .geq _ _ _ _, _, _, _, _⟩ :: _) _ _); refine st_geq rfl _ _ _ _ rfl _ _ _ rfl rfl (fun h_ => ?_) (fun h_ => ?_)) | ((with_reducible show wpList _ _ _ (⟨_, .binOp .eql _ _ _ _, _, _, _, _⟩ :: _) _ _); refine st_eql rfl _ _ _ _ rfl _ _ _ rfl rfl (fun h_ => ?_) (fun h_ => ?_)) | ((with_reducible show wpList _ _ _ (⟨_, .binOp .neq _ _ _ _, _, _, _, _⟩ :: _) _ _); refine st_neq rfl _ _ _ _ rfl _ _ _ rfl rfl (fun h_ => ?_) (fun h_ => ?_))) <;> go_prune)
            | (go_at_call 56; refine (hIO.out _ hS.ro).mono ?_; rintro r_ w_ ⟨_, rfl, ⟨c, rfl, hc⟩, hb_⟩; obtain rfl := HCB.out c hc; clear hc; replace hS := hS.ext hb_; clear hb_)
            | ((with_reducible show wpList _ _ _ (⟨_, .load _ _, _, _, _, _⟩ :: _) _ _); first | (refine st_cell hS 0 rfl _ _ rfl _ _ rfl _ _ rfl (by decide +kernel) _ (by first | assumption | rfl) ?_) | (refine st_cell hS 1 rfl _ _ rfl _ _ rfl _ _ rfl (by decide +kernel) _ (by first | assumption | rfl) ?_) | (refine st_cell hS 2 rfl _ _ rfl _ _ rfl _ _ rfl (by decide +kernel) _ (by first | assumption | rfl) ?_) | (refine st_cell hS 3 rfl _ _ rfl _ _ rfl _ _ rfl (by decide +kernel) _ (by first | assumption | rfl) ?_) | (refine st_cell hS 4 rfl _ _ rfl _ _ rfl _ _ rfl (by decide +kernel) _ (by first | assumption | rfl) ?_) | (refine st_cell hS 5 rfl _ _ rfl _ _ rfl _ _ rfl (by decide +kernel) _ (by first | assumption | rfl) ?_) | (refine st_cell hS 6 rfl _ _ rfl _ _ rfl _ _ rfl (by decide +kernel) _ (by first | assumption | rfl) ?_) | (refine st_cell hS 7 rfl _ _ rfl _ _ rfl _ _ rfl (by decide +kernel) _ (by first | assumption | rfl) ?_)))
          refine ⟨⟨j + 1, _, by go_num, rfl, hlj, ?_⟩, by simp [intOf]; omega⟩
          rw [HE.out]
          exact (hS.sub (List.sublist_cons_self _ _)).mono KS fun _ _ h => h.1
    · obtain rfl : j = L.length := by omega
      rw [List.take_length] at hS
      go_wp2_with (first | ((with_reducible show wpList _ _ _ (⟨_, .binOp _ _ _ _ _, _, _, _, _⟩ :: _) _ _); (first | ((with_reducible show wpList _ _ _ (⟨_, .binOp .lss _ _ _ _, _, _, _, _⟩ :: _) _ _); refine st_lss rfl _ _ _ _ rfl _ _ _ rfl rfl (fun h_ => ?_) (fun h_ => ?_)) | ((with_reducible show wpList _ _ _ (⟨_, .binOp .leq _ _ _ _, _, _, _, _⟩ :: _) _ _); refine st_leq rfl _ _ _ _ rfl _ _ _ rfl rfl (fun h_ => ?_) (fun h_ => ?_)) | ((with_reducible show wpList _ _ _ (⟨_, .binOp .gtr _ _ _ _, _, _, _, _⟩ :: _) _ _); refine st_gtr rfl _ _ _ _ rfl _ _ _ rfl rfl (fun h_ => ?_) (fun h_ => ?_)) | ((with_reducible show wpList _ _ _ (⟨_, .binOp .geq _ _ _ _, _, _, _, _⟩ :: _) _ _); refine st_geq rfl _ _ _ _ rfl _ _ _ rfl rfl (fun h_ => ?_) (fun h_ => ?_)) | ((with_reducible show wpList _ _ _ (⟨_, .binOp .eql _ _ _ _, _, _, _, _⟩ :: _) _ _); refine st_eql rfl _ _ _ _ rfl _ _ _ rfl rfl (fun h_ => ?_) (fun h_ => ?_)) | ((with_reducible show wpList _ _ _ (⟨_, .binOp .neq _ _ _ _, _, _, _, _⟩ :: _) _ _); refine st_neq rfl _ _ _ _ rfl _ _ _ rfl rfl (fun h_ => ?_) (fun h_ => ?_))) <;> go_prune))
      go_ret
      exact ⟨_, rfl, hS.mono (Stable.pure True) fun _ _ _ => trivial⟩
end Go.Proofs.YtmlkgaiphpimiaaDoor
namespace Go.Proofs.YtmlkgaiphpimiaaDoor
open Go.RowKit
attribute [local go_sem ↓] Go.wp_at_zero Go.wp_at_succ
set_option maxRecDepth 20000

/-- the cells of a list of cubes given by masks -/
def rcells (l : List (Nat × Nat)) : List Value := l.flatMap fun z => [.int .u64 (z.1 : Nat), .int .u64 (z.2 : Nat)]
theorem rcells_at (l : List (Nat × Nat)) (k : Nat) (h : k < l.length) : (rcells l)[k * 2]? = some (.int .u64 ((l.getD k (0, 0)).1 : Nat)) ∧ (rcells l)[k * 2 + 1]? = some (.int .u64 ((l.getD k (0, 0)).2 : Nat)) := by
  induction l generalizing k with
  | nil => simp at h
  | cons z r ih =>
    cases k with
    | zero => simp [rcells]
    | succ k =>
      have := ih k (by simpa using h)
      rw [show (k + 1) * 2 = k * 2 + 2 by omega]
      simpa [rcells] using this
/-- v is a list of cubes as the references have it -/
def RCubes (w : World) (D : Nat → Prop) (v : Value) (l : List (Nat × Nat)) : Prop := Sl w D 2 v l.length (rcells l)
theorem RCubes.keep {w w' : World} {D : Nat → Prop} {v : Value} {l : List (Nat × Nat)} (h : RCubes w D v l) (hsz : w.heap.size ≤ w'.heap.size) (hk : ∀ p : Addr, D p.block → p.block < w.heap.size → w'.cell? p = w.cell? p) : RCubes w' D v l := Sl.keep h hsz hk
theorem RCubes.imp {w : World} {D D' : Nat → Prop} {v : Value} {l : List (Nat × Nat)} (h : RCubes w D v l) (hD : ∀ b, D b → b < w.heap.size → D' b) : RCubes w D' v l := Sl.imp h hD
theorem RCubes.ext {w w' : World} {D : Nat → Prop} {v : Value} {l : List (Nat × Nat)} (h : RCubes w D v l) (hb : Below w.heap.size w w') : RCubes w' D v l := h.keep hb.size fun _ _ hp => hb.cell hp
theorem RCubes.drew {w : World} {D : Nat → Prop} {v : Value} {l : List (Nat × Nat)} (h : RCubes w D v l) : RCubes w.drew D v l := h.keep (Nat.le_refl _) fun _ _ _ => rfl
theorem RCubes.alloc {w : World} {D : Nat → Prop} {v : Value} {l : List (Nat × Nat)} (h : RCubes w D v l) (o : Obj) : RCubes (w.alloc o) D v l := h.keep (by simp) fun p _ hp => World.cell?_alloc_lt w o p hp
theorem RCubes.upd {g : Nat} {w w' : World} {D : Nat → Prop} {v : Value} {l : List (Nat × Nat)} (h : RCubes w D v l) (hU : Upd g w w') (hD : ∀ b, D b → b < w.heap.size → b ≠ g) : RCubes w' D v l := h.keep (Nat.le_of_eq hU.size.symm) fun _ h1 h2 => hU.cell (hD _ h1 h2)
theorem RCubes.shape {w : World} {D : Nat → Prop} {v : Value} {l : List (Nat × Nat)} (h : RCubes w D v l) : ∃ A c, v = .slice A l.length c ∧ l.length ≤ c ∧ c ≤ 9223372036854775807 := Sl.shape h
theorem RCubes.at_ {w : World} {D : Nat → Prop} {A : Option Addr} {c : Nat} {l : List (Nat × Nat)} (h : RCubes w D (.slice A l.length c) l) {k : Nat} (hk : k < l.length) :
    ∃ b o, A = some ⟨b, o, none⟩ ∧ D b ∧ b < w.heap.size ∧ w.cell? ⟨b, o + k * 2, none⟩ = some (.int .u64 ((l.getD k (0, 0)).1 : Nat)) ∧ w.cell? ⟨b, o + k * 2 + 1, none⟩ = some (.int .u64 ((l.getD k (0, 0)).2 : Nat)) := by
  obtain ⟨_, A', c', h1, _, _, h2⟩ := h
  obtain ⟨b, o, h3, h4, h6, h5⟩ := h2 (by omega)
  injection h1 with h1
  obtain ⟨g1, g2⟩ := rcells_at l k hk
  exact ⟨b, o, h1.trans h3, h4, h6, h5 _ _ g1, by have := h5 _ _ g2; rw [← Nat.add_assoc] at this; exact this⟩

/-- the cells xs are the cubes l -/
def CubeCells (w : World) (D : Nat → Prop) (xs : List Value) (l : List (Nat × Nat)) : Prop :=
  ∀ i y n, l[i]? = some (y, n) → ∃ a b, xs[i * 2]? = some a ∧ xs[i * 2 + 1]? = some b ∧ IsSet w D (.agg #[a]) y ∧ IsSet w D (.agg #[b]) n
theorem CubeCells.keep {w w' : World} {D : Nat → Prop} {xs : List Value} {l : List (Nat × Nat)} (h : CubeCells w D xs l) (hsz : w.heap.size ≤ w'.heap.size) (hk : ∀ p : Addr, D p.block → p.block < w.heap.size → w'.cell? p = w.cell? p) : CubeCells w' D xs l := fun i y n hi => by
  obtain ⟨a, b, h1, h2, h3, h4⟩ := h i y n hi
  exact ⟨a, b, h1, h2, h3.keep hsz hk, h4.keep hsz hk⟩
theorem CubeCells.imp {w : World} {D D' : Nat → Prop} {xs : List Value} {l : List (Nat × Nat)} (h : CubeCells w D xs l) (hD : ∀ b, D b → b < w.heap.size → D' b) : CubeCells w D' xs l := fun i y n hi => by
  obtain ⟨a, b, h1, h2, h3, h4⟩ := h i y n hi
  exact ⟨a, b, h1, h2, h3.imp hD, h4.imp hD⟩
theorem CubeCells.ext {w w' : World} {D : Nat → Prop} {xs : List Value} {l : List (Nat × Nat)} (h : CubeCells w D xs l) (hb : Below w.heap.size w w') : CubeCells w' D xs l := h.keep hb.size fun _ _ hp => hb.cell hp
theorem CubeCells.drew {w : World} {D : Nat → Prop} {xs : List Value} {l : List (Nat × Nat)} (h : CubeCells w D xs l) : CubeCells w.drew D xs l := h.keep (Nat.le_refl _) fun _ _ _ => rfl
theorem CubeCells.alloc {w : World} {D : Nat → Prop} {xs : List Value} {l : List (Nat × Nat)} (h : CubeCells w D xs l) (o : Obj) : CubeCells (w.alloc o) D xs l := h.keep (by simp) fun p _ hp => World.cell?_alloc_lt w o p hp
theorem CubeCells.upd {g : Nat} {w w' : World} {D : Nat → Prop} {xs : List Value} {l : List (Nat × Nat)} (h : CubeCells w D xs l) (hU : Upd g w w') (hD : ∀ b, D b → b < w.heap.size → b ≠ g) : CubeCells w' D xs l := h.keep (Nat.le_of_eq hU.size.symm) fun _ h1 h2 => hU.cell (hD _ h1 h2)
theorem CubeCells.nil {w : World} {D : Nat → Prop} : CubeCells w D [] [] := fun i y n h => by simp at h
theorem CubeCells.cubes {w : World} {base : Nat} {v : Value} {xs : List Value} {l : List (Nat × Nat)} {e : TypeId} {D : Nat → Prop} (h : CubeCells w D xs l) (ho : w.ownsRow base e 2 v l.length xs) (hD : ∀ b, base ≤ b → D b) : IsCubes w D v l := ⟨xs, (Sl.of_own ho).imp fun b h1 _ => hD b h1, h⟩
def Small (l : List (Nat × Nat)) : Prop := ∀ z ∈ l, z.1 < T64 ∧ z.2 < T64
theorem Small.at_ {l : List (Nat × Nat)} (h : Small l) (k : Nat) (hk : k < l.length) : (l.getD k (0, 0)).1 < T64 ∧ (l.getD k (0, 0)).2 < T64 := h _ (by rw [List.getD_eq_getElem?_getD, List.getElem?_eq_getElem hk]; exact List.getElem_mem hk)

end Go.Proofs.YtmlkgaiphpimiaaDoor
namespace Go.Proofs.YtmlkgaiphpimiaaDoor
open Go.RowKit
attribute [local go_sem ↓] Go.wp_at_zero Go.wp_at_succ
set_option maxRecDepth 20000

/-- a raw cube -/
structure RawC where
  a : Nat
  b : Nat
  odd : Bool
def RawC.ok (x : RawC) : Prop := x.a < 256 ∧ x.b < 256
end Go.Proofs.YtmlkgaiphpimiaaDoor
namespace Go.Proofs.YtmlkgaiphpimiaaDoor
open Go.RowKit
attribute [local go_sem ↓] Go.wp_at_zero Go.wp_at_succ
set_option maxRecDepth 20000

/-- a raw certificate -/
structure RawCert where
  prob : Nat
  odd : Nat
  reach : Bool
  plan : List Int
  cubes : List RawC
def RawCert.ok (x : RawCert) : Prop := x.prob < 256 ∧ x.odd < 256 ∧ ∀ c ∈ x.cubes, c.ok
/-- the cells of a certificate -/
def cc (prob : List Nat) (r : Bool) (pv qv : Value) : Array Value := (u8s prob ++ [.bool r, pv, qv]).toArray
section
variable {w wr w1 w2 : World} {C : Nat} {par z : Array Value} {P : List Nat} {r : Bool} {plan plan' : List Int} {cubes cubes' : List (Nat × Nat)} {pv qv v : Value}
end

end Go.Proofs.YtmlkgaiphpimiaaDoor
namespace Go.Proofs.YtmlkgaiphpimiaaDoor
open Go.RowKit
attribute [local go_sem ↓] Go.wp_at_zero Go.wp_at_succ

end Go.Proofs.YtmlkgaiphpimiaaDoor
namespace Go.Proofs.YtmlkgaiphpimiaaDoor
open Go.RowKit
attribute [local go_sem ↓] Go.wp_at_zero Go.wp_at_succ
set_option maxRecDepth 20000

end Go.Proofs.YtmlkgaiphpimiaaDoor
namespace Go.Proofs.YtmlkgaiphpimiaaDoor
open Go.RowKit
attribute [local go_sem ↓] Go.wp_at_zero Go.wp_at_succ
set_option maxRecDepth 20000

theorem IsCubes.bound {w : World} {D : Nat → Prop} {v : Value} {l : List (Nat × Nat)} (h : IsCubes w D v l) : ∀ z ∈ l, z.1 < 2 ^ 4096 ∧ z.2 < 2 ^ 4096 := by
  intro z hz
  obtain ⟨i, hi, rfl⟩ := List.getElem_of_mem hz
  obtain ⟨xs, _, h2⟩ := h
  obtain ⟨a, b, _, _, h5, h6⟩ := h2 i l[i].1 l[i].2 (by simp [List.getElem?_eq_getElem hi])
  exact ⟨h5.bound, h6.bound⟩

end Go.Proofs.YtmlkgaiphpimiaaDoor
namespace Go.Proofs.YtmlkgaiphpimiaaDoor
open Go.RowKit
attribute [local go_sem ↓] Go.wp_at_zero Go.wp_at_succ
set_option maxRecDepth 20000

end Go.Proofs.YtmlkgaiphpimiaaDoor
namespace Go.Proofs.YtmlkgaiphpimiaaDoor
open Go.RowKit
attribute [local go_sem ↓] Go.wp_at_zero Go.wp_at_succ
set_option maxRecDepth 20000

end Go.Proofs.YtmlkgaiphpimiaaDoor
namespace Go.Proofs.YtmlkgaiphpimiaaDoor
open Go.RowKit
attribute [local go_sem ↓] Go.wp_at_zero Go.wp_at_succ
set_option maxRecDepth 20000

/-- the word of eight bytes, of which the n last are taken in -/
def lew (l : List Nat) (i : Nat) : Nat → Nat
  | 0 => 0
  | n + 1 => (lew l i n * 256) % T64 ||| l.getD (8 * i + (7 - n)) 0
theorem Bytes.getD {l : List Nat} (h : Bytes l) (k : Nat) : l.getD k 0 < 256 := by
  rcases Nat.lt_or_ge k l.length with h1 | h1
  · rw [List.getD_eq_getElem?_getD, List.getElem?_eq_getElem h1]; exact h _ (List.getElem_mem h1)
  · rw [List.getD_eq_getElem?_getD, List.getElem?_eq_none h1]; simp
def absW (a l : List Nat) (i : Nat) : Nat := a.getD i 0 ^^^ lew l i 8
def absorbK (a l : List Nat) : List Nat := perm (mixTo (absW a l) a 17)
end Go.Proofs.YtmlkgaiphpimiaaDoor
namespace Go.Proofs.YtmlkgaiphpimiaaDoor
open Go.RowKit
attribute [local go_sem ↓] Go.wp_at_zero Go.wp_at_succ
set_option maxRecDepth 20000

section
variable {w : World} {h : Nat} {t : TypeId} {st blk : List Nat} {u tot : Nat}
end
def blkOf (l : List Nat) (j : Nat) : List Nat := (l.drop (136 * j)).take 136
def stB (st l : List Nat) : Nat → List Nat
  | 0 => st
  | j + 1 => absorbK (stB st l j) (blkOf l j)
theorem Bytes.take {l : List Nat} (h : Bytes l) (k : Nat) : Bytes (l.take k) := fun x hx => h x (List.mem_of_mem_take hx)
theorem Bytes.drop {l : List Nat} (h : Bytes l) (k : Nat) : Bytes (l.drop k) := fun x hx => h x (List.mem_of_mem_drop hx)
theorem Bytes.append {a b : List Nat} (h : Bytes a) (k : Bytes b) : Bytes (a ++ b) := fun x hx => by rcases List.mem_append.1 hx with h1 | h1; exact h x h1; exact k x h1
theorem WF.row (w : World) (h : Nat) (cs : Array Value) : WF (fun _ => False) h w (w.setRow h cs) :=
  ⟨rfl, rfl, rfl, by simp, fun k _ hq _ => setRow_other w h k cs hq, fun k cs' t fr hk _ h3 => (setRow_other w h k cs hk).trans h3⟩

end Go.Proofs.YtmlkgaiphpimiaaDoor
namespace Go.Proofs.YtmlkgaiphpimiaaDoor
open Go.RowKit
attribute [local go_sem ↓] Go.wp_at_zero Go.wp_at_succ
set_option maxRecDepth 20000

section
variable {w : World} {b : Nat} {t : TypeId} {l : List Nat}
end
end Go.Proofs.YtmlkgaiphpimiaaDoor
namespace Go.Proofs.YtmlkgaiphpimiaaDoor
open Go.RowKit
attribute [local go_sem ↓] Go.wp_at_zero Go.wp_at_succ
set_option maxRecDepth 20000

end Go.Proofs.YtmlkgaiphpimiaaDoor
namespace Go.Proofs.YtmlkgaiphpimiaaDoor
open Go.RowKit
attribute [local go_sem ↓] Go.wp_at_zero Go.wp_at_succ
set_option maxRecDepth 20000

end Go.Proofs.YtmlkgaiphpimiaaDoor
namespace Go.Proofs.YtmlkgaiphpimiaaDoor
open Go.RowKit
attribute [local go_sem ↓] Go.wp_at_zero Go.wp_at_succ
set_option maxRecDepth 20000

/-- v is a certificate as the references have it -/
def IsRCert (w : World) (D : Nat → Prop) (v : Value) (c : CertD) : Prop :=
  ∃ pv qv, v = .agg (cc c.prob c.reach pv qv) ∧ c.prob.length = 32 ∧ Bytes c.prob ∧ Sl w D 1 pv c.plan.length (ints c.plan) ∧ RCubes w D qv c.cubes
theorem IsRCert.keep {w w' : World} {D : Nat → Prop} {v : Value} {c : CertD} (h : IsRCert w D v c) (hsz : w.heap.size ≤ w'.heap.size) (hk : ∀ p : Addr, D p.block → p.block < w.heap.size → w'.cell? p = w.cell? p) : IsRCert w' D v c := by
  obtain ⟨pv, qv, h1, h2, h3, h4, h5⟩ := h
  exact ⟨pv, qv, h1, h2, h3, h4.keep hsz hk, h5.keep hsz hk⟩
theorem IsRCert.imp {w : World} {D D' : Nat → Prop} {v : Value} {c : CertD} (h : IsRCert w D v c) (hD : ∀ b, D b → b < w.heap.size → D' b) : IsRCert w D' v c := by
  obtain ⟨pv, qv, h1, h2, h3, h4, h5⟩ := h
  exact ⟨pv, qv, h1, h2, h3, h4.imp hD, h5.imp hD⟩
theorem IsRCert.ext {w w' : World} {D : Nat → Prop} {v : Value} {c : CertD} (h : IsRCert w D v c) (hb : Below w.heap.size w w') : IsRCert w' D v c := h.keep hb.size fun _ _ hp => hb.cell hp
theorem IsRCert.drew {w : World} {D : Nat → Prop} {v : Value} {c : CertD} (h : IsRCert w D v c) : IsRCert w.drew D v c := h.keep (Nat.le_refl _) fun _ _ _ => rfl
theorem IsRCert.alloc {w : World} {D : Nat → Prop} {v : Value} {c : CertD} (h : IsRCert w D v c) (o : Obj) : IsRCert (w.alloc o) D v c := h.keep (by simp) fun p _ hp => World.cell?_alloc_lt w o p hp
theorem IsRCert.upd {g : Nat} {w w' : World} {D : Nat → Prop} {v : Value} {c : CertD} (h : IsRCert w D v c) (hU : Upd g w w') (hD : ∀ b, D b → b < w.heap.size → b ≠ g) : IsRCert w' D v c := h.keep (Nat.le_of_eq hU.size.symm) fun _ h1 h2 => hU.cell (hD _ h1 h2)
end Go.Proofs.YtmlkgaiphpimiaaDoor
namespace Go.Proofs.YtmlkgaiphpimiaaDoor
open Go.RowKit
attribute [local go_sem ↓] Go.wp_at_zero Go.wp_at_succ
set_option maxRecDepth 20000

/-- slices.Equal on slices of int -/
theorem sleq_any (u v : Value) (l m : List Int) (w : World) (D E : Nat → Prop) (hu : Sl w D 1 u l.length (ints l)) (hv : Sl w E 1 v m.length (ints m)) :
    Calls Tryd.prog 19 #[u, v] w (Ret (fun x _ => x = .bool (l == m)) w) := by
  obtain ⟨A, c, rfl, h1, h2⟩ := hu.shape
  obtain ⟨A', c', rfl, h3, h4⟩ := hv.shape
  by_cases hlen : l.length = m.length
  · rcases Nat.eq_zero_or_pos l.length with h0 | h0
    · obtain rfl : l = [] := List.eq_nil_of_length_eq_zero h0
      obtain rfl : m = [] := List.eq_nil_of_length_eq_zero (by simpa using hlen.symm)
      refine (Tryd.slices_Equal_int_empty A A' c 0 c' w (by omega)).mono ?_
      rintro e w' ⟨rfl, rfl⟩
      exact Ret.mk rfl (Below.refl _ _)
    · obtain ⟨b, o, rfl, _, _, hc⟩ := hu.int (k := 0) h0
      obtain ⟨b', o', rfl, _, _, hc'⟩ := hv.int (k := 0) (by omega)
      refine (Tryd.slices_Equal_int b o l.length c b' o' m.length c' l m w (Nat.le_refl _) (Nat.le_refl _) (by omega) (by omega) hc hc').mono ?_
      rintro e w' ⟨rfl, q, rfl⟩
      rw [List.take_length, List.take_length]
      exact Ret.mk rfl (bel_drewN (Below.refl _ _) _)
  · refine (Tryd.slices_Equal_int_lens A A' l.length c m.length c' w hlen).mono ?_
    rintro e w' ⟨rfl, rfl⟩
    refine Ret.mk ?_ (Below.refl _ _)
    have : (l == m) = false := by rw [beq_eq_false_iff_ne]; rintro rfl; exact hlen rfl
    rw [this]

end Go.Proofs.YtmlkgaiphpimiaaDoor
namespace Go.Proofs.YtmlkgaiphpimiaaDoor
open Go.RowKit
attribute [local go_sem ↓] Go.wp_at_zero Go.wp_at_succ
set_option maxRecDepth 20000
set_option exponentiation.threshold 5000

theorem sl_pair {w : World} {D : Nat → Prop} {n c b o j : Nat} {L : List (Nat × Nat)} (h : Sl w D 2 (.slice (some ⟨b, o, none⟩) n c) n (pcells L)) (hj : j < L.length) : w.rangeAt b (o + j * 2) [.int .i64 ((L.getD j (0, 0)).1 : Nat), .int .i64 ((L.getD j (0, 0)).2 : Nat)] := fun i v hi => by
  obtain ⟨h1, h2⟩ := pcells_at L j hj
  match i, hi with
  | 0, hi =>
    obtain rfl := Option.some.inj (show some _ = some v from hi)
    have h3 := sl_cell (o := o) (b := b) (xs := pcells L) h h1
    exact h3
  | 1, hi =>
    obtain rfl := Option.some.inj (show some _ = some v from hi)
    have h3 := sl_cell (o := o) (b := b) (xs := pcells L) h h2
    rw [← Nat.add_assoc] at h3
    exact h3
  | i + 2, hi => simp at hi
theorem peq_any {w0 : World} {D E : Nat → Prop} {u v : Value} {L M : List (Nat × Nat)} (hu : Sl w0 D 2 u L.length (pcells L)) (hv : Sl w0 E 2 v M.length (pcells M)) (hl : L.length ≤ 1000000) :
    Calls Tryd.prog 30 #[u, v] w0 (Ret (fun x _ => x = .bool (decide (L = M))) w0) := by
  obtain ⟨A, c, rfl, _, _⟩ := hu.shape
  obtain ⟨B, d, rfl, _, _⟩ := hv.shape
  obtain ⟨K, k1, k2, hS⟩ : ∃ K : (Nat → Prop) → World → Prop, (∀ D w, K D w → Sl w D 2 (.slice A L.length c) L.length (pcells L)) ∧ (∀ D w, K D w → Sl w D 2 (.slice B M.length d) M.length (pcells M)) ∧ St w0 w0 [] K := ⟨_, fun _ _ h => h.1, fun _ _ h => h.2, St.start (D := fun _ => True) ((stable_sl (by decide)).and (stable_sl (by decide))) ⟨hu.imp fun _ _ _ => trivial, hv.imp fun _ _ _ => trivial⟩⟩
  clear hu hv
  by_cases hlm : L.length = M.length
  · have HE : Hid ((∀ t, t < L.length → L.getD t (0, 0) = M.getD t (0, 0)) → L = M) := Lib.hid fun h => List.ext_getElem hlm fun i h1 h2 => by
      have := h i h1
      rwa [List.getD_eq_getElem?_getD, List.getD_eq_getElem?_getD, List.getElem?_eq_getElem h1, List.getElem?_eq_getElem h2] at this
    go_enter Tryd.func30, Tryd.ntmps30
    go_wp2_with (first | ((with_reducible show wpList _ _ _ (⟨_, .binOp _ _ _ _ _, _, _, _, _⟩ :: _) _ _); (first | ((with_reducible show wpList _ _ _ (⟨_, .binOp .lss _ _ _ _, _, _, _, _⟩ :: _) _ _); refine st_lss rfl _ _ _ _ rfl _ _ _ rfl rfl (fun h_ => ?_) (fun h_ => ?_)) | ((with_reducible show wpList _ _ _ (⟨_, .binOp .leq _ _ _ _, _, _, _, _⟩ :: _) _ _); refine st_leq rfl _ _ _ _ rfl _ _ _ rfl rfl (fun h_ => ?_) (fun h_ => ?_)) | ((with_reducible show wpList _ _ _ (⟨_, .binOp .gtr _ _ _ _, _, _, _, _⟩ :: _) _ _); refine st_gtr rfl _ _ _ _ rfl _ _ _ rfl rfl (fun h_ => ?_) (fun h_ => ?_)) | ((with_reducible show wpList _ _ _ (⟨_, .binOp .geq _ _ _ _, _, _, _, _⟩ :: _) _ _); refine st_geq rfl _ _ _ _ rfl _ _ _ rfl rfl (fun h_ => ?_) (fun h_ => ?_)) | ((with_reducible show wpList _ _ _ (⟨_, .binOp .eql _ _ _ _, _, _, _, _⟩ :: _) _ _); refine st_eql rfl _ _ _ _ rfl _ _ _ rfl rfl (fun h_ => ?_) (fun h_ => ?_)) | ((with_reducible show wpList _ _ _ (⟨_, .binOp .neq _ _ _ _, _, _, _, _⟩ :: _) _ _); refine st_neq rfl _ _ _ _ rfl _ _ _ rfl rfl (fun h_ => ?_) (fun h_ => ?_))) <;> go_prune))
    go_loopw [13] (fun i wr => ∃ j : Nat, j ≤ L.length ∧ i = .int .i64 (j : Nat) ∧ Hid (∀ t, t < j → L.getD t (0, 0) = M.getD t (0, 0)) ∧ St w0 wr [] K) (fun i _ => L.length - (intOf i).toNat)
    case atStart => exact ⟨0, by omega, rfl, Lib.hid (fun t h => absurd h (by omega)), hS⟩
    case round =>
      clear hS
      obtain ⟨j, hj, rfl, HJ, hS⟩ := hrel
      by_cases hlj : j < L.length
      · have hmj : j < M.length := by omega
        obtain ⟨b1, o1, rfl⟩ : ∃ b o, A = some ⟨b, o, none⟩ := by
          obtain ⟨_, A2, c2, e2, _, _, h5⟩ := k1 _ _ hS.ro
          obtain ⟨b, o, h6, _⟩ := h5 (by omega)
          injection e2 with e2
          exact ⟨b, o, e2.trans h6⟩
        obtain ⟨b2, o2, rfl⟩ : ∃ b o, B = some ⟨b, o, none⟩ := by
          obtain ⟨_, A2, c2, e2, _, _, h5⟩ := k2 _ _ hS.ro
          obtain ⟨b, o, h6, _⟩ := h5 (by omega)
          injection e2 with e2
          exact ⟨b, o, e2.trans h6⟩
        have p1 := Lib.hid (fun (w : World) (h : K (Free []) w) => sl_pair (k1 _ _ h) hlj)
        have p2 := Lib.hid (fun (w : World) (h : K (Free []) w) => sl_pair (k2 _ _ h) hmj)
        have HJ2 : Hid (L.getD j (0, 0) = M.getD j (0, 0) → ∀ t, t < j + 1 → L.getD t (0, 0) = M.getD t (0, 0)) := Lib.hid fun h t ht => if e : t = j then e ▸ h else HJ.out t (by omega)
        have HNE : Hid (L.getD j (0, 0) ≠ M.getD j (0, 0) → ¬ L = M) := Lib.hid fun h e => h (by rw [e])
        generalize L.getD j (0, 0) = x at *
        generalize M.getD j (0, 0) = y at *
        go_wp2_with (first | ((with_reducible show wpList _ _ _ (⟨_, .binOp _ _ _ _ _, _, _, _, _⟩ :: _) _ _); (first | ((with_reducible show wpList _ _ _ (⟨_, .binOp .lss _ _ _ _, _, _, _, _⟩ :: _) _ _); refine st_lss rfl _ _ _ _ rfl _ _ _ rfl rfl (fun h_ => ?_) (fun h_ => ?_)) | ((with_reducible show wpList _ _ _ (⟨_, .binOp .leq _ _ _ _, _, _, _, _⟩ :: _) _ _); refine st_leq rfl _ _ _ _ rfl _ _ _ rfl rfl (fun h_ => ?_) (fun h_ => ?_)) | ((with_reducible show wpList _ _ _ (⟨_, .binOp .gtr _ _ _ _, _, _, _, _⟩ :: _) _ _); refine st_gtr rfl _ _ _ _ rfl _ _ _ rfl rfl (fun h_ => ?_) (fun h_ => ?_)) | ((with_reducible show wpList _ _ _ (⟨_, .binOp .geq _ _ _ _, _, _, _, _⟩ :: _) _ _); refine st_geq rfl _ _ _ _ rfl _ _ _ rfl rfl (fun h_ => ?_) (fun h_ => ?_)) | ((with_reducible show wpList _ _ _ (⟨_, .binOp .eql _ _ _ _, _, _, _, _⟩ :: _) _ _); refine st_eql rfl _ _ _ _ rfl _ _ _ rfl rfl (fun h_ => ?_) (fun h_ => ?_)) | ((with_reducible show wpList _ _ _ (⟨_, .binOp .neq _ _ _ _, _, _, _, _⟩ :: _) _ _); refine st_neq rfl _ _ _ _ rfl _ _ _ rfl rfl (fun h_ => ?_) (fun h_ => ?_))) <;> go_prune))
        refine wp_region_typed (fun i__ v w => match i__ with
          | 0 => v = .slice (some ⟨b1, o1, none⟩) M.length c
          | 1 => v = .int .i64 ((j : Nat) : Int)
          | 2 => v = .pointer (some ⟨b1, o1 + (j) * 2, none⟩)
          | 3 => v = .agg #[.int .i64 ((x.1 : Nat) : Int), .int .i64 ((x.2 : Nat) : Int)]
          | 4 => v = .slice (some ⟨b2, o2, none⟩) M.length d
          | 5 => v = .int .i64 ((j : Nat) : Int)
          | 6 => v = .pointer (some ⟨b2, o2 + (j) * 2, none⟩)
          | 7 => v = .agg #[.int .i64 ((y.1 : Nat) : Int), .int .i64 ((y.2 : Nat) : Int)]
          | 8 => v = .bool (decide (x ≠ y))
          | _ => True) (by kernel_rfl) (by kernel_rfl) ?mono ⟨?r0, ?r1, ?r2, ?r3, ?r4, ?r5, ?r6, ?r7, ?r8, trivial⟩ ?post
        case mono =>
          intro i v w w' h hb
          match i, h with
          | 0, h => exact h
          | 1, h => exact h
          | 2, h => exact h
          | 3, h => exact h
          | 4, h => exact h
          | 5, h => exact h
          | 6, h => exact h
          | 7, h => exact h
          | 8, h => exact h
          | _ + 9, h => trivial
        case r0 =>
          refine trule fun b__ w hW hold hpre => ⟨fun hwant K hK => ?_, fun hwant => ?_⟩
          · clear hwant
            have e0 : b__.eval (.tmp 0) = .slice (some ⟨b1, o1, none⟩) M.length c := (hold 0 (by kernel_rfl)).trans rfl
            exact opw_move rfl e0 (hK _ _ rfl (Below.refl _ _))
          · rw [want_none rfl] at hwant; cases hwant
        case r1 =>
          refine trule fun b__ w hW hold hpre => ⟨fun hwant K hK => ?_, fun hwant => ?_⟩
          · clear hwant
            have e5 : b__.eval (.tmp 5) = .int .i64 ((j : Nat) : Int) := (hold 5 (by kernel_rfl)).trans rfl
            exact opw_move rfl e5 (hK _ _ rfl (Below.refl _ _))
          · rw [want_none rfl] at hwant; cases hwant
        case r2 =>
          refine trule fun b__ w hW hold hpre => ⟨fun hwant K hK => ?_, fun hwant => ?_⟩
          · clear hwant
            have e16 : b__.eval (.tmp 16) = .slice (some ⟨b1, o1, none⟩) M.length c := hpre ⟨0, _⟩ (Array.mem_of_getElem? (i := 0) rfl) rfl _ _ rfl rfl
            have e17 : b__.eval (.tmp 17) = .int .i64 ((j : Nat) : Int) := hpre ⟨1, _⟩ (Array.mem_of_getElem? (i := 1) rfl) rfl _ _ rfl rfl
            exact opw_iaddr rfl e16 e17 (run_iaddr_lit (m := j) Tryd.underlying25 (by kernel_rfl) (by omega) (by omega)) (hK _ _ rfl (Below.refl _ _))
          · rw [want_none rfl] at hwant; cases hwant
        case r3 =>
          refine trule fun b__ w hW hold hpre => ⟨fun hwant K hK => ?_, fun hwant => ?_⟩
          · clear hwant
            have e18 : b__.eval (.tmp 18) = .pointer (some ⟨b1, o1 + (j) * 2, none⟩) := hpre ⟨2, _⟩ (Array.mem_of_getElem? (i := 0) rfl) rfl _ _ rfl rfl
            exact opw_mid (cs := [_, _]) rfl e18 (p1.out _ (hS.ext (undrew hW)).ro) Tryd.underlying50 rfl (by kernel_rfl) (hK _ _ rfl (Below.refl _ _))
          · rw [want_none rfl] at hwant; cases hwant
        case r4 =>
          refine trule fun b__ w hW hold hpre => ⟨fun hwant K hK => ?_, fun hwant => ?_⟩
          · clear hwant
            have e1 : b__.eval (.tmp 1) = .slice (some ⟨b2, o2, none⟩) M.length d := (hold 1 (by kernel_rfl)).trans rfl
            exact opw_move rfl e1 (hK _ _ rfl (Below.refl _ _))
          · rw [want_none rfl] at hwant; cases hwant
        case r5 =>
          refine trule fun b__ w hW hold hpre => ⟨fun hwant K hK => ?_, fun hwant => ?_⟩
          · clear hwant
            have e5 : b__.eval (.tmp 5) = .int .i64 ((j : Nat) : Int) := (hold 5 (by kernel_rfl)).trans rfl
            exact opw_move rfl e5 (hK _ _ rfl (Below.refl _ _))
          · rw [want_none rfl] at hwant; cases hwant
        case r6 =>
          refine trule fun b__ w hW hold hpre => ⟨fun hwant K hK => ?_, fun hwant => ?_⟩
          · clear hwant
            have e20 : b__.eval (.tmp 20) = .slice (some ⟨b2, o2, none⟩) M.length d := hpre ⟨4, _⟩ (Array.mem_of_getElem? (i := 0) rfl) rfl _ _ rfl rfl
            have e21 : b__.eval (.tmp 21) = .int .i64 ((j : Nat) : Int) := hpre ⟨5, _⟩ (Array.mem_of_getElem? (i := 1) rfl) rfl _ _ rfl rfl
            exact opw_iaddr rfl e20 e21 (run_iaddr_lit (m := j) Tryd.underlying25 (by kernel_rfl) (by omega) (by omega)) (hK _ _ rfl (Below.refl _ _))
          · rw [want_none rfl] at hwant; cases hwant
        case r7 =>
          refine trule fun b__ w hW hold hpre => ⟨fun hwant K hK => ?_, fun hwant => ?_⟩
          · clear hwant
            have e22 : b__.eval (.tmp 22) = .pointer (some ⟨b2, o2 + (j) * 2, none⟩) := hpre ⟨6, _⟩ (Array.mem_of_getElem? (i := 0) rfl) rfl _ _ rfl rfl
            exact opw_mid (cs := [_, _]) rfl e22 (p2.out _ (hS.ext (undrew hW)).ro) Tryd.underlying50 rfl (by kernel_rfl) (hK _ _ rfl (Below.refl _ _))
          · rw [want_none rfl] at hwant; cases hwant
        case r8 =>
          refine trule fun b__ w hW hold hpre => ⟨fun hwant K hK => ?_, fun hwant => ?_⟩
          · clear hwant
            have e19 : b__.eval (.tmp 19) = .agg #[.int .i64 ((x.1 : Nat) : Int), .int .i64 ((x.2 : Nat) : Int)] := hpre ⟨3, _⟩ (Array.mem_of_getElem? (i := 0) rfl) rfl _ _ rfl rfl
            have e23 : b__.eval (.tmp 23) = .agg #[.int .i64 ((y.1 : Nat) : Int), .int .i64 ((y.2 : Nat) : Int)] := hpre ⟨7, _⟩ (Array.mem_of_getElem? (i := 1) rfl) rfl _ _ rfl rfl
            exact opw_bin (vx := .agg #[.int .i64 ((x.1 : Nat) : Int), .int .i64 ((x.2 : Nat) : Int)]) (vy := .agg #[.int .i64 ((y.1 : Nat) : Int), .int .i64 ((y.2 : Nat) : Int)]) (v := .bool (decide (x ≠ y))) rfl e19 e23 rfl (ne_pairs _ _ _) (hK _ _ rfl (Below.refl _ _))
          · rw [want_none rfl] at hwant; cases hwant
        case post =>
          intro b__ wz hW hdf hsz hold hT
          have e16 : b__.eval (.tmp 16) = .slice (some ⟨b1, o1, none⟩) M.length c := hT 0 _ 16 rfl rfl
          have e17 : b__.eval (.tmp 17) = .int .i64 ((j : Nat) : Int) := hT 1 _ 17 rfl rfl
          have e18 : b__.eval (.tmp 18) = .pointer (some ⟨b1, o1 + (j) * 2, none⟩) := hT 2 _ 18 rfl rfl
          have e19 : b__.eval (.tmp 19) = .agg #[.int .i64 ((x.1 : Nat) : Int), .int .i64 ((x.2 : Nat) : Int)] := hT 3 _ 19 rfl rfl
          have e20 : b__.eval (.tmp 20) = .slice (some ⟨b2, o2, none⟩) M.length d := hT 4 _ 20 rfl rfl
          have e21 : b__.eval (.tmp 21) = .int .i64 ((j : Nat) : Int) := hT 5 _ 21 rfl rfl
          have e22 : b__.eval (.tmp 22) = .pointer (some ⟨b2, o2 + (j) * 2, none⟩) := hT 6 _ 22 rfl rfl
          have e23 : b__.eval (.tmp 23) = .agg #[.int .i64 ((y.1 : Nat) : Int), .int .i64 ((y.2 : Nat) : Int)] := hT 7 _ 23 rfl rfl
          have e24 : b__.eval (.tmp 24) = .bool (decide (x ≠ y)) := hT 8 _ 24 rfl rfl
          obtain ⟨vs, hvs, hb⟩ := frame_of hdf hsz hold
          replace e16 : vs 16 = .slice (some ⟨b1, o1, none⟩) M.length c := (hvs 16).symm.trans e16
          replace e17 : vs 17 = .int .i64 ((j : Nat) : Int) := (hvs 17).symm.trans e17
          replace e18 : vs 18 = .pointer (some ⟨b1, o1 + (j) * 2, none⟩) := (hvs 18).symm.trans e18
          replace e19 : vs 19 = .agg #[.int .i64 ((x.1 : Nat) : Int), .int .i64 ((x.2 : Nat) : Int)] := (hvs 19).symm.trans e19
          replace e20 : vs 20 = .slice (some ⟨b2, o2, none⟩) M.length d := (hvs 20).symm.trans e20
          replace e21 : vs 21 = .int .i64 ((j : Nat) : Int) := (hvs 21).symm.trans e21
          replace e22 : vs 22 = .pointer (some ⟨b2, o2 + (j) * 2, none⟩) := (hvs 22).symm.trans e22
          replace e23 : vs 23 = .agg #[.int .i64 ((y.1 : Nat) : Int), .int .i64 ((y.2 : Nat) : Int)] := (hvs 23).symm.trans e23
          replace e24 : vs 24 = .bool (decide (x ≠ y)) := (hvs 24).symm.trans e24
          subst hb
          clear hvs hold hT hdf hsz
          simp only [setAll, Act.put, List.setIfInBounds_toArray, List.set_cons_zero, List.set_cons_succ, List.getElem_toArray, List.getElem_cons_succ, List.getElem_cons_zero]
          rw [e24]
          replace hS := hS.ext hW
          by_cases hxy : x = y
          · have H3 := Lib.hid (HJ2.out hxy)
            rw [decide_eq_false (by simp [hxy])]
            clear hW e16 e17 e18 e19 e20 e21 e22 e23 e24 hxy
            go_wp2_with fail
            exact ⟨⟨j + 1, hlj, by go_num, H3, hS⟩, by simp [intOf]; omega⟩
          · have H3 := Lib.hid (HNE.out hxy)
            rw [decide_eq_true hxy]
            clear hW e16 e17 e18 e19 e20 e21 e22 e23 e24 hxy
            go_wp2_with fail
            go_ret
            exact Ret.mk (congrArg Value.bool (decide_eq_false H3.out).symm) hS.below
      · obtain rfl : j = L.length := by omega
        have H3 := Lib.hid (HE.out HJ.out)
        go_wp2_with (first | ((with_reducible show wpList _ _ _ (⟨_, .binOp _ _ _ _ _, _, _, _, _⟩ :: _) _ _); (first | ((with_reducible show wpList _ _ _ (⟨_, .binOp .lss _ _ _ _, _, _, _, _⟩ :: _) _ _); refine st_lss rfl _ _ _ _ rfl _ _ _ rfl rfl (fun h_ => ?_) (fun h_ => ?_)) | ((with_reducible show wpList _ _ _ (⟨_, .binOp .leq _ _ _ _, _, _, _, _⟩ :: _) _ _); refine st_leq rfl _ _ _ _ rfl _ _ _ rfl rfl (fun h_ => ?_) (fun h_ => ?_)) | ((with_reducible show wpList _ _ _ (⟨_, .binOp .gtr _ _ _ _, _, _, _, _⟩ :: _) _ _); refine st_gtr rfl _ _ _ _ rfl _ _ _ rfl rfl (fun h_ => ?_) (fun h_ => ?_)) | ((with_reducible show wpList _ _ _ (⟨_, .binOp .geq _ _ _ _, _, _, _, _⟩ :: _) _ _); refine st_geq rfl _ _ _ _ rfl _ _ _ rfl rfl (fun h_ => ?_) (fun h_ => ?_)) | ((with_reducible show wpList _ _ _ (⟨_, .binOp .eql _ _ _ _, _, _, _, _⟩ :: _) _ _); refine st_eql rfl _ _ _ _ rfl _ _ _ rfl rfl (fun h_ => ?_) (fun h_ => ?_)) | ((with_reducible show wpList _ _ _ (⟨_, .binOp .neq _ _ _ _, _, _, _, _⟩ :: _) _ _); refine st_neq rfl _ _ _ _ rfl _ _ _ rfl rfl (fun h_ => ?_) (fun h_ => ?_))) <;> go_prune))
        go_ret
        exact Ret.mk (congrArg Value.bool (decide_eq_true H3.out).symm) hS.below
  · have HE : Hid (¬ L = M) := Lib.hid fun e => hlm (by rw [e])
    have hlm2 : ¬ ((L.length : Nat) : Int) = ((M.length : Nat) : Int) := by omega
    go_enter Tryd.func30, Tryd.ntmps30
    go_wp2_with (first | ((with_reducible show wpList _ _ _ (⟨_, .binOp _ _ _ _ _, _, _, _, _⟩ :: _) _ _); (first | ((with_reducible show wpList _ _ _ (⟨_, .binOp .lss _ _ _ _, _, _, _, _⟩ :: _) _ _); refine st_lss rfl _ _ _ _ rfl _ _ _ rfl rfl (fun h_ => ?_) (fun h_ => ?_)) | ((with_reducible show wpList _ _ _ (⟨_, .binOp .leq _ _ _ _, _, _, _, _⟩ :: _) _ _); refine st_leq rfl _ _ _ _ rfl _ _ _ rfl rfl (fun h_ => ?_) (fun h_ => ?_)) | ((with_reducible show wpList _ _ _ (⟨_, .binOp .gtr _ _ _ _, _, _, _, _⟩ :: _) _ _); refine st_gtr rfl _ _ _ _ rfl _ _ _ rfl rfl (fun h_ => ?_) (fun h_ => ?_)) | ((with_reducible show wpList _ _ _ (⟨_, .binOp .geq _ _ _ _, _, _, _, _⟩ :: _) _ _); refine st_geq rfl _ _ _ _ rfl _ _ _ rfl rfl (fun h_ => ?_) (fun h_ => ?_)) | ((with_reducible show wpList _ _ _ (⟨_, .binOp .eql _ _ _ _, _, _, _, _⟩ :: _) _ _); refine st_eql rfl _ _ _ _ rfl _ _ _ rfl rfl (fun h_ => ?_) (fun h_ => ?_)) | ((with_reducible show wpList _ _ _ (⟨_, .binOp .neq _ _ _ _, _, _, _, _⟩ :: _) _ _); refine st_neq rfl _ _ _ _ rfl _ _ _ rfl rfl (fun h_ => ?_) (fun h_ => ?_))) <;> go_prune))
    go_ret
    exact Ret.mk (congrArg Value.bool (decide_eq_false HE.out).symm) hS.below
/-- a link more, of a list of links without cycles -/
theorem LinkP.next {w0 w : World} {F : List Fact} {K : (Nat → Prop) → World → Prop} {L M : List (Nat × Nat)} {x : Nat × Nat} {r : Value} {z : Int} (h : LinkP w0 F K L (x.1 : Nat) (x.2 : Nat) r z w) {j : Nat} (hx : M[j]? = some x) (hL : ∀ u, u ∈ L ↔ u ∈ M.take j) (hN : M.Nodup) (hR : ∀ u ∈ M, (1 ≤ u.1 ∧ u.1 < 64) ∧ 1 ≤ u.2 ∧ u.2 < 64) (hA : Acyc M) :
    z = 0 ∧ ∃ L', HOK L' ∧ (∀ u, u ∈ L' ↔ u ∈ M.take (j + 1)) ∧ St w0 w F fun D w => K D w ∧ IsH w D r L' := by
  have hm := List.mem_of_getElem? hx
  have h1 := hR x hm
  have hne := hA.ne hm
  have htk : ∀ u, u ∈ M.take (j + 1) ↔ u ∈ L ++ [x] := fun u => by
    rw [List.take_add_one, hx, List.mem_append, List.mem_append, hL]; simp
  rcases h with ⟨h, _⟩ | ⟨a, b, ha, hb, _, _, _, h⟩
  · exact absurd ⟨⟨by omega, by omega⟩, ⟨by omega, by omega⟩, by omega⟩ h
  · obtain rfl : x = (a, b) := Prod.ext (by show x.1 = a; omega) (by show x.2 = b; omega)
    rcases h with ⟨h, _⟩ | ⟨_, h, _⟩ | ⟨_, hz, L', h3, h4, h5⟩
    · exfalso
      obtain ⟨i, hi, e⟩ := List.getElem_of_mem ((hL _).1 h)
      rw [List.length_take] at hi
      obtain ⟨hj, ej⟩ := List.getElem?_eq_some_iff.1 hx
      rw [List.getElem_take] at e
      exact List.pairwise_iff_getElem.1 hN i j (by omega) hj (by omega) (e.trans ej.symm)
    · exact absurd (hA.sub fun u hu => List.mem_of_mem_take ((htk u).2 hu)) h
    · exact ⟨hz, L', h3, fun u => (h4 u).trans (htk u).symm, h5⟩
end Go.Proofs.YtmlkgaiphpimiaaDoor
