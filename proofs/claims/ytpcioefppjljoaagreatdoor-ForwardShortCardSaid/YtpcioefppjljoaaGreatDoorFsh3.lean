/-
  What the statement needs, part 3.
-/
import Derived.Deep.Cut
import Derived.Deep.CutBlock
import Derived.Deep.MidRow
import Derived.Laws.CopyRow
import Derived.Laws.CopyOwn
import Derived.Laws.IdiomStrings
import Derived.Test.YtpcioefppjljoaaGreatDoorShelf
import Derived.Deep.LoopGhost
import Derived.Lib.MinMax
import Derived.Laws.BitsAllLaws
import Derived.Test.YtpcioefppjljoaaGreatDoorFsh2
namespace Go.Proofs.YtpcioefppjljoaaGreatDoor
section
open Go.RowKit
attribute [local go_sem ↓] Go.wp_at_zero Go.wp_at_succ
set_option maxRecDepth 20000
set_option exponentiation.threshold 5000
structure WG where
 a : Option Value
 b : Option Value
 c : Option Value
 d : Option Value
 e : Bool
def ownP (L : List (Nat × Nat)) : Option Value -> List Aa
 | some v => [.own v 159 2 L.length (A7 L)]
 | none => []
def WG.F (L : List (Nat × Nat)) (x : Nat × Nat) (g : WG) : List Aa := match g.c with
 | some v => [.own v 159 2 (L.length + 1) (A7 (L ++ [x]))]
 | none => ownP L g.a ++ ownP [x] g.b
def NewP (w0 : World) (F : List Aa) (K : (Nat -> Prop) -> World -> Prop) (n : Nat) (M : List (Nat × Nat)) (r : Value) (w : World) : Prop :=
 (¬ Df M /\ r = .tuple #[.pointer none, .int .i64 16] /\ St w0 w F K) \/
 ∃ (p : Value) (L : List (Nat × Nat)), r = .tuple #[p, .int .i64 0] /\ Asc L /\ (∀ x, x ∈ L ↔ x ∈ M) /\ Df L /\ St w0 w F fun D w => K D w /\ G4 w D p n L
theorem NewP.shape {w0 w : World} {F : List Aa} {K : (Nat -> Prop) -> World -> Prop} {n : Nat} {M : List (Nat × Nat)} {r : Value} (h : NewP w0 F K n M r w) : ∃ (p : Value) (e : Int), r = .tuple #[p, .int .i64 e] := by
 rcases h with ⟨_, rfl, _⟩ | ⟨p, L, rfl, _⟩ <;> exact ⟨_, _, rfl⟩
theorem NewP.mono {w0 w : World} {F : List Aa} {K K' : (Nat -> Prop) -> World -> Prop} {n : Nat} {M : List (Nat × Nat)} {r : Value} (h : NewP w0 F K n M r w) (hs : Ao K') (hk : ∀ D w, K D w -> K' D w) : NewP w0 F K' n M r w := by
 rcases h with ⟨h1, h2, h3⟩ | ⟨p, L, h1, h2, h3, h4, h5⟩
 ·exact .inl ⟨h1, h2, h3.mono hs hk⟩
 ·exact .inr ⟨p, L, h1, h2, h3, h4, h5.mono (hs.and Cy) fun D w h => ⟨hk D w h.1, h.2⟩⟩
theorem onew_own {w0 w : World} {F : List Aa} {K : (Nat -> Prop) -> World -> Prop} (n : Nat) (L0 : List (Nat × Nat)) (pv : Value) (hn : n <= 256) (hL : F4 n L0) (hl : L0.length <= 1000000) (hS : St w0 w (.own pv 159 2 L0.length (A7 L0) :: F) K)
  (kt : ∀ D w, K D w -> BM w /\ D 0) :
  Calls Tryz.prog 87 #[.int .i64 (n : Nat), pv] w fun e w' => ∃ v, e = .returned v /\ NewP w0 F K n L0 v w' := by
 have KS := hS.stable
 refine (onew_any n L0 pv hn hL hl (hS.freeze 0 (by decide) rfl) (fun D w h => h.2) fun D w h => kt D w h.1).mono ?_
 rintro e w' (⟨h1, rfl, h2⟩ | ⟨p, L, rfl, h1, h2, h3, h4⟩)
 ·exact ⟨_, rfl, .inl ⟨h1, rfl, h2.mono KS fun _ _ h => h.1⟩⟩
 ·exact ⟨_, rfl, .inr ⟨p, L, rfl, h1, h2, h3, h4.mono (KS.and Cy) fun _ _ h => ⟨h.1.1, h.2⟩⟩⟩
section
variable {w0 : World} {F : List Aa} {K : (Nat -> Prop) -> World -> Prop} {n : Nat} {L : List (Nat × Nat)} {x : Nat × Nat} {p p' : World × WG}
def WJ (w0 : World) (F : List Aa) (K : (Nat -> Prop) -> World -> Prop) (n : Nat) (L : List (Nat × Nat)) (x : Nat × Nat) (p : World × WG) : Prop := match p.2.d with
 | none => St w0 p.1 (p.2.F L x ++ F) K
 | some r => NewP w0 F K n (L ++ [x]) r p.1
def WR (w0 : World) (F : List Aa) (K : (Nat -> Prop) -> World -> Prop) (n : Nat) (L : List (Nat × Nat)) (x : Nat × Nat) (p p' : World × WG) : Prop :=
 (WJ w0 F K n L x p -> WJ w0 F K n L x p') /\ (∀ v, p.2.a = some v -> p'.2.a = some v) /\ (∀ v, p.2.b = some v -> p'.2.b = some v) /\ (∀ v, p.2.c = some v -> p'.2.c = some v) /\ (∀ v, p.2.d = some v -> p'.2.d = some v) /\ (p.2.e = true -> p'.2.e = true)
theorem WR.refl (p : World × WG) : WR w0 F K n L x p p := ⟨id, fun _ h => h, fun _ h => h, fun _ h => h, fun _ h => h, id⟩
theorem WR.trans (a b c : World × WG) (h : WR w0 F K n L x a b) (k : WR w0 F K n L x b c) : WR w0 F K n L x a c :=
 ⟨fun y => k.1 (h.1 y), fun g y => k.2.1 g (h.2.1 g y), fun g y => k.2.2.1 g (h.2.2.1 g y), fun g y => k.2.2.2.1 g (h.2.2.2.1 g y), fun g y => k.2.2.2.2.1 g (h.2.2.2.2.1 g y), fun y => k.2.2.2.2.2 (h.2.2.2.2.2 y)⟩
theorem WJ.st (h : WJ w0 F K n L x p) (hd : p.2.d = none) : St w0 p.1 (p.2.F L x ++ F) K := by unfold WJ at h; rw [hd] at h; exact h
theorem WJ.mk {w : World} {g : WG} (hd : g.d = none) (h : St w0 w (g.F L x ++ F) K) : WJ w0 F K n L x (w, g) := by unfold WJ; dsimp only; rw [hd]; exact h
theorem WJ.mkA {w' : World} {v : Value} (h : WJ w0 F K n L x p) (hn : p.2.a = none /\ p.2.c = none /\ p.2.d = none) (hs : St p.1 w' [.own v 159 2 L.length (A7 L)] fun _ _ => True) : WJ w0 F K n L x (w', { p.2 with a := some v }) := by
 obtain ⟨w, a, b, c, d, e⟩ := p
 obtain ⟨rfl, rfl, rfl⟩ := hn
 exact WJ.mk rfl (St.new (h.st rfl) hs.below (.own v 159 2 L.length (A7 L)) (hs.own 0 rfl))
theorem WJ.mkB {w' : World} (h : WJ w0 F K n L x p) (hn : p.2.b = none /\ p.2.c = none /\ p.2.d = none) (hb : Below p.1.heap.size p.1 w') (hx : C3 w' p.1.heap.size 159 #[.int .i64 (x.1 : Nat), .int .i64 (x.2 : Nat)]) : WJ w0 F K n L x (w', { p.2 with b := some (.slice (some ⟨p.1.heap.size, 0, none⟩) 1 1) }) := by
 obtain ⟨w, a, b, c, d, e⟩ := p
 obtain ⟨rfl, rfl, rfl⟩ := hn
 have h1 := St.new (h.st rfl) hb (.own (.slice (some ⟨w.heap.size, 0, none⟩) 1 1) 159 2 [x].length (A7 [x])) ⟨rfl, .inr ⟨w.heap.size, 1, _, rfl, Nat.le_refl _, hx, Nat.le_refl _, by simp [maxLen], rfl, rfl⟩⟩
 refine WJ.mk rfl ?_
 cases a with
 | none => exact h1
 | some v => exact h1.swap
theorem WJ.mkC {w' : World} {u v l : Value} (h : WJ w0 F K n L x p) (hn : p.2.c = none /\ p.2.d = none) (ha : p.2.a = some v) (hb : p.2.b = some l) (h1 : w'.ownsRow w0.heap.size 159 2 u (L.length + 1) (A7 L ++ A7 [x])) (h2 : p.1.grownBy w' v.ownBlock) (h3 : ∀ k, u.ownBlock = some k -> v.ownBlock = some k \/ p.1.heap.size <= k) : WJ w0 F K n L x (w', { p.2 with c := some u }) := by
 obtain ⟨w, a, b, c, d, e⟩ := p
 obtain ⟨rfl, rfl⟩ := hn
 dsimp only at ha hb
 subst ha hb
 refine WJ.mk rfl ?_
 rw [<- Ch] at h1
 exact ((h.st rfl).upd 0 rfl (.own u 159 2 (L.length + 1) (A7 (L ++ [x]))) h2 h1 h3).sub (.cons_cons _ (.cons _ (List.Sublist.refl _)))
theorem WJ.own (h : WJ w0 F K n L x p) (hn : p.2.c = none /\ p.2.d = none) {v l : Value} (ha : p.2.a = some v) (hb : p.2.b = some l) : p.1.ownsRow w0.heap.size 159 2 v L.length (A7 L) /\ p.1.ownsRow w0.heap.size 159 2 l 1 (A7 [x]) /\ w0.heap.size <= p.1.heap.size := by
 obtain ⟨w, a, b, c, d, e⟩ := p
 obtain ⟨rfl, rfl⟩ := hn
 dsimp only at ha hb
 subst ha hb
 exact ⟨(h.st rfl).own 0 rfl, (h.st rfl).own 1 rfl, (h.st rfl).size⟩
theorem WJ.last (h : WJ w0 F K n L x p) (hd : p.2.d = none) {v : Value} (hc : p.2.c = some v) : St w0 p.1 (.own v 159 2 (L ++ [x]).length (A7 (L ++ [x])) :: F) K := by
 obtain ⟨w, a, b, c, d, e⟩ := p
 dsimp only at hd hc
 subst hd hc
 have := h.st rfl
 rw [List.length_append]
 exact this
end
theorem owith_any {w0 w : World} {F : List Aa} {K : (Nat -> Prop) -> World -> Prop} (p : Value) (n : Nat) (L : List (Nat × Nat)) (a b : Nat) (hn : n <= 256) (hL : F4 n L) (hl : L.length <= 900000) (ha : a < n) (hb : b < n) (hS : St w0 w F K)
  (ko : ∀ D w, K D w -> G4 w D p n L) (kt : ∀ D w, K D w -> BM w /\ D 0) :
  Calls Tryz.prog 131 #[p, .int .i64 (a : Nat), .int .i64 (b : Nat)] w fun e w' =>
   ((a, b) ∈ L /\ e = .returned (.tuple #[.pointer none, .int .i64 5]) /\ St w0 w' F K) \/ (a, b) ∉ L /\ ∃ v, e = .returned v /\ NewP w0 F K n (L ++ [(a, b)]) v w' := by
 have KS := hS.stable
 obtain ⟨q, gp, av, bv, sv, xa, xb, rfl, hX⟩ := ko _ _ hS.ro
 have hS := hS.add Ee hX fun b h _ => h
 clear hX
 have HIN := Lib.hid (fun (c : Int) (w : World) (hc : 0 <= c /\ c < (n : Int)) (h : OrdX q gp av bv sv xa xb n L (DZ F) w) => show Calls Tryz.prog 143 #[.pointer (some ⟨q, 0, none⟩), .int .i64 c] w (AE (fun x _ => x = .bool true) w) from by rw [<- decide_eq_true hc]; exact oin_any h.ord _)
 have HCN := Lib.hid (fun (w : World) (h : OrdX q gp av bv sv xa xb n L (DZ F) w) => show Calls Tryz.prog 152 #[.slice (some ⟨gp, 0, none⟩) L.length L.length, .agg #[.int .i64 (a : Nat), .int .i64 (b : Nat)]] w (AE (fun r _ => r = .bool (decide ((a, b) ∈ L))) w) from pcontains_any (by omega) h.2.1 (a, b))
 have HL := Lib.hid hL
 clear hL
 go_enter Tryz.func131, Tryz.ntmps131
 go_wp2_with (first
  | ((with_reducible refine qB ?_); refine qc ?_ ?_ <;> intro h_ <;> go_prune)
  | (go_at_call 143; refine (HIN.out _ _ (by omega) hS.ro.2).mono ?_; rintro r_ w_ ⟨_, rfl, rfl, hb_⟩; replace hS := hS.ext hb_; clear hb_)
  | ((with_reducible refine qA 23 ?_); refine D5 hS rfl _ _ rfl _ rfl _ (fun D w h => h.2.1.cell 1 rfl) (by kernel_rfl) ?_)
  | (go_at_call 152; refine (HCN.out _ hS.ro.2).mono ?_; rintro r_ w_ ⟨_, rfl, rfl, hb_⟩; replace hS := hS.ext hb_; clear hb_; by_cases hx : (a, b) ∈ L <;> (first | rw [decide_eq_true hx] | rw [decide_eq_false hx])))
 ·go_ret2
  exact .inl ⟨hx, rfl, hS.mono KS fun _ _ h => h.1⟩
 ·obtain ⟨KX, k1, k2, hS⟩ : ∃ KX : (Nat -> Prop) -> World -> Prop, (∀ D w, KX D w -> K D w) /\ (∀ D w, KX D w -> OrdX q gp av bv sv xa xb n L D w) /\ St w0 w_ F KX := ⟨_, fun _ _ h => h.1, fun _ _ h => h.2, hS⟩
  have hJ0 : WJ w0 F KX n L (a, b) (w_.drew, ⟨none, none, none, none, false⟩) := WJ.mk rfl hS.drew
  have hRr := @WR.refl w0 F KX n L (a, b)
  have hRt := @WR.trans w0 F KX n L (a, b)
  have hLx : Hid (F4 n (L ++ [(a, b)])) := Lib.hid fun y hy => by
   rcases List.mem_append.1 hy with h | h
   ·exact HL.out y h
   ·rw [List.mem_singleton] at h; subst h; exact ⟨ha, hb⟩
  replace ha := Lib.hid ha
  replace hb := Lib.hid hb
  clear HIN HCN
  refine ER (WR w0 F KX n L (a, b)) (fun i p => match i with | 3 => p.2.e = false /\ p.2.d = none | 5 => p.2.a = none /\ p.2.c = none /\ p.2.d = none | 9 => p.2.b = none /\ p.2.c = none /\ p.2.d = none | 10 => p.2.c = none /\ p.2.d = none | 11 => p.2.d = none | _ => True) (⟨none, none, none, none, false⟩) hRr hRt [.q q 0, .q q 0, .q q 0, .s (fun v w => w.2.e = true /\ v = .int .i64 ((n : Nat) : Int)) fun v w w' h hb => ⟨hb.2.2.2.2.2 h.1, h.2⟩, .q q 0, .s (fun v w => w.2.a = some v) fun v w w' h hb => hb.2.1 _ h, .n ((a : Nat) : Int), .n ((b : Nat) : Int), .i (.agg #[.int .i64 ((a : Nat) : Int), .int .i64 ((b : Nat) : Int)]), .s (fun v w => w.2.b = some v) fun v w w' h hb => hb.2.2.1 _ h, .s (fun v w => w.2.c = some v) fun v w w' h hb => hb.2.2.2.1 _ h, .s (fun v w => w.2.d = some v /\ ∃ (p : Value) (e : Int), v = .tuple #[p, .int .i64 e]) fun v w w' h hb => ⟨hb.2.2.2.2.1 _ h.1, h.2⟩, .s (fun v w => ∃ (p : Value) (e : Int), w.2.d = some (.tuple #[p, .int .i64 e]) /\ v = p) fun v w w' h hb => by obtain ⟨p, e, h1, h2⟩ := h; exact ⟨p, e, hb.2.2.2.2.1 _ h1, h2⟩, .s (fun v w => ∃ (p : Value) (e : Int), w.2.d = some (.tuple #[p, .int .i64 e]) /\ v = .int .i64 e) fun v w w' h hb => by obtain ⟨p, e, h1, h2⟩ := h; exact ⟨p, e, hb.2.2.2.2.1 _ h1, h2⟩, .s (fun v w => ∃ (p : Value) (e : Int), w.2.d = some (.tuple #[p, .int .i64 e]) /\ v = p) fun v w w' h hb => by obtain ⟨p, e, h1, h2⟩ := h; exact ⟨p, e, hb.2.2.2.2.1 _ h1, h2⟩, .s (fun v w => ∃ (p : Value) (e : Int), w.2.d = some (.tuple #[p, .int .i64 e]) /\ v = .int .i64 e) fun v w w' h hb => by obtain ⟨p, e, h1, h2⟩ := h; exact ⟨p, e, hb.2.2.2.2.1 _ h1, h2⟩] ?_ ⟨uM, uN, uF, ?_, uM, ?_, uM, uM, ?_, ?_, ?_, ?_, ?_, ?_, uA, uA, trivial⟩ ?_
  ·first | assumption | (intro i; (try dsimp only); split <;> first | trivial | assumption | (left; assumption))
  ·refine uG fun b__ w hW hN hE K hK => ?_
   have e30 := hE 30
   exact Ab rfl e30 (by kernel_rfl) ((k2 _ _ ((hW.1 hJ0).st hN.2).ro).1.cell 0 rfl) (hK (.int .i64 (n : Nat)) (w.1, { w.2 with e := true }) ⟨rfl, rfl⟩ ⟨⟨fun hj => hj, (fun _ h => h), (fun _ h => h), (fun _ h => h), (fun _ h => h), (fun _ => rfl)⟩, fun j hj hn => by split <;> first | exact absurd rfl hj | exact hn | trivial⟩)
  ·refine uG fun b__ w hW hN hE K hK => ?_
   have e32 := hE 32
   exact BW rfl (by kernel_rfl) (by simp only [List.map_cons, List.map_nil, e32]) (I7 (k2 _ _ ((hW.1 hJ0).st hN.2.2).ro).ord (by omega)) fun e w' ⟨v, he, hs⟩ => ⟨v, he, hK v (w', { w.2 with a := some v }) rfl ⟨⟨fun hj => hj.mkA hN hs, (fun g h => by rw [hN.1] at h; cases h), (fun _ h => h), (fun _ h => h), (fun _ h => h), id⟩, fun j hj hn => by split <;> first | exact absurd rfl hj | exact hn | trivial⟩⟩
  ·refine uG fun b__ w hW hN hE K hK => ?_
   have e34 := hE 34
   have e35 := hE 35
   exact Cp rfl (ps := [(0, .int .i64 ((a : Nat) : Int)), (1, .int .i64 ((b : Nat) : Int))]) (cells := #[.int .i64 ((a : Nat) : Int), .int .i64 ((b : Nat) : Int)]) (by simp [e34, e35]) (by kernel_rfl) (hK _ _ rfl ⟨hRr _, fun _ _ h => h⟩)
  ·refine uG fun b__ w hW hN hE K hK => ?_
   have e36 := hE 36
   exact BV rfl Tryz.underlying32 (ps := [(0, .agg #[.int .i64 ((a : Nat) : Int), .int .i64 ((b : Nat) : Int)])]) (cells := #[.int .i64 ((a : Nat) : Int), .int .i64 ((b : Nat) : Int)]) (by simp [e36]) (by kernel_rfl) fun w' hbx hbel => hK _ (w', { w.2 with b := some (.slice (some ⟨w.1.heap.size, 0, none⟩) 1 1) }) rfl ⟨⟨fun hj => hj.mkB hN hbel hbx, (fun _ h => h), (fun g h => by rw [hN.1] at h; cases h), (fun _ h => h), (fun _ h => h), id⟩, fun j hj hn => by split <;> first | exact absurd rfl hj | exact hn | trivial⟩
  ·refine uG fun b__ w hW hN hE K hK => ?_
   have e33 := hE 33
   have e37 := hE 37
   obtain ⟨o1, o2, o3⟩ := (hW.1 hJ0).own hN e33 e37
   exact DR (n := L.length) (m := 1) rfl BR rfl o1 rfl (Sl.of_own o2) (Bm _) (by omega) (by omega) o3 fun v' w' a1 a2 a3 => hK v' (w', { w.2 with c := some v' }) rfl ⟨⟨fun hj => hj.mkC hN e33 e37 a1 a2 a3, (fun _ h => h), (fun _ h => h), (fun g h => by rw [hN.1] at h; cases h), (fun _ h => h), id⟩, fun j hj hn => by split <;> first | exact absurd rfl hj | exact hn | exact absurd (hn.1.symm.trans e33) nofun | exact absurd (hn.1.symm.trans e37) nofun | trivial⟩
  ·refine uG fun b__ w hW hN hE K hK => ?_
   have e31 := hE 31
   have e38 := hE 38
   refine BW rfl (by kernel_rfl) (by simp only [List.map_cons, List.map_nil, e31.2]) (onew_own n (L ++ [(a, b)]) _ hn hLx.out (by simp; omega) ((hW.1 hJ0).last hN e38) (fun D w h => kt D w (k1 D w h))) fun e w' h => ?_
   obtain ⟨v, he, hP⟩ := h
   exact ⟨v, he, hK v (w', { w.2 with d := some v }) ⟨rfl, hP.shape⟩ ⟨⟨fun _ => hP, (fun _ h => h), (fun _ h => h), (fun _ h => h), (fun g h => by rw [hN] at h; cases h), id⟩, fun j hj hn => by split <;> first | exact absurd rfl hj | exact hn | exact absurd (hn.1.symm.trans e31.1) nofun | exact absurd (hn.2.1.symm.trans e38) nofun | exact absurd (hn.1.symm.trans e38) nofun | trivial⟩⟩
  ·refine uG fun b__ w hW hN hE K hK => ?_
   have e39 := hE 39
   obtain ⟨hd, p, e, hv⟩ := e39
   rw [hv] at hd
   exact Dm rfl hv rfl (hK _ _ ⟨p, e, hd, rfl⟩ ⟨hRr _, fun _ _ h => h⟩)
  ·refine uG fun b__ w hW hN hE K hK => ?_
   have e39 := hE 39
   obtain ⟨hd, p, e, hv⟩ := e39
   rw [hv] at hd
   exact Dm rfl hv rfl (hK _ _ ⟨p, e, hd, rfl⟩ ⟨hRr _, fun _ _ h => h⟩)
  ·intro vs wz hW hT
   obtain ⟨e28, e29, e30, e31, e32, e33, e34, e35, e36, e37, e38, e39, e40, e41, e6, e7, -⟩ := hT
   have bx : (fun _ : Nat => True) 0 := trivial
   simp only [Aw, Act.put, zz, ze]
   obtain ⟨r1, z1, hd1, e6⟩ := e6
   obtain ⟨r2, z2, hd2, e7⟩ := e7
   rw [hd1] at hd2
   obtain ⟨rfl, rfl⟩ : r1 = r2 /\ z1 = z2 := by simpa using hd2
   have hJ := hW.1 hJ0
   unfold WJ at hJ
   rw [hd1] at hJ
   have hP := hJ.mono KS k1
   rw [e6, e7]
   generalize wz.1 = wf at *
   clear hJ hJ0 hRr hRt hW hd1 hd2 e6 e7
   go_wp2_with fail
   go_ret2
   exact ⟨_, rfl, hP⟩
end
section
open Go.RowKit
attribute [local go_sem ↓] Go.wp_at_zero Go.wp_at_succ
set_option maxRecDepth 20000
set_option exponentiation.threshold 5000
theorem DF (r : Int) (w : World) : Calls Tryz.prog 106 #[.int .i64 r] w (AE (fun x _ => x = .bool (decide (1 <= r /\ r <= 63))) w) := by
 by_cases h1 : 1 <= r
 ·by_cases h2 : r <= 63
  ·have HR := Lib.hid (show decide (1 <= r /\ r <= 63) = true by simp [h1, h2])
   generalize decide (1 <= r /\ r <= 63) = R at *
   go_enter Tryz.func106, Tryz.ntmps106
   go_wp2_with (first | ((with_reducible refine qB ?_); refine qc ?_ ?_ <;> intro h_ <;> go_prune))
   go_ret
   exact AE.mk (congrArg Value.bool HR.out.symm) (Below.refl _ _)
  ·have HR := Lib.hid (show decide (1 <= r /\ r <= 63) = false by simp [h2])
   generalize decide (1 <= r /\ r <= 63) = R at *
   go_enter Tryz.func106, Tryz.ntmps106
   go_wp2_with (first | ((with_reducible refine qB ?_); refine qc ?_ ?_ <;> intro h_ <;> go_prune))
   go_ret
   exact AE.mk (congrArg Value.bool HR.out.symm) (Below.refl _ _)
 ·have HR := Lib.hid (show decide (1 <= r /\ r <= 63) = false by simp [h1])
  generalize decide (1 <= r /\ r <= 63) = R at *
  go_enter Tryz.func106, Tryz.ntmps106
  go_wp2_with (first | ((with_reducible refine qB ?_); refine qc ?_ ?_ <;> intro h_ <;> go_prune))
  go_ret
  exact AE.mk (congrArg Value.bool HR.out.symm) (Below.refl _ _)
def HierX (q : Nat) (o : Value) (L : List (Nat × Nat)) (D : Nat -> Prop) (w : World) : Prop := C1 w D q #[o] /\ G4 w D o 64 L
theorem CR {q : Nat} {o : Value} {L : List (Nat × Nat)} : Ao (HierX q o L) := AU.and Cy
def IsH (w : World) (D : Nat -> Prop) (p : Value) (L : List (Nat × Nat)) : Prop := ∃ (q : Nat) (o : Value), p = .pointer (some ⟨q, 0, none⟩) /\ HierX q o L D w
theorem D4 {p : Value} {L : List (Nat × Nat)} : Ao fun D w => IsH w D p L := fun D D' w w' h a b c => by
 obtain ⟨q, o, h1, h2⟩ := h
 exact ⟨q, o, h1, CR D D' w w' h2 a b c⟩
structure GM (L : List (Nat × Nat)) : Prop where
 asc : Asc L
 role : ∀ x ∈ L, (1 <= x.1 /\ x.1 < 64) /\ 1 <= x.2 /\ x.2 < 64
 acyc : Df L
theorem GM.inr {L : List (Nat × Nat)} (h : GM L) : F4 64 L := fun x hx => ⟨(h.role x hx).1.2, (h.role x hx).2.2⟩
theorem GM.nil : GM [] := ⟨.nil, by simp, fun a h => by obtain ⟨y, h, _⟩ := h.first; simp at h⟩
theorem hnew_any {w0 w : World} {F : List Aa} {K : (Nat -> Prop) -> World -> Prop} (hS : St w0 w F K) (kt : ∀ D w, K D w -> BM w /\ D 0) :
  Calls Tryz.prog 44 #[] w fun e w' => ∃ p, e = .returned p /\ St w0 w' F fun D w => K D w /\ IsH w D p [] := by
 have KS := hS.stable
 have HN := Lib.hid (onew_any 64 [] (.slice none 0 0) (by omega) (by intro x hx; simp at hx) (by simp) hS (fun D w _ => ⟨rfl, none, 0, rfl, by simp, by simp, fun h => by simp at h⟩) kt)
 clear hS
 go_enter Tryz.func44, Tryz.ntmps44
 go_wp2_with (first
  | (go_at_call 87; refine HN.out.mono ?_; rintro e w_ (⟨h1, -, -⟩ | ⟨p, L, rfl, hA, hm, hc, hS⟩); · exact absurd GM.nil.acyc h1
     obtain rfl : L = [] := by
       cases L with
       | nil => rfl
       | cons x r => exact absurd ((hm x).1 (by simp)) (by simp)
     clear hA hm hc
     obtain ⟨qo, _, _, _, _, _, _, rfl, -⟩ := hS.ro.2)
  | ((with_reducible refine qA 9 ?_); refine At hS rfl _ _ rfl (.agg #[.pointer (some ⟨qo, 0, none⟩)]) _ rfl rfl ?_; clear hS; intro q w_ hS; (try simp only [Act.put, Act.eval, zz, Value.cells] at hS)))
 go_ret
 exact ⟨_, rfl, (hS.sealB 0 (by simp) rfl).mono (KS.and D4) fun D w h => ⟨h.1.1, q, _, rfl, h.2, h.1.2⟩⟩
theorem hlinks_any {w0 : World} {D : Nat -> Prop} {p : Value} {L : List (Nat × Nat)} (h : IsH w0 D p L) (hl : L.length <= 1000000) : Calls Tryz.prog 113 #[p] w0 fun e w' => ∃ v, e = .returned v /\ St w0 w' [.own v 159 2 L.length (A7 L)] fun _ _ => True := by
 obtain ⟨q, o, rfl, hb, ho⟩ := h
 have k0 := Lib.hid (hb.cell 0 (x := o) rfl)
 have HC := Lib.hid (I7 ho hl)
 clear hb ho
 go_enter Tryz.func113, Tryz.ntmps113
 go_wp2_with (first
  | ((with_reducible refine qB ?_); refine qc ?_ ?_ <;> intro h_ <;> go_prune)
  | ((with_reducible refine qK ?_); refine BigFrame.wpList_want rfl fun _ hK => Ab rfl rfl (by kernel_rfl) k0.out (hK _ _ ?_))
  | (go_at_call 146; refine HC.out.mono ?_; rintro e w_ ⟨v, rfl, hS⟩))
 go_ret
 exact ⟨v, rfl, hS⟩
def LinkP (w0 : World) (F : List Aa) (K : (Nat -> Prop) -> World -> Prop) (L : List (Nat × Nat)) (a b : Int) (r : Value) (z : Int) (w : World) : Prop :=
 (¬ ((1 <= a /\ a <= 63) /\ (1 <= b /\ b <= 63) /\ a ≠ b) /\ r = .pointer none /\ z = 1 /\ St w0 w F K) \/
 ∃ x y : Nat, a = (x : Int) /\ b = (y : Int) /\ (1 <= x /\ x < 64) /\ (1 <= y /\ y < 64) /\ x ≠ y /\
  (((x, y) ∈ L /\ r = .pointer none /\ z = 5 /\ St w0 w F K) \/ ((x, y) ∉ L /\ ¬ Df (L ++ [(x, y)]) /\ r = .pointer none /\ z = 16 /\ St w0 w F K) \/
   ((x, y) ∉ L /\ z = 0 /\ ∃ L' : List (Nat × Nat), GM L' /\ (∀ u, u ∈ L' ↔ u ∈ L ++ [(x, y)]) /\ St w0 w F fun D w => K D w /\ IsH w D r L'))
theorem hlink_any {w0 w : World} {F : List Aa} {K : (Nat -> Prop) -> World -> Prop} (p : Value) (L : List (Nat × Nat)) (a b : Int) (hH : GM L) (hl : L.length <= 900000) (hS : St w0 w F K)
  (ko : ∀ D w, K D w -> IsH w D p L) (kt : ∀ D w, K D w -> BM w /\ D 0) :
  Calls Tryz.prog 95 #[p, .int .i64 a, .int .i64 b] w fun e w' => ∃ (r : Value) (z : Int), e = .returned (.tuple #[r, .int .i64 z]) /\ LinkP w0 F K L a b r z w' := by
 have KS := hS.stable
 obtain ⟨q, o, rfl, hX⟩ := ko _ _ hS.ro
 have hS := hS.add CR hX fun b h _ => h
 clear hX
 have HH := Lib.hid hH
 clear hH
 by_cases hra : 1 <= a /\ a <= 63
 ·have HRA := Lib.hid (decide_eq_true hra)
  by_cases hrb : 1 <= b /\ b <= 63
  ·have HRB := Lib.hid (decide_eq_true hrb)
   by_cases hab : a = b
   ·subst hab
    have HNO : Hid (¬ ((1 <= a /\ a <= 63) /\ (1 <= a /\ a <= 63) /\ a ≠ a)) := Lib.hid fun h => h.2.2 rfl
    clear hra hrb
    go_enter Tryz.func95, Tryz.ntmps95
    go_wp2_with (first
     | ((with_reducible refine qB ?_); refine qc ?_ ?_ <;> intro h_ <;> go_prune)
     | (go_at_call 106; refine (DF _ _).mono ?_; (first | rw [HRA.out] | rw [HRB.out]); rintro r_ w_ ⟨_, rfl, rfl, hb_⟩; replace hS := hS.ext hb_; clear hb_))
    go_ret2
    exact ⟨_, _, rfl, .inl ⟨HNO.out, rfl, rfl, hS.mono KS fun _ _ h => h.1⟩⟩
   ·obtain ⟨x, rfl⟩ : ∃ x : Nat, a = (x : Int) := ⟨a.toNat, by omega⟩
    obtain ⟨y, rfl⟩ : ∃ y : Nat, b = (y : Int) := ⟨b.toNat, by omega⟩
    have hx1 : Hid (1 <= x /\ x < 64) := Lib.hid (by omega)
    have hy1 : Hid (1 <= y /\ y < 64) := Lib.hid (by omega)
    have hxy : Hid (x ≠ y) := Lib.hid (by omega)
    clear hra hrb
    have HW := Lib.hid (fun (w : World) (h : St w0 w F fun D w => K D w /\ HierX q o L D w) => owith_any o 64 L x y (by omega) HH.out.inr hl hx1.out.2 hy1.out.2 h (fun D w h => h.2.2) (fun D w h => kt D w h.1))
    go_enter Tryz.func95, Tryz.ntmps95
    go_wp2_with (first
     | ((with_reducible refine qB ?_); refine qc ?_ ?_ <;> intro h_ <;> go_prune)
     | (go_at_call 106; refine (DF _ _).mono ?_; (first | rw [HRA.out] | rw [HRB.out]); rintro r_ w_ ⟨_, rfl, rfl, hb_⟩; replace hS := hS.ext hb_; clear hb_)
     | ((with_reducible refine qK ?_); refine D5 hS rfl _ _ rfl _ rfl _ (fun D w h => h.2.1.cell 0 rfl) (by kernel_rfl) ?_)
     | (go_at_call 131; refine (HW.out _ hS).mono ?_; rintro e w_ (⟨hm, rfl, hS⟩ | ⟨hm, v, rfl, (⟨hc, rfl, hS⟩ | ⟨pp, L', rfl, hA, hmm, hc, hS⟩)⟩) <;> (try obtain ⟨qo, _, _, _, _, _, _, rfl, -⟩ := hS.ro.2))
     | ((with_reducible refine qA 42 ?_); refine At hS rfl _ _ rfl (.agg #[.pointer (some ⟨qo, 0, none⟩)]) _ rfl rfl ?_; clear hS; intro g w_ hS; (try simp only [Act.put, Act.eval, zz, Value.cells] at hS)))
    ·go_ret2
     exact ⟨_, _, rfl, .inr ⟨x, y, rfl, rfl, hx1.out, hy1.out, hxy.out, .inl ⟨hm, rfl, rfl, hS.mono KS fun _ _ h => h.1⟩⟩⟩
    ·go_ret2
     exact ⟨_, _, rfl, .inr ⟨x, y, rfl, rfl, hx1.out, hy1.out, hxy.out, .inr (.inl ⟨hm, hc, rfl, rfl, hS.mono KS fun _ _ h => h.1⟩)⟩⟩
    ·go_ret2
     refine ⟨_, _, rfl, .inr ⟨x, y, rfl, rfl, hx1.out, hy1.out, hxy.out, .inr (.inr ⟨hm, rfl, L', ⟨hA, fun u hu => ?_, hc⟩, hmm, (hS.sealB 0 (by simp) rfl).mono (KS.and D4) fun D w h => ⟨h.1.1.1, g, _, rfl, h.2, h.1.2⟩⟩)⟩⟩
     rcases List.mem_append.1 ((hmm u).1 hu) with h | h
     ·exact HH.out.role u h
     ·rw [List.mem_singleton] at h; subst h; exact ⟨hx1.out, hy1.out⟩
  ·have HRB := Lib.hid (decide_eq_false hrb)
   have HNO : Hid (¬ ((1 <= a /\ a <= 63) /\ (1 <= b /\ b <= 63) /\ a ≠ b)) := Lib.hid fun h => hrb h.2.1
   clear hra hrb
   go_enter Tryz.func95, Tryz.ntmps95
   go_wp2_with (first
    | ((with_reducible refine qB ?_); refine qc ?_ ?_ <;> intro h_ <;> go_prune)
    | (go_at_call 106; refine (DF _ _).mono ?_; (first | rw [HRA.out] | rw [HRB.out]); rintro r_ w_ ⟨_, rfl, rfl, hb_⟩; replace hS := hS.ext hb_; clear hb_))
   go_ret2
   exact ⟨_, _, rfl, .inl ⟨HNO.out, rfl, rfl, hS.mono KS fun _ _ h => h.1⟩⟩
 ·have HRA := Lib.hid (decide_eq_false hra)
  have HRB := HRA
  have HNO : Hid (¬ ((1 <= a /\ a <= 63) /\ (1 <= b /\ b <= 63) /\ a ≠ b)) := Lib.hid fun h => hra h.1
  clear hra
  go_enter Tryz.func95, Tryz.ntmps95
  go_wp2_with (first
   | ((with_reducible refine qB ?_); refine qc ?_ ?_ <;> intro h_ <;> go_prune)
   | (go_at_call 106; refine (DF _ _).mono ?_; (first | rw [HRA.out] | rw [HRB.out]); rintro r_ w_ ⟨_, rfl, rfl, hb_⟩; replace hS := hS.ext hb_; clear hb_))
  go_ret2
  exact ⟨_, _, rfl, .inl ⟨HNO.out, rfl, rfl, hS.mono KS fun _ _ h => h.1⟩⟩
end
section
open Go.RowKit
attribute [local go_sem ↓] Go.wp_at_zero Go.wp_at_succ
set_option maxRecDepth 20000
set_option exponentiation.threshold 5000
theorem withN_nat {N r : Nat} (h : r < 64) : C9 N (r : Int) = N ||| 2 ^ r := by
 unfold C9
 rw [if_pos (by omega), Int.toNat_natCast]
theorem free1 {w0 w : World} {g z : Nat} {t : TypeId} {cs : Array Value} {K : (Nat -> Prop) -> World -> Prop} (h : St w0 w [.box g t cs] K) (hz : z < w0.heap.size) : DZ [.box g t cs] z := fun f hf e => by
 rw [List.mem_singleton] at hf
 subst hf
 have := Aa.ge (h.holds _ (List.mem_singleton.2 rfl)) e
 omega
theorem Fq {r : (Nat -> Prop) -> World -> Prop} (hr : Ao r) (E : Nat -> Prop) : Ao fun D w => r (fun z => D z /\ E z) w := fun D D' w w' h a b c =>
 hr _ _ w w' h a (fun p x hp => b p x hp.1) fun z hz h1 h2 => ⟨c z hz.1 h1 h2, hz.2⟩
theorem hjun_any {w0 : World} {D : Nat -> Prop} {p : Value} {L : List (Nat × Nat)} (h : IsH w0 D p L) (hH : GM L) (r : Int) : Calls Tryz.prog 59 #[p, .int .i64 r] w0 (AE (fun x w => A5 w (fun z => D z \/ w0.heap.size <= z) x (if 1 <= r /\ r <= 63 then junM L r.toNat else 0)) w0) := by
 obtain ⟨q, o, rfl, hb, ho⟩ := h
 have HO := Lib.hid (Cy D (fun z => D z /\ z < w0.heap.size) w0 w0 ho (Nat.le_refl _) (fun _ _ _ _ h => h) fun b h1 h2 _ => ⟨h1, h2⟩)
 obtain ⟨K, k0, hS⟩ : ∃ K : (Nat -> Prop) -> World -> Prop, (∀ D w, K D w -> w.cell? ⟨q, 0, none⟩ = some o) /\ St w0 w0 [] K := ⟨_, fun _ _ h => C1.cell h 0 rfl, St.start AU hb⟩
 have HH := Lib.hid hH
 clear hb hH ho
 by_cases hr : 1 <= r /\ r <= 63
 ·obtain ⟨k, rfl⟩ : ∃ k : Nat, r = (k : Int) := ⟨r.toNat, by omega⟩
  have HR := Lib.hid (decide_eq_true hr)
  have HM := Lib.hid (fun (N : Nat) (h : ∀ i : Nat, N.testBit i = true ↔ ∃ b : Nat, (k : Int) = (b : Int) /\ TC L b i) => show C9 N (k : Int) = junM L k from by
   rw [withN_nat (by omega)]
   refine Bx fun i => ?_
   rw [Hd, Gc, h, Ge HH.out.inr (by omega)]
   constructor
   ·rintro (⟨b, e, h⟩ | h)
    ·obtain rfl : k = b := by omega
     exact .inr h
    ·exact .inl h
   ·rintro (h | h)
    ·exact .inr h
    ·exact .inl ⟨k, rfl, h⟩)
  rw [if_pos hr, Int.toNat_natCast]
  clear hr
  go_enter Tryz.func59, Tryz.ntmps59
  go_wp2_with (first
   | ((with_reducible refine qB ?_); refine qc ?_ ?_ <;> intro h_ <;> go_prune)
   | ((with_reducible refine qA 4 ?_); refine Bf hS rfl _ rfl (by kernel_rfl) ?_; clear hS; intro g w_ hS; (try simp only [Act.put, Act.eval, zz, Value.cells] at hS))
   | (go_at_call 106; refine (DF _ _).mono ?_; rw [HR.out]; rintro r_ w_ ⟨_, rfl, rfl, hb_⟩; replace hS := hS.ext hb_; clear hb_)
   | ((with_reducible refine qA 16 ?_); refine D5 hS rfl _ _ rfl _ rfl _ k0 (by kernel_rfl) ?_)
   | (go_at_call 107; refine (obelow_any (Cy _ _ _ _ HO.out hS.size (fun _ _ _ hp hc => (hS.below.cell hp).trans hc) fun _ h _ _ => h) HH.out.inr _).mono ?_; rintro r_ w_ ⟨_, rfl, ⟨N, hN, hs⟩, hb_⟩; replace hs := Lib.hid hs; replace hS := hS.ext hb_; clear hb_)
   | (go_at_call 32; refine (Eb _ N _ _ _ hN).mono ?_; rintro r_ w1 ⟨_, rfl, hM, hb_⟩; rw [HM.out N hs.out] at hM; obtain ⟨A3, c3, l3, rfl, -⟩ := hM.parts; replace hS := hS.ret2 hb_ (Fq A6 fun z => D z \/ w0.heap.size <= z) (hM.imp fun z hz _ => ⟨hz.imp (fun hz => free1 hS hz.2) id, hz.elim (fun hz => .inl hz.1) fun hz => .inr (Nat.le_trans hS.size hz)⟩); clear hb_)
   | ((with_reducible refine qM ?_); (first | refine qS hS ?_ | refine qT hS ?_); clear hS; intro w_ hS; (try simp only [Act.put, Act.eval, zz, Value.cells] at hS)))
  refine CH Tryz.results59 rfl (hS.box 0 rfl) Tryz.underlying27 rfl (by kernel_rfl) rfl ?_
  exact AE.mk (hS.ro.2.imp fun z hz _ => hz.2) hS.below
 ·have HR := Lib.hid (decide_eq_false hr)
  rw [if_neg hr]
  clear hr
  go_enter Tryz.func59, Tryz.ntmps59
  go_wp2_with (first
   | ((with_reducible refine qB ?_); refine qc ?_ ?_ <;> intro h_ <;> go_prune)
   | ((with_reducible refine qA 4 ?_); refine Bf hS rfl _ rfl (by kernel_rfl) ?_; clear hS; intro g w_ hS; (try simp only [Act.put, Act.eval, zz, Value.cells] at hS))
   | (go_at_call 106; refine (DF _ _).mono ?_; rw [HR.out]; rintro r_ w_ ⟨_, rfl, rfl, hb_⟩; replace hS := hS.ext hb_; clear hb_)
   | ((with_reducible show wpList _ _ _ (⟨_, .build _ _, _, _, _, _⟩ :: _) _ _); refine Ad rfl _ _ rfl #[.slice none 0 0] (by kernel_rfl) ?_)
   | ((with_reducible refine qM ?_); (first | refine qS hS ?_ | refine qT hS ?_); clear hS; intro w_ hS; (try simp only [Act.put, Act.eval, zz, Value.cells] at hS)))
  refine CH Tryz.results59 rfl (hS.box 0 rfl) Tryz.underlying27 rfl (by kernel_rfl) rfl ?_
  exact AE.mk A5.empty hS.below
end
section
open Go.RowKit
set_option maxRecDepth 20000
def ON (k : Nat) (i : Nat) (p : World × Option Value) : Prop := i = k -> p.2 = none
section
variable {C : World -> Prop} {S : Value -> World -> Prop} {p p' : World × Option Value} {k : Nat}
end
end
section
open Go.RowKit
attribute [local go_sem ↓] Go.wp_at_zero Go.wp_at_succ
set_option maxRecDepth 20000
set_option exponentiation.threshold 5000
theorem BU (r : Int) (w : World) : Calls Tryz.prog 127 #[.int .i64 r] w (AE (fun x _ => x = .bool (decide (1 <= r /\ r <= 63))) w) := by
 by_cases h1 : 1 <= r
 ·by_cases h2 : r <= 63
  ·have HR := Lib.hid (show decide (1 <= r /\ r <= 63) = true by simp [h1, h2])
   generalize decide (1 <= r /\ r <= 63) = R at *
   go_enter Tryz.func127, Tryz.ntmps127
   go_wp2_with (first | ((with_reducible refine qB ?_); refine qc ?_ ?_ <;> intro h_ <;> go_prune))
   go_ret
   exact AE.mk (congrArg Value.bool HR.out.symm) (Below.refl _ _)
  ·have HR := Lib.hid (show decide (1 <= r /\ r <= 63) = false by simp [h2])
   generalize decide (1 <= r /\ r <= 63) = R at *
   go_enter Tryz.func127, Tryz.ntmps127
   go_wp2_with (first | ((with_reducible refine qB ?_); refine qc ?_ ?_ <;> intro h_ <;> go_prune))
   go_ret
   exact AE.mk (congrArg Value.bool HR.out.symm) (Below.refl _ _)
 ·have HR := Lib.hid (show decide (1 <= r /\ r <= 63) = false by simp [h1])
  generalize decide (1 <= r /\ r <= 63) = R at *
  go_enter Tryz.func127, Tryz.ntmps127
  go_wp2_with (first | ((with_reducible refine qB ?_); refine qc ?_ ?_ <;> intro h_ <;> go_prune))
  go_ret
  exact AE.mk (congrArg Value.bool HR.out.symm) (Below.refl _ _)
theorem rhas_any {w0 : World} {D : Nat -> Prop} {pv : Value} {L : List (Nat × Nat)} (h : Sl w0 D 2 pv L.length (A7 L)) (hl : L.length <= 1000000) (a b : Int) :
  Calls Tryz.prog 128 #[pv, .int .i64 a, .int .i64 b] w0 (AE (fun x _ => ∃ c : Bool, x = .bool c /\ (c = true ↔ ∃ x ∈ L, a = (x.1 : Int) /\ b = (x.2 : Int))) w0) := by
 obtain ⟨A, c, rfl, _, _⟩ := h.shape
 obtain ⟨K, kp, hS⟩ : ∃ K : (Nat -> Prop) -> World -> Prop, (∀ D w, K D w -> Sl w D 2 (.slice A L.length c) L.length (A7 L)) /\ St w0 w0 [] K := ⟨_, fun _ _ h => h, St.start (Ah (by decide)) h⟩
 clear h
 go_enter Tryz.func128, Tryz.ntmps128
 go_wp2_with (first | ((with_reducible refine qB ?_); refine qc ?_ ?_ <;> intro h_ <;> go_prune))
 go_loopw [11] (fun i wr => ∃ j : Nat, j <= L.length /\ i = .int .i64 j /\ Hid (∀ t, t < j -> ¬ (a = ((L.getD t (0, 0)).1 : Int) /\ b = ((L.getD t (0, 0)).2 : Int))) /\ St w0 wr [] K) (fun i _ => L.length - (intOf i).toNat)
 case atStart => exact ⟨0, by omega, rfl, Lib.hid (fun t h => absurd h (by omega)), hS⟩
 case round =>
  clear hS
  obtain ⟨j, hj, rfl, HJ, hS⟩ := hrel
  by_cases hlj : j < L.length
  ·obtain ⟨f1, f2⟩ := Bc L j hlj
   have hm : Hid (L.getD j (0, 0) ∈ L) := Lib.hid (by rw [List.getD_eq_getElem?_getD, List.getElem?_eq_getElem hlj]; exact List.getElem_mem hlj)
   have HJ2 : Hid (¬ (a = ((L.getD j (0, 0)).1 : Int) /\ b = ((L.getD j (0, 0)).2 : Int)) -> ∀ t, t < j + 1 -> ¬ (a = ((L.getD t (0, 0)).1 : Int) /\ b = ((L.getD t (0, 0)).2 : Int))) := Lib.hid fun h t ht => if e : t = j then e ▸ h else HJ.out t (by omega)
   generalize L.getD j (0, 0) = x at *
   obtain ⟨xa, xb⟩ := x
   dsimp only at f1 f2 HJ2
   by_cases hx : a = (xa : Int)
   ·by_cases hy : b = (xb : Int)
    ·subst hx hy
     go_wp2_with (first
      | ((with_reducible refine qB ?_); refine qc ?_ ?_ <;> intro h_ <;> go_prune)
      | ((with_reducible refine qI ?_); refine qj hS Tryz.underlying32 ?_; intro b_ j_ hc0_ hc1_)
      | ((with_reducible refine qA 8 ?_); refine Bf hS rfl _ rfl (by kernel_rfl) ?_; clear hS; intro g4 w_ hS; (try simp only [Act.put, Act.eval, zz, Value.cells] at hS))
      | ((with_reducible refine qM ?_); (first | refine qS hS ?_ | refine qT hS ?_); clear hS; intro w_ hS; (try simp only [Act.put, Act.eval, zz, Value.cells] at hS))
      | ((with_reducible refine qK ?_); refine qC hS ?_))
     go_ret
     exact AE.mk (v := .bool true) (by first | exact ⟨true, rfl, fun _ => ⟨_, hm.out, rfl, rfl⟩, fun _ => rfl⟩ | exact .inr ⟨rfl, _, _, hm.out, rfl, rfl⟩) hS.below
    ·have HJ3 := Lib.hid (HJ2.out fun h => hy h.2)
     subst hx
     clear HJ2
     have hy' : ¬ ((xb : Nat) : Int) = b := fun e => hy e.symm
     go_wp2_with (first
      | ((with_reducible refine qB ?_); refine qc ?_ ?_ <;> intro h_ <;> go_prune)
      | ((with_reducible refine qI ?_); refine qj hS Tryz.underlying32 ?_; intro b_ j_ hc0_ hc1_)
      | ((with_reducible refine qA 8 ?_); refine Bf hS rfl _ rfl (by kernel_rfl) ?_; clear hS; intro g4 w_ hS; (try simp only [Act.put, Act.eval, zz, Value.cells] at hS))
      | ((with_reducible refine qM ?_); (first | refine qS hS ?_ | refine qT hS ?_); clear hS; intro w_ hS; (try simp only [Act.put, Act.eval, zz, Value.cells] at hS))
      | ((with_reducible refine qK ?_); refine qC hS ?_))
     exact ⟨⟨j + 1, hlj, by go_num, HJ3, hS.sub (List.sublist_cons_self _ _)⟩, by simp [intOf]; omega⟩
   ·have HJ3 := Lib.hid (HJ2.out fun h => hx h.1)
    clear HJ2
    have hx' : ¬ ((xa : Nat) : Int) = a := fun e => hx e.symm
    go_wp2_with (first
     | ((with_reducible refine qB ?_); refine qc ?_ ?_ <;> intro h_ <;> go_prune)
     | ((with_reducible refine qI ?_); refine qj hS Tryz.underlying32 ?_; intro b_ j_ hc0_ hc1_)
     | ((with_reducible refine qA 8 ?_); refine Bf hS rfl _ rfl (by kernel_rfl) ?_; clear hS; intro g4 w_ hS; (try simp only [Act.put, Act.eval, zz, Value.cells] at hS))
     | ((with_reducible refine qM ?_); (first | refine qS hS ?_ | refine qT hS ?_); clear hS; intro w_ hS; (try simp only [Act.put, Act.eval, zz, Value.cells] at hS))
     | ((with_reducible refine qK ?_); refine qC hS ?_))
    exact ⟨⟨j + 1, hlj, by go_num, HJ3, hS.sub (List.sublist_cons_self _ _)⟩, by simp [intOf]; omega⟩
  ·obtain rfl : j = L.length := by omega
   have HN : Hid (¬ ∃ x ∈ L, a = (x.1 : Int) /\ b = (x.2 : Int)) := Lib.hid fun ⟨x, hx, h⟩ => by
    obtain ⟨k, hk, e⟩ := List.getElem_of_mem hx
    refine HJ.out k hk ?_
    rw [List.getD_eq_getElem?_getD, List.getElem?_eq_getElem hk, Option.getD_some, e]
    exact h
   go_wp2_with (first | ((with_reducible refine qB ?_); refine qc ?_ ?_ <;> intro h_ <;> go_prune))
   go_ret
   exact AE.mk (v := .bool false) (by first | exact ⟨false, rfl, fun h => by simp at h, fun h => absurd h HN.out⟩ | exact .inl ⟨rfl, by simpa using HN.out⟩) hS.below
end
section
open Go.RowKit
attribute [local go_sem ↓] Go.wp_at_zero Go.wp_at_succ
set_option maxRecDepth 20000
def shrN (s r : Nat) : Nat := s / 2 ^ r
def rem2 (m : Nat) : Nat := m % 2
theorem bit_of {s r : Nat} : rem2 (shrN s r) = if s.testBit r then 1 else 0 := by
 unfold rem2 shrN
 rw [Nat.testBit_eq_decide_div_mod_eq]
 by_cases h : s / 2 ^ r % 2 = 1
 ·simp [h]
 ·have : s / 2 ^ r % 2 = 0 := by omega
  simp [this]
theorem pow_lt_64 {r : Nat} (h : r < 64) : 2 ^ r < Bv := by rw [Cj]; exact Nat.pow_lt_pow_right (by decide) h
section
variable {P : Program} {ops : Array Oper} {rest : List Oper} {o : Oper} {a : Act} {w : World} {Q : Exit -> Act -> World -> Prop}
theorem Fr (hg : Region.wanted o (yielded ops a.tmps) = true) (t t2 : TypeId) (x y : Operand) (ho : o.op = .binOp .shr t x y t2) (s r : Nat) (hx : a.eval x = .int .u64 (s : Nat)) (hy : a.eval y = .int .i64 (r : Nat)) (hr : r <= 64)
  (hk : wpList P ops Q rest (a.put o.dst (.int .u64 (shrN s r : Nat))) w) : wpList P ops Q (o :: rest) a w := by
 refine BigFrame.wpList_want hg fun _ hK => AH (v := .int .u64 (shrN s r : Nat)) ho hx hy (by simp [eqGuard]) ?_ (hK _ _ hk)
 rw [binOp_shr, shift_shr _ _ _ _ (by omega) (by show (r : Int) <= 64; omega)]
 simp [shrN]
theorem Ft (hg : Region.wanted o (yielded ops a.tmps) = true) (t t2 : TypeId) (x y : Operand) (ho : o.op = .binOp .rem t x y t2) (m : Nat) (hx : a.eval x = .int .u64 (m : Nat)) (hy : a.eval y = .int .u64 2)
  (hk : wpList P ops Q rest (a.put o.dst (.int .u64 (rem2 m : Nat))) w) : wpList P ops Q (o :: rest) a w := by
 refine BigFrame.wpList_want hg fun _ hK => AH (v := .int .u64 (rem2 m : Nat)) ho hx hy (by simp [eqGuard]) ?_ (hK _ _ hk)
 go_simp
 exact tmod_nat m 2
theorem Ef (hg : Region.wanted o (yielded ops a.tmps) = true) (t t2 : TypeId) (x y : Operand) (ho : o.op = .binOp .eql t x y t2) (s r : Nat) (hx : a.eval x = .int .u64 (rem2 (shrN s r) : Nat)) (hy : a.eval y = .int .u64 1) {b : Bool} (hb : s.testBit r = b)
  (hk : wpList P ops Q rest (a.put o.dst (.bool b)) w) : wpList P ops Q (o :: rest) a w := by
 refine BigFrame.wpList_want hg fun _ hK => AH (v := .bool b) ho hx hy (by simp [eqGuard]) ?_ (hK _ _ hk)
 rw [binOp_eql, bit_of, hb]
 cases b <;> simp
theorem st_shl1 (hg : Region.wanted o (yielded ops a.tmps) = true) (t t2 : TypeId) (x y : Operand) (ho : o.op = .binOp .shl t x y t2) (r : Nat) (hx : a.eval x = .int .u64 1) (hy : a.eval y = .int .i64 (r : Nat)) (hr : r < 64)
  (hk : wpList P ops Q rest (a.put o.dst (.int .u64 (2 ^ r : Nat))) w) : wpList P ops Q (o :: rest) a w := by
 have h := Hw (P := P) (w := w) (t := t) (r := r) (e := (r : Nat)) (by rw [Nat.mod_eq_of_lt hr])
 rw [Nat.mod_eq_of_lt hr] at h
 exact BigFrame.wpList_want hg fun _ hK => AH (v := .int .u64 (2 ^ r : Nat)) ho hx hy (by simp [eqGuard]) h (hK _ _ hk)
theorem st_orN (hg : Region.wanted o (yielded ops a.tmps) = true) (t t2 : TypeId) (x y : Operand) (ho : o.op = .binOp .or t x y t2) (m n : Nat) (hx : a.eval x = .int .u64 (m : Nat)) (hy : a.eval y = .int .u64 (n : Nat)) (hm : m < Bv) (hn : n < Bv)
  (hk : wpList P ops Q rest (a.put o.dst (.int .u64 (m ||| n : Nat))) w) : wpList P ops Q (o :: rest) a w :=
 BigFrame.wpList_want hg fun _ hK => AH (v := .int .u64 (m ||| n : Nat)) ho hx hy (by simp [eqGuard]) (Gk hm hn) (hK _ _ hk)
end
end
section
open Go.RowKit
attribute [local go_sem ↓] Go.wp_at_zero Go.wp_at_succ
set_option maxRecDepth 20000
set_option exponentiation.threshold 5000
def GG (L : List (Nat × Nat)) (r s : Int) : Prop := ∃ i j : Nat, r = (i : Int) /\ s = (j : Int) /\ (1 <= i /\ i < 64) /\ (1 <= j /\ j < 64) /\ (i = j \/ TC L i j)
noncomputable def junR (L : List (Nat × Nat)) (r : Int) : Nat := if 1 <= r /\ r <= 63 then junM L r.toNat else 0
theorem rjun_any {w0 : World} {D : Nat -> Prop} {pv : Value} {L : List (Nat × Nat)} (h : Sl w0 D 2 pv L.length (A7 L)) (hL : F4 64 L) (hl : L.length <= 1000000) (r : Int) :
  Calls Tryz.prog 130 #[pv, .int .i64 r] w0 (AE (fun x _ => x = .int .u64 (junR L r : Nat)) w0) := by
 obtain ⟨A, c, rfl, _, _⟩ := h.shape
 obtain ⟨K, kp, hS⟩ : ∃ K : (Nat -> Prop) -> World -> Prop, (∀ D w, K D w -> Sl w D 2 (.slice A L.length c) L.length (A7 L)) /\ St w0 w0 [] K := ⟨_, fun _ _ h => h, St.start (Ah (by decide)) h⟩
 clear h
 by_cases hr : 1 <= r /\ r <= 63
 ·obtain ⟨k, rfl⟩ : ∃ k : Nat, r = (k : Int) := ⟨r.toNat, by omega⟩
  have HR := Lib.hid (decide_eq_true hr)
  have hk : k < 64 := by omega
  have HJ := Lib.hid (show junR L (k : Int) = junM L k by rw [junR, if_pos hr, Int.toNat_natCast])
  have HL := Lib.hid hL
  have H0 : Hid (Et L k (2 ^ k) /\ 2 ^ k < 2 ^ 64) := Lib.hid ⟨Et.start L k, Nat.pow_lt_pow_right (by decide) hk⟩
  clear hr hL
  go_enter Tryz.func130, Tryz.ntmps130
  go_wp2_with (first
   | (go_at_call 127; refine (BU _ _).mono ?_; rw [HR.out]; rintro r_ w_ ⟨_, rfl, rfl, hb_⟩; replace hS := hS.ext hb_; clear hb_)
   | ((with_reducible refine qb .shl ?_); refine st_shl1 rfl _ _ _ _ rfl _ rfl rfl hk ?_))
  go_loopw [5] (fun v wr => ∃ s : Nat, v = .int .u64 (s : Nat) /\ Hid (Et L k s /\ s < 2 ^ 64) /\ St w0 wr [] K) (fun v _ => outN (intOf v).toNat)
  case atStart => exact ⟨_, rfl, H0, hS⟩
  case round =>
   clear hS H0
   obtain ⟨s, rfl, HS, hS⟩ := hrel
   go_wp2_with (first | ((with_reducible refine qB ?_); refine qc ?_ ?_ <;> intro h_ <;> go_prune))
   go_loopw [6, 17] (fun m i wr => ∃ j : Nat, j <= L.length /\ i = .int .i64 (j : Nat) /\ m = .int .u64 (jTo L s j : Nat) /\ St w0 wr [] K) (fun _ i _ => L.length - (intOf i).toNat)
   case atStart => exact ⟨0, by omega, rfl, by simp [jTo], hS⟩
   case round =>
    clear hS
    obtain ⟨j, hj, rfl, rfl, hS⟩ := hrel
    by_cases hlj : j < L.length
    ·obtain ⟨f1, f2⟩ := Bc L j hlj
     have HG := Lib.hid (Cf (0, 0) hlj)
     have hm := HL.out (L.getD j (0, 0)) (by rw [List.getD_eq_getElem?_getD, List.getElem?_eq_getElem hlj]; exact List.getElem_mem hlj)
     have HSt := Lib.hid (jTo_step (s := s) HG.out)
     have hM : jTo L s j < Bv := by rw [Cj]; exact jTo_lt HL.out HS.out.2
     generalize L.getD j (0, 0) = x at *
     generalize jTo L s j = M at *
     obtain ⟨xa, xb⟩ := x
     dsimp only at f1 f2 hm HSt
     obtain ⟨hxa, hxb⟩ := hm
     cases hbit : s.testBit xa
     ·rw [hbit] at HSt
      have HE := Lib.hid (HSt.out.trans (if_neg (by simp)))
      go_wp2_with (first
       | ((with_reducible refine qb .shr ?_); refine Fr rfl _ _ _ _ rfl _ _ rfl rfl (by omega) ?_)
       | ((with_reducible refine qb .rem ?_); refine Ft rfl _ _ _ _ rfl _ rfl rfl ?_)
       | ((with_reducible refine qA 26 ?_); refine Ef rfl _ _ _ _ rfl _ _ rfl rfl hbit ?_)
       | ((with_reducible refine qB ?_); refine qc ?_ ?_ <;> intro h_ <;> go_prune)
       | ((with_reducible refine qI ?_); refine qj hS Tryz.underlying32 ?_; intro b_ j_ hc0_ hc1_)
       | ((with_reducible refine qA 8 ?_); refine Bf hS rfl _ rfl (by kernel_rfl) ?_; clear hS; intro g4 w_ hS; (try simp only [Act.put, Act.eval, zz, Value.cells] at hS))
       | ((with_reducible refine qM ?_); (first | refine qS hS ?_ | refine qT hS ?_); clear hS; intro w_ hS; (try simp only [Act.put, Act.eval, zz, Value.cells] at hS))
       | ((with_reducible refine qK ?_); refine qC hS ?_))
      exact ⟨⟨j + 1, hlj, by go_num, by rw [HE.out], hS.sub (List.sublist_cons_self _ _)⟩, by simp [intOf]; omega⟩
     ·rw [hbit] at HSt
      have HE := Lib.hid (HSt.out.trans (if_pos rfl))
      go_wp2_with (first
       | ((with_reducible refine qb .shr ?_); refine Fr rfl _ _ _ _ rfl _ _ rfl rfl (by omega) ?_)
       | ((with_reducible refine qb .rem ?_); refine Ft rfl _ _ _ _ rfl _ rfl rfl ?_)
       | ((with_reducible refine qb .shl ?_); refine st_shl1 rfl _ _ _ _ rfl _ rfl rfl hxb ?_)
       | ((with_reducible refine qb .or ?_); refine st_orN rfl _ _ _ _ rfl _ _ rfl rfl hM (pow_lt_64 hxb) ?_)
       | ((with_reducible refine qA 26 ?_); refine Ef rfl _ _ _ _ rfl _ _ rfl rfl hbit ?_)
       | ((with_reducible refine qB ?_); refine qc ?_ ?_ <;> intro h_ <;> go_prune)
       | ((with_reducible refine qI ?_); refine qj hS Tryz.underlying32 ?_; intro b_ j_ hc0_ hc1_)
       | ((with_reducible refine qA 8 ?_); refine Bf hS rfl _ rfl (by kernel_rfl) ?_; clear hS; intro g4 w_ hS; (try simp only [Act.put, Act.eval, zz, Value.cells] at hS))
       | ((with_reducible refine qM ?_); (first | refine qS hS ?_ | refine qT hS ?_); clear hS; intro w_ hS; (try simp only [Act.put, Act.eval, zz, Value.cells] at hS))
       | ((with_reducible refine qK ?_); refine qC hS ?_))
      exact ⟨⟨j + 1, hlj, by go_num, by rw [HE.out], hS.sub (List.sublist_cons_self _ _)⟩, by simp [intOf]; omega⟩
    ·obtain rfl : j = L.length := by omega
     have HM : Hid (jTo L s L.length < 2 ^ 64 /\ Et L k (jTo L s L.length) /\ (∀ i, s.testBit i = true -> (jTo L s L.length).testBit i = true)) := Lib.hid ⟨jTo_lt HL.out HS.out.2, HS.out.1.next, fun i hi => (He (Nat.le_refl _)).2 (.inl hi)⟩
     by_cases he : jTo L s L.length = s
     ·have HF := Lib.hid (HS.out.1.stop HL.out hk he)
      rw [he]
      go_wp2_with (first | ((with_reducible refine qB ?_); refine qc ?_ ?_ <;> intro h_ <;> go_prune))
      go_ret
      exact AE.mk (by rw [HJ.out, <- HF.out]; rfl) hS.below
     ·have HO := Lib.hid (outN_lt HS.out.2 HM.out.1 HM.out.2.2 he)
      generalize jTo L s L.length = M at *
      have he2 : ¬ (M : Int) = (s : Int) := by omega
      go_wp2_with (first | ((with_reducible refine qB ?_); refine qc ?_ ?_ <;> intro h_ <;> go_prune))
      exact ⟨⟨M, rfl, Lib.hid ⟨HM.out.2.1, HM.out.1⟩, hS⟩, by simpa [intOf] using HO.out⟩
 ·have HR := Lib.hid (decide_eq_false hr)
  have HJ := Lib.hid (show junR L r = 0 by rw [junR, if_neg hr])
  rw [HJ.out]
  clear hr
  go_enter Tryz.func130, Tryz.ntmps130
  go_wp2_with (first
   | (go_at_call 127; refine (BU _ _).mono ?_; rw [HR.out]; rintro r_ w_ ⟨_, rfl, rfl, hb_⟩; replace hS := hS.ext hb_; clear hb_))
  go_ret
  exact AE.mk rfl hS.below
theorem impl_junR {L : List (Nat × Nat)} (hL : F4 64 L) (r s : Int) : (1 <= s /\ s <= 63) /\ (junR L r).testBit s.toNat = true ↔ GG L r s := by
 unfold junR GG
 constructor
 ·rintro ⟨h1, h2⟩
  by_cases hr : 1 <= r /\ r <= 63
  ·rw [if_pos hr, Ge hL (by omega)] at h2
   exact ⟨r.toNat, s.toNat, by omega, by omega, by omega, by omega, h2.imp (fun h => h.symm) id⟩
  ·rw [if_neg hr, Nat.zero_testBit] at h2; cases h2
 ·rintro ⟨i, j, rfl, rfl, h1, h2, h3⟩
  refine ⟨by omega, ?_⟩
  rw [if_pos (by omega), Int.toNat_natCast, Int.toNat_natCast, Ge hL (by omega)]
  exact h3.imp (fun h => h.symm) id
theorem rimpl_any {w0 : World} {D : Nat -> Prop} {pv : Value} {L : List (Nat × Nat)} (h : Sl w0 D 2 pv L.length (A7 L)) (hL : F4 64 L) (hl : L.length <= 1000000) (r s : Int) :
  Calls Tryz.prog 129 #[pv, .int .i64 r, .int .i64 s] w0 (AE (fun x _ => ∃ c : Bool, x = .bool c /\ (c = true ↔ GG L r s)) w0) := by
 have HJ := Lib.hid (fun w (hb : Below w0.heap.size w0 w) => rjun_any (h.ext hb) hL hl r)
 have HI := Lib.hid (impl_junR hL r s)
 by_cases hs : 1 <= s /\ s <= 63
 ·obtain ⟨k, rfl⟩ : ∃ k : Nat, s = (k : Int) := ⟨s.toNat, by omega⟩
  have HR := Lib.hid (decide_eq_true hs)
  have hk : k < 64 := by omega
  rw [Int.toNat_natCast] at HI
  have HI2 : Hid ((junR L r).testBit k = true ↔ GG L r k) := Lib.hid ⟨fun h => HI.out.1 ⟨hs, h⟩, fun h => (HI.out.2 h).2⟩
  clear hs HI
  obtain ⟨b, hb0⟩ : ∃ b, (junR L r).testBit k = b := ⟨_, rfl⟩
  have hb := Lib.hid hb0
  rw [hb0] at HI2
  generalize junR L r = J at *
  clear hb0
  go_enter Tryz.func129, Tryz.ntmps129
  go_wp2_with (first
   | (go_at_call 127; refine (BU _ _).mono ?_; rw [HR.out]; rintro r_ w_ ⟨_, rfl, rfl, hb_⟩)
   | (go_at_call 130; refine (HJ.out _ hb_).mono ?_; rintro r_ w2 ⟨_, rfl, rfl, hb2⟩)
   | ((with_reducible refine qb .shr ?_); refine Fr rfl _ _ _ _ rfl _ _ rfl rfl (by omega) ?_)
   | ((with_reducible refine qb .rem ?_); refine Ft rfl _ _ _ _ rfl _ rfl rfl ?_)
   | ((with_reducible refine qA 16 ?_); refine Ef rfl _ _ _ _ rfl _ _ rfl rfl hb.out ?_))
  go_ret
  exact AE.mk ⟨b, rfl, HI2.out⟩ (BX hb_ hb2)
 ·have HR := Lib.hid (decide_eq_false hs)
  have HI2 : Hid (¬ GG L r s) := Lib.hid fun h => hs (HI.out.2 h).1
  clear hs HI
  go_enter Tryz.func129, Tryz.ntmps129
  go_wp2_with (first
   | (go_at_call 127; refine (BU _ _).mono ?_; rw [HR.out]; rintro r_ w_ ⟨_, rfl, rfl, hb_⟩))
  go_ret
  exact AE.mk ⟨false, rfl, fun h => by simp at h, fun h => absurd h HI2.out⟩ hb_
noncomputable def closTo (L : List (Nat × Nat)) (s k : Nat) : Nat := (List.range k).foldl (fun m r => if 1 <= r /\ s.testBit r then m ||| junM L r else m) 0
theorem Dp (L : List (Nat × Nat)) (s k : Nat) : closTo L s (k + 1) = if 1 <= k /\ s.testBit k then closTo L s k ||| junM L k else closTo L s k := by
 unfold closTo; rw [List.range_succ, List.foldl_append]; rfl
theorem Ez {L : List (Nat × Nat)} {s i : Nat} : ∀ {k : Nat}, (closTo L s k).testBit i = true ↔ ∃ r, r < k /\ 1 <= r /\ s.testBit r = true /\ (junM L r).testBit i = true
 | 0 => by simp [closTo]
 | k + 1 => by
  rw [Dp]
  split
  ·rename_i h
   rw [Hd, Ez]
   constructor
   ·rintro (⟨r, h1, h2⟩ | h1)
    ·exact ⟨r, by omega, h2⟩
    ·exact ⟨k, by omega, h.1, h.2, h1⟩
   ·rintro ⟨r, h1, h2, h3, h4⟩
    rcases Nat.lt_or_ge r k with h5 | h5
    ·exact .inl ⟨r, h5, h2, h3, h4⟩
    ·obtain rfl : r = k := by omega
     exact .inr h4
  ·rename_i h
   rw [Ez]
   constructor
   ·rintro ⟨r, h1, h2⟩
    exact ⟨r, by omega, h2⟩
   ·rintro ⟨r, h1, h2, h3, h4⟩
    rcases Nat.lt_or_ge r k with h5 | h5
    ·exact ⟨r, h5, h2, h3, h4⟩
    ·obtain rfl : r = k := by omega
     exact absurd ⟨h2, h3⟩ h
theorem junM_lt (L : List (Nat × Nat)) (r : Nat) : junM L r < 2 ^ 64 := by
 apply Nat.lt_pow_two_of_testBit
 intro i hi
 cases e : (junM L r).testBit i with
 | false => rfl
 | true => rw [junM, BH] at e; omega
theorem EM (L : List (Nat × Nat)) (s : Nat) : ∀ k, closTo L s k < 2 ^ 64
 | 0 => by simp [closTo]
 | k + 1 => by
  rw [Dp]
  split
  ·exact Nat.or_lt_two_pow (EM L s k) (junM_lt L k)
  ·exact EM L s k
noncomputable def closM (L : List (Nat × Nat)) (s : Nat) : Nat := closTo L s 64
theorem rclos_any {w0 : World} {D : Nat -> Prop} {pv : Value} {L : List (Nat × Nat)} (h : Sl w0 D 2 pv L.length (A7 L)) (hL : F4 64 L) (hl : L.length <= 1000000) (s : Nat) :
  Calls Tryz.prog 92 #[pv, .int .u64 (s : Nat)] w0 (AE (fun x _ => x = .int .u64 (closM L s : Nat)) w0) := by
 obtain ⟨A, c, rfl, _, _⟩ := h.shape
 have HJ := Lib.hid (fun w (hb : Below w0.heap.size w0 w) (r : Int) => rjun_any (h.ext hb) hL hl r)
 have hB := Below.refl w0.heap.size w0
 clear h
 go_enter Tryz.func92, Tryz.ntmps92
 go_wp2_with fail
 go_loopw [5, 6] (fun m i wr => ∃ k : Nat, 1 <= k /\ k <= 64 /\ i = .int .i64 (k : Nat) /\ m = .int .u64 (closTo L s k : Nat) /\ Below w0.heap.size w0 wr) (fun _ i _ => 64 - (intOf i).toNat)
 case atStart => exact ⟨1, by omega, by omega, rfl, by rw [Dp]; simp [closTo], hB⟩
 case round =>
  clear hB
  obtain ⟨k, hk1, hk2, rfl, rfl, hB⟩ := hrel
  have hM : closTo L s k < Bv := by rw [Cj]; exact EM L s k
  by_cases hk : k < 64
  ·have HSt := Lib.hid (Dp L s k)
   have hJ2 : junM L k < Bv := by rw [Cj]; exact junM_lt L k
   have HJ3 := Lib.hid (show junR L (k : Int) = junM L k by rw [junR, if_pos (by omega), Int.toNat_natCast])
   generalize closTo L s k = M at *
   generalize junM L k = J at *
   cases hbit : s.testBit k
   ·rw [hbit] at HSt
    have HE := Lib.hid (HSt.out.trans (if_neg (by simp)))
    go_wp2_with (first
     | ((with_reducible refine qb .shr ?_); refine Fr rfl _ _ _ _ rfl _ _ rfl rfl (by omega) ?_)
     | ((with_reducible refine qb .rem ?_); refine Ft rfl _ _ _ _ rfl _ rfl rfl ?_)
     | ((with_reducible refine qA 15 ?_); refine Ef rfl _ _ _ _ rfl _ _ rfl rfl hbit ?_)
     | ((with_reducible refine qB ?_); refine qc ?_ ?_ <;> intro h_ <;> go_prune))
    exact ⟨⟨k + 1, by omega, by omega, by go_num, by rw [HE.out], hB⟩, by simp [intOf]; omega⟩
   ·rw [hbit] at HSt
    have HE := Lib.hid (HSt.out.trans (if_pos ⟨hk1, rfl⟩))
    go_wp2_with (first
     | ((with_reducible refine qb .shr ?_); refine Fr rfl _ _ _ _ rfl _ _ rfl rfl (by omega) ?_)
     | ((with_reducible refine qb .rem ?_); refine Ft rfl _ _ _ _ rfl _ rfl rfl ?_)
     | ((with_reducible refine qb .or ?_); refine st_orN rfl _ _ _ _ rfl _ _ rfl rfl hM hJ2 ?_)
     | ((with_reducible refine qA 15 ?_); refine Ef rfl _ _ _ _ rfl _ _ rfl rfl hbit ?_)
     | (go_at_call 130; refine (HJ.out _ hB _).mono ?_; rw [HJ3.out]; rintro r_ w2 ⟨_, rfl, rfl, hb2⟩)
     | ((with_reducible refine qB ?_); refine qc ?_ ?_ <;> intro h_ <;> go_prune))
    exact ⟨⟨k + 1, by omega, by omega, by go_num, by rw [HE.out], BX hB hb2⟩, by simp [intOf]; omega⟩
  ·obtain rfl : k = 64 := by omega
   go_wp2_with (first | ((with_reducible refine qB ?_); refine qc ?_ ?_ <;> intro h_ <;> go_prune))
   go_ret
   exact AE.mk rfl hB
end
section
open Go.RowKit
attribute [local go_sem ↓] Go.wp_at_zero Go.wp_at_succ
set_option maxRecDepth 20000
set_option exponentiation.threshold 5000
def twoR (a b : Int) : Prop := (1 <= a /\ a <= 63) /\ (1 <= b /\ b <= 63) /\ a ≠ b
def RLinkP (w0 : World) (pv : Value) (L : List (Nat × Nat)) (a b : Int) (e : Ending) (w' : World) : Prop :=
 (¬ twoR a b /\ e = .returned (.tuple #[pv, .int .i64 1]) /\ Below w0.heap.size w0 w') \/
 ∃ x y : Nat, a = (x : Int) /\ b = (y : Int) /\ (1 <= x /\ x < 64) /\ (1 <= y /\ y < 64) /\ x ≠ y /\
  (((x, y) ∈ L /\ e = .returned (.tuple #[pv, .int .i64 5]) /\ Below w0.heap.size w0 w') \/
   ((x, y) ∉ L /\ TC L y x /\ e = .returned (.tuple #[pv, .int .i64 16]) /\ Below w0.heap.size w0 w') \/
   ((x, y) ∉ L /\ ¬ TC L y x /\ ∃ v, e = .returned (.tuple #[v, .int .i64 0]) /\ St w0 w' [.own v 159 2 (L.length + 1) (A7 (ins L (x, y)))] fun _ _ => True))
theorem ins_at {L : List (Nat × Nat)} {y : Nat × Nat} {i : Nat} (h : i <= Cu L y) {x : Nat × Nat} (hx : L[i]? = some x) : (Gx x y -> i + 1 <= Cu L y) /\ (¬ Gx x y -> i = Cu L y) := by
 constructor
 ·intro hp
  rcases Nat.lt_or_ge i (Cu L y) with h1 | h1
  ·exact h1
  ·obtain rfl : i = Cu L y := by omega
   exact absurd hp (insAt_stop hx)
 ·intro hp
  rcases Nat.lt_or_ge i (Cu L y) with h1 | h1
  ·obtain ⟨z, h2, h3⟩ := insAt_lt h1
   rw [hx] at h2
   cases h2
   exact absurd h3 hp
  ·omega
theorem Ej (L : List (Nat × Nat)) : ∀ k, (A7 L).drop (k * 2) = A7 (L.drop k) := by
 induction L with
 | nil => intro k; simp [A7]
 | cons x L ih =>
  intro k
  cases k with
  | zero => simp [A7]
  | succ k => rw [show (k + 1) * 2 = k * 2 + 1 + 1 by omega, Dl]; simp [ih]
def Bp (L : List (Nat × Nat)) (z : Nat × Nat) (i : Nat) : AD := ⟨159, 2, 4, fun s => match s with | 0 => 0 | 1 => 0 + i | 2 => 0 + i + 1 | _ => 0 + i + 1 + (L.length - i), fun s => match s with | 0 => [] | 1 => [] ++ (A7 L).take (i * 2) | 2 => [] ++ (A7 L).take (i * 2) ++ A7 [z] | _ => [] ++ (A7 L).take (i * 2) ++ A7 [z] ++ (A7 L).drop (i * 2), fun _ v => .own v 159 2 1 (A7 [z])⟩
def Cd : List (Nat × (Bool × Nat)) := [(0, (true, 0)), (4, (true, 1)), (8, (false, 0)), (9, (true, 2)), (13, (true, 3))]
set_option maxHeartbeats 2000000 in
theorem rlink_any {w0 : World} {D : Nat -> Prop} {pv : Value} {L : List (Nat × Nat)} (h : Sl w0 D 2 pv L.length (A7 L)) (hL : F4 64 L) (hl : L.length <= 1000000) (a b : Int) :
  Calls Tryz.prog 89 #[pv, .int .i64 a, .int .i64 b] w0 (RLinkP w0 pv L a b) := by
 obtain ⟨A, c, rfl, hc1, _⟩ := h.shape
 obtain ⟨K, kp, hS⟩ : ∃ K : (Nat -> Prop) -> World -> Prop, (∀ D w, K D w -> Sl w D 2 (.slice A L.length c) L.length (A7 L)) /\ St w0 w0 [] K := ⟨_, fun _ _ h => h, St.start (Ah (by decide)) h⟩
 clear h
 have HH := Lib.hid (fun (w : World) (D : Nat -> Prop) (h : Sl w D 2 (.slice A L.length c) L.length (A7 L)) => rhas_any h hl a b)
 have HI := Lib.hid (fun (w : World) (D : Nat -> Prop) (h : Sl w D 2 (.slice A L.length c) L.length (A7 L)) => rimpl_any h hL hl b a)
 by_cases hra : 1 <= a /\ a <= 63
 ·have HRA := Lib.hid (decide_eq_true hra)
  by_cases hrb : 1 <= b /\ b <= 63
  ·have HRB := Lib.hid (decide_eq_true hrb)
   by_cases hab : a = b
   ·subst hab
    have HNO : Hid (¬ twoR a a) := Lib.hid fun h => h.2.2 rfl
    clear hra hrb
    go_enter Tryz.func89, Tryz.ntmps89
    go_wp2_with (first
     | ((with_reducible refine qB ?_); refine qc ?_ ?_ <;> intro h_ <;> go_prune)
     | (go_at_call 127; refine (BU _ _).mono ?_; (first | rw [HRA.out] | rw [HRB.out]); rintro r_ w_ ⟨_, rfl, rfl, hb_⟩; replace hS := hS.ext hb_; clear hb_))
    go_ret2
    exact .inl ⟨HNO.out, rfl, hS.below⟩
   ·obtain ⟨x, rfl⟩ : ∃ x : Nat, a = (x : Int) := ⟨a.toNat, by omega⟩
    obtain ⟨y, rfl⟩ : ∃ y : Nat, b = (y : Int) := ⟨b.toNat, by omega⟩
    have hx1 : Hid (1 <= x /\ x < 64) := Lib.hid (by omega)
    have hy1 : Hid (1 <= y /\ y < 64) := Lib.hid (by omega)
    have hxy : Hid (x ≠ y) := Lib.hid (by omega)
    have HC1 : Hid (∀ c : Bool, (c = true ↔ ∃ z ∈ L, (x : Int) = (z.1 : Int) /\ (y : Int) = (z.2 : Int)) -> c = decide ((x, y) ∈ L)) := Lib.hid fun c hc => by
     rw [Bool.eq_iff_iff, hc, decide_eq_true_iff]
     constructor
     ·rintro ⟨⟨za, zb⟩, h1, h2, h3⟩
      dsimp only at h2 h3
      obtain rfl : x = za := by omega
      obtain rfl : y = zb := by omega
      exact h1
     ·intro h; exact ⟨_, h, rfl, rfl⟩
    have HC2 : Hid (∀ c : Bool, (c = true ↔ GG L (y : Nat) (x : Nat)) -> (c = true ↔ TC L y x)) := Lib.hid fun c hc => hc.trans ⟨fun ⟨i, j, h1, h2, _, _, h3⟩ => by
      obtain rfl : y = i := by omega
      obtain rfl : x = j := by omega
      exact h3.resolve_left fun e => hxy.out e.symm, fun h => ⟨y, x, rfl, rfl, hy1.out, hx1.out, .inr h⟩⟩
    clear hra hrb
    by_cases hm : (x, y) ∈ L
    ·go_enter Tryz.func89, Tryz.ntmps89
     go_wp2_with (first
      | ((with_reducible refine qB ?_); refine qc ?_ ?_ <;> intro h_ <;> go_prune)
      | (go_at_call 127; refine (BU _ _).mono ?_; (first | rw [HRA.out] | rw [HRB.out]); rintro r_ w_ ⟨_, rfl, rfl, hb_⟩; replace hS := hS.ext hb_; clear hb_)
      | (go_at_call 128; refine (HH.out _ _ (kp _ _ hS.ro)).mono ?_; rintro r_ w_ ⟨_, rfl, ⟨c, rfl, hc⟩, hb_⟩; replace hc := HC1.out c hc; rw [decide_eq_true hm] at hc; subst hc; replace hS := hS.ext hb_; clear hb_))
     go_ret2
     exact .inr ⟨x, y, rfl, rfl, hx1.out, hy1.out, hxy.out, .inl ⟨hm, rfl, hS.below⟩⟩
    ·by_cases ht : TC L y x
     ·have HT := Lib.hid ht
      have HC3 : Hid (∀ c : Bool, (c = true ↔ GG L (y : Nat) (x : Nat)) -> c = true) := Lib.hid fun c hc => (HC2.out c hc).2 ht
      clear ht
      go_enter Tryz.func89, Tryz.ntmps89
      go_wp2_with (first
       | ((with_reducible refine qB ?_); refine qc ?_ ?_ <;> intro h_ <;> go_prune)
       | (go_at_call 127; refine (BU _ _).mono ?_; (first | rw [HRA.out] | rw [HRB.out]); rintro r_ w_ ⟨_, rfl, rfl, hb_⟩; replace hS := hS.ext hb_; clear hb_)
       | (go_at_call 128; refine (HH.out _ _ (kp _ _ hS.ro)).mono ?_; rintro r_ w_ ⟨_, rfl, ⟨c, rfl, hc⟩, hb_⟩; replace hc := HC1.out c hc; rw [decide_eq_false hm] at hc; subst hc; replace hS := hS.ext hb_; clear hb_)
       | (go_at_call 129; refine (HI.out _ _ (kp _ _ hS.ro)).mono ?_; rintro r_ w_ ⟨_, rfl, ⟨c, rfl, hc⟩, hb_⟩; obtain rfl := HC3.out c hc; clear hc; replace hS := hS.ext hb_; clear hb_))
      go_ret2
      exact .inr ⟨x, y, rfl, rfl, hx1.out, hy1.out, hxy.out, .inr (.inl ⟨hm, HT.out, rfl, hS.below⟩)⟩
     ·have HT := Lib.hid ht
      have HC3 : Hid (∀ c : Bool, (c = true ↔ GG L (y : Nat) (x : Nat)) -> c = false) := Lib.hid fun c hc => by
       cases c with
       | true => exact absurd ((HC2.out true hc).1 rfl) ht
       | false => rfl
      clear ht
      go_enter Tryz.func89, Tryz.ntmps89
      go_wp2_with (first
       | ((with_reducible refine qB ?_); refine qc ?_ ?_ <;> intro h_ <;> go_prune)
       | (go_at_call 127; refine (BU _ _).mono ?_; (first | rw [HRA.out] | rw [HRB.out]); rintro r_ w_ ⟨_, rfl, rfl, hb_⟩; replace hS := hS.ext hb_; clear hb_)
       | (go_at_call 128; refine (HH.out _ _ (kp _ _ hS.ro)).mono ?_; rintro r_ w_ ⟨_, rfl, ⟨c, rfl, hc⟩, hb_⟩; replace hc := HC1.out c hc; rw [decide_eq_false hm] at hc; subst hc; replace hS := hS.ext hb_; clear hb_)
       | (go_at_call 129; refine (HI.out _ _ (kp _ _ hS.ro)).mono ?_; rintro r_ w_ ⟨_, rfl, ⟨c, rfl, hc⟩, hb_⟩; obtain rfl := HC3.out c hc; clear hc; replace hS := hS.ext hb_; clear hb_))
      go_loopw [8] (fun v wr => ∃ i : Nat, v = .int .i64 (i : Nat) /\ i <= L.length /\ Hid (i <= Cu L (x, y)) /\ St w0 wr [] K) (fun v _ => L.length - (intOf v).toNat)
      case atStart => exact ⟨0, rfl, by omega, Lib.hid (Nat.zero_le _), hS⟩
      case round =>
       clear hS HH HI
       obtain ⟨i, rfl, hil, HIA, hS⟩ := hrel
       by_cases hlt : i < L.length
       ·obtain ⟨f1, f2⟩ := Bc L i hlt
        have HST := Lib.hid (ins_at HIA.out (Cf (0, 0) hlt))
        generalize L.getD i (0, 0) = z at *
        obtain ⟨za, zb⟩ := z
        dsimp only at f1 f2
        rcases Nat.lt_trichotomy za x with h1 | h1 | h1
        ·have HN := Lib.hid (HST.out.1 (.inl h1))
         clear HST
         go_wp2_with (first
          | ((with_reducible refine qB ?_); refine qc ?_ ?_ <;> intro h_ <;> go_prune)
          | ((with_reducible refine qI ?_); refine qj hS Tryz.underlying32 ?_; intro b_ j_ hc0_ hc1_)
          | ((with_reducible refine qK ?_); first | refine BigFrame.wpList_want rfl fun _ hK => Ab rfl rfl (by kernel_rfl) hc0_ (hK _ _ ?_) | refine BigFrame.wpList_want rfl fun _ hK => Ab rfl rfl (by kernel_rfl) hc1_ (hK _ _ ?_)))
         exact ⟨⟨i + 1, by go_num, hlt, HN, hS⟩, by simp [intOf]; omega⟩
        ·by_cases h2 : zb < y
         ·have HN := Lib.hid (HST.out.1 (.inr ⟨h1, h2⟩))
          clear HST
          go_wp2_with (first
           | ((with_reducible refine qB ?_); refine qc ?_ ?_ <;> intro h_ <;> go_prune)
           | ((with_reducible refine qI ?_); refine qj hS Tryz.underlying32 ?_; intro b_ j_ hc0_ hc1_)
           | ((with_reducible refine qK ?_); first | refine BigFrame.wpList_want rfl fun _ hK => Ab rfl rfl (by kernel_rfl) hc0_ (hK _ _ ?_) | refine BigFrame.wpList_want rfl fun _ hK => Ab rfl rfl (by kernel_rfl) hc1_ (hK _ _ ?_)))
          exact ⟨⟨i + 1, by go_num, hlt, HN, hS⟩, by simp [intOf]; omega⟩
         ·have HE := Lib.hid (HST.out.2 (by rintro (h | h) <;> dsimp only at h <;> omega))
          clear HST
          go_wp2_with (first
           | ((with_reducible refine qB ?_); refine qc ?_ ?_ <;> intro h_ <;> go_prune)
           | ((with_reducible refine qI ?_); refine qj hS Tryz.underlying32 ?_; intro b_ j_ hc0_ hc1_)
           | ((with_reducible refine qK ?_); first | refine BigFrame.wpList_want rfl fun _ hK => Ab rfl rfl (by kernel_rfl) hc0_ (hK _ _ ?_) | refine BigFrame.wpList_want rfl fun _ hK => Ab rfl rfl (by kernel_rfl) hc1_ (hK _ _ ?_)))
          have hic : i <= c := by omega
          have hJ0 : AJ w0 [] K (Bp L (x, y) i) (wr.drew, ⟨[], []⟩) := ⟨hS.drew, Nat.zero_le _⟩
          have hN0 := Iy Cd wr.drew
          have hRr := @AR.refl w0 [] K (Bp L (x, y) i)
          have hRt := @AR.trans w0 [] K (Bp L (x, y) i)
          refine ER (AR w0 [] K (Bp L (x, y) i)) (AN Cd) (⟨[], []⟩) hRr hRt [.s (fun v w => G6 w.2 0 v) fun v w w' h hb => h.mono hb.2.1, .i (.slice A L.length c), .n ((i : Nat) : Int), .i (.slice A i c), .s (fun v w => G6 w.2 1 v) fun v w w' h hb => h.mono hb.2.1, .n ((x : Nat) : Int), .n ((y : Nat) : Int), .i (.agg #[.int .i64 ((x : Nat) : Int), .int .i64 ((y : Nat) : Int)]), .s (fun v w => (0, v) ∈ w.2.b) fun v w w' h hb => hb.2.2 _ h, .s (fun v w => G6 w.2 2 v) fun v w w' h hb => h.mono hb.2.1, .i (.slice A L.length c), .n ((i : Nat) : Int), .i (sliced A i L.length c 2), .s (fun v w => G6 w.2 3 v) fun v w w' h hb => h.mono hb.2.1, .s (fun v w => G6 w.2 3 v) fun v w w' h hb => h.mono hb.2.1, .n 0] ?_ ⟨?_, uM, uM, ?_, ?_, uM, uM, ?_, ?_, ?_, uM, uM, ?_, ?_, uA, uA, trivial⟩ ?_
          ·first | assumption | (intro i; (try dsimp only); split <;> first | trivial | assumption | (left; assumption))
          ·refine uG fun b__ w hW hN hE K hK => ?_
           exact Ep (kd := Cd) (by decide) rfl rfl Tryz.underlying32 (by kernel_rfl) hN rfl rfl (show 0 < 4 by decide) hK
          ·refine uG fun b__ w hW hN hE K hK => ?_
           have e67 := hE 67
           have e68 := hE 68
           exact H4 rfl Tryz.underlying32 ⟨2, by kernel_rfl⟩ e67 e68 hic (hK _ _ rfl ⟨hRr _, fun _ _ h => h⟩)
          ·refine uG fun b__ w hW hN hE K hK => ?_
           have e66 := hE 66
           have e69 := hE 69
           exact BK (kd := Cd) (by decide) rfl rfl BR hN e66 (hW.1 hJ0) (by rw [e69]; exact Hp (kp _ _ (hW.1 hJ0).1.ro) hil) (fun u hu => Bm L u (List.mem_of_mem_take hu)) rfl rfl (by simp [Bp]; omega) (by simp [Bp]; omega) (show 0 + 1 < 4 by decide) hK
          ·refine uG fun b__ w hW hN hE K hK => ?_
           have e71 := hE 71
           have e72 := hE 72
           exact Cp rfl (ps := [(0, .int .i64 ((x : Nat) : Int)), (1, .int .i64 ((y : Nat) : Int))]) (cells := #[.int .i64 ((x : Nat) : Int), .int .i64 ((y : Nat) : Int)]) (by simp [e71, e72]) (by kernel_rfl) (hK _ _ rfl ⟨hRr _, fun _ _ h => h⟩)
          ·refine uG fun b__ w hW hN hE K hK => ?_
           have e73 := hE 73
           exact Ff (kd := Cd) (by decide) rfl rfl Tryz.underlying32 (ps := [(0, .agg #[.int .i64 ((x : Nat) : Int), .int .i64 ((y : Nat) : Int)])]) (cells := #[.int .i64 ((x : Nat) : Int), .int .i64 ((y : Nat) : Int)]) (by simp [e73]) (by kernel_rfl) (fun _ => rfl) rfl (by decide) hK
          ·refine uG fun b__ w hW hN hE K hK => ?_
           have e70 := hE 70
           have e74 := hE 74
           exact BK (kd := Cd) (by decide) rfl rfl BR hN e70 (hW.1 hJ0) (Sl.of_own ((hW.1 hJ0).side e74)) (Bm [(x, y)]) rfl rfl (by simp [Bp]; omega) (by simp [Bp]; omega) (show 1 + 1 < 4 by decide) hK
          ·refine uG fun b__ w hW hN hE K hK => ?_
           have e76 := hE 76
           have e77 := hE 77
           exact opw_sll rfl Tryz.underlying32 (by kernel_rfl) e76 e77 hil hc1 (hK _ _ rfl ⟨hRr _, fun _ _ h => h⟩)
          ·refine uG fun b__ w hW hN hE K hK => ?_
           have e75 := hE 75
           have e78 := hE 78
           exact BK (kd := Cd) (by decide) rfl rfl BR hN e75 (hW.1 hJ0) (by rw [e78]; exact Hq (kp _ _ (hW.1 hJ0).1.ro) hil) (fun u hu => Bm L u (List.mem_of_mem_drop hu)) rfl rfl (by simp [Bp]; omega) (by simp [Bp]; omega) (show 2 + 1 < 4 by decide) hK
          ·intro vs wz hW hT
           obtain ⟨e66, e67, e68, e69, e70, e71, e72, e73, e74, e75, e76, e77, e78, e79, e6, e7, -⟩ := hT
           have bx : (fun _ : Nat => True) 0 := trivial
           simp only [Aw, Act.put, zz, ze]
           have hJ := (hW.1 hJ0).last e6 rfl
           replace hJ : St w0 wz.1 [.own (vs 6) 159 2 (L.length + 1) (A7 (ins L (x, y)))] fun _ _ => True := by
            have e1 : 0 + i + 1 + (L.length - i) = L.length + 1 := by omega
            have e2 : [] ++ (A7 L).take (i * 2) ++ A7 [(x, y)] ++ (A7 L).drop (i * 2) = A7 (ins L (x, y)) := by
             rw [List.nil_append, Dk, Ej, <- Ch, <- Ch, ins, <- HE.out, List.append_assoc]; rfl
            simp only [Bp] at hJ
            rw [e1, e2] at hJ
            exact hJ.mono (Ao.pure True) fun _ _ _ => trivial
           rw [e7]
           generalize vs 6 = v6 at *
           generalize wz.1 = wf at *
           clear hW hJ0 hRr hRt e6 e7
           go_wp2_with fail
           all_goals
            go_ret2
            exact .inr ⟨x, y, rfl, rfl, hx1.out, hy1.out, hxy.out, .inr (.inr ⟨hm, HT.out, _, rfl, hJ⟩)⟩
        ·have HE := Lib.hid (HST.out.2 (by rintro (h | h) <;> dsimp only at h <;> omega))
         clear HST
         go_wp2_with (first
          | ((with_reducible refine qB ?_); refine qc ?_ ?_ <;> intro h_ <;> go_prune)
          | ((with_reducible refine qI ?_); refine qj hS Tryz.underlying32 ?_; intro b_ j_ hc0_ hc1_)
          | ((with_reducible refine qK ?_); first | refine BigFrame.wpList_want rfl fun _ hK => Ab rfl rfl (by kernel_rfl) hc0_ (hK _ _ ?_) | refine BigFrame.wpList_want rfl fun _ hK => Ab rfl rfl (by kernel_rfl) hc1_ (hK _ _ ?_)))
         have hic : i <= c := by omega
         have hJ0 : AJ w0 [] K (Bp L (x, y) i) (wr.drew, ⟨[], []⟩) := ⟨hS.drew, Nat.zero_le _⟩
         have hN0 := Iy Cd wr.drew
         have hRr := @AR.refl w0 [] K (Bp L (x, y) i)
         have hRt := @AR.trans w0 [] K (Bp L (x, y) i)
         refine ER (AR w0 [] K (Bp L (x, y) i)) (AN Cd) (⟨[], []⟩) hRr hRt [.s (fun v w => G6 w.2 0 v) fun v w w' h hb => h.mono hb.2.1, .i (.slice A L.length c), .n ((i : Nat) : Int), .i (.slice A i c), .s (fun v w => G6 w.2 1 v) fun v w w' h hb => h.mono hb.2.1, .n ((x : Nat) : Int), .n ((y : Nat) : Int), .i (.agg #[.int .i64 ((x : Nat) : Int), .int .i64 ((y : Nat) : Int)]), .s (fun v w => (0, v) ∈ w.2.b) fun v w w' h hb => hb.2.2 _ h, .s (fun v w => G6 w.2 2 v) fun v w w' h hb => h.mono hb.2.1, .i (.slice A L.length c), .n ((i : Nat) : Int), .i (sliced A i L.length c 2), .s (fun v w => G6 w.2 3 v) fun v w w' h hb => h.mono hb.2.1, .s (fun v w => G6 w.2 3 v) fun v w w' h hb => h.mono hb.2.1, .n 0] ?_ ⟨?_, uM, uM, ?_, ?_, uM, uM, ?_, ?_, ?_, uM, uM, ?_, ?_, uA, uA, trivial⟩ ?_
         ·first | assumption | (intro i; (try dsimp only); split <;> first | trivial | assumption | (left; assumption))
         ·refine uG fun b__ w hW hN hE K hK => ?_
          exact Ep (kd := Cd) (by decide) rfl rfl Tryz.underlying32 (by kernel_rfl) hN rfl rfl (show 0 < 4 by decide) hK
         ·refine uG fun b__ w hW hN hE K hK => ?_
          have e67 := hE 67
          have e68 := hE 68
          exact H4 rfl Tryz.underlying32 ⟨2, by kernel_rfl⟩ e67 e68 hic (hK _ _ rfl ⟨hRr _, fun _ _ h => h⟩)
         ·refine uG fun b__ w hW hN hE K hK => ?_
          have e66 := hE 66
          have e69 := hE 69
          exact BK (kd := Cd) (by decide) rfl rfl BR hN e66 (hW.1 hJ0) (by rw [e69]; exact Hp (kp _ _ (hW.1 hJ0).1.ro) hil) (fun u hu => Bm L u (List.mem_of_mem_take hu)) rfl rfl (by simp [Bp]; omega) (by simp [Bp]; omega) (show 0 + 1 < 4 by decide) hK
         ·refine uG fun b__ w hW hN hE K hK => ?_
          have e71 := hE 71
          have e72 := hE 72
          exact Cp rfl (ps := [(0, .int .i64 ((x : Nat) : Int)), (1, .int .i64 ((y : Nat) : Int))]) (cells := #[.int .i64 ((x : Nat) : Int), .int .i64 ((y : Nat) : Int)]) (by simp [e71, e72]) (by kernel_rfl) (hK _ _ rfl ⟨hRr _, fun _ _ h => h⟩)
         ·refine uG fun b__ w hW hN hE K hK => ?_
          have e73 := hE 73
          exact Ff (kd := Cd) (by decide) rfl rfl Tryz.underlying32 (ps := [(0, .agg #[.int .i64 ((x : Nat) : Int), .int .i64 ((y : Nat) : Int)])]) (cells := #[.int .i64 ((x : Nat) : Int), .int .i64 ((y : Nat) : Int)]) (by simp [e73]) (by kernel_rfl) (fun _ => rfl) rfl (by decide) hK
         ·refine uG fun b__ w hW hN hE K hK => ?_
          have e70 := hE 70
          have e74 := hE 74
          exact BK (kd := Cd) (by decide) rfl rfl BR hN e70 (hW.1 hJ0) (Sl.of_own ((hW.1 hJ0).side e74)) (Bm [(x, y)]) rfl rfl (by simp [Bp]; omega) (by simp [Bp]; omega) (show 1 + 1 < 4 by decide) hK
         ·refine uG fun b__ w hW hN hE K hK => ?_
          have e76 := hE 76
          have e77 := hE 77
          exact opw_sll rfl Tryz.underlying32 (by kernel_rfl) e76 e77 hil hc1 (hK _ _ rfl ⟨hRr _, fun _ _ h => h⟩)
         ·refine uG fun b__ w hW hN hE K hK => ?_
          have e75 := hE 75
          have e78 := hE 78
          exact BK (kd := Cd) (by decide) rfl rfl BR hN e75 (hW.1 hJ0) (by rw [e78]; exact Hq (kp _ _ (hW.1 hJ0).1.ro) hil) (fun u hu => Bm L u (List.mem_of_mem_drop hu)) rfl rfl (by simp [Bp]; omega) (by simp [Bp]; omega) (show 2 + 1 < 4 by decide) hK
         ·intro vs wz hW hT
          obtain ⟨e66, e67, e68, e69, e70, e71, e72, e73, e74, e75, e76, e77, e78, e79, e6, e7, -⟩ := hT
          have bx : (fun _ : Nat => True) 0 := trivial
          simp only [Aw, Act.put, zz, ze]
          have hJ := (hW.1 hJ0).last e6 rfl
          replace hJ : St w0 wz.1 [.own (vs 6) 159 2 (L.length + 1) (A7 (ins L (x, y)))] fun _ _ => True := by
           have e1 : 0 + i + 1 + (L.length - i) = L.length + 1 := by omega
           have e2 : [] ++ (A7 L).take (i * 2) ++ A7 [(x, y)] ++ (A7 L).drop (i * 2) = A7 (ins L (x, y)) := by
            rw [List.nil_append, Dk, Ej, <- Ch, <- Ch, ins, <- HE.out, List.append_assoc]; rfl
           simp only [Bp] at hJ
           rw [e1, e2] at hJ
           exact hJ.mono (Ao.pure True) fun _ _ _ => trivial
          rw [e7]
          generalize vs 6 = v6 at *
          generalize wz.1 = wf at *
          clear hW hJ0 hRr hRt e6 e7
          go_wp2_with fail
          all_goals
           go_ret2
           exact .inr ⟨x, y, rfl, rfl, hx1.out, hy1.out, hxy.out, .inr (.inr ⟨hm, HT.out, _, rfl, hJ⟩)⟩
       ·have HE : Hid (i = Cu L (x, y)) := Lib.hid (Nat.le_antisymm HIA.out (by have := insAt_le L (x, y); omega))
        go_wp2_with (first | ((with_reducible refine qB ?_); refine qc ?_ ?_ <;> intro h_ <;> go_prune))
        have hic : i <= c := by omega
        have hJ0 : AJ w0 [] K (Bp L (x, y) i) (wr.drew, ⟨[], []⟩) := ⟨hS.drew, Nat.zero_le _⟩
        have hN0 := Iy Cd wr.drew
        have hRr := @AR.refl w0 [] K (Bp L (x, y) i)
        have hRt := @AR.trans w0 [] K (Bp L (x, y) i)
        refine ER (AR w0 [] K (Bp L (x, y) i)) (AN Cd) (⟨[], []⟩) hRr hRt [.s (fun v w => G6 w.2 0 v) fun v w w' h hb => h.mono hb.2.1, .i (.slice A L.length c), .n ((i : Nat) : Int), .i (.slice A i c), .s (fun v w => G6 w.2 1 v) fun v w w' h hb => h.mono hb.2.1, .n ((x : Nat) : Int), .n ((y : Nat) : Int), .i (.agg #[.int .i64 ((x : Nat) : Int), .int .i64 ((y : Nat) : Int)]), .s (fun v w => (0, v) ∈ w.2.b) fun v w w' h hb => hb.2.2 _ h, .s (fun v w => G6 w.2 2 v) fun v w w' h hb => h.mono hb.2.1, .i (.slice A L.length c), .n ((i : Nat) : Int), .i (sliced A i L.length c 2), .s (fun v w => G6 w.2 3 v) fun v w w' h hb => h.mono hb.2.1, .s (fun v w => G6 w.2 3 v) fun v w w' h hb => h.mono hb.2.1, .n 0] ?_ ⟨?_, uM, uM, ?_, ?_, uM, uM, ?_, ?_, ?_, uM, uM, ?_, ?_, uA, uA, trivial⟩ ?_
        ·first | assumption | (intro i; (try dsimp only); split <;> first | trivial | assumption | (left; assumption))
        ·refine uG fun b__ w hW hN hE K hK => ?_
         exact Ep (kd := Cd) (by decide) rfl rfl Tryz.underlying32 (by kernel_rfl) hN rfl rfl (show 0 < 4 by decide) hK
        ·refine uG fun b__ w hW hN hE K hK => ?_
         have e67 := hE 67
         have e68 := hE 68
         exact H4 rfl Tryz.underlying32 ⟨2, by kernel_rfl⟩ e67 e68 hic (hK _ _ rfl ⟨hRr _, fun _ _ h => h⟩)
        ·refine uG fun b__ w hW hN hE K hK => ?_
         have e66 := hE 66
         have e69 := hE 69
         exact BK (kd := Cd) (by decide) rfl rfl BR hN e66 (hW.1 hJ0) (by rw [e69]; exact Hp (kp _ _ (hW.1 hJ0).1.ro) hil) (fun u hu => Bm L u (List.mem_of_mem_take hu)) rfl rfl (by simp [Bp]; omega) (by simp [Bp]; omega) (show 0 + 1 < 4 by decide) hK
        ·refine uG fun b__ w hW hN hE K hK => ?_
         have e71 := hE 71
         have e72 := hE 72
         exact Cp rfl (ps := [(0, .int .i64 ((x : Nat) : Int)), (1, .int .i64 ((y : Nat) : Int))]) (cells := #[.int .i64 ((x : Nat) : Int), .int .i64 ((y : Nat) : Int)]) (by simp [e71, e72]) (by kernel_rfl) (hK _ _ rfl ⟨hRr _, fun _ _ h => h⟩)
        ·refine uG fun b__ w hW hN hE K hK => ?_
         have e73 := hE 73
         exact Ff (kd := Cd) (by decide) rfl rfl Tryz.underlying32 (ps := [(0, .agg #[.int .i64 ((x : Nat) : Int), .int .i64 ((y : Nat) : Int)])]) (cells := #[.int .i64 ((x : Nat) : Int), .int .i64 ((y : Nat) : Int)]) (by simp [e73]) (by kernel_rfl) (fun _ => rfl) rfl (by decide) hK
        ·refine uG fun b__ w hW hN hE K hK => ?_
         have e70 := hE 70
         have e74 := hE 74
         exact BK (kd := Cd) (by decide) rfl rfl BR hN e70 (hW.1 hJ0) (Sl.of_own ((hW.1 hJ0).side e74)) (Bm [(x, y)]) rfl rfl (by simp [Bp]; omega) (by simp [Bp]; omega) (show 1 + 1 < 4 by decide) hK
        ·refine uG fun b__ w hW hN hE K hK => ?_
         have e76 := hE 76
         have e77 := hE 77
         exact opw_sll rfl Tryz.underlying32 (by kernel_rfl) e76 e77 hil hc1 (hK _ _ rfl ⟨hRr _, fun _ _ h => h⟩)
        ·refine uG fun b__ w hW hN hE K hK => ?_
         have e75 := hE 75
         have e78 := hE 78
         exact BK (kd := Cd) (by decide) rfl rfl BR hN e75 (hW.1 hJ0) (by rw [e78]; exact Hq (kp _ _ (hW.1 hJ0).1.ro) hil) (fun u hu => Bm L u (List.mem_of_mem_drop hu)) rfl rfl (by simp [Bp]; omega) (by simp [Bp]; omega) (show 2 + 1 < 4 by decide) hK
        ·intro vs wz hW hT
         obtain ⟨e66, e67, e68, e69, e70, e71, e72, e73, e74, e75, e76, e77, e78, e79, e6, e7, -⟩ := hT
         have bx : (fun _ : Nat => True) 0 := trivial
         simp only [Aw, Act.put, zz, ze]
         have hJ := (hW.1 hJ0).last e6 rfl
         replace hJ : St w0 wz.1 [.own (vs 6) 159 2 (L.length + 1) (A7 (ins L (x, y)))] fun _ _ => True := by
          have e1 : 0 + i + 1 + (L.length - i) = L.length + 1 := by omega
          have e2 : [] ++ (A7 L).take (i * 2) ++ A7 [(x, y)] ++ (A7 L).drop (i * 2) = A7 (ins L (x, y)) := by
           rw [List.nil_append, Dk, Ej, <- Ch, <- Ch, ins, <- HE.out, List.append_assoc]; rfl
          simp only [Bp] at hJ
          rw [e1, e2] at hJ
          exact hJ.mono (Ao.pure True) fun _ _ _ => trivial
         rw [e7]
         generalize vs 6 = v6 at *
         generalize wz.1 = wf at *
         clear hW hJ0 hRr hRt e6 e7
         go_wp2_with fail
         all_goals
          go_ret2
          exact .inr ⟨x, y, rfl, rfl, hx1.out, hy1.out, hxy.out, .inr (.inr ⟨hm, HT.out, _, rfl, hJ⟩)⟩
  ·have HRB := Lib.hid (decide_eq_false hrb)
   have HNO : Hid (¬ twoR a b) := Lib.hid fun h => hrb h.2.1
   go_enter Tryz.func89, Tryz.ntmps89
   go_wp2_with (first
    | ((with_reducible refine qB ?_); refine qc ?_ ?_ <;> intro h_ <;> go_prune)
    | (go_at_call 127; refine (BU _ _).mono ?_; (first | rw [HRA.out] | rw [HRB.out]); rintro r_ w_ ⟨_, rfl, rfl, hb_⟩; replace hS := hS.ext hb_; clear hb_))
   go_ret2
   exact .inl ⟨HNO.out, rfl, hS.below⟩
 ·have HRA := Lib.hid (decide_eq_false hra)
  have HRB := HRA
  have HNO : Hid (¬ twoR a b) := Lib.hid fun h => hra h.1
  go_enter Tryz.func89, Tryz.ntmps89
  go_wp2_with (first
   | ((with_reducible refine qB ?_); refine qc ?_ ?_ <;> intro h_ <;> go_prune)
   | (go_at_call 127; refine (BU _ _).mono ?_; (first | rw [HRA.out] | rw [HRB.out]); rintro r_ w_ ⟨_, rfl, rfl, hb_⟩; replace hS := hS.ext hb_; clear hb_))
  go_ret2
  exact .inl ⟨HNO.out, rfl, hS.below⟩
end
section
open Go.RowKit
attribute [local go_sem ↓] Go.wp_at_zero Go.wp_at_succ
set_option maxRecDepth 20000
set_option exponentiation.threshold 5000
noncomputable def closPre (L : List (Nat × Nat)) (pre : List Int) : Nat := pre.foldl (fun m x => m ||| junR L x) 0
theorem closPre_snoc (L : List (Nat × Nat)) (pre : List Int) (x : Int) : closPre L (pre ++ [x]) = closPre L pre ||| junR L x := by
 unfold closPre; rw [List.foldl_append]; rfl
theorem tb_foldor (f : Int -> Nat) (i : Nat) : ∀ (l : List Int) (m : Nat), (l.foldl (fun m x => m ||| f x) m).testBit i = true ↔ m.testBit i = true \/ ∃ x ∈ l, (f x).testBit i = true
 | [], m => by simp
 | x :: l, m => by
  rw [List.foldl_cons, tb_foldor f i l, Hd]
  constructor
  ·rintro ((h | h) | ⟨y, h1, h2⟩)
   ·exact .inl h
   ·exact .inr ⟨x, List.mem_cons_self .., h⟩
   ·exact .inr ⟨y, List.mem_cons_of_mem _ h1, h2⟩
  ·rintro (h | ⟨y, h1, h2⟩)
   ·exact .inl (.inl h)
   ·rcases List.mem_cons.1 h1 with rfl | h1
    ·exact .inl (.inr h2)
    ·exact .inr ⟨y, h1, h2⟩
theorem closPre_full {L : List (Nat × Nat)} {ws : List Nat} (hw : AP ws) : closPre L (Cc ws) = closM L (val ws) := Bx fun i => by
 unfold closPre closM
 rw [tb_foldor, Ez, Nat.zero_testBit]
 constructor
 ·rintro (h | ⟨x, h1, h2⟩)
  ·cases h
  ·obtain ⟨k, rfl⟩ := memL_nat h1
   have h3 := (FM hw).1 h1
   unfold junR at h2
   split at h2
   ·rename_i h4
    exact ⟨k, by omega, by omega, h3, by simpa using h2⟩
   ·rw [Nat.zero_testBit] at h2; cases h2
 ·rintro ⟨r, h1, h2, h3, h4⟩
  refine .inr ⟨(r : Int), (FM hw).2 h3, ?_⟩
  rw [junR, if_pos (by omega), Int.toNat_natCast]
  exact h4
set_option maxHeartbeats 2000000 in
theorem EJ {w0 : World} {D E : Nat -> Prop} {p v : Value} {L : List (Nat × Nat)} {N : Nat} (h : IsH w0 D p L) (hT : BM w0) (hH : GM L) (hv : A5 w0 E v N) : Calls Tryz.prog 23 #[p, v] w0 (AE (fun x w' => A5 w' (w0.heap.size <= ·) x (closM L N)) w0) := by
 obtain ⟨q, o, rfl, hX⟩ := h
 obtain ⟨A, c, l, rfl, hl, rfl, _, _, hs⟩ := hv.parts
 obtain ⟨K, k1, ko, kt, hS⟩ : ∃ K : (Nat -> Prop) -> World -> Prop, (∀ D w, K D w -> A5 w D (.agg #[.slice A l.length c]) (val l)) /\ (∀ D w, K D w -> HierX q o L D w) /\ (∀ D w, K D w -> BM w /\ D 0) /\ St w0 w0 [] K :=
  ⟨fun D w => (A5 w D (.agg #[.slice A l.length c]) (val l) /\ HierX q o L D w) /\ BM w /\ D 0, fun _ _ h => h.1.1, fun _ _ h => h.1.2, fun _ _ h => h.2, St.start (D := fun _ => True) ((A6.and CR).and CK) ⟨⟨hv.imp fun _ _ _ => trivial, CR D _ w0 w0 hX (Nat.le_refl _) (fun _ _ _ _ h => h) fun _ _ _ _ => trivial⟩, hT, trivial⟩⟩
 have HH := Lib.hid hH
 clear hs hv hT hX hH
 refine (callsIn_wide (n := 6)).1 (callsIn_of_wp_marks Tryz.func23 rfl trivial ?_ rfl)
 simp only [Tryz.ntmps23, List.size_toArray, List.length_cons, List.length_nil, Nat.reduceAdd, Nat.reduceSub, Array.replicate_succ, Array.replicate_zero, List.push_toArray, List.append_toArray, List.nil_append, List.cons_append]
 refine wpIn_wide.2 ?_
 go_wp2_with (first
  | ((with_reducible refine qA 2 ?_); refine At hS rfl _ _ rfl (.pointer (some ⟨q, 0, none⟩)) _ rfl rfl ?_; clear hS; intro g2 w_ hS; (try simp only [Act.put, Act.eval, zz, Value.cells] at hS))
  | ((with_reducible refine qA 3 ?_); refine At hS rfl _ _ rfl (.agg #[.slice A l.length c]) _ rfl rfl ?_; clear hS; intro g3 w_ hS; (try simp only [Act.put, Act.eval, zz, Value.cells] at hS))
  | ((with_reducible refine qA 4 ?_); refine qa hS #[.slice none 0 0] ?_; clear hS; intro g4 w_ hS)
  | ((with_reducible refine qA 5 ?_); refine qa hS #[.slice none 0 0] ?_; clear hS; intro g5 w_ hS)
  | ((with_reducible refine qK ?_); refine qL hS Tryz.underlying27 ?_))
 refine (sall_any _ _ _ _ (k1 _ _ hS.ro)).mono ?_
 rintro e w3 ⟨_, rfl, ⟨Bs, A', cap, ws, rfl, e1, hcn, hvN, hsl, hBs, hX⟩, hb3⟩
 obtain rfl := canon_eq hcn hl hvN
 obtain ⟨rfl, rfl⟩ : A = A' /\ c = cap := by simpa using e1
 clear e1 hvN
 obtain ⟨hT, hT0⟩ := kt _ _ hS.ro
 replace hS := hS.good hb3 hsl hT hT0 hBs hX
 obtain ⟨KK, ko, kG, KKS, hS⟩ : ∃ KK : (Nat -> Prop) -> World -> Prop, (∀ D w, KK D w -> HierX q o L D w) /\ (∀ D w, KK D w -> GW Bs A c ws w) /\ Ao KK /\ St w0 w3 [.box g5 27 #[.slice none 0 0], .box g4 27 #[.slice none 0 0], .box g3 27 #[.slice A ws.length c], .box g2 24 #[.pointer (some ⟨q, 0, none⟩)]] KK := ⟨_, fun D w h => ko D w h.1, fun D w h => h.2.1, hS.stable, hS⟩
 have HCN := Lib.hid hcn
 have HCF := Lib.hid (closPre_full (L := L) hcn.1)
 clear hsl hX hT hT0 hb3 kt k1 hcn hl
 go_wp2_with fail
 have hsz := hS.size
 refine (wpIn_wide (n := 6)).1 ?_
 refine wpIn_act fun act hact => ?_
 refine I1 hS HCN.out.1 HCN.out.2.2 kG (by rw [hact]; rfl) rfl
  (fun pre F' K' => ∃ u, F' = [.box g5 27 #[u], .box g4 27 #[.slice none 0 0], .box g3 27 #[.slice A ws.length c], .box g2 24 #[.pointer (some ⟨q, 0, none⟩)]] /\ Ao K' /\ ∀ D w, K' D w -> KK D w /\ A5 w (fun z => D z /\ w0.heap.size <= z) (.agg #[u]) (closPre L pre))
  (fun _ _ _ _ => False) (fun s F K' h D w hk => by obtain ⟨_, _, _, h4⟩ := h; exact (h4 D w hk).1) ?hr (fun _ _ _ _ h => h.elim) ⟨_, rfl, KKS, fun D w h => ⟨h, A5.empty⟩⟩
  (fun x => { tmps := (act.tmps.setIfInBounds 9 (.int .i64 x)).setIfInBounds 6 (.int .i64 x), defers := [] }) ?assign ?body ?done (fun _ _ _ _ _ _ _ _ h _ _ => h.elim)
 case hr =>
  rintro s F K' ⟨u, rfl, _⟩ f hf
  simp only [List.mem_cons, List.not_mem_nil, or_false] at hf
  rcases hf with rfl | rfl | rfl | rfl <;> exact .inl rfl
 case assign =>
  intro l x W K hK
  subst hact
  rw [zip_one]
  refine wpIn_region_lit ?_
  refine listIn_of (by intro _ _ h; exact h) _ _ _ (by rfl) _ _ ?_
  refine wpList_plain rfl fun _ hK' => Fb (v := .int .i64 x) rfl (by rfl) (hK' _ _ ?_)
  exact wpList_nil hK
 case body =>
  rintro l pre x hx W F' Xo K' ⟨ub, rfl, hKs, hk'⟩ hS hlt
  subst hact
  have HW := Lib.hid (closPre_snoc L pre x)
  generalize closPre L pre = N0 at *
  have HKP := Lib.hid hk'
  have hWs : W.heap.size <= W.heap.size := Nat.le_refl _
  clear hx hk'
  simp only [Act.put, List.setIfInBounds_toArray, List.set_cons_zero, List.set_cons_succ]
  refine wpIn_block ?_
  refine E8 (by kernel_rfl) (by intro _ _ h; exact h) (by rfl) ?_
  refine any_zL 5 [] [.i (.agg #[ub]), .q q 0, .n x, .s (fun v w => A5 w (fun _ => True) v (junR L x)) fun v w w' h hb => h.ext hb, .s (fun v w => ∃ u, v = .agg #[u] /\ u.oneCell' = true /\ A5 w (fun z => W.heap.size <= z) (.agg #[u]) (N0 ||| junR L x)) fun v w w' h hb => ⟨_, h.choose_spec.1, h.choose_spec.2.1, h.choose_spec.2.2.ext hb⟩, .t] ⟨uR (h := fun w hW hN => (hS.ext hW).box 0 rfl), uC (h := fun w hW hN => ((hS.ext hW).box 3 rfl).cell 0), uM, ?_, ?_, trivial⟩ ?_
  ·refine uT fun b__ w hW hE K hK => ?_
   have e11 := hE 11
   have e12 := hE 12
   refine AF rfl (by kernel_rfl) (by simp only [List.map_cons, List.map_nil, e11, e12]) (hjun_any (w0 := w) ⟨q, o, rfl, ko _ _ (HKP.out _ _ (hS.ext hW).ro.1).1⟩ HH.out x) fun v w' h hb => ?_
   exact hK v w' (h.imp fun _ _ _ => trivial) hb
  ·refine uT fun b__ w hW hE K hK => ?_
   have e10 := hE 10
   have e13 := hE 13
   refine AF rfl (by kernel_rfl) (by simp only [List.map_cons, List.map_nil, e10]) (or_any (.agg #[ub]) _ N0 _ w _ _ (HKP.out _ _ (hS.ext hW).ro.1).2 e13) fun v w' h hb => ?_
   obtain ⟨u, rfl, h1⟩ := CT h
   exact hK _ w' ⟨u, rfl, h1, h.imp fun z hz _ => Nat.le_trans hW.size hz⟩ hb
  ·intro vs wz hW hT
   obtain ⟨e10, e11, e12, e13, e14, -⟩ := hT
   have bx : (fun _ : Nat => True) 0 := trivial
   simp only [Aw, Act.put, zz, ze]
   (intro o_ ho_; simp only [List.getElem?_toArray, List.getElem?_cons_succ, List.getElem?_cons_zero, Option.some.injEq] at ho_; subst ho_)
   obtain ⟨un, e14, hu1, hun⟩ := e14
   have hsW := hS.size
   have hS1 := hS.ret hW (Fq (A6 (v := .agg #[un]) (N := N0 ||| junR L x)) fun z => w0.heap.size <= z) (hun.imp fun z hz _ => ⟨hz, Nat.le_trans hsW hz⟩)
   refine CX rfl rfl e14 (hS1.box 0 rfl) (by kernel_rfl) rfl (by simpa using hu1) fun w4 h1 hU => ?_
   have hS2 := (hS1.upd 0 rfl (.box g5 27 #[un]) (Bw hU) ⟨(hS1.holds (.box g5 27 #[ub]) (by simp)).1, h1⟩ fun _ e => .inl e)
   refine ⟨_, _, ⟨un, rfl, hS2.stable, fun D w h => ⟨(HKP.out D w h.1.1).1, by rw [HW.out]; exact h.2⟩⟩, by rw [hU.size]; exact hW.size, hS2⟩
 case done =>
  rintro D W F' K' hD ⟨u, rfl, hKs, hk'⟩ hS hK
  subst hact
  obtain ⟨A3, c3, l3, he, -⟩ := ((hk' _ _ hS.ro).2).parts
  obtain rfl : u = .slice A3 l3.length c3 := by injection he with he; simpa using he
  clear he
  have hM := hS.mark hsz hD (by
   intro f hf
   simp only [List.mem_cons, List.not_mem_nil, or_false] at hf
   rcases hf with rfl | rfl | rfl | rfl <;> exact .inl rfl) hK rfl
  have HKP := Lib.hid hk'
  clear hk' hS hK
  have hS := hM
  clear hM
  simp only [List.cons_append, List.nil_append] at hS
  go_wp2_with (first
   | ((with_reducible refine qK ?_); refine qL hS Tryz.underlying27 ?_)
   | ((with_reducible refine qM ?_); (first | refine qS hS ?_ | refine qT hS ?_); clear hS; intro w_ hS; (try simp only [Act.put, Act.eval, zz, Value.cells] at hS)))
  refine DT (F := [.box g5 27 #[.slice A3 l3.length c3], .box g4 27 #[.slice A3 l3.length c3], .box g3 27 #[.slice A ws.length c], .box g2 24 #[.pointer (some ⟨q, 0, none⟩)]]) ?_ [D] _ hS
  intro w' h
  refine ⟨_, results_cell_row rfl _ _ g4 27 _ (0, 0) _ rfl (h.box 1 rfl) Tryz.underlying27 rfl (by kernel_rfl), ?_⟩
  exact AE.mk (by rw [<- HCF.out]; exact (HKP.out _ _ h.ro).2.imp fun z hz _ => hz.2) h.below
end
section
open Go.RowKit
attribute [local go_sem ↓] Go.wp_at_zero Go.wp_at_succ
set_option maxRecDepth 20000
def Bl (l : List (Nat × Nat)) : List Value := l.flatMap fun z => [.int .u64 (z.1 : Nat), .int .u64 (z.2 : Nat)]
theorem rcells_at (l : List (Nat × Nat)) (k : Nat) (h : k < l.length) : (Bl l)[k * 2]? = some (.int .u64 ((l.getD k (0, 0)).1 : Nat)) /\ (Bl l)[k * 2 + 1]? = some (.int .u64 ((l.getD k (0, 0)).2 : Nat)) := by
 induction l generalizing k with
 | nil => simp at h
 | cons z r ih =>
  cases k with
  | zero => simp [Bl]
  | succ k =>
   have := ih k (by simpa using h)
   rw [show (k + 1) * 2 = k * 2 + 2 by omega]
   simpa [Bl] using this
theorem rcells_append (a b : List (Nat × Nat)) : Bl (a ++ b) = Bl a ++ Bl b := by simp [Bl]
def Ca (w : World) (D : Nat -> Prop) (v : Value) (l : List (Nat × Nat)) : Prop := Sl w D 2 v l.length (Bl l)
theorem Ca.keep {w w' : World} {D : Nat -> Prop} {v : Value} {l : List (Nat × Nat)} (h : Ca w D v l) (hsz : w.heap.size <= w'.heap.size) (hk : ∀ p : Addr, D p.block -> p.block < w.heap.size -> w'.cell? p = w.cell? p) : Ca w' D v l := Sl.keep h hsz hk
theorem Ca.ext {w w' : World} {D : Nat -> Prop} {v : Value} {l : List (Nat × Nat)} (h : Ca w D v l) (hb : Below w.heap.size w w') : Ca w' D v l := h.keep hb.size fun _ _ hp => hb.cell hp
theorem Ca.shape {w : World} {D : Nat -> Prop} {v : Value} {l : List (Nat × Nat)} (h : Ca w D v l) : ∃ A c, v = .slice A l.length c /\ l.length <= c /\ c <= 9223372036854775807 := Sl.shape h
theorem Ca.at_ {w : World} {D : Nat -> Prop} {A : Option Addr} {c : Nat} {l : List (Nat × Nat)} (h : Ca w D (.slice A l.length c) l) {k : Nat} (hk : k < l.length) :
  ∃ b o, A = some ⟨b, o, none⟩ /\ D b /\ b < w.heap.size /\ w.cell? ⟨b, o + k * 2, none⟩ = some (.int .u64 ((l.getD k (0, 0)).1 : Nat)) /\ w.cell? ⟨b, o + k * 2 + 1, none⟩ = some (.int .u64 ((l.getD k (0, 0)).2 : Nat)) := by
 obtain ⟨_, A', c', h1, _, _, h2⟩ := h
 obtain ⟨b, o, h3, h4, h6, h5⟩ := h2 (by omega)
 injection h1 with h1
 obtain ⟨g1, g2⟩ := rcells_at l k hk
 exact ⟨b, o, h1.trans h3, h4, h6, h5 _ _ g1, by have := h5 _ _ g2; rw [<- Nat.add_assoc] at this; exact this⟩
def Aj (w : World) (D : Nat -> Prop) (xs : List Value) (l : List (Nat × Nat)) : Prop :=
 ∀ i y n, l[i]? = some (y, n) -> ∃ a b, xs[i * 2]? = some a /\ xs[i * 2 + 1]? = some b /\ A5 w D (.agg #[a]) y /\ A5 w D (.agg #[b]) n
theorem Aj.keep {w w' : World} {D : Nat -> Prop} {xs : List Value} {l : List (Nat × Nat)} (h : Aj w D xs l) (hsz : w.heap.size <= w'.heap.size) (hk : ∀ p : Addr, D p.block -> p.block < w.heap.size -> w'.cell? p = w.cell? p) : Aj w' D xs l := fun i y n hi => by
 obtain ⟨a, b, h1, h2, h3, h4⟩ := h i y n hi
 exact ⟨a, b, h1, h2, h3.keep hsz hk, h4.keep hsz hk⟩
theorem Aj.imp {w : World} {D D' : Nat -> Prop} {xs : List Value} {l : List (Nat × Nat)} (h : Aj w D xs l) (hD : ∀ b, D b -> b < w.heap.size -> D' b) : Aj w D' xs l := fun i y n hi => by
 obtain ⟨a, b, h1, h2, h3, h4⟩ := h i y n hi
 exact ⟨a, b, h1, h2, h3.imp hD, h4.imp hD⟩
theorem Aj.ext {w w' : World} {D : Nat -> Prop} {xs : List Value} {l : List (Nat × Nat)} (h : Aj w D xs l) (hb : Below w.heap.size w w') : Aj w' D xs l := h.keep hb.size fun _ _ hp => hb.cell hp
theorem Aj.app {w w' : World} {base : Nat} {v0 v1 : Value} {xs : List Value} {l : List (Nat × Nat)} (h : Aj w (Fc base v0) xs l) (hg : w.grownBy w' v0.ownBlock) (hat : ∀ k, v1.ownBlock = some k -> v0.ownBlock = some k \/ w.heap.size <= k) : Aj w' (Fc base v1) xs l :=
 ((h.imp (D' := fun b => (base <= b /\ v0.ownBlock ≠ some b) /\ b < w.heap.size) fun _ h1 h2 => ⟨h1, h2⟩).keep hg.size fun _ h1 h2 => Id hg h2 h1.1.2).imp fun b h1 _ => ⟨h1.1.1, fun e => by
  rcases hat b e with h | h
  ·exact h1.1.2 h
  ·have := h1.2; omega⟩
theorem Aj.nil {w : World} {D : Nat -> Prop} : Aj w D [] [] := fun i y n h => by simp at h
theorem Aj.push {w : World} {D : Nat -> Prop} {xs : List Value} {l : List (Nat × Nat)} {a b : Value} {y n : Nat} (h : Aj w D xs l) (hl : xs.length = l.length * 2) (ha : A5 w D (.agg #[a]) y) (hb : A5 w D (.agg #[b]) n) : Aj w D (xs ++ [a, b]) (l ++ [(y, n)]) := fun i y' n' hi => by
 rcases Nat.lt_or_ge i l.length with hlt | hge
 ·rw [List.getElem?_append_left hlt] at hi
  obtain ⟨a', b', h1, h2, h3, h4⟩ := h i y' n' hi
  exact ⟨a', b', by rw [List.getElem?_append_left (by omega)]; exact h1, by rw [List.getElem?_append_left (by omega)]; exact h2, h3, h4⟩
 ·have hi2 : i = l.length := by
   have := (List.getElem?_eq_some_iff.1 hi).1
   simp at this; omega
  subst hi2
  simp at hi
  obtain ⟨rfl, rfl⟩ := hi
  exact ⟨a, b, by rw [List.getElem?_append_right (by omega), hl]; simp, by rw [List.getElem?_append_right (by omega), show l.length * 2 + 1 - xs.length = 1 by omega]; rfl, ha, hb⟩
theorem Aj.cubes {w : World} {base : Nat} {v : Value} {xs : List Value} {l : List (Nat × Nat)} {e : TypeId} {D : Nat -> Prop} (h : Aj w D xs l) (ho : w.ownsRow base e 2 v l.length xs) (hD : ∀ b, base <= b -> D b) : Az w D v l := ⟨xs, (Sl.of_own ho).imp fun b h1 _ => hD b h1, h⟩
theorem Fn : B6 Tryz.prog 29 81 2 48 := ⟨Tryz.underlying29, by kernel_rfl⟩
theorem take_getD {α : Type} (l : List α) (k : Nat) (d : α) (h : k < l.length) : l.take (k + 1) = l.take k ++ [l.getD k d] := by
 rw [List.take_succ_eq_append_getElem h, List.getD_eq_getElem?_getD, List.getElem?_eq_getElem h]; rfl
def Small (l : List (Nat × Nat)) : Prop := ∀ z ∈ l, z.1 < Bv /\ z.2 < Bv
theorem Small.at_ {l : List (Nat × Nat)} (h : Small l) (k : Nat) (hk : k < l.length) : (l.getD k (0, 0)).1 < Bv /\ (l.getD k (0, 0)).2 < Bv := h _ (by rw [List.getD_eq_getElem?_getD, List.getElem?_eq_getElem hk]; exact List.getElem_mem hk)
theorem GE (v : Value) (l : List (Nat × Nat)) (w : World) (D : Nat -> Prop) (hv : Ca w D v l) (hl : Small l) (hn : l.length <= 1000000) :
  Calls Tryz.prog 94 #[v] w (AE (fun x w' => Az w' (w.heap.size <= ·) x l) w) := by
 obtain ⟨A, c, rfl, _, _⟩ := hv.shape
 have HL := Lib.hid hl
 clear hl
 go_enter Tryz.func94, Tryz.ntmps94
 go_wp2
 go_loopw [3, 8] (fun u i wr => ∃ k : Nat, k <= l.length /\ i = .int .i64 k /\ Below w.heap.size w wr /\ ∃ xs, wr.ownsRow w.heap.size 81 2 u k xs /\ Aj wr (Fc w.heap.size u) xs (l.take k) /\ ∀ b, u.ownBlock = some b -> w.heap.size <= b) (fun _ i _ => l.length - (intOf i).toNat)
 case atStart => exact ⟨0, by omega, rfl, Below.refl _ _, [], World.ownsRow_nil _ _ _ _, Aj.nil, by simp [Value.ownBlock]⟩
 case round =>
  obtain ⟨k, hk, rfl, hB, xs, hown, hC, hge⟩ := hrel
  have HO := Lib.hid hown
  have HG := Lib.hid hge
  clear hown hge
  by_cases hlt : k < l.length
  ·obtain ⟨b, o, rfl, _, hb, hc0, hc1⟩ := (hv.ext hB).at_ hlt
   have hs := HL.out.at_ k hlt
   have HT := Lib.hid (take_getD l k (0, 0) hlt)
   have hsz := hB.size
   generalize (l.getD k (0, 0)) = z at *
   obtain ⟨y, n⟩ := z
   go_wp2_with fail
   refine (lmake_any y n hs.1 hs.2 _).mono ?_
   rintro e w2 ⟨v2, rfl, ⟨a2, b2, rfl, ha, hb⟩, hb2⟩
   obtain ⟨A2, m2, c2, rfl⟩ := ha.shape
   obtain ⟨A3, m3, c3, rfl⟩ := hb.shape
   replace hb2 := bel_al hb2
   have hC2 := hC.ext hb2
   have HO2 := Lib.hid (H3 HO.out hb2)
   have hB2 := BX hB hb2
   have hsz2 := hB2.size
   have hs2 := hb2.size
   have ha2 := ha.imp (D' := Fc w.heap.size u3) fun b h1 _ => ⟨by simp at h1; omega, fun e => by have := (own_lt HO.out b e); simp at h1; omega⟩
   have hb3 := hb.imp (D' := Fc w.heap.size u3) fun b h1 _ => ⟨by simp at h1; omega, fun e => by have := (own_lt HO.out b e); simp at h1; omega⟩
   clear hb2 hC ha hb hB
   go_wp2_with ((with_reducible refine qA 15 ?_); refine CZ rfl rfl _ _ _ _ rfl rfl Fn w.heap.size _ k xs (.agg #[.slice A2 m2 c2, .slice A3 m3 c3]) #[.slice A2 m2 c2, .slice A3 m3 c3] rfl (by kernel_rfl) rfl rfl rfl HO2.out (by intro u hu; simp at hu; rcases hu with rfl | rfl <;> rfl) (by omega) (by omega) hsz2 ?_; intro v' w3 ho hg hat; have HO3 := Lib.hid ho; have HG3 := Lib.hid hg; have HA := Lib.hid hat; clear ho hg hat)
   refine ⟨⟨k + 1, hlt, by go_num, GH HG3.out hB2 hsz2 HG.out, _, HO3.out, ?_, fun b h => by rcases HA.out b h with h | h; exact HG.out b h; omega⟩, by simp [intOf]; omega⟩
   rw [HT.out]
   exact (hC2.app HG3.out HA.out).push (by rw [HO2.out.1]; simp; omega) (ha2.app HG3.out HA.out) (hb3.app HG3.out HA.out)
  ·obtain rfl : k = l.length := by omega
   rw [List.take_length] at hC
   go_wp2_with fail
   go_ret
   exact AE.mk ((hC.imp fun b h1 _ => h1.1).cubes HO.out fun b h => h) hB
end
section
open Go.RowKit
attribute [local go_sem ↓] Go.wp_at_zero Go.wp_at_succ
set_option maxRecDepth 20000
theorem I5 {w : World} {base : Nat} {e : TypeId} {size n : Nat} {v : Value} {xs : List Value} (h : w.ownsRow base e size v n xs) : ∃ A c, v = .slice A n c := by
 rcases h.2 with ⟨rfl, rfl⟩ | ⟨g, cap, cur, rfl, _⟩
 ·exact ⟨_, _, rfl⟩
 ·exact ⟨_, _, rfl⟩
theorem EG {w : World} {base : Nat} {e : TypeId} {size n : Nat} {v : Value} {xs : List Value} (h : w.ownsRow base e size v n xs) : v.cells = #[v] := by obtain ⟨A, c, rfl⟩ := I5 h; rfl
theorem GZ {w : World} {base : Nat} {e : TypeId} {size n : Nat} {v : Value} {xs : List Value} (h : w.ownsRow base e size v n xs) : v.oneCell' = true := by obtain ⟨A, c, rfl⟩ := I5 h; rfl
section
variable {w wr w1 w2 : World} {C : Nat} {par z : Array Value} {P : List Nat} {r : Bool} {plan plan' : List Int} {cubes cubes' : List (Nat × Nat)} {pv qv v : Value}
end
end
section
open Go.RowKit
attribute [local go_sem ↓] Go.wp_at_zero Go.wp_at_succ
theorem Ik (y n : Value) (Y N : Nat) (w : World) (D E : Nat -> Prop) (hy : A5 w D (.agg #[y]) Y) (hn : A5 w E (.agg #[n]) N) :
  Calls Tryz.prog 78 #[.agg #[y, n]] w (AE (fun u _ => u = .bool (Y &&& N != 0)) w) := by
 obtain ⟨A, l, c, rfl⟩ := hy.shape
 obtain ⟨A', l', c', rfl⟩ := hn.shape
 go_enter Tryz.func78, Tryz.ntmps78
 go_wp2_with (go_at_call 85; refine (meets_any _ _ Y N _ D E (hy.alloc _) (hn.alloc _)).mono ?_; rintro e w' ⟨_, rfl, rfl, hb⟩)
 go_ret
 exact AE.mk rfl (((Below.refl _ _).alloc (Nat.le_refl _) _).trans (hb.mono (by simp)))
end
section
open Go.RowKit
attribute [local go_sem ↓] Go.wp_at_zero Go.wp_at_succ
set_option maxRecDepth 20000
def roles : Nat := del (2 ^ 64 - 1) 0
end
section
open Go.RowKit
attribute [local go_sem ↓] Go.wp_at_zero Go.wp_at_succ
set_option maxRecDepth 20000
end
section
open Go.RowKit
attribute [local go_sem ↓] Go.wp_at_zero Go.wp_at_succ
set_option maxRecDepth 20000
end
section
open Go.RowKit
attribute [local go_sem ↓] Go.wp_at_zero Go.wp_at_succ
set_option maxRecDepth 20000
end
section
open Go.RowKit
attribute [local go_sem ↓] Go.wp_at_zero Go.wp_at_succ
set_option maxRecDepth 20000
def lew (l : List Nat) (i : Nat) : Nat -> Nat
 | 0 => 0
 | n + 1 => (lew l i n * 256) % Bv ||| l.getD (8 * i + (7 - n)) 0
def absW (a l : List Nat) (i : Nat) : Nat := a.getD i 0 ^^^ lew l i 8
def absorbK (a l : List Nat) : List Nat := perm (mixTo (absW a l) a 17)
end
section
open Go.RowKit
attribute [local go_sem ↓] Go.wp_at_zero Go.wp_at_succ
set_option maxRecDepth 20000
section
variable {w : World} {h : Nat} {t : TypeId} {st blk : List Nat} {u tot : Nat}
end
def blkOf (l : List Nat) (j : Nat) : List Nat := (l.drop (136 * j)).take 136
def stB (st l : List Nat) : Nat -> List Nat
 | 0 => st
 | j + 1 => absorbK (stB st l j) (blkOf l j)
end
section
open Go.RowKit
attribute [local go_sem ↓] Go.wp_at_zero Go.wp_at_succ
set_option maxRecDepth 20000
section
variable {w : World} {b : Nat} {t : TypeId} {l : List Nat}
end
end
section
open Go.RowKit
attribute [local go_sem ↓] Go.wp_at_zero Go.wp_at_succ
set_option maxRecDepth 20000
end
section
open Go.RowKit
attribute [local go_sem ↓] Go.wp_at_zero Go.wp_at_succ
set_option maxRecDepth 20000
def sb (s : ByteArray) : List Nat := s.data.toList.map (·.toNat)
end
section
open Go.RowKit
attribute [local go_sem ↓] Go.wp_at_zero Go.wp_at_succ
set_option maxRecDepth 20000
theorem sleq_any (u v : Value) (l m : List Int) (w : World) (D E : Nat -> Prop) (hu : Sl w D 1 u l.length (Bd l)) (hv : Sl w E 1 v m.length (Bd m)) :
  Calls Tryz.prog 17 #[u, v] w (AE (fun x _ => x = .bool (l == m)) w) := by
 obtain ⟨A, c, rfl, h1, h2⟩ := hu.shape
 obtain ⟨A', c', rfl, h3, h4⟩ := hv.shape
 by_cases hlen : l.length = m.length
 ·rcases Nat.eq_zero_or_pos l.length with h0 | h0
  ·obtain rfl : l = [] := List.eq_nil_of_length_eq_zero h0
   obtain rfl : m = [] := List.eq_nil_of_length_eq_zero (by simpa using hlen.symm)
   refine (Tryz.slices_Equal_int_empty A A' c 0 c' w (by omega)).mono ?_
   rintro e w' ⟨rfl, rfl⟩
   exact AE.mk rfl (Below.refl _ _)
  ·obtain ⟨b, o, rfl, _, _, hc⟩ := hu.int (k := 0) h0
   obtain ⟨b', o', rfl, _, _, hc'⟩ := hv.int (k := 0) (by omega)
   refine (Tryz.slices_Equal_int b o l.length c b' o' m.length c' l m w (Nat.le_refl _) (Nat.le_refl _) (by omega) (by omega) hc hc').mono ?_
   rintro e w' ⟨rfl, q, rfl⟩
   rw [List.take_length, List.take_length]
   exact AE.mk rfl (EO (Below.refl _ _) _)
 ·refine (Tryz.slices_Equal_int_lens A A' l.length c m.length c' w hlen).mono ?_
  rintro e w' ⟨rfl, rfl⟩
  refine AE.mk ?_ (Below.refl _ _)
  have : (l == m) = false := by rw [beq_eq_false_iff_ne]; rintro rfl; exact hlen rfl
  rw [this]
end
section
open Go.RowKit
attribute [local go_sem ↓] Go.wp_at_zero Go.wp_at_succ
set_option maxRecDepth 20000
theorem I6 {P : Program} {o : Oper} {a : Act} {w : World} {K : Act -> World -> Prop} {Q : Exit -> Act -> World -> Prop} {t : TypeId} {x : Operand} {g j : Nat} {ty : TypeId} {cs : Array Value} {x' : Value} {d : TypeDesc} (ho : o.op = .load t x) (hx : a.eval x = .pointer (some ⟨g, j, none⟩)) (hb : C3 w g ty cs) (hx' : cs[j]? = some x')
  (hu : P.underlying t = some d) (hd : d.isRow = true) (hi : (P.info? t).map (·.size) = some 1) (hk : K (a.put o.dst (.agg #[x'])) w) : o.wp P a w K Q :=
 Bh (cs := [x']) ho hx (fun i v hi => by
  cases i with
  | zero => simp at hi; subst hi; rw [Nat.add_zero, hb.cell]; exact hx'
  | succ i => simp at hi) hu hd hi hk
theorem CG {v : Value} {z : Nat × Nat} : Ao fun D w => Be w D v z := fun D D' w w' h a b c => by
 obtain ⟨x, y, h1, h2, h3⟩ := h
 exact ⟨x, y, h1, A6 D D' w w' h2 a b c, A6 D D' w w' h3 a b c⟩
end
section
open Go.RowKit
attribute [local go_sem ↓] Go.wp_at_zero Go.wp_at_succ
set_option maxRecDepth 20000
set_option exponentiation.threshold 5000
section
variable {P : Program} {ops : Array Oper} {rest : List Oper} {o : Oper} {a : Act} {w : World} {Q : Exit -> Act -> World -> Prop}
end
theorem GM.ins {L : List (Nat × Nat)} (h : GM L) {x y : Nat} (hx : 1 <= x /\ x < 64) (hy : 1 <= y /\ y < 64) (hne : x ≠ y) (hm : (x, y) ∉ L) (ht : ¬ TC L y x) : GM (ins L (x, y)) := by
 refine ⟨ins_asc h.asc hm, fun z hz => ?_, (acyc_ins h.acyc fun z => H5).2 ?_⟩
 ·rcases H5.1 hz with rfl | hz
  ·exact ⟨hx, hy⟩
  ·exact h.role z hz
 ·rintro (e | e)
  ·exact hne e.symm
  ·exact ht e
theorem DL {w : World} {D : Nat -> Prop} {size n c b o j : Nat} {xs : List Value} {x : Value} (h : Sl w D size (.slice (some ⟨b, o, none⟩) n c) n xs) (hj : xs[j]? = some x) : w.cell? ⟨b, o + j, none⟩ = some x := by
 obtain ⟨h1, A, c2, h2, _, _, h5⟩ := h
 have hlt := (List.getElem?_eq_some_iff.1 hj).1
 have hn : 0 < n := by
  rcases Nat.eq_zero_or_pos n with h0 | h0
  ·subst h0; simp at h1; subst h1; simp at hlt
  ·exact h0
 obtain ⟨b2, o2, h6, _, _, h8⟩ := h5 hn
 injection h2 with h2
 rw [h6] at h2
 injection h2 with h2
 injection h2 with h9 h10
 rw [h9, h10]
 exact h8 j x hj
end
section
open Go.RowKit
attribute [local go_sem ↓] Go.wp_at_zero Go.wp_at_succ
set_option maxRecDepth 20000
set_option exponentiation.threshold 5000
theorem run_and64 {P : Program} {w : World} {t : TypeId} {x y : Nat} (hx : x < Bv) (hy : y < Bv) : (binOp .and t (.int .u64 (x : Nat)) (.int .u64 (y : Nat))).run P w = .ok (.int .u64 ((x &&& y : Nat) : Int)) w := by
 go_simp; rw [and64 hx hy]
end
section
open Go.RowKit
attribute [local go_sem ↓] Go.wp_at_zero Go.wp_at_succ
set_option maxRecDepth 20000
set_option exponentiation.threshold 5000
section
variable {P : Program} {ops : Array Oper} {rest : List Oper} {o : Oper} {a : Act} {w0 w : World} {F : List Aa} {K : (Nat -> Prop) -> World -> Prop} {Kt : Act -> World -> Prop} {Q : Exit -> Act -> World -> Prop}
theorem CY {x : Operand} {f : FuncId} {first caps : Array Value} {xs : Array Operand} {ts : Array TypeId} {vs : List Value} {R : Ending -> World -> Prop} (ho : o.op = .call { callee := .value x, args := xs, argTypes := ts }) (hx : a.eval x = .func (.func f) first caps) (hc : BD P f = true) (hv : first.toList ++ xs.toList.map a.eval ++ caps.toList = vs)
  (h : Calls P f vs.toArray w R) (hk : ∀ e w', R e w' -> ∃ v, e = .returned v /\ Kt (a.put o.dst v) w') : o.wp P a w Kt Q := by
 have he : execOp a.eval o = callFunc f vs.toArray := by
  cases o with
  | mk dst op ty pos after guard =>
   simp only at ho
   subst ho
   have e1 : vs.toArray = first ++ xs.map a.eval ++ caps := by rw [<- hv]; simp
   rw [e1]
   simp [execOp, resolve, hx, Deferred.ofValue, invoke]
 unfold Oper.wp
 rw [he, FA f vs.toArray hc]
 refine h.mono fun e w' hR => ?_
 obtain ⟨v, rfl, hk⟩ := hk e w' hR
 exact hk
theorem AB (h : St w0 w F K) (i : Nat) (hg : Region.wanted o (yielded ops a.tmps) = true) (x : Operand) (ty : TypeId) (ho : o.op = .load ty x) (g j : Nat) (hx : a.eval x = .pointer (some ⟨g, j, none⟩)) (t : TypeId) (cs : Array Value) (hb : F[i]? = some (.box g t cs)) (v : Value) (hv : cs[j]? = some v)
  {d : TypeDesc} (hu : P.underlying ty = some d) (hd : d.isRow = true) (hi : (P.info? ty).map (·.size) = some 1) (hk : wpList P ops Q rest (a.put o.dst (.agg #[v])) w) : wpList P ops Q (o :: rest) a w :=
 BigFrame.wpList_want hg fun _ hK => I6 ho hx (h.box i hb) hv hu hd hi (hK _ _ hk)
theorem st_cubel (h : St w0 w F K) (i : Nat) (hg : Region.wanted o (yielded ops a.tmps) = true) (x : Operand) (ty : TypeId) (ho : o.op = .load ty x) (g j : Nat) (hx : a.eval x = .pointer (some ⟨g, j, none⟩)) (t : TypeId) (cs : Array Value) (hb : F[i]? = some (.box g t cs)) (v u : Value) (hv : cs[j]? = some v) (hv2 : cs[j + 1]? = some u)
  {d : TypeDesc} (hu : P.underlying ty = some d) (hd : d.isRow = true) (hi : (P.info? ty).map (·.size) = some 2) (hk : wpList P ops Q rest (a.put o.dst (.agg #[v, u])) w) : wpList P ops Q (o :: rest) a w :=
 BigFrame.wpList_want hg fun _ hK => Bh (cs := [v, u]) ho hx (fun k z hz => by
  have hbx := h.box i hb
  match k, hz with
  | 0, hz => obtain rfl := Option.some.inj (show some _ = some z from hz); rw [Nat.add_zero, hbx.cell]; exact hv
  | 1, hz => obtain rfl := Option.some.inj (show some _ = some z from hz); rw [hbx.cell]; exact hv2
  | k + 2, hz => simp at hz) hu hd hi (hK _ _ hk)
end
theorem rng2 {w : World} {g i : Nat} {a b : Value} (h0 : w.cell? ⟨g, i, none⟩ = some a) (h1 : w.cell? ⟨g, i + 1, none⟩ = some b) : w.rangeAt g i [a, b] := fun j v hj => by
 match j, hj with
 | 0, hj => obtain rfl := Option.some.inj (show some _ = some v from hj); exact h0
 | 1, hj => obtain rfl := Option.some.inj (show some _ = some v from hj); exact h1
 | j + 2, hj => simp at hj
theorem run_geB {P : Program} {w : World} {t : TypeId} {k : IntKind} {m n : Int} {b : Bool} (h : decide (m ≥ n) = b) : (binOp .geq t (.int k m) (.int k n)).run P w = .ok (.bool b) w := by
 rw [binOp_geq, <- h]; simp
def Bz (z : Nat × Nat) (N : Nat) : Bool := (z.1 &&& N == z.1) && !(z.2 &&& N != 0)
theorem Gq {w0 : World} {D E : Nat -> Prop} {u v : Value} {z : Nat × Nat} {N : Nat} (hu : Be w0 D u z) (hv : A5 w0 E v N) : Calls Tryz.prog 56 #[u, v] w0 (AE (fun x _ => x = .bool (Bz z N)) w0) := by
 obtain ⟨a, b, rfl, ha, hb⟩ := hu
 obtain ⟨y, n⟩ := z
 dsimp only at ha hb
 obtain ⟨A, m, c, rfl⟩ := ha.shape
 obtain ⟨B, k, d, rfl⟩ := hb.shape
 obtain ⟨C, e, lw, rfl, -⟩ := hv.parts
 obtain ⟨l, hl⟩ : ∃ l, l = lw.length := ⟨_, rfl⟩
 rw [<- hl] at hv ⊢
 clear hl
 obtain ⟨K, ka, kb, kc, hS⟩ : ∃ K : (Nat -> Prop) -> World -> Prop, (∀ D w, K D w -> A5 w D (.agg #[.slice A m c]) y) /\ (∀ D w, K D w -> A5 w D (.agg #[.slice B k d]) n) /\ (∀ D w, K D w -> A5 w D (.agg #[.slice C l e]) N) /\ St w0 w0 [] K :=
  ⟨fun D w => (A5 w D (.agg #[.slice A m c]) y /\ A5 w D (.agg #[.slice B k d]) n) /\ A5 w D (.agg #[.slice C l e]) N, fun _ _ h => h.1.1, fun _ _ h => h.1.2, fun _ _ h => h.2, St.start (D := fun _ => True) ((A6.and A6).and A6) ⟨⟨ha.imp fun _ _ _ => trivial, hb.imp fun _ _ _ => trivial⟩, hv.imp fun _ _ _ => trivial⟩⟩
 clear ha hb hv
 have HR := Lib.hid (show Bz (y, n) N = ((y &&& N == y) && !(n &&& N != 0)) from rfl)
 generalize Bz (y, n) N = R at *
 obtain ⟨b1, hb1⟩ : ∃ b1, b1 = (y &&& N == y) := ⟨_, rfl⟩
 have HB1 := Lib.hid hb1
 rw [<- hb1] at HR
 clear hb1
 go_enter Tryz.func56, Tryz.ntmps56
 cases b1
 all_goals
  go_wp2_with (first
   | ((with_reducible refine qA 2 ?_); refine At hS rfl _ _ rfl (.agg #[.slice A m c, .slice B k d]) _ rfl rfl ?_; clear hS; intro g2 w_ hS; (try simp only [Act.put, Act.eval, zz, Value.cells] at hS))
   | ((with_reducible refine qA 3 ?_); refine At hS rfl _ _ rfl (.agg #[.slice C l e]) _ rfl rfl ?_; clear hS; intro g3 w_ hS; (try simp only [Act.put, Act.eval, zz, Value.cells] at hS))
   | ((with_reducible refine qk 27 ?_); first | (refine AB hS 0 rfl _ _ rfl _ _ rfl _ _ rfl _ (by first | rfl | assumption) Tryz.underlying27 rfl (by kernel_rfl) ?_) | (refine AB hS 1 rfl _ _ rfl _ _ rfl _ _ rfl _ (by first | rfl | assumption) Tryz.underlying27 rfl (by kernel_rfl) ?_) | (refine AB hS 2 rfl _ _ rfl _ _ rfl _ _ rfl _ (by first | rfl | assumption) Tryz.underlying27 rfl (by kernel_rfl) ?_) | (refine AB hS 3 rfl _ _ rfl _ _ rfl _ _ rfl _ (by first | rfl | assumption) Tryz.underlying27 rfl (by kernel_rfl) ?_) | (refine AB hS 4 rfl _ _ rfl _ _ rfl _ _ rfl _ (by first | rfl | assumption) Tryz.underlying27 rfl (by kernel_rfl) ?_) | (refine AB hS 5 rfl _ _ rfl _ _ rfl _ _ rfl _ (by first | rfl | assumption) Tryz.underlying27 rfl (by kernel_rfl) ?_))
   | (go_at_call 104; refine (F6 _ _ y N _ _ _ (ka _ _ hS.ro) (kc _ _ hS.ro)).mono ?_; rintro r_ w_ ⟨_, rfl, rfl, hb_⟩; rw [<- HB1.out]; replace hS := hS.ext hb_; clear hb_)
   | (go_at_call 85; refine (meets_any _ _ n N _ _ _ (kb _ _ hS.ro) (kc _ _ hS.ro)).mono ?_; rintro r_ w_ ⟨_, rfl, rfl, hb_⟩; replace hS := hS.ext hb_; clear hb_))
  go_ret
  exact AE.mk (by rw [HR.out]; rfl) hS.below
theorem idxc_any {w0 w : World} {F : List Aa} {K : (Nat -> Prop) -> World -> Prop} (v : Value) (l : List (Nat × Nat)) (f : FuncId) (first caps : Array Value) (q : Nat × Nat -> Bool) (hcg : BD Tryz.prog f = true) (hS : St w0 w F K) (kl : ∀ D w, K D w -> Az w D v l)
  (hq : ∀ (x : Value) (z : Nat × Nat) (w : World), z ∈ l -> (∃ F', St w0 w (F' ++ F) fun D w => K D w /\ Be w D x z) -> Calls Tryz.prog f (first.toList ++ [x] ++ caps.toList).toArray w (AE (fun r _ => r = .bool (q z)) w)) :
  Calls Tryz.prog 103 #[v, .func (.func f) first caps] w fun e w' => ∃ k : Int, e = .returned (.int .i64 k) /\ decide (0 <= k) = l.any q /\ St w0 w' F K := by
 obtain ⟨A, c, rfl, _, hc2⟩ := (kl _ _ hS.ro).shape
 have KS := Lib.hid hS.stable
 have HQ := Lib.hid hq
 clear hq
 have HCG := Lib.hid hcg
 clear hcg
 go_enter Tryz.func103, Tryz.ntmps103
 go_wp2_with (first | ((with_reducible refine qB ?_); refine qc ?_ ?_ <;> intro h_ <;> go_prune))
 go_loopw [8] (fun i wr => ∃ k : Nat, k <= l.length /\ i = .int .i64 (k : Nat) /\ St w0 wr F K /\ Hid (∀ z ∈ l.take k, q z = false)) (fun i _ => l.length - (intOf i).toNat)
 case atStart => exact ⟨0, by omega, rfl, hS, Lib.hid (by simp)⟩
 case round =>
  clear hS
  obtain ⟨k, hk, rfl, hS, HZ⟩ := hrel
  by_cases hlt : k < l.length
  ·obtain ⟨b, o, y, n, rfl, _, hb, c0, c1, hy, hn⟩ := (kl _ _ hS.ro).at_ hlt
   obtain ⟨Ay, my, cy, rfl⟩ := hy.shape
   obtain ⟨An, mn, cn, rfl⟩ := hn.shape
   have HM : Hid (l.getD k (0, 0) ∈ l) := Lib.hid (by rw [List.getD_eq_getElem?_getD, List.getElem?_eq_getElem hlt]; exact List.getElem_mem hlt)
   have HZ2 : Hid (q (l.getD k (0, 0)) = false -> ∀ z ∈ l.take (k + 1), q z = false) := Lib.hid fun h z hz => by
    rw [List.take_add_one, List.mem_append] at hz
    rcases hz with hz | hz
    ·exact HZ.out z hz
    ·rw [List.getElem?_eq_getElem hlt] at hz
     rw [List.getD_eq_getElem?_getD, List.getElem?_eq_getElem hlt] at h
     have : z = l[k] := by simpa using hz
     rw [this]; exact h
   have HY : Hid (q (l.getD k (0, 0)) = true -> true = l.any q) := Lib.hid fun h => (List.any_eq_true.2 ⟨_, HM.out, h⟩).symm
   replace hS := hS.add (D := DZ F) (CG (v := .agg #[.slice Ay my cy, .slice An mn cn]) (z := l.getD k (0, 0))) ⟨_, _, rfl, hy, hn⟩ fun _ h _ => h
   clear hy hn
   generalize l.getD k (0, 0) = z at *
   have HK := Lib.hid (HQ.out (.agg #[.slice Ay my cy, .slice An mn cn]) z wr HM.out ⟨[], hS⟩)
   obtain ⟨args, hargs⟩ : ∃ args, args = first.toList ++ [Value.agg #[.slice Ay my cy, .slice An mn cn]] ++ caps.toList := ⟨_, rfl⟩
   rw [<- hargs] at HK
   have HARG := Lib.hid hargs
   clear hargs
   go_wp2_with (first
    | ((with_reducible refine qA 15 ?_); refine BigFrame.wpList_want rfl fun _ hK => Bh (cs := [.slice Ay my cy, .slice An mn cn]) rfl rfl (rng2 c0 c1) Tryz.underlying81 rfl (by kernel_rfl) (hK _ _ ?_))
    | ((with_reducible refine qA 16 ?_); refine BigFrame.wpList_want rfl fun _ hK => CY (vs := args) rfl rfl HCG.out (by simp [Act.eval, Act.put, HARG.out]) HK.out fun e w' ⟨u_, he_, hu_, hb_⟩ => ⟨u_, he_, hK _ _ ?_⟩))
   ·go_ret
    exact ⟨_, rfl, (decide_eq_true (by omega)).trans (HY.out (by assumption)), (hS.ext hb_).mono KS.out fun _ _ h => h.1⟩
   ·exact ⟨⟨k + 1, hlt, by go_num, (hS.ext hb_).mono KS.out fun _ _ h => h.1, Lib.hid (HZ2.out (by assumption))⟩, by simp [intOf]; omega⟩
  ·obtain rfl : k = l.length := by omega
   have HN : Hid (false = l.any q) := Lib.hid (by
    have h := HZ.out
    rw [List.take_length] at h
    exact (List.any_eq_false.2 fun z hz => by rw [h z hz]; simp).symm)
   go_wp2_with (first | ((with_reducible refine qB ?_); refine qc ?_ ?_ <;> intro h_ <;> go_prune))
   go_ret
   exact ⟨_, rfl, (decide_eq_false (by omega)).trans HN.out, hS⟩
theorem Is {w0 w : World} {F : List Aa} {K : (Nat -> Prop) -> World -> Prop} (v : Value) (l : List (Nat × Nat)) (f : FuncId) (first caps : Array Value) (q : Nat × Nat -> Bool) (hcg : BD Tryz.prog f = true) (hS : St w0 w F K) (kl : ∀ D w, K D w -> Az w D v l)
  (hq : ∀ (x : Value) (z : Nat × Nat) (w : World), z ∈ l -> (∃ F', St w0 w (F' ++ F) fun D w => K D w /\ Be w D x z) -> Calls Tryz.prog f (first.toList ++ [x] ++ caps.toList).toArray w (AE (fun r _ => r = .bool (q z)) w)) :
  Calls Tryz.prog 54 #[v, .func (.func f) first caps] w fun e w' => e = .returned (.bool (l.any q)) /\ St w0 w' F K := by
 have HI := Lib.hid (idxc_any v l f first caps q hcg hS kl hq)
 clear hcg hS kl hq
 go_enter Tryz.func54, Tryz.ntmps54
 go_wp2_with fail
 refine HI.out.mono ?_
 rintro e w1 ⟨k, rfl, hk, hS⟩
 have HK := Lib.hid hk
 clear hk
 go_wp2_with (first | ((with_reducible refine qA 8 ?_); refine BigFrame.wpList_want rfl fun _ hK => AH (vx := .int .i64 k) (vy := .int .i64 0) (v := .bool (l.any q)) rfl rfl rfl rfl (run_geB ((decide_eq_decide.2 (by omega)).trans HK.out)) (hK _ _ ?_)))
 go_ret
 exact ⟨rfl, hS⟩
end
section
open Go.RowKit
attribute [local go_sem ↓] Go.wp_at_zero Go.wp_at_succ
set_option maxRecDepth 20000
set_option exponentiation.threshold 5000
theorem some1_any {w : World} {D E : Nat -> Prop} {x sv : Value} {z : Nat × Nat} {N g : Nat} (hx : Be w D x z) (hb : C1 w E g #[sv]) (hs : A5 w E (.agg #[sv]) N) : Calls Tryz.prog 55 #[x, .pointer (some ⟨g, 0, none⟩)] w (AE (fun r _ => r = .bool (Bz z N)) w) := by
 obtain ⟨a, b, rfl, ha, hb1⟩ := hx
 obtain ⟨A, m, c, rfl⟩ := ha.shape
 obtain ⟨B, k, d, rfl⟩ := hb1.shape
 obtain ⟨C, l, e, rfl⟩ := hs.shape
 obtain ⟨K, ka, kb, kc, hS⟩ : ∃ K : (Nat -> Prop) -> World -> Prop, (∀ D w, K D w -> Be w D (.agg #[.slice A m c, .slice B k d]) z) /\ (∀ D w, K D w -> C1 w D g #[.slice C l e]) /\ (∀ D w, K D w -> A5 w D (.agg #[.slice C l e]) N) /\ St w w [] K :=
  ⟨fun D w => (Be w D (.agg #[.slice A m c, .slice B k d]) z /\ C1 w D g #[.slice C l e]) /\ A5 w D (.agg #[.slice C l e]) N, fun _ _ h => h.1.1, fun _ _ h => h.1.2, fun _ _ h => h.2, St.start (D := fun _ => True) ((CG.and AU).and A6) ⟨⟨⟨_, _, rfl, ha.imp fun _ _ _ => trivial, hb1.imp fun _ _ _ => trivial⟩, AU E _ w w hb (Nat.le_refl _) (fun _ _ _ _ h => h) fun _ _ _ _ => trivial⟩, hs.imp fun _ _ _ => trivial⟩⟩
 clear ha hb1 hb hs
 go_enter Tryz.func55, Tryz.ntmps55
 go_wp2_with (first
  | ((with_reducible refine qA 2 ?_); refine At hS rfl _ _ rfl (.agg #[.slice A m c, .slice B k d]) _ rfl rfl ?_; clear hS; intro g2 w_ hS; (try simp only [Act.put, Act.eval, zz, Value.cells] at hS))
  | ((with_reducible refine qK ?_); refine qL hS Tryz.underlying81 ?_)
  | ((with_reducible refine qk 27 ?_); refine BigFrame.wpList_want rfl fun _ hK => Bh (cs := [.slice C l e]) rfl rfl (rng1 ((kb _ _ hS.ro).cell 0 rfl)) Tryz.underlying27 rfl (by kernel_rfl) (hK _ _ ?_))
  | (go_at_call 56; refine (Gq (ka _ _ hS.ro) (kc _ _ hS.ro)).mono ?_; rintro r_ w_ ⟨_, rfl, rfl, hb_⟩; replace hS := hS.ext hb_; clear hb_))
 go_ret
 exact AE.mk rfl hS.below
theorem some_any {w0 : World} {D E : Nat -> Prop} {v u : Value} {l : List (Nat × Nat)} {N : Nat} (hv : Az w0 D v l) (hu : A5 w0 E u N) : Calls Tryz.prog 22 #[v, u] w0 (AE (fun r _ => r = .bool (l.any fun z => Bz z N)) w0) := by
 obtain ⟨A, c, rfl, _, _⟩ := hv.shape
 obtain ⟨C, e, lw, rfl, -⟩ := hu.parts
 obtain ⟨n, hn⟩ : ∃ n, n = lw.length := ⟨_, rfl⟩
 rw [<- hn] at hu ⊢
 clear hn
 obtain ⟨K, kl, ks, hS⟩ : ∃ K : (Nat -> Prop) -> World -> Prop, (∀ D w, K D w -> Az w D (.slice A l.length c) l) /\ (∀ D w, K D w -> A5 w D (.agg #[.slice C n e]) N) /\ St w0 w0 [] K :=
  ⟨fun D w => Az w D (.slice A l.length c) l /\ A5 w D (.agg #[.slice C n e]) N, fun _ _ h => h.1, fun _ _ h => h.2, St.start (D := fun _ => True) (AL.and A6) ⟨hv.imp fun _ _ _ => trivial, hu.imp fun _ _ _ => trivial⟩⟩
 clear hv hu
 go_enter Tryz.func22, Tryz.ntmps22
 go_wp2_with (first
  | (((with_reducible refine qA 3 ?_); refine At hS rfl _ _ rfl (.agg #[.slice C n e]) _ rfl rfl ?_; clear hS; intro g3 w_ hS; (try simp only [Act.put, Act.eval, zz, Value.cells] at hS)); replace hS := hS.sealB 0 (by simp) rfl)
  | (go_at_call 54; refine (Is _ l 55 #[] #[.pointer (some ⟨g3, 0, none⟩)] (fun z => Bz z N) (by kernel_rfl) hS (fun D w h => kl D w h.1) fun x z w _ ⟨F', h⟩ => some1_any h.ro.2 h.ro.1.2 (ks _ _ h.ro.1.1)).mono ?_; clear hS; rintro e_ w_ ⟨rfl, hS⟩))
 go_ret
 exact AE.mk rfl hS.below
structure B7 where
 revoke : Bool
 yes : Nat
 no : Nat
 target : Int
 origin : Int
def AX : B7 := ⟨false, 0, 0, 0, 0⟩
def Fi (w : World) (D : Nat -> Prop) (v : Value) (z : B7) : Prop := ∃ a b, v = .agg #[.bool z.revoke, a, b, .int .i64 z.target, .int .i64 z.origin] /\ A5 w D (.agg #[a]) z.yes /\ A5 w D (.agg #[b]) z.no
theorem Gu {v : Value} {z : B7} : Ao fun D w => Fi w D v z := fun D D' w w' h a b c => by
 obtain ⟨x, y, h1, h2, h3⟩ := h
 exact ⟨x, y, h1, A6 D D' w w' h2 a b c, A6 D D' w w' h3 a b c⟩
def AA (w : World) (D : Nat -> Prop) (xs : List Value) (l : List B7) : Prop :=
 ∀ i z, l[i]? = some z -> ∃ a b, xs[i * 5]? = some (.bool z.revoke) /\ xs[i * 5 + 1]? = some a /\ xs[i * 5 + 2]? = some b /\ xs[i * 5 + 3]? = some (.int .i64 z.target) /\ xs[i * 5 + 4]? = some (.int .i64 z.origin) /\ A5 w D (.agg #[a]) z.yes /\ A5 w D (.agg #[b]) z.no
theorem Dt {xs : List Value} {l : List B7} : Ao fun D w => AA w D xs l := fun D D' w w' h a b c i z hi => by
 obtain ⟨x, y, h1, h2, h3, h4, h5, h6, h7⟩ := h i z hi
 exact ⟨x, y, h1, h2, h3, h4, h5, A6 D D' w w' h6 a b c, A6 D D' w w' h7 a b c⟩
def Bt (w : World) (D : Nat -> Prop) (v : Value) (l : List B7) : Prop := ∃ xs : List Value, Sl w D 5 v l.length xs /\ AA w D xs l
theorem B3 {v : Value} {l : List B7} : Ao fun D w => Bt w D v l := fun D D' w w' h a b c => by
 obtain ⟨xs, h1, h2⟩ := h
 exact ⟨xs, Ah (by decide) D D' w w' h1 a b c, Dt D D' w w' h2 a b c⟩
theorem Bt.shape {w : World} {D : Nat -> Prop} {v : Value} {l : List B7} (h : Bt w D v l) : ∃ A c, v = .slice A l.length c /\ l.length <= c /\ c <= 9223372036854775807 := by
 obtain ⟨xs, h, _⟩ := h
 exact h.shape
theorem Bt.at_ {w : World} {D : Nat -> Prop} {l : List B7} {A : Option Addr} {n c : Nat} (h : Bt w D (.slice A n c) l) {k : Nat} (hk : k < l.length) :
  ∃ b o y m, A = some ⟨b, o, none⟩ /\ D b /\ b < w.heap.size /\ w.cell? ⟨b, o + k * 5, none⟩ = some (.bool (l.getD k AX).revoke) /\ w.cell? ⟨b, o + k * 5 + 1, none⟩ = some y /\ w.cell? ⟨b, o + k * 5 + 2, none⟩ = some m /\ w.cell? ⟨b, o + k * 5 + 3, none⟩ = some (.int .i64 (l.getD k AX).target) /\ w.cell? ⟨b, o + k * 5 + 4, none⟩ = some (.int .i64 (l.getD k AX).origin) /\ A5 w D (.agg #[y]) (l.getD k AX).yes /\ A5 w D (.agg #[m]) (l.getD k AX).no := by
 obtain ⟨xs, ⟨hl, A', c', h1, _, _, h2⟩, h3⟩ := h
 injection h1 with h1
 subst h1
 obtain ⟨b, o, rfl, hD, hb, hc⟩ := h2 (by omega)
 have e : l[k]? = some (l.getD k AX) := by rw [List.getD_eq_getElem?_getD, List.getElem?_eq_getElem hk]; rfl
 obtain ⟨y, m, q0, q1, q2, q3, q4, q5, q6⟩ := h3 k _ e
 exact ⟨b, o, y, m, rfl, hD, hb, hc _ _ q0, hc _ _ q1, hc _ _ q2, hc _ _ q3, hc _ _ q4, q5, q6⟩
theorem rng5 {w : World} {g i : Nat} {a b c d e : Value} (h0 : w.cell? ⟨g, i, none⟩ = some a) (h1 : w.cell? ⟨g, i + 1, none⟩ = some b) (h2 : w.cell? ⟨g, i + 2, none⟩ = some c) (h3 : w.cell? ⟨g, i + 3, none⟩ = some d) (h4 : w.cell? ⟨g, i + 4, none⟩ = some e) : w.rangeAt g i [a, b, c, d, e] := fun j v hj => by
 match j, hj with
 | 0, hj => obtain rfl := Option.some.inj (show some _ = some v from hj); exact h0
 | 1, hj => obtain rfl := Option.some.inj (show some _ = some v from hj); exact h1
 | 2, hj => obtain rfl := Option.some.inj (show some _ = some v from hj); exact h2
 | 3, hj => obtain rfl := Option.some.inj (show some _ = some v from hj); exact h3
 | 4, hj => obtain rfl := Option.some.inj (show some _ = some v from hj); exact h4
 | j + 5, hj => simp at hj
theorem idxr_any {w0 w : World} {F : List Aa} {K : (Nat -> Prop) -> World -> Prop} (v : Value) (l : List (B7)) (f : FuncId) (first caps : Array Value) (q : B7 -> Bool) (hcg : BD Tryz.prog f = true) (hS : St w0 w F K) (kl : ∀ D w, K D w -> Bt w D v l)
  (hq : ∀ (x : Value) (z : B7) (w : World), z ∈ l -> (∃ F', St w0 w (F' ++ F) fun D w => K D w /\ Fi w D x z) -> Calls Tryz.prog f (first.toList ++ [x] ++ caps.toList).toArray w (AE (fun r _ => r = .bool (q z)) w)) :
  Calls Tryz.prog 148 #[v, .func (.func f) first caps] w fun e w' => ∃ k : Int, e = .returned (.int .i64 k) /\ decide (0 <= k) = l.any q /\ St w0 w' F K := by
 obtain ⟨A, c, rfl, _, hc2⟩ := (kl _ _ hS.ro).shape
 have KS := Lib.hid hS.stable
 have HQ := Lib.hid hq
 clear hq
 have HCG := Lib.hid hcg
 clear hcg
 go_enter Tryz.func148, Tryz.ntmps148
 go_wp2_with (first | ((with_reducible refine qB ?_); refine qc ?_ ?_ <;> intro h_ <;> go_prune))
 go_loopw [8] (fun i wr => ∃ k : Nat, k <= l.length /\ i = .int .i64 (k : Nat) /\ St w0 wr F K /\ Hid (∀ z ∈ l.take k, q z = false)) (fun i _ => l.length - (intOf i).toNat)
 case atStart => exact ⟨0, by omega, rfl, hS, Lib.hid (by simp)⟩
 case round =>
  clear hS
  obtain ⟨k, hk, rfl, hS, HZ⟩ := hrel
  by_cases hlt : k < l.length
  ·obtain ⟨b, o, y, n, rfl, _, hb, c0, c1, c2, c3, c4, hy, hn⟩ := (kl _ _ hS.ro).at_ hlt
   obtain ⟨Ay, my, cy, rfl⟩ := hy.shape
   obtain ⟨An, mn, cn, rfl⟩ := hn.shape
   have HM : Hid (l.getD k AX ∈ l) := Lib.hid (by rw [List.getD_eq_getElem?_getD, List.getElem?_eq_getElem hlt]; exact List.getElem_mem hlt)
   have HZ2 : Hid (q (l.getD k AX) = false -> ∀ z ∈ l.take (k + 1), q z = false) := Lib.hid fun h z hz => by
    rw [List.take_add_one, List.mem_append] at hz
    rcases hz with hz | hz
    ·exact HZ.out z hz
    ·rw [List.getElem?_eq_getElem hlt] at hz
     rw [List.getD_eq_getElem?_getD, List.getElem?_eq_getElem hlt] at h
     have : z = l[k] := by simpa using hz
     rw [this]; exact h
   have HY : Hid (q (l.getD k AX) = true -> true = l.any q) := Lib.hid fun h => (List.any_eq_true.2 ⟨_, HM.out, h⟩).symm
   replace hS := hS.add (D := DZ F) (Gu (v := .agg #[.bool (l.getD k AX).revoke, .slice Ay my cy, .slice An mn cn, .int .i64 (l.getD k AX).target, .int .i64 (l.getD k AX).origin]) (z := l.getD k AX)) ⟨_, _, rfl, hy, hn⟩ fun _ h _ => h
   clear hy hn
   generalize l.getD k AX = z at *
   have HK := Lib.hid (HQ.out (.agg #[.bool z.revoke, .slice Ay my cy, .slice An mn cn, .int .i64 z.target, .int .i64 z.origin]) z wr HM.out ⟨[], hS⟩)
   obtain ⟨args, hargs⟩ : ∃ args, args = first.toList ++ [Value.agg #[.bool z.revoke, .slice Ay my cy, .slice An mn cn, .int .i64 z.target, .int .i64 z.origin]] ++ caps.toList := ⟨_, rfl⟩
   rw [<- hargs] at HK
   have HARG := Lib.hid hargs
   clear hargs
   go_wp2_with (first
    | ((with_reducible refine qA 15 ?_); refine BigFrame.wpList_want rfl fun _ hK => Bh (cs := [.bool z.revoke, .slice Ay my cy, .slice An mn cn, .int .i64 z.target, .int .i64 z.origin]) rfl rfl (rng5 c0 c1 c2 c3 c4) Tryz.underlying83 rfl (by kernel_rfl) (hK _ _ ?_))
    | ((with_reducible refine qA 16 ?_); refine BigFrame.wpList_want rfl fun _ hK => CY (vs := args) rfl rfl HCG.out (by simp [Act.eval, Act.put, HARG.out]) HK.out fun e w' ⟨u_, he_, hu_, hb_⟩ => ⟨u_, he_, hK _ _ ?_⟩))
   ·go_ret
    exact ⟨_, rfl, (decide_eq_true (by omega)).trans (HY.out (by assumption)), (hS.ext hb_).mono KS.out fun _ _ h => h.1⟩
   ·exact ⟨⟨k + 1, hlt, by go_num, (hS.ext hb_).mono KS.out fun _ _ h => h.1, Lib.hid (HZ2.out (by assumption))⟩, by simp [intOf]; omega⟩
  ·obtain rfl : k = l.length := by omega
   have HN : Hid (false = l.any q) := Lib.hid (by
    have h := HZ.out
    rw [List.take_length] at h
    exact (List.any_eq_false.2 fun z hz => by rw [h z hz]; simp).symm)
   go_wp2_with (first | ((with_reducible refine qB ?_); refine qc ?_ ?_ <;> intro h_ <;> go_prune))
   go_ret
   exact ⟨_, rfl, (decide_eq_false (by omega)).trans HN.out, hS⟩
theorem anyr_any {w0 w : World} {F : List Aa} {K : (Nat -> Prop) -> World -> Prop} (v : Value) (l : List (B7)) (f : FuncId) (first caps : Array Value) (q : B7 -> Bool) (hcg : BD Tryz.prog f = true) (hS : St w0 w F K) (kl : ∀ D w, K D w -> Bt w D v l)
  (hq : ∀ (x : Value) (z : B7) (w : World), z ∈ l -> (∃ F', St w0 w (F' ++ F) fun D w => K D w /\ Fi w D x z) -> Calls Tryz.prog f (first.toList ++ [x] ++ caps.toList).toArray w (AE (fun r _ => r = .bool (q z)) w)) :
  Calls Tryz.prog 118 #[v, .func (.func f) first caps] w fun e w' => e = .returned (.bool (l.any q)) /\ St w0 w' F K := by
 have HI := Lib.hid (idxr_any v l f first caps q hcg hS kl hq)
 clear hcg hS kl hq
 go_enter Tryz.func118, Tryz.ntmps118
 go_wp2_with fail
 refine HI.out.mono ?_
 rintro e w1 ⟨k, rfl, hk, hS⟩
 have HK := Lib.hid hk
 clear hk
 go_wp2_with (first | ((with_reducible refine qA 8 ?_); refine BigFrame.wpList_want rfl fun _ hK => AH (vx := .int .i64 k) (vy := .int .i64 0) (v := .bool (l.any q)) rfl rfl rfl rfl (run_geB ((decide_eq_decide.2 (by omega)).trans HK.out)) (hK _ _ ?_)))
 go_ret
 exact ⟨rfl, hS⟩
theorem idxp_any {w0 w : World} {F : List Aa} {K : (Nat -> Prop) -> World -> Prop} (v : Value) (l : List (Nat × Nat)) (f : FuncId) (first caps : Array Value) (q : Nat × Nat -> Bool) (hcg : BD Tryz.prog f = true) (hS : St w0 w F K) (kl : ∀ D w, K D w -> Sl w D 2 v l.length (A7 l))
  (hq : ∀ (x : Value) (z : Nat × Nat) (w : World), z ∈ l -> St w0 w F K -> x = .agg #[.int .i64 (z.1 : Nat), .int .i64 (z.2 : Nat)] -> Calls Tryz.prog f (first.toList ++ [x] ++ caps.toList).toArray w (AE (fun r _ => r = .bool (q z)) w)) :
  Calls Tryz.prog 158 #[v, .func (.func f) first caps] w fun e w' => ∃ k : Int, e = .returned (.int .i64 k) /\ decide (0 <= k) = l.any q /\ St w0 w' F K := by
 obtain ⟨A, c, rfl, _, hc2⟩ := (kl _ _ hS.ro).shape
 have KS := Lib.hid hS.stable
 have HQ := Lib.hid hq
 clear hq
 have HCG := Lib.hid hcg
 clear hcg
 go_enter Tryz.func158, Tryz.ntmps158
 go_wp2_with (first | ((with_reducible refine qB ?_); refine qc ?_ ?_ <;> intro h_ <;> go_prune))
 go_loopw [8] (fun i wr => ∃ k : Nat, k <= l.length /\ i = .int .i64 (k : Nat) /\ St w0 wr F K /\ Hid (∀ z ∈ l.take k, q z = false)) (fun i _ => l.length - (intOf i).toNat)
 case atStart => exact ⟨0, by omega, rfl, hS, Lib.hid (by simp)⟩
 case round =>
  clear hS
  obtain ⟨k, hk, rfl, hS, HZ⟩ := hrel
  by_cases hlt : k < l.length
  ·obtain ⟨f1, f2⟩ := Bc l k hlt
   obtain ⟨b, o, rfl, c0, c1⟩ : ∃ b o, A = some ⟨b, o, none⟩ /\ wr.cell? ⟨b, o + k * 2, none⟩ = some (.int .i64 ((l.getD k (0, 0)).1 : Nat)) /\ wr.cell? ⟨b, o + k * 2 + 1, none⟩ = some (.int .i64 ((l.getD k (0, 0)).2 : Nat)) := by
    obtain ⟨_, A2, c2, e2, _, _, h5⟩ := kl _ _ hS.ro
    obtain ⟨b, o, h6, _, _, h7⟩ := h5 (by omega)
    injection e2 with e2
    exact ⟨b, o, e2.trans h6, h7 _ _ f1, h7 _ _ f2⟩
   clear f1 f2
   have HM : Hid (l.getD k (0, 0) ∈ l) := Lib.hid (by rw [List.getD_eq_getElem?_getD, List.getElem?_eq_getElem hlt]; exact List.getElem_mem hlt)
   have HZ2 : Hid (q (l.getD k (0, 0)) = false -> ∀ z ∈ l.take (k + 1), q z = false) := Lib.hid fun h z hz => by
    rw [List.take_add_one, List.mem_append] at hz
    rcases hz with hz | hz
    ·exact HZ.out z hz
    ·rw [List.getElem?_eq_getElem hlt] at hz
     rw [List.getD_eq_getElem?_getD, List.getElem?_eq_getElem hlt] at h
     have : z = l[k] := by simpa using hz
     rw [this]; exact h
   have HY : Hid (q (l.getD k (0, 0)) = true -> true = l.any q) := Lib.hid fun h => (List.any_eq_true.2 ⟨_, HM.out, h⟩).symm
   generalize l.getD k (0, 0) = z at *
   have HK := Lib.hid (HQ.out (.agg #[.int .i64 (z.1 : Nat), .int .i64 (z.2 : Nat)]) z wr HM.out hS rfl)
   obtain ⟨args, hargs⟩ : ∃ args, args = first.toList ++ [Value.agg #[.int .i64 (z.1 : Nat), .int .i64 (z.2 : Nat)]] ++ caps.toList := ⟨_, rfl⟩
   rw [<- hargs] at HK
   have HARG := Lib.hid hargs
   clear hargs
   go_wp2_with (first
    | ((with_reducible refine qA 15 ?_); refine BigFrame.wpList_want rfl fun _ hK => Bh (cs := [.int .i64 (z.1 : Nat), .int .i64 (z.2 : Nat)]) rfl rfl (rng2 c0 c1) Tryz.underlying159 rfl (by kernel_rfl) (hK _ _ ?_))
    | ((with_reducible refine qA 16 ?_); refine BigFrame.wpList_want rfl fun _ hK => CY (vs := args) rfl rfl HCG.out (by simp [Act.eval, Act.put, HARG.out]) HK.out fun e w' ⟨u_, he_, hu_, hb_⟩ => ⟨u_, he_, hK _ _ ?_⟩))
   ·go_ret
    exact ⟨_, rfl, (decide_eq_true (by omega)).trans (HY.out (by assumption)), hS.ext hb_⟩
   ·exact ⟨⟨k + 1, hlt, by go_num, hS.ext hb_, Lib.hid (HZ2.out (by assumption))⟩, by simp [intOf]; omega⟩
  ·obtain rfl : k = l.length := by omega
   have HN : Hid (false = l.any q) := Lib.hid (by
    have h := HZ.out
    rw [List.take_length] at h
    exact (List.any_eq_false.2 fun z hz => by rw [h z hz]; simp).symm)
   go_wp2_with (first | ((with_reducible refine qB ?_); refine qc ?_ ?_ <;> intro h_ <;> go_prune))
   go_ret
   exact ⟨_, rfl, (decide_eq_false (by omega)).trans HN.out, hS⟩
theorem anyp_any {w0 w : World} {F : List Aa} {K : (Nat -> Prop) -> World -> Prop} (v : Value) (l : List (Nat × Nat)) (f : FuncId) (first caps : Array Value) (q : Nat × Nat -> Bool) (hcg : BD Tryz.prog f = true) (hS : St w0 w F K) (kl : ∀ D w, K D w -> Sl w D 2 v l.length (A7 l))
  (hq : ∀ (x : Value) (z : Nat × Nat) (w : World), z ∈ l -> St w0 w F K -> x = .agg #[.int .i64 (z.1 : Nat), .int .i64 (z.2 : Nat)] -> Calls Tryz.prog f (first.toList ++ [x] ++ caps.toList).toArray w (AE (fun r _ => r = .bool (q z)) w)) :
  Calls Tryz.prog 144 #[v, .func (.func f) first caps] w fun e w' => e = .returned (.bool (l.any q)) /\ St w0 w' F K := by
 have HI := Lib.hid (idxp_any v l f first caps q hcg hS kl hq)
 clear hcg hS kl hq
 go_enter Tryz.func144, Tryz.ntmps144
 go_wp2_with fail
 refine HI.out.mono ?_
 rintro e w1 ⟨k, rfl, hk, hS⟩
 have HK := Lib.hid hk
 clear hk
 go_wp2_with (first | ((with_reducible refine qA 8 ?_); refine BigFrame.wpList_want rfl fun _ hK => AH (vx := .int .i64 k) (vy := .int .i64 0) (v := .bool (l.any q)) rfl rfl rfl rfl (run_geB ((decide_eq_decide.2 (by omega)).trans HK.out)) (hK _ _ ?_)))
 go_ret
 exact ⟨rfl, hS⟩
end
section
open Go.RowKit
attribute [local go_sem ↓] Go.wp_at_zero Go.wp_at_succ
set_option maxRecDepth 20000
set_option exponentiation.threshold 5000
theorem all1c_any {w0 w : World} {F : List Aa} {K : (Nat -> Prop) -> World -> Prop} {x : Value} {z : Nat × Nat} {g : Nat} {f : FuncId} {first caps : Array Value} {b : Bool} (hcg : BD Tryz.prog f = true) (hS : St w0 w F K) (kb : ∀ D w, K D w -> C1 w D g #[.func (.func f) first caps]) (kx : ∀ D w, K D w -> Be w D x z)
  (hq : ∀ w, (∃ F', St w0 w (F' ++ F) K) -> Calls Tryz.prog f (first.toList ++ [x] ++ caps.toList).toArray w (AE (fun r _ => r = .bool b) w)) :
  Calls Tryz.prog 147 #[x, .pointer (some ⟨g, 0, none⟩)] w (AE (fun r _ => r = .bool (!b)) w) := by
 obtain ⟨a0, b0, rfl, ha, hb⟩ := kx _ _ hS.ro
 obtain ⟨A, m, c, rfl⟩ := ha.shape
 obtain ⟨B, k, d, rfl⟩ := hb.shape
 obtain ⟨args, hargs⟩ : ∃ args, args = first.toList ++ [Value.agg #[.slice A m c, .slice B k d]] ++ caps.toList := ⟨_, rfl⟩
 rw [<- hargs] at hq
 have HARG := Lib.hid hargs
 have HQ := Lib.hid hq
 have HCG := Lib.hid hcg
 have HB := Lib.hid hS.below
 have hW := Below.refl w.heap.size w
 clear ha hb hargs hq hcg kx
 go_enter Tryz.func147, Tryz.ntmps147
 go_wp2_with (first
  | ((with_reducible refine qA 2 ?_); refine Cb rfl _ _ rfl (.agg #[.slice A m c, .slice B k d]) _ rfl rfl ?_; intro w_ hX hb_; replace hS := hS.new hb_ (.box _ _ _) ⟨Nat.le_refl _, hX⟩; replace hW := BX hW hb_; clear hX hb_; (try simp only [Act.put, Act.eval, zz, Value.cells] at hS))
  | ((with_reducible refine qK ?_); refine qL hS Tryz.underlying81 ?_)
  | ((with_reducible refine qA 4 ?_); refine BigFrame.wpList_want rfl fun _ hK => Ab rfl rfl (by kernel_rfl) ((kb _ _ hS.ro).cell 0 rfl) (hK _ _ ?_))
  | ((with_reducible refine qA 6 ?_); refine BigFrame.wpList_want rfl fun _ hK => CY (vs := args) rfl rfl HCG.out (by simp [Act.eval, Act.put, HARG.out]) (HQ.out _ ⟨[_], hS⟩) fun e w' ⟨u_, he_, hu_, hb_⟩ => ⟨u_, he_, hK _ _ ?_⟩))
 go_ret
 exact AE.mk rfl (BX hW hb_)
theorem allc_any {w0 w : World} {F : List Aa} {K : (Nat -> Prop) -> World -> Prop} (v : Value) (l : List (Nat × Nat)) (f : FuncId) (first caps : Array Value) (q : Nat × Nat -> Bool) (hcg : BD Tryz.prog f = true) (hS : St w0 w F K) (kl : ∀ D w, K D w -> Az w D v l)
  (hq : ∀ (x : Value) (z : Nat × Nat) (w : World), z ∈ l -> (∃ F', St w0 w (F' ++ F) fun D w => K D w /\ Be w D x z) -> Calls Tryz.prog f (first.toList ++ [x] ++ caps.toList).toArray w (AE (fun r _ => r = .bool (q z)) w)) :
  Calls Tryz.prog 116 #[v, .func (.func f) first caps] w fun e w' => e = .returned (.bool (l.all q)) /\ St w0 w' F K := by
 have KS := Lib.hid hS.stable
 have HQ := Lib.hid hq
 have HR : Hid ((!l.any fun z => !q z) = l.all q) := Lib.hid (by rw [List.all_eq_not_any_not])
 obtain ⟨R, hR⟩ : ∃ R, R = l.any fun z => !q z := ⟨_, rfl⟩
 rw [<- hR] at HR
 have HRR := Lib.hid hR
 clear hq hR
 go_enter Tryz.func116, Tryz.ntmps116
 go_wp2_with (first
  | (((with_reducible refine qA 3 ?_); refine At hS rfl _ _ rfl (.func (.func f) first caps) _ rfl rfl ?_; clear hS; intro g3 w_ hS; (try simp only [Act.put, Act.eval, zz, Value.cells] at hS)); replace hS := hS.sealB 0 (by simp) rfl)
  | (go_at_call 54; refine (Is v l 147 #[] #[.pointer (some ⟨g3, 0, none⟩)] (fun z => !q z) (by kernel_rfl) hS (fun D w h => kl D w h.1) fun x z w hz ⟨F1, h⟩ => all1c_any hcg h (fun D w h => h.1.2) (fun D w h => h.2) fun w' ⟨F2, h'⟩ => HQ.out x z w' hz ⟨F2 ++ F1, (by rw [List.append_assoc]; exact h'.mono (KS.out.and CG) fun D w h => ⟨h.1.1, h.2⟩)⟩).mono ?_; clear hS; rintro e_ w_ ⟨rfl, hS⟩; rw [<- HRR.out]))
 go_ret
 exact ⟨by rw [HR.out]; rfl, hS.mono KS.out fun _ _ h => h.1⟩
theorem all1r_any {w0 w : World} {F : List Aa} {K : (Nat -> Prop) -> World -> Prop} {x : Value} {z : B7} {g : Nat} {f : FuncId} {first caps : Array Value} {b : Bool} (hcg : BD Tryz.prog f = true) (hS : St w0 w F K) (kb : ∀ D w, K D w -> C1 w D g #[.func (.func f) first caps]) (kx : ∀ D w, K D w -> Fi w D x z)
  (hq : ∀ w, (∃ F', St w0 w (F' ++ F) K) -> Calls Tryz.prog f (first.toList ++ [x] ++ caps.toList).toArray w (AE (fun r _ => r = .bool b) w)) :
  Calls Tryz.prog 119 #[x, .pointer (some ⟨g, 0, none⟩)] w (AE (fun r _ => r = .bool (!b)) w) := by
 obtain ⟨a0, b0, rfl, ha, hb⟩ := kx _ _ hS.ro
 obtain ⟨A, m, c, rfl⟩ := ha.shape
 obtain ⟨B, k, d, rfl⟩ := hb.shape
 obtain ⟨args, hargs⟩ : ∃ args, args = first.toList ++ [Value.agg #[.bool z.revoke, .slice A m c, .slice B k d, .int .i64 z.target, .int .i64 z.origin]] ++ caps.toList := ⟨_, rfl⟩
 rw [<- hargs] at hq
 have HARG := Lib.hid hargs
 have HQ := Lib.hid hq
 have HCG := Lib.hid hcg
 have HB := Lib.hid hS.below
 have hW := Below.refl w.heap.size w
 clear ha hb hargs hq hcg kx
 go_enter Tryz.func119, Tryz.ntmps119
 go_wp2_with (first
  | ((with_reducible refine qA 2 ?_); refine Cb rfl _ _ rfl (.agg #[.bool z.revoke, .slice A m c, .slice B k d, .int .i64 z.target, .int .i64 z.origin]) _ rfl rfl ?_; intro w_ hX hb_; replace hS := hS.new hb_ (.box _ _ _) ⟨Nat.le_refl _, hX⟩; replace hW := BX hW hb_; clear hX hb_; (try simp only [Act.put, Act.eval, zz, Value.cells] at hS))
  | ((with_reducible refine qK ?_); refine qL hS Tryz.underlying83 ?_)
  | ((with_reducible refine qA 4 ?_); refine BigFrame.wpList_want rfl fun _ hK => Ab rfl rfl (by kernel_rfl) ((kb _ _ hS.ro).cell 0 rfl) (hK _ _ ?_))
  | ((with_reducible refine qA 6 ?_); refine BigFrame.wpList_want rfl fun _ hK => CY (vs := args) rfl rfl HCG.out (by simp [Act.eval, Act.put, HARG.out]) (HQ.out _ ⟨[_], hS⟩) fun e w' ⟨u_, he_, hu_, hb_⟩ => ⟨u_, he_, hK _ _ ?_⟩))
 go_ret
 exact AE.mk rfl (BX hW hb_)
theorem allr_any {w0 w : World} {F : List Aa} {K : (Nat -> Prop) -> World -> Prop} (v : Value) (l : List B7) (f : FuncId) (first caps : Array Value) (q : B7 -> Bool) (hcg : BD Tryz.prog f = true) (hS : St w0 w F K) (kl : ∀ D w, K D w -> Bt w D v l)
  (hq : ∀ (x : Value) (z : B7) (w : World), z ∈ l -> (∃ F', St w0 w (F' ++ F) fun D w => K D w /\ Fi w D x z) -> Calls Tryz.prog f (first.toList ++ [x] ++ caps.toList).toArray w (AE (fun r _ => r = .bool (q z)) w)) :
  Calls Tryz.prog 79 #[v, .func (.func f) first caps] w fun e w' => e = .returned (.bool (l.all q)) /\ St w0 w' F K := by
 have KS := Lib.hid hS.stable
 have HQ := Lib.hid hq
 have HR : Hid ((!l.any fun z => !q z) = l.all q) := Lib.hid (by rw [List.all_eq_not_any_not])
 obtain ⟨R, hR⟩ : ∃ R, R = l.any fun z => !q z := ⟨_, rfl⟩
 rw [<- hR] at HR
 have HRR := Lib.hid hR
 clear hq hR
 go_enter Tryz.func79, Tryz.ntmps79
 go_wp2_with (first
  | (((with_reducible refine qA 3 ?_); refine At hS rfl _ _ rfl (.func (.func f) first caps) _ rfl rfl ?_; clear hS; intro g3 w_ hS; (try simp only [Act.put, Act.eval, zz, Value.cells] at hS)); replace hS := hS.sealB 0 (by simp) rfl)
  | (go_at_call 118; refine (anyr_any v l 119 #[] #[.pointer (some ⟨g3, 0, none⟩)] (fun z => !q z) (by kernel_rfl) hS (fun D w h => kl D w h.1) fun x z w hz ⟨F1, h⟩ => all1r_any hcg h (fun D w h => h.1.2) (fun D w h => h.2) fun w' ⟨F2, h'⟩ => HQ.out x z w' hz ⟨F2 ++ F1, (by rw [List.append_assoc]; exact h'.mono (KS.out.and Gu) fun D w h => ⟨h.1.1, h.2⟩)⟩).mono ?_; clear hS; rintro e_ w_ ⟨rfl, hS⟩; rw [<- HRR.out]))
 go_ret
 exact ⟨by rw [HR.out]; rfl, hS.mono KS.out fun _ _ h => h.1⟩
theorem all1p_any {w0 w : World} {F : List Aa} {K : (Nat -> Prop) -> World -> Prop} {x : Value} {z : Nat × Nat} {g : Nat} {f : FuncId} {first caps : Array Value} {b : Bool} (hcg : BD Tryz.prog f = true) (hS : St w0 w F K) (kb : ∀ D w, K D w -> C1 w D g #[.func (.func f) first caps]) (kx : x = .agg #[.int .i64 (z.1 : Nat), .int .i64 (z.2 : Nat)])
  (hq : ∀ w, (∃ F', St w0 w (F' ++ F) K) -> Calls Tryz.prog f (first.toList ++ [x] ++ caps.toList).toArray w (AE (fun r _ => r = .bool b) w)) :
  Calls Tryz.prog 145 #[x, .pointer (some ⟨g, 0, none⟩)] w (AE (fun r _ => r = .bool (!b)) w) := by
 subst kx
 obtain ⟨args, hargs⟩ : ∃ args, args = first.toList ++ [Value.agg #[.int .i64 (z.1 : Nat), .int .i64 (z.2 : Nat)]] ++ caps.toList := ⟨_, rfl⟩
 rw [<- hargs] at hq
 have HARG := Lib.hid hargs
 have HQ := Lib.hid hq
 have HCG := Lib.hid hcg
 have HB := Lib.hid hS.below
 have hW := Below.refl w.heap.size w
 clear hargs hq hcg
 go_enter Tryz.func145, Tryz.ntmps145
 go_wp2_with (first
  | ((with_reducible refine qA 2 ?_); refine Cb rfl _ _ rfl (.agg #[.int .i64 (z.1 : Nat), .int .i64 (z.2 : Nat)]) _ rfl rfl ?_; intro w_ hX hb_; replace hS := hS.new hb_ (.box _ _ _) ⟨Nat.le_refl _, hX⟩; replace hW := BX hW hb_; clear hX hb_; (try simp only [Act.put, Act.eval, zz, Value.cells] at hS))
  | ((with_reducible refine qK ?_); refine qL hS Tryz.underlying159 ?_)
  | ((with_reducible refine qA 4 ?_); refine BigFrame.wpList_want rfl fun _ hK => Ab rfl rfl (by kernel_rfl) ((kb _ _ hS.ro).cell 0 rfl) (hK _ _ ?_))
  | ((with_reducible refine qA 6 ?_); refine BigFrame.wpList_want rfl fun _ hK => CY (vs := args) rfl rfl HCG.out (by simp [Act.eval, Act.put, HARG.out]) (HQ.out _ ⟨[_], hS⟩) fun e w' ⟨u_, he_, hu_, hb_⟩ => ⟨u_, he_, hK _ _ ?_⟩))
 go_ret
 exact AE.mk rfl (BX hW hb_)
theorem allp_any {w0 w : World} {F : List Aa} {K : (Nat -> Prop) -> World -> Prop} (v : Value) (l : List (Nat × Nat)) (f : FuncId) (first caps : Array Value) (q : Nat × Nat -> Bool) (hcg : BD Tryz.prog f = true) (hS : St w0 w F K) (kl : ∀ D w, K D w -> Sl w D 2 v l.length (A7 l))
  (hq : ∀ (x : Value) (z : Nat × Nat) (w : World), z ∈ l -> (∃ F', St w0 w (F' ++ F) K) -> x = .agg #[.int .i64 (z.1 : Nat), .int .i64 (z.2 : Nat)] -> Calls Tryz.prog f (first.toList ++ [x] ++ caps.toList).toArray w (AE (fun r _ => r = .bool (q z)) w)) :
  Calls Tryz.prog 112 #[v, .func (.func f) first caps] w fun e w' => e = .returned (.bool (l.all q)) /\ St w0 w' F K := by
 have KS := Lib.hid hS.stable
 have HQ := Lib.hid hq
 have HR : Hid ((!l.any fun z => !q z) = l.all q) := Lib.hid (by rw [List.all_eq_not_any_not])
 obtain ⟨R, hR⟩ : ∃ R, R = l.any fun z => !q z := ⟨_, rfl⟩
 rw [<- hR] at HR
 have HRR := Lib.hid hR
 clear hq hR
 go_enter Tryz.func112, Tryz.ntmps112
 go_wp2_with (first
  | (((with_reducible refine qA 3 ?_); refine At hS rfl _ _ rfl (.func (.func f) first caps) _ rfl rfl ?_; clear hS; intro g3 w_ hS; (try simp only [Act.put, Act.eval, zz, Value.cells] at hS)); replace hS := hS.sealB 0 (by simp) rfl)
  | (go_at_call 144; refine (anyp_any v l 145 #[] #[.pointer (some ⟨g3, 0, none⟩)] (fun z => !q z) (by kernel_rfl) hS (fun D w h => kl D w h.1) fun x z w hz h hx => all1p_any hcg h (fun D w h => h.2) hx fun w' ⟨F2, h'⟩ => HQ.out x z w' hz ⟨F2, h'.mono KS.out fun D w h => h.1⟩ hx).mono ?_; clear hS; rintro e_ w_ ⟨rfl, hS⟩; rw [<- HRR.out]))
 go_ret
 exact ⟨by rw [HR.out]; rfl, hS.mono KS.out fun _ _ h => h.1⟩
end
section
open Go.RowKit
attribute [local go_sem ↓] Go.wp_at_zero Go.wp_at_succ
set_option maxRecDepth 20000
set_option exponentiation.threshold 5000
structure Ac where
 roles : Int
 links : Option (List (Nat × Nat))
 start : Nat
 rules : List B7
 never : List (Nat × Nat)
 goal : List (Nat × Nat)
def Gs (w : World) (D : Nat -> Prop) (v : Value) : Option (List (Nat × Nat)) -> Prop
 | none => v = .pointer none
 | some L => IsH w D v L
theorem BT {v : Value} {o : Option (List (Nat × Nat))} : Ao fun D w => Gs w D v o := by
 cases o with
 | none => exact fun _ _ _ _ h _ _ _ => h
 | some L => exact D4
def Bg (w : World) (D : Nat -> Prop) (v : Value) (p : Ac) : Prop :=
 ∃ lp s rv nv gv, v = .agg #[.int .i64 p.roles, lp, s, rv, nv, gv] /\ Gs w D lp p.links /\ A5 w D (.agg #[s]) p.start /\ Bt w D rv p.rules /\ Az w D nv p.never /\ Az w D gv p.goal
theorem Gv {v : Value} {p : Ac} : Ao fun D w => Bg w D v p := fun D D' w w' h a b c => by
 obtain ⟨lp, s, rv, nv, gv, h1, h2, h3, h4, h5, h6⟩ := h
 exact ⟨lp, s, rv, nv, gv, h1, BT D D' w w' h2 a b c, A6 D D' w w' h3 a b c, B3 D D' w w' h4 a b c, AL D D' w w' h5 a b c, AL D D' w w' h6 a b c⟩
structure Ac.Ok (p : Ac) : Prop where
 rules : p.rules.length <= 100000
 never : p.never.length <= 100000
 goal : p.goal.length <= 100000
 links : ∀ L, p.links = some L -> GM L /\ L.length <= 900000
def Ac.cubes (p : Ac) : List (Nat × Nat) := (p.rules.map fun r => (r.yes, r.no)) ++ p.never ++ p.goal
theorem Aj.append {w : World} {D : Nat -> Prop} {xs ys : List Value} {l m : List (Nat × Nat)} (hx : xs.length = l.length * 2) (h : Aj w D xs l) (k : Aj w D ys m) : Aj w D (xs ++ ys) (l ++ m) := fun i y n hi => by
 rcases Nat.lt_or_ge i l.length with h1 | h1
 ·rw [List.getElem?_append_left h1] at hi
  obtain ⟨a, b, q1, q2, q3, q4⟩ := h i y n hi
  exact ⟨a, b, by rw [List.getElem?_append_left (by omega)]; exact q1, by rw [List.getElem?_append_left (by omega)]; exact q2, q3, q4⟩
 ·rw [List.getElem?_append_right h1] at hi
  obtain ⟨a, b, q1, q2, q3, q4⟩ := k _ y n hi
  refine ⟨a, b, ?_, ?_, q3, q4⟩
  ·rw [List.getElem?_append_right (by omega), <- q1]; congr 1; omega
  ·rw [List.getElem?_append_right (by omega), <- q2]; congr 1; omega
theorem Aj.one {w : World} {D : Nat -> Prop} {xs : List Value} {l : List (Nat × Nat)} (hl : xs.length = l.length * 2) (h : Aj w D xs l) : ∀ u ∈ xs, u.oneCell' = true := fun u hu => by
 obtain ⟨i, hi, rfl⟩ := List.getElem_of_mem hu
 have hk : i / 2 < l.length := by omega
 obtain ⟨a, b, q1, q2, q3, q4⟩ := h (i / 2) l[i / 2].1 l[i / 2].2 (by rw [List.getElem?_eq_getElem hk])
 obtain ⟨A, m, c, e3⟩ := q3.shape
 obtain ⟨B, k, d, e4⟩ := q4.shape
 rcases Nat.mod_two_eq_zero_or_one i with e | e
 ·have : i = i / 2 * 2 := by omega
  rw [<- this, List.getElem?_eq_getElem hi] at q1
  injection q1 with q1
  rw [q1, e3]; rfl
 ·have : i = i / 2 * 2 + 1 := by omega
  rw [<- this, List.getElem?_eq_getElem hi] at q2
  injection q2 with q2
  rw [q2, e4]; rfl
theorem EB {xs : List Value} {l : List (Nat × Nat)} : Ao fun D w => Aj w D xs l := fun D D' w w' h a b c i y n hi => by
 obtain ⟨x, z, h1, h2, h3, h4⟩ := h i y n hi
 exact ⟨x, z, h1, h2, A6 D D' w w' h3 a b c, A6 D D' w w' h4 a b c⟩
def cbD (xs xn xg : List Value) (n m k : Nat) : AD := ⟨81, 2, 3, fun s => match s with | 0 => n | 1 => n + m | _ => n + m + k, fun s => match s with | 0 => xs | 1 => xs ++ xn | _ => xs ++ xn ++ xg, fun _ v => .own v 81 2 0 []⟩
def cbK : List (Nat × (Bool × Nat)) := [(3, (true, 1)), (6, (true, 2))]
theorem AN_one1 {kd : List (Nat × (Bool × Nat))} (hk : ∀ x ∈ kd, x.2.1 = true -> 1 <= x.2.2) (w : World) (v : Value) (i : Nat) : AN kd i (w, ⟨[v], []⟩) := by
 unfold AN
 split
 ·rename_i s hs
  unfold EY at hs
  obtain ⟨y, hy, e⟩ := Option.map_eq_some_iff.1 hs
  have := hk y (List.mem_of_find?_eq_some hy) (by rw [e])
  rw [e] at this
  exact this
 ·simp
 ·trivial
set_option maxHeartbeats 1000000 in
theorem I3 {w0 w : World} {F : List Aa} {K : (Nat -> Prop) -> World -> Prop} {v : Value} {p : Ac} (hP : p.Ok) (hS : St w0 w F K) (kp : ∀ D w, K D w -> Bg w D v p) :
  Calls Tryz.prog 77 #[v] w fun e w' => ∃ u, e = .returned u /\ St w0 w' F fun D w => K D w /\ Az w D u p.cubes := by
 obtain ⟨R, lk, st, rl, nl, gl⟩ := p
 obtain ⟨lp, s, rv, nv, gv, rfl, -, -, hr, hn, hg⟩ := kp _ _ hS.ro
 dsimp only at hr hn hg
 obtain ⟨hP1, hP2, hP3, -⟩ := hP
 dsimp only at hP1 hP2 hP3
 have KS := Lib.hid hS.stable
 obtain ⟨Ar, cr, rfl, _, _⟩ := hr.shape
 obtain ⟨An, cn, rfl, _, _⟩ := hn.shape
 obtain ⟨Ag, cg, rfl, _, _⟩ := hg.shape
 obtain ⟨xn, hn1, hn2⟩ := hn
 obtain ⟨xg, hg1, hg2⟩ := hg
 obtain ⟨K1, k0, kr, kn, kg, kn2, kg2, hS2⟩ : ∃ K1 : (Nat -> Prop) -> World -> Prop, (∀ D w, K1 D w -> K D w) /\ (∀ D w, K1 D w -> Bt w D (.slice Ar rl.length cr) rl) /\ (∀ D w, K1 D w -> Sl w D 2 (.slice An nl.length cn) nl.length xn) /\ (∀ D w, K1 D w -> Sl w D 2 (.slice Ag gl.length cg) gl.length xg) /\ (∀ D w, K1 D w -> Aj w D xn nl) /\ (∀ D w, K1 D w -> Aj w D xg gl) /\ St w0 w F K1 :=
  ⟨_, fun _ _ h => h.1, fun _ _ h => h.2.1, fun _ _ h => h.2.2.1.1, fun _ _ h => h.2.2.2.1, fun _ _ h => h.2.2.1.2, fun _ _ h => h.2.2.2.2, hS.add (D := DZ F) (B3.and (((Ah (by decide)).and EB).and ((Ah (by decide)).and EB))) ⟨hr, ⟨hn1, hn2⟩, hg1, hg2⟩ fun _ h _ => h⟩
 clear hS hr hn1 hn2 hg1 hg2 kp
 have hS := hS2
 clear hS2
 have KS1 := Lib.hid hS.stable
 go_enter Tryz.func77, Tryz.ntmps77
 go_wp2_with (first
  | ((with_reducible refine qA 1 ?_); refine At hS rfl _ _ rfl (.agg #[.int .i64 R, lp, s, .slice Ar rl.length cr, .slice An nl.length cn, .slice Ag gl.length cg]) _ rfl rfl ?_; clear hS; intro g1 w_ hS; (try simp only [Act.put, Act.eval, zz, Value.cells] at hS))
  | ((with_reducible refine qK ?_); refine qC hS ?_))
 obtain ⟨CS, hCS⟩ : ∃ CS : List (Nat × Nat), CS = rl.map fun r => (r.yes, r.no) := ⟨_, rfl⟩
 have HCS := Lib.hid hCS
 have hlC : CS.length = rl.length := by rw [hCS]; simp
 have HLC := Lib.hid hlC
 clear hCS hlC
 replace hS := hS.nil 81 2
 go_loopw [3, 9] (fun ov i wr => ∃ (j : Nat) (sv : Value) (xs : List Value), i = .int .i64 (j : Nat) /\ sv = ov /\ j <= rl.length /\ St w0 wr (.own sv 81 2 j xs :: .box g1 31 #[.int .i64 R, lp, s, .slice Ar rl.length cr, .slice An nl.length cn, .slice Ag gl.length cg] :: F) fun D w => K1 D w /\ Aj w D xs (CS.take j)) (fun _ i _ => rl.length - (intOf i).toNat)
 case atStart => exact ⟨0, _, [], rfl, rfl, by omega, hS.mono (KS1.out.and EB) fun D w h => ⟨h, Aj.nil⟩⟩
 case round =>
  clear hS
  obtain ⟨j, sv, xs, rfl, rfl, hj, hS⟩ := hrel
  by_cases hlj : j < rl.length
  ·obtain ⟨b, o, y, n, rfl, _, hb, c0, c1, c2, c3, c4, hy, hn⟩ := (kr _ _ hS.ro.1).at_ hlj
   obtain ⟨Ay, my, cy, rfl⟩ := hy.shape
   obtain ⟨Am, mn, cm, rfl⟩ := hn.shape
   have HT : Hid (CS.take (j + 1) = CS.take j ++ [((rl.getD j AX).yes, (rl.getD j AX).no)]) := Lib.hid (by
    rw [HCS.out, List.take_add_one, List.getElem?_map, List.getElem?_eq_getElem hlj, List.getD_eq_getElem?_getD, List.getElem?_eq_getElem hlj]; rfl)
   have HLT : Hid ((CS.take j).length = j) := Lib.hid (by rw [List.length_take, HLC.out]; omega)
   replace hS := hS.add (D := DZ (.own sv 81 2 j xs :: .box g1 31 #[.int .i64 R, lp, s, .slice (some ⟨b, o, none⟩) rl.length cr, .slice An nl.length cn, .slice Ag gl.length cg] :: F)) (A6.and A6) ⟨hy, hn⟩ fun _ h _ => h
   clear hy hn
   generalize rl.getD j AX = z at *
   have hj1 : j <= 100000 := by omega
   go_wp2_with (first
    | ((with_reducible refine qB ?_); refine qc ?_ ?_ <;> intro h_ <;> go_prune)
    | ((with_reducible refine qA 12 ?_); refine BigFrame.wpList_want rfl fun _ hK => Bh (cs := [.bool z.revoke, .slice Ay my cy, .slice Am mn cm, .int .i64 z.target, .int .i64 z.origin]) rfl rfl (rng5 c0 c1 c2 c3 c4) Tryz.underlying83 rfl (by kernel_rfl) (hK _ _ ?_))
    | ((with_reducible refine qA 5 ?_); refine qa hS #[.bool false, .slice none 0 0, .slice none 0 0, .int .i64 0, .int .i64 0] ?_; clear hS; intro g5 w_ hS)
    | ((with_reducible refine qM ?_); (first | refine qS hS ?_ | refine qT hS ?_); clear hS; intro w_ hS; (try simp only [Act.put, Act.eval, zz, Value.cells] at hS))
    | ((with_reducible refine qk 81 ?_); refine st_cubel hS 0 rfl _ _ rfl _ _ rfl _ _ rfl _ _ rfl rfl Tryz.underlying81 rfl (by kernel_rfl) ?_)
    | ((with_reducible show wpList _ _ _ (⟨_, .buildSlice _ 1 _, _, _, _, _⟩ :: _) _ _); refine Di hS 1 rfl rfl _ _ _ _ rfl rfl Fn _ _ _ (.agg #[.slice Ay my cy, .slice Am mn cm]) #[.slice Ay my cy, .slice Am mn cm] rfl (by kernel_rfl) rfl rfl rfl rfl (by intro u hu; simp at hu; first | (subst hu; rfl) | (rcases hu with rfl | rfl <;> rfl)) (by omega) (by omega) ?_; clear hS; intro z_ v_ w_ hS; (try simp only [Act.put, Act.eval, zz, Value.cells] at hS)))
   have hcl := (hS.own 1 rfl).1
   refine ⟨⟨j + 1, _, xs ++ [.slice Ay my cy, .slice Am mn cm], by go_num, rfl, hlj, ?_⟩, by simp [intOf]; omega⟩
   rw [HT.out]
   exact (hS.sub (F' := _ :: _ :: F) (List.sublist_cons_self _ _)).mono (KS1.out.and EB) fun D w h => ⟨h.1.1, h.1.2.push (by rw [HLT.out]; simp at hcl; omega) h.2.1 h.2.2⟩
  ·obtain rfl : rl.length = j := by omega
   have hCT : CS.take rl.length = CS := by rw [<- HLC.out, List.take_length]
   rw [hCT] at hS
   clear hCT
   go_wp2_with (first | ((with_reducible refine qB ?_); refine qc ?_ ?_ <;> intro h_ <;> go_prune))
   have hxl := (hS.own 0 rfl).1
   have hA0 : G6 ⟨[sv], []⟩ 0 sv := ⟨[], [], rfl, rfl⟩
   have hJ0 : AJ w0 (.box g1 31 #[.int .i64 R, lp, s, .slice Ar rl.length cr, .slice An nl.length cn, .slice Ag gl.length cg] :: F) (fun D w => K1 D w /\ Aj w D xs CS) (cbD xs xn xg rl.length nl.length gl.length) (wr.drew, ⟨[sv], []⟩) := ⟨hS.drew, show 1 <= 3 by decide⟩
   have hN0 := AN_one1 (kd := cbK) (by decide) wr.drew sv
   have hRr := @AR.refl w0 (.box g1 31 #[.int .i64 R, lp, s, .slice Ar rl.length cr, .slice An nl.length cn, .slice Ag gl.length cg] :: F) (fun D w => K1 D w /\ Aj w D xs CS) (cbD xs xn xg rl.length nl.length gl.length)
   have hRt := @AR.trans w0 (.box g1 31 #[.int .i64 R, lp, s, .slice Ar rl.length cr, .slice An nl.length cn, .slice Ag gl.length cg] :: F) (fun D w => K1 D w /\ Aj w D xs CS) (cbD xs xn xg rl.length nl.length gl.length)
   have ON : Hid (∀ u ∈ xn, u.oneCell' = true) := Lib.hid ((kn2 _ _ hS.ro.1).one (kn _ _ hS.ro.1).1)
   have OG : Hid (∀ u ∈ xg, u.oneCell' = true) := Lib.hid ((kg2 _ _ hS.ro.1).one (kg _ _ hS.ro.1).1)
   have hb0 : Hid (rl.length + nl.length <= 1000000000000 /\ (rl.length + nl.length) * 48 <= 140737488355328 /\ rl.length + nl.length + gl.length <= 1000000000000 /\ (rl.length + nl.length + gl.length) * 48 <= 140737488355328) := Lib.hid (by omega)
   clear hS
   refine ER (AR w0 (.box g1 31 #[.int .i64 R, lp, s, .slice Ar rl.length cr, .slice An nl.length cn, .slice Ag gl.length cg] :: F) (fun D w => K1 D w /\ Aj w D xs CS) (cbD xs xn xg rl.length nl.length gl.length)) (AN cbK) (⟨[sv], []⟩) hRr hRt [.i sv, .q g1 4, .i (.slice An nl.length cn), .s (fun v w => G6 w.2 1 v) fun v w w' h hb => h.mono hb.2.1, .q g1 5, .i (.slice Ag gl.length cg), .s (fun v w => G6 w.2 2 v) fun v w w' h hb => h.mono hb.2.1, .s (fun v w => G6 w.2 2 v) fun v w w' h hb => h.mono hb.2.1] ?_ ⟨uM, uF, uC (h := fun w hW hN => ((hW.1 hJ0).1.holds (.box g1 31 #[.int .i64 R, lp, s, .slice Ar rl.length cr, .slice An nl.length cn, .slice Ag gl.length cg]) (List.mem_append_right _ (List.mem_cons_self ..))).2.cell 4), ?_, uF, uC (h := fun w hW hN => ((hW.1 hJ0).1.holds (.box g1 31 #[.int .i64 R, lp, s, .slice Ar rl.length cr, .slice An nl.length cn, .slice Ag gl.length cg]) (List.mem_append_right _ (List.mem_cons_self ..))).2.cell 5), ?_, uA, trivial⟩ ?_
   ·first | assumption | (intro i; (try dsimp only); split <;> first | trivial | assumption | (left; assumption))
   ·refine uG fun b__ w hW hN hE K hK => ?_
    have e19 := hE 19
    have e21 := hE 21
    exact BK (kd := cbK) (by decide) rfl rfl Fn hN (by rw [e19]; exact hA0.mono hW.2.1) (hW.1 hJ0) (by rw [e21]; exact kn _ _ (hW.1 hJ0).1.ro.1) ON.out rfl rfl (by exact hb0.out.1) (by exact hb0.out.2.1) (show 0 + 1 < 3 by decide) hK
   ·refine uG fun b__ w hW hN hE K hK => ?_
    have e22 := hE 22
    have e24 := hE 24
    exact BK (kd := cbK) (by decide) rfl rfl Fn hN e22 (hW.1 hJ0) (by rw [e24]; exact kg _ _ (hW.1 hJ0).1.ro.1) OG.out rfl rfl (by exact hb0.out.2.2.1) (by exact hb0.out.2.2.2) (show 1 + 1 < 3 by decide) hK
   ·intro vs wz hW hT
    obtain ⟨e19, e20, e21, e22, e23, e24, e25, e2, -⟩ := hT
    have bx : (fun _ : Nat => True) 0 := trivial
    simp only [Aw, Act.put, zz, ze]
    have hJ := (hW.1 hJ0).last e2 rfl
    simp only [cbD] at hJ
    have hS := (hJ.freeze 0 (by decide) rfl).sub (F' := F) (List.sublist_cons_self _ _)
    generalize vs 2 = v2 at *
    generalize wz.1 = wf at *
    clear hW hJ0 hRr hRt hN0 hA0 hJ e2
    go_wp2_with fail
    go_ret
    have e : (Ac.cubes ⟨R, lk, st, rl, nl, gl⟩) = CS ++ nl ++ gl := by rw [HCS.out]; rfl
    have el : (CS ++ nl ++ gl).length = rl.length + nl.length + gl.length := by rw [List.length_append, List.length_append, HLC.out]
    refine ⟨_, rfl, hS.mono (KS.out.and AL) fun D w h => ⟨k0 _ _ h.1.1, ?_⟩⟩
    rw [e]
    refine ⟨_, by rw [el]; exact h.2, Aj.append ?_ (Aj.append ?_ h.1.2 (kn2 _ _ h.1.1)) (kg2 _ _ h.1.1)⟩
    ·have := (kn _ _ h.1.1).1
     rw [List.length_append, List.length_append, HLC.out]; omega
    ·rw [HLC.out]; exact hxl
end
section
open Go.RowKit
attribute [local go_sem ↓] Go.wp_at_zero Go.wp_at_succ
set_option maxRecDepth 20000
set_option exponentiation.threshold 5000
theorem Hx (q : Addr) (w : World) : (binOp .neq 24 (.pointer (some q)) (.pointer none)).run Tryz.prog w = .ok (.bool true) w := rfl
theorem run_nnil (w : World) : (binOp .neq 24 (.pointer none) (.pointer none)).run Tryz.prog w = .ok (.bool false) w := rfl
noncomputable def goodB (p : Ac) (N : Nat) : Bool := match p.links with
 | none => false
 | some L => !(p.never.any fun z => Bz z (closM L N))
noncomputable def reachB (p : Ac) (N : Nat) : Bool := match p.links with
 | none => false
 | some L => p.goal.any fun z => Bz z (closM L N)
set_option maxHeartbeats 1000000 in
theorem Ie {w0 : World} {D E : Nat -> Prop} {v u : Value} {p : Ac} {N : Nat} (hp : Bg w0 D v p) (hP : p.Ok) (hT : BM w0) (hu : A5 w0 E u N) : Calls Tryz.prog 27 #[v, u] w0 (AE (fun r _ => r = .bool (goodB p N)) w0) := by
 obtain ⟨R, lk, st, rl, nl, gl⟩ := p
 obtain ⟨lp, s, rv, nv, gv, rfl, h1, h2, h3, h4, h5⟩ := hp
 dsimp only at h1 h2 h3 h4 h5
 obtain ⟨Cs, ns, cs, rfl⟩ := h2.shape
 obtain ⟨Ar, cr, rfl, _, _⟩ := h3.shape
 obtain ⟨An, cn, rfl, _, _⟩ := h4.shape
 obtain ⟨Ag, cg, rfl, _, _⟩ := h5.shape
 obtain ⟨C, e, lw, rfl, -⟩ := hu.parts
 obtain ⟨n, hn⟩ : ∃ n, n = lw.length := ⟨_, rfl⟩
 rw [<- hn] at hu ⊢
 clear hn
 obtain ⟨K, kh, ks, kr, kn, kg, kt, ku, hS⟩ : ∃ K : (Nat -> Prop) -> World -> Prop, (∀ D w, K D w -> Gs w D lp lk) /\ (∀ D w, K D w -> A5 w D (.agg #[.slice Cs ns cs]) st) /\ (∀ D w, K D w -> Bt w D (.slice Ar rl.length cr) rl) /\ (∀ D w, K D w -> Az w D (.slice An nl.length cn) nl) /\ (∀ D w, K D w -> Az w D (.slice Ag gl.length cg) gl) /\ (∀ D w, K D w -> BM w) /\ (∀ D w, K D w -> A5 w D (.agg #[.slice C n e]) N) /\ St w0 w0 [] K :=
  ⟨fun D w => ((Gs w D lp lk /\ A5 w D (.agg #[.slice Cs ns cs]) st) /\ Bt w D (.slice Ar rl.length cr) rl /\ Az w D (.slice An nl.length cn) nl /\ Az w D (.slice Ag gl.length cg) gl) /\ (BM w /\ D 0) /\ A5 w D (.agg #[.slice C n e]) N, fun _ _ h => h.1.1.1, fun _ _ h => h.1.1.2, fun _ _ h => h.1.2.1, fun _ _ h => h.1.2.2.1, fun _ _ h => h.1.2.2.2, fun _ _ h => h.2.1.1, fun _ _ h => h.2.2,
   St.start (D := fun _ => True) (((BT.and A6).and (B3.and (AL.and AL))).and (CK.and A6)) ⟨⟨⟨BT D _ w0 w0 h1 (Nat.le_refl _) (fun _ _ _ _ h => h) fun _ _ _ _ => trivial, h2.imp fun _ _ _ => trivial⟩, B3 D _ w0 w0 h3 (Nat.le_refl _) (fun _ _ _ _ h => h) fun _ _ _ _ => trivial, h4.imp fun _ _ _ => trivial, h5.imp fun _ _ _ => trivial⟩, ⟨hT, trivial⟩, hu.imp fun _ _ _ => trivial⟩⟩
 clear h1 h2 h3 h4 h5 hu hT
 have HL := Lib.hid hP.links
 clear hP
 cases lk with
 | none =>
  obtain rfl := kh _ _ hS.ro
  go_enter Tryz.func27, Tryz.ntmps27
  go_wp2_with (first
   | ((with_reducible refine qA 2 ?_); refine At hS rfl _ _ rfl (.agg #[.int .i64 R, .pointer none, .slice Cs ns cs, .slice Ar rl.length cr, .slice An nl.length cn, .slice Ag gl.length cg]) _ rfl rfl ?_; clear hS; intro g2 w_ hS; (try simp only [Act.put, Act.eval, zz, Value.cells] at hS))
   | ((with_reducible refine qA 3 ?_); refine At hS rfl _ _ rfl (.agg #[.slice C n e]) _ rfl rfl ?_; clear hS; intro g3 w_ hS; (try simp only [Act.put, Act.eval, zz, Value.cells] at hS)))
  refine C8 [.q g2 1, .i (.pointer none), .b false, .b false, .t, .t, .t, .t, .t, .t, .t, .t, .b false, .b false] ⟨uF, uC (h := fun w hW hN => (hS.ext hW).shut 1 rfl 1 rfl), uB (h := fun w hW hN => run_nnil _), uM, uW, uW, uW, uW, uW, uW, uW, uW, uP, uA, trivial⟩ ?_
  ·intro vs wz hW hT
   obtain ⟨e5, e6, e7, e8, e17, e4, -⟩ := hT
   simp only [Aw, Act.put, zz, ze]
   rw [e4]
   go_wp2_with fail
   go_ret
   exact AE.mk rfl (BX hS.below hW)
 | some L =>
  have hH := Lib.hid (HL.out L rfl).1
  obtain ⟨q, o, rfl, -⟩ := id (kh _ _ hS.ro)
  obtain ⟨b, hb⟩ : ∃ b, b = nl.any fun z => Bz z (closM L N) := ⟨_, rfl⟩
  have HB := Lib.hid hb
  have HR : Hid (goodB ⟨R, some L, st, rl, nl, gl⟩ N = !b) := Lib.hid (by rw [hb]; rfl)
  clear hb HL
  go_enter Tryz.func27, Tryz.ntmps27
  go_wp2_with (first
   | ((with_reducible refine qA 2 ?_); refine At hS rfl _ _ rfl (.agg #[.int .i64 R, .pointer (some ⟨q, 0, none⟩), .slice Cs ns cs, .slice Ar rl.length cr, .slice An nl.length cn, .slice Ag gl.length cg]) _ rfl rfl ?_; clear hS; intro g2 w_ hS; (try simp only [Act.put, Act.eval, zz, Value.cells] at hS))
   | ((with_reducible refine qA 3 ?_); refine At hS rfl _ _ rfl (.agg #[.slice C n e]) _ rfl rfl ?_; clear hS; intro g3 w_ hS; (try simp only [Act.put, Act.eval, zz, Value.cells] at hS)))
  refine C8 [.q g2 1, .q q 0, .b true, .b true, .q g2 4, .i (.slice An nl.length cn), .q g2 1, .q q 0, .i (.agg #[.slice C n e]), .s (fun v w => A5 w (fun _ => True) v (closM L N)) fun v w w' h hb => h.ext hb, .i (.bool b), .i (.bool (!b)), .i (.bool (!b)), .i (.bool (!b))] ⟨uF, uC (h := fun w hW hN => (hS.ext hW).shut 1 rfl 1 rfl), uB (h := fun w hW hN => Hx _ _), uM, uF, uC (h := fun w hW hN => (hS.ext hW).shut 1 rfl 4 rfl), uF, uC (h := fun w hW hN => (hS.ext hW).shut 1 rfl 1 rfl), uR (h := fun w hW hN => (hS.ext hW).box 0 rfl), ?_, ?_, uU, uP, uA, trivial⟩ ?_
  ·refine uT fun b__ w hW hE K hK => ?_
   have e12 := hE 12
   have e13 := hE 13
   exact AF rfl (by kernel_rfl) (by simp only [List.map_cons, List.map_nil, e12, e13]) (EJ (kh _ _ (hS.ext hW).ro) (kt _ _ (hS.ext hW).ro) hH.out (ku _ _ (hS.ext hW).ro)) fun v w' h hb => hK v w' (h.imp fun _ _ _ => trivial) hb
  ·refine uT fun b__ w hW hE K hK => ?_
   have e10 := hE 10
   have e14 := hE 14
   exact AF rfl (by kernel_rfl) (by simp only [List.map_cons, List.map_nil, e10]) (some_any (kn _ _ (hS.ext hW).ro) e14) fun v w' h hb => hK v w' (h.trans (by rw [HB.out])) hb
  ·intro vs wz hW hT
   obtain ⟨e5, e6, e7, e8, e9, e10, e11, e12, e13, e14, e15, e16, e17, e4, -⟩ := hT
   have bx : (fun _ : Nat => True) 0 := trivial
   simp only [Aw, Act.put, zz, ze]
   rw [e4]
   go_wp2_with fail
   go_ret
   exact AE.mk (by rw [HR.out]; rfl) (BX hS.below hW)
set_option maxHeartbeats 1000000 in
theorem Ei {w0 : World} {D E : Nat -> Prop} {v u : Value} {p : Ac} {N : Nat} (hp : Bg w0 D v p) (hP : p.Ok) (hT : BM w0) (hu : A5 w0 E u N) : Calls Tryz.prog 19 #[v, u] w0 (AE (fun r _ => r = .bool (reachB p N)) w0) := by
 obtain ⟨R, lk, st, rl, nl, gl⟩ := p
 obtain ⟨lp, s, rv, nv, gv, rfl, h1, h2, h3, h4, h5⟩ := hp
 dsimp only at h1 h2 h3 h4 h5
 obtain ⟨Cs, ns, cs, rfl⟩ := h2.shape
 obtain ⟨Ar, cr, rfl, _, _⟩ := h3.shape
 obtain ⟨An, cn, rfl, _, _⟩ := h4.shape
 obtain ⟨Ag, cg, rfl, _, _⟩ := h5.shape
 obtain ⟨C, e, lw, rfl, -⟩ := hu.parts
 obtain ⟨n, hn⟩ : ∃ n, n = lw.length := ⟨_, rfl⟩
 rw [<- hn] at hu ⊢
 clear hn
 obtain ⟨K, kh, ks, kr, kn, kg, kt, ku, hS⟩ : ∃ K : (Nat -> Prop) -> World -> Prop, (∀ D w, K D w -> Gs w D lp lk) /\ (∀ D w, K D w -> A5 w D (.agg #[.slice Cs ns cs]) st) /\ (∀ D w, K D w -> Bt w D (.slice Ar rl.length cr) rl) /\ (∀ D w, K D w -> Az w D (.slice An nl.length cn) nl) /\ (∀ D w, K D w -> Az w D (.slice Ag gl.length cg) gl) /\ (∀ D w, K D w -> BM w) /\ (∀ D w, K D w -> A5 w D (.agg #[.slice C n e]) N) /\ St w0 w0 [] K :=
  ⟨fun D w => ((Gs w D lp lk /\ A5 w D (.agg #[.slice Cs ns cs]) st) /\ Bt w D (.slice Ar rl.length cr) rl /\ Az w D (.slice An nl.length cn) nl /\ Az w D (.slice Ag gl.length cg) gl) /\ (BM w /\ D 0) /\ A5 w D (.agg #[.slice C n e]) N, fun _ _ h => h.1.1.1, fun _ _ h => h.1.1.2, fun _ _ h => h.1.2.1, fun _ _ h => h.1.2.2.1, fun _ _ h => h.1.2.2.2, fun _ _ h => h.2.1.1, fun _ _ h => h.2.2,
   St.start (D := fun _ => True) (((BT.and A6).and (B3.and (AL.and AL))).and (CK.and A6)) ⟨⟨⟨BT D _ w0 w0 h1 (Nat.le_refl _) (fun _ _ _ _ h => h) fun _ _ _ _ => trivial, h2.imp fun _ _ _ => trivial⟩, B3 D _ w0 w0 h3 (Nat.le_refl _) (fun _ _ _ _ h => h) fun _ _ _ _ => trivial, h4.imp fun _ _ _ => trivial, h5.imp fun _ _ _ => trivial⟩, ⟨hT, trivial⟩, hu.imp fun _ _ _ => trivial⟩⟩
 clear h1 h2 h3 h4 h5 hu hT
 have HL := Lib.hid hP.links
 clear hP
 cases lk with
 | none =>
  obtain rfl := kh _ _ hS.ro
  go_enter Tryz.func19, Tryz.ntmps19
  go_wp2_with (first
   | ((with_reducible refine qA 2 ?_); refine At hS rfl _ _ rfl (.agg #[.int .i64 R, .pointer none, .slice Cs ns cs, .slice Ar rl.length cr, .slice An nl.length cn, .slice Ag gl.length cg]) _ rfl rfl ?_; clear hS; intro g2 w_ hS; (try simp only [Act.put, Act.eval, zz, Value.cells] at hS))
   | ((with_reducible refine qA 3 ?_); refine At hS rfl _ _ rfl (.agg #[.slice C n e]) _ rfl rfl ?_; clear hS; intro g3 w_ hS; (try simp only [Act.put, Act.eval, zz, Value.cells] at hS)))
  refine C8 [.q g2 1, .i (.pointer none), .b false, .b false, .t, .t, .t, .t, .t, .t, .t, .b false, .b false] ⟨uF, uC (h := fun w hW hN => (hS.ext hW).shut 1 rfl 1 rfl), uB (h := fun w hW hN => run_nnil _), uM, uW, uW, uW, uW, uW, uW, uW, uP, uA, trivial⟩ ?_
  ·intro vs wz hW hT
   obtain ⟨e5, e6, e7, e8, e16, e4, -⟩ := hT
   simp only [Aw, Act.put, zz, ze]
   rw [e4]
   go_wp2_with fail
   go_ret
   exact AE.mk rfl (BX hS.below hW)
 | some L =>
  have hH := Lib.hid (HL.out L rfl).1
  obtain ⟨q, o, rfl, -⟩ := id (kh _ _ hS.ro)
  obtain ⟨b, hb⟩ : ∃ b, b = gl.any fun z => Bz z (closM L N) := ⟨_, rfl⟩
  have HB := Lib.hid hb
  have HR : Hid (reachB ⟨R, some L, st, rl, nl, gl⟩ N = b) := Lib.hid (by rw [hb]; rfl)
  clear hb HL
  go_enter Tryz.func19, Tryz.ntmps19
  go_wp2_with (first
   | ((with_reducible refine qA 2 ?_); refine At hS rfl _ _ rfl (.agg #[.int .i64 R, .pointer (some ⟨q, 0, none⟩), .slice Cs ns cs, .slice Ar rl.length cr, .slice An nl.length cn, .slice Ag gl.length cg]) _ rfl rfl ?_; clear hS; intro g2 w_ hS; (try simp only [Act.put, Act.eval, zz, Value.cells] at hS))
   | ((with_reducible refine qA 3 ?_); refine At hS rfl _ _ rfl (.agg #[.slice C n e]) _ rfl rfl ?_; clear hS; intro g3 w_ hS; (try simp only [Act.put, Act.eval, zz, Value.cells] at hS)))
  refine C8 [.q g2 1, .q q 0, .b true, .b true, .q g2 5, .i (.slice Ag gl.length cg), .q g2 1, .q q 0, .i (.agg #[.slice C n e]), .s (fun v w => A5 w (fun _ => True) v (closM L N)) fun v w w' h hb => h.ext hb, .i (.bool b), .i (.bool b), .i (.bool b)] ⟨uF, uC (h := fun w hW hN => (hS.ext hW).shut 1 rfl 1 rfl), uB (h := fun w hW hN => Hx _ _), uM, uF, uC (h := fun w hW hN => (hS.ext hW).shut 1 rfl 5 rfl), uF, uC (h := fun w hW hN => (hS.ext hW).shut 1 rfl 1 rfl), uR (h := fun w hW hN => (hS.ext hW).box 0 rfl), ?_, ?_, uP, uA, trivial⟩ ?_
  ·refine uT fun b__ w hW hE K hK => ?_
   have e12 := hE 12
   have e13 := hE 13
   exact AF rfl (by kernel_rfl) (by simp only [List.map_cons, List.map_nil, e12, e13]) (EJ (kh _ _ (hS.ext hW).ro) (kt _ _ (hS.ext hW).ro) hH.out (ku _ _ (hS.ext hW).ro)) fun v w' h hb => hK v w' (h.imp fun _ _ _ => trivial) hb
  ·refine uT fun b__ w hW hE K hK => ?_
   have e10 := hE 10
   have e14 := hE 14
   exact AF rfl (by kernel_rfl) (by simp only [List.map_cons, List.map_nil, e10]) (some_any (kg _ _ (hS.ext hW).ro) e14) fun v w' h hb => hK v w' (h.trans (by rw [HB.out])) hb
  ·intro vs wz hW hT
   obtain ⟨e5, e6, e7, e8, e9, e10, e11, e12, e13, e14, e15, e16, e4, -⟩ := hT
   have bx : (fun _ : Nat => True) 0 := trivial
   simp only [Aw, Act.put, zz, ze]
   rw [e4]
   go_wp2_with fail
   go_ret
   exact AE.mk (by rw [HR.out]; rfl) (BX hS.below hW)
end
section
open Go.RowKit
attribute [local go_sem ↓] Go.wp_at_zero Go.wp_at_succ
set_option maxRecDepth 20000
set_option exponentiation.threshold 5000
def revB (z : B7) : Bool := !z.revoke || (z.yes == 0 && z.no == 0)
theorem chk1_any {w : World} {D : Nat -> Prop} {x : Value} {z : B7} (hx : Fi w D x z) : Calls Tryz.prog 74 #[x] w (AE (fun r _ => r = .bool (revB z)) w) := by
 obtain ⟨a, b, rfl, ha, hb⟩ := hx
 obtain ⟨rv, y, n, t, o⟩ := z
 dsimp only at ha hb
 obtain ⟨A, m, c, rfl⟩ := ha.shape
 obtain ⟨B, k, d, rfl⟩ := hb.shape
 obtain ⟨K, ka, kb, hS⟩ : ∃ K : (Nat -> Prop) -> World -> Prop, (∀ D w, K D w -> A5 w D (.agg #[.slice A m c]) y) /\ (∀ D w, K D w -> A5 w D (.agg #[.slice B k d]) n) /\ St w w [] K :=
  ⟨fun D w => A5 w D (.agg #[.slice A m c]) y /\ A5 w D (.agg #[.slice B k d]) n, fun _ _ h => h.1, fun _ _ h => h.2, St.start (D := fun _ => True) (A6.and A6) ⟨ha.imp fun _ _ _ => trivial, hb.imp fun _ _ _ => trivial⟩⟩
 clear ha hb
 obtain ⟨b1, hb1⟩ : ∃ b, b = (y == 0) := ⟨_, rfl⟩
 obtain ⟨b2, hb2⟩ : ∃ b, b = (n == 0) := ⟨_, rfl⟩
 have HR : Hid (revB ⟨rv, y, n, t, o⟩ = (!rv || (b1 && b2))) := Lib.hid (by rw [hb1, hb2]; rfl)
 have HB1 := Lib.hid hb1
 have HB2 := Lib.hid hb2
 clear hb1 hb2
 go_enter Tryz.func74, Tryz.ntmps74
 cases rv <;> cases b1
 all_goals
  go_wp2_with (first
   | ((with_reducible refine qA 1 ?_); refine At hS rfl _ _ rfl (.agg #[.bool _, .slice A m c, .slice B k d, .int .i64 t, .int .i64 o]) _ rfl rfl ?_; clear hS; intro g1 w_ hS; (try simp only [Act.put, Act.eval, zz, Value.cells] at hS))
   | ((with_reducible refine qk 27 ?_); first | (refine AB hS 0 rfl _ _ rfl _ _ rfl _ _ rfl _ (by first | rfl | assumption) Tryz.underlying27 rfl (by kernel_rfl) ?_) | (refine AB hS 1 rfl _ _ rfl _ _ rfl _ _ rfl _ (by first | rfl | assumption) Tryz.underlying27 rfl (by kernel_rfl) ?_) | (refine AB hS 2 rfl _ _ rfl _ _ rfl _ _ rfl _ (by first | rfl | assumption) Tryz.underlying27 rfl (by kernel_rfl) ?_) | (refine AB hS 3 rfl _ _ rfl _ _ rfl _ _ rfl _ (by first | rfl | assumption) Tryz.underlying27 rfl (by kernel_rfl) ?_) | (refine AB hS 4 rfl _ _ rfl _ _ rfl _ _ rfl _ (by first | rfl | assumption) Tryz.underlying27 rfl (by kernel_rfl) ?_) | (refine AB hS 5 rfl _ _ rfl _ _ rfl _ _ rfl _ (by first | rfl | assumption) Tryz.underlying27 rfl (by kernel_rfl) ?_))
   | ((with_reducible refine qK ?_); refine qC hS ?_)
   | (go_at_call 75; first
      | ((with_reducible show Calls _ _ #[.agg #[.slice A m c]] _ _); refine (EK _ y _ _ (ka _ _ hS.ro)).mono ?_; rw [<- HB1.out]; rintro r_ w_ ⟨_, rfl, rfl, hb_⟩; replace hS := hS.ext hb_; clear hb_)
      | ((with_reducible show Calls _ _ #[.agg #[.slice B k d]] _ _); refine (EK _ n _ _ (kb _ _ hS.ro)).mono ?_; rw [<- HB2.out]; rintro r_ w_ ⟨_, rfl, rfl, hb_⟩; replace hS := hS.ext hb_; clear hb_)))
  go_ret
  exact AE.mk (by rw [HR.out]; rfl) hS.below
theorem kn1_any {w : World} {E : Nat -> Prop} {x sv : Value} {z : Nat × Nat} {N g : Nat} (hx : x = .agg #[.int .i64 (z.1 : Nat), .int .i64 (z.2 : Nat)]) (hb : C1 w E g #[sv]) (hs : A5 w E (.agg #[sv]) N) : Calls Tryz.prog 114 #[x, .pointer (some ⟨g, 0, none⟩)] w (AE (fun r _ => r = .bool (BS N z.1 && BS N z.2)) w) := by
 subst hx
 obtain ⟨C, l, e, rfl⟩ := hs.shape
 obtain ⟨K, kb, kc, hS⟩ : ∃ K : (Nat -> Prop) -> World -> Prop, (∀ D w, K D w -> C1 w D g #[.slice C l e]) /\ (∀ D w, K D w -> A5 w D (.agg #[.slice C l e]) N) /\ St w w [] K :=
  ⟨fun D w => C1 w D g #[.slice C l e] /\ A5 w D (.agg #[.slice C l e]) N, fun _ _ h => h.1, fun _ _ h => h.2, St.start (D := fun _ => True) (AU.and A6) ⟨AU E _ w w hb (Nat.le_refl _) (fun _ _ _ _ h => h) fun _ _ _ _ => trivial, hs.imp fun _ _ _ => trivial⟩⟩
 clear hb hs
 obtain ⟨za, zb⟩ := z
 dsimp only
 obtain ⟨b1, hb1⟩ : ∃ b, b = BS N za := ⟨_, rfl⟩
 rw [<- hb1]
 have HB1 := Lib.hid hb1
 obtain ⟨b2, hb2⟩ : ∃ b, b = BS N zb := ⟨_, rfl⟩
 rw [<- hb2]
 have HB2 := Lib.hid hb2
 clear hb1 hb2
 go_enter Tryz.func114, Tryz.ntmps114
 cases b1
 ·go_wp2_with (first
   | ((with_reducible refine qA 2 ?_); refine At hS rfl _ _ rfl (.agg #[.int .i64 (za : Nat), .int .i64 (zb : Nat)]) _ rfl rfl ?_; clear hS; intro g2 w_ hS; (try simp only [Act.put, Act.eval, zz, Value.cells] at hS))
   | ((with_reducible refine qk 27 ?_); refine BigFrame.wpList_want rfl fun _ hK => Bh (cs := [.slice C l e]) rfl rfl (rng1 ((kb _ _ hS.ro).cell 0 rfl)) Tryz.underlying27 rfl (by kernel_rfl) (hK _ _ ?_))
   | ((with_reducible refine qK ?_); refine qC hS ?_)
   | (go_at_call 63; refine (Cv _ N za _ _ (kc _ _ hS.ro)).mono ?_; rw [<- HB1.out]; rintro r_ w_ ⟨_, rfl, rfl, hb_⟩; replace hS := hS.ext hb_; clear hb_))
  go_ret
  exact AE.mk rfl hS.below
 ·go_wp2_with (first
   | ((with_reducible refine qA 2 ?_); refine At hS rfl _ _ rfl (.agg #[.int .i64 (za : Nat), .int .i64 (zb : Nat)]) _ rfl rfl ?_; clear hS; intro g2 w_ hS; (try simp only [Act.put, Act.eval, zz, Value.cells] at hS))
   | ((with_reducible refine qk 27 ?_); refine BigFrame.wpList_want rfl fun _ hK => Bh (cs := [.slice C l e]) rfl rfl (rng1 ((kb _ _ hS.ro).cell 0 rfl)) Tryz.underlying27 rfl (by kernel_rfl) (hK _ _ ?_))
   | ((with_reducible refine qK ?_); refine qC hS ?_))
  refine (Cv _ N za _ _ (kc _ _ hS.ro)).mono ?_
  rw [<- HB1.out]
  rintro r_ w_ ⟨_, rfl, rfl, hb_⟩
  replace hS := hS.ext hb_
  clear hb_
  go_wp2_with (first
   | ((with_reducible refine qk 27 ?_); refine BigFrame.wpList_want rfl fun _ hK => Bh (cs := [.slice C l e]) rfl rfl (rng1 ((kb _ _ hS.ro).cell 0 rfl)) Tryz.underlying27 rfl (by kernel_rfl) (hK _ _ ?_))
   | ((with_reducible refine qK ?_); refine qC hS ?_))
  refine (Cv _ N zb _ _ (kc _ _ hS.ro)).mono ?_
  rw [<- HB2.out]
  rintro r_ w_ ⟨_, rfl, rfl, hb_⟩
  replace hS := hS.ext hb_
  clear hb_
  go_wp2_with fail
  go_ret
  exact AE.mk rfl hS.below
theorem kn2_any {w : World} {D E : Nat -> Prop} {x sv : Value} {z : B7} {N g : Nat} (hx : Fi w D x z) (hb : C1 w E g #[sv]) (hs : A5 w E (.agg #[sv]) N) : Calls Tryz.prog 115 #[x, .pointer (some ⟨g, 0, none⟩)] w (AE (fun r _ => r = .bool (BS N z.target)) w) := by
 obtain ⟨a, b, rfl, ha, hb1⟩ := hx
 obtain ⟨C, l, e, rfl⟩ := hs.shape
 obtain ⟨A, m, c, rfl⟩ := ha.shape
 obtain ⟨B, k, d, rfl⟩ := hb1.shape
 clear ha hb1
 obtain ⟨K, kb, kc, hS⟩ : ∃ K : (Nat -> Prop) -> World -> Prop, (∀ D w, K D w -> C1 w D g #[.slice C l e]) /\ (∀ D w, K D w -> A5 w D (.agg #[.slice C l e]) N) /\ St w w [] K :=
  ⟨fun D w => C1 w D g #[.slice C l e] /\ A5 w D (.agg #[.slice C l e]) N, fun _ _ h => h.1, fun _ _ h => h.2, St.start (D := fun _ => True) (AU.and A6) ⟨AU E _ w w hb (Nat.le_refl _) (fun _ _ _ _ h => h) fun _ _ _ _ => trivial, hs.imp fun _ _ _ => trivial⟩⟩
 clear hb hs
 go_enter Tryz.func115, Tryz.ntmps115
 go_wp2_with (first
  | ((with_reducible refine qA 2 ?_); refine At hS rfl _ _ rfl (.agg #[.bool z.revoke, .slice A m c, .slice B k d, .int .i64 z.target, .int .i64 z.origin]) _ rfl rfl ?_; clear hS; intro g2 w_ hS; (try simp only [Act.put, Act.eval, zz, Value.cells] at hS))
  | ((with_reducible refine qk 27 ?_); refine BigFrame.wpList_want rfl fun _ hK => Bh (cs := [.slice C l e]) rfl rfl (rng1 ((kb _ _ hS.ro).cell 0 rfl)) Tryz.underlying27 rfl (by kernel_rfl) (hK _ _ ?_))
  | ((with_reducible refine qK ?_); refine qC hS ?_)
  | (go_at_call 63; refine (Cv _ N z.target _ _ (kc _ _ hS.ro)).mono ?_; rintro r_ w_ ⟨_, rfl, rfl, hb_⟩; replace hS := hS.ext hb_; clear hb_))
 go_ret
 exact AE.mk rfl hS.below
def GA (N : Nat) (z : Nat × Nat) : Bool := (z.1 ||| z.2) &&& N == (z.1 ||| z.2)
theorem kn3_any {w : World} {D E : Nat -> Prop} {x sv : Value} {z : Nat × Nat} {N g : Nat} (hx : Be w D x z) (hb : C1 w E g #[sv]) (hs : A5 w E (.agg #[sv]) N) : Calls Tryz.prog 117 #[x, .pointer (some ⟨g, 0, none⟩)] w (AE (fun r _ => r = .bool (GA N z)) w) := by
 obtain ⟨a, b, rfl, ha, hb1⟩ := hx
 obtain ⟨y, n⟩ := z
 dsimp only at ha hb1
 obtain ⟨A, m, c, rfl⟩ := ha.shape
 obtain ⟨B, k, d, rfl⟩ := hb1.shape
 obtain ⟨C, l, e, rfl⟩ := hs.shape
 obtain ⟨K, ka, kn, kb, kc, hS⟩ : ∃ K : (Nat -> Prop) -> World -> Prop, (∀ D w, K D w -> A5 w D (.agg #[.slice A m c]) y) /\ (∀ D w, K D w -> A5 w D (.agg #[.slice B k d]) n) /\ (∀ D w, K D w -> C1 w D g #[.slice C l e]) /\ (∀ D w, K D w -> A5 w D (.agg #[.slice C l e]) N) /\ St w w [] K :=
  ⟨fun D w => (A5 w D (.agg #[.slice A m c]) y /\ A5 w D (.agg #[.slice B k d]) n) /\ C1 w D g #[.slice C l e] /\ A5 w D (.agg #[.slice C l e]) N, fun _ _ h => h.1.1, fun _ _ h => h.1.2, fun _ _ h => h.2.1, fun _ _ h => h.2.2, St.start (D := fun _ => True) ((A6.and A6).and (AU.and A6)) ⟨⟨ha.imp fun _ _ _ => trivial, hb1.imp fun _ _ _ => trivial⟩, AU E _ w w hb (Nat.le_refl _) (fun _ _ _ _ h => h) fun _ _ _ _ => trivial, hs.imp fun _ _ _ => trivial⟩⟩
 clear ha hb1 hb hs
 have HR := Lib.hid (show GA N (y, n) = ((y ||| n) &&& N == (y ||| n)) from rfl)
 generalize GA N (y, n) = R at *
 go_enter Tryz.func117, Tryz.ntmps117
 go_wp2_with (first
  | ((with_reducible refine qA 2 ?_); refine At hS rfl _ _ rfl (.agg #[.slice A m c, .slice B k d]) _ rfl rfl ?_; clear hS; intro g2 w_ hS; (try simp only [Act.put, Act.eval, zz, Value.cells] at hS)))
 refine C8 [.q g2 0, .i (.agg #[.slice A m c]), .q g2 1, .i (.agg #[.slice B k d]), .s (fun v w => A5 w (fun _ => True) v (y ||| n)) fun v w w' h hb => h.ext hb, .i (.agg #[.slice C l e]), .i (.bool R), .i (.bool R)] ⟨uF, ?_, uF, ?_, ?_, uD (h := fun w hW hN => rng1 ((kb _ _ (hS.ext hW).ro).cell 0 rfl)), ?_, uA, trivial⟩ ?_
 ·refine uT fun b__ w hW hE K hK => ?_
  have e4 := hE 4
  exact I6 rfl e4 ((hS.ext hW).box 0 rfl) rfl Tryz.underlying27 (by kernel_rfl) (by kernel_rfl) (hK _ _ rfl (Below.refl _ _))
 ·refine uT fun b__ w hW hE K hK => ?_
  have e6 := hE 6
  exact I6 rfl e6 ((hS.ext hW).box 0 rfl) rfl Tryz.underlying27 (by kernel_rfl) (by kernel_rfl) (hK _ _ rfl (Below.refl _ _))
 ·refine uT fun b__ w hW hE K hK => ?_
  have e5 := hE 5
  have e7 := hE 7
  exact AF rfl (by kernel_rfl) (by simp only [List.map_cons, List.map_nil, e5, e7]) (or_any _ _ _ _ _ _ _ (ka _ _ (hS.ext hW).ro) (kn _ _ (hS.ext hW).ro)) fun v w' h hb => hK v w' (h.imp fun _ _ _ => trivial) hb
 ·refine uT fun b__ w hW hE K hK => ?_
  have e8 := hE 8
  have e9 := hE 9
  exact AF rfl (by kernel_rfl) (by simp only [List.map_cons, List.map_nil, e9]) (F6 _ _ _ _ _ _ _ e8 (kc _ _ (hS.ext hW).ro)) fun v w' h hb => hK v w' (h.trans (by rw [HR.out])) hb
 ·intro vs wz hW hT
  obtain ⟨e4, e5, e6, e7, e8, e9, e10, e3, -⟩ := hT
  have bx : (fun _ : Nat => True) 0 := trivial
  simp only [Aw, Act.put, zz, ze]
  rw [e3]
  go_wp2_with fail
  go_ret
  exact AE.mk rfl (BX hS.below hW)
end
section
open Go.RowKit
attribute [local go_sem ↓] Go.wp_at_zero Go.wp_at_succ
set_option maxRecDepth 20000
set_option exponentiation.threshold 5000
def Dw (r : Nat) : Nat := del (2 ^ (r + 1) - 1) 0
def DU (p : Ac) (L : List (Nat × Nat)) (N : Nat) : Bool :=
 p.start &&& N == p.start && (L.all (fun z => BS N z.1 && BS N z.2) && (p.rules.all (fun z => BS N z.target) && p.cubes.all (GA N)))
set_option maxHeartbeats 2000000 in
theorem known_any {w0 : World} {D : Nat -> Prop} {v : Value} {p : Ac} {L : List (Nat × Nat)} {r : Nat} (hp : Bg w0 D v p) (hP : p.Ok) (hl : p.links = some L) (hr : p.roles = (r : Int)) (h63 : r <= 63) :
  Calls Tryz.prog 76 #[v] w0 (AE (fun x _ => x = .bool (DU p L (Dw r))) w0) := by
 obtain ⟨N, hN⟩ : ∃ N, N = Dw r := ⟨_, rfl⟩
 rw [<- hN]
 have HN := Lib.hid hN
 clear hN
 obtain ⟨R, lk, st, rl, nl, gl⟩ := p
 dsimp only at hl hr
 subst hl hr
 have HL := Lib.hid (hP.links L rfl).2
 have HP := Lib.hid hP
 clear hP
 obtain ⟨lp, s, rv, nv, gv, rfl, h1, h2, h3, h4, h5⟩ := hp
 dsimp only at h1 h2 h3 h4 h5
 obtain ⟨q, o, rfl, -⟩ := id h1
 obtain ⟨Cs, ns, cs, rfl⟩ := h2.shape
 obtain ⟨Ar, cr, rfl, _, _⟩ := h3.shape
 obtain ⟨An, cn, rfl, _, _⟩ := h4.shape
 obtain ⟨Ag, cg, rfl, _, _⟩ := h5.shape
 obtain ⟨K, kp, kh, ks, kr, hS⟩ : ∃ K : (Nat -> Prop) -> World -> Prop, (∀ D w, K D w -> Bg w D (.agg #[.int .i64 (r : Nat), .pointer (some ⟨q, 0, none⟩), .slice Cs ns cs, .slice Ar rl.length cr, .slice An nl.length cn, .slice Ag gl.length cg]) ⟨(r : Int), some L, st, rl, nl, gl⟩) /\ (∀ D w, K D w -> IsH w D (.pointer (some ⟨q, 0, none⟩)) L) /\ (∀ D w, K D w -> A5 w D (.agg #[.slice Cs ns cs]) st) /\ (∀ D w, K D w -> Bt w D (.slice Ar rl.length cr) rl) /\ St w0 w0 [] K :=
  ⟨fun D w => ((Gs w D (.pointer (some ⟨q, 0, none⟩)) (some L) /\ A5 w D (.agg #[.slice Cs ns cs]) st) /\ Bt w D (.slice Ar rl.length cr) rl /\ Az w D (.slice An nl.length cn) nl /\ Az w D (.slice Ag gl.length cg) gl), fun _ _ h => ⟨_, _, _, _, _, rfl, h.1.1, h.1.2, h.2.1, h.2.2.1, h.2.2.2⟩, fun _ _ h => h.1.1, fun _ _ h => h.1.2, fun _ _ h => h.2.1,
   St.start (D := fun _ => True) ((BT.and A6).and (B3.and (AL.and AL))) ⟨⟨BT D _ w0 w0 h1 (Nat.le_refl _) (fun _ _ _ _ h => h) fun _ _ _ _ => trivial, h2.imp fun _ _ _ => trivial⟩, B3 D _ w0 w0 h3 (Nat.le_refl _) (fun _ _ _ _ h => h) fun _ _ _ _ => trivial, h4.imp fun _ _ _ => trivial, h5.imp fun _ _ _ => trivial⟩⟩
 clear h1 h2 h3 h4 h5
 obtain ⟨b1, hb1⟩ : ∃ b, b = (st &&& N == st) := ⟨_, rfl⟩
 obtain ⟨b2, hb2⟩ : ∃ b, b = L.all (fun z => BS N z.1 && BS N z.2) := ⟨_, rfl⟩
 obtain ⟨b3, hb3⟩ : ∃ b, b = rl.all (fun z => BS N z.target) := ⟨_, rfl⟩
 obtain ⟨b4, hb4⟩ : ∃ b, b = (Ac.cubes ⟨(r : Int), some L, st, rl, nl, gl⟩).all (GA N) := ⟨_, rfl⟩
 have HR : Hid (DU ⟨(r : Int), some L, st, rl, nl, gl⟩ L N = (b1 && (b2 && (b3 && b4)))) := Lib.hid (by rw [hb1, hb2, hb3, hb4]; rfl)
 have HB1 := Lib.hid hb1
 have HB2 := Lib.hid hb2
 have HB3 := Lib.hid hb3
 have HB4 := Lib.hid hb4
 clear hb1 hb2 hb3 hb4
 obtain ⟨m, hm⟩ : ∃ m, m = r + 1 := ⟨_, rfl⟩
 have hm1 : ((r : Int) + 1) = (m : Int) := by omega
 have hm2 : m <= 4096 := by omega
 have HM : Hid (del (2 ^ m - 1) 0 = N) := Lib.hid (by rw [HN.out, hm]; rfl)
 clear hm
 go_enter Tryz.func76, Tryz.ntmps76
 go_wp2_with (first
  | ((with_reducible refine qA 1 ?_); refine At hS rfl _ _ rfl (.agg #[.int .i64 (r : Nat), .pointer (some ⟨q, 0, none⟩), .slice Cs ns cs, .slice Ar rl.length cr, .slice An nl.length cn, .slice Ag gl.length cg]) _ rfl rfl ?_; clear hS; intro g1 w_ hS; (try simp only [Act.put, Act.eval, zz, Value.cells] at hS))
  | ((with_reducible refine qK ?_); refine qC hS ?_)
  | (go_at_call 111; refine (below_any m _ hm2).mono ?_; rintro r_ w_ ⟨v1, rfl, h1, hb_⟩; replace hS := hS.ret hb_ A6 h1; clear h1 hb_; obtain ⟨B1, c1, w1, rfl, -⟩ := hS.ro.2.parts)
  | (go_at_call 65; refine (Ea _ _ 0 _ _ hS.ro.2).mono ?_; rw [HM.out]; rintro r_ w_ ⟨v2, rfl, h1, hb_⟩; replace hS := hS.ret2 hb_ A6 h1; clear h1 hb_; obtain ⟨B2, c2, w2, rfl, -⟩ := hS.ro.2.parts; obtain ⟨n2, hn2⟩ : ∃ n, n = w2.length := ⟨_, rfl⟩; rw [<- hn2] at hS ⊢; clear hn2)
  | ((with_reducible refine qA 3 ?_); refine qa hS #[.slice none 0 0] ?_; clear hS; intro g3 w_ hS)
  | (((with_reducible refine qM ?_); (first | refine qS hS ?_ | refine qT hS ?_); clear hS; intro w_ hS; (try simp only [Act.put, Act.eval, zz, Value.cells] at hS)); replace hS := hS.sealB 0 (by simp) rfl)
  | ((with_reducible refine qk 27 ?_); first | (refine AB hS 0 rfl _ _ rfl _ _ rfl _ _ rfl _ (by first | rfl | assumption) Tryz.underlying27 rfl (by kernel_rfl) ?_) | (refine AB hS 1 rfl _ _ rfl _ _ rfl _ _ rfl _ (by first | rfl | assumption) Tryz.underlying27 rfl (by kernel_rfl) ?_) | (refine AB hS 2 rfl _ _ rfl _ _ rfl _ _ rfl _ (by first | rfl | assumption) Tryz.underlying27 rfl (by kernel_rfl) ?_) | (refine AB hS 3 rfl _ _ rfl _ _ rfl _ _ rfl _ (by first | rfl | assumption) Tryz.underlying27 rfl (by kernel_rfl) ?_) | (refine AB hS 4 rfl _ _ rfl _ _ rfl _ _ rfl _ (by first | rfl | assumption) Tryz.underlying27 rfl (by kernel_rfl) ?_) | (refine AB hS 5 rfl _ _ rfl _ _ rfl _ _ rfl _ (by first | rfl | assumption) Tryz.underlying27 rfl (by kernel_rfl) ?_))
  | ((with_reducible refine qA 11 ?_); refine BigFrame.wpList_want rfl fun _ hK => Bh (cs := [.slice B2 n2 c2]) rfl rfl (rng1 (hS.ro.2.cell 0 rfl)) Tryz.underlying27 rfl (by kernel_rfl) (hK _ _ ?_)))
 obtain ⟨K1, kk, k3, kN, hS2⟩ : ∃ K1 : (Nat -> Prop) -> World -> Prop, (∀ D w, K1 D w -> K D w) /\ (∀ D w, K1 D w -> C1 w D g3 #[.slice B2 n2 c2]) /\ (∀ D w, K1 D w -> A5 w D (.agg #[.slice B2 n2 c2]) N) /\ St w0 w_ [.box g1 31 #[.int .i64 (r : Nat), .pointer (some ⟨q, 0, none⟩), .slice Cs ns cs, .slice Ar rl.length cr, .slice An nl.length cn, .slice Ag gl.length cg]] K1 := ⟨_, fun _ _ h => h.1.1.1, fun _ _ h => h.2, fun _ _ h => h.1.2, hS⟩
 clear hS
 have hS := hS2
 clear hS2
 refine (F6 _ _ st N _ _ _ (ks _ _ (kk _ _ hS.ro)) (kN _ _ hS.ro)).mono ?_
 rw [<- HB1.out]
 rintro r_ w5 ⟨_, rfl, rfl, hb_⟩
 replace hS := hS.ext hb_
 clear hb_
 cases b1
 ·go_wp2_with fail
  go_ret
  exact AE.mk (by rw [HR.out]; rfl) hS.below
 go_wp2_with (first
  | ((with_reducible refine qK ?_); refine qC hS ?_)
  | (go_at_call 113; refine (hlinks_any (kh _ _ (kk _ _ hS.ro)) (by have := HL.out; omega)).mono ?_; rintro e w_ ⟨v4, rfl, hs⟩; replace hS := hS.new hs.below (.own v4 159 2 L.length (A7 L)) (hs.own 0 rfl); clear hs; replace hS := hS.freeze 0 (by decide) rfl))
 refine (allp_any v4 L 114 #[] #[.pointer (some ⟨g3, 0, none⟩)] (fun z => BS N z.1 && BS N z.2) (by kernel_rfl) hS (fun D w h => h.2) fun x z w _ ⟨F', h⟩ hx => kn1_any hx (k3 _ _ h.ro.1) (kN _ _ h.ro.1)).mono ?_
 rw [<- HB2.out]
 clear hS
 rintro r_ w6 ⟨rfl, hS⟩
 cases b2
 ·go_wp2_with fail
  go_ret
  exact AE.mk (by rw [HR.out]; rfl) hS.below
 go_wp2_with (first | ((with_reducible refine qK ?_); refine qC hS ?_))
 refine (allr_any _ rl 115 #[] #[.pointer (some ⟨g3, 0, none⟩)] (fun z => BS N z.target) (by kernel_rfl) hS (fun D w h => kr D w (kk D w h.1)) fun x z w _ ⟨F', h⟩ => kn2_any h.ro.2 (k3 _ _ h.ro.1.1) (kN _ _ h.ro.1.1)).mono ?_
 rw [<- HB3.out]
 clear hS
 rintro r_ w7 ⟨rfl, hS⟩
 cases b3
 ·go_wp2_with fail
  go_ret
  exact AE.mk (by rw [HR.out]; rfl) hS.below
 go_wp2_with (first
  | ((with_reducible refine qA 27 ?_); refine BigFrame.wpList_want rfl fun _ hK => Bq rfl rfl (hS.box 0 rfl) Tryz.underlying31 rfl (by kernel_rfl) (hK _ _ ?_))
  | (go_at_call 77; refine (I3 HP.out hS (fun D w h => kp D w (kk D w h.1))).mono ?_; clear hS; rintro e w_ ⟨v8, rfl, hS⟩))
 refine (allc_any v8 _ 117 #[] #[.pointer (some ⟨g3, 0, none⟩)] (GA N) (by kernel_rfl) hS (fun D w h => h.2) fun x z w _ ⟨F', h⟩ => kn3_any h.ro.2 (k3 _ _ h.ro.1.1.1) (kN _ _ h.ro.1.1.1)).mono ?_
 rw [<- HB4.out]
 clear hS
 rintro r_ w9 ⟨rfl, hS⟩
 go_wp2_with fail
 go_ret
 exact AE.mk (by rw [HR.out]; rfl) hS.below
end
section
open Go.RowKit
attribute [local go_sem ↓] Go.wp_at_zero Go.wp_at_succ
set_option maxRecDepth 20000
set_option exponentiation.threshold 5000
noncomputable def checkE (p : Ac) : Int := match p.links with
 | none => 1
 | some L => if p.roles < 1 \/ 63 < p.roles then 1 else if 64 < p.rules.length \/ 2000 < p.never.length \/ 2000 < p.goal.length then 3
  else if DU p L (Dw p.roles.toNat) = false then 4 else if (p.cubes.any fun z => z.1 &&& z.2 != 0) = true \/ p.rules.all revB = false then 6
  else if goodB p p.start = false then 7 else 0
theorem Bg.shape6 {w : World} {D : Nat -> Prop} {v : Value} {p : Ac} (h : Bg w D v p) : ∃ la As ns cs Ar cr An cn Ag cg, v = .agg #[.int .i64 p.roles, .pointer la, .slice As ns cs, .slice Ar p.rules.length cr, .slice An p.never.length cn, .slice Ag p.goal.length cg] := by
 obtain ⟨lp, s, rv, nv, gv, rfl, h1, h2, h3, h4, h5⟩ := h
 obtain ⟨la, rfl⟩ : ∃ la, lp = .pointer la := by
  cases hl : p.links with
  | none => rw [hl] at h1; exact ⟨none, h1⟩
  | some L => rw [hl] at h1; obtain ⟨q, o, rfl, -⟩ := h1; exact ⟨_, rfl⟩
 obtain ⟨Cs, ns, cs, rfl⟩ := h2.shape
 obtain ⟨Ar, cr, rfl, _, _⟩ := h3.shape
 obtain ⟨An, cn, rfl, _, _⟩ := h4.shape
 obtain ⟨Ag, cg, rfl, _, _⟩ := h5.shape
 exact ⟨_, _, _, _, _, _, _, _, _, _, rfl⟩
theorem cempty_any {w : World} {D : Nat -> Prop} {x : Value} {z : Nat × Nat} (hx : Be w D x z) : Calls Tryz.prog 78 #[x] w (AE (fun u _ => u = .bool (z.1 &&& z.2 != 0)) w) := by
 obtain ⟨a, b, rfl, ha, hb⟩ := hx
 exact Ik a b _ _ w D D ha hb
set_option maxHeartbeats 2000000 in
theorem schk_any {w0 : World} {D : Nat -> Prop} {v : Value} {p : Ac} (hp : Bg w0 D v p) (hP : p.Ok) (hT : BM w0) : Calls Tryz.prog 39 #[v] w0 (AE (fun x _ => x = .int .i64 (checkE p)) w0) := by
 obtain ⟨R, lk, st, rl, nl, gl⟩ := p
 have HP := Lib.hid hP
 obtain ⟨hP1, hP2, hP3, -⟩ := hP
 dsimp only at hP1 hP2 hP3
 obtain ⟨lp, s, rv, nv, gv, rfl, h1, h2, h3, h4, h5⟩ := hp
 dsimp only at h1 h2 h3 h4 h5 ⊢
 obtain ⟨Cs, ns, cs, rfl⟩ := h2.shape
 obtain ⟨Ar, cr, rfl, _, _⟩ := h3.shape
 obtain ⟨An, cn, rfl, _, _⟩ := h4.shape
 obtain ⟨Ag, cg, rfl, _, _⟩ := h5.shape
 obtain ⟨K, kp, kh, ks, kr, kt, hS⟩ : ∃ K : (Nat -> Prop) -> World -> Prop, (∀ D w, K D w -> Bg w D (.agg #[.int .i64 R, lp, .slice Cs ns cs, .slice Ar rl.length cr, .slice An nl.length cn, .slice Ag gl.length cg]) ⟨R, lk, st, rl, nl, gl⟩) /\ (∀ D w, K D w -> Gs w D lp lk) /\ (∀ D w, K D w -> A5 w D (.agg #[.slice Cs ns cs]) st) /\ (∀ D w, K D w -> Bt w D (.slice Ar rl.length cr) rl) /\ (∀ D w, K D w -> BM w) /\ St w0 w0 [] K :=
  ⟨fun D w => ((Gs w D lp lk /\ A5 w D (.agg #[.slice Cs ns cs]) st) /\ Bt w D (.slice Ar rl.length cr) rl /\ Az w D (.slice An nl.length cn) nl /\ Az w D (.slice Ag gl.length cg) gl) /\ (BM w /\ D 0), fun _ _ h => ⟨_, _, _, _, _, rfl, h.1.1.1, h.1.1.2, h.1.2.1, h.1.2.2.1, h.1.2.2.2⟩, fun _ _ h => h.1.1.1, fun _ _ h => h.1.1.2, fun _ _ h => h.1.2.1, fun _ _ h => h.2.1,
   St.start (D := fun _ => True) (((BT.and A6).and (B3.and (AL.and AL))).and CK) ⟨⟨⟨BT D _ w0 w0 h1 (Nat.le_refl _) (fun _ _ _ _ h => h) fun _ _ _ _ => trivial, h2.imp fun _ _ _ => trivial⟩, B3 D _ w0 w0 h3 (Nat.le_refl _) (fun _ _ _ _ h => h) fun _ _ _ _ => trivial, h4.imp fun _ _ _ => trivial, h5.imp fun _ _ _ => trivial⟩, hT, trivial⟩⟩
 clear h1 h2 h3 h4 h5 hT
 cases lk with
 | none =>
  obtain rfl := kh _ _ hS.ro
  go_enter Tryz.func39, Tryz.ntmps39
  go_wp2_with (first
   | ((with_reducible refine qA 1 ?_); refine At hS rfl _ _ rfl (.agg #[.int .i64 R, .pointer none, .slice Cs ns cs, .slice Ar rl.length cr, .slice An nl.length cn, .slice Ag gl.length cg]) _ rfl rfl ?_; clear hS; intro g1 w_ hS; (try simp only [Act.put, Act.eval, zz, Value.cells] at hS))
   | ((with_reducible refine qK ?_); refine qC hS ?_))
  go_ret
  exact AE.mk rfl hS.below
 | some L =>
  obtain ⟨q, o, rfl, -⟩ := id (kh _ _ hS.ro)
  have HE := Lib.hid (show checkE ⟨R, some L, st, rl, nl, gl⟩ = if R < 1 \/ 63 < R then 1 else if 64 < rl.length \/ 2000 < nl.length \/ 2000 < gl.length then 3
   else if DU ⟨R, some L, st, rl, nl, gl⟩ L (Dw R.toNat) = false then 4 else if ((Ac.cubes ⟨R, some L, st, rl, nl, gl⟩).any fun z => z.1 &&& z.2 != 0) = true \/ rl.all revB = false then 6
   else if goodB ⟨R, some L, st, rl, nl, gl⟩ st = false then 7 else 0 from rfl)
  generalize checkE ⟨R, some L, st, rl, nl, gl⟩ = RES at *
  by_cases hR : R < 1 \/ 63 < R
  ·have hE : RES = 1 := by rw [HE.out, if_pos hR]
   subst hE
   by_cases hR1 : R < 1
   all_goals
    go_enter Tryz.func39, Tryz.ntmps39
    go_wp2_with (first
     | ((with_reducible refine qA 1 ?_); refine At hS rfl _ _ rfl (.agg #[.int .i64 R, .pointer (some ⟨q, 0, none⟩), .slice Cs ns cs, .slice Ar rl.length cr, .slice An nl.length cn, .slice Ag gl.length cg]) _ rfl rfl ?_; clear hS; intro g1 w_ hS; (try simp only [Act.put, Act.eval, zz, Value.cells] at hS))
     | ((with_reducible refine qK ?_); refine qC hS ?_)
     | ((with_reducible refine qB ?_); refine qc ?_ ?_ <;> intro h_ <;> go_prune)
     )
    go_ret
    exact AE.mk rfl hS.below
  obtain ⟨r, rfl⟩ : ∃ r : Nat, R = (r : Int) := ⟨R.toNat, by omega⟩
  have hr63 : 1 <= r /\ r <= 63 := by omega
  replace HE := Lib.hid (HE.out.trans (if_neg hR))
  clear hR
  by_cases hN : 64 < rl.length \/ 2000 < nl.length \/ 2000 < gl.length
  ·have hE : RES = 3 := by rw [HE.out, if_pos hN]
   subst hE
   by_cases hN1 : 64 < rl.length
   all_goals
    by_cases hN2 : 2000 < nl.length
    all_goals
     go_enter Tryz.func39, Tryz.ntmps39
     go_wp2_with (first
      | ((with_reducible refine qA 1 ?_); refine At hS rfl _ _ rfl (.agg #[.int .i64 (r : Nat), .pointer (some ⟨q, 0, none⟩), .slice Cs ns cs, .slice Ar rl.length cr, .slice An nl.length cn, .slice Ag gl.length cg]) _ rfl rfl ?_; clear hS; intro g1 w_ hS; (try simp only [Act.put, Act.eval, zz, Value.cells] at hS))
      | ((with_reducible refine qK ?_); refine qC hS ?_)
      | ((with_reducible refine qB ?_); refine qc ?_ ?_ <;> intro h_ <;> go_prune)
      )
     go_ret
     exact AE.mk rfl hS.below
  have hN1 : rl.length <= 64 /\ nl.length <= 2000 /\ gl.length <= 2000 := by omega
  obtain ⟨hN1, hN2, hN3⟩ := hN1
  replace HE := Lib.hid (HE.out.trans (if_neg hN))
  clear hN
  go_enter Tryz.func39, Tryz.ntmps39
  go_wp2_with (first
   | ((with_reducible refine qA 1 ?_); refine At hS rfl _ _ rfl (.agg #[.int .i64 (r : Nat), .pointer (some ⟨q, 0, none⟩), .slice Cs ns cs, .slice Ar rl.length cr, .slice An nl.length cn, .slice Ag gl.length cg]) _ rfl rfl ?_; clear hS; intro g1 w_ hS; (try simp only [Act.put, Act.eval, zz, Value.cells] at hS))
   | ((with_reducible refine qK ?_); refine qC hS ?_)
   | ((with_reducible refine qB ?_); refine qc ?_ ?_ <;> intro h_ <;> go_prune)
   | ((with_reducible refine qK ?_); refine qL hS Tryz.underlying31 ?_))
  refine (known_any (kp _ _ hS.ro) HP.out rfl rfl hr63.2).mono ?_
  rintro e_ w1 ⟨_, rfl, rfl, hb_⟩
  replace hS := hS.ext hb_
  clear hb_
  have e1 : Dw ((r : Int)).toNat = Dw r := by rw [Int.toNat_natCast]
  rw [e1] at HE
  obtain ⟨b1, hb1⟩ : ∃ b, b = DU ⟨(r : Int), some L, st, rl, nl, gl⟩ L (Dw r) := ⟨_, rfl⟩
  rw [<- hb1] at HE ⊢
  clear hb1 e1
  cases b1
  ·have hE : RES = 4 := HE.out.trans (if_pos rfl)
   subst hE
   go_wp2_with fail
   go_ret
   exact AE.mk rfl hS.below
  replace HE := Lib.hid (HE.out.trans (if_neg (by decide)))
  go_wp2_with (first
   | ((with_reducible refine qK ?_); refine qL hS Tryz.underlying31 ?_)
   | (go_at_call 77; refine (I3 HP.out hS kp).mono ?_; clear hS; rintro e w_ ⟨v8, rfl, hS⟩))
  refine (Is v8 _ 78 #[] #[] (fun z => z.1 &&& z.2 != 0) (by kernel_rfl) hS (fun D w h => h.2) fun x z w _ ⟨F', h⟩ => cempty_any h.ro.2).mono ?_
  clear hS
  rintro r_ w2 ⟨rfl, hS⟩
  obtain ⟨b2, hb2⟩ : ∃ b, b = (Ac.cubes ⟨(r : Int), some L, st, rl, nl, gl⟩).any fun z => z.1 &&& z.2 != 0 := ⟨_, rfl⟩
  rw [<- hb2] at HE ⊢
  clear hb2
  cases b2
  rotate_left
  ·have hE : RES = 6 := HE.out.trans (if_pos (.inl rfl))
   subst hE
   go_wp2_with fail
   go_ret
   exact AE.mk rfl hS.below
  go_wp2_with (first | ((with_reducible refine qK ?_); refine qC hS ?_))
  refine (allr_any _ rl 74 #[] #[] revB (by kernel_rfl) hS (fun D w h => kr D w h.1) fun x z w _ ⟨F', h⟩ => chk1_any h.ro.2).mono ?_
  clear hS
  rintro r_ w3 ⟨rfl, hS⟩
  obtain ⟨b3, hb3⟩ : ∃ b, b = rl.all revB := ⟨_, rfl⟩
  rw [<- hb3] at HE ⊢
  clear hb3
  cases b3
  ·have hE : RES = 6 := HE.out.trans (if_pos (.inr rfl))
   subst hE
   go_wp2_with fail
   go_ret
   exact AE.mk rfl hS.below
  replace HE := Lib.hid (HE.out.trans (if_neg (by decide)))
  go_wp2_with (first
   | ((with_reducible refine qK ?_); refine qL hS Tryz.underlying31 ?_)
   | ((with_reducible refine qk 27 ?_); first | (refine AB hS 0 rfl _ _ rfl _ _ rfl _ _ rfl _ (by first | rfl | assumption) Tryz.underlying27 rfl (by kernel_rfl) ?_) | (refine AB hS 1 rfl _ _ rfl _ _ rfl _ _ rfl _ (by first | rfl | assumption) Tryz.underlying27 rfl (by kernel_rfl) ?_) | (refine AB hS 2 rfl _ _ rfl _ _ rfl _ _ rfl _ (by first | rfl | assumption) Tryz.underlying27 rfl (by kernel_rfl) ?_) | (refine AB hS 3 rfl _ _ rfl _ _ rfl _ _ rfl _ (by first | rfl | assumption) Tryz.underlying27 rfl (by kernel_rfl) ?_) | (refine AB hS 4 rfl _ _ rfl _ _ rfl _ _ rfl _ (by first | rfl | assumption) Tryz.underlying27 rfl (by kernel_rfl) ?_) | (refine AB hS 5 rfl _ _ rfl _ _ rfl _ _ rfl _ (by first | rfl | assumption) Tryz.underlying27 rfl (by kernel_rfl) ?_)))
  refine (Ie (kp _ _ hS.ro.1) HP.out (kt _ _ hS.ro.1) (ks _ _ hS.ro.1)).mono ?_
  rintro e_ w4 ⟨_, rfl, rfl, hb_⟩
  replace hS := hS.ext hb_
  clear hb_
  obtain ⟨b4, hb4⟩ : ∃ b, b = goodB ⟨(r : Int), some L, st, rl, nl, gl⟩ st := ⟨_, rfl⟩
  rw [<- hb4] at HE ⊢
  clear hb4
  cases b4
  ·have hE : RES = 7 := HE.out.trans (if_pos rfl)
   subst hE
   go_wp2_with fail
   go_ret
   exact AE.mk rfl hS.below
  have hE : RES = 0 := HE.out.trans (if_neg (by decide))
  subst hE
  go_wp2_with fail
  go_ret
  exact AE.mk rfl hS.below
end
section
open Go.RowKit
attribute [local go_sem ↓] Go.wp_at_zero Go.wp_at_succ
set_option maxRecDepth 20000
set_option exponentiation.threshold 5000
theorem ty_rules : B6 Tryz.prog 28 83 5 72 := ⟨Tryz.underlying28, by kernel_rfl⟩
theorem vs_len5 {vs : List Value} (h : vs.length = 5) : ∃ x0 x1 x2 x3 x4, vs = [x0, x1, x2, x3, x4] := by
 obtain ⟨x, vs', rfl, h'⟩ := GX h
 obtain ⟨y, z, u, t, rfl⟩ := vs_len4 h'
 exact ⟨x, y, z, u, t, rfl⟩
end
section
open Go.RowKit
attribute [local go_sem ↓] Go.wp_at_zero Go.wp_at_succ
set_option maxRecDepth 20000
set_option exponentiation.threshold 5000
theorem tb_closM {L : List (Nat × Nat)} {s i : Nat} : (closM L s).testBit i = true ↔ ∃ r, r < 64 /\ 1 <= r /\ s.testBit r = true /\ (junM L r).testBit i = true := by
 unfold closM; exact Ez
end
section
open Go.RowKit
set_option exponentiation.threshold 5000
def E2 (N : Nat) (r : B7) : Nat := if r.revoke then del N r.target else C9 N r.target
noncomputable def closP (p : Ac) (N : Nat) : Nat := match p.links with
 | some L => closM L N
 | none => 0
noncomputable def stepB (p : Ac) (N : Nat) (r : B7) : Bool := !(((BS N r.target != r.revoke) || (!r.revoke && !Bz (r.yes, r.no) (closP p N))) || !goodB p (E2 N r))
noncomputable def stepM (p : Ac) (N : Nat) (k : Int) : Option Nat :=
 if 0 <= k /\ k < p.rules.length /\ p.links.isSome = true then (if stepB p N (p.rules.getD k.toNat AX) = true then some (E2 N (p.rules.getD k.toNat AX)) else none) else none
theorem Hg {p : Ac} {N : Nat} {k : Int} (h : ¬ (0 <= k /\ k < p.rules.length /\ p.links.isSome = true)) : stepM p N k = none := if_neg h
theorem stepM_at {p : Ac} {L : List (Nat × Nat)} {N j : Nat} (hl : p.links = some L) (hj : j < p.rules.length) : stepM p N (j : Nat) = if stepB p N (p.rules.getD j AX) = true then some (E2 N (p.rules.getD j AX)) else none := by
 unfold stepM
 rw [if_pos ⟨by omega, by omega, by rw [hl]; rfl⟩, Int.toNat_natCast]
inductive Rch (p : Ac) : Nat -> Prop
 | start : Rch p p.start
 | step {N M : Nat} {k : Int} : Rch p N -> stepM p N k = some M -> Rch p M
theorem sl_pos {w : World} {D : Nat -> Prop} {size n c : Nat} {A : Option Addr} {xs : List Value} (h : Sl w D size (.slice A n c) n xs) (hn : 0 < n) : ∃ b o, A = some ⟨b, o, none⟩ := by
 obtain ⟨_, A', c', e, _, _, h3⟩ := h
 injection e with e _ _
 subst e
 obtain ⟨b, o, e, _⟩ := h3 hn
 exact ⟨b, o, e⟩
end
section
open Go.RowKit
attribute [local go_sem ↓] Go.wp_at_zero Go.wp_at_succ
set_option maxRecDepth 20000
theorem Da {P : Program} {o : Oper} {a : Act} {w : World} {K : Act -> World -> Prop} {Q : Exit -> Act -> World -> Prop} {t e : TypeId} {x : Operand} {n c : Nat} {A : Option Addr} (ho : o.op = .call { callee := .builtin .len, args := #[x], argTypes := #[t] }) (hx : a.eval x = .slice A n c) (h : P.underlying t = some (.slice e)) (hk : K (a.put o.dst (.int .i64 (n : Nat))) w) : o.wp P a w K Q := by
 have hr : (Builtin.len_ #[t] o.type #[.slice A n c]).run P w = .ok (.int .i64 (n : Nat)) w := by
  simp [Builtin.len_, run_underlying h]; rfl
 unfold Oper.wp execOp
 simp only [ho, resolve, invoke, builtin, Sem.run_bind, Sem.run_pure, Result.andThen_ok, List.map_toArray, List.map_cons, List.map_nil, hx, hr]
 exact hk
end
section
open Go.RowKit
attribute [local go_sem ↓] Go.wp_at_zero Go.wp_at_succ
set_option maxRecDepth 20000
set_option exponentiation.threshold 5000
theorem perm_at : ∀ (F : List Aa) (i : Nat) (f g : Aa), F[i]? = some f -> (g :: F.eraseIdx i).Perm (F.set i g)
 | [], i, f, g, h => by simp at h
 | x :: F, 0, f, g, h => List.Perm.refl _
 | x :: F, i + 1, f, g, h => (List.Perm.swap x g _).trans ((perm_at F i f g (by simpa using h)).cons x)
theorem set_sameF : ∀ (F : List Aa) (i : Nat) (f : Aa), F[i]? = some f -> F.set i f = F
 | [], i, f, h => rfl
 | x :: F, 0, f, h => by simp at h; subst h; rfl
 | x :: F, i + 1, f, h => by rw [List.set_cons_succ, set_sameF F i f (by simpa using h)]
theorem St.front {w0 w : World} {F : List Aa} {K : (Nat -> Prop) -> World -> Prop} {i : Nat} {f : Aa} (h : St w0 w F K) (hi : F[i]? = some f) : St w0 w (f :: F.eraseIdx i) K := h.perm (by
 have h1 := perm_at F i f f hi
 rwa [set_sameF F i f hi] at h1)
section
variable {P : Program} {ops : Array Oper} {rest : List Oper} {o : Oper} {a : Act} {Q : Exit -> Act -> World -> Prop} {w : World}
theorem Fu (hg : Region.wanted o (yielded ops a.tmps) = true) (t t2 : TypeId) (x y : Operand) (ho : o.op = .binOp .and t x y t2) (X Y : Int) (hx : a.eval x = .int .u8 X) (hy : a.eval y = .int .u8 Y) (h1 : 0 <= X /\ X < 256) (h2 : 0 <= Y /\ Y < 256)
  (hk : ∀ z : Nat, z < 256 -> Hid (z = X.toNat &&& Y.toNat) -> wpList P ops Q rest (a.put o.dst (.int .u8 (z : Nat))) w) : wpList P ops Q (o :: rest) a w := by
 refine BigFrame.wpList_want hg fun _ hK => AH (v := .int .u8 ((X.toNat &&& Y.toNat : Nat) : Int)) ho hx hy rfl ?_ (hK _ _ (hk _ (Nat.lt_of_le_of_lt Nat.and_le_left (by omega)) (Lib.hid rfl)))
 go_simp
 exact u8_and X Y h1.1 h1.2 h2.1 h2.2
theorem st_andnot8 (hg : Region.wanted o (yielded ops a.tmps) = true) (t t2 : TypeId) (x y : Operand) (ho : o.op = .binOp .andNot t x y t2) (X Y : Int) (hx : a.eval x = .int .u8 X) (hy : a.eval y = .int .u8 Y) (h1 : 0 <= X /\ X < 256) (h2 : 0 <= Y /\ Y < 256)
  (hk : ∀ z : Nat, z < 256 -> Hid (z = X.toNat &&& (255 - Y.toNat)) -> wpList P ops Q rest (a.put o.dst (.int .u8 (z : Nat))) w) : wpList P ops Q (o :: rest) a w := by
 refine BigFrame.wpList_want hg fun _ hK => AH (v := .int .u8 ((X.toNat &&& (255 - Y.toNat) : Nat) : Int)) ho hx hy rfl ?_ (hK _ _ (hk _ (Nat.lt_of_le_of_lt Nat.and_le_left (by omega)) (Lib.hid rfl)))
 go_simp
 exact u8_andNot X Y h1.1 h1.2 h2.1 h2.2
end
theorem and_not8 {a b : Nat} (ha : a < 256) : a &&& (b &&& (255 - a)) = 0 := by
 apply Nat.eq_of_testBit_eq
 intro i
 rw [Nat.testBit_and, Nat.testBit_and, Nat.zero_testBit, show 255 - a = 2 ^ 8 - (a + 1) by omega, Nat.testBit_two_pow_sub_succ (by omega)]
 cases a.testBit i <;> cases b.testBit i <;> simp
theorem It {a m : Nat} : a &&& m &&& m = a &&& m := by rw [Nat.and_assoc, Nat.and_self]
theorem Gi (y n m : Nat) (hm : m < 256) (w0 : World) :
  Calls Tryz.prog 90 #[.int .i64 (y : Nat), .int .i64 (n : Nat), .int .u8 (m : Nat)] w0 (AE (fun x _ => ∃ a b : Nat, x = .agg #[.int .u64 (a : Nat), .int .u64 (b : Nat)] /\ a &&& m = a /\ b &&& m = b /\ a &&& b = 0 /\ a < 256 /\ b < 256) w0) := by
 have hS : St w0 w0 [] fun _ _ => True := St.start0
 go_enter Tryz.func90, Tryz.ntmps90
 go_wp2_with (first
  | ((with_reducible refine qA 6 ?_); refine qa hS #[.int .u64 0, .int .u64 0] ?_; clear hS; intro g6 w_ hS)
  | ((with_reducible refine qA 17 ?_); refine Fu rfl _ _ _ _ rfl _ _ rfl rfl (by omega) (by omega) ?_; intro z17 h17 _)
  | ((with_reducible refine qA 19 ?_); refine Fu rfl _ _ _ _ rfl _ _ rfl rfl (by omega) (by omega) ?_; intro z19 h19 e19)
  | ((with_reducible refine qA 28 ?_); refine Fu rfl _ _ _ _ rfl _ _ rfl rfl (by omega) (by omega) ?_; intro z28 h28 _)
  | ((with_reducible refine qA 30 ?_); refine Fu rfl _ _ _ _ rfl _ _ rfl rfl (by omega) (by omega) ?_; intro z30 h30 e30)
  | ((with_reducible refine qA 32 ?_); refine st_andnot8 rfl _ _ _ _ rfl _ _ rfl rfl (by omega) (by omega) ?_; intro z32 h32 e32)
  | ((with_reducible refine qM ?_); (first | refine qS hS ?_ | refine qT hS ?_); clear hS; intro w_ hS; (try simp only [Act.put, Act.eval, zz, Value.cells] at hS)))
 refine CH Tryz.results90 rfl (hS.box 0 rfl) Tryz.underlying152 rfl (by kernel_rfl) rfl ?_
 have e1 := e19.out
 have e2 := e30.out
 have e3 := e32.out
 simp only [Int.toNat_natCast] at e1 e2 e3
 refine AE.mk ⟨z19, z32, rfl, ?_, ?_, ?_, h19, h32⟩ hS.below
 ·rw [e1, It]
 ·rw [e3, e2, Nat.and_assoc, Nat.and_comm (255 - z19), <- Nat.and_assoc, It]
 ·rw [e3]; exact and_not8 h19
theorem Sl.byteAt {w : World} {D : Nat -> Prop} {A : Option Addr} {c : Nat} {l : List Nat} (h : Sl w D 1 (.slice A l.length c) l.length (Fj l)) {k : Nat} (hk : k < l.length) : ∃ b o, A = some ⟨b, o, none⟩ /\ w.cell? ⟨b, o + k, none⟩ = some (.int .u8 (l.getD k 0 : Nat)) := by
 obtain ⟨b, o, h1, _, _, h2⟩ := h.byte hk
 exact ⟨b, o, h1, h2 k hk⟩
theorem next_any {w0 w : World} {F : List Aa} {K : (Nat -> Prop) -> World -> Prop} {q c at_ : Nat} {A : Option Addr} {l : List Nat} (hl : ∀ x ∈ l, x < 256) (ha : at_ < 1000000) (hS : St w0 w (.box q 146 #[.slice A l.length c, .int .i64 (at_ : Nat)] :: F) K) (kp : ∀ D w, K D w -> Sl w D 1 (.slice A l.length c) l.length (Fj l)) :
  Calls Tryz.prog 88 #[.pointer (some ⟨q, 0, none⟩)] w fun e w' => ∃ b : Nat, b < 256 /\ e = .returned (.int .i64 (b : Nat)) /\ St w0 w' (.box q 146 #[.slice A l.length c, .int .i64 ((at_ + 1 : Nat) : Int)] :: F) K := by
 go_enter Tryz.func88, Tryz.ntmps88
 go_wp2_with (first
  | ((with_reducible refine qK ?_); refine qC hS ?_)
  | ((with_reducible refine qM ?_); (first | refine qS hS ?_ | refine qT hS ?_); clear hS; intro w_ hS; (try simp only [Act.put, Act.eval, zz, Value.cells] at hS)))
 obtain ⟨bo, hbo⟩ : ∃ bo : Bool, decide (((at_ + 1 : Nat) : Int) > (l.length : Nat)) = bo := ⟨_, rfl⟩
 have HBO := Lib.hid hbo
 clear hbo
 refine C8 [.q q 0, .q q 0, .q q 1, .n ((at_ + 1 : Nat) : Int), .q q 0, .q q 0, .q q 0, .i (.slice A l.length c), .n (l.length : Nat), .i (.bool bo)] ⟨uM, uN, uF, uC (h := fun w hW hN => (hS.ext hW).shut 0 rfl 1 rfl), uM, uN, uF, uC (h := fun w hW hN => (hS.ext hW).shut 0 rfl 0 rfl), ?_, uB (h := fun w hW hN => run_gtB HBO.out), trivial⟩ ?_
 ·refine uT fun b__ w hW hE K hK => ?_
  have e17 := hE 17
  exact Da rfl e17 Tryz.underlying22 (hK _ _ rfl (Below.refl _ _))
 ·intro vs wz hW hT
  obtain ⟨e10, e11, e12, e13, e14, e15, e16, e17, e18, e19, -⟩ := hT
  simp only [Aw, Act.put, zz, ze]
  replace hS := hS.ext hW
  clear hW e10 e11 e12 e13 e14 e15 e16 e17 e18
  rw [e19]
  clear e19
  generalize vs 10 = s10, vs 11 = s11, vs 12 = s12, vs 13 = s13, vs 14 = s14, vs 15 = s15, vs 16 = s16, vs 17 = s17, vs 18 = s18
  cases bo with
  | true =>
   go_wp2_with fail
   go_ret
   exact ⟨0, by decide, rfl, hS⟩
  | false =>
   have hlt : at_ < l.length := by have := HBO.out; simp at this; omega
   obtain ⟨b, o, rfl, hb⟩ := (kp _ _ hS.ro).byteAt hlt
   have hB : l.getD at_ 0 < 256 := by rw [List.getD_eq_getElem?_getD, List.getElem?_eq_getElem hlt]; exact hl _ (List.getElem_mem hlt)
   have hk2 : ∀ D w, K D w -> w.cell? ⟨b, o + at_, none⟩ = some (.int .u8 (l.getD at_ 0 : Nat)) := fun D w h => by
    obtain ⟨b', o', e, h2⟩ := (kp D w h).byteAt hlt
    injection e with e
    injection e with e1 e2
    subst e1; subst e2
    exact h2
   clear hb
   generalize l.getD at_ 0 = x at *
   go_wp2_with fail
   refine C8 [.q q 0, .q q 0, .q q 0, .i (.slice (some ⟨b, o, none⟩) l.length c), .q q 0, .q q 0, .q q 1, .n ((at_ + 1 : Nat) : Int), .n (at_ : Nat), .q b (o + (at_) * 1), .i (.int .u8 (x : Nat)), .n (x : Nat), .n (x : Nat)] ⟨uM, uN, uF, uC (h := fun w hW hN => (hS.ext hW).shut 0 rfl 0 rfl), uM, uN, uF, uC (h := fun w hW hN => (hS.ext hW).shut 0 rfl 1 rfl), uB (h := fun w hW hN => by rw [Cl (by omega) (by omega)]; congr 2; omega), uI (h := fun w hW hN => Af (m := at_) Tryz.underlying22 (by kernel_rfl) (by omega) (by omega)), uC (h := fun w hW hN => by rw [Nat.mul_one]; exact hk2 _ _ (hS.ext hW).ro), uE (h := fun w hW hN => by go_simp; exact IntWalk.i64_in _ (by omega)), uA, trivial⟩ ?_
   ·intro vs wz hW hT
    obtain ⟨e20, e21, e22, e23, e24, e25, e26, e27, e28, e29, e30, e31, e2, -⟩ := hT
    simp only [Aw, Act.put, zz, ze]
    replace hS := hS.ext hW
    rw [e2]
    clear hW
    go_wp2_with fail
    go_ret
    exact ⟨x, hB, rfl, hS⟩
end
section
open Go.RowKit
attribute [local go_sem ↓] Go.wp_at_zero Go.wp_at_succ
set_option maxRecDepth 20000
set_option exponentiation.threshold 5000
theorem st_and64 {P : Program} {ops : Array Oper} {rest : List Oper} {o : Oper} {a : Act} {Q : Exit -> Act -> World -> Prop} {w : World} (hg : Region.wanted o (yielded ops a.tmps) = true) (t t2 : TypeId) (x y : Operand) (ho : o.op = .binOp .and t x y t2) (X Y : Nat) (hx : a.eval x = .int .u64 (X : Nat)) (hy : a.eval y = .int .u64 (Y : Nat)) (h1 : X < Bv) (h2 : Y < Bv)
  (hk : wpList P ops Q rest (a.put o.dst (.int .u64 ((X &&& Y : Nat) : Int))) w) : wpList P ops Q (o :: rest) a w :=
 BigFrame.wpList_want hg fun _ hK => AH ho hx hy rfl (run_and64 h1 h2) (hK _ _ hk)
theorem rholds_any {y n s : Nat} (hy : y < Bv) (hn : n < Bv) (hs : s < Bv) (w0 : World) : Calls Tryz.prog 91 #[.agg #[.int .u64 (y : Nat), .int .u64 (n : Nat)], .int .u64 (s : Nat)] w0 (AE (fun x _ => x = .bool (Bz (y, n) s)) w0) := by
 have hS : St w0 w0 [] fun _ _ => True := St.start0
 have e : Bz (y, n) s = (decide ((s &&& y : Nat) = y) && decide ((s &&& n : Nat) = 0)) := by
  unfold Bz
  rw [Nat.and_comm s y, Nat.and_comm s n]
  generalize y &&& s = a
  generalize n &&& s = b
  by_cases h1 : a = y <;> by_cases h2 : b = 0 <;> simp [h1, h2]
 rw [e]
 clear e
 go_enter Tryz.func91, Tryz.ntmps91
 go_wp2_with (first
  | ((with_reducible refine qA 2 ?_); refine At hS rfl _ _ rfl (.agg #[.int .u64 (y : Nat), .int .u64 (n : Nat)]) _ rfl rfl ?_; clear hS; intro g2 w_ hS; (try simp only [Act.put, Act.eval, zz, Value.cells] at hS))
  | ((with_reducible refine qK ?_); refine qC hS ?_)
  | ((with_reducible refine qb .and ?_); refine st_and64 rfl _ _ _ _ rfl _ _ rfl rfl (by assumption) (by assumption) ?_)
  | ((with_reducible refine qB ?_); refine qc ?_ ?_ <;> intro h_ <;> go_prune))
 all_goals (go_ret; refine AE.mk ?_ hS.below; congr 1; simp_all; try omega)
theorem RLinkP.some2 {w0 w' : World} {pv : Value} {L : List (Nat × Nat)} {x y : Nat} {e : Ending} (h : RLinkP w0 pv L (x : Nat) (y : Nat) e w') (ht : twoR (x : Nat) (y : Nat)) :
  ((x, y) ∈ L /\ e = .returned (.tuple #[pv, .int .i64 5]) /\ Below w0.heap.size w0 w') \/ ((x, y) ∉ L /\ TC L y x /\ e = .returned (.tuple #[pv, .int .i64 16]) /\ Below w0.heap.size w0 w') \/
   ((x, y) ∉ L /\ ¬ TC L y x /\ ∃ v, e = .returned (.tuple #[v, .int .i64 0]) /\ St w0 w' [.own v 159 2 (L.length + 1) (A7 (ins L (x, y)))] fun _ _ => True) := by
 rcases h with ⟨h, _⟩ | ⟨a, b, h1, h2, _, _, _, h⟩
 ·exact absurd ht h
 ·obtain rfl : x = a := by omega
  obtain rfl : y = b := by omega
  exact h
def InRol (R : Nat) (L : List (Nat × Nat)) : Prop := ∀ z ∈ L, 1 <= z.1 /\ z.1 < z.2 /\ z.2 <= R
theorem rlink_st {w0 w : World} {F : List Aa} {K : (Nat -> Prop) -> World -> Prop} {pv : Value} {L : List (Nat × Nat)} {x y R : Nat} (hH : GM L) (hR : InRol R L) (h1 : 1 <= x) (h2 : x < y) (h3 : y <= R) (h4 : R < 64) (hl : L.length <= 1000) (hS : St w0 w F K) (kp : ∀ D w, K D w -> Sl w D 2 pv L.length (A7 L)) :
  Calls Tryz.prog 89 #[pv, .int .i64 (x : Nat), .int .i64 (y : Nat)] w fun e w' => ∃ (v : Value) (z : Int) (L' : List (Nat × Nat)), e = .returned (.tuple #[v, .int .i64 z]) /\ GM L' /\ InRol R L' /\ L'.length <= L.length + 1 /\ St w0 w' F fun D w => K D w /\ Sl w D 2 v L'.length (A7 L') := by
 have KS := hS.stable
 refine (rlink_any (kp _ _ hS.ro) hH.inr (by omega) x y).mono ?_
 intro e w' h
 have hsame : ∀ z : Int, e = .returned (.tuple #[pv, .int .i64 z]) -> Below w.heap.size w w' -> ∃ (v : Value) (z : Int) (L' : List (Nat × Nat)), e = .returned (.tuple #[v, .int .i64 z]) /\ GM L' /\ InRol R L' /\ L'.length <= L.length + 1 /\ St w0 w' F fun D w => K D w /\ Sl w D 2 v L'.length (A7 L') :=
  fun z h hb => ⟨pv, z, L, h, hH, hR, by omega, (hS.ext hb).mono (KS.and (Ah (by decide))) fun D w h => ⟨h, kp D w h⟩⟩
 rcases h.some2 ⟨⟨by omega, by omega⟩, ⟨by omega, by omega⟩, by omega⟩ with ⟨-, a, b⟩ | ⟨-, -, a, b⟩ | ⟨k1, k2, v, a, b⟩
 ·exact hsame _ a b
 ·exact hsame _ a b
 ·refine ⟨v, 0, _, a, hH.ins ⟨h1, by omega⟩ ⟨by omega, by omega⟩ (by omega) k1 k2, fun z hz => ?_, by rw [ins_len]; omega, ?_⟩
  ·rcases (H5.1 hz) with h | h
   ·subst h; exact ⟨h1, h2, h3⟩
   ·exact hR z h
  ·have hn := (hS.new b.below (.own v 159 2 (L.length + 1) (A7 (ins L (x, y)))) (b.own 0 rfl)).freeze 0 (by decide) rfl
   rw [ins_len]
   exact hn
def AW (l : List B7) : List Value := l.flatMap fun z => [.bool z.revoke, .int .u64 (z.yes : Nat), .int .u64 (z.no : Nat), .int .i64 z.target, .int .i64 z.origin]
theorem Hy (a b : List B7) : AW (a ++ b) = AW a ++ AW b := by simp [AW]
theorem rrcells_at (l : List B7) (k : Nat) (z : B7) (h : l[k]? = some z) : (AW l)[k * 5]? = some (.bool z.revoke) /\ (AW l)[k * 5 + 1]? = some (.int .u64 (z.yes : Nat)) /\ (AW l)[k * 5 + 2]? = some (.int .u64 (z.no : Nat)) /\ (AW l)[k * 5 + 3]? = some (.int .i64 z.target) /\ (AW l)[k * 5 + 4]? = some (.int .i64 z.origin) := by
 induction l generalizing k with
 | nil => simp at h
 | cons y r ih =>
  cases k with
  | zero => simp at h; subst h; simp [AW]
  | succ k =>
   have := ih k (by simpa using h)
   rw [show (k + 1) * 5 = k * 5 + 5 by omega]
   simpa [AW] using this
def DY (w : World) (D : Nat -> Prop) (v : Value) (p : Ac) : Prop :=
 ∃ lv rv nv gv L, v = .agg #[.int .i64 p.roles, lv, .int .u64 (p.start : Nat), rv, nv, gv] /\ p.links = some L /\ Sl w D 2 lv L.length (A7 L) /\ Sl w D 5 rv p.rules.length (AW p.rules) /\ Ca w D nv p.never /\ Ca w D gv p.goal
theorem ET {v : Value} {l : List (Nat × Nat)} : Ao fun D w => Ca w D v l := Ah (by decide)
theorem Fp {v : Value} {p : Ac} : Ao fun D w => DY w D v p := fun D D' w w' h a b c => by
 obtain ⟨lv, rv, nv, gv, L, h1, h2, h3, h4, h5, h6⟩ := h
 exact ⟨lv, rv, nv, gv, L, h1, h2, Ah (by decide) D D' w w' h3 a b c, Ah (by decide) D D' w w' h4 a b c, ET D D' w w' h5 a b c, ET D D' w w' h6 a b c⟩
end
section
open Go.RowKit
attribute [local go_sem ↓] Go.wp_at_zero Go.wp_at_succ
set_option maxRecDepth 20000
set_option exponentiation.threshold 5000
section
variable {P : Program} {ops : Array Oper} {rest : List Oper} {o : Oper} {a : Act} {Q : Exit -> Act -> World -> Prop} {w : World}
theorem DB (hg : Region.wanted o (yielded ops a.tmps) = true) (op : BinOp) (t t2 : TypeId) (x y : Operand) (ho : o.op = .binOp op t x y t2) {vx vy : Value} (hx : a.eval x = vx) (hy : a.eval y = vy) {k : IntKind} (p : Nat -> Prop) {z : Nat} (he : (eqGuard op t x y vx vy).run P w = .ok () w) (hr : (binOp op t vx vy).run P w = .ok (.int k (z : Nat)) w) (hp : p z)
  (hk : ∀ z : Nat, p z -> wpList P ops Q rest (a.put o.dst (.int k (z : Nat))) w) : wpList P ops Q (o :: rest) a w :=
 BigFrame.wpList_want hg fun _ hK => AH ho hx hy he hr (hK _ _ (hk z hp))
theorem CC (hg : Region.wanted o (yielded ops a.tmps) = true) (t t2 : TypeId) (x y : Operand) (ho : o.op = .binOp .rem t x y t2) {n m : Nat} (hx : a.eval x = .int .i64 (n : Nat)) (hy : a.eval y = .int .i64 (m : Nat)) (hm : 0 < m)
  (hk : ∀ z : Nat, z < m -> wpList P ops Q rest (a.put o.dst (.int .i64 (z : Nat))) w) : wpList P ops Q (o :: rest) a w :=
 DB hg _ t t2 x y ho hx hy (fun z => z < m) (z := n % m) rfl (by rw [Gj (by omega) (by omega)]; rfl) (Nat.mod_lt _ hm) hk
theorem st_addN (hg : Region.wanted o (yielded ops a.tmps) = true) (t t2 : TypeId) (x y : Operand) (ho : o.op = .binOp .add t x y t2) {n m : Nat} (p : Nat -> Prop) (hx : a.eval x = .int .i64 (n : Nat)) (hy : a.eval y = .int .i64 (m : Nat)) (hb : n + m < 9223372036854775808) (hp : p (n + m))
  (hk : ∀ z : Nat, p z -> wpList P ops Q rest (a.put o.dst (.int .i64 (z : Nat))) w) : wpList P ops Q (o :: rest) a w :=
 DB hg _ t t2 x y ho hx hy p (z := n + m) rfl (by rw [run_add64 (by omega) (by omega)]; rfl) hp hk
end
theorem st_someB {P : Program} {ops : Array Oper} {rest : List Oper} {o : Oper} {a : Act} {Q : Exit -> Act -> World -> Prop} {w : World} (hg : Region.wanted o (yielded ops a.tmps) = true) (op : BinOp) (t t2 : TypeId) (x y : Operand) (ho : o.op = .binOp op t x y t2) {vx vy : Value} (hx : a.eval x = vx) (hy : a.eval y = vy) {b : Bool} (he : (eqGuard op t x y vx vy).run P w = .ok () w) (hr : (binOp op t vx vy).run P w = .ok (.bool b) w)
  (hk : ∀ b : Bool, wpList P ops Q rest (a.put o.dst (.bool b)) w) : wpList P ops Q (o :: rest) a w :=
 BigFrame.wpList_want hg fun _ hK => AH ho hx hy he hr (hK _ _ (hk b))
theorem Hv {P : Program} {w : World} {g i : Nat} {t ty : TypeId} {cs : Array Value} {u v : Value} (hb : C3 w g t cs) (hi : i + 1 < cs.size) (h1 : u.oneCell' = true) (h2 : v.oneCell' = true) (hs : (P.info? ty).map (·.size) = some 2) :
  (Instr.storeAt ty (.pointer (some ⟨g, i, none⟩)) (.agg #[u, v])).run P w = .ok () ((w.setCell ⟨g, i, none⟩ u).setCell ⟨g, i + 1, none⟩ v) := by
 have := run_storeCells_cells (P := P) g i [u, v] 0 w (fun j hj => by have hc := hb.cell (i + j); simp at hj; simp [hc]; omega) (fun j hj => hb.free _) (by simpa using ⟨h1, h2⟩)
 cases hq : P.info? ty with
 | none => simp [hq] at hs
 | some inf =>
  have hs' : inf.size = 2 := by simpa [hq] using hs
  simp only [Nat.add_zero] at this
  simp [Instr.storeAt, Instr.sureAddr, storeVar, sizeOf, typeInfo, hq, Value.cells, hs', this, World.setCells]
theorem st_bstore2 {P : Program} {ops : Array Oper} {rest : List Oper} {o : Oper} {a : Act} {Q : Exit -> Act -> World -> Prop} {w0 w : World} {F : List Aa} {K : (Nat -> Prop) -> World -> Prop} (h : St w0 w F K) (i : Nat) (hg : Region.wanted o (yielded ops a.tmps) = true) (ty : TypeId) (x y : Operand) (ho : o.op = .store ty x y) (g j : Nat) (u v : Value) (hx : a.eval x = .pointer (some ⟨g, j, none⟩)) (hy : a.eval y = .agg #[u, v]) {t : TypeId} {cs : Array Value} (hb : F[i]? = some (.box g t cs)) (hi : j + 1 < cs.size)
  (h1 : u.oneCell' = true) (h2 : v.oneCell' = true) (hs : (P.info? ty).map (·.size) = some 2) (hk : ∀ w', St w0 w' (F.set i (.box g t ((cs.setIfInBounds j u).setIfInBounds (j + 1) v))) K -> wpList P ops Q rest (a.put o.dst undef) w') : wpList P ops Q (o :: rest) a w := by
 refine BigFrame.wpList_want hg fun _ hK => ?_
 have hX := h.box i hb
 unfold Oper.wp execOp
 simp only [ho, hx, hy, Sem.run_bind, Hv hX hi h1 h2 hs, Result.andThen_ok]
 refine hK _ _ (hk _ (h.upd i hb _ (Bw (GV.trans (Bu w g j u) (Bu _ g (j + 1) v))) ⟨(h.holds _ (List.mem_of_getElem? hb)).1, (hX.setC u).setC v⟩ fun _ e => .inl e))
theorem ty_rrules : B6 Tryz.prog 34 154 5 40 := ⟨Tryz.underlying34, by kernel_rfl⟩
def ROk (R m : Nat) (z : B7) : Prop := (1 <= z.target /\ z.target <= R) /\ (0 <= z.origin /\ z.origin < 7) /\ z.yes &&& m = z.yes /\ z.no &&& m = z.no /\ z.yes &&& z.no = 0 /\ z.yes < 256 /\ z.no < 256 /\ (z.revoke = true -> z.yes = 0 /\ z.no = 0)
def KOk (m : Nat) (z : Nat × Nat) : Prop := z.1 &&& m = z.1 /\ z.2 &&& m = z.2 /\ z.1 &&& z.2 = 0 /\ z.1 < 256 /\ z.2 < 256
def BB (R : Nat) : Nat := 2 ^ (R + 1) - 2
theorem run_maskshl {w : World} {R : Nat} (h : R <= 5) : (binOp .shl 5 (.int .u8 2) (.int .u64 (R : Nat))).run Tryz.prog w = .ok (.int .u8 ((2 ^ (R + 1) : Nat) : Int)) w := by
 match R, h with
 | 0, _ => go_simp; rfl
 | 1, _ => go_simp; rfl
 | 2, _ => go_simp; rfl
 | 3, _ => go_simp; rfl
 | 4, _ => go_simp; rfl
 | 5, _ => go_simp; rfl
theorem run_msub {w : World} {R : Nat} (h0 : 2 <= R) (h : R <= 5) : (binOp .sub 5 (.int .u8 ((2 ^ (R + 1) : Nat) : Int)) (.int .u8 2)).run Tryz.prog w = .ok (.int .u8 (BB R : Nat)) w := by
 match R, h0, h with
 | 2, _, _ => go_simp; rfl
 | 3, _, _ => go_simp; rfl
 | 4, _, _ => go_simp; rfl
 | 5, _, _ => go_simp; rfl
theorem run_shrN {P : Program} {w : World} {t : TypeId} {n k : Nat} (hk : k < 64) : (binOp .shr t (.int .i64 (n : Nat)) (.int .u64 (k : Nat))).run P w = .ok (.int .i64 ((n / 2 ^ k : Nat) : Int)) w := by
 go_simp
theorem C0 {w0 w : World} {F : List Aa} {K : (Nat -> Prop) -> World -> Prop} {q c at_ : Nat} {A : Option Addr} {l : List Nat} (hl : ∀ x ∈ l, x < 256) (ha : at_ < 1000000) (hS : St w0 w F K) (i : Nat) (hi : F[i]? = some (.box q 146 #[.slice A l.length c, .int .i64 (at_ : Nat)])) (kp : ∀ D w, K D w -> Sl w D 1 (.slice A l.length c) l.length (Fj l)) :
  Calls Tryz.prog 88 #[.pointer (some ⟨q, 0, none⟩)] w fun e w' => ∃ b : Nat, b < 256 /\ e = .returned (.int .i64 (b : Nat)) /\ St w0 w' (F.set i (.box q 146 #[.slice A l.length c, .int .i64 ((at_ + 1 : Nat) : Int)])) K := by
 refine (next_any hl ha (hS.front hi) kp).mono ?_
 rintro e w' ⟨b, h1, h2, h3⟩
 exact ⟨b, h1, h2, h3.perm (perm_at F i _ _ hi).symm⟩
theorem run_shl2 {w : World} {t : TypeId} {R : Nat} (h : R < 5) : (binOp .shl t (.int .i64 2) (.int .u64 (R : Nat))).run Tryz.prog w = .ok (.int .i64 ((2 ^ (R + 1) : Nat) : Int)) w := by
 match R, h with
 | 0, _ => go_simp; rfl
 | 1, _ => go_simp; rfl
 | 2, _ => go_simp; rfl
 | 3, _ => go_simp; rfl
 | 4, _ => go_simp; rfl
theorem i64_or_nat (a b : Nat) (ha : a < 256) (hb : b < 256) : bits .or .i64 (a : Int) (b : Int) = ((a ||| b : Nat) : Int) := by
 have hx : a ||| b < 2 ^ 8 := Nat.or_lt_two_pow (by omega) (by omega)
 show IntKind.i64.wrap ((BitVec.ofInt 64 (a : Int) ||| BitVec.ofInt 64 (b : Int)).toNat : Int) = _
 rw [BitVec.toNat_or, show BitVec.ofInt 64 (a : Int) = BitVec.ofNat 64 a from BitVec.ofInt_natCast .., show BitVec.ofInt 64 (b : Int) = BitVec.ofNat 64 b from BitVec.ofInt_natCast .., BitVec.toNat_ofNat, BitVec.toNat_ofNat, Nat.mod_eq_of_lt (by omega), Nat.mod_eq_of_lt (by omega)]
 exact wrap_i64_nat (by omega)
theorem run_orN {w : World} {t : TypeId} {a b : Nat} (ha : a < 256) (hb : b < 256) : (binOp .or t (.int .i64 (a : Nat)) (.int .i64 (b : Nat))).run Tryz.prog w = .ok (.int .i64 ((a ||| b : Nat) : Int)) w := by
 go_simp
 exact i64_or_nat a b ha hb
theorem closM_ltT (L : List (Nat × Nat)) (s : Nat) : closM L s < Bv := by rw [Cj]; exact EM L s 64
structure DI (p : Ac) (L : List (Nat × Nat)) (R : Nat) : Prop where
 links : p.links = some L
 roles : p.roles = (R : Int)
 r2 : 2 <= R
 r5 : R <= 5
 hok : GM L
 inr : InRol R L
 len : L.length <= 25
 start : p.start &&& BB R = p.start
 rlen : p.rules.length <= 6
 rules : ∀ z ∈ p.rules, ROk R (BB R) z
 nlen : p.never.length <= 3
 never : ∀ z ∈ p.never, KOk (BB R) z /\ Bz z (closM L p.start) = false
 glen : p.goal.length <= 3
 gpos : 1 <= p.goal.length
 goal : ∀ z ∈ p.goal, KOk (BB R) z
theorem FB (l : List B7) (b : Bool) (y n : Nat) (t o : Int) : AW (l ++ [⟨b, y, n, t, o⟩]) = AW l ++ [.bool b, .int .u64 (y : Nat), .int .u64 (n : Nat), .int .i64 t, .int .i64 o] := by rw [Hy]; rfl
theorem Gw (l : List (Nat × Nat)) (y n : Nat) : Bl (l ++ [(y, n)]) = Bl l ++ [.int .u64 (y : Nat), .int .u64 (n : Nat)] := by rw [rcells_append]; rfl
theorem ty_mkc : B6 Tryz.prog 35 152 2 16 := ⟨Tryz.underlying35, by kernel_rfl⟩
theorem FZ {α : Type} {P : α -> Prop} {l : List α} {x : α} (h : ∀ z ∈ l, P z) (hx : P x) : ∀ z ∈ l ++ [x], P z := fun z hz => by
 rcases List.mem_append.1 hz with h1 | h1
 ·exact h z h1
 ·rw [List.mem_singleton.1 h1]; exact hx
set_option maxHeartbeats 4000000 in
theorem rmake31_any {w0 w : World} {F : List Aa} {K : (Nat -> Prop) -> World -> Prop} {v : Value} {l : List Nat} (hl : ∀ x ∈ l, x < 256) (hS : St w0 w F K) (kp : ∀ D w, K D w -> Sl w D 1 v l.length (Fj l)) :
  Calls Tryz.prog 45 #[v] w fun e w' => ∃ u p L R, e = .returned u /\ DI p L R /\ St w0 w' F fun D w => K D w /\ DY w D u p := by
 obtain ⟨A, c, rfl, hc1, hc2⟩ := (kp _ _ hS.ro).shape
 have HL := Lib.hid hl
 have KS := Lib.hid hS.stable
 clear hl
 go_enter Tryz.func45, Tryz.ntmps45
 go_wp2_with (first
  | ((with_reducible refine qA 2 ?_); refine qa hS #[.int .i64 0, .slice none 0 0, .int .u64 0, .slice none 0 0, .slice none 0 0, .slice none 0 0] ?_; clear hS; intro g2 w_ hS)
  | ((with_reducible refine qA 27 ?_); refine Ad rfl _ _ rfl #[.slice A l.length c, .int .i64 0] (by kernel_rfl) ?_; (try simp only [Act.put, List.setIfInBounds_toArray, List.set_cons_zero, List.set_cons_succ]))
  | ((with_reducible refine qA 28 ?_); refine At hS rfl _ _ rfl (.agg #[.slice A l.length c, .int .i64 0]) _ rfl rfl ?_; clear hS; intro q w_ hS; (try simp only [Act.put, Act.eval, zz, Value.cells] at hS))
  | (go_at_call 88; first
    | (refine (C0 (at_ := 0) HL.out (by omega) hS 0 rfl kp).mono ?_; clear hS; rintro e w_ ⟨b, hb, rfl, hS⟩; replace hS : St w0 w_ (.box q 146 #[.slice A l.length c, .int .i64 1] :: .box g2 37 #[.int .i64 0, .slice none 0 0, .int .u64 0, .slice none 0 0, .slice none 0 0, .slice none 0 0] :: F) K := hS)
    | (refine (C0 (at_ := 1) HL.out (by omega) hS 1 rfl kp).mono ?_; clear hS; rintro e w_ ⟨lk, hlk, rfl, hS⟩; replace hS : St w0 w_ (.box g4 37 #[.int .i64 (R : Nat), .slice none 0 0, .int .u64 0, .slice none 0 0, .slice none 0 0, .slice none 0 0] :: .box q 146 #[.slice A l.length c, .int .i64 2] :: .box g2 37 #[.int .i64 0, .slice none 0 0, .int .u64 0, .slice none 0 0, .slice none 0 0, .slice none 0 0] :: F) K := hS))
  | ((with_reducible refine qA 31 ?_); refine CC (m := 4) rfl _ _ _ _ rfl rfl rfl (by decide) ?_; intro r4 hr4)
  | ((with_reducible refine qA 32 ?_); refine st_addN (n := 2) rfl _ _ _ _ rfl (fun z => 2 <= z /\ z <= 5) rfl rfl (by omega) (by omega) ?_; intro R hR)
  | ((with_reducible refine qA 33 ?_); refine Ad rfl _ _ rfl #[.int .i64 (R : Nat), .slice none 0 0, .int .u64 0, .slice none 0 0, .slice none 0 0, .slice none 0 0] (by kernel_rfl) ?_; (try simp only [Act.put, List.setIfInBounds_toArray, List.set_cons_zero, List.set_cons_succ]))
  | ((with_reducible refine qA 4 ?_); refine qa hS #[.int .i64 0, .slice none 0 0, .int .u64 0, .slice none 0 0, .slice none 0 0, .slice none 0 0] ?_; clear hS; intro g4 w_ hS)
  | ((with_reducible refine qM ?_); (first | refine qS hS ?_ | refine qT hS ?_); clear hS; intro w_ hS; (try simp only [Act.put, Act.eval, zz, Value.cells] at hS))
  | ((with_reducible refine qK ?_); refine qC hS ?_)
  | ((with_reducible refine qA 37 ?_); refine BigFrame.wpList_want rfl fun _ hK => AH (vx := .int .u8 2) (vy := .int .u64 (R : Nat)) rfl rfl rfl rfl (run_maskshl hR.2) (hK _ _ ?_))
  | ((with_reducible refine qA 38 ?_); refine DB (k := .u8) rfl _ _ _ _ _ rfl rfl rfl (fun z => z < 256 /\ Hid (z = BB R)) (z := BB R) rfl (run_msub hR.1 hR.2) ⟨by unfold BB; have := Nat.pow_le_pow_right (n := 2) (by decide) (show R + 1 <= 6 by omega); omega, Lib.hid rfl⟩ ?_; rintro m ⟨hm, HM⟩))
 have h64 : R < 64 := by omega
 replace hS := hS.mono (KS.out.and (Ah (by decide) (size := 2) (v := .slice none 0 0) (n := 0) (xs := A7 []))) fun D w h => ⟨h, Sl.none_⟩
 go_loopw [7, 8, 9] (fun nv av cv wr => ∃ (a n : Nat) (pv : Value) (L : List (Nat × Nat)), av = .int .i64 (a : Nat) /\ nv = .int .i64 (n : Nat) /\ 1 <= a /\ a <= R /\ n <= 5 * (a - 1) /\ L.length <= n /\ Hid (GM L) /\ Hid (InRol R L) /\ St w0 wr (.box g4 37 #[.int .i64 (R : Nat), pv, .int .u64 0, .slice none 0 0, .slice none 0 0, .slice none 0 0] :: .box q 146 #[.slice A l.length c, .int .i64 2] :: .box g2 37 #[.int .i64 0, .slice none 0 0, .int .u64 0, .slice none 0 0, .slice none 0 0, .slice none 0 0] :: F) fun D w => K D w /\ Sl w D 2 pv L.length (A7 L)) (fun _ av _ _ => R - (intOf av).toNat)
 case atStart => exact ⟨1, 0, _, [], rfl, rfl, by omega, by omega, by omega, by simp, Lib.hid GM.nil, Lib.hid (fun z hz => by simp at hz), hS⟩
 case round =>
  clear hS
  obtain ⟨a, n, pv, L, rfl, rfl, ha1, haR, hn, hLn, HH, HR, hS⟩ := hrel
  by_cases haR2 : a < R
  ·go_wp2_with (first | ((with_reducible refine qB ?_); refine qc ?_ ?_ <;> intro h_ <;> go_prune) | ((with_reducible refine qK ?_); refine qC hS ?_))
   go_loopw [7, 9] (fun nv cv wr => ∃ (d n : Nat) (pv : Value) (L : List (Nat × Nat)), cv = .int .i64 (d : Nat) /\ nv = .int .i64 (n : Nat) /\ a + 1 <= d /\ d <= R + 1 /\ n + a + 1 <= 5 * (a - 1) + d /\ L.length <= n /\ Hid (GM L) /\ Hid (InRol R L) /\ St w0 wr (.box g4 37 #[.int .i64 (R : Nat), pv, .int .u64 0, .slice none 0 0, .slice none 0 0, .slice none 0 0] :: .box q 146 #[.slice A l.length c, .int .i64 2] :: .box g2 37 #[.int .i64 0, .slice none 0 0, .int .u64 0, .slice none 0 0, .slice none 0 0, .slice none 0 0] :: F) fun D w => K D w /\ Sl w D 2 pv L.length (A7 L)) (fun _ cv _ => R + 1 - (intOf cv).toNat)
   case atStart => exact ⟨a + 1, n, pv, L, by go_num, rfl, by omega, by omega, by omega, hLn, HH, HR, hS⟩
   case round =>
    clear hS HH HR hLn hn
    obtain ⟨d, n, pv, L, rfl, rfl, hd1, hdR, hn, hLn, HH, HR, hS⟩ := hrel
    by_cases hdR2 : d <= R
    ·go_wp2_with (first
      | ((with_reducible refine qK ?_); refine qC hS ?_)
      | ((with_reducible refine qA 57 ?_); refine CC (m := 8) rfl _ _ _ _ rfl rfl rfl (by decide) ?_; intro z57 h57)
      | ((with_reducible refine qA 59 ?_); refine DB (k := .i64) rfl _ _ _ _ _ rfl rfl rfl (fun _ => True) rfl (run_shrN (k := z57) (by omega)) trivial ?_; intro z59 _)
      | ((with_reducible refine qA 60 ?_); refine CC (m := 2) rfl _ _ _ _ rfl rfl rfl (by decide) ?_; intro z60 h60)
      | ((with_reducible refine qA 64 ?_); refine CC (m := 3) rfl _ _ _ _ rfl rfl rfl (by decide) ?_; intro z64 h64_)
      | ((with_reducible refine qB ?_); refine qc ?_ ?_ <;> intro h_ <;> go_prune)
      | (go_at_call 89; refine (rlink_st HH.out HR.out ha1 (by omega) hdR2 h64 (by omega) hS (fun D w h => h.2)).mono ?_; clear hS; rintro e w_ ⟨v2, z2, L2, rfl, HH2, HR2, hl2, hS⟩; replace HH2 := Lib.hid HH2; replace HR2 := Lib.hid HR2; obtain ⟨A2, c2, rfl, _, _⟩ := hS.ro.2.shape)
      | ((with_reducible refine qM ?_); (first | refine qS hS ?_ | refine qT hS ?_); clear hS; intro w_ hS; (try simp only [Act.put, Act.eval, zz, Value.cells] at hS)))
     all_goals first
      | exact ⟨⟨d + 1, n + 1, _, L2, by go_num, by go_num, by omega, by omega, by omega, by omega, HH2, HR2, hS.mono (KS.out.and (Ah (by decide))) fun D w h => ⟨h.1.1, h.2⟩⟩, by simp [intOf]; omega⟩
      | exact ⟨⟨d + 1, n + 1, pv, L, by go_num, by go_num, by omega, by omega, by omega, by omega, HH, HR, hS⟩, by simp [intOf]; omega⟩
    ·go_wp2_with (first | ((with_reducible refine qB ?_); refine qc ?_ ?_ <;> intro h_ <;> go_prune) | ((with_reducible refine qK ?_); refine qC hS ?_))
     exact ⟨⟨a + 1, n, pv, L, by go_num, rfl, by omega, by omega, by omega, by omega, HH, HR, hS⟩, by simp [intOf]; omega⟩
  ·have hnn : n <= 25 := by omega
   clear ha1 haR hn hc1 hc2
   go_wp2_with (first
    | ((with_reducible refine qB ?_); refine qc ?_ ?_ <;> intro h_ <;> go_prune)
    | ((with_reducible refine qK ?_); refine qC hS ?_)
    | (go_at_call 88; first | (refine (C0 (at_ := 2) HL.out (by omega) hS 1 rfl (fun D w h => kp D w h.1)).mono ?_; clear hS; rintro e w_ ⟨b3, hb3, rfl, hS⟩; replace hS : St w0 w_ (.box g4 37 #[.int .i64 (R : Nat), pv, .int .u64 0, .slice none 0 0, .slice none 0 0, .slice none 0 0] :: .box q 146 #[.slice A l.length c, .int .i64 ((2 + 1 : Nat) : Int)] :: .box g2 37 #[.int .i64 0, .slice none 0 0, .int .u64 0, .slice none 0 0, .slice none 0 0, .slice none 0 0] :: F) (fun D w => K D w /\ Sl w D 2 pv L.length (A7 L)) := hS) | (refine (C0 (at_ := 2 + 1) HL.out (by omega) hS 1 rfl (fun D w h => kp D w h.1)).mono ?_; clear hS; rintro e w_ ⟨b4, hb4, rfl, hS⟩; replace hS : St w0 w_ (.box g4 37 #[.int .i64 (R : Nat), pv, .int .u64 (s0 : Nat), .slice none 0 0, .slice none 0 0, .slice none 0 0] :: .box q 146 #[.slice A l.length c, .int .i64 ((2 + 1 + 1 : Nat) : Int)] :: .box g2 37 #[.int .i64 0, .slice none 0 0, .int .u64 0, .slice none 0 0, .slice none 0 0, .slice none 0 0] :: F) (fun D w => K D w /\ Sl w D 2 pv L.length (A7 L)) := hS))
    | ((with_reducible refine qA 82 ?_); refine Fu rfl _ _ _ _ rfl _ _ rfl rfl (by omega) (by omega) ?_; intro s0 hs0 es0)
    | ((with_reducible refine qA 87 ?_); refine CC (m := 7) rfl _ _ _ _ rfl rfl rfl (by decide) ?_; intro RU hRU)
    | ((with_reducible refine qM ?_); (first | refine qS hS ?_ | refine qT hS ?_); clear hS; intro w_ hS; (try simp only [Act.put, Act.eval, zz, Value.cells] at hS)))
   have HS0 : Hid (s0 &&& m = s0) := Lib.hid (by have h := es0.out; simp only [Int.toNat_natCast] at h; rw [h, It])
   clear es0 hb3 hb4
   obtain ⟨Ap, cp, rfl, _, _⟩ := hS.ro.2.shape
   obtain ⟨K1, k1, kk1, hS2⟩ : ∃ K1 : (Nat -> Prop) -> World -> Prop, (∀ D w, K1 D w -> K D w) /\ (∀ D w, K1 D w -> Sl w D 2 (.slice Ap L.length cp) L.length (A7 L)) /\ St w0 w_ (.box g4 37 #[.int .i64 (R : Nat), .slice Ap L.length cp, .int .u64 (s0 : Nat), .slice none 0 0, .slice none 0 0, .slice none 0 0] :: .box q 146 #[.slice A l.length c, .int .i64 ((2 + 1 + 1 : Nat) : Int)] :: .box g2 37 #[.int .i64 0, .slice none 0 0, .int .u64 0, .slice none 0 0, .slice none 0 0, .slice none 0 0] :: F) K1 := ⟨_, fun _ _ h => h.1, fun _ _ h => h.2, hS⟩
   clear hS
   have hS := hS2.nil 154 5
   clear hS2
   have KS1 := Lib.hid hS.stable
   go_loopw [11] (fun kv wr => ∃ (k t : Nat) (rv : Value) (rs : List B7), kv = .int .i64 (k : Nat) /\ k <= RU /\ t <= 4 + 4 * k /\ Hid (rs.length = k) /\ Hid (∀ z ∈ rs, ROk R m z) /\ St w0 wr (.own rv 154 5 k (AW rs) :: .box g4 37 #[.int .i64 (R : Nat), .slice Ap L.length cp, .int .u64 (s0 : Nat), rv, .slice none 0 0, .slice none 0 0] :: .box q 146 #[.slice A l.length c, .int .i64 ((t : Nat) : Int)] :: .box g2 37 #[.int .i64 0, .slice none 0 0, .int .u64 0, .slice none 0 0, .slice none 0 0, .slice none 0 0] :: F) K1) (fun kv _ => RU - (intOf kv).toNat)
   case atStart => exact ⟨0, 2 + 1 + 1, _, [], rfl, by omega, by omega, Lib.hid rfl, Lib.hid (fun z hz => by simp at hz), hS⟩
   case round =>
    clear hS
    obtain ⟨k, t, rv, rs, rfl, hk, ht, HRL, HRS, hS⟩ := hrel
    obtain ⟨Ar, cr, rfl, _, _⟩ := B9 (hS.own 0 rfl)
    by_cases hkR : k < RU
    ·have hk7 : k < 7 := by omega
     go_wp2_with (first
      | (go_at_call 88; first | (refine (C0 (at_ := t) HL.out (by omega) hS 2 rfl (fun D w h => kp D w (k1 D w h))).mono ?_; clear hS; rintro e w_ ⟨kd, hkd, rfl, hS⟩; simp only [List.set_cons_succ, List.set_cons_zero] at hS) | (refine (C0 (at_ := t + 1) HL.out (by omega) hS 2 rfl (fun D w h => kp D w (k1 D w h))).mono ?_; clear hS; rintro e w_ ⟨tg, htg, rfl, hS⟩; simp only [List.set_cons_succ, List.set_cons_zero] at hS) | (refine (C0 (at_ := t + 1 + 1) HL.out (by omega) hS 2 rfl (fun D w h => kp D w (k1 D w h))).mono ?_; clear hS; rintro e w_ ⟨cy, hcy, rfl, hS⟩; simp only [List.set_cons_succ, List.set_cons_zero] at hS) | (refine (C0 (at_ := t + 1 + 1 + 1) HL.out (by omega) hS 2 rfl (fun D w h => kp D w (k1 D w h))).mono ?_; clear hS; rintro e w_ ⟨cz, hcz, rfl, hS⟩; simp only [List.set_cons_succ, List.set_cons_zero] at hS))
      | ((with_reducible refine qA 102 ?_); refine CC (m := 4) rfl _ _ _ _ rfl rfl rfl (by decide) ?_; intro z102 h102)
      | ((with_reducible refine qA 103 ?_); refine st_someB rfl _ _ _ _ _ rfl rfl rfl rfl (run_eqB rfl) ?_; intro rvk)
      | ((with_reducible refine qA 107 ?_); refine CC (m := R) rfl _ _ _ _ rfl rfl rfl (by omega) ?_; intro z107 h107)
      | ((with_reducible refine qA 108 ?_); refine st_addN (n := 1) rfl _ _ _ _ rfl (fun z => 1 <= z /\ z <= R) rfl rfl (by omega) (by omega) ?_; intro z108 h108)
      | ((with_reducible refine qA 110 ?_); refine Ad rfl _ _ rfl #[.bool rvk, .int .u64 0, .int .u64 0, .int .i64 (z108 : Nat), .int .i64 (k : Nat)] (by kernel_rfl) ?_; (try simp only [Act.put, List.setIfInBounds_toArray, List.set_cons_zero, List.set_cons_succ]))
      | ((with_reducible refine qA 16 ?_); refine qa hS #[.bool false, .int .u64 0, .int .u64 0, .int .i64 0, .int .i64 0] ?_; clear hS; intro g16 w_ hS)
      | ((with_reducible refine qm 154 ?_); refine qS hS ?_; clear hS; intro w_ hS; (try simp only [Act.put, Act.eval, zz, Value.cells] at hS); cases rvk)
      | (go_at_call 90; refine (Gi cy cz m hm _).mono ?_; rintro r_ w_ ⟨_, rfl, ⟨ya, na, rfl, s1, s2, s3, s4, s5⟩, hb_⟩; replace hS := hS.ext hb_; clear hb_)
      | ((with_reducible refine qm 152 ?_); refine st_bstore2 hS 0 rfl _ _ _ rfl _ _ _ _ rfl rfl rfl (by simp) rfl rfl (by kernel_rfl) ?_; clear hS; intro w_ hS; (try simp only [Act.put, Act.eval, zz, Value.cells] at hS))
      | ((with_reducible refine qK ?_); refine qL hS Tryz.underlying154 ?_)
      | ((with_reducible refine qA 122 ?_); first | (refine Di hS 1 rfl rfl _ _ _ _ rfl rfl ty_rrules (.slice Ar k cr) k (AW rs) (.agg #[.bool false, .int .u64 (ya : Nat), .int .u64 (na : Nat), .int .i64 (z108 : Nat), .int .i64 (k : Nat)]) #[.bool false, .int .u64 (ya : Nat), .int .u64 (na : Nat), .int .i64 (z108 : Nat), .int .i64 (k : Nat)] rfl (by kernel_rfl) rfl rfl rfl rfl (by intro u hu; simp at hu; rcases hu with rfl | rfl | rfl | rfl | rfl <;> rfl) (by omega) (by omega) ?_; clear hS; intro z_ v' w_ hS; (try simp only [Act.put, Act.eval, zz, Value.cells] at hS); obtain ⟨A', c', rfl, _, _⟩ := B9 (hS.own 1 rfl)) | (refine Di hS 1 rfl rfl _ _ _ _ rfl rfl ty_rrules (.slice Ar k cr) k (AW rs) (.agg #[.bool true, .int .u64 0, .int .u64 0, .int .i64 (z108 : Nat), .int .i64 (k : Nat)]) #[.bool true, .int .u64 0, .int .u64 0, .int .i64 (z108 : Nat), .int .i64 (k : Nat)] rfl (by kernel_rfl) rfl rfl rfl rfl (by intro u hu; simp at hu; rcases hu with rfl | rfl | rfl | rfl <;> rfl) (by omega) (by omega) ?_; clear hS; intro z_ v' w_ hS; (try simp only [Act.put, Act.eval, zz, Value.cells] at hS); obtain ⟨A', c', rfl, _, _⟩ := B9 (hS.own 1 rfl)))
      | ((with_reducible refine qB ?_); refine qc ?_ ?_ <;> intro h_ <;> go_prune)
      | ((with_reducible refine qK ?_); refine qC hS ?_)
      | ((with_reducible refine qM ?_); (first | refine qS hS ?_ | refine qT hS ?_); clear hS; intro w_ hS; (try simp only [Act.put, Act.eval, zz, Value.cells] at hS)))
     ·have e : AW (rs ++ [⟨false, ya, na, (z108 : Nat), (k : Nat)⟩]) = AW rs ++ [.bool false, .int .u64 (ya : Nat), .int .u64 (na : Nat), .int .i64 (z108 : Nat), .int .i64 (k : Nat)] := FB ..
      refine ⟨⟨k + 1, _, .slice A' (k + 1) c', rs ++ [⟨false, ya, na, (z108 : Nat), (k : Nat)⟩], by go_num, hkR, ?_, Lib.hid (by rw [List.length_append, HRL.out]; rfl), Lib.hid (FZ HRS.out ⟨⟨by simp only; omega, by simp only; omega⟩, ⟨by simp only; omega, by simp only; omega⟩, s1, s2, s3, s4, s5, fun h => by cases h⟩), by rw [e]; exact hS.sub (List.sublist_cons_self _ _)⟩, by simp [intOf]; omega⟩
      omega
     ·have e : AW (rs ++ [⟨true, 0, 0, (z108 : Nat), (k : Nat)⟩]) = AW rs ++ [.bool true, .int .u64 0, .int .u64 0, .int .i64 (z108 : Nat), .int .i64 (k : Nat)] := FB ..
      refine ⟨⟨k + 1, _, .slice A' (k + 1) c', rs ++ [⟨true, 0, 0, (z108 : Nat), (k : Nat)⟩], by go_num, hkR, ?_, Lib.hid (by rw [List.length_append, HRL.out]; rfl), Lib.hid (FZ HRS.out ⟨⟨by simp only; omega, by simp only; omega⟩, ⟨by simp only; omega, by simp only; omega⟩, Nat.zero_and m, Nat.zero_and m, Nat.zero_and 0, Nat.zero_lt_succ _, Nat.zero_lt_succ _, fun _ => ⟨rfl, rfl⟩⟩), by rw [e]; exact hS.sub (List.sublist_cons_self _ _)⟩, by simp [intOf]; omega⟩
      omega
    ·obtain rfl : RU = k := by omega
     go_wp2_with (first
      | (go_at_call 88; first | (refine (C0 (at_ := t) HL.out (by omega) hS 2 rfl (fun D w h => kp D w (k1 D w h))).mono ?_; clear hS; rintro e w_ ⟨bv, hbv, rfl, hS⟩; simp only [List.set_cons_succ, List.set_cons_zero] at hS) | (refine (C0 (at_ := t + 1) HL.out (by omega) hS 2 rfl (fun D w h => kp D w (k1 D w h))).mono ?_; clear hS; rintro e w_ ⟨bg, hbg, rfl, hS⟩; simp only [List.set_cons_succ, List.set_cons_zero] at hS))
      | ((with_reducible refine qA 127 ?_); refine CC (m := 4) rfl _ _ _ _ rfl rfl rfl (by decide) ?_; intro NV hNV)
      | ((with_reducible refine qA 130 ?_); refine CC (m := 3) rfl _ _ _ _ rfl rfl rfl (by decide) ?_; intro g3 hg3)
      | ((with_reducible refine qA 131 ?_); refine st_addN (n := 1) rfl _ _ _ _ rfl (fun z => 1 <= z /\ z <= 3) rfl rfl (by omega) (by omega) ?_; intro GO hGO)
      | ((with_reducible refine qB ?_); refine qc ?_ ?_ <;> intro h_ <;> go_prune))
     obtain ⟨K2, j1, k2, kr2, hS2⟩ : ∃ K2 : (Nat -> Prop) -> World -> Prop, (∀ D w, K2 D w -> K D w) /\ (∀ D w, K2 D w -> Sl w D 2 (.slice Ap L.length cp) L.length (A7 L)) /\ (∀ D w, K2 D w -> Sl w D 5 (.slice Ar RU cr) RU (AW rs)) /\ St w0 w_ (.box g4 37 #[.int .i64 (R : Nat), .slice Ap L.length cp, .int .u64 (s0 : Nat), .slice Ar RU cr, .slice none 0 0, .slice none 0 0] :: .box q 146 #[.slice A l.length c, .int .i64 ((t + 1 + 1 : Nat) : Int)] :: .box g2 37 #[.int .i64 0, .slice none 0 0, .int .u64 0, .slice none 0 0, .slice none 0 0, .slice none 0 0] :: F) K2 := ⟨_, fun _ _ h => k1 _ _ h.1, fun _ _ h => kk1 _ _ h.1, fun _ _ h => h.2, hS.freeze 0 (by decide) rfl⟩
     clear hS
     have hS := hS2.nil 152 2
     clear hS2
     have KS2 := Lib.hid hS.stable
     go_loopw [19] (fun jv wr => ∃ (j u : Nat) (nv : Value) (ns : List (Nat × Nat)), jv = .int .i64 (j : Nat) /\ j <= NV /\ u <= 40 + 2 * j /\ ns.length <= j /\ Hid (∀ z ∈ ns, KOk m z /\ Bz z (closM L s0) = false) /\ St w0 wr (.own nv 152 2 ns.length (Bl ns) :: .box g4 37 #[.int .i64 (R : Nat), .slice Ap L.length cp, .int .u64 (s0 : Nat), .slice Ar RU cr, nv, .slice none 0 0] :: .box q 146 #[.slice A l.length c, .int .i64 ((u : Nat) : Int)] :: .box g2 37 #[.int .i64 0, .slice none 0 0, .int .u64 0, .slice none 0 0, .slice none 0 0, .slice none 0 0] :: F) K2) (fun jv _ => NV - (intOf jv).toNat)
     case atStart => exact ⟨0, t + 1 + 1, _, [], rfl, by omega, by omega, by simp, Lib.hid (fun z hz => by simp at hz), hS⟩
     case round =>
      clear hS
      obtain ⟨j, u, nv, ns, rfl, hj, hu, hnl, HNS, hS⟩ := hrel
      obtain ⟨An, cn, rfl, _, _⟩ := B9 (hS.own 0 rfl)
      by_cases hjN : j < NV
      ·go_wp2_with (first
        | (go_at_call 88; first | (refine (C0 (at_ := u) HL.out (by omega) hS 2 rfl (fun D w h => kp D w (j1 D w h))).mono ?_; clear hS; rintro e w_ ⟨yb, hyb, rfl, hS⟩; simp only [List.set_cons_succ, List.set_cons_zero] at hS) | (refine (C0 (at_ := u + 1) HL.out (by omega) hS 2 rfl (fun D w h => kp D w (j1 D w h))).mono ?_; clear hS; rintro e w_ ⟨nb, hnb, rfl, hS⟩; simp only [List.set_cons_succ, List.set_cons_zero] at hS))
        | ((with_reducible refine qA 145 ?_); refine CC (m := R) rfl _ _ _ _ rfl rfl rfl (by omega) ?_; intro z145 h145)
        | ((with_reducible refine qA 147 ?_); refine DB (k := .i64) rfl _ _ _ _ _ rfl rfl rfl (fun z => z < 256) (z := 2 ^ (z145 + 1)) rfl (run_shl2 (by omega)) (Nat.lt_of_le_of_lt (Nat.pow_le_pow_right (by decide) (show z145 + 1 <= 5 by omega)) (by decide)) ?_; intro z147 h147)
        | ((with_reducible refine qA 148 ?_); refine DB (k := .i64) rfl _ _ _ _ _ rfl rfl rfl (fun _ => True) (z := yb ||| z147) rfl (run_orN hyb h147) trivial ?_; intro z148 _)
        | (go_at_call 90; refine (Gi z148 nb m hm _).mono ?_; rintro r_ w_ ⟨_, rfl, ⟨ya, na, rfl, s1, s2, s3, s4, s5⟩, hb_⟩; replace hS := hS.ext hb_; clear hb_)
        | ((with_reducible refine qA 22 ?_); refine qa hS #[.int .u64 0, .int .u64 0] ?_; clear hS; intro g22 w_ hS)
        | ((with_reducible refine qB ?_); refine qc ?_ ?_ <;> intro h_ <;> go_prune)
        | ((with_reducible refine qK ?_); refine qC hS ?_)
        | ((with_reducible refine qM ?_); (first | refine qS hS ?_ | refine qT hS ?_); clear hS; intro w_ hS; (try simp only [Act.put, Act.eval, zz, Value.cells] at hS)))
       obtain ⟨hld, hHb⟩ : ∃ hld : Bool, hld = Bz (ya, na) (closM L s0) := ⟨_, rfl⟩
       have HB := Lib.hid hHb
       clear hHb
       refine C8 [.i (.agg #[.int .u64 (ya : Nat), .int .u64 (na : Nat)]), .q g4 1, .i (.slice Ap L.length cp), .q g4 2, .i (.int .u64 (s0 : Nat)), .i (.int .u64 (closM L s0 : Nat)), .i (.bool hld), .i (.bool (!hld))] ⟨uR (h := fun w hW hN => (hS.ext hW).box 0 rfl), uF, uC (h := fun w hW hN => (hS.ext hW).shut 2 rfl 1 rfl), uF, uC (h := fun w hW hN => (hS.ext hW).shut 2 rfl 2 rfl), ?_, ?_, uU, trivial⟩ ?_
       ·refine uT fun b__ w hW hE K hK => ?_
        have e154 := hE 154
        have e156 := hE 156
        exact AF rfl (by kernel_rfl) (by simp only [List.map_cons, List.map_nil, e154, e156]) (rclos_any (k2 _ _ (hS.ext hW).ro) HH.out.inr (by omega) s0) fun v w' h hb => hK v w' h hb
       ·refine uT fun b__ w hW hE K hK => ?_
        have e152 := hE 152
        have e157 := hE 157
        exact AF rfl (by kernel_rfl) (by simp only [List.map_cons, List.map_nil, e152, e157]) (rholds_any (y := ya) (n := na) (by unfold Bv; omega) (by unfold Bv; omega) (closM_ltT L s0) _) fun v w' h hb => hK v w' (h.trans (by rw [HB.out])) hb
       ·intro vs wz hW hT
        obtain ⟨e152, e153, e154, e155, e156, e157, e158, e159, -⟩ := hT
        simp only [Aw, Act.put, zz, ze]
        replace hS := hS.ext hW
        rw [e159]
        clear hW e152 e153 e154 e155 e156 e157 e158 e159
        cases hld with
        | true =>
         go_wp2_with fail
         exact ⟨⟨j + 1, u + 1 + 1, _, ns, by go_num, hjN, by omega, by omega, HNS, hS.sub (List.sublist_cons_self _ _)⟩, by simp [intOf]; omega⟩
        | false =>
         go_wp2_with (first
          | ((with_reducible refine qK ?_); refine qC hS ?_)
          | ((with_reducible refine qK ?_); refine qL hS Tryz.underlying152 ?_)
          | ((with_reducible refine qA 163 ?_); refine Di hS 1 rfl rfl _ _ _ _ rfl rfl ty_mkc (.slice An ns.length cn) ns.length (Bl ns) (.agg #[.int .u64 (ya : Nat), .int .u64 (na : Nat)]) #[.int .u64 (ya : Nat), .int .u64 (na : Nat)] rfl (by kernel_rfl) rfl rfl rfl rfl (by intro u hu; simp at hu; rcases hu with rfl | rfl <;> rfl) (by omega) (by omega) ?_; clear hS; intro z_ v' w_ hS; (try simp only [Act.put, Act.eval, zz, Value.cells] at hS); obtain ⟨A', c', rfl, _, _⟩ := B9 (hS.own 1 rfl))
          | ((with_reducible refine qM ?_); (first | refine qS hS ?_ | refine qT hS ?_); clear hS; intro w_ hS; (try simp only [Act.put, Act.eval, zz, Value.cells] at hS)))
         have e : Bl (ns ++ [(ya, na)]) = Bl ns ++ [.int .u64 (ya : Nat), .int .u64 (na : Nat)] := Gw ..
         exact ⟨⟨j + 1, u + 1 + 1, .slice A' (ns.length + 1) c', ns ++ [(ya, na)], by go_num, hjN, by omega, by simp; omega, Lib.hid (FZ HNS.out ⟨⟨s1, s2, s3, s4, s5⟩, HB.out.symm⟩), by rw [e, List.length_append]; exact hS.sub (List.sublist_cons_self _ _)⟩, by simp [intOf]; omega⟩
      ·obtain rfl : NV = j := by omega
       go_wp2_with (first | ((with_reducible refine qB ?_); refine qc ?_ ?_ <;> intro h_ <;> go_prune))
       obtain ⟨K3, j3, k3, kr3, kn3, hS2⟩ : ∃ K3 : (Nat -> Prop) -> World -> Prop, (∀ D w, K3 D w -> K D w) /\ (∀ D w, K3 D w -> Sl w D 2 (.slice Ap L.length cp) L.length (A7 L)) /\ (∀ D w, K3 D w -> Sl w D 5 (.slice Ar RU cr) RU (AW rs)) /\ (∀ D w, K3 D w -> Sl w D 2 (.slice An ns.length cn) ns.length (Bl ns)) /\ St w0 wr (.box g4 37 #[.int .i64 (R : Nat), .slice Ap L.length cp, .int .u64 (s0 : Nat), .slice Ar RU cr, .slice An ns.length cn, .slice none 0 0] :: .box q 146 #[.slice A l.length c, .int .i64 ((u : Nat) : Int)] :: .box g2 37 #[.int .i64 0, .slice none 0 0, .int .u64 0, .slice none 0 0, .slice none 0 0, .slice none 0 0] :: F) K3 := ⟨_, fun _ _ h => j1 _ _ h.1, fun _ _ h => k2 _ _ h.1, fun _ _ h => kr2 _ _ h.1, fun _ _ h => h.2, hS.freeze 0 (by decide) rfl⟩
       clear hS
       have hS := hS2.nil 152 2
       clear hS2
       have KS3 := Lib.hid hS.stable
       go_loopw [23] (fun jv wr => ∃ (j x : Nat) (gv : Value) (gs : List (Nat × Nat)), jv = .int .i64 (j : Nat) /\ j <= GO /\ x <= 50 + 2 * j /\ Hid (gs.length = j) /\ Hid (∀ z ∈ gs, KOk m z) /\ St w0 wr (.own gv 152 2 j (Bl gs) :: .box g4 37 #[.int .i64 (R : Nat), .slice Ap L.length cp, .int .u64 (s0 : Nat), .slice Ar RU cr, .slice An ns.length cn, gv] :: .box q 146 #[.slice A l.length c, .int .i64 ((x : Nat) : Int)] :: .box g2 37 #[.int .i64 0, .slice none 0 0, .int .u64 0, .slice none 0 0, .slice none 0 0, .slice none 0 0] :: F) K3) (fun jv _ => GO - (intOf jv).toNat)
       case atStart => exact ⟨0, u, _, [], rfl, by omega, by omega, Lib.hid rfl, Lib.hid (fun z hz => by simp at hz), hS⟩
       case round =>
        clear hS
        obtain ⟨j, x, gv, gs, rfl, hj2, hx, HGL, HGS, hS⟩ := hrel
        obtain ⟨Ag, cg, rfl, _, _⟩ := B9 (hS.own 0 rfl)
        by_cases hjG : j < GO
        ·go_wp2_with (first
          | (go_at_call 88; first | (refine (C0 (at_ := x) HL.out (by omega) hS 2 rfl (fun D w h => kp D w (j3 D w h))).mono ?_; clear hS; rintro e w_ ⟨yb, hyb, rfl, hS⟩; simp only [List.set_cons_succ, List.set_cons_zero] at hS) | (refine (C0 (at_ := x + 1) HL.out (by omega) hS 2 rfl (fun D w h => kp D w (j3 D w h))).mono ?_; clear hS; rintro e w_ ⟨nb, hnb, rfl, hS⟩; simp only [List.set_cons_succ, List.set_cons_zero] at hS))
          | ((with_reducible refine qB ?_); refine qc ?_ ?_ <;> intro h_ <;> go_prune))
         have h0d := hS.drew
         refine wp_zS [5, 6, 7, 9] [some (.pointer (some ⟨g4, 5, none⟩)), some (.slice Ag j cg), some (.int .i64 (yb : Nat)), some (.int .i64 (nb : Nat)), some (.int .u8 (m : Nat)), none, none, none, some (.pointer (some ⟨g4, 5, none⟩)), none] (fun vs w => match vs with | [] => St w0 w (.own (.slice Ag j cg) 152 2 j (Bl gs) :: .box g4 37 #[.int .i64 (R : Nat), .slice Ap L.length cp, .int .u64 (s0 : Nat), .slice Ar RU cr, .slice An ns.length cn, .slice Ag j cg] :: .box q 146 #[.slice A l.length c, .int .i64 ((x + 1 + 1 : Nat) : Int)] :: .box g2 37 #[.int .i64 0, .slice none 0 0, .int .u64 0, .slice none 0 0, .slice none 0 0, .slice none 0 0] :: F) K3 | [z] => ∃ a b : Nat, z = .agg #[.int .u64 (a : Nat), .int .u64 (b : Nat)] /\ KOk m (a, b) /\ St w0 w (.own (.slice Ag j cg) 152 2 j (Bl gs) :: .box g4 37 #[.int .i64 (R : Nat), .slice Ap L.length cp, .int .u64 (s0 : Nat), .slice Ar RU cr, .slice An ns.length cn, .slice Ag j cg] :: .box q 146 #[.slice A l.length c, .int .i64 ((x + 1 + 1 : Nat) : Int)] :: .box g2 37 #[.int .i64 0, .slice none 0 0, .int .u64 0, .slice none 0 0, .slice none 0 0, .slice none 0 0] :: F) K3 | [_, z] => ∃ a b : Nat, KOk m (a, b) /\ St w0 w (.own (.slice Ag j cg) 152 2 j (Bl gs) :: .box g4 37 #[.int .i64 (R : Nat), .slice Ap L.length cp, .int .u64 (s0 : Nat), .slice Ar RU cr, .slice An ns.length cn, .slice Ag j cg] :: .box q 146 #[.slice A l.length c, .int .i64 ((x + 1 + 1 : Nat) : Int)] :: .box g2 37 #[.int .i64 0, .slice none 0 0, .int .u64 0, .slice none 0 0, .slice none 0 0, .slice none 0 0] :: F) (fun D w => K3 D w /\ Sl w D 2 z 1 [.int .u64 (a : Nat), .int .u64 (b : Nat)]) | [_, _, p'] => ∃ a b : Nat, KOk m (a, b) /\ St w0 w (.own p' 152 2 (j + 1) (Bl gs ++ [.int .u64 (a : Nat), .int .u64 (b : Nat)]) :: .box g4 37 #[.int .i64 (R : Nat), .slice Ap L.length cp, .int .u64 (s0 : Nat), .slice Ar RU cr, .slice An ns.length cn, .slice Ag j cg] :: .box q 146 #[.slice A l.length c, .int .i64 ((x + 1 + 1 : Nat) : Int)] :: .box g2 37 #[.int .i64 0, .slice none 0 0, .int .u64 0, .slice none 0 0, .slice none 0 0, .slice none 0 0] :: F) K3 | [_, _, p', _] => ∃ a b : Nat, KOk m (a, b) /\ St w0 w (.own p' 152 2 (j + 1) (Bl gs ++ [.int .u64 (a : Nat), .int .u64 (b : Nat)]) :: .box g4 37 #[.int .i64 (R : Nat), .slice Ap L.length cp, .int .u64 (s0 : Nat), .slice Ar RU cr, .slice An ns.length cn, p'] :: .box q 146 #[.slice A l.length c, .int .i64 ((x + 1 + 1 : Nat) : Int)] :: .box g2 37 #[.int .i64 0, .slice none 0 0, .int .u64 0, .slice none 0 0, .slice none 0 0, .slice none 0 0] :: F) K3 | _ => False) ?_ ⟨vF, ?_, vM, vM, vM, ?_, ?_, ?_, vF, ?_, trivial⟩ ?_
         ·first | assumption | (dsimp only; assumption)
         ·refine vR 0 2 fun b__ w vs hS h1 h2 hE K hK => ?_
          rcases vs with _ | ⟨x0, _ | ⟨x1, _ | ⟨x2, vs⟩⟩⟩ <;> first | (exfalso; first | exact hS | (revert h1 h2; simp <;> omega); done) | ((have e175 := hE 175); (first | exact Ab rfl e175 (by kernel_rfl) (hS.shut 1 rfl 5 rfl) (hK _ rfl) | (obtain ⟨_, _, _, hS⟩ := hS; exact Ab rfl e175 (by kernel_rfl) (hS.shut 1 rfl 5 rfl) (hK _ rfl)) | (obtain ⟨_, _, _, _, hS⟩ := hS; exact Ab rfl e175 (by kernel_rfl) (hS.shut 1 rfl 5 rfl) (hK _ rfl))))
         ·refine vX 0 fun b__ w vs hS hl hE K hK => ?_
          obtain rfl := Fm hl
          have e177 := hE 177
          have e178 := hE 178
          have e179 := hE 179
          exact BW rfl (by kernel_rfl) (by simp only [List.map_cons, List.map_nil, e177, e178, e179]) (Gi yb nb m hm _) fun e w' ⟨z, he, ⟨a, b, hz, h2, h3, h4, h5, h6⟩, hb_⟩ => ⟨z, he, hK z w' ⟨a, b, hz, ⟨h2, h3, h4, h5, h6⟩, hS.ext hb_⟩⟩
         ·refine vX 1 fun b__ w vs hS hl hE K hK => ?_
          obtain ⟨x0, rfl⟩ := Ey hl
          have e180 := hE 180
          obtain ⟨a, b, rfl, hk1, hS⟩ := hS
          refine BV (ps := [(0, .agg #[.int .u64 (a : Nat), .int .u64 (b : Nat)])]) (cells := #[.int .u64 (a : Nat), .int .u64 (b : Nat)]) rfl Tryz.underlying35 (by simp [e180]) (by kernel_rfl) ?_
          intro w' hbx hbel
          exact hK _ w' ⟨a, b, hk1, hS.ret hbel (Ah (by decide)) (⟨by simp, _, 1, rfl, by omega, by unfold maxLen; omega, fun _ => ⟨w.heap.size, 0, rfl, Nat.le_refl _, hbx.lt, fun j x hj => by rw [Nat.zero_add]; exact (hbx.cell j).trans (by simpa using hj)⟩⟩ : Sl w' (w.heap.size <= ·) 2 (.slice (some ⟨w.heap.size, 0, none⟩) 1 1) 1 [.int .u64 (a : Nat), .int .u64 (b : Nat)])⟩
         ·refine vX 2 fun b__ w vs hS hl hE K hK => ?_
          obtain ⟨x0, x1, rfl⟩ := Ex hl
          have e176 := hE 176
          have e181 := hE 181
          obtain ⟨a, b, hk1, h3⟩ := hS
          refine DR rfl ty_mkc e176 (h3.own 0 rfl) e181 h3.ro.2 (by intro u hu; simp at hu; rcases hu with rfl | rfl <;> rfl) (by omega) (by omega) h3.size ?_
          intro v' w' ho hg hat
          exact hK v' w' ⟨a, b, hk1, (h3.upd 0 rfl (.own v' 152 2 (j + 1) (Bl gs ++ [Value.int .u64 (a : Nat), Value.int .u64 (b : Nat)])) hg ho hat).mono KS3.out fun D w h => h.1⟩
         ·refine vX 3 fun b__ w vs hS hl hE K hK => ?_
          obtain ⟨x0, x1, x2, rfl⟩ := Ew hl
          have e183 := hE 183
          have e182 := hE 182
          obtain ⟨a, b, hk1, h3⟩ := hS
          refine CA rfl e183 e182 (h3.box 1 rfl) (by simp) (EG (h3.own 0 rfl)) (GZ (h3.own 0 rfl)) (by kernel_rfl) ?_
          intro w' hbx hup
          exact hK _ w' ⟨a, b, hk1, h3.upd 1 rfl (.box g4 37 #[.int .i64 (R : Nat), .slice Ap L.length cp, .int .u64 (s0 : Nat), .slice Ar RU cr, .slice An ns.length cn, x2]) (Bw hup) ⟨(h3.holds _ (List.mem_of_getElem? (i := 1) rfl)).1, hbx⟩ fun _ e => .inl e⟩
         ·intro us wz vs hS hl hT
          obtain ⟨x0, x1, x2, x3, rfl⟩ := vs_len4 hl
          obtain ⟨e175, e176, e177, e178, e179, e180, e181, e182, e183, -⟩ := hT
          clear hl
          simp only [Aw, Act.put, zz, ze]
          obtain ⟨a, b, hk1, hS⟩ := hS
          clear h0d
          go_wp2_with fail
          have e : Bl (gs ++ [(a, b)]) = Bl gs ++ [.int .u64 (a : Nat), .int .u64 (b : Nat)] := Gw ..
          exact ⟨⟨j + 1, x + 1 + 1, _, gs ++ [(a, b)], by go_num, hjG, by omega, Lib.hid (by rw [List.length_append, HGL.out]; rfl), Lib.hid (FZ HGS.out hk1), by rw [e]; exact hS⟩, by simp [intOf]; omega⟩
        ·obtain rfl : GO = j := by omega
         go_wp2_with (first
          | ((with_reducible refine qB ?_); refine qc ?_ ?_ <;> intro h_ <;> go_prune)
          | ((with_reducible refine qK ?_); refine qL hS Tryz.underlying37 ?_)
          | ((with_reducible refine qM ?_); (first | refine qS hS ?_ | refine qT hS ?_); clear hS; intro w_ hS; (try simp only [Act.put, Act.eval, zz, Value.cells] at hS)))
         have HM : DI ⟨R, some L, s0, rs, ns, gs⟩ L R := ⟨rfl, rfl, hR.1, hR.2, HH.out, HR.out, by omega, by rw [<- HM.out]; exact HS0.out, by show rs.length <= 6; rw [HRL.out]; omega, by rw [<- HM.out]; exact HRS.out, by show ns.length <= 3; omega, by rw [<- HM.out]; exact HNS.out, by show gs.length <= 3; rw [HGL.out]; omega, by show 1 <= gs.length; rw [HGL.out]; omega, by rw [<- HM.out]; exact HGS.out⟩
         have hS1 := hS.freeze 0 (by decide) rfl
         refine CH Tryz.results45 rfl (hS.box 3 rfl) Tryz.underlying37 rfl (by kernel_rfl) rfl ?_
         refine ⟨_, rfl, _, ⟨L, R, HM⟩, (hS1.sub (F' := F) (((List.sublist_cons_self _ _).trans (List.sublist_cons_self _ _)).trans (List.sublist_cons_self _ _))).mono (KS.out.and Fp) fun D w h => ⟨j3 _ _ h.1, ?_⟩⟩
         refine ⟨_, _, _, _, L, rfl, rfl, k3 _ _ h.1, ?_, kn3 _ _ h.1, ?_⟩
         ·show Sl w D 5 _ rs.length _; rw [HRL.out]; exact kr3 _ _ h.1
         ·show Sl w D 2 _ gs.length _; rw [HGL.out]; exact h.2
end
section
open Go.RowKit
structure GK where
 b : Option (Nat × Option (Array Value))
 K : (Nat -> Prop) -> World -> Prop
def GK.F (ty : TypeId) (zs : Array Value) (s : GK) : List Aa := match s.b with
 | none => []
 | some (g, o) => [.box g ty (o.getD zs)]
def GJ (w0 : World) (F : List Aa) (ty : TypeId) (zs : Array Value) (s : World × GK) : Prop := St w0 s.1 (s.2.F ty zs ++ F) s.2.K
def GR (w0 : World) (F : List Aa) (ty : TypeId) (zs : Array Value) (s s' : World × GK) : Prop :=
 (GJ w0 F ty zs s -> GJ w0 F ty zs s') /\ (∀ D w, s'.2.K D w -> s.2.K D w) /\ (∀ g, s.2.b = some (g, none) -> ∃ o, s'.2.b = some (g, o)) /\ (∀ g cs, s.2.b = some (g, some cs) -> s'.2.b = some (g, some cs))
theorem GR.refl {w0 : World} {F : List Aa} {ty : TypeId} {zs : Array Value} : ∀ s, GR w0 F ty zs s s := fun _ => ⟨id, fun _ _ h => h, fun _ h => ⟨_, h⟩, fun _ _ h => h⟩
theorem GR.var {w0 : World} {F : List Aa} {ty : TypeId} {zs : Array Value} {s s' : World × GK} (h : GR w0 F ty zs s s') {v : Value} (k : ∃ g o, v = .pointer (some ⟨g, 0, none⟩) /\ s.2.b = some (g, o)) : ∃ g o, v = .pointer (some ⟨g, 0, none⟩) /\ s'.2.b = some (g, o) := by
 obtain ⟨g, o, e, k⟩ := k
 cases o with
 | none => obtain ⟨o, k⟩ := h.2.2.1 g k; exact ⟨g, o, e, k⟩
 | some cs => exact ⟨g, _, e, h.2.2.2 g cs k⟩
theorem GR.trans {w0 : World} {F : List Aa} {ty : TypeId} {zs : Array Value} : ∀ a b c, GR w0 F ty zs a b -> GR w0 F ty zs b c -> GR w0 F ty zs a c := fun a b c h k =>
 ⟨fun j => k.1 (h.1 j), fun D w j => h.2.1 D w (k.2.1 D w j), fun g j => by
  obtain ⟨o, j2⟩ := h.2.2.1 g j
  obtain ⟨g', o', e, j3⟩ := k.var ⟨g, o, rfl, j2⟩
  injection e with e; injection e with e; injection e with e; subst e
  exact ⟨o', j3⟩, fun g cs j => k.2.2.2 g cs (h.2.2.2 g cs j)⟩
def GN (ia is : Nat) (i : Nat) (s : World × GK) : Prop := (i = ia -> s.2.b = none) /\ (i = is -> ∀ g cs, s.2.b ≠ some (g, some cs))
theorem GN.start {ia is : Nat} {w : World} {K : (Nat -> Prop) -> World -> Prop} (i : Nat) : GN ia is i (w, ⟨none, K⟩) := ⟨fun _ => rfl, fun _ _ _ h => by cases h⟩
theorem GK.more {w0 : World} {F : List Aa} {ty : TypeId} {zs : Array Value} {w : World × GK} {w' : World} {K' : (Nat -> Prop) -> World -> Prop} {ia is i : Nat} (h : St w0 w' (w.2.F ty zs ++ F) K') (hk : ∀ D w1, K' D w1 -> w.2.K D w1) :
  GR w0 F ty zs w (w', { w.2 with K := K' }) /\ ∀ j, j ≠ i -> GN ia is j w -> GN ia is j (w', { w.2 with K := K' }) := ⟨⟨fun _ => h, hk, fun _ h => ⟨_, h⟩, fun _ _ h => h⟩, fun _ _ h => h⟩
theorem GK.made {w0 : World} {F : List Aa} {ty : TypeId} {zs : Array Value} {w : World × GK} {w' : World} {g ia is : Nat} (hn : w.2.b = none) (h : St w0 w' (.box g ty zs :: F) w.2.K) :
  GR w0 F ty zs w (w', { w.2 with b := some (g, none) }) /\ ∀ j, j ≠ ia -> GN ia is j w -> GN ia is j (w', { w.2 with b := some (g, none) }) :=
 ⟨⟨fun _ => h, fun _ _ h => h, fun g h => (by rw [hn] at h; cases h), fun g cs h => (by rw [hn] at h; cases h)⟩, fun j hj _ => ⟨fun e => absurd e hj, fun _ g cs e => by cases e⟩⟩
theorem GK.put {w0 : World} {F : List Aa} {ty : TypeId} {zs : Array Value} {w : World × GK} {w' : World} {g ia is : Nat} {cs : Array Value} (hn : w.2.b = some (g, none)) (h : St w0 w' (.box g ty cs :: F) w.2.K) :
  GR w0 F ty zs w (w', { w.2 with b := some (g, some cs) }) /\ ∀ j, j ≠ is -> GN ia is j w -> GN ia is j (w', { w.2 with b := some (g, some cs) }) :=
 ⟨⟨fun _ => h, fun _ _ h => h, fun g' h => (by rw [hn] at h; injection h with h; injection h with h1 h2; subst h1; exact ⟨_, rfl⟩), fun g cs h => (by rw [hn] at h; cases h)⟩, fun j hj k => ⟨fun e => absurd (k.1 e) (by rw [hn]; exact nofun), fun e => absurd e hj⟩⟩
section
variable {P : Program} {o : Oper} {a : Act} {w : World × GK} {w0 : World} {F : List Aa} {ty : TypeId} {zs : Array Value} {K : Act -> World -> Prop} {Q : Exit -> Act -> World -> Prop}
theorem GJ.none (hJ : GJ w0 F ty zs w) (hn : w.2.b = none) : St w0 w.1 F w.2.K := by
 unfold GJ GK.F at hJ; rw [hn] at hJ; exact hJ
theorem GJ.some {g : Nat} {x : Option (Array Value)} (hJ : GJ w0 F ty zs w) (hn : w.2.b = some (g, x)) : St w0 w.1 (.box g ty (x.getD zs) :: F) w.2.K := by
 unfold GJ GK.F at hJ; rw [hn] at hJ; exact hJ
theorem GJ.cell (hJ : GJ w0 F ty zs w) {g : Nat} {t : TypeId} {cs : Array Value} (i : Nat) (hi : F[i]? = Option.some (Aa.box g t cs)) (j : Nat) {x : Value} (hx : cs[j]? = Option.some x) : w.1.cell? ⟨g, j, Option.none⟩ = Option.some x :=
 ((hJ.holds (.box g t cs) (List.mem_append_right _ (List.mem_of_getElem? hi))).2.cell j).trans hx
theorem gk_alloc (ho : o.op = .alloc ty) (hz : ((P.info? ty).bind (·.zero)).isSome = true) (hzs : zeroCells P ty = zs) (hJ : GJ w0 F ty zs w) (hn : w.2.b = Option.none)
  (hK : ∀ g w', St w0 w' (.box g ty zs :: F) w.2.K -> K (a.put o.dst (.pointer (some ⟨g, 0, Option.none⟩))) w') : o.wp P a w.1 K Q :=
 opw_alloc ho hz fun w' hb hbel => hK _ w' ((hJ.none hn).new hbel _ ⟨Nat.le_refl _, hzs ▸ hb⟩)
theorem gk_store {x y : Operand} {g : Nat} {cs : Array Value} (ho : o.op = .store ty x y) (hx : a.eval x = .pointer (some ⟨g, 0, Option.none⟩)) (hy : a.eval y = .agg cs) (hJ : GJ w0 F ty zs w) (hn : w.2.b = Option.some (g, Option.none)) (hi : (P.info? ty).map (·.size) = Option.some cs.size)
  (hold : zs.size = cs.size) (h1 : cs.all (·.oneCell') = true) (hK : ∀ w', St w0 w' (.box g ty cs :: F) w.2.K -> K (a.put o.dst undef) w') : o.wp P a w.1 K Q := by
 have hS := hJ.some hn
 exact CX ho hx hy (hS.box 0 rfl) hi hold h1 fun w' hb hU => hK w' (hS.upd 0 rfl (.box g ty cs) (Bw hU) ⟨(hS.holds _ (List.mem_cons_self ..)).1, hb⟩ fun _ e => .inl e)
end
def SR (w0 : World) (FX : Bool × Bool -> List Aa) (K : (Nat -> Prop) -> World -> Prop) (s s' : World × (Bool × Bool)) : Prop :=
 (St w0 s.1 (FX s.2) K -> St w0 s'.1 (FX s'.2) K) /\ (s.2.1 = true -> s'.2.1 = true) /\ (s.2.2 = true -> s'.2.2 = true)
theorem SR.refl {w0 : World} {FX : Bool × Bool -> List Aa} {K : (Nat -> Prop) -> World -> Prop} : ∀ s, SR w0 FX K s s := fun _ => ⟨id, id, id⟩
theorem SR.trans {w0 : World} {FX : Bool × Bool -> List Aa} {K : (Nat -> Prop) -> World -> Prop} : ∀ a b c, SR w0 FX K a b -> SR w0 FX K b c -> SR w0 FX K a c := fun _ _ _ h k => ⟨fun j => k.1 (h.1 j), fun j => k.2.1 (h.2.1 j), fun j => k.2.2 (h.2.2 j)⟩
end
section
open Go.RowKit
attribute [local go_sem ↓] Go.wp_at_zero Go.wp_at_succ
set_option maxRecDepth 20000
set_option exponentiation.threshold 5000
theorem LinkP.next {w0 w : World} {F : List Aa} {K : (Nat -> Prop) -> World -> Prop} {L M : List (Nat × Nat)} {x : Nat × Nat} {r : Value} {z : Int} (h : LinkP w0 F K L (x.1 : Nat) (x.2 : Nat) r z w) {j : Nat} (hx : M[j]? = some x) (hL : ∀ u, u ∈ L ↔ u ∈ M.take j) (hN : M.Nodup) (hR : ∀ u ∈ M, (1 <= u.1 /\ u.1 < 64) /\ 1 <= u.2 /\ u.2 < 64) (hA : Df M) :
  z = 0 /\ ∃ L', GM L' /\ (∀ u, u ∈ L' ↔ u ∈ M.take (j + 1)) /\ St w0 w F fun D w => K D w /\ IsH w D r L' := by
 have hm := List.mem_of_getElem? hx
 have h1 := hR x hm
 have hne := hA.ne hm
 have htk : ∀ u, u ∈ M.take (j + 1) ↔ u ∈ L ++ [x] := fun u => by
  rw [List.take_add_one, hx, List.mem_append, List.mem_append, hL]; simp
 rcases h with ⟨h, _⟩ | ⟨a, b, ha, hb, _, _, _, h⟩
 ·exact absurd ⟨⟨by omega, by omega⟩, ⟨by omega, by omega⟩, by omega⟩ h
 ·obtain rfl : x = (a, b) := Prod.ext (by show x.1 = a; omega) (by show x.2 = b; omega)
  rcases h with ⟨h, _⟩ | ⟨_, h, _⟩ | ⟨_, hz, L', h3, h4, h5⟩
  ·exfalso
   obtain ⟨i, hi, e⟩ := List.getElem_of_mem ((hL _).1 h)
   rw [List.length_take] at hi
   obtain ⟨hj, ej⟩ := List.getElem?_eq_some_iff.1 hx
   rw [List.getElem_take] at e
   exact List.pairwise_iff_getElem.1 hN i j (by omega) hj (by omega) (e.trans ej.symm)
  ·exact absurd (hA.sub fun u hu => List.mem_of_mem_take ((htk u).2 hu)) h
  ·exact ⟨hz, L', h3, fun u => (h4 u).trans (htk u).symm, h5⟩
end
section
open Go.RowKit
attribute [local go_sem ↓] Go.wp_at_zero Go.wp_at_succ
set_option maxRecDepth 20000
set_option exponentiation.threshold 5000
theorem nodup_le : ∀ {T S : List (Nat × Nat)}, T.Nodup -> (∀ y ∈ T, y ∈ S) -> T.length <= S.length
 | [], _, _, _ => by simp
 | t :: T, S, hT, hs => by
  have hT := List.nodup_cons.1 hT
  have ht := hs t (List.mem_cons_self ..)
  have := nodup_le (T := T) (S := S.erase t) hT.2 fun y hy => (List.mem_erase_of_ne (fun e => hT.1 (by rw [<- e]; exact hy))).2 (hs y (List.mem_cons_of_mem _ hy))
  rw [List.length_erase_of_mem ht] at this
  have := List.length_pos_of_mem ht
  rw [List.length_cons]
  omega
def Part (M : List (Nat × Nat)) (j : Nat) (L : List (Nat × Nat)) : Prop := GM L /\ ∀ u, u ∈ L ↔ u ∈ M.take j
theorem Part.len {M L : List (Nat × Nat)} {j : Nat} (h : Part M j L) : L.length <= M.length := nodup_le h.1.asc.nodup fun y hy => List.mem_of_mem_take ((h.2 y).1 hy)
theorem Part.full {M L : List (Nat × Nat)} (h : Part M M.length L) (hM : Asc M) : L = M := Asc.uniq h.1.asc hM fun u => by rw [h.2, List.take_length]
end
end Go.Proofs.YtpcioefppjljoaaGreatDoor
