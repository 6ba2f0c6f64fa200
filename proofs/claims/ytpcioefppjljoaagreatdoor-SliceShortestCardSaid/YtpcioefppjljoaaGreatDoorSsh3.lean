/-
  What the statement needs, part 3.
-/
import Derived.Deep.Cut
import Derived.Deep.CutBlock
import Derived.Deep.MidRow
import Derived.Laws.CopyRow
import Derived.Laws.CopyOwn
import Derived.Laws.IdiomStrings
import Derived.Test.YtpcioefppjljoaaGreatDoorShelf
import Derived.Test.YtpcioefppjljoaaGreatDoorSsh2
namespace Go.Proofs.YtpcioefppjljoaaGreatDoor
section
open Go.RowKit
attribute [local go_sem ↓] Go.wp_at_zero Go.wp_at_succ
set_option maxRecDepth 20000
set_option exponentiation.threshold 5000
theorem H4 {w0 : World} {D : Nat -> Prop} {p : Value} {n : Nat} {L : List (Nat × Nat)} (h : FY w0 D p n L) (a : Int) : Calls Tryz.prog 143 #[p, .int .i64 a] w0 (AO (fun x _ => x = .bool (decide (0 <= a /\ a < n))) w0) := by
 obtain ⟨q, gp, av, bv, sv, xa, xb, rfl, hb, _⟩ := h
 obtain ⟨K, k0, hS⟩ : ∃ K : (Nat -> Prop) -> World -> Prop, (∀ D w, K D w -> w.cell? ⟨q, 0, none⟩ = some (.int .i64 (n : Nat))) /\ St w0 w0 [] K := ⟨_, fun _ _ h => Cj.cell h 0 rfl, St.start Be hb⟩
 clear hb
 by_cases h1 : 0 <= a
 ·by_cases h2 : a < n
  ·have HR := Lib.hid (show decide (0 <= a /\ a < (n : Int)) = true by simp [h1, h2])
   generalize decide (0 <= a /\ a < (n : Int)) = R at *
   go_enter Tryz.func143, Tryz.ntmps143
   go_wp2_with (first | ((with_reducible refine qB ?_); refine qc ?_ ?_ <;> intro h_ <;> go_prune) | ((with_reducible refine qK ?_); refine D5 hS rfl _ _ rfl _ rfl _ k0 (by kernel_rfl) ?_))
   go_ret
   exact AO.mk (congrArg Value.bool HR.out.symm) hS.below
  ·have HR := Lib.hid (show decide (0 <= a /\ a < (n : Int)) = false by simp [h2])
   generalize decide (0 <= a /\ a < (n : Int)) = R at *
   go_enter Tryz.func143, Tryz.ntmps143
   go_wp2_with (first | ((with_reducible refine qB ?_); refine qc ?_ ?_ <;> intro h_ <;> go_prune) | ((with_reducible refine qK ?_); refine D5 hS rfl _ _ rfl _ rfl _ k0 (by kernel_rfl) ?_))
   go_ret
   exact AO.mk (congrArg Value.bool HR.out.symm) hS.below
 ·have HR := Lib.hid (show decide (0 <= a /\ a < (n : Int)) = false by simp [h1])
  generalize decide (0 <= a /\ a < (n : Int)) = R at *
  go_enter Tryz.func143, Tryz.ntmps143
  go_wp2_with (first | ((with_reducible refine qB ?_); refine qc ?_ ?_ <;> intro h_ <;> go_prune) | ((with_reducible refine qK ?_); refine D5 hS rfl _ _ rfl _ rfl _ k0 (by kernel_rfl) ?_))
  go_ret
  exact AO.mk (congrArg Value.bool HR.out.symm) hS.below
theorem pclone_any {w0 : World} {D : Nat -> Prop} {pv : Value} {L : List (Nat × Nat)} (h : Sl w0 D 2 pv L.length (Af L)) (hl : L.length <= 1000000) : Calls Tryz.prog 159 #[pv] w0 fun e w' => ∃ v, e = .returned v /\ St w0 w' [.own v 159 2 L.length (Af L)] fun _ _ => True := by
 obtain ⟨A, c, rfl, hc1, hc2⟩ := h.shape
 obtain ⟨K, kp, hS⟩ : ∃ K : (Nat -> Prop) -> World -> Prop, (∀ D w, K D w -> Sl w D 2 (.slice A L.length c) L.length (Af L)) /\ St w0 w0 [] K := ⟨_, fun _ _ h => h, St.start (At (by decide)) h⟩
 clear h
 cases A with
 | none =>
  have h0 : L.length = 0 := by
   obtain ⟨_, A, c2, h2, _, _, h5⟩ := kp _ _ hS.ro
   rcases Nat.eq_zero_or_pos L.length with h | h
   ·exact h
   ·obtain ⟨b, o, h6, _⟩ := h5 h
    injection h2 with h2; rw [<- h2] at h6; cases h6
  have hL : L = [] := List.length_eq_zero_iff.1 h0
  subst hL
  go_enter Tryz.func159, Tryz.ntmps159
  go_wp2_with (first
   | ((with_reducible refine qB ?_); refine qc ?_ ?_ <;> intro h_ <;> go_prune)
   | ((with_reducible refine qA 4 ?_); refine BigFrame.wpList_want rfl fun _ hK => AU (vx := .slice none _ c) (vy := .slice none 0 0) (v := .bool true) rfl rfl rfl rfl (Lib.run_eql_slice_nil _ _ _ _ _ _ _ _ Tryz.underlying32) (hK _ _ ?_)))
  go_ret
  exact ⟨_, rfl, ((hS.nil 159 2)).mono (AF.pure True) fun _ _ _ => trivial⟩
 | some ad =>
  go_enter Tryz.func159, Tryz.ntmps159
  go_wp2_with (first
   | ((with_reducible refine qA 4 ?_); refine BigFrame.wpList_want rfl fun _ hK => AU (vx := .slice (some ad) L.length c) (vy := .slice none 0 0) (v := .bool false) rfl rfl rfl rfl (Lib.run_eql_slice_nil _ _ _ _ _ _ _ _ Tryz.underlying32) (hK _ _ ?_))
   | ((with_reducible show wpList _ _ _ (⟨_, .buildSlice _ 0 _, _, _, _, _⟩ :: _) _ _); refine Gy hS rfl _ _ rfl Tryz.underlying32 (by kernel_rfl) 2 ?_; clear hS; intro ge w_ hS)
   | ((with_reducible refine qA 7 ?_); refine IC hS 0 rfl _ _ _ rfl Ci _ rfl rfl _ _ _ _ rfl (kp _ _ hS.ro) (BM L) (by omega) (by omega) ?_; clear hS; intro g cap w_ hS))
  go_ret
  exact ⟨_, rfl, hS.mono (AF.pure True) fun _ _ _ => trivial⟩
theorem Jk {w0 : World} {D : Nat -> Prop} {p : Value} {n : Nat} {L : List (Nat × Nat)} (h : FY w0 D p n L) (hl : L.length <= 1000000) : Calls Tryz.prog 146 #[p] w0 fun e w' => ∃ v, e = .returned v /\ St w0 w' [.own v 159 2 L.length (Af L)] fun _ _ => True := by
 obtain ⟨q, gp, av, bv, sv, xa, xb, rfl, hb, hp, _⟩ := h
 have k0 := Lib.hid (hb.cell 1 (x := .slice (some ⟨gp, 0, none⟩) L.length L.length) rfl)
 have HC := Lib.hid (pclone_any hp hl)
 clear hb hp
 go_enter Tryz.func146, Tryz.ntmps146
 go_wp2_with (first
  | ((with_reducible refine qB ?_); refine qc ?_ ?_ <;> intro h_ <;> go_prune)
  | ((with_reducible refine qK ?_); refine BigFrame.wpList_want rfl fun _ hK => Ah rfl rfl (by kernel_rfl) k0.out (hK _ _ ?_))
  | (go_at_call 159; refine HC.out.mono ?_; rintro e w_ ⟨v, rfl, hS⟩))
 go_ret
 exact ⟨v, rfl, hS⟩
theorem Je {w : World} {g i : Nat} {u : Value} (h : w.cell? ⟨g, i + 0, none⟩ = some u) : w.rangeAt g i [u] := fun j v hj => by
 match j, hj with
 | 0, hj => simp at hj; subst hj; exact h
 | j + 1, hj => simp at hj
theorem oabove_any {w0 : World} {D : Nat -> Prop} {p : Value} {n : Nat} {L : List (Nat × Nat)} (h : FY w0 D p n L) (hL : EI n L) (a : Int) : Calls Tryz.prog 149 #[p, .int .i64 a] w0 (AO (fun x w => ∃ N, A7 w D x N /\ ∀ i : Nat, N.testBit i = true ↔ ∃ b : Nat, a = (b : Int) /\ TC L i b) w0) := by
 obtain ⟨q, gp, av, bv, sv, xa, xb, rfl, h⟩ := h
 have HA := Lib.hid h.2.2.1.2
 obtain ⟨A, c, rfl, _, _⟩ := h.2.2.1.1.shape
 obtain ⟨K, ko, hS⟩ : ∃ K : (Nat -> Prop) -> World -> Prop, (∀ D w, K D w -> OrdX q gp (.slice A n c) bv sv xa xb n L D w) /\ St w0 w0 [] K := ⟨_, fun _ _ h => h, St.start DR h⟩
 clear h
 by_cases hin : 0 <= a /\ a < (n : Int)
 ·obtain ⟨k, rfl⟩ : ∃ k : Nat, a = (k : Int) := ⟨a.toNat, by omega⟩
  have hk : k < n := by omega
  obtain ⟨u, hu1, hu2⟩ := HA.out k hk
  obtain ⟨A3, c3, l3, he, _⟩ := hu2.parts
  obtain rfl : u = .slice A3 l3.length c3 := by injection he with he; simpa using he
  clear he
  have HU := Lib.hid hu2
  have HD := Lib.hid (decide_eq_true hin)
  clear hu2 hin
  go_enter Tryz.func149, Tryz.ntmps149
  go_wp2_with (first
   | ((with_reducible refine qA 4 ?_); refine Bi hS rfl _ rfl (by kernel_rfl) ?_; clear hS; intro g w_ hS; (try simp only [Act.put, Act.eval, zz, Value.cells] at hS))
   | (go_at_call 143; refine (H4 (ko _ _ hS.ro).ord _).mono ?_; rw [HD.out]; rintro r_ w_ ⟨_, rfl, rfl, hb_⟩; replace hS := hS.ext hb_; clear hb_)
   | ((with_reducible refine qA 13 ?_); refine D5 hS rfl _ _ rfl _ rfl _ (fun D w h => (ko D w h).1.cell 2 rfl) (by kernel_rfl) ?_)
   | ((with_reducible refine qA 15 ?_); refine Gx rfl _ _ _ rfl _ rfl rfl (ko _ _ hS.ro).2.2.1.1 Tryz.underlying55 (by kernel_rfl) hk ?_; intro b_ j_ _ _ hc_)
   | ((with_reducible refine qA 16 ?_); refine BigFrame.wpList_want rfl fun _ hK => AQ (cs := [.slice A3 l3.length c3]) rfl rfl (Je (hc_ 0 _ (by simpa using hu1))) Tryz.underlying27 rfl (by kernel_rfl) (hK _ _ ?_))
   | ((with_reducible refine qM ?_); (first | refine qS hS ?_ | refine qT hS ?_); clear hS; intro w_ hS; (try simp only [Act.put, Act.eval, zz, Value.cells] at hS)))
  refine BG Tryz.results149 rfl (hS.box 0 rfl) Tryz.underlying27 rfl (by kernel_rfl) rfl ?_
  refine AO.mk ⟨_, HU.out.ext hS.below, fun i => (EX hL).trans ⟨fun h => ⟨k, rfl, h⟩, fun ⟨b, e, h⟩ => ?_⟩⟩ hS.below
  obtain rfl : k = b := by omega
  exact h
 ·have HD := Lib.hid (decide_eq_false hin)
  go_enter Tryz.func149, Tryz.ntmps149
  go_wp2_with (first
   | ((with_reducible refine qA 4 ?_); refine Bi hS rfl _ rfl (by kernel_rfl) ?_; clear hS; intro g w_ hS; (try simp only [Act.put, Act.eval, zz, Value.cells] at hS))
   | (go_at_call 143; refine (H4 (ko _ _ hS.ro).ord _).mono ?_; rw [HD.out]; rintro r_ w_ ⟨_, rfl, rfl, hb_⟩; replace hS := hS.ext hb_; clear hb_)
   | ((with_reducible show wpList _ _ _ (⟨_, .build _ _, _, _, _, _⟩ :: _) _ _); refine Av rfl _ _ rfl #[.slice none 0 0] (by kernel_rfl) ?_)
   | ((with_reducible refine qM ?_); (first | refine qS hS ?_ | refine qT hS ?_); clear hS; intro w_ hS; (try simp only [Act.put, Act.eval, zz, Value.cells] at hS)))
  refine BG Tryz.results149 rfl (hS.box 0 rfl) Tryz.underlying27 rfl (by kernel_rfl) rfl ?_
  refine AO.mk ⟨0, A7.empty, fun i => ⟨fun h => by simp at h, fun ⟨b, e, h⟩ => ?_⟩⟩ hS.below
  have := (h.lt hL).2
  omega
theorem obelow_any {w0 : World} {D : Nat -> Prop} {p : Value} {n : Nat} {L : List (Nat × Nat)} (h : FY w0 D p n L) (hL : EI n L) (a : Int) : Calls Tryz.prog 107 #[p, .int .i64 a] w0 (AO (fun x w => ∃ N, A7 w D x N /\ ∀ i : Nat, N.testBit i = true ↔ ∃ b : Nat, a = (b : Int) /\ TC L b i) w0) := by
 obtain ⟨q, gp, av, bv, sv, xa, xb, rfl, h⟩ := h
 have HA := Lib.hid h.2.2.2.2
 obtain ⟨A, c, rfl, _, _⟩ := h.2.2.2.1.shape
 obtain ⟨K, ko, hS⟩ : ∃ K : (Nat -> Prop) -> World -> Prop, (∀ D w, K D w -> OrdX q gp av (.slice A n c) sv xa xb n L D w) /\ St w0 w0 [] K := ⟨_, fun _ _ h => h, St.start DR h⟩
 clear h
 by_cases hin : 0 <= a /\ a < (n : Int)
 ·obtain ⟨k, rfl⟩ : ∃ k : Nat, a = (k : Int) := ⟨a.toNat, by omega⟩
  have hk : k < n := by omega
  obtain ⟨u, hu1, hu2⟩ := HA.out k hk
  obtain ⟨A3, c3, l3, he, _⟩ := hu2.parts
  obtain rfl : u = .slice A3 l3.length c3 := by injection he with he; simpa using he
  clear he
  have HU := Lib.hid hu2
  have HD := Lib.hid (decide_eq_true hin)
  clear hu2 hin
  go_enter Tryz.func107, Tryz.ntmps107
  go_wp2_with (first
   | ((with_reducible refine qA 4 ?_); refine Bi hS rfl _ rfl (by kernel_rfl) ?_; clear hS; intro g w_ hS; (try simp only [Act.put, Act.eval, zz, Value.cells] at hS))
   | (go_at_call 143; refine (H4 (ko _ _ hS.ro).ord _).mono ?_; rw [HD.out]; rintro r_ w_ ⟨_, rfl, rfl, hb_⟩; replace hS := hS.ext hb_; clear hb_)
   | ((with_reducible refine qA 13 ?_); refine D5 hS rfl _ _ rfl _ rfl _ (fun D w h => (ko D w h).1.cell 3 rfl) (by kernel_rfl) ?_)
   | ((with_reducible refine qA 15 ?_); refine Gx rfl _ _ _ rfl _ rfl rfl (ko _ _ hS.ro).2.2.2.1 Tryz.underlying55 (by kernel_rfl) hk ?_; intro b_ j_ _ _ hc_)
   | ((with_reducible refine qA 16 ?_); refine BigFrame.wpList_want rfl fun _ hK => AQ (cs := [.slice A3 l3.length c3]) rfl rfl (Je (hc_ 0 _ (by simpa using hu1))) Tryz.underlying27 rfl (by kernel_rfl) (hK _ _ ?_))
   | ((with_reducible refine qM ?_); (first | refine qS hS ?_ | refine qT hS ?_); clear hS; intro w_ hS; (try simp only [Act.put, Act.eval, zz, Value.cells] at hS)))
  refine BG Tryz.results107 rfl (hS.box 0 rfl) Tryz.underlying27 rfl (by kernel_rfl) rfl ?_
  refine AO.mk ⟨_, HU.out.ext hS.below, fun i => (tb_below hL).trans ⟨fun h => ⟨k, rfl, h⟩, fun ⟨b, e, h⟩ => ?_⟩⟩ hS.below
  obtain rfl : k = b := by omega
  exact h
 ·have HD := Lib.hid (decide_eq_false hin)
  go_enter Tryz.func107, Tryz.ntmps107
  go_wp2_with (first
   | ((with_reducible refine qA 4 ?_); refine Bi hS rfl _ rfl (by kernel_rfl) ?_; clear hS; intro g w_ hS; (try simp only [Act.put, Act.eval, zz, Value.cells] at hS))
   | (go_at_call 143; refine (H4 (ko _ _ hS.ro).ord _).mono ?_; rw [HD.out]; rintro r_ w_ ⟨_, rfl, rfl, hb_⟩; replace hS := hS.ext hb_; clear hb_)
   | ((with_reducible show wpList _ _ _ (⟨_, .build _ _, _, _, _, _⟩ :: _) _ _); refine Av rfl _ _ rfl #[.slice none 0 0] (by kernel_rfl) ?_)
   | ((with_reducible refine qM ?_); (first | refine qS hS ?_ | refine qT hS ?_); clear hS; intro w_ hS; (try simp only [Act.put, Act.eval, zz, Value.cells] at hS)))
  refine BG Tryz.results107 rfl (hS.box 0 rfl) Tryz.underlying27 rfl (by kernel_rfl) rfl ?_
  refine AO.mk ⟨0, A7.empty, fun i => ⟨fun h => by simp at h, fun ⟨b, e, h⟩ => ?_⟩⟩ hS.below
  have := (h.lt hL).1
  omega
def encP (x : Nat × Nat) : List Value := [.int .i64 (x.1 : Nat), .int .i64 (x.2 : Nat)]
theorem eqlP : EqlAt Tryz.prog 159 (fun x => .agg (encP x).toArray) (fun x y : Nat × Nat => decide (x = y)) := ⟨fun x y w => Hf w x y, GuardAt.agg _ (by kernel_rfl)⟩
theorem cellsP {w : World} {D : Nat -> Prop} {g c : Nat} {L : List (Nat × Nat)} (h : Sl w D 2 (.slice (some ⟨g, 0, none⟩) L.length c) L.length (Af L)) : ∀ j, j < L.length -> ∀ i v, (encP L[j]!)[i]? = some v -> w.cell? ⟨g, 0 + j * 2 + i, none⟩ = some v := fun j hj i v hv => by
 obtain ⟨_, A, c2, h2, _, _, h5⟩ := h
 injection h2 with h2
 obtain ⟨b, o, h6, _, _, h8⟩ := h5 (by omega)
 rw [<- h2] at h6
 injection h6 with h6; injection h6 with h6 h7
 subst h6; subst h7
 have h3 := BC L j hj
 have h4 : L.getD j (0, 0) = L[j]! := by rw [getElem!_pos L j hj, List.getD_eq_getElem?_getD, List.getElem?_eq_getElem hj]; rfl
 rw [h4] at h3
 rw [Nat.add_assoc]
 generalize L[j]! = y at *
 match i, hv with
 | 0, hv => simp [encP] at hv; subst hv; exact h8 _ _ h3.1
 | 1, hv => simp [encP] at hv; subst hv; exact h8 _ _ h3.2
 | i + 2, hv => simp [encP] at hv
theorem pcontains_any {w : World} {D : Nat -> Prop} {g c : Nat} {L : List (Nat × Nat)} (hl : L.length <= 1000000) (h : Sl w D 2 (.slice (some ⟨g, 0, none⟩) L.length c) L.length (Af L)) (x : Nat × Nat) :
  Calls Tryz.prog 152 #[.slice (some ⟨g, 0, none⟩) L.length c, .agg #[.int .i64 (x.1 : Nat), .int .i64 (x.2 : Nat)]] w (AO (fun r _ => r = .bool (decide (x ∈ L))) w) := by
 have := AnyQ.slices_Contains Tryz.containsPairs 2 Tryz.isAgg159 Tryz.sizeOf159 encP (fun _ => rfl) _ eqlP g 0 L.length c L x w (Nat.le_refl _) (by omega) (cellsP h)
 refine this.mono ?_
 rintro e w' ⟨rfl, hb⟩
 refine AO.mk ?_ hb
 rw [List.take_length]
 congr 1
 rw [Bool.eq_iff_iff, List.any_eq_true, decide_eq_true_eq]
 exact ⟨fun ⟨y, h1, h2⟩ => by rw [decide_eq_true_eq] at h2; rw [h2]; exact h1, fun h => ⟨x, h, by simp⟩⟩
end
section
open Go.RowKit
attribute [local go_sem ↓] Go.wp_at_zero Go.wp_at_succ
set_option maxRecDepth 20000
structure AG where
 r : List Value
 b : List (Nat × Value)
def Hq (g : AG) (s : Nat) (v : Value) : Prop := ∃ pre post, g.r = pre ++ v :: post /\ post.length = s
structure AD where
 e : TypeId
 size : Nat
 top : Nat
 cnt : Nat -> Nat
 cont : Nat -> List Value
 src : Nat -> Value -> Aj
def AG.main (d : AD) (g : AG) : List Aj := match g.r with
 | [] => []
 | v :: r => [.own v d.e d.size (d.cnt r.length) (d.cont r.length)]
def AG.F (d : AD) (g : AG) : List Aj := (g.b.map fun x => d.src x.1 x.2) ++ g.main d
def AJ (w0 : World) (F : List Aj) (K : (Nat -> Prop) -> World -> Prop) (d : AD) (p : World × AG) : Prop := St w0 p.1 (p.2.F d ++ F) K /\ p.2.r.length <= d.top
def AR (w0 : World) (F : List Aj) (K : (Nat -> Prop) -> World -> Prop) (d : AD) (p p' : World × AG) : Prop := (AJ w0 F K d p -> AJ w0 F K d p') /\ (∃ s, p'.2.r = s ++ p.2.r) /\ ∀ x, x ∈ p.2.b -> x ∈ p'.2.b
def FU (kd : List (Nat × (Bool × Nat))) (i : Nat) : Option (Bool × Nat) := (kd.find? fun x => x.1 == i).map (·.2)
def AN (kd : List (Nat × (Bool × Nat))) (i : Nat) (p : World × AG) : Prop := match FU kd i with
 | some (true, s) => p.2.r.length <= s
 | some (false, j) => ∀ v, (j, v) ∉ p.2.b
 | none => True
theorem akind_inj {kd : List (Nat × (Bool × Nat))} (h : (kd.map (·.2)).Nodup) {i j : Nat} {x : Bool × Nat} (hi : FU kd i = some x) (hj : FU kd j = some x) : i = j := by
 unfold FU at hi hj
 obtain ⟨y, hy, rfl⟩ := Option.map_eq_some_iff.1 hi
 obtain ⟨z, hz, he⟩ := Option.map_eq_some_iff.1 hj
 have e1 : y.1 = i := by simpa using List.find?_some hy
 have e2 : z.1 = j := by simpa using List.find?_some hz
 have m1 := List.mem_of_find?_eq_some hy
 have m2 := List.mem_of_find?_eq_some hz
 obtain ⟨a, ha, ea⟩ := List.getElem_of_mem m1
 obtain ⟨b, hb, eb⟩ := List.getElem_of_mem m2
 have hp := List.pairwise_iff_getElem.1 h
 have key : a = b := by
  rcases Nat.lt_trichotomy a b with q | q | q
  ·have := hp a b (by simpa using ha) (by simpa using hb) q
   simp [ea, eb, he] at this
  ·exact q
  ·have := hp b a (by simpa using hb) (by simpa using ha) q
   simp [ea, eb, he] at this
 subst key
 rw [ea] at eb
 rw [<- e1, <- e2, eb]
theorem JM (kd : List (Nat × (Bool × Nat))) (w : World) (i : Nat) : AN kd i (w, ⟨[], []⟩) := by
 unfold AN
 split
 ·exact Nat.zero_le _
 ·simp
 ·trivial
theorem Hq.mono {g g' : AG} {s : Nat} {v : Value} (h : Hq g s v) (k : ∃ t, g'.r = t ++ g.r) : Hq g' s v := by
 obtain ⟨pre, post, h1, h2⟩ := h
 obtain ⟨t, k⟩ := k
 exact ⟨t ++ pre, post, by rw [k, h1, List.append_assoc], h2⟩
theorem Hq.head {g : AG} {s : Nat} {v : Value} (h : Hq g s v) (hl : g.r.length <= s + 1) : ∃ post, g.r = v :: post /\ post.length = s := by
 obtain ⟨pre, post, h1, h2⟩ := h
 rw [h1, List.length_append, List.length_cons] at hl
 have : pre = [] := List.eq_nil_of_length_eq_zero (by omega)
 subst this
 exact ⟨post, h1, h2⟩
theorem St.permC {w0 w : World} {F F' : List Aj} {K : (Nat -> Prop) -> World -> Prop} (h : St w0 w F K) (hp : F.Perm F') : St w0 w F' K := by
 refine ⟨h.below, fun f hf => h.holds f (hp.mem_iff.2 hf), hp.pairwise h.apart fun {a b} q k hk e => q k e hk, h.stable, h.stable _ _ _ _ h.ro (Nat.le_refl _) (fun _ _ _ _ h => h) fun k h1 _ _ f hf => h1 f (hp.mem_iff.2 hf)⟩
section
variable {w0 : World} {F : List Aj} {K : (Nat -> Prop) -> World -> Prop} {d : AD} {p p' : World × AG} {kd : List (Nat × (Bool × Nat))} {i : Nat}
theorem AR.refl (p : World × AG) : AR w0 F K d p p := ⟨id, ⟨[], rfl⟩, fun _ h => h⟩
theorem AR.trans (a b c : World × AG) (h : AR w0 F K d a b) (k : AR w0 F K d b c) : AR w0 F K d a c := by
 obtain ⟨s, hs⟩ := h.2.1
 obtain ⟨t, ht⟩ := k.2.1
 exact ⟨fun y => k.1 (h.1 y), ⟨t ++ s, by rw [ht, hs, List.append_assoc]⟩, fun x hx => k.2.2 x (h.2.2 x hx)⟩
theorem AR.src (hnd : (kd.map (·.2)).Nodup) {j : Nat} (hki : FU kd i = some (false, j)) {w' : World} {v : Value} (hb : Below p.1.heap.size p.1 w') (hf : (d.src j v).holds p.1.heap.size w') : AR w0 F K d p (w', ⟨p.2.r, (j, v) :: p.2.b⟩) /\ ∀ t, t ≠ i -> AN kd t p -> AN kd t (w', ⟨p.2.r, (j, v) :: p.2.b⟩) := by
 refine ⟨⟨fun h => ⟨h.1.new hb _ hf, h.2⟩, ⟨[], rfl⟩, fun _ h => List.mem_cons_of_mem _ h⟩, fun t ht h => ?_⟩
 unfold AN at *
 split
 ·rename_i s hs
  rw [hs] at h
  exact h
 ·rename_i q hq
  rw [hq] at h
  intro v' hv'
  rcases List.mem_cons.1 hv' with e | e
  ·injection e with e _
   subst e
   exact ht (akind_inj hnd hq hki)
  ·exact h v' e
 ·trivial
theorem AR.main (hnd : (kd.map (·.2)).Nodup) {s : Nat} (hki : FU kd i = some (true, s)) {w' : World} {v : Value} (hl : p.2.r.length = s) (hJ : AJ w0 F K d p -> AJ w0 F K d (w', ⟨v :: p.2.r, p.2.b⟩)) : AR w0 F K d p (w', ⟨v :: p.2.r, p.2.b⟩) /\ ∀ t, t ≠ i -> AN kd t p -> AN kd t (w', ⟨v :: p.2.r, p.2.b⟩) := by
 refine ⟨⟨hJ, ⟨[v], rfl⟩, fun _ h => h⟩, fun t ht h => ?_⟩
 unfold AN at *
 split
 ·rename_i q hq
  rw [hq] at h
  have : q ≠ s := fun e => ht (akind_inj hnd (e ▸ hq) hki)
  show p.2.r.length + 1 <= q
  have : p.2.r.length <= q := h
  omega
 ·rename_i q hq
  rw [hq] at h
  exact h
 ·trivial
theorem AJ.start {w' : World} {v : Value} (h : AJ w0 F K d p) (h0 : p.2.r = []) (hb : Below p.1.heap.size p.1 w') (hf : (Aj.own v d.e d.size (d.cnt 0) (d.cont 0)).holds p.1.heap.size w') (ht : 0 < d.top) : AJ w0 F K d (w', ⟨v :: p.2.r, p.2.b⟩) := by
 obtain ⟨w, r, b⟩ := p
 dsimp only at h0
 subst h0
 refine ⟨(h.1.new hb _ hf).permC ?_, ht⟩
 simp only [AG.F, AG.main, List.append_nil, List.append_assoc]
 exact List.perm_middle.symm
theorem AJ.row {v : Value} {post : List Value} (h : AJ w0 F K d p) (hr : p.2.r = v :: post) : p.1.ownsRow w0.heap.size d.e d.size v (d.cnt post.length) (d.cont post.length) /\ w0.heap.size <= p.1.heap.size := by
 obtain ⟨w, r, b⟩ := p
 dsimp only at hr
 subst hr
 exact ⟨h.1.holds (.own v d.e d.size (d.cnt post.length) (d.cont post.length)) (by simp [AG.F, AG.main]), h.1.size⟩
theorem AJ.next {w' : World} {v u : Value} {post : List Value} (h : AJ w0 F K d p) (hr : p.2.r = v :: post) (ho : w'.ownsRow w0.heap.size d.e d.size u (d.cnt (post.length + 1)) (d.cont (post.length + 1))) (hg : p.1.grownBy w' v.ownBlock) (hb : ∀ k, u.ownBlock = some k -> v.ownBlock = some k \/ p.1.heap.size <= k) (ht : post.length + 1 < d.top) : AJ w0 F K d (w', ⟨u :: p.2.r, p.2.b⟩) := by
 obtain ⟨w, r, b⟩ := p
 dsimp only at hr
 subst hr
 refine ⟨?_, by simp; omega⟩
 have h1 := h.1
 simp only [AG.F, AG.main, List.append_assoc] at h1
 have h2 := h1.upd b.length (f := .own v d.e d.size (d.cnt post.length) (d.cont post.length)) (by simp) (.own u d.e d.size (d.cnt (post.length + 1)) (d.cont (post.length + 1))) hg ho hb
 rw [show ((b.map fun x => d.src x.1 x.2) ++ ([Aj.own v d.e d.size (d.cnt post.length) (d.cont post.length)] ++ F)).set b.length (.own u d.e d.size (d.cnt (post.length + 1)) (d.cont (post.length + 1))) = (b.map fun x => d.src x.1 x.2) ++ ([Aj.own u d.e d.size (d.cnt (post.length + 1)) (d.cont (post.length + 1))] ++ F) from by
  rw [List.set_append_right _ _ (by simp)]; simp] at h2
 simpa [AG.F, AG.main, List.append_assoc] using h2
theorem AJ.side {j : Nat} {v : Value} (h : AJ w0 F K d p) (hm : (j, v) ∈ p.2.b) : (d.src j v).holds w0.heap.size p.1 :=
 h.1.holds _ (List.mem_append_left _ (List.mem_append_left _ (List.mem_map.2 ⟨_, hm, rfl⟩)))
theorem AJ.last {v : Value} {s : Nat} (h : AJ w0 F K d p) (hs : Hq p.2 s v) (ht : d.top = s + 1) : St w0 p.1 (.own v d.e d.size (d.cnt s) (d.cont s) :: F) K := by
 obtain ⟨post, h1, h2⟩ := hs.head (by have := h.2; omega)
 obtain ⟨w, r, b⟩ := p
 dsimp only at h1
 subst h1
 subst h2
 have h3 := h.1
 simp only [AG.F, AG.main, List.append_assoc] at h3
 exact h3.sub (List.sublist_append_right _ _)
variable {P : Program} {o : Oper} {a : Act} {Kt : Act -> World -> Prop} {Q : Exit -> Act -> World -> Prop}
theorem Ff (hnd : (kd.map (·.2)).Nodup) (hki : FU kd i = some (true, 0)) {t : TypeId} (ho : o.op = .buildSlice t 0 #[]) (ht : P.underlying t = some (.slice d.e)) (hb : BD P d.e 0 [] = some #[]) (hN : AN kd i p) (h0 : d.cnt 0 = 0) (h1 : d.cont 0 = []) (hlt : 0 < d.top)
  (hK : ∀ v w', Hq w'.2 0 v -> AR w0 F K d p w' /\ (∀ j, j ≠ i -> AN kd j p -> AN kd j w') -> Kt (a.put o.dst v) w'.1) : o.wp P a p.1 Kt Q := by
 have hl : p.2.r.length <= 0 := by unfold AN at hN; rw [hki] at hN; exact hN
 have hr : p.2.r = [] := List.eq_nil_of_length_eq_zero (by omega)
 refine C5 (ps := []) (cells := #[]) ho ht (by simp) hb fun w' hx hB => ?_
 refine hK _ (w', ⟨_ :: p.2.r, p.2.b⟩) ⟨[], p.2.r, rfl, by rw [hr]; rfl⟩ (AR.main hnd hki (by omega) fun hJ => hJ.start hr hB ?_ hlt)
 rw [h0, h1]
 exact ⟨by simp, .inr ⟨p.1.heap.size, 0, #[], rfl, Nat.le_refl _, hx, Nat.le_refl _, by simp [maxLen], by simp, by simp⟩⟩
theorem Gg (hnd : (kd.map (·.2)).Nodup) {j : Nat} (hki : FU kd i = some (false, j)) {t e : TypeId} {len : Nat} {parts : Array (Nat × Operand)} (ho : o.op = .buildSlice t len parts) (ht : P.underlying t = some (.slice e)) {ps : List (Nat × Value)} {cells : Array Value} (hp : (parts.map fun (i, x) => (i, a.eval x)).toList = ps) (hb : BD P e len ps = some cells) {size : Nat} (hsrc : ∀ v, d.src j v = .own v e size len cells.toList) (hs : cells.size = len * size) (hm : len <= 1000000000000)
  (hK : ∀ v w', (j, v) ∈ w'.2.b -> AR w0 F K d p w' /\ (∀ j, j ≠ i -> AN kd j p -> AN kd j w') -> Kt (a.put o.dst v) w'.1) : o.wp P a p.1 Kt Q := by
 refine C5 (ps := ps) (cells := cells) ho ht hp hb fun w' hx hB => ?_
 refine hK _ (w', ⟨p.2.r, (j, _) :: p.2.b⟩) (List.mem_cons_self ..) (AR.src hnd hki hB ?_)
 rw [hsrc]
 exact ⟨by simpa using hs, .inr ⟨p.1.heap.size, len, cells, rfl, Nat.le_refl _, hx, Nat.le_refl _, by unfold maxLen; omega, hs, by rw [<- hs, show cells.size = cells.toList.length by simp, List.take_length]⟩⟩
theorem C9 (hnd : (kd.map (·.2)).Nodup) {s : Nat} (hki : FU kd i = some (true, s + 1)) {s1 x1 : Operand} {t : TypeId} {bytes m : Nat} {news : List Value} {D : Nat -> Prop} (ho : o.op = .call { callee := .builtin .append, args := #[s1, x1], argTypes := #[t, t] }) (hT : BA P t d.e d.size bytes) (hN : AN kd i p) (hs : Hq p.2 s (a.eval s1)) (hJ : AJ w0 F K d p)
  (hr : Sl p.1 D d.size (a.eval x1) m news) (h1 : ∀ u ∈ news, u.oneCell' = true) (hc : d.cont (s + 1) = d.cont s ++ news) (hcn : d.cnt (s + 1) = d.cnt s + m) (hb : d.cnt s + m <= 1000000000000) (hby : (d.cnt s + m) * bytes <= 140737488355328) (hlt : s + 1 < d.top)
  (hK : ∀ v w', Hq w'.2 (s + 1) v -> AR w0 F K d p w' /\ (∀ j, j ≠ i -> AN kd j p -> AN kd j w') -> Kt (a.put o.dst v) w'.1) : o.wp P a p.1 Kt Q := by
 have hl : p.2.r.length <= s + 1 := by unfold AN at hN; rw [hki] at hN; exact hN
 obtain ⟨post, e1, e2⟩ := hs.head hl
 obtain ⟨hown, hsz⟩ := hJ.row e1
 rw [e2] at hown
 refine ED ho hT rfl hown rfl hr h1 hb hby hsz fun v' w' a1 a2 a3 => ?_
 refine hK v' (w', ⟨v' :: p.2.r, p.2.b⟩) ⟨[], p.2.r, rfl, by rw [e1, List.length_cons, e2]⟩ (AR.main hnd hki (by rw [e1, List.length_cons, e2]) fun hJ => hJ.next e1 ?_ a2 a3 (by omega))
 rw [e2, hc, hcn]
 exact a1
end
section
variable {P : Program} {o : Oper} {a : Act} {w : World} {Kt : Act -> World -> Prop} {Q : Exit -> Act -> World -> Prop}
theorem opw_slh {t e : TypeId} {x h : Operand} {A : Option Addr} {n c k : Nat} (ho : o.op = .slice t x none (some h) none) (ht : P.underlying t = some (.slice e)) (hi : ∃ size, (P.info? e).map (·.size) = some size) (hx : a.eval x = .slice A n c) (hh : a.eval h = .int .i64 (k : Nat)) (hk : k <= c)
  (hK : Kt (a.put o.dst (.slice A k c)) w) : o.wp P a w Kt Q := by
 obtain ⟨size, hi⟩ := hi
 refine Ct (v := .slice A k c) ?_ hK
 cases hz : P.info? e with
 | none => rw [hz] at hi; cases hi
 | some z =>
  have hke : ((k : Nat) : Int) <= c := by omega
  have : A.map (·.add (0 * z.size)) = A := by cases A <;> simp [Addr.add]
  simp [execOp, ho, hx, hh, Instr.sliceAt, Instr.slice, run_underlying ht, Instr.sliceBounds, run_sliceBound, sizeOf, typeInfo, hz, hke, Addr.add]
theorem opw_sll {t e : TypeId} {x h : Operand} {A : Option Addr} {n c k size : Nat} (ho : o.op = .slice t x (some h) none none) (ht : P.underlying t = some (.slice e)) (hi : (P.info? e).map (·.size) = some size) (hx : a.eval x = .slice A n c) (hh : a.eval h = .int .i64 (k : Nat)) (hk : k <= n) (hn : n <= c)
  (hK : Kt (a.put o.dst (sliced A k n c size)) w) : o.wp P a w Kt Q := by
 refine Ct (v := sliced A k n c size) ?_ hK
 cases hz : P.info? e with
 | none => rw [hz] at hi; cases hi
 | some z =>
  have hs : z.size = size := by simpa [hz] using hi
  have hke : ((k : Nat) : Int) <= n := by omega
  simp [execOp, ho, hx, hh, Instr.sliceAt, Instr.slice, run_underlying ht, Instr.sliceBounds, run_sliceBound, sizeOf, typeInfo, hz, hke, sliced, hs, hn]
end
section
variable {P : Program} {w : World} {t : TypeId} {k : IntKind} {m n : Int} {b : Bool}
theorem GL (h : decide (m = n) = b) : (binOp .eql t (.int k m) (.int k n)).run P w = .ok (.bool b) w := by
 rw [binOp_eql, <- h]; simp [BEq.beq]
theorem run_ltB (h : decide (m < n) = b) : (binOp .lss t (.int k m) (.int k n)).run P w = .ok (.bool b) w := by
 rw [binOp_lss, <- h]; simp
theorem run_gtB (h : decide (m > n) = b) : (binOp .gtr t (.int k m) (.int k n)).run P w = .ok (.bool b) w := by
 rw [binOp_gtr, <- h]; simp
end
theorem IY {w : World} {D : Nat -> Prop} {size n c k : Nat} {A : Option Addr} {xs : List Value} (h : Sl w D size (.slice A n c) n xs) (hk : k <= n) : Sl w D size (.slice A k c) k (xs.take (k * size)) := by
 obtain ⟨h1, A2, c2, h2, h3, h4, h5⟩ := h
 injection h2 with h2 h6 h7
 subst h2 h7
 have hle : k * size <= n * size := Nat.mul_le_mul_right _ hk
 refine ⟨by rw [List.length_take]; omega, A, c, rfl, by omega, h4, fun hp => ?_⟩
 obtain ⟨b, o, q1, q2, q3, q4⟩ := h5 (by omega)
 refine ⟨b, o, q1, q2, q3, fun j x hj => q4 j x ?_⟩
 rw [List.getElem?_take] at hj
 split at hj
 ·exact hj
 ·cases hj
theorem IZ {w : World} {D : Nat -> Prop} {size n c k : Nat} {A : Option Addr} {xs : List Value} (h : Sl w D size (.slice A n c) n xs) (hk : k <= n) : Sl w D size (sliced A k n c size) (n - k) (xs.drop (k * size)) := by
 obtain ⟨h1, A2, c2, h2, h3, h4, h5⟩ := h
 injection h2 with h2 h6 h7
 subst h2 h7
 have hle : k * size <= n * size := Nat.mul_le_mul_right _ hk
 refine ⟨by rw [List.length_drop, h1, Nat.sub_mul], _, c - k, rfl, by omega, by omega, fun hp => ?_⟩
 obtain ⟨b, o, rfl, q2, q3, q4⟩ := h5 (by omega)
 rw [if_neg (by omega)]
 refine ⟨b, o + k * size, ?_, q2, q3, fun j x hj => ?_⟩
 ·simp only [Option.map_some, Addr.add]
  split
  ·rename_i h0; rw [h0]; rfl
  ·rfl
 ·rw [List.getElem?_drop] at hj
  have := q4 _ x hj
  rw [<- Nat.add_assoc] at this
  exact this
end
section
open Go.RowKit
attribute [local go_sem ↓] Go.wp_at_zero Go.wp_at_succ
set_option maxRecDepth 20000
set_option exponentiation.threshold 5000
structure WG where
 a : Option Value
 b : Option Value
 c : Option Value
 d : Option Value
 e : Bool
def ownP (L : List (Nat × Nat)) : Option Value -> List Aj
 | some v => [.own v 159 2 L.length (Af L)]
 | none => []
def WG.F (L : List (Nat × Nat)) (x : Nat × Nat) (g : WG) : List Aj := match g.c with
 | some v => [.own v 159 2 (L.length + 1) (Af (L ++ [x]))]
 | none => ownP L g.a ++ ownP [x] g.b
def NewP (w0 : World) (F : List Aj) (K : (Nat -> Prop) -> World -> Prop) (n : Nat) (M : List (Nat × Nat)) (r : Value) (w : World) : Prop :=
 (¬ DQ M /\ r = .tuple #[.pointer none, .int .i64 16] /\ St w0 w F K) \/
 ∃ (p : Value) (L : List (Nat × Nat)), r = .tuple #[p, .int .i64 0] /\ Asc L /\ (∀ x, x ∈ L ↔ x ∈ M) /\ DQ L /\ St w0 w F fun D w => K D w /\ FY w D p n L
theorem NewP.shape {w0 w : World} {F : List Aj} {K : (Nat -> Prop) -> World -> Prop} {n : Nat} {M : List (Nat × Nat)} {r : Value} (h : NewP w0 F K n M r w) : ∃ (p : Value) (e : Int), r = .tuple #[p, .int .i64 e] := by
 rcases h with ⟨_, rfl, _⟩ | ⟨p, L, rfl, _⟩ <;> exact ⟨_, _, rfl⟩
theorem NewP.mono {w0 w : World} {F : List Aj} {K K' : (Nat -> Prop) -> World -> Prop} {n : Nat} {M : List (Nat × Nat)} {r : Value} (h : NewP w0 F K n M r w) (hs : AF K') (hk : ∀ D w, K D w -> K' D w) : NewP w0 F K' n M r w := by
 rcases h with ⟨h1, h2, h3⟩ | ⟨p, L, h1, h2, h3, h4, h5⟩
 ·exact .inl ⟨h1, h2, h3.mono hs hk⟩
 ·exact .inr ⟨p, L, h1, h2, h3, h4, h5.mono (hs.and Cy) fun D w h => ⟨hk D w h.1, h.2⟩⟩
theorem onew_own {w0 w : World} {F : List Aj} {K : (Nat -> Prop) -> World -> Prop} (n : Nat) (L0 : List (Nat × Nat)) (pv : Value) (hn : n <= 256) (hL : EI n L0) (hl : L0.length <= 1000000) (hS : St w0 w (.own pv 159 2 L0.length (Af L0) :: F) K)
  (kt : ∀ D w, K D w -> BH w /\ D 0) :
  Calls Tryz.prog 87 #[.int .i64 (n : Nat), pv] w fun e w' => ∃ v, e = .returned v /\ NewP w0 F K n L0 v w' := by
 have KS := hS.stable
 refine (onew_any n L0 pv hn hL hl (hS.freeze 0 (by decide) rfl) (fun D w h => h.2) fun D w h => kt D w h.1).mono ?_
 rintro e w' (⟨h1, rfl, h2⟩ | ⟨p, L, rfl, h1, h2, h3, h4⟩)
 ·exact ⟨_, rfl, .inl ⟨h1, rfl, h2.mono KS fun _ _ h => h.1⟩⟩
 ·exact ⟨_, rfl, .inr ⟨p, L, rfl, h1, h2, h3, h4.mono (KS.and Cy) fun _ _ h => ⟨h.1.1, h.2⟩⟩⟩
section
variable {w0 : World} {F : List Aj} {K : (Nat -> Prop) -> World -> Prop} {n : Nat} {L : List (Nat × Nat)} {x : Nat × Nat} {p p' : World × WG}
def WJ (w0 : World) (F : List Aj) (K : (Nat -> Prop) -> World -> Prop) (n : Nat) (L : List (Nat × Nat)) (x : Nat × Nat) (p : World × WG) : Prop := match p.2.d with
 | none => St w0 p.1 (p.2.F L x ++ F) K
 | some r => NewP w0 F K n (L ++ [x]) r p.1
def WR (w0 : World) (F : List Aj) (K : (Nat -> Prop) -> World -> Prop) (n : Nat) (L : List (Nat × Nat)) (x : Nat × Nat) (p p' : World × WG) : Prop :=
 (WJ w0 F K n L x p -> WJ w0 F K n L x p') /\ (∀ v, p.2.a = some v -> p'.2.a = some v) /\ (∀ v, p.2.b = some v -> p'.2.b = some v) /\ (∀ v, p.2.c = some v -> p'.2.c = some v) /\ (∀ v, p.2.d = some v -> p'.2.d = some v) /\ (p.2.e = true -> p'.2.e = true)
theorem WR.refl (p : World × WG) : WR w0 F K n L x p p := ⟨id, fun _ h => h, fun _ h => h, fun _ h => h, fun _ h => h, id⟩
theorem WR.trans (a b c : World × WG) (h : WR w0 F K n L x a b) (k : WR w0 F K n L x b c) : WR w0 F K n L x a c :=
 ⟨fun y => k.1 (h.1 y), fun g y => k.2.1 g (h.2.1 g y), fun g y => k.2.2.1 g (h.2.2.1 g y), fun g y => k.2.2.2.1 g (h.2.2.2.1 g y), fun g y => k.2.2.2.2.1 g (h.2.2.2.2.1 g y), fun y => k.2.2.2.2.2 (h.2.2.2.2.2 y)⟩
theorem WJ.st (h : WJ w0 F K n L x p) (hd : p.2.d = none) : St w0 p.1 (p.2.F L x ++ F) K := by unfold WJ at h; rw [hd] at h; exact h
theorem WJ.mk {w : World} {g : WG} (hd : g.d = none) (h : St w0 w (g.F L x ++ F) K) : WJ w0 F K n L x (w, g) := by unfold WJ; dsimp only; rw [hd]; exact h
theorem WJ.mkA {w' : World} {v : Value} (h : WJ w0 F K n L x p) (hn : p.2.a = none /\ p.2.c = none /\ p.2.d = none) (hs : St p.1 w' [.own v 159 2 L.length (Af L)] fun _ _ => True) : WJ w0 F K n L x (w', { p.2 with a := some v }) := by
 obtain ⟨w, a, b, c, d, e⟩ := p
 obtain ⟨rfl, rfl, rfl⟩ := hn
 exact WJ.mk rfl (St.new (h.st rfl) hs.below (.own v 159 2 L.length (Af L)) (hs.own 0 rfl))
theorem WJ.mkB {w' : World} (h : WJ w0 F K n L x p) (hn : p.2.b = none /\ p.2.c = none /\ p.2.d = none) (hb : Below p.1.heap.size p.1 w') (hx : Co w' p.1.heap.size 159 #[.int .i64 (x.1 : Nat), .int .i64 (x.2 : Nat)]) : WJ w0 F K n L x (w', { p.2 with b := some (.slice (some ⟨p.1.heap.size, 0, none⟩) 1 1) }) := by
 obtain ⟨w, a, b, c, d, e⟩ := p
 obtain ⟨rfl, rfl, rfl⟩ := hn
 have h1 := St.new (h.st rfl) hb (.own (.slice (some ⟨w.heap.size, 0, none⟩) 1 1) 159 2 [x].length (Af [x])) ⟨rfl, .inr ⟨w.heap.size, 1, _, rfl, Nat.le_refl _, hx, Nat.le_refl _, by simp [maxLen], rfl, rfl⟩⟩
 refine WJ.mk rfl ?_
 cases a with
 | none => exact h1
 | some v => exact h1.swap
theorem WJ.mkC {w' : World} {u v l : Value} (h : WJ w0 F K n L x p) (hn : p.2.c = none /\ p.2.d = none) (ha : p.2.a = some v) (hb : p.2.b = some l) (h1 : w'.ownsRow w0.heap.size 159 2 u (L.length + 1) (Af L ++ Af [x])) (h2 : p.1.grownBy w' v.ownBlock) (h3 : ∀ k, u.ownBlock = some k -> v.ownBlock = some k \/ p.1.heap.size <= k) : WJ w0 F K n L x (w', { p.2 with c := some u }) := by
 obtain ⟨w, a, b, c, d, e⟩ := p
 obtain ⟨rfl, rfl⟩ := hn
 dsimp only at ha hb
 subst ha hb
 refine WJ.mk rfl ?_
 rw [<- CU] at h1
 exact ((h.st rfl).upd 0 rfl (.own u 159 2 (L.length + 1) (Af (L ++ [x]))) h2 h1 h3).sub (.cons_cons _ (.cons _ (List.Sublist.refl _)))
theorem WJ.own (h : WJ w0 F K n L x p) (hn : p.2.c = none /\ p.2.d = none) {v l : Value} (ha : p.2.a = some v) (hb : p.2.b = some l) : p.1.ownsRow w0.heap.size 159 2 v L.length (Af L) /\ p.1.ownsRow w0.heap.size 159 2 l 1 (Af [x]) /\ w0.heap.size <= p.1.heap.size := by
 obtain ⟨w, a, b, c, d, e⟩ := p
 obtain ⟨rfl, rfl⟩ := hn
 dsimp only at ha hb
 subst ha hb
 exact ⟨(h.st rfl).own 0 rfl, (h.st rfl).own 1 rfl, (h.st rfl).size⟩
theorem WJ.last (h : WJ w0 F K n L x p) (hd : p.2.d = none) {v : Value} (hc : p.2.c = some v) : St w0 p.1 (.own v 159 2 (L ++ [x]).length (Af (L ++ [x])) :: F) K := by
 obtain ⟨w, a, b, c, d, e⟩ := p
 dsimp only at hd hc
 subst hd hc
 have := h.st rfl
 rw [List.length_append]
 exact this
end
theorem owith_any {w0 w : World} {F : List Aj} {K : (Nat -> Prop) -> World -> Prop} (p : Value) (n : Nat) (L : List (Nat × Nat)) (a b : Nat) (hn : n <= 256) (hL : EI n L) (hl : L.length <= 900000) (ha : a < n) (hb : b < n) (hS : St w0 w F K)
  (ko : ∀ D w, K D w -> FY w D p n L) (kt : ∀ D w, K D w -> BH w /\ D 0) :
  Calls Tryz.prog 131 #[p, .int .i64 (a : Nat), .int .i64 (b : Nat)] w fun e w' =>
   ((a, b) ∈ L /\ e = .returned (.tuple #[.pointer none, .int .i64 5]) /\ St w0 w' F K) \/ (a, b) ∉ L /\ ∃ v, e = .returned v /\ NewP w0 F K n (L ++ [(a, b)]) v w' := by
 have KS := hS.stable
 obtain ⟨q, gp, av, bv, sv, xa, xb, rfl, hX⟩ := ko _ _ hS.ro
 have hS := hS.add DR hX fun b h _ => h
 clear hX
 have HIN := Lib.hid (fun (c : Int) (w : World) (hc : 0 <= c /\ c < (n : Int)) (h : OrdX q gp av bv sv xa xb n L (Da F) w) => show Calls Tryz.prog 143 #[.pointer (some ⟨q, 0, none⟩), .int .i64 c] w (AO (fun x _ => x = .bool true) w) from by rw [<- decide_eq_true hc]; exact H4 h.ord _)
 have HCN := Lib.hid (fun (w : World) (h : OrdX q gp av bv sv xa xb n L (Da F) w) => show Calls Tryz.prog 152 #[.slice (some ⟨gp, 0, none⟩) L.length L.length, .agg #[.int .i64 (a : Nat), .int .i64 (b : Nat)]] w (AO (fun r _ => r = .bool (decide ((a, b) ∈ L))) w) from pcontains_any (by omega) h.2.1 (a, b))
 have HL := Lib.hid hL
 clear hL
 go_enter Tryz.func131, Tryz.ntmps131
 go_wp2_with (first
  | ((with_reducible refine qB ?_); refine qc ?_ ?_ <;> intro h_ <;> go_prune)
  | (go_at_call 143; refine (HIN.out _ _ (by omega) hS.ro.2).mono ?_; rintro r_ w_ ⟨_, rfl, rfl, hb_⟩; replace hS := hS.ext hb_; clear hb_)
  | ((with_reducible refine qA 23 ?_); refine D5 hS rfl _ _ rfl _ rfl _ (fun D w h => h.2.1.cell 1 rfl) (by kernel_rfl) ?_)
  | (go_at_call 152; refine (HCN.out _ hS.ro.2).mono ?_; rintro r_ w_ ⟨_, rfl, rfl, hb_⟩; replace hS := hS.ext hb_; clear hb_; by_cases hx : (a, b) ∈ L <;> (first | rw [decide_eq_true hx] | rw [decide_eq_false hx])))
 ·go_ret2
  exact .inl ⟨hx, rfl, hS.mono KS fun _ _ h => h.1⟩
 ·obtain ⟨KX, k1, k2, hS⟩ : ∃ KX : (Nat -> Prop) -> World -> Prop, (∀ D w, KX D w -> K D w) /\ (∀ D w, KX D w -> OrdX q gp av bv sv xa xb n L D w) /\ St w0 w_ F KX := ⟨_, fun _ _ h => h.1, fun _ _ h => h.2, hS⟩
  have hJ0 : WJ w0 F KX n L (a, b) (w_.drew, ⟨none, none, none, none, false⟩) := WJ.mk rfl hS.drew
  have hRr := @WR.refl w0 F KX n L (a, b)
  have hRt := @WR.trans w0 F KX n L (a, b)
  have hLx : Hid (EI n (L ++ [(a, b)])) := Lib.hid fun y hy => by
   rcases List.mem_append.1 hy with h | h
   ·exact HL.out y h
   ·rw [List.mem_singleton] at h; subst h; exact ⟨ha, hb⟩
  replace ha := Lib.hid ha
  replace hb := Lib.hid hb
  clear HIN HCN
  refine FL (WR w0 F KX n L (a, b)) (fun i p => match i with | 3 => p.2.e = false /\ p.2.d = none | 5 => p.2.a = none /\ p.2.c = none /\ p.2.d = none | 9 => p.2.b = none /\ p.2.c = none /\ p.2.d = none | 10 => p.2.c = none /\ p.2.d = none | 11 => p.2.d = none | _ => True) (⟨none, none, none, none, false⟩) hRr hRt [.q q 0, .q q 0, .q q 0, .s (fun v w => w.2.e = true /\ v = .int .i64 ((n : Nat) : Int)) fun v w w' h hb => ⟨hb.2.2.2.2.2 h.1, h.2⟩, .q q 0, .s (fun v w => w.2.a = some v) fun v w w' h hb => hb.2.1 _ h, .n ((a : Nat) : Int), .n ((b : Nat) : Int), .i (.agg #[.int .i64 ((a : Nat) : Int), .int .i64 ((b : Nat) : Int)]), .s (fun v w => w.2.b = some v) fun v w w' h hb => hb.2.2.1 _ h, .s (fun v w => w.2.c = some v) fun v w w' h hb => hb.2.2.2.1 _ h, .s (fun v w => w.2.d = some v /\ ∃ (p : Value) (e : Int), v = .tuple #[p, .int .i64 e]) fun v w w' h hb => ⟨hb.2.2.2.2.1 _ h.1, h.2⟩, .s (fun v w => ∃ (p : Value) (e : Int), w.2.d = some (.tuple #[p, .int .i64 e]) /\ v = p) fun v w w' h hb => by obtain ⟨p, e, h1, h2⟩ := h; exact ⟨p, e, hb.2.2.2.2.1 _ h1, h2⟩, .s (fun v w => ∃ (p : Value) (e : Int), w.2.d = some (.tuple #[p, .int .i64 e]) /\ v = .int .i64 e) fun v w w' h hb => by obtain ⟨p, e, h1, h2⟩ := h; exact ⟨p, e, hb.2.2.2.2.1 _ h1, h2⟩, .s (fun v w => ∃ (p : Value) (e : Int), w.2.d = some (.tuple #[p, .int .i64 e]) /\ v = p) fun v w w' h hb => by obtain ⟨p, e, h1, h2⟩ := h; exact ⟨p, e, hb.2.2.2.2.1 _ h1, h2⟩, .s (fun v w => ∃ (p : Value) (e : Int), w.2.d = some (.tuple #[p, .int .i64 e]) /\ v = .int .i64 e) fun v w w' h hb => by obtain ⟨p, e, h1, h2⟩ := h; exact ⟨p, e, hb.2.2.2.2.1 _ h1, h2⟩] ?_ ⟨uM, uN, uF, ?_, uM, ?_, uM, uM, ?_, ?_, ?_, ?_, ?_, ?_, uA, uA, trivial⟩ ?_
  ·first | assumption | (intro i; (try dsimp only); split <;> first | trivial | assumption | (left; assumption))
  ·refine uG fun b__ w hW hN hE K hK => ?_
   have e30 := hE 30
   exact Ah rfl e30 (by kernel_rfl) ((k2 _ _ ((hW.1 hJ0).st hN.2).ro).1.cell 0 rfl) (hK (.int .i64 (n : Nat)) (w.1, { w.2 with e := true }) ⟨rfl, rfl⟩ ⟨⟨fun hj => hj, (fun _ h => h), (fun _ h => h), (fun _ h => h), (fun _ h => h), (fun _ => rfl)⟩, fun j hj hn => by split <;> first | exact absurd rfl hj | exact hn | trivial⟩)
  ·refine uG fun b__ w hW hN hE K hK => ?_
   have e32 := hE 32
   exact BR rfl (by kernel_rfl) (by simp only [List.map_cons, List.map_nil, e32]) (Jk (k2 _ _ ((hW.1 hJ0).st hN.2.2).ro).ord (by omega)) fun e w' ⟨v, he, hs⟩ => ⟨v, he, hK v (w', { w.2 with a := some v }) rfl ⟨⟨fun hj => hj.mkA hN hs, (fun g h => by rw [hN.1] at h; cases h), (fun _ h => h), (fun _ h => h), (fun _ h => h), id⟩, fun j hj hn => by split <;> first | exact absurd rfl hj | exact hn | trivial⟩⟩
  ·refine uG fun b__ w hW hN hE K hK => ?_
   have e34 := hE 34
   have e35 := hE 35
   exact CG rfl (ps := [(0, .int .i64 ((a : Nat) : Int)), (1, .int .i64 ((b : Nat) : Int))]) (cells := #[.int .i64 ((a : Nat) : Int), .int .i64 ((b : Nat) : Int)]) (by simp [e34, e35]) (by kernel_rfl) (hK _ _ rfl ⟨hRr _, fun _ _ h => h⟩)
  ·refine uG fun b__ w hW hN hE K hK => ?_
   have e36 := hE 36
   exact C5 rfl Tryz.underlying32 (ps := [(0, .agg #[.int .i64 ((a : Nat) : Int), .int .i64 ((b : Nat) : Int)])]) (cells := #[.int .i64 ((a : Nat) : Int), .int .i64 ((b : Nat) : Int)]) (by simp [e36]) (by kernel_rfl) fun w' hbx hbel => hK _ (w', { w.2 with b := some (.slice (some ⟨w.1.heap.size, 0, none⟩) 1 1) }) rfl ⟨⟨fun hj => hj.mkB hN hbel hbx, (fun _ h => h), (fun g h => by rw [hN.1] at h; cases h), (fun _ h => h), (fun _ h => h), id⟩, fun j hj hn => by split <;> first | exact absurd rfl hj | exact hn | trivial⟩
  ·refine uG fun b__ w hW hN hE K hK => ?_
   have e33 := hE 33
   have e37 := hE 37
   obtain ⟨o1, o2, o3⟩ := (hW.1 hJ0).own hN e33 e37
   exact ED (n := L.length) (m := 1) rfl Ci rfl o1 rfl (Sl.of_own o2) (BM _) (by omega) (by omega) o3 fun v' w' a1 a2 a3 => hK v' (w', { w.2 with c := some v' }) rfl ⟨⟨fun hj => hj.mkC hN e33 e37 a1 a2 a3, (fun _ h => h), (fun _ h => h), (fun g h => by rw [hN.1] at h; cases h), (fun _ h => h), id⟩, fun j hj hn => by split <;> first | exact absurd rfl hj | exact hn | exact absurd (hn.1.symm.trans e33) nofun | exact absurd (hn.1.symm.trans e37) nofun | trivial⟩
  ·refine uG fun b__ w hW hN hE K hK => ?_
   have e31 := hE 31
   have e38 := hE 38
   refine BR rfl (by kernel_rfl) (by simp only [List.map_cons, List.map_nil, e31.2]) (onew_own n (L ++ [(a, b)]) _ hn hLx.out (by simp; omega) ((hW.1 hJ0).last hN e38) (fun D w h => kt D w (k1 D w h))) fun e w' h => ?_
   obtain ⟨v, he, hP⟩ := h
   exact ⟨v, he, hK v (w', { w.2 with d := some v }) ⟨rfl, hP.shape⟩ ⟨⟨fun _ => hP, (fun _ h => h), (fun _ h => h), (fun _ h => h), (fun g h => by rw [hN] at h; cases h), id⟩, fun j hj hn => by split <;> first | exact absurd rfl hj | exact hn | exact absurd (hn.1.symm.trans e31.1) nofun | exact absurd (hn.2.1.symm.trans e38) nofun | exact absurd (hn.1.symm.trans e38) nofun | trivial⟩⟩
  ·refine uG fun b__ w hW hN hE K hK => ?_
   have e39 := hE 39
   obtain ⟨hd, p, e, hv⟩ := e39
   rw [hv] at hd
   exact DW rfl hv rfl (hK _ _ ⟨p, e, hd, rfl⟩ ⟨hRr _, fun _ _ h => h⟩)
  ·refine uG fun b__ w hW hN hE K hK => ?_
   have e39 := hE 39
   obtain ⟨hd, p, e, hv⟩ := e39
   rw [hv] at hd
   exact DW rfl hv rfl (hK _ _ ⟨p, e, hd, rfl⟩ ⟨hRr _, fun _ _ h => h⟩)
  ·intro vs wz hW hT
   obtain ⟨e28, e29, e30, e31, e32, e33, e34, e35, e36, e37, e38, e39, e40, e41, e6, e7, -⟩ := hT
   have bx : (fun _ : Nat => True) 0 := trivial
   simp only [AC, Act.put, zz, ze]
   obtain ⟨r1, z1, hd1, e6⟩ := e6
   obtain ⟨r2, z2, hd2, e7⟩ := e7
   rw [hd1] at hd2
   obtain ⟨rfl, rfl⟩ : r1 = r2 /\ z1 = z2 := by simpa using hd2
   have hJ := hW.1 hJ0
   unfold WJ at hJ
   rw [hd1] at hJ
   have hP := hJ.mono KS k1
   rw [e6, e7]
   generalize wz.1 = wf at *
   clear hJ hJ0 hRr hRt hW hd1 hd2 e6 e7
   go_wp2_with fail
   go_ret2
   exact ⟨_, rfl, hP⟩
end
section
open Go.RowKit
attribute [local go_sem ↓] Go.wp_at_zero Go.wp_at_succ
set_option maxRecDepth 20000
set_option exponentiation.threshold 5000
theorem Dq (r : Int) (w : World) : Calls Tryz.prog 106 #[.int .i64 r] w (AO (fun x _ => x = .bool (decide (1 <= r /\ r <= 63))) w) := by
 by_cases h1 : 1 <= r
 ·by_cases h2 : r <= 63
  ·have HR := Lib.hid (show decide (1 <= r /\ r <= 63) = true by simp [h1, h2])
   generalize decide (1 <= r /\ r <= 63) = R at *
   go_enter Tryz.func106, Tryz.ntmps106
   go_wp2_with (first | ((with_reducible refine qB ?_); refine qc ?_ ?_ <;> intro h_ <;> go_prune))
   go_ret
   exact AO.mk (congrArg Value.bool HR.out.symm) (Below.refl _ _)
  ·have HR := Lib.hid (show decide (1 <= r /\ r <= 63) = false by simp [h2])
   generalize decide (1 <= r /\ r <= 63) = R at *
   go_enter Tryz.func106, Tryz.ntmps106
   go_wp2_with (first | ((with_reducible refine qB ?_); refine qc ?_ ?_ <;> intro h_ <;> go_prune))
   go_ret
   exact AO.mk (congrArg Value.bool HR.out.symm) (Below.refl _ _)
 ·have HR := Lib.hid (show decide (1 <= r /\ r <= 63) = false by simp [h1])
  generalize decide (1 <= r /\ r <= 63) = R at *
  go_enter Tryz.func106, Tryz.ntmps106
  go_wp2_with (first | ((with_reducible refine qB ?_); refine qc ?_ ?_ <;> intro h_ <;> go_prune))
  go_ret
  exact AO.mk (congrArg Value.bool HR.out.symm) (Below.refl _ _)
def FZ (q : Nat) (o : Value) (L : List (Nat × Nat)) (D : Nat -> Prop) (w : World) : Prop := Cj w D q #[o] /\ FY w D o 64 L
theorem CE {q : Nat} {o : Value} {L : List (Nat × Nat)} : AF (FZ q o L) := Be.and Cy
def IsH (w : World) (D : Nat -> Prop) (p : Value) (L : List (Nat × Nat)) : Prop := ∃ (q : Nat) (o : Value), p = .pointer (some ⟨q, 0, none⟩) /\ FZ q o L D w
theorem DK {p : Value} {L : List (Nat × Nat)} : AF fun D w => IsH w D p L := fun D D' w w' h a b c => by
 obtain ⟨q, o, h1, h2⟩ := h
 exact ⟨q, o, h1, CE D D' w w' h2 a b c⟩
structure FI (L : List (Nat × Nat)) : Prop where
 asc : Asc L
 role : ∀ x ∈ L, (1 <= x.1 /\ x.1 < 64) /\ 1 <= x.2 /\ x.2 < 64
 acyc : DQ L
theorem FI.inr {L : List (Nat × Nat)} (h : FI L) : EI 64 L := fun x hx => ⟨(h.role x hx).1.2, (h.role x hx).2.2⟩
theorem FI.nil : FI [] := ⟨.nil, by simp, fun a h => by obtain ⟨y, h, _⟩ := h.first; simp at h⟩
theorem Js {w0 w : World} {F : List Aj} {K : (Nat -> Prop) -> World -> Prop} (hS : St w0 w F K) (kt : ∀ D w, K D w -> BH w /\ D 0) :
  Calls Tryz.prog 44 #[] w fun e w' => ∃ p, e = .returned p /\ St w0 w' F fun D w => K D w /\ IsH w D p [] := by
 have KS := hS.stable
 have HN := Lib.hid (onew_any 64 [] (.slice none 0 0) (by omega) (by intro x hx; simp at hx) (by simp) hS (fun D w _ => ⟨rfl, none, 0, rfl, by simp, by simp, fun h => by simp at h⟩) kt)
 clear hS
 go_enter Tryz.func44, Tryz.ntmps44
 go_wp2_with (first
  | (go_at_call 87; refine HN.out.mono ?_; rintro e w_ (⟨h1, -, -⟩ | ⟨p, L, rfl, hA, hm, hc, hS⟩); · exact absurd FI.nil.acyc h1
     obtain rfl : L = [] := by
       cases L with
       | nil => rfl
       | cons x r => exact absurd ((hm x).1 (by simp)) (by simp)
     clear hA hm hc
     obtain ⟨qo, _, _, _, _, _, _, rfl, -⟩ := hS.ro.2)
  | ((with_reducible refine qA 9 ?_); refine AE hS rfl _ _ rfl (.agg #[.pointer (some ⟨qo, 0, none⟩)]) _ rfl rfl ?_; clear hS; intro q w_ hS; (try simp only [Act.put, Act.eval, zz, Value.cells] at hS)))
 go_ret
 exact ⟨_, rfl, (hS.sealB 0 (by simp) rfl).mono (KS.and DK) fun D w h => ⟨h.1.1, q, _, rfl, h.2, h.1.2⟩⟩
theorem hlinks_any {w0 : World} {D : Nat -> Prop} {p : Value} {L : List (Nat × Nat)} (h : IsH w0 D p L) (hl : L.length <= 1000000) : Calls Tryz.prog 113 #[p] w0 fun e w' => ∃ v, e = .returned v /\ St w0 w' [.own v 159 2 L.length (Af L)] fun _ _ => True := by
 obtain ⟨q, o, rfl, hb, ho⟩ := h
 have k0 := Lib.hid (hb.cell 0 (x := o) rfl)
 have HC := Lib.hid (Jk ho hl)
 clear hb ho
 go_enter Tryz.func113, Tryz.ntmps113
 go_wp2_with (first
  | ((with_reducible refine qB ?_); refine qc ?_ ?_ <;> intro h_ <;> go_prune)
  | ((with_reducible refine qK ?_); refine BigFrame.wpList_want rfl fun _ hK => Ah rfl rfl (by kernel_rfl) k0.out (hK _ _ ?_))
  | (go_at_call 146; refine HC.out.mono ?_; rintro e w_ ⟨v, rfl, hS⟩))
 go_ret
 exact ⟨v, rfl, hS⟩
def LinkP (w0 : World) (F : List Aj) (K : (Nat -> Prop) -> World -> Prop) (L : List (Nat × Nat)) (a b : Int) (r : Value) (z : Int) (w : World) : Prop :=
 (¬ ((1 <= a /\ a <= 63) /\ (1 <= b /\ b <= 63) /\ a ≠ b) /\ r = .pointer none /\ z = 1 /\ St w0 w F K) \/
 ∃ x y : Nat, a = (x : Int) /\ b = (y : Int) /\ (1 <= x /\ x < 64) /\ (1 <= y /\ y < 64) /\ x ≠ y /\
  (((x, y) ∈ L /\ r = .pointer none /\ z = 5 /\ St w0 w F K) \/ ((x, y) ∉ L /\ ¬ DQ (L ++ [(x, y)]) /\ r = .pointer none /\ z = 16 /\ St w0 w F K) \/
   ((x, y) ∉ L /\ z = 0 /\ ∃ L' : List (Nat × Nat), FI L' /\ (∀ u, u ∈ L' ↔ u ∈ L ++ [(x, y)]) /\ St w0 w F fun D w => K D w /\ IsH w D r L'))
theorem hlink_any {w0 w : World} {F : List Aj} {K : (Nat -> Prop) -> World -> Prop} (p : Value) (L : List (Nat × Nat)) (a b : Int) (hH : FI L) (hl : L.length <= 900000) (hS : St w0 w F K)
  (ko : ∀ D w, K D w -> IsH w D p L) (kt : ∀ D w, K D w -> BH w /\ D 0) :
  Calls Tryz.prog 95 #[p, .int .i64 a, .int .i64 b] w fun e w' => ∃ (r : Value) (z : Int), e = .returned (.tuple #[r, .int .i64 z]) /\ LinkP w0 F K L a b r z w' := by
 have KS := hS.stable
 obtain ⟨q, o, rfl, hX⟩ := ko _ _ hS.ro
 have hS := hS.add CE hX fun b h _ => h
 clear hX
 have HH := Lib.hid hH
 clear hH
 by_cases hra : 1 <= a /\ a <= 63
 ·have HRA := Lib.hid (decide_eq_true hra)
  by_cases hrb : 1 <= b /\ b <= 63
  ·have HRB := Lib.hid (decide_eq_true hrb)
   by_cases hab : a = b
   ·subst hab
    have HNO : Hid (¬ ((1 <= a /\ a <= 63) /\ (1 <= a /\ a <= 63) /\ a ≠ a)) := Lib.hid fun h => h.2.2 rfl
    clear hra hrb
    go_enter Tryz.func95, Tryz.ntmps95
    go_wp2_with (first
     | ((with_reducible refine qB ?_); refine qc ?_ ?_ <;> intro h_ <;> go_prune)
     | (go_at_call 106; refine (Dq _ _).mono ?_; (first | rw [HRA.out] | rw [HRB.out]); rintro r_ w_ ⟨_, rfl, rfl, hb_⟩; replace hS := hS.ext hb_; clear hb_))
    go_ret2
    exact ⟨_, _, rfl, .inl ⟨HNO.out, rfl, rfl, hS.mono KS fun _ _ h => h.1⟩⟩
   ·obtain ⟨x, rfl⟩ : ∃ x : Nat, a = (x : Int) := ⟨a.toNat, by omega⟩
    obtain ⟨y, rfl⟩ : ∃ y : Nat, b = (y : Int) := ⟨b.toNat, by omega⟩
    have hx1 : Hid (1 <= x /\ x < 64) := Lib.hid (by omega)
    have hy1 : Hid (1 <= y /\ y < 64) := Lib.hid (by omega)
    have hxy : Hid (x ≠ y) := Lib.hid (by omega)
    clear hra hrb
    have HW := Lib.hid (fun (w : World) (h : St w0 w F fun D w => K D w /\ FZ q o L D w) => owith_any o 64 L x y (by omega) HH.out.inr hl hx1.out.2 hy1.out.2 h (fun D w h => h.2.2) (fun D w h => kt D w h.1))
    go_enter Tryz.func95, Tryz.ntmps95
    go_wp2_with (first
     | ((with_reducible refine qB ?_); refine qc ?_ ?_ <;> intro h_ <;> go_prune)
     | (go_at_call 106; refine (Dq _ _).mono ?_; (first | rw [HRA.out] | rw [HRB.out]); rintro r_ w_ ⟨_, rfl, rfl, hb_⟩; replace hS := hS.ext hb_; clear hb_)
     | ((with_reducible refine qK ?_); refine D5 hS rfl _ _ rfl _ rfl _ (fun D w h => h.2.1.cell 0 rfl) (by kernel_rfl) ?_)
     | (go_at_call 131; refine (HW.out _ hS).mono ?_; rintro e w_ (⟨hm, rfl, hS⟩ | ⟨hm, v, rfl, (⟨hc, rfl, hS⟩ | ⟨pp, L', rfl, hA, hmm, hc, hS⟩)⟩) <;> (try obtain ⟨qo, _, _, _, _, _, _, rfl, -⟩ := hS.ro.2))
     | ((with_reducible refine qA 42 ?_); refine AE hS rfl _ _ rfl (.agg #[.pointer (some ⟨qo, 0, none⟩)]) _ rfl rfl ?_; clear hS; intro g w_ hS; (try simp only [Act.put, Act.eval, zz, Value.cells] at hS)))
    ·go_ret2
     exact ⟨_, _, rfl, .inr ⟨x, y, rfl, rfl, hx1.out, hy1.out, hxy.out, .inl ⟨hm, rfl, rfl, hS.mono KS fun _ _ h => h.1⟩⟩⟩
    ·go_ret2
     exact ⟨_, _, rfl, .inr ⟨x, y, rfl, rfl, hx1.out, hy1.out, hxy.out, .inr (.inl ⟨hm, hc, rfl, rfl, hS.mono KS fun _ _ h => h.1⟩)⟩⟩
    ·go_ret2
     refine ⟨_, _, rfl, .inr ⟨x, y, rfl, rfl, hx1.out, hy1.out, hxy.out, .inr (.inr ⟨hm, rfl, L', ⟨hA, fun u hu => ?_, hc⟩, hmm, (hS.sealB 0 (by simp) rfl).mono (KS.and DK) fun D w h => ⟨h.1.1.1, g, _, rfl, h.2, h.1.2⟩⟩)⟩⟩
     rcases List.mem_append.1 ((hmm u).1 hu) with h | h
     ·exact HH.out.role u h
     ·rw [List.mem_singleton] at h; subst h; exact ⟨hx1.out, hy1.out⟩
  ·have HRB := Lib.hid (decide_eq_false hrb)
   have HNO : Hid (¬ ((1 <= a /\ a <= 63) /\ (1 <= b /\ b <= 63) /\ a ≠ b)) := Lib.hid fun h => hrb h.2.1
   clear hra hrb
   go_enter Tryz.func95, Tryz.ntmps95
   go_wp2_with (first
    | ((with_reducible refine qB ?_); refine qc ?_ ?_ <;> intro h_ <;> go_prune)
    | (go_at_call 106; refine (Dq _ _).mono ?_; (first | rw [HRA.out] | rw [HRB.out]); rintro r_ w_ ⟨_, rfl, rfl, hb_⟩; replace hS := hS.ext hb_; clear hb_))
   go_ret2
   exact ⟨_, _, rfl, .inl ⟨HNO.out, rfl, rfl, hS.mono KS fun _ _ h => h.1⟩⟩
 ·have HRA := Lib.hid (decide_eq_false hra)
  have HRB := HRA
  have HNO : Hid (¬ ((1 <= a /\ a <= 63) /\ (1 <= b /\ b <= 63) /\ a ≠ b)) := Lib.hid fun h => hra h.1
  clear hra
  go_enter Tryz.func95, Tryz.ntmps95
  go_wp2_with (first
   | ((with_reducible refine qB ?_); refine qc ?_ ?_ <;> intro h_ <;> go_prune)
   | (go_at_call 106; refine (Dq _ _).mono ?_; (first | rw [HRA.out] | rw [HRB.out]); rintro r_ w_ ⟨_, rfl, rfl, hb_⟩; replace hS := hS.ext hb_; clear hb_))
  go_ret2
  exact ⟨_, _, rfl, .inl ⟨HNO.out, rfl, rfl, hS.mono KS fun _ _ h => h.1⟩⟩
end
section
open Go.RowKit
attribute [local go_sem ↓] Go.wp_at_zero Go.wp_at_succ
set_option maxRecDepth 20000
set_option exponentiation.threshold 5000
noncomputable def senM (L : List (Nat × Nat)) (r : Nat) : Nat := aboveM 64 L r ||| 2 ^ r
theorem Hx {L : List (Nat × Nat)} (hL : EI 64 L) {r j : Nat} : (senM L r).testBit j = true ↔ j = r \/ TC L j r := by
 unfold senM
 rw [DA, EX hL, Eu, Or.comm]
theorem Hw {N r : Nat} (h : r < 64) : Cx N (r : Int) = N ||| 2 ^ r := by
 unfold Cx
 rw [if_pos (by omega), Int.toNat_natCast]
theorem free1 {w0 w : World} {g z : Nat} {t : TypeId} {cs : Array Value} {K : (Nat -> Prop) -> World -> Prop} (h : St w0 w [.box g t cs] K) (hz : z < w0.heap.size) : Da [.box g t cs] z := fun f hf e => by
 rw [List.mem_singleton] at hf
 subst hf
 have := Aj.ge (h.holds _ (List.mem_singleton.2 rfl)) e
 omega
theorem AV {r : (Nat -> Prop) -> World -> Prop} (hr : AF r) (E : Nat -> Prop) : AF fun D w => r (fun z => D z /\ E z) w := fun D D' w w' h a b c =>
 hr _ _ w w' h a (fun p x hp => b p x hp.1) fun z hz h1 h2 => ⟨c z hz.1 h1 h2, hz.2⟩
theorem hjun_any {w0 : World} {D : Nat -> Prop} {p : Value} {L : List (Nat × Nat)} (h : IsH w0 D p L) (hH : FI L) (r : Int) : Calls Tryz.prog 59 #[p, .int .i64 r] w0 (AO (fun x w => A7 w (fun z => D z \/ w0.heap.size <= z) x (if 1 <= r /\ r <= 63 then junM L r.toNat else 0)) w0) := by
 obtain ⟨q, o, rfl, hb, ho⟩ := h
 have HO := Lib.hid (Cy D (fun z => D z /\ z < w0.heap.size) w0 w0 ho (Nat.le_refl _) (fun _ _ _ _ h => h) fun b h1 h2 _ => ⟨h1, h2⟩)
 obtain ⟨K, k0, hS⟩ : ∃ K : (Nat -> Prop) -> World -> Prop, (∀ D w, K D w -> w.cell? ⟨q, 0, none⟩ = some o) /\ St w0 w0 [] K := ⟨_, fun _ _ h => Cj.cell h 0 rfl, St.start Be hb⟩
 have HH := Lib.hid hH
 clear hb hH ho
 by_cases hr : 1 <= r /\ r <= 63
 ·obtain ⟨k, rfl⟩ : ∃ k : Nat, r = (k : Int) := ⟨r.toNat, by omega⟩
  have HR := Lib.hid (decide_eq_true hr)
  have HM := Lib.hid (fun (N : Nat) (h : ∀ i : Nat, N.testBit i = true ↔ ∃ b : Nat, (k : Int) = (b : Int) /\ TC L b i) => show Cx N (k : Int) = junM L k from by
   rw [Hw (by omega)]
   refine B3 fun i => ?_
   rw [DA, Eu, h, Hy HH.out.inr (by omega)]
   constructor
   ·rintro (⟨b, e, h⟩ | h)
    ·obtain rfl : k = b := by omega
     exact .inr h
    ·exact .inl h
   ·rintro (h | h)
    ·exact .inr h
    ·exact .inl ⟨k, rfl, h⟩)
  rw [if_pos hr, Int.toNat_natCast]
  clear hr
  go_enter Tryz.func59, Tryz.ntmps59
  go_wp2_with (first
   | ((with_reducible refine qB ?_); refine qc ?_ ?_ <;> intro h_ <;> go_prune)
   | ((with_reducible refine qA 4 ?_); refine Bi hS rfl _ rfl (by kernel_rfl) ?_; clear hS; intro g w_ hS; (try simp only [Act.put, Act.eval, zz, Value.cells] at hS))
   | (go_at_call 106; refine (Dq _ _).mono ?_; rw [HR.out]; rintro r_ w_ ⟨_, rfl, rfl, hb_⟩; replace hS := hS.ext hb_; clear hb_)
   | ((with_reducible refine qA 16 ?_); refine D5 hS rfl _ _ rfl _ rfl _ k0 (by kernel_rfl) ?_)
   | (go_at_call 107; refine (obelow_any (Cy _ _ _ _ HO.out hS.size (fun _ _ _ hp hc => (hS.below.cell hp).trans hc) fun _ h _ _ => h) HH.out.inr _).mono ?_; rintro r_ w_ ⟨_, rfl, ⟨N, hN, hs⟩, hb_⟩; replace hs := Lib.hid hs; replace hS := hS.ext hb_; clear hb_)
   | (go_at_call 32; refine (DJ _ N _ _ _ hN).mono ?_; rintro r_ w1 ⟨_, rfl, hM, hb_⟩; rw [HM.out N hs.out] at hM; obtain ⟨A3, c3, l3, rfl, -⟩ := hM.parts; replace hS := hS.ret2 hb_ (AV A5 fun z => D z \/ w0.heap.size <= z) (hM.imp fun z hz _ => ⟨hz.imp (fun hz => free1 hS hz.2) id, hz.elim (fun hz => .inl hz.1) fun hz => .inr (Nat.le_trans hS.size hz)⟩); clear hb_)
   | ((with_reducible refine qM ?_); (first | refine qS hS ?_ | refine qT hS ?_); clear hS; intro w_ hS; (try simp only [Act.put, Act.eval, zz, Value.cells] at hS)))
  refine BG Tryz.results59 rfl (hS.box 0 rfl) Tryz.underlying27 rfl (by kernel_rfl) rfl ?_
  exact AO.mk (hS.ro.2.imp fun z hz _ => hz.2) hS.below
 ·have HR := Lib.hid (decide_eq_false hr)
  rw [if_neg hr]
  clear hr
  go_enter Tryz.func59, Tryz.ntmps59
  go_wp2_with (first
   | ((with_reducible refine qB ?_); refine qc ?_ ?_ <;> intro h_ <;> go_prune)
   | ((with_reducible refine qA 4 ?_); refine Bi hS rfl _ rfl (by kernel_rfl) ?_; clear hS; intro g w_ hS; (try simp only [Act.put, Act.eval, zz, Value.cells] at hS))
   | (go_at_call 106; refine (Dq _ _).mono ?_; rw [HR.out]; rintro r_ w_ ⟨_, rfl, rfl, hb_⟩; replace hS := hS.ext hb_; clear hb_)
   | ((with_reducible show wpList _ _ _ (⟨_, .build _ _, _, _, _, _⟩ :: _) _ _); refine Av rfl _ _ rfl #[.slice none 0 0] (by kernel_rfl) ?_)
   | ((with_reducible refine qM ?_); (first | refine qS hS ?_ | refine qT hS ?_); clear hS; intro w_ hS; (try simp only [Act.put, Act.eval, zz, Value.cells] at hS)))
  refine BG Tryz.results59 rfl (hS.box 0 rfl) Tryz.underlying27 rfl (by kernel_rfl) rfl ?_
  exact AO.mk A7.empty hS.below
theorem hsen_any {w0 : World} {D : Nat -> Prop} {p : Value} {L : List (Nat × Nat)} (h : IsH w0 D p L) (hH : FI L) (r : Int) : Calls Tryz.prog 120 #[p, .int .i64 r] w0 (AO (fun x w => A7 w (fun z => D z \/ w0.heap.size <= z) x (if 1 <= r /\ r <= 63 then senM L r.toNat else 0)) w0) := by
 obtain ⟨q, o, rfl, hb, ho⟩ := h
 have HO := Lib.hid (Cy D (fun z => D z /\ z < w0.heap.size) w0 w0 ho (Nat.le_refl _) (fun _ _ _ _ h => h) fun b h1 h2 _ => ⟨h1, h2⟩)
 obtain ⟨K, k0, hS⟩ : ∃ K : (Nat -> Prop) -> World -> Prop, (∀ D w, K D w -> w.cell? ⟨q, 0, none⟩ = some o) /\ St w0 w0 [] K := ⟨_, fun _ _ h => Cj.cell h 0 rfl, St.start Be hb⟩
 have HH := Lib.hid hH
 clear hb hH ho
 by_cases hr : 1 <= r /\ r <= 63
 ·obtain ⟨k, rfl⟩ : ∃ k : Nat, r = (k : Int) := ⟨r.toNat, by omega⟩
  have HR := Lib.hid (decide_eq_true hr)
  have HM := Lib.hid (fun (N : Nat) (h : ∀ i : Nat, N.testBit i = true ↔ ∃ b : Nat, (k : Int) = (b : Int) /\ TC L i b) => show Cx N (k : Int) = senM L k from by
   rw [Hw (by omega)]
   refine B3 fun i => ?_
   rw [DA, Eu, h, Hx HH.out.inr]
   constructor
   ·rintro (⟨b, e, h⟩ | h)
    ·obtain rfl : k = b := by omega
     exact .inr h
    ·exact .inl h
   ·rintro (h | h)
    ·exact .inr h
    ·exact .inl ⟨k, rfl, h⟩)
  rw [if_pos hr, Int.toNat_natCast]
  clear hr
  go_enter Tryz.func120, Tryz.ntmps120
  go_wp2_with (first
   | ((with_reducible refine qB ?_); refine qc ?_ ?_ <;> intro h_ <;> go_prune)
   | ((with_reducible refine qA 4 ?_); refine Bi hS rfl _ rfl (by kernel_rfl) ?_; clear hS; intro g w_ hS; (try simp only [Act.put, Act.eval, zz, Value.cells] at hS))
   | (go_at_call 106; refine (Dq _ _).mono ?_; rw [HR.out]; rintro r_ w_ ⟨_, rfl, rfl, hb_⟩; replace hS := hS.ext hb_; clear hb_)
   | ((with_reducible refine qA 16 ?_); refine D5 hS rfl _ _ rfl _ rfl _ k0 (by kernel_rfl) ?_)
   | (go_at_call 149; refine (oabove_any (Cy _ _ _ _ HO.out hS.size (fun _ _ _ hp hc => (hS.below.cell hp).trans hc) fun _ h _ _ => h) HH.out.inr _).mono ?_; rintro r_ w_ ⟨_, rfl, ⟨N, hN, hs⟩, hb_⟩; replace hs := Lib.hid hs; replace hS := hS.ext hb_; clear hb_)
   | (go_at_call 32; refine (DJ _ N _ _ _ hN).mono ?_; rintro r_ w1 ⟨_, rfl, hM, hb_⟩; rw [HM.out N hs.out] at hM; obtain ⟨A3, c3, l3, rfl, -⟩ := hM.parts; replace hS := hS.ret2 hb_ (AV A5 fun z => D z \/ w0.heap.size <= z) (hM.imp fun z hz _ => ⟨hz.imp (fun hz => free1 hS hz.2) id, hz.elim (fun hz => .inl hz.1) fun hz => .inr (Nat.le_trans hS.size hz)⟩); clear hb_)
   | ((with_reducible refine qM ?_); (first | refine qS hS ?_ | refine qT hS ?_); clear hS; intro w_ hS; (try simp only [Act.put, Act.eval, zz, Value.cells] at hS)))
  refine BG Tryz.results120 rfl (hS.box 0 rfl) Tryz.underlying27 rfl (by kernel_rfl) rfl ?_
  exact AO.mk (hS.ro.2.imp fun z hz _ => hz.2) hS.below
 ·have HR := Lib.hid (decide_eq_false hr)
  rw [if_neg hr]
  clear hr
  go_enter Tryz.func120, Tryz.ntmps120
  go_wp2_with (first
   | ((with_reducible refine qB ?_); refine qc ?_ ?_ <;> intro h_ <;> go_prune)
   | ((with_reducible refine qA 4 ?_); refine Bi hS rfl _ rfl (by kernel_rfl) ?_; clear hS; intro g w_ hS; (try simp only [Act.put, Act.eval, zz, Value.cells] at hS))
   | (go_at_call 106; refine (Dq _ _).mono ?_; rw [HR.out]; rintro r_ w_ ⟨_, rfl, rfl, hb_⟩; replace hS := hS.ext hb_; clear hb_)
   | ((with_reducible show wpList _ _ _ (⟨_, .build _ _, _, _, _, _⟩ :: _) _ _); refine Av rfl _ _ rfl #[.slice none 0 0] (by kernel_rfl) ?_)
   | ((with_reducible refine qM ?_); (first | refine qS hS ?_ | refine qT hS ?_); clear hS; intro w_ hS; (try simp only [Act.put, Act.eval, zz, Value.cells] at hS)))
  refine BG Tryz.results120 rfl (hS.box 0 rfl) Tryz.underlying27 rfl (by kernel_rfl) rfl ?_
  exact AO.mk A7.empty hS.below
end
section
open Go.RowKit
set_option maxRecDepth 20000
def OJ (C : World -> Prop) (S : Value -> World -> Prop) (p : World × Option Value) : Prop := C p.1 /\ ∀ r, p.2 = some r -> S r p.1
def OR (C : World -> Prop) (S : Value -> World -> Prop) (p p' : World × Option Value) : Prop := (OJ C S p -> OJ C S p') /\ ∀ v, p.2 = some v -> p'.2 = some v
def ON (k : Nat) (i : Nat) (p : World × Option Value) : Prop := i = k -> p.2 = none
section
variable {C : World -> Prop} {S : Value -> World -> Prop} {p p' : World × Option Value} {k : Nat}
end
end
section
open Go.RowKit
attribute [local go_sem ↓] Go.wp_at_zero Go.wp_at_succ
set_option maxRecDepth 20000
set_option exponentiation.threshold 5000
theorem Cl (r : Int) (w : World) : Calls Tryz.prog 127 #[.int .i64 r] w (AO (fun x _ => x = .bool (decide (1 <= r /\ r <= 63))) w) := by
 by_cases h1 : 1 <= r
 ·by_cases h2 : r <= 63
  ·have HR := Lib.hid (show decide (1 <= r /\ r <= 63) = true by simp [h1, h2])
   generalize decide (1 <= r /\ r <= 63) = R at *
   go_enter Tryz.func127, Tryz.ntmps127
   go_wp2_with (first | ((with_reducible refine qB ?_); refine qc ?_ ?_ <;> intro h_ <;> go_prune))
   go_ret
   exact AO.mk (congrArg Value.bool HR.out.symm) (Below.refl _ _)
  ·have HR := Lib.hid (show decide (1 <= r /\ r <= 63) = false by simp [h2])
   generalize decide (1 <= r /\ r <= 63) = R at *
   go_enter Tryz.func127, Tryz.ntmps127
   go_wp2_with (first | ((with_reducible refine qB ?_); refine qc ?_ ?_ <;> intro h_ <;> go_prune))
   go_ret
   exact AO.mk (congrArg Value.bool HR.out.symm) (Below.refl _ _)
 ·have HR := Lib.hid (show decide (1 <= r /\ r <= 63) = false by simp [h1])
  generalize decide (1 <= r /\ r <= 63) = R at *
  go_enter Tryz.func127, Tryz.ntmps127
  go_wp2_with (first | ((with_reducible refine qB ?_); refine qc ?_ ?_ <;> intro h_ <;> go_prune))
  go_ret
  exact AO.mk (congrArg Value.bool HR.out.symm) (Below.refl _ _)
theorem rhas_any {w0 : World} {D : Nat -> Prop} {pv : Value} {L : List (Nat × Nat)} (h : Sl w0 D 2 pv L.length (Af L)) (hl : L.length <= 1000000) (a b : Int) :
  Calls Tryz.prog 128 #[pv, .int .i64 a, .int .i64 b] w0 (AO (fun x _ => ∃ c : Bool, x = .bool c /\ (c = true ↔ ∃ x ∈ L, a = (x.1 : Int) /\ b = (x.2 : Int))) w0) := by
 obtain ⟨A, c, rfl, _, _⟩ := h.shape
 obtain ⟨K, kp, hS⟩ : ∃ K : (Nat -> Prop) -> World -> Prop, (∀ D w, K D w -> Sl w D 2 (.slice A L.length c) L.length (Af L)) /\ St w0 w0 [] K := ⟨_, fun _ _ h => h, St.start (At (by decide)) h⟩
 clear h
 go_enter Tryz.func128, Tryz.ntmps128
 go_wp2_with (first | ((with_reducible refine qB ?_); refine qc ?_ ?_ <;> intro h_ <;> go_prune))
 go_loopw [11] (fun i wr => ∃ j : Nat, j <= L.length /\ i = .int .i64 j /\ Hid (∀ t, t < j -> ¬ (a = ((L.getD t (0, 0)).1 : Int) /\ b = ((L.getD t (0, 0)).2 : Int))) /\ St w0 wr [] K) (fun i _ => L.length - (intOf i).toNat)
 case atStart => exact ⟨0, by omega, rfl, Lib.hid (fun t h => absurd h (by omega)), hS⟩
 case round =>
  clear hS
  obtain ⟨j, hj, rfl, HJ, hS⟩ := hrel
  by_cases hlj : j < L.length
  ·obtain ⟨f1, f2⟩ := BC L j hlj
   have hm : Hid (L.getD j (0, 0) ∈ L) := Lib.hid (by rw [List.getD_eq_getElem?_getD, List.getElem?_eq_getElem hlj]; exact List.getElem_mem hlj)
   have HJ2 : Hid (¬ (a = ((L.getD j (0, 0)).1 : Int) /\ b = ((L.getD j (0, 0)).2 : Int)) -> ∀ t, t < j + 1 -> ¬ (a = ((L.getD t (0, 0)).1 : Int) /\ b = ((L.getD t (0, 0)).2 : Int))) := Lib.hid fun h t ht => if e : t = j then e ▸ h else HJ.out t (by omega)
   generalize L.getD j (0, 0) = x at *
   obtain ⟨xa, xb⟩ := x
   dsimp only at f1 f2 HJ2
   by_cases hx : a = (xa : Int)
   ·by_cases hy : b = (xb : Int)
    ·subst hx hy
     go_wp2_with (first
      | ((with_reducible refine qB ?_); refine qc ?_ ?_ <;> intro h_ <;> go_prune)
      | ((with_reducible refine qI ?_); refine qj hS Tryz.underlying32 ?_; intro b_ j_ hc0_ hc1_)
      | ((with_reducible refine qA 8 ?_); refine Bi hS rfl _ rfl (by kernel_rfl) ?_; clear hS; intro g4 w_ hS; (try simp only [Act.put, Act.eval, zz, Value.cells] at hS))
      | ((with_reducible refine qM ?_); (first | refine qS hS ?_ | refine qT hS ?_); clear hS; intro w_ hS; (try simp only [Act.put, Act.eval, zz, Value.cells] at hS))
      | ((with_reducible refine qK ?_); refine qC hS ?_))
     go_ret
     exact AO.mk (v := .bool true) (by first | exact ⟨true, rfl, fun _ => ⟨_, hm.out, rfl, rfl⟩, fun _ => rfl⟩ | exact .inr ⟨rfl, _, _, hm.out, rfl, rfl⟩) hS.below
    ·have HJ3 := Lib.hid (HJ2.out fun h => hy h.2)
     subst hx
     clear HJ2
     have hy' : ¬ ((xb : Nat) : Int) = b := fun e => hy e.symm
     go_wp2_with (first
      | ((with_reducible refine qB ?_); refine qc ?_ ?_ <;> intro h_ <;> go_prune)
      | ((with_reducible refine qI ?_); refine qj hS Tryz.underlying32 ?_; intro b_ j_ hc0_ hc1_)
      | ((with_reducible refine qA 8 ?_); refine Bi hS rfl _ rfl (by kernel_rfl) ?_; clear hS; intro g4 w_ hS; (try simp only [Act.put, Act.eval, zz, Value.cells] at hS))
      | ((with_reducible refine qM ?_); (first | refine qS hS ?_ | refine qT hS ?_); clear hS; intro w_ hS; (try simp only [Act.put, Act.eval, zz, Value.cells] at hS))
      | ((with_reducible refine qK ?_); refine qC hS ?_))
     exact ⟨⟨j + 1, hlj, by go_num, HJ3, hS.sub (List.sublist_cons_self _ _)⟩, by simp [intOf]; omega⟩
   ·have HJ3 := Lib.hid (HJ2.out fun h => hx h.1)
    clear HJ2
    have hx' : ¬ ((xa : Nat) : Int) = a := fun e => hx e.symm
    go_wp2_with (first
     | ((with_reducible refine qB ?_); refine qc ?_ ?_ <;> intro h_ <;> go_prune)
     | ((with_reducible refine qI ?_); refine qj hS Tryz.underlying32 ?_; intro b_ j_ hc0_ hc1_)
     | ((with_reducible refine qA 8 ?_); refine Bi hS rfl _ rfl (by kernel_rfl) ?_; clear hS; intro g4 w_ hS; (try simp only [Act.put, Act.eval, zz, Value.cells] at hS))
     | ((with_reducible refine qM ?_); (first | refine qS hS ?_ | refine qT hS ?_); clear hS; intro w_ hS; (try simp only [Act.put, Act.eval, zz, Value.cells] at hS))
     | ((with_reducible refine qK ?_); refine qC hS ?_))
    exact ⟨⟨j + 1, hlj, by go_num, HJ3, hS.sub (List.sublist_cons_self _ _)⟩, by simp [intOf]; omega⟩
  ·obtain rfl : j = L.length := by omega
   have HN : Hid (¬ ∃ x ∈ L, a = (x.1 : Int) /\ b = (x.2 : Int)) := Lib.hid fun ⟨x, hx, h⟩ => by
    obtain ⟨k, hk, e⟩ := List.getElem_of_mem hx
    refine HJ.out k hk ?_
    rw [List.getD_eq_getElem?_getD, List.getElem?_eq_getElem hk, Option.getD_some, e]
    exact h
   go_wp2_with (first | ((with_reducible refine qB ?_); refine qc ?_ ?_ <;> intro h_ <;> go_prune))
   go_ret
   exact AO.mk (v := .bool false) (by first | exact ⟨false, rfl, fun h => by simp at h, fun h => absurd h HN.out⟩ | exact .inl ⟨rfl, by simpa using HN.out⟩) hS.below
end
section
open Go.RowKit
attribute [local go_sem ↓] Go.wp_at_zero Go.wp_at_succ
set_option maxRecDepth 20000
def shrN (s r : Nat) : Nat := s / 2 ^ r
def rem2 (m : Nat) : Nat := m % 2
theorem bit_of {s r : Nat} : rem2 (shrN s r) = if s.testBit r then 1 else 0 := by
 unfold rem2 shrN
 rw [Nat.testBit_eq_decide_div_mod_eq]
 by_cases h : s / 2 ^ r % 2 = 1
 ·simp [h]
 ·have : s / 2 ^ r % 2 = 0 := by omega
  simp [this]
theorem pow_lt_64 {r : Nat} (h : r < 64) : 2 ^ r < Bu := by rw [CK]; exact Nat.pow_lt_pow_right (by decide) h
section
variable {P : Program} {ops : Array Oper} {rest : List Oper} {o : Oper} {a : Act} {w : World} {Q : Exit -> Act -> World -> Prop}
theorem Gu (hg : Region.wanted o (yielded ops a.tmps) = true) (t t2 : TypeId) (x y : Operand) (ho : o.op = .binOp .shr t x y t2) (s r : Nat) (hx : a.eval x = .int .u64 (s : Nat)) (hy : a.eval y = .int .i64 (r : Nat)) (hr : r <= 64)
  (hk : wpList P ops Q rest (a.put o.dst (.int .u64 (shrN s r : Nat))) w) : wpList P ops Q (o :: rest) a w := by
 refine BigFrame.wpList_want hg fun _ hK => AU (v := .int .u64 (shrN s r : Nat)) ho hx hy (by simp [eqGuard]) ?_ (hK _ _ hk)
 rw [binOp_shr, shift_shr _ _ _ _ (by omega) (by show (r : Int) <= 64; omega)]
 simp [shrN]
theorem Gv (hg : Region.wanted o (yielded ops a.tmps) = true) (t t2 : TypeId) (x y : Operand) (ho : o.op = .binOp .rem t x y t2) (m : Nat) (hx : a.eval x = .int .u64 (m : Nat)) (hy : a.eval y = .int .u64 2)
  (hk : wpList P ops Q rest (a.put o.dst (.int .u64 (rem2 m : Nat))) w) : wpList P ops Q (o :: rest) a w := by
 refine BigFrame.wpList_want hg fun _ hK => AU (v := .int .u64 (rem2 m : Nat)) ho hx hy (by simp [eqGuard]) ?_ (hK _ _ hk)
 go_simp
 exact tmod_nat m 2
theorem F4 (hg : Region.wanted o (yielded ops a.tmps) = true) (t t2 : TypeId) (x y : Operand) (ho : o.op = .binOp .eql t x y t2) (s r : Nat) (hx : a.eval x = .int .u64 (rem2 (shrN s r) : Nat)) (hy : a.eval y = .int .u64 1) {b : Bool} (hb : s.testBit r = b)
  (hk : wpList P ops Q rest (a.put o.dst (.bool b)) w) : wpList P ops Q (o :: rest) a w := by
 refine BigFrame.wpList_want hg fun _ hK => AU (v := .bool b) ho hx hy (by simp [eqGuard]) ?_ (hK _ _ hk)
 rw [binOp_eql, bit_of, hb]
 cases b <;> simp
theorem st_shl1 (hg : Region.wanted o (yielded ops a.tmps) = true) (t t2 : TypeId) (x y : Operand) (ho : o.op = .binOp .shl t x y t2) (r : Nat) (hx : a.eval x = .int .u64 1) (hy : a.eval y = .int .i64 (r : Nat)) (hr : r < 64)
  (hk : wpList P ops Q rest (a.put o.dst (.int .u64 (2 ^ r : Nat))) w) : wpList P ops Q (o :: rest) a w := by
 have h := J8 (P := P) (w := w) (t := t) (r := r) (e := (r : Nat)) (by rw [Nat.mod_eq_of_lt hr])
 rw [Nat.mod_eq_of_lt hr] at h
 exact BigFrame.wpList_want hg fun _ hK => AU (v := .int .u64 (2 ^ r : Nat)) ho hx hy (by simp [eqGuard]) h (hK _ _ hk)
theorem st_orN (hg : Region.wanted o (yielded ops a.tmps) = true) (t t2 : TypeId) (x y : Operand) (ho : o.op = .binOp .or t x y t2) (m n : Nat) (hx : a.eval x = .int .u64 (m : Nat)) (hy : a.eval y = .int .u64 (n : Nat)) (hm : m < Bu) (hn : n < Bu)
  (hk : wpList P ops Q rest (a.put o.dst (.int .u64 (m ||| n : Nat))) w) : wpList P ops Q (o :: rest) a w :=
 BigFrame.wpList_want hg fun _ hK => AU (v := .int .u64 (m ||| n : Nat)) ho hx hy (by simp [eqGuard]) (Fo hm hn) (hK _ _ hk)
end
end
section
open Go.RowKit
attribute [local go_sem ↓] Go.wp_at_zero Go.wp_at_succ
set_option maxRecDepth 20000
set_option exponentiation.threshold 5000
def Ip (L : List (Nat × Nat)) (r s : Int) : Prop := ∃ i j : Nat, r = (i : Int) /\ s = (j : Int) /\ (1 <= i /\ i < 64) /\ (1 <= j /\ j < 64) /\ (i = j \/ TC L i j)
noncomputable def junR (L : List (Nat × Nat)) (r : Int) : Nat := if 1 <= r /\ r <= 63 then junM L r.toNat else 0
theorem rjun_any {w0 : World} {D : Nat -> Prop} {pv : Value} {L : List (Nat × Nat)} (h : Sl w0 D 2 pv L.length (Af L)) (hL : EI 64 L) (hl : L.length <= 1000000) (r : Int) :
  Calls Tryz.prog 130 #[pv, .int .i64 r] w0 (AO (fun x _ => x = .int .u64 (junR L r : Nat)) w0) := by
 obtain ⟨A, c, rfl, _, _⟩ := h.shape
 obtain ⟨K, kp, hS⟩ : ∃ K : (Nat -> Prop) -> World -> Prop, (∀ D w, K D w -> Sl w D 2 (.slice A L.length c) L.length (Af L)) /\ St w0 w0 [] K := ⟨_, fun _ _ h => h, St.start (At (by decide)) h⟩
 clear h
 by_cases hr : 1 <= r /\ r <= 63
 ·obtain ⟨k, rfl⟩ : ∃ k : Nat, r = (k : Int) := ⟨r.toNat, by omega⟩
  have HR := Lib.hid (decide_eq_true hr)
  have hk : k < 64 := by omega
  have HJ := Lib.hid (show junR L (k : Int) = junM L k by rw [junR, if_pos hr, Int.toNat_natCast])
  have HL := Lib.hid hL
  have H0 : Hid (Fj L k (2 ^ k) /\ 2 ^ k < 2 ^ 64) := Lib.hid ⟨Fj.start L k, Nat.pow_lt_pow_right (by decide) hk⟩
  clear hr hL
  go_enter Tryz.func130, Tryz.ntmps130
  go_wp2_with (first
   | (go_at_call 127; refine (Cl _ _).mono ?_; rw [HR.out]; rintro r_ w_ ⟨_, rfl, rfl, hb_⟩; replace hS := hS.ext hb_; clear hb_)
   | ((with_reducible refine qb .shl ?_); refine st_shl1 rfl _ _ _ _ rfl _ rfl rfl hk ?_))
  go_loopw [5] (fun v wr => ∃ s : Nat, v = .int .u64 (s : Nat) /\ Hid (Fj L k s /\ s < 2 ^ 64) /\ St w0 wr [] K) (fun v _ => outN (intOf v).toNat)
  case atStart => exact ⟨_, rfl, H0, hS⟩
  case round =>
   clear hS H0
   obtain ⟨s, rfl, HS, hS⟩ := hrel
   go_wp2_with (first | ((with_reducible refine qB ?_); refine qc ?_ ?_ <;> intro h_ <;> go_prune))
   go_loopw [6, 17] (fun m i wr => ∃ j : Nat, j <= L.length /\ i = .int .i64 (j : Nat) /\ m = .int .u64 (jTo L s j : Nat) /\ St w0 wr [] K) (fun _ i _ => L.length - (intOf i).toNat)
   case atStart => exact ⟨0, by omega, rfl, by simp [jTo], hS⟩
   case round =>
    clear hS
    obtain ⟨j, hj, rfl, rfl, hS⟩ := hrel
    by_cases hlj : j < L.length
    ·obtain ⟨f1, f2⟩ := BC L j hlj
     have HG := Lib.hid (Bz (0, 0) hlj)
     have hm := HL.out (L.getD j (0, 0)) (by rw [List.getD_eq_getElem?_getD, List.getElem?_eq_getElem hlj]; exact List.getElem_mem hlj)
     have HSt := Lib.hid (jTo_step (s := s) HG.out)
     have hM : jTo L s j < Bu := by rw [CK]; exact jTo_lt HL.out HS.out.2
     generalize L.getD j (0, 0) = x at *
     generalize jTo L s j = M at *
     obtain ⟨xa, xb⟩ := x
     dsimp only at f1 f2 hm HSt
     obtain ⟨hxa, hxb⟩ := hm
     cases hbit : s.testBit xa
     ·rw [hbit] at HSt
      have HE := Lib.hid (HSt.out.trans (if_neg (by simp)))
      go_wp2_with (first
       | ((with_reducible refine qb .shr ?_); refine Gu rfl _ _ _ _ rfl _ _ rfl rfl (by omega) ?_)
       | ((with_reducible refine qb .rem ?_); refine Gv rfl _ _ _ _ rfl _ rfl rfl ?_)
       | ((with_reducible refine qA 26 ?_); refine F4 rfl _ _ _ _ rfl _ _ rfl rfl hbit ?_)
       | ((with_reducible refine qB ?_); refine qc ?_ ?_ <;> intro h_ <;> go_prune)
       | ((with_reducible refine qI ?_); refine qj hS Tryz.underlying32 ?_; intro b_ j_ hc0_ hc1_)
       | ((with_reducible refine qA 8 ?_); refine Bi hS rfl _ rfl (by kernel_rfl) ?_; clear hS; intro g4 w_ hS; (try simp only [Act.put, Act.eval, zz, Value.cells] at hS))
       | ((with_reducible refine qM ?_); (first | refine qS hS ?_ | refine qT hS ?_); clear hS; intro w_ hS; (try simp only [Act.put, Act.eval, zz, Value.cells] at hS))
       | ((with_reducible refine qK ?_); refine qC hS ?_))
      exact ⟨⟨j + 1, hlj, by go_num, by rw [HE.out], hS.sub (List.sublist_cons_self _ _)⟩, by simp [intOf]; omega⟩
     ·rw [hbit] at HSt
      have HE := Lib.hid (HSt.out.trans (if_pos rfl))
      go_wp2_with (first
       | ((with_reducible refine qb .shr ?_); refine Gu rfl _ _ _ _ rfl _ _ rfl rfl (by omega) ?_)
       | ((with_reducible refine qb .rem ?_); refine Gv rfl _ _ _ _ rfl _ rfl rfl ?_)
       | ((with_reducible refine qb .shl ?_); refine st_shl1 rfl _ _ _ _ rfl _ rfl rfl hxb ?_)
       | ((with_reducible refine qb .or ?_); refine st_orN rfl _ _ _ _ rfl _ _ rfl rfl hM (pow_lt_64 hxb) ?_)
       | ((with_reducible refine qA 26 ?_); refine F4 rfl _ _ _ _ rfl _ _ rfl rfl hbit ?_)
       | ((with_reducible refine qB ?_); refine qc ?_ ?_ <;> intro h_ <;> go_prune)
       | ((with_reducible refine qI ?_); refine qj hS Tryz.underlying32 ?_; intro b_ j_ hc0_ hc1_)
       | ((with_reducible refine qA 8 ?_); refine Bi hS rfl _ rfl (by kernel_rfl) ?_; clear hS; intro g4 w_ hS; (try simp only [Act.put, Act.eval, zz, Value.cells] at hS))
       | ((with_reducible refine qM ?_); (first | refine qS hS ?_ | refine qT hS ?_); clear hS; intro w_ hS; (try simp only [Act.put, Act.eval, zz, Value.cells] at hS))
       | ((with_reducible refine qK ?_); refine qC hS ?_))
      exact ⟨⟨j + 1, hlj, by go_num, by rw [HE.out], hS.sub (List.sublist_cons_self _ _)⟩, by simp [intOf]; omega⟩
    ·obtain rfl : j = L.length := by omega
     have HM : Hid (jTo L s L.length < 2 ^ 64 /\ Fj L k (jTo L s L.length) /\ (∀ i, s.testBit i = true -> (jTo L s L.length).testBit i = true)) := Lib.hid ⟨jTo_lt HL.out HS.out.2, HS.out.1.next, fun i hi => (IR (Nat.le_refl _)).2 (.inl hi)⟩
     by_cases he : jTo L s L.length = s
     ·have HF := Lib.hid (HS.out.1.stop HL.out hk he)
      rw [he]
      go_wp2_with (first | ((with_reducible refine qB ?_); refine qc ?_ ?_ <;> intro h_ <;> go_prune))
      go_ret
      exact AO.mk (by rw [HJ.out, <- HF.out]; rfl) hS.below
     ·have HO := Lib.hid (outN_lt HS.out.2 HM.out.1 HM.out.2.2 he)
      generalize jTo L s L.length = M at *
      have he2 : ¬ (M : Int) = (s : Int) := by omega
      go_wp2_with (first | ((with_reducible refine qB ?_); refine qc ?_ ?_ <;> intro h_ <;> go_prune))
      exact ⟨⟨M, rfl, Lib.hid ⟨HM.out.2.1, HM.out.1⟩, hS⟩, by simpa [intOf] using HO.out⟩
 ·have HR := Lib.hid (decide_eq_false hr)
  have HJ := Lib.hid (show junR L r = 0 by rw [junR, if_neg hr])
  rw [HJ.out]
  clear hr
  go_enter Tryz.func130, Tryz.ntmps130
  go_wp2_with (first
   | (go_at_call 127; refine (Cl _ _).mono ?_; rw [HR.out]; rintro r_ w_ ⟨_, rfl, rfl, hb_⟩; replace hS := hS.ext hb_; clear hb_))
  go_ret
  exact AO.mk rfl hS.below
theorem impl_junR {L : List (Nat × Nat)} (hL : EI 64 L) (r s : Int) : (1 <= s /\ s <= 63) /\ (junR L r).testBit s.toNat = true ↔ Ip L r s := by
 unfold junR Ip
 constructor
 ·rintro ⟨h1, h2⟩
  by_cases hr : 1 <= r /\ r <= 63
  ·rw [if_pos hr, Hy hL (by omega)] at h2
   exact ⟨r.toNat, s.toNat, by omega, by omega, by omega, by omega, h2.imp (fun h => h.symm) id⟩
  ·rw [if_neg hr, Nat.zero_testBit] at h2; cases h2
 ·rintro ⟨i, j, rfl, rfl, h1, h2, h3⟩
  refine ⟨by omega, ?_⟩
  rw [if_pos (by omega), Int.toNat_natCast, Int.toNat_natCast, Hy hL (by omega)]
  exact h3.imp (fun h => h.symm) id
theorem rimpl_any {w0 : World} {D : Nat -> Prop} {pv : Value} {L : List (Nat × Nat)} (h : Sl w0 D 2 pv L.length (Af L)) (hL : EI 64 L) (hl : L.length <= 1000000) (r s : Int) :
  Calls Tryz.prog 129 #[pv, .int .i64 r, .int .i64 s] w0 (AO (fun x _ => ∃ c : Bool, x = .bool c /\ (c = true ↔ Ip L r s)) w0) := by
 have HJ := Lib.hid (fun w (hb : Below w0.heap.size w0 w) => rjun_any (h.ext hb) hL hl r)
 have HI := Lib.hid (impl_junR hL r s)
 by_cases hs : 1 <= s /\ s <= 63
 ·obtain ⟨k, rfl⟩ : ∃ k : Nat, s = (k : Int) := ⟨s.toNat, by omega⟩
  have HR := Lib.hid (decide_eq_true hs)
  have hk : k < 64 := by omega
  rw [Int.toNat_natCast] at HI
  have HI2 : Hid ((junR L r).testBit k = true ↔ Ip L r k) := Lib.hid ⟨fun h => HI.out.1 ⟨hs, h⟩, fun h => (HI.out.2 h).2⟩
  clear hs HI
  obtain ⟨b, hb0⟩ : ∃ b, (junR L r).testBit k = b := ⟨_, rfl⟩
  have hb := Lib.hid hb0
  rw [hb0] at HI2
  generalize junR L r = J at *
  clear hb0
  go_enter Tryz.func129, Tryz.ntmps129
  go_wp2_with (first
   | (go_at_call 127; refine (Cl _ _).mono ?_; rw [HR.out]; rintro r_ w_ ⟨_, rfl, rfl, hb_⟩)
   | (go_at_call 130; refine (HJ.out _ hb_).mono ?_; rintro r_ w2 ⟨_, rfl, rfl, hb2⟩)
   | ((with_reducible refine qb .shr ?_); refine Gu rfl _ _ _ _ rfl _ _ rfl rfl (by omega) ?_)
   | ((with_reducible refine qb .rem ?_); refine Gv rfl _ _ _ _ rfl _ rfl rfl ?_)
   | ((with_reducible refine qA 16 ?_); refine F4 rfl _ _ _ _ rfl _ _ rfl rfl hb.out ?_))
  go_ret
  exact AO.mk ⟨b, rfl, HI2.out⟩ (Ca hb_ hb2)
 ·have HR := Lib.hid (decide_eq_false hs)
  have HI2 : Hid (¬ Ip L r s) := Lib.hid fun h => hs (HI.out.2 h).1
  clear hs HI
  go_enter Tryz.func129, Tryz.ntmps129
  go_wp2_with (first
   | (go_at_call 127; refine (Cl _ _).mono ?_; rw [HR.out]; rintro r_ w_ ⟨_, rfl, rfl, hb_⟩))
  go_ret
  exact AO.mk ⟨false, rfl, fun h => by simp at h, fun h => absurd h HI2.out⟩ hb_
noncomputable def closTo (L : List (Nat × Nat)) (s k : Nat) : Nat := (List.range k).foldl (fun m r => if 1 <= r /\ s.testBit r then m ||| junM L r else m) 0
theorem E2 (L : List (Nat × Nat)) (s k : Nat) : closTo L s (k + 1) = if 1 <= k /\ s.testBit k then closTo L s k ||| junM L k else closTo L s k := by
 unfold closTo; rw [List.range_succ, List.foldl_append]; rfl
theorem Fm {L : List (Nat × Nat)} {s i : Nat} : ∀ {k : Nat}, (closTo L s k).testBit i = true ↔ ∃ r, r < k /\ 1 <= r /\ s.testBit r = true /\ (junM L r).testBit i = true
 | 0 => by simp [closTo]
 | k + 1 => by
  rw [E2]
  split
  ·rename_i h
   rw [DA, Fm]
   constructor
   ·rintro (⟨r, h1, h2⟩ | h1)
    ·exact ⟨r, by omega, h2⟩
    ·exact ⟨k, by omega, h.1, h.2, h1⟩
   ·rintro ⟨r, h1, h2, h3, h4⟩
    rcases Nat.lt_or_ge r k with h5 | h5
    ·exact .inl ⟨r, h5, h2, h3, h4⟩
    ·obtain rfl : r = k := by omega
     exact .inr h4
  ·rename_i h
   rw [Fm]
   constructor
   ·rintro ⟨r, h1, h2⟩
    exact ⟨r, by omega, h2⟩
   ·rintro ⟨r, h1, h2, h3, h4⟩
    rcases Nat.lt_or_ge r k with h5 | h5
    ·exact ⟨r, h5, h2, h3, h4⟩
    ·obtain rfl : r = k := by omega
     exact absurd ⟨h2, h3⟩ h
theorem junM_lt (L : List (Nat × Nat)) (r : Nat) : junM L r < 2 ^ 64 := by
 apply Nat.lt_pow_two_of_testBit
 intro i hi
 cases e : (junM L r).testBit i with
 | false => rfl
 | true => rw [junM, Bo] at e; omega
theorem FD (L : List (Nat × Nat)) (s : Nat) : ∀ k, closTo L s k < 2 ^ 64
 | 0 => by simp [closTo]
 | k + 1 => by
  rw [E2]
  split
  ·exact Nat.or_lt_two_pow (FD L s k) (junM_lt L k)
  ·exact FD L s k
noncomputable def closM (L : List (Nat × Nat)) (s : Nat) : Nat := closTo L s 64
theorem Fq {w0 : World} {D : Nat -> Prop} {pv : Value} {L : List (Nat × Nat)} (h : Sl w0 D 2 pv L.length (Af L)) (hL : EI 64 L) (hl : L.length <= 1000000) (s : Nat) :
  Calls Tryz.prog 92 #[pv, .int .u64 (s : Nat)] w0 (AO (fun x _ => x = .int .u64 (closM L s : Nat)) w0) := by
 obtain ⟨A, c, rfl, _, _⟩ := h.shape
 have HJ := Lib.hid (fun w (hb : Below w0.heap.size w0 w) (r : Int) => rjun_any (h.ext hb) hL hl r)
 have hB := Below.refl w0.heap.size w0
 clear h
 go_enter Tryz.func92, Tryz.ntmps92
 go_wp2_with fail
 go_loopw [5, 6] (fun m i wr => ∃ k : Nat, 1 <= k /\ k <= 64 /\ i = .int .i64 (k : Nat) /\ m = .int .u64 (closTo L s k : Nat) /\ Below w0.heap.size w0 wr) (fun _ i _ => 64 - (intOf i).toNat)
 case atStart => exact ⟨1, by omega, by omega, rfl, by rw [E2]; simp [closTo], hB⟩
 case round =>
  clear hB
  obtain ⟨k, hk1, hk2, rfl, rfl, hB⟩ := hrel
  have hM : closTo L s k < Bu := by rw [CK]; exact FD L s k
  by_cases hk : k < 64
  ·have HSt := Lib.hid (E2 L s k)
   have hJ2 : junM L k < Bu := by rw [CK]; exact junM_lt L k
   have HJ3 := Lib.hid (show junR L (k : Int) = junM L k by rw [junR, if_pos (by omega), Int.toNat_natCast])
   generalize closTo L s k = M at *
   generalize junM L k = J at *
   cases hbit : s.testBit k
   ·rw [hbit] at HSt
    have HE := Lib.hid (HSt.out.trans (if_neg (by simp)))
    go_wp2_with (first
     | ((with_reducible refine qb .shr ?_); refine Gu rfl _ _ _ _ rfl _ _ rfl rfl (by omega) ?_)
     | ((with_reducible refine qb .rem ?_); refine Gv rfl _ _ _ _ rfl _ rfl rfl ?_)
     | ((with_reducible refine qA 15 ?_); refine F4 rfl _ _ _ _ rfl _ _ rfl rfl hbit ?_)
     | ((with_reducible refine qB ?_); refine qc ?_ ?_ <;> intro h_ <;> go_prune))
    exact ⟨⟨k + 1, by omega, by omega, by go_num, by rw [HE.out], hB⟩, by simp [intOf]; omega⟩
   ·rw [hbit] at HSt
    have HE := Lib.hid (HSt.out.trans (if_pos ⟨hk1, rfl⟩))
    go_wp2_with (first
     | ((with_reducible refine qb .shr ?_); refine Gu rfl _ _ _ _ rfl _ _ rfl rfl (by omega) ?_)
     | ((with_reducible refine qb .rem ?_); refine Gv rfl _ _ _ _ rfl _ rfl rfl ?_)
     | ((with_reducible refine qb .or ?_); refine st_orN rfl _ _ _ _ rfl _ _ rfl rfl hM hJ2 ?_)
     | ((with_reducible refine qA 15 ?_); refine F4 rfl _ _ _ _ rfl _ _ rfl rfl hbit ?_)
     | (go_at_call 130; refine (HJ.out _ hB _).mono ?_; rw [HJ3.out]; rintro r_ w2 ⟨_, rfl, rfl, hb2⟩)
     | ((with_reducible refine qB ?_); refine qc ?_ ?_ <;> intro h_ <;> go_prune))
    exact ⟨⟨k + 1, by omega, by omega, by go_num, by rw [HE.out], Ca hB hb2⟩, by simp [intOf]; omega⟩
  ·obtain rfl : k = 64 := by omega
   go_wp2_with (first | ((with_reducible refine qB ?_); refine qc ?_ ?_ <;> intro h_ <;> go_prune))
   go_ret
   exact AO.mk rfl hB
end
section
open Go.RowKit
attribute [local go_sem ↓] Go.wp_at_zero Go.wp_at_succ
set_option maxRecDepth 20000
set_option exponentiation.threshold 5000
def twoR (a b : Int) : Prop := (1 <= a /\ a <= 63) /\ (1 <= b /\ b <= 63) /\ a ≠ b
def RLinkP (w0 : World) (pv : Value) (L : List (Nat × Nat)) (a b : Int) (e : Ending) (w' : World) : Prop :=
 (¬ twoR a b /\ e = .returned (.tuple #[pv, .int .i64 1]) /\ Below w0.heap.size w0 w') \/
 ∃ x y : Nat, a = (x : Int) /\ b = (y : Int) /\ (1 <= x /\ x < 64) /\ (1 <= y /\ y < 64) /\ x ≠ y /\
  (((x, y) ∈ L /\ e = .returned (.tuple #[pv, .int .i64 5]) /\ Below w0.heap.size w0 w') \/
   ((x, y) ∉ L /\ TC L y x /\ e = .returned (.tuple #[pv, .int .i64 16]) /\ Below w0.heap.size w0 w') \/
   ((x, y) ∉ L /\ ¬ TC L y x /\ ∃ v, e = .returned (.tuple #[v, .int .i64 0]) /\ St w0 w' [.own v 159 2 (L.length + 1) (Af (ins L (x, y)))] fun _ _ => True))
theorem ins_at {L : List (Nat × Nat)} {y : Nat × Nat} {i : Nat} (h : i <= D9 L y) {x : Nat × Nat} (hx : L[i]? = some x) : (Ii x y -> i + 1 <= D9 L y) /\ (¬ Ii x y -> i = D9 L y) := by
 constructor
 ·intro hp
  rcases Nat.lt_or_ge i (D9 L y) with h1 | h1
  ·exact h1
  ·obtain rfl : i = D9 L y := by omega
   exact absurd hp (insAt_stop hx)
 ·intro hp
  rcases Nat.lt_or_ge i (D9 L y) with h1 | h1
  ·obtain ⟨z, h2, h3⟩ := insAt_lt h1
   rw [hx] at h2
   cases h2
   exact absurd h3 hp
  ·omega
theorem F8 (L : List (Nat × Nat)) : ∀ k, (Af L).drop (k * 2) = Af (L.drop k) := by
 induction L with
 | nil => intro k; simp [Af]
 | cons x L ih =>
  intro k
  cases k with
  | zero => simp [Af]
  | succ k => rw [show (k + 1) * 2 = k * 2 + 1 + 1 by omega, DV]; simp [ih]
def BO (L : List (Nat × Nat)) (z : Nat × Nat) (i : Nat) : AD := ⟨159, 2, 4, fun s => match s with | 0 => 0 | 1 => 0 + i | 2 => 0 + i + 1 | _ => 0 + i + 1 + (L.length - i), fun s => match s with | 0 => [] | 1 => [] ++ (Af L).take (i * 2) | 2 => [] ++ (Af L).take (i * 2) ++ Af [z] | _ => [] ++ (Af L).take (i * 2) ++ Af [z] ++ (Af L).drop (i * 2), fun _ v => .own v 159 2 1 (Af [z])⟩
def CM : List (Nat × (Bool × Nat)) := [(0, (true, 0)), (4, (true, 1)), (8, (false, 0)), (9, (true, 2)), (13, (true, 3))]
set_option maxHeartbeats 2000000 in
theorem rlink_any {w0 : World} {D : Nat -> Prop} {pv : Value} {L : List (Nat × Nat)} (h : Sl w0 D 2 pv L.length (Af L)) (hL : EI 64 L) (hl : L.length <= 1000000) (a b : Int) :
  Calls Tryz.prog 89 #[pv, .int .i64 a, .int .i64 b] w0 (RLinkP w0 pv L a b) := by
 obtain ⟨A, c, rfl, hc1, _⟩ := h.shape
 obtain ⟨K, kp, hS⟩ : ∃ K : (Nat -> Prop) -> World -> Prop, (∀ D w, K D w -> Sl w D 2 (.slice A L.length c) L.length (Af L)) /\ St w0 w0 [] K := ⟨_, fun _ _ h => h, St.start (At (by decide)) h⟩
 clear h
 have HH := Lib.hid (fun (w : World) (D : Nat -> Prop) (h : Sl w D 2 (.slice A L.length c) L.length (Af L)) => rhas_any h hl a b)
 have HI := Lib.hid (fun (w : World) (D : Nat -> Prop) (h : Sl w D 2 (.slice A L.length c) L.length (Af L)) => rimpl_any h hL hl b a)
 by_cases hra : 1 <= a /\ a <= 63
 ·have HRA := Lib.hid (decide_eq_true hra)
  by_cases hrb : 1 <= b /\ b <= 63
  ·have HRB := Lib.hid (decide_eq_true hrb)
   by_cases hab : a = b
   ·subst hab
    have HNO : Hid (¬ twoR a a) := Lib.hid fun h => h.2.2 rfl
    clear hra hrb
    go_enter Tryz.func89, Tryz.ntmps89
    go_wp2_with (first
     | ((with_reducible refine qB ?_); refine qc ?_ ?_ <;> intro h_ <;> go_prune)
     | (go_at_call 127; refine (Cl _ _).mono ?_; (first | rw [HRA.out] | rw [HRB.out]); rintro r_ w_ ⟨_, rfl, rfl, hb_⟩; replace hS := hS.ext hb_; clear hb_))
    go_ret2
    exact .inl ⟨HNO.out, rfl, hS.below⟩
   ·obtain ⟨x, rfl⟩ : ∃ x : Nat, a = (x : Int) := ⟨a.toNat, by omega⟩
    obtain ⟨y, rfl⟩ : ∃ y : Nat, b = (y : Int) := ⟨b.toNat, by omega⟩
    have hx1 : Hid (1 <= x /\ x < 64) := Lib.hid (by omega)
    have hy1 : Hid (1 <= y /\ y < 64) := Lib.hid (by omega)
    have hxy : Hid (x ≠ y) := Lib.hid (by omega)
    have HC1 : Hid (∀ c : Bool, (c = true ↔ ∃ z ∈ L, (x : Int) = (z.1 : Int) /\ (y : Int) = (z.2 : Int)) -> c = decide ((x, y) ∈ L)) := Lib.hid fun c hc => by
     rw [Bool.eq_iff_iff, hc, decide_eq_true_iff]
     constructor
     ·rintro ⟨⟨za, zb⟩, h1, h2, h3⟩
      dsimp only at h2 h3
      obtain rfl : x = za := by omega
      obtain rfl : y = zb := by omega
      exact h1
     ·intro h; exact ⟨_, h, rfl, rfl⟩
    have HC2 : Hid (∀ c : Bool, (c = true ↔ Ip L (y : Nat) (x : Nat)) -> (c = true ↔ TC L y x)) := Lib.hid fun c hc => hc.trans ⟨fun ⟨i, j, h1, h2, _, _, h3⟩ => by
      obtain rfl : y = i := by omega
      obtain rfl : x = j := by omega
      exact h3.resolve_left fun e => hxy.out e.symm, fun h => ⟨y, x, rfl, rfl, hy1.out, hx1.out, .inr h⟩⟩
    clear hra hrb
    by_cases hm : (x, y) ∈ L
    ·go_enter Tryz.func89, Tryz.ntmps89
     go_wp2_with (first
      | ((with_reducible refine qB ?_); refine qc ?_ ?_ <;> intro h_ <;> go_prune)
      | (go_at_call 127; refine (Cl _ _).mono ?_; (first | rw [HRA.out] | rw [HRB.out]); rintro r_ w_ ⟨_, rfl, rfl, hb_⟩; replace hS := hS.ext hb_; clear hb_)
      | (go_at_call 128; refine (HH.out _ _ (kp _ _ hS.ro)).mono ?_; rintro r_ w_ ⟨_, rfl, ⟨c, rfl, hc⟩, hb_⟩; replace hc := HC1.out c hc; rw [decide_eq_true hm] at hc; subst hc; replace hS := hS.ext hb_; clear hb_))
     go_ret2
     exact .inr ⟨x, y, rfl, rfl, hx1.out, hy1.out, hxy.out, .inl ⟨hm, rfl, hS.below⟩⟩
    ·by_cases ht : TC L y x
     ·have HT := Lib.hid ht
      have HC3 : Hid (∀ c : Bool, (c = true ↔ Ip L (y : Nat) (x : Nat)) -> c = true) := Lib.hid fun c hc => (HC2.out c hc).2 ht
      clear ht
      go_enter Tryz.func89, Tryz.ntmps89
      go_wp2_with (first
       | ((with_reducible refine qB ?_); refine qc ?_ ?_ <;> intro h_ <;> go_prune)
       | (go_at_call 127; refine (Cl _ _).mono ?_; (first | rw [HRA.out] | rw [HRB.out]); rintro r_ w_ ⟨_, rfl, rfl, hb_⟩; replace hS := hS.ext hb_; clear hb_)
       | (go_at_call 128; refine (HH.out _ _ (kp _ _ hS.ro)).mono ?_; rintro r_ w_ ⟨_, rfl, ⟨c, rfl, hc⟩, hb_⟩; replace hc := HC1.out c hc; rw [decide_eq_false hm] at hc; subst hc; replace hS := hS.ext hb_; clear hb_)
       | (go_at_call 129; refine (HI.out _ _ (kp _ _ hS.ro)).mono ?_; rintro r_ w_ ⟨_, rfl, ⟨c, rfl, hc⟩, hb_⟩; obtain rfl := HC3.out c hc; clear hc; replace hS := hS.ext hb_; clear hb_))
      go_ret2
      exact .inr ⟨x, y, rfl, rfl, hx1.out, hy1.out, hxy.out, .inr (.inl ⟨hm, HT.out, rfl, hS.below⟩)⟩
     ·have HT := Lib.hid ht
      have HC3 : Hid (∀ c : Bool, (c = true ↔ Ip L (y : Nat) (x : Nat)) -> c = false) := Lib.hid fun c hc => by
       cases c with
       | true => exact absurd ((HC2.out true hc).1 rfl) ht
       | false => rfl
      clear ht
      go_enter Tryz.func89, Tryz.ntmps89
      go_wp2_with (first
       | ((with_reducible refine qB ?_); refine qc ?_ ?_ <;> intro h_ <;> go_prune)
       | (go_at_call 127; refine (Cl _ _).mono ?_; (first | rw [HRA.out] | rw [HRB.out]); rintro r_ w_ ⟨_, rfl, rfl, hb_⟩; replace hS := hS.ext hb_; clear hb_)
       | (go_at_call 128; refine (HH.out _ _ (kp _ _ hS.ro)).mono ?_; rintro r_ w_ ⟨_, rfl, ⟨c, rfl, hc⟩, hb_⟩; replace hc := HC1.out c hc; rw [decide_eq_false hm] at hc; subst hc; replace hS := hS.ext hb_; clear hb_)
       | (go_at_call 129; refine (HI.out _ _ (kp _ _ hS.ro)).mono ?_; rintro r_ w_ ⟨_, rfl, ⟨c, rfl, hc⟩, hb_⟩; obtain rfl := HC3.out c hc; clear hc; replace hS := hS.ext hb_; clear hb_))
      go_loopw [8] (fun v wr => ∃ i : Nat, v = .int .i64 (i : Nat) /\ i <= L.length /\ Hid (i <= D9 L (x, y)) /\ St w0 wr [] K) (fun v _ => L.length - (intOf v).toNat)
      case atStart => exact ⟨0, rfl, by omega, Lib.hid (Nat.zero_le _), hS⟩
      case round =>
       clear hS HH HI
       obtain ⟨i, rfl, hil, HIA, hS⟩ := hrel
       by_cases hlt : i < L.length
       ·obtain ⟨f1, f2⟩ := BC L i hlt
        have HST := Lib.hid (ins_at HIA.out (Bz (0, 0) hlt))
        generalize L.getD i (0, 0) = z at *
        obtain ⟨za, zb⟩ := z
        dsimp only at f1 f2
        rcases Nat.lt_trichotomy za x with h1 | h1 | h1
        ·have HN := Lib.hid (HST.out.1 (.inl h1))
         clear HST
         go_wp2_with (first
          | ((with_reducible refine qB ?_); refine qc ?_ ?_ <;> intro h_ <;> go_prune)
          | ((with_reducible refine qI ?_); refine qj hS Tryz.underlying32 ?_; intro b_ j_ hc0_ hc1_)
          | ((with_reducible refine qK ?_); first | refine BigFrame.wpList_want rfl fun _ hK => Ah rfl rfl (by kernel_rfl) hc0_ (hK _ _ ?_) | refine BigFrame.wpList_want rfl fun _ hK => Ah rfl rfl (by kernel_rfl) hc1_ (hK _ _ ?_)))
         exact ⟨⟨i + 1, by go_num, hlt, HN, hS⟩, by simp [intOf]; omega⟩
        ·by_cases h2 : zb < y
         ·have HN := Lib.hid (HST.out.1 (.inr ⟨h1, h2⟩))
          clear HST
          go_wp2_with (first
           | ((with_reducible refine qB ?_); refine qc ?_ ?_ <;> intro h_ <;> go_prune)
           | ((with_reducible refine qI ?_); refine qj hS Tryz.underlying32 ?_; intro b_ j_ hc0_ hc1_)
           | ((with_reducible refine qK ?_); first | refine BigFrame.wpList_want rfl fun _ hK => Ah rfl rfl (by kernel_rfl) hc0_ (hK _ _ ?_) | refine BigFrame.wpList_want rfl fun _ hK => Ah rfl rfl (by kernel_rfl) hc1_ (hK _ _ ?_)))
          exact ⟨⟨i + 1, by go_num, hlt, HN, hS⟩, by simp [intOf]; omega⟩
         ·have HE := Lib.hid (HST.out.2 (by rintro (h | h) <;> dsimp only at h <;> omega))
          clear HST
          go_wp2_with (first
           | ((with_reducible refine qB ?_); refine qc ?_ ?_ <;> intro h_ <;> go_prune)
           | ((with_reducible refine qI ?_); refine qj hS Tryz.underlying32 ?_; intro b_ j_ hc0_ hc1_)
           | ((with_reducible refine qK ?_); first | refine BigFrame.wpList_want rfl fun _ hK => Ah rfl rfl (by kernel_rfl) hc0_ (hK _ _ ?_) | refine BigFrame.wpList_want rfl fun _ hK => Ah rfl rfl (by kernel_rfl) hc1_ (hK _ _ ?_)))
          have hic : i <= c := by omega
          have hJ0 : AJ w0 [] K (BO L (x, y) i) (wr.drew, ⟨[], []⟩) := ⟨hS.drew, Nat.zero_le _⟩
          have hN0 := JM CM wr.drew
          have hRr := @AR.refl w0 [] K (BO L (x, y) i)
          have hRt := @AR.trans w0 [] K (BO L (x, y) i)
          refine FL (AR w0 [] K (BO L (x, y) i)) (AN CM) (⟨[], []⟩) hRr hRt [.s (fun v w => Hq w.2 0 v) fun v w w' h hb => h.mono hb.2.1, .i (.slice A L.length c), .n ((i : Nat) : Int), .i (.slice A i c), .s (fun v w => Hq w.2 1 v) fun v w w' h hb => h.mono hb.2.1, .n ((x : Nat) : Int), .n ((y : Nat) : Int), .i (.agg #[.int .i64 ((x : Nat) : Int), .int .i64 ((y : Nat) : Int)]), .s (fun v w => (0, v) ∈ w.2.b) fun v w w' h hb => hb.2.2 _ h, .s (fun v w => Hq w.2 2 v) fun v w w' h hb => h.mono hb.2.1, .i (.slice A L.length c), .n ((i : Nat) : Int), .i (sliced A i L.length c 2), .s (fun v w => Hq w.2 3 v) fun v w w' h hb => h.mono hb.2.1, .s (fun v w => Hq w.2 3 v) fun v w w' h hb => h.mono hb.2.1, .n 0] ?_ ⟨?_, uM, uM, ?_, ?_, uM, uM, ?_, ?_, ?_, uM, uM, ?_, ?_, uA, uA, trivial⟩ ?_
          ·first | assumption | (intro i; (try dsimp only); split <;> first | trivial | assumption | (left; assumption))
          ·refine uG fun b__ w hW hN hE K hK => ?_
           exact Ff (kd := CM) (by decide) rfl rfl Tryz.underlying32 (by kernel_rfl) hN rfl rfl (show 0 < 4 by decide) hK
          ·refine uG fun b__ w hW hN hE K hK => ?_
           have e67 := hE 67
           have e68 := hE 68
           exact opw_slh rfl Tryz.underlying32 ⟨2, by kernel_rfl⟩ e67 e68 hic (hK _ _ rfl ⟨hRr _, fun _ _ h => h⟩)
          ·refine uG fun b__ w hW hN hE K hK => ?_
           have e66 := hE 66
           have e69 := hE 69
           exact C9 (kd := CM) (by decide) rfl rfl Ci hN e66 (hW.1 hJ0) (by rw [e69]; exact IY (kp _ _ (hW.1 hJ0).1.ro) hil) (fun u hu => BM L u (List.mem_of_mem_take hu)) rfl rfl (by simp [BO]; omega) (by simp [BO]; omega) (show 0 + 1 < 4 by decide) hK
          ·refine uG fun b__ w hW hN hE K hK => ?_
           have e71 := hE 71
           have e72 := hE 72
           exact CG rfl (ps := [(0, .int .i64 ((x : Nat) : Int)), (1, .int .i64 ((y : Nat) : Int))]) (cells := #[.int .i64 ((x : Nat) : Int), .int .i64 ((y : Nat) : Int)]) (by simp [e71, e72]) (by kernel_rfl) (hK _ _ rfl ⟨hRr _, fun _ _ h => h⟩)
          ·refine uG fun b__ w hW hN hE K hK => ?_
           have e73 := hE 73
           exact Gg (kd := CM) (by decide) rfl rfl Tryz.underlying32 (ps := [(0, .agg #[.int .i64 ((x : Nat) : Int), .int .i64 ((y : Nat) : Int)])]) (cells := #[.int .i64 ((x : Nat) : Int), .int .i64 ((y : Nat) : Int)]) (by simp [e73]) (by kernel_rfl) (fun _ => rfl) rfl (by decide) hK
          ·refine uG fun b__ w hW hN hE K hK => ?_
           have e70 := hE 70
           have e74 := hE 74
           exact C9 (kd := CM) (by decide) rfl rfl Ci hN e70 (hW.1 hJ0) (Sl.of_own ((hW.1 hJ0).side e74)) (BM [(x, y)]) rfl rfl (by simp [BO]; omega) (by simp [BO]; omega) (show 1 + 1 < 4 by decide) hK
          ·refine uG fun b__ w hW hN hE K hK => ?_
           have e76 := hE 76
           have e77 := hE 77
           exact opw_sll rfl Tryz.underlying32 (by kernel_rfl) e76 e77 hil hc1 (hK _ _ rfl ⟨hRr _, fun _ _ h => h⟩)
          ·refine uG fun b__ w hW hN hE K hK => ?_
           have e75 := hE 75
           have e78 := hE 78
           exact C9 (kd := CM) (by decide) rfl rfl Ci hN e75 (hW.1 hJ0) (by rw [e78]; exact IZ (kp _ _ (hW.1 hJ0).1.ro) hil) (fun u hu => BM L u (List.mem_of_mem_drop hu)) rfl rfl (by simp [BO]; omega) (by simp [BO]; omega) (show 2 + 1 < 4 by decide) hK
          ·intro vs wz hW hT
           obtain ⟨e66, e67, e68, e69, e70, e71, e72, e73, e74, e75, e76, e77, e78, e79, e6, e7, -⟩ := hT
           have bx : (fun _ : Nat => True) 0 := trivial
           simp only [AC, Act.put, zz, ze]
           have hJ := (hW.1 hJ0).last e6 rfl
           replace hJ : St w0 wz.1 [.own (vs 6) 159 2 (L.length + 1) (Af (ins L (x, y)))] fun _ _ => True := by
            have e1 : 0 + i + 1 + (L.length - i) = L.length + 1 := by omega
            have e2 : [] ++ (Af L).take (i * 2) ++ Af [(x, y)] ++ (Af L).drop (i * 2) = Af (ins L (x, y)) := by
             rw [List.nil_append, DU, F8, <- CU, <- CU, ins, <- HE.out, List.append_assoc]; rfl
            simp only [BO] at hJ
            rw [e1, e2] at hJ
            exact hJ.mono (AF.pure True) fun _ _ _ => trivial
           rw [e7]
           generalize vs 6 = v6 at *
           generalize wz.1 = wf at *
           clear hW hJ0 hRr hRt e6 e7
           go_wp2_with fail
           all_goals
            go_ret2
            exact .inr ⟨x, y, rfl, rfl, hx1.out, hy1.out, hxy.out, .inr (.inr ⟨hm, HT.out, _, rfl, hJ⟩)⟩
        ·have HE := Lib.hid (HST.out.2 (by rintro (h | h) <;> dsimp only at h <;> omega))
         clear HST
         go_wp2_with (first
          | ((with_reducible refine qB ?_); refine qc ?_ ?_ <;> intro h_ <;> go_prune)
          | ((with_reducible refine qI ?_); refine qj hS Tryz.underlying32 ?_; intro b_ j_ hc0_ hc1_)
          | ((with_reducible refine qK ?_); first | refine BigFrame.wpList_want rfl fun _ hK => Ah rfl rfl (by kernel_rfl) hc0_ (hK _ _ ?_) | refine BigFrame.wpList_want rfl fun _ hK => Ah rfl rfl (by kernel_rfl) hc1_ (hK _ _ ?_)))
         have hic : i <= c := by omega
         have hJ0 : AJ w0 [] K (BO L (x, y) i) (wr.drew, ⟨[], []⟩) := ⟨hS.drew, Nat.zero_le _⟩
         have hN0 := JM CM wr.drew
         have hRr := @AR.refl w0 [] K (BO L (x, y) i)
         have hRt := @AR.trans w0 [] K (BO L (x, y) i)
         refine FL (AR w0 [] K (BO L (x, y) i)) (AN CM) (⟨[], []⟩) hRr hRt [.s (fun v w => Hq w.2 0 v) fun v w w' h hb => h.mono hb.2.1, .i (.slice A L.length c), .n ((i : Nat) : Int), .i (.slice A i c), .s (fun v w => Hq w.2 1 v) fun v w w' h hb => h.mono hb.2.1, .n ((x : Nat) : Int), .n ((y : Nat) : Int), .i (.agg #[.int .i64 ((x : Nat) : Int), .int .i64 ((y : Nat) : Int)]), .s (fun v w => (0, v) ∈ w.2.b) fun v w w' h hb => hb.2.2 _ h, .s (fun v w => Hq w.2 2 v) fun v w w' h hb => h.mono hb.2.1, .i (.slice A L.length c), .n ((i : Nat) : Int), .i (sliced A i L.length c 2), .s (fun v w => Hq w.2 3 v) fun v w w' h hb => h.mono hb.2.1, .s (fun v w => Hq w.2 3 v) fun v w w' h hb => h.mono hb.2.1, .n 0] ?_ ⟨?_, uM, uM, ?_, ?_, uM, uM, ?_, ?_, ?_, uM, uM, ?_, ?_, uA, uA, trivial⟩ ?_
         ·first | assumption | (intro i; (try dsimp only); split <;> first | trivial | assumption | (left; assumption))
         ·refine uG fun b__ w hW hN hE K hK => ?_
          exact Ff (kd := CM) (by decide) rfl rfl Tryz.underlying32 (by kernel_rfl) hN rfl rfl (show 0 < 4 by decide) hK
         ·refine uG fun b__ w hW hN hE K hK => ?_
          have e67 := hE 67
          have e68 := hE 68
          exact opw_slh rfl Tryz.underlying32 ⟨2, by kernel_rfl⟩ e67 e68 hic (hK _ _ rfl ⟨hRr _, fun _ _ h => h⟩)
         ·refine uG fun b__ w hW hN hE K hK => ?_
          have e66 := hE 66
          have e69 := hE 69
          exact C9 (kd := CM) (by decide) rfl rfl Ci hN e66 (hW.1 hJ0) (by rw [e69]; exact IY (kp _ _ (hW.1 hJ0).1.ro) hil) (fun u hu => BM L u (List.mem_of_mem_take hu)) rfl rfl (by simp [BO]; omega) (by simp [BO]; omega) (show 0 + 1 < 4 by decide) hK
         ·refine uG fun b__ w hW hN hE K hK => ?_
          have e71 := hE 71
          have e72 := hE 72
          exact CG rfl (ps := [(0, .int .i64 ((x : Nat) : Int)), (1, .int .i64 ((y : Nat) : Int))]) (cells := #[.int .i64 ((x : Nat) : Int), .int .i64 ((y : Nat) : Int)]) (by simp [e71, e72]) (by kernel_rfl) (hK _ _ rfl ⟨hRr _, fun _ _ h => h⟩)
         ·refine uG fun b__ w hW hN hE K hK => ?_
          have e73 := hE 73
          exact Gg (kd := CM) (by decide) rfl rfl Tryz.underlying32 (ps := [(0, .agg #[.int .i64 ((x : Nat) : Int), .int .i64 ((y : Nat) : Int)])]) (cells := #[.int .i64 ((x : Nat) : Int), .int .i64 ((y : Nat) : Int)]) (by simp [e73]) (by kernel_rfl) (fun _ => rfl) rfl (by decide) hK
         ·refine uG fun b__ w hW hN hE K hK => ?_
          have e70 := hE 70
          have e74 := hE 74
          exact C9 (kd := CM) (by decide) rfl rfl Ci hN e70 (hW.1 hJ0) (Sl.of_own ((hW.1 hJ0).side e74)) (BM [(x, y)]) rfl rfl (by simp [BO]; omega) (by simp [BO]; omega) (show 1 + 1 < 4 by decide) hK
         ·refine uG fun b__ w hW hN hE K hK => ?_
          have e76 := hE 76
          have e77 := hE 77
          exact opw_sll rfl Tryz.underlying32 (by kernel_rfl) e76 e77 hil hc1 (hK _ _ rfl ⟨hRr _, fun _ _ h => h⟩)
         ·refine uG fun b__ w hW hN hE K hK => ?_
          have e75 := hE 75
          have e78 := hE 78
          exact C9 (kd := CM) (by decide) rfl rfl Ci hN e75 (hW.1 hJ0) (by rw [e78]; exact IZ (kp _ _ (hW.1 hJ0).1.ro) hil) (fun u hu => BM L u (List.mem_of_mem_drop hu)) rfl rfl (by simp [BO]; omega) (by simp [BO]; omega) (show 2 + 1 < 4 by decide) hK
         ·intro vs wz hW hT
          obtain ⟨e66, e67, e68, e69, e70, e71, e72, e73, e74, e75, e76, e77, e78, e79, e6, e7, -⟩ := hT
          have bx : (fun _ : Nat => True) 0 := trivial
          simp only [AC, Act.put, zz, ze]
          have hJ := (hW.1 hJ0).last e6 rfl
          replace hJ : St w0 wz.1 [.own (vs 6) 159 2 (L.length + 1) (Af (ins L (x, y)))] fun _ _ => True := by
           have e1 : 0 + i + 1 + (L.length - i) = L.length + 1 := by omega
           have e2 : [] ++ (Af L).take (i * 2) ++ Af [(x, y)] ++ (Af L).drop (i * 2) = Af (ins L (x, y)) := by
            rw [List.nil_append, DU, F8, <- CU, <- CU, ins, <- HE.out, List.append_assoc]; rfl
           simp only [BO] at hJ
           rw [e1, e2] at hJ
           exact hJ.mono (AF.pure True) fun _ _ _ => trivial
          rw [e7]
          generalize vs 6 = v6 at *
          generalize wz.1 = wf at *
          clear hW hJ0 hRr hRt e6 e7
          go_wp2_with fail
          all_goals
           go_ret2
           exact .inr ⟨x, y, rfl, rfl, hx1.out, hy1.out, hxy.out, .inr (.inr ⟨hm, HT.out, _, rfl, hJ⟩)⟩
       ·have HE : Hid (i = D9 L (x, y)) := Lib.hid (Nat.le_antisymm HIA.out (by have := insAt_le L (x, y); omega))
        go_wp2_with (first | ((with_reducible refine qB ?_); refine qc ?_ ?_ <;> intro h_ <;> go_prune))
        have hic : i <= c := by omega
        have hJ0 : AJ w0 [] K (BO L (x, y) i) (wr.drew, ⟨[], []⟩) := ⟨hS.drew, Nat.zero_le _⟩
        have hN0 := JM CM wr.drew
        have hRr := @AR.refl w0 [] K (BO L (x, y) i)
        have hRt := @AR.trans w0 [] K (BO L (x, y) i)
        refine FL (AR w0 [] K (BO L (x, y) i)) (AN CM) (⟨[], []⟩) hRr hRt [.s (fun v w => Hq w.2 0 v) fun v w w' h hb => h.mono hb.2.1, .i (.slice A L.length c), .n ((i : Nat) : Int), .i (.slice A i c), .s (fun v w => Hq w.2 1 v) fun v w w' h hb => h.mono hb.2.1, .n ((x : Nat) : Int), .n ((y : Nat) : Int), .i (.agg #[.int .i64 ((x : Nat) : Int), .int .i64 ((y : Nat) : Int)]), .s (fun v w => (0, v) ∈ w.2.b) fun v w w' h hb => hb.2.2 _ h, .s (fun v w => Hq w.2 2 v) fun v w w' h hb => h.mono hb.2.1, .i (.slice A L.length c), .n ((i : Nat) : Int), .i (sliced A i L.length c 2), .s (fun v w => Hq w.2 3 v) fun v w w' h hb => h.mono hb.2.1, .s (fun v w => Hq w.2 3 v) fun v w w' h hb => h.mono hb.2.1, .n 0] ?_ ⟨?_, uM, uM, ?_, ?_, uM, uM, ?_, ?_, ?_, uM, uM, ?_, ?_, uA, uA, trivial⟩ ?_
        ·first | assumption | (intro i; (try dsimp only); split <;> first | trivial | assumption | (left; assumption))
        ·refine uG fun b__ w hW hN hE K hK => ?_
         exact Ff (kd := CM) (by decide) rfl rfl Tryz.underlying32 (by kernel_rfl) hN rfl rfl (show 0 < 4 by decide) hK
        ·refine uG fun b__ w hW hN hE K hK => ?_
         have e67 := hE 67
         have e68 := hE 68
         exact opw_slh rfl Tryz.underlying32 ⟨2, by kernel_rfl⟩ e67 e68 hic (hK _ _ rfl ⟨hRr _, fun _ _ h => h⟩)
        ·refine uG fun b__ w hW hN hE K hK => ?_
         have e66 := hE 66
         have e69 := hE 69
         exact C9 (kd := CM) (by decide) rfl rfl Ci hN e66 (hW.1 hJ0) (by rw [e69]; exact IY (kp _ _ (hW.1 hJ0).1.ro) hil) (fun u hu => BM L u (List.mem_of_mem_take hu)) rfl rfl (by simp [BO]; omega) (by simp [BO]; omega) (show 0 + 1 < 4 by decide) hK
        ·refine uG fun b__ w hW hN hE K hK => ?_
         have e71 := hE 71
         have e72 := hE 72
         exact CG rfl (ps := [(0, .int .i64 ((x : Nat) : Int)), (1, .int .i64 ((y : Nat) : Int))]) (cells := #[.int .i64 ((x : Nat) : Int), .int .i64 ((y : Nat) : Int)]) (by simp [e71, e72]) (by kernel_rfl) (hK _ _ rfl ⟨hRr _, fun _ _ h => h⟩)
        ·refine uG fun b__ w hW hN hE K hK => ?_
         have e73 := hE 73
         exact Gg (kd := CM) (by decide) rfl rfl Tryz.underlying32 (ps := [(0, .agg #[.int .i64 ((x : Nat) : Int), .int .i64 ((y : Nat) : Int)])]) (cells := #[.int .i64 ((x : Nat) : Int), .int .i64 ((y : Nat) : Int)]) (by simp [e73]) (by kernel_rfl) (fun _ => rfl) rfl (by decide) hK
        ·refine uG fun b__ w hW hN hE K hK => ?_
         have e70 := hE 70
         have e74 := hE 74
         exact C9 (kd := CM) (by decide) rfl rfl Ci hN e70 (hW.1 hJ0) (Sl.of_own ((hW.1 hJ0).side e74)) (BM [(x, y)]) rfl rfl (by simp [BO]; omega) (by simp [BO]; omega) (show 1 + 1 < 4 by decide) hK
        ·refine uG fun b__ w hW hN hE K hK => ?_
         have e76 := hE 76
         have e77 := hE 77
         exact opw_sll rfl Tryz.underlying32 (by kernel_rfl) e76 e77 hil hc1 (hK _ _ rfl ⟨hRr _, fun _ _ h => h⟩)
        ·refine uG fun b__ w hW hN hE K hK => ?_
         have e75 := hE 75
         have e78 := hE 78
         exact C9 (kd := CM) (by decide) rfl rfl Ci hN e75 (hW.1 hJ0) (by rw [e78]; exact IZ (kp _ _ (hW.1 hJ0).1.ro) hil) (fun u hu => BM L u (List.mem_of_mem_drop hu)) rfl rfl (by simp [BO]; omega) (by simp [BO]; omega) (show 2 + 1 < 4 by decide) hK
        ·intro vs wz hW hT
         obtain ⟨e66, e67, e68, e69, e70, e71, e72, e73, e74, e75, e76, e77, e78, e79, e6, e7, -⟩ := hT
         have bx : (fun _ : Nat => True) 0 := trivial
         simp only [AC, Act.put, zz, ze]
         have hJ := (hW.1 hJ0).last e6 rfl
         replace hJ : St w0 wz.1 [.own (vs 6) 159 2 (L.length + 1) (Af (ins L (x, y)))] fun _ _ => True := by
          have e1 : 0 + i + 1 + (L.length - i) = L.length + 1 := by omega
          have e2 : [] ++ (Af L).take (i * 2) ++ Af [(x, y)] ++ (Af L).drop (i * 2) = Af (ins L (x, y)) := by
           rw [List.nil_append, DU, F8, <- CU, <- CU, ins, <- HE.out, List.append_assoc]; rfl
          simp only [BO] at hJ
          rw [e1, e2] at hJ
          exact hJ.mono (AF.pure True) fun _ _ _ => trivial
         rw [e7]
         generalize vs 6 = v6 at *
         generalize wz.1 = wf at *
         clear hW hJ0 hRr hRt e6 e7
         go_wp2_with fail
         all_goals
          go_ret2
          exact .inr ⟨x, y, rfl, rfl, hx1.out, hy1.out, hxy.out, .inr (.inr ⟨hm, HT.out, _, rfl, hJ⟩)⟩
  ·have HRB := Lib.hid (decide_eq_false hrb)
   have HNO : Hid (¬ twoR a b) := Lib.hid fun h => hrb h.2.1
   go_enter Tryz.func89, Tryz.ntmps89
   go_wp2_with (first
    | ((with_reducible refine qB ?_); refine qc ?_ ?_ <;> intro h_ <;> go_prune)
    | (go_at_call 127; refine (Cl _ _).mono ?_; (first | rw [HRA.out] | rw [HRB.out]); rintro r_ w_ ⟨_, rfl, rfl, hb_⟩; replace hS := hS.ext hb_; clear hb_))
   go_ret2
   exact .inl ⟨HNO.out, rfl, hS.below⟩
 ·have HRA := Lib.hid (decide_eq_false hra)
  have HRB := HRA
  have HNO : Hid (¬ twoR a b) := Lib.hid fun h => hra h.1
  go_enter Tryz.func89, Tryz.ntmps89
  go_wp2_with (first
   | ((with_reducible refine qB ?_); refine qc ?_ ?_ <;> intro h_ <;> go_prune)
   | (go_at_call 127; refine (Cl _ _).mono ?_; (first | rw [HRA.out] | rw [HRB.out]); rintro r_ w_ ⟨_, rfl, rfl, hb_⟩; replace hS := hS.ext hb_; clear hb_))
  go_ret2
  exact .inl ⟨HNO.out, rfl, hS.below⟩
end
section
open Go.RowKit
attribute [local go_sem ↓] Go.wp_at_zero Go.wp_at_succ
set_option maxRecDepth 20000
set_option exponentiation.threshold 5000
noncomputable def closPre (L : List (Nat × Nat)) (pre : List Int) : Nat := pre.foldl (fun m x => m ||| junR L x) 0
theorem closPre_snoc (L : List (Nat × Nat)) (pre : List Int) (x : Int) : closPre L (pre ++ [x]) = closPre L pre ||| junR L x := by
 unfold closPre; rw [List.foldl_append]; rfl
theorem Hz (f : Int -> Nat) (i : Nat) : ∀ (l : List Int) (m : Nat), (l.foldl (fun m x => m ||| f x) m).testBit i = true ↔ m.testBit i = true \/ ∃ x ∈ l, (f x).testBit i = true
 | [], m => by simp
 | x :: l, m => by
  rw [List.foldl_cons, Hz f i l, DA]
  constructor
  ·rintro ((h | h) | ⟨y, h1, h2⟩)
   ·exact .inl h
   ·exact .inr ⟨x, List.mem_cons_self .., h⟩
   ·exact .inr ⟨y, List.mem_cons_of_mem _ h1, h2⟩
  ·rintro (h | ⟨y, h1, h2⟩)
   ·exact .inl (.inl h)
   ·rcases List.mem_cons.1 h1 with rfl | h1
    ·exact .inl (.inr h2)
    ·exact .inr ⟨y, h1, h2⟩
theorem closPre_full {L : List (Nat × Nat)} {ws : List Nat} (hw : Bb ws) : closPre L (CH ws) = closM L (Bp ws) := B3 fun i => by
 unfold closPre closM
 rw [Hz, Fm, Nat.zero_testBit]
 constructor
 ·rintro (h | ⟨x, h1, h2⟩)
  ·cases h
  ·obtain ⟨k, rfl⟩ := Jn h1
   have h3 := (Ek hw).1 h1
   unfold junR at h2
   split at h2
   ·rename_i h4
    exact ⟨k, by omega, by omega, h3, by simpa using h2⟩
   ·rw [Nat.zero_testBit] at h2; cases h2
 ·rintro ⟨r, h1, h2, h3, h4⟩
  refine .inr ⟨(r : Int), (Ek hw).2 h3, ?_⟩
  rw [junR, if_pos (by omega), Int.toNat_natCast]
  exact h4
set_option maxHeartbeats 2000000 in
theorem D3 {w0 : World} {D E : Nat -> Prop} {p v : Value} {L : List (Nat × Nat)} {N : Nat} (h : IsH w0 D p L) (hT : BH w0) (hH : FI L) (hv : A7 w0 E v N) : Calls Tryz.prog 23 #[p, v] w0 (AO (fun x w' => A7 w' (w0.heap.size <= ·) x (closM L N)) w0) := by
 obtain ⟨q, o, rfl, hX⟩ := h
 obtain ⟨A, c, l, rfl, hl, rfl, _, _, hs⟩ := hv.parts
 obtain ⟨K, k1, ko, kt, hS⟩ : ∃ K : (Nat -> Prop) -> World -> Prop, (∀ D w, K D w -> A7 w D (.agg #[.slice A l.length c]) (Bp l)) /\ (∀ D w, K D w -> FZ q o L D w) /\ (∀ D w, K D w -> BH w /\ D 0) /\ St w0 w0 [] K :=
  ⟨fun D w => (A7 w D (.agg #[.slice A l.length c]) (Bp l) /\ FZ q o L D w) /\ BH w /\ D 0, fun _ _ h => h.1.1, fun _ _ h => h.1.2, fun _ _ h => h.2, St.start (D := fun _ => True) ((A5.and CE).and Cd) ⟨⟨hv.imp fun _ _ _ => trivial, CE D _ w0 w0 hX (Nat.le_refl _) (fun _ _ _ _ h => h) fun _ _ _ _ => trivial⟩, hT, trivial⟩⟩
 have HH := Lib.hid hH
 clear hs hv hT hX hH
 refine (callsIn_wide (n := 6)).1 (callsIn_of_wp_marks Tryz.func23 rfl trivial ?_ rfl)
 simp only [Tryz.ntmps23, List.size_toArray, List.length_cons, List.length_nil, Nat.reduceAdd, Nat.reduceSub, Array.replicate_succ, Array.replicate_zero, List.push_toArray, List.append_toArray, List.nil_append, List.cons_append]
 refine wpIn_wide.2 ?_
 go_wp2_with (first
  | ((with_reducible refine qA 2 ?_); refine AE hS rfl _ _ rfl (.pointer (some ⟨q, 0, none⟩)) _ rfl rfl ?_; clear hS; intro g2 w_ hS; (try simp only [Act.put, Act.eval, zz, Value.cells] at hS))
  | ((with_reducible refine qA 3 ?_); refine AE hS rfl _ _ rfl (.agg #[.slice A l.length c]) _ rfl rfl ?_; clear hS; intro g3 w_ hS; (try simp only [Act.put, Act.eval, zz, Value.cells] at hS))
  | ((with_reducible refine qA 4 ?_); refine qa hS #[.slice none 0 0] ?_; clear hS; intro g4 w_ hS)
  | ((with_reducible refine qA 5 ?_); refine qa hS #[.slice none 0 0] ?_; clear hS; intro g5 w_ hS)
  | ((with_reducible refine qK ?_); refine qL hS Tryz.underlying27 ?_))
 refine (J3 _ _ _ _ (k1 _ _ hS.ro)).mono ?_
 rintro e w3 ⟨_, rfl, ⟨Bs, A', cap, ws, rfl, e1, hcn, hvN, hsl, hBs, hX⟩, hb3⟩
 obtain rfl := Hh hcn hl hvN
 obtain ⟨rfl, rfl⟩ : A = A' /\ c = cap := by simpa using e1
 clear e1 hvN
 obtain ⟨hT, hT0⟩ := kt _ _ hS.ro
 replace hS := hS.good hb3 hsl hT hT0 hBs hX
 obtain ⟨KK, ko, kG, KKS, hS⟩ : ∃ KK : (Nat -> Prop) -> World -> Prop, (∀ D w, KK D w -> FZ q o L D w) /\ (∀ D w, KK D w -> Id Bs A c ws w) /\ AF KK /\ St w0 w3 [.box g5 27 #[.slice none 0 0], .box g4 27 #[.slice none 0 0], .box g3 27 #[.slice A ws.length c], .box g2 24 #[.pointer (some ⟨q, 0, none⟩)]] KK := ⟨_, fun D w h => ko D w h.1, fun D w h => h.2.1, hS.stable, hS⟩
 have HCN := Lib.hid hcn
 have HCF := Lib.hid (closPre_full (L := L) hcn.1)
 clear hsl hX hT hT0 hb3 kt k1 hcn hl
 go_wp2_with fail
 have hsz := hS.size
 refine (wpIn_wide (n := 6)).1 ?_
 refine IK fun act hact => ?_
 refine G7 hS HCN.out.1 HCN.out.2.2 kG (by rw [hact]; rfl) rfl
  (fun pre F' K' => ∃ u, F' = [.box g5 27 #[u], .box g4 27 #[.slice none 0 0], .box g3 27 #[.slice A ws.length c], .box g2 24 #[.pointer (some ⟨q, 0, none⟩)]] /\ AF K' /\ ∀ D w, K' D w -> KK D w /\ A7 w (fun z => D z /\ w0.heap.size <= z) (.agg #[u]) (closPre L pre))
  (fun _ _ _ _ => False) (fun s F K' h D w hk => by obtain ⟨_, _, _, h4⟩ := h; exact (h4 D w hk).1) ?hr (fun _ _ _ _ h => h.elim) ⟨_, rfl, KKS, fun D w h => ⟨h, A7.empty⟩⟩
  (fun x => { tmps := (act.tmps.setIfInBounds 9 (.int .i64 x)).setIfInBounds 6 (.int .i64 x), defers := [] }) ?assign ?body ?done (fun _ _ _ _ _ _ _ _ h _ _ => h.elim)
 case hr =>
  rintro s F K' ⟨u, rfl, _⟩ f hf
  simp only [List.mem_cons, List.not_mem_nil, or_false] at hf
  rcases hf with rfl | rfl | rfl | rfl <;> exact .inl rfl
 case assign =>
  intro l x W K hK
  subst hact
  rw [zip_one]
  refine wpIn_region_lit ?_
  refine I7 (by intro _ _ h; exact h) _ _ _ (by rfl) _ _ ?_
  refine wpList_plain rfl fun _ hK' => EC (v := .int .i64 x) rfl (by rfl) (hK' _ _ ?_)
  exact wpList_nil hK
 case body =>
  rintro l pre x hx W F' Xo K' ⟨ub, rfl, hKs, hk'⟩ hS hlt
  subst hact
  have HW := Lib.hid (closPre_snoc L pre x)
  generalize closPre L pre = N0 at *
  have HKP := Lib.hid hk'
  have hWs : W.heap.size <= W.heap.size := Nat.le_refl _
  clear hx hk'
  simp only [Act.put, List.setIfInBounds_toArray, List.set_cons_zero, List.set_cons_succ]
  refine wpIn_block ?_
  refine DI (by kernel_rfl) (by intro _ _ h; exact h) (by rfl) ?_
  refine any_zL 5 [] [.i (.agg #[ub]), .q q 0, .n x, .s (fun v w => A7 w (fun _ => True) v (junR L x)) fun v w w' h hb => h.ext hb, .s (fun v w => ∃ u, v = .agg #[u] /\ u.oneCell' = true /\ A7 w (fun z => W.heap.size <= z) (.agg #[u]) (N0 ||| junR L x)) fun v w w' h hb => ⟨_, h.choose_spec.1, h.choose_spec.2.1, h.choose_spec.2.2.ext hb⟩, .t] ⟨uR (h := fun w hW hN => (hS.ext hW).box 0 rfl), uC (h := fun w hW hN => ((hS.ext hW).box 3 rfl).cell 0), uM, ?_, ?_, trivial⟩ ?_
  ·refine uT fun b__ w hW hE K hK => ?_
   have e11 := hE 11
   have e12 := hE 12
   refine Az rfl (by kernel_rfl) (by simp only [List.map_cons, List.map_nil, e11, e12]) (hjun_any (w0 := w) ⟨q, o, rfl, ko _ _ (HKP.out _ _ (hS.ext hW).ro.1).1⟩ HH.out x) fun v w' h hb => ?_
   exact hK v w' (h.imp fun _ _ _ => trivial) hb
  ·refine uT fun b__ w hW hE K hK => ?_
   have e10 := hE 10
   have e13 := hE 13
   refine Az rfl (by kernel_rfl) (by simp only [List.map_cons, List.map_nil, e10]) (Fa (.agg #[ub]) _ N0 _ w _ _ (HKP.out _ _ (hS.ext hW).ro.1).2 e13) fun v w' h hb => ?_
   obtain ⟨u, rfl, h1⟩ := Cr h
   exact hK _ w' ⟨u, rfl, h1, h.imp fun z hz _ => Nat.le_trans hW.size hz⟩ hb
  ·intro vs wz hW hT
   obtain ⟨e10, e11, e12, e13, e14, -⟩ := hT
   have bx : (fun _ : Nat => True) 0 := trivial
   simp only [AC, Act.put, zz, ze]
   (intro o_ ho_; simp only [List.getElem?_toArray, List.getElem?_cons_succ, List.getElem?_cons_zero, Option.some.injEq] at ho_; subst ho_)
   obtain ⟨un, e14, hu1, hun⟩ := e14
   have hsW := hS.size
   have hS1 := hS.ret hW (AV (A5 (v := .agg #[un]) (N := N0 ||| junR L x)) fun z => w0.heap.size <= z) (hun.imp fun z hz _ => ⟨hz, Nat.le_trans hsW hz⟩)
   refine Cn rfl rfl e14 (hS1.box 0 rfl) (by kernel_rfl) rfl (by simpa using hu1) fun w4 h1 hU => ?_
   have hS2 := (hS1.upd 0 rfl (.box g5 27 #[un]) (Bn hU) ⟨(hS1.holds (.box g5 27 #[ub]) (by simp)).1, h1⟩ fun _ e => .inl e)
   refine ⟨_, _, ⟨un, rfl, hS2.stable, fun D w h => ⟨(HKP.out D w h.1.1).1, by rw [HW.out]; exact h.2⟩⟩, by rw [hU.size]; exact hW.size, hS2⟩
 case done =>
  rintro D W F' K' hD ⟨u, rfl, hKs, hk'⟩ hS hK
  subst hact
  obtain ⟨A3, c3, l3, he, -⟩ := ((hk' _ _ hS.ro).2).parts
  obtain rfl : u = .slice A3 l3.length c3 := by injection he with he; simpa using he
  clear he
  have hM := hS.mark hsz hD (by
   intro f hf
   simp only [List.mem_cons, List.not_mem_nil, or_false] at hf
   rcases hf with rfl | rfl | rfl | rfl <;> exact .inl rfl) hK rfl
  have HKP := Lib.hid hk'
  clear hk' hS hK
  have hS := hM
  clear hM
  simp only [List.cons_append, List.nil_append] at hS
  go_wp2_with (first
   | ((with_reducible refine qK ?_); refine qL hS Tryz.underlying27 ?_)
   | ((with_reducible refine qM ?_); (first | refine qS hS ?_ | refine qT hS ?_); clear hS; intro w_ hS; (try simp only [Act.put, Act.eval, zz, Value.cells] at hS)))
  refine DE (F := [.box g5 27 #[.slice A3 l3.length c3], .box g4 27 #[.slice A3 l3.length c3], .box g3 27 #[.slice A ws.length c], .box g2 24 #[.pointer (some ⟨q, 0, none⟩)]]) ?_ [D] _ hS
  intro w' h
  refine ⟨_, results_cell_row rfl _ _ g4 27 _ (0, 0) _ rfl (h.box 1 rfl) Tryz.underlying27 rfl (by kernel_rfl), ?_⟩
  exact AO.mk (by rw [<- HCF.out]; exact (HKP.out _ _ h.ro).2.imp fun z hz _ => hz.2) h.below
end
section
open Go.RowKit
attribute [local go_sem ↓] Go.wp_at_zero Go.wp_at_succ
set_option maxRecDepth 20000
def Bv (l : List (Nat × Nat)) : List Value := l.flatMap fun z => [.int .u64 (z.1 : Nat), .int .u64 (z.2 : Nat)]
theorem rcells_at (l : List (Nat × Nat)) (k : Nat) (h : k < l.length) : (Bv l)[k * 2]? = some (.int .u64 ((l.getD k (0, 0)).1 : Nat)) /\ (Bv l)[k * 2 + 1]? = some (.int .u64 ((l.getD k (0, 0)).2 : Nat)) := by
 induction l generalizing k with
 | nil => simp at h
 | cons z r ih =>
  cases k with
  | zero => simp [Bv]
  | succ k =>
   have := ih k (by simpa using h)
   rw [show (k + 1) * 2 = k * 2 + 2 by omega]
   simpa [Bv] using this
theorem rcells_append (a b : List (Nat × Nat)) : Bv (a ++ b) = Bv a ++ Bv b := by simp [Bv]
def Ch (w : World) (D : Nat -> Prop) (v : Value) (l : List (Nat × Nat)) : Prop := Sl w D 2 v l.length (Bv l)
theorem Ch.keep {w w' : World} {D : Nat -> Prop} {v : Value} {l : List (Nat × Nat)} (h : Ch w D v l) (hsz : w.heap.size <= w'.heap.size) (hk : ∀ p : Addr, D p.block -> p.block < w.heap.size -> w'.cell? p = w.cell? p) : Ch w' D v l := Sl.keep h hsz hk
theorem Ch.ext {w w' : World} {D : Nat -> Prop} {v : Value} {l : List (Nat × Nat)} (h : Ch w D v l) (hb : Below w.heap.size w w') : Ch w' D v l := h.keep hb.size fun _ _ hp => hb.cell hp
theorem Ch.shape {w : World} {D : Nat -> Prop} {v : Value} {l : List (Nat × Nat)} (h : Ch w D v l) : ∃ A c, v = .slice A l.length c /\ l.length <= c /\ c <= 9223372036854775807 := Sl.shape h
theorem Ch.at_ {w : World} {D : Nat -> Prop} {A : Option Addr} {c : Nat} {l : List (Nat × Nat)} (h : Ch w D (.slice A l.length c) l) {k : Nat} (hk : k < l.length) :
  ∃ b o, A = some ⟨b, o, none⟩ /\ D b /\ b < w.heap.size /\ w.cell? ⟨b, o + k * 2, none⟩ = some (.int .u64 ((l.getD k (0, 0)).1 : Nat)) /\ w.cell? ⟨b, o + k * 2 + 1, none⟩ = some (.int .u64 ((l.getD k (0, 0)).2 : Nat)) := by
 obtain ⟨_, A', c', h1, _, _, h2⟩ := h
 obtain ⟨b, o, h3, h4, h6, h5⟩ := h2 (by omega)
 injection h1 with h1
 obtain ⟨g1, g2⟩ := rcells_at l k hk
 exact ⟨b, o, h1.trans h3, h4, h6, h5 _ _ g1, by have := h5 _ _ g2; rw [<- Nat.add_assoc] at this; exact this⟩
def AB (w : World) (D : Nat -> Prop) (xs : List Value) (l : List (Nat × Nat)) : Prop :=
 ∀ i y n, l[i]? = some (y, n) -> ∃ a b, xs[i * 2]? = some a /\ xs[i * 2 + 1]? = some b /\ A7 w D (.agg #[a]) y /\ A7 w D (.agg #[b]) n
theorem AB.keep {w w' : World} {D : Nat -> Prop} {xs : List Value} {l : List (Nat × Nat)} (h : AB w D xs l) (hsz : w.heap.size <= w'.heap.size) (hk : ∀ p : Addr, D p.block -> p.block < w.heap.size -> w'.cell? p = w.cell? p) : AB w' D xs l := fun i y n hi => by
 obtain ⟨a, b, h1, h2, h3, h4⟩ := h i y n hi
 exact ⟨a, b, h1, h2, h3.keep hsz hk, h4.keep hsz hk⟩
theorem AB.imp {w : World} {D D' : Nat -> Prop} {xs : List Value} {l : List (Nat × Nat)} (h : AB w D xs l) (hD : ∀ b, D b -> b < w.heap.size -> D' b) : AB w D' xs l := fun i y n hi => by
 obtain ⟨a, b, h1, h2, h3, h4⟩ := h i y n hi
 exact ⟨a, b, h1, h2, h3.imp hD, h4.imp hD⟩
theorem AB.ext {w w' : World} {D : Nat -> Prop} {xs : List Value} {l : List (Nat × Nat)} (h : AB w D xs l) (hb : Below w.heap.size w w') : AB w' D xs l := h.keep hb.size fun _ _ hp => hb.cell hp
theorem AB.app {w w' : World} {base : Nat} {v0 v1 : Value} {xs : List Value} {l : List (Nat × Nat)} (h : AB w (Ga base v0) xs l) (hg : w.grownBy w' v0.ownBlock) (hat : ∀ k, v1.ownBlock = some k -> v0.ownBlock = some k \/ w.heap.size <= k) : AB w' (Ga base v1) xs l :=
 ((h.imp (D' := fun b => (base <= b /\ v0.ownBlock ≠ some b) /\ b < w.heap.size) fun _ h1 h2 => ⟨h1, h2⟩).keep hg.size fun _ h1 h2 => Jt hg h2 h1.1.2).imp fun b h1 _ => ⟨h1.1.1, fun e => by
  rcases hat b e with h | h
  ·exact h1.1.2 h
  ·have := h1.2; omega⟩
theorem AB.nil {w : World} {D : Nat -> Prop} : AB w D [] [] := fun i y n h => by simp at h
theorem AB.push {w : World} {D : Nat -> Prop} {xs : List Value} {l : List (Nat × Nat)} {a b : Value} {y n : Nat} (h : AB w D xs l) (hl : xs.length = l.length * 2) (ha : A7 w D (.agg #[a]) y) (hb : A7 w D (.agg #[b]) n) : AB w D (xs ++ [a, b]) (l ++ [(y, n)]) := fun i y' n' hi => by
 rcases Nat.lt_or_ge i l.length with hlt | hge
 ·rw [List.getElem?_append_left hlt] at hi
  obtain ⟨a', b', h1, h2, h3, h4⟩ := h i y' n' hi
  exact ⟨a', b', by rw [List.getElem?_append_left (by omega)]; exact h1, by rw [List.getElem?_append_left (by omega)]; exact h2, h3, h4⟩
 ·have hi2 : i = l.length := by
   have := (List.getElem?_eq_some_iff.1 hi).1
   simp at this; omega
  subst hi2
  simp at hi
  obtain ⟨rfl, rfl⟩ := hi
  exact ⟨a, b, by rw [List.getElem?_append_right (by omega), hl]; simp, by rw [List.getElem?_append_right (by omega), show l.length * 2 + 1 - xs.length = 1 by omega]; rfl, ha, hb⟩
theorem AB.cubes {w : World} {base : Nat} {v : Value} {xs : List Value} {l : List (Nat × Nat)} {e : TypeId} {D : Nat -> Prop} (h : AB w D xs l) (ho : w.ownsRow base e 2 v l.length xs) (hD : ∀ b, base <= b -> D b) : AH w D v l := ⟨xs, (Sl.of_own ho).imp fun b h1 _ => hD b h1, h⟩
theorem Ed : BA Tryz.prog 29 81 2 48 := ⟨Tryz.underlying29, by kernel_rfl⟩
theorem Fn {α : Type} (l : List α) (k : Nat) (d : α) (h : k < l.length) : l.take (k + 1) = l.take k ++ [l.getD k d] := by
 rw [List.take_succ_eq_append_getElem h, List.getD_eq_getElem?_getD, List.getElem?_eq_getElem h]; rfl
def Small (l : List (Nat × Nat)) : Prop := ∀ z ∈ l, z.1 < Bu /\ z.2 < Bu
theorem Small.at_ {l : List (Nat × Nat)} (h : Small l) (k : Nat) (hk : k < l.length) : (l.getD k (0, 0)).1 < Bu /\ (l.getD k (0, 0)).2 < Bu := h _ (by rw [List.getD_eq_getElem?_getD, List.getElem?_eq_getElem hk]; exact List.getElem_mem hk)
theorem Im (v : Value) (l : List (Nat × Nat)) (w : World) (D : Nat -> Prop) (hv : Ch w D v l) (hl : Small l) (hn : l.length <= 1000000) :
  Calls Tryz.prog 94 #[v] w (AO (fun x w' => AH w' (w.heap.size <= ·) x l) w) := by
 obtain ⟨A, c, rfl, _, _⟩ := hv.shape
 have HL := Lib.hid hl
 clear hl
 go_enter Tryz.func94, Tryz.ntmps94
 go_wp2
 go_loopw [3, 8] (fun u i wr => ∃ k : Nat, k <= l.length /\ i = .int .i64 k /\ Below w.heap.size w wr /\ ∃ xs, wr.ownsRow w.heap.size 81 2 u k xs /\ AB wr (Ga w.heap.size u) xs (l.take k) /\ ∀ b, u.ownBlock = some b -> w.heap.size <= b) (fun _ i _ => l.length - (intOf i).toNat)
 case atStart => exact ⟨0, by omega, rfl, Below.refl _ _, [], World.ownsRow_nil _ _ _ _, AB.nil, by simp [Value.ownBlock]⟩
 case round =>
  obtain ⟨k, hk, rfl, hB, xs, hown, hC, hge⟩ := hrel
  have HO := Lib.hid hown
  have HG := Lib.hid hge
  clear hown hge
  by_cases hlt : k < l.length
  ·obtain ⟨b, o, rfl, _, hb, hc0, hc1⟩ := (hv.ext hB).at_ hlt
   have hs := HL.out.at_ k hlt
   have HT := Lib.hid (Fn l k (0, 0) hlt)
   have hsz := hB.size
   generalize (l.getD k (0, 0)) = z at *
   obtain ⟨y, n⟩ := z
   go_wp2_with fail
   refine (lmake_any y n hs.1 hs.2 _).mono ?_
   rintro e w2 ⟨v2, rfl, ⟨a2, b2, rfl, ha, hb⟩, hb2⟩
   obtain ⟨A2, m2, c2, rfl⟩ := ha.shape
   obtain ⟨A3, m3, c3, rfl⟩ := hb.shape
   replace hb2 := bel_al hb2
   have hC2 := hC.ext hb2
   have HO2 := Lib.hid (IE HO.out hb2)
   have hB2 := Ca hB hb2
   have hsz2 := hB2.size
   have hs2 := hb2.size
   have ha2 := ha.imp (D' := Ga w.heap.size u3) fun b h1 _ => ⟨by simp at h1; omega, fun e => by have := (own_lt HO.out b e); simp at h1; omega⟩
   have hb3 := hb.imp (D' := Ga w.heap.size u3) fun b h1 _ => ⟨by simp at h1; omega, fun e => by have := (own_lt HO.out b e); simp at h1; omega⟩
   clear hb2 hC ha hb hB
   go_wp2_with ((with_reducible refine qA 15 ?_); refine DH rfl rfl _ _ _ _ rfl rfl Ed w.heap.size _ k xs (.agg #[.slice A2 m2 c2, .slice A3 m3 c3]) #[.slice A2 m2 c2, .slice A3 m3 c3] rfl (by kernel_rfl) rfl rfl rfl HO2.out (by intro u hu; simp at hu; rcases hu with rfl | rfl <;> rfl) (by omega) (by omega) hsz2 ?_; intro v' w3 ho hg hat; have HO3 := Lib.hid ho; have HG3 := Lib.hid hg; have HA := Lib.hid hat; clear ho hg hat)
   refine ⟨⟨k + 1, hlt, by go_num, Iq HG3.out hB2 hsz2 HG.out, _, HO3.out, ?_, fun b h => by rcases HA.out b h with h | h; exact HG.out b h; omega⟩, by simp [intOf]; omega⟩
   rw [HT.out]
   exact (hC2.app HG3.out HA.out).push (by rw [HO2.out.1]; simp; omega) (ha2.app HG3.out HA.out) (hb3.app HG3.out HA.out)
  ·obtain rfl : k = l.length := by omega
   rw [List.take_length] at hC
   go_wp2_with fail
   go_ret
   exact AO.mk ((hC.imp fun b h1 _ => h1.1).cubes HO.out fun b h => h) hB
end
section
open Go.RowKit
attribute [local go_sem ↓] Go.wp_at_zero Go.wp_at_succ
set_option maxRecDepth 20000
def cc (prob : List Nat) (r : Bool) (pv qv : Value) : Array Value := (G1 prob ++ [.bool r, pv, qv]).toArray
theorem Jj {w : World} {base : Nat} {e : TypeId} {size n : Nat} {v : Value} {xs : List Value} (h : w.ownsRow base e size v n xs) : ∃ A c, v = .slice A n c := by
 rcases h.2 with ⟨rfl, rfl⟩ | ⟨g, cap, cur, rfl, _⟩
 ·exact ⟨_, _, rfl⟩
 ·exact ⟨_, _, rfl⟩
theorem Fv {w : World} {base : Nat} {e : TypeId} {size n : Nat} {v : Value} {xs : List Value} (h : w.ownsRow base e size v n xs) : v.cells = #[v] := by obtain ⟨A, c, rfl⟩ := Jj h; rfl
theorem ID {w : World} {base : Nat} {e : TypeId} {size n : Nat} {v : Value} {xs : List Value} (h : w.ownsRow base e size v n xs) : v.oneCell' = true := by obtain ⟨A, c, rfl⟩ := Jj h; rfl
section
variable {w wr w1 w2 : World} {C : Nat} {par z : Array Value} {P : List Nat} {r : Bool} {plan plan' : List Int} {cubes cubes' : List (Nat × Nat)} {pv qv v : Value}
end
end
section
open Go.RowKit
attribute [local go_sem ↓] Go.wp_at_zero Go.wp_at_succ
theorem JA (y n : Value) (Y N : Nat) (w : World) (D E : Nat -> Prop) (hy : A7 w D (.agg #[y]) Y) (hn : A7 w E (.agg #[n]) N) :
  Calls Tryz.prog 78 #[.agg #[y, n]] w (AO (fun u _ => u = .bool (Y &&& N != 0)) w) := by
 obtain ⟨A, l, c, rfl⟩ := hy.shape
 obtain ⟨A', l', c', rfl⟩ := hn.shape
 go_enter Tryz.func78, Tryz.ntmps78
 go_wp2_with (go_at_call 85; refine (El _ _ Y N _ D E (hy.alloc _) (hn.alloc _)).mono ?_; rintro e w' ⟨_, rfl, rfl, hb⟩)
 go_ret
 exact AO.mk rfl (((Below.refl _ _).alloc (Nat.le_refl _) _).trans (hb.mono (by simp)))
end
section
open Go.RowKit
attribute [local go_sem ↓] Go.wp_at_zero Go.wp_at_succ
set_option maxRecDepth 20000
def roles : Nat := del (2 ^ 64 - 1) 0
end
section
open Go.RowKit
attribute [local go_sem ↓] Go.wp_at_zero Go.wp_at_succ
set_option maxRecDepth 20000
end
section
open Go.RowKit
attribute [local go_sem ↓] Go.wp_at_zero Go.wp_at_succ
set_option maxRecDepth 20000
end
section
open Go.RowKit
attribute [local go_sem ↓] Go.wp_at_zero Go.wp_at_succ
set_option maxRecDepth 20000
end
section
open Go.RowKit
attribute [local go_sem ↓] Go.wp_at_zero Go.wp_at_succ
set_option maxRecDepth 20000
def lew (l : List Nat) (i : Nat) : Nat -> Nat
 | 0 => 0
 | n + 1 => (lew l i n * 256) % Bu ||| l.getD (8 * i + (7 - n)) 0
def absW (a l : List Nat) (i : Nat) : Nat := a.getD i 0 ^^^ lew l i 8
def absorbK (a l : List Nat) : List Nat := perm (mixTo (absW a l) a 17)
end
section
open Go.RowKit
attribute [local go_sem ↓] Go.wp_at_zero Go.wp_at_succ
set_option maxRecDepth 20000
section
variable {w : World} {h : Nat} {t : TypeId} {st blk : List Nat} {u tot : Nat}
end
def blkOf (l : List Nat) (j : Nat) : List Nat := (l.drop (136 * j)).take 136
def stB (st l : List Nat) : Nat -> List Nat
 | 0 => st
 | j + 1 => absorbK (stB st l j) (blkOf l j)
end
section
open Go.RowKit
attribute [local go_sem ↓] Go.wp_at_zero Go.wp_at_succ
set_option maxRecDepth 20000
section
variable {w : World} {b : Nat} {t : TypeId} {l : List Nat}
end
end
section
open Go.RowKit
attribute [local go_sem ↓] Go.wp_at_zero Go.wp_at_succ
set_option maxRecDepth 20000
end
section
open Go.RowKit
attribute [local go_sem ↓] Go.wp_at_zero Go.wp_at_succ
set_option maxRecDepth 20000
def sb (s : ByteArray) : List Nat := s.data.toList.map (·.toNat)
end
section
open Go.RowKit
attribute [local go_sem ↓] Go.wp_at_zero Go.wp_at_succ
set_option maxRecDepth 20000
theorem sleq_any (u v : Value) (l m : List Int) (w : World) (D E : Nat -> Prop) (hu : Sl w D 1 u l.length (AX l)) (hv : Sl w E 1 v m.length (AX m)) :
  Calls Tryz.prog 17 #[u, v] w (AO (fun x _ => x = .bool (l == m)) w) := by
 obtain ⟨A, c, rfl, h1, h2⟩ := hu.shape
 obtain ⟨A', c', rfl, h3, h4⟩ := hv.shape
 by_cases hlen : l.length = m.length
 ·rcases Nat.eq_zero_or_pos l.length with h0 | h0
  ·obtain rfl : l = [] := List.eq_nil_of_length_eq_zero h0
   obtain rfl : m = [] := List.eq_nil_of_length_eq_zero (by simpa using hlen.symm)
   refine (Tryz.slices_Equal_int_empty A A' c 0 c' w (by omega)).mono ?_
   rintro e w' ⟨rfl, rfl⟩
   exact AO.mk rfl (Below.refl _ _)
  ·obtain ⟨b, o, rfl, _, _, hc⟩ := hu.int (k := 0) h0
   obtain ⟨b', o', rfl, _, _, hc'⟩ := hv.int (k := 0) (by omega)
   refine (Tryz.slices_Equal_int b o l.length c b' o' m.length c' l m w (Nat.le_refl _) (Nat.le_refl _) (by omega) (by omega) hc hc').mono ?_
   rintro e w' ⟨rfl, q, rfl⟩
   rw [List.take_length, List.take_length]
   exact AO.mk rfl (FG (Below.refl _ _) _)
 ·refine (Tryz.slices_Equal_int_lens A A' l.length c m.length c' w hlen).mono ?_
  rintro e w' ⟨rfl, rfl⟩
  refine AO.mk ?_ (Below.refl _ _)
  have : (l == m) = false := by rw [beq_eq_false_iff_ne]; rintro rfl; exact hlen rfl
  rw [this]
end
section
open Go.RowKit
attribute [local go_sem ↓] Go.wp_at_zero Go.wp_at_succ
set_option maxRecDepth 20000
theorem Ds {P : Program} {o : Oper} {a : Act} {w : World} {K : Act -> World -> Prop} {Q : Exit -> Act -> World -> Prop} {t : TypeId} {x : Operand} {g j : Nat} {ty : TypeId} {cs : Array Value} {x' : Value} {d : TypeDesc} (ho : o.op = .load t x) (hx : a.eval x = .pointer (some ⟨g, j, none⟩)) (hb : Co w g ty cs) (hx' : cs[j]? = some x')
  (hu : P.underlying t = some d) (hd : d.isRow = true) (hi : (P.info? t).map (·.size) = some 1) (hk : K (a.put o.dst (.agg #[x'])) w) : o.wp P a w K Q :=
 AQ (cs := [x']) ho hx (fun i v hi => by
  cases i with
  | zero => simp at hi; subst hi; rw [Nat.add_zero, hb.cell]; exact hx'
  | succ i => simp at hi) hu hd hi hk
theorem Bk {v : Value} {z : Nat × Nat} : AF fun D w => Bd w D v z := fun D D' w w' h a b c => by
 obtain ⟨x, y, h1, h2, h3⟩ := h
 exact ⟨x, y, h1, A5 D D' w w' h2 a b c, A5 D D' w w' h3 a b c⟩
end
section
open Go.RowKit
attribute [local go_sem ↓] Go.wp_at_zero Go.wp_at_succ
set_option maxRecDepth 20000
set_option exponentiation.threshold 5000
section
variable {P : Program} {ops : Array Oper} {rest : List Oper} {o : Oper} {a : Act} {w : World} {Q : Exit -> Act -> World -> Prop}
end
theorem FI.ins {L : List (Nat × Nat)} (h : FI L) {x y : Nat} (hx : 1 <= x /\ x < 64) (hy : 1 <= y /\ y < 64) (hne : x ≠ y) (hm : (x, y) ∉ L) (ht : ¬ TC L y x) : FI (ins L (x, y)) := by
 refine ⟨ins_asc h.asc hm, fun z hz => ?_, (acyc_ins h.acyc fun z => IF).2 ?_⟩
 ·rcases IF.1 hz with rfl | hz
  ·exact ⟨hx, hy⟩
  ·exact h.role z hz
 ·rintro (e | e)
  ·exact hne e.symm
  ·exact ht e
theorem D6 {w : World} {D : Nat -> Prop} {size n c b o j : Nat} {xs : List Value} {x : Value} (h : Sl w D size (.slice (some ⟨b, o, none⟩) n c) n xs) (hj : xs[j]? = some x) : w.cell? ⟨b, o + j, none⟩ = some x := by
 obtain ⟨h1, A, c2, h2, _, _, h5⟩ := h
 have hlt := (List.getElem?_eq_some_iff.1 hj).1
 have hn : 0 < n := by
  rcases Nat.eq_zero_or_pos n with h0 | h0
  ·subst h0; simp at h1; subst h1; simp at hlt
  ·exact h0
 obtain ⟨b2, o2, h6, _, _, h8⟩ := h5 hn
 injection h2 with h2
 rw [h6] at h2
 injection h2 with h2
 injection h2 with h9 h10
 rw [h9, h10]
 exact h8 j x hj
end
section
open Go.RowKit
attribute [local go_sem ↓] Go.wp_at_zero Go.wp_at_succ
set_option maxRecDepth 20000
set_option exponentiation.threshold 5000
theorem run_and64 {P : Program} {w : World} {t : TypeId} {x y : Nat} (hx : x < Bu) (hy : y < Bu) : (binOp .and t (.int .u64 (x : Nat)) (.int .u64 (y : Nat))).run P w = .ok (.int .u64 ((x &&& y : Nat) : Int)) w := by
 go_simp; rw [and64 hx hy]
theorem and_words {a b : List Nat} (ha : Bb a) (hb : Bb b) {n : Nat} (hn : a.length <= n \/ b.length <= n) : Bb ((List.range n).map fun j => wd (Bp a) j &&& wd (Bp b) j) /\ Bp ((List.range n).map fun j => wd (Bp a) j &&& wd (Bp b) j) = Bp a &&& Bp b := by
 have h1 : Bb ((List.range n).map fun j => wd (Bp a) j &&& wd (Bp b) j) := fun x hx => by
  obtain ⟨j, _, rfl⟩ := List.mem_map.1 hx
  exact Nat.lt_of_le_of_lt Nat.and_le_left (EN _ _)
 refine ⟨h1, Gr h1 fun k => ?_⟩
 rw [wd_and, List.getD_eq_getElem?_getD, List.getElem?_map]
 rcases Nat.lt_or_ge k n with hk | hk
 ·rw [List.getElem?_range hk]; rfl
 ·rw [List.getElem?_eq_none (by simpa using hk)]
  rcases hn with hn | hn
  ·rw [wd_ge ha (by omega), Nat.zero_and]; rfl
  ·rw [wd_ge hb (by omega), Nat.and_zero]; rfl
theorem Sl.only {w : World} {D : Nat -> Prop} {size n c g o : Nat} {xs : List Value} (h : Sl w D size (.slice (some ⟨g, o, none⟩) n c) n xs) : Sl w (fun z => D z /\ z = g) size (.slice (some ⟨g, o, none⟩) n c) n xs := by
 obtain ⟨h1, A, c', e, h3, h4, h5⟩ := h
 injection e with e1 e2 e3
 subst e1 e3
 refine ⟨h1, _, _, rfl, h3, h4, fun hp => ?_⟩
 obtain ⟨b, o', q1, q2, q3, q4⟩ := h5 hp
 injection q1 with q1
 injection q1 with q1 q5 _
 subst q1 q5
 exact ⟨_, _, rfl, ⟨q2, rfl⟩, q3, q4⟩
set_option maxHeartbeats 2000000 in
theorem and_any {w0 : World} {D E : Nat -> Prop} {v u : Value} {M N : Nat} (hv : A7 w0 D v M) (hu : A7 w0 E u N) :
  Calls Tryz.prog 83 #[v, u] w0 (AO (fun x w' => A7 w' (w0.heap.size <= ·) x (M &&& N)) w0) := by
 obtain ⟨A, ca, a, rfl, ha, rfl, ha1, ha2, hsa⟩ := hv.parts
 obtain ⟨B, cb, b, rfl, hb, rfl, hb1, hb2, hsb⟩ := hu.parts
 obtain ⟨K, k1, k2, hS⟩ : ∃ K : (Nat -> Prop) -> World -> Prop, (∀ D w, K D w -> Sl w D 1 (.slice A a.length ca) a.length (Bc a)) /\ (∀ D w, K D w -> Sl w D 1 (.slice B b.length cb) b.length (Bc b)) /\ St w0 w0 [] K := ⟨_, fun _ _ h => h.1, fun _ _ h => h.2, St.start (D := fun _ => True) ((At (by decide)).and (At (by decide))) ⟨hsa.imp fun _ _ _ => trivial, hsb.imp fun _ _ _ => trivial⟩⟩
 have hla := ha.2.2
 have hlb := hb.2.2
 obtain ⟨n, hn⟩ : ∃ n, n = min a.length b.length := ⟨_, rfl⟩
 have HW := Lib.hid (and_words ha.1 hb.1 (n := n) (by omega))
 have HA := Lib.hid ha.1
 have HB := Lib.hid hb.1
 have hna : n <= a.length := by omega
 have hnb : n <= b.length := by omega
 have hnm : min (a.length : Int) (b.length : Int) = (n : Int) := by omega
 clear hsa hsb hv hu ha hb hn
 go_enter Tryz.func83, Tryz.ntmps83
 go_wp2_with (first
  | ((with_reducible refine qA 2 ?_); refine AE hS rfl _ _ rfl (.agg #[.slice A a.length ca]) _ rfl rfl ?_; clear hS; intro g2 w_ hS; (try simp only [Act.put, Act.eval, zz, Value.cells] at hS))
  | ((with_reducible refine qA 3 ?_); refine AE hS rfl _ _ rfl (.agg #[.slice B b.length cb]) _ rfl rfl ?_; clear hS; intro g3 w_ hS; (try simp only [Act.put, Act.eval, zz, Value.cells] at hS))
  | ((with_reducible refine qA 4 ?_); refine qa hS #[.slice none 0 0] ?_; clear hS; intro g4 w_ hS)
  | ((with_reducible refine qK ?_); refine qC hS ?_)
  | ((with_reducible show wpList _ _ _ (⟨_, .makeSlice _ _ _, _, _, _, _⟩ :: _) _ _); refine st_mk hS rfl _ _ _ rfl ET .i64 .i64 n #[.int .u64 0] rfl rfl (by kernel_rfl) (by omega) (by omega) ?_; clear hS; intro g5 w_ hS))
 rw [mk_u64s] at hS
 obtain ⟨f, hf⟩ : ∃ f : Nat -> Nat, f = fun j => wd (Bp a) j &&& wd (Bp b) j := ⟨_, rfl⟩
 rw [<- hf] at HW
 replace hf := Lib.hid hf
 rw [<- DZ f] at hS
 go_loopw [17] (fun i wr => ∃ k : Nat, i = .int .i64 (k : Nat) /\ k <= n /\ St w0 wr [.own (.slice (some ⟨g5, 0, none⟩) n n) 33 1 n (Bc (Bx f k n)), .box g4 27 #[.slice none 0 0], .box g3 27 #[.slice B b.length cb], .box g2 27 #[.slice A a.length ca]] K) (fun i _ => n - (intOf i).toNat)
 case atStart => exact ⟨0, rfl, by omega, hS⟩
 case round =>
  clear hS
  obtain ⟨k, rfl, hk, hS⟩ := hrel
  by_cases hkn : k < n
  ·obtain ⟨b1, o1, rfl⟩ : ∃ b o, A = some ⟨b, o, none⟩ := by
    obtain ⟨_, A2, c2, e2, _, _, h5⟩ := k1 _ _ hS.ro
    obtain ⟨b, o, h6, _⟩ := h5 (by omega)
    injection e2 with e2
    exact ⟨b, o, e2.trans h6⟩
   obtain ⟨b2, o2, rfl⟩ : ∃ b o, B = some ⟨b, o, none⟩ := by
    obtain ⟨_, A2, c2, e2, _, _, h5⟩ := k2 _ _ hS.ro
    obtain ⟨b, o, h6, _⟩ := h5 (by omega)
    injection e2 with e2
    exact ⟨b, o, e2.trans h6⟩
   have HX := Lib.hid (CN a k (by omega))
   have HY := Lib.hid (CN b k (by omega))
   have hx : a.getD k 0 < Bu := HA.out.getD k
   have hy : b.getD k 0 < Bu := HB.out.getD k
   have HF := Lib.hid (show (Bc (Bx f k n)).set k (.int .u64 ((a.getD k 0 &&& b.getD k 0 : Nat) : Int)) = Bc (Bx f (k + 1) n) by
    rw [<- Ge, show f k = a.getD k 0 &&& b.getD k 0 by rw [hf.out]; show wd (Bp a) k &&& wd (Bp b) k = _; rw [BZ HA.out, BZ HB.out], Gs])
   generalize a.getD k 0 = x at *
   generalize b.getD k 0 = y at *
   go_wp2_with (first | ((with_reducible refine qB ?_); refine qc ?_ ?_ <;> intro h_ <;> go_prune))
   refine IH 14 [] [.i (.slice (some ⟨g5, 0, none⟩) n n), .n ((k : Nat) : Int), .q g2 0, .i (.slice (some ⟨b1, o1, none⟩) a.length ca), .n ((k : Nat) : Int), .q b1 (o1 + (k) * 1), .i (.int .u64 ((x : Nat) : Int)), .q g3 0, .i (.slice (some ⟨b2, o2, none⟩) b.length cb), .n ((k : Nat) : Int), .q b2 (o2 + (k) * 1), .i (.int .u64 ((y : Nat) : Int)), .i (.int .u64 ((x &&& y : Nat) : Int)), .q g5 (0 + (k) * 1), .t] ⟨uM, uM, uF, uC (h := fun w hW hN => ((hS.ext hW).box 3 rfl).cell 0), uM, uI (h := fun w hW hN => AA (m := k) Tryz.underlying25 (by kernel_rfl) (by omega) (by omega)), uC (h := fun w hW hN => by rw [Nat.mul_one]; exact D6 (k1 _ _ (hS.ext hW).ro) HX.out), uF, uC (h := fun w hW hN => ((hS.ext hW).box 2 rfl).cell 0), uM, uI (h := fun w hW hN => AA (m := k) Tryz.underlying25 (by kernel_rfl) (by omega) (by omega)), uC (h := fun w hW hN => by rw [Nat.mul_one]; exact D6 (k2 _ _ (hS.ext hW).ro) HY.out), uB (h := fun w hW hN => run_and64 hx hy), uI (h := fun w hW hN => AA (m := k) Tryz.underlying25 (by kernel_rfl) (by omega) (by omega)), trivial⟩ ?_
   ·intro vs wz hW hT
    obtain ⟨e20, e21, e22, e23, e24, e25, e26, e27, e28, e29, e30, e31, e32, e33, -⟩ := hT
    simp only [AC, Act.put, zz, ze]
    (intro o_ ho_; simp only [List.getElem?_toArray, List.getElem?_cons_succ, List.getElem?_cons_zero, Option.some.injEq] at ho_; subst ho_)
    refine EA rfl (g := g5) (i := k) (e33.trans (by rw [Nat.zero_add, Nat.mul_one])) e32 ((hS.ext hW).own 0 rfl) (by omega) rfl rfl (by kernel_rfl) fun w4 h1 hU => ?_
    replace hS := (hS.ext hW).upd 0 rfl (.own (.slice (some ⟨g5, 0, none⟩) n n) 33 1 n (Bc (Bx f (k + 1) n))) (by simpa [Aj.blk, Value.ownBlock] using Bn hU) (by rw [<- HF.out]; exact h1) fun _ e => .inl e
    simp only [CJ]
    simp only [Act.put, List.setIfInBounds_toArray, List.set_cons_zero, List.set_cons_succ]
    clear e32 e33 h1 hU hW
    go_wp2_with fail
    exact ⟨⟨k + 1, by go_num, hkn, hS⟩, by simp [intOf]; omega⟩
  ·obtain rfl : k = n := by omega
   rw [E0, hf.out] at hS
   rw [hf.out] at HW
   generalize hl : (List.range k).map (fun j => wd (Bp a) j &&& wd (Bp b) j) = l at hS HW
   obtain rfl : l.length = k := by rw [<- hl]; simp
   clear hl
   have hs0 := ((hS.own 0 rfl).lt _ rfl).1
   have hS1 := hS.freeze 0 (by decide) rfl
   clear hS
   have hS := hS1
   clear hS1
   go_wp2_with (first
    | ((with_reducible refine qB ?_); refine qc ?_ ?_ <;> intro h_ <;> go_prune)
    | (go_at_call 73; refine (IQ _ l _ _ HW.out.1 (by omega) (hS.ro.2.only)).mono ?_; rintro r_ w_ ⟨_, rfl, hM, hb_⟩; obtain ⟨A3, c3, l3, rfl, -⟩ := hM.parts; replace hS := hS.ret2 hb_ (AV A5 (w0.heap.size <= ·)) (hM.imp fun z hz _ => ⟨.inl hz.1, by rw [hz.2]; exact hs0⟩); clear hb_ hM)
    | ((with_reducible refine qM ?_); (first | refine qS hS ?_ | refine qT hS ?_); clear hS; intro w_ hS; (try simp only [Act.put, Act.eval, zz, Value.cells] at hS)))
   refine BG Tryz.results83 rfl (hS.box 0 rfl) Tryz.underlying27 rfl (by kernel_rfl) rfl ?_
   exact AO.mk (by rw [<- HW.out.2]; exact hS.ro.2.imp fun z hz _ => hz.2) hS.below
end
section
open Go.RowKit
attribute [local go_sem ↓] Go.wp_at_zero Go.wp_at_succ
set_option maxRecDepth 20000
set_option exponentiation.threshold 5000
section
variable {P : Program} {ops : Array Oper} {rest : List Oper} {o : Oper} {a : Act} {w0 w : World} {F : List Aj} {K : (Nat -> Prop) -> World -> Prop} {Kt : Act -> World -> Prop} {Q : Exit -> Act -> World -> Prop}
theorem BV {x : Operand} {f : FuncId} {first caps : Array Value} {xs : Array Operand} {ts : Array TypeId} {vs : List Value} {R : Ending -> World -> Prop} (ho : o.op = .call { callee := .value x, args := xs, argTypes := ts }) (hx : a.eval x = .func (.func f) first caps) (hc : BX P f = true) (hv : first.toList ++ xs.toList.map a.eval ++ caps.toList = vs)
  (h : Calls P f vs.toArray w R) (hk : ∀ e w', R e w' -> ∃ v, e = .returned v /\ Kt (a.put o.dst v) w') : o.wp P a w Kt Q := by
 have he : execOp a.eval o = callFunc f vs.toArray := by
  cases o with
  | mk dst op ty pos after guard =>
   simp only at ho
   subst ho
   have e1 : vs.toArray = first ++ xs.map a.eval ++ caps := by rw [<- hv]; simp
   rw [e1]
   simp [execOp, resolve, hx, Deferred.ofValue, invoke]
 unfold Oper.wp
 rw [he, GM f vs.toArray hc]
 refine h.mono fun e w' hR => ?_
 obtain ⟨v, rfl, hk⟩ := hk e w' hR
 exact hk
theorem Aa (h : St w0 w F K) (i : Nat) (hg : Region.wanted o (yielded ops a.tmps) = true) (x : Operand) (ty : TypeId) (ho : o.op = .load ty x) (g j : Nat) (hx : a.eval x = .pointer (some ⟨g, j, none⟩)) (t : TypeId) (cs : Array Value) (hb : F[i]? = some (.box g t cs)) (v : Value) (hv : cs[j]? = some v)
  {d : TypeDesc} (hu : P.underlying ty = some d) (hd : d.isRow = true) (hi : (P.info? ty).map (·.size) = some 1) (hk : wpList P ops Q rest (a.put o.dst (.agg #[v])) w) : wpList P ops Q (o :: rest) a w :=
 BigFrame.wpList_want hg fun _ hK => Ds ho hx (h.box i hb) hv hu hd hi (hK _ _ hk)
theorem st_cubel (h : St w0 w F K) (i : Nat) (hg : Region.wanted o (yielded ops a.tmps) = true) (x : Operand) (ty : TypeId) (ho : o.op = .load ty x) (g j : Nat) (hx : a.eval x = .pointer (some ⟨g, j, none⟩)) (t : TypeId) (cs : Array Value) (hb : F[i]? = some (.box g t cs)) (v u : Value) (hv : cs[j]? = some v) (hv2 : cs[j + 1]? = some u)
  {d : TypeDesc} (hu : P.underlying ty = some d) (hd : d.isRow = true) (hi : (P.info? ty).map (·.size) = some 2) (hk : wpList P ops Q rest (a.put o.dst (.agg #[v, u])) w) : wpList P ops Q (o :: rest) a w :=
 BigFrame.wpList_want hg fun _ hK => AQ (cs := [v, u]) ho hx (fun k z hz => by
  have hbx := h.box i hb
  match k, hz with
  | 0, hz => obtain rfl := Option.some.inj (show some _ = some z from hz); rw [Nat.add_zero, hbx.cell]; exact hv
  | 1, hz => obtain rfl := Option.some.inj (show some _ = some z from hz); rw [hbx.cell]; exact hv2
  | k + 2, hz => simp at hz) hu hd hi (hK _ _ hk)
end
theorem Jd {w : World} {g i : Nat} {a b : Value} (h0 : w.cell? ⟨g, i, none⟩ = some a) (h1 : w.cell? ⟨g, i + 1, none⟩ = some b) : w.rangeAt g i [a, b] := fun j v hj => by
 match j, hj with
 | 0, hj => obtain rfl := Option.some.inj (show some _ = some v from hj); exact h0
 | 1, hj => obtain rfl := Option.some.inj (show some _ = some v from hj); exact h1
 | j + 2, hj => simp at hj
theorem run_geB {P : Program} {w : World} {t : TypeId} {k : IntKind} {m n : Int} {b : Bool} (h : decide (m ≥ n) = b) : (binOp .geq t (.int k m) (.int k n)).run P w = .ok (.bool b) w := by
 rw [binOp_geq, <- h]; simp
def B9 (z : Nat × Nat) (N : Nat) : Bool := (z.1 &&& N == z.1) && !(z.2 &&& N != 0)
theorem I8 {w0 : World} {D E : Nat -> Prop} {u v : Value} {z : Nat × Nat} {N : Nat} (hu : Bd w0 D u z) (hv : A7 w0 E v N) : Calls Tryz.prog 56 #[u, v] w0 (AO (fun x _ => x = .bool (B9 z N)) w0) := by
 obtain ⟨a, b, rfl, ha, hb⟩ := hu
 obtain ⟨y, n⟩ := z
 dsimp only at ha hb
 obtain ⟨A, m, c, rfl⟩ := ha.shape
 obtain ⟨B, k, d, rfl⟩ := hb.shape
 obtain ⟨C, e, lw, rfl, -⟩ := hv.parts
 obtain ⟨l, hl⟩ : ∃ l, l = lw.length := ⟨_, rfl⟩
 rw [<- hl] at hv ⊢
 clear hl
 obtain ⟨K, ka, kb, kc, hS⟩ : ∃ K : (Nat -> Prop) -> World -> Prop, (∀ D w, K D w -> A7 w D (.agg #[.slice A m c]) y) /\ (∀ D w, K D w -> A7 w D (.agg #[.slice B k d]) n) /\ (∀ D w, K D w -> A7 w D (.agg #[.slice C l e]) N) /\ St w0 w0 [] K :=
  ⟨fun D w => (A7 w D (.agg #[.slice A m c]) y /\ A7 w D (.agg #[.slice B k d]) n) /\ A7 w D (.agg #[.slice C l e]) N, fun _ _ h => h.1.1, fun _ _ h => h.1.2, fun _ _ h => h.2, St.start (D := fun _ => True) ((A5.and A5).and A5) ⟨⟨ha.imp fun _ _ _ => trivial, hb.imp fun _ _ _ => trivial⟩, hv.imp fun _ _ _ => trivial⟩⟩
 clear ha hb hv
 have HR := Lib.hid (show B9 (y, n) N = ((y &&& N == y) && !(n &&& N != 0)) from rfl)
 generalize B9 (y, n) N = R at *
 obtain ⟨b1, hb1⟩ : ∃ b1, b1 = (y &&& N == y) := ⟨_, rfl⟩
 have HB1 := Lib.hid hb1
 rw [<- hb1] at HR
 clear hb1
 go_enter Tryz.func56, Tryz.ntmps56
 cases b1
 all_goals
  go_wp2_with (first
   | ((with_reducible refine qA 2 ?_); refine AE hS rfl _ _ rfl (.agg #[.slice A m c, .slice B k d]) _ rfl rfl ?_; clear hS; intro g2 w_ hS; (try simp only [Act.put, Act.eval, zz, Value.cells] at hS))
   | ((with_reducible refine qA 3 ?_); refine AE hS rfl _ _ rfl (.agg #[.slice C l e]) _ rfl rfl ?_; clear hS; intro g3 w_ hS; (try simp only [Act.put, Act.eval, zz, Value.cells] at hS))
   | ((with_reducible refine qk 27 ?_); first | (refine Aa hS 0 rfl _ _ rfl _ _ rfl _ _ rfl _ (by first | rfl | assumption) Tryz.underlying27 rfl (by kernel_rfl) ?_) | (refine Aa hS 1 rfl _ _ rfl _ _ rfl _ _ rfl _ (by first | rfl | assumption) Tryz.underlying27 rfl (by kernel_rfl) ?_) | (refine Aa hS 2 rfl _ _ rfl _ _ rfl _ _ rfl _ (by first | rfl | assumption) Tryz.underlying27 rfl (by kernel_rfl) ?_) | (refine Aa hS 3 rfl _ _ rfl _ _ rfl _ _ rfl _ (by first | rfl | assumption) Tryz.underlying27 rfl (by kernel_rfl) ?_) | (refine Aa hS 4 rfl _ _ rfl _ _ rfl _ _ rfl _ (by first | rfl | assumption) Tryz.underlying27 rfl (by kernel_rfl) ?_) | (refine Aa hS 5 rfl _ _ rfl _ _ rfl _ _ rfl _ (by first | rfl | assumption) Tryz.underlying27 rfl (by kernel_rfl) ?_))
   | (go_at_call 104; refine (CP _ _ y N _ _ _ (ka _ _ hS.ro) (kc _ _ hS.ro)).mono ?_; rintro r_ w_ ⟨_, rfl, rfl, hb_⟩; rw [<- HB1.out]; replace hS := hS.ext hb_; clear hb_)
   | (go_at_call 85; refine (El _ _ n N _ _ _ (kb _ _ hS.ro) (kc _ _ hS.ro)).mono ?_; rintro r_ w_ ⟨_, rfl, rfl, hb_⟩; replace hS := hS.ext hb_; clear hb_))
  go_ret
  exact AO.mk (by rw [HR.out]; rfl) hS.below
theorem idxc_any {w0 w : World} {F : List Aj} {K : (Nat -> Prop) -> World -> Prop} (v : Value) (l : List (Nat × Nat)) (f : FuncId) (first caps : Array Value) (q : Nat × Nat -> Bool) (hcg : BX Tryz.prog f = true) (hS : St w0 w F K) (kl : ∀ D w, K D w -> AH w D v l)
  (hq : ∀ (x : Value) (z : Nat × Nat) (w : World), z ∈ l -> (∃ F', St w0 w (F' ++ F) fun D w => K D w /\ Bd w D x z) -> Calls Tryz.prog f (first.toList ++ [x] ++ caps.toList).toArray w (AO (fun r _ => r = .bool (q z)) w)) :
  Calls Tryz.prog 103 #[v, .func (.func f) first caps] w fun e w' => ∃ k : Int, e = .returned (.int .i64 k) /\ decide (0 <= k) = l.any q /\ St w0 w' F K := by
 obtain ⟨A, c, rfl, _, hc2⟩ := (kl _ _ hS.ro).shape
 have KS := Lib.hid hS.stable
 have HQ := Lib.hid hq
 clear hq
 have HCG := Lib.hid hcg
 clear hcg
 go_enter Tryz.func103, Tryz.ntmps103
 go_wp2_with (first | ((with_reducible refine qB ?_); refine qc ?_ ?_ <;> intro h_ <;> go_prune))
 go_loopw [8] (fun i wr => ∃ k : Nat, k <= l.length /\ i = .int .i64 (k : Nat) /\ St w0 wr F K /\ Hid (∀ z ∈ l.take k, q z = false)) (fun i _ => l.length - (intOf i).toNat)
 case atStart => exact ⟨0, by omega, rfl, hS, Lib.hid (by simp)⟩
 case round =>
  clear hS
  obtain ⟨k, hk, rfl, hS, HZ⟩ := hrel
  by_cases hlt : k < l.length
  ·obtain ⟨b, o, y, n, rfl, _, hb, c0, c1, hy, hn⟩ := (kl _ _ hS.ro).at_ hlt
   obtain ⟨Ay, my, cy, rfl⟩ := hy.shape
   obtain ⟨An, mn, cn, rfl⟩ := hn.shape
   have HM : Hid (l.getD k (0, 0) ∈ l) := Lib.hid (by rw [List.getD_eq_getElem?_getD, List.getElem?_eq_getElem hlt]; exact List.getElem_mem hlt)
   have HZ2 : Hid (q (l.getD k (0, 0)) = false -> ∀ z ∈ l.take (k + 1), q z = false) := Lib.hid fun h z hz => by
    rw [List.take_add_one, List.mem_append] at hz
    rcases hz with hz | hz
    ·exact HZ.out z hz
    ·rw [List.getElem?_eq_getElem hlt] at hz
     rw [List.getD_eq_getElem?_getD, List.getElem?_eq_getElem hlt] at h
     have : z = l[k] := by simpa using hz
     rw [this]; exact h
   have HY : Hid (q (l.getD k (0, 0)) = true -> true = l.any q) := Lib.hid fun h => (List.any_eq_true.2 ⟨_, HM.out, h⟩).symm
   replace hS := hS.add (D := Da F) (Bk (v := .agg #[.slice Ay my cy, .slice An mn cn]) (z := l.getD k (0, 0))) ⟨_, _, rfl, hy, hn⟩ fun _ h _ => h
   clear hy hn
   generalize l.getD k (0, 0) = z at *
   have HK := Lib.hid (HQ.out (.agg #[.slice Ay my cy, .slice An mn cn]) z wr HM.out ⟨[], hS⟩)
   obtain ⟨args, hargs⟩ : ∃ args, args = first.toList ++ [Value.agg #[.slice Ay my cy, .slice An mn cn]] ++ caps.toList := ⟨_, rfl⟩
   rw [<- hargs] at HK
   have HARG := Lib.hid hargs
   clear hargs
   go_wp2_with (first
    | ((with_reducible refine qA 15 ?_); refine BigFrame.wpList_want rfl fun _ hK => AQ (cs := [.slice Ay my cy, .slice An mn cn]) rfl rfl (Jd c0 c1) Tryz.underlying81 rfl (by kernel_rfl) (hK _ _ ?_))
    | ((with_reducible refine qA 16 ?_); refine BigFrame.wpList_want rfl fun _ hK => BV (vs := args) rfl rfl HCG.out (by simp [Act.eval, Act.put, HARG.out]) HK.out fun e w' ⟨u_, he_, hu_, hb_⟩ => ⟨u_, he_, hK _ _ ?_⟩))
   ·go_ret
    exact ⟨_, rfl, (decide_eq_true (by omega)).trans (HY.out (by assumption)), (hS.ext hb_).mono KS.out fun _ _ h => h.1⟩
   ·exact ⟨⟨k + 1, hlt, by go_num, (hS.ext hb_).mono KS.out fun _ _ h => h.1, Lib.hid (HZ2.out (by assumption))⟩, by simp [intOf]; omega⟩
  ·obtain rfl : k = l.length := by omega
   have HN : Hid (false = l.any q) := Lib.hid (by
    have h := HZ.out
    rw [List.take_length] at h
    exact (List.any_eq_false.2 fun z hz => by rw [h z hz]; simp).symm)
   go_wp2_with (first | ((with_reducible refine qB ?_); refine qc ?_ ?_ <;> intro h_ <;> go_prune))
   go_ret
   exact ⟨_, rfl, (decide_eq_false (by omega)).trans HN.out, hS⟩
theorem JH {w0 w : World} {F : List Aj} {K : (Nat -> Prop) -> World -> Prop} (v : Value) (l : List (Nat × Nat)) (f : FuncId) (first caps : Array Value) (q : Nat × Nat -> Bool) (hcg : BX Tryz.prog f = true) (hS : St w0 w F K) (kl : ∀ D w, K D w -> AH w D v l)
  (hq : ∀ (x : Value) (z : Nat × Nat) (w : World), z ∈ l -> (∃ F', St w0 w (F' ++ F) fun D w => K D w /\ Bd w D x z) -> Calls Tryz.prog f (first.toList ++ [x] ++ caps.toList).toArray w (AO (fun r _ => r = .bool (q z)) w)) :
  Calls Tryz.prog 54 #[v, .func (.func f) first caps] w fun e w' => e = .returned (.bool (l.any q)) /\ St w0 w' F K := by
 have HI := Lib.hid (idxc_any v l f first caps q hcg hS kl hq)
 clear hcg hS kl hq
 go_enter Tryz.func54, Tryz.ntmps54
 go_wp2_with fail
 refine HI.out.mono ?_
 rintro e w1 ⟨k, rfl, hk, hS⟩
 have HK := Lib.hid hk
 clear hk
 go_wp2_with (first | ((with_reducible refine qA 8 ?_); refine BigFrame.wpList_want rfl fun _ hK => AU (vx := .int .i64 k) (vy := .int .i64 0) (v := .bool (l.any q)) rfl rfl rfl rfl (run_geB ((decide_eq_decide.2 (by omega)).trans HK.out)) (hK _ _ ?_)))
 go_ret
 exact ⟨rfl, hS⟩
end
section
open Go.RowKit
attribute [local go_sem ↓] Go.wp_at_zero Go.wp_at_succ
set_option maxRecDepth 20000
set_option exponentiation.threshold 5000
theorem some1_any {w : World} {D E : Nat -> Prop} {x sv : Value} {z : Nat × Nat} {N g : Nat} (hx : Bd w D x z) (hb : Cj w E g #[sv]) (hs : A7 w E (.agg #[sv]) N) : Calls Tryz.prog 55 #[x, .pointer (some ⟨g, 0, none⟩)] w (AO (fun r _ => r = .bool (B9 z N)) w) := by
 obtain ⟨a, b, rfl, ha, hb1⟩ := hx
 obtain ⟨A, m, c, rfl⟩ := ha.shape
 obtain ⟨B, k, d, rfl⟩ := hb1.shape
 obtain ⟨C, l, e, rfl⟩ := hs.shape
 obtain ⟨K, ka, kb, kc, hS⟩ : ∃ K : (Nat -> Prop) -> World -> Prop, (∀ D w, K D w -> Bd w D (.agg #[.slice A m c, .slice B k d]) z) /\ (∀ D w, K D w -> Cj w D g #[.slice C l e]) /\ (∀ D w, K D w -> A7 w D (.agg #[.slice C l e]) N) /\ St w w [] K :=
  ⟨fun D w => (Bd w D (.agg #[.slice A m c, .slice B k d]) z /\ Cj w D g #[.slice C l e]) /\ A7 w D (.agg #[.slice C l e]) N, fun _ _ h => h.1.1, fun _ _ h => h.1.2, fun _ _ h => h.2, St.start (D := fun _ => True) ((Bk.and Be).and A5) ⟨⟨⟨_, _, rfl, ha.imp fun _ _ _ => trivial, hb1.imp fun _ _ _ => trivial⟩, Be E _ w w hb (Nat.le_refl _) (fun _ _ _ _ h => h) fun _ _ _ _ => trivial⟩, hs.imp fun _ _ _ => trivial⟩⟩
 clear ha hb1 hb hs
 go_enter Tryz.func55, Tryz.ntmps55
 go_wp2_with (first
  | ((with_reducible refine qA 2 ?_); refine AE hS rfl _ _ rfl (.agg #[.slice A m c, .slice B k d]) _ rfl rfl ?_; clear hS; intro g2 w_ hS; (try simp only [Act.put, Act.eval, zz, Value.cells] at hS))
  | ((with_reducible refine qK ?_); refine qL hS Tryz.underlying81 ?_)
  | ((with_reducible refine qk 27 ?_); refine BigFrame.wpList_want rfl fun _ hK => AQ (cs := [.slice C l e]) rfl rfl (Je ((kb _ _ hS.ro).cell 0 rfl)) Tryz.underlying27 rfl (by kernel_rfl) (hK _ _ ?_))
  | (go_at_call 56; refine (I8 (ka _ _ hS.ro) (kc _ _ hS.ro)).mono ?_; rintro r_ w_ ⟨_, rfl, rfl, hb_⟩; replace hS := hS.ext hb_; clear hb_))
 go_ret
 exact AO.mk rfl hS.below
theorem some_any {w0 : World} {D E : Nat -> Prop} {v u : Value} {l : List (Nat × Nat)} {N : Nat} (hv : AH w0 D v l) (hu : A7 w0 E u N) : Calls Tryz.prog 22 #[v, u] w0 (AO (fun r _ => r = .bool (l.any fun z => B9 z N)) w0) := by
 obtain ⟨A, c, rfl, _, _⟩ := hv.shape
 obtain ⟨C, e, lw, rfl, -⟩ := hu.parts
 obtain ⟨n, hn⟩ : ∃ n, n = lw.length := ⟨_, rfl⟩
 rw [<- hn] at hu ⊢
 clear hn
 obtain ⟨K, kl, ks, hS⟩ : ∃ K : (Nat -> Prop) -> World -> Prop, (∀ D w, K D w -> AH w D (.slice A l.length c) l) /\ (∀ D w, K D w -> A7 w D (.agg #[.slice C n e]) N) /\ St w0 w0 [] K :=
  ⟨fun D w => AH w D (.slice A l.length c) l /\ A7 w D (.agg #[.slice C n e]) N, fun _ _ h => h.1, fun _ _ h => h.2, St.start (D := fun _ => True) (AW.and A5) ⟨hv.imp fun _ _ _ => trivial, hu.imp fun _ _ _ => trivial⟩⟩
 clear hv hu
 go_enter Tryz.func22, Tryz.ntmps22
 go_wp2_with (first
  | (((with_reducible refine qA 3 ?_); refine AE hS rfl _ _ rfl (.agg #[.slice C n e]) _ rfl rfl ?_; clear hS; intro g3 w_ hS; (try simp only [Act.put, Act.eval, zz, Value.cells] at hS)); replace hS := hS.sealB 0 (by simp) rfl)
  | (go_at_call 54; refine (JH _ l 55 #[] #[.pointer (some ⟨g3, 0, none⟩)] (fun z => B9 z N) (by kernel_rfl) hS (fun D w h => kl D w h.1) fun x z w _ ⟨F', h⟩ => some1_any h.ro.2 h.ro.1.2 (ks _ _ h.ro.1.1)).mono ?_; clear hS; rintro e_ w_ ⟨rfl, hS⟩))
 go_ret
 exact AO.mk rfl hS.below
structure AP where
 revoke : Bool
 yes : Nat
 no : Nat
 target : Int
 origin : Int
def AL : AP := ⟨false, 0, 0, 0, 0⟩
def Gk (w : World) (D : Nat -> Prop) (v : Value) (z : AP) : Prop := ∃ a b, v = .agg #[.bool z.revoke, a, b, .int .i64 z.target, .int .i64 z.origin] /\ A7 w D (.agg #[a]) z.yes /\ A7 w D (.agg #[b]) z.no
theorem Ig {v : Value} {z : AP} : AF fun D w => Gk w D v z := fun D D' w w' h a b c => by
 obtain ⟨x, y, h1, h2, h3⟩ := h
 exact ⟨x, y, h1, A5 D D' w w' h2 a b c, A5 D D' w w' h3 a b c⟩
def AM (w : World) (D : Nat -> Prop) (xs : List Value) (l : List AP) : Prop :=
 ∀ i z, l[i]? = some z -> ∃ a b, xs[i * 5]? = some (.bool z.revoke) /\ xs[i * 5 + 1]? = some a /\ xs[i * 5 + 2]? = some b /\ xs[i * 5 + 3]? = some (.int .i64 z.target) /\ xs[i * 5 + 4]? = some (.int .i64 z.origin) /\ A7 w D (.agg #[a]) z.yes /\ A7 w D (.agg #[b]) z.no
theorem C0 {xs : List Value} {l : List AP} : AF fun D w => AM w D xs l := fun D D' w w' h a b c i z hi => by
 obtain ⟨x, y, h1, h2, h3, h4, h5, h6, h7⟩ := h i z hi
 exact ⟨x, y, h1, h2, h3, h4, h5, A5 D D' w w' h6 a b c, A5 D D' w w' h7 a b c⟩
def Bm (w : World) (D : Nat -> Prop) (v : Value) (l : List AP) : Prop := ∃ xs : List Value, Sl w D 5 v l.length xs /\ AM w D xs l
theorem B6 {v : Value} {l : List AP} : AF fun D w => Bm w D v l := fun D D' w w' h a b c => by
 obtain ⟨xs, h1, h2⟩ := h
 exact ⟨xs, At (by decide) D D' w w' h1 a b c, C0 D D' w w' h2 a b c⟩
theorem Bm.shape {w : World} {D : Nat -> Prop} {v : Value} {l : List AP} (h : Bm w D v l) : ∃ A c, v = .slice A l.length c /\ l.length <= c /\ c <= 9223372036854775807 := by
 obtain ⟨xs, h, _⟩ := h
 exact h.shape
theorem Bm.at_ {w : World} {D : Nat -> Prop} {l : List AP} {A : Option Addr} {n c : Nat} (h : Bm w D (.slice A n c) l) {k : Nat} (hk : k < l.length) :
  ∃ b o y m, A = some ⟨b, o, none⟩ /\ D b /\ b < w.heap.size /\ w.cell? ⟨b, o + k * 5, none⟩ = some (.bool (l.getD k AL).revoke) /\ w.cell? ⟨b, o + k * 5 + 1, none⟩ = some y /\ w.cell? ⟨b, o + k * 5 + 2, none⟩ = some m /\ w.cell? ⟨b, o + k * 5 + 3, none⟩ = some (.int .i64 (l.getD k AL).target) /\ w.cell? ⟨b, o + k * 5 + 4, none⟩ = some (.int .i64 (l.getD k AL).origin) /\ A7 w D (.agg #[y]) (l.getD k AL).yes /\ A7 w D (.agg #[m]) (l.getD k AL).no := by
 obtain ⟨xs, ⟨hl, A', c', h1, _, _, h2⟩, h3⟩ := h
 injection h1 with h1
 subst h1
 obtain ⟨b, o, rfl, hD, hb, hc⟩ := h2 (by omega)
 have e : l[k]? = some (l.getD k AL) := by rw [List.getD_eq_getElem?_getD, List.getElem?_eq_getElem hk]; rfl
 obtain ⟨y, m, q0, q1, q2, q3, q4, q5, q6⟩ := h3 k _ e
 exact ⟨b, o, y, m, rfl, hD, hb, hc _ _ q0, hc _ _ q1, hc _ _ q2, hc _ _ q3, hc _ _ q4, q5, q6⟩
theorem EO {w : World} {g i : Nat} {a b c d e : Value} (h0 : w.cell? ⟨g, i, none⟩ = some a) (h1 : w.cell? ⟨g, i + 1, none⟩ = some b) (h2 : w.cell? ⟨g, i + 2, none⟩ = some c) (h3 : w.cell? ⟨g, i + 3, none⟩ = some d) (h4 : w.cell? ⟨g, i + 4, none⟩ = some e) : w.rangeAt g i [a, b, c, d, e] := fun j v hj => by
 match j, hj with
 | 0, hj => obtain rfl := Option.some.inj (show some _ = some v from hj); exact h0
 | 1, hj => obtain rfl := Option.some.inj (show some _ = some v from hj); exact h1
 | 2, hj => obtain rfl := Option.some.inj (show some _ = some v from hj); exact h2
 | 3, hj => obtain rfl := Option.some.inj (show some _ = some v from hj); exact h3
 | 4, hj => obtain rfl := Option.some.inj (show some _ = some v from hj); exact h4
 | j + 5, hj => simp at hj
theorem idxr_any {w0 w : World} {F : List Aj} {K : (Nat -> Prop) -> World -> Prop} (v : Value) (l : List (AP)) (f : FuncId) (first caps : Array Value) (q : AP -> Bool) (hcg : BX Tryz.prog f = true) (hS : St w0 w F K) (kl : ∀ D w, K D w -> Bm w D v l)
  (hq : ∀ (x : Value) (z : AP) (w : World), z ∈ l -> (∃ F', St w0 w (F' ++ F) fun D w => K D w /\ Gk w D x z) -> Calls Tryz.prog f (first.toList ++ [x] ++ caps.toList).toArray w (AO (fun r _ => r = .bool (q z)) w)) :
  Calls Tryz.prog 148 #[v, .func (.func f) first caps] w fun e w' => ∃ k : Int, e = .returned (.int .i64 k) /\ decide (0 <= k) = l.any q /\ St w0 w' F K := by
 obtain ⟨A, c, rfl, _, hc2⟩ := (kl _ _ hS.ro).shape
 have KS := Lib.hid hS.stable
 have HQ := Lib.hid hq
 clear hq
 have HCG := Lib.hid hcg
 clear hcg
 go_enter Tryz.func148, Tryz.ntmps148
 go_wp2_with (first | ((with_reducible refine qB ?_); refine qc ?_ ?_ <;> intro h_ <;> go_prune))
 go_loopw [8] (fun i wr => ∃ k : Nat, k <= l.length /\ i = .int .i64 (k : Nat) /\ St w0 wr F K /\ Hid (∀ z ∈ l.take k, q z = false)) (fun i _ => l.length - (intOf i).toNat)
 case atStart => exact ⟨0, by omega, rfl, hS, Lib.hid (by simp)⟩
 case round =>
  clear hS
  obtain ⟨k, hk, rfl, hS, HZ⟩ := hrel
  by_cases hlt : k < l.length
  ·obtain ⟨b, o, y, n, rfl, _, hb, c0, c1, c2, c3, c4, hy, hn⟩ := (kl _ _ hS.ro).at_ hlt
   obtain ⟨Ay, my, cy, rfl⟩ := hy.shape
   obtain ⟨An, mn, cn, rfl⟩ := hn.shape
   have HM : Hid (l.getD k AL ∈ l) := Lib.hid (by rw [List.getD_eq_getElem?_getD, List.getElem?_eq_getElem hlt]; exact List.getElem_mem hlt)
   have HZ2 : Hid (q (l.getD k AL) = false -> ∀ z ∈ l.take (k + 1), q z = false) := Lib.hid fun h z hz => by
    rw [List.take_add_one, List.mem_append] at hz
    rcases hz with hz | hz
    ·exact HZ.out z hz
    ·rw [List.getElem?_eq_getElem hlt] at hz
     rw [List.getD_eq_getElem?_getD, List.getElem?_eq_getElem hlt] at h
     have : z = l[k] := by simpa using hz
     rw [this]; exact h
   have HY : Hid (q (l.getD k AL) = true -> true = l.any q) := Lib.hid fun h => (List.any_eq_true.2 ⟨_, HM.out, h⟩).symm
   replace hS := hS.add (D := Da F) (Ig (v := .agg #[.bool (l.getD k AL).revoke, .slice Ay my cy, .slice An mn cn, .int .i64 (l.getD k AL).target, .int .i64 (l.getD k AL).origin]) (z := l.getD k AL)) ⟨_, _, rfl, hy, hn⟩ fun _ h _ => h
   clear hy hn
   generalize l.getD k AL = z at *
   have HK := Lib.hid (HQ.out (.agg #[.bool z.revoke, .slice Ay my cy, .slice An mn cn, .int .i64 z.target, .int .i64 z.origin]) z wr HM.out ⟨[], hS⟩)
   obtain ⟨args, hargs⟩ : ∃ args, args = first.toList ++ [Value.agg #[.bool z.revoke, .slice Ay my cy, .slice An mn cn, .int .i64 z.target, .int .i64 z.origin]] ++ caps.toList := ⟨_, rfl⟩
   rw [<- hargs] at HK
   have HARG := Lib.hid hargs
   clear hargs
   go_wp2_with (first
    | ((with_reducible refine qA 15 ?_); refine BigFrame.wpList_want rfl fun _ hK => AQ (cs := [.bool z.revoke, .slice Ay my cy, .slice An mn cn, .int .i64 z.target, .int .i64 z.origin]) rfl rfl (EO c0 c1 c2 c3 c4) Tryz.underlying83 rfl (by kernel_rfl) (hK _ _ ?_))
    | ((with_reducible refine qA 16 ?_); refine BigFrame.wpList_want rfl fun _ hK => BV (vs := args) rfl rfl HCG.out (by simp [Act.eval, Act.put, HARG.out]) HK.out fun e w' ⟨u_, he_, hu_, hb_⟩ => ⟨u_, he_, hK _ _ ?_⟩))
   ·go_ret
    exact ⟨_, rfl, (decide_eq_true (by omega)).trans (HY.out (by assumption)), (hS.ext hb_).mono KS.out fun _ _ h => h.1⟩
   ·exact ⟨⟨k + 1, hlt, by go_num, (hS.ext hb_).mono KS.out fun _ _ h => h.1, Lib.hid (HZ2.out (by assumption))⟩, by simp [intOf]; omega⟩
  ·obtain rfl : k = l.length := by omega
   have HN : Hid (false = l.any q) := Lib.hid (by
    have h := HZ.out
    rw [List.take_length] at h
    exact (List.any_eq_false.2 fun z hz => by rw [h z hz]; simp).symm)
   go_wp2_with (first | ((with_reducible refine qB ?_); refine qc ?_ ?_ <;> intro h_ <;> go_prune))
   go_ret
   exact ⟨_, rfl, (decide_eq_false (by omega)).trans HN.out, hS⟩
theorem anyr_any {w0 w : World} {F : List Aj} {K : (Nat -> Prop) -> World -> Prop} (v : Value) (l : List (AP)) (f : FuncId) (first caps : Array Value) (q : AP -> Bool) (hcg : BX Tryz.prog f = true) (hS : St w0 w F K) (kl : ∀ D w, K D w -> Bm w D v l)
  (hq : ∀ (x : Value) (z : AP) (w : World), z ∈ l -> (∃ F', St w0 w (F' ++ F) fun D w => K D w /\ Gk w D x z) -> Calls Tryz.prog f (first.toList ++ [x] ++ caps.toList).toArray w (AO (fun r _ => r = .bool (q z)) w)) :
  Calls Tryz.prog 118 #[v, .func (.func f) first caps] w fun e w' => e = .returned (.bool (l.any q)) /\ St w0 w' F K := by
 have HI := Lib.hid (idxr_any v l f first caps q hcg hS kl hq)
 clear hcg hS kl hq
 go_enter Tryz.func118, Tryz.ntmps118
 go_wp2_with fail
 refine HI.out.mono ?_
 rintro e w1 ⟨k, rfl, hk, hS⟩
 have HK := Lib.hid hk
 clear hk
 go_wp2_with (first | ((with_reducible refine qA 8 ?_); refine BigFrame.wpList_want rfl fun _ hK => AU (vx := .int .i64 k) (vy := .int .i64 0) (v := .bool (l.any q)) rfl rfl rfl rfl (run_geB ((decide_eq_decide.2 (by omega)).trans HK.out)) (hK _ _ ?_)))
 go_ret
 exact ⟨rfl, hS⟩
theorem idxp_any {w0 w : World} {F : List Aj} {K : (Nat -> Prop) -> World -> Prop} (v : Value) (l : List (Nat × Nat)) (f : FuncId) (first caps : Array Value) (q : Nat × Nat -> Bool) (hcg : BX Tryz.prog f = true) (hS : St w0 w F K) (kl : ∀ D w, K D w -> Sl w D 2 v l.length (Af l))
  (hq : ∀ (x : Value) (z : Nat × Nat) (w : World), z ∈ l -> St w0 w F K -> x = .agg #[.int .i64 (z.1 : Nat), .int .i64 (z.2 : Nat)] -> Calls Tryz.prog f (first.toList ++ [x] ++ caps.toList).toArray w (AO (fun r _ => r = .bool (q z)) w)) :
  Calls Tryz.prog 158 #[v, .func (.func f) first caps] w fun e w' => ∃ k : Int, e = .returned (.int .i64 k) /\ decide (0 <= k) = l.any q /\ St w0 w' F K := by
 obtain ⟨A, c, rfl, _, hc2⟩ := (kl _ _ hS.ro).shape
 have KS := Lib.hid hS.stable
 have HQ := Lib.hid hq
 clear hq
 have HCG := Lib.hid hcg
 clear hcg
 go_enter Tryz.func158, Tryz.ntmps158
 go_wp2_with (first | ((with_reducible refine qB ?_); refine qc ?_ ?_ <;> intro h_ <;> go_prune))
 go_loopw [8] (fun i wr => ∃ k : Nat, k <= l.length /\ i = .int .i64 (k : Nat) /\ St w0 wr F K /\ Hid (∀ z ∈ l.take k, q z = false)) (fun i _ => l.length - (intOf i).toNat)
 case atStart => exact ⟨0, by omega, rfl, hS, Lib.hid (by simp)⟩
 case round =>
  clear hS
  obtain ⟨k, hk, rfl, hS, HZ⟩ := hrel
  by_cases hlt : k < l.length
  ·obtain ⟨f1, f2⟩ := BC l k hlt
   obtain ⟨b, o, rfl, c0, c1⟩ : ∃ b o, A = some ⟨b, o, none⟩ /\ wr.cell? ⟨b, o + k * 2, none⟩ = some (.int .i64 ((l.getD k (0, 0)).1 : Nat)) /\ wr.cell? ⟨b, o + k * 2 + 1, none⟩ = some (.int .i64 ((l.getD k (0, 0)).2 : Nat)) := by
    obtain ⟨_, A2, c2, e2, _, _, h5⟩ := kl _ _ hS.ro
    obtain ⟨b, o, h6, _, _, h7⟩ := h5 (by omega)
    injection e2 with e2
    exact ⟨b, o, e2.trans h6, h7 _ _ f1, h7 _ _ f2⟩
   clear f1 f2
   have HM : Hid (l.getD k (0, 0) ∈ l) := Lib.hid (by rw [List.getD_eq_getElem?_getD, List.getElem?_eq_getElem hlt]; exact List.getElem_mem hlt)
   have HZ2 : Hid (q (l.getD k (0, 0)) = false -> ∀ z ∈ l.take (k + 1), q z = false) := Lib.hid fun h z hz => by
    rw [List.take_add_one, List.mem_append] at hz
    rcases hz with hz | hz
    ·exact HZ.out z hz
    ·rw [List.getElem?_eq_getElem hlt] at hz
     rw [List.getD_eq_getElem?_getD, List.getElem?_eq_getElem hlt] at h
     have : z = l[k] := by simpa using hz
     rw [this]; exact h
   have HY : Hid (q (l.getD k (0, 0)) = true -> true = l.any q) := Lib.hid fun h => (List.any_eq_true.2 ⟨_, HM.out, h⟩).symm
   generalize l.getD k (0, 0) = z at *
   have HK := Lib.hid (HQ.out (.agg #[.int .i64 (z.1 : Nat), .int .i64 (z.2 : Nat)]) z wr HM.out hS rfl)
   obtain ⟨args, hargs⟩ : ∃ args, args = first.toList ++ [Value.agg #[.int .i64 (z.1 : Nat), .int .i64 (z.2 : Nat)]] ++ caps.toList := ⟨_, rfl⟩
   rw [<- hargs] at HK
   have HARG := Lib.hid hargs
   clear hargs
   go_wp2_with (first
    | ((with_reducible refine qA 15 ?_); refine BigFrame.wpList_want rfl fun _ hK => AQ (cs := [.int .i64 (z.1 : Nat), .int .i64 (z.2 : Nat)]) rfl rfl (Jd c0 c1) Tryz.underlying159 rfl (by kernel_rfl) (hK _ _ ?_))
    | ((with_reducible refine qA 16 ?_); refine BigFrame.wpList_want rfl fun _ hK => BV (vs := args) rfl rfl HCG.out (by simp [Act.eval, Act.put, HARG.out]) HK.out fun e w' ⟨u_, he_, hu_, hb_⟩ => ⟨u_, he_, hK _ _ ?_⟩))
   ·go_ret
    exact ⟨_, rfl, (decide_eq_true (by omega)).trans (HY.out (by assumption)), hS.ext hb_⟩
   ·exact ⟨⟨k + 1, hlt, by go_num, hS.ext hb_, Lib.hid (HZ2.out (by assumption))⟩, by simp [intOf]; omega⟩
  ·obtain rfl : k = l.length := by omega
   have HN : Hid (false = l.any q) := Lib.hid (by
    have h := HZ.out
    rw [List.take_length] at h
    exact (List.any_eq_false.2 fun z hz => by rw [h z hz]; simp).symm)
   go_wp2_with (first | ((with_reducible refine qB ?_); refine qc ?_ ?_ <;> intro h_ <;> go_prune))
   go_ret
   exact ⟨_, rfl, (decide_eq_false (by omega)).trans HN.out, hS⟩
theorem anyp_any {w0 w : World} {F : List Aj} {K : (Nat -> Prop) -> World -> Prop} (v : Value) (l : List (Nat × Nat)) (f : FuncId) (first caps : Array Value) (q : Nat × Nat -> Bool) (hcg : BX Tryz.prog f = true) (hS : St w0 w F K) (kl : ∀ D w, K D w -> Sl w D 2 v l.length (Af l))
  (hq : ∀ (x : Value) (z : Nat × Nat) (w : World), z ∈ l -> St w0 w F K -> x = .agg #[.int .i64 (z.1 : Nat), .int .i64 (z.2 : Nat)] -> Calls Tryz.prog f (first.toList ++ [x] ++ caps.toList).toArray w (AO (fun r _ => r = .bool (q z)) w)) :
  Calls Tryz.prog 144 #[v, .func (.func f) first caps] w fun e w' => e = .returned (.bool (l.any q)) /\ St w0 w' F K := by
 have HI := Lib.hid (idxp_any v l f first caps q hcg hS kl hq)
 clear hcg hS kl hq
 go_enter Tryz.func144, Tryz.ntmps144
 go_wp2_with fail
 refine HI.out.mono ?_
 rintro e w1 ⟨k, rfl, hk, hS⟩
 have HK := Lib.hid hk
 clear hk
 go_wp2_with (first | ((with_reducible refine qA 8 ?_); refine BigFrame.wpList_want rfl fun _ hK => AU (vx := .int .i64 k) (vy := .int .i64 0) (v := .bool (l.any q)) rfl rfl rfl rfl (run_geB ((decide_eq_decide.2 (by omega)).trans HK.out)) (hK _ _ ?_)))
 go_ret
 exact ⟨rfl, hS⟩
end
section
open Go.RowKit
attribute [local go_sem ↓] Go.wp_at_zero Go.wp_at_succ
set_option maxRecDepth 20000
set_option exponentiation.threshold 5000
theorem all1c_any {w0 w : World} {F : List Aj} {K : (Nat -> Prop) -> World -> Prop} {x : Value} {z : Nat × Nat} {g : Nat} {f : FuncId} {first caps : Array Value} {b : Bool} (hcg : BX Tryz.prog f = true) (hS : St w0 w F K) (kb : ∀ D w, K D w -> Cj w D g #[.func (.func f) first caps]) (kx : ∀ D w, K D w -> Bd w D x z)
  (hq : ∀ w, (∃ F', St w0 w (F' ++ F) K) -> Calls Tryz.prog f (first.toList ++ [x] ++ caps.toList).toArray w (AO (fun r _ => r = .bool b) w)) :
  Calls Tryz.prog 147 #[x, .pointer (some ⟨g, 0, none⟩)] w (AO (fun r _ => r = .bool (!b)) w) := by
 obtain ⟨a0, b0, rfl, ha, hb⟩ := kx _ _ hS.ro
 obtain ⟨A, m, c, rfl⟩ := ha.shape
 obtain ⟨B, k, d, rfl⟩ := hb.shape
 obtain ⟨args, hargs⟩ : ∃ args, args = first.toList ++ [Value.agg #[.slice A m c, .slice B k d]] ++ caps.toList := ⟨_, rfl⟩
 rw [<- hargs] at hq
 have HARG := Lib.hid hargs
 have HQ := Lib.hid hq
 have HCG := Lib.hid hcg
 have HB := Lib.hid hS.below
 have hW := Below.refl w.heap.size w
 clear ha hb hargs hq hcg kx
 go_enter Tryz.func147, Tryz.ntmps147
 go_wp2_with (first
  | ((with_reducible refine qA 2 ?_); refine CL rfl _ _ rfl (.agg #[.slice A m c, .slice B k d]) _ rfl rfl ?_; intro w_ hX hb_; replace hS := hS.new hb_ (.box _ _ _) ⟨Nat.le_refl _, hX⟩; replace hW := Ca hW hb_; clear hX hb_; (try simp only [Act.put, Act.eval, zz, Value.cells] at hS))
  | ((with_reducible refine qK ?_); refine qL hS Tryz.underlying81 ?_)
  | ((with_reducible refine qA 4 ?_); refine BigFrame.wpList_want rfl fun _ hK => Ah rfl rfl (by kernel_rfl) ((kb _ _ hS.ro).cell 0 rfl) (hK _ _ ?_))
  | ((with_reducible refine qA 6 ?_); refine BigFrame.wpList_want rfl fun _ hK => BV (vs := args) rfl rfl HCG.out (by simp [Act.eval, Act.put, HARG.out]) (HQ.out _ ⟨[_], hS⟩) fun e w' ⟨u_, he_, hu_, hb_⟩ => ⟨u_, he_, hK _ _ ?_⟩))
 go_ret
 exact AO.mk rfl (Ca hW hb_)
theorem allc_any {w0 w : World} {F : List Aj} {K : (Nat -> Prop) -> World -> Prop} (v : Value) (l : List (Nat × Nat)) (f : FuncId) (first caps : Array Value) (q : Nat × Nat -> Bool) (hcg : BX Tryz.prog f = true) (hS : St w0 w F K) (kl : ∀ D w, K D w -> AH w D v l)
  (hq : ∀ (x : Value) (z : Nat × Nat) (w : World), z ∈ l -> (∃ F', St w0 w (F' ++ F) fun D w => K D w /\ Bd w D x z) -> Calls Tryz.prog f (first.toList ++ [x] ++ caps.toList).toArray w (AO (fun r _ => r = .bool (q z)) w)) :
  Calls Tryz.prog 116 #[v, .func (.func f) first caps] w fun e w' => e = .returned (.bool (l.all q)) /\ St w0 w' F K := by
 have KS := Lib.hid hS.stable
 have HQ := Lib.hid hq
 have HR : Hid ((!l.any fun z => !q z) = l.all q) := Lib.hid (by rw [List.all_eq_not_any_not])
 obtain ⟨R, hR⟩ : ∃ R, R = l.any fun z => !q z := ⟨_, rfl⟩
 rw [<- hR] at HR
 have HRR := Lib.hid hR
 clear hq hR
 go_enter Tryz.func116, Tryz.ntmps116
 go_wp2_with (first
  | (((with_reducible refine qA 3 ?_); refine AE hS rfl _ _ rfl (.func (.func f) first caps) _ rfl rfl ?_; clear hS; intro g3 w_ hS; (try simp only [Act.put, Act.eval, zz, Value.cells] at hS)); replace hS := hS.sealB 0 (by simp) rfl)
  | (go_at_call 54; refine (JH v l 147 #[] #[.pointer (some ⟨g3, 0, none⟩)] (fun z => !q z) (by kernel_rfl) hS (fun D w h => kl D w h.1) fun x z w hz ⟨F1, h⟩ => all1c_any hcg h (fun D w h => h.1.2) (fun D w h => h.2) fun w' ⟨F2, h'⟩ => HQ.out x z w' hz ⟨F2 ++ F1, (by rw [List.append_assoc]; exact h'.mono (KS.out.and Bk) fun D w h => ⟨h.1.1, h.2⟩)⟩).mono ?_; clear hS; rintro e_ w_ ⟨rfl, hS⟩; rw [<- HRR.out]))
 go_ret
 exact ⟨by rw [HR.out]; rfl, hS.mono KS.out fun _ _ h => h.1⟩
theorem all1r_any {w0 w : World} {F : List Aj} {K : (Nat -> Prop) -> World -> Prop} {x : Value} {z : AP} {g : Nat} {f : FuncId} {first caps : Array Value} {b : Bool} (hcg : BX Tryz.prog f = true) (hS : St w0 w F K) (kb : ∀ D w, K D w -> Cj w D g #[.func (.func f) first caps]) (kx : ∀ D w, K D w -> Gk w D x z)
  (hq : ∀ w, (∃ F', St w0 w (F' ++ F) K) -> Calls Tryz.prog f (first.toList ++ [x] ++ caps.toList).toArray w (AO (fun r _ => r = .bool b) w)) :
  Calls Tryz.prog 119 #[x, .pointer (some ⟨g, 0, none⟩)] w (AO (fun r _ => r = .bool (!b)) w) := by
 obtain ⟨a0, b0, rfl, ha, hb⟩ := kx _ _ hS.ro
 obtain ⟨A, m, c, rfl⟩ := ha.shape
 obtain ⟨B, k, d, rfl⟩ := hb.shape
 obtain ⟨args, hargs⟩ : ∃ args, args = first.toList ++ [Value.agg #[.bool z.revoke, .slice A m c, .slice B k d, .int .i64 z.target, .int .i64 z.origin]] ++ caps.toList := ⟨_, rfl⟩
 rw [<- hargs] at hq
 have HARG := Lib.hid hargs
 have HQ := Lib.hid hq
 have HCG := Lib.hid hcg
 have HB := Lib.hid hS.below
 have hW := Below.refl w.heap.size w
 clear ha hb hargs hq hcg kx
 go_enter Tryz.func119, Tryz.ntmps119
 go_wp2_with (first
  | ((with_reducible refine qA 2 ?_); refine CL rfl _ _ rfl (.agg #[.bool z.revoke, .slice A m c, .slice B k d, .int .i64 z.target, .int .i64 z.origin]) _ rfl rfl ?_; intro w_ hX hb_; replace hS := hS.new hb_ (.box _ _ _) ⟨Nat.le_refl _, hX⟩; replace hW := Ca hW hb_; clear hX hb_; (try simp only [Act.put, Act.eval, zz, Value.cells] at hS))
  | ((with_reducible refine qK ?_); refine qL hS Tryz.underlying83 ?_)
  | ((with_reducible refine qA 4 ?_); refine BigFrame.wpList_want rfl fun _ hK => Ah rfl rfl (by kernel_rfl) ((kb _ _ hS.ro).cell 0 rfl) (hK _ _ ?_))
  | ((with_reducible refine qA 6 ?_); refine BigFrame.wpList_want rfl fun _ hK => BV (vs := args) rfl rfl HCG.out (by simp [Act.eval, Act.put, HARG.out]) (HQ.out _ ⟨[_], hS⟩) fun e w' ⟨u_, he_, hu_, hb_⟩ => ⟨u_, he_, hK _ _ ?_⟩))
 go_ret
 exact AO.mk rfl (Ca hW hb_)
theorem allr_any {w0 w : World} {F : List Aj} {K : (Nat -> Prop) -> World -> Prop} (v : Value) (l : List AP) (f : FuncId) (first caps : Array Value) (q : AP -> Bool) (hcg : BX Tryz.prog f = true) (hS : St w0 w F K) (kl : ∀ D w, K D w -> Bm w D v l)
  (hq : ∀ (x : Value) (z : AP) (w : World), z ∈ l -> (∃ F', St w0 w (F' ++ F) fun D w => K D w /\ Gk w D x z) -> Calls Tryz.prog f (first.toList ++ [x] ++ caps.toList).toArray w (AO (fun r _ => r = .bool (q z)) w)) :
  Calls Tryz.prog 79 #[v, .func (.func f) first caps] w fun e w' => e = .returned (.bool (l.all q)) /\ St w0 w' F K := by
 have KS := Lib.hid hS.stable
 have HQ := Lib.hid hq
 have HR : Hid ((!l.any fun z => !q z) = l.all q) := Lib.hid (by rw [List.all_eq_not_any_not])
 obtain ⟨R, hR⟩ : ∃ R, R = l.any fun z => !q z := ⟨_, rfl⟩
 rw [<- hR] at HR
 have HRR := Lib.hid hR
 clear hq hR
 go_enter Tryz.func79, Tryz.ntmps79
 go_wp2_with (first
  | (((with_reducible refine qA 3 ?_); refine AE hS rfl _ _ rfl (.func (.func f) first caps) _ rfl rfl ?_; clear hS; intro g3 w_ hS; (try simp only [Act.put, Act.eval, zz, Value.cells] at hS)); replace hS := hS.sealB 0 (by simp) rfl)
  | (go_at_call 118; refine (anyr_any v l 119 #[] #[.pointer (some ⟨g3, 0, none⟩)] (fun z => !q z) (by kernel_rfl) hS (fun D w h => kl D w h.1) fun x z w hz ⟨F1, h⟩ => all1r_any hcg h (fun D w h => h.1.2) (fun D w h => h.2) fun w' ⟨F2, h'⟩ => HQ.out x z w' hz ⟨F2 ++ F1, (by rw [List.append_assoc]; exact h'.mono (KS.out.and Ig) fun D w h => ⟨h.1.1, h.2⟩)⟩).mono ?_; clear hS; rintro e_ w_ ⟨rfl, hS⟩; rw [<- HRR.out]))
 go_ret
 exact ⟨by rw [HR.out]; rfl, hS.mono KS.out fun _ _ h => h.1⟩
theorem all1p_any {w0 w : World} {F : List Aj} {K : (Nat -> Prop) -> World -> Prop} {x : Value} {z : Nat × Nat} {g : Nat} {f : FuncId} {first caps : Array Value} {b : Bool} (hcg : BX Tryz.prog f = true) (hS : St w0 w F K) (kb : ∀ D w, K D w -> Cj w D g #[.func (.func f) first caps]) (kx : x = .agg #[.int .i64 (z.1 : Nat), .int .i64 (z.2 : Nat)])
  (hq : ∀ w, (∃ F', St w0 w (F' ++ F) K) -> Calls Tryz.prog f (first.toList ++ [x] ++ caps.toList).toArray w (AO (fun r _ => r = .bool b) w)) :
  Calls Tryz.prog 145 #[x, .pointer (some ⟨g, 0, none⟩)] w (AO (fun r _ => r = .bool (!b)) w) := by
 subst kx
 obtain ⟨args, hargs⟩ : ∃ args, args = first.toList ++ [Value.agg #[.int .i64 (z.1 : Nat), .int .i64 (z.2 : Nat)]] ++ caps.toList := ⟨_, rfl⟩
 rw [<- hargs] at hq
 have HARG := Lib.hid hargs
 have HQ := Lib.hid hq
 have HCG := Lib.hid hcg
 have HB := Lib.hid hS.below
 have hW := Below.refl w.heap.size w
 clear hargs hq hcg
 go_enter Tryz.func145, Tryz.ntmps145
 go_wp2_with (first
  | ((with_reducible refine qA 2 ?_); refine CL rfl _ _ rfl (.agg #[.int .i64 (z.1 : Nat), .int .i64 (z.2 : Nat)]) _ rfl rfl ?_; intro w_ hX hb_; replace hS := hS.new hb_ (.box _ _ _) ⟨Nat.le_refl _, hX⟩; replace hW := Ca hW hb_; clear hX hb_; (try simp only [Act.put, Act.eval, zz, Value.cells] at hS))
  | ((with_reducible refine qK ?_); refine qL hS Tryz.underlying159 ?_)
  | ((with_reducible refine qA 4 ?_); refine BigFrame.wpList_want rfl fun _ hK => Ah rfl rfl (by kernel_rfl) ((kb _ _ hS.ro).cell 0 rfl) (hK _ _ ?_))
  | ((with_reducible refine qA 6 ?_); refine BigFrame.wpList_want rfl fun _ hK => BV (vs := args) rfl rfl HCG.out (by simp [Act.eval, Act.put, HARG.out]) (HQ.out _ ⟨[_], hS⟩) fun e w' ⟨u_, he_, hu_, hb_⟩ => ⟨u_, he_, hK _ _ ?_⟩))
 go_ret
 exact AO.mk rfl (Ca hW hb_)
theorem allp_any {w0 w : World} {F : List Aj} {K : (Nat -> Prop) -> World -> Prop} (v : Value) (l : List (Nat × Nat)) (f : FuncId) (first caps : Array Value) (q : Nat × Nat -> Bool) (hcg : BX Tryz.prog f = true) (hS : St w0 w F K) (kl : ∀ D w, K D w -> Sl w D 2 v l.length (Af l))
  (hq : ∀ (x : Value) (z : Nat × Nat) (w : World), z ∈ l -> (∃ F', St w0 w (F' ++ F) K) -> x = .agg #[.int .i64 (z.1 : Nat), .int .i64 (z.2 : Nat)] -> Calls Tryz.prog f (first.toList ++ [x] ++ caps.toList).toArray w (AO (fun r _ => r = .bool (q z)) w)) :
  Calls Tryz.prog 112 #[v, .func (.func f) first caps] w fun e w' => e = .returned (.bool (l.all q)) /\ St w0 w' F K := by
 have KS := Lib.hid hS.stable
 have HQ := Lib.hid hq
 have HR : Hid ((!l.any fun z => !q z) = l.all q) := Lib.hid (by rw [List.all_eq_not_any_not])
 obtain ⟨R, hR⟩ : ∃ R, R = l.any fun z => !q z := ⟨_, rfl⟩
 rw [<- hR] at HR
 have HRR := Lib.hid hR
 clear hq hR
 go_enter Tryz.func112, Tryz.ntmps112
 go_wp2_with (first
  | (((with_reducible refine qA 3 ?_); refine AE hS rfl _ _ rfl (.func (.func f) first caps) _ rfl rfl ?_; clear hS; intro g3 w_ hS; (try simp only [Act.put, Act.eval, zz, Value.cells] at hS)); replace hS := hS.sealB 0 (by simp) rfl)
  | (go_at_call 144; refine (anyp_any v l 145 #[] #[.pointer (some ⟨g3, 0, none⟩)] (fun z => !q z) (by kernel_rfl) hS (fun D w h => kl D w h.1) fun x z w hz h hx => all1p_any hcg h (fun D w h => h.2) hx fun w' ⟨F2, h'⟩ => HQ.out x z w' hz ⟨F2, h'.mono KS.out fun D w h => h.1⟩ hx).mono ?_; clear hS; rintro e_ w_ ⟨rfl, hS⟩; rw [<- HRR.out]))
 go_ret
 exact ⟨by rw [HR.out]; rfl, hS.mono KS.out fun _ _ h => h.1⟩
end
section
open Go.RowKit
attribute [local go_sem ↓] Go.wp_at_zero Go.wp_at_succ
set_option maxRecDepth 20000
set_option exponentiation.threshold 5000
structure Ac where
 roles : Int
 links : Option (List (Nat × Nat))
 start : Nat
 rules : List AP
 never : List (Nat × Nat)
 goal : List (Nat × Nat)
def EH (w : World) (D : Nat -> Prop) (v : Value) : Option (List (Nat × Nat)) -> Prop
 | none => v = .pointer none
 | some L => IsH w D v L
theorem BB {v : Value} {o : Option (List (Nat × Nat))} : AF fun D w => EH w D v o := by
 cases o with
 | none => exact fun _ _ _ _ h _ _ _ => h
 | some L => exact DK
def Ba (w : World) (D : Nat -> Prop) (v : Value) (p : Ac) : Prop :=
 ∃ lp s rv nv gv, v = .agg #[.int .i64 p.roles, lp, s, rv, nv, gv] /\ EH w D lp p.links /\ A7 w D (.agg #[s]) p.start /\ Bm w D rv p.rules /\ AH w D nv p.never /\ AH w D gv p.goal
theorem Dn {v : Value} {p : Ac} : AF fun D w => Ba w D v p := fun D D' w w' h a b c => by
 obtain ⟨lp, s, rv, nv, gv, h1, h2, h3, h4, h5, h6⟩ := h
 exact ⟨lp, s, rv, nv, gv, h1, BB D D' w w' h2 a b c, A5 D D' w w' h3 a b c, B6 D D' w w' h4 a b c, AW D D' w w' h5 a b c, AW D D' w w' h6 a b c⟩
structure Ac.Ok (p : Ac) : Prop where
 rules : p.rules.length <= 100000
 never : p.never.length <= 100000
 goal : p.goal.length <= 100000
 links : ∀ L, p.links = some L -> FI L /\ L.length <= 900000
def Ac.cubes (p : Ac) : List (Nat × Nat) := (p.rules.map fun r => (r.yes, r.no)) ++ p.never ++ p.goal
theorem AB.append {w : World} {D : Nat -> Prop} {xs ys : List Value} {l m : List (Nat × Nat)} (hx : xs.length = l.length * 2) (h : AB w D xs l) (k : AB w D ys m) : AB w D (xs ++ ys) (l ++ m) := fun i y n hi => by
 rcases Nat.lt_or_ge i l.length with h1 | h1
 ·rw [List.getElem?_append_left h1] at hi
  obtain ⟨a, b, q1, q2, q3, q4⟩ := h i y n hi
  exact ⟨a, b, by rw [List.getElem?_append_left (by omega)]; exact q1, by rw [List.getElem?_append_left (by omega)]; exact q2, q3, q4⟩
 ·rw [List.getElem?_append_right h1] at hi
  obtain ⟨a, b, q1, q2, q3, q4⟩ := k _ y n hi
  refine ⟨a, b, ?_, ?_, q3, q4⟩
  ·rw [List.getElem?_append_right (by omega), <- q1]; congr 1; omega
  ·rw [List.getElem?_append_right (by omega), <- q2]; congr 1; omega
theorem AB.one {w : World} {D : Nat -> Prop} {xs : List Value} {l : List (Nat × Nat)} (hl : xs.length = l.length * 2) (h : AB w D xs l) : ∀ u ∈ xs, u.oneCell' = true := fun u hu => by
 obtain ⟨i, hi, rfl⟩ := List.getElem_of_mem hu
 have hk : i / 2 < l.length := by omega
 obtain ⟨a, b, q1, q2, q3, q4⟩ := h (i / 2) l[i / 2].1 l[i / 2].2 (by rw [List.getElem?_eq_getElem hk])
 obtain ⟨A, m, c, e3⟩ := q3.shape
 obtain ⟨B, k, d, e4⟩ := q4.shape
 rcases Nat.mod_two_eq_zero_or_one i with e | e
 ·have : i = i / 2 * 2 := by omega
  rw [<- this, List.getElem?_eq_getElem hi] at q1
  injection q1 with q1
  rw [q1, e3]; rfl
 ·have : i = i / 2 * 2 + 1 := by omega
  rw [<- this, List.getElem?_eq_getElem hi] at q2
  injection q2 with q2
  rw [q2, e4]; rfl
theorem CF {xs : List Value} {l : List (Nat × Nat)} : AF fun D w => AB w D xs l := fun D D' w w' h a b c i y n hi => by
 obtain ⟨x, z, h1, h2, h3, h4⟩ := h i y n hi
 exact ⟨x, z, h1, h2, A5 D D' w w' h3 a b c, A5 D D' w w' h4 a b c⟩
def cbD (xs xn xg : List Value) (n m k : Nat) : AD := ⟨81, 2, 3, fun s => match s with | 0 => n | 1 => n + m | _ => n + m + k, fun s => match s with | 0 => xs | 1 => xs ++ xn | _ => xs ++ xn ++ xg, fun _ v => .own v 81 2 0 []⟩
def cbK : List (Nat × (Bool × Nat)) := [(3, (true, 1)), (6, (true, 2))]
theorem AN_one1 {kd : List (Nat × (Bool × Nat))} (hk : ∀ x ∈ kd, x.2.1 = true -> 1 <= x.2.2) (w : World) (v : Value) (i : Nat) : AN kd i (w, ⟨[v], []⟩) := by
 unfold AN
 split
 ·rename_i s hs
  unfold FU at hs
  obtain ⟨y, hy, e⟩ := Option.map_eq_some_iff.1 hs
  have := hk y (List.mem_of_find?_eq_some hy) (by rw [e])
  rw [e] at this
  exact this
 ·simp
 ·trivial
set_option maxHeartbeats 1000000 in
theorem Jh {w0 w : World} {F : List Aj} {K : (Nat -> Prop) -> World -> Prop} {v : Value} {p : Ac} (hP : p.Ok) (hS : St w0 w F K) (kp : ∀ D w, K D w -> Ba w D v p) :
  Calls Tryz.prog 77 #[v] w fun e w' => ∃ u, e = .returned u /\ St w0 w' F fun D w => K D w /\ AH w D u p.cubes := by
 obtain ⟨R, lk, st, rl, nl, gl⟩ := p
 obtain ⟨lp, s, rv, nv, gv, rfl, -, -, hr, hn, hg⟩ := kp _ _ hS.ro
 dsimp only at hr hn hg
 obtain ⟨hP1, hP2, hP3, -⟩ := hP
 dsimp only at hP1 hP2 hP3
 have KS := Lib.hid hS.stable
 obtain ⟨Ar, cr, rfl, _, _⟩ := hr.shape
 obtain ⟨An, cn, rfl, _, _⟩ := hn.shape
 obtain ⟨Ag, cg, rfl, _, _⟩ := hg.shape
 obtain ⟨xn, hn1, hn2⟩ := hn
 obtain ⟨xg, hg1, hg2⟩ := hg
 obtain ⟨K1, k0, kr, kn, kg, kn2, kg2, hS2⟩ : ∃ K1 : (Nat -> Prop) -> World -> Prop, (∀ D w, K1 D w -> K D w) /\ (∀ D w, K1 D w -> Bm w D (.slice Ar rl.length cr) rl) /\ (∀ D w, K1 D w -> Sl w D 2 (.slice An nl.length cn) nl.length xn) /\ (∀ D w, K1 D w -> Sl w D 2 (.slice Ag gl.length cg) gl.length xg) /\ (∀ D w, K1 D w -> AB w D xn nl) /\ (∀ D w, K1 D w -> AB w D xg gl) /\ St w0 w F K1 :=
  ⟨_, fun _ _ h => h.1, fun _ _ h => h.2.1, fun _ _ h => h.2.2.1.1, fun _ _ h => h.2.2.2.1, fun _ _ h => h.2.2.1.2, fun _ _ h => h.2.2.2.2, hS.add (D := Da F) (B6.and (((At (by decide)).and CF).and ((At (by decide)).and CF))) ⟨hr, ⟨hn1, hn2⟩, hg1, hg2⟩ fun _ h _ => h⟩
 clear hS hr hn1 hn2 hg1 hg2 kp
 have hS := hS2
 clear hS2
 have KS1 := Lib.hid hS.stable
 go_enter Tryz.func77, Tryz.ntmps77
 go_wp2_with (first
  | ((with_reducible refine qA 1 ?_); refine AE hS rfl _ _ rfl (.agg #[.int .i64 R, lp, s, .slice Ar rl.length cr, .slice An nl.length cn, .slice Ag gl.length cg]) _ rfl rfl ?_; clear hS; intro g1 w_ hS; (try simp only [Act.put, Act.eval, zz, Value.cells] at hS))
  | ((with_reducible refine qK ?_); refine qC hS ?_))
 obtain ⟨CS, hCS⟩ : ∃ CS : List (Nat × Nat), CS = rl.map fun r => (r.yes, r.no) := ⟨_, rfl⟩
 have HCS := Lib.hid hCS
 have hlC : CS.length = rl.length := by rw [hCS]; simp
 have HLC := Lib.hid hlC
 clear hCS hlC
 replace hS := hS.nil 81 2
 go_loopw [3, 9] (fun ov i wr => ∃ (j : Nat) (sv : Value) (xs : List Value), i = .int .i64 (j : Nat) /\ sv = ov /\ j <= rl.length /\ St w0 wr (.own sv 81 2 j xs :: .box g1 31 #[.int .i64 R, lp, s, .slice Ar rl.length cr, .slice An nl.length cn, .slice Ag gl.length cg] :: F) fun D w => K1 D w /\ AB w D xs (CS.take j)) (fun _ i _ => rl.length - (intOf i).toNat)
 case atStart => exact ⟨0, _, [], rfl, rfl, by omega, hS.mono (KS1.out.and CF) fun D w h => ⟨h, AB.nil⟩⟩
 case round =>
  clear hS
  obtain ⟨j, sv, xs, rfl, rfl, hj, hS⟩ := hrel
  by_cases hlj : j < rl.length
  ·obtain ⟨b, o, y, n, rfl, _, hb, c0, c1, c2, c3, c4, hy, hn⟩ := (kr _ _ hS.ro.1).at_ hlj
   obtain ⟨Ay, my, cy, rfl⟩ := hy.shape
   obtain ⟨Am, mn, cm, rfl⟩ := hn.shape
   have HT : Hid (CS.take (j + 1) = CS.take j ++ [((rl.getD j AL).yes, (rl.getD j AL).no)]) := Lib.hid (by
    rw [HCS.out, List.take_add_one, List.getElem?_map, List.getElem?_eq_getElem hlj, List.getD_eq_getElem?_getD, List.getElem?_eq_getElem hlj]; rfl)
   have HLT : Hid ((CS.take j).length = j) := Lib.hid (by rw [List.length_take, HLC.out]; omega)
   replace hS := hS.add (D := Da (.own sv 81 2 j xs :: .box g1 31 #[.int .i64 R, lp, s, .slice (some ⟨b, o, none⟩) rl.length cr, .slice An nl.length cn, .slice Ag gl.length cg] :: F)) (A5.and A5) ⟨hy, hn⟩ fun _ h _ => h
   clear hy hn
   generalize rl.getD j AL = z at *
   have hj1 : j <= 100000 := by omega
   go_wp2_with (first
    | ((with_reducible refine qB ?_); refine qc ?_ ?_ <;> intro h_ <;> go_prune)
    | ((with_reducible refine qA 12 ?_); refine BigFrame.wpList_want rfl fun _ hK => AQ (cs := [.bool z.revoke, .slice Ay my cy, .slice Am mn cm, .int .i64 z.target, .int .i64 z.origin]) rfl rfl (EO c0 c1 c2 c3 c4) Tryz.underlying83 rfl (by kernel_rfl) (hK _ _ ?_))
    | ((with_reducible refine qA 5 ?_); refine qa hS #[.bool false, .slice none 0 0, .slice none 0 0, .int .i64 0, .int .i64 0] ?_; clear hS; intro g5 w_ hS)
    | ((with_reducible refine qM ?_); (first | refine qS hS ?_ | refine qT hS ?_); clear hS; intro w_ hS; (try simp only [Act.put, Act.eval, zz, Value.cells] at hS))
    | ((with_reducible refine qk 81 ?_); refine st_cubel hS 0 rfl _ _ rfl _ _ rfl _ _ rfl _ _ rfl rfl Tryz.underlying81 rfl (by kernel_rfl) ?_)
    | ((with_reducible show wpList _ _ _ (⟨_, .buildSlice _ 1 _, _, _, _, _⟩ :: _) _ _); refine Cq hS 1 rfl rfl _ _ _ _ rfl rfl Ed _ _ _ (.agg #[.slice Ay my cy, .slice Am mn cm]) #[.slice Ay my cy, .slice Am mn cm] rfl (by kernel_rfl) rfl rfl rfl rfl (by intro u hu; simp at hu; first | (subst hu; rfl) | (rcases hu with rfl | rfl <;> rfl)) (by omega) (by omega) ?_; clear hS; intro z_ v_ w_ hS; (try simp only [Act.put, Act.eval, zz, Value.cells] at hS)))
   have hcl := (hS.own 1 rfl).1
   refine ⟨⟨j + 1, _, xs ++ [.slice Ay my cy, .slice Am mn cm], by go_num, rfl, hlj, ?_⟩, by simp [intOf]; omega⟩
   rw [HT.out]
   exact (hS.sub (F' := _ :: _ :: F) (List.sublist_cons_self _ _)).mono (KS1.out.and CF) fun D w h => ⟨h.1.1, h.1.2.push (by rw [HLT.out]; simp at hcl; omega) h.2.1 h.2.2⟩
  ·obtain rfl : rl.length = j := by omega
   have hCT : CS.take rl.length = CS := by rw [<- HLC.out, List.take_length]
   rw [hCT] at hS
   clear hCT
   go_wp2_with (first | ((with_reducible refine qB ?_); refine qc ?_ ?_ <;> intro h_ <;> go_prune))
   have hxl := (hS.own 0 rfl).1
   have hA0 : Hq ⟨[sv], []⟩ 0 sv := ⟨[], [], rfl, rfl⟩
   have hJ0 : AJ w0 (.box g1 31 #[.int .i64 R, lp, s, .slice Ar rl.length cr, .slice An nl.length cn, .slice Ag gl.length cg] :: F) (fun D w => K1 D w /\ AB w D xs CS) (cbD xs xn xg rl.length nl.length gl.length) (wr.drew, ⟨[sv], []⟩) := ⟨hS.drew, show 1 <= 3 by decide⟩
   have hN0 := AN_one1 (kd := cbK) (by decide) wr.drew sv
   have hRr := @AR.refl w0 (.box g1 31 #[.int .i64 R, lp, s, .slice Ar rl.length cr, .slice An nl.length cn, .slice Ag gl.length cg] :: F) (fun D w => K1 D w /\ AB w D xs CS) (cbD xs xn xg rl.length nl.length gl.length)
   have hRt := @AR.trans w0 (.box g1 31 #[.int .i64 R, lp, s, .slice Ar rl.length cr, .slice An nl.length cn, .slice Ag gl.length cg] :: F) (fun D w => K1 D w /\ AB w D xs CS) (cbD xs xn xg rl.length nl.length gl.length)
   have ON : Hid (∀ u ∈ xn, u.oneCell' = true) := Lib.hid ((kn2 _ _ hS.ro.1).one (kn _ _ hS.ro.1).1)
   have OG : Hid (∀ u ∈ xg, u.oneCell' = true) := Lib.hid ((kg2 _ _ hS.ro.1).one (kg _ _ hS.ro.1).1)
   have hb0 : Hid (rl.length + nl.length <= 1000000000000 /\ (rl.length + nl.length) * 48 <= 140737488355328 /\ rl.length + nl.length + gl.length <= 1000000000000 /\ (rl.length + nl.length + gl.length) * 48 <= 140737488355328) := Lib.hid (by omega)
   clear hS
   refine FL (AR w0 (.box g1 31 #[.int .i64 R, lp, s, .slice Ar rl.length cr, .slice An nl.length cn, .slice Ag gl.length cg] :: F) (fun D w => K1 D w /\ AB w D xs CS) (cbD xs xn xg rl.length nl.length gl.length)) (AN cbK) (⟨[sv], []⟩) hRr hRt [.i sv, .q g1 4, .i (.slice An nl.length cn), .s (fun v w => Hq w.2 1 v) fun v w w' h hb => h.mono hb.2.1, .q g1 5, .i (.slice Ag gl.length cg), .s (fun v w => Hq w.2 2 v) fun v w w' h hb => h.mono hb.2.1, .s (fun v w => Hq w.2 2 v) fun v w w' h hb => h.mono hb.2.1] ?_ ⟨uM, uF, uC (h := fun w hW hN => ((hW.1 hJ0).1.holds (.box g1 31 #[.int .i64 R, lp, s, .slice Ar rl.length cr, .slice An nl.length cn, .slice Ag gl.length cg]) (List.mem_append_right _ (List.mem_cons_self ..))).2.cell 4), ?_, uF, uC (h := fun w hW hN => ((hW.1 hJ0).1.holds (.box g1 31 #[.int .i64 R, lp, s, .slice Ar rl.length cr, .slice An nl.length cn, .slice Ag gl.length cg]) (List.mem_append_right _ (List.mem_cons_self ..))).2.cell 5), ?_, uA, trivial⟩ ?_
   ·first | assumption | (intro i; (try dsimp only); split <;> first | trivial | assumption | (left; assumption))
   ·refine uG fun b__ w hW hN hE K hK => ?_
    have e19 := hE 19
    have e21 := hE 21
    exact C9 (kd := cbK) (by decide) rfl rfl Ed hN (by rw [e19]; exact hA0.mono hW.2.1) (hW.1 hJ0) (by rw [e21]; exact kn _ _ (hW.1 hJ0).1.ro.1) ON.out rfl rfl (by exact hb0.out.1) (by exact hb0.out.2.1) (show 0 + 1 < 3 by decide) hK
   ·refine uG fun b__ w hW hN hE K hK => ?_
    have e22 := hE 22
    have e24 := hE 24
    exact C9 (kd := cbK) (by decide) rfl rfl Ed hN e22 (hW.1 hJ0) (by rw [e24]; exact kg _ _ (hW.1 hJ0).1.ro.1) OG.out rfl rfl (by exact hb0.out.2.2.1) (by exact hb0.out.2.2.2) (show 1 + 1 < 3 by decide) hK
   ·intro vs wz hW hT
    obtain ⟨e19, e20, e21, e22, e23, e24, e25, e2, -⟩ := hT
    have bx : (fun _ : Nat => True) 0 := trivial
    simp only [AC, Act.put, zz, ze]
    have hJ := (hW.1 hJ0).last e2 rfl
    simp only [cbD] at hJ
    have hS := (hJ.freeze 0 (by decide) rfl).sub (F' := F) (List.sublist_cons_self _ _)
    generalize vs 2 = v2 at *
    generalize wz.1 = wf at *
    clear hW hJ0 hRr hRt hN0 hA0 hJ e2
    go_wp2_with fail
    go_ret
    have e : (Ac.cubes ⟨R, lk, st, rl, nl, gl⟩) = CS ++ nl ++ gl := by rw [HCS.out]; rfl
    have el : (CS ++ nl ++ gl).length = rl.length + nl.length + gl.length := by rw [List.length_append, List.length_append, HLC.out]
    refine ⟨_, rfl, hS.mono (KS.out.and AW) fun D w h => ⟨k0 _ _ h.1.1, ?_⟩⟩
    rw [e]
    refine ⟨_, by rw [el]; exact h.2, AB.append ?_ (AB.append ?_ h.1.2 (kn2 _ _ h.1.1)) (kg2 _ _ h.1.1)⟩
    ·have := (kn _ _ h.1.1).1
     rw [List.length_append, List.length_append, HLC.out]; omega
    ·rw [HLC.out]; exact hxl
end
section
open Go.RowKit
attribute [local go_sem ↓] Go.wp_at_zero Go.wp_at_succ
set_option maxRecDepth 20000
set_option exponentiation.threshold 5000
theorem J9 (q : Addr) (w : World) : (binOp .neq 24 (.pointer (some q)) (.pointer none)).run Tryz.prog w = .ok (.bool true) w := rfl
theorem run_nnil (w : World) : (binOp .neq 24 (.pointer none) (.pointer none)).run Tryz.prog w = .ok (.bool false) w := rfl
noncomputable def goodB (p : Ac) (N : Nat) : Bool := match p.links with
 | none => false
 | some L => !(p.never.any fun z => B9 z (closM L N))
noncomputable def reachB (p : Ac) (N : Nat) : Bool := match p.links with
 | none => false
 | some L => p.goal.any fun z => B9 z (closM L N)
set_option maxHeartbeats 1000000 in
theorem Ju {w0 : World} {D E : Nat -> Prop} {v u : Value} {p : Ac} {N : Nat} (hp : Ba w0 D v p) (hP : p.Ok) (hT : BH w0) (hu : A7 w0 E u N) : Calls Tryz.prog 27 #[v, u] w0 (AO (fun r _ => r = .bool (goodB p N)) w0) := by
 obtain ⟨R, lk, st, rl, nl, gl⟩ := p
 obtain ⟨lp, s, rv, nv, gv, rfl, h1, h2, h3, h4, h5⟩ := hp
 dsimp only at h1 h2 h3 h4 h5
 obtain ⟨Cs, ns, cs, rfl⟩ := h2.shape
 obtain ⟨Ar, cr, rfl, _, _⟩ := h3.shape
 obtain ⟨An, cn, rfl, _, _⟩ := h4.shape
 obtain ⟨Ag, cg, rfl, _, _⟩ := h5.shape
 obtain ⟨C, e, lw, rfl, -⟩ := hu.parts
 obtain ⟨n, hn⟩ : ∃ n, n = lw.length := ⟨_, rfl⟩
 rw [<- hn] at hu ⊢
 clear hn
 obtain ⟨K, kh, ks, kr, kn, kg, kt, ku, hS⟩ : ∃ K : (Nat -> Prop) -> World -> Prop, (∀ D w, K D w -> EH w D lp lk) /\ (∀ D w, K D w -> A7 w D (.agg #[.slice Cs ns cs]) st) /\ (∀ D w, K D w -> Bm w D (.slice Ar rl.length cr) rl) /\ (∀ D w, K D w -> AH w D (.slice An nl.length cn) nl) /\ (∀ D w, K D w -> AH w D (.slice Ag gl.length cg) gl) /\ (∀ D w, K D w -> BH w) /\ (∀ D w, K D w -> A7 w D (.agg #[.slice C n e]) N) /\ St w0 w0 [] K :=
  ⟨fun D w => ((EH w D lp lk /\ A7 w D (.agg #[.slice Cs ns cs]) st) /\ Bm w D (.slice Ar rl.length cr) rl /\ AH w D (.slice An nl.length cn) nl /\ AH w D (.slice Ag gl.length cg) gl) /\ (BH w /\ D 0) /\ A7 w D (.agg #[.slice C n e]) N, fun _ _ h => h.1.1.1, fun _ _ h => h.1.1.2, fun _ _ h => h.1.2.1, fun _ _ h => h.1.2.2.1, fun _ _ h => h.1.2.2.2, fun _ _ h => h.2.1.1, fun _ _ h => h.2.2,
   St.start (D := fun _ => True) (((BB.and A5).and (B6.and (AW.and AW))).and (Cd.and A5)) ⟨⟨⟨BB D _ w0 w0 h1 (Nat.le_refl _) (fun _ _ _ _ h => h) fun _ _ _ _ => trivial, h2.imp fun _ _ _ => trivial⟩, B6 D _ w0 w0 h3 (Nat.le_refl _) (fun _ _ _ _ h => h) fun _ _ _ _ => trivial, h4.imp fun _ _ _ => trivial, h5.imp fun _ _ _ => trivial⟩, ⟨hT, trivial⟩, hu.imp fun _ _ _ => trivial⟩⟩
 clear h1 h2 h3 h4 h5 hu hT
 have HL := Lib.hid hP.links
 clear hP
 cases lk with
 | none =>
  obtain rfl := kh _ _ hS.ro
  go_enter Tryz.func27, Tryz.ntmps27
  go_wp2_with (first
   | ((with_reducible refine qA 2 ?_); refine AE hS rfl _ _ rfl (.agg #[.int .i64 R, .pointer none, .slice Cs ns cs, .slice Ar rl.length cr, .slice An nl.length cn, .slice Ag gl.length cg]) _ rfl rfl ?_; clear hS; intro g2 w_ hS; (try simp only [Act.put, Act.eval, zz, Value.cells] at hS))
   | ((with_reducible refine qA 3 ?_); refine AE hS rfl _ _ rfl (.agg #[.slice C n e]) _ rfl rfl ?_; clear hS; intro g3 w_ hS; (try simp only [Act.put, Act.eval, zz, Value.cells] at hS)))
  refine BF [.q g2 1, .i (.pointer none), .b false, .b false, .t, .t, .t, .t, .t, .t, .t, .t, .b false, .b false] ⟨uF, uC (h := fun w hW hN => (hS.ext hW).shut 1 rfl 1 rfl), uB (h := fun w hW hN => run_nnil _), uM, uW, uW, uW, uW, uW, uW, uW, uW, uP, uA, trivial⟩ ?_
  ·intro vs wz hW hT
   obtain ⟨e5, e6, e7, e8, e17, e4, -⟩ := hT
   simp only [AC, Act.put, zz, ze]
   rw [e4]
   go_wp2_with fail
   go_ret
   exact AO.mk rfl (Ca hS.below hW)
 | some L =>
  have hH := Lib.hid (HL.out L rfl).1
  obtain ⟨q, o, rfl, -⟩ := id (kh _ _ hS.ro)
  obtain ⟨b, hb⟩ : ∃ b, b = nl.any fun z => B9 z (closM L N) := ⟨_, rfl⟩
  have HB := Lib.hid hb
  have HR : Hid (goodB ⟨R, some L, st, rl, nl, gl⟩ N = !b) := Lib.hid (by rw [hb]; rfl)
  clear hb HL
  go_enter Tryz.func27, Tryz.ntmps27
  go_wp2_with (first
   | ((with_reducible refine qA 2 ?_); refine AE hS rfl _ _ rfl (.agg #[.int .i64 R, .pointer (some ⟨q, 0, none⟩), .slice Cs ns cs, .slice Ar rl.length cr, .slice An nl.length cn, .slice Ag gl.length cg]) _ rfl rfl ?_; clear hS; intro g2 w_ hS; (try simp only [Act.put, Act.eval, zz, Value.cells] at hS))
   | ((with_reducible refine qA 3 ?_); refine AE hS rfl _ _ rfl (.agg #[.slice C n e]) _ rfl rfl ?_; clear hS; intro g3 w_ hS; (try simp only [Act.put, Act.eval, zz, Value.cells] at hS)))
  refine BF [.q g2 1, .q q 0, .b true, .b true, .q g2 4, .i (.slice An nl.length cn), .q g2 1, .q q 0, .i (.agg #[.slice C n e]), .s (fun v w => A7 w (fun _ => True) v (closM L N)) fun v w w' h hb => h.ext hb, .i (.bool b), .i (.bool (!b)), .i (.bool (!b)), .i (.bool (!b))] ⟨uF, uC (h := fun w hW hN => (hS.ext hW).shut 1 rfl 1 rfl), uB (h := fun w hW hN => J9 _ _), uM, uF, uC (h := fun w hW hN => (hS.ext hW).shut 1 rfl 4 rfl), uF, uC (h := fun w hW hN => (hS.ext hW).shut 1 rfl 1 rfl), uR (h := fun w hW hN => (hS.ext hW).box 0 rfl), ?_, ?_, uU, uP, uA, trivial⟩ ?_
  ·refine uT fun b__ w hW hE K hK => ?_
   have e12 := hE 12
   have e13 := hE 13
   exact Az rfl (by kernel_rfl) (by simp only [List.map_cons, List.map_nil, e12, e13]) (D3 (kh _ _ (hS.ext hW).ro) (kt _ _ (hS.ext hW).ro) hH.out (ku _ _ (hS.ext hW).ro)) fun v w' h hb => hK v w' (h.imp fun _ _ _ => trivial) hb
  ·refine uT fun b__ w hW hE K hK => ?_
   have e10 := hE 10
   have e14 := hE 14
   exact Az rfl (by kernel_rfl) (by simp only [List.map_cons, List.map_nil, e10]) (some_any (kn _ _ (hS.ext hW).ro) e14) fun v w' h hb => hK v w' (h.trans (by rw [HB.out])) hb
  ·intro vs wz hW hT
   obtain ⟨e5, e6, e7, e8, e9, e10, e11, e12, e13, e14, e15, e16, e17, e4, -⟩ := hT
   have bx : (fun _ : Nat => True) 0 := trivial
   simp only [AC, Act.put, zz, ze]
   rw [e4]
   go_wp2_with fail
   go_ret
   exact AO.mk (by rw [HR.out]; rfl) (Ca hS.below hW)
set_option maxHeartbeats 1000000 in
theorem F7 {w0 : World} {D E : Nat -> Prop} {v u : Value} {p : Ac} {N : Nat} (hp : Ba w0 D v p) (hP : p.Ok) (hT : BH w0) (hu : A7 w0 E u N) : Calls Tryz.prog 19 #[v, u] w0 (AO (fun r _ => r = .bool (reachB p N)) w0) := by
 obtain ⟨R, lk, st, rl, nl, gl⟩ := p
 obtain ⟨lp, s, rv, nv, gv, rfl, h1, h2, h3, h4, h5⟩ := hp
 dsimp only at h1 h2 h3 h4 h5
 obtain ⟨Cs, ns, cs, rfl⟩ := h2.shape
 obtain ⟨Ar, cr, rfl, _, _⟩ := h3.shape
 obtain ⟨An, cn, rfl, _, _⟩ := h4.shape
 obtain ⟨Ag, cg, rfl, _, _⟩ := h5.shape
 obtain ⟨C, e, lw, rfl, -⟩ := hu.parts
 obtain ⟨n, hn⟩ : ∃ n, n = lw.length := ⟨_, rfl⟩
 rw [<- hn] at hu ⊢
 clear hn
 obtain ⟨K, kh, ks, kr, kn, kg, kt, ku, hS⟩ : ∃ K : (Nat -> Prop) -> World -> Prop, (∀ D w, K D w -> EH w D lp lk) /\ (∀ D w, K D w -> A7 w D (.agg #[.slice Cs ns cs]) st) /\ (∀ D w, K D w -> Bm w D (.slice Ar rl.length cr) rl) /\ (∀ D w, K D w -> AH w D (.slice An nl.length cn) nl) /\ (∀ D w, K D w -> AH w D (.slice Ag gl.length cg) gl) /\ (∀ D w, K D w -> BH w) /\ (∀ D w, K D w -> A7 w D (.agg #[.slice C n e]) N) /\ St w0 w0 [] K :=
  ⟨fun D w => ((EH w D lp lk /\ A7 w D (.agg #[.slice Cs ns cs]) st) /\ Bm w D (.slice Ar rl.length cr) rl /\ AH w D (.slice An nl.length cn) nl /\ AH w D (.slice Ag gl.length cg) gl) /\ (BH w /\ D 0) /\ A7 w D (.agg #[.slice C n e]) N, fun _ _ h => h.1.1.1, fun _ _ h => h.1.1.2, fun _ _ h => h.1.2.1, fun _ _ h => h.1.2.2.1, fun _ _ h => h.1.2.2.2, fun _ _ h => h.2.1.1, fun _ _ h => h.2.2,
   St.start (D := fun _ => True) (((BB.and A5).and (B6.and (AW.and AW))).and (Cd.and A5)) ⟨⟨⟨BB D _ w0 w0 h1 (Nat.le_refl _) (fun _ _ _ _ h => h) fun _ _ _ _ => trivial, h2.imp fun _ _ _ => trivial⟩, B6 D _ w0 w0 h3 (Nat.le_refl _) (fun _ _ _ _ h => h) fun _ _ _ _ => trivial, h4.imp fun _ _ _ => trivial, h5.imp fun _ _ _ => trivial⟩, ⟨hT, trivial⟩, hu.imp fun _ _ _ => trivial⟩⟩
 clear h1 h2 h3 h4 h5 hu hT
 have HL := Lib.hid hP.links
 clear hP
 cases lk with
 | none =>
  obtain rfl := kh _ _ hS.ro
  go_enter Tryz.func19, Tryz.ntmps19
  go_wp2_with (first
   | ((with_reducible refine qA 2 ?_); refine AE hS rfl _ _ rfl (.agg #[.int .i64 R, .pointer none, .slice Cs ns cs, .slice Ar rl.length cr, .slice An nl.length cn, .slice Ag gl.length cg]) _ rfl rfl ?_; clear hS; intro g2 w_ hS; (try simp only [Act.put, Act.eval, zz, Value.cells] at hS))
   | ((with_reducible refine qA 3 ?_); refine AE hS rfl _ _ rfl (.agg #[.slice C n e]) _ rfl rfl ?_; clear hS; intro g3 w_ hS; (try simp only [Act.put, Act.eval, zz, Value.cells] at hS)))
  refine BF [.q g2 1, .i (.pointer none), .b false, .b false, .t, .t, .t, .t, .t, .t, .t, .b false, .b false] ⟨uF, uC (h := fun w hW hN => (hS.ext hW).shut 1 rfl 1 rfl), uB (h := fun w hW hN => run_nnil _), uM, uW, uW, uW, uW, uW, uW, uW, uP, uA, trivial⟩ ?_
  ·intro vs wz hW hT
   obtain ⟨e5, e6, e7, e8, e16, e4, -⟩ := hT
   simp only [AC, Act.put, zz, ze]
   rw [e4]
   go_wp2_with fail
   go_ret
   exact AO.mk rfl (Ca hS.below hW)
 | some L =>
  have hH := Lib.hid (HL.out L rfl).1
  obtain ⟨q, o, rfl, -⟩ := id (kh _ _ hS.ro)
  obtain ⟨b, hb⟩ : ∃ b, b = gl.any fun z => B9 z (closM L N) := ⟨_, rfl⟩
  have HB := Lib.hid hb
  have HR : Hid (reachB ⟨R, some L, st, rl, nl, gl⟩ N = b) := Lib.hid (by rw [hb]; rfl)
  clear hb HL
  go_enter Tryz.func19, Tryz.ntmps19
  go_wp2_with (first
   | ((with_reducible refine qA 2 ?_); refine AE hS rfl _ _ rfl (.agg #[.int .i64 R, .pointer (some ⟨q, 0, none⟩), .slice Cs ns cs, .slice Ar rl.length cr, .slice An nl.length cn, .slice Ag gl.length cg]) _ rfl rfl ?_; clear hS; intro g2 w_ hS; (try simp only [Act.put, Act.eval, zz, Value.cells] at hS))
   | ((with_reducible refine qA 3 ?_); refine AE hS rfl _ _ rfl (.agg #[.slice C n e]) _ rfl rfl ?_; clear hS; intro g3 w_ hS; (try simp only [Act.put, Act.eval, zz, Value.cells] at hS)))
  refine BF [.q g2 1, .q q 0, .b true, .b true, .q g2 5, .i (.slice Ag gl.length cg), .q g2 1, .q q 0, .i (.agg #[.slice C n e]), .s (fun v w => A7 w (fun _ => True) v (closM L N)) fun v w w' h hb => h.ext hb, .i (.bool b), .i (.bool b), .i (.bool b)] ⟨uF, uC (h := fun w hW hN => (hS.ext hW).shut 1 rfl 1 rfl), uB (h := fun w hW hN => J9 _ _), uM, uF, uC (h := fun w hW hN => (hS.ext hW).shut 1 rfl 5 rfl), uF, uC (h := fun w hW hN => (hS.ext hW).shut 1 rfl 1 rfl), uR (h := fun w hW hN => (hS.ext hW).box 0 rfl), ?_, ?_, uP, uA, trivial⟩ ?_
  ·refine uT fun b__ w hW hE K hK => ?_
   have e12 := hE 12
   have e13 := hE 13
   exact Az rfl (by kernel_rfl) (by simp only [List.map_cons, List.map_nil, e12, e13]) (D3 (kh _ _ (hS.ext hW).ro) (kt _ _ (hS.ext hW).ro) hH.out (ku _ _ (hS.ext hW).ro)) fun v w' h hb => hK v w' (h.imp fun _ _ _ => trivial) hb
  ·refine uT fun b__ w hW hE K hK => ?_
   have e10 := hE 10
   have e14 := hE 14
   exact Az rfl (by kernel_rfl) (by simp only [List.map_cons, List.map_nil, e10]) (some_any (kg _ _ (hS.ext hW).ro) e14) fun v w' h hb => hK v w' (h.trans (by rw [HB.out])) hb
  ·intro vs wz hW hT
   obtain ⟨e5, e6, e7, e8, e9, e10, e11, e12, e13, e14, e15, e16, e4, -⟩ := hT
   have bx : (fun _ : Nat => True) 0 := trivial
   simp only [AC, Act.put, zz, ze]
   rw [e4]
   go_wp2_with fail
   go_ret
   exact AO.mk (by rw [HR.out]; rfl) (Ca hS.below hW)
end
section
open Go.RowKit
attribute [local go_sem ↓] Go.wp_at_zero Go.wp_at_succ
set_option maxRecDepth 20000
set_option exponentiation.threshold 5000
def revB (z : AP) : Bool := !z.revoke || (z.yes == 0 && z.no == 0)
theorem chk1_any {w : World} {D : Nat -> Prop} {x : Value} {z : AP} (hx : Gk w D x z) : Calls Tryz.prog 74 #[x] w (AO (fun r _ => r = .bool (revB z)) w) := by
 obtain ⟨a, b, rfl, ha, hb⟩ := hx
 obtain ⟨rv, y, n, t, o⟩ := z
 dsimp only at ha hb
 obtain ⟨A, m, c, rfl⟩ := ha.shape
 obtain ⟨B, k, d, rfl⟩ := hb.shape
 obtain ⟨K, ka, kb, hS⟩ : ∃ K : (Nat -> Prop) -> World -> Prop, (∀ D w, K D w -> A7 w D (.agg #[.slice A m c]) y) /\ (∀ D w, K D w -> A7 w D (.agg #[.slice B k d]) n) /\ St w w [] K :=
  ⟨fun D w => A7 w D (.agg #[.slice A m c]) y /\ A7 w D (.agg #[.slice B k d]) n, fun _ _ h => h.1, fun _ _ h => h.2, St.start (D := fun _ => True) (A5.and A5) ⟨ha.imp fun _ _ _ => trivial, hb.imp fun _ _ _ => trivial⟩⟩
 clear ha hb
 obtain ⟨b1, hb1⟩ : ∃ b, b = (y == 0) := ⟨_, rfl⟩
 obtain ⟨b2, hb2⟩ : ∃ b, b = (n == 0) := ⟨_, rfl⟩
 have HR : Hid (revB ⟨rv, y, n, t, o⟩ = (!rv || (b1 && b2))) := Lib.hid (by rw [hb1, hb2]; rfl)
 have HB1 := Lib.hid hb1
 have HB2 := Lib.hid hb2
 clear hb1 hb2
 go_enter Tryz.func74, Tryz.ntmps74
 cases rv <;> cases b1
 all_goals
  go_wp2_with (first
   | ((with_reducible refine qA 1 ?_); refine AE hS rfl _ _ rfl (.agg #[.bool _, .slice A m c, .slice B k d, .int .i64 t, .int .i64 o]) _ rfl rfl ?_; clear hS; intro g1 w_ hS; (try simp only [Act.put, Act.eval, zz, Value.cells] at hS))
   | ((with_reducible refine qk 27 ?_); first | (refine Aa hS 0 rfl _ _ rfl _ _ rfl _ _ rfl _ (by first | rfl | assumption) Tryz.underlying27 rfl (by kernel_rfl) ?_) | (refine Aa hS 1 rfl _ _ rfl _ _ rfl _ _ rfl _ (by first | rfl | assumption) Tryz.underlying27 rfl (by kernel_rfl) ?_) | (refine Aa hS 2 rfl _ _ rfl _ _ rfl _ _ rfl _ (by first | rfl | assumption) Tryz.underlying27 rfl (by kernel_rfl) ?_) | (refine Aa hS 3 rfl _ _ rfl _ _ rfl _ _ rfl _ (by first | rfl | assumption) Tryz.underlying27 rfl (by kernel_rfl) ?_) | (refine Aa hS 4 rfl _ _ rfl _ _ rfl _ _ rfl _ (by first | rfl | assumption) Tryz.underlying27 rfl (by kernel_rfl) ?_) | (refine Aa hS 5 rfl _ _ rfl _ _ rfl _ _ rfl _ (by first | rfl | assumption) Tryz.underlying27 rfl (by kernel_rfl) ?_))
   | ((with_reducible refine qK ?_); refine qC hS ?_)
   | (go_at_call 75; first
      | ((with_reducible show Calls _ _ #[.agg #[.slice A m c]] _ _); refine (FB _ y _ _ (ka _ _ hS.ro)).mono ?_; rw [<- HB1.out]; rintro r_ w_ ⟨_, rfl, rfl, hb_⟩; replace hS := hS.ext hb_; clear hb_)
      | ((with_reducible show Calls _ _ #[.agg #[.slice B k d]] _ _); refine (FB _ n _ _ (kb _ _ hS.ro)).mono ?_; rw [<- HB2.out]; rintro r_ w_ ⟨_, rfl, rfl, hb_⟩; replace hS := hS.ext hb_; clear hb_)))
  go_ret
  exact AO.mk (by rw [HR.out]; rfl) hS.below
theorem kn1_any {w : World} {E : Nat -> Prop} {x sv : Value} {z : Nat × Nat} {N g : Nat} (hx : x = .agg #[.int .i64 (z.1 : Nat), .int .i64 (z.2 : Nat)]) (hb : Cj w E g #[sv]) (hs : A7 w E (.agg #[sv]) N) : Calls Tryz.prog 114 #[x, .pointer (some ⟨g, 0, none⟩)] w (AO (fun r _ => r = .bool (B5 N z.1 && B5 N z.2)) w) := by
 subst hx
 obtain ⟨C, l, e, rfl⟩ := hs.shape
 obtain ⟨K, kb, kc, hS⟩ : ∃ K : (Nat -> Prop) -> World -> Prop, (∀ D w, K D w -> Cj w D g #[.slice C l e]) /\ (∀ D w, K D w -> A7 w D (.agg #[.slice C l e]) N) /\ St w w [] K :=
  ⟨fun D w => Cj w D g #[.slice C l e] /\ A7 w D (.agg #[.slice C l e]) N, fun _ _ h => h.1, fun _ _ h => h.2, St.start (D := fun _ => True) (Be.and A5) ⟨Be E _ w w hb (Nat.le_refl _) (fun _ _ _ _ h => h) fun _ _ _ _ => trivial, hs.imp fun _ _ _ => trivial⟩⟩
 clear hb hs
 obtain ⟨za, zb⟩ := z
 dsimp only
 obtain ⟨b1, hb1⟩ : ∃ b, b = B5 N za := ⟨_, rfl⟩
 rw [<- hb1]
 have HB1 := Lib.hid hb1
 obtain ⟨b2, hb2⟩ : ∃ b, b = B5 N zb := ⟨_, rfl⟩
 rw [<- hb2]
 have HB2 := Lib.hid hb2
 clear hb1 hb2
 go_enter Tryz.func114, Tryz.ntmps114
 cases b1
 ·go_wp2_with (first
   | ((with_reducible refine qA 2 ?_); refine AE hS rfl _ _ rfl (.agg #[.int .i64 (za : Nat), .int .i64 (zb : Nat)]) _ rfl rfl ?_; clear hS; intro g2 w_ hS; (try simp only [Act.put, Act.eval, zz, Value.cells] at hS))
   | ((with_reducible refine qk 27 ?_); refine BigFrame.wpList_want rfl fun _ hK => AQ (cs := [.slice C l e]) rfl rfl (Je ((kb _ _ hS.ro).cell 0 rfl)) Tryz.underlying27 rfl (by kernel_rfl) (hK _ _ ?_))
   | ((with_reducible refine qK ?_); refine qC hS ?_)
   | (go_at_call 63; refine (BP _ N za _ _ (kc _ _ hS.ro)).mono ?_; rw [<- HB1.out]; rintro r_ w_ ⟨_, rfl, rfl, hb_⟩; replace hS := hS.ext hb_; clear hb_))
  go_ret
  exact AO.mk rfl hS.below
 ·go_wp2_with (first
   | ((with_reducible refine qA 2 ?_); refine AE hS rfl _ _ rfl (.agg #[.int .i64 (za : Nat), .int .i64 (zb : Nat)]) _ rfl rfl ?_; clear hS; intro g2 w_ hS; (try simp only [Act.put, Act.eval, zz, Value.cells] at hS))
   | ((with_reducible refine qk 27 ?_); refine BigFrame.wpList_want rfl fun _ hK => AQ (cs := [.slice C l e]) rfl rfl (Je ((kb _ _ hS.ro).cell 0 rfl)) Tryz.underlying27 rfl (by kernel_rfl) (hK _ _ ?_))
   | ((with_reducible refine qK ?_); refine qC hS ?_))
  refine (BP _ N za _ _ (kc _ _ hS.ro)).mono ?_
  rw [<- HB1.out]
  rintro r_ w_ ⟨_, rfl, rfl, hb_⟩
  replace hS := hS.ext hb_
  clear hb_
  go_wp2_with (first
   | ((with_reducible refine qk 27 ?_); refine BigFrame.wpList_want rfl fun _ hK => AQ (cs := [.slice C l e]) rfl rfl (Je ((kb _ _ hS.ro).cell 0 rfl)) Tryz.underlying27 rfl (by kernel_rfl) (hK _ _ ?_))
   | ((with_reducible refine qK ?_); refine qC hS ?_))
  refine (BP _ N zb _ _ (kc _ _ hS.ro)).mono ?_
  rw [<- HB2.out]
  rintro r_ w_ ⟨_, rfl, rfl, hb_⟩
  replace hS := hS.ext hb_
  clear hb_
  go_wp2_with fail
  go_ret
  exact AO.mk rfl hS.below
theorem kn2_any {w : World} {D E : Nat -> Prop} {x sv : Value} {z : AP} {N g : Nat} (hx : Gk w D x z) (hb : Cj w E g #[sv]) (hs : A7 w E (.agg #[sv]) N) : Calls Tryz.prog 115 #[x, .pointer (some ⟨g, 0, none⟩)] w (AO (fun r _ => r = .bool (B5 N z.target)) w) := by
 obtain ⟨a, b, rfl, ha, hb1⟩ := hx
 obtain ⟨C, l, e, rfl⟩ := hs.shape
 obtain ⟨A, m, c, rfl⟩ := ha.shape
 obtain ⟨B, k, d, rfl⟩ := hb1.shape
 clear ha hb1
 obtain ⟨K, kb, kc, hS⟩ : ∃ K : (Nat -> Prop) -> World -> Prop, (∀ D w, K D w -> Cj w D g #[.slice C l e]) /\ (∀ D w, K D w -> A7 w D (.agg #[.slice C l e]) N) /\ St w w [] K :=
  ⟨fun D w => Cj w D g #[.slice C l e] /\ A7 w D (.agg #[.slice C l e]) N, fun _ _ h => h.1, fun _ _ h => h.2, St.start (D := fun _ => True) (Be.and A5) ⟨Be E _ w w hb (Nat.le_refl _) (fun _ _ _ _ h => h) fun _ _ _ _ => trivial, hs.imp fun _ _ _ => trivial⟩⟩
 clear hb hs
 go_enter Tryz.func115, Tryz.ntmps115
 go_wp2_with (first
  | ((with_reducible refine qA 2 ?_); refine AE hS rfl _ _ rfl (.agg #[.bool z.revoke, .slice A m c, .slice B k d, .int .i64 z.target, .int .i64 z.origin]) _ rfl rfl ?_; clear hS; intro g2 w_ hS; (try simp only [Act.put, Act.eval, zz, Value.cells] at hS))
  | ((with_reducible refine qk 27 ?_); refine BigFrame.wpList_want rfl fun _ hK => AQ (cs := [.slice C l e]) rfl rfl (Je ((kb _ _ hS.ro).cell 0 rfl)) Tryz.underlying27 rfl (by kernel_rfl) (hK _ _ ?_))
  | ((with_reducible refine qK ?_); refine qC hS ?_)
  | (go_at_call 63; refine (BP _ N z.target _ _ (kc _ _ hS.ro)).mono ?_; rintro r_ w_ ⟨_, rfl, rfl, hb_⟩; replace hS := hS.ext hb_; clear hb_))
 go_ret
 exact AO.mk rfl hS.below
def Ij (N : Nat) (z : Nat × Nat) : Bool := (z.1 ||| z.2) &&& N == (z.1 ||| z.2)
theorem kn3_any {w : World} {D E : Nat -> Prop} {x sv : Value} {z : Nat × Nat} {N g : Nat} (hx : Bd w D x z) (hb : Cj w E g #[sv]) (hs : A7 w E (.agg #[sv]) N) : Calls Tryz.prog 117 #[x, .pointer (some ⟨g, 0, none⟩)] w (AO (fun r _ => r = .bool (Ij N z)) w) := by
 obtain ⟨a, b, rfl, ha, hb1⟩ := hx
 obtain ⟨y, n⟩ := z
 dsimp only at ha hb1
 obtain ⟨A, m, c, rfl⟩ := ha.shape
 obtain ⟨B, k, d, rfl⟩ := hb1.shape
 obtain ⟨C, l, e, rfl⟩ := hs.shape
 obtain ⟨K, ka, kn, kb, kc, hS⟩ : ∃ K : (Nat -> Prop) -> World -> Prop, (∀ D w, K D w -> A7 w D (.agg #[.slice A m c]) y) /\ (∀ D w, K D w -> A7 w D (.agg #[.slice B k d]) n) /\ (∀ D w, K D w -> Cj w D g #[.slice C l e]) /\ (∀ D w, K D w -> A7 w D (.agg #[.slice C l e]) N) /\ St w w [] K :=
  ⟨fun D w => (A7 w D (.agg #[.slice A m c]) y /\ A7 w D (.agg #[.slice B k d]) n) /\ Cj w D g #[.slice C l e] /\ A7 w D (.agg #[.slice C l e]) N, fun _ _ h => h.1.1, fun _ _ h => h.1.2, fun _ _ h => h.2.1, fun _ _ h => h.2.2, St.start (D := fun _ => True) ((A5.and A5).and (Be.and A5)) ⟨⟨ha.imp fun _ _ _ => trivial, hb1.imp fun _ _ _ => trivial⟩, Be E _ w w hb (Nat.le_refl _) (fun _ _ _ _ h => h) fun _ _ _ _ => trivial, hs.imp fun _ _ _ => trivial⟩⟩
 clear ha hb1 hb hs
 have HR := Lib.hid (show Ij N (y, n) = ((y ||| n) &&& N == (y ||| n)) from rfl)
 generalize Ij N (y, n) = R at *
 go_enter Tryz.func117, Tryz.ntmps117
 go_wp2_with (first
  | ((with_reducible refine qA 2 ?_); refine AE hS rfl _ _ rfl (.agg #[.slice A m c, .slice B k d]) _ rfl rfl ?_; clear hS; intro g2 w_ hS; (try simp only [Act.put, Act.eval, zz, Value.cells] at hS)))
 refine BF [.q g2 0, .i (.agg #[.slice A m c]), .q g2 1, .i (.agg #[.slice B k d]), .s (fun v w => A7 w (fun _ => True) v (y ||| n)) fun v w w' h hb => h.ext hb, .i (.agg #[.slice C l e]), .i (.bool R), .i (.bool R)] ⟨uF, ?_, uF, ?_, ?_, uD (h := fun w hW hN => Je ((kb _ _ (hS.ext hW).ro).cell 0 rfl)), ?_, uA, trivial⟩ ?_
 ·refine uT fun b__ w hW hE K hK => ?_
  have e4 := hE 4
  exact Ds rfl e4 ((hS.ext hW).box 0 rfl) rfl Tryz.underlying27 (by kernel_rfl) (by kernel_rfl) (hK _ _ rfl (Below.refl _ _))
 ·refine uT fun b__ w hW hE K hK => ?_
  have e6 := hE 6
  exact Ds rfl e6 ((hS.ext hW).box 0 rfl) rfl Tryz.underlying27 (by kernel_rfl) (by kernel_rfl) (hK _ _ rfl (Below.refl _ _))
 ·refine uT fun b__ w hW hE K hK => ?_
  have e5 := hE 5
  have e7 := hE 7
  exact Az rfl (by kernel_rfl) (by simp only [List.map_cons, List.map_nil, e5, e7]) (Fa _ _ _ _ _ _ _ (ka _ _ (hS.ext hW).ro) (kn _ _ (hS.ext hW).ro)) fun v w' h hb => hK v w' (h.imp fun _ _ _ => trivial) hb
 ·refine uT fun b__ w hW hE K hK => ?_
  have e8 := hE 8
  have e9 := hE 9
  exact Az rfl (by kernel_rfl) (by simp only [List.map_cons, List.map_nil, e9]) (CP _ _ _ _ _ _ _ e8 (kc _ _ (hS.ext hW).ro)) fun v w' h hb => hK v w' (h.trans (by rw [HR.out])) hb
 ·intro vs wz hW hT
  obtain ⟨e4, e5, e6, e7, e8, e9, e10, e3, -⟩ := hT
  have bx : (fun _ : Nat => True) 0 := trivial
  simp only [AC, Act.put, zz, ze]
  rw [e3]
  go_wp2_with fail
  go_ret
  exact AO.mk rfl (Ca hS.below hW)
end
section
open Go.RowKit
attribute [local go_sem ↓] Go.wp_at_zero Go.wp_at_succ
set_option maxRecDepth 20000
set_option exponentiation.threshold 5000
def D7 (r : Nat) : Nat := del (2 ^ (r + 1) - 1) 0
def DN (p : Ac) (L : List (Nat × Nat)) (N : Nat) : Bool :=
 p.start &&& N == p.start && (L.all (fun z => B5 N z.1 && B5 N z.2) && (p.rules.all (fun z => B5 N z.target) && p.cubes.all (Ij N)))
set_option maxHeartbeats 2000000 in
theorem known_any {w0 : World} {D : Nat -> Prop} {v : Value} {p : Ac} {L : List (Nat × Nat)} {r : Nat} (hp : Ba w0 D v p) (hP : p.Ok) (hl : p.links = some L) (hr : p.roles = (r : Int)) (h63 : r <= 63) :
  Calls Tryz.prog 76 #[v] w0 (AO (fun x _ => x = .bool (DN p L (D7 r))) w0) := by
 obtain ⟨N, hN⟩ : ∃ N, N = D7 r := ⟨_, rfl⟩
 rw [<- hN]
 have HN := Lib.hid hN
 clear hN
 obtain ⟨R, lk, st, rl, nl, gl⟩ := p
 dsimp only at hl hr
 subst hl hr
 have HL := Lib.hid (hP.links L rfl).2
 have HP := Lib.hid hP
 clear hP
 obtain ⟨lp, s, rv, nv, gv, rfl, h1, h2, h3, h4, h5⟩ := hp
 dsimp only at h1 h2 h3 h4 h5
 obtain ⟨q, o, rfl, -⟩ := id h1
 obtain ⟨Cs, ns, cs, rfl⟩ := h2.shape
 obtain ⟨Ar, cr, rfl, _, _⟩ := h3.shape
 obtain ⟨An, cn, rfl, _, _⟩ := h4.shape
 obtain ⟨Ag, cg, rfl, _, _⟩ := h5.shape
 obtain ⟨K, kp, kh, ks, kr, hS⟩ : ∃ K : (Nat -> Prop) -> World -> Prop, (∀ D w, K D w -> Ba w D (.agg #[.int .i64 (r : Nat), .pointer (some ⟨q, 0, none⟩), .slice Cs ns cs, .slice Ar rl.length cr, .slice An nl.length cn, .slice Ag gl.length cg]) ⟨(r : Int), some L, st, rl, nl, gl⟩) /\ (∀ D w, K D w -> IsH w D (.pointer (some ⟨q, 0, none⟩)) L) /\ (∀ D w, K D w -> A7 w D (.agg #[.slice Cs ns cs]) st) /\ (∀ D w, K D w -> Bm w D (.slice Ar rl.length cr) rl) /\ St w0 w0 [] K :=
  ⟨fun D w => ((EH w D (.pointer (some ⟨q, 0, none⟩)) (some L) /\ A7 w D (.agg #[.slice Cs ns cs]) st) /\ Bm w D (.slice Ar rl.length cr) rl /\ AH w D (.slice An nl.length cn) nl /\ AH w D (.slice Ag gl.length cg) gl), fun _ _ h => ⟨_, _, _, _, _, rfl, h.1.1, h.1.2, h.2.1, h.2.2.1, h.2.2.2⟩, fun _ _ h => h.1.1, fun _ _ h => h.1.2, fun _ _ h => h.2.1,
   St.start (D := fun _ => True) ((BB.and A5).and (B6.and (AW.and AW))) ⟨⟨BB D _ w0 w0 h1 (Nat.le_refl _) (fun _ _ _ _ h => h) fun _ _ _ _ => trivial, h2.imp fun _ _ _ => trivial⟩, B6 D _ w0 w0 h3 (Nat.le_refl _) (fun _ _ _ _ h => h) fun _ _ _ _ => trivial, h4.imp fun _ _ _ => trivial, h5.imp fun _ _ _ => trivial⟩⟩
 clear h1 h2 h3 h4 h5
 obtain ⟨b1, hb1⟩ : ∃ b, b = (st &&& N == st) := ⟨_, rfl⟩
 obtain ⟨b2, hb2⟩ : ∃ b, b = L.all (fun z => B5 N z.1 && B5 N z.2) := ⟨_, rfl⟩
 obtain ⟨b3, hb3⟩ : ∃ b, b = rl.all (fun z => B5 N z.target) := ⟨_, rfl⟩
 obtain ⟨b4, hb4⟩ : ∃ b, b = (Ac.cubes ⟨(r : Int), some L, st, rl, nl, gl⟩).all (Ij N) := ⟨_, rfl⟩
 have HR : Hid (DN ⟨(r : Int), some L, st, rl, nl, gl⟩ L N = (b1 && (b2 && (b3 && b4)))) := Lib.hid (by rw [hb1, hb2, hb3, hb4]; rfl)
 have HB1 := Lib.hid hb1
 have HB2 := Lib.hid hb2
 have HB3 := Lib.hid hb3
 have HB4 := Lib.hid hb4
 clear hb1 hb2 hb3 hb4
 obtain ⟨m, hm⟩ : ∃ m, m = r + 1 := ⟨_, rfl⟩
 have hm1 : ((r : Int) + 1) = (m : Int) := by omega
 have hm2 : m <= 4096 := by omega
 have HM : Hid (del (2 ^ m - 1) 0 = N) := Lib.hid (by rw [HN.out, hm]; rfl)
 clear hm
 go_enter Tryz.func76, Tryz.ntmps76
 go_wp2_with (first
  | ((with_reducible refine qA 1 ?_); refine AE hS rfl _ _ rfl (.agg #[.int .i64 (r : Nat), .pointer (some ⟨q, 0, none⟩), .slice Cs ns cs, .slice Ar rl.length cr, .slice An nl.length cn, .slice Ag gl.length cg]) _ rfl rfl ?_; clear hS; intro g1 w_ hS; (try simp only [Act.put, Act.eval, zz, Value.cells] at hS))
  | ((with_reducible refine qK ?_); refine qC hS ?_)
  | (go_at_call 111; refine (below_any m _ hm2).mono ?_; rintro r_ w_ ⟨v1, rfl, h1, hb_⟩; replace hS := hS.ret hb_ A5 h1; clear h1 hb_; obtain ⟨B1, c1, w1, rfl, -⟩ := hS.ro.2.parts)
  | (go_at_call 65; refine (ES _ _ 0 _ _ hS.ro.2).mono ?_; rw [HM.out]; rintro r_ w_ ⟨v2, rfl, h1, hb_⟩; replace hS := hS.ret2 hb_ A5 h1; clear h1 hb_; obtain ⟨B2, c2, w2, rfl, -⟩ := hS.ro.2.parts; obtain ⟨n2, hn2⟩ : ∃ n, n = w2.length := ⟨_, rfl⟩; rw [<- hn2] at hS ⊢; clear hn2)
  | ((with_reducible refine qA 3 ?_); refine qa hS #[.slice none 0 0] ?_; clear hS; intro g3 w_ hS)
  | (((with_reducible refine qM ?_); (first | refine qS hS ?_ | refine qT hS ?_); clear hS; intro w_ hS; (try simp only [Act.put, Act.eval, zz, Value.cells] at hS)); replace hS := hS.sealB 0 (by simp) rfl)
  | ((with_reducible refine qk 27 ?_); first | (refine Aa hS 0 rfl _ _ rfl _ _ rfl _ _ rfl _ (by first | rfl | assumption) Tryz.underlying27 rfl (by kernel_rfl) ?_) | (refine Aa hS 1 rfl _ _ rfl _ _ rfl _ _ rfl _ (by first | rfl | assumption) Tryz.underlying27 rfl (by kernel_rfl) ?_) | (refine Aa hS 2 rfl _ _ rfl _ _ rfl _ _ rfl _ (by first | rfl | assumption) Tryz.underlying27 rfl (by kernel_rfl) ?_) | (refine Aa hS 3 rfl _ _ rfl _ _ rfl _ _ rfl _ (by first | rfl | assumption) Tryz.underlying27 rfl (by kernel_rfl) ?_) | (refine Aa hS 4 rfl _ _ rfl _ _ rfl _ _ rfl _ (by first | rfl | assumption) Tryz.underlying27 rfl (by kernel_rfl) ?_) | (refine Aa hS 5 rfl _ _ rfl _ _ rfl _ _ rfl _ (by first | rfl | assumption) Tryz.underlying27 rfl (by kernel_rfl) ?_))
  | ((with_reducible refine qA 11 ?_); refine BigFrame.wpList_want rfl fun _ hK => AQ (cs := [.slice B2 n2 c2]) rfl rfl (Je (hS.ro.2.cell 0 rfl)) Tryz.underlying27 rfl (by kernel_rfl) (hK _ _ ?_)))
 obtain ⟨K1, kk, k3, kN, hS2⟩ : ∃ K1 : (Nat -> Prop) -> World -> Prop, (∀ D w, K1 D w -> K D w) /\ (∀ D w, K1 D w -> Cj w D g3 #[.slice B2 n2 c2]) /\ (∀ D w, K1 D w -> A7 w D (.agg #[.slice B2 n2 c2]) N) /\ St w0 w_ [.box g1 31 #[.int .i64 (r : Nat), .pointer (some ⟨q, 0, none⟩), .slice Cs ns cs, .slice Ar rl.length cr, .slice An nl.length cn, .slice Ag gl.length cg]] K1 := ⟨_, fun _ _ h => h.1.1.1, fun _ _ h => h.2, fun _ _ h => h.1.2, hS⟩
 clear hS
 have hS := hS2
 clear hS2
 refine (CP _ _ st N _ _ _ (ks _ _ (kk _ _ hS.ro)) (kN _ _ hS.ro)).mono ?_
 rw [<- HB1.out]
 rintro r_ w5 ⟨_, rfl, rfl, hb_⟩
 replace hS := hS.ext hb_
 clear hb_
 cases b1
 ·go_wp2_with fail
  go_ret
  exact AO.mk (by rw [HR.out]; rfl) hS.below
 go_wp2_with (first
  | ((with_reducible refine qK ?_); refine qC hS ?_)
  | (go_at_call 113; refine (hlinks_any (kh _ _ (kk _ _ hS.ro)) (by have := HL.out; omega)).mono ?_; rintro e w_ ⟨v4, rfl, hs⟩; replace hS := hS.new hs.below (.own v4 159 2 L.length (Af L)) (hs.own 0 rfl); clear hs; replace hS := hS.freeze 0 (by decide) rfl))
 refine (allp_any v4 L 114 #[] #[.pointer (some ⟨g3, 0, none⟩)] (fun z => B5 N z.1 && B5 N z.2) (by kernel_rfl) hS (fun D w h => h.2) fun x z w _ ⟨F', h⟩ hx => kn1_any hx (k3 _ _ h.ro.1) (kN _ _ h.ro.1)).mono ?_
 rw [<- HB2.out]
 clear hS
 rintro r_ w6 ⟨rfl, hS⟩
 cases b2
 ·go_wp2_with fail
  go_ret
  exact AO.mk (by rw [HR.out]; rfl) hS.below
 go_wp2_with (first | ((with_reducible refine qK ?_); refine qC hS ?_))
 refine (allr_any _ rl 115 #[] #[.pointer (some ⟨g3, 0, none⟩)] (fun z => B5 N z.target) (by kernel_rfl) hS (fun D w h => kr D w (kk D w h.1)) fun x z w _ ⟨F', h⟩ => kn2_any h.ro.2 (k3 _ _ h.ro.1.1) (kN _ _ h.ro.1.1)).mono ?_
 rw [<- HB3.out]
 clear hS
 rintro r_ w7 ⟨rfl, hS⟩
 cases b3
 ·go_wp2_with fail
  go_ret
  exact AO.mk (by rw [HR.out]; rfl) hS.below
 go_wp2_with (first
  | ((with_reducible refine qA 27 ?_); refine BigFrame.wpList_want rfl fun _ hK => AZ rfl rfl (hS.box 0 rfl) Tryz.underlying31 rfl (by kernel_rfl) (hK _ _ ?_))
  | (go_at_call 77; refine (Jh HP.out hS (fun D w h => kp D w (kk D w h.1))).mono ?_; clear hS; rintro e w_ ⟨v8, rfl, hS⟩))
 refine (allc_any v8 _ 117 #[] #[.pointer (some ⟨g3, 0, none⟩)] (Ij N) (by kernel_rfl) hS (fun D w h => h.2) fun x z w _ ⟨F', h⟩ => kn3_any h.ro.2 (k3 _ _ h.ro.1.1.1) (kN _ _ h.ro.1.1.1)).mono ?_
 rw [<- HB4.out]
 clear hS
 rintro r_ w9 ⟨rfl, hS⟩
 go_wp2_with fail
 go_ret
 exact AO.mk (by rw [HR.out]; rfl) hS.below
end
section
open Go.RowKit
attribute [local go_sem ↓] Go.wp_at_zero Go.wp_at_succ
set_option maxRecDepth 20000
set_option exponentiation.threshold 5000
noncomputable def checkE (p : Ac) : Int := match p.links with
 | none => 1
 | some L => if p.roles < 1 \/ 63 < p.roles then 1 else if 64 < p.rules.length \/ 2000 < p.never.length \/ 2000 < p.goal.length then 3
  else if DN p L (D7 p.roles.toNat) = false then 4 else if (p.cubes.any fun z => z.1 &&& z.2 != 0) = true \/ p.rules.all revB = false then 6
  else if goodB p p.start = false then 7 else 0
theorem Ba.shape6 {w : World} {D : Nat -> Prop} {v : Value} {p : Ac} (h : Ba w D v p) : ∃ la As ns cs Ar cr An cn Ag cg, v = .agg #[.int .i64 p.roles, .pointer la, .slice As ns cs, .slice Ar p.rules.length cr, .slice An p.never.length cn, .slice Ag p.goal.length cg] := by
 obtain ⟨lp, s, rv, nv, gv, rfl, h1, h2, h3, h4, h5⟩ := h
 obtain ⟨la, rfl⟩ : ∃ la, lp = .pointer la := by
  cases hl : p.links with
  | none => rw [hl] at h1; exact ⟨none, h1⟩
  | some L => rw [hl] at h1; obtain ⟨q, o, rfl, -⟩ := h1; exact ⟨_, rfl⟩
 obtain ⟨Cs, ns, cs, rfl⟩ := h2.shape
 obtain ⟨Ar, cr, rfl, _, _⟩ := h3.shape
 obtain ⟨An, cn, rfl, _, _⟩ := h4.shape
 obtain ⟨Ag, cg, rfl, _, _⟩ := h5.shape
 exact ⟨_, _, _, _, _, _, _, _, _, _, rfl⟩
theorem cempty_any {w : World} {D : Nat -> Prop} {x : Value} {z : Nat × Nat} (hx : Bd w D x z) : Calls Tryz.prog 78 #[x] w (AO (fun u _ => u = .bool (z.1 &&& z.2 != 0)) w) := by
 obtain ⟨a, b, rfl, ha, hb⟩ := hx
 exact JA a b _ _ w D D ha hb
set_option maxHeartbeats 2000000 in
theorem Do {w0 : World} {D : Nat -> Prop} {v : Value} {p : Ac} (hp : Ba w0 D v p) (hP : p.Ok) (hT : BH w0) : Calls Tryz.prog 39 #[v] w0 (AO (fun x _ => x = .int .i64 (checkE p)) w0) := by
 obtain ⟨R, lk, st, rl, nl, gl⟩ := p
 have HP := Lib.hid hP
 obtain ⟨hP1, hP2, hP3, -⟩ := hP
 dsimp only at hP1 hP2 hP3
 obtain ⟨lp, s, rv, nv, gv, rfl, h1, h2, h3, h4, h5⟩ := hp
 dsimp only at h1 h2 h3 h4 h5 ⊢
 obtain ⟨Cs, ns, cs, rfl⟩ := h2.shape
 obtain ⟨Ar, cr, rfl, _, _⟩ := h3.shape
 obtain ⟨An, cn, rfl, _, _⟩ := h4.shape
 obtain ⟨Ag, cg, rfl, _, _⟩ := h5.shape
 obtain ⟨K, kp, kh, ks, kr, kt, hS⟩ : ∃ K : (Nat -> Prop) -> World -> Prop, (∀ D w, K D w -> Ba w D (.agg #[.int .i64 R, lp, .slice Cs ns cs, .slice Ar rl.length cr, .slice An nl.length cn, .slice Ag gl.length cg]) ⟨R, lk, st, rl, nl, gl⟩) /\ (∀ D w, K D w -> EH w D lp lk) /\ (∀ D w, K D w -> A7 w D (.agg #[.slice Cs ns cs]) st) /\ (∀ D w, K D w -> Bm w D (.slice Ar rl.length cr) rl) /\ (∀ D w, K D w -> BH w) /\ St w0 w0 [] K :=
  ⟨fun D w => ((EH w D lp lk /\ A7 w D (.agg #[.slice Cs ns cs]) st) /\ Bm w D (.slice Ar rl.length cr) rl /\ AH w D (.slice An nl.length cn) nl /\ AH w D (.slice Ag gl.length cg) gl) /\ (BH w /\ D 0), fun _ _ h => ⟨_, _, _, _, _, rfl, h.1.1.1, h.1.1.2, h.1.2.1, h.1.2.2.1, h.1.2.2.2⟩, fun _ _ h => h.1.1.1, fun _ _ h => h.1.1.2, fun _ _ h => h.1.2.1, fun _ _ h => h.2.1,
   St.start (D := fun _ => True) (((BB.and A5).and (B6.and (AW.and AW))).and Cd) ⟨⟨⟨BB D _ w0 w0 h1 (Nat.le_refl _) (fun _ _ _ _ h => h) fun _ _ _ _ => trivial, h2.imp fun _ _ _ => trivial⟩, B6 D _ w0 w0 h3 (Nat.le_refl _) (fun _ _ _ _ h => h) fun _ _ _ _ => trivial, h4.imp fun _ _ _ => trivial, h5.imp fun _ _ _ => trivial⟩, hT, trivial⟩⟩
 clear h1 h2 h3 h4 h5 hT
 cases lk with
 | none =>
  obtain rfl := kh _ _ hS.ro
  go_enter Tryz.func39, Tryz.ntmps39
  go_wp2_with (first
   | ((with_reducible refine qA 1 ?_); refine AE hS rfl _ _ rfl (.agg #[.int .i64 R, .pointer none, .slice Cs ns cs, .slice Ar rl.length cr, .slice An nl.length cn, .slice Ag gl.length cg]) _ rfl rfl ?_; clear hS; intro g1 w_ hS; (try simp only [Act.put, Act.eval, zz, Value.cells] at hS))
   | ((with_reducible refine qK ?_); refine qC hS ?_))
  go_ret
  exact AO.mk rfl hS.below
 | some L =>
  obtain ⟨q, o, rfl, -⟩ := id (kh _ _ hS.ro)
  have HE := Lib.hid (show checkE ⟨R, some L, st, rl, nl, gl⟩ = if R < 1 \/ 63 < R then 1 else if 64 < rl.length \/ 2000 < nl.length \/ 2000 < gl.length then 3
   else if DN ⟨R, some L, st, rl, nl, gl⟩ L (D7 R.toNat) = false then 4 else if ((Ac.cubes ⟨R, some L, st, rl, nl, gl⟩).any fun z => z.1 &&& z.2 != 0) = true \/ rl.all revB = false then 6
   else if goodB ⟨R, some L, st, rl, nl, gl⟩ st = false then 7 else 0 from rfl)
  generalize checkE ⟨R, some L, st, rl, nl, gl⟩ = RES at *
  by_cases hR : R < 1 \/ 63 < R
  ·have hE : RES = 1 := by rw [HE.out, if_pos hR]
   subst hE
   by_cases hR1 : R < 1
   all_goals
    go_enter Tryz.func39, Tryz.ntmps39
    go_wp2_with (first
     | ((with_reducible refine qA 1 ?_); refine AE hS rfl _ _ rfl (.agg #[.int .i64 R, .pointer (some ⟨q, 0, none⟩), .slice Cs ns cs, .slice Ar rl.length cr, .slice An nl.length cn, .slice Ag gl.length cg]) _ rfl rfl ?_; clear hS; intro g1 w_ hS; (try simp only [Act.put, Act.eval, zz, Value.cells] at hS))
     | ((with_reducible refine qK ?_); refine qC hS ?_)
     | ((with_reducible refine qB ?_); refine qc ?_ ?_ <;> intro h_ <;> go_prune)
     )
    go_ret
    exact AO.mk rfl hS.below
  obtain ⟨r, rfl⟩ : ∃ r : Nat, R = (r : Int) := ⟨R.toNat, by omega⟩
  have hr63 : 1 <= r /\ r <= 63 := by omega
  replace HE := Lib.hid (HE.out.trans (if_neg hR))
  clear hR
  by_cases hN : 64 < rl.length \/ 2000 < nl.length \/ 2000 < gl.length
  ·have hE : RES = 3 := by rw [HE.out, if_pos hN]
   subst hE
   by_cases hN1 : 64 < rl.length
   all_goals
    by_cases hN2 : 2000 < nl.length
    all_goals
     go_enter Tryz.func39, Tryz.ntmps39
     go_wp2_with (first
      | ((with_reducible refine qA 1 ?_); refine AE hS rfl _ _ rfl (.agg #[.int .i64 (r : Nat), .pointer (some ⟨q, 0, none⟩), .slice Cs ns cs, .slice Ar rl.length cr, .slice An nl.length cn, .slice Ag gl.length cg]) _ rfl rfl ?_; clear hS; intro g1 w_ hS; (try simp only [Act.put, Act.eval, zz, Value.cells] at hS))
      | ((with_reducible refine qK ?_); refine qC hS ?_)
      | ((with_reducible refine qB ?_); refine qc ?_ ?_ <;> intro h_ <;> go_prune)
      )
     go_ret
     exact AO.mk rfl hS.below
  have hN1 : rl.length <= 64 /\ nl.length <= 2000 /\ gl.length <= 2000 := by omega
  obtain ⟨hN1, hN2, hN3⟩ := hN1
  replace HE := Lib.hid (HE.out.trans (if_neg hN))
  clear hN
  go_enter Tryz.func39, Tryz.ntmps39
  go_wp2_with (first
   | ((with_reducible refine qA 1 ?_); refine AE hS rfl _ _ rfl (.agg #[.int .i64 (r : Nat), .pointer (some ⟨q, 0, none⟩), .slice Cs ns cs, .slice Ar rl.length cr, .slice An nl.length cn, .slice Ag gl.length cg]) _ rfl rfl ?_; clear hS; intro g1 w_ hS; (try simp only [Act.put, Act.eval, zz, Value.cells] at hS))
   | ((with_reducible refine qK ?_); refine qC hS ?_)
   | ((with_reducible refine qB ?_); refine qc ?_ ?_ <;> intro h_ <;> go_prune)
   | ((with_reducible refine qK ?_); refine qL hS Tryz.underlying31 ?_))
  refine (known_any (kp _ _ hS.ro) HP.out rfl rfl hr63.2).mono ?_
  rintro e_ w1 ⟨_, rfl, rfl, hb_⟩
  replace hS := hS.ext hb_
  clear hb_
  have e1 : D7 ((r : Int)).toNat = D7 r := by rw [Int.toNat_natCast]
  rw [e1] at HE
  obtain ⟨b1, hb1⟩ : ∃ b, b = DN ⟨(r : Int), some L, st, rl, nl, gl⟩ L (D7 r) := ⟨_, rfl⟩
  rw [<- hb1] at HE ⊢
  clear hb1 e1
  cases b1
  ·have hE : RES = 4 := HE.out.trans (if_pos rfl)
   subst hE
   go_wp2_with fail
   go_ret
   exact AO.mk rfl hS.below
  replace HE := Lib.hid (HE.out.trans (if_neg (by decide)))
  go_wp2_with (first
   | ((with_reducible refine qK ?_); refine qL hS Tryz.underlying31 ?_)
   | (go_at_call 77; refine (Jh HP.out hS kp).mono ?_; clear hS; rintro e w_ ⟨v8, rfl, hS⟩))
  refine (JH v8 _ 78 #[] #[] (fun z => z.1 &&& z.2 != 0) (by kernel_rfl) hS (fun D w h => h.2) fun x z w _ ⟨F', h⟩ => cempty_any h.ro.2).mono ?_
  clear hS
  rintro r_ w2 ⟨rfl, hS⟩
  obtain ⟨b2, hb2⟩ : ∃ b, b = (Ac.cubes ⟨(r : Int), some L, st, rl, nl, gl⟩).any fun z => z.1 &&& z.2 != 0 := ⟨_, rfl⟩
  rw [<- hb2] at HE ⊢
  clear hb2
  cases b2
  rotate_left
  ·have hE : RES = 6 := HE.out.trans (if_pos (.inl rfl))
   subst hE
   go_wp2_with fail
   go_ret
   exact AO.mk rfl hS.below
  go_wp2_with (first | ((with_reducible refine qK ?_); refine qC hS ?_))
  refine (allr_any _ rl 74 #[] #[] revB (by kernel_rfl) hS (fun D w h => kr D w h.1) fun x z w _ ⟨F', h⟩ => chk1_any h.ro.2).mono ?_
  clear hS
  rintro r_ w3 ⟨rfl, hS⟩
  obtain ⟨b3, hb3⟩ : ∃ b, b = rl.all revB := ⟨_, rfl⟩
  rw [<- hb3] at HE ⊢
  clear hb3
  cases b3
  ·have hE : RES = 6 := HE.out.trans (if_pos (.inr rfl))
   subst hE
   go_wp2_with fail
   go_ret
   exact AO.mk rfl hS.below
  replace HE := Lib.hid (HE.out.trans (if_neg (by decide)))
  go_wp2_with (first
   | ((with_reducible refine qK ?_); refine qL hS Tryz.underlying31 ?_)
   | ((with_reducible refine qk 27 ?_); first | (refine Aa hS 0 rfl _ _ rfl _ _ rfl _ _ rfl _ (by first | rfl | assumption) Tryz.underlying27 rfl (by kernel_rfl) ?_) | (refine Aa hS 1 rfl _ _ rfl _ _ rfl _ _ rfl _ (by first | rfl | assumption) Tryz.underlying27 rfl (by kernel_rfl) ?_) | (refine Aa hS 2 rfl _ _ rfl _ _ rfl _ _ rfl _ (by first | rfl | assumption) Tryz.underlying27 rfl (by kernel_rfl) ?_) | (refine Aa hS 3 rfl _ _ rfl _ _ rfl _ _ rfl _ (by first | rfl | assumption) Tryz.underlying27 rfl (by kernel_rfl) ?_) | (refine Aa hS 4 rfl _ _ rfl _ _ rfl _ _ rfl _ (by first | rfl | assumption) Tryz.underlying27 rfl (by kernel_rfl) ?_) | (refine Aa hS 5 rfl _ _ rfl _ _ rfl _ _ rfl _ (by first | rfl | assumption) Tryz.underlying27 rfl (by kernel_rfl) ?_)))
  refine (Ju (kp _ _ hS.ro.1) HP.out (kt _ _ hS.ro.1) (ks _ _ hS.ro.1)).mono ?_
  rintro e_ w4 ⟨_, rfl, rfl, hb_⟩
  replace hS := hS.ext hb_
  clear hb_
  obtain ⟨b4, hb4⟩ : ∃ b, b = goodB ⟨(r : Int), some L, st, rl, nl, gl⟩ st := ⟨_, rfl⟩
  rw [<- hb4] at HE ⊢
  clear hb4
  cases b4
  ·have hE : RES = 7 := HE.out.trans (if_pos rfl)
   subst hE
   go_wp2_with fail
   go_ret
   exact AO.mk rfl hS.below
  have hE : RES = 0 := HE.out.trans (if_neg (by decide))
  subst hE
  go_wp2_with fail
  go_ret
  exact AO.mk rfl hS.below
end
section
open Go.RowKit
attribute [local go_sem ↓] Go.wp_at_zero Go.wp_at_succ
set_option maxRecDepth 20000
set_option exponentiation.threshold 5000
noncomputable def senQ (L : List (Nat × Nat)) (r : Int) : Nat := if 1 <= r /\ r <= 63 then senM L r.toNat else 0
noncomputable def depP (L : List (Nat × Nat)) (pre : List Int) : Nat := pre.foldl (fun m x => m ||| senQ L x) 0
theorem depP_snoc (L : List (Nat × Nat)) (pre : List Int) (x : Int) : depP L (pre ++ [x]) = depP L pre ||| senQ L x := by
 unfold depP; rw [List.foldl_append]; rfl
noncomputable def depM (L : List (Nat × Nat)) (N : Nat) : Nat := maskOf 64 fun i => ∃ r, 1 <= r /\ r < 64 /\ N.testBit r = true /\ (senM L r).testBit i = true
theorem tb_dep {L : List (Nat × Nat)} (hL : EI 64 L) {N i : Nat} : (depM L N).testBit i = true ↔ ∃ r, 1 <= r /\ r < 64 /\ N.testBit r = true /\ (senM L r).testBit i = true := by
 rw [depM, Bo]
 refine ⟨fun h => h.2, fun h => ⟨?_, h⟩⟩
 obtain ⟨r, h1, h2, h3, h4⟩ := h
 rcases (Hx hL).1 h4 with rfl | h
 ·exact h2
 ·exact (h.lt hL).1
theorem depP_full {L : List (Nat × Nat)} (hL : EI 64 L) {ws : List Nat} (hw : Bb ws) : depP L (CH ws) = depM L (Bp ws) := B3 fun i => by
 unfold depP
 rw [Hz, tb_dep hL, Nat.zero_testBit]
 constructor
 ·rintro (h | ⟨x, h1, h2⟩)
  ·cases h
  ·obtain ⟨k, rfl⟩ := Jn h1
   have h3 := (Ek hw).1 h1
   unfold senQ at h2
   split at h2
   ·rename_i h4
    exact ⟨k, by omega, by omega, h3, by simpa using h2⟩
   ·rw [Nat.zero_testBit] at h2; cases h2
 ·rintro ⟨r, h1, h2, h3, h4⟩
  refine .inr ⟨(r : Int), (Ek hw).2 h3, ?_⟩
  rw [senQ, if_pos (by omega), Int.toNat_natCast]
  exact h4
set_option maxHeartbeats 2000000 in
theorem Dw {w0 : World} {D E : Nat -> Prop} {v u : Value} {p : Ac} {L : List (Nat × Nat)} {z : Nat × Nat} (hp : Ba w0 D v p) (hl : p.links = some L) (hH : FI L) (hT : BH w0) (hu : Bd w0 E u z) : Calls Tryz.prog 84 #[v, u] w0 (AO (fun x w' => A7 w' (w0.heap.size <= ·) x (depM L (z.1 ||| z.2))) w0) := by
 obtain ⟨R, lk, st, rl, nl, gl⟩ := p
 dsimp only at hl
 subst hl
 obtain ⟨lp, s, rv, nv, gv, rfl, h1, h2, h3, h4, h5⟩ := hp
 dsimp only at h1 h2 h3 h4 h5 ⊢
 obtain ⟨q, o, rfl, hX⟩ := id h1
 obtain ⟨Cs, ns, cs, rfl⟩ := h2.shape
 obtain ⟨Ar, cr, rfl, _, _⟩ := h3.shape
 obtain ⟨An, cn, rfl, _, _⟩ := h4.shape
 obtain ⟨Ag, cg, rfl, _, _⟩ := h5.shape
 obtain ⟨y, n⟩ := z
 obtain ⟨ya, na, rfl, hy, hn⟩ := hu
 dsimp only at hy hn ⊢
 obtain ⟨Ay, my, cy, rfl⟩ := hy.shape
 obtain ⟨Am, mn, cm, rfl⟩ := hn.shape
 obtain ⟨N, hN⟩ : ∃ N, N = y ||| n := ⟨_, rfl⟩
 rw [<- hN]
 have HN := Lib.hid hN
 clear hN h1 h2 h3 h4 h5
 obtain ⟨K, ky, kn, ko, kt, hS⟩ : ∃ K : (Nat -> Prop) -> World -> Prop, (∀ D w, K D w -> A7 w D (.agg #[.slice Ay my cy]) y) /\ (∀ D w, K D w -> A7 w D (.agg #[.slice Am mn cm]) n) /\ (∀ D w, K D w -> FZ q o L D w) /\ (∀ D w, K D w -> BH w /\ D 0) /\ St w0 w0 [] K :=
  ⟨fun D w => ((A7 w D (.agg #[.slice Ay my cy]) y /\ A7 w D (.agg #[.slice Am mn cm]) n) /\ FZ q o L D w) /\ BH w /\ D 0, fun _ _ h => h.1.1.1, fun _ _ h => h.1.1.2, fun _ _ h => h.1.2, fun _ _ h => h.2, St.start (D := fun _ => True) (((A5.and A5).and CE).and Cd) ⟨⟨⟨hy.imp fun _ _ _ => trivial, hn.imp fun _ _ _ => trivial⟩, CE D _ w0 w0 hX (Nat.le_refl _) (fun _ _ _ _ h => h) fun _ _ _ _ => trivial⟩, hT, trivial⟩⟩
 have HH := Lib.hid hH
 clear hy hn hT hX hH
 refine (callsIn_wide (n := 6)).1 (callsIn_of_wp_marks Tryz.func84 rfl trivial ?_ rfl)
 simp only [Tryz.ntmps84, List.size_toArray, List.length_cons, List.length_nil, Nat.reduceAdd, Nat.reduceSub, Array.replicate_succ, Array.replicate_zero, List.push_toArray, List.append_toArray, List.nil_append, List.cons_append]
 refine wpIn_wide.2 ?_
 go_wp2_with (first
  | ((with_reducible refine qA 2 ?_); refine AE hS rfl _ _ rfl (.agg #[.int .i64 R, .pointer (some ⟨q, 0, none⟩), .slice Cs ns cs, .slice Ar rl.length cr, .slice An nl.length cn, .slice Ag gl.length cg]) _ rfl rfl ?_; clear hS; intro g2 w_ hS; (try simp only [Act.put, Act.eval, zz, Value.cells] at hS))
  | ((with_reducible refine qA 3 ?_); refine AE hS rfl _ _ rfl (.agg #[.slice Ay my cy, .slice Am mn cm]) _ rfl rfl ?_; clear hS; intro g3 w_ hS; (try simp only [Act.put, Act.eval, zz, Value.cells] at hS))
  | ((with_reducible refine qA 4 ?_); refine qa hS #[.slice none 0 0] ?_; clear hS; intro g4 w_ hS)
  | ((with_reducible refine qA 5 ?_); refine qa hS #[.slice none 0 0] ?_; clear hS; intro g5 w_ hS)
  | ((with_reducible refine qk 27 ?_); first | (refine Aa hS 0 rfl _ _ rfl _ _ rfl _ _ rfl _ (by first | rfl | assumption) Tryz.underlying27 rfl (by kernel_rfl) ?_) | (refine Aa hS 1 rfl _ _ rfl _ _ rfl _ _ rfl _ (by first | rfl | assumption) Tryz.underlying27 rfl (by kernel_rfl) ?_) | (refine Aa hS 2 rfl _ _ rfl _ _ rfl _ _ rfl _ (by first | rfl | assumption) Tryz.underlying27 rfl (by kernel_rfl) ?_) | (refine Aa hS 3 rfl _ _ rfl _ _ rfl _ _ rfl _ (by first | rfl | assumption) Tryz.underlying27 rfl (by kernel_rfl) ?_) | (refine Aa hS 4 rfl _ _ rfl _ _ rfl _ _ rfl _ (by first | rfl | assumption) Tryz.underlying27 rfl (by kernel_rfl) ?_) | (refine Aa hS 5 rfl _ _ rfl _ _ rfl _ _ rfl _ (by first | rfl | assumption) Tryz.underlying27 rfl (by kernel_rfl) ?_))
  | (go_at_call 58; refine (Fa _ _ y n _ _ _ (ky _ _ hS.ro) (kn _ _ hS.ro)).mono ?_; rw [<- HN.out]; rintro r_ w_ ⟨_, rfl, h1, hb_⟩; replace hS := hS.ret hb_ A5 h1; clear h1 hb_; obtain ⟨A, c, l, rfl, hl, hvl, _⟩ := hS.ro.2.parts))
 obtain ⟨KY, ky1, ko1, kt1, hS2⟩ : ∃ KY : (Nat -> Prop) -> World -> Prop, (∀ D w, KY D w -> A7 w D (.agg #[.slice A l.length c]) (Bp l)) /\ (∀ D w, KY D w -> FZ q o L D w) /\ (∀ D w, KY D w -> BH w /\ D 0) /\ St w0 w_ [.box g5 27 #[.slice none 0 0], .box g4 27 #[.slice none 0 0], .box g3 81 #[.slice Ay my cy, .slice Am mn cm], .box g2 31 #[.int .i64 R, .pointer (some ⟨q, 0, none⟩), .slice Cs ns cs, .slice Ar rl.length cr, .slice An nl.length cn, .slice Ag gl.length cg]] KY := ⟨_, fun _ _ h => by rw [<- hvl]; exact h.2, fun _ _ h => ko _ _ h.1, fun _ _ h => kt _ _ h.1, hS⟩
 have HVL := Lib.hid hvl
 clear hS ky kn kt ko K
 have ko := ko1
 have kt := kt1
 clear ko1 kt1
 have hS := hS2
 clear hS2 hvl
 refine (J3 _ _ _ _ (ky1 _ _ hS.ro)).mono ?_
 rintro e w3 ⟨_, rfl, ⟨Bs, A', cap, ws, rfl, e1, hcn, hvN, hsl, hBs, hX⟩, hb3⟩
 obtain rfl := Hh hcn hl hvN
 obtain ⟨rfl, rfl⟩ : A = A' /\ c = cap := by simpa using e1
 clear e1 hvN
 obtain ⟨hT, hT0⟩ := kt _ _ hS.ro
 replace hS := hS.good hb3 hsl hT hT0 hBs hX
 obtain ⟨KK, ko, kG, KKS, hS⟩ : ∃ KK : (Nat -> Prop) -> World -> Prop, (∀ D w, KK D w -> FZ q o L D w) /\ (∀ D w, KK D w -> Id Bs A c ws w) /\ AF KK /\ St w0 w3 [.box g5 27 #[.slice none 0 0], .box g4 27 #[.slice none 0 0], .box g3 81 #[.slice Ay my cy, .slice Am mn cm], .box g2 31 #[.int .i64 R, .pointer (some ⟨q, 0, none⟩), .slice Cs ns cs, .slice Ar rl.length cr, .slice An nl.length cn, .slice Ag gl.length cg]] KK := ⟨_, fun D w h => ko D w h.1, fun D w h => h.2.1, hS.stable, hS⟩
 have HCN := Lib.hid hcn
 have HCF : Hid (depP L (CH ws) = depM L N) := Lib.hid (by rw [HVL.out]; exact depP_full HH.out.inr hcn.1)
 clear hsl hX hT hT0 hb3 kt ky1 hcn hl
 go_wp2_with fail
 have hsz := hS.size
 refine (wpIn_wide (n := 6)).1 ?_
 refine IK fun act hact => ?_
 refine G7 hS HCN.out.1 HCN.out.2.2 kG (by rw [hact]; rfl) rfl
  (fun pre F' K' => ∃ u, F' = [.box g5 27 #[u], .box g4 27 #[.slice none 0 0], .box g3 81 #[.slice Ay my cy, .slice Am mn cm], .box g2 31 #[.int .i64 R, .pointer (some ⟨q, 0, none⟩), .slice Cs ns cs, .slice Ar rl.length cr, .slice An nl.length cn, .slice Ag gl.length cg]] /\ AF K' /\ ∀ D w, K' D w -> KK D w /\ A7 w (fun z => D z /\ w0.heap.size <= z) (.agg #[u]) (depP L pre))
  (fun _ _ _ _ => False) (fun s F K' h D w hk => by obtain ⟨_, _, _, h4⟩ := h; exact (h4 D w hk).1) ?hr (fun _ _ _ _ h => h.elim) ⟨_, rfl, KKS, fun D w h => ⟨h, A7.empty⟩⟩
  (fun x => { tmps := (act.tmps.setIfInBounds 13 (.int .i64 x)).setIfInBounds 6 (.int .i64 x), defers := [] }) ?assign ?body ?done (fun _ _ _ _ _ _ _ _ h _ _ => h.elim)
 case hr =>
  rintro s F K' ⟨u, rfl, _⟩ f hf
  simp only [List.mem_cons, List.not_mem_nil, or_false] at hf
  rcases hf with rfl | rfl | rfl | rfl <;> exact .inl rfl
 case assign =>
  intro l x W K hK
  subst hact
  rw [zip_one]
  refine wpIn_region_lit ?_
  refine I7 (by intro _ _ h; exact h) _ _ _ (by rfl) _ _ ?_
  refine wpList_plain rfl fun _ hK' => EC (v := .int .i64 x) rfl (by rfl) (hK' _ _ ?_)
  exact wpList_nil hK
 case body =>
  rintro l pre x hx W F' Xo K' ⟨ub, rfl, hKs, hk'⟩ hS hlt
  subst hact
  have HW := Lib.hid (depP_snoc L pre x)
  generalize depP L pre = N0 at *
  have HKP := Lib.hid hk'
  have hWs : W.heap.size <= W.heap.size := Nat.le_refl _
  clear hx hk'
  simp only [Act.put, List.setIfInBounds_toArray, List.set_cons_zero, List.set_cons_succ]
  refine wpIn_block ?_
  refine DI (by kernel_rfl) (by intro _ _ h; exact h) (by rfl) ?_
  refine any_zL 6 [] [.i (.agg #[ub]), .q g2 1, .q q 0, .n x, .s (fun v w => A7 w (fun _ => True) v (senQ L x)) fun v w w' h hb => h.ext hb, .s (fun v w => ∃ u, v = .agg #[u] /\ u.oneCell' = true /\ A7 w (fun z => W.heap.size <= z) (.agg #[u]) (N0 ||| senQ L x)) fun v w w' h hb => ⟨_, h.choose_spec.1, h.choose_spec.2.1, h.choose_spec.2.2.ext hb⟩, .t] ⟨uR (h := fun w hW hN => (hS.ext hW).box 0 rfl), uF, uC (h := fun w hW hN => ((hS.ext hW).box 3 rfl).cell 1), uM, ?_, ?_, trivial⟩ ?_
  ·refine uT fun b__ w hW hE K hK => ?_
   have e16 := hE 16
   have e17 := hE 17
   refine Az rfl (by kernel_rfl) (by simp only [List.map_cons, List.map_nil, e16, e17]) (hsen_any (w0 := w) ⟨q, o, rfl, ko _ _ (HKP.out _ _ (hS.ext hW).ro.1).1⟩ HH.out x) fun v w' h hb => ?_
   exact hK v w' (h.imp fun _ _ _ => trivial) hb
  ·refine uT fun b__ w hW hE K hK => ?_
   have e14 := hE 14
   have e18 := hE 18
   refine Az rfl (by kernel_rfl) (by simp only [List.map_cons, List.map_nil, e14]) (Fa (.agg #[ub]) _ N0 _ w _ _ (HKP.out _ _ (hS.ext hW).ro.1).2 e18) fun v w' h hb => ?_
   obtain ⟨u, rfl, h1⟩ := Cr h
   exact hK _ w' ⟨u, rfl, h1, h.imp fun z hz _ => Nat.le_trans hW.size hz⟩ hb
  ·intro vs wz hW hT
   obtain ⟨e14, e15, e16, e17, e18, e19, -⟩ := hT
   have bx : (fun _ : Nat => True) 0 := trivial
   simp only [AC, Act.put, zz, ze]
   (intro o_ ho_; simp only [List.getElem?_toArray, List.getElem?_cons_succ, List.getElem?_cons_zero, Option.some.injEq] at ho_; subst ho_)
   obtain ⟨un, e19, hu1, hun⟩ := e19
   have hsW := hS.size
   have hS1 := hS.ret hW (AV (A5 (v := .agg #[un]) (N := N0 ||| senQ L x)) fun z => w0.heap.size <= z) (hun.imp fun z hz _ => ⟨hz, Nat.le_trans hsW hz⟩)
   refine Cn rfl rfl e19 (hS1.box 0 rfl) (by kernel_rfl) rfl (by simpa using hu1) fun w4 h1 hU => ?_
   have hS2 := (hS1.upd 0 rfl (.box g5 27 #[un]) (Bn hU) ⟨(hS1.holds (.box g5 27 #[ub]) (by simp)).1, h1⟩ fun _ e => .inl e)
   refine ⟨_, _, ⟨un, rfl, hS2.stable, fun D w h => ⟨(HKP.out D w h.1.1).1, by rw [HW.out]; exact h.2⟩⟩, by rw [hU.size]; exact hW.size, hS2⟩
 case done =>
  rintro D W F' K' hD ⟨u, rfl, hKs, hk'⟩ hS hK
  subst hact
  obtain ⟨A3, c3, l3, he, -⟩ := ((hk' _ _ hS.ro).2).parts
  obtain rfl : u = .slice A3 l3.length c3 := by injection he with he; simpa using he
  clear he
  have hM := hS.mark hsz hD (by
   intro f hf
   simp only [List.mem_cons, List.not_mem_nil, or_false] at hf
   rcases hf with rfl | rfl | rfl | rfl <;> exact .inl rfl) hK rfl
  have HKP := Lib.hid hk'
  clear hk' hS hK
  have hS := hM
  clear hM
  simp only [List.cons_append, List.nil_append] at hS
  go_wp2_with (first
   | ((with_reducible refine qK ?_); refine qL hS Tryz.underlying27 ?_)
   | ((with_reducible refine qM ?_); (first | refine qS hS ?_ | refine qT hS ?_); clear hS; intro w_ hS; (try simp only [Act.put, Act.eval, zz, Value.cells] at hS)))
  refine DE (F := [.box g5 27 #[.slice A3 l3.length c3], .box g4 27 #[.slice A3 l3.length c3], .box g3 81 #[.slice Ay my cy, .slice Am mn cm], .box g2 31 #[.int .i64 R, .pointer (some ⟨q, 0, none⟩), .slice Cs ns cs, .slice Ar rl.length cr, .slice An nl.length cn, .slice Ag gl.length cg]]) ?_ [D] _ hS
  intro w' h
  refine ⟨_, results_cell_row rfl _ _ g4 27 _ (0, 0) _ rfl (h.box 1 rfl) Tryz.underlying27 rfl (by kernel_rfl), ?_⟩
  exact AO.mk (by rw [<- HCF.out]; exact (HKP.out _ _ h.ro).2.imp fun z hz _ => hz.2) h.below
end
section
open Go.RowKit
set_option exponentiation.threshold 5000
def CI (a b : Nat) : Prop := ∀ i, a.testBit i = true -> b.testBit i = true
theorem CI.refl (a : Nat) : CI a a := fun _ h => h
theorem CI.trans {a b c : Nat} (h : CI a b) (k : CI b c) : CI a c := fun i hi => k i (h i hi)
theorem CI.left (a b : Nat) : CI a (a ||| b) := fun i h => DA.2 (.inl h)
theorem CI.right (a b : Nat) : CI b (a ||| b) := fun i h => DA.2 (.inr h)
theorem CI.or {a b c : Nat} (h : CI a c) (k : CI b c) : CI (a ||| b) c := fun i hi => (DA.1 hi).elim (h i) (k i)
theorem CI.anti {a b : Nat} (h : CI a b) (k : CI b a) : a = b := B3 fun i => ⟨h i, k i⟩
theorem CI.has {a b : Nat} (h : CI a b) {i : Int} (k : B5 a i = true) : B5 b i = true := by
 unfold B5 at *
 simp only [Bool.and_eq_true, decide_eq_true_eq] at *
 exact ⟨k.1, h _ k.2⟩
theorem Fz {a b : Nat} : (a &&& b != 0) = true ↔ ∃ i, a.testBit i = true /\ b.testBit i = true := by
 rw [bne_iff_ne]
 constructor
 ·intro h
  obtain ⟨i, hi⟩ := Nat.exists_testBit_of_ne_zero h
  rw [Nat.testBit_and, Bool.and_eq_true] at hi
  exact ⟨i, hi⟩
 ·rintro ⟨i, h1, h2⟩ e
  have : (a &&& b).testBit i = true := by rw [Nat.testBit_and, h1, h2]; rfl
  rw [e, Nat.zero_testBit] at this
  cases this
theorem CI.meets {a b c : Nat} (h : CI b c) (k : (a &&& b != 0) = true) : (a &&& c != 0) = true := by
 obtain ⟨i, h1, h2⟩ := Fz.1 k
 exact Fz.2 ⟨i, h1, h i h2⟩
noncomputable def depC (L : List (Nat × Nat)) (z : Nat × Nat) : Nat := depM L (z.1 ||| z.2)
noncomputable def depR (L : List (Nat × Nat)) (r : AP) : Nat := depM L (r.yes ||| r.no)
structure Gl (L : List (Nat × Nat)) (p : Ac) (S : Nat) : Prop where
 goal : ∀ c ∈ p.goal, CI (depC L c) S
 rules : ∀ r ∈ p.rules, r.revoke = false -> B5 S r.target = true -> CI (depR L r) S
 never : ∀ c ∈ p.never, (depC L c &&& S != 0) = true -> CI (depC L c) S
noncomputable def relM (L : List (Nat × Nat)) (p : Ac) : Nat := maskOf 64 fun i => ∀ T, Gl L p T -> T.testBit i = true
def JL (L : List (Nat × Nat)) (p : Ac) (N : Nat) : Prop := (∀ T, Gl L p T -> CI N T) /\ N < 2 ^ 64
theorem FC (L : List (Nat × Nat)) (N : Nat) : depM L N < 2 ^ 64 := by
 refine Nat.lt_pow_two_of_testBit _ fun i hi => ?_
 by_cases h : (depM L N).testBit i = true
 ·rw [depM, Bo] at h; omega
 ·simpa using h
theorem JL.zero (L : List (Nat × Nat)) (p : Ac) : JL L p 0 := ⟨fun T _ i hi => (by rw [Nat.zero_testBit] at hi; cases hi), by decide⟩
theorem JL.goal {L : List (Nat × Nat)} {p : Ac} {N : Nat} (h : JL L p N) {c : Nat × Nat} (hc : c ∈ p.goal) : JL L p (N ||| depC L c) :=
 ⟨fun T hT => (h.1 T hT).or (hT.goal c hc), Nat.or_lt_two_pow h.2 (FC _ _)⟩
theorem JL.rule {L : List (Nat × Nat)} {p : Ac} {N : Nat} (h : JL L p N) {r : AP} (hr : r ∈ p.rules) (h1 : r.revoke = false) (h2 : B5 N r.target = true) : JL L p (N ||| depR L r) :=
 ⟨fun T hT => (h.1 T hT).or (hT.rules r hr h1 ((h.1 T hT).has h2)), Nat.or_lt_two_pow h.2 (FC _ _)⟩
theorem JL.never {L : List (Nat × Nat)} {p : Ac} {N : Nat} (h : JL L p N) {c : Nat × Nat} (hc : c ∈ p.never) (h2 : (depC L c &&& N != 0) = true) : JL L p (N ||| depC L c) :=
 ⟨fun T hT => (h.1 T hT).or (hT.never c hc ((h.1 T hT).meets h2)), Nat.or_lt_two_pow h.2 (FC _ _)⟩
theorem JL.eq {L : List (Nat × Nat)} {p : Ac} {N : Nat} (h : JL L p N) (k : Gl L p N) : N = relM L p := B3 fun i => by
 rw [relM, Bo]
 refine ⟨fun hi => ⟨?_, fun T hT => h.1 T hT i hi⟩, fun hi => hi.2 N k⟩
 rcases Nat.lt_or_ge i 64 with h1 | h1
 ·exact h1
 ·have := Nat.testBit_lt_two_pow (Nat.lt_of_lt_of_le h.2 (Nat.pow_le_pow_right (by decide) h1))
  rw [this] at hi; cases hi
structure DG (L : List (Nat × Nat)) (p : Ac) (B N i j : Nat) : Prop where
 low : JL L p N
 sub : CI B N
 goal : ∀ c ∈ p.goal, CI (depC L c) N
 rules : ∀ r ∈ p.rules.take i, r.revoke = false -> B5 B r.target = true -> CI (depR L r) N
 never : ∀ c ∈ p.never.take j, (depC L c &&& B != 0) = true -> CI (depC L c) N
theorem DG.more {L : List (Nat × Nat)} {p : Ac} {B N N' i j : Nat} (h : DG L p B N i j) (hs : CI N N') (hl : JL L p N') : DG L p B N' i j :=
 ⟨hl, h.sub.trans hs, fun c hc => (h.goal c hc).trans hs, fun r hr a b => (h.rules r hr a b).trans hs, fun c hc a => (h.never c hc a).trans hs⟩
theorem Ee {α : Type} {l : List α} {k : Nat} {x y : α} (hk : l[k]? = some x) (h : y ∈ l.take (k + 1)) : y ∈ l.take k \/ y = x := by
 rw [List.take_add_one, hk, List.mem_append] at h
 exact h.imp id fun h => by simpa using h
theorem DG.ruleY {L : List (Nat × Nat)} {p : Ac} {B N i j : Nat} (h : DG L p B N i j) {r : AP} (hi : p.rules[i]? = some r) (h1 : r.revoke = false) (h2 : B5 N r.target = true) : DG L p B (N ||| depR L r) (i + 1) j :=
 have h' := h.more (CI.left N (depR L r)) (h.low.rule (List.mem_of_getElem? hi) h1 h2)
 ⟨h'.low, h'.sub, h'.goal, fun x hx a b => (Ee hi hx).elim (fun hx => h'.rules x hx a b) fun e => by subst e; exact CI.right _ _, h'.never⟩
theorem DG.ruleN {L : List (Nat × Nat)} {p : Ac} {B N i j : Nat} (h : DG L p B N i j) {r : AP} (hi : p.rules[i]? = some r) (h1 : r.revoke = true \/ B5 N r.target = false) : DG L p B N (i + 1) j :=
 ⟨h.low, h.sub, h.goal, fun x hx a b => (Ee hi hx).elim (fun hx => h.rules x hx a b) fun e => (by
  subst e
  rcases h1 with h1 | h1
  ·rw [h1] at a; cases a
  ·rw [h.sub.has b] at h1; cases h1), h.never⟩
theorem DG.neverY {L : List (Nat × Nat)} {p : Ac} {B N i j : Nat} (h : DG L p B N i j) {c : Nat × Nat} (hj : p.never[j]? = some c) (h2 : (depC L c &&& N != 0) = true) : DG L p B (N ||| depC L c) i (j + 1) :=
 have h' := h.more (CI.left N (depC L c)) (h.low.never (List.mem_of_getElem? hj) h2)
 ⟨h'.low, h'.sub, h'.goal, h'.rules, fun x hx a => (Ee hj hx).elim (fun hx => h'.never x hx a) fun e => by subst e; exact CI.right _ _⟩
theorem DG.neverN {L : List (Nat × Nat)} {p : Ac} {B N i j : Nat} (h : DG L p B N i j) {c : Nat × Nat} (hj : p.never[j]? = some c) (h2 : (depC L c &&& N != 0) = false) : DG L p B N i (j + 1) :=
 ⟨h.low, h.sub, h.goal, h.rules, fun x hx a => (Ee hj hx).elim (fun hx => h.never x hx a) fun e => by
  subst e
  rw [h.sub.meets a] at h2; cases h2⟩
theorem DG.start {L : List (Nat × Nat)} {p : Ac} {N : Nat} (h : JL L p N) (k : ∀ c ∈ p.goal, CI (depC L c) N) : DG L p N N 0 0 :=
 ⟨h, CI.refl _, k, fun _ h => by simp at h, fun _ h => by simp at h⟩
theorem DG.done {L : List (Nat × Nat)} {p : Ac} {N : Nat} (h : DG L p N N p.rules.length p.never.length) : N = relM L p :=
 h.low.eq ⟨h.goal, fun r hr => h.rules r (by rw [List.take_length]; exact hr), fun c hc => h.never c (by rw [List.take_length]; exact hc)⟩
theorem DG.lt {L : List (Nat × Nat)} {p : Ac} {B N i j : Nat} (h : DG L p B N i j) (hne : ¬ N = B) : 2 ^ 64 - N < 2 ^ 64 - B := by
 have h1 : B ||| N = N := B3 fun k => ⟨fun hk => (DA.1 hk).elim (h.sub k) id, fun hk => DA.2 (.inr hk)⟩
 have h2 : B <= N := by rw [<- h1]; exact Nat.left_le_or
 have := h.low.2
 omega
end
end Go.Proofs.YtpcioefppjljoaaGreatDoor
