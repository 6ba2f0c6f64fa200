/-
  The card of SliceRefuses.
-/
import Derived.Test.YtihpgmbinhmmlaaGreatDoorRows
import Derived.ProofKit
import Derived.OpenShut
import Derived.Lib.LaidU8
import Derived.Lay
import Derived.MakeChecks
import Derived.LaidLaws
import Derived.Stop.Joined
import Derived.Test.YtihpgmbinhmmlaaGreatDoorCards
import Derived.Test.YtihpgmbinhmmlaaGreatDoorTie
import Derived.SevenTiedAt
import Derived.Test.YtihpgmbinhmmlaaGreatDoorSf5
namespace Go.Proofs.YtihpgmbinhmmlaaGreatDoor
open Go.RowKit
attribute [local go_sem ↓] Go.wp_at_zero Go.wp_at_succ
set_option maxRecDepth 20000
set_option exponentiation.threshold 5000

theorem one_any {w0 : World} {D : Nat → Prop} {v : Value} {l : List Int} {N : Nat} (hs : Sl w0 D 1 v l.length (ints l)) (hN : ofN l = N) : Calls Tryz.prog 49 #[v] w0 (Ret (fun x w' => IsCube w' (w0.heap.size ≤ ·) x (N, 0)) w0) := by
 obtain ⟨K, k1, hS⟩ : ∃ K : (Nat → Prop) → World → Prop, (∀ D w, K D w → Sl w D 1 v l.length (ints l)) ∧ St w0 w0 [] K := ⟨_, fun _ _ h => h, St.start (stable_sl (by decide)) hs⟩
 clear hs
 go_enter Tryz.func49, Tryz.ntmps49
 go_wp2_with (first
  | ((with_reducible refine qA 2 ?_); refine qa hS #[.slice none 0 0, .slice none 0 0] ?_; clear hS; intro g2 w_ hS)
  | (go_at_call 50; have hsW := hS.size; refine (of_any _ l _ _ (k1 _ _ hS.ro)).mono ?_; rw [hN]; rintro r_ w_ ⟨_, rfl, h1, hb_⟩; obtain ⟨A, c, lw, rfl, -⟩ := h1.parts; replace hS := hS.ret hb_ (stable_inter stable_set fun z => w0.heap.size ≤ z) (h1.imp fun z hz _ => ⟨hz, Nat.le_trans hsW hz⟩); clear h1 hb_ hsW)
  | ((with_reducible show wpList _ _ _ (⟨_, .build _ _, _, _, _, _⟩ :: _) _ _); refine wpList_build_of rfl _ _ rfl #[.slice A lw.length c, .slice none 0 0] (by kernel_rfl) ?_)
  | ((with_reducible refine qM ?_); (first | refine qS hS 0 ?_ | refine qS hS 1 ?_ | refine qS hS 2 ?_ | refine qS hS 3 ?_ | refine qT hS 0 ?_ | refine qT hS 1 ?_ | refine qT hS 2 ?_ | refine qT hS 3 ?_); clear hS; intro w_ hS; (try simp only [Act.put, Act.eval, z1, z2, z3, z4, z5, z6, z7, z8, Value.cells] at hS)))
 refine ret_cell Tryz.results49 rfl (hS.box 0 rfl) Tryz.underlying56 rfl (by kernel_rfl) rfl ?_
 exact Ret.mk ⟨_, _, rfl, hS.ro.2.imp fun z hz _ => hz.2, IsSet.empty⟩ hS.below
theorem st_litg {P : Program} {ops : Array Oper} {rest : List Oper} {o : Oper} {a : Act} {Q : Exit → Act → World → Prop} {w0 w : World} {F : List Fact} {K : (Nat → Prop) → World → Prop} (h : St w0 w F K) (hg : Region.wanted o (yielded ops a.tmps) = true) (t e : TypeId) (len : Nat) (parts : Array (Nat × Operand)) (ho : o.op = .buildSlice t len parts) (ht : P.underlying t = some (.slice e)) (cells : Array Value)
  (hb : builtSlice P e len (parts.map fun (i, x) => (i, a.eval x)).toList = some cells) (size : Nat) (hs : cells.size = len * size) (hm : len ≤ 1000000000000)
  (hk : ∀ g w', St w0 w' (.own (.slice (some ⟨g, 0, none⟩) len len) e size len cells.toList :: F) K → wpList P ops Q rest (a.put o.dst (.slice (some ⟨g, 0, none⟩) len len)) w') : wpList P ops Q (o :: rest) a w :=
 BigFrame.wpList_want hg fun _ hK => opw_slice ho ht rfl hb fun w' hX hB => hK _ _ (hk _ w' (h.new hB _ ⟨by simpa using hs, .inr ⟨w.heap.size, len, cells, rfl, Nat.le_refl _, hX, Nat.le_refl _, by unfold maxLen; omega, hs, by rw [← hs, show cells.size = cells.toList.length by simp, List.take_length]⟩⟩))
theorem st_litp {P : Program} {ops : Array Oper} {rest : List Oper} {o : Oper} {a : Act} {Q : Exit → Act → World → Prop} {w0 w : World} {F : List Fact} {K : (Nat → Prop) → World → Prop} (h : St w0 w F K) (hg : Region.wanted o (yielded ops a.tmps) = true) (t e : TypeId) (len : Nat) (parts : Array (Nat × Operand)) (ho : o.op = .buildSlice t len parts) (ht : P.underlying t = some (.slice e)) (ps : List (Nat × Value)) (hp : (parts.map fun (i, x) => (i, a.eval x)).toList = ps) (cells : Array Value)
  (hb : builtSlice P e len ps = some cells) (size : Nat) (hs : cells.size = len * size) (hm : len ≤ 1000000000000)
  (hk : ∀ g w', St w0 w' (.own (.slice (some ⟨g, 0, none⟩) len len) e size len cells.toList :: F) K → wpList P ops Q rest (a.put o.dst (.slice (some ⟨g, 0, none⟩) len len)) w') : wpList P ops Q (o :: rest) a w :=
 BigFrame.wpList_want hg fun _ hK => opw_slice ho ht hp hb fun w' hX hB => hK _ _ (hk _ w' (h.new hB _ ⟨by simpa using hs, .inr ⟨w.heap.size, len, cells, rfl, Nat.le_refl _, hX, Nat.le_refl _, by unfold maxLen; omega, hs, by rw [← hs, show cells.size = cells.toList.length by simp, List.take_length]⟩⟩))
theorem IsCube.sets {w : World} {D : Nat → Prop} {a b : Value} {z : Nat × Nat} (h : IsCube w D (.agg #[a, b]) z) : IsSet w D (.agg #[a]) z.1 ∧ IsSet w D (.agg #[b]) z.2 := by
 obtain ⟨x, y, he, h1, h2⟩ := h
 have e : a = x ∧ b = y := by simpa using he
 obtain ⟨rfl, rfl⟩ := e
 exact ⟨h1, h2⟩
theorem cc1 {w : World} {D : Nat → Prop} {a b : Value} {z : Nat × Nat} (h : IsCube w D (.agg #[a, b]) z) : CubeCells w D [a, b] [z] := fun i y n hi => by
 cases i with
 | zero => obtain rfl := Option.some.inj (show some z = some (y, n) from hi); exact ⟨a, b, rfl, rfl, h.sets.1, h.sets.2⟩
 | succ i => simp at hi
theorem rcells1 {w : World} {D : Nat → Prop} {a1 b1 a3 b3 : Value} (h1 : IsCube w D (.agg #[a1, b1]) (4, 0)) (h3 : IsCube w D (.agg #[a3, b3]) (2, 0)) :
  RuleCells w D [.bool false, a1, b1, .int .i64 1, .int .i64 0, .bool false, .slice none 0 0, .slice none 0 0, .int .i64 2, .int .i64 0, .bool false, a3, b3, .int .i64 3, .int .i64 0, .bool true, .slice none 0 0, .slice none 0 0, .int .i64 4, .int .i64 0] P1.rules :=
 RuleCells.append (l := [⟨false, 4, 0, 1, 0⟩]) (xs := [.bool false, a1, b1, .int .i64 1, .int .i64 0]) rfl (RuleCells.single h1.sets.1 h1.sets.2)
  (RuleCells.append (l := [⟨false, 0, 0, 2, 0⟩]) (xs := [.bool false, .slice none 0 0, .slice none 0 0, .int .i64 2, .int .i64 0]) rfl (RuleCells.single IsSet.empty IsSet.empty)
   (RuleCells.append (l := [⟨false, 2, 0, 3, 0⟩]) (xs := [.bool false, a3, b3, .int .i64 3, .int .i64 0]) rfl (RuleCells.single h3.sets.1 h3.sets.2) (RuleCells.single (z := ⟨true, 0, 0, 4, 0⟩) IsSet.empty IsSet.empty)))
theorem ofL1 : (ofP P1).links = some [] := by unfold ofP; rw [if_pos check1]; rfl
theorem of1_any {w0 w : World} {F : List Fact} {K : (Nat → Prop) → World → Prop} {v : Value} (hS : St w0 w F K) (kp : ∀ D w, K D w → IsProb w D v P1) (kt : ∀ D w, K D w → DTab w) :
  Calls Tryz.prog 19 #[v] w fun e w' => ∃ (R : Int) (q n3 c3 cr3 cn3 ng3 cg3 : Nat) (A3 Ar3 An3 Ag3 : Option Addr) (k : Value), e = .returned (.tuple #[.agg #[.int .i64 R, .pointer (some ⟨q, 0, none⟩), .slice A3 n3 c3, .slice Ar3 2 cr3, .slice An3 1 cn3, .slice Ag3 ng3 cg3], k, .int .i64 0]) ∧ St w0 w' F fun D w => K D w ∧ Sl w D 1 k ([0, 1] : List Int).length (ints [0, 1]) := by
 have KS := hS.stable
 refine (of_slice_any ok1 hS kp kt).mono ?_
 rintro e w3 ⟨u3, k3, rfl, hS⟩
 obtain ⟨lp3, s3, rv3, nv3, gv3, rfl, hh, hs, hr, hn, hg⟩ := id hS.ro.1.2
 have e1 := ofL1
 have e2 := ofP1
 have e3 := ofK1
 have e4 := check1
 obtain ⟨A3, n3, c3, rfl⟩ := hs.shape
 obtain ⟨Ar3, cr3, rfl, _, _⟩ := hr.shape
 obtain ⟨An3, cn3, rfl, _, _⟩ := hn.shape
 obtain ⟨Ag3, cg3, rfl, _, _⟩ := hg.shape
 rw [e1] at hh
 obtain ⟨q3, o3, rfl, -⟩ := hh
 refine ⟨_, q3, n3, c3, cr3, cn3, _, cg3, A3, Ar3, An3, Ag3, k3, by rw [e2.1, e2.2, e4], ?_⟩
 refine hS.mono (KS.and (stable_sl (by decide))) fun D w h => ⟨h.1.1, ?_⟩
 have h2 := h.2
 rw [e3] at h2
 exact h2
set_option maxHeartbeats 4000000 in
theorem lawake33_any {w0 w : World} {F : List Fact} {K : (Nat → Prop) → World → Prop} (hS : St w0 w F K) (kt : ∀ D w, K D w → DTab w ∧ D 0) : Calls Tryz.prog 11 #[] w fun e w' => e = .returned (.bool true) ∧ St w0 w' F K := by
 have KS := Lib.hid hS.stable
 go_enter Tryz.func11, Tryz.ntmps11
 go_wp2_with (first
  | (go_at_call 51; refine (hnew_any hS kt).mono ?_; clear hS; rintro e w_ ⟨p, rfl, hS⟩; obtain ⟨q, o, rfl, -⟩ := id hS.ro.2)
  | ((with_reducible refine qA 9 ?_); refine st_litown hS rfl _ 3 1 _ rfl Tryz.underlying48 #[.int .i64 2] (by kernel_rfl) 1 rfl (by decide) ?_; clear hS; intro g9 w_ hS; (try simp only [Act.put, List.setIfInBounds_toArray, List.set_cons_zero, List.set_cons_succ]))
  | ((with_reducible refine qA 10 ?_); refine BigFrame.wpList_want rfl fun _ hK => opw_callv (f := 49) (first := #[]) (caps := #[]) (vs := [.slice (some ⟨g9, 0, none⟩) 1 1]) rfl rfl (by kernel_rfl) (by simp [Act.eval, Act.put]) (one_any (l := [2]) (N := 4) (Sl.of_own (hS.own 0 rfl)) (by decide)) fun e w' ⟨x_, he_, hx_, hb_⟩ => ⟨x_, he_, hK _ _ ?_⟩; clear hK; obtain ⟨ya_, na_, rfl, hy_, hn_⟩ := id hx_; obtain ⟨A10, m10, c10, rfl⟩ := hy_.shape; obtain ⟨B10, k10, d10, rfl⟩ := hn_.shape; replace hS := hS.ret hb_ stable_cube hx_; clear hx_ hb_ hy_ hn_ he_; (try simp only [Act.put, List.setIfInBounds_toArray, List.set_cons_zero, List.set_cons_succ]))
  | ((with_reducible refine qA 11 ?_); refine wpList_build_of rfl _ _ rfl #[.bool false, .slice A10 m10 c10, .slice B10 k10 d10, .int .i64 1, .int .i64 0] (by kernel_rfl) ?_; (try simp only [Act.put, List.setIfInBounds_toArray, List.set_cons_zero, List.set_cons_succ]))
  | ((with_reducible refine qA 12 ?_); refine wpList_build_of rfl _ _ rfl #[.bool false, .slice none 0 0, .slice none 0 0, .int .i64 2, .int .i64 0] (by kernel_rfl) ?_; (try simp only [Act.put, List.setIfInBounds_toArray, List.set_cons_zero, List.set_cons_succ]))
  | ((with_reducible refine qA 14 ?_); refine st_litown hS rfl _ 3 1 _ rfl Tryz.underlying48 #[.int .i64 1] (by kernel_rfl) 1 rfl (by decide) ?_; clear hS; intro g14 w_ hS; (try simp only [Act.put, List.setIfInBounds_toArray, List.set_cons_zero, List.set_cons_succ]))
  | ((with_reducible refine qA 15 ?_); refine BigFrame.wpList_want rfl fun _ hK => opw_callv (f := 49) (first := #[]) (caps := #[]) (vs := [.slice (some ⟨g14, 0, none⟩) 1 1]) rfl rfl (by kernel_rfl) (by simp [Act.eval, Act.put]) (one_any (l := [1]) (N := 2) (Sl.of_own (hS.own 0 rfl)) (by decide)) fun e w' ⟨x_, he_, hx_, hb_⟩ => ⟨x_, he_, hK _ _ ?_⟩; clear hK; obtain ⟨ya_, na_, rfl, hy_, hn_⟩ := id hx_; obtain ⟨A15, m15, c15, rfl⟩ := hy_.shape; obtain ⟨B15, k15, d15, rfl⟩ := hn_.shape; replace hS := hS.ret hb_ stable_cube hx_; clear hx_ hb_ hy_ hn_ he_; (try simp only [Act.put, List.setIfInBounds_toArray, List.set_cons_zero, List.set_cons_succ]))
  | ((with_reducible refine qA 16 ?_); refine wpList_build_of rfl _ _ rfl #[.bool false, .slice A15 m15 c15, .slice B15 k15 d15, .int .i64 3, .int .i64 0] (by kernel_rfl) ?_; (try simp only [Act.put, List.setIfInBounds_toArray, List.set_cons_zero, List.set_cons_succ]))
  | ((with_reducible refine qA 17 ?_); refine wpList_build_of rfl _ _ rfl #[.bool true, .slice none 0 0, .slice none 0 0, .int .i64 4, .int .i64 0] (by kernel_rfl) ?_; (try simp only [Act.put, List.setIfInBounds_toArray, List.set_cons_zero, List.set_cons_succ]))
  | ((with_reducible refine qA 18 ?_); refine st_litp hS rfl _ 58 4 _ rfl Tryz.underlying28 [(0, .agg #[.bool false, .slice A10 m10 c10, .slice B10 k10 d10, .int .i64 1, .int .i64 0]), (1, .agg #[.bool false, .slice none 0 0, .slice none 0 0, .int .i64 2, .int .i64 0]), (2, .agg #[.bool false, .slice A15 m15 c15, .slice B15 k15 d15, .int .i64 3, .int .i64 0]), (3, .agg #[.bool true, .slice none 0 0, .slice none 0 0, .int .i64 4, .int .i64 0])] (by simp [Act.eval]) #[.bool false, .slice A10 m10 c10, .slice B10 k10 d10, .int .i64 1, .int .i64 0, .bool false, .slice none 0 0, .slice none 0 0, .int .i64 2, .int .i64 0, .bool false, .slice A15 m15 c15, .slice B15 k15 d15, .int .i64 3, .int .i64 0, .bool true, .slice none 0 0, .slice none 0 0, .int .i64 4, .int .i64 0] (by kernel_rfl) 5 rfl (by decide) ?_; clear hS; intro g18 w_ hS; (try simp only [Act.put, List.setIfInBounds_toArray, List.set_cons_zero, List.set_cons_succ]))
  | ((with_reducible refine qA 20 ?_); refine st_litown hS rfl _ 3 2 _ rfl Tryz.underlying48 #[.int .i64 2, .int .i64 5] (by kernel_rfl) 1 rfl (by decide) ?_; clear hS; intro g20 w_ hS; (try simp only [Act.put, List.setIfInBounds_toArray, List.set_cons_zero, List.set_cons_succ]))
  | ((with_reducible refine qA 21 ?_); refine BigFrame.wpList_want rfl fun _ hK => opw_callv (f := 49) (first := #[]) (caps := #[]) (vs := [.slice (some ⟨g20, 0, none⟩) 2 2]) rfl rfl (by kernel_rfl) (by simp [Act.eval, Act.put]) (one_any (l := [2, 5]) (N := 36) (Sl.of_own (hS.own 0 rfl)) (by decide)) fun e w' ⟨x_, he_, hx_, hb_⟩ => ⟨x_, he_, hK _ _ ?_⟩; clear hK; obtain ⟨ya_, na_, rfl, hy_, hn_⟩ := id hx_; obtain ⟨A21, m21, c21, rfl⟩ := hy_.shape; obtain ⟨B21, k21, d21, rfl⟩ := hn_.shape; replace hS := hS.ret hb_ stable_cube hx_; clear hx_ hb_ hy_ hn_ he_; (try simp only [Act.put, List.setIfInBounds_toArray, List.set_cons_zero, List.set_cons_succ]))
  | ((with_reducible refine qA 22 ?_); refine st_litp hS rfl _ 56 1 _ rfl Tryz.underlying29 [(0, .agg #[.slice A21 m21 c21, .slice B21 k21 d21])] (by simp [Act.eval]) #[.slice A21 m21 c21, .slice B21 k21 d21] (by kernel_rfl) 2 rfl (by decide) ?_; clear hS; intro g22 w_ hS; (try simp only [Act.put, List.setIfInBounds_toArray, List.set_cons_zero, List.set_cons_succ]))
  | ((with_reducible refine qA 24 ?_); refine st_litown hS rfl _ 3 1 _ rfl Tryz.underlying48 #[.int .i64 1] (by kernel_rfl) 1 rfl (by decide) ?_; clear hS; intro g24 w_ hS; (try simp only [Act.put, List.setIfInBounds_toArray, List.set_cons_zero, List.set_cons_succ]))
  | ((with_reducible refine qA 25 ?_); refine BigFrame.wpList_want rfl fun _ hK => opw_callv (f := 49) (first := #[]) (caps := #[]) (vs := [.slice (some ⟨g24, 0, none⟩) 1 1]) rfl rfl (by kernel_rfl) (by simp [Act.eval, Act.put]) (one_any (l := [1]) (N := 2) (Sl.of_own (hS.own 0 rfl)) (by decide)) fun e w' ⟨x_, he_, hx_, hb_⟩ => ⟨x_, he_, hK _ _ ?_⟩; clear hK; obtain ⟨ya_, na_, rfl, hy_, hn_⟩ := id hx_; obtain ⟨A25, m25, c25, rfl⟩ := hy_.shape; obtain ⟨B25, k25, d25, rfl⟩ := hn_.shape; replace hS := hS.ret hb_ stable_cube hx_; clear hx_ hb_ hy_ hn_ he_; (try simp only [Act.put, List.setIfInBounds_toArray, List.set_cons_zero, List.set_cons_succ]))
  | ((with_reducible refine qA 26 ?_); refine st_litp hS rfl _ 56 1 _ rfl Tryz.underlying29 [(0, .agg #[.slice A25 m25 c25, .slice B25 k25 d25])] (by simp [Act.eval]) #[.slice A25 m25 c25, .slice B25 k25 d25] (by kernel_rfl) 2 rfl (by decide) ?_; clear hS; intro g26 w_ hS; (try simp only [Act.put, List.setIfInBounds_toArray, List.set_cons_zero, List.set_cons_succ]))
  | ((with_reducible refine qA 27 ?_); refine wpList_build_of rfl _ _ rfl #[.int .i64 5, .pointer (some ⟨q, 0, none⟩), .slice none 0 0, .slice (some ⟨g18, 0, none⟩) 4 4, .slice (some ⟨g22, 0, none⟩) 1 1, .slice (some ⟨g26, 0, none⟩) 1 1] (by kernel_rfl) ?_; (try simp only [Act.put, List.setIfInBounds_toArray, List.set_cons_zero, List.set_cons_succ]))
  | ((with_reducible refine qA 2 ?_); refine qa hS #[.int .i64 0, .pointer none, .slice none 0 0, .slice none 0 0, .slice none 0 0, .slice none 0 0] ?_; clear hS; intro g2 w_ hS)
  | ((with_reducible refine qM ?_); (first | refine qS hS 0 ?_ | refine qS hS 1 ?_ | refine qS hS 2 ?_ | refine qS hS 3 ?_ | refine qT hS 0 ?_ | refine qT hS 1 ?_ | refine qT hS 2 ?_ | refine qT hS 3 ?_); clear hS; intro w_ hS; (try simp only [Act.put, Act.eval, z1, z2, z3, z4, z5, z6, z7, z8, Value.cells] at hS))
  | ((with_reducible refine qA 29 ?_)
     replace hS := ((hS.freeze 1 (by decide) rfl).freeze 2 (by decide) rfl).freeze 3 (by decide) rfl
     obtain ⟨K1, k0, kp1, hS2⟩ : ∃ K1 : (Nat → Prop) → World → Prop, (∀ D w, K1 D w → K D w) ∧ (∀ D w, K1 D w → IsProb w D (.agg #[.int .i64 5, .pointer (some ⟨q, 0, none⟩), .slice none 0 0, .slice (some ⟨g18, 0, none⟩) 4 4, .slice (some ⟨g22, 0, none⟩) 1 1, .slice (some ⟨g26, 0, none⟩) 1 1]) P1) ∧ St w0 w_ (.box g2 31 #[.int .i64 5, .pointer (some ⟨q, 0, none⟩), .slice none 0 0, .slice (some ⟨g18, 0, none⟩) 4 4, .slice (some ⟨g22, 0, none⟩) 1 1, .slice (some ⟨g26, 0, none⟩) 1 1] :: F) K1 :=
       ⟨_, fun D w h => h.1.1.1.1.1.1.1.1, fun D w h => ⟨_, _, _, _, _, rfl, h.1.1.1.1.1.1.1.2, IsSet.empty, ⟨_, h.2, rcells1 h.1.1.1.1.1.1.2 h.1.1.1.1.1.2⟩, ⟨_, h.1.2, cc1 h.1.1.1.1.2⟩, _, h.1.1.2, cc1 h.1.1.1.2⟩, hS.sub (.cons_cons _ ((((List.sublist_cons_self _ _).trans (List.sublist_cons_self _ _)).trans (List.sublist_cons_self _ _)).trans (List.sublist_cons_self _ _)))⟩
     clear hS
     have hS := hS2
     clear hS2
     refine BigFrame.wpList_want rfl fun _ hK => opw_row rfl rfl (hS.box 0 rfl) Tryz.underlying31 rfl (by kernel_rfl) (hK _ _ ?_)))
 refine (of1_any hS kp1 (fun D w h => (kt D w (k0 D w h)).1)).mono ?_
 clear hS
 rintro e w3 ⟨R3, q3, n3, c3, cr3, cn3, ng3, cg3, A3, Ar3, An3, Ag3, k3, rfl, hS⟩
 obtain ⟨K3, j0, jk, hS2⟩ : ∃ K3 : (Nat → Prop) → World → Prop, (∀ D w, K3 D w → K1 D w) ∧ (∀ D w, K3 D w → Sl w D 1 k3 ([0, 1] : List Int).length (ints [0, 1])) ∧ St w0 w3 (.box g2 31 #[.int .i64 5, .pointer (some ⟨q, 0, none⟩), .slice none 0 0, .slice (some ⟨g18, 0, none⟩) 4 4, .slice (some ⟨g22, 0, none⟩) 1 1, .slice (some ⟨g26, 0, none⟩) 1 1] :: F) K3 := ⟨_, fun D w h => h.1, fun D w h => h.2, hS⟩
 clear hS
 have hS := hS2
 clear hS2
 have hj := Lib.hid fun D w h => kt D w (k0 D w (j0 D w h))
 go_wp2_with (first
  | ((with_reducible refine qA 3 ?_); refine qa hS #[.int .i64 0, .pointer none, .slice none 0 0, .slice none 0 0, .slice none 0 0, .slice none 0 0] ?_; clear hS; intro g3 w_ hS)
  | (go_at_call 51; refine (hnew_any hS hj.out).mono ?_; clear hS; rintro e w_ ⟨p, rfl, hS⟩; obtain ⟨q4, o4, rfl, -⟩ := id hS.ro.2)
  | ((with_reducible refine qA 35 ?_); refine st_litown hS rfl _ 3 1 _ rfl Tryz.underlying48 #[.int .i64 2] (by kernel_rfl) 1 rfl (by decide) ?_; clear hS; intro g35 w_ hS; (try simp only [Act.put, List.setIfInBounds_toArray, List.set_cons_zero, List.set_cons_succ]))
  | (go_at_call 50; refine (of_any _ [2] _ _ (Sl.of_own (hS.own 0 rfl))).mono ?_; rw [show ofN [2] = 4 from by decide]; rintro r_ w_ ⟨_, rfl, h1, hb_⟩; replace hS := hS.ret hb_ stable_set h1; clear h1 hb_; obtain ⟨A36, c36, l36, rfl, -⟩ := hS.ro.2.parts; obtain ⟨n36, hn36⟩ : ∃ n, n = l36.length := ⟨_, rfl⟩; rw [← hn36] at hS ⊢; clear hn36)
  | ((with_reducible refine qA 38 ?_); refine st_litown hS rfl _ 3 2 _ rfl Tryz.underlying48 #[.int .i64 2, .int .i64 3] (by kernel_rfl) 1 rfl (by decide) ?_; clear hS; intro g38 w_ hS; (try simp only [Act.put, List.setIfInBounds_toArray, List.set_cons_zero, List.set_cons_succ]))
  | ((with_reducible refine qA 39 ?_); refine BigFrame.wpList_want rfl fun _ hK => opw_callv (f := 49) (first := #[]) (caps := #[]) (vs := [.slice (some ⟨g38, 0, none⟩) 2 2]) rfl rfl (by kernel_rfl) (by simp [Act.eval, Act.put]) (one_any (l := [2, 3]) (N := 12) (Sl.of_own (hS.own 0 rfl)) (by decide)) fun e w' ⟨x_, he_, hx_, hb_⟩ => ⟨x_, he_, hK _ _ ?_⟩; clear hK; obtain ⟨ya_, na_, rfl, hy_, hn_⟩ := id hx_; obtain ⟨A39, m39, c39, rfl⟩ := hy_.shape; obtain ⟨B39, k39, d39, rfl⟩ := hn_.shape; replace hS := hS.ret hb_ stable_cube hx_; clear hx_ hb_ hy_ hn_ he_; (try simp only [Act.put, List.setIfInBounds_toArray, List.set_cons_zero, List.set_cons_succ]))
  | ((with_reducible refine qA 40 ?_); refine wpList_build_of rfl _ _ rfl #[.bool false, .slice A39 m39 c39, .slice B39 k39 d39, .int .i64 1, .int .i64 0] (by kernel_rfl) ?_; (try simp only [Act.put, List.setIfInBounds_toArray, List.set_cons_zero, List.set_cons_succ]))
  | ((with_reducible refine qA 41 ?_); refine st_litp hS rfl _ 58 1 _ rfl Tryz.underlying28 [(0, .agg #[.bool false, .slice A39 m39 c39, .slice B39 k39 d39, .int .i64 1, .int .i64 0])] (by simp [Act.eval]) #[.bool false, .slice A39 m39 c39, .slice B39 k39 d39, .int .i64 1, .int .i64 0] (by kernel_rfl) 5 rfl (by decide) ?_; clear hS; intro g41 w_ hS; (try simp only [Act.put, List.setIfInBounds_toArray, List.set_cons_zero, List.set_cons_succ]))
  | ((with_reducible refine qA 43 ?_); refine st_litown hS rfl _ 3 1 _ rfl Tryz.underlying48 #[.int .i64 1] (by kernel_rfl) 1 rfl (by decide) ?_; clear hS; intro g43 w_ hS; (try simp only [Act.put, List.setIfInBounds_toArray, List.set_cons_zero, List.set_cons_succ]))
  | ((with_reducible refine qA 44 ?_); refine BigFrame.wpList_want rfl fun _ hK => opw_callv (f := 49) (first := #[]) (caps := #[]) (vs := [.slice (some ⟨g43, 0, none⟩) 1 1]) rfl rfl (by kernel_rfl) (by simp [Act.eval, Act.put]) (one_any (l := [1]) (N := 2) (Sl.of_own (hS.own 0 rfl)) (by decide)) fun e w' ⟨x_, he_, hx_, hb_⟩ => ⟨x_, he_, hK _ _ ?_⟩; clear hK; obtain ⟨ya_, na_, rfl, hy_, hn_⟩ := id hx_; obtain ⟨A44, m44, c44, rfl⟩ := hy_.shape; obtain ⟨B44, k44, d44, rfl⟩ := hn_.shape; replace hS := hS.ret hb_ stable_cube hx_; clear hx_ hb_ hy_ hn_ he_; (try simp only [Act.put, List.setIfInBounds_toArray, List.set_cons_zero, List.set_cons_succ]))
  | ((with_reducible refine qA 45 ?_); refine st_litp hS rfl _ 56 1 _ rfl Tryz.underlying29 [(0, .agg #[.slice A44 m44 c44, .slice B44 k44 d44])] (by simp [Act.eval]) #[.slice A44 m44 c44, .slice B44 k44 d44] (by kernel_rfl) 2 rfl (by decide) ?_; clear hS; intro g45 w_ hS; (try simp only [Act.put, List.setIfInBounds_toArray, List.set_cons_zero, List.set_cons_succ]))
  | ((with_reducible refine qA 46 ?_); refine wpList_build_of rfl _ _ rfl #[.int .i64 5, .pointer (some ⟨q4, 0, none⟩), .slice A36 n36 c36, .slice (some ⟨g41, 0, none⟩) 1 1, .slice none 0 0, .slice (some ⟨g45, 0, none⟩) 1 1] (by kernel_rfl) ?_; (try simp only [Act.put, List.setIfInBounds_toArray, List.set_cons_zero, List.set_cons_succ]))
  | ((with_reducible refine qA 6 ?_); refine qa hS #[.int .i64 0, .pointer none, .slice none 0 0, .slice none 0 0, .slice none 0 0, .slice none 0 0] ?_; clear hS; intro g6 w_ hS)
  | ((with_reducible refine qM ?_); (first | refine qS hS 0 ?_ | refine qS hS 1 ?_ | refine qS hS 2 ?_ | refine qS hS 3 ?_ | refine qT hS 0 ?_ | refine qT hS 1 ?_ | refine qT hS 2 ?_ | refine qT hS 3 ?_); clear hS; intro w_ hS; (try simp only [Act.put, Act.eval, z1, z2, z3, z4, z5, z6, z7, z8, Value.cells] at hS))
  | ((with_reducible refine qA 50 ?_)
     replace hS := (hS.freeze 1 (by decide) rfl).freeze 2 (by decide) rfl
     obtain ⟨K5, m0, kp2, hS2⟩ : ∃ K5 : (Nat → Prop) → World → Prop, (∀ D w, K5 D w → K3 D w) ∧ (∀ D w, K5 D w → IsProb w D (.agg #[.int .i64 5, .pointer (some ⟨q4, 0, none⟩), .slice A36 n36 c36, .slice (some ⟨g41, 0, none⟩) 1 1, .slice none 0 0, .slice (some ⟨g45, 0, none⟩) 1 1]) P2) ∧ St w0 w_ (.box g6 31 #[.int .i64 5, .pointer (some ⟨q4, 0, none⟩), .slice A36 n36 c36, .slice (some ⟨g41, 0, none⟩) 1 1, .slice none 0 0, .slice (some ⟨g45, 0, none⟩) 1 1] :: .box g3 31 #[.int .i64 R3, .pointer (some ⟨q3, 0, none⟩), .slice A3 n3 c3, .slice Ar3 2 cr3, .slice An3 1 cn3, .slice Ag3 ng3 cg3] :: .box g2 31 #[.int .i64 5, .pointer (some ⟨q, 0, none⟩), .slice none 0 0, .slice (some ⟨g18, 0, none⟩) 4 4, .slice (some ⟨g22, 0, none⟩) 1 1, .slice (some ⟨g26, 0, none⟩) 1 1] :: F) K5 :=
       ⟨_, fun D w h => h.1.1.1.1.1.1, fun D w h => ⟨_, _, _, _, _, rfl, h.1.1.1.1.1.2, h.1.1.1.1.2, ⟨_, h.2, RuleCells.single (z := ⟨false, 12, 0, 1, 0⟩) h.1.1.1.2.sets.1 h.1.1.1.2.sets.2⟩, ⟨[], Sl.none_, fun i y n hi => by simp [P2] at hi⟩, _, h.1.2, cc1 h.1.1.2⟩, hS.sub (.cons_cons _ (((List.sublist_cons_self _ _).trans (List.sublist_cons_self _ _)).trans (List.sublist_cons_self _ _)))⟩
     clear hS
     have hS := hS2
     clear hS2
     refine BigFrame.wpList_want rfl fun _ hK => opw_row rfl rfl (hS.box 2 rfl) Tryz.underlying31 rfl (by kernel_rfl) (hK _ _ ?_)))
 have hkp : ∀ D w, K5 D w → IsProb w D (.agg #[.int .i64 5, .pointer (some ⟨q, 0, none⟩), .slice none 0 0, .slice (some ⟨g18, 0, none⟩) 4 4, .slice (some ⟨g22, 0, none⟩) 1 1, .slice (some ⟨g26, 0, none⟩) 1 1]) P1 := fun D w h => kp1 D w (j0 D w (m0 D w h))
 have hkt : ∀ D w, K5 D w → DTab w := fun D w h => (kt D w (k0 D w (j0 D w (m0 D w h)))).1
 have hjk : ∀ D w, K5 D w → Sl w D 1 k3 ([0, 1] : List Int).length (ints [0, 1]) := fun D w h => jk D w (m0 D w h)
 refine (relevant_any (hkp _ _ hS.ro) ok1 (hkt _ _ hS.ro)).mono ?_
 rw [relS1]
 rintro r_ w7 ⟨_, rfl, h1, hb_⟩
 replace hS := hS.ret hb_ stable_set h1
 clear h1 hb_
 go_wp2_with (first
  | ((with_reducible refine qA 52 ?_); refine st_litg hS rfl _ 3 3 _ rfl Tryz.underlying48 #[.int .i64 1, .int .i64 2, .int .i64 5] (by kernel_rfl) 1 rfl (by decide) ?_; clear hS; intro g52 w_ hS; (try simp only [Act.put, List.setIfInBounds_toArray, List.set_cons_zero, List.set_cons_succ]))
  | (go_at_call 50; refine (of_any _ [1, 2, 5] _ _ (Sl.of_own (hS.own 0 rfl))).mono ?_; rw [show ofN [1, 2, 5] = 38 from by decide]; rintro r_ w_ ⟨_, rfl, h1, hb_⟩; replace hS := hS.ret hb_ stable_set h1; clear h1 hb_)
  | (go_at_call 14; refine (equal_any _ _ 38 38 _ _ _ hS.ro.1.2 hS.ro.2).mono ?_; rintro r_ w_ ⟨_, rfl, rfl, hb_⟩; rw [show ((38 : Nat) == 38) = true from rfl]; replace hS := hS.ext hb_; clear hb_)
  | ((with_reducible refine qA 58 ?_); refine st_litg hS rfl _ 3 2 _ rfl Tryz.underlying48 #[.int .i64 0, .int .i64 1] (by kernel_rfl) 1 rfl (by decide) ?_; clear hS; intro g58 w_ hS; (try simp only [Act.put, List.setIfInBounds_toArray, List.set_cons_zero, List.set_cons_succ])))
 refine (sleq_any _ _ [0, 1] [0, 1] _ _ _ (hjk _ _ hS.ro.1.1) (Sl.of_own (hS.own 0 rfl))).mono ?_
 rintro r_ w8 ⟨_, rfl, rfl, hb_⟩
 rw [show (([0, 1] : List Int) == [0, 1]) = true from rfl]
 replace hS := hS.ext hb_
 clear hb_
 go_wp2_with (first
  | ((with_reducible refine qK ?_); first | refine qC hS 0 ?_ | refine qC hS 1 ?_ | refine qC hS 2 ?_ | refine qC hS 3 ?_ | refine qC hS 4 ?_ | refine qC hS 5 ?_ | refine qC hS 6 ?_ | refine qC hS 7 ?_)
  | ((with_reducible refine qA 74 ?_); refine BigFrame.wpList_want rfl fun _ hK => opw_row rfl rfl (hS.box 2 rfl) Tryz.underlying31 rfl (by kernel_rfl) (hK _ _ ?_))
  | (go_at_call 21; refine (useless_any (kp2 _ _ hS.ro.1.1) ok2 (hkt _ _ hS.ro.1.1)).mono ?_; rw [use2]; rintro e_ w_ ⟨u9, rfl, hs⟩; replace hS := hS.new hs.below (.own u9 3 1 ([0] : List Int).length (ints [0])) (hs.own 0 rfl); clear hs)
  | ((with_reducible refine qA 76 ?_); refine st_litg hS rfl _ 3 1 _ rfl Tryz.underlying48 #[.int .i64 0] (by kernel_rfl) 1 rfl (by decide) ?_; clear hS; intro g76 w_ hS; (try simp only [Act.put, List.setIfInBounds_toArray, List.set_cons_zero, List.set_cons_succ]))
  | (go_at_call 30; refine (sleq_any _ _ [0] [0] _ _ _ (Sl.of_own (hS.own 1 rfl)) (Sl.of_own (hS.own 0 rfl))).mono ?_; rintro r_ w_ ⟨_, rfl, rfl, hb_⟩; rw [show (([0] : List Int) == [0]) = true from rfl]; replace hS := hS.ext hb_; clear hb_))
 go_ret
 exact ⟨rfl, (hS.sub (.cons _ (.cons _ (.cons _ (.cons _ (.cons _ (.cons _ (.cons _ (List.Sublist.refl _))))))))).mono KS.out fun D w h => k0 _ _ (j0 _ _ (m0 _ _ h.1.1))⟩
end Go.Proofs.YtihpgmbinhmmlaaGreatDoor
namespace Go.Proofs.YtihpgmbinhmmlaaGreatDoor
open Go.RowKit
attribute [local go_sem ↓] Go.wp_at_zero Go.wp_at_succ
set_option maxRecDepth 20000
set_option exponentiation.threshold 5000

theorem start_bytes1 {W : World} {D : Nat → Prop} {v : Value} {l : List Nat} (h : DTab W) (hv : Sl W D 1 v l.length (u8s l)) : ∃ K : (Nat → Prop) → World → Prop, (∀ D w, K D w → DTab w ∧ D 0) ∧ (∀ D w, K D w → Sl w D 1 v l.length (u8s l)) ∧ St W W [] K :=
 ⟨fun D w => (DTab w ∧ D 0) ∧ Sl w D 1 v l.length (u8s l), fun _ _ h => h.1, fun _ _ h => h.2, St.start (D := fun _ => True) (dtab_stable.and (stable_sl (by decide))) ⟨⟨h, trivial⟩, hv.imp fun _ _ _ => trivial⟩⟩
end Go.Proofs.YtihpgmbinhmmlaaGreatDoor
namespace Go.Proofs.YtihpgmbinhmmlaaGreatDoor
open Go.RowKit
attribute [local go_sem ↓] Go.wp_at_zero Go.wp_at_succ
set_option maxRecDepth 20000
set_option exponentiation.threshold 5000

theorem st_gstoreS {P : Program} {ops : Array Oper} {rest : List Oper} {o : Oper} {a : Act} {w0 w : World} {F : List Fact} {K : (Nat → Prop) → World → Prop} {Q : Exit → Act → World → Prop} (h : St w0 w F K) (i : Nat) (hg : o.guard = none) (ty : TypeId) (x y : Operand) (ho : o.op = .store ty x y) (g j : Nat) (u : Value) (hx : a.eval x = .pointer (some ⟨g, j, none⟩)) (hy : a.eval y = .agg #[u]) {t : TypeId} {cs : Array Value} (hb : F[i]? = some (.box g t cs)) (hi : j < cs.size)
  (h1 : u.oneCell' = true) (hs : (P.info? ty).map (·.size) = some 1) (hk : ∀ w', St w0 w' (F.set i (.box g t (cs.setIfInBounds j u))) K → wpList P ops Q rest (a.put o.dst undef) w') : wpList P ops Q (o :: rest) a w := by
 have hB := h.box i hb
 refine wpList_store_mid hg ty x y ho g j #[u] hx hy (fun k hk => ?_) hs (by simpa using h1) ?_
 ·obtain rfl : k = 0 := by simpa using hk
  exact ⟨by rw [hB.cell]; simp [hi], hB.free _⟩
 ·refine hk _ (h.upd i hb (.box g t (cs.setIfInBounds j u)) (upd_gb (upd_setCell w g j u)) ⟨(h.holds _ (List.mem_of_getElem? hb)).1, hB.setC u⟩ fun _ e => .inl e)
theorem run_rem8 {P : Program} {w : World} {t : TypeId} {n m : Nat} (hm : 0 < m) : (binOp .rem t (.int .u8 (n : Nat)) (.int .u8 (m : Nat))).run P w = .ok (.int .u8 ((n % m : Nat) : Int)) w := by
 go_simp
 rw [if_neg (by omega), tmod_nat n m]
 first
  | rfl
  | simp
theorem run_quo8 {P : Program} {w : World} {t : TypeId} {n : Nat} (hn : n < 256) : (binOp .quo t (.int .u8 (n : Nat)) (.int .u8 8)).run P w = .ok (.int .u8 ((n / 8 : Nat) : Int)) w := by
 go_simp
 rw [show ((n : Int) / 8) = ((n / 8 : Nat) : Int) by omega]
 exact wrap_u8_nat (by omega)
theorem run_mul8 {P : Program} {w : World} {t : TypeId} {n : Nat} (hn : n < 2) : (binOp .mul t (.int .u8 (n : Nat)) (.int .u8 64)).run P w = .ok (.int .u8 ((n * 64 : Nat) : Int)) w := by
 match n, hn with
 | 0, _ => go_simp; rfl
 | 1, _ => go_simp; rfl
set_option maxHeartbeats 4000000 in
theorem spoilt_any {w0 w : World} {F : List Fact} {K : (Nat → Prop) → World → Prop} {v : Value} {p : ProbD} {L0 : List (Nat × Nat)} {R0 k : Nat} (hk : k < 256) (hM : MadeP p L0 R0) (hS : St w0 w F K) (kp : ∀ D w, K D w → IsProb w D v p) :
  Calls Tryz.prog 17 #[v, .int .u8 (k : Nat)] w fun e w' => ∃ u, e = .returned u ∧ ∃ p' : ProbD, p'.Ok ∧ St w0 w' F fun D w => K D w ∧ IsProb w D u p' := by
 have hP : p.Ok := hM.ok
 have HM := Lib.hid hM
 obtain ⟨R, lk, st, rl, nl, gl⟩ := p
 obtain ⟨lp, s, rv, nv, gv, rfl, hh, hs, hr, hn, hg⟩ := kp _ _ hS.ro
 dsimp only at hh hs hr hn hg
 obtain ⟨hP1, hP2, hP3, -⟩ := hP
 dsimp only at hP1 hP2 hP3
 have KS := Lib.hid hS.stable
 obtain ⟨la, rfl⟩ : ∃ la, lp = .pointer la := by
  cases lk with
  | none => exact ⟨none, hh⟩
  | some L => obtain ⟨q, o, rfl, -⟩ := hh; exact ⟨_, rfl⟩
 obtain ⟨Cs, ns, cs, rfl⟩ := hs.shape
 obtain ⟨Ar, cr, rfl, _, _⟩ := hr.shape
 obtain ⟨An, cn, rfl, _, _⟩ := hn.shape
 obtain ⟨Ag, cg, rfl, _, _⟩ := hg.shape
 obtain ⟨xr, hr1, hr2⟩ := hr
 obtain ⟨xn, hn1, hn2⟩ := hn
 obtain ⟨xg, hg1, hg2⟩ := hg
 have OR : Hid (∀ u ∈ xr, u.oneCell' = true) := Lib.hid (hr2.one hr1.1)
 have ON : Hid (∀ u ∈ xn, u.oneCell' = true) := Lib.hid (CubeCells.one hn1.1 hn2)
 have OG : Hid (∀ u ∈ xg, u.oneCell' = true) := Lib.hid (CubeCells.one hg1.1 hg2)
 obtain ⟨K1, k0, kh, ks, kr, kn, kg, kr2, kn2, kg2, hS2⟩ : ∃ K1 : (Nat → Prop) → World → Prop, (∀ D w, K1 D w → K D w) ∧ (∀ D w, K1 D w → IsHo w D (.pointer la) lk) ∧ (∀ D w, K1 D w → IsSet w D (.agg #[.slice Cs ns cs]) st) ∧ (∀ D w, K1 D w → Sl w D 5 (.slice Ar rl.length cr) rl.length xr) ∧ (∀ D w, K1 D w → Sl w D 2 (.slice An nl.length cn) nl.length xn) ∧ (∀ D w, K1 D w → Sl w D 2 (.slice Ag gl.length cg) gl.length xg) ∧ (∀ D w, K1 D w → RuleCells w D xr rl) ∧ (∀ D w, K1 D w → CubeCells w D xn nl) ∧ (∀ D w, K1 D w → CubeCells w D xg gl) ∧ St w0 w F K1 :=
  ⟨_, fun _ _ h => h.1, fun _ _ h => h.2.1.1, fun _ _ h => h.2.1.2, fun _ _ h => h.2.2.1.1, fun _ _ h => h.2.2.2.1.1, fun _ _ h => h.2.2.2.2.1, fun _ _ h => h.2.2.1.2, fun _ _ h => h.2.2.2.1.2, fun _ _ h => h.2.2.2.2.2, hS.add (D := Free F) ((stable_ho.and stable_set).and (((stable_sl (by decide)).and stable_rcells).and (((stable_sl (by decide)).and stable_cc).and ((stable_sl (by decide)).and stable_cc)))) ⟨⟨hh, hs⟩, ⟨hr1, hr2⟩, ⟨hn1, hn2⟩, hg1, hg2⟩ fun _ h _ => h⟩
 clear hS hh hs hr1 hr2 hn1 hn2 hg1 hg2 kp
 have hS := hS2
 clear hS2
 have kc : ∀ {w1 : World} {F1 : List Fact}, St w0 w1 F1 K1 → K1 (Free F1) w1 := fun h => h.ro
 have HPL := Lib.hid HM.out.ok.links
 have KSt := Lib.hid (show Stable K from KS.out)
 have hRR : R = (R0 : Int) := HM.out.roles
 subst hRR
 have hR5 := HM.out.r5
 have hl6 : rl.length ≤ 6 := HM.out.rlen
 have hl3 : nl.length ≤ 3 := HM.out.nlen
 have hg3 : gl.length ≤ 3 := HM.out.glen
 have KS1 := Lib.hid hS.stable
 clear hM
 go_enter Tryz.func17, Tryz.ntmps17
 go_wp2_with (first
  | ((with_reducible refine qA 2 ?_); refine st_box hS rfl _ _ rfl (.agg #[.int .i64 (R0 : Nat), .pointer la, .slice Cs ns cs, .slice Ar rl.length cr, .slice An nl.length cn, .slice Ag gl.length cg]) _ rfl rfl ?_; clear hS; intro g2 w_ hS; (try simp only [Act.put, Act.eval, z1, z2, z3, z4, z5, z6, z7, z8, Value.cells] at hS))
  | ((with_reducible refine qA 4 ?_); refine qa hS #[.int .i64 0, .pointer none, .slice none 0 0, .slice none 0 0, .slice none 0 0, .slice none 0 0] ?_; clear hS; intro g4 w_ hS)
  | ((with_reducible refine qA 6 ?_); refine st_someN (k := .u8) rfl _ _ _ _ _ rfl rfl rfl (fun z => z < 8) (z := k % 8) rfl (run_rem8 (m := 8) (by decide)) (by omega) ?_; intro z6 h6)
  | ((with_reducible refine qA 13 ?_); refine st_someN (k := .u8) rfl _ _ _ _ _ rfl rfl rfl (fun z => z < 32) (z := k / 8) rfl (run_quo8 hk) (by omega) ?_; intro z13 h13)
  | ((with_reducible refine qA 14 ?_); refine st_someN (k := .u8) rfl _ _ _ _ _ rfl rfl rfl (fun z => z < 2) (z := z13 % 2) rfl (run_rem8 (m := 2) (by decide)) (by omega) ?_; intro z14 h14)
  | ((with_reducible refine qA 15 ?_); refine st_someN (k := .u8) rfl _ _ _ _ _ rfl rfl rfl (fun z => z < 128) (z := z14 * 64) rfl (run_mul8 h14) (by omega) ?_; intro z15 h15)
  | ((with_reducible refine qA 24 ?_); refine st_addN (n := R0) (m := 1) rfl _ _ _ _ rfl (fun z => z = R0 + 1) rfl rfl (by omega) rfl ?_; rintro z24 rfl)
  | (go_at_call 59; refine (with_any _ _ _ _ _ (ks _ _ hS.ro)).mono ?_; rintro r_ w_ ⟨_, rfl, h1, hb_⟩; replace hS := hS.ret2 hb_ stable_set h1; clear h1 hb_; obtain ⟨A25, c25, l25, rfl, -⟩ := hS.ro.2.parts; obtain ⟨n25, hn25⟩ : ∃ n, n = l25.length := ⟨_, rfl⟩; rw [← hn25] at hS ⊢; clear hn25)
  | ((with_reducible refine qm 27 ?_); refine st_gstoreS hS 1 rfl _ _ _ rfl _ _ _ rfl rfl rfl (by simp) rfl (by kernel_rfl) ?_; clear hS; intro w_ hS; (try simp only [Act.put, Act.eval, z1, z2, z3, z4, z5, z6, z7, z8, Value.cells] at hS))
  | ((with_reducible show Calls _ _ #[.slice An nl.length cn] _ _); go_at_call 60; refine (kclone_any (kn _ _ (kc hS)) ON.out (by omega)).mono ?_; rintro e w_ ⟨cv, rfl, hs⟩; replace hS := hS.new hs.below (.own cv 56 2 nl.length xn) (hs.own 0 rfl); clear hs; obtain ⟨A31, c31, rfl, _, _⟩ := own_shp (hS.own 0 rfl))
  | ((with_reducible show Calls _ _ #[.slice Ag gl.length cg] _ _); go_at_call 60; refine (kclone_any (kg _ _ (kc hS)) OG.out (by omega)).mono ?_; rintro e w_ ⟨cv, rfl, hs⟩; replace hS := hS.new hs.below (.own cv 56 2 gl.length xg) (hs.own 0 rfl); clear hs; obtain ⟨A40, c40, rfl, _, _⟩ := own_shp (hS.own 0 rfl))
  | ((with_reducible show Calls _ _ #[.slice Ar rl.length cr] _ _); go_at_call 61; refine (rclone_any (kr _ _ (kc hS)) OR.out (by omega)).mono ?_; rintro e w_ ⟨cv, rfl, hs⟩; replace hS := hS.new hs.below (.own cv 58 5 rl.length xr) (hs.own 0 rfl); clear hs; obtain ⟨A53, c53, rfl, _, _⟩ := own_shp (hS.own 0 rfl))
  | ((with_reducible refine qA 32 ?_); refine wpList_build_of rfl _ _ rfl #[.slice none 0 0, .slice none 0 0] (by kernel_rfl) ?_; (try simp only [Act.put, List.setIfInBounds_toArray, List.set_cons_zero, List.set_cons_succ]))
  | ((with_reducible refine qA 33 ?_); refine st_push hS 0 rfl rfl _ _ _ _ rfl rfl ty_cubes (.slice A31 nl.length c31) nl.length xn (.agg #[.slice none 0 0, .slice none 0 0]) #[.slice none 0 0, .slice none 0 0] rfl (by kernel_rfl) rfl rfl rfl rfl (by intro u hu; simp at hu; first | (rcases hu with rfl | rfl | rfl | rfl | rfl <;> rfl) | (rcases hu with rfl | rfl | rfl | rfl <;> rfl) | (rcases hu with rfl | rfl | rfl <;> rfl) | (rcases hu with rfl | rfl <;> rfl) | (subst hu; rfl)) (by omega) (by omega) ?_; clear hS; intro z_ v' w_ hS; (try simp only [Act.put, Act.eval, z1, z2, z3, z4, z5, z6, z7, z8, Value.cells] at hS); obtain ⟨A34, c34, rfl, _, _⟩ := own_shp (hS.own 0 rfl))
  | ((with_reducible refine qA 41 ?_); refine st_litown hS rfl _ 3 1 _ rfl Tryz.underlying48 #[.int .i64 1] (by kernel_rfl) 1 rfl (by decide) ?_; clear hS; intro g41 w_ hS; (try simp only [Act.put, List.setIfInBounds_toArray, List.set_cons_zero, List.set_cons_succ]))
  | ((with_reducible show Calls _ _ #[.slice (some ⟨g41, 0, none⟩) 1 1] _ _); go_at_call 50; refine (of_any _ [1] _ _ (Sl.of_own (hS.own 0 rfl))).mono ?_; rw [show ofN [1] = 2 from by decide]; rintro r_ w_ ⟨_, rfl, h1, hb_⟩; replace hS := hS.ret hb_ stable_set h1; clear h1 hb_; obtain ⟨A42, c42, l42, rfl, -⟩ := hS.ro.2.parts; obtain ⟨n42, hn42⟩ : ∃ n, n = l42.length := ⟨_, rfl⟩; rw [← hn42] at hS ⊢; clear hn42)
  | ((with_reducible refine qA 43 ?_); refine st_litown hS rfl _ 3 1 _ rfl Tryz.underlying48 #[.int .i64 1] (by kernel_rfl) 1 rfl (by decide) ?_; clear hS; intro g43 w_ hS; (try simp only [Act.put, List.setIfInBounds_toArray, List.set_cons_zero, List.set_cons_succ]))
  | ((with_reducible show Calls _ _ #[.slice (some ⟨g43, 0, none⟩) 1 1] _ _); go_at_call 50; refine (of_any _ [1] _ _ (Sl.of_own (hS.own 0 rfl))).mono ?_; rw [show ofN [1] = 2 from by decide]; rintro r_ w_ ⟨_, rfl, h1, hb_⟩; replace hS := hS.ret hb_ stable_set h1; clear h1 hb_; obtain ⟨A44, c44, l44, rfl, -⟩ := hS.ro.2.parts; obtain ⟨n44, hn44⟩ : ∃ n, n = l44.length := ⟨_, rfl⟩; rw [← hn44] at hS ⊢; clear hn44)
  | ((with_reducible refine qA 45 ?_); refine wpList_build_of rfl _ _ rfl #[.slice A42 n42 c42, .slice A44 n44 c44] (by kernel_rfl) ?_; (try simp only [Act.put, List.setIfInBounds_toArray, List.set_cons_zero, List.set_cons_succ]))
  | ((with_reducible refine qA 46 ?_); refine st_push hS 2 rfl rfl _ _ _ _ rfl rfl ty_cubes (.slice A40 gl.length c40) gl.length xg (.agg #[.slice A42 n42 c42, .slice A44 n44 c44]) #[.slice A42 n42 c42, .slice A44 n44 c44] rfl (by kernel_rfl) rfl rfl rfl rfl (by intro u hu; simp at hu; first | (rcases hu with rfl | rfl | rfl | rfl | rfl <;> rfl) | (rcases hu with rfl | rfl | rfl | rfl <;> rfl) | (rcases hu with rfl | rfl | rfl <;> rfl) | (rcases hu with rfl | rfl <;> rfl) | (subst hu; rfl)) (by omega) (by omega) ?_; clear hS; intro z_ v' w_ hS; (try simp only [Act.put, Act.eval, z1, z2, z3, z4, z5, z6, z7, z8, Value.cells] at hS); obtain ⟨A47, c47, rfl, _, _⟩ := own_shp (hS.own 2 rfl))
  | ((with_reducible refine qA 55 ?_); refine st_someN (k := .u8) rfl _ _ _ _ _ rfl rfl rfl (fun z => z < 32) (z := k / 8) rfl (run_quo8 hk) (by omega) ?_; intro z55 h55)
  | ((with_reducible refine qA 56 ?_); refine st_someN (k := .u8) rfl _ _ _ _ _ rfl rfl rfl (fun z => z < 2) (z := z55 % 2) rfl (run_rem8 (m := 2) (by decide)) (by omega) ?_; intro z56 h56)
  | ((with_reducible refine qA 58 ?_); refine wpList_build_of rfl _ _ rfl #[.bool false, .slice none 0 0, .slice none 0 0, .int .i64 (z56 : Nat), .int .i64 0] (by kernel_rfl) ?_; (try simp only [Act.put, List.setIfInBounds_toArray, List.set_cons_zero, List.set_cons_succ]))
  | ((with_reducible refine qA 59 ?_); refine st_push hS 0 rfl rfl _ _ _ _ rfl rfl ty_rules (.slice A53 rl.length c53) rl.length xr (.agg #[.bool false, .slice none 0 0, .slice none 0 0, .int .i64 (z56 : Nat), .int .i64 0]) #[.bool false, .slice none 0 0, .slice none 0 0, .int .i64 (z56 : Nat), .int .i64 0] rfl (by kernel_rfl) rfl rfl rfl rfl (by intro u hu; simp at hu; first | (rcases hu with rfl | rfl | rfl | rfl | rfl <;> rfl) | (rcases hu with rfl | rfl | rfl | rfl <;> rfl) | (rcases hu with rfl | rfl | rfl <;> rfl) | (rcases hu with rfl | rfl <;> rfl) | (subst hu; rfl)) (by omega) (by omega) ?_; clear hS; intro z_ v' w_ hS; (try simp only [Act.put, Act.eval, z1, z2, z3, z4, z5, z6, z7, z8, Value.cells] at hS); obtain ⟨A60, c60, rfl, _, _⟩ := own_shp (hS.own 0 rfl))
  | ((with_reducible refine qA 67 ?_); refine st_litown hS rfl _ 3 1 _ rfl Tryz.underlying48 #[.int .i64 1] (by kernel_rfl) 1 rfl (by decide) ?_; clear hS; intro g67 w_ hS; (try simp only [Act.put, List.setIfInBounds_toArray, List.set_cons_zero, List.set_cons_succ]))
  | ((with_reducible show Calls _ _ #[.slice (some ⟨g67, 0, none⟩) 1 1] _ _); go_at_call 50; refine (of_any _ [1] _ _ (Sl.of_own (hS.own 0 rfl))).mono ?_; rw [show ofN [1] = 2 from by decide]; rintro r_ w_ ⟨_, rfl, h1, hb_⟩; replace hS := hS.ret hb_ stable_set h1; clear h1 hb_; obtain ⟨A68, c68, l68, rfl, -⟩ := hS.ro.2.parts; obtain ⟨n68, hn68⟩ : ∃ n, n = l68.length := ⟨_, rfl⟩; rw [← hn68] at hS ⊢; clear hn68)
  | ((with_reducible refine qA 69 ?_); refine wpList_build_of rfl _ _ rfl #[.slice A68 n68 c68, .slice none 0 0] (by kernel_rfl) ?_; (try simp only [Act.put, List.setIfInBounds_toArray, List.set_cons_zero, List.set_cons_succ]))
  | ((with_reducible refine qA 70 ?_); refine wpList_build_of rfl _ _ rfl #[.bool true, .slice A68 n68 c68, .slice none 0 0, .int .i64 1, .int .i64 0] (by kernel_rfl) ?_; (try simp only [Act.put, List.setIfInBounds_toArray, List.set_cons_zero, List.set_cons_succ]))
  | ((with_reducible refine qA 71 ?_); refine st_push hS 1 rfl rfl _ _ _ _ rfl rfl ty_rules (.slice A53 rl.length c53) rl.length xr (.agg #[.bool true, .slice A68 n68 c68, .slice none 0 0, .int .i64 1, .int .i64 0]) #[.bool true, .slice A68 n68 c68, .slice none 0 0, .int .i64 1, .int .i64 0] rfl (by kernel_rfl) rfl rfl rfl rfl (by intro u hu; simp at hu; first | (rcases hu with rfl | rfl | rfl | rfl | rfl <;> rfl) | (rcases hu with rfl | rfl | rfl | rfl <;> rfl) | (rcases hu with rfl | rfl | rfl <;> rfl) | (rcases hu with rfl | rfl <;> rfl) | (subst hu; rfl)) (by omega) (by omega) ?_; clear hS; intro z_ v' w_ hS; (try simp only [Act.put, Act.eval, z1, z2, z3, z4, z5, z6, z7, z8, Value.cells] at hS); obtain ⟨A72, c72, rfl, _, _⟩ := own_shp (hS.own 1 rfl))
  | ((with_reducible refine qB ?_); (first | refine q1 ?_ ?_ | refine q2 ?_ ?_ | refine q3 ?_ ?_ | refine q4 ?_ ?_ | refine q5 ?_ ?_ | refine q6 ?_ ?_) <;> intro h_ <;> go_prune)
  | ((with_reducible refine qA 74 ?_); first | (refine qL hS 1 Tryz.underlying31 ?_) | (refine qL hS 2 Tryz.underlying31 ?_) | (refine qL hS 3 Tryz.underlying31 ?_) | (refine qL hS 4 Tryz.underlying31 ?_))
  | ((with_reducible refine qm 29 ?_); (first | (refine st_cstore hS 2 rfl _ _ _ rfl _ _ _ rfl rfl rfl (by simp) rfl rfl (by kernel_rfl) ?_) | (refine st_cstore hS 4 rfl _ _ _ rfl _ _ _ rfl rfl rfl (by simp) rfl rfl (by kernel_rfl) ?_)); clear hS; intro w_ hS; (try simp only [Act.put, Act.eval, z1, z2, z3, z4, z5, z6, z7, z8, Value.cells] at hS))
  | ((with_reducible refine qk 27 ?_); first | (refine st_setl hS 0 rfl _ _ rfl _ _ rfl _ _ rfl _ (by first | rfl | assumption) Tryz.underlying27 rfl (by kernel_rfl) ?_) | (refine st_setl hS 1 rfl _ _ rfl _ _ rfl _ _ rfl _ (by first | rfl | assumption) Tryz.underlying27 rfl (by kernel_rfl) ?_) | (refine st_setl hS 2 rfl _ _ rfl _ _ rfl _ _ rfl _ (by first | rfl | assumption) Tryz.underlying27 rfl (by kernel_rfl) ?_) | (refine st_setl hS 3 rfl _ _ rfl _ _ rfl _ _ rfl _ (by first | rfl | assumption) Tryz.underlying27 rfl (by kernel_rfl) ?_) | (refine st_setl hS 4 rfl _ _ rfl _ _ rfl _ _ rfl _ (by first | rfl | assumption) Tryz.underlying27 rfl (by kernel_rfl) ?_) | (refine st_setl hS 5 rfl _ _ rfl _ _ rfl _ _ rfl _ (by first | rfl | assumption) Tryz.underlying27 rfl (by kernel_rfl) ?_))
  | ((with_reducible refine qK ?_); first | refine qC hS 0 ?_ | refine qC hS 1 ?_ | refine qC hS 2 ?_ | refine qC hS 3 ?_ | refine qC hS 4 ?_ | refine qC hS 5 ?_ | refine qC hS 6 ?_ | refine qC hS 7 ?_)
  | ((with_reducible refine qM ?_); (first | refine qS hS 0 ?_ | refine qS hS 1 ?_ | refine qS hS 2 ?_ | refine qS hS 3 ?_ | refine qT hS 0 ?_ | refine qT hS 1 ?_ | refine qT hS 2 ?_ | refine qT hS 3 ?_); clear hS; intro w_ hS; (try simp only [Act.put, Act.eval, z1, z2, z3, z4, z5, z6, z7, z8, Value.cells] at hS)))
 ·have hS1 := hS
  refine ret_cell Tryz.results17 rfl (hS.box 0 rfl) Tryz.underlying31 rfl (by kernel_rfl) rfl ?_
  refine ⟨_, rfl, ⟨R0, none, st, rl, nl, gl⟩, ⟨by simp; omega, by simp; omega, by simp; omega, fun L h => by cases h⟩, (hS1.sub (F' := F) (by repeat (first | exact List.Sublist.refl _ | apply List.Sublist.cons))).mono (KSt.out.and stable_prob) fun D w h => ?_⟩
  exact ⟨k0 _ _ h, _, _, _, _, _, rfl, rfl, ks _ _ h, ⟨xr, kr _ _ h, kr2 _ _ h⟩, ⟨xn, kn _ _ h, kn2 _ _ h⟩, ⟨xg, kg _ _ h, kg2 _ _ h⟩⟩
 ·have hS1 := hS
  refine ret_cell Tryz.results17 rfl (hS.box 0 rfl) Tryz.underlying31 rfl (by kernel_rfl) rfl ?_
  refine ⟨_, rfl, ⟨(z15 : Nat), lk, st, rl, nl, gl⟩, ⟨by simp; omega, by simp; omega, by simp; omega, HPL.out⟩, (hS1.sub (F' := F) (by repeat (first | exact List.Sublist.refl _ | apply List.Sublist.cons))).mono (KSt.out.and stable_prob) fun D w h => ?_⟩
  exact ⟨k0 _ _ h, _, _, _, _, _, rfl, kh _ _ h, ks _ _ h, ⟨xr, kr _ _ h, kr2 _ _ h⟩, ⟨xn, kn _ _ h, kn2 _ _ h⟩, ⟨xg, kg _ _ h, kg2 _ _ h⟩⟩
 ·have hS1 := hS
  refine ret_cell Tryz.results17 rfl (hS.box 0 rfl) Tryz.underlying31 rfl (by kernel_rfl) rfl ?_
  refine ⟨_, rfl, ⟨R0, lk, withN st ((R0 + 1 : Nat) : Int), rl, nl, gl⟩, ⟨by simp; omega, by simp; omega, by simp; omega, HPL.out⟩, (hS1.sub (F' := F) (by repeat (first | exact List.Sublist.refl _ | apply List.Sublist.cons))).mono (KSt.out.and stable_prob) fun D w h => ?_⟩
  exact ⟨k0 _ _ h.1, _, _, _, _, _, rfl, kh _ _ h.1, h.2, ⟨xr, kr _ _ h.1, kr2 _ _ h.1⟩, ⟨xn, kn _ _ h.1, kn2 _ _ h.1⟩, ⟨xg, kg _ _ h.1, kg2 _ _ h.1⟩⟩
 ·have hS1 := hS.freeze 0 (by decide) rfl
  refine ret_cell Tryz.results17 rfl (hS.box 1 rfl) Tryz.underlying31 rfl (by kernel_rfl) rfl ?_
  refine ⟨_, rfl, ⟨R0, lk, st, rl, nl ++ [(0, 0)], gl⟩, ⟨by simp; omega, by simp; omega, by simp; omega, HPL.out⟩, (hS1.sub (F' := F) (by repeat (first | exact List.Sublist.refl _ | apply List.Sublist.cons))).mono (KSt.out.and stable_prob) fun D w h => ?_⟩
  exact ⟨k0 _ _ h.1, _, _, _, _, _, rfl, kh _ _ h.1, ks _ _ h.1, ⟨xr, kr _ _ h.1, kr2 _ _ h.1⟩, ⟨_, by rw [List.length_append]; exact h.2, CubeCells.append (kn _ _ h.1).1 (kn2 _ _ h.1) (cc1 ⟨_, _, rfl, IsSet.empty, IsSet.empty⟩)⟩, ⟨xg, kg _ _ h.1, kg2 _ _ h.1⟩⟩
 ·have hS1 := hS.freeze 2 (by decide) rfl
  refine ret_cell Tryz.results17 rfl (hS.box 3 rfl) Tryz.underlying31 rfl (by kernel_rfl) rfl ?_
  refine ⟨_, rfl, ⟨R0, lk, st, rl, nl, gl ++ [(2, 2)]⟩, ⟨by simp; omega, by simp; omega, by simp; omega, HPL.out⟩, (hS1.sub (F' := F) (by repeat (first | exact List.Sublist.refl _ | apply List.Sublist.cons))).mono (KSt.out.and stable_prob) fun D w h => ?_⟩
  exact ⟨k0 _ _ h.1.1.1, _, _, _, _, _, rfl, kh _ _ h.1.1.1, ks _ _ h.1.1.1, ⟨xr, kr _ _ h.1.1.1, kr2 _ _ h.1.1.1⟩, ⟨xn, kn _ _ h.1.1.1, kn2 _ _ h.1.1.1⟩, ⟨_, by rw [List.length_append]; exact h.2, CubeCells.append (kg _ _ h.1.1.1).1 (kg2 _ _ h.1.1.1) (cc1 ⟨_, _, rfl, h.1.1.2, h.1.2⟩)⟩⟩
 ·have hS1 := hS.freeze 0 (by decide) rfl
  refine ret_cell Tryz.results17 rfl (hS.box 1 rfl) Tryz.underlying31 rfl (by kernel_rfl) rfl ?_
  refine ⟨_, rfl, ⟨R0, lk, st, rl ++ [⟨false, 0, 0, (z56 : Nat), 0⟩], nl, gl⟩, ⟨by simp; omega, by simp; omega, by simp; omega, HPL.out⟩, (hS1.sub (F' := F) (by repeat (first | exact List.Sublist.refl _ | apply List.Sublist.cons))).mono (KSt.out.and stable_prob) fun D w h => ?_⟩
  exact ⟨k0 _ _ h.1, _, _, _, _, _, rfl, kh _ _ h.1, ks _ _ h.1, ⟨_, by rw [List.length_append]; exact h.2, RuleCells.append (kr _ _ h.1).1 (kr2 _ _ h.1) (RuleCells.single (z := ⟨false, 0, 0, (z56 : Nat), 0⟩) IsSet.empty IsSet.empty)⟩, ⟨xn, kn _ _ h.1, kn2 _ _ h.1⟩, ⟨xg, kg _ _ h.1, kg2 _ _ h.1⟩⟩
 ·have hS1 := hS.freeze 1 (by decide) rfl
  refine ret_cell Tryz.results17 rfl (hS.box 2 rfl) Tryz.underlying31 rfl (by kernel_rfl) rfl ?_
  refine ⟨_, rfl, ⟨R0, lk, st, rl ++ [⟨true, 2, 0, 1, 0⟩], nl, gl⟩, ⟨by simp; omega, by simp; omega, by simp; omega, HPL.out⟩, (hS1.sub (F' := F) (by repeat (first | exact List.Sublist.refl _ | apply List.Sublist.cons))).mono (KSt.out.and stable_prob) fun D w h => ?_⟩
  exact ⟨k0 _ _ h.1.1, _, _, _, _, _, rfl, kh _ _ h.1.1, ks _ _ h.1.1, ⟨_, by rw [List.length_append]; exact h.2, RuleCells.append (kr _ _ h.1.1).1 (kr2 _ _ h.1.1) (RuleCells.single (z := ⟨true, 2, 0, 1, 0⟩) h.1.2 IsSet.empty)⟩, ⟨xn, kn _ _ h.1.1, kn2 _ _ h.1.1⟩, ⟨xg, kg _ _ h.1.1, kg2 _ _ h.1.1⟩⟩
 ·have hS1 := hS
  refine ret_cell Tryz.results17 rfl (hS.box 0 rfl) Tryz.underlying31 rfl (by kernel_rfl) rfl ?_
  refine ⟨_, rfl, ⟨R0, lk, st, rl, nl, gl⟩, ⟨by simp; omega, by simp; omega, by simp; omega, HPL.out⟩, (hS1.sub (F' := F) (by repeat (first | exact List.Sublist.refl _ | apply List.Sublist.cons))).mono (KSt.out.and stable_prob) fun D w h => ?_⟩
  exact ⟨k0 _ _ h, _, _, _, _, _, rfl, kh _ _ h, ks _ _ h, ⟨xr, kr _ _ h, kr2 _ _ h⟩, ⟨xn, kn _ _ h, kn2 _ _ h⟩, ⟨xg, kg _ _ h, kg2 _ _ h⟩⟩
end Go.Proofs.YtihpgmbinhmmlaaGreatDoor
namespace Go.Proofs.YtihpgmbinhmmlaaGreatDoor
open Go.RowKit
attribute [local go_sem ↓] Go.wp_at_zero Go.wp_at_succ
set_option maxRecDepth 20000
set_option exponentiation.threshold 5000

theorem IsProb.cells6 {w : World} {D : Nat → Prop} {xs : Array Value} {p : ProbD} (h : IsProb w D (.agg xs) p) : ∃ lp s rv nv gv, xs = #[.int .i64 p.roles, lp, s, rv, nv, gv] ∧ IsRules w D rv p.rules := by
 obtain ⟨lp, s, rv, nv, gv, e, _, _, h3, _⟩ := h
 injection e with e
 exact ⟨lp, s, rv, nv, gv, e, h3⟩
theorem refused {p : ProbD} (h : ¬ checkE p = 0) : ofP p = zeroP ∧ ofKept p = [] ∧ relS p = 0 ∧ useN p = [] := by
 unfold ofP ofKept relS useN
 rw [if_neg h, if_neg h, if_neg h, if_neg h]
 exact ⟨rfl, rfl, rfl, rfl⟩
set_option maxHeartbeats 4000000 in
theorem lrefuses_any (v : Value) (l : List Nat) (k : Nat) (hk : k < 256) (W : World) (D : Nat → Prop) (hl : ∀ x ∈ l, x < 256) (hv : Sl W D 1 v l.length (u8s l)) (hT : DTab W) : Calls Tryz.prog 4 #[v, .int .u8 (k : Nat)] W (Ret (fun x _ => x = .bool true) W) := by
 obtain ⟨K, kt, k1, hS⟩ := start_bytes1 hT hv
 clear hv hT
 have HL := Lib.hid hl
 clear hl
 go_enter Tryz.func4, Tryz.ntmps4
 go_wp2_with (first
  | (go_at_call 11; refine (lawake33_any hS kt).mono ?_; clear hS; rintro e w_ ⟨rfl, hS⟩)
  | (go_at_call 12; refine (lmake31_any HL.out hS k1 kt).mono ?_; clear hS; rintro e w_ ⟨x, u, rfl, p, ⟨L, R, hM⟩, hS⟩; replace hM := Lib.hid hM; obtain ⟨xs, rfl, hx6, hx1⟩ := hS.ro.2.1.cells; replace hx6 := Lib.hid hx6; obtain ⟨us, rfl, hu6, hu1⟩ := hS.ro.2.2.cells; replace hu6 := Lib.hid hu6)
  | ((with_reducible refine qA 5 ?_); refine qa hS #[.int .i64 0, .pointer none, .slice none 0 0, .slice none 0 0, .slice none 0 0, .slice none 0 0] ?_; clear hS; intro g5 w_ hS)
  | ((with_reducible refine qA 6 ?_); refine qa hS #[.int .i64 0, .slice none 0 0, .int .u64 0, .slice none 0 0, .slice none 0 0, .slice none 0 0] ?_; clear hS; intro g6 w_ hS)
  | ((with_reducible refine qA 20 ?_); refine BigFrame.wpList_want rfl fun _ hK => opw_row rfl rfl (hS.box 1 rfl) Tryz.underlying31 rfl (by rw [hx6.out]; kernel_rfl) (hK _ _ ?_))
  | ((with_reducible refine qA 23 ?_); refine BigFrame.wpList_want rfl fun _ hK => opw_row rfl rfl (hS.box 1 rfl) Tryz.underlying31 rfl (by rw [hz6.out]; kernel_rfl) (hK _ _ ?_))
  | (go_at_call 17; refine (spoilt_any hk hM.out hS (fun D w h => h.2.1)).mono ?_; clear hS; rintro e w_ ⟨z, rfl, q, hQ, hS⟩; replace hQ := Lib.hid hQ; obtain ⟨zs, rfl, hz6, hz1⟩ := hS.ro.2.cells; replace hz6 := Lib.hid hz6)
  | ((with_reducible refine qm 37 ?_); refine st_store hS 0 rfl _ _ _ rfl _ _ rfl rfl _ _ rfl (by rw [hu6.out]; kernel_rfl) (by rw [hu6.out]; rfl) hu1 ?_; clear hS; intro w_ hS; (try simp only [Act.put, Act.eval, z1, z2, z3, z4, z5, z6, z7, z8, Value.cells] at hS))
  | ((with_reducible refine qm 31 ?_); (first | (refine st_store hS 0 rfl _ _ _ rfl _ _ rfl rfl _ _ rfl (by kernel_rfl) (by kernel_rfl) hy1 ?_) | (refine st_store hS 1 rfl _ _ _ rfl _ _ rfl rfl _ _ rfl (by rw [hz6.out]; kernel_rfl) (by rw [hz6.out, hx6.out]) hz1 ?_) | (refine st_store hS 1 rfl _ _ _ rfl _ _ rfl rfl _ _ rfl (by rw [hx6.out]; kernel_rfl) (by rw [hx6.out]; rfl) hx1 ?_)); clear hS; intro w_ hS; (try simp only [Act.put, Act.eval, z1, z2, z3, z4, z5, z6, z7, z8, Value.cells] at hS))
  | (go_at_call 18; refine (schk_any hS.ro.2 hQ.out (kt _ _ hS.ro.1.1).1).mono ?_; rintro r_ w_ ⟨_, rfl, rfl, hb_⟩; replace hS := hS.ext hb_; clear hb_)
  | ((with_reducible refine qA 26 ?_); refine BigFrame.wpList_want rfl fun _ hK => opw_row rfl rfl (hS.box 1 rfl) Tryz.underlying31 rfl (by rw [hz6.out]; kernel_rfl) (hK _ _ ?_))
  | (go_at_call 19; refine (of_slice_any hQ.out hS (fun D w h => h.2) (fun D w h => (kt D w h.1.1).1)).mono ?_; clear hS; rintro e w_ ⟨y, kk, rfl, hS⟩; obtain ⟨ys, rfl, hy6, hy1⟩ := hS.ro.1.2.cells; obtain ⟨lp, sv, rv, nv, gv, rfl, hro⟩ := hS.ro.1.2.cells6; obtain ⟨Ar, cr, rfl, _, _⟩ := hro.shape; clear hro; obtain ⟨Ak, ck, rfl, _, _⟩ := hS.ro.2.shape)
  | ((with_reducible refine qA 9 ?_); refine qa hS #[.int .i64 0, .pointer none, .slice none 0 0, .slice none 0 0, .slice none 0 0, .slice none 0 0] ?_; clear hS; intro g9 w_ hS)
  | ((with_reducible refine qA 35 ?_); refine st_eql rfl _ _ _ _ rfl _ _ _ rfl rfl (fun h0 => ?_) (fun h0 => ?_))
  | ((with_reducible refine qA 44 ?_); refine st_eql rfl _ _ _ _ rfl _ _ _ rfl rfl (fun h_ => ?_) (fun h_ => absurd rfl h_))
  | ((with_reducible refine qA 48 ?_); refine st_eql rfl _ _ _ _ rfl _ _ _ rfl rfl (fun h_ => ?_) (fun h_ => absurd (by rw [(refused h0).2.1]; rfl) h_))
  | ((with_reducible refine qA 54 ?_); refine st_eql rfl _ _ _ _ rfl _ _ _ rfl rfl (fun h_ => ?_) (fun h_ => absurd (by rw [(refused h0).1]; rfl) h_))
  | ((with_reducible refine qA 57 ?_); refine BigFrame.wpList_want rfl fun _ hK => opw_row rfl rfl (hS.box 2 rfl) Tryz.underlying31 rfl (by rw [hz6.out]; kernel_rfl) (hK _ _ ?_))
  | ((with_reducible refine qA 62 ?_); refine BigFrame.wpList_want rfl fun _ hK => opw_row rfl rfl (hS.box 2 rfl) Tryz.underlying31 rfl (by rw [hz6.out]; kernel_rfl) (hK _ _ ?_))
  | (go_at_call 13; refine (relevant_any hS.ro.1.1.2 hQ.out (kt _ _ hS.ro.1.1.1.1).1).mono ?_; rw [(refused h0).2.2.1]; rintro r_ w_ ⟨_, rfl, h1, hb_⟩; replace hS := hS.ret hb_ stable_set h1; clear h1 hb_)
  | (go_at_call 20; refine (empty_any _ 0 _ _ hS.ro.2).mono ?_; rw [show ((0 : Nat) == 0) = true from rfl]; rintro r_ w_ ⟨_, rfl, rfl, hb_⟩; replace hS := hS.ext hb_; clear hb_)
  | (go_at_call 21; refine (useless_any hS.ro.1.1.1.2 hQ.out (kt _ _ hS.ro.1.1.1.1.1).1).mono ?_; rw [(refused h0).2.2.2]; rintro e w_ ⟨u, rfl, hs⟩; replace hS := hS.ext hs.below; obtain ⟨Au, cu, rfl, _, _⟩ := own_shp (hs.own 0 rfl); clear hs)
  | ((with_reducible refine qK ?_); first | refine qC hS 0 ?_ | refine qC hS 1 ?_ | refine qC hS 2 ?_ | refine qC hS 3 ?_ | refine qC hS 4 ?_ | refine qC hS 5 ?_ | refine qC hS 6 ?_ | refine qC hS 7 ?_)
  | ((with_reducible refine qM ?_); (first | refine qS hS 0 ?_ | refine qS hS 1 ?_ | refine qS hS 2 ?_ | refine qS hS 3 ?_ | refine qT hS 0 ?_ | refine qT hS 1 ?_ | refine qT hS 2 ?_ | refine qT hS 3 ?_); clear hS; intro w_ hS; (try simp only [Act.put, Act.eval, z1, z2, z3, z4, z5, z6, z7, z8, Value.cells] at hS)))
 ·go_ret
  exact Ret.mk rfl hS.below
 ·go_ret
  exact Ret.mk rfl hS.below
end Go.Proofs.YtihpgmbinhmmlaaGreatDoor
namespace Go.Proofs.YtihpgmbinhmmlaaGreatDoor
open Go.RowKit Go.ChangeShapes Go.WideShapes

section
variable {H : Type} {enc : TypeId × Value → H} {P : Program} {w : World} {base : Nat} {sp : Nat → Bool} {held : Bool}
theorem sl_of_trod {t e : TypeId} {size fuel : Nat} {cs : List Value} {x : DataW H × List MemPlace} (ht : P.underlying t = some (.slice e)) (hc : P.cellsOf e = size) (hsz : 0 < size) (h : DataW.trod enc P w base sp held fuel t cs = some x) :
  ∃ v n xs, cs = [v] ∧ Sl w (fun _ => True) size v n xs ∧ ∀ k, k < n → ∃ f' y, DataW.trod enc P w base sp held f' e ((xs.drop (k * size)).take size) = some y := by
 rcases DataW.trod_slice ht h with ⟨rfl, _⟩ | ⟨a, len, cap, elems, rest, n, _, rfl, _, hb, hl, hm, hlen, hel, _⟩
 ·exact ⟨_, 0, [], rfl, ⟨by simp, none, 0, rfl, Nat.le_refl _, Nat.zero_le _, fun h => by omega⟩, fun k hk => by omega⟩
 ·rw [hc] at hel
  have each : ∀ k, k < len → ∃ ck y, w.cells? base (a.add (k * size)) size = some ck ∧ DataW.trod enc P w base sp held n e ck = some y := by
   intro k hk
   have h1 := hel k hk
   rw [List.getElem?_eq_getElem (by omega)] at h1
   obtain ⟨ck, h2, h3⟩ := Option.bind_eq_some_iff.1 h1
   exact ⟨ck, _, h2, h3⟩
  have hadd : ∀ i j, (a.add i).add j = a.add (i + j) := by
   intro i j
   unfold Addr.add
   by_cases h1 : i = 0 <;> by_cases h2 : j = 0 <;> simp [h1, h2, Nat.add_assoc]
  have cell : ∀ j, j < len * size → ∃ x, w.cell? (a.add j) = some x := by
   intro j hj
   have hk : j / size < len := (Nat.div_lt_iff_lt_mul hsz).2 hj
   obtain ⟨ck, y, h1, h2⟩ := each _ hk
   obtain ⟨_, h3, h4⟩ := World.cells?_some h1
   have h5 := h4 (j % size) (Nat.mod_lt _ hsz)
   rw [hadd, Nat.mul_comm, Nat.div_add_mod] at h5
   rw [h5, List.getElem?_eq_getElem (by rw [h3]; exact Nat.mod_lt _ hsz)]
   exact ⟨_, rfl⟩
  refine ⟨.slice (some a) len cap, len, (List.range (len * size)).map fun j => (w.cell? (a.add j)).getD undef, rfl, ⟨by simp, some a, cap, rfl, hl, hm, fun h0 => ?_⟩, fun k hk => ?_⟩
  ·obtain ⟨x0, hx0⟩ := cell 0 (Nat.mul_pos h0 hsz)
   obtain ⟨b, o, s⟩ := a
   have hs : s = none := cell_spot hx0
   subst hs
   refine ⟨b, o, rfl, trivial, ?_, fun j x hx => ?_⟩
   ·have := hx0
    unfold World.cell? at this
    simp only [Addr.add] at this
    rcases Nat.lt_or_ge b w.heap.size with hlt | hge
    ·exact hlt
    ·simp [Array.getElem?_eq_none hge] at this
   ·simp only [List.getElem?_map, Option.map_eq_some_iff] at hx
    obtain ⟨j', hj', rfl⟩ := hx
    have hjl := (List.getElem?_eq_some_iff.1 hj').1
    rw [List.getElem?_range (by simpa using hjl)] at hj'
    obtain rfl := Option.some.inj hj'
    obtain ⟨y, hy⟩ := cell j (by simpa using hjl)
    rw [hy]
    have e : (⟨b, o, none⟩ : Addr).add j = ⟨b, o + j, none⟩ := by
     unfold Addr.add; split <;> simp [*]
    rw [e] at hy
    exact hy
  ·obtain ⟨ck, y, h1, h2⟩ := each k hk
   obtain ⟨_, h3, h4⟩ := World.cells?_some h1
   refine ⟨n, y, ?_⟩
   rw [← h2]
   congr 1
   have hle : k * size + size ≤ len * size := by
    rw [← Nat.succ_mul]; exact Nat.mul_le_mul_right _ hk
   apply List.ext_getElem?
   intro i
   rcases Nat.lt_or_ge i size with hi | hi
   ·rw [List.getElem?_take_of_lt hi, List.getElem?_drop, List.getElem?_map, List.getElem?_range (by omega)]
    have h5 := h4 i hi
    rw [hadd] at h5
    simp only [Option.map_some]
    rw [h5, List.getElem?_eq_getElem (by omega)]
    simp
   ·rw [List.getElem?_eq_none (by simp; omega), List.getElem?_eq_none (by omega)]
end
theorem u8_nat {n : Int} (h : (Lit.int .u8 n).wf = true) : ∃ m : Nat, n = (m : Int) ∧ m < 256 := by
 have := bounds_u8 h
 exact ⟨n.toNat, by omega, by omega⟩
end Go.Proofs.YtihpgmbinhmmlaaGreatDoor
namespace Go.Proofs.YtihpgmbinhmmlaaGreatDoor
open Go.ChangeShapes Go.WideShapes Go.ChangeAt Go.RowKit

set_option maxRecDepth 20000 in
theorem bytes_open {H : Type} {enc : TypeId × Value → H} {W : World} {r : Reach} {b0 base : Nat} {sp : Nat → Bool} {held : Bool} {v : Value} {d : DataW H} {p : List MemPlace} (hv : Value.okWide Tryz.prog W r b0 22 v) (h : DataW.Trod enc Tryz.prog W base sp held 22 v d p) :
  ∃ l : List Nat, (∀ x ∈ l, x < 256) ∧ Sl W (fun _ => True) 1 v l.length (u8s l) := by
 obtain ⟨a0, len0, cap0, rfl⟩ := okWide_slice Tryz.underlying22 hv
 obtain ⟨fuel, hf⟩ := h
 obtain ⟨v, n, xs, e, hs, he⟩ := sl_of_trod Tryz.underlying22 (size := 1) (by kernel_rfl) (by decide) hf
 have hl := hs.1
 have : ∃ zs : List Nat, (∀ x ∈ zs, x < 256) ∧ xs = u8s zs := by
  have : ∀ v ∈ xs, ∃ z : Nat, z < 256 ∧ v = .int .u8 (z : Nat) := by
   intro v hv
   obtain ⟨k, hk, hkv⟩ := List.mem_iff_getElem.1 hv
   obtain ⟨f', y, hy⟩ := he k (by omega)
   obtain ⟨z, hz, _, hw⟩ := DataW.trod_int Tryz.underlying5 hy
   obtain ⟨m, rfl, hm⟩ := u8_nat hw
   have h0 := congrArg (·[0]?) hz
   simp only [Nat.mul_one, List.getElem?_take_of_lt Nat.zero_lt_one, List.getElem?_drop, Nat.add_zero] at h0
   rw [List.getElem?_eq_getElem hk, hkv] at h0
   exact ⟨m, hm, by simpa using h0⟩
  clear hs he hl
  induction xs with
  | nil => exact ⟨[], fun x hx => by simp at hx, rfl⟩
  | cons a r ih =>
   obtain ⟨zs, hzs, rfl⟩ := ih fun v hv => this v (List.mem_cons_of_mem _ hv)
   obtain ⟨z, hz, rfl⟩ := this a List.mem_cons_self
   exact ⟨z :: zs, fun x hx => by rcases List.mem_cons.1 hx with rfl | hx; exact hz; exact hzs x hx, rfl⟩
 obtain ⟨zs, hzs, rfl⟩ := this
 have hz : zs.length = n := by simpa [u8s] using hl
 obtain rfl : v = .slice a0 len0 cap0 := by simpa [Value.cells] using e.symm
 exact ⟨zs, hzs, hz ▸ hs⟩
end Go.Proofs.YtihpgmbinhmmlaaGreatDoor
namespace Go.Proofs.YtihpgmbinhmmlaaGreatDoor
open Go.ChangeShapes Go.WideShapes Go.ChangeAt Go.RowKit

section
variable {P : Program} {H : Type} {enc : TypeId × Value → H} {W : World} {r : Reach} {b0 base : Nat} {sp : Nat → Bool} {held : Bool} {v : Value} {d : DataW H} {p : List MemPlace} {t : TypeId}
theorem int_open {k : IntKind} (ht : P.underlying t = some (.int k)) (hv : Value.okWide P W r b0 t v) (h : DataW.Trod enc P W base sp held t v d p) : ∃ n, v = .int k n ∧ (Lit.int k n).wf = true := by
 obtain ⟨n, rfl⟩ := okWide_int ht hv
 obtain ⟨fuel, hf⟩ := h
 obtain ⟨m, e, _, w⟩ := DataW.trod_int ht hf
 simp [Value.cells] at e
 subst e
 exact ⟨_, rfl, w⟩
theorem u8_open (ht : P.underlying t = some (.int .u8)) (hv : Value.okWide P W r b0 t v) (h : DataW.Trod enc P W base sp held t v d p) : ∃ n : Nat, v = .int .u8 n ∧ n < 256 := by
 obtain ⟨n, rfl, w⟩ := int_open ht hv h
 have := bounds_u8 w
 obtain ⟨m, rfl⟩ := Int.eq_ofNat_of_zero_le (by omega : 0 ≤ n)
 exact ⟨m, rfl, by omega⟩
end
end Go.Proofs.YtihpgmbinhmmlaaGreatDoor
namespace Go.Proofs.YtihpgmbinhmmlaaGreatDoor
open Go.RowKit Go.ChangeShapes Go.WideShapes

theorem boxF_of_reads {w : World} {n : String} {g : Nat} {t e : TypeId} {m : Nat} {k : IntKind} {zs : List Int} (hg : Tryz.prog.globalNamed n = some g) (hty : (Tryz.prog.globals[g]?).map (·.type) = some t)
  (ht : Tryz.prog.underlying t = some (.array m e)) (he : Tryz.prog.underlying e = some (.int k)) (hce : Tryz.prog.cellsOf e = 1) (hct : Tryz.prog.cellsOf t = m) (h : Lib.VarReads Tryz.prog w n (Lib.tabData k zs)) :
  ∃ t, BoxF w g t (zs.map fun z => Value.int k z).toArray := by
 obtain ⟨g', t', cs, fuel, p, hg', hty', hvar, hd⟩ := h
 obtain rfl := Option.some.inj (hg.symm.trans hg')
 obtain rfl := Option.some.inj (hty.symm.trans hty')
 have hcs := Lib.cells_of_tab ht he hce hct hd
 simp only [World.var?, hg, Option.bind_some] at hvar
 split at hvar
 ·rename_i cs' t'' f heq
  obtain rfl := Option.some.inj hvar
  refine ⟨(t'', f), ?_⟩
  rw [← hcs]
  exact heq
 ·cases hvar
end Go.Proofs.YtihpgmbinhmmlaaGreatDoor
namespace Go.Proofs.YtihpgmbinhmmlaaGreatDoor
open Go.RowKit Go.ChangeShapes Go.WideShapes

theorem dtab_of_reads {w : World} (h1 : Lib.VarReads Tryz.prog w "math/bits.deBruijn64tab" Rows.laid_math_bits_deBruijn64tab) : DTab w := by
 have e1 : (Rows.laid_math_bits_deBruijn64tab : DataW Unit) = Lib.tabData .u8 (dbL.map fun x : Nat => (x : Int)) := by kernel_rfl
 rw [e1] at h1
 obtain ⟨t, b1⟩ := boxF_of_reads (g := 0) (by kernel_rfl) (t := 188) (by kernel_rfl) Tryz.underlying188 Tryz.underlying5 (by kernel_rfl) (by kernel_rfl) h1
 have e : (List.map (fun z => Value.int .u8 z) (dbL.map fun x : Nat => (x : Int))) = u8s dbL := by simp [u8s]
 rw [e] at b1
 intro q hq
 rw [b1.cell, List.getElem?_toArray]
 exact u8s_at _ _ hq
end Go.Proofs.YtihpgmbinhmmlaaGreatDoor
namespace Go.Proofs.YtihpgmbinhmmlaaGreatDoor
open Go.ChangeShapes Go.WideShapes Go.ChangeAt Go.RowKit

theorem sref_laid_plain (W : World) (h : laidMetH Tryz.prog Rows.sliceRefusesRow.laid W) : DTab W := by
 have h' : laidMetH Tryz.prog [("math/bits.deBruijn64tab", Rows.laid_math_bits_deBruijn64tab)] W := h
 rw [MakeChecks.laidMetH_plain _ _ _ (by kernel_rfl)] at h'
 exact dtab_of_reads (Lib.laidMet.reads h' (.head _))
noncomputable def srefStart (os : Os) : World := World.laidAll Tryz.prog os Rows.sliceRefusesRow.laid
theorem sref_start_met (os : Os) (args : Array Value) : laidMetH Tryz.prog Rows.sliceRefusesRow.laid ((srefStart os).forCall (fun _ _ => 0) ⟨#[], args, []⟩).memory := by
 rw [MakeChecks.laidMetH_plain _ _ _ (by kernel_rfl)]
 exact laidMet_laidAll _ (by kernel_rfl) (by kernel_rfl)
theorem sref_own : ownKnob Tryz.prog.godebug = none := by kernel_rfl
theorem sref_laidOut : laidOutB Tryz.prog = true := by kernel_rfl

set_option maxRecDepth 100000 in
theorem sref_lifted (os : Os) (started : os.Started) (H : Type) (enc : TypeId × Value → H) :
  ReturnsInHanded {} Tryz.checked os 4 .any (fun w args => (Rows.sliceRefusesSpec.pre enc Tryz.prog Tryz.f4 [] false w args ∧ laidMetH Tryz.prog Rows.sliceRefusesRow.laid w) ∧ sizedMet enc Tryz.prog Tryz.f4 (OpenSpec.ofChange Rows.sliceRefusesSpec) false w args)
   (Rows.sliceRefusesSpec.post enc Tryz.prog Tryz.f4 false true false false) := by
 refine returnsInHanded_of_change_and (C := Tryz.checked) (X := fun w _ => laidMetH Tryz.prog Rows.sliceRefusesRow.laid w) (fun _ _ _ hh h => h.of_heap hh) sref_own started (by kernel_rfl) Tryz.func4
  (ChangeSpec.witness_shaped (enc := enc) (C := Tryz.checked) (os := os) (X := fun w _ => laidMetH Tryz.prog Rows.sliceRefusesRow.laid w) false (srefStart os) #[.slice none 0 0, .int .u8 0] 8 (World.laidAll_os _ _ _) (World.shaped_of_ZipB (by kernel_rfl) (by kernel_rfl)) (by kernel_rfl) (by kernel_rfl) (by kernel_rfl) (sref_start_met os _)) ?_
 intro W base args ds gs before hval0 hW _ _ hL _
 have hval : ∀ (j : Nat) t v, Tryz.f4.params[j]? = some t → args[j]? = some v → Value.okWide Tryz.prog W .any base t v := hval0
 have hW' := hW
 obtain ⟨p, q, hA0, hV, rfl, hfz, hnd⟩ := hW
 have hA : DataW.TrodAll enc Tryz.prog W 0 (fun _ => true) true Tryz.f4.params.toList args.toList ds p := hA0
 rw [Tryz.params4] at hA hval
 obtain ⟨v0, v1, d0, d1, p0, p1, rfl, rfl, rfl, h0, h1⟩ := trodAll_two hA
 obtain ⟨rfl, rfl⟩ := trodVars_none hV
 obtain ⟨l, hl, hs⟩ := bytes_open (hval 0 _ v0 rfl rfl) h0
 obtain ⟨a1, rfl, ha1⟩ := u8_open Tryz.underlying5 (hval 1 _ v1 rfl rfl) h1
 have hT := sref_laid_plain W hL
 have lt : ∀ z ∈ p0 ++ p1, z.block < W.heap.size := fun z hz => by simpa using hW'.lt z (by simpa using hz)
 refine (lrefuses_any v0 l a1 ha1 W _ hl hs hT).mono fun E W' he => ?_
 obtain ⟨r, rfl, rfl, hb⟩ := he
 refine ⟨_, rfl, _, _, _, [], p0 ++ p1, [], hW', ?_, ?_, ?_, hb.frame _, fun h => by cases h⟩
 ·exact trodAll_mk1 (shut_bool Tryz.underlying4 true)
 ·rw [Tryz.params4]
  exact trodAll_mk2 (Below.trod sref_laidOut (by kernel_rfl) (of_decide_eq_true (by kernel_rfl)) h0 hb fun z hz => lt z (List.mem_append_left _ hz)) (Below.trod sref_laidOut (by kernel_rfl) (of_decide_eq_true (by kernel_rfl)) h1 hb fun z hz => lt z (List.mem_append_right _ hz))
 ·rfl

theorem sref_holds : Rows.SliceRefusesSaid :=
 OpenClaim.holds_of_wide 4 Tryz.f4 rfl rfl rfl rfl rfl rfl rfl ⟨rfl, rfl, rfl, rfl, rfl⟩ rfl rfl rfl rfl rfl (by kernel_rfl) Tryz.func4 (by kernel_rfl)
  (of_decide_eq_true (by kernel_rfl)) (by unfold Func.isWrapper; rw [if_neg (by decide +kernel)]; exact ⟨rfl, rfl⟩)
  (fun os started H enc _ => sref_lifted os started H enc)
end Go.Proofs.YtihpgmbinhmmlaaGreatDoor
namespace Go.Proofs.YtihpgmbinhmmlaaGreatDoor
open Go

theorem sref_card : Rows.SliceRefusesCardSaid :=
 Claim7.holds_tied_plain_at .later [] [.data] true (true, "2d0cce7fd9cc136f77960caa9ad49f21584df77fdf1a824aa537d6f087b5c6e9") false
  sref_holds (fun _ h => by cases h) (by kernel_rfl) (fun _ h => by cases h) sliceRefuses_row_tie rfl ⟨rfl, rfl⟩ (by kernel_rfl) rfl
  (fun f fn hf hfn => by
   obtain rfl : f = 4 := Option.some.inj ((show Tryz.prog.funcNamed "arbac/arbaclaw33.SliceRefuses" = some 4 by kernel_rfl).symm.trans hf) |>.symm
   obtain rfl : fn = Tryz.f4 := (Option.some.inj (Tryz.func4.symm.trans hfn)).symm
   exact ⟨by kernel_rfl, fun j t ht => by
    rw [Tryz.params4] at ht
    have h3 : t = 22 ∨ t = 5 := by
     rcases j with _ | _ | j
     ·simp at ht; simp [← ht]
     ·simp at ht; simp [← ht]
     ·simp at ht
    rcases h3 with rfl | rfl
    ·exact (show Tryz.prog.wantsStandIn 22 = false by kernel_rfl)
    ·exact (show Tryz.prog.wantsStandIn 5 = false by kernel_rfl)⟩)
  (by kernel_rfl)
end Go.Proofs.YtihpgmbinhmmlaaGreatDoor
namespace Go.Proofs.YtihpgmbinhmmlaaGreatDoor
#print axioms sref_card
end Go.Proofs.YtihpgmbinhmmlaaGreatDoor
