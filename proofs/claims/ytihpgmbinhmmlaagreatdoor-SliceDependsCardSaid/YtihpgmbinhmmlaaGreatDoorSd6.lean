/-
  The card of SliceDepends.
-/
import Derived.Test.YtihpgmbinhmmlaaGreatDoorRows
import Derived.ProofKit
import Derived.OpenShut
import Derived.Lib.LaidU8
import Derived.Lay
import Derived.MakeChecks
import Derived.LaidLaws
import Derived.Stop.Joined
import Derived.Test.YtihpgmbinhmmlaaGreatDoorCards
import Derived.Test.YtihpgmbinhmmlaaGreatDoorTie
import Derived.SevenTiedAt
import Derived.Test.YtihpgmbinhmmlaaGreatDoorSd5
namespace Go.Proofs.YtihpgmbinhmmlaaGreatDoor
open Go.RowKit
attribute [local go_sem ↓] Go.wp_at_zero Go.wp_at_succ
set_option maxRecDepth 20000
set_option exponentiation.threshold 5000

theorem one_any {w0 : World} {D : Nat → Prop} {v : Value} {l : List Int} {N : Nat} (hs : Sl w0 D 1 v l.length (ints l)) (hN : ofN l = N) : Calls Tryz.prog 49 #[v] w0 (Ret (fun x w' => IsCube w' (w0.heap.size ≤ ·) x (N, 0)) w0) := by
 obtain ⟨K, k1, hS⟩ : ∃ K : (Nat → Prop) → World → Prop, (∀ D w, K D w → Sl w D 1 v l.length (ints l)) ∧ St w0 w0 [] K := ⟨_, fun _ _ h => h, St.start (stable_sl (by decide)) hs⟩
 clear hs
 go_enter Tryz.func49, Tryz.ntmps49
 go_wp2_with (first
  | ((with_reducible refine qA 2 ?_); refine qa hS #[.slice none 0 0, .slice none 0 0] ?_; clear hS; intro g2 w_ hS)
  | (go_at_call 50; have hsW := hS.size; refine (of_any _ l _ _ (k1 _ _ hS.ro)).mono ?_; rw [hN]; rintro r_ w_ ⟨_, rfl, h1, hb_⟩; obtain ⟨A, c, lw, rfl, -⟩ := h1.parts; replace hS := hS.ret hb_ (stable_inter stable_set fun z => w0.heap.size ≤ z) (h1.imp fun z hz _ => ⟨hz, Nat.le_trans hsW hz⟩); clear h1 hb_ hsW)
  | ((with_reducible show wpList _ _ _ (⟨_, .build _ _, _, _, _, _⟩ :: _) _ _); refine wpList_build_of rfl _ _ rfl #[.slice A lw.length c, .slice none 0 0] (by kernel_rfl) ?_)
  | ((with_reducible refine qM ?_); (first | refine qS hS ?_ | refine qT hS ?_); clear hS; intro w_ hS; (try simp only [Act.put, Act.eval, z1, z2, z3, z4, z5, z6, z7, z8, Value.cells] at hS)))
 refine ret_cell Tryz.results49 rfl (hS.box 0 rfl) Tryz.underlying56 rfl (by kernel_rfl) rfl ?_
 exact Ret.mk ⟨_, _, rfl, hS.ro.2.imp fun z hz _ => hz.2, IsSet.empty⟩ hS.below
theorem st_litg {P : Program} {ops : Array Oper} {rest : List Oper} {o : Oper} {a : Act} {Q : Exit → Act → World → Prop} {w0 w : World} {F : List Fact} {K : (Nat → Prop) → World → Prop} (h : St w0 w F K) (hg : Region.wanted o (yielded ops a.tmps) = true) (t e : TypeId) (len : Nat) (parts : Array (Nat × Operand)) (ho : o.op = .buildSlice t len parts) (ht : P.underlying t = some (.slice e)) (cells : Array Value)
  (hb : builtSlice P e len (parts.map fun (i, x) => (i, a.eval x)).toList = some cells) (size : Nat) (hs : cells.size = len * size) (hm : len ≤ 1000000000000)
  (hk : ∀ g w', St w0 w' (.own (.slice (some ⟨g, 0, none⟩) len len) e size len cells.toList :: F) K → wpList P ops Q rest (a.put o.dst (.slice (some ⟨g, 0, none⟩) len len)) w') : wpList P ops Q (o :: rest) a w :=
 BigFrame.wpList_want hg fun _ hK => opw_slice ho ht rfl hb fun w' hX hB => hK _ _ (hk _ w' (h.new hB _ ⟨by simpa using hs, .inr ⟨w.heap.size, len, cells, rfl, Nat.le_refl _, hX, Nat.le_refl _, by unfold maxLen; omega, hs, by rw [← hs, show cells.size = cells.toList.length by simp, List.take_length]⟩⟩))
theorem st_litp {P : Program} {ops : Array Oper} {rest : List Oper} {o : Oper} {a : Act} {Q : Exit → Act → World → Prop} {w0 w : World} {F : List Fact} {K : (Nat → Prop) → World → Prop} (h : St w0 w F K) (hg : Region.wanted o (yielded ops a.tmps) = true) (t e : TypeId) (len : Nat) (parts : Array (Nat × Operand)) (ho : o.op = .buildSlice t len parts) (ht : P.underlying t = some (.slice e)) (ps : List (Nat × Value)) (hp : (parts.map fun (i, x) => (i, a.eval x)).toList = ps) (cells : Array Value)
  (hb : builtSlice P e len ps = some cells) (size : Nat) (hs : cells.size = len * size) (hm : len ≤ 1000000000000)
  (hk : ∀ g w', St w0 w' (.own (.slice (some ⟨g, 0, none⟩) len len) e size len cells.toList :: F) K → wpList P ops Q rest (a.put o.dst (.slice (some ⟨g, 0, none⟩) len len)) w') : wpList P ops Q (o :: rest) a w :=
 BigFrame.wpList_want hg fun _ hK => opw_slice ho ht hp hb fun w' hX hB => hK _ _ (hk _ w' (h.new hB _ ⟨by simpa using hs, .inr ⟨w.heap.size, len, cells, rfl, Nat.le_refl _, hX, Nat.le_refl _, by unfold maxLen; omega, hs, by rw [← hs, show cells.size = cells.toList.length by simp, List.take_length]⟩⟩))
theorem IsCube.sets {w : World} {D : Nat → Prop} {a b : Value} {z : Nat × Nat} (h : IsCube w D (.agg #[a, b]) z) : IsSet w D (.agg #[a]) z.1 ∧ IsSet w D (.agg #[b]) z.2 := by
 obtain ⟨x, y, he, h1, h2⟩ := h
 have e : a = x ∧ b = y := by simpa using he
 obtain ⟨rfl, rfl⟩ := e
 exact ⟨h1, h2⟩
theorem cc1 {w : World} {D : Nat → Prop} {a b : Value} {z : Nat × Nat} (h : IsCube w D (.agg #[a, b]) z) : CubeCells w D [a, b] [z] := fun i y n hi => by
 cases i with
 | zero => obtain rfl := Option.some.inj (show some z = some (y, n) from hi); exact ⟨a, b, rfl, rfl, h.sets.1, h.sets.2⟩
 | succ i => simp at hi
theorem rcells1 {w : World} {D : Nat → Prop} {a1 b1 a3 b3 : Value} (h1 : IsCube w D (.agg #[a1, b1]) (4, 0)) (h3 : IsCube w D (.agg #[a3, b3]) (2, 0)) :
  RuleCells w D [.bool false, a1, b1, .int .i64 1, .int .i64 0, .bool false, .slice none 0 0, .slice none 0 0, .int .i64 2, .int .i64 0, .bool false, a3, b3, .int .i64 3, .int .i64 0, .bool true, .slice none 0 0, .slice none 0 0, .int .i64 4, .int .i64 0] P1.rules :=
 RuleCells.append (l := [⟨false, 4, 0, 1, 0⟩]) (xs := [.bool false, a1, b1, .int .i64 1, .int .i64 0]) rfl (RuleCells.single h1.sets.1 h1.sets.2)
  (RuleCells.append (l := [⟨false, 0, 0, 2, 0⟩]) (xs := [.bool false, .slice none 0 0, .slice none 0 0, .int .i64 2, .int .i64 0]) rfl (RuleCells.single IsSet.empty IsSet.empty)
   (RuleCells.append (l := [⟨false, 2, 0, 3, 0⟩]) (xs := [.bool false, a3, b3, .int .i64 3, .int .i64 0]) rfl (RuleCells.single h3.sets.1 h3.sets.2) (RuleCells.single (z := ⟨true, 0, 0, 4, 0⟩) IsSet.empty IsSet.empty)))
theorem ofL1 : (ofP P1).links = some [] := by unfold ofP; rw [if_pos check1]; rfl
theorem of1_any {w0 w : World} {F : List Fact} {K : (Nat → Prop) → World → Prop} {v : Value} (hS : St w0 w F K) (kp : ∀ D w, K D w → IsProb w D v P1) (kt : ∀ D w, K D w → DTab w) :
  Calls Tryz.prog 19 #[v] w fun e w' => ∃ (R : Int) (q n3 c3 cr3 cn3 ng3 cg3 : Nat) (A3 Ar3 An3 Ag3 : Option Addr) (k : Value), e = .returned (.tuple #[.agg #[.int .i64 R, .pointer (some ⟨q, 0, none⟩), .slice A3 n3 c3, .slice Ar3 2 cr3, .slice An3 1 cn3, .slice Ag3 ng3 cg3], k, .int .i64 0]) ∧ St w0 w' F fun D w => K D w ∧ Sl w D 1 k ([0, 1] : List Int).length (ints [0, 1]) := by
 have KS := hS.stable
 refine (of_slice_any ok1 hS kp kt).mono ?_
 rintro e w3 ⟨u3, k3, rfl, hS⟩
 obtain ⟨lp3, s3, rv3, nv3, gv3, rfl, hh, hs, hr, hn, hg⟩ := id hS.ro.1.2
 have e1 := ofL1
 have e2 := ofP1
 have e3 := ofK1
 have e4 := check1
 obtain ⟨A3, n3, c3, rfl⟩ := hs.shape
 obtain ⟨Ar3, cr3, rfl, _, _⟩ := hr.shape
 obtain ⟨An3, cn3, rfl, _, _⟩ := hn.shape
 obtain ⟨Ag3, cg3, rfl, _, _⟩ := hg.shape
 rw [e1] at hh
 obtain ⟨q3, o3, rfl, -⟩ := hh
 refine ⟨_, q3, n3, c3, cr3, cn3, _, cg3, A3, Ar3, An3, Ag3, k3, by rw [e2.1, e2.2, e4], ?_⟩
 refine hS.mono (KS.and (stable_sl (by decide))) fun D w h => ⟨h.1.1, ?_⟩
 have h2 := h.2
 rw [e3] at h2
 exact h2
set_option maxHeartbeats 4000000 in
theorem lawake33_any {w0 w : World} {F : List Fact} {K : (Nat → Prop) → World → Prop} (hS : St w0 w F K) (kt : ∀ D w, K D w → DTab w ∧ D 0) : Calls Tryz.prog 11 #[] w fun e w' => e = .returned (.bool true) ∧ St w0 w' F K := by
 have KS := Lib.hid hS.stable
 go_enter Tryz.func11, Tryz.ntmps11
 go_wp2_with (first
  | (go_at_call 51; refine (hnew_any hS kt).mono ?_; clear hS; rintro e w_ ⟨p, rfl, hS⟩; obtain ⟨q, o, rfl, -⟩ := id hS.ro.2)
  | ((with_reducible refine qA 9 ?_); refine st_litown hS rfl _ 3 1 _ rfl Tryz.underlying48 #[.int .i64 2] (by kernel_rfl) 1 rfl (by decide) ?_; clear hS; intro g9 w_ hS; (try simp only [Act.put, List.setIfInBounds_toArray, List.set_cons_zero, List.set_cons_succ]))
  | ((with_reducible refine qA 10 ?_); refine BigFrame.wpList_want rfl fun _ hK => opw_callv (f := 49) (first := #[]) (caps := #[]) (vs := [.slice (some ⟨g9, 0, none⟩) 1 1]) rfl rfl (by kernel_rfl) (by simp [Act.eval, Act.put]) (one_any (l := [2]) (N := 4) (Sl.of_own (hS.own 0 rfl)) (by decide)) fun e w' ⟨x_, he_, hx_, hb_⟩ => ⟨x_, he_, hK _ _ ?_⟩; clear hK; obtain ⟨ya_, na_, rfl, hy_, hn_⟩ := id hx_; obtain ⟨A10, m10, c10, rfl⟩ := hy_.shape; obtain ⟨B10, k10, d10, rfl⟩ := hn_.shape; replace hS := hS.ret hb_ stable_cube hx_; clear hx_ hb_ hy_ hn_ he_; (try simp only [Act.put, List.setIfInBounds_toArray, List.set_cons_zero, List.set_cons_succ]))
  | ((with_reducible refine qA 11 ?_); refine wpList_build_of rfl _ _ rfl #[.bool false, .slice A10 m10 c10, .slice B10 k10 d10, .int .i64 1, .int .i64 0] (by kernel_rfl) ?_; (try simp only [Act.put, List.setIfInBounds_toArray, List.set_cons_zero, List.set_cons_succ]))
  | ((with_reducible refine qA 12 ?_); refine wpList_build_of rfl _ _ rfl #[.bool false, .slice none 0 0, .slice none 0 0, .int .i64 2, .int .i64 0] (by kernel_rfl) ?_; (try simp only [Act.put, List.setIfInBounds_toArray, List.set_cons_zero, List.set_cons_succ]))
  | ((with_reducible refine qA 14 ?_); refine st_litown hS rfl _ 3 1 _ rfl Tryz.underlying48 #[.int .i64 1] (by kernel_rfl) 1 rfl (by decide) ?_; clear hS; intro g14 w_ hS; (try simp only [Act.put, List.setIfInBounds_toArray, List.set_cons_zero, List.set_cons_succ]))
  | ((with_reducible refine qA 15 ?_); refine BigFrame.wpList_want rfl fun _ hK => opw_callv (f := 49) (first := #[]) (caps := #[]) (vs := [.slice (some ⟨g14, 0, none⟩) 1 1]) rfl rfl (by kernel_rfl) (by simp [Act.eval, Act.put]) (one_any (l := [1]) (N := 2) (Sl.of_own (hS.own 0 rfl)) (by decide)) fun e w' ⟨x_, he_, hx_, hb_⟩ => ⟨x_, he_, hK _ _ ?_⟩; clear hK; obtain ⟨ya_, na_, rfl, hy_, hn_⟩ := id hx_; obtain ⟨A15, m15, c15, rfl⟩ := hy_.shape; obtain ⟨B15, k15, d15, rfl⟩ := hn_.shape; replace hS := hS.ret hb_ stable_cube hx_; clear hx_ hb_ hy_ hn_ he_; (try simp only [Act.put, List.setIfInBounds_toArray, List.set_cons_zero, List.set_cons_succ]))
  | ((with_reducible refine qA 16 ?_); refine wpList_build_of rfl _ _ rfl #[.bool false, .slice A15 m15 c15, .slice B15 k15 d15, .int .i64 3, .int .i64 0] (by kernel_rfl) ?_; (try simp only [Act.put, List.setIfInBounds_toArray, List.set_cons_zero, List.set_cons_succ]))
  | ((with_reducible refine qA 17 ?_); refine wpList_build_of rfl _ _ rfl #[.bool true, .slice none 0 0, .slice none 0 0, .int .i64 4, .int .i64 0] (by kernel_rfl) ?_; (try simp only [Act.put, List.setIfInBounds_toArray, List.set_cons_zero, List.set_cons_succ]))
  | ((with_reducible refine qA 18 ?_); refine st_litp hS rfl _ 58 4 _ rfl Tryz.underlying28 [(0, .agg #[.bool false, .slice A10 m10 c10, .slice B10 k10 d10, .int .i64 1, .int .i64 0]), (1, .agg #[.bool false, .slice none 0 0, .slice none 0 0, .int .i64 2, .int .i64 0]), (2, .agg #[.bool false, .slice A15 m15 c15, .slice B15 k15 d15, .int .i64 3, .int .i64 0]), (3, .agg #[.bool true, .slice none 0 0, .slice none 0 0, .int .i64 4, .int .i64 0])] (by simp [Act.eval]) #[.bool false, .slice A10 m10 c10, .slice B10 k10 d10, .int .i64 1, .int .i64 0, .bool false, .slice none 0 0, .slice none 0 0, .int .i64 2, .int .i64 0, .bool false, .slice A15 m15 c15, .slice B15 k15 d15, .int .i64 3, .int .i64 0, .bool true, .slice none 0 0, .slice none 0 0, .int .i64 4, .int .i64 0] (by kernel_rfl) 5 rfl (by decide) ?_; clear hS; intro g18 w_ hS; (try simp only [Act.put, List.setIfInBounds_toArray, List.set_cons_zero, List.set_cons_succ]))
  | ((with_reducible refine qA 20 ?_); refine st_litown hS rfl _ 3 2 _ rfl Tryz.underlying48 #[.int .i64 2, .int .i64 5] (by kernel_rfl) 1 rfl (by decide) ?_; clear hS; intro g20 w_ hS; (try simp only [Act.put, List.setIfInBounds_toArray, List.set_cons_zero, List.set_cons_succ]))
  | ((with_reducible refine qA 21 ?_); refine BigFrame.wpList_want rfl fun _ hK => opw_callv (f := 49) (first := #[]) (caps := #[]) (vs := [.slice (some ⟨g20, 0, none⟩) 2 2]) rfl rfl (by kernel_rfl) (by simp [Act.eval, Act.put]) (one_any (l := [2, 5]) (N := 36) (Sl.of_own (hS.own 0 rfl)) (by decide)) fun e w' ⟨x_, he_, hx_, hb_⟩ => ⟨x_, he_, hK _ _ ?_⟩; clear hK; obtain ⟨ya_, na_, rfl, hy_, hn_⟩ := id hx_; obtain ⟨A21, m21, c21, rfl⟩ := hy_.shape; obtain ⟨B21, k21, d21, rfl⟩ := hn_.shape; replace hS := hS.ret hb_ stable_cube hx_; clear hx_ hb_ hy_ hn_ he_; (try simp only [Act.put, List.setIfInBounds_toArray, List.set_cons_zero, List.set_cons_succ]))
  | ((with_reducible refine qA 22 ?_); refine st_litp hS rfl _ 56 1 _ rfl Tryz.underlying29 [(0, .agg #[.slice A21 m21 c21, .slice B21 k21 d21])] (by simp [Act.eval]) #[.slice A21 m21 c21, .slice B21 k21 d21] (by kernel_rfl) 2 rfl (by decide) ?_; clear hS; intro g22 w_ hS; (try simp only [Act.put, List.setIfInBounds_toArray, List.set_cons_zero, List.set_cons_succ]))
  | ((with_reducible refine qA 24 ?_); refine st_litown hS rfl _ 3 1 _ rfl Tryz.underlying48 #[.int .i64 1] (by kernel_rfl) 1 rfl (by decide) ?_; clear hS; intro g24 w_ hS; (try simp only [Act.put, List.setIfInBounds_toArray, List.set_cons_zero, List.set_cons_succ]))
  | ((with_reducible refine qA 25 ?_); refine BigFrame.wpList_want rfl fun _ hK => opw_callv (f := 49) (first := #[]) (caps := #[]) (vs := [.slice (some ⟨g24, 0, none⟩) 1 1]) rfl rfl (by kernel_rfl) (by simp [Act.eval, Act.put]) (one_any (l := [1]) (N := 2) (Sl.of_own (hS.own 0 rfl)) (by decide)) fun e w' ⟨x_, he_, hx_, hb_⟩ => ⟨x_, he_, hK _ _ ?_⟩; clear hK; obtain ⟨ya_, na_, rfl, hy_, hn_⟩ := id hx_; obtain ⟨A25, m25, c25, rfl⟩ := hy_.shape; obtain ⟨B25, k25, d25, rfl⟩ := hn_.shape; replace hS := hS.ret hb_ stable_cube hx_; clear hx_ hb_ hy_ hn_ he_; (try simp only [Act.put, List.setIfInBounds_toArray, List.set_cons_zero, List.set_cons_succ]))
  | ((with_reducible refine qA 26 ?_); refine st_litp hS rfl _ 56 1 _ rfl Tryz.underlying29 [(0, .agg #[.slice A25 m25 c25, .slice B25 k25 d25])] (by simp [Act.eval]) #[.slice A25 m25 c25, .slice B25 k25 d25] (by kernel_rfl) 2 rfl (by decide) ?_; clear hS; intro g26 w_ hS; (try simp only [Act.put, List.setIfInBounds_toArray, List.set_cons_zero, List.set_cons_succ]))
  | ((with_reducible refine qA 27 ?_); refine wpList_build_of rfl _ _ rfl #[.int .i64 5, .pointer (some ⟨q, 0, none⟩), .slice none 0 0, .slice (some ⟨g18, 0, none⟩) 4 4, .slice (some ⟨g22, 0, none⟩) 1 1, .slice (some ⟨g26, 0, none⟩) 1 1] (by kernel_rfl) ?_; (try simp only [Act.put, List.setIfInBounds_toArray, List.set_cons_zero, List.set_cons_succ]))
  | ((with_reducible refine qA 2 ?_); refine qa hS #[.int .i64 0, .pointer none, .slice none 0 0, .slice none 0 0, .slice none 0 0, .slice none 0 0] ?_; clear hS; intro g2 w_ hS)
  | ((with_reducible refine qM ?_); (first | refine qS hS ?_ | refine qT hS ?_); clear hS; intro w_ hS; (try simp only [Act.put, Act.eval, z1, z2, z3, z4, z5, z6, z7, z8, Value.cells] at hS))
  | ((with_reducible refine qA 29 ?_)
     replace hS := ((hS.freeze 1 (by decide) rfl).freeze 2 (by decide) rfl).freeze 3 (by decide) rfl
     obtain ⟨K1, k0, kp1, hS2⟩ : ∃ K1 : (Nat → Prop) → World → Prop, (∀ D w, K1 D w → K D w) ∧ (∀ D w, K1 D w → IsProb w D (.agg #[.int .i64 5, .pointer (some ⟨q, 0, none⟩), .slice none 0 0, .slice (some ⟨g18, 0, none⟩) 4 4, .slice (some ⟨g22, 0, none⟩) 1 1, .slice (some ⟨g26, 0, none⟩) 1 1]) P1) ∧ St w0 w_ (.box g2 31 #[.int .i64 5, .pointer (some ⟨q, 0, none⟩), .slice none 0 0, .slice (some ⟨g18, 0, none⟩) 4 4, .slice (some ⟨g22, 0, none⟩) 1 1, .slice (some ⟨g26, 0, none⟩) 1 1] :: F) K1 :=
       ⟨_, fun D w h => h.1.1.1.1.1.1.1.1, fun D w h => ⟨_, _, _, _, _, rfl, h.1.1.1.1.1.1.1.2, IsSet.empty, ⟨_, h.2, rcells1 h.1.1.1.1.1.1.2 h.1.1.1.1.1.2⟩, ⟨_, h.1.2, cc1 h.1.1.1.1.2⟩, _, h.1.1.2, cc1 h.1.1.1.2⟩, hS.sub (.cons_cons _ ((((List.sublist_cons_self _ _).trans (List.sublist_cons_self _ _)).trans (List.sublist_cons_self _ _)).trans (List.sublist_cons_self _ _)))⟩
     clear hS
     have hS := hS2
     clear hS2
     refine BigFrame.wpList_want rfl fun _ hK => opw_row rfl rfl (hS.box 0 rfl) Tryz.underlying31 rfl (by kernel_rfl) (hK _ _ ?_)))
 refine (of1_any hS kp1 (fun D w h => (kt D w (k0 D w h)).1)).mono ?_
 clear hS
 rintro e w3 ⟨R3, q3, n3, c3, cr3, cn3, ng3, cg3, A3, Ar3, An3, Ag3, k3, rfl, hS⟩
 obtain ⟨K3, j0, jk, hS2⟩ : ∃ K3 : (Nat → Prop) → World → Prop, (∀ D w, K3 D w → K1 D w) ∧ (∀ D w, K3 D w → Sl w D 1 k3 ([0, 1] : List Int).length (ints [0, 1])) ∧ St w0 w3 (.box g2 31 #[.int .i64 5, .pointer (some ⟨q, 0, none⟩), .slice none 0 0, .slice (some ⟨g18, 0, none⟩) 4 4, .slice (some ⟨g22, 0, none⟩) 1 1, .slice (some ⟨g26, 0, none⟩) 1 1] :: F) K3 := ⟨_, fun D w h => h.1, fun D w h => h.2, hS⟩
 clear hS
 have hS := hS2
 clear hS2
 have hj := Lib.hid fun D w h => kt D w (k0 D w (j0 D w h))
 go_wp2_with (first
  | ((with_reducible refine qA 3 ?_); refine qa hS #[.int .i64 0, .pointer none, .slice none 0 0, .slice none 0 0, .slice none 0 0, .slice none 0 0] ?_; clear hS; intro g3 w_ hS)
  | (go_at_call 51; refine (hnew_any hS hj.out).mono ?_; clear hS; rintro e w_ ⟨p, rfl, hS⟩; obtain ⟨q4, o4, rfl, -⟩ := id hS.ro.2)
  | ((with_reducible refine qA 35 ?_); refine st_litown hS rfl _ 3 1 _ rfl Tryz.underlying48 #[.int .i64 2] (by kernel_rfl) 1 rfl (by decide) ?_; clear hS; intro g35 w_ hS; (try simp only [Act.put, List.setIfInBounds_toArray, List.set_cons_zero, List.set_cons_succ]))
  | (go_at_call 50; refine (of_any _ [2] _ _ (Sl.of_own (hS.own 0 rfl))).mono ?_; rw [show ofN [2] = 4 from by decide]; rintro r_ w_ ⟨_, rfl, h1, hb_⟩; replace hS := hS.ret hb_ stable_set h1; clear h1 hb_; obtain ⟨A36, c36, l36, rfl, -⟩ := hS.ro.2.parts; obtain ⟨n36, hn36⟩ : ∃ n, n = l36.length := ⟨_, rfl⟩; rw [← hn36] at hS ⊢; clear hn36)
  | ((with_reducible refine qA 38 ?_); refine st_litown hS rfl _ 3 2 _ rfl Tryz.underlying48 #[.int .i64 2, .int .i64 3] (by kernel_rfl) 1 rfl (by decide) ?_; clear hS; intro g38 w_ hS; (try simp only [Act.put, List.setIfInBounds_toArray, List.set_cons_zero, List.set_cons_succ]))
  | ((with_reducible refine qA 39 ?_); refine BigFrame.wpList_want rfl fun _ hK => opw_callv (f := 49) (first := #[]) (caps := #[]) (vs := [.slice (some ⟨g38, 0, none⟩) 2 2]) rfl rfl (by kernel_rfl) (by simp [Act.eval, Act.put]) (one_any (l := [2, 3]) (N := 12) (Sl.of_own (hS.own 0 rfl)) (by decide)) fun e w' ⟨x_, he_, hx_, hb_⟩ => ⟨x_, he_, hK _ _ ?_⟩; clear hK; obtain ⟨ya_, na_, rfl, hy_, hn_⟩ := id hx_; obtain ⟨A39, m39, c39, rfl⟩ := hy_.shape; obtain ⟨B39, k39, d39, rfl⟩ := hn_.shape; replace hS := hS.ret hb_ stable_cube hx_; clear hx_ hb_ hy_ hn_ he_; (try simp only [Act.put, List.setIfInBounds_toArray, List.set_cons_zero, List.set_cons_succ]))
  | ((with_reducible refine qA 40 ?_); refine wpList_build_of rfl _ _ rfl #[.bool false, .slice A39 m39 c39, .slice B39 k39 d39, .int .i64 1, .int .i64 0] (by kernel_rfl) ?_; (try simp only [Act.put, List.setIfInBounds_toArray, List.set_cons_zero, List.set_cons_succ]))
  | ((with_reducible refine qA 41 ?_); refine st_litp hS rfl _ 58 1 _ rfl Tryz.underlying28 [(0, .agg #[.bool false, .slice A39 m39 c39, .slice B39 k39 d39, .int .i64 1, .int .i64 0])] (by simp [Act.eval]) #[.bool false, .slice A39 m39 c39, .slice B39 k39 d39, .int .i64 1, .int .i64 0] (by kernel_rfl) 5 rfl (by decide) ?_; clear hS; intro g41 w_ hS; (try simp only [Act.put, List.setIfInBounds_toArray, List.set_cons_zero, List.set_cons_succ]))
  | ((with_reducible refine qA 43 ?_); refine st_litown hS rfl _ 3 1 _ rfl Tryz.underlying48 #[.int .i64 1] (by kernel_rfl) 1 rfl (by decide) ?_; clear hS; intro g43 w_ hS; (try simp only [Act.put, List.setIfInBounds_toArray, List.set_cons_zero, List.set_cons_succ]))
  | ((with_reducible refine qA 44 ?_); refine BigFrame.wpList_want rfl fun _ hK => opw_callv (f := 49) (first := #[]) (caps := #[]) (vs := [.slice (some ⟨g43, 0, none⟩) 1 1]) rfl rfl (by kernel_rfl) (by simp [Act.eval, Act.put]) (one_any (l := [1]) (N := 2) (Sl.of_own (hS.own 0 rfl)) (by decide)) fun e w' ⟨x_, he_, hx_, hb_⟩ => ⟨x_, he_, hK _ _ ?_⟩; clear hK; obtain ⟨ya_, na_, rfl, hy_, hn_⟩ := id hx_; obtain ⟨A44, m44, c44, rfl⟩ := hy_.shape; obtain ⟨B44, k44, d44, rfl⟩ := hn_.shape; replace hS := hS.ret hb_ stable_cube hx_; clear hx_ hb_ hy_ hn_ he_; (try simp only [Act.put, List.setIfInBounds_toArray, List.set_cons_zero, List.set_cons_succ]))
  | ((with_reducible refine qA 45 ?_); refine st_litp hS rfl _ 56 1 _ rfl Tryz.underlying29 [(0, .agg #[.slice A44 m44 c44, .slice B44 k44 d44])] (by simp [Act.eval]) #[.slice A44 m44 c44, .slice B44 k44 d44] (by kernel_rfl) 2 rfl (by decide) ?_; clear hS; intro g45 w_ hS; (try simp only [Act.put, List.setIfInBounds_toArray, List.set_cons_zero, List.set_cons_succ]))
  | ((with_reducible refine qA 46 ?_); refine wpList_build_of rfl _ _ rfl #[.int .i64 5, .pointer (some ⟨q4, 0, none⟩), .slice A36 n36 c36, .slice (some ⟨g41, 0, none⟩) 1 1, .slice none 0 0, .slice (some ⟨g45, 0, none⟩) 1 1] (by kernel_rfl) ?_; (try simp only [Act.put, List.setIfInBounds_toArray, List.set_cons_zero, List.set_cons_succ]))
  | ((with_reducible refine qA 6 ?_); refine qa hS #[.int .i64 0, .pointer none, .slice none 0 0, .slice none 0 0, .slice none 0 0, .slice none 0 0] ?_; clear hS; intro g6 w_ hS)
  | ((with_reducible refine qM ?_); (first | refine qS hS ?_ | refine qT hS ?_); clear hS; intro w_ hS; (try simp only [Act.put, Act.eval, z1, z2, z3, z4, z5, z6, z7, z8, Value.cells] at hS))
  | ((with_reducible refine qA 50 ?_)
     replace hS := (hS.freeze 1 (by decide) rfl).freeze 2 (by decide) rfl
     obtain ⟨K5, m0, kp2, hS2⟩ : ∃ K5 : (Nat → Prop) → World → Prop, (∀ D w, K5 D w → K3 D w) ∧ (∀ D w, K5 D w → IsProb w D (.agg #[.int .i64 5, .pointer (some ⟨q4, 0, none⟩), .slice A36 n36 c36, .slice (some ⟨g41, 0, none⟩) 1 1, .slice none 0 0, .slice (some ⟨g45, 0, none⟩) 1 1]) P2) ∧ St w0 w_ (.box g6 31 #[.int .i64 5, .pointer (some ⟨q4, 0, none⟩), .slice A36 n36 c36, .slice (some ⟨g41, 0, none⟩) 1 1, .slice none 0 0, .slice (some ⟨g45, 0, none⟩) 1 1] :: .box g3 31 #[.int .i64 R3, .pointer (some ⟨q3, 0, none⟩), .slice A3 n3 c3, .slice Ar3 2 cr3, .slice An3 1 cn3, .slice Ag3 ng3 cg3] :: .box g2 31 #[.int .i64 5, .pointer (some ⟨q, 0, none⟩), .slice none 0 0, .slice (some ⟨g18, 0, none⟩) 4 4, .slice (some ⟨g22, 0, none⟩) 1 1, .slice (some ⟨g26, 0, none⟩) 1 1] :: F) K5 :=
       ⟨_, fun D w h => h.1.1.1.1.1.1, fun D w h => ⟨_, _, _, _, _, rfl, h.1.1.1.1.1.2, h.1.1.1.1.2, ⟨_, h.2, RuleCells.single (z := ⟨false, 12, 0, 1, 0⟩) h.1.1.1.2.sets.1 h.1.1.1.2.sets.2⟩, ⟨[], Sl.none_, fun i y n hi => by simp [P2] at hi⟩, _, h.1.2, cc1 h.1.1.2⟩, hS.sub (.cons_cons _ (((List.sublist_cons_self _ _).trans (List.sublist_cons_self _ _)).trans (List.sublist_cons_self _ _)))⟩
     clear hS
     have hS := hS2
     clear hS2
     refine BigFrame.wpList_want rfl fun _ hK => opw_row rfl rfl (hS.box 2 rfl) Tryz.underlying31 rfl (by kernel_rfl) (hK _ _ ?_)))
 have hkp : ∀ D w, K5 D w → IsProb w D (.agg #[.int .i64 5, .pointer (some ⟨q, 0, none⟩), .slice none 0 0, .slice (some ⟨g18, 0, none⟩) 4 4, .slice (some ⟨g22, 0, none⟩) 1 1, .slice (some ⟨g26, 0, none⟩) 1 1]) P1 := fun D w h => kp1 D w (j0 D w (m0 D w h))
 have hkt : ∀ D w, K5 D w → DTab w := fun D w h => (kt D w (k0 D w (j0 D w (m0 D w h)))).1
 have hjk : ∀ D w, K5 D w → Sl w D 1 k3 ([0, 1] : List Int).length (ints [0, 1]) := fun D w h => jk D w (m0 D w h)
 refine (relevant_any (hkp _ _ hS.ro) ok1 (hkt _ _ hS.ro)).mono ?_
 rw [relS1]
 rintro r_ w7 ⟨_, rfl, h1, hb_⟩
 replace hS := hS.ret hb_ stable_set h1
 clear h1 hb_
 go_wp2_with (first
  | ((with_reducible refine qA 52 ?_); refine st_litg hS rfl _ 3 3 _ rfl Tryz.underlying48 #[.int .i64 1, .int .i64 2, .int .i64 5] (by kernel_rfl) 1 rfl (by decide) ?_; clear hS; intro g52 w_ hS; (try simp only [Act.put, List.setIfInBounds_toArray, List.set_cons_zero, List.set_cons_succ]))
  | (go_at_call 50; refine (of_any _ [1, 2, 5] _ _ (Sl.of_own (hS.own 0 rfl))).mono ?_; rw [show ofN [1, 2, 5] = 38 from by decide]; rintro r_ w_ ⟨_, rfl, h1, hb_⟩; replace hS := hS.ret hb_ stable_set h1; clear h1 hb_)
  | (go_at_call 14; refine (equal_any _ _ 38 38 _ _ _ hS.ro.1.2 hS.ro.2).mono ?_; rintro r_ w_ ⟨_, rfl, rfl, hb_⟩; rw [show ((38 : Nat) == 38) = true from rfl]; replace hS := hS.ext hb_; clear hb_)
  | ((with_reducible refine qA 58 ?_); refine st_litg hS rfl _ 3 2 _ rfl Tryz.underlying48 #[.int .i64 0, .int .i64 1] (by kernel_rfl) 1 rfl (by decide) ?_; clear hS; intro g58 w_ hS; (try simp only [Act.put, List.setIfInBounds_toArray, List.set_cons_zero, List.set_cons_succ])))
 refine (sleq_any _ _ [0, 1] [0, 1] _ _ _ (hjk _ _ hS.ro.1.1) (Sl.of_own (hS.own 0 rfl))).mono ?_
 rintro r_ w8 ⟨_, rfl, rfl, hb_⟩
 rw [show (([0, 1] : List Int) == [0, 1]) = true from rfl]
 replace hS := hS.ext hb_
 clear hb_
 go_wp2_with (first
  | ((with_reducible refine qK ?_); refine qC hS ?_)
  | ((with_reducible refine qA 74 ?_); refine BigFrame.wpList_want rfl fun _ hK => opw_row rfl rfl (hS.box 2 rfl) Tryz.underlying31 rfl (by kernel_rfl) (hK _ _ ?_))
  | (go_at_call 21; refine (useless_any (kp2 _ _ hS.ro.1.1) ok2 (hkt _ _ hS.ro.1.1)).mono ?_; rw [use2]; rintro e_ w_ ⟨u9, rfl, hs⟩; replace hS := hS.new hs.below (.own u9 3 1 ([0] : List Int).length (ints [0])) (hs.own 0 rfl); clear hs)
  | ((with_reducible refine qA 76 ?_); refine st_litg hS rfl _ 3 1 _ rfl Tryz.underlying48 #[.int .i64 0] (by kernel_rfl) 1 rfl (by decide) ?_; clear hS; intro g76 w_ hS; (try simp only [Act.put, List.setIfInBounds_toArray, List.set_cons_zero, List.set_cons_succ]))
  | (go_at_call 30; refine (sleq_any _ _ [0] [0] _ _ _ (Sl.of_own (hS.own 1 rfl)) (Sl.of_own (hS.own 0 rfl))).mono ?_; rintro r_ w_ ⟨_, rfl, rfl, hb_⟩; rw [show (([0] : List Int) == [0]) = true from rfl]; replace hS := hS.ext hb_; clear hb_))
 go_ret
 exact ⟨rfl, (hS.sub (.cons _ (.cons _ (.cons _ (.cons _ (.cons _ (.cons _ (.cons _ (List.Sublist.refl _))))))))).mono KS.out fun D w h => k0 _ _ (j0 _ _ (m0 _ _ h.1.1))⟩
end Go.Proofs.YtihpgmbinhmmlaaGreatDoor
namespace Go.Proofs.YtihpgmbinhmmlaaGreatDoor
open Go.RowKit
attribute [local go_sem ↓] Go.wp_at_zero Go.wp_at_succ
set_option maxRecDepth 20000
set_option exponentiation.threshold 5000

theorem start_bytes1 {W : World} {D : Nat → Prop} {v : Value} {l : List Nat} (h : DTab W) (hv : Sl W D 1 v l.length (u8s l)) : ∃ K : (Nat → Prop) → World → Prop, (∀ D w, K D w → DTab w ∧ D 0) ∧ (∀ D w, K D w → Sl w D 1 v l.length (u8s l)) ∧ St W W [] K :=
 ⟨fun D w => (DTab w ∧ D 0) ∧ Sl w D 1 v l.length (u8s l), fun _ _ h => h.1, fun _ _ h => h.2, St.start (D := fun _ => True) (dtab_stable.and (stable_sl (by decide))) ⟨⟨h, trivial⟩, hv.imp fun _ _ _ => trivial⟩⟩
end Go.Proofs.YtihpgmbinhmmlaaGreatDoor
namespace Go.Proofs.YtihpgmbinhmmlaaGreatDoor
open Go.RowKit
attribute [local go_sem ↓] Go.wp_at_zero Go.wp_at_succ
set_option maxRecDepth 20000
set_option exponentiation.threshold 5000

def minusM (M N : Nat) : Nat := M ^^^ (M &&& N)
theorem tb_minus (M N i : Nat) : (minusM M N).testBit i = (M.testBit i && !N.testBit i) := by
 unfold minusM; rw [Nat.testBit_xor, Nat.testBit_and]; cases M.testBit i <;> cases N.testBit i <;> rfl
theorem wd_minus (M N k : Nat) : wd (minusM M N) k = wd M k &&& not64 (wd N k) := by
 apply Nat.eq_of_testBit_eq
 intro i
 rw [Nat.testBit_and]
 by_cases hi : i < 64
 ·rw [testBit_not64 (wd_lt _ _) i hi]
  simp [testBit_wd, hi, tb_minus]
 ·simp [tb_big (wd_lt _ _) (Nat.not_lt.1 hi)]
theorem minus_words {a : List Nat} (ha : Words a) (N : Nat) : Words ((List.range a.length).map fun j => wd (val a) j &&& not64 (wd N j)) ∧ val ((List.range a.length).map fun j => wd (val a) j &&& not64 (wd N j)) = minusM (val a) N := by
 have h1 : Words ((List.range a.length).map fun j => wd (val a) j &&& not64 (wd N j)) := fun x hx => by
  obtain ⟨j, _, rfl⟩ := List.mem_map.1 hx
  exact Nat.lt_of_le_of_lt Nat.and_le_left (wd_lt _ _)
 refine ⟨h1, val_ext h1 fun k => ?_⟩
 rw [wd_minus, List.getD_eq_getElem?_getD, List.getElem?_map]
 rcases Nat.lt_or_ge k a.length with hk | hk
 ·rw [List.getElem?_range hk]; rfl
 ·rw [List.getElem?_eq_none (by simpa using hk), wd_ge ha hk, Nat.zero_and]; rfl
theorem run_andnot64 {P : Program} {w : World} {t : TypeId} {x y : Nat} (hx : x < T64) (hy : y < T64) : (binOp .andNot t (.int .u64 (x : Nat)) (.int .u64 (y : Nat))).run P w = .ok (.int .u64 ((x &&& not64 y : Nat) : Int)) w := by
 go_simp; rw [andNot64 hx hy]
set_option maxHeartbeats 2000000 in
theorem minus_any {w0 : World} {D E : Nat → Prop} {v u : Value} {M N : Nat} (hv : IsSet w0 D v M) (hu : IsSet w0 E u N) :
  Calls Tryz.prog 26 #[v, u] w0 (Ret (fun x w' => IsSet w' (w0.heap.size ≤ ·) x (minusM M N)) w0) := by
 obtain ⟨A, ca, a, rfl, ha, rfl, ha1, ha2, hsa⟩ := hv.parts
 obtain ⟨B, cb, b, rfl, -⟩ := hu.parts
 obtain ⟨m, hm⟩ : ∃ m, m = b.length := ⟨_, rfl⟩
 rw [← hm] at hu ⊢
 clear hm
 obtain ⟨K, k1, k2, hS⟩ : ∃ K : (Nat → Prop) → World → Prop, (∀ D w, K D w → Sl w D 1 (.slice A a.length ca) a.length (u64s a)) ∧ (∀ D w, K D w → IsSet w D (.agg #[.slice B m cb]) N) ∧ St w0 w0 [] K := ⟨_, fun _ _ h => h.1, fun _ _ h => h.2, St.start (D := fun _ => True) ((stable_sl (by decide)).and stable_set) ⟨hsa.imp fun _ _ _ => trivial, hu.imp fun _ _ _ => trivial⟩⟩
 have hla := ha.2.2
 have HW := Lib.hid (minus_words ha.1 N)
 have HA := Lib.hid ha.1
 have hle : a.length ≤ 64 := by omega
 clear hsa hv hu ha
 go_enter Tryz.func26, Tryz.ntmps26
 go_wp2_with (first
  | ((with_reducible refine qA 2 ?_); refine st_box hS rfl _ _ rfl (.agg #[.slice A a.length ca]) _ rfl rfl ?_; clear hS; intro g2 w_ hS; (try simp only [Act.put, Act.eval, z1, z2, z3, z4, z5, z6, z7, z8, Value.cells] at hS))
  | ((with_reducible refine qA 3 ?_); refine st_box hS rfl _ _ rfl (.agg #[.slice B m cb]) _ rfl rfl ?_; clear hS; intro g3 w_ hS; (try simp only [Act.put, Act.eval, z1, z2, z3, z4, z5, z6, z7, z8, Value.cells] at hS))
  | ((with_reducible refine qA 4 ?_); refine qa hS #[.slice none 0 0] ?_; clear hS; intro g4 w_ hS)
  | ((with_reducible refine qK ?_); refine qC hS ?_)
  | ((with_reducible show wpList _ _ _ (⟨_, .makeSlice _ _ _, _, _, _, _⟩ :: _) _ _); refine st_mk hS rfl _ _ _ rfl ty_u64s' .i64 .i64 a.length #[.int .u64 0] rfl rfl (by kernel_rfl) (by omega) (by omega) ?_; clear hS; intro g5 w_ hS))
 rw [mk_u64s] at hS
 obtain ⟨f, hf⟩ : ∃ f : Nat → Nat, f = fun j => wd (val a) j &&& not64 (wd N j) := ⟨_, rfl⟩
 rw [← hf] at HW
 replace hf := Lib.hid hf
 rw [← fillTo_zero f] at hS
 go_loopw [6, 13] (fun j i wr => ∃ k : Nat, i = .int .i64 (k : Nat) ∧ k ≤ a.length ∧ St w0 wr [.own (.slice (some ⟨g5, 0, none⟩) a.length a.length) 33 1 a.length (u64s (fillTo f k a.length)), .box g4 27 #[.slice none 0 0], .box g3 27 #[.slice B m cb], .box g2 27 #[.slice A a.length ca]] K) (fun _ i _ => a.length - (intOf i).toNat)
 case atStart => exact ⟨0, rfl, by omega, hS⟩
 case round =>
  clear hS
  obtain ⟨k, rfl, hk, hS⟩ := hrel
  by_cases hkn : k < a.length
  ·obtain ⟨b1, o1, rfl⟩ : ∃ b o, A = some ⟨b, o, none⟩ := by
    obtain ⟨_, A2, c2, e2, _, _, h5⟩ := k1 _ _ hS.ro
    obtain ⟨b, o, h6, _⟩ := h5 (by omega)
    injection e2 with e2
    exact ⟨b, o, e2.trans h6⟩
   have HX := Lib.hid (u64s_at a k (by omega))
   have hx : a.getD k 0 < T64 := HA.out.getD k
   have hy : wd N k < T64 := wd_lt _ _
   have HF := Lib.hid (show (u64s (fillTo f k a.length)).set k (.int .u64 ((a.getD k 0 &&& not64 (wd N k) : Nat) : Int)) = u64s (fillTo f (k + 1) a.length) by
    rw [← fillTo_set, show f k = a.getD k 0 &&& not64 (wd N k) by rw [hf.out]; show wd (val a) k &&& _ = _; rw [wd_val HA.out], u64s_set])
   have HWd := Lib.hid (show wd N ((k : Nat) : Int).toNat = wd N k by rw [Int.toNat_natCast])
   generalize a.getD k 0 = x at *
   generalize wd N k = y at *
   go_wp2_with (first | ((with_reducible refine qB ?_); (first | refine q1 ?_ ?_ | refine q2 ?_ ?_ | refine q3 ?_ ?_ | refine q4 ?_ ?_ | refine q5 ?_ ?_ | refine q6 ?_ ?_) <;> intro h_ <;> go_prune))
   refine wp_region_tail (fun i__ v w => match i__ with
    | 0 => v = .slice (some ⟨g5, 0, none⟩) a.length a.length
    | 1 => v = .int .i64 ((k : Nat) : Int)
    | 2 => v = .pointer (some ⟨g2, 0, none⟩)
    | 3 => v = .slice (some ⟨b1, o1, none⟩) a.length ca
    | 4 => v = .int .i64 ((k : Nat) : Int)
    | 5 => v = .pointer (some ⟨b1, o1 + (k) * 1, none⟩)
    | 6 => v = .int .u64 ((x : Nat) : Int)
    | 7 => v = .agg #[.slice B m cb]
    | 8 => v = .int .i64 ((k : Nat) : Int)
    | 9 => v = .int .u64 (y : Nat)
    | 10 => v = .int .u64 ((x &&& not64 y : Nat) : Int)
    | 11 => v = .pointer (some ⟨g5, 0 + (k) * 1, none⟩)
    | 12 => True
    | _ => True) 12 [] (by kernel_rfl) (by kernel_rfl) (by kernel_rfl) (by kernel_rfl) (by kernel_rfl) ?mono ⟨.inr ?r0, .inr ?r1, .inr ?r2, .inr ?r3, .inr ?r4, .inr ?r5, .inr ?r6, .inr ?r7, .inr ?r8, .inr ?r9, .inr ?r10, .inr ?r11, .inl (by decide), trivial⟩ ?post
   case mono =>
    intro i v w w' h hb
    match i, h with
    | 0, h | 1, h | 2, h | 3, h | 4, h | 5, h | 6, h | 7, h | 8, h | 9, h | 10, h | 11, h | 12, h => exact h
    | _ + 13, h => trivial
   case r0 =>
    refine trule fun b__ w hW hold hpre => wU rfl fun K hK => ?_
    have e5 : b__.eval (.tmp 5) = .slice (some ⟨g5, 0, none⟩) a.length a.length := (hold 5 (by kernel_rfl)).trans rfl
    exact opw_move rfl e5 (hK _ _ rfl (Below.refl _ _))
   case r1 =>
    refine trule fun b__ w hW hold hpre => wU rfl fun K hK => ?_
    have e6 : b__.eval (.tmp 6) = .int .i64 ((k : Nat) : Int) := (hold 6 (by kernel_rfl)).trans rfl
    exact opw_move rfl e6 (hK _ _ rfl (Below.refl _ _))
   case r2 =>
    refine trule fun b__ w hW hold hpre => wU rfl fun K hK => ?_
    have e2 : b__.eval (.tmp 2) = .pointer (some ⟨g2, 0, none⟩) := (hold 2 (by kernel_rfl)).trans rfl
    exact opw_faddr rfl e2 (by kernel_rfl) (hK _ _ rfl (Below.refl _ _))
   case r3 =>
    refine trule fun b__ w hW hold hpre => wU rfl fun K hK => ?_
    have e18 : b__.eval (.tmp 18) = .pointer (some ⟨g2, 0, none⟩) := pq hpre 0 2 18
    exact opw_cell rfl e18 (by kernel_rfl) (((hS.ext (undrew hW)).box 3 rfl).cell 0) (hK _ _ rfl (Below.refl _ _))
   case r4 =>
    refine trule fun b__ w hW hold hpre => wU rfl fun K hK => ?_
    have e6 : b__.eval (.tmp 6) = .int .i64 ((k : Nat) : Int) := (hold 6 (by kernel_rfl)).trans rfl
    exact opw_move rfl e6 (hK _ _ rfl (Below.refl _ _))
   case r5 =>
    refine trule fun b__ w hW hold hpre => wU rfl fun K hK => ?_
    have e19 : b__.eval (.tmp 19) = .slice (some ⟨b1, o1, none⟩) a.length ca := pq hpre 0 3 19
    have e20 : b__.eval (.tmp 20) = .int .i64 ((k : Nat) : Int) := pq hpre 1 4 20
    exact opw_iaddr rfl e19 e20 (run_iaddr_lit (m := k) Tryz.underlying25 (by kernel_rfl) (by omega) (by omega)) (hK _ _ rfl (Below.refl _ _))
   case r6 =>
    refine trule fun b__ w hW hold hpre => wU rfl fun K hK => ?_
    have e21 : b__.eval (.tmp 21) = .pointer (some ⟨b1, o1 + (k) * 1, none⟩) := pq hpre 0 5 21
    exact opw_cell rfl e21 (by kernel_rfl) (by rw [Nat.mul_one]; exact sl_cell (k1 _ _ (hS.ext (undrew hW)).ro) HX.out) (hK _ _ rfl (Below.refl _ _))
   case r7 =>
    refine trule fun b__ w hW hold hpre => wU rfl fun K hK => ?_
    have e3 : b__.eval (.tmp 3) = .pointer (some ⟨g3, 0, none⟩) := (hold 3 (by kernel_rfl)).trans rfl
    exact opw_row rfl e3 ((hS.ext (undrew hW)).box 2 rfl) Tryz.underlying27 rfl (by kernel_rfl) (hK _ _ rfl (Below.refl _ _))
   case r8 =>
    refine trule fun b__ w hW hold hpre => wU rfl fun K hK => ?_
    have e6 : b__.eval (.tmp 6) = .int .i64 ((k : Nat) : Int) := (hold 6 (by kernel_rfl)).trans rfl
    exact opw_move rfl e6 (hK _ _ rfl (Below.refl _ _))
   case r9 =>
    refine trule fun b__ w hW hold hpre => wU rfl fun K hK => ?_
    have e23 : b__.eval (.tmp 23) = .agg #[.slice B m cb] := pq hpre 0 7 23
    have e24 : b__.eval (.tmp 24) = .int .i64 ((k : Nat) : Int) := pq hpre 1 8 24
    exact opw_call rfl (by kernel_rfl) (by simp only [List.map_cons, List.map_nil, e23, e24]) (word_any _ N (k : Nat) w _ (k2 _ _ (hS.ext (undrew hW)).ro) (by omega)) fun v w' h hb => hK v w' (h.trans (by rw [HWd.out])) hb
   case r10 =>
    refine trule fun b__ w hW hold hpre => wU rfl fun K hK => ?_
    have e22 : b__.eval (.tmp 22) = .int .u64 ((x : Nat) : Int) := pq hpre 0 6 22
    have e25 : b__.eval (.tmp 25) = .int .u64 (y : Nat) := pq hpre 1 9 25
    exact opw_bin (vx := .int .u64 ((x : Nat) : Int)) (vy := .int .u64 (y : Nat)) (v := .int .u64 ((x &&& not64 y : Nat) : Int)) rfl e22 e25 rfl (run_andnot64 hx hy) (hK _ _ rfl (Below.refl _ _))
   case r11 =>
    refine trule fun b__ w hW hold hpre => wU rfl fun K hK => ?_
    have e16 : b__.eval (.tmp 16) = .slice (some ⟨g5, 0, none⟩) a.length a.length := pq hpre 0 0 16
    have e17 : b__.eval (.tmp 17) = .int .i64 ((k : Nat) : Int) := pq hpre 1 1 17
    exact opw_iaddr rfl e16 e17 (run_iaddr_lit (m := k) Tryz.underlying25 (by kernel_rfl) (by omega) (by omega)) (hK _ _ rfl (Below.refl _ _))
   case post =>
    intro b__ wz hW hdf hsz hold hT
    have e27 : b__.eval (.tmp 27) = .pointer (some ⟨g5, 0 + (k) * 1, none⟩) := hT 11 _ 27 (by decide) rfl rfl
    have e26 : b__.eval (.tmp 26) = .int .u64 ((x &&& not64 y : Nat) : Int) := hT 10 _ 26 (by decide) rfl rfl
    have e16 : b__.eval (.tmp 16) = .slice (some ⟨g5, 0, none⟩) a.length a.length := hT 0 _ 16 (by decide) rfl rfl
    have e17 : b__.eval (.tmp 17) = .int .i64 ((k : Nat) : Int) := hT 1 _ 17 (by decide) rfl rfl
    have e18 : b__.eval (.tmp 18) = .pointer (some ⟨g2, 0, none⟩) := hT 2 _ 18 (by decide) rfl rfl
    have e19 : b__.eval (.tmp 19) = .slice (some ⟨b1, o1, none⟩) a.length ca := hT 3 _ 19 (by decide) rfl rfl
    have e20 : b__.eval (.tmp 20) = .int .i64 ((k : Nat) : Int) := hT 4 _ 20 (by decide) rfl rfl
    have e21 : b__.eval (.tmp 21) = .pointer (some ⟨b1, o1 + (k) * 1, none⟩) := hT 5 _ 21 (by decide) rfl rfl
    have e22 : b__.eval (.tmp 22) = .int .u64 ((x : Nat) : Int) := hT 6 _ 22 (by decide) rfl rfl
    have e23 : b__.eval (.tmp 23) = .agg #[.slice B m cb] := hT 7 _ 23 (by decide) rfl rfl
    have e24 : b__.eval (.tmp 24) = .int .i64 ((k : Nat) : Int) := hT 8 _ 24 (by decide) rfl rfl
    have e25 : b__.eval (.tmp 25) = .int .u64 (y : Nat) := hT 9 _ 25 (by decide) rfl rfl
    obtain ⟨vs, hvs, hb⟩ := frame_of hdf hsz hold
    replace e27 : vs 27 = .pointer (some ⟨g5, 0 + (k) * 1, none⟩) := (hvs 27).symm.trans e27
    replace e26 : vs 26 = .int .u64 ((x &&& not64 y : Nat) : Int) := (hvs 26).symm.trans e26
    replace e16 : vs 16 = .slice (some ⟨g5, 0, none⟩) a.length a.length := (hvs 16).symm.trans e16
    replace e17 : vs 17 = .int .i64 ((k : Nat) : Int) := (hvs 17).symm.trans e17
    replace e18 : vs 18 = .pointer (some ⟨g2, 0, none⟩) := (hvs 18).symm.trans e18
    replace e19 : vs 19 = .slice (some ⟨b1, o1, none⟩) a.length ca := (hvs 19).symm.trans e19
    replace e20 : vs 20 = .int .i64 ((k : Nat) : Int) := (hvs 20).symm.trans e20
    replace e21 : vs 21 = .pointer (some ⟨b1, o1 + (k) * 1, none⟩) := (hvs 21).symm.trans e21
    replace e22 : vs 22 = .int .u64 ((x : Nat) : Int) := (hvs 22).symm.trans e22
    replace e23 : vs 23 = .agg #[.slice B m cb] := (hvs 23).symm.trans e23
    replace e24 : vs 24 = .int .i64 ((k : Nat) : Int) := (hvs 24).symm.trans e24
    replace e25 : vs 25 = .int .u64 (y : Nat) := (hvs 25).symm.trans e25
    subst hb
    clear hvs hold hT hdf hsz
    simp only [setAll, Act.put, List.setIfInBounds_toArray, List.set_cons_zero, List.set_cons_succ, List.getElem_toArray, List.getElem_cons_succ, List.getElem_cons_zero]
    (intro o_ ho_; simp only [List.getElem?_toArray, List.getElem?_cons_succ, List.getElem?_cons_zero, Option.some.injEq] at ho_; subst ho_)
    refine opw_ostore rfl (g := g5) (i := k) (e27.trans (by rw [Nat.zero_add, Nat.mul_one])) e26 ((hS.ext hW).own 0 rfl) (by omega) rfl rfl (by kernel_rfl) fun w4 h1 hU => ?_
    replace hS := (hS.ext hW).upd 0 rfl (.own (.slice (some ⟨g5, 0, none⟩) a.length a.length) 33 1 a.length (u64s (fillTo f (k + 1) a.length))) (by simpa [Fact.blk, Value.ownBlock] using upd_gb hU) (by rw [← HF.out]; exact h1) fun _ e => .inl e
    simp only [TailWp]
    simp only [Act.put, List.setIfInBounds_toArray, List.set_cons_zero, List.set_cons_succ]
    clear e26 e27 h1 hU hW
    go_wp2_with fail
    exact ⟨⟨k + 1, by go_num, hkn, hS⟩, by simp [intOf]; omega⟩
  ·obtain rfl : a.length = k := by omega
   rw [fillTo_full, hf.out] at hS
   rw [hf.out] at HW
   obtain ⟨l, hl⟩ : ∃ l, l = (List.range a.length).map (fun j => wd (val a) j &&& not64 (wd N j)) := ⟨_, rfl⟩
   have hll : l.length = a.length := by rw [hl]; simp
   have HLL := Lib.hid hll
   rw [← hl] at hS HW
   clear hl hll
   have hs0 := ((hS.own 0 rfl).lt _ rfl).1
   have hS1 := hS.freeze 0 (by decide) rfl
   clear hS
   have hS := hS1
   clear hS1
   go_wp2_with (first
    | ((with_reducible refine qB ?_); (first | refine q1 ?_ ?_ | refine q2 ?_ ?_ | refine q3 ?_ ?_ | refine q4 ?_ ?_ | refine q5 ?_ ?_ | refine q6 ?_ ?_) <;> intro h_ <;> go_prune)
    | (go_at_call 71; refine (trim_any _ l _ _ HW.out.1 (by rw [HLL.out]; omega) (by rw [HLL.out]; exact hS.ro.2.only)).mono ?_; rintro r_ w_ ⟨_, rfl, hM, hb_⟩; obtain ⟨A3, c3, l3, rfl, -⟩ := hM.parts; replace hS := hS.ret2 hb_ (stable_inter stable_set (w0.heap.size ≤ ·)) (hM.imp fun z hz _ => ⟨.inl hz.1, by rw [hz.2]; exact hs0⟩); clear hb_ hM)
    | ((with_reducible refine qM ?_); (first | refine qS hS ?_ | refine qT hS ?_); clear hS; intro w_ hS; (try simp only [Act.put, Act.eval, z1, z2, z3, z4, z5, z6, z7, z8, Value.cells] at hS)))
   refine ret_cell Tryz.results26 rfl (hS.box 0 rfl) Tryz.underlying27 rfl (by kernel_rfl) rfl ?_
   exact Ret.mk (by rw [← HW.out.2]; exact hS.ro.2.imp fun z hz _ => hz.2) hS.below
end Go.Proofs.YtihpgmbinhmmlaaGreatDoor
namespace Go.Proofs.YtihpgmbinhmmlaaGreatDoor
open Go.RowKit
set_option exponentiation.threshold 5000

theorem Closed.sub {L : List (Nat × Nat)} {p : ProbD} {T : Nat} (h : Closed L p T) : Sub (relM L p) T := fun i hi => by
 rw [relM, tb_mask] at hi; exact hi.2 T h
theorem rel_sub {L : List (Nat × Nat)} {p : ProbD} {N : Nat} (hN : N < 2 ^ 64) (h : ∀ T, Closed L p T → Sub N T) : Sub N (relM L p) := fun i hi => by
 rw [relM, tb_mask]
 refine ⟨?_, fun T hT => h T hT i hi⟩
 rcases Nat.lt_or_ge i 64 with h1 | h1
 ·exact h1
 ·rw [Nat.testBit_lt_two_pow (Nat.lt_of_lt_of_le hN (Nat.pow_le_pow_right (by decide) h1))] at hi; cases hi
theorem closed_rel (L : List (Nat × Nat)) (p : ProbD) : Closed L p (relM L p) :=
 ⟨fun c hc => rel_sub (depM_lt _ _) fun T hT => hT.goal c hc, fun r hr h1 h2 => rel_sub (depM_lt _ _) fun T hT => hT.rules r hr h1 (hT.sub.has h2), fun c hc h2 => rel_sub (depM_lt _ _) fun T hT => hT.never c hc (hT.sub.meets h2)⟩
theorem clos_at {L : List (Nat × Nat)} (hH : HOK L) {s r : Nat} (h1 : 1 ≤ r) (h2 : r < 64) : (closM L s).testBit r = true ↔ ∃ i, s.testBit i = true ∧ (senM L r).testBit i = true := by
 rw [tb_closM]
 constructor
 ·rintro ⟨i, h3, h4, h5, h6⟩
  refine ⟨i, h5, ?_⟩
  rw [tb_sen hH.inr]
  rw [junM, tb_mask] at h6
  exact h6.2.imp Eq.symm id
 ·rintro ⟨i, h3, h4⟩
  rw [tb_sen hH.inr] at h4
  have hi : 1 ≤ i ∧ i < 64 := by
   rcases h4 with rfl | h4
   ·exact ⟨h1, h2⟩
   ·have := tc_role hH h4; omega
  refine ⟨i, hi.2, hi.1, h3, ?_⟩
  rw [junM, tb_mask]
  exact ⟨h2, h4.imp Eq.symm id⟩
theorem clos_none {L : List (Nat × Nat)} (hH : HOK L) {s r : Nat} (h : ¬ (1 ≤ r ∧ r < 64)) : (closM L s).testBit r = false := by
 cases e : (closM L s).testBit r with
 | false => rfl
 | true =>
  obtain ⟨i, h3, h4, h5, h6⟩ := tb_closM.1 e
  rw [junM, tb_mask] at h6
  rcases h6.2 with rfl | h7
  ·exact absurd ⟨h4, h3⟩ h
  ·have := tc_role hH h7; omega
theorem holds_agree {L : List (Nat × Nat)} (hH : HOK L) {S s t : Nat} (hst : ∀ i, S.testBit i = true → (s.testBit i = true ↔ t.testBit i = true)) {z : Nat × Nat} (hz : Sub (depC L z) S) : holdsB z (closM L s) = holdsB z (closM L t) := by
 have key : ∀ m : Nat, (∀ i, m.testBit i = true → (z.1 ||| z.2).testBit i = true) → m &&& closM L s = m &&& closM L t := fun m hm => mask_ext fun r => by
  rw [Nat.testBit_and, Nat.testBit_and, Bool.and_eq_true, Bool.and_eq_true]
  refine and_congr_right fun hr => ?_
  by_cases hr2 : 1 ≤ r ∧ r < 64
  ·rw [clos_at hH hr2.1 hr2.2, clos_at hH hr2.1 hr2.2]
   have hs : ∀ i, (senM L r).testBit i = true → S.testBit i = true := fun i hi => hz i ((tb_dep hH.inr).2 ⟨r, hr2.1, hr2.2, hm r hr, hi⟩)
   exact exists_congr fun i => ⟨fun h => ⟨(hst i (hs i h.2)).1 h.1, h.2⟩, fun h => ⟨(hst i (hs i h.2)).2 h.1, h.2⟩⟩
  ·rw [clos_none hH hr2, clos_none hH hr2]
 unfold holdsB
 rw [key z.1 fun i h => tb_or.2 (.inl h), key z.2 fun i h => tb_or.2 (.inr h)]
theorem any_agree {L : List (Nat × Nat)} (hH : HOK L) {S s t : Nat} (hst : ∀ i, S.testBit i = true → (s.testBit i = true ↔ t.testBit i = true)) {l : List (Nat × Nat)} (hl : ∀ z ∈ l, Sub (depC L z) S) : (l.any fun z => holdsB z (closM L s)) = l.any fun z => holdsB z (closM L t) := by
 induction l with
 | nil => rfl
 | cons z r ih =>
  rw [List.any_cons, List.any_cons, holds_agree hH hst (hl z (List.mem_cons_self ..)), ih fun y hy => hl y (List.mem_cons_of_mem _ hy)]
theorem dep_zero {L : List (Nat × Nat)} (hH : HOK L) (S : Nat) : Sub (depC L (0, 0)) S := fun i hi => by
 obtain ⟨r, _, _, h, _⟩ := (tb_dep hH.inr).1 hi
 simp at h
theorem MadeP.keptR {p : ProbD} {L : List (Nat × Nat)} {R : Nat} (h : MadeP p L R) : ∀ r ∈ keepR (relM L p) p.rules, Sub (depC L (r.yes, r.no)) (relM L p) := fun r hr => by
 obtain ⟨h1, h2⟩ := List.mem_filter.1 hr
 cases hv : r.revoke with
 | false => exact (closed_rel L p).rules r h1 hv h2
 | true =>
  have := (h.rules r h1).2.2.2.2.2.2.2 hv
  rw [this.1, this.2]; exact dep_zero h.hok _
theorem keptN {p : ProbD} {L : List (Nat × Nat)} : ∀ z ∈ keepC L (relM L p) p.never, Sub (depC L z) (relM L p) := fun z hz => by
 obtain ⟨h1, h2⟩ := List.mem_filter.1 hz
 exact (closed_rel L p).never z h1 h2
theorem mix_agree {S s b : Nat} : ∀ i, S.testBit i = true → (s.testBit i = true ↔ ((s &&& S) ||| minusM b S).testBit i = true) := fun i hi => by
 rw [Nat.testBit_or, Nat.testBit_and, tb_minus, hi]; simp
end Go.Proofs.YtihpgmbinhmmlaaGreatDoor
namespace Go.Proofs.YtihpgmbinhmmlaaGreatDoor
open Go.RowKit
attribute [local go_sem ↓] Go.wp_at_zero Go.wp_at_succ
set_option maxRecDepth 20000
set_option exponentiation.threshold 5000

theorem IsRProb.role0 {w : World} {D : Nat → Prop} {us : Array Value} {p : ProbD} (h : IsRProb w D (.agg us) p) : us[0]? = some (.int .i64 p.roles) := by
 obtain ⟨_, _, _, _, _, e, _⟩ := h
 injection e with e
 rw [e]; rfl
theorem IsProb.cellsOf {w : World} {D : Nat → Prop} {xs : Array Value} {p : ProbD} (h : IsProb w D (.agg xs) p) : ∃ lp s rv nv gv, xs = #[.int .i64 p.roles, lp, s, rv, nv, gv] ∧ IsHo w D lp p.links ∧ IsSet w D (.agg #[s]) p.start ∧ IsRules w D rv p.rules ∧ IsCubes w D nv p.never ∧ IsCubes w D gv p.goal := by
 obtain ⟨lp, s, rv, nv, gv, e, h1⟩ := h
 injection e with e
 exact ⟨lp, s, rv, nv, gv, e, h1⟩
theorem MadeP.ofE {p : ProbD} {L : List (Nat × Nat)} {R : Nat} (h : MadeP p L R) : ofP p = ⟨p.roles, p.links, p.start &&& relM L p, keepR (relM L p) p.rules, keepC L (relM L p) p.never, p.goal⟩ := by
 unfold ofP; rw [if_pos h.check, h.links]
theorem set_slice {w : World} {D : Nat → Prop} {v : Value} {N : Nat} (h : IsSet w D v N) : ∃ A n c, v = .agg #[.slice A n c] := by
 obtain ⟨A, c, l, rfl, -⟩ := h.parts
 exact ⟨_, _, _, rfl⟩
set_option maxHeartbeats 4000000 in
theorem ldepends_any (v : Value) (l : List Nat) (x y : Nat) (hx : x < 256) (hy : y < 256) (W : World) (D : Nat → Prop) (hl : ∀ x ∈ l, x < 256) (hv : Sl W D 1 v l.length (u8s l)) (hT : DTab W) : Calls Tryz.prog 5 #[v, .int .u8 (x : Nat), .int .u8 (y : Nat)] W (Ret (fun x _ => x = .bool true) W) := by
 obtain ⟨K, kt, k1, hS⟩ := start_bytes1 hT hv
 clear hv hT
 have HL := Lib.hid hl
 clear hl
 go_enter Tryz.func5, Tryz.ntmps5
 go_wp2_with (first
  | (go_at_call 11; refine (lawake33_any hS kt).mono ?_; clear hS; rintro e w_ ⟨rfl, hS⟩)
  | (go_at_call 12; refine (lmake31_any HL.out hS k1 kt).mono ?_; clear hS; rintro e w_ ⟨x, u, rfl, p, ⟨L, R, hM⟩, hS⟩; replace hM := Lib.hid hM; obtain ⟨xs, rfl, hx6, hx1⟩ := hS.ro.2.1.cells; replace hx6 := Lib.hid hx6; obtain ⟨us, rfl, hu6, hu1⟩ := hS.ro.2.2.cells; replace hu6 := Lib.hid hu6; have hu0 := hS.ro.2.2.role0; rw [hM.out.roles] at hu0; have hR5 := hM.out.r5; have HC0 := Lib.hid hM.out.check)
  | (go_at_call 19; refine (of_slice_any hM.out.ok hS (fun D w h => h.2.1) (fun D w h => (kt D w h.1).1)).mono ?_; rw [HC0.out]; clear hS; rintro e w_ ⟨y, kk, rfl, hS⟩; obtain ⟨ys, rfl, hy6, hy1⟩ := hS.ro.1.2.cells; replace hy6 := Lib.hid hy6)
  | (go_at_call 13; refine (relevant_any hS.ro.1.1.2.1 hM.out.ok (kt _ _ hS.ro.1.1.1).1).mono ?_; rw [hM.out.rel]; rintro r_ w_ ⟨_, rfl, h1, hb_⟩; replace hS := hS.ret hb_ stable_set h1; clear h1 hb_; obtain ⟨A13, c13, l13, rfl, -⟩ := hS.ro.2.parts; obtain ⟨n13, hn13⟩ : ∃ n, n = l13.length := ⟨_, rfl⟩; rw [← hn13] at hS ⊢; clear hn13)
  | ((with_reducible refine qA 45 ?_); refine st_addN (n := R) (m := 1) rfl _ _ _ _ rfl (fun z => z = R + 1) rfl rfl (by omega) rfl ?_; rintro z45 rfl)
  | (go_at_call 22; refine (below_any (R + 1) _ (by omega)).mono ?_; rintro r_ w_ ⟨_, rfl, h1, hb_⟩; replace hS := hS.ret hb_ stable_set h1; clear h1 hb_)
  | (go_at_call 23; refine (without_any _ _ 0 _ _ hS.ro.2).mono ?_; rintro r_ w_ ⟨_, rfl, h1, hb_⟩; replace hS := hS.ret2 hb_ stable_set h1; clear h1 hb_; obtain ⟨A14, c14, l14, rfl, -⟩ := hS.ro.2.parts; obtain ⟨n14, hn14⟩ : ∃ n, n = l14.length := ⟨_, rfl⟩; rw [← hn14] at hS ⊢; clear hn14)
  | ((with_reducible refine qA 7 ?_); refine qa hS #[.int .i64 0, .pointer none, .slice none 0 0, .slice none 0 0, .slice none 0 0, .slice none 0 0] ?_; clear hS; intro g7 w_ hS)
  | ((with_reducible refine qA 8 ?_); refine qa hS #[.int .i64 0, .slice none 0 0, .int .u64 0, .slice none 0 0, .slice none 0 0, .slice none 0 0] ?_; clear hS; intro g8 w_ hS)
  | ((with_reducible refine qA 10 ?_); refine qa hS #[.int .i64 0, .pointer none, .slice none 0 0, .slice none 0 0, .slice none 0 0, .slice none 0 0] ?_; clear hS; intro g10 w_ hS)
  | ((with_reducible refine qA 13 ?_); refine qa hS #[.slice none 0 0] ?_; clear hS; intro g13 w_ hS)
  | ((with_reducible refine qA 14 ?_); refine qa hS #[.slice none 0 0] ?_; clear hS; intro g14 w_ hS)
  | ((with_reducible refine qm 37 ?_); refine st_store hS 0 rfl _ _ _ rfl _ _ rfl rfl _ _ rfl (by rw [hu6.out]; kernel_rfl) (by rw [hu6.out]; rfl) hu1 ?_; clear hS; intro w_ hS; (try simp only [Act.put, Act.eval, z1, z2, z3, z4, z5, z6, z7, z8, Value.cells] at hS))
  | ((with_reducible refine qm 31 ?_); (first | (refine st_store hS 1 rfl _ _ _ rfl _ _ rfl rfl _ _ rfl (by rw [hx6.out]; kernel_rfl) (by rw [hx6.out]; rfl) hx1 ?_) | (refine st_store hS 0 rfl _ _ _ rfl _ _ rfl rfl _ _ rfl (by rw [hy6.out]; kernel_rfl) (by rw [hy6.out]; rfl) hy1 ?_)); clear hS; intro w_ hS; (try simp only [Act.put, Act.eval, z1, z2, z3, z4, z5, z6, z7, z8, Value.cells] at hS))
  | ((with_reducible refine qA 30 ?_); refine BigFrame.wpList_want rfl fun _ hK => opw_row rfl rfl (hS.box 1 rfl) Tryz.underlying31 rfl (by rw [hx6.out]; kernel_rfl) (hK _ _ ?_))
  | ((with_reducible refine qA 41 ?_); refine BigFrame.wpList_want rfl fun _ hK => opw_row rfl rfl (hS.box 2 rfl) Tryz.underlying31 rfl (by rw [hx6.out]; kernel_rfl) (hK _ _ ?_))
  | ((with_reducible refine qM ?_); (first | refine qS hS ?_ | refine qT hS ?_); clear hS; intro w_ hS; (try simp only [Act.put, Act.eval, z1, z2, z3, z4, z5, z6, z7, z8, Value.cells] at hS))
  | ((with_reducible refine qK ?_); refine qC hS ?_))
 have hx64 : x < T64 := by unfold T64; omega
 have hy64 : y < T64 := by unfold T64; omega
 obtain ⟨S, hSS⟩ : ∃ S, S = relM L p := ⟨_, rfl⟩
 obtain ⟨RO, hRO⟩ : ∃ RO, RO = del (2 ^ (R + 1) - 1) 0 := ⟨_, rfl⟩
 rw [← hSS, ← hRO] at hS
 obtain ⟨KA, ka, kS, kR, hS2⟩ : ∃ KA : (Nat → Prop) → World → Prop, Hid (∀ D w, KA D w → K D w ∧ IsProb w D (.agg xs) p ∧ IsProb w D (.agg ys) (ofP p)) ∧ (∀ D w, KA D w → IsSet w D (.agg #[.slice A13 n13 c13]) S) ∧ (∀ D w, KA D w → IsSet w D (.agg #[.slice A14 n14 c14]) RO) ∧ St W w_ (.box g14 27 #[.slice A14 n14 c14] :: .box g13 27 #[.slice A13 n13 c13] :: .box g10 31 ys :: .box g8 37 us :: .box g7 31 xs :: []) KA := ⟨_, Lib.hid fun _ _ h => ⟨h.1.1.1.1.1.1, h.1.1.1.1.1.2.1, h.1.1.1.1.2⟩, fun _ _ h => h.1.1.2, fun _ _ h => h.2, hS⟩
 have HSS := Lib.hid hSS
 clear hS hSS hRO hx1 hy1 hu1
 have hJ0 : GJ W (.box g14 27 #[.slice A14 n14 c14] :: .box g13 27 #[.slice A13 n13 c13] :: .box g10 31 ys :: .box g8 37 us :: .box g7 31 xs :: []) 27 #[.slice none 0 0] (w_.drew, ⟨none, KA⟩) := hS2.drew
 have hRr := @GR.refl W (.box g14 27 #[.slice A14 n14 c14] :: .box g13 27 #[.slice A13 n13 c13] :: .box g10 31 ys :: .box g8 37 us :: .box g7 31 xs :: []) 27 #[.slice none 0 0]
 have hRt := @GR.trans W (.box g14 27 #[.slice A14 n14 c14] :: .box g13 27 #[.slice A13 n13 c13] :: .box g10 31 ys :: .box g8 37 us :: .box g7 31 xs :: []) 27 #[.slice none 0 0]
 have hN0 := @GN.start 5 6 w_.drew KA
 clear hS2
 simp only [Act.put, List.setIfInBounds_toArray, List.set_cons_zero, List.set_cons_succ]
 refine wp_region_ghost (fun i__ v w => match i__ with
  | 0 => v = .int .u8 (x : Nat)
  | 1 => v = .int .u64 (x : Nat)
  | 2 => ∃ u, v = .agg #[u] ∧ u.oneCell' = true ∧ ∀ D w1, w.2.K D w1 → IsSet w1 D (.agg #[u]) (x)
  | 3 => v = .agg #[.slice A14 n14 c14]
  | 4 => ∃ u, v = .agg #[u] ∧ u.oneCell' = true ∧ ∀ D w1, w.2.K D w1 → IsSet w1 D (.agg #[u]) (x &&& RO)
  | 5 => ∃ g o, v = .pointer (some ⟨g, 0, none⟩) ∧ w.2.b = some (g, o)
  | 6 => ∃ g u, w.2.b = some (g, some #[u]) ∧ u.oneCell' = true ∧ ∀ D w1, w.2.K D w1 → IsSet w1 D (.agg #[u]) (x &&& RO)
  | _ => True) (GR W (.box g14 27 #[.slice A14 n14 c14] :: .box g13 27 #[.slice A13 n13 c13] :: .box g10 31 ys :: .box g8 37 us :: .box g7 31 xs :: []) 27 #[.slice none 0 0]) (GN 5 6) (⟨none, KA⟩) (by kernel_rfl) (by kernel_rfl) hRr hRt ?mono ?hN ⟨?r0, ?r1, ?r2, ?r3, ?r4, ?r5, ?r6, trivial⟩ ?post
 case hN => first | assumption | (intro i; (try dsimp only); split <;> first | trivial | assumption | (left; assumption))
 case mono =>
  intro i v w w' h hb
  match i, h with
  | 0, h | 1, h => exact h
  | 2, h => exact by obtain ⟨u, e, e2, h⟩ := h; exact ⟨u, e, e2, fun D w1 h1 => h D w1 (hb.2.1 D w1 h1)⟩
  | 3, h => exact h
  | 4, h => exact by obtain ⟨u, e, e2, h⟩ := h; exact ⟨u, e, e2, fun D w1 h1 => h D w1 (hb.2.1 D w1 h1)⟩
  | 5, h => exact hb.var h
  | 6, h => exact by obtain ⟨g, u, e, e2, h⟩ := h; exact ⟨g, u, hb.2.2.2 _ _ e, e2, fun D w1 h1 => h D w1 (hb.2.1 D w1 h1)⟩
  | _ + 7, h => trivial
 case r0 =>
  refine truleGh fun b__ w hW hN hold hpre => wU rfl fun K hK => ?_
  have e1 : b__.eval (.tmp 1) = .int .u8 (x : Nat) := (hold 1 (by kernel_rfl)).trans rfl
  exact opw_move rfl e1 (hK _ _ rfl ⟨hRr _, fun _ _ h => h⟩)
 case r1 =>
  refine truleGh fun b__ w hW hN hold hpre => wU rfl fun K hK => ?_
  have e48 : b__.eval (.tmp 48) = .int .u8 (x : Nat) := pq hpre 0 0 48
  exact opw_conv rfl e48 (by go_simp; exact wrap_u64_nat hx64) (hK _ _ rfl ⟨hRr _, fun _ _ h => h⟩)
 case r2 =>
  refine truleGh fun b__ w hW hN hold hpre => wU rfl fun K hK => ?_
  have e49 : b__.eval (.tmp 49) = .int .u64 (x : Nat) := pq hpre 0 1 49
  refine opw_callw rfl (by kernel_rfl) (by simp only [List.map_cons, List.map_nil, e49]) (lset_any x hx64 w.1) fun e w' ⟨z, he, hz, hb⟩ => ⟨z, he, ?_⟩
  obtain ⟨u, rfl, h1⟩ := set_one hz
  exact hK _ (w', { w.2 with K := _ }) ⟨u, rfl, h1, fun D w1 h => h.2⟩ (GK.more ((hW.1 hJ0).ret hb stable_set hz) fun D w1 h => h.1)
 case r3 =>
  refine truleGh fun b__ w hW hN hold hpre => wU rfl fun K hK => ?_
  have e14 : b__.eval (.tmp 14) = .pointer (some ⟨g14, 0, none⟩) := (hold 14 (by kernel_rfl)).trans rfl
  exact opw_row rfl e14 ((hW.1 hJ0).box 0 rfl) Tryz.underlying27 rfl (by kernel_rfl) (hK _ _ rfl ⟨hRr _, fun _ _ h => h⟩)
 case r4 =>
  refine truleGh fun b__ w hW hN hold hpre => wU rfl fun K hK => ?_
  have e50 : (fun (v : Value) (w : World × _) => ∃ u, v = .agg #[u] ∧ u.oneCell' = true ∧ ∀ D w1, w.2.K D w1 → IsSet w1 D (.agg #[u]) (x)) (b__.eval (.tmp 50)) w := hpre ⟨2, _⟩ (Array.mem_of_getElem? (i := 0) rfl) rfl _ _ rfl rfl
  have e51 : b__.eval (.tmp 51) = .agg #[.slice A14 n14 c14] := pq hpre 1 3 51
  obtain ⟨ua, hua, _, h2⟩ := e50
  refine opw_callw rfl (by kernel_rfl) (by simp only [List.map_cons, List.map_nil, hua, e51]) (and_any (h2 _ _ (hW.1 hJ0).ro) (kR _ _ (hW.2.1 _ _ (hW.1 hJ0).ro))) fun e w' ⟨z, he, hz, hb⟩ => ⟨z, he, ?_⟩
  obtain ⟨u, rfl, h1⟩ := set_one hz
  exact hK _ (w', { w.2 with K := _ }) ⟨u, rfl, h1, fun D w1 h => h.2⟩ (GK.more ((hW.1 hJ0).ret hb stable_set hz) fun D w1 h => h.1)
 case r5 =>
  refine truleGh fun b__ w hW hN hold hpre => wU rfl fun K hK => ?_
  exact gk_alloc rfl (by kernel_rfl) (by kernel_rfl) (hW.1 hJ0) (hN.1 rfl) fun g w' hs => hK _ (w', { w.2 with b := some (g, none) }) ⟨g, none, rfl, rfl⟩ (GK.made (hN.1 rfl) hs)
 case r6 =>
  refine truleGh fun b__ w hW hN hold hpre => wU rfl fun K hK => ?_
  have e15 : (fun (v : Value) (w : World × _) => ∃ g o, v = .pointer (some ⟨g, 0, none⟩) ∧ w.2.b = some (g, o)) (b__.eval (.tmp 15)) w := hpre ⟨5, _⟩ (Array.mem_of_getElem? (i := 0) rfl) rfl _ _ rfl rfl
  have e52 : (fun (v : Value) (w : World × _) => ∃ u, v = .agg #[u] ∧ u.oneCell' = true ∧ ∀ D w1, w.2.K D w1 → IsSet w1 D (.agg #[u]) (x &&& RO)) (b__.eval (.tmp 52)) w := hpre ⟨4, _⟩ (Array.mem_of_getElem? (i := 1) rfl) rfl _ _ rfl rfl
  obtain ⟨g, o, hg, hgb⟩ := e15
  obtain ⟨u, hv, hu1, h1⟩ := e52
  obtain rfl : o = none := (by cases o with | none => rfl | some cs => exact absurd hgb (hN.2 rfl g cs))
  exact gk_store rfl hg hv (hW.1 hJ0) hgb (by kernel_rfl) rfl (by simpa [Value.oneCell'] using hu1) fun w' hs => hK undef (w', { w.2 with b := some (g, some #[u]) }) ⟨g, u, rfl, hu1, h1⟩ (GK.put hgb hs)
 case post =>
  intro b__ wz hW hdf hsz hold hT hZ
  have e48 : b__.eval (.tmp 48) = .int .u8 (x : Nat) := hT 0 _ 48 rfl rfl
  have e49 : b__.eval (.tmp 49) = .int .u64 (x : Nat) := hT 1 _ 49 rfl rfl
  have e50 : (fun (v : Value) (w : World × _) => ∃ u, v = .agg #[u] ∧ u.oneCell' = true ∧ ∀ D w1, w.2.K D w1 → IsSet w1 D (.agg #[u]) (x)) (b__.eval (.tmp 50)) wz := hT 2 _ 50 rfl rfl
  have e51 : b__.eval (.tmp 51) = .agg #[.slice A14 n14 c14] := hT 3 _ 51 rfl rfl
  have e52 : (fun (v : Value) (w : World × _) => ∃ u, v = .agg #[u] ∧ u.oneCell' = true ∧ ∀ D w1, w.2.K D w1 → IsSet w1 D (.agg #[u]) (x &&& RO)) (b__.eval (.tmp 52)) wz := hT 4 _ 52 rfl rfl
  have e15 : (fun (v : Value) (w : World × _) => ∃ g o, v = .pointer (some ⟨g, 0, none⟩) ∧ w.2.b = some (g, o)) (b__.eval (.tmp 15)) wz := hT 5 _ 15 rfl rfl
  obtain ⟨vs, hvs, hb⟩ := frame_of hdf hsz hold
  replace e48 : vs 48 = .int .u8 (x : Nat) := (hvs 48).symm.trans e48
  replace e49 : vs 49 = .int .u64 (x : Nat) := (hvs 49).symm.trans e49
  replace e50 := (hvs 50) ▸ e50
  replace e51 : vs 51 = .agg #[.slice A14 n14 c14] := (hvs 51).symm.trans e51
  replace e52 := (hvs 52) ▸ e52
  replace e15 := (hvs 15) ▸ e15
  subst hb
  clear hvs hold hT hdf hsz
  simp only [setAll, Act.put, List.setIfInBounds_toArray, List.set_cons_zero, List.set_cons_succ, List.getElem_toArray, List.getElem_cons_succ, List.getElem_cons_zero]
  obtain ⟨_, g15, u15, hb15, hu15, hK15⟩ := hZ 6 _ rfl rfl
  obtain ⟨g, o, hg, hgb⟩ := e15
  obtain rfl : g15 = g := by rw [hb15] at hgb; injection hgb with h; injection h with h _
  obtain ⟨KB, kb, kX, wf, hwf, hS⟩ : ∃ KB : (Nat → Prop) → World → Prop, (∀ D w, KB D w → KA D w) ∧ (∀ D w, KB D w → IsSet w D (.agg #[u15]) (x &&& RO)) ∧ ∃ wf : World, wz.1 = wf ∧ St W wf (.box g15 27 #[u15] :: .box g14 27 #[.slice A14 n14 c14] :: .box g13 27 #[.slice A13 n13 c13] :: .box g10 31 ys :: .box g8 37 us :: .box g7 31 xs :: []) KB := ⟨_, hW.2.1, hK15, _, rfl, (hW.1 hJ0).some hb15⟩
  rw [hwf]
  simp only [show vs (15 : Nat) = _ from hg]
  clear hW hZ hJ0 hRr hRt hN0 e48 e49 e50 e51 e52 hb15 hgb hK15 hg hwf hu15
  generalize vs 48 = s48, vs 49 = s49, vs 50 = s50, vs 51 = s51, vs 52 = s52
  obtain ⟨A15, c15, l15, hvu, -⟩ := (kX _ _ hS.ro).parts
  obtain rfl : u15 = .slice A15 l15.length c15 := by injection hvu with hvu; simpa using hvu
  clear hvu
  generalize l15.length = n15 at *
  go_wp2_with fail
  have kS2 : ∀ D w, KB D w → IsSet w D (.agg #[.slice A13 n13 c13]) S := fun D w h => kS D w (kb D w h)
  have kR2 : ∀ D w, KB D w → IsSet w D (.agg #[.slice A14 n14 c14]) RO := fun D w h => kR D w (kb D w h)
  have hJ0 : GJ W (.box g15 27 #[.slice A15 n15 c15] :: .box g14 27 #[.slice A14 n14 c14] :: .box g13 27 #[.slice A13 n13 c13] :: .box g10 31 ys :: .box g8 37 us :: .box g7 31 xs :: []) 27 #[.slice none 0 0] (wf.drew, ⟨none, KB⟩) := hS.drew
  have hRr := @GR.refl W (.box g15 27 #[.slice A15 n15 c15] :: .box g14 27 #[.slice A14 n14 c14] :: .box g13 27 #[.slice A13 n13 c13] :: .box g10 31 ys :: .box g8 37 us :: .box g7 31 xs :: []) 27 #[.slice none 0 0]
  have hRt := @GR.trans W (.box g15 27 #[.slice A15 n15 c15] :: .box g14 27 #[.slice A14 n14 c14] :: .box g13 27 #[.slice A13 n13 c13] :: .box g10 31 ys :: .box g8 37 us :: .box g7 31 xs :: []) 27 #[.slice none 0 0]
  have hN0 := @GN.start 11 12 wf.drew KB
  clear hS
  refine wp_region_ghost (fun i__ v w => match i__ with
   | 0 => v = .agg #[.slice A15 n15 c15]
   | 1 => v = .agg #[.slice A13 n13 c13]
   | 2 => ∃ u, v = .agg #[u] ∧ u.oneCell' = true ∧ ∀ D w1, w.2.K D w1 → IsSet w1 D (.agg #[u]) (x &&& RO &&& S)
   | 3 => v = .int .u8 (y : Nat)
   | 4 => v = .int .u64 (y : Nat)
   | 5 => ∃ u, v = .agg #[u] ∧ u.oneCell' = true ∧ ∀ D w1, w.2.K D w1 → IsSet w1 D (.agg #[u]) (y)
   | 6 => v = .agg #[.slice A14 n14 c14]
   | 7 => ∃ u, v = .agg #[u] ∧ u.oneCell' = true ∧ ∀ D w1, w.2.K D w1 → IsSet w1 D (.agg #[u]) (y &&& RO)
   | 8 => v = .agg #[.slice A13 n13 c13]
   | 9 => ∃ u, v = .agg #[u] ∧ u.oneCell' = true ∧ ∀ D w1, w.2.K D w1 → IsSet w1 D (.agg #[u]) (minusM (y &&& RO) S)
   | 10 => ∃ u, v = .agg #[u] ∧ u.oneCell' = true ∧ ∀ D w1, w.2.K D w1 → IsSet w1 D (.agg #[u]) (x &&& RO &&& S ||| minusM (y &&& RO) S)
   | 11 => ∃ g o, v = .pointer (some ⟨g, 0, none⟩) ∧ w.2.b = some (g, o)
   | 12 => ∃ g u, w.2.b = some (g, some #[u]) ∧ u.oneCell' = true ∧ ∀ D w1, w.2.K D w1 → IsSet w1 D (.agg #[u]) (x &&& RO &&& S ||| minusM (y &&& RO) S)
   | _ => True) (GR W (.box g15 27 #[.slice A15 n15 c15] :: .box g14 27 #[.slice A14 n14 c14] :: .box g13 27 #[.slice A13 n13 c13] :: .box g10 31 ys :: .box g8 37 us :: .box g7 31 xs :: []) 27 #[.slice none 0 0]) (GN 11 12) (⟨none, KB⟩) (by kernel_rfl) (by kernel_rfl) hRr hRt ?mono ?hN ⟨?r0, ?r1, ?r2, ?r3, ?r4, ?r5, ?r6, ?r7, ?r8, ?r9, ?r10, ?r11, ?r12, trivial⟩ ?post
  case hN => first | assumption | (intro i; (try dsimp only); split <;> first | trivial | assumption | (left; assumption))
  case mono =>
   intro i v w w' h hb
   match i, h with
   | 0, h | 1, h => exact h
   | 2, h => exact by obtain ⟨u, e, e2, h⟩ := h; exact ⟨u, e, e2, fun D w1 h1 => h D w1 (hb.2.1 D w1 h1)⟩
   | 3, h | 4, h => exact h
   | 5, h => exact by obtain ⟨u, e, e2, h⟩ := h; exact ⟨u, e, e2, fun D w1 h1 => h D w1 (hb.2.1 D w1 h1)⟩
   | 6, h => exact h
   | 7, h => exact by obtain ⟨u, e, e2, h⟩ := h; exact ⟨u, e, e2, fun D w1 h1 => h D w1 (hb.2.1 D w1 h1)⟩
   | 8, h => exact h
   | 9, h => exact by obtain ⟨u, e, e2, h⟩ := h; exact ⟨u, e, e2, fun D w1 h1 => h D w1 (hb.2.1 D w1 h1)⟩
   | 10, h => exact by obtain ⟨u, e, e2, h⟩ := h; exact ⟨u, e, e2, fun D w1 h1 => h D w1 (hb.2.1 D w1 h1)⟩
   | 11, h => exact hb.var h
   | 12, h => exact by obtain ⟨g, u, e, e2, h⟩ := h; exact ⟨g, u, hb.2.2.2 _ _ e, e2, fun D w1 h1 => h D w1 (hb.2.1 D w1 h1)⟩
   | _ + 13, h => trivial
  case r0 =>
   refine truleGh fun b__ w hW hN hold hpre => wU rfl fun K hK => ?_
   have e15 : b__.eval (.tmp 15) = .pointer (some ⟨g15, 0, none⟩) := (hold 15 (by kernel_rfl)).trans rfl
   exact opw_row rfl e15 ((hW.1 hJ0).box 0 rfl) Tryz.underlying27 rfl (by kernel_rfl) (hK _ _ rfl ⟨hRr _, fun _ _ h => h⟩)
  case r1 =>
   refine truleGh fun b__ w hW hN hold hpre => wU rfl fun K hK => ?_
   have e13 : b__.eval (.tmp 13) = .pointer (some ⟨g13, 0, none⟩) := (hold 13 (by kernel_rfl)).trans rfl
   exact opw_row rfl e13 ((hW.1 hJ0).box 2 rfl) Tryz.underlying27 rfl (by kernel_rfl) (hK _ _ rfl ⟨hRr _, fun _ _ h => h⟩)
  case r2 =>
   refine truleGh fun b__ w hW hN hold hpre => wU rfl fun K hK => ?_
   have e53 : b__.eval (.tmp 53) = .agg #[.slice A15 n15 c15] := pq hpre 0 0 53
   have e54 : b__.eval (.tmp 54) = .agg #[.slice A13 n13 c13] := pq hpre 1 1 54
   refine opw_callw rfl (by kernel_rfl) (by simp only [List.map_cons, List.map_nil, e53, e54]) (and_any (kX _ _ (hW.2.1 _ _ (hW.1 hJ0).ro)) (kS2 _ _ (hW.2.1 _ _ (hW.1 hJ0).ro))) fun e w' ⟨z, he, hz, hb⟩ => ⟨z, he, ?_⟩
   obtain ⟨u, rfl, h1⟩ := set_one hz
   exact hK _ (w', { w.2 with K := _ }) ⟨u, rfl, h1, fun D w1 h => h.2⟩ (GK.more ((hW.1 hJ0).ret hb stable_set hz) fun D w1 h => h.1)
  case r3 =>
   refine truleGh fun b__ w hW hN hold hpre => wU rfl fun K hK => ?_
   have e2 : b__.eval (.tmp 2) = .int .u8 (y : Nat) := (hold 2 (by kernel_rfl)).trans rfl
   exact opw_move rfl e2 (hK _ _ rfl ⟨hRr _, fun _ _ h => h⟩)
  case r4 =>
   refine truleGh fun b__ w hW hN hold hpre => wU rfl fun K hK => ?_
   have e56 : b__.eval (.tmp 56) = .int .u8 (y : Nat) := pq hpre 0 3 56
   exact opw_conv rfl e56 (by go_simp; exact wrap_u64_nat hy64) (hK _ _ rfl ⟨hRr _, fun _ _ h => h⟩)
  case r5 =>
   refine truleGh fun b__ w hW hN hold hpre => wU rfl fun K hK => ?_
   have e57 : b__.eval (.tmp 57) = .int .u64 (y : Nat) := pq hpre 0 4 57
   refine opw_callw rfl (by kernel_rfl) (by simp only [List.map_cons, List.map_nil, e57]) (lset_any y hy64 w.1) fun e w' ⟨z, he, hz, hb⟩ => ⟨z, he, ?_⟩
   obtain ⟨u, rfl, h1⟩ := set_one hz
   exact hK _ (w', { w.2 with K := _ }) ⟨u, rfl, h1, fun D w1 h => h.2⟩ (GK.more ((hW.1 hJ0).ret hb stable_set hz) fun D w1 h => h.1)
  case r6 =>
   refine truleGh fun b__ w hW hN hold hpre => wU rfl fun K hK => ?_
   have e14 : b__.eval (.tmp 14) = .pointer (some ⟨g14, 0, none⟩) := (hold 14 (by kernel_rfl)).trans rfl
   exact opw_row rfl e14 ((hW.1 hJ0).box 1 rfl) Tryz.underlying27 rfl (by kernel_rfl) (hK _ _ rfl ⟨hRr _, fun _ _ h => h⟩)
  case r7 =>
   refine truleGh fun b__ w hW hN hold hpre => wU rfl fun K hK => ?_
   have e58 : (fun (v : Value) (w : World × _) => ∃ u, v = .agg #[u] ∧ u.oneCell' = true ∧ ∀ D w1, w.2.K D w1 → IsSet w1 D (.agg #[u]) (y)) (b__.eval (.tmp 58)) w := hpre ⟨5, _⟩ (Array.mem_of_getElem? (i := 0) rfl) rfl _ _ rfl rfl
   have e59 : b__.eval (.tmp 59) = .agg #[.slice A14 n14 c14] := pq hpre 1 6 59
   obtain ⟨ua, hua, _, h2⟩ := e58
   refine opw_callw rfl (by kernel_rfl) (by simp only [List.map_cons, List.map_nil, hua, e59]) (and_any (h2 _ _ (hW.1 hJ0).ro) (kR2 _ _ (hW.2.1 _ _ (hW.1 hJ0).ro))) fun e w' ⟨z, he, hz, hb⟩ => ⟨z, he, ?_⟩
   obtain ⟨u, rfl, h1⟩ := set_one hz
   exact hK _ (w', { w.2 with K := _ }) ⟨u, rfl, h1, fun D w1 h => h.2⟩ (GK.more ((hW.1 hJ0).ret hb stable_set hz) fun D w1 h => h.1)
  case r8 =>
   refine truleGh fun b__ w hW hN hold hpre => wU rfl fun K hK => ?_
   have e13 : b__.eval (.tmp 13) = .pointer (some ⟨g13, 0, none⟩) := (hold 13 (by kernel_rfl)).trans rfl
   exact opw_row rfl e13 ((hW.1 hJ0).box 2 rfl) Tryz.underlying27 rfl (by kernel_rfl) (hK _ _ rfl ⟨hRr _, fun _ _ h => h⟩)
  case r9 =>
   refine truleGh fun b__ w hW hN hold hpre => wU rfl fun K hK => ?_
   have e60 : (fun (v : Value) (w : World × _) => ∃ u, v = .agg #[u] ∧ u.oneCell' = true ∧ ∀ D w1, w.2.K D w1 → IsSet w1 D (.agg #[u]) (y &&& RO)) (b__.eval (.tmp 60)) w := hpre ⟨7, _⟩ (Array.mem_of_getElem? (i := 0) rfl) rfl _ _ rfl rfl
   have e61 : b__.eval (.tmp 61) = .agg #[.slice A13 n13 c13] := pq hpre 1 8 61
   obtain ⟨ua, hua, _, h2⟩ := e60
   refine opw_callw rfl (by kernel_rfl) (by simp only [List.map_cons, List.map_nil, hua, e61]) (minus_any (h2 _ _ (hW.1 hJ0).ro) (kS2 _ _ (hW.2.1 _ _ (hW.1 hJ0).ro))) fun e w' ⟨z, he, hz, hb⟩ => ⟨z, he, ?_⟩
   obtain ⟨u, rfl, h1⟩ := set_one hz
   exact hK _ (w', { w.2 with K := _ }) ⟨u, rfl, h1, fun D w1 h => h.2⟩ (GK.more ((hW.1 hJ0).ret hb stable_set hz) fun D w1 h => h.1)
  case r10 =>
   refine truleGh fun b__ w hW hN hold hpre => wU rfl fun K hK => ?_
   have e55 : (fun (v : Value) (w : World × _) => ∃ u, v = .agg #[u] ∧ u.oneCell' = true ∧ ∀ D w1, w.2.K D w1 → IsSet w1 D (.agg #[u]) (x &&& RO &&& S)) (b__.eval (.tmp 55)) w := hpre ⟨2, _⟩ (Array.mem_of_getElem? (i := 0) rfl) rfl _ _ rfl rfl
   have e62 : (fun (v : Value) (w : World × _) => ∃ u, v = .agg #[u] ∧ u.oneCell' = true ∧ ∀ D w1, w.2.K D w1 → IsSet w1 D (.agg #[u]) (minusM (y &&& RO) S)) (b__.eval (.tmp 62)) w := hpre ⟨9, _⟩ (Array.mem_of_getElem? (i := 1) rfl) rfl _ _ rfl rfl
   obtain ⟨ua, hua, _, h2⟩ := e55
   obtain ⟨ub, hub, _, h3⟩ := e62
   refine opw_callw rfl (by kernel_rfl) (by simp only [List.map_cons, List.map_nil, hua, hub]) (or_any _ _ _ _ w.1 _ _ (h2 _ _ (hW.1 hJ0).ro) (h3 _ _ (hW.1 hJ0).ro)) fun e w' ⟨z, he, hz, hb⟩ => ⟨z, he, ?_⟩
   obtain ⟨u, rfl, h1⟩ := set_one hz
   exact hK _ (w', { w.2 with K := _ }) ⟨u, rfl, h1, fun D w1 h => h.2⟩ (GK.more ((hW.1 hJ0).ret hb stable_set hz) fun D w1 h => h.1)
  case r11 =>
   refine truleGh fun b__ w hW hN hold hpre => wU rfl fun K hK => ?_
   exact gk_alloc rfl (by kernel_rfl) (by kernel_rfl) (hW.1 hJ0) (hN.1 rfl) fun g w' hs => hK _ (w', { w.2 with b := some (g, none) }) ⟨g, none, rfl, rfl⟩ (GK.made (hN.1 rfl) hs)
  case r12 =>
   refine truleGh fun b__ w hW hN hold hpre => wU rfl fun K hK => ?_
   have e16 : (fun (v : Value) (w : World × _) => ∃ g o, v = .pointer (some ⟨g, 0, none⟩) ∧ w.2.b = some (g, o)) (b__.eval (.tmp 16)) w := hpre ⟨11, _⟩ (Array.mem_of_getElem? (i := 0) rfl) rfl _ _ rfl rfl
   have e63 : (fun (v : Value) (w : World × _) => ∃ u, v = .agg #[u] ∧ u.oneCell' = true ∧ ∀ D w1, w.2.K D w1 → IsSet w1 D (.agg #[u]) (x &&& RO &&& S ||| minusM (y &&& RO) S)) (b__.eval (.tmp 63)) w := hpre ⟨10, _⟩ (Array.mem_of_getElem? (i := 1) rfl) rfl _ _ rfl rfl
   obtain ⟨g, o, hg, hgb⟩ := e16
   obtain ⟨u, hv, hu1, h1⟩ := e63
   obtain rfl : o = none := (by cases o with | none => rfl | some cs => exact absurd hgb (hN.2 rfl g cs))
   exact gk_store rfl hg hv (hW.1 hJ0) hgb (by kernel_rfl) rfl (by simpa [Value.oneCell'] using hu1) fun w' hs => hK undef (w', { w.2 with b := some (g, some #[u]) }) ⟨g, u, rfl, hu1, h1⟩ (GK.put hgb hs)
  case post =>
   intro b__ wz hW hdf hsz hold hT hZ
   have e53 : b__.eval (.tmp 53) = .agg #[.slice A15 n15 c15] := hT 0 _ 53 rfl rfl
   have e54 : b__.eval (.tmp 54) = .agg #[.slice A13 n13 c13] := hT 1 _ 54 rfl rfl
   have e55 : (fun (v : Value) (w : World × _) => ∃ u, v = .agg #[u] ∧ u.oneCell' = true ∧ ∀ D w1, w.2.K D w1 → IsSet w1 D (.agg #[u]) (x &&& RO &&& S)) (b__.eval (.tmp 55)) wz := hT 2 _ 55 rfl rfl
   have e56 : b__.eval (.tmp 56) = .int .u8 (y : Nat) := hT 3 _ 56 rfl rfl
   have e57 : b__.eval (.tmp 57) = .int .u64 (y : Nat) := hT 4 _ 57 rfl rfl
   have e58 : (fun (v : Value) (w : World × _) => ∃ u, v = .agg #[u] ∧ u.oneCell' = true ∧ ∀ D w1, w.2.K D w1 → IsSet w1 D (.agg #[u]) (y)) (b__.eval (.tmp 58)) wz := hT 5 _ 58 rfl rfl
   have e59 : b__.eval (.tmp 59) = .agg #[.slice A14 n14 c14] := hT 6 _ 59 rfl rfl
   have e60 : (fun (v : Value) (w : World × _) => ∃ u, v = .agg #[u] ∧ u.oneCell' = true ∧ ∀ D w1, w.2.K D w1 → IsSet w1 D (.agg #[u]) (y &&& RO)) (b__.eval (.tmp 60)) wz := hT 7 _ 60 rfl rfl
   have e61 : b__.eval (.tmp 61) = .agg #[.slice A13 n13 c13] := hT 8 _ 61 rfl rfl
   have e62 : (fun (v : Value) (w : World × _) => ∃ u, v = .agg #[u] ∧ u.oneCell' = true ∧ ∀ D w1, w.2.K D w1 → IsSet w1 D (.agg #[u]) (minusM (y &&& RO) S)) (b__.eval (.tmp 62)) wz := hT 9 _ 62 rfl rfl
   have e63 : (fun (v : Value) (w : World × _) => ∃ u, v = .agg #[u] ∧ u.oneCell' = true ∧ ∀ D w1, w.2.K D w1 → IsSet w1 D (.agg #[u]) (x &&& RO &&& S ||| minusM (y &&& RO) S)) (b__.eval (.tmp 63)) wz := hT 10 _ 63 rfl rfl
   have e16 : (fun (v : Value) (w : World × _) => ∃ g o, v = .pointer (some ⟨g, 0, none⟩) ∧ w.2.b = some (g, o)) (b__.eval (.tmp 16)) wz := hT 11 _ 16 rfl rfl
   obtain ⟨vs, hvs, hb⟩ := frame_of hdf hsz hold
   replace e53 : vs 53 = .agg #[.slice A15 n15 c15] := (hvs 53).symm.trans e53
   replace e54 : vs 54 = .agg #[.slice A13 n13 c13] := (hvs 54).symm.trans e54
   replace e55 := (hvs 55) ▸ e55
   replace e56 : vs 56 = .int .u8 (y : Nat) := (hvs 56).symm.trans e56
   replace e57 : vs 57 = .int .u64 (y : Nat) := (hvs 57).symm.trans e57
   replace e58 := (hvs 58) ▸ e58
   replace e59 : vs 59 = .agg #[.slice A14 n14 c14] := (hvs 59).symm.trans e59
   replace e60 := (hvs 60) ▸ e60
   replace e61 : vs 61 = .agg #[.slice A13 n13 c13] := (hvs 61).symm.trans e61
   replace e62 := (hvs 62) ▸ e62
   replace e63 := (hvs 63) ▸ e63
   replace e16 := (hvs 16) ▸ e16
   subst hb
   clear hvs hold hT hdf hsz
   simp only [setAll, Act.put, List.setIfInBounds_toArray, List.set_cons_zero, List.set_cons_succ, List.getElem_toArray, List.getElem_cons_succ, List.getElem_cons_zero]
   obtain ⟨_, g16, u16, hb16, hu16, hK16⟩ := hZ 12 _ rfl rfl
   obtain ⟨g, o, hg, hgb⟩ := e16
   obtain rfl : g16 = g := by rw [hb16] at hgb; injection hgb with h; injection h with h _
   obtain ⟨KC, kc, kY, wf, hwf, hS⟩ : ∃ KC : (Nat → Prop) → World → Prop, (∀ D w, KC D w → KB D w) ∧ (∀ D w, KC D w → IsSet w D (.agg #[u16]) (x &&& RO &&& S ||| minusM (y &&& RO) S)) ∧ ∃ wf : World, wz.1 = wf ∧ St W wf (.box g16 27 #[u16] :: .box g15 27 #[.slice A15 n15 c15] :: .box g14 27 #[.slice A14 n14 c14] :: .box g13 27 #[.slice A13 n13 c13] :: .box g10 31 ys :: .box g8 37 us :: .box g7 31 xs :: []) KC := ⟨_, hW.2.1, hK16, _, rfl, (hW.1 hJ0).some hb16⟩
   rw [hwf]
   simp only [show vs (16 : Nat) = _ from hg]
   clear hW hZ hJ0 hRr hRt hN0 e53 e54 e55 e56 e57 e58 e59 e60 e61 e62 e63 hb16 hgb hK16 hg hwf hu16
   generalize vs 53 = s53, vs 54 = s54, vs 55 = s55, vs 56 = s56, vs 57 = s57, vs 58 = s58, vs 59 = s59, vs 60 = s60, vs 61 = s61, vs 62 = s62, vs 63 = s63
   obtain ⟨A16, c16, l16, hvu, -⟩ := (kY _ _ hS.ro).parts
   obtain rfl : u16 = .slice A16 l16.length c16 := by injection hvu with hvu; simpa using hvu
   clear hvu
   generalize l16.length = n16 at *
   go_wp2_with fail
   obtain ⟨sM, hsM⟩ : ∃ sM, sM = x &&& RO := ⟨_, rfl⟩
   obtain ⟨tM, htM⟩ : ∃ tM, tM = x &&& RO &&& S ||| minusM (y &&& RO) S := ⟨_, rfl⟩
   have HAG : Hid (∀ i, S.testBit i = true → (sM.testBit i = true ↔ tM.testBit i = true)) := Lib.hid (by rw [hsM, htM]; exact mix_agree)
   rw [← htM] at kY
   rw [← hsM] at kX
   clear hsM htM
   obtain ⟨RL, hRL⟩ : ∃ RL, RL = (ofP p).rules := ⟨_, rfl⟩
   obtain ⟨NL, hNL⟩ : ∃ NL, NL = (ofP p).never := ⟨_, rfl⟩
   obtain ⟨GL, hGL⟩ : ∃ GL, GL = p.goal := ⟨_, rfl⟩
   have HRL : Hid (∀ r ∈ RL, Sub (depC L (r.yes, r.no)) S) := Lib.hid (by rw [hRL, hM.out.ofE, HSS.out]; exact hM.out.keptR)
   have HNL : Hid (∀ z ∈ NL, Sub (depC L z) S) := Lib.hid (by rw [hNL, hM.out.ofE, HSS.out]; exact keptN)
   have HGL : Hid (∀ z ∈ GL, Sub (depC L z) S) := Lib.hid (by rw [hGL, HSS.out]; exact (closed_rel L p).goal)
   have hrl : RL.length ≤ 6 := by rw [hRL, hM.out.ofE]; exact Nat.le_trans (List.length_filter_le _ _) hM.out.rlen
   have hnl : NL.length ≤ 3 := by rw [hNL, hM.out.ofE]; exact Nat.le_trans (List.length_filter_le _ _) hM.out.nlen
   have hgl : GL.length ≤ 3 := by rw [hGL]; exact hM.out.glen
   have HH := Lib.hid hM.out.hok
   have kall : ∀ D w, KC D w → K D w ∧ IsProb w D (.agg xs) p ∧ IsProb w D (.agg ys) (ofP p) := fun D w h => ka.out _ _ (kb _ _ (kc _ _ h))
   obtain ⟨lp, sv, rv, nv, gv, rfl, hho, -, -, -, hgo⟩ := (kall _ _ hS.ro).2.1.cellsOf
   obtain ⟨lp2, sv2, rv2, nv2, gv2, rfl, -, -, hro2, hno2, -⟩ := (kall _ _ hS.ro).2.2.cellsOf
   rw [hM.out.links] at hho
   obtain ⟨q, o, rfl, -⟩ := hho
   rw [← hGL] at hgo
   rw [← hRL] at hro2
   rw [← hNL] at hno2
   obtain ⟨Ag, cg, rfl⟩ := cubes_shape hgo
   obtain ⟨An, cn, rfl⟩ := cubes_shape hno2
   obtain ⟨Ar, cr, rfl, _, _⟩ := hro2.shape
   have kh : ∀ D w, KC D w → IsH w D (.pointer (some ⟨q, 0, none⟩)) L := fun D w h => by
    have := (kall D w h).2.1.parts.1
    rw [hM.out.links] at this; exact this
   have kg : ∀ D w, KC D w → IsCubes w D (.slice Ag GL.length cg) GL := fun D w h => by
    have := (kall D w h).2.1.parts.2.2.2.2
    rw [← hGL] at this; exact this
   have kr : ∀ D w, KC D w → IsRules w D (.slice Ar RL.length cr) RL := fun D w h => by
    have := (kall D w h).2.2.parts.2.2.1
    rw [← hRL] at this; exact this
   have kn : ∀ D w, KC D w → IsCubes w D (.slice An NL.length cn) NL := fun D w h => by
    have := (kall D w h).2.2.parts.2.2.2.1
    rw [← hNL] at this; exact this
   have ktC : ∀ D w, KC D w → DTab w := fun D w h => (kt D w (kall D w h).1).1
   have kX2 : ∀ D w, KC D w → IsSet w D (.agg #[.slice A15 n15 c15]) sM := fun D w h => kX D w (kc D w h)
   generalize p.roles = pr at *
   generalize (ofP p).roles = pr2 at *
   clear hgo hro2 hno2 hRL hNL hGL kS kR kS2 kR2 hu0
   refine wp_region_tail2 (fun i__ lo hi v w => match i__ with
    | 0 => v = .pointer (some ⟨g7, 1, none⟩)
    | 1 => v = .pointer (some ⟨q, 0, none⟩)
    | 2 => v = .agg #[.slice A15 n15 c15]
    | 3 => IsSet w (fun b => lo ≤ b ∧ b < hi) v (closM L sM)
    | 4 => v = .pointer (some ⟨g7, 1, none⟩)
    | 5 => v = .pointer (some ⟨q, 0, none⟩)
    | 6 => v = .agg #[.slice A16 n16 c16]
    | 7 => IsSet w (fun b => lo ≤ b ∧ b < hi) v (closM L tM)
    | 8 => ∃ g, v = .pointer (some ⟨g, 0, none⟩) ∧ Box w g 27 (zeroCells Tryz.prog 27) ∧ lo ≤ g ∧ g < hi
    | 9 => ∃ g, v = .pointer (some ⟨g, 0, none⟩) ∧ Box w g 27 (zeroCells Tryz.prog 27) ∧ lo ≤ g ∧ g < hi
    | 10 => True
    | 11 => True
    | _ => True) 10 [11] (by kernel_rfl) (by kernel_rfl) (by kernel_rfl) (by kernel_rfl) (by kernel_rfl) ?mono ⟨.inr ?r0, .inr ?r1, .inr ?r2, .inr ?r3, .inr ?r4, .inr ?r5, .inr ?r6, .inr ?r7, .inr ?r8, .inr ?r9, .inl (by decide), .inl (by decide), trivial⟩ ?post
   case mono =>
    intro i lo hi v w w' h hb
    match i, h with
    | 0, h | 1, h | 2, h => exact h
    | 3, h => exact h.ext hb
    | 4, h | 5, h | 6, h => exact h
    | 7, h => exact h.ext hb
    | 8, h => exact by obtain ⟨g, e, hb2, h1⟩ := h; exact ⟨g, e, hb2.ext hb, h1⟩
    | 9, h => exact by obtain ⟨g, e, hb2, h1⟩ := h; exact ⟨g, e, hb2.ext hb, h1⟩
    | 10, h | 11, h => exact h
    | _ + 12, h => trivial
   case r0 =>
    refine truleG fun b__ w hW hold hpre => wU rfl fun K hK => ?_
    have e7 : b__.eval (.tmp 7) = .pointer (some ⟨g7, 0, none⟩) := (hold 7 (by kernel_rfl)).trans rfl
    exact opw_faddr rfl e7 (by kernel_rfl) (hK _ _ rfl (Below.refl _ _))
   case r1 =>
    refine truleG fun b__ w hW hold hpre => wU rfl fun K hK => ?_
    have e64 : b__.eval (.tmp 64) = .pointer (some ⟨g7, 1, none⟩) := by obtain ⟨_, _, h⟩ := hpre ⟨0, _⟩ (Array.mem_of_getElem? (i := 0) rfl) rfl _ _ rfl rfl; exact h
    exact opw_cell rfl e64 (by kernel_rfl) ((hS.ext (undrew hW)).shut 6 rfl 1 rfl) (hK _ _ rfl (Below.refl _ _))
   case r2 =>
    refine truleG fun b__ w hW hold hpre => wU rfl fun K hK => ?_
    have e15 : b__.eval (.tmp 15) = .pointer (some ⟨g15, 0, none⟩) := (hold 15 (by kernel_rfl)).trans rfl
    exact opw_row rfl e15 ((hS.ext (undrew hW)).box 1 rfl) Tryz.underlying27 rfl (by kernel_rfl) (hK _ _ rfl (Below.refl _ _))
   case r3 =>
    refine truleG fun b__ w hW hold hpre => wU rfl fun K hK => ?_
    have e65 : b__.eval (.tmp 65) = .pointer (some ⟨q, 0, none⟩) := by obtain ⟨_, _, h⟩ := hpre ⟨1, _⟩ (Array.mem_of_getElem? (i := 0) rfl) rfl _ _ rfl rfl; exact h
    have e66 : b__.eval (.tmp 66) = .agg #[.slice A15 n15 c15] := by obtain ⟨_, _, h⟩ := hpre ⟨2, _⟩ (Array.mem_of_getElem? (i := 1) rfl) rfl _ _ rfl rfl; exact h
    exact opw_call rfl (by kernel_rfl) (by simp only [List.map_cons, List.map_nil, e65, e66]) (hclos_any (kh _ _ (hS.ext (undrew hW)).ro) (ktC _ _ (hS.ext (undrew hW)).ro) HH.out (kX2 _ _ (hS.ext (undrew hW)).ro)) fun v w' h hb => hK v w' (h.imp fun b h1 h2 => ⟨h1, h2⟩) hb
   case r4 =>
    refine truleG fun b__ w hW hold hpre => wU rfl fun K hK => ?_
    have e7 : b__.eval (.tmp 7) = .pointer (some ⟨g7, 0, none⟩) := (hold 7 (by kernel_rfl)).trans rfl
    exact opw_faddr rfl e7 (by kernel_rfl) (hK _ _ rfl (Below.refl _ _))
   case r5 =>
    refine truleG fun b__ w hW hold hpre => wU rfl fun K hK => ?_
    have e68 : b__.eval (.tmp 68) = .pointer (some ⟨g7, 1, none⟩) := by obtain ⟨_, _, h⟩ := hpre ⟨4, _⟩ (Array.mem_of_getElem? (i := 0) rfl) rfl _ _ rfl rfl; exact h
    exact opw_cell rfl e68 (by kernel_rfl) ((hS.ext (undrew hW)).shut 6 rfl 1 rfl) (hK _ _ rfl (Below.refl _ _))
   case r6 =>
    refine truleG fun b__ w hW hold hpre => wU rfl fun K hK => ?_
    have e16 : b__.eval (.tmp 16) = .pointer (some ⟨g16, 0, none⟩) := (hold 16 (by kernel_rfl)).trans rfl
    exact opw_row rfl e16 ((hS.ext (undrew hW)).box 0 rfl) Tryz.underlying27 rfl (by kernel_rfl) (hK _ _ rfl (Below.refl _ _))
   case r7 =>
    refine truleG fun b__ w hW hold hpre => wU rfl fun K hK => ?_
    have e69 : b__.eval (.tmp 69) = .pointer (some ⟨q, 0, none⟩) := by obtain ⟨_, _, h⟩ := hpre ⟨5, _⟩ (Array.mem_of_getElem? (i := 0) rfl) rfl _ _ rfl rfl; exact h
    have e70 : b__.eval (.tmp 70) = .agg #[.slice A16 n16 c16] := by obtain ⟨_, _, h⟩ := hpre ⟨6, _⟩ (Array.mem_of_getElem? (i := 1) rfl) rfl _ _ rfl rfl; exact h
    exact opw_call rfl (by kernel_rfl) (by simp only [List.map_cons, List.map_nil, e69, e70]) (hclos_any (kh _ _ (hS.ext (undrew hW)).ro) (ktC _ _ (hS.ext (undrew hW)).ro) HH.out (kY _ _ (hS.ext (undrew hW)).ro)) fun v w' h hb => hK v w' (h.imp fun b h1 h2 => ⟨h1, h2⟩) hb
   case r8 =>
    refine truleG fun b__ w hW hold hpre => ⟨fun hwant K hK => opw_alloc rfl (by kernel_rfl) fun w' hb hbel => hK _ _ ⟨_, rfl, hb, Nat.le_refl _, hb.lt⟩ hbel, fun hwant => ?_⟩
    rw [want_none rfl] at hwant; cases hwant
   case r9 =>
    refine truleG fun b__ w hW hold hpre => ⟨fun hwant K hK => opw_alloc rfl (by kernel_rfl) fun w' hb hbel => hK _ _ ⟨_, rfl, hb, Nat.le_refl _, hb.lt⟩ hbel, fun hwant => ?_⟩
    rw [want_none rfl] at hwant; cases hwant
   case post =>
    intro b__ wz lo hi hW hdf hsz hold hT hap hlim
    have e17 : (fun (v : Value) (w : World) => ∃ g, v = .pointer (some ⟨g, 0, none⟩) ∧ Box w g 27 (zeroCells Tryz.prog 27) ∧ (lo 8) ≤ g ∧ g < (hi 8)) (b__.eval (.tmp 17)) wz := hT 8 _ 17 (by decide) rfl rfl
    have e67 : (fun (v : Value) (w : World) => IsSet w (fun b => (lo 3) ≤ b ∧ b < (hi 3)) v (closM L sM)) (b__.eval (.tmp 67)) wz := hT 3 _ 67 (by decide) rfl rfl
    have e18 : (fun (v : Value) (w : World) => ∃ g, v = .pointer (some ⟨g, 0, none⟩) ∧ Box w g 27 (zeroCells Tryz.prog 27) ∧ (lo 9) ≤ g ∧ g < (hi 9)) (b__.eval (.tmp 18)) wz := hT 9 _ 18 (by decide) rfl rfl
    have e71 : (fun (v : Value) (w : World) => IsSet w (fun b => (lo 7) ≤ b ∧ b < (hi 7)) v (closM L tM)) (b__.eval (.tmp 71)) wz := hT 7 _ 71 (by decide) rfl rfl
    have e64 : b__.eval (.tmp 64) = .pointer (some ⟨g7, 1, none⟩) := hT 0 _ 64 (by decide) rfl rfl
    have e65 : b__.eval (.tmp 65) = .pointer (some ⟨q, 0, none⟩) := hT 1 _ 65 (by decide) rfl rfl
    have e66 : b__.eval (.tmp 66) = .agg #[.slice A15 n15 c15] := hT 2 _ 66 (by decide) rfl rfl
    have e68 : b__.eval (.tmp 68) = .pointer (some ⟨g7, 1, none⟩) := hT 4 _ 68 (by decide) rfl rfl
    have e69 : b__.eval (.tmp 69) = .pointer (some ⟨q, 0, none⟩) := hT 5 _ 69 (by decide) rfl rfl
    have e70 : b__.eval (.tmp 70) = .agg #[.slice A16 n16 c16] := hT 6 _ 70 (by decide) rfl rfl
    obtain ⟨vs, hvs, hb⟩ := frame_of hdf hsz hold
    replace e17 := (hvs 17) ▸ e17
    replace e67 := (hvs 67) ▸ e67
    replace e18 := (hvs 18) ▸ e18
    replace e71 := (hvs 71) ▸ e71
    replace e64 : vs 64 = .pointer (some ⟨g7, 1, none⟩) := (hvs 64).symm.trans e64
    replace e65 : vs 65 = .pointer (some ⟨q, 0, none⟩) := (hvs 65).symm.trans e65
    replace e66 : vs 66 = .agg #[.slice A15 n15 c15] := (hvs 66).symm.trans e66
    replace e68 : vs 68 = .pointer (some ⟨g7, 1, none⟩) := (hvs 68).symm.trans e68
    replace e69 : vs 69 = .pointer (some ⟨q, 0, none⟩) := (hvs 69).symm.trans e69
    replace e70 : vs 70 = .agg #[.slice A16 n16 c16] := (hvs 70).symm.trans e70
    subst hb
    clear hvs hold hT hdf hsz
    simp only [setAll, Act.put, List.setIfInBounds_toArray, List.set_cons_zero, List.set_cons_succ, List.getElem_toArray, List.getElem_cons_succ, List.getElem_cons_zero]
    obtain ⟨g17, e17, hb17, l17, u17⟩ := e17
    obtain ⟨g18, e18, hb18, l18, u18⟩ := e18
    replace e67 : IsSet wz (fun b => lo 3 ≤ b ∧ b < hi 3) (vs 67) (closM L sM) := e67
    replace e71 : IsSet wz (fun b => lo 7 ≤ b ∧ b < hi 7) (vs 71) (closM L tM) := e71
    obtain ⟨A67, n67, c67, h67⟩ := set_slice e67
    obtain ⟨A71, n71, c71, h71⟩ := set_slice e71
    rw [h67] at e67
    rw [h71] at e71
    have a89 := hap 8 9 (by decide) (by decide) (by decide) (by decide) (by decide)
    have a83 := hap 8 3 (by decide) (by decide) (by decide) (by decide) (by decide)
    have a87 := hap 8 7 (by decide) (by decide) (by decide) (by decide) (by decide)
    have a93 := hap 9 3 (by decide) (by decide) (by decide) (by decide) (by decide)
    have a97 := hap 9 7 (by decide) (by decide) (by decide) (by decide) (by decide)
    have L8 := (hlim 8 (by decide) (by decide)).1
    have L9 := (hlim 9 (by decide) (by decide)).1
    have L3 := (hlim 3 (by decide) (by decide)).1
    have L7 := (hlim 7 (by decide) (by decide)).1
    have hz : zeroCells Tryz.prog 27 = #[.slice none 0 0] := by kernel_rfl
    rw [hz] at hb17 hb18
    have hS1 := hS.new2 hW (.box g17 27 #[.slice none 0 0]) (.box g18 27 #[.slice none 0 0]) ⟨by omega, hb17⟩ ⟨by omega, hb18⟩ (fun k h1 h2 => by injection h1 with h1; injection h2 with h2; omega)
    have hfr : ∀ b, wf.heap.size ≤ b → b ≠ g17 → b ≠ g18 → Free (.box g17 27 #[.slice none 0 0] :: .box g18 27 #[.slice none 0 0] :: .box g16 27 #[.slice A16 n16 c16] :: .box g15 27 #[.slice A15 n15 c15] :: .box g14 27 #[.slice A14 n14 c14] :: .box g13 27 #[.slice A13 n13 c13] :: .box g10 31 #[.int .i64 pr2, lp2, sv2, .slice Ar RL.length cr, .slice An NL.length cn, gv2] :: .box g8 37 us :: .box g7 31 #[.int .i64 pr, .pointer (some ⟨q, 0, none⟩), sv, rv, nv, .slice Ag GL.length cg] :: []) b := fun b h1 h2 h3 f hf => by
     rcases List.mem_cons.1 hf with rfl | hf
     ·exact fun e => h2 (by injection e with e; exact e.symm)
     ·rcases List.mem_cons.1 hf with rfl | hf
      ·exact fun e => h3 (by injection e with e; exact e.symm)
      ·exact hS.fresh h1 f hf
    have hS2 := (hS1.add stable_set e67 fun b hb _ => hfr b (by omega) (by omega) (by omega)).add stable_set e71 fun b hb _ => hfr b (by omega) (by omega) (by omega)
    clear hS hS1 hfr hW hlim hap hz a89 a83 a87 a93 a97 L8 L9 L3 L7 e67 e71 l17 u17 l18 u18
    simp only [show vs (17 : Nat) = _ from e17, show vs (18 : Nat) = _ from e18, show vs (67 : Nat) = _ from h67, show vs (71 : Nat) = _ from h71]
    (intro o_ ho_; simp only [List.getElem?_toArray, List.getElem?_cons_succ, List.getElem?_cons_zero, Option.some.injEq] at ho_; subst ho_)
    refine opw_store rfl rfl rfl (hS2.box 0 rfl) (by kernel_rfl) rfl (by simp [Value.oneCell']) fun w4 h1 hU => ?_
    have hS3 := hS2.upd 0 rfl (.box g17 27 #[.slice A67 n67 c67]) (upd_gb hU) ⟨(hS2.holds _ (List.mem_of_getElem? (i := 0) rfl)).1, h1⟩ fun _ e => .inl e
    simp only [TailWp]
    simp only [Act.put, List.setIfInBounds_toArray, List.set_cons_zero, List.set_cons_succ]
    clear hS2 h1 hU
    (intro o_ ho_; simp only [List.getElem?_toArray, List.getElem?_cons_succ, List.getElem?_cons_zero, Option.some.injEq] at ho_; subst ho_)
    refine opw_store rfl rfl rfl (hS3.box 1 rfl) (by kernel_rfl) rfl (by simp [Value.oneCell']) fun w5 h1 hU => ?_
    have hS4 := hS3.upd 1 rfl (.box g18 27 #[.slice A71 n71 c71]) (upd_gb hU) ⟨(hS3.holds _ (List.mem_of_getElem? (i := 1) rfl)).1, h1⟩ fun _ e => .inl e
    simp only [TailWp]
    simp only [Act.put, List.setIfInBounds_toArray, List.set_cons_zero, List.set_cons_succ]
    clear hS3 h1 hU
    obtain ⟨KD, kd, kp1, kp2, hS⟩ : ∃ KD : (Nat → Prop) → World → Prop, (∀ D w, KD D w → KC D w) ∧ (∀ D w, KD D w → IsSet w D (.agg #[.slice A67 n67 c67]) (closM L sM)) ∧ (∀ D w, KD D w → IsSet w D (.agg #[.slice A71 n71 c71]) (closM L tM)) ∧ St W w5 (.box g17 27 #[.slice A67 n67 c67] :: .box g18 27 #[.slice A71 n71 c71] :: .box g10 31 #[.int .i64 pr2, lp2, sv2, .slice Ar RL.length cr, .slice An NL.length cn, gv2] :: .box g7 31 #[.int .i64 pr, .pointer (some ⟨q, 0, none⟩), sv, rv, nv, .slice Ag GL.length cg] :: []) KD := ⟨_, fun _ _ h => h.1.1, fun _ _ h => h.1.2, fun _ _ h => h.2, hS4.sub (F' := .box g17 27 #[.slice A67 n67 c67] :: .box g18 27 #[.slice A71 n71 c71] :: .box g10 31 #[.int .i64 pr2, lp2, sv2, .slice Ar RL.length cr, .slice An NL.length cn, gv2] :: .box g7 31 #[.int .i64 pr, .pointer (some ⟨q, 0, none⟩), sv, rv, nv, .slice Ag GL.length cg] :: []) (.cons_cons _ (.cons_cons _ (.cons _ (.cons _ (.cons _ (.cons _ (.cons_cons _ (.cons _ (.cons_cons _ (List.Sublist.refl _))))))))))⟩
    clear hS4 kX kX2 kY
    generalize vs 64 = s64, vs 65 = s65, vs 66 = s66, vs 68 = s68, vs 69 = s69, vs 70 = s70
    go_wp2_with (first | ((with_reducible refine qK ?_); refine qC hS ?_))
    have KSD := Lib.hid hS.stable
    go_loopw [75] (fun i wr => ∃ j : Nat, i = .int .i64 (j : Nat) ∧ j ≤ RL.length ∧ St W wr (.box g17 27 #[.slice A67 n67 c67] :: .box g18 27 #[.slice A71 n71 c71] :: .box g10 31 #[.int .i64 pr2, lp2, sv2, .slice Ar RL.length cr, .slice An NL.length cn, gv2] :: .box g7 31 #[.int .i64 pr, .pointer (some ⟨q, 0, none⟩), sv, rv, nv, .slice Ag GL.length cg] :: []) KD) (fun i _ => RL.length - (intOf i).toNat)
    case atStart => exact ⟨0, rfl, by omega, hS⟩
    case round =>
     clear hS
     obtain ⟨j, rfl, hj, hS⟩ := hrel
     by_cases hlj : j < RL.length
     ·obtain ⟨b, o2, yv, nv', rfl, _, hb, c0, c1, c2, c3, c4, hyy, hnn⟩ := (kr _ _ (kd _ _ hS.ro)).at_ hlj
      obtain ⟨Ay, my, cy, rfl⟩ := hyy.shape
      obtain ⟨Am, mn, cm, rfl⟩ := hnn.shape
      have HSub := Lib.hid (HRL.out _ (List.mem_of_getElem? (getD_at dfltR hlj)))
      obtain ⟨KE, ke, hS2⟩ : ∃ KE : (Nat → Prop) → World → Prop, Hid (∀ D w, KE D w → KD D w ∧ IsCube w D (.agg #[.slice Ay my cy, .slice Am mn cm]) ((RL.getD j dfltR).yes, (RL.getD j dfltR).no)) ∧ St W wr (.box g17 27 #[.slice A67 n67 c67] :: .box g18 27 #[.slice A71 n71 c71] :: .box g10 31 #[.int .i64 pr2, lp2, sv2, .slice (some ⟨b, o2, none⟩) RL.length cr, .slice An NL.length cn, gv2] :: .box g7 31 #[.int .i64 pr, .pointer (some ⟨q, 0, none⟩), sv, rv, nv, .slice Ag GL.length cg] :: []) KE := ⟨fun D w => KD D w ∧ IsSet w D (.agg #[.slice Ay my cy]) (RL.getD j dfltR).yes ∧ IsSet w D (.agg #[.slice Am mn cm]) (RL.getD j dfltR).no, Lib.hid fun _ _ h => ⟨h.1, _, _, rfl, h.2⟩, hS.add (D := Free (.box g17 27 #[.slice A67 n67 c67] :: .box g18 27 #[.slice A71 n71 c71] :: .box g10 31 #[.int .i64 pr2, lp2, sv2, .slice (some ⟨b, o2, none⟩) RL.length cr, .slice An NL.length cn, gv2] :: .box g7 31 #[.int .i64 pr, .pointer (some ⟨q, 0, none⟩), sv, rv, nv, .slice Ag GL.length cg] :: [])) (stable_set.and stable_set) ⟨hyy, hnn⟩ fun _ h _ => h⟩
      clear hS hyy hnn
      have hS := hS2
      clear hS2
      generalize RL.getD j dfltR = z at *
      obtain ⟨zr, zy, zn, zt, zo⟩ := z
      dsimp only at c0 c3 c4 HSub ke
      obtain ⟨hbb, hhb⟩ : ∃ hbb, hbb = holdsB (zy, zn) (closM L sM) := ⟨_, rfl⟩
      have HB1 := Lib.hid hhb
      have HB2 : Hid (hbb = holdsB (zy, zn) (closM L tM)) := Lib.hid (hhb.trans (holds_agree HH.out HAG.out HSub.out))
      clear hhb
      go_wp2_with (first
       | ((with_reducible refine qB ?_); (first | refine q1 ?_ ?_ | refine q2 ?_ ?_ | refine q3 ?_ ?_ | refine q4 ?_ ?_ | refine q5 ?_ ?_ | refine q6 ?_ ?_) <;> intro h_ <;> go_prune)
       | ((with_reducible refine qA 78 ?_); refine BigFrame.wpList_want rfl fun _ hK => opw_mid (cs := [.bool zr, .slice Ay my cy, .slice Am mn cm, .int .i64 zt, .int .i64 zo]) rfl rfl (rng5 c0 c1 c2 c3 c4) Tryz.underlying58 rfl (by kernel_rfl) (hK _ _ ?_))
       | ((with_reducible refine qA 20 ?_); refine qa hS #[.bool false, .slice none 0 0, .slice none 0 0, .int .i64 0, .int .i64 0] ?_; clear hS; intro g20 w_ hS)
       | ((with_reducible refine qM ?_); (first | refine qS hS ?_ | refine qT hS ?_); clear hS; intro w_ hS; (try simp only [Act.put, Act.eval, z1, z2, z3, z4, z5, z6, z7, z8, Value.cells] at hS)))
      refine wp_region_typed (fun i__ v w => match i__ with
       | 0 => v = .pointer (some ⟨g20, 1, none⟩)
       | 1 => v = .agg #[.slice Ay my cy, .slice Am mn cm]
       | 2 => v = .agg #[.slice A67 n67 c67]
       | 3 => v = .bool hbb
       | 4 => v = .pointer (some ⟨g20, 1, none⟩)
       | 5 => v = .agg #[.slice Ay my cy, .slice Am mn cm]
       | 6 => v = .agg #[.slice A71 n71 c71]
       | 7 => v = .bool hbb
       | 8 => v = .bool false
       | _ => True) (by kernel_rfl) (by kernel_rfl) ?mono ⟨?r0, ?r1, ?r2, ?r3, ?r4, ?r5, ?r6, ?r7, ?r8, trivial⟩ ?post
      case mono =>
       intro i v w w' h hb
       match i, h with
       | 0, h | 1, h | 2, h | 3, h | 4, h | 5, h | 6, h | 7, h | 8, h => exact h
       | _ + 9, h => trivial
      case r0 =>
       refine trule fun b__ w hW hold hpre => wU rfl fun K hK => ?_
       have e20 : b__.eval (.tmp 20) = .pointer (some ⟨g20, 0, none⟩) := (hold 20 (by kernel_rfl)).trans rfl
       exact opw_faddr rfl e20 (by kernel_rfl) (hK _ _ rfl (Below.refl _ _))
      case r1 =>
       refine trule fun b__ w hW hold hpre => wU rfl fun K hK => ?_
       have e79 : b__.eval (.tmp 79) = .pointer (some ⟨g20, 1, none⟩) := pq hpre 0 0 79
       exact opw_mid (cs := [.slice Ay my cy, .slice Am mn cm]) rfl e79 (rng2 (((hS.ext (undrew hW)).box 0 rfl).cell 1) (((hS.ext (undrew hW)).box 0 rfl).cell 2)) Tryz.underlying56 rfl (by kernel_rfl) (hK _ _ rfl (Below.refl _ _))
      case r2 =>
       refine trule fun b__ w hW hold hpre => wU rfl fun K hK => ?_
       have e17 : b__.eval (.tmp 17) = .pointer (some ⟨g17, 0, none⟩) := (hold 17 (by kernel_rfl)).trans rfl
       exact opw_row rfl e17 ((hS.ext (undrew hW)).box 1 rfl) Tryz.underlying27 rfl (by kernel_rfl) (hK _ _ rfl (Below.refl _ _))
      case r3 =>
       refine trule fun b__ w hW hold hpre => wU rfl fun K hK => ?_
       have e80 : b__.eval (.tmp 80) = .agg #[.slice Ay my cy, .slice Am mn cm] := pq hpre 0 1 80
       have e81 : b__.eval (.tmp 81) = .agg #[.slice A67 n67 c67] := pq hpre 1 2 81
       exact opw_call rfl (by kernel_rfl) (by simp only [List.map_cons, List.map_nil, e80, e81]) (holds_any (ke.out _ _ (hS.ext (undrew hW)).ro).2 (kp1 _ _ (ke.out _ _ (hS.ext (undrew hW)).ro).1)) fun v w' h hb => hK v w' (h.trans (by rw [HB1.out])) hb
      case r4 =>
       refine trule fun b__ w hW hold hpre => wU rfl fun K hK => ?_
       have e20 : b__.eval (.tmp 20) = .pointer (some ⟨g20, 0, none⟩) := (hold 20 (by kernel_rfl)).trans rfl
       exact opw_faddr rfl e20 (by kernel_rfl) (hK _ _ rfl (Below.refl _ _))
      case r5 =>
       refine trule fun b__ w hW hold hpre => wU rfl fun K hK => ?_
       have e83 : b__.eval (.tmp 83) = .pointer (some ⟨g20, 1, none⟩) := pq hpre 0 4 83
       exact opw_mid (cs := [.slice Ay my cy, .slice Am mn cm]) rfl e83 (rng2 (((hS.ext (undrew hW)).box 0 rfl).cell 1) (((hS.ext (undrew hW)).box 0 rfl).cell 2)) Tryz.underlying56 rfl (by kernel_rfl) (hK _ _ rfl (Below.refl _ _))
      case r6 =>
       refine trule fun b__ w hW hold hpre => wU rfl fun K hK => ?_
       have e18 : b__.eval (.tmp 18) = .pointer (some ⟨g18, 0, none⟩) := (hold 18 (by kernel_rfl)).trans rfl
       exact opw_row rfl e18 ((hS.ext (undrew hW)).box 2 rfl) Tryz.underlying27 rfl (by kernel_rfl) (hK _ _ rfl (Below.refl _ _))
      case r7 =>
       refine trule fun b__ w hW hold hpre => wU rfl fun K hK => ?_
       have e84 : b__.eval (.tmp 84) = .agg #[.slice Ay my cy, .slice Am mn cm] := pq hpre 0 5 84
       have e85 : b__.eval (.tmp 85) = .agg #[.slice A71 n71 c71] := pq hpre 1 6 85
       exact opw_call rfl (by kernel_rfl) (by simp only [List.map_cons, List.map_nil, e84, e85]) (holds_any (ke.out _ _ (hS.ext (undrew hW)).ro).2 (kp2 _ _ (ke.out _ _ (hS.ext (undrew hW)).ro).1)) fun v w' h hb => hK v w' (h.trans (by rw [HB2.out])) hb
      case r8 =>
       refine trule fun b__ w hW hold hpre => wU rfl fun K hK => ?_
       have e82 : b__.eval (.tmp 82) = .bool hbb := pq hpre 0 3 82
       have e86 : b__.eval (.tmp 86) = .bool hbb := pq hpre 1 7 86
       exact opw_bin rfl e82 e86 rfl (by cases hbb <;> rfl) (hK _ _ rfl (Below.refl _ _))
      case post =>
       intro b__ wz hW hdf hsz hold hT
       have e79 : b__.eval (.tmp 79) = .pointer (some ⟨g20, 1, none⟩) := hT 0 _ 79 rfl rfl
       have e80 : b__.eval (.tmp 80) = .agg #[.slice Ay my cy, .slice Am mn cm] := hT 1 _ 80 rfl rfl
       have e81 : b__.eval (.tmp 81) = .agg #[.slice A67 n67 c67] := hT 2 _ 81 rfl rfl
       have e82 : b__.eval (.tmp 82) = .bool hbb := hT 3 _ 82 rfl rfl
       have e83 : b__.eval (.tmp 83) = .pointer (some ⟨g20, 1, none⟩) := hT 4 _ 83 rfl rfl
       have e84 : b__.eval (.tmp 84) = .agg #[.slice Ay my cy, .slice Am mn cm] := hT 5 _ 84 rfl rfl
       have e85 : b__.eval (.tmp 85) = .agg #[.slice A71 n71 c71] := hT 6 _ 85 rfl rfl
       have e86 : b__.eval (.tmp 86) = .bool hbb := hT 7 _ 86 rfl rfl
       have e87 : b__.eval (.tmp 87) = .bool false := hT 8 _ 87 rfl rfl
       obtain ⟨vs, hvs, hb⟩ := frame_of hdf hsz hold
       replace e79 : vs 79 = .pointer (some ⟨g20, 1, none⟩) := (hvs 79).symm.trans e79
       replace e80 : vs 80 = .agg #[.slice Ay my cy, .slice Am mn cm] := (hvs 80).symm.trans e80
       replace e81 : vs 81 = .agg #[.slice A67 n67 c67] := (hvs 81).symm.trans e81
       replace e82 : vs 82 = .bool hbb := (hvs 82).symm.trans e82
       replace e83 : vs 83 = .pointer (some ⟨g20, 1, none⟩) := (hvs 83).symm.trans e83
       replace e84 : vs 84 = .agg #[.slice Ay my cy, .slice Am mn cm] := (hvs 84).symm.trans e84
       replace e85 : vs 85 = .agg #[.slice A71 n71 c71] := (hvs 85).symm.trans e85
       replace e86 : vs 86 = .bool hbb := (hvs 86).symm.trans e86
       replace e87 : vs 87 = .bool false := (hvs 87).symm.trans e87
       subst hb
       clear hvs hold hT hdf hsz
       simp only [setAll, Act.put, List.setIfInBounds_toArray, List.set_cons_zero, List.set_cons_succ, List.getElem_toArray, List.getElem_cons_succ, List.getElem_cons_zero]
       replace hS := hS.ext hW
       rw [e87]
       clear hW e79 e80 e81 e82 e83 e84 e85 e86 e87
       generalize vs 79 = s79, vs 80 = s80, vs 81 = s81, vs 82 = s82, vs 83 = s83, vs 84 = s84, vs 85 = s85, vs 86 = s86
       go_wp2_with fail
       exact ⟨⟨j + 1, by go_num, hlj, (hS.sub (List.sublist_cons_self _ _)).mono KSD.out fun D w h => (ke.out _ _ h).1⟩, by simp [intOf]; omega⟩
     ·obtain rfl : RL.length = j := by omega
      obtain ⟨b1, hb1⟩ : ∃ b1, b1 = GL.any fun z => holdsB z (closM L sM) := ⟨_, rfl⟩
      have HB1 := Lib.hid hb1
      have HB2 : Hid (b1 = GL.any fun z => holdsB z (closM L tM)) := Lib.hid (hb1.trans (any_agree HH.out HAG.out HGL.out))
      obtain ⟨b2, hb2⟩ : ∃ b2, b2 = NL.any fun z => holdsB z (closM L sM) := ⟨_, rfl⟩
      have HB3 := Lib.hid hb2
      have HB4 : Hid (b2 = NL.any fun z => holdsB z (closM L tM)) := Lib.hid (hb2.trans (any_agree HH.out HAG.out HNL.out))
      clear hb1 hb2
      go_wp2_with (first | ((with_reducible refine qB ?_); (first | refine q1 ?_ ?_ | refine q2 ?_ ?_ | refine q3 ?_ ?_ | refine q4 ?_ ?_ | refine q5 ?_ ?_ | refine q6 ?_ ?_) <;> intro h_ <;> go_prune))
      refine wp_region_typed (fun i__ v w => match i__ with
       | 0 => v = .pointer (some ⟨g7, 5, none⟩)
       | 1 => v = .slice Ag GL.length cg
       | 2 => v = .agg #[.slice A67 n67 c67]
       | 3 => v = .bool b1
       | 4 => v = .pointer (some ⟨g7, 5, none⟩)
       | 5 => v = .slice Ag GL.length cg
       | 6 => v = .agg #[.slice A71 n71 c71]
       | 7 => v = .bool b1
       | 8 => v = .bool true
       | 9 => v = .bool true
       | 10 => v = .pointer (some ⟨g10, 4, none⟩)
       | 11 => v = .slice An NL.length cn
       | 12 => v = .agg #[.slice A67 n67 c67]
       | 13 => v = .bool b2
       | 14 => v = .pointer (some ⟨g10, 4, none⟩)
       | 15 => v = .slice An NL.length cn
       | 16 => v = .agg #[.slice A71 n71 c71]
       | 17 => v = .bool b2
       | 18 => v = .bool true
       | 19 => v = .bool true
       | 20 => v = .bool true
       | _ => True) (by kernel_rfl) (by kernel_rfl) ?mono ⟨?r0, ?r1, ?r2, ?r3, ?r4, ?r5, ?r6, ?r7, ?r8, ?r9, ?r10, ?r11, ?r12, ?r13, ?r14, ?r15, ?r16, ?r17, ?r18, ?r19, ?r20, trivial⟩ ?post
      case mono =>
       intro i v w w' h hb
       match i, h with
       | 0, h | 1, h | 2, h | 3, h | 4, h | 5, h | 6, h | 7, h | 8, h | 9, h | 10, h | 11, h | 12, h | 13, h | 14, h | 15, h | 16, h | 17, h | 18, h | 19, h | 20, h => exact h
       | _ + 21, h => trivial
      case r0 =>
       refine trule fun b__ w hW hold hpre => wU rfl fun K hK => ?_
       have e7 : b__.eval (.tmp 7) = .pointer (some ⟨g7, 0, none⟩) := (hold 7 (by kernel_rfl)).trans rfl
       exact opw_faddr rfl e7 (by kernel_rfl) (hK _ _ rfl (Below.refl _ _))
      case r1 =>
       refine trule fun b__ w hW hold hpre => wU rfl fun K hK => ?_
       have e89 : b__.eval (.tmp 89) = .pointer (some ⟨g7, 5, none⟩) := pq hpre 0 0 89
       exact opw_cell rfl e89 (by kernel_rfl) ((hS.ext (undrew hW)).shut 3 rfl 5 rfl) (hK _ _ rfl (Below.refl _ _))
      case r2 =>
       refine trule fun b__ w hW hold hpre => wU rfl fun K hK => ?_
       have e17 : b__.eval (.tmp 17) = .pointer (some ⟨g17, 0, none⟩) := (hold 17 (by kernel_rfl)).trans rfl
       exact opw_row rfl e17 ((hS.ext (undrew hW)).box 0 rfl) Tryz.underlying27 rfl (by kernel_rfl) (hK _ _ rfl (Below.refl _ _))
      case r3 =>
       refine trule fun b__ w hW hold hpre => wU rfl fun K hK => ?_
       have e90 : b__.eval (.tmp 90) = .slice Ag GL.length cg := pq hpre 0 1 90
       have e91 : b__.eval (.tmp 91) = .agg #[.slice A67 n67 c67] := pq hpre 1 2 91
       exact opw_call rfl (by kernel_rfl) (by simp only [List.map_cons, List.map_nil, e90, e91]) (some_any (kg _ _ (kd _ _ (hS.ext (undrew hW)).ro)) (kp1 _ _ (hS.ext (undrew hW)).ro)) fun v w' h hb => hK v w' (h.trans (by rw [HB1.out])) hb
      case r4 =>
       refine trule fun b__ w hW hold hpre => wU rfl fun K hK => ?_
       have e7 : b__.eval (.tmp 7) = .pointer (some ⟨g7, 0, none⟩) := (hold 7 (by kernel_rfl)).trans rfl
       exact opw_faddr rfl e7 (by kernel_rfl) (hK _ _ rfl (Below.refl _ _))
      case r5 =>
       refine trule fun b__ w hW hold hpre => wU rfl fun K hK => ?_
       have e93 : b__.eval (.tmp 93) = .pointer (some ⟨g7, 5, none⟩) := pq hpre 0 4 93
       exact opw_cell rfl e93 (by kernel_rfl) ((hS.ext (undrew hW)).shut 3 rfl 5 rfl) (hK _ _ rfl (Below.refl _ _))
      case r6 =>
       refine trule fun b__ w hW hold hpre => wU rfl fun K hK => ?_
       have e18 : b__.eval (.tmp 18) = .pointer (some ⟨g18, 0, none⟩) := (hold 18 (by kernel_rfl)).trans rfl
       exact opw_row rfl e18 ((hS.ext (undrew hW)).box 1 rfl) Tryz.underlying27 rfl (by kernel_rfl) (hK _ _ rfl (Below.refl _ _))
      case r7 =>
       refine trule fun b__ w hW hold hpre => wU rfl fun K hK => ?_
       have e94 : b__.eval (.tmp 94) = .slice Ag GL.length cg := pq hpre 0 5 94
       have e95 : b__.eval (.tmp 95) = .agg #[.slice A71 n71 c71] := pq hpre 1 6 95
       exact opw_call rfl (by kernel_rfl) (by simp only [List.map_cons, List.map_nil, e94, e95]) (some_any (kg _ _ (kd _ _ (hS.ext (undrew hW)).ro)) (kp2 _ _ (hS.ext (undrew hW)).ro)) fun v w' h hb => hK v w' (h.trans (by rw [HB2.out])) hb
      case r8 =>
       refine trule fun b__ w hW hold hpre => wU rfl fun K hK => ?_
       have e92 : b__.eval (.tmp 92) = .bool b1 := pq hpre 0 3 92
       have e96 : b__.eval (.tmp 96) = .bool b1 := pq hpre 1 7 96
       exact opw_bin rfl e92 e96 rfl (by cases b1 <;> rfl) (hK _ _ rfl (Below.refl _ _))
      case r9 =>
       refine trule fun b__ w hW hold hpre => wU rfl fun K hK => ?_
       have e97 : b__.eval (.tmp 97) = .bool true := pq hpre 0 8 97
       exact opw_move rfl e97 (hK _ _ rfl (Below.refl _ _))
      case r10 =>
       refine trule fun b__ w hW hold hpre => wT rfl rfl rfl (show b__.eval (.tmp 98) = .bool true from pq hpre 0 9 98) fun K hK => ?_
       have e10 : b__.eval (.tmp 10) = .pointer (some ⟨g10, 0, none⟩) := (hold 10 (by kernel_rfl)).trans rfl
       exact opw_faddr rfl e10 (by kernel_rfl) (hK _ _ rfl (Below.refl _ _))
      case r11 =>
       refine trule fun b__ w hW hold hpre => wT rfl rfl rfl (show b__.eval (.tmp 98) = .bool true from pq hpre 1 9 98) fun K hK => ?_
       have e99 : b__.eval (.tmp 99) = .pointer (some ⟨g10, 4, none⟩) := pq hpre 0 10 99
       exact opw_cell rfl e99 (by kernel_rfl) ((hS.ext (undrew hW)).shut 2 rfl 4 rfl) (hK _ _ rfl (Below.refl _ _))
      case r12 =>
       refine trule fun b__ w hW hold hpre => wT rfl rfl rfl (show b__.eval (.tmp 98) = .bool true from pq hpre 0 9 98) fun K hK => ?_
       have e17 : b__.eval (.tmp 17) = .pointer (some ⟨g17, 0, none⟩) := (hold 17 (by kernel_rfl)).trans rfl
       exact opw_row rfl e17 ((hS.ext (undrew hW)).box 0 rfl) Tryz.underlying27 rfl (by kernel_rfl) (hK _ _ rfl (Below.refl _ _))
      case r13 =>
       refine trule fun b__ w hW hold hpre => wT rfl rfl rfl (show b__.eval (.tmp 98) = .bool true from pq hpre 2 9 98) fun K hK => ?_
       have e100 : b__.eval (.tmp 100) = .slice An NL.length cn := pq hpre 0 11 100
       have e101 : b__.eval (.tmp 101) = .agg #[.slice A67 n67 c67] := pq hpre 1 12 101
       exact opw_call rfl (by kernel_rfl) (by simp only [List.map_cons, List.map_nil, e100, e101]) (some_any (kn _ _ (kd _ _ (hS.ext (undrew hW)).ro)) (kp1 _ _ (hS.ext (undrew hW)).ro)) fun v w' h hb => hK v w' (h.trans (by rw [HB3.out])) hb
      case r14 =>
       refine trule fun b__ w hW hold hpre => wT rfl rfl rfl (show b__.eval (.tmp 98) = .bool true from pq hpre 0 9 98) fun K hK => ?_
       have e10 : b__.eval (.tmp 10) = .pointer (some ⟨g10, 0, none⟩) := (hold 10 (by kernel_rfl)).trans rfl
       exact opw_faddr rfl e10 (by kernel_rfl) (hK _ _ rfl (Below.refl _ _))
      case r15 =>
       refine trule fun b__ w hW hold hpre => wT rfl rfl rfl (show b__.eval (.tmp 98) = .bool true from pq hpre 1 9 98) fun K hK => ?_
       have e103 : b__.eval (.tmp 103) = .pointer (some ⟨g10, 4, none⟩) := pq hpre 0 14 103
       exact opw_cell rfl e103 (by kernel_rfl) ((hS.ext (undrew hW)).shut 2 rfl 4 rfl) (hK _ _ rfl (Below.refl _ _))
      case r16 =>
       refine trule fun b__ w hW hold hpre => wT rfl rfl rfl (show b__.eval (.tmp 98) = .bool true from pq hpre 0 9 98) fun K hK => ?_
       have e18 : b__.eval (.tmp 18) = .pointer (some ⟨g18, 0, none⟩) := (hold 18 (by kernel_rfl)).trans rfl
       exact opw_row rfl e18 ((hS.ext (undrew hW)).box 1 rfl) Tryz.underlying27 rfl (by kernel_rfl) (hK _ _ rfl (Below.refl _ _))
      case r17 =>
       refine trule fun b__ w hW hold hpre => wT rfl rfl rfl (show b__.eval (.tmp 98) = .bool true from pq hpre 3 9 98) fun K hK => ?_
       have e104 : b__.eval (.tmp 104) = .slice An NL.length cn := pq hpre 0 15 104
       have e105 : b__.eval (.tmp 105) = .agg #[.slice A71 n71 c71] := pq hpre 1 16 105
       exact opw_call rfl (by kernel_rfl) (by simp only [List.map_cons, List.map_nil, e104, e105]) (some_any (kn _ _ (kd _ _ (hS.ext (undrew hW)).ro)) (kp2 _ _ (hS.ext (undrew hW)).ro)) fun v w' h hb => hK v w' (h.trans (by rw [HB4.out])) hb
      case r18 =>
       refine trule fun b__ w hW hold hpre => wT rfl rfl rfl (show b__.eval (.tmp 98) = .bool true from pq hpre 2 9 98) fun K hK => ?_
       have e102 : b__.eval (.tmp 102) = .bool b2 := pq hpre 0 13 102
       have e106 : b__.eval (.tmp 106) = .bool b2 := pq hpre 1 17 106
       exact opw_bin rfl e102 e106 rfl (by cases b2 <;> rfl) (hK _ _ rfl (Below.refl _ _))
      case r19 =>
       refine trule fun b__ w hW hold hpre => wU rfl fun K hK => ?_
       have e98 : b__.eval (.tmp 98) = .bool true := pq hpre 0 9 98
       have e107 : b__.eval (.tmp 107) = .bool true := pq hpre 1 18 107
       exact opw_pick rfl e98 (if_pos rfl) (hK _ _ e107 (Below.refl _ _))
      case r20 =>
       refine trule fun b__ w hW hold hpre => wU rfl fun K hK => ?_
       have e108 : b__.eval (.tmp 108) = .bool true := pq hpre 0 19 108
       exact opw_assign rfl e108 (hK _ _ rfl (Below.refl _ _))
      case post =>
       intro b__ wz hW hdf hsz hold hT
       have e89 : b__.eval (.tmp 89) = .pointer (some ⟨g7, 5, none⟩) := hT 0 _ 89 rfl rfl
       have e90 : b__.eval (.tmp 90) = .slice Ag GL.length cg := hT 1 _ 90 rfl rfl
       have e91 : b__.eval (.tmp 91) = .agg #[.slice A67 n67 c67] := hT 2 _ 91 rfl rfl
       have e92 : b__.eval (.tmp 92) = .bool b1 := hT 3 _ 92 rfl rfl
       have e93 : b__.eval (.tmp 93) = .pointer (some ⟨g7, 5, none⟩) := hT 4 _ 93 rfl rfl
       have e94 : b__.eval (.tmp 94) = .slice Ag GL.length cg := hT 5 _ 94 rfl rfl
       have e95 : b__.eval (.tmp 95) = .agg #[.slice A71 n71 c71] := hT 6 _ 95 rfl rfl
       have e96 : b__.eval (.tmp 96) = .bool b1 := hT 7 _ 96 rfl rfl
       have e97 : b__.eval (.tmp 97) = .bool true := hT 8 _ 97 rfl rfl
       have e98 : b__.eval (.tmp 98) = .bool true := hT 9 _ 98 rfl rfl
       have e99 : b__.eval (.tmp 99) = .pointer (some ⟨g10, 4, none⟩) := hT 10 _ 99 rfl rfl
       have e100 : b__.eval (.tmp 100) = .slice An NL.length cn := hT 11 _ 100 rfl rfl
       have e101 : b__.eval (.tmp 101) = .agg #[.slice A67 n67 c67] := hT 12 _ 101 rfl rfl
       have e102 : b__.eval (.tmp 102) = .bool b2 := hT 13 _ 102 rfl rfl
       have e103 : b__.eval (.tmp 103) = .pointer (some ⟨g10, 4, none⟩) := hT 14 _ 103 rfl rfl
       have e104 : b__.eval (.tmp 104) = .slice An NL.length cn := hT 15 _ 104 rfl rfl
       have e105 : b__.eval (.tmp 105) = .agg #[.slice A71 n71 c71] := hT 16 _ 105 rfl rfl
       have e106 : b__.eval (.tmp 106) = .bool b2 := hT 17 _ 106 rfl rfl
       have e107 : b__.eval (.tmp 107) = .bool true := hT 18 _ 107 rfl rfl
       have e108 : b__.eval (.tmp 108) = .bool true := hT 19 _ 108 rfl rfl
       have e6 : b__.eval (.tmp 6) = .bool true := hT 20 _ 6 rfl rfl
       obtain ⟨vs, hvs, hb⟩ := frame_of hdf hsz hold
       replace e89 : vs 89 = .pointer (some ⟨g7, 5, none⟩) := (hvs 89).symm.trans e89
       replace e90 : vs 90 = .slice Ag GL.length cg := (hvs 90).symm.trans e90
       replace e91 : vs 91 = .agg #[.slice A67 n67 c67] := (hvs 91).symm.trans e91
       replace e92 : vs 92 = .bool b1 := (hvs 92).symm.trans e92
       replace e93 : vs 93 = .pointer (some ⟨g7, 5, none⟩) := (hvs 93).symm.trans e93
       replace e94 : vs 94 = .slice Ag GL.length cg := (hvs 94).symm.trans e94
       replace e95 : vs 95 = .agg #[.slice A71 n71 c71] := (hvs 95).symm.trans e95
       replace e96 : vs 96 = .bool b1 := (hvs 96).symm.trans e96
       replace e97 : vs 97 = .bool true := (hvs 97).symm.trans e97
       replace e98 : vs 98 = .bool true := (hvs 98).symm.trans e98
       replace e99 : vs 99 = .pointer (some ⟨g10, 4, none⟩) := (hvs 99).symm.trans e99
       replace e100 : vs 100 = .slice An NL.length cn := (hvs 100).symm.trans e100
       replace e101 : vs 101 = .agg #[.slice A67 n67 c67] := (hvs 101).symm.trans e101
       replace e102 : vs 102 = .bool b2 := (hvs 102).symm.trans e102
       replace e103 : vs 103 = .pointer (some ⟨g10, 4, none⟩) := (hvs 103).symm.trans e103
       replace e104 : vs 104 = .slice An NL.length cn := (hvs 104).symm.trans e104
       replace e105 : vs 105 = .agg #[.slice A71 n71 c71] := (hvs 105).symm.trans e105
       replace e106 : vs 106 = .bool b2 := (hvs 106).symm.trans e106
       replace e107 : vs 107 = .bool true := (hvs 107).symm.trans e107
       replace e108 : vs 108 = .bool true := (hvs 108).symm.trans e108
       replace e6 : vs 6 = .bool true := (hvs 6).symm.trans e6
       subst hb
       clear hvs hold hT hdf hsz
       simp only [setAll, Act.put, List.setIfInBounds_toArray, List.set_cons_zero, List.set_cons_succ, List.getElem_toArray, List.getElem_cons_succ, List.getElem_cons_zero]
       replace hS := hS.ext hW
       go_wp2_with fail
       go_ret
       first
        | exact Ret.mk rfl hS.below
        | exact Ret.mk e6 hS.below
end Go.Proofs.YtihpgmbinhmmlaaGreatDoor
namespace Go.Proofs.YtihpgmbinhmmlaaGreatDoor
open Go.RowKit Go.ChangeShapes Go.WideShapes

section
variable {H : Type} {enc : TypeId × Value → H} {P : Program} {w : World} {base : Nat} {sp : Nat → Bool} {held : Bool}
theorem sl_of_trod {t e : TypeId} {size fuel : Nat} {cs : List Value} {x : DataW H × List MemPlace} (ht : P.underlying t = some (.slice e)) (hc : P.cellsOf e = size) (hsz : 0 < size) (h : DataW.trod enc P w base sp held fuel t cs = some x) :
  ∃ v n xs, cs = [v] ∧ Sl w (fun _ => True) size v n xs ∧ ∀ k, k < n → ∃ f' y, DataW.trod enc P w base sp held f' e ((xs.drop (k * size)).take size) = some y := by
 rcases DataW.trod_slice ht h with ⟨rfl, _⟩ | ⟨a, len, cap, elems, rest, n, _, rfl, _, hb, hl, hm, hlen, hel, _⟩
 ·exact ⟨_, 0, [], rfl, ⟨by simp, none, 0, rfl, Nat.le_refl _, Nat.zero_le _, fun h => by omega⟩, fun k hk => by omega⟩
 ·rw [hc] at hel
  have each : ∀ k, k < len → ∃ ck y, w.cells? base (a.add (k * size)) size = some ck ∧ DataW.trod enc P w base sp held n e ck = some y := by
   intro k hk
   have h1 := hel k hk
   rw [List.getElem?_eq_getElem (by omega)] at h1
   obtain ⟨ck, h2, h3⟩ := Option.bind_eq_some_iff.1 h1
   exact ⟨ck, _, h2, h3⟩
  have hadd : ∀ i j, (a.add i).add j = a.add (i + j) := by
   intro i j
   unfold Addr.add
   by_cases h1 : i = 0 <;> by_cases h2 : j = 0 <;> simp [h1, h2, Nat.add_assoc]
  have cell : ∀ j, j < len * size → ∃ x, w.cell? (a.add j) = some x := by
   intro j hj
   have hk : j / size < len := (Nat.div_lt_iff_lt_mul hsz).2 hj
   obtain ⟨ck, y, h1, h2⟩ := each _ hk
   obtain ⟨_, h3, h4⟩ := World.cells?_some h1
   have h5 := h4 (j % size) (Nat.mod_lt _ hsz)
   rw [hadd, Nat.mul_comm, Nat.div_add_mod] at h5
   rw [h5, List.getElem?_eq_getElem (by rw [h3]; exact Nat.mod_lt _ hsz)]
   exact ⟨_, rfl⟩
  refine ⟨.slice (some a) len cap, len, (List.range (len * size)).map fun j => (w.cell? (a.add j)).getD undef, rfl, ⟨by simp, some a, cap, rfl, hl, hm, fun h0 => ?_⟩, fun k hk => ?_⟩
  ·obtain ⟨x0, hx0⟩ := cell 0 (Nat.mul_pos h0 hsz)
   obtain ⟨b, o, s⟩ := a
   have hs : s = none := cell_spot hx0
   subst hs
   refine ⟨b, o, rfl, trivial, ?_, fun j x hx => ?_⟩
   ·have := hx0
    unfold World.cell? at this
    simp only [Addr.add] at this
    rcases Nat.lt_or_ge b w.heap.size with hlt | hge
    ·exact hlt
    ·simp [Array.getElem?_eq_none hge] at this
   ·simp only [List.getElem?_map, Option.map_eq_some_iff] at hx
    obtain ⟨j', hj', rfl⟩ := hx
    have hjl := (List.getElem?_eq_some_iff.1 hj').1
    rw [List.getElem?_range (by simpa using hjl)] at hj'
    obtain rfl := Option.some.inj hj'
    obtain ⟨y, hy⟩ := cell j (by simpa using hjl)
    rw [hy]
    have e : (⟨b, o, none⟩ : Addr).add j = ⟨b, o + j, none⟩ := by
     unfold Addr.add; split <;> simp [*]
    rw [e] at hy
    exact hy
  ·obtain ⟨ck, y, h1, h2⟩ := each k hk
   obtain ⟨_, h3, h4⟩ := World.cells?_some h1
   refine ⟨n, y, ?_⟩
   rw [← h2]
   congr 1
   have hle : k * size + size ≤ len * size := by
    rw [← Nat.succ_mul]; exact Nat.mul_le_mul_right _ hk
   apply List.ext_getElem?
   intro i
   rcases Nat.lt_or_ge i size with hi | hi
   ·rw [List.getElem?_take_of_lt hi, List.getElem?_drop, List.getElem?_map, List.getElem?_range (by omega)]
    have h5 := h4 i hi
    rw [hadd] at h5
    simp only [Option.map_some]
    rw [h5, List.getElem?_eq_getElem (by omega)]
    simp
   ·rw [List.getElem?_eq_none (by simp; omega), List.getElem?_eq_none (by omega)]
end
theorem u8_nat {n : Int} (h : (Lit.int .u8 n).wf = true) : ∃ m : Nat, n = (m : Int) ∧ m < 256 := by
 have := bounds_u8 h
 exact ⟨n.toNat, by omega, by omega⟩
end Go.Proofs.YtihpgmbinhmmlaaGreatDoor
namespace Go.Proofs.YtihpgmbinhmmlaaGreatDoor
open Go.ChangeShapes Go.WideShapes Go.ChangeAt Go.RowKit

set_option maxRecDepth 20000 in
theorem bytes_open {H : Type} {enc : TypeId × Value → H} {W : World} {r : Reach} {b0 base : Nat} {sp : Nat → Bool} {held : Bool} {v : Value} {d : DataW H} {p : List MemPlace} (hv : Value.okWide Tryz.prog W r b0 22 v) (h : DataW.Trod enc Tryz.prog W base sp held 22 v d p) :
  ∃ l : List Nat, (∀ x ∈ l, x < 256) ∧ Sl W (fun _ => True) 1 v l.length (u8s l) := by
 obtain ⟨a0, len0, cap0, rfl⟩ := okWide_slice Tryz.underlying22 hv
 obtain ⟨fuel, hf⟩ := h
 obtain ⟨v, n, xs, e, hs, he⟩ := sl_of_trod Tryz.underlying22 (size := 1) (by kernel_rfl) (by decide) hf
 have hl := hs.1
 have : ∃ zs : List Nat, (∀ x ∈ zs, x < 256) ∧ xs = u8s zs := by
  have : ∀ v ∈ xs, ∃ z : Nat, z < 256 ∧ v = .int .u8 (z : Nat) := by
   intro v hv
   obtain ⟨k, hk, hkv⟩ := List.mem_iff_getElem.1 hv
   obtain ⟨f', y, hy⟩ := he k (by omega)
   obtain ⟨z, hz, _, hw⟩ := DataW.trod_int Tryz.underlying5 hy
   obtain ⟨m, rfl, hm⟩ := u8_nat hw
   have h0 := congrArg (·[0]?) hz
   simp only [Nat.mul_one, List.getElem?_take_of_lt Nat.zero_lt_one, List.getElem?_drop, Nat.add_zero] at h0
   rw [List.getElem?_eq_getElem hk, hkv] at h0
   exact ⟨m, hm, by simpa using h0⟩
  clear hs he hl
  induction xs with
  | nil => exact ⟨[], fun x hx => by simp at hx, rfl⟩
  | cons a r ih =>
   obtain ⟨zs, hzs, rfl⟩ := ih fun v hv => this v (List.mem_cons_of_mem _ hv)
   obtain ⟨z, hz, rfl⟩ := this a List.mem_cons_self
   exact ⟨z :: zs, fun x hx => by rcases List.mem_cons.1 hx with rfl | hx; exact hz; exact hzs x hx, rfl⟩
 obtain ⟨zs, hzs, rfl⟩ := this
 have hz : zs.length = n := by simpa [u8s] using hl
 obtain rfl : v = .slice a0 len0 cap0 := by simpa [Value.cells] using e.symm
 exact ⟨zs, hzs, hz ▸ hs⟩
end Go.Proofs.YtihpgmbinhmmlaaGreatDoor
namespace Go.Proofs.YtihpgmbinhmmlaaGreatDoor
open Go.ChangeShapes Go.WideShapes Go.ChangeAt Go.RowKit

section
variable {P : Program} {H : Type} {enc : TypeId × Value → H} {W : World} {r : Reach} {b0 base : Nat} {sp : Nat → Bool} {held : Bool} {v : Value} {d : DataW H} {p : List MemPlace} {t : TypeId}
theorem int_open {k : IntKind} (ht : P.underlying t = some (.int k)) (hv : Value.okWide P W r b0 t v) (h : DataW.Trod enc P W base sp held t v d p) : ∃ n, v = .int k n ∧ (Lit.int k n).wf = true := by
 obtain ⟨n, rfl⟩ := okWide_int ht hv
 obtain ⟨fuel, hf⟩ := h
 obtain ⟨m, e, _, w⟩ := DataW.trod_int ht hf
 simp [Value.cells] at e
 subst e
 exact ⟨_, rfl, w⟩
theorem u8_open (ht : P.underlying t = some (.int .u8)) (hv : Value.okWide P W r b0 t v) (h : DataW.Trod enc P W base sp held t v d p) : ∃ n : Nat, v = .int .u8 n ∧ n < 256 := by
 obtain ⟨n, rfl, w⟩ := int_open ht hv h
 have := bounds_u8 w
 obtain ⟨m, rfl⟩ := Int.eq_ofNat_of_zero_le (by omega : 0 ≤ n)
 exact ⟨m, rfl, by omega⟩
end
end Go.Proofs.YtihpgmbinhmmlaaGreatDoor
namespace Go.Proofs.YtihpgmbinhmmlaaGreatDoor
open Go.RowKit Go.ChangeShapes Go.WideShapes

theorem boxF_of_reads {w : World} {n : String} {g : Nat} {t e : TypeId} {m : Nat} {k : IntKind} {zs : List Int} (hg : Tryz.prog.globalNamed n = some g) (hty : (Tryz.prog.globals[g]?).map (·.type) = some t)
  (ht : Tryz.prog.underlying t = some (.array m e)) (he : Tryz.prog.underlying e = some (.int k)) (hce : Tryz.prog.cellsOf e = 1) (hct : Tryz.prog.cellsOf t = m) (h : Lib.VarReads Tryz.prog w n (Lib.tabData k zs)) :
  ∃ t, BoxF w g t (zs.map fun z => Value.int k z).toArray := by
 obtain ⟨g', t', cs, fuel, p, hg', hty', hvar, hd⟩ := h
 obtain rfl := Option.some.inj (hg.symm.trans hg')
 obtain rfl := Option.some.inj (hty.symm.trans hty')
 have hcs := Lib.cells_of_tab ht he hce hct hd
 simp only [World.var?, hg, Option.bind_some] at hvar
 split at hvar
 ·rename_i cs' t'' f heq
  obtain rfl := Option.some.inj hvar
  refine ⟨(t'', f), ?_⟩
  rw [← hcs]
  exact heq
 ·cases hvar
end Go.Proofs.YtihpgmbinhmmlaaGreatDoor
namespace Go.Proofs.YtihpgmbinhmmlaaGreatDoor
open Go.RowKit Go.ChangeShapes Go.WideShapes

theorem dtab_of_reads {w : World} (h1 : Lib.VarReads Tryz.prog w "math/bits.deBruijn64tab" Rows.laid_math_bits_deBruijn64tab) : DTab w := by
 have e1 : (Rows.laid_math_bits_deBruijn64tab : DataW Unit) = Lib.tabData .u8 (dbL.map fun x : Nat => (x : Int)) := by kernel_rfl
 rw [e1] at h1
 obtain ⟨t, b1⟩ := boxF_of_reads (g := 0) (by kernel_rfl) (t := 188) (by kernel_rfl) Tryz.underlying188 Tryz.underlying5 (by kernel_rfl) (by kernel_rfl) h1
 have e : (List.map (fun z => Value.int .u8 z) (dbL.map fun x : Nat => (x : Int))) = u8s dbL := by simp [u8s]
 rw [e] at b1
 intro q hq
 rw [b1.cell, List.getElem?_toArray]
 exact u8s_at _ _ hq
end Go.Proofs.YtihpgmbinhmmlaaGreatDoor
namespace Go.Proofs.YtihpgmbinhmmlaaGreatDoor
open Go.ChangeShapes Go.WideShapes Go.ChangeAt Go.RowKit

theorem sdep_laid_plain (W : World) (h : laidMetH Tryz.prog Rows.sliceDependsRow.laid W) : DTab W := by
 have h' : laidMetH Tryz.prog [("math/bits.deBruijn64tab", Rows.laid_math_bits_deBruijn64tab)] W := h
 rw [MakeChecks.laidMetH_plain _ _ _ (by kernel_rfl)] at h'
 exact dtab_of_reads (Lib.laidMet.reads h' (.head _))
noncomputable def sdepStart (os : Os) : World := World.laidAll Tryz.prog os Rows.sliceDependsRow.laid
theorem sdep_start_met (os : Os) (args : Array Value) : laidMetH Tryz.prog Rows.sliceDependsRow.laid ((sdepStart os).forCall (fun _ _ => 0) ⟨#[], args, []⟩).memory := by
 rw [MakeChecks.laidMetH_plain _ _ _ (by kernel_rfl)]
 exact laidMet_laidAll _ (by kernel_rfl) (by kernel_rfl)
theorem sdep_own : ownKnob Tryz.prog.godebug = none := by kernel_rfl
theorem sdep_laidOut : laidOutB Tryz.prog = true := by kernel_rfl

set_option maxRecDepth 100000 in
theorem sdep_lifted (os : Os) (started : os.Started) (H : Type) (enc : TypeId × Value → H) :
  ReturnsInHanded {} Tryz.checked os 5 .any (fun w args => (Rows.sliceDependsSpec.pre enc Tryz.prog Tryz.f5 [] false w args ∧ laidMetH Tryz.prog Rows.sliceDependsRow.laid w) ∧ sizedMet enc Tryz.prog Tryz.f5 (OpenSpec.ofChange Rows.sliceDependsSpec) false w args)
   (Rows.sliceDependsSpec.post enc Tryz.prog Tryz.f5 false true false false) := by
 refine returnsInHanded_of_change_and (C := Tryz.checked) (X := fun w _ => laidMetH Tryz.prog Rows.sliceDependsRow.laid w) (fun _ _ _ hh h => h.of_heap hh) sdep_own started (by kernel_rfl) Tryz.func5
  (ChangeSpec.witness_shaped (enc := enc) (C := Tryz.checked) (os := os) (X := fun w _ => laidMetH Tryz.prog Rows.sliceDependsRow.laid w) false (sdepStart os) #[.slice none 0 0, .int .u8 0, .int .u8 0] 8 (World.laidAll_os _ _ _) (World.shaped_of_ZipB (by kernel_rfl) (by kernel_rfl)) (by kernel_rfl) (by kernel_rfl) (by kernel_rfl) (sdep_start_met os _)) ?_
 intro W base args ds gs before hval0 hW _ _ hL _
 have hval : ∀ (j : Nat) t v, Tryz.f5.params[j]? = some t → args[j]? = some v → Value.okWide Tryz.prog W .any base t v := hval0
 have hW' := hW
 obtain ⟨p, q, hA0, hV, rfl, hfz, hnd⟩ := hW
 have hA : DataW.TrodAll enc Tryz.prog W 0 (fun _ => true) true Tryz.f5.params.toList args.toList ds p := hA0
 rw [Tryz.params5] at hA hval
 obtain ⟨v0, v1, v2, d0, d1, d2, p0, p1, p2, rfl, rfl, rfl, h0, h1, h2⟩ := trodAll_three hA
 obtain ⟨rfl, rfl⟩ := trodVars_none hV
 obtain ⟨l, hl, hs⟩ := bytes_open (hval 0 _ v0 rfl rfl) h0
 obtain ⟨a1, rfl, ha1⟩ := u8_open Tryz.underlying5 (hval 1 _ v1 rfl rfl) h1
 obtain ⟨a2, rfl, ha2⟩ := u8_open Tryz.underlying5 (hval 2 _ v2 rfl rfl) h2
 have hT := sdep_laid_plain W hL
 have lt : ∀ z ∈ p0 ++ p1 ++ p2, z.block < W.heap.size := fun z hz => by simpa using hW'.lt z (by simpa using hz)
 refine (ldepends_any v0 l a1 a2 ha1 ha2 W _ hl hs hT).mono fun E W' he => ?_
 obtain ⟨r, rfl, rfl, hb⟩ := he
 refine ⟨_, rfl, _, _, _, [], p0 ++ p1 ++ p2, [], hW', ?_, ?_, ?_, hb.frame _, fun h => by cases h⟩
 ·exact trodAll_mk1 (shut_bool Tryz.underlying4 true)
 ·rw [Tryz.params5]
  rw [List.append_assoc]
  exact trodAll_mk3 (Below.trod sdep_laidOut (by kernel_rfl) (of_decide_eq_true (by kernel_rfl)) h0 hb fun z hz => lt z (List.mem_append_left _ (List.mem_append_left _ hz))) (Below.trod sdep_laidOut (by kernel_rfl) (of_decide_eq_true (by kernel_rfl)) h1 hb fun z hz => lt z (List.mem_append_left _ (List.mem_append_right _ hz))) (Below.trod sdep_laidOut (by kernel_rfl) (of_decide_eq_true (by kernel_rfl)) h2 hb fun z hz => lt z (List.mem_append_right _ hz))
 ·rfl

theorem sdep_holds : Rows.SliceDependsSaid :=
 OpenClaim.holds_of_wide 5 Tryz.f5 rfl rfl rfl rfl rfl rfl rfl ⟨rfl, rfl, rfl, rfl, rfl⟩ rfl rfl rfl rfl rfl (by kernel_rfl) Tryz.func5 (by kernel_rfl)
  (of_decide_eq_true (by kernel_rfl)) (by unfold Func.isWrapper; rw [if_neg (by decide +kernel)]; exact ⟨rfl, rfl⟩)
  (fun os started H enc _ => sdep_lifted os started H enc)
end Go.Proofs.YtihpgmbinhmmlaaGreatDoor
namespace Go.Proofs.YtihpgmbinhmmlaaGreatDoor
open Go

theorem sdep_card : Rows.SliceDependsCardSaid :=
 Claim7.holds_tied_plain_at .later [] [.data] true (true, "2d0cce7fd9cc136f77960caa9ad49f21584df77fdf1a824aa537d6f087b5c6e9") false
  sdep_holds (fun _ h => by cases h) (by kernel_rfl) (fun _ h => by cases h) sliceDepends_row_tie rfl ⟨rfl, rfl⟩ (by kernel_rfl) rfl
  (fun f fn hf hfn => by
   obtain rfl : f = 5 := Option.some.inj ((show Tryz.prog.funcNamed "arbac/arbaclaw33.SliceDepends" = some 5 by kernel_rfl).symm.trans hf) |>.symm
   obtain rfl : fn = Tryz.f5 := (Option.some.inj (Tryz.func5.symm.trans hfn)).symm
   exact ⟨by kernel_rfl, fun j t ht => by
    rw [Tryz.params5] at ht
    have h3 : t = 22 ∨ t = 5 := by
     rcases j with _ | _ | _ | j
     ·simp at ht; simp [← ht]
     ·simp at ht; simp [← ht]
     ·simp at ht; simp [← ht]
     ·simp at ht
    rcases h3 with rfl | rfl
    ·exact (show Tryz.prog.wantsStandIn 22 = false by kernel_rfl)
    ·exact (show Tryz.prog.wantsStandIn 5 = false by kernel_rfl)⟩)
  (by kernel_rfl)
end Go.Proofs.YtihpgmbinhmmlaaGreatDoor
namespace Go.Proofs.YtihpgmbinhmmlaaGreatDoor
#print axioms sdep_card
end Go.Proofs.YtihpgmbinhmmlaaGreatDoor
