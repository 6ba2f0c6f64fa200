/-
  The card of HierarchyReads.
-/
import Derived.Test.YtmlkgaiphpimiaaDoorRows
import Derived.ProofKit
import Derived.OpenShut
import Derived.Lib.LaidU8
import Derived.Lay
import Derived.MakeChecks
import Derived.LaidLaws
import Derived.Stop.Joined
import Derived.Test.YtmlkgaiphpimiaaDoorCards
import Derived.Test.YtmlkgaiphpimiaaDoorTie
import Derived.SevenTiedAt
import Derived.Test.YtmlkgaiphpimiaaDoorHrp5
namespace Go.Proofs.YtmlkgaiphpimiaaDoor
open Go.RowKit
attribute [local go_sem ↓] Go.wp_at_zero Go.wp_at_succ
set_option maxRecDepth 20000
set_option exponentiation.threshold 5000

/-- '[]T{x, ..}', perhaps guarded: a row of the call's own -/
theorem st_litw {P : Program} {ops : Array Oper} {rest : List Oper} {o : Oper} {a : Act} {Q : Exit → Act → World → Prop} {w0 w : World} {F : List Fact} {K : (Nat → Prop) → World → Prop} (h : St w0 w F K) (hg : Region.wanted o (yielded ops a.tmps) = true) (t e : TypeId) (len : Nat) (parts : Array (Nat × Operand)) (ho : o.op = .buildSlice t len parts) (ht : P.underlying t = some (.slice e)) (cells : Array Value)
    (hb : builtSlice P e len (parts.map fun (i, x) => (i, a.eval x)).toList = some cells) (size : Nat) (hs : cells.size = len * size) (hm : len ≤ 1000000000000)
    (hk : ∀ g w', St w0 w' (.own (.slice (some ⟨g, 0, none⟩) len len) e size len cells.toList :: F) K → wpList P ops Q rest (a.put o.dst (.slice (some ⟨g, 0, none⟩) len len)) w') : wpList P ops Q (o :: rest) a w :=
  BigFrame.wpList_want hg fun _ hK => opw_slice ho ht rfl hb fun w' hX hB => hK _ _ (hk _ w' (h.new hB _ ⟨by simpa using hs, .inr ⟨w.heap.size, len, cells, rfl, Nat.le_refl _, hX, Nat.le_refl _, by unfold maxLen; omega, hs, by rw [← hs, show cells.size = cells.toList.length by simp, List.take_length]⟩⟩))
def T3 : List (Nat × Nat) := [(1, 2), (1, 3), (2, 3)]
def M3 : List (Nat × Nat) := [(1, 2), (2, 3), (1, 3)]
/-- links that lead upwards: no cycle -/
theorem acyc_up {L : List (Nat × Nat)} (h : ∀ x ∈ L, x.1 < x.2) : Acyc L := by
  have key : ∀ {a b : Nat}, TC L a b → a < b := by
    intro a b k
    induction k with
    | one h1 => exact h _ h1
    | cons h1 _ ih => exact Nat.lt_trans (h _ h1) ih
  exact fun a ha => Nat.lt_irrefl _ (key ha)
theorem t3_hok : HOK T3 := by
  refine ⟨?_, ?_, acyc_up ?_⟩
  · unfold Asc T3 plt; simp
  · unfold T3; simp
  · unfold T3; simp
theorem m3_acyc : Acyc M3 := acyc_up (by unfold M3; simp)
theorem t3_part {L : List (Nat × Nat)} (h : Part M3 3 L) : L = T3 := Asc.uniq h.1.asc t3_hok.asc fun u => by
  rw [h.2]; unfold M3 T3; simp; constructor
  · rintro (h | h | h) <;> simp [h]
  · rintro (h | h | h) <;> simp [h]
theorem t3_chain {l : List Nat} {c : Bool} (h : ChainP T3 1 3 l c) : l = [1, 3] ∧ c = true := by
  have h13 : (1, 3) ∈ T3 := by unfold T3; simp
  rcases h with ⟨_, _, h⟩ | ⟨h, i, j, d, e1, e2, _, _, hd, hl⟩
  · exact absurd ⟨1, 3, rfl, rfl, by omega, by omega, .inr (.one h13)⟩ h
  · obtain rfl : i = 1 := by omega
    obtain rfl : j = 3 := by omega
    have h1 : isDist T3 3 1 1 := ⟨⟨3, h13, rfl⟩, fun k hk hw => by
      obtain rfl : k = 0 := by omega
      exact absurd (show 1 = 3 from hw) (by decide)⟩
    obtain rfl := isDist_uniq hd h1
    refine ⟨?_, h⟩
    rw [hl, gp_first (L := T3) (b := 3) (v := 1) (d := 0) (t := 1) (x := (1, 3)) rfl rfl (show isDist T3 3 3 0 from ⟨rfl, fun k hk => absurd hk (Nat.not_lt_zero _)⟩) fun s hs y hy hc => ?_]
    · rfl
    · obtain rfl : s = 0 := by omega
      cases hy
      exact absurd (show 2 = 3 from hc.2.1) (by decide)
theorem t3_link {w0 w : World} {F : List Fact} {K : (Nat → Prop) → World → Prop} {r : Value} {z : Int} (h : LinkP w0 F K T3 3 1 r z w) : r = .pointer none ∧ z = 16 ∧ St w0 w F K := by
  rcases h with ⟨h, _⟩ | ⟨x, y, hx, hy, _, _, _, h⟩
  · exact absurd ⟨⟨by omega, by omega⟩, ⟨by omega, by omega⟩, by omega⟩ h
  · obtain rfl : x = 3 := by omega
    obtain rfl : y = 1 := by omega
    rcases h with ⟨h, _⟩ | ⟨_, _, h1, h2, h3⟩ | ⟨_, _, L', h1, h2, _⟩
    · exact absurd h (by unfold T3; decide)
    · exact ⟨h1, h2, h3⟩
    · exfalso
      have h3 : (3, 1) ∈ L' := (h2 _).2 (by simp)
      have h4 : (1, 3) ∈ L' := (h2 _).2 (by unfold T3; simp)
      exact h1.acyc 3 (.cons h3 (.one h4))
theorem t3_tc {a b : Nat} : TC T3 a b ↔ (a, b) ∈ T3 := by
  constructor
  · intro h
    induction h with
    | one h => exact h
    | @cons a b c h _ ih =>
      unfold T3 at *
      simp only [List.mem_cons, Prod.mk.injEq, List.not_mem_nil, or_false] at *
      omega
  · exact .one
theorem t3_jun : junM T3 1 = 14 := mask_ext fun i => by
  rw [tb_jun t3_hok.inr (by omega), t3_tc]
  constructor
  · rintro (rfl | h)
    · decide
    · unfold T3 at h
      simp only [List.mem_cons, Prod.mk.injEq, List.not_mem_nil, or_false] at h
      have : i = 2 ∨ i = 3 := by omega
      rcases this with rfl | rfl <;> decide
  · intro h
    have hi : i < 4 := by
      rcases Nat.lt_or_ge i 4 with h1 | h1
      · exact h1
      · rw [Nat.testBit_lt_two_pow (Nat.lt_of_lt_of_le (show 14 < 2 ^ 4 by decide) (Nat.pow_le_pow_right (by decide) h1))] at h; cases h
    have : i = 0 ∨ i = 1 ∨ i = 2 ∨ i = 3 := by omega
    rcases this with rfl | rfl | rfl | rfl
    · revert h; decide
    · exact .inl rfl
    · exact .inr (by unfold T3; decide)
    · exact .inr (by unfold T3; decide)
theorem t3_of : ofN [1, 2, 3] = 14 := by decide
theorem tc_unl {L : List (Nat × Nat)} {z : Nat × Nat} {a b : Nat} (h : TC (unl L z) a b) : TC L a b := h.mono fun x hx => (mem_unl.1 hx).1
theorem t3_red : redL T3 T3 = [(1, 3)] := by
  have h1 : ¬ TC (unl T3 (1, 2)) 1 2 := fun h => by
    obtain ⟨y, hy, hk⟩ := h.first
    obtain ⟨hy1, hy2⟩ := mem_unl.1 hy
    rcases hk with rfl | hk
    · exact hy2 rfl
    · have := t3_tc.1 (tc_unl hk)
      unfold T3 at hy1 this
      simp only [List.mem_cons, Prod.mk.injEq, List.not_mem_nil, or_false] at hy1 this
      omega
  have h2 : TC (unl T3 (1, 3)) 1 3 := .cons (b := 2) (mem_unl.2 ⟨by unfold T3; simp, by decide⟩) (.one (mem_unl.2 ⟨by unfold T3; simp, by decide⟩))
  have h3 : ¬ TC (unl T3 (2, 3)) 2 3 := fun h => by
    obtain ⟨y, hy, hk⟩ := h.first
    obtain ⟨hy1, hy2⟩ := mem_unl.1 hy
    unfold T3 at hy1
    simp only [List.mem_cons, Prod.mk.injEq, List.not_mem_nil, or_false] at hy1
    have : y = 3 := by omega
    subst this
    exact hy2 rfl
  unfold redL
  rw [show T3.filter _ = (T3.filter fun x => decide (x = (1, 3))) from List.filter_congr fun x hx => ?_]
  · unfold T3; decide
  · unfold T3 at hx
    simp only [List.mem_cons, List.not_mem_nil, or_false] at hx
    rcases hx with rfl | rfl | rfl
    · simpa using h1
    · simpa using h2
    · simpa using h3
set_option maxHeartbeats 2000000 in
theorem lawake10_any {w0 w : World} {F : List Fact} {K : (Nat → Prop) → World → Prop} (hS : St w0 w F K) (kt : ∀ D w, K D w → DTab w ∧ D 0) :
    Calls Tryd.prog 13 #[] w fun e w' => e = .returned (.bool true) ∧ St w0 w' F K := by
  have KSt := hS.stable
  go_enter Tryd.func13, Tryd.ntmps13
  go_wp2_with (first
    | (go_at_call 53; refine (hnew_any hS kt).mono ?_; rintro e w_ ⟨p, rfl, hS⟩)
    | ((with_reducible show wpList _ _ _ (⟨some 14, _, _, _, _, _⟩ :: _) _ _); refine st_litown hS rfl _ _ _ _ rfl Tryd.underlying25 #[.int .i64 1, .int .i64 2, .int .i64 2, .int .i64 3, .int .i64 1, .int .i64 3] (by kernel_rfl) 2 rfl (by decide) ?_; clear hS; intro gl w_ hS; replace hS := hS.freeze 0 (by decide) rfl))
  obtain ⟨KX, k1, kp, KS, hS2⟩ : ∃ KX : (Nat → Prop) → World → Prop, (∀ D w, KX D w → K D w) ∧ (∀ D w, KX D w → Sl w D 2 (.slice (some ⟨gl, 0, none⟩) 3 3) 3 (pcells M3)) ∧ Stable KX ∧ St w0 w_ F fun D w => KX D w ∧ IsH w D p [] := ⟨fun D w => K D w ∧ Sl w D 2 (.slice (some ⟨gl, 0, none⟩) 3 3) 3 (pcells M3), fun _ _ h => h.1, fun _ _ h => h.2, KSt.and (stable_sl (by decide)), hS.mono ((KSt.and (stable_sl (by decide))).and stable_isH) fun D w h => ⟨⟨h.1.1, h.2⟩, h.1.2⟩⟩
  clear hS
  have hS := hS2
  clear hS2
  have HNX : Hid (∀ (j : Nat) (x : Nat × Nat) (L' : List (Nat × Nat)), M3[j]? = some x → Part M3 j L' → ∀ (F : List Fact) (K : (Nat → Prop) → World → Prop) (w : World) (r : Value) (z : Int), LinkP w0 F K L' (x.1 : Nat) (x.2 : Nat) r z w → z = 0 ∧ ∃ L'', Part M3 (j + 1) L'' ∧ St w0 w F fun D w => K D w ∧ IsH w D r L'') := Lib.hid fun j x L' hx hP F K w r z h => by
    obtain ⟨h1, L'', h2, h3, h4⟩ := h.next hx hP.2 (by unfold M3; decide) (by unfold M3; simp) m3_acyc
    exact ⟨h1, L'', ⟨h2, h3⟩, h4⟩
  have hP0 : Part M3 0 [] := ⟨HOK.nil, by simp⟩
  go_loopw [1, 16] (fun v i wr => ∃ (j : Nat) (p : Value) (L' : List (Nat × Nat)), i = .int .i64 (j : Nat) ∧ p = v ∧ j ≤ 3 ∧ Hid (Part M3 j L') ∧ St w0 wr F fun D w => KX D w ∧ IsH w D p L') (fun _ i _ => 3 - (intOf i).toNat)
  case atStart => exact ⟨0, p, [], rfl, rfl, by omega, Lib.hid hP0, hS⟩
  case round =>
    clear hS hP0
    obtain ⟨j, p, L', rfl, rfl, hj, HP, hS⟩ := hrel
    by_cases hlj : j < 3
    · obtain ⟨f1, f2⟩ := pcells_at M3 j hlj
      have HNY := Lib.hid (HNX.out j _ L' (getD_at (0, 0) hlj) HP.out)
      have HLL : Hid (L'.length ≤ 900000) := Lib.hid (by have := HP.out.len; have e : M3.length = 3 := rfl; omega)
      generalize M3.getD j (0, 0) = z at *
      obtain ⟨za, zb⟩ := z
      dsimp only at f1 f2 HNY
      have kp2 : ∀ D w, (KX D w ∧ IsH w D p L') → Sl w D 2 (.slice (some ⟨gl, 0, none⟩) 3 3) 3 (pcells M3) := fun D w h => kp D w h.1
      go_wp2_with (first
        | ((with_reducible show wpList _ _ _ (⟨_, .binOp _ _ _ _ _, _, _, _, _⟩ :: _) _ _); (first | ((with_reducible show wpList _ _ _ (⟨_, .binOp .lss _ _ _ _, _, _, _, _⟩ :: _) _ _); refine st_lss rfl _ _ _ _ rfl _ _ _ rfl rfl (fun h_ => ?_) (fun h_ => ?_)) | ((with_reducible show wpList _ _ _ (⟨_, .binOp .leq _ _ _ _, _, _, _, _⟩ :: _) _ _); refine st_leq rfl _ _ _ _ rfl _ _ _ rfl rfl (fun h_ => ?_) (fun h_ => ?_)) | ((with_reducible show wpList _ _ _ (⟨_, .binOp .gtr _ _ _ _, _, _, _, _⟩ :: _) _ _); refine st_gtr rfl _ _ _ _ rfl _ _ _ rfl rfl (fun h_ => ?_) (fun h_ => ?_)) | ((with_reducible show wpList _ _ _ (⟨_, .binOp .geq _ _ _ _, _, _, _, _⟩ :: _) _ _); refine st_geq rfl _ _ _ _ rfl _ _ _ rfl rfl (fun h_ => ?_) (fun h_ => ?_)) | ((with_reducible show wpList _ _ _ (⟨_, .binOp .eql _ _ _ _, _, _, _, _⟩ :: _) _ _); refine st_eql rfl _ _ _ _ rfl _ _ _ rfl rfl (fun h_ => ?_) (fun h_ => ?_)) | ((with_reducible show wpList _ _ _ (⟨_, .binOp .neq _ _ _ _, _, _, _, _⟩ :: _) _ _); refine st_neq rfl _ _ _ _ rfl _ _ _ rfl rfl (fun h_ => ?_) (fun h_ => ?_))) <;> go_prune)
        | ((with_reducible show wpList _ _ _ (⟨_, .indexAddr _ _ _, _, _, _, _⟩ :: _) _ _); refine st_iaddr2 hS rfl _ _ _ rfl _ rfl rfl (by assumption) Tryd.underlying25 (by kernel_rfl) (by first | assumption | omega) _ _ (by assumption) (by assumption) ?_; intro b_ j_ hc0_ hc1_)
        | ((with_reducible show wpList _ _ _ (⟨some 3, _, _, _, _, _⟩ :: _) _ _); refine st_alloc hS rfl _ rfl (by kernel_rfl) ?_; clear hS; intro g4 w_ hS; (try simp only [Act.put, Act.eval, List.set_cons_zero, List.set_cons_succ, List.setIfInBounds_toArray, Array.getD_eq_getD_getElem?, List.getElem?_toArray, List.getElem?_cons_succ, List.getElem?_cons_zero, Option.getD_some, Value.cells] at hS))
        | ((with_reducible show wpList _ _ _ (⟨_, .store _ _ _, _, _, _, _⟩ :: _) _ _); (first | (refine st_store hS 0 rfl _ _ _ rfl _ _ rfl rfl _ _ rfl (by kernel_rfl) (by kernel_rfl) (by kernel_rfl) ?_) | (refine st_store hS 1 rfl _ _ _ rfl _ _ rfl rfl _ _ rfl (by kernel_rfl) (by kernel_rfl) (by kernel_rfl) ?_) | (refine st_store hS 2 rfl _ _ _ rfl _ _ rfl rfl _ _ rfl (by kernel_rfl) (by kernel_rfl) (by kernel_rfl) ?_) | (refine st_store hS 3 rfl _ _ _ rfl _ _ rfl rfl _ _ rfl (by kernel_rfl) (by kernel_rfl) (by kernel_rfl) ?_) | (refine st_cstore hS 0 rfl _ _ _ rfl _ _ _ rfl rfl rfl (by first | (simp; done) | (simp; omega) | exact of_decide_eq_true (by kernel_rfl)) rfl (by first | rfl | assumption) (by kernel_rfl) ?_) | (refine st_cstore hS 1 rfl _ _ _ rfl _ _ _ rfl rfl rfl (by first | (simp; done) | (simp; omega) | exact of_decide_eq_true (by kernel_rfl)) rfl (by first | rfl | assumption) (by kernel_rfl) ?_) | (refine st_cstore hS 2 rfl _ _ _ rfl _ _ _ rfl rfl rfl (by first | (simp; done) | (simp; omega) | exact of_decide_eq_true (by kernel_rfl)) rfl (by first | rfl | assumption) (by kernel_rfl) ?_) | (refine st_cstore hS 3 rfl _ _ _ rfl _ _ _ rfl rfl rfl (by first | (simp; done) | (simp; omega) | exact of_decide_eq_true (by kernel_rfl)) rfl (by first | rfl | assumption) (by kernel_rfl) ?_)); clear hS; intro w_ hS; (try simp only [Act.put, Act.eval, List.set_cons_zero, List.set_cons_succ, List.setIfInBounds_toArray, Array.getD_eq_getD_getElem?, List.getElem?_toArray, List.getElem?_cons_succ, List.getElem?_cons_zero, Option.getD_some, Value.cells] at hS))
        | (go_at_call 44; refine (hlink_any p L' (za : Nat) (zb : Nat) HP.out.1 HLL.out hS (fun D w h => h.2) (fun D w h => kt D w (k1 D w h.1))).mono ?_; rintro e w_ ⟨r, z, rfl, hP⟩; obtain ⟨rfl, L'', hP2, hS⟩ := HNY.out _ _ _ _ _ hP; replace hP2 := Lib.hid hP2; clear hP; obtain ⟨qr, _, rfl, -⟩ := hS.ro.2)
        | ((with_reducible show wpList _ _ _ (⟨_, .load _ _, _, _, _, _⟩ :: _) _ _); first | (refine st_cell hS 0 rfl _ _ rfl _ _ rfl _ _ rfl (by decide +kernel) _ (by first | assumption | rfl) ?_) | (refine st_cell hS 1 rfl _ _ rfl _ _ rfl _ _ rfl (by decide +kernel) _ (by first | assumption | rfl) ?_) | (refine st_cell hS 2 rfl _ _ rfl _ _ rfl _ _ rfl (by decide +kernel) _ (by first | assumption | rfl) ?_) | (refine st_cell hS 3 rfl _ _ rfl _ _ rfl _ _ rfl (by decide +kernel) _ (by first | assumption | rfl) ?_) | (refine st_cell hS 4 rfl _ _ rfl _ _ rfl _ _ rfl (by decide +kernel) _ (by first | assumption | rfl) ?_) | (refine st_cell hS 5 rfl _ _ rfl _ _ rfl _ _ rfl (by decide +kernel) _ (by first | assumption | rfl) ?_) | (refine st_cell hS 6 rfl _ _ rfl _ _ rfl _ _ rfl (by decide +kernel) _ (by first | assumption | rfl) ?_) | (refine st_cell hS 7 rfl _ _ rfl _ _ rfl _ _ rfl (by decide +kernel) _ (by first | assumption | rfl) ?_)))
      exact ⟨⟨j + 1, _, L'', by go_num, rfl, hlj, hP2, (hS.sub (List.sublist_cons_self _ _)).mono (KS.and stable_isH) fun D w h => ⟨h.1.1, h.2⟩⟩, by simp [intOf]; omega⟩
    · obtain rfl : j = 3 := by omega
      rw [t3_part HP.out] at hS
      obtain ⟨KY, ky1, ky2, hS2⟩ : ∃ KY : (Nat → Prop) → World → Prop, (∀ D w, KY D w → K D w) ∧ (∀ D w, KY D w → IsH w D p T3) ∧ St w0 wr F KY := ⟨_, fun D w h => k1 D w h.1, fun D w h => h.2, hS⟩
      clear hS
      have hS := hS2
      clear hS2 HNX HP k1 kp KS
      have HCH := Lib.hid (fun l c (h : ChainP T3 1 3 l c) => t3_chain h)
      have HLK := Lib.hid (fun (w0 w : World) (F : List Fact) (K : (Nat → Prop) → World → Prop) r z (h : LinkP w0 F K T3 3 1 r z w) => t3_link h)
      have H3 := Lib.hid t3_hok
      have HJ := Lib.hid (show (if (1 : Int) ≤ 1 ∧ (1 : Int) ≤ 63 then junM T3 (1 : Int).toNat else 0) = 14 by rw [if_pos (by omega)]; exact t3_jun)
      have HO := Lib.hid t3_of
      have HR := Lib.hid t3_red
      have HL3 : Hid (T3.length ≤ 900000) := Lib.hid (by decide)
      go_wp2_with (first
        | ((with_reducible show wpList _ _ _ (⟨_, .binOp _ _ _ _ _, _, _, _, _⟩ :: _) _ _); (first | ((with_reducible show wpList _ _ _ (⟨_, .binOp .lss _ _ _ _, _, _, _, _⟩ :: _) _ _); refine st_lss rfl _ _ _ _ rfl _ _ _ rfl rfl (fun h_ => ?_) (fun h_ => ?_)) | ((with_reducible show wpList _ _ _ (⟨_, .binOp .leq _ _ _ _, _, _, _, _⟩ :: _) _ _); refine st_leq rfl _ _ _ _ rfl _ _ _ rfl rfl (fun h_ => ?_) (fun h_ => ?_)) | ((with_reducible show wpList _ _ _ (⟨_, .binOp .gtr _ _ _ _, _, _, _, _⟩ :: _) _ _); refine st_gtr rfl _ _ _ _ rfl _ _ _ rfl rfl (fun h_ => ?_) (fun h_ => ?_)) | ((with_reducible show wpList _ _ _ (⟨_, .binOp .geq _ _ _ _, _, _, _, _⟩ :: _) _ _); refine st_geq rfl _ _ _ _ rfl _ _ _ rfl rfl (fun h_ => ?_) (fun h_ => ?_)) | ((with_reducible show wpList _ _ _ (⟨_, .binOp .eql _ _ _ _, _, _, _, _⟩ :: _) _ _); refine st_eql rfl _ _ _ _ rfl _ _ _ rfl rfl (fun h_ => ?_) (fun h_ => ?_)) | ((with_reducible show wpList _ _ _ (⟨_, .binOp .neq _ _ _ _, _, _, _, _⟩ :: _) _ _); refine st_neq rfl _ _ _ _ rfl _ _ _ rfl rfl (fun h_ => ?_) (fun h_ => ?_))) <;> go_prune)
        | (go_at_call 17; refine (hchain_any (ky2 _ _ hS.ro) H3.out HL3.out 1 3).mono ?_; rintro e w_ ⟨v, c, l, rfl, hp, hll, hs⟩; obtain ⟨rfl, rfl⟩ := HCH.out _ _ hp; replace hS := hS.new hs.below (.own v 3 1 2 (ints (natInts [1, 3]))) (hs.own 0 rfl); clear hs hp hll)
        | (go_at_call 44; refine (hlink_any p T3 3 1 H3.out HL3.out hS ky2 (fun D w h => kt D w (ky1 D w h))).mono ?_; rintro e w_ ⟨r, z, rfl, hP⟩; obtain ⟨rfl, rfl, hS⟩ := HLK.out _ _ _ _ _ _ hP; clear hP)
        | (go_at_call 21; refine (hjun_any (ky2 _ _ hS.ro) H3.out 1).mono ?_; rintro r_ w_ ⟨_, rfl, hj1, hb_⟩; rw [HJ.out] at hj1; replace hS := hS.ret2 hb_ stable_set hj1; clear hb_ hj1)
        | ((with_reducible show wpList _ _ _ (⟨some 49, _, _, _, _, _⟩ :: _) _ _); refine st_litown hS rfl _ _ _ _ rfl Tryd.underlying31 #[.int .i64 1, .int .i64 2, .int .i64 3] (by kernel_rfl) 1 rfl (by decide) ?_; clear hS; intro g49 w_ hS)
        | (go_at_call 46; refine (of_any _ [1, 2, 3] _ _ (Sl.of_own (hS.own 0 rfl))).mono ?_; rintro r_ w_ ⟨_, rfl, hO1, hb_⟩; rw [HO.out] at hO1; replace hS := hS.ret hb_ stable_set hO1; clear hb_ hO1)
        | (go_at_call 22; refine (equal_any _ _ 14 14 _ _ _ hS.ro.1.2 hS.ro.2).mono ?_; rintro r_ w_ ⟨_, rfl, rfl, hb_⟩; rw [show ((14 : Nat) == 14) = true from rfl]; replace hS := hS.ext hb_; clear hb_)
        | ((with_reducible show wpList _ _ _ (⟨some 54, _, _, _, _, _⟩ :: _) _ _); refine st_litw hS rfl _ _ _ _ rfl Tryd.underlying31 #[.int .i64 1, .int .i64 3] (by kernel_rfl) 1 rfl (by decide) ?_; clear hS; intro g54 w_ hS)
        | (go_at_call 19; refine (sleq_any _ _ [1, 3] [1, 3] _ _ _ (Sl.of_own (hS.own 2 rfl)) (Sl.of_own (hS.own 0 rfl))).mono ?_; rintro r_ w_ ⟨_, rfl, rfl, hb_⟩; rw [show (([1, 3] : List Int) == [1, 3]) = true from rfl]; replace hS := hS.ext hb_; clear hb_)
        | (go_at_call 32; refine (hred_any (ky2 _ _ hS.ro.1.1) (kt _ _ (ky1 _ _ hS.ro.1.1)).1 H3.out HL3.out).mono ?_; rintro e w_ ⟨v2, rfl, hs⟩; rw [HR.out] at hs; replace hS := hS.new hs.below (.own v2 50 2 1 (pcells [(1, 3)])) (hs.own 0 rfl); clear hs)
        | ((with_reducible show wpList _ _ _ (⟨some 64, _, _, _, _, _⟩ :: _) _ _); refine st_litw hS rfl _ _ _ _ rfl Tryd.underlying25 #[.int .i64 1, .int .i64 3] (by kernel_rfl) 2 rfl (by decide) ?_; clear hS; intro g64 w_ hS)
        | (go_at_call 30; refine (peq_any (L := [(1, 3)]) (M := [(1, 3)]) (Sl.of_own (hS.own 1 rfl)) (Sl.of_own (hS.own 0 rfl)) (by decide)).mono ?_; rintro r_ w_ ⟨_, rfl, rfl, hb_⟩; rw [show decide (([(1, 3)] : List (Nat × Nat)) = [(1, 3)]) = true from rfl]; replace hS := hS.ext hb_; clear hb_))
      go_ret
      exact ⟨rfl, (hS.sub (.cons _ (.cons _ (.cons _ (.cons _ (.cons _ (List.Sublist.refl _))))))).mono KSt fun D w h => ky1 D w h.1.1⟩
end Go.Proofs.YtmlkgaiphpimiaaDoor
namespace Go.Proofs.YtmlkgaiphpimiaaDoor
open Go.RowKit
attribute [local go_sem ↓] Go.wp_at_zero Go.wp_at_succ
set_option maxRecDepth 20000
set_option exponentiation.threshold 5000

/-- a change: a link is taken away, or made -/
structure OpD where
  away : Bool
  a : Int
  b : Int
def OpD.ok (x : OpD) : Prop := (-128 ≤ x.a ∧ x.a ≤ 127) ∧ -128 ≤ x.b ∧ x.b ≤ 127
def ocells (l : List OpD) : List Value := l.flatMap fun x => [.bool x.away, .int .i8 x.a, .int .i8 x.b]
theorem ocells_at : ∀ (l : List OpD) (k : Nat), k < l.length → ∃ x, l[k]? = some x ∧ (ocells l)[k * 3 + 0]? = some (.bool x.away) ∧ (ocells l)[k * 3 + 1]? = some (.int .i8 x.a) ∧ (ocells l)[k * 3 + 2]? = some (.int .i8 x.b)
  | x :: l, 0, _ => ⟨x, rfl, rfl, rfl, rfl⟩
  | x :: l, k + 1, h => by
    obtain ⟨y, h1, h2, h3, h4⟩ := ocells_at l k (by simpa using h)
    refine ⟨y, by simpa using h1, ?_⟩
    have e : ocells (x :: l) = .bool x.away :: .int .i8 x.a :: .int .i8 x.b :: ocells l := rfl
    rw [e, show (k + 1) * 3 + 0 = k * 3 + 0 + 1 + 1 + 1 by omega, show (k + 1) * 3 + 1 = k * 3 + 1 + 1 + 1 + 1 by omega, show (k + 1) * 3 + 2 = k * 3 + 2 + 1 + 1 + 1 by omega]
    simp only [List.getElem?_cons_succ]
    exact ⟨h2, h3, h4⟩
theorem RUnlinkP.none1 {w0 w' : World} {pv : Value} {L : List (Nat × Nat)} {a b : Int} {e : Ending} (h : RUnlinkP w0 pv L a b e w') (hn : ¬ twoR a b) : e = .returned (.tuple #[pv, .int .i64 1]) ∧ Below w0.heap.size w0 w' := by
  rcases h with ⟨_, h⟩ | ⟨x, y, rfl, rfl, h1, h2, h3, _⟩
  · exact h
  · exact absurd ⟨⟨by omega, by omega⟩, ⟨by omega, by omega⟩, by omega⟩ hn
theorem RUnlinkP.out {w0 w' : World} {pv : Value} {L : List (Nat × Nat)} {x y : Nat} {e : Ending} (h : RUnlinkP w0 pv L (x : Nat) (y : Nat) e w') (ht : twoR (x : Nat) (y : Nat)) (hn : (x, y) ∉ L) : e = .returned (.tuple #[pv, .int .i64 4]) ∧ Below w0.heap.size w0 w' := by
  rcases h with ⟨h, _⟩ | ⟨a, b, h1, h2, _, _, _, h⟩
  · exact absurd ht h
  · obtain rfl : x = a := by omega
    obtain rfl : y = b := by omega
    rcases h with ⟨_, h⟩ | ⟨h, _⟩
    · exact h
    · exact absurd h hn
theorem RLinkP.none1 {w0 w' : World} {pv : Value} {L : List (Nat × Nat)} {a b : Int} {e : Ending} (h : RLinkP w0 pv L a b e w') (hn : ¬ twoR a b) : e = .returned (.tuple #[pv, .int .i64 1]) ∧ Below w0.heap.size w0 w' := by
  rcases h with ⟨_, h⟩ | ⟨x, y, rfl, rfl, h1, h2, h3, _⟩
  · exact h
  · exact absurd ⟨⟨by omega, by omega⟩, ⟨by omega, by omega⟩, by omega⟩ hn
theorem RLinkP.some1 {w0 w' : World} {pv : Value} {L : List (Nat × Nat)} {x y : Nat} {e : Ending} (h : RLinkP w0 pv L (x : Nat) (y : Nat) e w') (ht : twoR (x : Nat) (y : Nat)) :
    ((x, y) ∈ L ∧ e = .returned (.tuple #[pv, .int .i64 5]) ∧ Below w0.heap.size w0 w') ∨ ((x, y) ∉ L ∧ TC L y x ∧ e = .returned (.tuple #[pv, .int .i64 16]) ∧ Below w0.heap.size w0 w') ∨
     ((x, y) ∉ L ∧ ¬ TC L y x ∧ ∃ v, e = .returned (.tuple #[v, .int .i64 0]) ∧ St w0 w' [.own v 50 2 (L.length + 1) (pcells (ins L (x, y)))] fun _ _ => True) := by
  rcases h with ⟨h, _⟩ | ⟨a, b, h1, h2, _, _, _, h⟩
  · exact absurd ht h
  · obtain rfl : x = a := by omega
    obtain rfl : y = b := by omega
    exact h
theorem acyc_app {L : List (Nat × Nat)} (hA : Acyc L) {x y : Nat} (hne : x ≠ y) : Acyc (L ++ [(x, y)]) ↔ ¬ TC L y x := by
  have h := acyc_ins (L' := L ++ [(x, y)]) (a := x) (b := y) hA fun u => by rw [List.mem_append, List.mem_singleton, Or.comm]
  rw [h]
  exact ⟨fun h k => h (.inr k), fun h k => h (k.resolve_left fun e => hne e.symm)⟩
/-- what two calls of Link, the program's and the specification's, leave: the same error, or the same links -/
theorem link_both {w0 w w1 : World} {F : List Fact} {K : (Nat → Prop) → World → Prop} {L : List (Nat × Nat)} {a b : Int} {r pv : Value} {z : Int} {e : Ending} (hH : HOK L) (h : LinkP w0 F K L a b r z w) (k : RLinkP w pv L a b e w1) :
    (r = .pointer none ∧ z ≠ 0 ∧ e = .returned (.tuple #[pv, .int .i64 z]) ∧ St w0 w1 F K) ∨
    (z = 0 ∧ ∃ v L', e = .returned (.tuple #[v, .int .i64 0]) ∧ HOK L' ∧ L'.length ≤ L.length + 1 ∧ St w0 w1 F fun D w => (K D w ∧ IsH w D r L') ∧ Sl w D 2 v L'.length (pcells L')) := by
  rcases h with ⟨hn, rfl, rfl, hS⟩ | ⟨x, y, rfl, rfl, hx, hy, hne, h⟩
  · obtain ⟨h1, h2⟩ := k.none1 hn
    exact .inl ⟨rfl, by decide, h1, hS.ext h2⟩
  · have ht : twoR (x : Nat) (y : Nat) := ⟨⟨by omega, by omega⟩, ⟨by omega, by omega⟩, by omega⟩
    rcases k.some1 ht with ⟨k1, k2, k3⟩ | ⟨k1, k2, k3, k4⟩ | ⟨k1, k2, v, k3, k4⟩ <;> rcases h with ⟨h1, h2, h3, h4⟩ | ⟨h1, h2, h3, h4, h5⟩ | ⟨h1, h2, L', h3, h4, h5⟩
    · exact .inl ⟨h2, by omega, by rw [h3]; exact k2, h4.ext k3⟩
    · exact absurd k1 h1
    · exact absurd k1 h1
    · exact absurd h1 k1
    · exact .inl ⟨h3, by omega, by rw [h4]; exact k3, h5.ext k4⟩
    · exact absurd k2 ((acyc_app hH.acyc hne).1 (h3.acyc.sub fun u hu => (h4 u).2 hu))
    · exact absurd h1 k1
    · exact absurd ((acyc_app hH.acyc hne).2 k2) h2
    · have e1 : L' = ins L (x, y) := Asc.uniq h3.asc (ins_asc hH.asc k1) fun u => by rw [h4, mem_ins, List.mem_append, List.mem_singleton, Or.comm]
      subst e1
      refine .inr ⟨h2, v, _, k3, h3, by rw [ins_len]; omega, ?_⟩
      have hn := (h5.new k4.below (.own v 50 2 (L.length + 1) (pcells (ins L (x, y)))) (k4.own 0 rfl)).freeze 0 (by decide) rfl
      rw [ins_len]
      exact hn
theorem unlink_both {w0 w w1 : World} {F : List Fact} {K : (Nat → Prop) → World → Prop} {L : List (Nat × Nat)} {a b : Int} {r pv : Value} {z : Int} {e : Ending} (hH : HOK L) (h : UnlinkP w0 F K L a b r z w) (k : RUnlinkP w pv L a b e w1) :
    (r = .pointer none ∧ z ≠ 0 ∧ e = .returned (.tuple #[pv, .int .i64 z]) ∧ St w0 w1 F K) ∨
    (z = 0 ∧ ∃ v L', e = .returned (.tuple #[v, .int .i64 0]) ∧ HOK L' ∧ L'.length ≤ L.length + 1 ∧ St w0 w1 F fun D w => (K D w ∧ IsH w D r L') ∧ Sl w D 2 v L'.length (pcells L')) := by
  rcases h with ⟨hn, rfl, rfl, hS⟩ | ⟨x, y, rfl, rfl, hx, hy, hne, h⟩
  · obtain ⟨h1, h2⟩ := k.none1 hn
    exact .inl ⟨rfl, by decide, h1, hS.ext h2⟩
  · have ht : twoR (x : Nat) (y : Nat) := ⟨⟨by omega, by omega⟩, ⟨by omega, by omega⟩, by omega⟩
    rcases h with ⟨h1, h2, h3, h4⟩ | ⟨h1, h2, h3⟩
    · obtain ⟨k1, k2⟩ := k.out ht h1
      exact .inl ⟨h2, by omega, by rw [h3]; exact k1, h4.ext k2⟩
    · obtain ⟨v, k1, k2⟩ := RUnlinkP.mem (x := (x, y)) k h1 ⟨hx, hy⟩ hne
      refine .inr ⟨h2, v, _, k1, hH.unl (x, y), by have := unl_len2 L (x, y); omega, ?_⟩
      exact (h3.new k2.below (.own v 50 2 (unl L (x, y)).length (pcells (unl L (x, y)))) (k2.own 0 rfl)).freeze 0 (by decide) rfl
theorem LinkP.known {w0 w : World} {F : List Fact} {K : (Nat → Prop) → World → Prop} {L : List (Nat × Nat)} {a b : Int} {r : Value} {z : Int} (h : LinkP w0 F K L a b r z w) : K (Free F) w := by
  rcases h with ⟨_, _, _, hS⟩ | ⟨x, y, _, _, _, _, _, ⟨_, _, _, hS⟩ | ⟨_, _, _, _, hS⟩ | ⟨_, _, L', _, _, hS⟩⟩
  · exact hS.ro
  · exact hS.ro
  · exact hS.ro
  · exact hS.ro.1
theorem UnlinkP.known {w0 w : World} {F : List Fact} {K : (Nat → Prop) → World → Prop} {L : List (Nat × Nat)} {a b : Int} {r : Value} {z : Int} (h : UnlinkP w0 F K L a b r z w) : K (Free F) w := by
  rcases h with ⟨_, _, _, hS⟩ | ⟨x, y, _, _, _, _, _, ⟨_, _, _, hS⟩ | ⟨_, _, hS⟩⟩
  · exact hS.ro
  · exact hS.ro
  · exact hS.ro.1
theorem rng3 {w : World} {g i : Nat} {a b c : Value} (h0 : w.cell? ⟨g, i + 0, none⟩ = some a) (h1 : w.cell? ⟨g, i + 1, none⟩ = some b) (h2 : w.cell? ⟨g, i + 2, none⟩ = some c) : w.rangeAt g i [a, b, c] := fun j v hj => by
  match j, hj with
  | 0, hj => obtain rfl := Option.some.inj (show some _ = some v from hj); exact h0
  | 1, hj => obtain rfl := Option.some.inj (show some _ = some v from hj); exact h1
  | 2, hj => obtain rfl := Option.some.inj (show some _ = some v from hj); exact h2
  | j + 3, hj => simp at hj
theorem run_conv8 {w : World} {n : Int} (h : -128 ≤ n ∧ n ≤ 127) : (convert 85 3 (.int .i8 n)).run Tryd.prog w = .ok (.int .i64 n) w := by
  go_simp
  exact IntWalk.i64_in _ (by omega)
set_option maxHeartbeats 2000000 in
theorem lplay_any {w0 w : World} {F : List Fact} {K : (Nat → Prop) → World → Prop} (pv : Value) (ops : List OpD) (hO : ∀ x ∈ ops, x.ok) (hS : St w0 w F K) (kt : ∀ D w, K D w → DTab w ∧ D 0) (kp : ∀ D w, K D w → Sl w D 3 pv ops.length (ocells ops)) :
    Calls Tryd.prog 29 #[pv] w fun e w' => ∃ (p v : Value) (L : List (Nat × Nat)), e = .returned (.tuple #[p, v]) ∧ HOK L ∧ L.length ≤ 24 ∧ St w0 w' F fun D w => (K D w ∧ Sl w D 2 v L.length (pcells L)) ∧ IsH w D p L := by
  obtain ⟨A, c, rfl, hc1, _⟩ := (kp _ _ hS.ro).shape
  have KSt := hS.stable
  obtain ⟨m, hm⟩ : ∃ m, m = min ops.length 24 := ⟨_, rfl⟩
  have hmin : min ((ops.length : Nat) : Int) 24 = (m : Int) := by omega
  have hm1 : m ≤ ops.length ∧ m ≤ 24 ∧ m ≤ c := by omega
  have HOK0 := Lib.hid hO
  clear hm hO
  go_enter Tryd.func29, Tryd.ntmps29
  go_wp2_with (first
    | (go_at_call 53; refine (hnew_any hS kt).mono ?_; rintro e w_ ⟨p, rfl, hS⟩)
    | ((with_reducible show wpList _ _ _ (⟨some 19, _, _, _, _, _⟩ :: _) _ _); refine BigFrame.wpList_want rfl fun _ hK => opw_slh rfl Tryd.underlying47 ⟨3, by kernel_rfl⟩ rfl rfl hm1.2.2 (hK _ _ ?_)))
  obtain ⟨KX, kx, hS2⟩ : ∃ KX : (Nat → Prop) → World → Prop, (∀ D w, KX D w → (K D w ∧ Sl w D 2 (.slice none 0 0) 0 (pcells [])) ∧ IsH w D p []) ∧ St w0 w_ F KX := ⟨fun D w => (K D w ∧ Sl w D 2 (.slice none 0 0) 0 (pcells [])) ∧ IsH w D p [], fun _ _ h => h, hS.mono ((KSt.and (stable_sl (by decide))).and stable_isH) fun D w h => ⟨⟨h.1, Sl.none_⟩, h.2⟩⟩
  clear hS
  have hS := hS2
  clear hS2
  have kq : ∀ D w, K D w → Sl w D 3 (.slice A m c) m ((ocells ops).take (m * 3)) := fun D w h => slc_take (kp D w h) hm1.1
  go_loopw [4, 5, 21] (fun hv wv i wr => ∃ (j : Nat) (p pv : Value) (L : List (Nat × Nat)) (KX : (Nat → Prop) → World → Prop), i = .int .i64 (j : Nat) ∧ p = hv ∧ pv = wv ∧ j ≤ m ∧ L.length ≤ j ∧ Hid (HOK L) ∧ (∀ D w, KX D w → (K D w ∧ Sl w D 2 pv L.length (pcells L)) ∧ IsH w D p L) ∧ St w0 wr F KX) (fun _ _ i _ => m - (intOf i).toNat)
  case atStart => exact ⟨0, p, _, [], KX, rfl, rfl, rfl, by omega, by simp, Lib.hid HOK.nil, kx, hS⟩
  case round =>
    clear hS kx KX
    obtain ⟨j, p, pv, L, KX, rfl, rfl, rfl, hj, hLj, HO, kk, hS⟩ := hrel
    have hlL : L.length ≤ 900000 := by omega
    by_cases hlj : j < m
    · obtain ⟨x, hx, f0, f1, f2⟩ := ocells_at ops j (by omega)
      have hxo := HOK0.out x (List.mem_of_getElem? hx)
      have g0 : ((ocells ops).take (m * 3))[j * 3 + 0]? = some (.bool x.away) := by rw [List.getElem?_take, if_pos (by omega)]; exact f0
      have g1 : ((ocells ops).take (m * 3))[j * 3 + 1]? = some (.int .i8 x.a) := by rw [List.getElem?_take, if_pos (by omega)]; exact f1
      have g2 : ((ocells ops).take (m * 3))[j * 3 + 2]? = some (.int .i8 x.b) := by rw [List.getElem?_take, if_pos (by omega)]; exact f2
      have KSX := hS.stable
      obtain ⟨aw, xa, xb⟩ := x
      obtain ⟨hxa, hxb⟩ := hxo
      dsimp only at g0 g1 g2 hxa hxb
      have G0 := Lib.hid g0
      have G1 := Lib.hid g1
      have G2 := Lib.hid g2
      clear hx f0 f1 f2 g0 g1 g2
      go_wp2_with (first
        | ((with_reducible show wpList _ _ _ (⟨_, .binOp _ _ _ _ _, _, _, _, _⟩ :: _) _ _); (first | ((with_reducible show wpList _ _ _ (⟨_, .binOp .lss _ _ _ _, _, _, _, _⟩ :: _) _ _); refine st_lss rfl _ _ _ _ rfl _ _ _ rfl rfl (fun h_ => ?_) (fun h_ => ?_)) | ((with_reducible show wpList _ _ _ (⟨_, .binOp .leq _ _ _ _, _, _, _, _⟩ :: _) _ _); refine st_leq rfl _ _ _ _ rfl _ _ _ rfl rfl (fun h_ => ?_) (fun h_ => ?_)) | ((with_reducible show wpList _ _ _ (⟨_, .binOp .gtr _ _ _ _, _, _, _, _⟩ :: _) _ _); refine st_gtr rfl _ _ _ _ rfl _ _ _ rfl rfl (fun h_ => ?_) (fun h_ => ?_)) | ((with_reducible show wpList _ _ _ (⟨_, .binOp .geq _ _ _ _, _, _, _, _⟩ :: _) _ _); refine st_geq rfl _ _ _ _ rfl _ _ _ rfl rfl (fun h_ => ?_) (fun h_ => ?_)) | ((with_reducible show wpList _ _ _ (⟨_, .binOp .eql _ _ _ _, _, _, _, _⟩ :: _) _ _); refine st_eql rfl _ _ _ _ rfl _ _ _ rfl rfl (fun h_ => ?_) (fun h_ => ?_)) | ((with_reducible show wpList _ _ _ (⟨_, .binOp .neq _ _ _ _, _, _, _, _⟩ :: _) _ _); refine st_neq rfl _ _ _ _ rfl _ _ _ rfl rfl (fun h_ => ?_) (fun h_ => ?_))) <;> go_prune)
        | ((with_reducible show wpList _ _ _ (⟨some 23, _, _, _, _, _⟩ :: _) _ _); refine st_iaddr rfl _ _ _ rfl _ rfl rfl (kq _ _ (kk _ _ hS.ro).1.1) Tryd.underlying47 (by kernel_rfl) hlj ?_; intro b_ j_ _ _ hc_)
        | ((with_reducible show wpList _ _ _ (⟨some 24, _, _, _, _, _⟩ :: _) _ _); refine BigFrame.wpList_want rfl fun _ hK => opw_mid (cs := [.bool aw, .int .i8 xa, .int .i8 xb]) rfl rfl (rng3 (hc_ 0 _ G0.out) (hc_ 1 _ G1.out) (hc_ 2 _ G2.out)) Tryd.underlying87 rfl (by kernel_rfl) (hK _ _ ?_))
        | ((with_reducible show wpList _ _ _ (⟨some 7, _, _, _, _, _⟩ :: _) _ _); refine st_alloc hS rfl _ rfl (by kernel_rfl) ?_; clear hS; intro g7 w_ hS; (try simp only [Act.put, Act.eval, List.set_cons_zero, List.set_cons_succ, List.setIfInBounds_toArray, Array.getD_eq_getD_getElem?, List.getElem?_toArray, List.getElem?_cons_succ, List.getElem?_cons_zero, Option.getD_some, Value.cells] at hS))
        | ((with_reducible show wpList _ _ _ (⟨_, .store _ _ _, _, _, _, _⟩ :: _) _ _); (first | (refine st_store hS 0 rfl _ _ _ rfl _ _ rfl rfl _ _ rfl (by kernel_rfl) (by kernel_rfl) (by kernel_rfl) ?_) | (refine st_store hS 1 rfl _ _ _ rfl _ _ rfl rfl _ _ rfl (by kernel_rfl) (by kernel_rfl) (by kernel_rfl) ?_) | (refine st_store hS 2 rfl _ _ _ rfl _ _ rfl rfl _ _ rfl (by kernel_rfl) (by kernel_rfl) (by kernel_rfl) ?_) | (refine st_store hS 3 rfl _ _ _ rfl _ _ rfl rfl _ _ rfl (by kernel_rfl) (by kernel_rfl) (by kernel_rfl) ?_) | (refine st_cstore hS 0 rfl _ _ _ rfl _ _ _ rfl rfl rfl (by first | (simp; done) | (simp; omega) | exact of_decide_eq_true (by kernel_rfl)) rfl (by first | rfl | assumption) (by kernel_rfl) ?_) | (refine st_cstore hS 1 rfl _ _ _ rfl _ _ _ rfl rfl rfl (by first | (simp; done) | (simp; omega) | exact of_decide_eq_true (by kernel_rfl)) rfl (by first | rfl | assumption) (by kernel_rfl) ?_) | (refine st_cstore hS 2 rfl _ _ _ rfl _ _ _ rfl rfl rfl (by first | (simp; done) | (simp; omega) | exact of_decide_eq_true (by kernel_rfl)) rfl (by first | rfl | assumption) (by kernel_rfl) ?_) | (refine st_cstore hS 3 rfl _ _ _ rfl _ _ _ rfl rfl rfl (by first | (simp; done) | (simp; omega) | exact of_decide_eq_true (by kernel_rfl)) rfl (by first | rfl | assumption) (by kernel_rfl) ?_)); clear hS; intro w_ hS; (try simp only [Act.put, Act.eval, List.set_cons_zero, List.set_cons_succ, List.setIfInBounds_toArray, Array.getD_eq_getD_getElem?, List.getElem?_toArray, List.getElem?_cons_succ, List.getElem?_cons_zero, Option.getD_some, Value.cells] at hS)))
      refine wp_region_typed (fun i__ v w => match i__ with
        | 0 => v = .pointer (some ⟨g7, 1, none⟩)
        | 1 => v = .int .i8 xa
        | 2 => v = .int .i64 xa
        | 3 => v = .pointer (some ⟨g7, 2, none⟩)
        | 4 => v = .int .i8 xb
        | 5 => v = .int .i64 xb
        | 6 => v = .int .i64 xa
        | 7 => v = .int .i64 xb
        | _ => True) (by kernel_rfl) (by kernel_rfl) ?mono ⟨?r0, ?r1, ?r2, ?r3, ?r4, ?r5, ?r6, ?r7, trivial⟩ ?post
      case mono =>
        intro i v w w' h hb
        match i, h with
        | 0, h => exact h
        | 1, h => exact h
        | 2, h => exact h
        | 3, h => exact h
        | 4, h => exact h
        | 5, h => exact h
        | 6, h => exact h
        | 7, h => exact h
        | _ + 8, h => trivial
      case r0 =>
        refine trule fun b__ w hW hold hpre => ⟨fun hwant K hK => ?_, fun hwant => ?_⟩
        · clear hwant
          have e7 : b__.eval (.tmp 7) = .pointer (some ⟨g7, 0, none⟩) := (hold 7 (by kernel_rfl)).trans rfl
          exact opw_faddr rfl e7 (by kernel_rfl) (hK _ _ rfl (Below.refl _ _))
        · rw [want_none rfl] at hwant; cases hwant
      case r1 =>
        refine trule fun b__ w hW hold hpre => ⟨fun hwant K hK => ?_, fun hwant => ?_⟩
        · clear hwant
          have e25 : b__.eval (.tmp 25) = .pointer (some ⟨g7, 1, none⟩) := hpre ⟨0, _⟩ (Array.mem_of_getElem? (i := 0) rfl) rfl _ _ rfl rfl
          exact opw_cell rfl e25 (by kernel_rfl) ((hS.ext (undrew hW)).shut 0 rfl 1 rfl) (hK _ _ rfl (Below.refl _ _))
        · rw [want_none rfl] at hwant; cases hwant
      case r2 =>
        refine trule fun b__ w hW hold hpre => ⟨fun hwant K hK => ?_, fun hwant => ?_⟩
        · clear hwant
          have e26 : b__.eval (.tmp 26) = .int .i8 xa := hpre ⟨1, _⟩ (Array.mem_of_getElem? (i := 0) rfl) rfl _ _ rfl rfl
          exact opw_conv (vx := .int .i8 xa) (v := .int .i64 xa) rfl e26 (run_conv8 hxa) (hK _ _ rfl (Below.refl _ _))
        · rw [want_none rfl] at hwant; cases hwant
      case r3 =>
        refine trule fun b__ w hW hold hpre => ⟨fun hwant K hK => ?_, fun hwant => ?_⟩
        · clear hwant
          have e7 : b__.eval (.tmp 7) = .pointer (some ⟨g7, 0, none⟩) := (hold 7 (by kernel_rfl)).trans rfl
          exact opw_faddr rfl e7 (by kernel_rfl) (hK _ _ rfl (Below.refl _ _))
        · rw [want_none rfl] at hwant; cases hwant
      case r4 =>
        refine trule fun b__ w hW hold hpre => ⟨fun hwant K hK => ?_, fun hwant => ?_⟩
        · clear hwant
          have e28 : b__.eval (.tmp 28) = .pointer (some ⟨g7, 2, none⟩) := hpre ⟨3, _⟩ (Array.mem_of_getElem? (i := 0) rfl) rfl _ _ rfl rfl
          exact opw_cell rfl e28 (by kernel_rfl) ((hS.ext (undrew hW)).shut 0 rfl 2 rfl) (hK _ _ rfl (Below.refl _ _))
        · rw [want_none rfl] at hwant; cases hwant
      case r5 =>
        refine trule fun b__ w hW hold hpre => ⟨fun hwant K hK => ?_, fun hwant => ?_⟩
        · clear hwant
          have e29 : b__.eval (.tmp 29) = .int .i8 xb := hpre ⟨4, _⟩ (Array.mem_of_getElem? (i := 0) rfl) rfl _ _ rfl rfl
          exact opw_conv (vx := .int .i8 xb) (v := .int .i64 xb) rfl e29 (run_conv8 hxb) (hK _ _ rfl (Below.refl _ _))
        · rw [want_none rfl] at hwant; cases hwant
      case r6 =>
        refine trule fun b__ w hW hold hpre => ⟨fun hwant K hK => ?_, fun hwant => ?_⟩
        · clear hwant
          have e27 : b__.eval (.tmp 27) = .int .i64 xa := hpre ⟨2, _⟩ (Array.mem_of_getElem? (i := 0) rfl) rfl _ _ rfl rfl
          exact opw_assign rfl e27 (hK _ _ rfl (Below.refl _ _))
        · rw [want_none rfl] at hwant; cases hwant
      case r7 =>
        refine trule fun b__ w hW hold hpre => ⟨fun hwant K hK => ?_, fun hwant => ?_⟩
        · clear hwant
          have e30 : b__.eval (.tmp 30) = .int .i64 xb := hpre ⟨5, _⟩ (Array.mem_of_getElem? (i := 0) rfl) rfl _ _ rfl rfl
          exact opw_assign rfl e30 (hK _ _ rfl (Below.refl _ _))
        · rw [want_none rfl] at hwant; cases hwant
      case post =>
        intro b__ wz hW hdf hsz hold hT
        have e25 : b__.eval (.tmp 25) = .pointer (some ⟨g7, 1, none⟩) := hT 0 _ 25 rfl rfl
        have e26 : b__.eval (.tmp 26) = .int .i8 xa := hT 1 _ 26 rfl rfl
        have e27 : b__.eval (.tmp 27) = .int .i64 xa := hT 2 _ 27 rfl rfl
        have e28 : b__.eval (.tmp 28) = .pointer (some ⟨g7, 2, none⟩) := hT 3 _ 28 rfl rfl
        have e29 : b__.eval (.tmp 29) = .int .i8 xb := hT 4 _ 29 rfl rfl
        have e30 : b__.eval (.tmp 30) = .int .i64 xb := hT 5 _ 30 rfl rfl
        have e8 : b__.eval (.tmp 8) = .int .i64 xa := hT 6 _ 8 rfl rfl
        have e9 : b__.eval (.tmp 9) = .int .i64 xb := hT 7 _ 9 rfl rfl
        obtain ⟨vs, hvs, hb⟩ := frame_of hdf hsz hold
        replace e25 : vs 25 = .pointer (some ⟨g7, 1, none⟩) := (hvs 25).symm.trans e25
        replace e26 : vs 26 = .int .i8 xa := (hvs 26).symm.trans e26
        replace e27 : vs 27 = .int .i64 xa := (hvs 27).symm.trans e27
        replace e28 : vs 28 = .pointer (some ⟨g7, 2, none⟩) := (hvs 28).symm.trans e28
        replace e29 : vs 29 = .int .i8 xb := (hvs 29).symm.trans e29
        replace e30 : vs 30 = .int .i64 xb := (hvs 30).symm.trans e30
        replace e8 : vs 8 = .int .i64 xa := (hvs 8).symm.trans e8
        replace e9 : vs 9 = .int .i64 xb := (hvs 9).symm.trans e9
        subst hb
        clear hvs hold hT hdf hsz
        simp only [setAll, Act.put, List.setIfInBounds_toArray, List.set_cons_zero, List.set_cons_succ, List.getElem_toArray, List.getElem_cons_succ, List.getElem_cons_zero]
        rw [e8, e9]
        replace hS := hS.ext hW
        clear hW e25 e26 e27 e28 e29 e30 e8 e9
        cases aw
        all_goals
          go_wp2_with (first
            | ((with_reducible show wpList _ _ _ (⟨_, .binOp _ _ _ _ _, _, _, _, _⟩ :: _) _ _); (first | ((with_reducible show wpList _ _ _ (⟨_, .binOp .lss _ _ _ _, _, _, _, _⟩ :: _) _ _); refine st_lss rfl _ _ _ _ rfl _ _ _ rfl rfl (fun h_ => ?_) (fun h_ => ?_)) | ((with_reducible show wpList _ _ _ (⟨_, .binOp .leq _ _ _ _, _, _, _, _⟩ :: _) _ _); refine st_leq rfl _ _ _ _ rfl _ _ _ rfl rfl (fun h_ => ?_) (fun h_ => ?_)) | ((with_reducible show wpList _ _ _ (⟨_, .binOp .gtr _ _ _ _, _, _, _, _⟩ :: _) _ _); refine st_gtr rfl _ _ _ _ rfl _ _ _ rfl rfl (fun h_ => ?_) (fun h_ => ?_)) | ((with_reducible show wpList _ _ _ (⟨_, .binOp .geq _ _ _ _, _, _, _, _⟩ :: _) _ _); refine st_geq rfl _ _ _ _ rfl _ _ _ rfl rfl (fun h_ => ?_) (fun h_ => ?_)) | ((with_reducible show wpList _ _ _ (⟨_, .binOp .eql _ _ _ _, _, _, _, _⟩ :: _) _ _); refine st_eql rfl _ _ _ _ rfl _ _ _ rfl rfl (fun h_ => ?_) (fun h_ => ?_)) | ((with_reducible show wpList _ _ _ (⟨_, .binOp .neq _ _ _ _, _, _, _, _⟩ :: _) _ _); refine st_neq rfl _ _ _ _ rfl _ _ _ rfl rfl (fun h_ => ?_) (fun h_ => ?_))) <;> go_prune)
            | (go_at_call 44; refine (hlink_any p L xa xb HO.out hlL hS (fun D w h => (kk D w h).2) (fun D w h => kt D w (kk D w h).1.1)).mono ?_; rintro e w_ ⟨r, z, rfl, hP⟩)
            | (go_at_call 68; refine (rlink_any (kk _ _ hP.known).1.2 HO.out.inr (by omega) xa xb).mono ?_; rintro e w_ hk; rcases link_both HO.out hP hk with ⟨rfl, hz, rfl, hS⟩ | ⟨rfl, v, L', rfl, hH', hl', hS⟩ <;> clear hP hk <;> (try obtain ⟨qr, _, rfl, -⟩ := id hS.ro.1.2))
            | (go_at_call 34; refine (hunlink_any p L xa xb HO.out hlL hS (fun D w h => (kk D w h).2) (fun D w h => kt D w (kk D w h).1.1)).mono ?_; rintro e w_ ⟨r, z, rfl, hP⟩)
            | (go_at_call 67; refine (runlink_any (kk _ _ hP.known).1.2 (by omega) xa xb).mono ?_; rintro e w_ hk; rcases unlink_both HO.out hP hk with ⟨rfl, hz, rfl, hS⟩ | ⟨rfl, v, L', rfl, hH', hl', hS⟩ <;> clear hP hk <;> (try obtain ⟨qr, _, rfl, -⟩ := id hS.ro.1.2))
            | ((with_reducible show wpList _ _ _ (⟨_, .load _ _, _, _, _, _⟩ :: _) _ _); first | (refine st_cell hS 0 rfl _ _ rfl _ _ rfl _ _ rfl (by decide +kernel) _ (by first | assumption | rfl) ?_) | (refine st_cell hS 1 rfl _ _ rfl _ _ rfl _ _ rfl (by decide +kernel) _ (by first | assumption | rfl) ?_) | (refine st_cell hS 2 rfl _ _ rfl _ _ rfl _ _ rfl (by decide +kernel) _ (by first | assumption | rfl) ?_) | (refine st_cell hS 3 rfl _ _ rfl _ _ rfl _ _ rfl (by decide +kernel) _ (by first | assumption | rfl) ?_) | (refine st_cell hS 4 rfl _ _ rfl _ _ rfl _ _ rfl (by decide +kernel) _ (by first | assumption | rfl) ?_) | (refine st_cell hS 5 rfl _ _ rfl _ _ rfl _ _ rfl (by decide +kernel) _ (by first | assumption | rfl) ?_) | (refine st_cell hS 6 rfl _ _ rfl _ _ rfl _ _ rfl (by decide +kernel) _ (by first | assumption | rfl) ?_) | (refine st_cell hS 7 rfl _ _ rfl _ _ rfl _ _ rfl (by decide +kernel) _ (by first | assumption | rfl) ?_)))
          · exact ⟨⟨j + 1, p, pv, L, KX, by go_num, rfl, rfl, by omega, by omega, HO, kk, hS.sub (List.sublist_cons_self _ _)⟩, by simp [intOf]; omega⟩
          · exact ⟨⟨j + 1, _, v, L', _, by go_num, rfl, rfl, by omega, by omega, Lib.hid hH', fun D w h => ⟨⟨(kk _ _ h.1.1).1.1, h.2⟩, h.1.2⟩, hS.sub (List.sublist_cons_self _ _)⟩, by simp [intOf]; omega⟩
    · go_wp2_with (first | ((with_reducible show wpList _ _ _ (⟨_, .binOp _ _ _ _ _, _, _, _, _⟩ :: _) _ _); (first | ((with_reducible show wpList _ _ _ (⟨_, .binOp .lss _ _ _ _, _, _, _, _⟩ :: _) _ _); refine st_lss rfl _ _ _ _ rfl _ _ _ rfl rfl (fun h_ => ?_) (fun h_ => ?_)) | ((with_reducible show wpList _ _ _ (⟨_, .binOp .leq _ _ _ _, _, _, _, _⟩ :: _) _ _); refine st_leq rfl _ _ _ _ rfl _ _ _ rfl rfl (fun h_ => ?_) (fun h_ => ?_)) | ((with_reducible show wpList _ _ _ (⟨_, .binOp .gtr _ _ _ _, _, _, _, _⟩ :: _) _ _); refine st_gtr rfl _ _ _ _ rfl _ _ _ rfl rfl (fun h_ => ?_) (fun h_ => ?_)) | ((with_reducible show wpList _ _ _ (⟨_, .binOp .geq _ _ _ _, _, _, _, _⟩ :: _) _ _); refine st_geq rfl _ _ _ _ rfl _ _ _ rfl rfl (fun h_ => ?_) (fun h_ => ?_)) | ((with_reducible show wpList _ _ _ (⟨_, .binOp .eql _ _ _ _, _, _, _, _⟩ :: _) _ _); refine st_eql rfl _ _ _ _ rfl _ _ _ rfl rfl (fun h_ => ?_) (fun h_ => ?_)) | ((with_reducible show wpList _ _ _ (⟨_, .binOp .neq _ _ _ _, _, _, _, _⟩ :: _) _ _); refine st_neq rfl _ _ _ _ rfl _ _ _ rfl rfl (fun h_ => ?_) (fun h_ => ?_))) <;> go_prune))
      go_ret2
      exact ⟨_, _, rfl, L, HO.out, by omega, hS.mono ((KSt.and (stable_sl (by decide))).and stable_isH) fun D w h => kk D w h⟩
end Go.Proofs.YtmlkgaiphpimiaaDoor
namespace Go.Proofs.YtmlkgaiphpimiaaDoor
open Go.RowKit
attribute [local go_sem ↓] Go.wp_at_zero Go.wp_at_succ
set_option maxRecDepth 20000
set_option exponentiation.threshold 5000

/-- what a statement about changes begins with -/
theorem start_ops {W : World} {D : Nat → Prop} {pv : Value} {ops : List OpD} (h : DTab W) (hp : Sl W D 3 pv ops.length (ocells ops)) : ∃ K : (Nat → Prop) → World → Prop, (∀ D w, K D w → DTab w ∧ D 0) ∧ (∀ D w, K D w → Sl w D 3 pv ops.length (ocells ops)) ∧ St W W [] K :=
  ⟨fun D w => (DTab w ∧ D 0) ∧ Sl w D 3 pv ops.length (ocells ops), fun _ _ h => h.1, fun _ _ h => h.2, St.start (D := fun _ => True) (dtab_stable.and (stable_sl (by decide))) ⟨⟨h, trivial⟩, hp.imp fun _ _ _ => trivial⟩⟩
end Go.Proofs.YtmlkgaiphpimiaaDoor
namespace Go.Proofs.YtmlkgaiphpimiaaDoor
open Go.RowKit
attribute [local go_sem ↓] Go.wp_at_zero Go.wp_at_succ
set_option maxRecDepth 20000
set_option exponentiation.threshold 5000

theorem beq_any {w0 : World} {D E : Nat → Prop} {u v : Value} {L M : List Nat} (hu : Sl w0 D 1 u L.length (u8s L)) (hv : Sl w0 E 1 v M.length (u8s M)) (hl : L.length ≤ 100000000) :
    Calls Tryd.prog 50 #[u, v] w0 (Ret (fun x _ => x = .bool (decide (L = M))) w0) := by
  obtain ⟨A, c, rfl, _, _⟩ := hu.shape
  obtain ⟨B, d, rfl, _, _⟩ := hv.shape
  obtain ⟨K, k1, k2, hS⟩ : ∃ K : (Nat → Prop) → World → Prop, (∀ D w, K D w → Sl w D 1 (.slice A L.length c) L.length (u8s L)) ∧ (∀ D w, K D w → Sl w D 1 (.slice B M.length d) M.length (u8s M)) ∧ St w0 w0 [] K := ⟨_, fun _ _ h => h.1, fun _ _ h => h.2, St.start (D := fun _ => True) ((stable_sl (by decide)).and (stable_sl (by decide))) ⟨hu.imp fun _ _ _ => trivial, hv.imp fun _ _ _ => trivial⟩⟩
  clear hu hv
  by_cases hlm : L.length = M.length
  · have HE : Hid ((∀ t, t < L.length → L.getD t 0 = M.getD t 0) → L = M) := Lib.hid fun h => List.ext_getElem hlm fun i h1 h2 => by
      have := h i h1
      rwa [List.getD_eq_getElem?_getD, List.getD_eq_getElem?_getD, List.getElem?_eq_getElem h1, List.getElem?_eq_getElem h2] at this
    go_enter Tryd.func50, Tryd.ntmps50
    go_wp2_with (first | ((with_reducible show wpList _ _ _ (⟨_, .binOp _ _ _ _ _, _, _, _, _⟩ :: _) _ _); (first | ((with_reducible show wpList _ _ _ (⟨_, .binOp .lss _ _ _ _, _, _, _, _⟩ :: _) _ _); refine st_lss rfl _ _ _ _ rfl _ _ _ rfl rfl (fun h_ => ?_) (fun h_ => ?_)) | ((with_reducible show wpList _ _ _ (⟨_, .binOp .leq _ _ _ _, _, _, _, _⟩ :: _) _ _); refine st_leq rfl _ _ _ _ rfl _ _ _ rfl rfl (fun h_ => ?_) (fun h_ => ?_)) | ((with_reducible show wpList _ _ _ (⟨_, .binOp .gtr _ _ _ _, _, _, _, _⟩ :: _) _ _); refine st_gtr rfl _ _ _ _ rfl _ _ _ rfl rfl (fun h_ => ?_) (fun h_ => ?_)) | ((with_reducible show wpList _ _ _ (⟨_, .binOp .geq _ _ _ _, _, _, _, _⟩ :: _) _ _); refine st_geq rfl _ _ _ _ rfl _ _ _ rfl rfl (fun h_ => ?_) (fun h_ => ?_)) | ((with_reducible show wpList _ _ _ (⟨_, .binOp .eql _ _ _ _, _, _, _, _⟩ :: _) _ _); refine st_eql rfl _ _ _ _ rfl _ _ _ rfl rfl (fun h_ => ?_) (fun h_ => ?_)) | ((with_reducible show wpList _ _ _ (⟨_, .binOp .neq _ _ _ _, _, _, _, _⟩ :: _) _ _); refine st_neq rfl _ _ _ _ rfl _ _ _ rfl rfl (fun h_ => ?_) (fun h_ => ?_))) <;> go_prune))
    go_loopw [13] (fun i wr => ∃ j : Nat, j ≤ L.length ∧ i = .int .i64 (j : Nat) ∧ Hid (∀ t, t < j → L.getD t 0 = M.getD t 0) ∧ St w0 wr [] K) (fun i _ => L.length - (intOf i).toNat)
    case atStart => exact ⟨0, by omega, rfl, Lib.hid (fun t h => absurd h (by omega)), hS⟩
    case round =>
      clear hS
      obtain ⟨j, hj, rfl, HJ, hS⟩ := hrel
      by_cases hlj : j < L.length
      · have hmj : j < M.length := by omega
        obtain ⟨b1, o1, rfl⟩ : ∃ b o, A = some ⟨b, o, none⟩ := by
          obtain ⟨_, A2, c2, e2, _, _, h5⟩ := k1 _ _ hS.ro
          obtain ⟨b, o, h6, _⟩ := h5 (by omega)
          injection e2 with e2
          exact ⟨b, o, e2.trans h6⟩
        obtain ⟨b2, o2, rfl⟩ : ∃ b o, B = some ⟨b, o, none⟩ := by
          obtain ⟨_, A2, c2, e2, _, _, h5⟩ := k2 _ _ hS.ro
          obtain ⟨b, o, h6, _⟩ := h5 (by omega)
          injection e2 with e2
          exact ⟨b, o, e2.trans h6⟩
        have p1 := Lib.hid (u8s_at L j hlj)
        have p2 := Lib.hid (u8s_at M j hmj)
        have HJ2 : Hid (L.getD j 0 = M.getD j 0 → ∀ t, t < j + 1 → L.getD t 0 = M.getD t 0) := Lib.hid fun h t ht => if e : t = j then e ▸ h else HJ.out t (by omega)
        have HNE : Hid (L.getD j 0 ≠ M.getD j 0 → ¬ L = M) := Lib.hid fun h e => h (by rw [e])
        generalize L.getD j 0 = x at *
        generalize M.getD j 0 = y at *
        go_wp2_with (first | ((with_reducible show wpList _ _ _ (⟨_, .binOp _ _ _ _ _, _, _, _, _⟩ :: _) _ _); (first | ((with_reducible show wpList _ _ _ (⟨_, .binOp .lss _ _ _ _, _, _, _, _⟩ :: _) _ _); refine st_lss rfl _ _ _ _ rfl _ _ _ rfl rfl (fun h_ => ?_) (fun h_ => ?_)) | ((with_reducible show wpList _ _ _ (⟨_, .binOp .leq _ _ _ _, _, _, _, _⟩ :: _) _ _); refine st_leq rfl _ _ _ _ rfl _ _ _ rfl rfl (fun h_ => ?_) (fun h_ => ?_)) | ((with_reducible show wpList _ _ _ (⟨_, .binOp .gtr _ _ _ _, _, _, _, _⟩ :: _) _ _); refine st_gtr rfl _ _ _ _ rfl _ _ _ rfl rfl (fun h_ => ?_) (fun h_ => ?_)) | ((with_reducible show wpList _ _ _ (⟨_, .binOp .geq _ _ _ _, _, _, _, _⟩ :: _) _ _); refine st_geq rfl _ _ _ _ rfl _ _ _ rfl rfl (fun h_ => ?_) (fun h_ => ?_)) | ((with_reducible show wpList _ _ _ (⟨_, .binOp .eql _ _ _ _, _, _, _, _⟩ :: _) _ _); refine st_eql rfl _ _ _ _ rfl _ _ _ rfl rfl (fun h_ => ?_) (fun h_ => ?_)) | ((with_reducible show wpList _ _ _ (⟨_, .binOp .neq _ _ _ _, _, _, _, _⟩ :: _) _ _); refine st_neq rfl _ _ _ _ rfl _ _ _ rfl rfl (fun h_ => ?_) (fun h_ => ?_))) <;> go_prune))
        refine wp_region_typed (fun i__ v w => match i__ with
          | 0 => v = .slice (some ⟨b1, o1, none⟩) M.length c
          | 1 => v = .int .i64 ((j : Nat) : Int)
          | 2 => v = .pointer (some ⟨b1, o1 + (j) * 1, none⟩)
          | 3 => v = .int .u8 ((x : Nat) : Int)
          | 4 => v = .slice (some ⟨b2, o2, none⟩) M.length d
          | 5 => v = .int .i64 ((j : Nat) : Int)
          | 6 => v = .pointer (some ⟨b2, o2 + (j) * 1, none⟩)
          | 7 => v = .int .u8 ((y : Nat) : Int)
          | 8 => v = .bool (decide ((x : Int) ≠ (y : Int)))
          | _ => True) (by kernel_rfl) (by kernel_rfl) ?mono ⟨?r0, ?r1, ?r2, ?r3, ?r4, ?r5, ?r6, ?r7, ?r8, trivial⟩ ?post
        case mono =>
          intro i v w w' h hb
          match i, h with
          | 0, h => exact h
          | 1, h => exact h
          | 2, h => exact h
          | 3, h => exact h
          | 4, h => exact h
          | 5, h => exact h
          | 6, h => exact h
          | 7, h => exact h
          | 8, h => exact h
          | _ + 9, h => trivial
        case r0 =>
          refine trule fun b__ w hW hold hpre => ⟨fun hwant K hK => ?_, fun hwant => ?_⟩
          · clear hwant
            have e0 : b__.eval (.tmp 0) = .slice (some ⟨b1, o1, none⟩) M.length c := (hold 0 (by kernel_rfl)).trans rfl
            exact opw_move rfl e0 (hK _ _ rfl (Below.refl _ _))
          · rw [want_none rfl] at hwant; cases hwant
        case r1 =>
          refine trule fun b__ w hW hold hpre => ⟨fun hwant K hK => ?_, fun hwant => ?_⟩
          · clear hwant
            have e5 : b__.eval (.tmp 5) = .int .i64 ((j : Nat) : Int) := (hold 5 (by kernel_rfl)).trans rfl
            exact opw_move rfl e5 (hK _ _ rfl (Below.refl _ _))
          · rw [want_none rfl] at hwant; cases hwant
        case r2 =>
          refine trule fun b__ w hW hold hpre => ⟨fun hwant K hK => ?_, fun hwant => ?_⟩
          · clear hwant
            have e16 : b__.eval (.tmp 16) = .slice (some ⟨b1, o1, none⟩) M.length c := hpre ⟨0, _⟩ (Array.mem_of_getElem? (i := 0) rfl) rfl _ _ rfl rfl
            have e17 : b__.eval (.tmp 17) = .int .i64 ((j : Nat) : Int) := hpre ⟨1, _⟩ (Array.mem_of_getElem? (i := 1) rfl) rfl _ _ rfl rfl
            exact opw_iaddr rfl e16 e17 (run_iaddr_lit (m := j) Tryd.underlying63 (by kernel_rfl) (by omega) (by omega)) (hK _ _ rfl (Below.refl _ _))
          · rw [want_none rfl] at hwant; cases hwant
        case r3 =>
          refine trule fun b__ w hW hold hpre => ⟨fun hwant K hK => ?_, fun hwant => ?_⟩
          · clear hwant
            have e18 : b__.eval (.tmp 18) = .pointer (some ⟨b1, o1 + (j) * 1, none⟩) := hpre ⟨2, _⟩ (Array.mem_of_getElem? (i := 0) rfl) rfl _ _ rfl rfl
            exact opw_cell rfl e18 (by kernel_rfl) (by rw [Nat.mul_one]; exact sl_cell (k1 _ _ (hS.ext (undrew hW)).ro) p1.out) (hK _ _ rfl (Below.refl _ _))
          · rw [want_none rfl] at hwant; cases hwant
        case r4 =>
          refine trule fun b__ w hW hold hpre => ⟨fun hwant K hK => ?_, fun hwant => ?_⟩
          · clear hwant
            have e1 : b__.eval (.tmp 1) = .slice (some ⟨b2, o2, none⟩) M.length d := (hold 1 (by kernel_rfl)).trans rfl
            exact opw_move rfl e1 (hK _ _ rfl (Below.refl _ _))
          · rw [want_none rfl] at hwant; cases hwant
        case r5 =>
          refine trule fun b__ w hW hold hpre => ⟨fun hwant K hK => ?_, fun hwant => ?_⟩
          · clear hwant
            have e5 : b__.eval (.tmp 5) = .int .i64 ((j : Nat) : Int) := (hold 5 (by kernel_rfl)).trans rfl
            exact opw_move rfl e5 (hK _ _ rfl (Below.refl _ _))
          · rw [want_none rfl] at hwant; cases hwant
        case r6 =>
          refine trule fun b__ w hW hold hpre => ⟨fun hwant K hK => ?_, fun hwant => ?_⟩
          · clear hwant
            have e20 : b__.eval (.tmp 20) = .slice (some ⟨b2, o2, none⟩) M.length d := hpre ⟨4, _⟩ (Array.mem_of_getElem? (i := 0) rfl) rfl _ _ rfl rfl
            have e21 : b__.eval (.tmp 21) = .int .i64 ((j : Nat) : Int) := hpre ⟨5, _⟩ (Array.mem_of_getElem? (i := 1) rfl) rfl _ _ rfl rfl
            exact opw_iaddr rfl e20 e21 (run_iaddr_lit (m := j) Tryd.underlying63 (by kernel_rfl) (by omega) (by omega)) (hK _ _ rfl (Below.refl _ _))
          · rw [want_none rfl] at hwant; cases hwant
        case r7 =>
          refine trule fun b__ w hW hold hpre => ⟨fun hwant K hK => ?_, fun hwant => ?_⟩
          · clear hwant
            have e22 : b__.eval (.tmp 22) = .pointer (some ⟨b2, o2 + (j) * 1, none⟩) := hpre ⟨6, _⟩ (Array.mem_of_getElem? (i := 0) rfl) rfl _ _ rfl rfl
            exact opw_cell rfl e22 (by kernel_rfl) (by rw [Nat.mul_one]; exact sl_cell (k2 _ _ (hS.ext (undrew hW)).ro) p2.out) (hK _ _ rfl (Below.refl _ _))
          · rw [want_none rfl] at hwant; cases hwant
        case r8 =>
          refine trule fun b__ w hW hold hpre => ⟨fun hwant K hK => ?_, fun hwant => ?_⟩
          · clear hwant
            have e19 : b__.eval (.tmp 19) = .int .u8 ((x : Nat) : Int) := hpre ⟨3, _⟩ (Array.mem_of_getElem? (i := 0) rfl) rfl _ _ rfl rfl
            have e23 : b__.eval (.tmp 23) = .int .u8 ((y : Nat) : Int) := hpre ⟨7, _⟩ (Array.mem_of_getElem? (i := 1) rfl) rfl _ _ rfl rfl
            exact opw_bin (vx := .int .u8 ((x : Nat) : Int)) (vy := .int .u8 ((y : Nat) : Int)) (v := .bool (decide ((x : Int) ≠ (y : Int)))) rfl e19 e23 rfl (run_neB rfl) (hK _ _ rfl (Below.refl _ _))
          · rw [want_none rfl] at hwant; cases hwant
        case post =>
          intro b__ wz hW hdf hsz hold hT
          have e16 : b__.eval (.tmp 16) = .slice (some ⟨b1, o1, none⟩) M.length c := hT 0 _ 16 rfl rfl
          have e17 : b__.eval (.tmp 17) = .int .i64 ((j : Nat) : Int) := hT 1 _ 17 rfl rfl
          have e18 : b__.eval (.tmp 18) = .pointer (some ⟨b1, o1 + (j) * 1, none⟩) := hT 2 _ 18 rfl rfl
          have e19 : b__.eval (.tmp 19) = .int .u8 ((x : Nat) : Int) := hT 3 _ 19 rfl rfl
          have e20 : b__.eval (.tmp 20) = .slice (some ⟨b2, o2, none⟩) M.length d := hT 4 _ 20 rfl rfl
          have e21 : b__.eval (.tmp 21) = .int .i64 ((j : Nat) : Int) := hT 5 _ 21 rfl rfl
          have e22 : b__.eval (.tmp 22) = .pointer (some ⟨b2, o2 + (j) * 1, none⟩) := hT 6 _ 22 rfl rfl
          have e23 : b__.eval (.tmp 23) = .int .u8 ((y : Nat) : Int) := hT 7 _ 23 rfl rfl
          have e24 : b__.eval (.tmp 24) = .bool (decide ((x : Int) ≠ (y : Int))) := hT 8 _ 24 rfl rfl
          obtain ⟨vs, hvs, hb⟩ := frame_of hdf hsz hold
          replace e16 : vs 16 = .slice (some ⟨b1, o1, none⟩) M.length c := (hvs 16).symm.trans e16
          replace e17 : vs 17 = .int .i64 ((j : Nat) : Int) := (hvs 17).symm.trans e17
          replace e18 : vs 18 = .pointer (some ⟨b1, o1 + (j) * 1, none⟩) := (hvs 18).symm.trans e18
          replace e19 : vs 19 = .int .u8 ((x : Nat) : Int) := (hvs 19).symm.trans e19
          replace e20 : vs 20 = .slice (some ⟨b2, o2, none⟩) M.length d := (hvs 20).symm.trans e20
          replace e21 : vs 21 = .int .i64 ((j : Nat) : Int) := (hvs 21).symm.trans e21
          replace e22 : vs 22 = .pointer (some ⟨b2, o2 + (j) * 1, none⟩) := (hvs 22).symm.trans e22
          replace e23 : vs 23 = .int .u8 ((y : Nat) : Int) := (hvs 23).symm.trans e23
          replace e24 : vs 24 = .bool (decide ((x : Int) ≠ (y : Int))) := (hvs 24).symm.trans e24
          subst hb
          clear hvs hold hT hdf hsz
          simp only [setAll, Act.put, List.setIfInBounds_toArray, List.set_cons_zero, List.set_cons_succ, List.getElem_toArray, List.getElem_cons_succ, List.getElem_cons_zero]
          rw [e24]
          replace hS := hS.ext hW
          by_cases hxy : x = y
          · have H3 := Lib.hid (HJ2.out hxy)
            rw [decide_eq_false (by simp [hxy])]
            clear hW e16 e17 e18 e19 e20 e21 e22 e23 e24 hxy
            go_wp2_with fail
            exact ⟨⟨j + 1, hlj, by go_num, H3, hS⟩, by simp [intOf]; omega⟩
          · have H3 := Lib.hid (HNE.out hxy)
            rw [decide_eq_true (by omega)]
            clear hW e16 e17 e18 e19 e20 e21 e22 e23 e24 hxy
            go_wp2_with fail
            go_ret
            exact Ret.mk (congrArg Value.bool (decide_eq_false H3.out).symm) hS.below
      · obtain rfl : j = L.length := by omega
        have H3 := Lib.hid (HE.out HJ.out)
        go_wp2_with (first | ((with_reducible show wpList _ _ _ (⟨_, .binOp _ _ _ _ _, _, _, _, _⟩ :: _) _ _); (first | ((with_reducible show wpList _ _ _ (⟨_, .binOp .lss _ _ _ _, _, _, _, _⟩ :: _) _ _); refine st_lss rfl _ _ _ _ rfl _ _ _ rfl rfl (fun h_ => ?_) (fun h_ => ?_)) | ((with_reducible show wpList _ _ _ (⟨_, .binOp .leq _ _ _ _, _, _, _, _⟩ :: _) _ _); refine st_leq rfl _ _ _ _ rfl _ _ _ rfl rfl (fun h_ => ?_) (fun h_ => ?_)) | ((with_reducible show wpList _ _ _ (⟨_, .binOp .gtr _ _ _ _, _, _, _, _⟩ :: _) _ _); refine st_gtr rfl _ _ _ _ rfl _ _ _ rfl rfl (fun h_ => ?_) (fun h_ => ?_)) | ((with_reducible show wpList _ _ _ (⟨_, .binOp .geq _ _ _ _, _, _, _, _⟩ :: _) _ _); refine st_geq rfl _ _ _ _ rfl _ _ _ rfl rfl (fun h_ => ?_) (fun h_ => ?_)) | ((with_reducible show wpList _ _ _ (⟨_, .binOp .eql _ _ _ _, _, _, _, _⟩ :: _) _ _); refine st_eql rfl _ _ _ _ rfl _ _ _ rfl rfl (fun h_ => ?_) (fun h_ => ?_)) | ((with_reducible show wpList _ _ _ (⟨_, .binOp .neq _ _ _ _, _, _, _, _⟩ :: _) _ _); refine st_neq rfl _ _ _ _ rfl _ _ _ rfl rfl (fun h_ => ?_) (fun h_ => ?_))) <;> go_prune))
        go_ret
        exact Ret.mk (congrArg Value.bool (decide_eq_true H3.out).symm) hS.below
  · have HE : Hid (¬ L = M) := Lib.hid fun e => hlm (by rw [e])
    have hlm2 : ¬ ((L.length : Nat) : Int) = ((M.length : Nat) : Int) := by omega
    go_enter Tryd.func50, Tryd.ntmps50
    go_wp2_with (first | ((with_reducible show wpList _ _ _ (⟨_, .binOp _ _ _ _ _, _, _, _, _⟩ :: _) _ _); (first | ((with_reducible show wpList _ _ _ (⟨_, .binOp .lss _ _ _ _, _, _, _, _⟩ :: _) _ _); refine st_lss rfl _ _ _ _ rfl _ _ _ rfl rfl (fun h_ => ?_) (fun h_ => ?_)) | ((with_reducible show wpList _ _ _ (⟨_, .binOp .leq _ _ _ _, _, _, _, _⟩ :: _) _ _); refine st_leq rfl _ _ _ _ rfl _ _ _ rfl rfl (fun h_ => ?_) (fun h_ => ?_)) | ((with_reducible show wpList _ _ _ (⟨_, .binOp .gtr _ _ _ _, _, _, _, _⟩ :: _) _ _); refine st_gtr rfl _ _ _ _ rfl _ _ _ rfl rfl (fun h_ => ?_) (fun h_ => ?_)) | ((with_reducible show wpList _ _ _ (⟨_, .binOp .geq _ _ _ _, _, _, _, _⟩ :: _) _ _); refine st_geq rfl _ _ _ _ rfl _ _ _ rfl rfl (fun h_ => ?_) (fun h_ => ?_)) | ((with_reducible show wpList _ _ _ (⟨_, .binOp .eql _ _ _ _, _, _, _, _⟩ :: _) _ _); refine st_eql rfl _ _ _ _ rfl _ _ _ rfl rfl (fun h_ => ?_) (fun h_ => ?_)) | ((with_reducible show wpList _ _ _ (⟨_, .binOp .neq _ _ _ _, _, _, _, _⟩ :: _) _ _); refine st_neq rfl _ _ _ _ rfl _ _ _ rfl rfl (fun h_ => ?_) (fun h_ => ?_))) <;> go_prune))
    go_ret
    exact Ret.mk (congrArg Value.bool (decide_eq_false HE.out).symm) hS.below
end Go.Proofs.YtmlkgaiphpimiaaDoor
namespace Go.Proofs.YtmlkgaiphpimiaaDoor
open Go.RowKit
attribute [local go_sem ↓] Go.wp_at_zero Go.wp_at_succ
set_option maxRecDepth 20000
set_option exponentiation.threshold 5000

theorem Fact.same {f : Fact} {base : Nat} {w w' : World} (h : f.holds base w) (he : ∀ k, f.blk = some k → w'.heap[k]? = w.heap[k]?) : f.holds base w' := by
  cases f with
  | box g t cs => exact ⟨h.1, (he g rfl).trans h.2⟩
  | own v e size n xs =>
    refine ⟨h.1, ?_⟩
    rcases h.2 with h | ⟨g, cap, cur, rfl, h2, h3, h4⟩
    · exact .inl h
    · exact .inr ⟨g, cap, cur, rfl, h2, (he g rfl).trans h3, h4⟩
  | obj g o => exact ⟨h.1, (he g rfl).trans h.2⟩
theorem St.isW {w0 w : World} {F : List Fact} {K : (Nat → Prop) → World → Prop} {q : Nat} {sv : Value} {bs : List Nat} (h : St w0 w (.box q 114 #[sv] :: .own sv 5 1 bs.length (u8s bs) :: F) K) : IsW w (fun k => sv.ownBlock = some k) q bs :=
  ⟨sv, h.box 0 rfl, (Fact.down (h.holds (.own sv 5 1 bs.length (u8s bs)) (by simp)) (Nat.zero_le _) :), fun _ h => h⟩
theorem St.wf {w0 w w' : World} {F : List Fact} {K : (Nat → Prop) → World → Prop} {q : Nat} {sv : Value} {bs bs' : List Nat} (h : St w0 w (.box q 114 #[sv] :: .own sv 5 1 bs.length (u8s bs) :: F) K)
    (hW : IsW w' (Since (fun k => sv.ownBlock = some k) w) q bs') (hF : WF (fun k => sv.ownBlock = some k) q w w') : ∃ sv', St w0 w' (.box q 114 #[sv'] :: .own sv' 5 1 bs'.length (u8s bs') :: F) K := by
  obtain ⟨sv', h1, h2, h3⟩ := hW
  have hq : w0.heap.size ≤ q := (h.holds (.box q 114 #[sv]) (by simp)).1
  have hr : ∀ k, sv.ownBlock = some k → w0.heap.size ≤ k := fun k hk => Fact.ge (h.holds (.own sv 5 1 bs.length (u8s bs)) (by simp)) hk
  have hap := h.apart
  rw [List.pairwise_cons, List.pairwise_cons] at hap
  have hge : ∀ k, sv'.ownBlock = some k → w0.heap.size ≤ k := fun k hk => (h3 k hk).elim (hr k) fun e => Nat.le_trans h.size e
  have hown : w'.ownsRow w0.heap.size 5 1 sv' bs'.length (u8s bs') := by
    refine ⟨h2.1, ?_⟩
    rcases h2.2 with e | ⟨g, cap, cur, rfl, e2, e3⟩
    · exact .inl e
    · exact .inr ⟨g, cap, cur, rfl, hge g rfl, e3⟩
  have hkeep : ∀ f ∈ F, ∀ k, f.blk = some k → w'.heap[k]? = w.heap[k]? := fun f hf k hk =>
    hF.other k (h.lt (by simp [hf]) hk) (fun e => hap.1 f (by simp [hf]) q rfl (by rw [hk, e])) fun e => hap.2.1 f hf k e hk
  have hqs : sv'.ownBlock ≠ some q := fun e => by
    have h5 := h1
    rcases h2.2 with e1 | ⟨g, cap, cur, rfl, e2, e3, _⟩
    · rw [e1.1] at e; cases e
    · injection e with e
      have e4 : w'.heap[g]? = _ := e3
      have e5 : w'.heap[q]? = _ := h5
      have e : g = q := e
      rw [e, e5] at e4
      simp at e4
  have hsv : ∀ f ∈ F, ∀ k, sv'.ownBlock = some k → f.blk ≠ some k := fun f hf k hk e => by
    rcases h3 k hk with h4 | h4
    · exact hap.2.1 f hf k h4 e
    · have := h.lt (f := f) (by simp [hf]) e; omega
  refine ⟨sv', h.below.trans ⟨hF.os, hF.tape, hF.output, hF.size, fun k hk => hF.other k (Nat.lt_of_lt_of_le hk h.size) (by omega) fun e => by have := hr k e; omega⟩, fun f hf => ?_, ?_, h.stable, ?_⟩
  · rcases List.mem_cons.1 hf with rfl | hf
    · exact ⟨hq, h1⟩
    · rcases List.mem_cons.1 hf with rfl | hf
      · exact hown
      · exact Fact.same (h.holds f (by simp [hf])) (hkeep f hf)
  · rw [List.pairwise_cons, List.pairwise_cons]
    refine ⟨fun f hf k hk e => ?_, fun f hf k hk => hsv f hf k hk, hap.2.2⟩
    injection hk with hk
    subst hk
    rcases List.mem_cons.1 hf with rfl | hf
    · exact hqs e
    · exact hap.1 f (by simp [hf]) _ rfl e
  · refine h.stable _ _ _ _ h.ro hF.size (fun p x hp hlt hc => ?_) fun b hb hlt _ f hf e => ?_
    · have hb : w'.heap[p.block]? = w.heap[p.block]? := hF.other _ hlt (fun e => hp (.box q 114 #[sv]) (by simp) (by rw [e]; rfl)) fun e => hp (.own sv 5 1 bs.length (u8s bs)) (by simp) e
      rw [← hc]
      simp only [World.cell?, hb]
    · rcases List.mem_cons.1 hf with rfl | hf
      · exact hb _ (List.mem_cons_self ..) e
      · rcases List.mem_cons.1 hf with rfl | hf
        · rcases h3 b e with h4 | h4
          · exact hb (.own sv 5 1 bs.length (u8s bs)) (by simp) h4
          · omega
        · exact hb f (by simp [hf]) e
theorem st_uint {w0 w : World} {F : List Fact} {K : (Nat → Prop) → World → Prop} {q : Nat} {sv : Value} {bs : List Nat} (h : St w0 w (.box q 114 #[sv] :: .own sv 5 1 bs.length (u8s bs) :: F) K) (v : Nat) (hv : v < T64) (hlen : bs.length ≤ 100000000000) :
    Calls Tryd.prog 75 #[.pointer (some ⟨q, 0, none⟩), .int .u64 (v : Nat)] w fun e w' => e = .returned (.tuple #[]) ∧ ∃ sv', St w0 w' (.box q 114 #[sv'] :: .own sv' 5 1 (bs ++ putN v).length (u8s (bs ++ putN v)) :: F) K :=
  (uint_any q v bs w _ h.isW hv hlen).mono fun _ _ ⟨h1, h2, h3⟩ => ⟨h1, h.wf h2 h3⟩
theorem st_wnew {w0 w : World} {F : List Fact} {K : (Nat → Prop) → World → Prop} (h : St w0 w F K) :
    Calls Tryd.prog 74 #[] w fun e w' => ∃ q, e = .returned (.pointer (some ⟨q, 0, none⟩)) ∧ ∃ sv, St w0 w' (.box q 114 #[sv] :: .own sv 5 1 ([] : List Nat).length (u8s []) :: F) K :=
  (newWriter_any w).mono fun _ _ ⟨h1, h2⟩ => ⟨_, h1, .slice none 0 0, by
    rw [h2]
    exact ((h.new ((Below.refl _ _).alloc (Nat.le_refl _) _) (.box w.heap.size 114 #[.slice none 0 0]) ⟨Nat.le_refl _, Box.new _ _ _⟩).nil 5 1).swap⟩
theorem st_wout {w0 w : World} {F : List Fact} {K : (Nat → Prop) → World → Prop} {q : Nat} {sv : Value} {bs : List Nat} (h : St w0 w (.box q 114 #[sv] :: .own sv 5 1 bs.length (u8s bs) :: F) K) (hlen : bs.length ≤ 1000000000000) (h0 : 0 < bs.length) :
    Calls Tryd.prog 76 #[.pointer (some ⟨q, 0, none⟩)] w fun e w' => ∃ v, e = .returned v ∧ St w0 w' (.own v 5 1 bs.length (u8s bs) :: .box q 114 #[sv] :: .own sv 5 1 bs.length (u8s bs) :: F) K :=
  (wout_own q bs w _ h.isW hlen).mono fun _ _ ⟨v, h1, h2, h3⟩ => ⟨v, h1, h.new h3 (.own v 5 1 bs.length (u8s bs)) (h2.2 h0)⟩
end Go.Proofs.YtmlkgaiphpimiaaDoor
namespace Go.Proofs.YtmlkgaiphpimiaaDoor
open Go.RowKit
attribute [local go_sem ↓] Go.wp_at_zero Go.wp_at_succ
set_option maxRecDepth 20000
set_option exponentiation.threshold 5000

/-- the bytes of links -/
def hpairs (L : List (Nat × Nat)) : List Nat := L.flatMap fun z => putN z.1 ++ putN z.2
def hencB (L : List (Nat × Nat)) : List Nat := putN L.length ++ hpairs L
theorem hpairs_step {L : List (Nat × Nat)} {j : Nat} {z : Nat × Nat} (h : L[j]? = some z) : hpairs (L.take (j + 1)) = hpairs (L.take j) ++ putN z.1 ++ putN z.2 := by
  unfold hpairs
  rw [List.take_add_one, h, List.flatMap_append, List.append_assoc]
  simp
theorem hpairs_len (L : List (Nat × Nat)) : (hpairs L).length ≤ 22 * L.length := by
  induction L with
  | nil => simp [hpairs]
  | cons z L ih =>
    have h1 := putN_len z.1
    have h2 := putN_len z.2
    simp [hpairs] at *
    omega
theorem putN_gt0 (v : Nat) : 0 < (putN v).length := by simp [putN]
theorem run_convU {w : World} {n : Nat} (h : n < T64) : (convert 3 22 (.int .i64 (n : Nat))).run Tryd.prog w = .ok (.int .u64 (n : Nat)) w := by
  go_simp
  exact wrap_u64_nat h
set_option maxHeartbeats 1000000 in
theorem hbytes_any {w0 : World} {D : Nat → Prop} {p : Value} {L : List (Nat × Nat)} (h : IsH w0 D p L) (hH : HOK L) (hl : L.length ≤ 900000) : Calls Tryd.prog 47 #[p] w0 fun e w' => ∃ v, e = .returned v ∧ St w0 w' [.own v 5 1 (hencB L).length (u8s (hencB L))] fun _ _ => True := by
  obtain ⟨K, kI, hS⟩ : ∃ K : (Nat → Prop) → World → Prop, (∀ D w, K D w → IsH w D p L) ∧ St w0 w0 [] K := ⟨_, fun _ _ h => h, St.start stable_isH h⟩
  obtain ⟨q, o, rfl, -⟩ := id h
  clear h
  have hlT : Hid (L.length < T64) := Lib.hid (by rw [T64_eq]; omega)
  have HP := Lib.hid (hpairs_len L)
  have HQ := Lib.hid (putN_len L.length)
  go_enter Tryd.func47, Tryd.ntmps47
  go_wp2_with (first
    | ((with_reducible show wpList _ _ _ (⟨_, .binOp _ _ _ _ _, _, _, _, _⟩ :: _) _ _); (first | ((with_reducible show wpList _ _ _ (⟨_, .binOp .lss _ _ _ _, _, _, _, _⟩ :: _) _ _); refine st_lss rfl _ _ _ _ rfl _ _ _ rfl rfl (fun h_ => ?_) (fun h_ => ?_)) | ((with_reducible show wpList _ _ _ (⟨_, .binOp .leq _ _ _ _, _, _, _, _⟩ :: _) _ _); refine st_leq rfl _ _ _ _ rfl _ _ _ rfl rfl (fun h_ => ?_) (fun h_ => ?_)) | ((with_reducible show wpList _ _ _ (⟨_, .binOp .gtr _ _ _ _, _, _, _, _⟩ :: _) _ _); refine st_gtr rfl _ _ _ _ rfl _ _ _ rfl rfl (fun h_ => ?_) (fun h_ => ?_)) | ((with_reducible show wpList _ _ _ (⟨_, .binOp .geq _ _ _ _, _, _, _, _⟩ :: _) _ _); refine st_geq rfl _ _ _ _ rfl _ _ _ rfl rfl (fun h_ => ?_) (fun h_ => ?_)) | ((with_reducible show wpList _ _ _ (⟨_, .binOp .eql _ _ _ _, _, _, _, _⟩ :: _) _ _); refine st_eql rfl _ _ _ _ rfl _ _ _ rfl rfl (fun h_ => ?_) (fun h_ => ?_)) | ((with_reducible show wpList _ _ _ (⟨_, .binOp .neq _ _ _ _, _, _, _, _⟩ :: _) _ _); refine st_neq rfl _ _ _ _ rfl _ _ _ rfl rfl (fun h_ => ?_) (fun h_ => ?_))) <;> go_prune)
    | (go_at_call 74; refine (st_wnew hS).mono ?_; clear hS; rintro e w_ ⟨g, rfl, sv, hS⟩)
    | (go_at_call 31; refine (hlinks_any (kI _ _ hS.ro) (by omega)).mono ?_; rintro e w_ ⟨v1, rfl, hs⟩; replace hS := hS.new hs.below (.own v1 50 2 L.length (pcells L)) (hs.own 0 rfl); clear hs; replace hS := hS.freeze 0 (by decide) rfl; obtain ⟨A1, c1, rfl, _, _⟩ := hS.ro.2.shape; obtain ⟨KX, kL, hS2⟩ : ∃ KX : (Nat → Prop) → World → Prop, (∀ D w, KX D w → Sl w D 2 (.slice A1 L.length c1) L.length (pcells L)) ∧ St w0 w_ [.box g 114 #[sv], .own sv 5 1 ([] : List Nat).length (u8s [])] KX := ⟨_, fun _ _ h => h.2, hS⟩; clear hS; have hS := hS2; clear hS2)
    | ((with_reducible show wpList _ _ _ (⟨some 15, _, _, _, _, _⟩ :: _) _ _); refine BigFrame.wpList_want rfl fun _ hK => opw_conv (vx := .int .i64 (L.length : Nat)) (v := .int .u64 (L.length : Nat)) rfl rfl (run_convU hlT.out) (hK _ _ ?_))
    | (go_at_call 75; refine (st_uint hS L.length hlT.out (by simp)).mono ?_; clear hS; rintro e w_ ⟨rfl, sv2, hS⟩))
  go_loopw [19] (fun i wr => ∃ (j : Nat) (sv : Value), i = .int .i64 (j : Nat) ∧ j ≤ L.length ∧ St w0 wr [.box g 114 #[sv], .own sv 5 1 (putN L.length ++ hpairs (L.take j)).length (u8s (putN L.length ++ hpairs (L.take j)))] KX) (fun i _ => L.length - (intOf i).toNat)
  case atStart => exact ⟨0, sv2, rfl, by omega, by simpa [hpairs] using hS⟩
  case round =>
    clear hS
    obtain ⟨j, sv, rfl, hj, hS⟩ := hrel
    by_cases hlj : j < L.length
    · obtain ⟨f1, f2⟩ := pcells_at L j hlj
      have HST := Lib.hid (hpairs_step (getD_at (0, 0) hlj))
      have hm := hH.role (L.getD j (0, 0)) (by rw [List.getD_eq_getElem?_getD, List.getElem?_eq_getElem hlj]; exact List.getElem_mem hlj)
      generalize L.getD j (0, 0) = z at *
      obtain ⟨za, zb⟩ := z
      dsimp only at f1 f2 hm HST
      have HA : Hid (za < T64) := Lib.hid (by rw [T64_eq]; omega)
      have HB : Hid (zb < T64) := Lib.hid (by rw [T64_eq]; omega)
      have HLN : Hid ((putN L.length ++ hpairs (L.take j)).length ≤ 11 + 22 * L.length) := Lib.hid (by
        have h1 := hpairs_len (L.take j)
        have h2 := HQ.out
        rw [List.length_take] at h1
        rw [List.length_append]; omega)
      have HPA := Lib.hid (putN_len za)
      generalize hBS : putN L.length ++ hpairs (L.take j) = bs at *
      have HE : Hid (putN L.length ++ hpairs (L.take (j + 1)) = bs ++ putN za ++ putN zb) := Lib.hid (by rw [HST.out, ← hBS]; simp)
      clear HST hBS
      go_wp2_with (first
        | ((with_reducible show wpList _ _ _ (⟨_, .binOp _ _ _ _ _, _, _, _, _⟩ :: _) _ _); (first | ((with_reducible show wpList _ _ _ (⟨_, .binOp .lss _ _ _ _, _, _, _, _⟩ :: _) _ _); refine st_lss rfl _ _ _ _ rfl _ _ _ rfl rfl (fun h_ => ?_) (fun h_ => ?_)) | ((with_reducible show wpList _ _ _ (⟨_, .binOp .leq _ _ _ _, _, _, _, _⟩ :: _) _ _); refine st_leq rfl _ _ _ _ rfl _ _ _ rfl rfl (fun h_ => ?_) (fun h_ => ?_)) | ((with_reducible show wpList _ _ _ (⟨_, .binOp .gtr _ _ _ _, _, _, _, _⟩ :: _) _ _); refine st_gtr rfl _ _ _ _ rfl _ _ _ rfl rfl (fun h_ => ?_) (fun h_ => ?_)) | ((with_reducible show wpList _ _ _ (⟨_, .binOp .geq _ _ _ _, _, _, _, _⟩ :: _) _ _); refine st_geq rfl _ _ _ _ rfl _ _ _ rfl rfl (fun h_ => ?_) (fun h_ => ?_)) | ((with_reducible show wpList _ _ _ (⟨_, .binOp .eql _ _ _ _, _, _, _, _⟩ :: _) _ _); refine st_eql rfl _ _ _ _ rfl _ _ _ rfl rfl (fun h_ => ?_) (fun h_ => ?_)) | ((with_reducible show wpList _ _ _ (⟨_, .binOp .neq _ _ _ _, _, _, _, _⟩ :: _) _ _); refine st_neq rfl _ _ _ _ rfl _ _ _ rfl rfl (fun h_ => ?_) (fun h_ => ?_))) <;> go_prune)
        | ((with_reducible show wpList _ _ _ (⟨_, .indexAddr _ _ _, _, _, _, _⟩ :: _) _ _); refine st_iaddr2 hS rfl _ _ _ rfl _ rfl rfl (by assumption) Tryd.underlying25 (by kernel_rfl) (by first | assumption | omega) _ _ (by assumption) (by assumption) ?_; intro b_ j_ hc0_ hc1_)
        | ((with_reducible show wpList _ _ _ (⟨some 6, _, _, _, _, _⟩ :: _) _ _); refine st_alloc hS rfl _ rfl (by kernel_rfl) ?_; clear hS; intro g6 w_ hS; (try simp only [Act.put, Act.eval, List.set_cons_zero, List.set_cons_succ, List.setIfInBounds_toArray, Array.getD_eq_getD_getElem?, List.getElem?_toArray, List.getElem?_cons_succ, List.getElem?_cons_zero, Option.getD_some, Value.cells] at hS))
        | ((with_reducible show wpList _ _ _ (⟨_, .store _ _ _, _, _, _, _⟩ :: _) _ _); (first | (refine st_store hS 0 rfl _ _ _ rfl _ _ rfl rfl _ _ rfl (by kernel_rfl) (by kernel_rfl) (by kernel_rfl) ?_) | (refine st_store hS 1 rfl _ _ _ rfl _ _ rfl rfl _ _ rfl (by kernel_rfl) (by kernel_rfl) (by kernel_rfl) ?_) | (refine st_store hS 2 rfl _ _ _ rfl _ _ rfl rfl _ _ rfl (by kernel_rfl) (by kernel_rfl) (by kernel_rfl) ?_) | (refine st_store hS 3 rfl _ _ _ rfl _ _ rfl rfl _ _ rfl (by kernel_rfl) (by kernel_rfl) (by kernel_rfl) ?_) | (refine st_cstore hS 0 rfl _ _ _ rfl _ _ _ rfl rfl rfl (by first | (simp; done) | (simp; omega) | exact of_decide_eq_true (by kernel_rfl)) rfl (by first | rfl | assumption) (by kernel_rfl) ?_) | (refine st_cstore hS 1 rfl _ _ _ rfl _ _ _ rfl rfl rfl (by first | (simp; done) | (simp; omega) | exact of_decide_eq_true (by kernel_rfl)) rfl (by first | rfl | assumption) (by kernel_rfl) ?_) | (refine st_cstore hS 2 rfl _ _ _ rfl _ _ _ rfl rfl rfl (by first | (simp; done) | (simp; omega) | exact of_decide_eq_true (by kernel_rfl)) rfl (by first | rfl | assumption) (by kernel_rfl) ?_) | (refine st_cstore hS 3 rfl _ _ _ rfl _ _ _ rfl rfl rfl (by first | (simp; done) | (simp; omega) | exact of_decide_eq_true (by kernel_rfl)) rfl (by first | rfl | assumption) (by kernel_rfl) ?_)); clear hS; intro w_ hS; (try simp only [Act.put, Act.eval, List.set_cons_zero, List.set_cons_succ, List.setIfInBounds_toArray, Array.getD_eq_getD_getElem?, List.getElem?_toArray, List.getElem?_cons_succ, List.getElem?_cons_zero, Option.getD_some, Value.cells] at hS))
        | ((with_reducible show wpList _ _ _ (⟨_, .load _ _, _, _, _, _⟩ :: _) _ _); first | refine st_load hS 0 rfl _ _ rfl _ rfl _ _ rfl _ Tryd.underlying50 rfl (by kernel_rfl) ?_ | refine st_load hS 1 rfl _ _ rfl _ rfl _ _ rfl _ Tryd.underlying50 rfl (by kernel_rfl) ?_ | refine st_load hS 2 rfl _ _ rfl _ rfl _ _ rfl _ Tryd.underlying50 rfl (by kernel_rfl) ?_ | refine st_load hS 3 rfl _ _ rfl _ rfl _ _ rfl _ Tryd.underlying50 rfl (by kernel_rfl) ?_)
        | ((with_reducible show wpList _ _ _ (⟨some 26, _, _, _, _, _⟩ :: _) _ _); refine BigFrame.wpList_want rfl fun _ hK => opw_conv (vx := .int .i64 (za : Nat)) (v := .int .u64 (za : Nat)) rfl rfl (run_convU HA.out) (hK _ _ ?_))
        | ((with_reducible show wpList _ _ _ (⟨some 31, _, _, _, _, _⟩ :: _) _ _); refine BigFrame.wpList_want rfl fun _ hK => opw_conv (vx := .int .i64 (zb : Nat)) (v := .int .u64 (zb : Nat)) rfl rfl (run_convU HB.out) (hK _ _ ?_))
        | (go_at_call 75; first
           | ((with_reducible show Calls _ _ #[_, .int .u64 (zb : Nat)] _ _); refine (st_uint hS zb HB.out (by have := HLN.out; have := HPA.out; rw [List.length_append]; omega)).mono ?_; clear hS; rintro e w_ ⟨rfl, sv4, hS⟩)
           | (replace hS := hS.perm (F' := [.box g 114 #[sv], .own sv 5 1 bs.length (u8s bs), .box g6 50 #[.int .i64 (za : Nat), .int .i64 (zb : Nat)]]) ((List.perm_append_comm (l₁ := [_, _]) (l₂ := [_]))); refine (st_uint hS za HA.out (by have := HLN.out; omega)).mono ?_; clear hS; rintro e w_ ⟨rfl, sv3, hS⟩))
        | ((with_reducible show wpList _ _ _ (⟨_, .load _ _, _, _, _, _⟩ :: _) _ _); first | (refine st_cell hS 0 rfl _ _ rfl _ _ rfl _ _ rfl (by decide +kernel) _ (by first | assumption | rfl) ?_) | (refine st_cell hS 1 rfl _ _ rfl _ _ rfl _ _ rfl (by decide +kernel) _ (by first | assumption | rfl) ?_) | (refine st_cell hS 2 rfl _ _ rfl _ _ rfl _ _ rfl (by decide +kernel) _ (by first | assumption | rfl) ?_) | (refine st_cell hS 3 rfl _ _ rfl _ _ rfl _ _ rfl (by decide +kernel) _ (by first | assumption | rfl) ?_) | (refine st_cell hS 4 rfl _ _ rfl _ _ rfl _ _ rfl (by decide +kernel) _ (by first | assumption | rfl) ?_) | (refine st_cell hS 5 rfl _ _ rfl _ _ rfl _ _ rfl (by decide +kernel) _ (by first | assumption | rfl) ?_) | (refine st_cell hS 6 rfl _ _ rfl _ _ rfl _ _ rfl (by decide +kernel) _ (by first | assumption | rfl) ?_) | (refine st_cell hS 7 rfl _ _ rfl _ _ rfl _ _ rfl (by decide +kernel) _ (by first | assumption | rfl) ?_)))
      refine ⟨⟨j + 1, sv4, by go_num, hlj, ?_⟩, by simp [intOf]; omega⟩
      rw [HE.out]
      exact hS.sub ((List.nil_sublist _).cons_cons _ |>.cons_cons _)
    · obtain rfl : j = L.length := by omega
      rw [List.take_length] at hS
      have hlen : Hid ((hencB L).length ≤ 1000000000000 ∧ 0 < (hencB L).length) := Lib.hid (by
        have h1 := HP.out
        have h2 := HQ.out
        have h3 := putN_gt0 L.length
        unfold hencB
        rw [List.length_append]; omega)
      go_wp2_with (first
        | ((with_reducible show wpList _ _ _ (⟨_, .binOp _ _ _ _ _, _, _, _, _⟩ :: _) _ _); (first | ((with_reducible show wpList _ _ _ (⟨_, .binOp .lss _ _ _ _, _, _, _, _⟩ :: _) _ _); refine st_lss rfl _ _ _ _ rfl _ _ _ rfl rfl (fun h_ => ?_) (fun h_ => ?_)) | ((with_reducible show wpList _ _ _ (⟨_, .binOp .leq _ _ _ _, _, _, _, _⟩ :: _) _ _); refine st_leq rfl _ _ _ _ rfl _ _ _ rfl rfl (fun h_ => ?_) (fun h_ => ?_)) | ((with_reducible show wpList _ _ _ (⟨_, .binOp .gtr _ _ _ _, _, _, _, _⟩ :: _) _ _); refine st_gtr rfl _ _ _ _ rfl _ _ _ rfl rfl (fun h_ => ?_) (fun h_ => ?_)) | ((with_reducible show wpList _ _ _ (⟨_, .binOp .geq _ _ _ _, _, _, _, _⟩ :: _) _ _); refine st_geq rfl _ _ _ _ rfl _ _ _ rfl rfl (fun h_ => ?_) (fun h_ => ?_)) | ((with_reducible show wpList _ _ _ (⟨_, .binOp .eql _ _ _ _, _, _, _, _⟩ :: _) _ _); refine st_eql rfl _ _ _ _ rfl _ _ _ rfl rfl (fun h_ => ?_) (fun h_ => ?_)) | ((with_reducible show wpList _ _ _ (⟨_, .binOp .neq _ _ _ _, _, _, _, _⟩ :: _) _ _); refine st_neq rfl _ _ _ _ rfl _ _ _ rfl rfl (fun h_ => ?_) (fun h_ => ?_))) <;> go_prune)
        | (go_at_call 76; refine (st_wout hS hlen.out.1 hlen.out.2).mono ?_; clear hS; rintro e w_ ⟨v, rfl, hS⟩))
      go_ret
      exact ⟨_, rfl, (hS.sub ((List.nil_sublist _).cons_cons _)).mono (Stable.pure True) fun _ _ _ => trivial⟩
end Go.Proofs.YtmlkgaiphpimiaaDoor
namespace Go.Proofs.YtmlkgaiphpimiaaDoor
open Go.RowKit
attribute [local go_sem ↓] Go.wp_at_zero Go.wp_at_succ
set_option maxRecDepth 20000

/-- the reader in block q has these bytes left, and this error; X, K: whatever else is known -/
def Rd (w0 w : World) (X : List Fact) (K : (Nat → Prop) → World → Prop) (q : Nat) (left : List Nat) (err : Int) : Prop :=
  Stable K ∧ ∃ A c, left.length ≤ c ∧ c ≤ maxLen ∧ St w0 w (.box q 117 #[.slice A left.length c, .int .i64 err] :: X) fun D w => K D w ∧ Sl w D 1 (.slice A left.length c) left.length (u8s left)
section
variable {w0 w : World} {X : List Fact} {K : (Nat → Prop) → World → Prop} {q : Nat} {left : List Nat} {err : Int}
theorem Rd.errc (h : Rd w0 w X K q left err) : w.cell? ⟨q, 1, none⟩ = some (.int .i64 err) := by
  obtain ⟨_, A, c, _, _, hS⟩ := h
  exact hS.shut 0 rfl 1 rfl
end
theorem rok_any (q : Nat) (err : Int) (w : World) (hc : w.cell? ⟨q, 1, none⟩ = some (.int .i64 err)) :
    Calls Tryd.prog 95 #[.pointer (some ⟨q, 0, none⟩)] w fun e w' => e = .returned (.bool (decide (err = 0))) ∧ w = w' := by
  go_enter Tryd.func95, Tryd.ntmps95
  by_cases h : err = 0
  · subst h
    go_wp2_with (first | ((with_reducible show wpList _ _ _ (⟨_, .binOp _ _ _ _ _, _, _, _, _⟩ :: _) _ _); (first | ((with_reducible show wpList _ _ _ (⟨_, .binOp .lss _ _ _ _, _, _, _, _⟩ :: _) _ _); refine st_lss rfl _ _ _ _ rfl _ _ _ rfl rfl (fun h_ => ?_) (fun h_ => ?_)) | ((with_reducible show wpList _ _ _ (⟨_, .binOp .leq _ _ _ _, _, _, _, _⟩ :: _) _ _); refine st_leq rfl _ _ _ _ rfl _ _ _ rfl rfl (fun h_ => ?_) (fun h_ => ?_)) | ((with_reducible show wpList _ _ _ (⟨_, .binOp .gtr _ _ _ _, _, _, _, _⟩ :: _) _ _); refine st_gtr rfl _ _ _ _ rfl _ _ _ rfl rfl (fun h_ => ?_) (fun h_ => ?_)) | ((with_reducible show wpList _ _ _ (⟨_, .binOp .geq _ _ _ _, _, _, _, _⟩ :: _) _ _); refine st_geq rfl _ _ _ _ rfl _ _ _ rfl rfl (fun h_ => ?_) (fun h_ => ?_)) | ((with_reducible show wpList _ _ _ (⟨_, .binOp .eql _ _ _ _, _, _, _, _⟩ :: _) _ _); refine st_eql rfl _ _ _ _ rfl _ _ _ rfl rfl (fun h_ => ?_) (fun h_ => ?_)) | ((with_reducible show wpList _ _ _ (⟨_, .binOp .neq _ _ _ _, _, _, _, _⟩ :: _) _ _); refine st_neq rfl _ _ _ _ rfl _ _ _ rfl rfl (fun h_ => ?_) (fun h_ => ?_))) <;> go_prune))
    go_ret
    exact ⟨rfl, rfl⟩
  · have h0 : (err == 0) = false := by simpa using h
    go_wp2_with fail
    go_ret
    exact ⟨by simp [h], rfl⟩
theorem rfail_any {w0 w : World} {X : List Fact} {K : (Nat → Prop) → World → Prop} {q : Nat} {left : List Nat} {err : Int} (e : Int) (h : Rd w0 w X K q left err) :
    Calls Tryd.prog 81 #[.pointer (some ⟨q, 0, none⟩), .int .i64 e] w fun r w' => ∃ v, r = .returned v ∧ Rd w0 w' X K q left (if err = 0 then e else err) := by
  have hc := h.errc
  obtain ⟨hK, A, c, l1, l2, hS⟩ := h
  have HK := Lib.hid hK
  clear hK
  go_enter Tryd.func81, Tryd.ntmps81
  by_cases h0 : err = 0
  · subst h0
    go_wp2_with (first | ((with_reducible show wpList _ _ _ (⟨_, .store _ _ _, _, _, _, _⟩ :: _) _ _); (first | (refine st_store hS 0 rfl _ _ _ rfl _ _ rfl rfl _ _ rfl (by kernel_rfl) (by kernel_rfl) (by kernel_rfl) ?_) | (refine st_store hS 1 rfl _ _ _ rfl _ _ rfl rfl _ _ rfl (by kernel_rfl) (by kernel_rfl) (by kernel_rfl) ?_) | (refine st_store hS 2 rfl _ _ _ rfl _ _ rfl rfl _ _ rfl (by kernel_rfl) (by kernel_rfl) (by kernel_rfl) ?_) | (refine st_store hS 3 rfl _ _ _ rfl _ _ rfl rfl _ _ rfl (by kernel_rfl) (by kernel_rfl) (by kernel_rfl) ?_) | (refine st_cstore hS 0 rfl _ _ _ rfl _ _ _ rfl rfl rfl (by first | (simp; done) | (simp; omega) | exact of_decide_eq_true (by kernel_rfl)) rfl (by first | rfl | assumption) (by kernel_rfl) ?_) | (refine st_cstore hS 1 rfl _ _ _ rfl _ _ _ rfl rfl rfl (by first | (simp; done) | (simp; omega) | exact of_decide_eq_true (by kernel_rfl)) rfl (by first | rfl | assumption) (by kernel_rfl) ?_) | (refine st_cstore hS 2 rfl _ _ _ rfl _ _ _ rfl rfl rfl (by first | (simp; done) | (simp; omega) | exact of_decide_eq_true (by kernel_rfl)) rfl (by first | rfl | assumption) (by kernel_rfl) ?_) | (refine st_cstore hS 3 rfl _ _ _ rfl _ _ _ rfl rfl rfl (by first | (simp; done) | (simp; omega) | exact of_decide_eq_true (by kernel_rfl)) rfl (by first | rfl | assumption) (by kernel_rfl) ?_)); clear hS; intro w_ hS; (try simp only [Act.put, Act.eval, List.set_cons_zero, List.set_cons_succ, List.setIfInBounds_toArray, Array.getD_eq_getD_getElem?, List.getElem?_toArray, List.getElem?_cons_succ, List.getElem?_cons_zero, Option.getD_some, Value.cells] at hS)) | (go_at_call 95; refine (rok_any q 0 _ hc).mono ?_; rintro r w' ⟨rfl, rfl⟩))
    go_end0
    exact ⟨⟨_, rfl⟩, HK.out, A, c, l1, l2, hS⟩
  · have hd : decide (err = 0) = false := by simpa using h0
    go_wp2_with (first | (go_at_call 95; refine (rok_any q err _ hc).mono ?_; rw [hd]; rintro r w' ⟨rfl, rfl⟩))
    go_end0
    exact ⟨⟨_, rfl⟩, HK.out, A, c, l1, l2, hS⟩
/-- the error that 'refuse' leaves -/
def refuseE (bad : Bool) (e err : Int) : Int := if bad = true ∧ err = 0 then e else err
theorem refuse_any {w0 w : World} {X : List Fact} {K : (Nat → Prop) → World → Prop} {q : Nat} {left : List Nat} {err : Int} (bad : Bool) (e : Int) (h : Rd w0 w X K q left err) :
    Calls Tryd.prog 96 #[.pointer (some ⟨q, 0, none⟩), .bool bad, .int .i64 e] w fun r w' => r = .returned (.bool !bad) ∧ Rd w0 w' X K q left (refuseE bad e err) := by
  have HH := Lib.hid h
  clear h
  go_enter Tryd.func96, Tryd.ntmps96
  cases bad
  · go_wp2_with fail
    go_ret
    exact ⟨rfl, HH.out⟩
  · go_wp2_with fail
    refine (rfail_any e HH.out).mono ?_
    rintro r w' ⟨v, rfl, h⟩
    go_wp2_with fail
    go_ret
    exact ⟨rfl, by simpa [refuseE] using h⟩

theorem and127u8 {b : Nat} (h : b < 256) : bits .and .u8 (b : Int) 127 = ((b % 128 : Nat) : Int) := by
  have := u8_and_nat b 127 h (by decide)
  rw [show ((127 : Nat) : Int) = 127 from rfl] at this
  rw [this]
  congr 1
  exact Nat.and_two_pow_sub_one_eq_mod b 7
/-- the number at the front: v is what has been read, k how many bytes -/
def numR : List Nat → Nat → Nat → Nat × Nat
  | [], _, _ => (0, 0)
  | b :: r, v, k => if (k = 0 ∧ b = 128) ∨ 144115188075855871 < v then (0, 0) else if b < 128 then (v * 128 + b % 128, k + 1) else numR r (v * 128 + b % 128) (k + 1)
theorem shl7 {v : Nat} (h : v ≤ 144115188075855871) : IntKind.u64.wrap ((v : Int) * 128) = ((v * 128 : Nat) : Int) := by
  rw [IntKind.wrap_u64]; omega
theorem or7 {v b : Nat} (h : v ≤ 144115188075855871) : bits .or .u64 ((v * 128 : Nat) : Int) ((b % 128 : Nat) : Int) = ((v * 128 + b % 128 : Nat) : Int) := by
  have := or64 (a := v * 128) (b := b % 128) (by unfold T64; omega) (by unfold T64; omega)
  rw [this]
  congr 1
  have e := Nat.two_pow_add_eq_or_of_lt (i := 7) (b := b % 128) (by omega) v
  rw [Nat.mul_comm v 128]; exact e.symm
theorem numR_lt (l : List Nat) : ∀ v k, v < T64 → (∀ x ∈ l, x < 256) → (numR l v k).1 < T64 ∧ ((numR l v k).2 = 0 ∨ (k < (numR l v k).2 ∧ (numR l v k).2 ≤ k + l.length)) := by
  induction l with
  | nil => intro v k _ _; simp [numR, T64]
  | cons b r ih =>
    intro v k hv hb
    unfold numR
    split
    · simp [T64]
    · rename_i h1
      have h2 : v ≤ 144115188075855871 := by omega
      split
      · simp; unfold T64; omega
      · have h3 := ih (v * 128 + b % 128) (k + 1) (by unfold T64; omega) (fun x hx => hb x (by simp [hx]))
        simp only [List.length_cons]
        omega
theorem rnumber_any {w0 w : World} {X : List Fact} {K : (Nat → Prop) → World → Prop} {q : Nat} {left : List Nat} {err : Int} (hl : left.length ≤ 1000000000000) (hb : Bytes left) (h : Rd w0 w X K q left err) :
    Calls Tryd.prog 97 #[.pointer (some ⟨q, 0, none⟩)] w fun r w' => r = .returned (.tuple #[.int .u64 (numR left 0 0).1, .int .i64 (numR left 0 0).2]) ∧ w = w' := by
  obtain ⟨hK, A, c, l1, l2, hS⟩ := h
  have HK := Lib.hid hK
  clear hK
  have ks : ∀ D w, (K D w ∧ Sl w D 1 (.slice A left.length c) left.length (u8s left)) → Sl w D 1 (.slice A left.length c) left.length (u8s left) := fun _ _ h => h.2
  have HB := Lib.hid hb
  have hR : Hid (numR left 0 0 = numR (left.drop 0) 0 0) := Lib.hid rfl
  generalize numR left 0 0 = RES at *
  go_enter Tryd.func97, Tryd.ntmps97
  go_wp2_with (first | ((with_reducible show wpList _ _ _ (⟨_, .load _ _, _, _, _, _⟩ :: _) _ _); first | (refine st_cell hS 0 rfl _ _ rfl _ _ rfl _ _ rfl (by decide +kernel) _ (by first | assumption | rfl) ?_) | (refine st_cell hS 1 rfl _ _ rfl _ _ rfl _ _ rfl (by decide +kernel) _ (by first | assumption | rfl) ?_) | (refine st_cell hS 2 rfl _ _ rfl _ _ rfl _ _ rfl (by decide +kernel) _ (by first | assumption | rfl) ?_) | (refine st_cell hS 3 rfl _ _ rfl _ _ rfl _ _ rfl (by decide +kernel) _ (by first | assumption | rfl) ?_) | (refine st_cell hS 4 rfl _ _ rfl _ _ rfl _ _ rfl (by decide +kernel) _ (by first | assumption | rfl) ?_) | (refine st_cell hS 5 rfl _ _ rfl _ _ rfl _ _ rfl (by decide +kernel) _ (by first | assumption | rfl) ?_) | (refine st_cell hS 6 rfl _ _ rfl _ _ rfl _ _ rfl (by decide +kernel) _ (by first | assumption | rfl) ?_) | (refine st_cell hS 7 rfl _ _ rfl _ _ rfl _ _ rfl (by decide +kernel) _ (by first | assumption | rfl) ?_)) | ((with_reducible show wpList _ _ _ (⟨_, .binOp _ _ _ _ _, _, _, _, _⟩ :: _) _ _); (first | ((with_reducible show wpList _ _ _ (⟨_, .binOp .lss _ _ _ _, _, _, _, _⟩ :: _) _ _); refine st_lss rfl _ _ _ _ rfl _ _ _ rfl rfl (fun h_ => ?_) (fun h_ => ?_)) | ((with_reducible show wpList _ _ _ (⟨_, .binOp .leq _ _ _ _, _, _, _, _⟩ :: _) _ _); refine st_leq rfl _ _ _ _ rfl _ _ _ rfl rfl (fun h_ => ?_) (fun h_ => ?_)) | ((with_reducible show wpList _ _ _ (⟨_, .binOp .gtr _ _ _ _, _, _, _, _⟩ :: _) _ _); refine st_gtr rfl _ _ _ _ rfl _ _ _ rfl rfl (fun h_ => ?_) (fun h_ => ?_)) | ((with_reducible show wpList _ _ _ (⟨_, .binOp .geq _ _ _ _, _, _, _, _⟩ :: _) _ _); refine st_geq rfl _ _ _ _ rfl _ _ _ rfl rfl (fun h_ => ?_) (fun h_ => ?_)) | ((with_reducible show wpList _ _ _ (⟨_, .binOp .eql _ _ _ _, _, _, _, _⟩ :: _) _ _); refine st_eql rfl _ _ _ _ rfl _ _ _ rfl rfl (fun h_ => ?_) (fun h_ => ?_)) | ((with_reducible show wpList _ _ _ (⟨_, .binOp .neq _ _ _ _, _, _, _, _⟩ :: _) _ _); refine st_neq rfl _ _ _ _ rfl _ _ _ rfl rfl (fun h_ => ?_) (fun h_ => ?_))) <;> go_prune))
  go_loopw [12, 4] (fun i v wr => ∃ k n : Nat, k ≤ left.length ∧ i = .int .i64 k ∧ v = .int .u64 n ∧ wr = w ∧ Hid (RES = numR (left.drop k) n k)) (fun i _ _ => left.length - (intOf i).toNat)
  case atStart => exact ⟨0, 0, by omega, rfl, rfl, rfl, hR⟩
  case round =>
    obtain ⟨k, n, hk, rfl, rfl, rfl, hR⟩ := hrel
    by_cases hlt : k < left.length
    · have f1 := u8s_at left k hlt
      have hD := hR.out
      rw [List.drop_eq_getElem_cons hlt] at hD
      have hbb := HB.out _ (List.getElem_mem hlt)
      have e : left[k] = left.getD k 0 := by simp [List.getD_eq_getElem?_getD, List.getElem?_eq_getElem hlt]
      rw [e] at hD hbb
      generalize left.getD k 0 = b at *
      have HD := Lib.hid hD
      have e1 := and127u8 hbb
      clear hD e
      by_cases hv : n ≤ 144115188075855871
      · have e2 := shl7 hv
        have e3 : bits .or .u64 ((n : Int) * 128) ((b : Int) % 128) = ((n * 128 + b % 128 : Nat) : Int) := by
          rw [show ((n : Int) * 128) = ((n * 128 : Nat) : Int) by simp, show ((b : Int) % 128) = ((b % 128 : Nat) : Int) by simp]; exact or7 hv
        obtain ⟨m, hm⟩ : ∃ m, m = n * 128 + b % 128 := ⟨_, rfl⟩
        rw [← hm] at e3
        have HM := Lib.hid hm
        clear hm
        go_wp2_with (first | ((with_reducible show wpList _ _ _ (⟨_, .load _ _, _, _, _, _⟩ :: _) _ _); first | (refine st_cell hS 0 rfl _ _ rfl _ _ rfl _ _ rfl (by decide +kernel) _ (by first | assumption | rfl) ?_) | (refine st_cell hS 1 rfl _ _ rfl _ _ rfl _ _ rfl (by decide +kernel) _ (by first | assumption | rfl) ?_) | (refine st_cell hS 2 rfl _ _ rfl _ _ rfl _ _ rfl (by decide +kernel) _ (by first | assumption | rfl) ?_) | (refine st_cell hS 3 rfl _ _ rfl _ _ rfl _ _ rfl (by decide +kernel) _ (by first | assumption | rfl) ?_) | (refine st_cell hS 4 rfl _ _ rfl _ _ rfl _ _ rfl (by decide +kernel) _ (by first | assumption | rfl) ?_) | (refine st_cell hS 5 rfl _ _ rfl _ _ rfl _ _ rfl (by decide +kernel) _ (by first | assumption | rfl) ?_) | (refine st_cell hS 6 rfl _ _ rfl _ _ rfl _ _ rfl (by decide +kernel) _ (by first | assumption | rfl) ?_) | (refine st_cell hS 7 rfl _ _ rfl _ _ rfl _ _ rfl (by decide +kernel) _ (by first | assumption | rfl) ?_)) | ((with_reducible show wpList _ _ _ (⟨_, .binOp _ _ _ _ _, _, _, _, _⟩ :: _) _ _); (first | ((with_reducible show wpList _ _ _ (⟨_, .binOp .lss _ _ _ _, _, _, _, _⟩ :: _) _ _); refine st_lss rfl _ _ _ _ rfl _ _ _ rfl rfl (fun h_ => ?_) (fun h_ => ?_)) | ((with_reducible show wpList _ _ _ (⟨_, .binOp .leq _ _ _ _, _, _, _, _⟩ :: _) _ _); refine st_leq rfl _ _ _ _ rfl _ _ _ rfl rfl (fun h_ => ?_) (fun h_ => ?_)) | ((with_reducible show wpList _ _ _ (⟨_, .binOp .gtr _ _ _ _, _, _, _, _⟩ :: _) _ _); refine st_gtr rfl _ _ _ _ rfl _ _ _ rfl rfl (fun h_ => ?_) (fun h_ => ?_)) | ((with_reducible show wpList _ _ _ (⟨_, .binOp .geq _ _ _ _, _, _, _, _⟩ :: _) _ _); refine st_geq rfl _ _ _ _ rfl _ _ _ rfl rfl (fun h_ => ?_) (fun h_ => ?_)) | ((with_reducible show wpList _ _ _ (⟨_, .binOp .eql _ _ _ _, _, _, _, _⟩ :: _) _ _); refine st_eql rfl _ _ _ _ rfl _ _ _ rfl rfl (fun h_ => ?_) (fun h_ => ?_)) | ((with_reducible show wpList _ _ _ (⟨_, .binOp .neq _ _ _ _, _, _, _, _⟩ :: _) _ _); refine st_neq rfl _ _ _ _ rfl _ _ _ rfl rfl (fun h_ => ?_) (fun h_ => ?_))) <;> go_prune) | ((with_reducible show wpList _ _ _ (⟨_, .indexAddr _ _ _, _, _, _, _⟩ :: _) _ _); refine st_iaddr1 hS rfl _ _ _ rfl _ rfl rfl (by assumption) Tryd.underlying63 (by kernel_rfl) (by first | assumption | omega) _ (by assumption) ?_; intro p_ hc_))
        all_goals first
          | (have hE : RES = (0, 0) := by rw [HD.out, numR, if_pos (by omega)]
             subst hE; go_ret2; exact ⟨rfl, rfl⟩)
          | (have hE : RES = (m, k + 1) := by rw [HD.out, numR, if_neg (by omega), if_pos (by omega), HM.out]
             subst hE; go_ret2; refine ⟨?_, rfl⟩; (first | (simp; done) | (simp; omega)))
          | exact ⟨⟨k + 1, m, hlt, by go_num, rfl, trivial, Lib.hid (by rw [HD.out, numR, if_neg (by omega), if_neg (by omega), HM.out])⟩, by simp [intOf]; omega⟩
          | exact ⟨⟨k + 1, m, hlt, by simp; omega, rfl, trivial, Lib.hid (by rw [HD.out, numR, if_neg (by omega), if_neg (by omega), HM.out])⟩, by simp [intOf]; omega⟩
      · go_wp2_with (first | ((with_reducible show wpList _ _ _ (⟨_, .load _ _, _, _, _, _⟩ :: _) _ _); first | (refine st_cell hS 0 rfl _ _ rfl _ _ rfl _ _ rfl (by decide +kernel) _ (by first | assumption | rfl) ?_) | (refine st_cell hS 1 rfl _ _ rfl _ _ rfl _ _ rfl (by decide +kernel) _ (by first | assumption | rfl) ?_) | (refine st_cell hS 2 rfl _ _ rfl _ _ rfl _ _ rfl (by decide +kernel) _ (by first | assumption | rfl) ?_) | (refine st_cell hS 3 rfl _ _ rfl _ _ rfl _ _ rfl (by decide +kernel) _ (by first | assumption | rfl) ?_) | (refine st_cell hS 4 rfl _ _ rfl _ _ rfl _ _ rfl (by decide +kernel) _ (by first | assumption | rfl) ?_) | (refine st_cell hS 5 rfl _ _ rfl _ _ rfl _ _ rfl (by decide +kernel) _ (by first | assumption | rfl) ?_) | (refine st_cell hS 6 rfl _ _ rfl _ _ rfl _ _ rfl (by decide +kernel) _ (by first | assumption | rfl) ?_) | (refine st_cell hS 7 rfl _ _ rfl _ _ rfl _ _ rfl (by decide +kernel) _ (by first | assumption | rfl) ?_)) | ((with_reducible show wpList _ _ _ (⟨_, .binOp _ _ _ _ _, _, _, _, _⟩ :: _) _ _); (first | ((with_reducible show wpList _ _ _ (⟨_, .binOp .lss _ _ _ _, _, _, _, _⟩ :: _) _ _); refine st_lss rfl _ _ _ _ rfl _ _ _ rfl rfl (fun h_ => ?_) (fun h_ => ?_)) | ((with_reducible show wpList _ _ _ (⟨_, .binOp .leq _ _ _ _, _, _, _, _⟩ :: _) _ _); refine st_leq rfl _ _ _ _ rfl _ _ _ rfl rfl (fun h_ => ?_) (fun h_ => ?_)) | ((with_reducible show wpList _ _ _ (⟨_, .binOp .gtr _ _ _ _, _, _, _, _⟩ :: _) _ _); refine st_gtr rfl _ _ _ _ rfl _ _ _ rfl rfl (fun h_ => ?_) (fun h_ => ?_)) | ((with_reducible show wpList _ _ _ (⟨_, .binOp .geq _ _ _ _, _, _, _, _⟩ :: _) _ _); refine st_geq rfl _ _ _ _ rfl _ _ _ rfl rfl (fun h_ => ?_) (fun h_ => ?_)) | ((with_reducible show wpList _ _ _ (⟨_, .binOp .eql _ _ _ _, _, _, _, _⟩ :: _) _ _); refine st_eql rfl _ _ _ _ rfl _ _ _ rfl rfl (fun h_ => ?_) (fun h_ => ?_)) | ((with_reducible show wpList _ _ _ (⟨_, .binOp .neq _ _ _ _, _, _, _, _⟩ :: _) _ _); refine st_neq rfl _ _ _ _ rfl _ _ _ rfl rfl (fun h_ => ?_) (fun h_ => ?_))) <;> go_prune) | ((with_reducible show wpList _ _ _ (⟨_, .indexAddr _ _ _, _, _, _, _⟩ :: _) _ _); refine st_iaddr1 hS rfl _ _ _ rfl _ rfl rfl (by assumption) Tryd.underlying63 (by kernel_rfl) (by first | assumption | omega) _ (by assumption) ?_; intro p_ hc_))
        all_goals
          have hE : RES = (0, 0) := by rw [HD.out, numR, if_pos (by omega)]
          subst hE; go_ret2; exact ⟨rfl, rfl⟩
    · obtain rfl : k = left.length := by omega
      have hE : RES = (0, 0) := by rw [hR.out]; simp [numR]
      subst hE
      go_wp2_with (first | ((with_reducible show wpList _ _ _ (⟨_, .load _ _, _, _, _, _⟩ :: _) _ _); first | (refine st_cell hS 0 rfl _ _ rfl _ _ rfl _ _ rfl (by decide +kernel) _ (by first | assumption | rfl) ?_) | (refine st_cell hS 1 rfl _ _ rfl _ _ rfl _ _ rfl (by decide +kernel) _ (by first | assumption | rfl) ?_) | (refine st_cell hS 2 rfl _ _ rfl _ _ rfl _ _ rfl (by decide +kernel) _ (by first | assumption | rfl) ?_) | (refine st_cell hS 3 rfl _ _ rfl _ _ rfl _ _ rfl (by decide +kernel) _ (by first | assumption | rfl) ?_) | (refine st_cell hS 4 rfl _ _ rfl _ _ rfl _ _ rfl (by decide +kernel) _ (by first | assumption | rfl) ?_) | (refine st_cell hS 5 rfl _ _ rfl _ _ rfl _ _ rfl (by decide +kernel) _ (by first | assumption | rfl) ?_) | (refine st_cell hS 6 rfl _ _ rfl _ _ rfl _ _ rfl (by decide +kernel) _ (by first | assumption | rfl) ?_) | (refine st_cell hS 7 rfl _ _ rfl _ _ rfl _ _ rfl (by decide +kernel) _ (by first | assumption | rfl) ?_)) | ((with_reducible show wpList _ _ _ (⟨_, .binOp _ _ _ _ _, _, _, _, _⟩ :: _) _ _); (first | ((with_reducible show wpList _ _ _ (⟨_, .binOp .lss _ _ _ _, _, _, _, _⟩ :: _) _ _); refine st_lss rfl _ _ _ _ rfl _ _ _ rfl rfl (fun h_ => ?_) (fun h_ => ?_)) | ((with_reducible show wpList _ _ _ (⟨_, .binOp .leq _ _ _ _, _, _, _, _⟩ :: _) _ _); refine st_leq rfl _ _ _ _ rfl _ _ _ rfl rfl (fun h_ => ?_) (fun h_ => ?_)) | ((with_reducible show wpList _ _ _ (⟨_, .binOp .gtr _ _ _ _, _, _, _, _⟩ :: _) _ _); refine st_gtr rfl _ _ _ _ rfl _ _ _ rfl rfl (fun h_ => ?_) (fun h_ => ?_)) | ((with_reducible show wpList _ _ _ (⟨_, .binOp .geq _ _ _ _, _, _, _, _⟩ :: _) _ _); refine st_geq rfl _ _ _ _ rfl _ _ _ rfl rfl (fun h_ => ?_) (fun h_ => ?_)) | ((with_reducible show wpList _ _ _ (⟨_, .binOp .eql _ _ _ _, _, _, _, _⟩ :: _) _ _); refine st_eql rfl _ _ _ _ rfl _ _ _ rfl rfl (fun h_ => ?_) (fun h_ => ?_)) | ((with_reducible show wpList _ _ _ (⟨_, .binOp .neq _ _ _ _, _, _, _, _⟩ :: _) _ _); refine st_neq rfl _ _ _ _ rfl _ _ _ rfl rfl (fun h_ => ?_) (fun h_ => ?_))) <;> go_prune))
      go_ret2
      exact ⟨rfl, rfl⟩

theorem sl_take {w : World} {D : Nat → Prop} {A : Option Addr} {m c n : Nat} {xs : List Value} (h : Sl w D 1 (.slice A m c) m xs) (hn : n ≤ m) : Sl w D 1 (.slice A n c) n (xs.take n) := by
  obtain ⟨h1, A', c', e, h2, h3, h4⟩ := h
  injection e with e1 _ e2
  subst e1 e2
  refine ⟨by rw [List.length_take, h1]; omega, A, c, rfl, by omega, h3, fun h0 => ?_⟩
  obtain ⟨b, o, h5, h6, h7, h8⟩ := h4 (by omega)
  refine ⟨b, o, h5, h6, h7, fun j x hj => h8 j x ?_⟩
  rw [List.getElem?_take] at hj
  split at hj
  · exact hj
  · cases hj
theorem sl_drop {w : World} {D : Nat → Prop} {A : Option Addr} {m c n : Nat} {xs : List Value} (h : Sl w D 1 (.slice A m c) m xs) (hn : n ≤ m) (hc : m ≤ c) : Sl w D 1 (.slice (if c = n then A else Option.map (fun x => x.add n) A) (m - n) (c - n)) (m - n) (xs.drop n) := by
  obtain ⟨h1, A', c', e, h2, h3, h4⟩ := h
  injection e with e1 _ e2
  subst e1 e2
  refine ⟨by rw [List.length_drop, h1]; omega, _, c - n, rfl, by omega, by omega, fun h0 => ?_⟩
  obtain ⟨b, o, rfl, h6, h7, h8⟩ := h4 (by omega)
  rw [if_neg (by omega)]
  refine ⟨b, o + n, by simp [Addr.add_lit], h6, h7, fun j x hj => ?_⟩
  rw [List.getElem?_drop] at hj
  have := h8 _ x hj
  rw [← Nat.add_assoc] at this; exact this
theorem clone_n_any (p : Value) (n : Nat) (ps : List Nat) (w : World) (D : Nat → Prop) (hp : Sl w D 1 p n (u8s ps)) (hlen : n ≤ 1000000000000) :
    Calls Tryd.prog 52 #[p] w (Ret (fun x w' => Sl w' (w.heap.size ≤ ·) 1 x n (u8s ps)) w) := by
  have e : ps.length = n := by have := hp.1; simpa [u8s] using this
  subst e
  exact clone_bytes_any p ps w D hp hlen
theorem u8s_take (l : List Nat) (n : Nat) : u8s (l.take n) = (u8s l).take n := by simp [u8s, List.map_take]
theorem u8s_drop (l : List Nat) (n : Nat) : u8s (l.drop n) = (u8s l).drop n := by simp [u8s, List.map_drop]
theorem rtake_any {w0 w : World} {X : List Fact} {K : (Nat → Prop) → World → Prop} {q : Nat} {left : List Nat} {err : Int} (n : Nat) (hn : n ≤ left.length) (hl : left.length ≤ 1000000000000) (h : Rd w0 w X K q left err) :
    Calls Tryd.prog 98 #[.pointer (some ⟨q, 0, none⟩), .int .i64 n] w fun r w' => ∃ v, r = .returned v ∧ Rd w0 w' X (fun D w => K D w ∧ Sl w D 1 v n (u8s (left.take n))) q (left.drop n) err := by
  obtain ⟨hK, A, c, l1, l2, hS⟩ := h
  have HK := Lib.hid hK
  clear hK
  go_enter Tryd.func98, Tryd.ntmps98
  go_wp2_with (first | ((with_reducible show wpList _ _ _ (⟨_, .load _ _, _, _, _, _⟩ :: _) _ _); first | (refine st_cell hS 0 rfl _ _ rfl _ _ rfl _ _ rfl (by decide +kernel) _ (by first | assumption | rfl) ?_) | (refine st_cell hS 1 rfl _ _ rfl _ _ rfl _ _ rfl (by decide +kernel) _ (by first | assumption | rfl) ?_) | (refine st_cell hS 2 rfl _ _ rfl _ _ rfl _ _ rfl (by decide +kernel) _ (by first | assumption | rfl) ?_) | (refine st_cell hS 3 rfl _ _ rfl _ _ rfl _ _ rfl (by decide +kernel) _ (by first | assumption | rfl) ?_) | (refine st_cell hS 4 rfl _ _ rfl _ _ rfl _ _ rfl (by decide +kernel) _ (by first | assumption | rfl) ?_) | (refine st_cell hS 5 rfl _ _ rfl _ _ rfl _ _ rfl (by decide +kernel) _ (by first | assumption | rfl) ?_) | (refine st_cell hS 6 rfl _ _ rfl _ _ rfl _ _ rfl (by decide +kernel) _ (by first | assumption | rfl) ?_) | (refine st_cell hS 7 rfl _ _ rfl _ _ rfl _ _ rfl (by decide +kernel) _ (by first | assumption | rfl) ?_)))
  have hs : ∀ D w, (K D w ∧ Sl w D 1 (.slice A left.length c) left.length (u8s left)) → Sl w D 1 (.slice A n c) n (u8s (left.take n)) := fun D w h => by
    rw [u8s_take]; exact sl_take h.2 hn
  refine (clone_n_any _ n (left.take n) _ _ (hs _ _ hS.ro) (by omega)).mono ?_
  rintro r w2 ⟨v, rfl, h2, hb2⟩
  replace hS := hS.ret hb2 stable_sl h2
  go_wp2_with (first | ((with_reducible show wpList _ _ _ (⟨_, .load _ _, _, _, _, _⟩ :: _) _ _); first | (refine st_cell hS 0 rfl _ _ rfl _ _ rfl _ _ rfl (by decide +kernel) _ (by first | assumption | rfl) ?_) | (refine st_cell hS 1 rfl _ _ rfl _ _ rfl _ _ rfl (by decide +kernel) _ (by first | assumption | rfl) ?_) | (refine st_cell hS 2 rfl _ _ rfl _ _ rfl _ _ rfl (by decide +kernel) _ (by first | assumption | rfl) ?_) | (refine st_cell hS 3 rfl _ _ rfl _ _ rfl _ _ rfl (by decide +kernel) _ (by first | assumption | rfl) ?_) | (refine st_cell hS 4 rfl _ _ rfl _ _ rfl _ _ rfl (by decide +kernel) _ (by first | assumption | rfl) ?_) | (refine st_cell hS 5 rfl _ _ rfl _ _ rfl _ _ rfl (by decide +kernel) _ (by first | assumption | rfl) ?_) | (refine st_cell hS 6 rfl _ _ rfl _ _ rfl _ _ rfl (by decide +kernel) _ (by first | assumption | rfl) ?_) | (refine st_cell hS 7 rfl _ _ rfl _ _ rfl _ _ rfl (by decide +kernel) _ (by first | assumption | rfl) ?_)) | ((with_reducible show wpList _ _ _ (⟨_, .store _ _ _, _, _, _, _⟩ :: _) _ _); (first | (refine st_store hS 0 rfl _ _ _ rfl _ _ rfl rfl _ _ rfl (by kernel_rfl) (by kernel_rfl) (by kernel_rfl) ?_) | (refine st_store hS 1 rfl _ _ _ rfl _ _ rfl rfl _ _ rfl (by kernel_rfl) (by kernel_rfl) (by kernel_rfl) ?_) | (refine st_store hS 2 rfl _ _ _ rfl _ _ rfl rfl _ _ rfl (by kernel_rfl) (by kernel_rfl) (by kernel_rfl) ?_) | (refine st_store hS 3 rfl _ _ _ rfl _ _ rfl rfl _ _ rfl (by kernel_rfl) (by kernel_rfl) (by kernel_rfl) ?_) | (refine st_cstore hS 0 rfl _ _ _ rfl _ _ _ rfl rfl rfl (by first | (simp; done) | (simp; omega) | exact of_decide_eq_true (by kernel_rfl)) rfl (by first | rfl | assumption) (by kernel_rfl) ?_) | (refine st_cstore hS 1 rfl _ _ _ rfl _ _ _ rfl rfl rfl (by first | (simp; done) | (simp; omega) | exact of_decide_eq_true (by kernel_rfl)) rfl (by first | rfl | assumption) (by kernel_rfl) ?_) | (refine st_cstore hS 2 rfl _ _ _ rfl _ _ _ rfl rfl rfl (by first | (simp; done) | (simp; omega) | exact of_decide_eq_true (by kernel_rfl)) rfl (by first | rfl | assumption) (by kernel_rfl) ?_) | (refine st_cstore hS 3 rfl _ _ _ rfl _ _ _ rfl rfl rfl (by first | (simp; done) | (simp; omega) | exact of_decide_eq_true (by kernel_rfl)) rfl (by first | rfl | assumption) (by kernel_rfl) ?_)); clear hS; intro w_ hS; (try simp only [Act.put, Act.eval, List.set_cons_zero, List.set_cons_succ, List.setIfInBounds_toArray, Array.getD_eq_getD_getElem?, List.getElem?_toArray, List.getElem?_cons_succ, List.getElem?_cons_zero, Option.getD_some, Value.cells] at hS)))
  all_goals
    go_ret
    exact ⟨_, rfl, HK.out.and stable_sl, _, c - n, by rw [List.length_drop]; omega, by omega, by
      rw [show (left.drop n).length = left.length - n from List.length_drop ..]
      exact hS.mono ((HK.out.and stable_sl).and stable_sl) fun D w h => ⟨⟨h.1.1, h.2⟩, by rw [u8s_drop]; exact sl_drop h.1.2 hn l1⟩⟩
end Go.Proofs.YtmlkgaiphpimiaaDoor
namespace Go.Proofs.YtmlkgaiphpimiaaDoor
open Go.RowKit
attribute [local go_sem ↓] Go.wp_at_zero Go.wp_at_succ
set_option maxRecDepth 20000

theorem Rd.weak {w0 w : World} {X : List Fact} {K K' : (Nat → Prop) → World → Prop} {q : Nat} {left : List Nat} {err : Int} (h : Rd w0 w X K q left err) (hs : Stable K') (hk : ∀ D w, K D w → K' D w) : Rd w0 w X K' q left err := by
  obtain ⟨_, A, c, l1, l2, hS⟩ := h
  exact ⟨hs, A, c, l1, l2, hS.mono (hs.and stable_sl) fun D w h => ⟨hk D w h.1, h.2⟩⟩
/-- what Uint reads: the number, what is left, the error -/
def readUint (most : Nat) (left : List Nat) (err : Int) : Nat × List Nat × Int :=
  if err = 0 then
    if (numR left 0 0).2 = 0 then (0, left, 6) else if most < (numR left 0 0).1 then (0, left, 2) else ((numR left 0 0).1, left.drop (numR left 0 0).2, 0)
  else (0, left, err)
theorem ruint_any {w0 w : World} {X : List Fact} {K : (Nat → Prop) → World → Prop} {q : Nat} {left : List Nat} {err : Int} (most : Nat) (hl : left.length ≤ 1000000000000) (hb : Bytes left) (hR : Rd w0 w X K q left err) :
    Calls Tryd.prog 99 #[.pointer (some ⟨q, 0, none⟩), .int .u64 most] w fun r w' => r = .returned (.int .u64 (readUint most left err).1) ∧ Rd w0 w' X K q (readUint most left err).2.1 (readUint most left err).2.2 := by
  have HK := Lib.hid hR.1
  go_enter Tryd.func99, Tryd.ntmps99
  by_cases h0 : err = 0
  · subst h0
    have HE := Lib.hid (show readUint most left 0 = if (numR left 0 0).2 = 0 then (0, left, 6) else if most < (numR left 0 0).1 then (0, left, 2) else ((numR left 0 0).1, left.drop (numR left 0 0).2, 0) from rfl)
    generalize readUint most left 0 = RES at *
    have hn := (numR_lt left 0 0 (by decide) hb).2
    have HN := Lib.hid (@rnumber_any w0 w X K q left 0 hl hb hR)
    generalize numR left 0 0 = V at *
    obtain ⟨v, n⟩ := V
    dsimp only at hn HN HE
    go_wp2_with (first | ((with_reducible show wpList _ _ _ (⟨_, .binOp _ _ _ _ _, _, _, _, _⟩ :: _) _ _); (first | ((with_reducible show wpList _ _ _ (⟨_, .binOp .lss _ _ _ _, _, _, _, _⟩ :: _) _ _); refine st_lss rfl _ _ _ _ rfl _ _ _ rfl rfl (fun h_ => ?_) (fun h_ => ?_)) | ((with_reducible show wpList _ _ _ (⟨_, .binOp .leq _ _ _ _, _, _, _, _⟩ :: _) _ _); refine st_leq rfl _ _ _ _ rfl _ _ _ rfl rfl (fun h_ => ?_) (fun h_ => ?_)) | ((with_reducible show wpList _ _ _ (⟨_, .binOp .gtr _ _ _ _, _, _, _, _⟩ :: _) _ _); refine st_gtr rfl _ _ _ _ rfl _ _ _ rfl rfl (fun h_ => ?_) (fun h_ => ?_)) | ((with_reducible show wpList _ _ _ (⟨_, .binOp .geq _ _ _ _, _, _, _, _⟩ :: _) _ _); refine st_geq rfl _ _ _ _ rfl _ _ _ rfl rfl (fun h_ => ?_) (fun h_ => ?_)) | ((with_reducible show wpList _ _ _ (⟨_, .binOp .eql _ _ _ _, _, _, _, _⟩ :: _) _ _); refine st_eql rfl _ _ _ _ rfl _ _ _ rfl rfl (fun h_ => ?_) (fun h_ => ?_)) | ((with_reducible show wpList _ _ _ (⟨_, .binOp .neq _ _ _ _, _, _, _, _⟩ :: _) _ _); refine st_neq rfl _ _ _ _ rfl _ _ _ rfl rfl (fun h_ => ?_) (fun h_ => ?_))) <;> go_prune) | (go_at_call 95; refine (rok_any _ _ _ hR.errc).mono ?_; rintro r_ w_ ⟨rfl, rfl⟩) | (go_at_call 96; refine (refuse_any _ _ hR).mono ?_; clear hR; rintro r_ w_ ⟨rfl, hR⟩) | (go_at_call 97; refine HN.out.mono ?_; rintro r_ w_ ⟨rfl, rfl⟩))
    · have hE : RES = (0, left, 6) := by rw [HE.out, if_pos (by omega)]
      subst hE; go_ret; exact ⟨rfl, hR⟩
    · have hE : RES = (0, left, 2) := by rw [HE.out, if_neg (by omega), if_pos (by omega)]
      subst hE; go_ret; exact ⟨rfl, hR⟩
    · refine (rtake_any n (by omega) hl hR).mono ?_
      rintro r w2 ⟨v2, rfl, hR2⟩
      go_wp2_with fail
      have hE : RES = (v, left.drop n, 0) := by rw [HE.out, if_neg (by omega), if_neg (by omega)]
      subst hE; go_ret; exact ⟨rfl, hR2.weak HK.out fun _ _ h => h.1⟩
  · have hd : decide (err = 0) = false := by simpa using h0
    have HE := Lib.hid (show readUint most left err = (0, left, err) by rw [readUint, if_neg h0])
    go_wp2_with (go_at_call 95; refine (rok_any _ _ _ hR.errc).mono ?_; rw [hd]; rintro r_ w_ ⟨rfl, rfl⟩)
    rw [HE.out]
    go_ret
    exact ⟨rfl, hR⟩

theorem rnumberm_any {w0 w : World} {X : List Fact} {K : (Nat → Prop) → World → Prop} {q : Nat} {left : List Nat} {err : Int} (most : Nat) (hm : most ≤ 1000000000000) (hl : left.length ≤ 1000000000000) (hb : Bytes left) (hR : Rd w0 w X K q left err) :
    Calls Tryd.prog 80 #[.pointer (some ⟨q, 0, none⟩), .int .i64 most] w fun r w' => r = .returned (.int .i64 (readUint most left err).1) ∧ Rd w0 w' X K q (readUint most left err).2.1 (readUint most left err).2.2 := by
  have hle : (readUint most left err).1 ≤ most := by
    unfold readUint
    split
    · split
      · simp
      · split
        · simp
        · simp; omega
    · simp
  have hw := wrap_u64_nat (m := most) (by unfold T64; omega)
  have hw2 := wrap_i64_nat (m := (readUint most left err).1) (by omega)
  go_enter Tryd.func80, Tryd.ntmps80
  by_cases h0 : err = 0
  · subst h0
    go_wp2_with (first | ((with_reducible show wpList _ _ _ (⟨_, .binOp _ _ _ _ _, _, _, _, _⟩ :: _) _ _); (first | ((with_reducible show wpList _ _ _ (⟨_, .binOp .lss _ _ _ _, _, _, _, _⟩ :: _) _ _); refine st_lss rfl _ _ _ _ rfl _ _ _ rfl rfl (fun h_ => ?_) (fun h_ => ?_)) | ((with_reducible show wpList _ _ _ (⟨_, .binOp .leq _ _ _ _, _, _, _, _⟩ :: _) _ _); refine st_leq rfl _ _ _ _ rfl _ _ _ rfl rfl (fun h_ => ?_) (fun h_ => ?_)) | ((with_reducible show wpList _ _ _ (⟨_, .binOp .gtr _ _ _ _, _, _, _, _⟩ :: _) _ _); refine st_gtr rfl _ _ _ _ rfl _ _ _ rfl rfl (fun h_ => ?_) (fun h_ => ?_)) | ((with_reducible show wpList _ _ _ (⟨_, .binOp .geq _ _ _ _, _, _, _, _⟩ :: _) _ _); refine st_geq rfl _ _ _ _ rfl _ _ _ rfl rfl (fun h_ => ?_) (fun h_ => ?_)) | ((with_reducible show wpList _ _ _ (⟨_, .binOp .eql _ _ _ _, _, _, _, _⟩ :: _) _ _); refine st_eql rfl _ _ _ _ rfl _ _ _ rfl rfl (fun h_ => ?_) (fun h_ => ?_)) | ((with_reducible show wpList _ _ _ (⟨_, .binOp .neq _ _ _ _, _, _, _, _⟩ :: _) _ _); refine st_neq rfl _ _ _ _ rfl _ _ _ rfl rfl (fun h_ => ?_) (fun h_ => ?_))) <;> go_prune) | (go_at_call 95; refine (rok_any _ _ _ hR.errc).mono ?_; rintro r_ w_ ⟨rfl, rfl⟩) | (go_at_call 96; refine (refuse_any _ _ hR).mono ?_; clear hR; rintro r_ w_ ⟨rfl, hR⟩))
    refine (ruint_any most hl hb hR).mono ?_
    rintro r w2 ⟨rfl, hR2⟩
    have HR := Lib.hid hR2
    clear hR2
    have hr : refuseE false 1 0 = 0 := rfl
    rw [hr] at *
    generalize hv : (readUint most left 0).1 = v at *
    have HV := Lib.hid hv
    clear hv
    go_wp2_with fail
    go_ret
    exact ⟨by simp [HV.out], HR.out⟩
  · have hd : decide (err = 0) = false := by simpa using h0
    have HE := Lib.hid (show readUint most left err = (0, left, err) by rw [readUint, if_neg h0])
    go_wp2_with (go_at_call 95; refine (rok_any _ _ _ hR.errc).mono ?_; rw [hd]; rintro r_ w_ ⟨rfl, rfl⟩)
    rw [HE.out]
    go_ret
    exact ⟨rfl, hR⟩
/-- what Count reads -/
def readCount (most : Nat) (left : List Nat) (err : Int) : Nat × List Nat × Int :=
  if err = 0 then
    if (numR left 0 0).2 = 0 then (0, left, 6) else if most < (numR left 0 0).1 then (0, left, 3) else ((numR left 0 0).1, left.drop (numR left 0 0).2, 0)
  else (0, left, err)
theorem rcount_any {w0 w : World} {X : List Fact} {K : (Nat → Prop) → World → Prop} {q : Nat} {left : List Nat} {err : Int} (most : Nat) (hm : most ≤ 1000000000000) (hl : left.length ≤ 1000000000000) (hb : Bytes left) (hR : Rd w0 w X K q left err) :
    Calls Tryd.prog 78 #[.pointer (some ⟨q, 0, none⟩), .int .i64 most] w fun r w' => r = .returned (.int .i64 (readCount most left err).1) ∧ Rd w0 w' X K q (readCount most left err).2.1 (readCount most left err).2.2 := by
  have HK := Lib.hid hR.1
  have hw := wrap_u64_nat (m := most) (by unfold T64; omega)
  go_enter Tryd.func78, Tryd.ntmps78
  by_cases h0 : err = 0
  · subst h0
    have HE := Lib.hid (show readCount most left 0 = if (numR left 0 0).2 = 0 then (0, left, 6) else if most < (numR left 0 0).1 then (0, left, 3) else ((numR left 0 0).1, left.drop (numR left 0 0).2, 0) from rfl)
    generalize readCount most left 0 = RES at *
    have hn := (numR_lt left 0 0 (by decide) hb).2
    have HN := Lib.hid fun (w : World) (h : Rd w0 w X K q left 0) => rnumber_any (w := w) hl hb h
    generalize numR left 0 0 = V at *
    obtain ⟨v, n⟩ := V
    dsimp only at hn HN HE
    go_wp2_with (first | ((with_reducible show wpList _ _ _ (⟨_, .binOp _ _ _ _ _, _, _, _, _⟩ :: _) _ _); (first | ((with_reducible show wpList _ _ _ (⟨_, .binOp .lss _ _ _ _, _, _, _, _⟩ :: _) _ _); refine st_lss rfl _ _ _ _ rfl _ _ _ rfl rfl (fun h_ => ?_) (fun h_ => ?_)) | ((with_reducible show wpList _ _ _ (⟨_, .binOp .leq _ _ _ _, _, _, _, _⟩ :: _) _ _); refine st_leq rfl _ _ _ _ rfl _ _ _ rfl rfl (fun h_ => ?_) (fun h_ => ?_)) | ((with_reducible show wpList _ _ _ (⟨_, .binOp .gtr _ _ _ _, _, _, _, _⟩ :: _) _ _); refine st_gtr rfl _ _ _ _ rfl _ _ _ rfl rfl (fun h_ => ?_) (fun h_ => ?_)) | ((with_reducible show wpList _ _ _ (⟨_, .binOp .geq _ _ _ _, _, _, _, _⟩ :: _) _ _); refine st_geq rfl _ _ _ _ rfl _ _ _ rfl rfl (fun h_ => ?_) (fun h_ => ?_)) | ((with_reducible show wpList _ _ _ (⟨_, .binOp .eql _ _ _ _, _, _, _, _⟩ :: _) _ _); refine st_eql rfl _ _ _ _ rfl _ _ _ rfl rfl (fun h_ => ?_) (fun h_ => ?_)) | ((with_reducible show wpList _ _ _ (⟨_, .binOp .neq _ _ _ _, _, _, _, _⟩ :: _) _ _); refine st_neq rfl _ _ _ _ rfl _ _ _ rfl rfl (fun h_ => ?_) (fun h_ => ?_))) <;> go_prune) | (go_at_call 95; refine (rok_any _ _ _ hR.errc).mono ?_; rintro r_ w_ ⟨rfl, rfl⟩) | (go_at_call 96; refine (refuse_any _ _ hR).mono ?_; clear hR; rintro r_ w_ ⟨rfl, hR⟩) | (go_at_call 97; refine (HN.out _ hR).mono ?_; rintro r_ w_ ⟨rfl, rfl⟩))
    · have hE : RES = (0, left, 6) := by rw [HE.out, if_pos (by omega)]
      subst hE; go_ret; exact ⟨rfl, hR⟩
    · have hE : RES = (0, left, 3) := by rw [HE.out, if_neg (by omega), if_pos (by omega)]
      subst hE; go_ret; exact ⟨rfl, hR⟩
    · have hw2 := wrap_i64_nat (m := v) (by omega)
      refine (rtake_any n (by omega) hl hR).mono ?_
      rintro r w2 ⟨v2, rfl, hR2⟩
      go_wp2_with fail
      have hE : RES = (v, left.drop n, 0) := by rw [HE.out, if_neg (by omega), if_neg (by omega)]
      subst hE; go_ret; exact ⟨by simp, hR2.weak HK.out fun _ _ h => h.1⟩
  · have hd : decide (err = 0) = false := by simpa using h0
    have HE := Lib.hid (show readCount most left err = (0, left, err) by rw [readCount, if_neg h0])
    go_wp2_with (go_at_call 95; refine (rok_any _ _ _ hR.errc).mono ?_; rw [hd]; rintro r_ w_ ⟨rfl, rfl⟩)
    rw [HE.out]
    go_ret
    exact ⟨rfl, hR⟩

end Go.Proofs.YtmlkgaiphpimiaaDoor
namespace Go.Proofs.YtmlkgaiphpimiaaDoor
open Go.RowKit
attribute [local go_sem ↓] Go.wp_at_zero Go.wp_at_succ
set_option maxRecDepth 20000

theorem rerr_any (q : Nat) (err : Int) (w : World) (hc : w.cell? ⟨q, 1, none⟩ = some (.int .i64 err)) :
    Calls Tryd.prog 79 #[.pointer (some ⟨q, 0, none⟩)] w fun e w' => e = .returned (.int .i64 err) ∧ w = w' := by
  go_enter Tryd.func79, Tryd.ntmps79
  go_wp2_with fail
  go_ret
  exact ⟨rfl, rfl⟩
/-- what End says -/
def endE (left : List Nat) (err : Int) : Int := if err = 0 ∧ left ≠ [] then 6 else err
theorem rend_any {w0 w : World} {X : List Fact} {K : (Nat → Prop) → World → Prop} {q : Nat} {left : List Nat} {err : Int} (hR : Rd w0 w X K q left err) :
    Calls Tryd.prog 82 #[.pointer (some ⟨q, 0, none⟩)] w fun e w' => e = .returned (.int .i64 (endE left err)) ∧ w = w' := by
  obtain ⟨_, A, c, l1, l2, hS⟩ := id hR
  go_enter Tryd.func82, Tryd.ntmps82
  by_cases h0 : err = 0
  · subst h0
    go_wp2_with (first | ((with_reducible show wpList _ _ _ (⟨_, .load _ _, _, _, _, _⟩ :: _) _ _); first | (refine st_cell hS 0 rfl _ _ rfl _ _ rfl _ _ rfl (by decide +kernel) _ (by first | assumption | rfl) ?_) | (refine st_cell hS 1 rfl _ _ rfl _ _ rfl _ _ rfl (by decide +kernel) _ (by first | assumption | rfl) ?_) | (refine st_cell hS 2 rfl _ _ rfl _ _ rfl _ _ rfl (by decide +kernel) _ (by first | assumption | rfl) ?_) | (refine st_cell hS 3 rfl _ _ rfl _ _ rfl _ _ rfl (by decide +kernel) _ (by first | assumption | rfl) ?_) | (refine st_cell hS 4 rfl _ _ rfl _ _ rfl _ _ rfl (by decide +kernel) _ (by first | assumption | rfl) ?_) | (refine st_cell hS 5 rfl _ _ rfl _ _ rfl _ _ rfl (by decide +kernel) _ (by first | assumption | rfl) ?_) | (refine st_cell hS 6 rfl _ _ rfl _ _ rfl _ _ rfl (by decide +kernel) _ (by first | assumption | rfl) ?_) | (refine st_cell hS 7 rfl _ _ rfl _ _ rfl _ _ rfl (by decide +kernel) _ (by first | assumption | rfl) ?_)) | ((with_reducible show wpList _ _ _ (⟨_, .binOp _ _ _ _ _, _, _, _, _⟩ :: _) _ _); (first | ((with_reducible show wpList _ _ _ (⟨_, .binOp .lss _ _ _ _, _, _, _, _⟩ :: _) _ _); refine st_lss rfl _ _ _ _ rfl _ _ _ rfl rfl (fun h_ => ?_) (fun h_ => ?_)) | ((with_reducible show wpList _ _ _ (⟨_, .binOp .leq _ _ _ _, _, _, _, _⟩ :: _) _ _); refine st_leq rfl _ _ _ _ rfl _ _ _ rfl rfl (fun h_ => ?_) (fun h_ => ?_)) | ((with_reducible show wpList _ _ _ (⟨_, .binOp .gtr _ _ _ _, _, _, _, _⟩ :: _) _ _); refine st_gtr rfl _ _ _ _ rfl _ _ _ rfl rfl (fun h_ => ?_) (fun h_ => ?_)) | ((with_reducible show wpList _ _ _ (⟨_, .binOp .geq _ _ _ _, _, _, _, _⟩ :: _) _ _); refine st_geq rfl _ _ _ _ rfl _ _ _ rfl rfl (fun h_ => ?_) (fun h_ => ?_)) | ((with_reducible show wpList _ _ _ (⟨_, .binOp .eql _ _ _ _, _, _, _, _⟩ :: _) _ _); refine st_eql rfl _ _ _ _ rfl _ _ _ rfl rfl (fun h_ => ?_) (fun h_ => ?_)) | ((with_reducible show wpList _ _ _ (⟨_, .binOp .neq _ _ _ _, _, _, _, _⟩ :: _) _ _); refine st_neq rfl _ _ _ _ rfl _ _ _ rfl rfl (fun h_ => ?_) (fun h_ => ?_))) <;> go_prune) | (go_at_call 95; refine (rok_any _ _ _ hR.errc).mono ?_; rintro r_ w_ ⟨rfl, rfl⟩) | (go_at_call 79; refine (rerr_any _ _ _ hR.errc).mono ?_; rintro r_ w_ ⟨rfl, rfl⟩))
    · have hE : endE left 0 = 6 := by
        unfold endE; rw [if_pos]; refine ⟨rfl, fun e => ?_⟩; subst e; simp at h_
      rw [hE]; go_ret; exact ⟨rfl, rfl⟩
    · have hE : endE left 0 = 0 := by
        unfold endE; rw [if_neg]; rintro ⟨_, h⟩; exact h (List.eq_nil_of_length_eq_zero (by omega))
      rw [hE]; go_ret; exact ⟨rfl, rfl⟩
  · have hd : decide (err = 0) = false := by simpa using h0
    have HE := Lib.hid (show endE left err = err by unfold endE; rw [if_neg]; rintro ⟨h, _⟩; exact h0 h)
    go_wp2_with (first | (go_at_call 95; refine (rok_any _ _ _ hR.errc).mono ?_; rw [hd]; rintro r_ w_ ⟨rfl, rfl⟩) | (go_at_call 79; refine (rerr_any _ _ _ hR.errc).mono ?_; rintro r_ w_ ⟨rfl, rfl⟩))
    rw [HE.out]
    go_ret
    exact ⟨rfl, rfl⟩
theorem rnew_any {w0 w : World} {F : List Fact} {K : (Nat → Prop) → World → Prop} (p : Value) (ps : List Nat) (hl : ps.length ≤ 1000000000000) {D : Nat → Prop} (hS : St w0 w F K) (hp : Sl w D 1 p ps.length (u8s ps)) :
    Calls Tryd.prog 77 #[p] w fun r w' => ∃ q, r = .returned (.pointer (some ⟨q, 0, none⟩)) ∧ Rd w0 w' F K q ps 0 := by
  obtain ⟨A, c, rfl, _, _⟩ := hp.shape
  have HC := Lib.hid (clone_bytes_any _ ps w _ hp hl)
  have HK := Lib.hid hS.stable
  clear hp
  go_enter Tryd.func77, Tryd.ntmps77
  go_wp2_with fail
  refine HC.out.mono ?_
  rintro r w2 ⟨v, rfl, h2, hb2⟩
  obtain ⟨A2, c2, rfl, l1, l2⟩ := h2.shape
  replace hS := hS.ret hb2 stable_sl h2
  go_wp2_with (first
    | ((with_reducible show wpList _ _ _ (⟨_, .build _ _, _, _, _, _⟩ :: _) _ _); refine wpList_build_of rfl _ _ rfl #[.slice A2 ps.length c2, .int .i64 0] (by kernel_rfl) ?_)
    | ((with_reducible show wpList _ _ _ (⟨some 6, _, _, _, _, _⟩ :: _) _ _); refine st_box hS rfl _ _ rfl (.agg #[.slice A2 ps.length c2, .int .i64 0]) _ rfl rfl ?_; clear hS; intro q w_ hS; (try simp only [Act.put, Act.eval, List.set_cons_zero, List.set_cons_succ, List.setIfInBounds_toArray, Array.getD_eq_getD_getElem?, List.getElem?_toArray, List.getElem?_cons_succ, List.getElem?_cons_zero, Option.getD_some, Value.cells] at hS)))
  go_ret
  exact ⟨_, rfl, HK.out, A2, c2, l1, by unfold maxLen; omega, hS⟩
end Go.Proofs.YtmlkgaiphpimiaaDoor
namespace Go.Proofs.YtmlkgaiphpimiaaDoor
open Go.RowKit
attribute [local go_sem ↓] Go.wp_at_zero Go.wp_at_succ
set_option maxRecDepth 20000

theorem IsCert.cc {w : World} {D : Nat → Prop} {v : Value} {c : CertD} (h : IsCert w D v c) : ∃ pv qv, v = .agg (cc c.prob c.reach pv qv) ∧ c.prob.length = 32 ∧ Bytes c.prob ∧ Sl w D 1 pv c.plan.length (ints c.plan) ∧ IsCubes w D qv c.cubes := by
  obtain ⟨cs, pv, qv, h1, h2, h3, h4, h5, h6, h7, h8, h9, h10⟩ := h
  refine ⟨pv, qv, ?_, h3, h4, h9, h10⟩
  rw [h1]
  congr 1
  have ha := cc_at c.prob c.reach pv qv h3
  apply Array.ext_getElem?
  intro i
  rcases Nat.lt_or_ge i 32 with hi | hi
  · rw [h5 i hi]
    simp only [Go.Proofs.YtmlkgaiphpimiaaDoor.cc, List.getElem?_toArray]
    rw [List.getElem?_append_left (by simp [u8s]; omega)]
    exact (u8s_at _ _ (by omega)).symm
  · rcases Nat.lt_or_ge i 35 with hi2 | hi2
    · have : i = 32 ∨ i = 33 ∨ i = 34 := by omega
      rcases this with rfl | rfl | rfl
      · rw [h6, ha.1]
      · rw [h7, ha.2.1]
      · rw [h8, ha.2.2]
    · rw [Array.getElem?_eq_none (by omega), Array.getElem?_eq_none (by rw [cc_size _ _ _ _ h3]; omega)]

end Go.Proofs.YtmlkgaiphpimiaaDoor
namespace Go.Proofs.YtmlkgaiphpimiaaDoor
open Go.RowKit
attribute [local go_sem ↓] Go.wp_at_zero Go.wp_at_succ
set_option maxRecDepth 20000

theorem IsCubes.none_ {w : World} {D : Nat → Prop} : IsCubes w D (.slice none 0 0) [] := ⟨[], Sl.none_, fun i y n h => by simp at h⟩
theorem IsCubes.one {w : World} {b : Nat} {t : TypeId} {y n : Value} {Y N : Nat} {D E : Nat → Prop} (h : Box w b t #[y, n]) (hy : IsSet w D (.agg #[y]) Y) (hn : IsSet w E (.agg #[n]) N) : IsCubes w (fun _ => True) (.slice (some ⟨b, 0, none⟩) 1 1) [(Y, N)] :=
  ⟨[y, n], (Sl.of_box (n := 1) (size := 2) h rfl (by omega)).imp fun _ _ _ => trivial, fun i a c hi => by
    match i, hi with
    | 0, hi => simp at hi; obtain ⟨rfl, rfl⟩ := hi; exact ⟨y, n, rfl, rfl, hy.imp fun _ _ _ => trivial, hn.imp fun _ _ _ => trivial⟩⟩
end Go.Proofs.YtmlkgaiphpimiaaDoor
namespace Go.Proofs.YtmlkgaiphpimiaaDoor
open Go.RowKit
attribute [local go_sem ↓] Go.wp_at_zero Go.wp_at_succ
set_option maxRecDepth 20000

theorem IsRaw.keep {w w' : World} {D : Nat → Prop} {v : Value} {x : RawCert} (h : IsRaw w D v x) (hsz : w.heap.size ≤ w'.heap.size) (hk : ∀ p : Addr, D p.block → p.block < w.heap.size → w'.cell? p = w.cell? p) : IsRaw w' D v x := by
  obtain ⟨pv, qv, h1, h2, h3⟩ := h
  exact ⟨pv, qv, h1, h2.keep hsz hk, h3.keep hsz hk⟩
theorem IsRaw.imp {w : World} {D D' : Nat → Prop} {v : Value} {x : RawCert} (h : IsRaw w D v x) (hD : ∀ b, D b → b < w.heap.size → D' b) : IsRaw w D' v x := by
  obtain ⟨pv, qv, h1, h2, h3⟩ := h
  exact ⟨pv, qv, h1, h2.imp hD, h3.imp hD⟩
theorem IsRaw.ext {w w' : World} {D : Nat → Prop} {v : Value} {x : RawCert} (h : IsRaw w D v x) (hb : Below w.heap.size w w') : IsRaw w' D v x := h.keep hb.size fun _ _ hp => hb.cell hp
theorem IsRaw.drew {w : World} {D : Nat → Prop} {v : Value} {x : RawCert} (h : IsRaw w D v x) : IsRaw w.drew D v x := h.keep (Nat.le_refl _) fun _ _ _ => rfl
theorem IsRaw.alloc {w : World} {D : Nat → Prop} {v : Value} {x : RawCert} (h : IsRaw w D v x) (o : Obj) : IsRaw (w.alloc o) D v x := h.keep (by simp) fun p _ hp => World.cell?_alloc_lt w o p hp
theorem IsRaw.upd {g : Nat} {w w' : World} {D : Nat → Prop} {v : Value} {x : RawCert} (h : IsRaw w D v x) (hU : Upd g w w') (hD : ∀ b, D b → b < w.heap.size → b ≠ g) : IsRaw w' D v x := h.keep (Nat.le_of_eq hU.size.symm) fun _ h1 h2 => hU.cell (hD _ h1 h2)
theorem IsRCert.row {w : World} {D : Nat → Prop} {v : Value} {c : CertD} (h : IsRCert w D v c) : ∃ cs : Array Value, v = .agg cs ∧ cs.size = 35 ∧ cs.all (·.oneCell') = true := by
  obtain ⟨pv, qv, rfl, h32, _, hp, hq⟩ := h
  obtain ⟨A, c1, rfl, _, _⟩ := hp.shape
  obtain ⟨B, c2, rfl, _, _⟩ := hq.shape
  exact ⟨_, rfl, cc_size _ _ _ _ h32, cc_one _ _ _ _ _ _ _ _⟩
theorem IsCert.upd {g : Nat} {w w' : World} {D : Nat → Prop} {v : Value} {c : CertD} (h : IsCert w D v c) (hU : Upd g w w') (hD : ∀ b, D b → b < w.heap.size → b ≠ g) : IsCert w' D v c := h.keep (Nat.le_of_eq hU.size.symm) fun _ h1 h2 => hU.cell (hD _ h1 h2)
theorem IsCert.row {w : World} {D : Nat → Prop} {v : Value} {c : CertD} (h : IsCert w D v c) : ∃ cs : Array Value, v = .agg cs ∧ cs.size = 35 ∧ cs.all (·.oneCell') = true := by
  obtain ⟨pv, qv, rfl, h32, _, hp, hq⟩ := h.cc
  obtain ⟨A, c1, rfl, _, _⟩ := hp.shape
  obtain ⟨B, c2, rfl, _, _⟩ := hq.shape
  exact ⟨_, rfl, cc_size _ _ _ _ h32, cc_one _ _ _ _ _ _ _ _⟩
end Go.Proofs.YtmlkgaiphpimiaaDoor
namespace Go.Proofs.YtmlkgaiphpimiaaDoor
open Go.RowKit
set_option maxRecDepth 20000
set_option exponentiation.threshold 5000

/-- the number's bytes, the most significant first, behind a number that is already there -/
def enc7 (x : Nat) : List Nat := (hi7 10 x).reverse
theorem hi7_zero (f : Nat) : hi7 f 0 = [] := by cases f <;> simp [hi7]
theorem hi7_more : ∀ (f x : Nat), x < 128 ^ f → hi7 (f + 1) x = hi7 f x
  | 0, x, h => by
    obtain rfl : x = 0 := by simpa using h
    rfl
  | f + 1, x, h => by
    by_cases h0 : x = 0
    · simp [h0, hi7_zero]
    · rw [hi7, if_neg h0]
      conv => rhs; rw [hi7, if_neg h0]
      rw [hi7_more f (x / 128) (Nat.div_lt_of_lt_mul (by rw [Nat.mul_comm, ← Nat.pow_succ]; exact h))]
theorem enc7_step {v b : Nat} (hv : v * 128 + b < T64) (hb : b < 128) (h0 : v * 128 + b ≠ 0) : enc7 (v * 128 + b) = enc7 v ++ [b + 128] := by
  unfold T64 at hv
  have e1 : (v * 128 + b) % 128 = b := by omega
  have e2 : (v * 128 + b) / 128 = v := by omega
  unfold enc7
  rw [show (10 : Nat) = 9 + 1 from rfl, hi7, if_neg h0, e1, e2, ← hi7_more 9 v (by omega)]
  simp
/-- what a number was read of -/
theorem numR_inv : ∀ (l : List Nat) (v k : Nat), Bytes l → (k = 0 ↔ v = 0) → v < T64 → (numR l v k).2 ≠ 0 →
    (numR l v k).1 < T64 ∧ k < (numR l v k).2 ∧ (numR l v k).2 - k ≤ l.length ∧ enc7 v ++ l.take ((numR l v k).2 - k) = putN (numR l v k).1
  | [], v, k, _, _, _, h => by simp [numR] at h
  | b :: r, v, k, hb, hk, hv, h => by
    have hb8 := hb b (by simp)
    rw [numR] at h ⊢
    by_cases h1 : (k = 0 ∧ b = 128) ∨ 144115188075855871 < v
    · rw [if_pos h1] at h; simp at h
    · rw [if_neg h1] at h ⊢
      have hv2 : v ≤ 144115188075855871 := by omega
      by_cases h2 : b < 128
      · rw [if_pos h2] at h ⊢
        have hm : b % 128 = b := by omega
        rw [hm]
        refine ⟨by unfold T64; omega, by show k < k + 1; omega, by simp, ?_⟩
        have : putN (v * 128 + b) = enc7 v ++ [b] := by
          have e1 : (v * 128 + b) % 128 = b := by omega
          have e2 : (v * 128 + b) / 128 = v := by omega
          simp [putN, enc7, e1, e2]
        rw [this]; simp
      · rw [if_neg h2] at h ⊢
        have hm : b % 128 + 128 = b := by omega
        have hlt : v * 128 + b % 128 < T64 := by unfold T64; omega
        have hne : v * 128 + b % 128 ≠ 0 := by
          intro e
          have : v = 0 := by omega
          have := hk.2 this
          omega
        obtain ⟨i1, i2, i3, i4⟩ := numR_inv r (v * 128 + b % 128) (k + 1) (fun x hx => hb x (by simp [hx])) (by omega) hlt h
        generalize numR r (v * 128 + b % 128) (k + 1) = V at *
        refine ⟨i1, by omega, by simp; omega, ?_⟩
        rw [enc7_step hlt (Nat.mod_lt _ (by decide)) hne, hm] at i4
        rw [show V.2 - k = (V.2 - (k + 1)) + 1 by omega, List.take_succ_cons]
        rw [← i4]; simp
theorem numR_put {l : List Nat} (hb : Bytes l) (h : (numR l 0 0).2 ≠ 0) : (numR l 0 0).1 < T64 ∧ l = putN (numR l 0 0).1 ++ l.drop (numR l 0 0).2 := by
  obtain ⟨i1, _, i3, i4⟩ := numR_inv l 0 0 hb (by simp) (by decide) h
  refine ⟨i1, ?_⟩
  rw [← i4, Nat.sub_zero]
  simp [enc7, hi7_zero, List.take_append_drop]
theorem readUint_err {most : Nat} {l : List Nat} {e : Int} (h : e ≠ 0) : readUint most l e = (0, l, e) := by rw [readUint, if_neg h]
theorem readCount_err {most : Nat} {l : List Nat} {e : Int} (h : e ≠ 0) : readCount most l e = (0, l, e) := by rw [readCount, if_neg h]
theorem readUint_inv {most : Nat} {l : List Nat} {e : Int} (hb : Bytes l) (h : (readUint most l e).2.2 = 0) : e = 0 ∧ (readUint most l e).1 ≤ most ∧ (readUint most l e).1 < T64 ∧ l = putN (readUint most l e).1 ++ (readUint most l e).2.1 := by
  by_cases h0 : e = 0
  · subst h0
    unfold readUint at h ⊢
    rw [if_pos rfl] at h ⊢
    split at h
    · simp at h
    · rename_i h1
      split at h
      · simp at h
      · rename_i h2
        rw [if_neg h1, if_neg h2]
        obtain ⟨a, b⟩ := numR_put hb h1
        exact ⟨rfl, by show (numR l 0 0).1 ≤ most; omega, a, b⟩
  · rw [readUint_err h0] at h; exact absurd h h0
theorem readCount_inv {most : Nat} {l : List Nat} {e : Int} (hb : Bytes l) (h : (readCount most l e).2.2 = 0) : e = 0 ∧ (readCount most l e).1 ≤ most ∧ (readCount most l e).1 < T64 ∧ l = putN (readCount most l e).1 ++ (readCount most l e).2.1 := by
  by_cases h0 : e = 0
  · subst h0
    unfold readCount at h ⊢
    rw [if_pos rfl] at h ⊢
    split at h
    · simp at h
    · rename_i h1
      split at h
      · simp at h
      · rename_i h2
        rw [if_neg h1, if_neg h2]
        obtain ⟨a, b⟩ := numR_put hb h1
        exact ⟨rfl, by show (numR l 0 0).1 ≤ most; omega, a, b⟩
  · rw [readCount_err h0] at h; exact absurd h h0
end Go.Proofs.YtmlkgaiphpimiaaDoor
namespace Go.Proofs.YtmlkgaiphpimiaaDoor
open Go.RowKit
set_option maxRecDepth 20000
set_option exponentiation.threshold 5000

theorem readUint_le (most : Nat) (l : List Nat) (e : Int) : (readUint most l e).1 ≤ most := by
  unfold readUint
  split
  · split
    · exact Nat.zero_le _
    · split
      · exact Nat.zero_le _
      · show (numR l 0 0).1 ≤ most; omega
  · exact Nat.zero_le _
theorem readCount_le (most : Nat) (l : List Nat) (e : Int) : (readCount most l e).1 ≤ most := by
  unfold readCount
  split
  · split
    · exact Nat.zero_le _
    · split
      · exact Nat.zero_le _
      · show (numR l 0 0).1 ≤ most; omega
  · exact Nat.zero_le _
theorem endE_zero {l : List Nat} {e : Int} (h : endE l e = 0) : l = [] ∧ e = 0 := by
  unfold endE at h
  split at h
  · simp at h
  · rename_i hn
    refine ⟨?_, h⟩
    by_cases hl : l = []
    · exact hl
    · exact absurd ⟨h, hl⟩ hn
end Go.Proofs.YtmlkgaiphpimiaaDoor
namespace Go.Proofs.YtmlkgaiphpimiaaDoor
open Go.RowKit
set_option exponentiation.threshold 5000

theorem readUint_keep {most : Nat} {l : List Nat} {e : Int} (hb : Bytes l) : (readUint most l e).2.1.length ≤ l.length ∧ Bytes (readUint most l e).2.1 := by
  unfold readUint; split
  · split
    · exact ⟨Nat.le_refl _, hb⟩
    · split
      · exact ⟨Nat.le_refl _, hb⟩
      · exact ⟨by simp, fun x hx => hb x (List.mem_of_mem_drop hx)⟩
  · exact ⟨Nat.le_refl _, hb⟩
theorem readCount_keep {most : Nat} {l : List Nat} {e : Int} (hb : Bytes l) : (readCount most l e).2.1.length ≤ l.length ∧ Bytes (readCount most l e).2.1 := by
  unfold readCount; split
  · split
    · exact ⟨Nat.le_refl _, hb⟩
    · split
      · exact ⟨Nat.le_refl _, hb⟩
      · exact ⟨by simp, fun x hx => hb x (List.mem_of_mem_drop hx)⟩
  · exact ⟨Nat.le_refl _, hb⟩
/-- the second number of a link -/
def linkU (l : List Nat) (e : Int) : Nat × List Nat × Int := readUint 63 (readUint 63 l e).2.1 (readUint 63 l e).2.2
/-- the error behind a link -/
def linkE (l : List Nat) (e : Int) : Int := if 1 ≤ (readUint 63 l e).1 ∧ 1 ≤ (linkU l e).1 then (linkU l e).2.2 else if (linkU l e).2.2 = 0 then 6 else (linkU l e).2.2
/-- links, read -/
def readLinks : Nat → List Nat → Int → List (Nat × Nat) × List Nat × Int
  | 0, l, e => ([], l, e)
  | n + 1, l, e => if e ≠ 0 then ([], l, e) else
      (((readUint 63 l e).1, (linkU l e).1) :: (readLinks n (linkU l e).2.1 (linkE l e)).1, (readLinks n (linkU l e).2.1 (linkE l e)).2)
theorem readLinks_err {n : Nat} {l : List Nat} {e : Int} (h : e ≠ 0) : readLinks n l e = ([], l, e) := by
  cases n with
  | zero => rfl
  | succ n => rw [readLinks, if_pos h]
theorem linkE_zero {l : List Nat} {e : Int} (h : linkE l e = 0) : 1 ≤ (readUint 63 l e).1 ∧ 1 ≤ (linkU l e).1 ∧ (linkU l e).2.2 = 0 := by
  unfold linkE at h
  by_cases h1 : 1 ≤ (readUint 63 l e).1 ∧ 1 ≤ (linkU l e).1
  · rw [if_pos h1] at h; exact ⟨h1.1, h1.2, h⟩
  · rw [if_neg h1] at h
    by_cases h2 : (linkU l e).2.2 = 0
    · rw [if_pos h2] at h; cases h
    · rw [if_neg h2] at h; exact absurd h h2
/-- numbers of roles -/
def Roles (L : List (Nat × Nat)) : Prop := ∀ x ∈ L, (1 ≤ x.1 ∧ x.1 < 64) ∧ 1 ≤ x.2 ∧ x.2 < 64
theorem hpairs_cons (z : Nat × Nat) (L : List (Nat × Nat)) : hpairs (z :: L) = putN z.1 ++ (putN z.2 ++ hpairs L) := by simp [hpairs]
theorem readLinks_inv : ∀ (n : Nat) (l : List Nat) (e : Int), Bytes l → (readLinks n l e).2.2 = 0 → e = 0 ∧ (readLinks n l e).1.length = n ∧ Roles (readLinks n l e).1 ∧ l = hpairs (readLinks n l e).1 ++ (readLinks n l e).2.1
  | 0, l, e, _, h => ⟨h, rfl, by simp [readLinks, Roles], by simp [readLinks, hpairs]⟩
  | n + 1, l, e, hb, h => by
    by_cases h0 : e = 0
    · subst h0
      rw [readLinks, if_neg (by simp)] at h ⊢
      obtain ⟨i1, i2, i3, i4⟩ := readLinks_inv n _ _ (readUint_keep (readUint_keep hb).2).2 h
      obtain ⟨z1, z2, z3⟩ := linkE_zero i1
      obtain ⟨j1, j2, _, j4⟩ := readUint_inv (readUint_keep hb).2 z3
      obtain ⟨k1, k2, _, k4⟩ := readUint_inv hb j1
      refine ⟨rfl, congrArg (· + 1) i2, ?_, ?_⟩
      · intro x hx
        rcases List.mem_cons.1 hx with rfl | hx
        · exact ⟨⟨z1, by show _ < _; omega⟩, z2, by show (linkU l 0).1 < 64; have : (linkU l 0).1 ≤ 63 := j2; omega⟩
        · exact i3 x hx
      · show l = hpairs (_ :: _) ++ _
        rw [hpairs_cons, List.append_assoc, List.append_assoc]
        show l = putN (readUint 63 l 0).1 ++ (putN (linkU l 0).1 ++ (_ ++ _))
        have e1 : (linkU l 0).2.1 = hpairs (readLinks n (linkU l 0).2.1 (linkE l 0)).1 ++ (readLinks n (linkU l 0).2.1 (linkE l 0)).2.1 := i4
        have e2 : (readUint 63 l 0).2.1 = putN (linkU l 0).1 ++ (linkU l 0).2.1 := j4
        rw [← e1, ← e2]; exact k4
    · rw [readLinks_err h0] at h; exact absurd h h0
/-- what is read of bytes: the links, what is left, the error -/
def readH (ps : List Nat) : List (Nat × Nat) × List Nat × Int := readLinks (readCount 3969 ps 0).1 (readCount 3969 ps 0).2.1 (readCount 3969 ps 0).2.2
/-- bytes are those of these links -/
def HRead (ps : List Nat) (L : List (Nat × Nat)) : Prop := readH ps = (L, [], 0) ∧ HOK L
theorem HRead.uniq {ps : List Nat} {L M : List (Nat × Nat)} (h : HRead ps L) (k : HRead ps M) : L = M := by
  have := h.1.symm.trans k.1
  injection this
theorem HRead.len {ps : List Nat} {L : List (Nat × Nat)} (hb : Bytes ps) (h : HRead ps L) : L.length ≤ 3969 := by
  have h1 := (readLinks_inv _ _ _ (readCount_keep hb).2 (show (readH ps).2.2 = 0 by rw [h.1])).2.1
  have h2 := readCount_le 3969 ps 0
  have h3 : (readH ps).1.length = (readCount 3969 ps 0).1 := h1
  rw [h.1] at h3
  dsimp only at h3
  omega
theorem HRead.enc {ps : List Nat} {L : List (Nat × Nat)} (hb : Bytes ps) (h : HRead ps L) : hencB L = ps := by
  have h0 : (readH ps).2.2 = 0 := by rw [h.1]
  obtain ⟨i1, i2, i3, i4⟩ := readLinks_inv _ _ _ (readCount_keep hb).2 h0
  obtain ⟨-, -, -, j4⟩ := readCount_inv hb i1
  have e2 : (readH ps).1.length = (readCount 3969 ps 0).1 := i2
  have e4 : (readCount 3969 ps 0).2.1 = hpairs (readH ps).1 ++ (readH ps).2.1 := i4
  rw [e4, ← e2, h.1] at j4
  rw [j4]; simp [hencB]
theorem bytes_append {a b : List Nat} (h : Bytes a) (k : Bytes b) : Bytes (a ++ b) := fun x hx => (List.mem_append.1 hx).elim (h x) (k x)
theorem hencB_bytes (L : List (Nat × Nat)) : Bytes (hencB L) := by
  refine bytes_append (putN_byte _) ?_
  induction L with
  | nil => intro x hx; simp [hpairs] at hx
  | cons z L ih => rw [hpairs_cons]; exact bytes_append (putN_byte _) (bytes_append (putN_byte _) ih)
end Go.Proofs.YtmlkgaiphpimiaaDoor
namespace Go.Proofs.YtmlkgaiphpimiaaDoor
open Go.RowKit
attribute [local go_sem ↓] Go.wp_at_zero Go.wp_at_succ
set_option maxRecDepth 20000
set_option exponentiation.threshold 5000

/-- what Read gives -/
def HReadR (w0 : World) (F : List Fact) (K : (Nat → Prop) → World → Prop) (ps : List Nat) (r : Value) (z : Int) (w : World) : Prop :=
  (∃ L, HRead ps L ∧ z = 0 ∧ St w0 w F fun D w => K D w ∧ IsH w D r L) ∨ ((∀ L, ¬ HRead ps L) ∧ r = .pointer none ∧ z = 6 ∧ St w0 w F K)
set_option maxHeartbeats 4000000 in
theorem hread_any {w0 w : World} {F : List Fact} {K : (Nat → Prop) → World → Prop} (p : Value) (ps : List Nat) (hb : Bytes ps) (hl : ps.length ≤ 1000000) (hS : St w0 w F K) (kt : ∀ D w, K D w → DTab w ∧ D 0) {D : Nat → Prop} (hp : Sl w D 1 p ps.length (u8s ps)) :
    Calls Tryd.prog 49 #[p] w fun e w' => ∃ (r : Value) (z : Int), e = .returned (.tuple #[r, .int .i64 z]) ∧ HReadR w0 F K ps r z w' := by
  obtain ⟨A, c, rfl, _, _⟩ := hp.shape
  have HKs := Lib.hid hS.stable
  have HKT := Lib.hid kt
  have HP0 := Lib.hid hp
  clear hp kt
  go_enter Tryd.func49, Tryd.ntmps49
  go_wp2_with (first
    | (go_at_call 77; refine (rnew_any _ ps (by omega) hS HP0.out).mono ?_; rintro r_ w1 ⟨q, rfl, hR⟩; clear hS))
  refine (rcount_any 3969 (by decide) (by omega) hb hR).mono ?_
  rintro r_ w5 ⟨rfl, hR⟩
  obtain ⟨⟨N0, l3, e3⟩, hN⟩ : ∃ V, V = readCount 3969 ps 0 := ⟨_, rfl⟩
  have hn0 : N0 ≤ 3969 := by have := readCount_le 3969 ps 0; rw [← hN] at this; exact this
  have hl3 := readCount_keep (most := 3969) (e := 0) hb
  rw [← hN] at hR hl3 ⊢
  dsimp only at hR hl3 ⊢
  obtain ⟨hl3, hb3⟩ := hl3
  have HB3 := Lib.hid hb3
  obtain ⟨⟨PL, PR⟩, hP⟩ : ∃ V, V = readLinks N0 l3 e3 := ⟨_, rfl⟩
  have HRH : Hid (readH ps = (PL, PR)) := Lib.hid (by unfold readH; rw [← hN]; exact hP.symm)
  have HP := Lib.hid hP
  have hl9 : l3.length ≤ 1000000 := by omega
  clear hl3 hN
  go_wp2_with fail
  obtain ⟨-, A5, c5, n3, n4, hS⟩ := hR
  have hR : Rd w0 w5 (.own (.slice none 0 0) 50 2 0 [] :: F) K q l3 e3 := ⟨HKs.out, A5, c5, n3, n4, (hS.nil 50 2).swap⟩
  clear hS
  go_loopw [6, 16] (fun v i wr => ∃ (j : Nat) (acc : List (Nat × Nat)) (l : List Nat) (e : Int) (pv : Value), i = .int .i64 (j : Nat) ∧ pv = v ∧ j ≤ N0 ∧ acc.length = j ∧ acc ++ (readLinks (N0 - j) l e).1 = PL ∧ (readLinks (N0 - j) l e).2 = PR ∧ Bytes l ∧ l.length ≤ 1000000 ∧ Rd w0 wr (.own pv 50 2 acc.length (pcells acc) :: F) K q l e) (fun _ i _ => N0 - (intOf i).toNat)
  case atStart => exact ⟨0, [], l3, e3, .slice none 0 0, rfl, rfl, by omega, rfl, by rw [Nat.sub_zero, ← hP]; rfl, by rw [Nat.sub_zero, ← hP], hb3, hl9, hR⟩
  case round =>
    clear hR hP
    obtain ⟨j, acc, l, e, pv, rfl, rfl, hj, hacc, ha, hp, hbl, hll, hR⟩ := hrel
    by_cases hlj : j < N0
    · by_cases he : e = 0
      · subst he
        obtain ⟨⟨za, l1, e1⟩, hU⟩ : ∃ V, V = readUint 63 l 0 := ⟨_, rfl⟩
        obtain ⟨⟨zb, l2, e2⟩, hU2⟩ : ∃ V, V = readUint 63 l1 e1 := ⟨_, rfl⟩
        have hlb1 := readUint_keep (most := 63) (e := 0) hbl
        rw [← hU] at hlb1
        have hlb2 := readUint_keep (most := 63) (e := e1) hlb1.2
        rw [← hU2] at hlb2
        have hza : za ≤ 63 := by have := readUint_le 63 l 0; rw [← hU] at this; exact this
        have hzb : zb ≤ 63 := by have := readUint_le 63 l1 e1; rw [← hU2] at this; exact this
        have hUU : linkU l 0 = (zb, l2, e2) := by unfold linkU; rw [← hU]; exact hU2.symm
        obtain ⟨e9, he9⟩ : ∃ e9, e9 = linkE l 0 := ⟨_, rfl⟩
        have hE9 : e9 = if 1 ≤ za ∧ 1 ≤ zb then e2 else if e2 = 0 then 6 else e2 := by
          rw [he9]; unfold linkE; rw [hUU, ← hU]
        have hrn : readLinks (N0 - j) l 0 = ((za, zb) :: (readLinks (N0 - (j + 1)) l2 e9).1, (readLinks (N0 - (j + 1)) l2 e9).2) := by
          rw [show N0 - j = (N0 - (j + 1)) + 1 by omega, readLinks, if_neg (by simp), hUU, ← hU, ← he9]
        rw [hrn] at ha hp
        have HA := Lib.hid (show (acc ++ [(za, zb)]) ++ (readLinks (N0 - (j + 1)) l2 e9).1 = PL by rw [List.append_assoc]; exact ha)
        have HPP := Lib.hid hp
        have HE9 := Lib.hid hE9
        have HLB : Hid (l2.length ≤ 1000000 ∧ Bytes l2) := Lib.hid ⟨by have h1 := hlb1.1; have h2 := hlb2.1; dsimp only at h1 h2; omega, hlb2.2⟩
        have HL1 : Hid (l1.length ≤ 1000000 ∧ Bytes l1) := Lib.hid ⟨by have h1 := hlb1.1; dsimp only at h1; omega, hlb1.2⟩
        have HU := Lib.hid hU
        have HU2 := Lib.hid hU2
        clear ha hp hrn he9 hE9 hUU hlb1 hlb2 hU hU2
        go_wp2_with (first
          | ((with_reducible show wpList _ _ _ (⟨_, .binOp _ _ _ _ _, _, _, _, _⟩ :: _) _ _); (first | ((with_reducible show wpList _ _ _ (⟨_, .binOp .lss _ _ _ _, _, _, _, _⟩ :: _) _ _); refine st_lss rfl _ _ _ _ rfl _ _ _ rfl rfl (fun h_ => ?_) (fun h_ => ?_)) | ((with_reducible show wpList _ _ _ (⟨_, .binOp .leq _ _ _ _, _, _, _, _⟩ :: _) _ _); refine st_leq rfl _ _ _ _ rfl _ _ _ rfl rfl (fun h_ => ?_) (fun h_ => ?_)) | ((with_reducible show wpList _ _ _ (⟨_, .binOp .gtr _ _ _ _, _, _, _, _⟩ :: _) _ _); refine st_gtr rfl _ _ _ _ rfl _ _ _ rfl rfl (fun h_ => ?_) (fun h_ => ?_)) | ((with_reducible show wpList _ _ _ (⟨_, .binOp .geq _ _ _ _, _, _, _, _⟩ :: _) _ _); refine st_geq rfl _ _ _ _ rfl _ _ _ rfl rfl (fun h_ => ?_) (fun h_ => ?_)) | ((with_reducible show wpList _ _ _ (⟨_, .binOp .eql _ _ _ _, _, _, _, _⟩ :: _) _ _); refine st_eql rfl _ _ _ _ rfl _ _ _ rfl rfl (fun h_ => ?_) (fun h_ => ?_)) | ((with_reducible show wpList _ _ _ (⟨_, .binOp .neq _ _ _ _, _, _, _, _⟩ :: _) _ _); refine st_neq rfl _ _ _ _ rfl _ _ _ rfl rfl (fun h_ => ?_) (fun h_ => ?_))) <;> go_prune)
          | (go_at_call 79; refine (rerr_any _ _ _ hR.errc).mono ?_; rintro r_ w_ ⟨rfl, rfl⟩))
        refine (rnumberm_any 63 (by decide) (by omega) hbl hR).mono ?_
        rintro r_ w6 ⟨rfl, hR⟩
        rw [← HU.out] at hR ⊢
        dsimp only at hR ⊢
        go_wp2_with fail
        refine (rnumberm_any 63 (by decide) (by have := HL1.out.1; omega) HL1.out.2 hR).mono ?_
        rintro r_ w7 ⟨rfl, hR⟩
        rw [← HU2.out] at hR ⊢
        dsimp only at hR ⊢
        obtain ⟨-, A8, c8, n5, n6, hS⟩ := hR
        by_cases h1 : 1 ≤ za
        · have HRA := Lib.hid (decide_eq_true (show 1 ≤ (za : Int) ∧ (za : Int) ≤ 63 by omega))
          by_cases h2 : 1 ≤ zb
          · have HRB := Lib.hid (decide_eq_true (show 1 ≤ (zb : Int) ∧ (zb : Int) ≤ 63 by omega))
            obtain rfl : e9 = e2 := by rw [HE9.out, if_pos ⟨h1, h2⟩]
            clear h1 h2
            go_wp2_with (first
              | ((with_reducible show wpList _ _ _ (⟨_, .binOp _ _ _ _ _, _, _, _, _⟩ :: _) _ _); (first | ((with_reducible show wpList _ _ _ (⟨_, .binOp .lss _ _ _ _, _, _, _, _⟩ :: _) _ _); refine st_lss rfl _ _ _ _ rfl _ _ _ rfl rfl (fun h_ => ?_) (fun h_ => ?_)) | ((with_reducible show wpList _ _ _ (⟨_, .binOp .leq _ _ _ _, _, _, _, _⟩ :: _) _ _); refine st_leq rfl _ _ _ _ rfl _ _ _ rfl rfl (fun h_ => ?_) (fun h_ => ?_)) | ((with_reducible show wpList _ _ _ (⟨_, .binOp .gtr _ _ _ _, _, _, _, _⟩ :: _) _ _); refine st_gtr rfl _ _ _ _ rfl _ _ _ rfl rfl (fun h_ => ?_) (fun h_ => ?_)) | ((with_reducible show wpList _ _ _ (⟨_, .binOp .geq _ _ _ _, _, _, _, _⟩ :: _) _ _); refine st_geq rfl _ _ _ _ rfl _ _ _ rfl rfl (fun h_ => ?_) (fun h_ => ?_)) | ((with_reducible show wpList _ _ _ (⟨_, .binOp .eql _ _ _ _, _, _, _, _⟩ :: _) _ _); refine st_eql rfl _ _ _ _ rfl _ _ _ rfl rfl (fun h_ => ?_) (fun h_ => ?_)) | ((with_reducible show wpList _ _ _ (⟨_, .binOp .neq _ _ _ _, _, _, _, _⟩ :: _) _ _); refine st_neq rfl _ _ _ _ rfl _ _ _ rfl rfl (fun h_ => ?_) (fun h_ => ?_))) <;> go_prune)
              | (go_at_call 55; refine (role_any _ _).mono ?_; (first | rw [HRA.out] | rw [HRB.out]); rintro r_ w_ ⟨_, rfl, rfl, hb_⟩; replace hS := hS.ext hb_; clear hb_)
              | ((with_reducible show wpList _ _ _ (⟨_, .build _ _, _, _, _, _⟩ :: _) _ _); refine wpList_build_of rfl _ _ rfl #[.int .i64 (za : Nat), .int .i64 (zb : Nat)] (by kernel_rfl) ?_)
              | ((with_reducible show wpList _ _ _ (⟨_, .buildSlice _ 1 _, _, _, _, _⟩ :: _) _ _); refine st_push hS 1 rfl rfl _ _ _ _ rfl rfl ty_pairs _ _ _ (.agg #[.int .i64 (za : Nat), .int .i64 (zb : Nat)]) #[.int .i64 (za : Nat), .int .i64 (zb : Nat)] rfl (by kernel_rfl) rfl rfl rfl rfl (by intro u hu; simp at hu; first | (subst hu; rfl) | (rcases hu with rfl | rfl <;> rfl)) (by omega) (by omega) ?_; clear hS; intro z_ v_ w_ hS; (try simp only [Act.put, Act.eval, List.set_cons_zero, List.set_cons_succ, List.setIfInBounds_toArray, Array.getD_eq_getD_getElem?, List.getElem?_toArray, List.getElem?_cons_succ, List.getElem?_cons_zero, Option.getD_some, Value.cells] at hS)))
            obtain ⟨A9, c9, rfl, _, _⟩ := own_shp (hS.own 1 rfl)
            have h := hS
            have hpc : pcells (acc ++ [(za, zb)]) = pcells acc ++ [.int .i64 (za : Nat), .int .i64 (zb : Nat)] := pcells_app acc [(za, zb)]
            refine ⟨⟨j + 1, acc ++ [(za, zb)], l2, e9, _, by go_num, rfl, hlj, by simp [hacc], HA.out, HPP.out, HLB.out.2, HLB.out.1, HKs.out, A8, c8, n5, n6, ?_⟩, by simp [intOf]; omega⟩
            rw [hpc, show (acc ++ [(za, zb)]).length = acc.length + 1 by simp]
            exact h
          · have HRB := Lib.hid (decide_eq_false (show ¬ (1 ≤ (zb : Int) ∧ (zb : Int) ≤ 63) by omega))
            have hbad : Hid (e9 = if e2 = 0 then 6 else e2) := Lib.hid (by rw [HE9.out, if_neg (by omega)])
            clear h1 h2
            go_wp2_with (first
              | ((with_reducible show wpList _ _ _ (⟨_, .binOp _ _ _ _ _, _, _, _, _⟩ :: _) _ _); (first | ((with_reducible show wpList _ _ _ (⟨_, .binOp .lss _ _ _ _, _, _, _, _⟩ :: _) _ _); refine st_lss rfl _ _ _ _ rfl _ _ _ rfl rfl (fun h_ => ?_) (fun h_ => ?_)) | ((with_reducible show wpList _ _ _ (⟨_, .binOp .leq _ _ _ _, _, _, _, _⟩ :: _) _ _); refine st_leq rfl _ _ _ _ rfl _ _ _ rfl rfl (fun h_ => ?_) (fun h_ => ?_)) | ((with_reducible show wpList _ _ _ (⟨_, .binOp .gtr _ _ _ _, _, _, _, _⟩ :: _) _ _); refine st_gtr rfl _ _ _ _ rfl _ _ _ rfl rfl (fun h_ => ?_) (fun h_ => ?_)) | ((with_reducible show wpList _ _ _ (⟨_, .binOp .geq _ _ _ _, _, _, _, _⟩ :: _) _ _); refine st_geq rfl _ _ _ _ rfl _ _ _ rfl rfl (fun h_ => ?_) (fun h_ => ?_)) | ((with_reducible show wpList _ _ _ (⟨_, .binOp .eql _ _ _ _, _, _, _, _⟩ :: _) _ _); refine st_eql rfl _ _ _ _ rfl _ _ _ rfl rfl (fun h_ => ?_) (fun h_ => ?_)) | ((with_reducible show wpList _ _ _ (⟨_, .binOp .neq _ _ _ _, _, _, _, _⟩ :: _) _ _); refine st_neq rfl _ _ _ _ rfl _ _ _ rfl rfl (fun h_ => ?_) (fun h_ => ?_))) <;> go_prune)
              | (go_at_call 55; refine (role_any _ _).mono ?_; (first | rw [HRA.out] | rw [HRB.out]); rintro r_ w_ ⟨_, rfl, rfl, hb_⟩; replace hS := hS.ext hb_; clear hb_)
              | (go_at_call 81; refine (rfail_any 6 ⟨HKs.out, A8, c8, n5, n6, hS⟩).mono ?_; clear hS; rintro r_ w_ ⟨v9, rfl, hR⟩; rw [← hbad.out] at hR; clear n5 n6; obtain ⟨-, A8, c8, n5, n6, hS⟩ := hR)
              | ((with_reducible show wpList _ _ _ (⟨_, .build _ _, _, _, _, _⟩ :: _) _ _); refine wpList_build_of rfl _ _ rfl #[.int .i64 (za : Nat), .int .i64 (zb : Nat)] (by kernel_rfl) ?_)
              | ((with_reducible show wpList _ _ _ (⟨_, .buildSlice _ 1 _, _, _, _, _⟩ :: _) _ _); refine st_push hS 1 rfl rfl _ _ _ _ rfl rfl ty_pairs _ _ _ (.agg #[.int .i64 (za : Nat), .int .i64 (zb : Nat)]) #[.int .i64 (za : Nat), .int .i64 (zb : Nat)] rfl (by kernel_rfl) rfl rfl rfl rfl (by intro u hu; simp at hu; first | (subst hu; rfl) | (rcases hu with rfl | rfl <;> rfl)) (by omega) (by omega) ?_; clear hS; intro z_ v_ w_ hS; (try simp only [Act.put, Act.eval, List.set_cons_zero, List.set_cons_succ, List.setIfInBounds_toArray, Array.getD_eq_getD_getElem?, List.getElem?_toArray, List.getElem?_cons_succ, List.getElem?_cons_zero, Option.getD_some, Value.cells] at hS)))
            obtain ⟨A9, c9, rfl, _, _⟩ := own_shp (hS.own 1 rfl)
            have h := hS
            have hpc : pcells (acc ++ [(za, zb)]) = pcells acc ++ [.int .i64 (za : Nat), .int .i64 (zb : Nat)] := pcells_app acc [(za, zb)]
            refine ⟨⟨j + 1, acc ++ [(za, zb)], l2, e9, _, by go_num, rfl, hlj, by simp [hacc], HA.out, HPP.out, HLB.out.2, HLB.out.1, HKs.out, A8, c8, n5, n6, ?_⟩, by simp [intOf]; omega⟩
            rw [hpc, show (acc ++ [(za, zb)]).length = acc.length + 1 by simp]
            exact h
        · have HRA := Lib.hid (decide_eq_false (show ¬ (1 ≤ (za : Int) ∧ (za : Int) ≤ 63) by omega))
          have HRB := HRA
          have hbad : Hid (e9 = if e2 = 0 then 6 else e2) := Lib.hid (by rw [HE9.out, if_neg (by omega)])
          clear h1
          go_wp2_with (first
            | ((with_reducible show wpList _ _ _ (⟨_, .binOp _ _ _ _ _, _, _, _, _⟩ :: _) _ _); (first | ((with_reducible show wpList _ _ _ (⟨_, .binOp .lss _ _ _ _, _, _, _, _⟩ :: _) _ _); refine st_lss rfl _ _ _ _ rfl _ _ _ rfl rfl (fun h_ => ?_) (fun h_ => ?_)) | ((with_reducible show wpList _ _ _ (⟨_, .binOp .leq _ _ _ _, _, _, _, _⟩ :: _) _ _); refine st_leq rfl _ _ _ _ rfl _ _ _ rfl rfl (fun h_ => ?_) (fun h_ => ?_)) | ((with_reducible show wpList _ _ _ (⟨_, .binOp .gtr _ _ _ _, _, _, _, _⟩ :: _) _ _); refine st_gtr rfl _ _ _ _ rfl _ _ _ rfl rfl (fun h_ => ?_) (fun h_ => ?_)) | ((with_reducible show wpList _ _ _ (⟨_, .binOp .geq _ _ _ _, _, _, _, _⟩ :: _) _ _); refine st_geq rfl _ _ _ _ rfl _ _ _ rfl rfl (fun h_ => ?_) (fun h_ => ?_)) | ((with_reducible show wpList _ _ _ (⟨_, .binOp .eql _ _ _ _, _, _, _, _⟩ :: _) _ _); refine st_eql rfl _ _ _ _ rfl _ _ _ rfl rfl (fun h_ => ?_) (fun h_ => ?_)) | ((with_reducible show wpList _ _ _ (⟨_, .binOp .neq _ _ _ _, _, _, _, _⟩ :: _) _ _); refine st_neq rfl _ _ _ _ rfl _ _ _ rfl rfl (fun h_ => ?_) (fun h_ => ?_))) <;> go_prune)
            | (go_at_call 55; refine (role_any _ _).mono ?_; (first | rw [HRA.out] | rw [HRB.out]); rintro r_ w_ ⟨_, rfl, rfl, hb_⟩; replace hS := hS.ext hb_; clear hb_)
            | (go_at_call 81; refine (rfail_any 6 ⟨HKs.out, A8, c8, n5, n6, hS⟩).mono ?_; clear hS; rintro r_ w_ ⟨v9, rfl, hR⟩; rw [← hbad.out] at hR; clear n5 n6; obtain ⟨-, A8, c8, n5, n6, hS⟩ := hR)
            | ((with_reducible show wpList _ _ _ (⟨_, .build _ _, _, _, _, _⟩ :: _) _ _); refine wpList_build_of rfl _ _ rfl #[.int .i64 (za : Nat), .int .i64 (zb : Nat)] (by kernel_rfl) ?_)
            | ((with_reducible show wpList _ _ _ (⟨_, .buildSlice _ 1 _, _, _, _, _⟩ :: _) _ _); refine st_push hS 1 rfl rfl _ _ _ _ rfl rfl ty_pairs _ _ _ (.agg #[.int .i64 (za : Nat), .int .i64 (zb : Nat)]) #[.int .i64 (za : Nat), .int .i64 (zb : Nat)] rfl (by kernel_rfl) rfl rfl rfl rfl (by intro u hu; simp at hu; first | (subst hu; rfl) | (rcases hu with rfl | rfl <;> rfl)) (by omega) (by omega) ?_; clear hS; intro z_ v_ w_ hS; (try simp only [Act.put, Act.eval, List.set_cons_zero, List.set_cons_succ, List.setIfInBounds_toArray, Array.getD_eq_getD_getElem?, List.getElem?_toArray, List.getElem?_cons_succ, List.getElem?_cons_zero, Option.getD_some, Value.cells] at hS)))
          obtain ⟨A9, c9, rfl, _, _⟩ := own_shp (hS.own 1 rfl)
          have h := hS
          have hpc : pcells (acc ++ [(za, zb)]) = pcells acc ++ [.int .i64 (za : Nat), .int .i64 (zb : Nat)] := pcells_app acc [(za, zb)]
          refine ⟨⟨j + 1, acc ++ [(za, zb)], l2, e9, _, by go_num, rfl, hlj, by simp [hacc], HA.out, HPP.out, HLB.out.2, HLB.out.1, HKs.out, A8, c8, n5, n6, ?_⟩, by simp [intOf]; omega⟩
          rw [hpc, show (acc ++ [(za, zb)]).length = acc.length + 1 by simp]
          exact h
      · have hPL : Hid (acc = PL) := Lib.hid (by rw [readLinks_err he] at ha; simpa using ha)
        have hPR : Hid ((l, e) = PR) := Lib.hid (by rw [readLinks_err he] at hp; exact hp)
        clear ha hp
        go_wp2_with (first
          | ((with_reducible show wpList _ _ _ (⟨_, .binOp _ _ _ _ _, _, _, _, _⟩ :: _) _ _); (first | ((with_reducible show wpList _ _ _ (⟨_, .binOp .lss _ _ _ _, _, _, _, _⟩ :: _) _ _); refine st_lss rfl _ _ _ _ rfl _ _ _ rfl rfl (fun h_ => ?_) (fun h_ => ?_)) | ((with_reducible show wpList _ _ _ (⟨_, .binOp .leq _ _ _ _, _, _, _, _⟩ :: _) _ _); refine st_leq rfl _ _ _ _ rfl _ _ _ rfl rfl (fun h_ => ?_) (fun h_ => ?_)) | ((with_reducible show wpList _ _ _ (⟨_, .binOp .gtr _ _ _ _, _, _, _, _⟩ :: _) _ _); refine st_gtr rfl _ _ _ _ rfl _ _ _ rfl rfl (fun h_ => ?_) (fun h_ => ?_)) | ((with_reducible show wpList _ _ _ (⟨_, .binOp .geq _ _ _ _, _, _, _, _⟩ :: _) _ _); refine st_geq rfl _ _ _ _ rfl _ _ _ rfl rfl (fun h_ => ?_) (fun h_ => ?_)) | ((with_reducible show wpList _ _ _ (⟨_, .binOp .eql _ _ _ _, _, _, _, _⟩ :: _) _ _); refine st_eql rfl _ _ _ _ rfl _ _ _ rfl rfl (fun h_ => ?_) (fun h_ => ?_)) | ((with_reducible show wpList _ _ _ (⟨_, .binOp .neq _ _ _ _, _, _, _, _⟩ :: _) _ _); refine st_neq rfl _ _ _ _ rfl _ _ _ rfl rfl (fun h_ => ?_) (fun h_ => ?_))) <;> go_prune)
          | (go_at_call 79; refine (rerr_any _ _ _ hR.errc).mono ?_; rintro r_ w_ ⟨rfl, rfl⟩))
        refine (rend_any hR).mono ?_
        rintro r_ w_ ⟨rfl, rfl⟩
        obtain ⟨-, A9, c9, a1, a2, hS⟩ := hR
        replace hS := hS.freeze 1 (by decide) rfl
        replace hS := hS.sub (F' := F) (List.sublist_cons_self _ _)
        have h0 : ¬ endE l e = 0 := fun h => he (endE_zero h).2
        have HNO : Hid (∀ M, ¬ HRead ps M) := Lib.hid fun M h => by
          have h1 := h.1
          rw [HRH.out, ← hPR.out] at h1
          injection h1 with _ h1
          injection h1 with h1 h2
          subst h1 h2
          exact h0 rfl
        go_wp2_with (first | ((with_reducible show wpList _ _ _ (⟨_, .binOp _ _ _ _ _, _, _, _, _⟩ :: _) _ _); (first | ((with_reducible show wpList _ _ _ (⟨_, .binOp .lss _ _ _ _, _, _, _, _⟩ :: _) _ _); refine st_lss rfl _ _ _ _ rfl _ _ _ rfl rfl (fun h_ => ?_) (fun h_ => ?_)) | ((with_reducible show wpList _ _ _ (⟨_, .binOp .leq _ _ _ _, _, _, _, _⟩ :: _) _ _); refine st_leq rfl _ _ _ _ rfl _ _ _ rfl rfl (fun h_ => ?_) (fun h_ => ?_)) | ((with_reducible show wpList _ _ _ (⟨_, .binOp .gtr _ _ _ _, _, _, _, _⟩ :: _) _ _); refine st_gtr rfl _ _ _ _ rfl _ _ _ rfl rfl (fun h_ => ?_) (fun h_ => ?_)) | ((with_reducible show wpList _ _ _ (⟨_, .binOp .geq _ _ _ _, _, _, _, _⟩ :: _) _ _); refine st_geq rfl _ _ _ _ rfl _ _ _ rfl rfl (fun h_ => ?_) (fun h_ => ?_)) | ((with_reducible show wpList _ _ _ (⟨_, .binOp .eql _ _ _ _, _, _, _, _⟩ :: _) _ _); refine st_eql rfl _ _ _ _ rfl _ _ _ rfl rfl (fun h_ => ?_) (fun h_ => ?_)) | ((with_reducible show wpList _ _ _ (⟨_, .binOp .neq _ _ _ _, _, _, _, _⟩ :: _) _ _); refine st_neq rfl _ _ _ _ rfl _ _ _ rfl rfl (fun h_ => ?_) (fun h_ => ?_))) <;> go_prune))
        go_ret2
        exact ⟨_, _, rfl, .inr ⟨HNO.out, rfl, rfl, hS.mono HKs.out fun _ _ h => h.1.1⟩⟩
    · obtain rfl : N0 = j := by omega
      have hPL : Hid (acc = PL) := Lib.hid (by rw [Nat.sub_self] at ha; simpa [readLinks] using ha)
      have hPR : Hid ((l, e) = PR) := Lib.hid (by rw [Nat.sub_self] at hp; exact hp)
      clear ha hp
      go_wp2_with (first | ((with_reducible show wpList _ _ _ (⟨_, .binOp _ _ _ _ _, _, _, _, _⟩ :: _) _ _); (first | ((with_reducible show wpList _ _ _ (⟨_, .binOp .lss _ _ _ _, _, _, _, _⟩ :: _) _ _); refine st_lss rfl _ _ _ _ rfl _ _ _ rfl rfl (fun h_ => ?_) (fun h_ => ?_)) | ((with_reducible show wpList _ _ _ (⟨_, .binOp .leq _ _ _ _, _, _, _, _⟩ :: _) _ _); refine st_leq rfl _ _ _ _ rfl _ _ _ rfl rfl (fun h_ => ?_) (fun h_ => ?_)) | ((with_reducible show wpList _ _ _ (⟨_, .binOp .gtr _ _ _ _, _, _, _, _⟩ :: _) _ _); refine st_gtr rfl _ _ _ _ rfl _ _ _ rfl rfl (fun h_ => ?_) (fun h_ => ?_)) | ((with_reducible show wpList _ _ _ (⟨_, .binOp .geq _ _ _ _, _, _, _, _⟩ :: _) _ _); refine st_geq rfl _ _ _ _ rfl _ _ _ rfl rfl (fun h_ => ?_) (fun h_ => ?_)) | ((with_reducible show wpList _ _ _ (⟨_, .binOp .eql _ _ _ _, _, _, _, _⟩ :: _) _ _); refine st_eql rfl _ _ _ _ rfl _ _ _ rfl rfl (fun h_ => ?_) (fun h_ => ?_)) | ((with_reducible show wpList _ _ _ (⟨_, .binOp .neq _ _ _ _, _, _, _, _⟩ :: _) _ _); refine st_neq rfl _ _ _ _ rfl _ _ _ rfl rfl (fun h_ => ?_) (fun h_ => ?_))) <;> go_prune))
      refine (rend_any hR).mono ?_
      rintro r_ w_ ⟨rfl, rfl⟩
      obtain ⟨-, A9, c9, a1, a2, hS⟩ := hR
      replace hS := hS.freeze 1 (by decide) rfl
      replace hS := hS.sub (F' := F) (List.sublist_cons_self _ _)
      by_cases h0 : endE l e = 0
      · rw [h0]
        obtain ⟨rfl, rfl⟩ := endE_zero h0
        obtain ⟨hlr, rfl⟩ : PR = ([], 0) ∧ acc = PL := ⟨hPR.out.symm, hPL.out⟩
        have HRH' : Hid (readH ps = (acc, [], 0)) := Lib.hid (by rw [HRH.out, hlr])
        have hin := readLinks_inv N0 l3 e3 HB3.out (by rw [← HP.out, hlr])
        rw [← HP.out] at hin
        have HRO : Hid (Roles acc) := Lib.hid hin.2.2.1
        have HLA : Hid (acc.length ≤ 1000000) := Lib.hid (by have := hin.2.1; dsimp only at this; omega)
        clear hin hlr HRH h0
        have HNEW := Lib.hid fun (w : World) (h : St w0 w F fun D w => (K D w ∧ Sl w D 1 (.slice A9 ([] : List Nat).length c9) ([] : List Nat).length (u8s [])) ∧ Sl w D 2 pv acc.length (pcells acc)) => onew_any 64 acc pv (by omega) (fun x hx => ⟨(HRO.out x hx).1.2, (HRO.out x hx).2.2⟩) HLA.out h (fun D w h => h.2) (fun D w h => HKT.out D w h.1.1)
        by_cases hac : HOK acc
        · have HAC := Lib.hid hac
          clear hac
          go_wp2_with (first
            | ((with_reducible show wpList _ _ _ (⟨_, .binOp _ _ _ _ _, _, _, _, _⟩ :: _) _ _); (first | ((with_reducible show wpList _ _ _ (⟨_, .binOp .lss _ _ _ _, _, _, _, _⟩ :: _) _ _); refine st_lss rfl _ _ _ _ rfl _ _ _ rfl rfl (fun h_ => ?_) (fun h_ => ?_)) | ((with_reducible show wpList _ _ _ (⟨_, .binOp .leq _ _ _ _, _, _, _, _⟩ :: _) _ _); refine st_leq rfl _ _ _ _ rfl _ _ _ rfl rfl (fun h_ => ?_) (fun h_ => ?_)) | ((with_reducible show wpList _ _ _ (⟨_, .binOp .gtr _ _ _ _, _, _, _, _⟩ :: _) _ _); refine st_gtr rfl _ _ _ _ rfl _ _ _ rfl rfl (fun h_ => ?_) (fun h_ => ?_)) | ((with_reducible show wpList _ _ _ (⟨_, .binOp .geq _ _ _ _, _, _, _, _⟩ :: _) _ _); refine st_geq rfl _ _ _ _ rfl _ _ _ rfl rfl (fun h_ => ?_) (fun h_ => ?_)) | ((with_reducible show wpList _ _ _ (⟨_, .binOp .eql _ _ _ _, _, _, _, _⟩ :: _) _ _); refine st_eql rfl _ _ _ _ rfl _ _ _ rfl rfl (fun h_ => ?_) (fun h_ => ?_)) | ((with_reducible show wpList _ _ _ (⟨_, .binOp .neq _ _ _ _, _, _, _, _⟩ :: _) _ _); refine st_neq rfl _ _ _ _ rfl _ _ _ rfl rfl (fun h_ => ?_) (fun h_ => ?_))) <;> go_prune)
            | (go_at_call 20; refine (HNEW.out _ hS).mono ?_; rintro e w_ (⟨h1, -, -⟩ | ⟨p, L, rfl, hA, hm, hc, hS⟩); · exact absurd HAC.out.acyc h1
               obtain rfl : L = acc := hA.uniq HAC.out.asc hm
               clear hA hm hc
               obtain ⟨qo, _, _, _, _, _, _, rfl, -⟩ := hS.ro.2)
            | (go_at_call 28; refine (opairs_any hS.ro.2 HLA.out).mono ?_; rintro e w_ ⟨v1, rfl, hs⟩; replace hS := hS.new hs.below (.own v1 50 2 _ _) (hs.own 0 rfl); clear hs)
            | (go_at_call 30; refine (peq_any (Sl.of_own (hS.own 0 rfl)) hS.ro.1.2 HLA.out).mono ?_; rintro r_ w_ ⟨_, rfl, rfl, hb_⟩; rw [decide_eq_true rfl]; replace hS := hS.ext hb_; clear hb_)
            | ((with_reducible show wpList _ _ _ (⟨some 61, _, _, _, _, _⟩ :: _) _ _); refine st_box hS rfl _ _ rfl (.agg #[.pointer (some ⟨qo, 0, none⟩)]) _ rfl rfl ?_; clear hS; intro g w_ hS; (try simp only [Act.put, Act.eval, List.set_cons_zero, List.set_cons_succ, List.setIfInBounds_toArray, Array.getD_eq_getD_getElem?, List.getElem?_toArray, List.getElem?_cons_succ, List.getElem?_cons_zero, Option.getD_some, Value.cells] at hS)))
          go_ret2
          exact ⟨_, _, rfl, .inl ⟨_, ⟨HRH'.out, HAC.out⟩, rfl, ((hS.sealB 0 (by simp) rfl).sub (List.sublist_cons_self _ _)).mono (HKs.out.and stable_isH) fun D w h => ⟨h.1.1.1.1, g, _, rfl, h.2, h.1.2⟩⟩⟩
        · have HNO : Hid (∀ M, ¬ HRead ps M) := Lib.hid fun M h => by
            obtain ⟨k1, k2⟩ := h
            rw [HRH'.out] at k1
            injection k1 with k1
            rw [k1] at hac
            exact hac k2
          have HAC := Lib.hid hac
          clear hac
          go_wp2_with fail
          refine (HNEW.out _ hS).mono ?_
          rintro e w_ (⟨-, rfl, hS⟩ | ⟨p, L, rfl, hA, hm, hc, hS⟩)
          · go_wp2_with (first | ((with_reducible show wpList _ _ _ (⟨_, .binOp _ _ _ _ _, _, _, _, _⟩ :: _) _ _); (first | ((with_reducible show wpList _ _ _ (⟨_, .binOp .lss _ _ _ _, _, _, _, _⟩ :: _) _ _); refine st_lss rfl _ _ _ _ rfl _ _ _ rfl rfl (fun h_ => ?_) (fun h_ => ?_)) | ((with_reducible show wpList _ _ _ (⟨_, .binOp .leq _ _ _ _, _, _, _, _⟩ :: _) _ _); refine st_leq rfl _ _ _ _ rfl _ _ _ rfl rfl (fun h_ => ?_) (fun h_ => ?_)) | ((with_reducible show wpList _ _ _ (⟨_, .binOp .gtr _ _ _ _, _, _, _, _⟩ :: _) _ _); refine st_gtr rfl _ _ _ _ rfl _ _ _ rfl rfl (fun h_ => ?_) (fun h_ => ?_)) | ((with_reducible show wpList _ _ _ (⟨_, .binOp .geq _ _ _ _, _, _, _, _⟩ :: _) _ _); refine st_geq rfl _ _ _ _ rfl _ _ _ rfl rfl (fun h_ => ?_) (fun h_ => ?_)) | ((with_reducible show wpList _ _ _ (⟨_, .binOp .eql _ _ _ _, _, _, _, _⟩ :: _) _ _); refine st_eql rfl _ _ _ _ rfl _ _ _ rfl rfl (fun h_ => ?_) (fun h_ => ?_)) | ((with_reducible show wpList _ _ _ (⟨_, .binOp .neq _ _ _ _, _, _, _, _⟩ :: _) _ _); refine st_neq rfl _ _ _ _ rfl _ _ _ rfl rfl (fun h_ => ?_) (fun h_ => ?_))) <;> go_prune))
            go_ret2
            exact ⟨_, _, rfl, .inr ⟨HNO.out, rfl, rfl, hS.mono HKs.out fun _ _ h => h.1.1⟩⟩
          · have HNE := Lib.hid (decide_eq_false (show ¬ L = acc from fun e => HAC.out (by rw [← e]; exact ⟨hA, by rw [e]; exact HRO.out, hc⟩)))
            have HLL : Hid (L.length ≤ 1000000) := Lib.hid (Nat.le_trans (nodup_le hA.nodup fun y hy => (hm y).1 hy) HLA.out)
            clear hA hm hc
            obtain ⟨qo, _, _, _, _, _, _, rfl, -⟩ := hS.ro.2
            go_wp2_with (first
              | ((with_reducible show wpList _ _ _ (⟨_, .binOp _ _ _ _ _, _, _, _, _⟩ :: _) _ _); (first | ((with_reducible show wpList _ _ _ (⟨_, .binOp .lss _ _ _ _, _, _, _, _⟩ :: _) _ _); refine st_lss rfl _ _ _ _ rfl _ _ _ rfl rfl (fun h_ => ?_) (fun h_ => ?_)) | ((with_reducible show wpList _ _ _ (⟨_, .binOp .leq _ _ _ _, _, _, _, _⟩ :: _) _ _); refine st_leq rfl _ _ _ _ rfl _ _ _ rfl rfl (fun h_ => ?_) (fun h_ => ?_)) | ((with_reducible show wpList _ _ _ (⟨_, .binOp .gtr _ _ _ _, _, _, _, _⟩ :: _) _ _); refine st_gtr rfl _ _ _ _ rfl _ _ _ rfl rfl (fun h_ => ?_) (fun h_ => ?_)) | ((with_reducible show wpList _ _ _ (⟨_, .binOp .geq _ _ _ _, _, _, _, _⟩ :: _) _ _); refine st_geq rfl _ _ _ _ rfl _ _ _ rfl rfl (fun h_ => ?_) (fun h_ => ?_)) | ((with_reducible show wpList _ _ _ (⟨_, .binOp .eql _ _ _ _, _, _, _, _⟩ :: _) _ _); refine st_eql rfl _ _ _ _ rfl _ _ _ rfl rfl (fun h_ => ?_) (fun h_ => ?_)) | ((with_reducible show wpList _ _ _ (⟨_, .binOp .neq _ _ _ _, _, _, _, _⟩ :: _) _ _); refine st_neq rfl _ _ _ _ rfl _ _ _ rfl rfl (fun h_ => ?_) (fun h_ => ?_))) <;> go_prune)
              | (go_at_call 28; refine (opairs_any hS.ro.2 HLL.out).mono ?_; rintro e w_ ⟨v1, rfl, hs⟩; replace hS := hS.new hs.below (.own v1 50 2 _ _) (hs.own 0 rfl); clear hs)
              | (go_at_call 30; refine (peq_any (Sl.of_own (hS.own 0 rfl)) hS.ro.1.2 HLL.out).mono ?_; rintro r_ w_ ⟨_, rfl, rfl, hb_⟩; rw [HNE.out]; replace hS := hS.ext hb_; clear hb_))
            go_ret2
            exact ⟨_, _, rfl, .inr ⟨HNO.out, rfl, rfl, (hS.sub (List.sublist_cons_self _ _)).mono HKs.out fun _ _ h => h.1.1.1⟩⟩
      · skip
        have HNO : Hid (∀ M, ¬ HRead ps M) := Lib.hid fun M h => by
          have h1 := h.1
          rw [HRH.out, ← hPR.out] at h1
          injection h1 with _ h1
          injection h1 with h1 h2
          subst h1 h2
          exact h0 rfl
        go_wp2_with (first | ((with_reducible show wpList _ _ _ (⟨_, .binOp _ _ _ _ _, _, _, _, _⟩ :: _) _ _); (first | ((with_reducible show wpList _ _ _ (⟨_, .binOp .lss _ _ _ _, _, _, _, _⟩ :: _) _ _); refine st_lss rfl _ _ _ _ rfl _ _ _ rfl rfl (fun h_ => ?_) (fun h_ => ?_)) | ((with_reducible show wpList _ _ _ (⟨_, .binOp .leq _ _ _ _, _, _, _, _⟩ :: _) _ _); refine st_leq rfl _ _ _ _ rfl _ _ _ rfl rfl (fun h_ => ?_) (fun h_ => ?_)) | ((with_reducible show wpList _ _ _ (⟨_, .binOp .gtr _ _ _ _, _, _, _, _⟩ :: _) _ _); refine st_gtr rfl _ _ _ _ rfl _ _ _ rfl rfl (fun h_ => ?_) (fun h_ => ?_)) | ((with_reducible show wpList _ _ _ (⟨_, .binOp .geq _ _ _ _, _, _, _, _⟩ :: _) _ _); refine st_geq rfl _ _ _ _ rfl _ _ _ rfl rfl (fun h_ => ?_) (fun h_ => ?_)) | ((with_reducible show wpList _ _ _ (⟨_, .binOp .eql _ _ _ _, _, _, _, _⟩ :: _) _ _); refine st_eql rfl _ _ _ _ rfl _ _ _ rfl rfl (fun h_ => ?_) (fun h_ => ?_)) | ((with_reducible show wpList _ _ _ (⟨_, .binOp .neq _ _ _ _, _, _, _, _⟩ :: _) _ _); refine st_neq rfl _ _ _ _ rfl _ _ _ rfl rfl (fun h_ => ?_) (fun h_ => ?_))) <;> go_prune))
        go_ret2
        exact ⟨_, _, rfl, .inr ⟨HNO.out, rfl, rfl, hS.mono HKs.out fun _ _ h => h.1.1⟩⟩
end Go.Proofs.YtmlkgaiphpimiaaDoor
namespace Go.Proofs.YtmlkgaiphpimiaaDoor
open Go.RowKit
attribute [local go_sem ↓] Go.wp_at_zero Go.wp_at_succ
set_option maxRecDepth 20000
set_option exponentiation.threshold 5000

set_option maxHeartbeats 2000000 in
theorem lreads_any (pv : Value) (ops : List OpD) (hO : ∀ x ∈ ops, x.ok) (at_ v : Nat) (hat : at_ < 65536) (hv : v < 256) (W : World) (D : Nat → Prop) (hp : Sl W D 3 pv ops.length (ocells ops)) (hT : DTab W) : Calls Tryd.prog 11 #[pv, .int .u16 at_, .int .u8 v] W (Ret (fun x _ => x = .bool true) W) := by
  obtain ⟨A0, c0, rfl, _, _⟩ := hp.shape
  obtain ⟨K, kt, kp, hS⟩ := start_ops hT hp
  have HO := Lib.hid hO
  clear hO hT hp
  go_enter Tryd.func11, Tryd.ntmps11
  go_wp2_with (first
    | (go_at_call 13; refine (lawake10_any hS kt).mono ?_; clear hS; rintro e w_ ⟨rfl, hS⟩))
  refine (lplay_any _ ops HO.out hS kt kp).mono ?_
  clear hS
  rintro e w1 ⟨p1, v1, L, rfl, hH, hl, hS⟩
  replace hH := Lib.hid hH
  obtain ⟨q1, o1, rfl, -⟩ := id hS.ro.2
  obtain ⟨A1, c1, rfl, _, _⟩ := hS.ro.1.2.shape
  obtain ⟨K1, k1t, k1h, hS2⟩ : ∃ K1 : (Nat → Prop) → World → Prop, (∀ D w, K1 D w → DTab w ∧ D 0) ∧ (∀ D w, K1 D w → IsH w D (.pointer (some ⟨q1, 0, none⟩)) L) ∧ St W w1 [] K1 := ⟨_, fun D w h => kt D w h.1.1, fun _ _ h => h.2, hS⟩
  clear hS kt kp K
  have hS := hS2
  clear hS2
  have HEN : Hid (0 < (hencB L).length ∧ (hencB L).length ≤ 100000) := Lib.hid (by
    have h1 := hpairs_len L
    have h2 := putN_len L.length
    have h3 := putN_gt0 L.length
    unfold hencB
    rw [List.length_append]; omega)
  have HEB := Lib.hid (hencB_bytes L)
  have HBY := Lib.hid fun (w : World) (D : Nat → Prop) (h : IsH w D (.pointer (some ⟨q1, 0, none⟩)) L) => hbytes_any h hH.out (show L.length ≤ 900000 by omega)
  generalize hencB L = bs at *
  obtain ⟨hn0, hn1⟩ := HEN.out
  obtain ⟨k, hk⟩ : ∃ k, k = at_ % bs.length := ⟨_, rfl⟩
  have hkl : k < bs.length := by rw [hk]; exact Nat.mod_lt _ hn0
  have hw1 : IntKind.i64.wrap (at_ : Int) = (at_ : Int) := wrap_i64_nat (by omega)
  have hw2 : ((at_ : Int)).tmod (bs.length : Int) = (k : Int) := by rw [hk, Int.tmod_eq_emod_of_nonneg (Int.natCast_nonneg _)]; simp
  obtain ⟨z, hz⟩ : ∃ z, z = bs.getD k 0 ^^^ v := ⟨_, rfl⟩
  have hbk : bs.getD k 0 < 256 := HEB.out _ (by rw [List.getD_eq_getElem?_getD, List.getElem?_eq_getElem hkl]; exact List.getElem_mem hkl)
  have hz8 : z < 256 := by rw [hz]; exact Nat.xor_lt_two_pow (n := 8) hbk hv
  have hxor : bits .xor .u8 ((bs.getD k 0 : Nat) : Int) (v : Int) = ((z : Nat) : Int) := by rw [hz]; exact u8_xor_nat _ _ hbk hv
  have hcell : (u8s bs)[k]? = some (.int .u8 (bs.getD k 0 : Nat)) := u8s_at bs k hkl
  have hb3 : Bytes (bs.set k z) := fun t ht => by
    rcases List.mem_or_eq_of_mem_set ht with h | h
    · exact HEB.out t h
    · rw [h]; exact hz8
  have hl3 : (bs.set k z).length = bs.length := List.length_set
  have HB3 := Lib.hid hb3
  have HL3 := Lib.hid hl3
  have HW2 := Lib.hid hw2
  have HCell := Lib.hid hcell
  have HXor := Lib.hid hxor
  generalize bs.getD k 0 = bk at *
  clear hk hz hz8 hb3 hl3 hxor hcell hbk HEB
  go_wp2_with (first
    | (go_at_call 47; refine (HBY.out _ _ (k1h _ _ hS.ro)).mono ?_; rintro e w_ ⟨v3, rfl, hs⟩; replace hS := hS.new hs.below (.own v3 5 1 bs.length (u8s bs)) (hs.own 0 rfl); clear hs; obtain ⟨g6, c6, rfl, hc6, hc6'⟩ := own_pos (hS.own 0 rfl) hn0)
    | ((with_reducible show wpList _ _ _ (⟨_, .binOp _ _ _ _ _, _, _, _, _⟩ :: _) _ _); (first | ((with_reducible show wpList _ _ _ (⟨_, .binOp .lss _ _ _ _, _, _, _, _⟩ :: _) _ _); refine st_lss rfl _ _ _ _ rfl _ _ _ rfl rfl (fun h_ => ?_) (fun h_ => ?_)) | ((with_reducible show wpList _ _ _ (⟨_, .binOp .leq _ _ _ _, _, _, _, _⟩ :: _) _ _); refine st_leq rfl _ _ _ _ rfl _ _ _ rfl rfl (fun h_ => ?_) (fun h_ => ?_)) | ((with_reducible show wpList _ _ _ (⟨_, .binOp .gtr _ _ _ _, _, _, _, _⟩ :: _) _ _); refine st_gtr rfl _ _ _ _ rfl _ _ _ rfl rfl (fun h_ => ?_) (fun h_ => ?_)) | ((with_reducible show wpList _ _ _ (⟨_, .binOp .geq _ _ _ _, _, _, _, _⟩ :: _) _ _); refine st_geq rfl _ _ _ _ rfl _ _ _ rfl rfl (fun h_ => ?_) (fun h_ => ?_)) | ((with_reducible show wpList _ _ _ (⟨_, .binOp .eql _ _ _ _, _, _, _, _⟩ :: _) _ _); refine st_eql rfl _ _ _ _ rfl _ _ _ rfl rfl (fun h_ => ?_) (fun h_ => ?_)) | ((with_reducible show wpList _ _ _ (⟨_, .binOp .neq _ _ _ _, _, _, _, _⟩ :: _) _ _); refine st_neq rfl _ _ _ _ rfl _ _ _ rfl rfl (fun h_ => ?_) (fun h_ => ?_))) <;> go_prune)
    | ((with_reducible show wpList _ _ _ (⟨some 33, _, _, _, _, _⟩ :: _) _ _); refine BigFrame.wpList_want rfl fun _ hK => opw_cell rfl rfl (by kernel_rfl) (own_cell (hS.own 0 rfl) k _ HCell.out) (hK _ _ ?_))
    | ((with_reducible show wpList _ _ _ (⟨_, .store 5 _ _, _, _, _, _⟩ :: _) _ _); refine st_ostore hS 0 rfl _ _ _ rfl g6 k (.int .u8 (z : Nat)) rfl (congrArg (Value.int .u8) HXor.out) rfl (by omega) rfl rfl (by kernel_rfl) ?_; clear hS; intro w_ hS; (try simp only [Act.put, Act.eval, List.set_cons_zero, List.set_cons_succ, List.setIfInBounds_toArray, Array.getD_eq_getD_getElem?, List.getElem?_toArray, List.getElem?_cons_succ, List.getElem?_cons_zero, Option.getD_some, Value.cells] at hS)))
  replace hS := hS.freeze 0 (by decide) rfl
  obtain ⟨ps, hps⟩ : ∃ ps, ps = bs.set k z := ⟨_, rfl⟩
  rw [← hps] at HB3 HL3
  have hpl : ps.length = bs.length := HL3.out
  obtain ⟨K3, k3t, k3p, hS2⟩ : ∃ K3 : (Nat → Prop) → World → Prop, (∀ D w, K3 D w → DTab w ∧ D 0) ∧ (∀ D w, K3 D w → Sl w D 1 (.slice (some ⟨g6, 0, none⟩) bs.length c6) ps.length (u8s ps)) ∧ St W w_ [] K3 := ⟨_, fun D w h => k1t D w h.1, fun D w h => by rw [hpl]; have := h.2; rw [← u8s_set, ← hps] at this; exact this, hS⟩
  clear hS hps
  have hS := hS2
  clear hS2
  have HPL : Hid (ps.length ≤ 1000000) := Lib.hid (by omega)
  clear hpl HL3
  refine (hread_any _ ps HB3.out HPL.out hS k3t (k3p _ _ hS.ro)).mono ?_
  rintro e w4 ⟨r, z4, rfl, (⟨M, hM, rfl, hS⟩ | ⟨-, rfl, rfl, hS⟩)⟩
  · have HEE := Lib.hid (hM.enc HB3.out)
    have HML := hM.len HB3.out
    have HMK := Lib.hid hM.2
    clear hM
    obtain ⟨qr, or_, rfl, -⟩ := id hS.ro.2
    go_wp2_with (first
      | (go_at_call 47; refine (hbytes_any hS.ro.2 HMK.out (by omega)).mono ?_; rw [HEE.out]; rintro e w_ ⟨v3, rfl, hs⟩; replace hS := hS.new hs.below (.own v3 5 1 ps.length (u8s ps)) (hs.own 0 rfl); clear hs)
      | (go_at_call 50; refine (beq_any (Sl.of_own (hS.own 0 rfl)) (k3p _ _ hS.ro.1) (by have := HPL.out; omega)).mono ?_; rintro r_ w_ ⟨_, rfl, rfl, hb_⟩; rw [decide_eq_true rfl]; replace hS := hS.ext hb_; clear hb_))
    go_ret
    exact Ret.mk rfl hS.below
  · go_wp2_with fail
    go_ret
    exact Ret.mk rfl hS.below
end Go.Proofs.YtmlkgaiphpimiaaDoor
namespace Go.Proofs.YtmlkgaiphpimiaaDoor
open Go.RowKit Go.ChangeShapes Go.WideShapes

section
variable {H : Type} {enc : TypeId × Value → H} {P : Program} {w : World} {base : Nat} {sp : Nat → Bool} {held : Bool}
/-- A SLICE THAT READS AS DATA: its cells, element by element. -/
theorem sl_of_trod {t e : TypeId} {size fuel : Nat} {cs : List Value} {x : DataW H × List MemPlace} (ht : P.underlying t = some (.slice e)) (hc : P.cellsOf e = size) (hsz : 0 < size) (h : DataW.trod enc P w base sp held fuel t cs = some x) :
    ∃ v n xs, cs = [v] ∧ Sl w (fun _ => True) size v n xs ∧ ∀ k, k < n → ∃ f' y, DataW.trod enc P w base sp held f' e ((xs.drop (k * size)).take size) = some y := by
  rcases DataW.trod_slice ht h with ⟨rfl, _⟩ | ⟨a, len, cap, elems, rest, n, _, rfl, _, hb, hl, hm, hlen, hel, _⟩
  · exact ⟨_, 0, [], rfl, ⟨by simp, none, 0, rfl, Nat.le_refl _, Nat.zero_le _, fun h => by omega⟩, fun k hk => by omega⟩
  · rw [hc] at hel
    have each : ∀ k, k < len → ∃ ck y, w.cells? base (a.add (k * size)) size = some ck ∧ DataW.trod enc P w base sp held n e ck = some y := by
      intro k hk
      have h1 := hel k hk
      rw [List.getElem?_eq_getElem (by omega)] at h1
      obtain ⟨ck, h2, h3⟩ := Option.bind_eq_some_iff.1 h1
      exact ⟨ck, _, h2, h3⟩
    have hadd : ∀ i j, (a.add i).add j = a.add (i + j) := by
      intro i j
      unfold Addr.add
      by_cases h1 : i = 0 <;> by_cases h2 : j = 0 <;> simp [h1, h2, Nat.add_assoc]
    have cell : ∀ j, j < len * size → ∃ x, w.cell? (a.add j) = some x := by
      intro j hj
      have hk : j / size < len := (Nat.div_lt_iff_lt_mul hsz).2 hj
      obtain ⟨ck, y, h1, h2⟩ := each _ hk
      obtain ⟨_, h3, h4⟩ := World.cells?_some h1
      have h5 := h4 (j % size) (Nat.mod_lt _ hsz)
      rw [hadd, Nat.mul_comm, Nat.div_add_mod] at h5
      rw [h5, List.getElem?_eq_getElem (by rw [h3]; exact Nat.mod_lt _ hsz)]
      exact ⟨_, rfl⟩
    refine ⟨.slice (some a) len cap, len, (List.range (len * size)).map fun j => (w.cell? (a.add j)).getD undef, rfl, ⟨by simp, some a, cap, rfl, hl, hm, fun h0 => ?_⟩, fun k hk => ?_⟩
    · obtain ⟨x0, hx0⟩ := cell 0 (Nat.mul_pos h0 hsz)
      obtain ⟨b, o, s⟩ := a
      have hs : s = none := cell_spot hx0
      subst hs
      refine ⟨b, o, rfl, trivial, ?_, fun j x hx => ?_⟩
      · have := hx0
        unfold World.cell? at this
        simp only [Addr.add] at this
        rcases Nat.lt_or_ge b w.heap.size with hlt | hge
        · exact hlt
        · simp [Array.getElem?_eq_none hge] at this
      · simp only [List.getElem?_map, Option.map_eq_some_iff] at hx
        obtain ⟨j', hj', rfl⟩ := hx
        have hjl := (List.getElem?_eq_some_iff.1 hj').1
        rw [List.getElem?_range (by simpa using hjl)] at hj'
        obtain rfl := Option.some.inj hj'
        obtain ⟨y, hy⟩ := cell j (by simpa using hjl)
        rw [hy]
        have e : (⟨b, o, none⟩ : Addr).add j = ⟨b, o + j, none⟩ := by
          unfold Addr.add; split <;> simp [*]
        rw [e] at hy
        exact hy
    · obtain ⟨ck, y, h1, h2⟩ := each k hk
      obtain ⟨_, h3, h4⟩ := World.cells?_some h1
      refine ⟨n, y, ?_⟩
      rw [← h2]
      congr 1
      have hle : k * size + size ≤ len * size := by
        rw [← Nat.succ_mul]; exact Nat.mul_le_mul_right _ hk
      apply List.ext_getElem?
      intro i
      rcases Nat.lt_or_ge i size with hi | hi
      · rw [List.getElem?_take_of_lt hi, List.getElem?_drop, List.getElem?_map, List.getElem?_range (by omega)]
        have h5 := h4 i hi
        rw [hadd] at h5
        simp only [Option.map_some]
        rw [h5, List.getElem?_eq_getElem (by omega)]
        simp
      · rw [List.getElem?_eq_none (by simp; omega), List.getElem?_eq_none (by omega)]
end
theorem list3 {α : Type} {l : List α} (h : l.length = 3) : ∃ a b c, l = [a, b, c] := by
  match l, h with
  | [a, b, c], _ => exact ⟨a, b, c, rfl⟩
theorem list3r {α : Type} {l : List α} {n : Nat} (h : l.length = (n + 1) * 3) : ∃ a b c r, l = a :: b :: c :: r := by
  match l, h with
  | [], h => simp at h
  | [_], h => simp at h; omega
  | [_, _], h => simp at h; omega
  | a :: b :: c :: r, _ => exact ⟨a, b, c, r, rfl⟩
end Go.Proofs.YtmlkgaiphpimiaaDoor
namespace Go.Proofs.YtmlkgaiphpimiaaDoor
open Go.RowKit Go.ChangeShapes Go.WideShapes

theorem boxF_of_reads {w : World} {n : String} {g : Nat} {t e : TypeId} {m : Nat} {k : IntKind} {zs : List Int} (hg : Tryd.prog.globalNamed n = some g) (hty : (Tryd.prog.globals[g]?).map (·.type) = some t)
    (ht : Tryd.prog.underlying t = some (.array m e)) (he : Tryd.prog.underlying e = some (.int k)) (hce : Tryd.prog.cellsOf e = 1) (hct : Tryd.prog.cellsOf t = m) (h : Lib.VarReads Tryd.prog w n (Lib.tabData k zs)) :
    ∃ t, BoxF w g t (zs.map fun z => Value.int k z).toArray := by
  obtain ⟨g', t', cs, fuel, p, hg', hty', hvar, hd⟩ := h
  obtain rfl := Option.some.inj (hg.symm.trans hg')
  obtain rfl := Option.some.inj (hty.symm.trans hty')
  have hcs := Lib.cells_of_tab ht he hce hct hd
  simp only [World.var?, hg, Option.bind_some] at hvar
  split at hvar
  · rename_i cs' t'' f heq
    obtain rfl := Option.some.inj hvar
    refine ⟨(t'', f), ?_⟩
    rw [← hcs]
    exact heq
  · cases hvar
end Go.Proofs.YtmlkgaiphpimiaaDoor
namespace Go.Proofs.YtmlkgaiphpimiaaDoor
open Go.RowKit Go.ChangeShapes Go.WideShapes

theorem dtab_of_reads {w : World} (h1 : Lib.VarReads Tryd.prog w "math/bits.deBruijn64tab" Rows.laid_math_bits_deBruijn64tab) : DTab w := by
  have e1 : (Rows.laid_math_bits_deBruijn64tab : DataW Unit) = Lib.tabData .u8 (dbL.map fun x : Nat => (x : Int)) := by kernel_rfl
  rw [e1] at h1
  obtain ⟨t, b1⟩ := boxF_of_reads (g := 0) (by kernel_rfl) (t := 133) (by kernel_rfl) Tryd.underlying133 Tryd.underlying5 (by kernel_rfl) (by kernel_rfl) h1
  have e : (List.map (fun z => Value.int .u8 z) (dbL.map fun x : Nat => (x : Int))) = u8s dbL := by simp [u8s]
  rw [e] at b1
  intro q hq
  rw [b1.cell, List.getElem?_toArray]
  exact u8s_at _ _ hq
end Go.Proofs.YtmlkgaiphpimiaaDoor
namespace Go.Proofs.YtmlkgaiphpimiaaDoor
open Go.ChangeShapes Go.WideShapes Go.ChangeAt Go.RowKit

section
variable {P : Program} {H : Type} {enc : TypeId × Value → H} {W : World} {r : Reach} {b0 base : Nat} {sp : Nat → Bool} {held : Bool} {v : Value} {d : DataW H} {p : List MemPlace} {t : TypeId}
theorem int_open {k : IntKind} (ht : P.underlying t = some (.int k)) (hv : Value.okWide P W r b0 t v) (h : DataW.Trod enc P W base sp held t v d p) : ∃ n, v = .int k n ∧ (Lit.int k n).wf = true := by
  obtain ⟨n, rfl⟩ := okWide_int ht hv
  obtain ⟨fuel, hf⟩ := h
  obtain ⟨m, e, _, w⟩ := DataW.trod_int ht hf
  simp [Value.cells] at e
  subst e
  exact ⟨_, rfl, w⟩
theorem u8_open (ht : P.underlying t = some (.int .u8)) (hv : Value.okWide P W r b0 t v) (h : DataW.Trod enc P W base sp held t v d p) : ∃ n : Nat, v = .int .u8 n ∧ n < 256 := by
  obtain ⟨n, rfl, w⟩ := int_open ht hv h
  have := bounds_u8 w
  obtain ⟨m, rfl⟩ := Int.eq_ofNat_of_zero_le (by omega : 0 ≤ n)
  exact ⟨m, rfl, by omega⟩
theorem u16_open (ht : P.underlying t = some (.int .u16)) (hv : Value.okWide P W r b0 t v) (h : DataW.Trod enc P W base sp held t v d p) : ∃ n : Nat, v = .int .u16 n ∧ n < 65536 := by
  obtain ⟨n, rfl, w⟩ := int_open ht hv h
  have := bounds_u16 w
  obtain ⟨m, rfl⟩ := Int.eq_ofNat_of_zero_le (by omega : 0 ≤ n)
  exact ⟨m, rfl, by omega⟩
end
end Go.Proofs.YtmlkgaiphpimiaaDoor
namespace Go.Proofs.YtmlkgaiphpimiaaDoor
open Go.ChangeShapes Go.WideShapes Go.ChangeAt Go.RowKit

theorem i8_of {n : Int} (h : (Lit.int .i8 n).wf = true) : -128 ≤ n ∧ n ≤ 127 := by
  have := bounds_i8 h
  omega
set_option maxRecDepth 20000 in
theorem ops_open {H : Type} {enc : TypeId × Value → H} {W : World} {r : Reach} {b0 base : Nat} {sp : Nat → Bool} {held : Bool} {v : Value} {d : DataW H} {p : List MemPlace} (hv : Value.okWide Tryd.prog W r b0 47 v) (h : DataW.Trod enc Tryd.prog W base sp held 47 v d p) :
    ∃ ops : List OpD, (∀ x ∈ ops, x.ok) ∧ Sl W (fun _ => True) 3 v ops.length (ocells ops) := by
  obtain ⟨a0, len0, cap0, rfl⟩ := okWide_slice Tryd.underlying47 hv
  obtain ⟨fuel, hf⟩ := h
  obtain ⟨v, n, xs, e, hs, he⟩ := sl_of_trod Tryd.underlying47 (size := 3) (by kernel_rfl) (by decide) hf
  obtain rfl : v = .slice a0 len0 cap0 := by simpa [Value.cells] using e.symm
  have hl := hs.1
  have : ∃ zs : List OpD, xs = ocells zs ∧ zs.length = n ∧ ∀ c ∈ zs, c.ok := by
    clear hs hf e
    induction n generalizing xs with
    | zero => exact ⟨[], List.length_eq_zero_iff.1 (by simpa using hl), rfl, by simp⟩
    | succ n ih =>
      obtain ⟨f', y, hy⟩ := he 0 (by omega)
      simp only [Nat.zero_mul, List.drop_zero] at hy
      obtain ⟨zs, hz, hn, hok⟩ := ih (xs.drop 3) (fun k hk => by
        obtain ⟨f', y, h⟩ := he (k + 1) (by omega)
        refine ⟨f', y, ?_⟩
        rw [List.drop_drop]
        rw [show 3 + k * 3 = (k + 1) * 3 by omega]
        exact h) (by simp; omega)
      obtain ⟨ys, m, rfl, _, _, hyl, hf⟩ := DataW.trod_struct Tryd.underlying87 hy
      obtain ⟨y0, y1, y2, rfl⟩ := list3 (show ys.length = 3 from hyl)
      obtain ⟨a, b, c, r, rfl⟩ := list3r hl
      · clear hyl
        have g0 : DataW.trod enc Tryd.prog W base sp held m 4 (((a :: b :: c :: r).take 3).drop 0 |>.take (Tryd.prog.cellsOf 4)) = some y0 := hf 0 _ rfl
        have g1 : DataW.trod enc Tryd.prog W base sp held m 85 (((a :: b :: c :: r).take 3).drop 1 |>.take (Tryd.prog.cellsOf 85)) = some y1 := hf 1 _ rfl
        have g2 : DataW.trod enc Tryd.prog W base sp held m 85 (((a :: b :: c :: r).take 3).drop 2 |>.take (Tryd.prog.cellsOf 85)) = some y2 := hf 2 _ rfl
        have c1 : Tryd.prog.cellsOf 85 = 1 := by kernel_rfl
        have c2 : Tryd.prog.cellsOf 4 = 1 := by kernel_rfl
        rw [c1] at g1 g2
        rw [c2] at g0
        obtain ⟨n0, e0, _⟩ := DataW.trod_bool Tryd.underlying4 (x := y0) (by simpa using g0)
        obtain ⟨n1, e1, _, w1⟩ := DataW.trod_int Tryd.underlying85 (x := y1) (by simpa using g1)
        obtain ⟨n2, e2, _, w2⟩ := DataW.trod_int Tryd.underlying85 (x := y2) (by simpa using g2)
        simp at e0 e1 e2
        subst e0 e1 e2
        refine ⟨⟨n0, n1, n2⟩ :: zs, ?_, by simp [hn], fun c hc => ?_⟩
        · show _ = _ :: _ :: _ :: ocells zs
          rw [← hz]; rfl
        · rcases List.mem_cons.1 hc with rfl | hc
          · exact ⟨i8_of w1, i8_of w2⟩
          · exact hok c hc
  obtain ⟨zs, rfl, rfl, hok⟩ := this
  exact ⟨zs, hok, hs⟩
end Go.Proofs.YtmlkgaiphpimiaaDoor
namespace Go.Proofs.YtmlkgaiphpimiaaDoor
open Go.ChangeShapes Go.WideShapes Go.ChangeAt Go.RowKit

theorem hrds_laid_plain (W : World) (h : laidMetH Tryd.prog Rows.hierarchyReadsRow.laid W) : DTab W := by
  have h' : laidMetH Tryd.prog [("math/bits.deBruijn64tab", Rows.laid_math_bits_deBruijn64tab)] W := h
  rw [MakeChecks.laidMetH_plain _ _ _ (by kernel_rfl)] at h'
  exact dtab_of_reads (Lib.laidMet.reads h' (.head _))
noncomputable def hrdsStart (os : Os) : World := World.laidAll Tryd.prog os Rows.hierarchyReadsRow.laid
theorem hrds_start_met (os : Os) (args : Array Value) : laidMetH Tryd.prog Rows.hierarchyReadsRow.laid ((hrdsStart os).forCall (fun _ _ => 0) ⟨#[], args, []⟩).memory := by
  rw [MakeChecks.laidMetH_plain _ _ _ (by kernel_rfl)]
  exact laidMet_laidAll _ (by kernel_rfl) (by kernel_rfl)
theorem hrds_own : ownKnob Tryd.prog.godebug = none := by kernel_rfl
theorem hrds_laidOut : laidOutB Tryd.prog = true := by kernel_rfl

set_option maxRecDepth 100000 in
theorem hrds_lifted (os : Os) (started : os.Started) (H : Type) (enc : TypeId × Value → H) :
    ReturnsInHanded {} Tryd.checked os 11 .any (fun w args => (Rows.hierarchyReadsSpec.pre enc Tryd.prog Tryd.f11 [] false w args ∧ laidMetH Tryd.prog Rows.hierarchyReadsRow.laid w) ∧ sizedMet enc Tryd.prog Tryd.f11 (OpenSpec.ofChange Rows.hierarchyReadsSpec) false w args)
      (Rows.hierarchyReadsSpec.post enc Tryd.prog Tryd.f11 false true false false) := by
  refine returnsInHanded_of_change_and (C := Tryd.checked) (X := fun w _ => laidMetH Tryd.prog Rows.hierarchyReadsRow.laid w) (fun _ _ _ hh h => h.of_heap hh) hrds_own started (by kernel_rfl) Tryd.func11
    (ChangeSpec.witness_shaped (enc := enc) (C := Tryd.checked) (os := os) (X := fun w _ => laidMetH Tryd.prog Rows.hierarchyReadsRow.laid w) false (hrdsStart os) #[.slice none 0 0, .int .u16 0, .int .u8 0] 8 (World.laidAll_os _ _ _) (World.shaped_of_ZipB (by kernel_rfl) (by kernel_rfl)) (by kernel_rfl) (by kernel_rfl) (by kernel_rfl) (hrds_start_met os _)) ?_
  intro W base args ds gs before hval0 hW _ _ hL _
  have hval : ∀ (j : Nat) t v, Tryd.f11.params[j]? = some t → args[j]? = some v → Value.okWide Tryd.prog W .any base t v := hval0
  have hW' := hW
  obtain ⟨p, q, hA0, hV, rfl, hfz, hnd⟩ := hW
  have hA : DataW.TrodAll enc Tryd.prog W 0 (fun _ => true) true Tryd.f11.params.toList args.toList ds p := hA0
  rw [Tryd.params11] at hA hval
  obtain ⟨v0, v1, v2, d0, d1, d2, p0, p1, p2, rfl, rfl, rfl, h0, h1, h2⟩ := trodAll_three hA
  obtain ⟨rfl, rfl⟩ := trodVars_none hV
  obtain ⟨ops, hO, hp⟩ := ops_open (hval 0 _ v0 rfl rfl) h0
  obtain ⟨a1, rfl, ha1⟩ := u16_open Tryd.underlying67 (hval 1 _ v1 rfl rfl) h1
  obtain ⟨a2, rfl, ha2⟩ := u8_open Tryd.underlying5 (hval 2 _ v2 rfl rfl) h2
  have hT := hrds_laid_plain W hL
  have lt : ∀ z ∈ p0 ++ p1 ++ p2, z.block < W.heap.size := fun z hz => by simpa using hW'.lt z (by simpa using hz)
  refine (lreads_any v0 ops hO a1 a2 ha1 ha2 W _ hp hT).mono fun E W' he => ?_
  obtain ⟨r, rfl, rfl, hb⟩ := he
  refine ⟨_, rfl, _, _, _, [], p0 ++ p1 ++ p2, [], hW', ?_, ?_, ?_, hb.frame _, fun h => by cases h⟩
  · exact trodAll_mk1 (shut_bool Tryd.underlying4 true)
  · rw [Tryd.params11]
    rw [List.append_assoc]
    exact trodAll_mk3 (Below.trod hrds_laidOut (by kernel_rfl) (of_decide_eq_true (by kernel_rfl)) h0 hb fun z hz => lt z (List.mem_append_left _ (List.mem_append_left _ hz))) (Below.trod hrds_laidOut (by kernel_rfl) (of_decide_eq_true (by kernel_rfl)) h1 hb fun z hz => lt z (List.mem_append_left _ (List.mem_append_right _ hz))) (Below.trod hrds_laidOut (by kernel_rfl) (of_decide_eq_true (by kernel_rfl)) h2 hb fun z hz => lt z (List.mem_append_right _ hz))
  · rfl

theorem hrds_holds : Rows.HierarchyReadsSaid :=
  OpenClaim.holds_of_wide 11 Tryd.f11 rfl rfl rfl rfl rfl rfl rfl ⟨rfl, rfl, rfl, rfl, rfl⟩ rfl rfl rfl rfl rfl (by kernel_rfl) Tryd.func11 (by kernel_rfl)
    (of_decide_eq_true (by kernel_rfl)) (by unfold Func.isWrapper; rw [if_neg (by decide +kernel)]; exact ⟨rfl, rfl⟩)
    (fun os started H enc _ => hrds_lifted os started H enc)
end Go.Proofs.YtmlkgaiphpimiaaDoor
namespace Go.Proofs.YtmlkgaiphpimiaaDoor
open Go

theorem hrds_card : Rows.HierarchyReadsCardSaid :=
  Claim7.holds_tied_plain_at .later [] [.data] true (true, "cfd49cb4656b8bd54bde5f9242d591093a1a57a61d44ec1a091c4818a6365428") false
    hrds_holds (fun _ h => by cases h) (by kernel_rfl) (fun _ h => by cases h) hierarchyReads_row_tie rfl ⟨rfl, rfl⟩ (by kernel_rfl) rfl
    (fun f fn hf hfn => by
      obtain rfl : f = 11 := Option.some.inj ((show Tryd.prog.funcNamed "arbac/arbaclaw10.HierarchyReads" = some 11 by kernel_rfl).symm.trans hf) |>.symm
      obtain rfl : fn = Tryd.f11 := (Option.some.inj (Tryd.func11.symm.trans hfn)).symm
      exact ⟨by kernel_rfl, fun j t ht => by
        rw [Tryd.params11] at ht
        have h3 : t = 47 ∨ t = 67 ∨ t = 5 := by
          rcases j with _ | _ | _ | j
          · simp at ht; simp [← ht]
          · simp at ht; simp [← ht]
          · simp at ht; simp [← ht]
          · simp at ht
        rcases h3 with rfl | rfl | rfl
        · exact (show Tryd.prog.wantsStandIn 47 = false by kernel_rfl)
        · exact (show Tryd.prog.wantsStandIn 67 = false by kernel_rfl)
        · exact (show Tryd.prog.wantsStandIn 5 = false by kernel_rfl)⟩)
    (by kernel_rfl)
end Go.Proofs.YtmlkgaiphpimiaaDoor
namespace Go.Proofs.YtmlkgaiphpimiaaDoor
#print axioms hrds_card
end Go.Proofs.YtmlkgaiphpimiaaDoor
