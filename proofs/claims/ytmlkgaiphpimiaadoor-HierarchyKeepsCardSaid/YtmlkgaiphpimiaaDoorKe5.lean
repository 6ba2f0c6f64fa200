/-
  What the statement needs, part 5.
-/
import Derived.Test.YtmlkgaiphpimiaaDoorKe4
namespace Go.Proofs.YtmlkgaiphpimiaaDoor
open Go.RowKit
attribute [local go_sem ↓] Go.wp_at_zero Go.wp_at_succ
set_option maxRecDepth 20000
set_option exponentiation.threshold 5000

/-- append(s[:k], s[k1:]...) within a row of the call's own -/
theorem opw_amove {P : Program} {o : Oper} {a : Act} {w : World} {Kt : Act → World → Prop} {Q : Exit → Act → World → Prop} {s x : Operand} {t e : TypeId} {base g n cap k k1 : Nat} {xs : List Value} (ho : o.op = .call { callee := .builtin .append, args := #[s, x], argTypes := #[t, t] })
    (ht : P.underlying t = some (.slice e)) (hi : (P.info? e).map (·.size) = some 2) (hs : a.eval s = .slice (some ⟨g, 0, none⟩) k cap) (hx : a.eval x = sliced (some ⟨g, 0, none⟩) k1 n cap 2) (hown : w.ownsRow base e 2 (.slice (some ⟨g, 0, none⟩) n cap) n xs) (h1 : ∀ u ∈ xs, u.oneCell' = true) (hk : k ≤ k1) (hn : k1 ≤ n)
    (hK : ∀ w' ys, w'.ownsRow base e 2 (.slice (some ⟨g, 0, none⟩) n cap) n ys → ys.take ((k + (n - k1)) * 2) = xs.take (k * 2) ++ xs.drop (k1 * 2) → w.grownBy w' (some g) → Kt (a.put o.dst (.slice (some ⟨g, 0, none⟩) (k + (n - k1)) cap)) w') : o.wp P a w Kt Q := by
  cases hz : P.info? e with
  | none => rw [hz] at hi; cases hi
  | some i =>
    have hsize : i.size = 2 := by simpa [hz] using hi
    have hxl : xs.length = n * 2 := hown.1
    have hcell := fun j u hj => own_cell hown j u hj
    rcases hown.2 with ⟨h, _⟩ | ⟨g', cap', cur, h, hbg, hg, hnc, hcm, hcs, htake⟩
    · simp at h
    · simp only [Value.slice.injEq, Option.some.injEq, Addr.mk.injEq, and_true, true_and] at h
      obtain ⟨rfl, rfl⟩ := h
      have hcur : cur.toList.length = cap * 2 := by simpa using hcs
      have htk : cur.toList.take (k * 2) = xs.take (k * 2) := by rw [← htake, List.take_take]; congr 1; omega
      obtain ⟨ad, c2, hsl, hnews⟩ : ∃ ad c2, sliced (some ⟨g, 0, none⟩) k1 n cap 2 = .slice (some ad) (n - k1) c2 ∧ ∀ (j : Nat) u, (xs.drop (k1 * 2))[j]? = some u → w.cell? (ad.add j) = some u := by
        by_cases hc : cap = k1
        · refine ⟨⟨g, 0, none⟩, cap - k1, by simp [sliced, hc], fun j u hj => ?_⟩
          rw [List.getElem?_drop, List.getElem?_eq_none (by omega)] at hj
          cases hj
        · refine ⟨⟨g, k1 * 2, none⟩, cap - k1, by simp [sliced, hc, Addr.add]; omega, fun j u hj => ?_⟩
          rw [List.getElem?_drop] at hj
          rw [Addr.add_lit]
          exact hcell _ u hj
      have hdl : (xs.drop (k1 * 2)).length = (n - k1) * i.size := by rw [List.length_drop, hsize]; omega
      have hr := run_append_room (P := P) w t o.type e i ht hz g k cap cur hg ad (n - k1) c2 (xs.drop (k1 * 2)) hdl hnews (fun u hu => h1 u (List.mem_of_mem_drop hu)) (by omega) (by rw [hdl, hsize, hcs]; omega)
      unfold Oper.wp execOp
      simp only [ho, resolve, invoke, builtin, Sem.run_bind, Sem.run_pure, Result.andThen_ok, List.map_toArray, List.map_cons, List.map_nil, hs, hx, hsl, hr]
      refine hK _ ((cur.toList.take (k * 2) ++ xs.drop (k1 * 2) ++ cur.toList.drop (k * 2 + (xs.drop (k1 * 2)).length)).take (n * 2)) ⟨?_, .inr ⟨g, cap, _, rfl, hbg, setRow_heap w g cur _ e _ hg, hnc, hcm, ?_, ?_⟩⟩ ?_ ⟨rfl, rfl, rfl, by simp, fun k _ hk => setRow_other w g k _ (fun e => hk (by simp [e]))⟩
      · simp only [List.length_take, List.length_append, List.length_drop, hcur]
        omega
      · simp only [List.size_toArray, List.length_append, List.length_take, List.length_drop, hcur, hsize]
        omega
      · rw [hsize]
      · have hlen : (xs.take (k * 2) ++ xs.drop (k1 * 2)).length = (k + (n - k1)) * 2 := by
          rw [List.length_append, List.length_take, List.length_drop]
          omega
        rw [List.take_take, htk, Nat.min_eq_left (by omega), ← hlen, List.take_left]
theorem pcells_drop' (L : List (Nat × Nat)) : ∀ k, (pcells L).drop (k * 2) = pcells (L.drop k) := by
  induction L with
  | nil => intro k; simp [pcells]
  | cons x L ih =>
    intro k
    cases k with
    | zero => simp [pcells]
    | succ k => rw [show (k + 1) * 2 = k * 2 + 1 + 1 by omega, pcells_cons]; simp [ih]
theorem delp_any {w0 w : World} {F : List Fact} {K : (Nat → Prop) → World → Prop} (g n cap k k1 : Nat) (L : List (Nat × Nat)) (hl : L.length = n) (hn : n ≤ 1000000) (hk1 : k1 = k + 1) (hkn : k1 ≤ n) (hS : St w0 w (.own (.slice (some ⟨g, 0, none⟩) n cap) 50 2 n (pcells L) :: F) K) :
    Calls Tryd.prog 89 #[.slice (some ⟨g, 0, none⟩) n cap, .int .i64 (k : Nat), .int .i64 (k1 : Nat)] w fun e w' => e = .returned (.slice (some ⟨g, 0, none⟩) (n - 1) cap) ∧ St w0 w' (.own (.slice (some ⟨g, 0, none⟩) (n - 1) cap) 50 2 (n - 1) (pcells (L.eraseIdx k)) :: F) K := by
  obtain ⟨hc1, hc2⟩ := own_cap (hS.own 0 rfl)
  have H1 := Lib.hid (pcells_one L)
  have HL : Hid ((pcells L).take (k * 2) ++ (pcells L).drop (k1 * 2) = pcells (L.eraseIdx k) ∧ k + (n - k1) = n - 1) := Lib.hid ⟨by
    rw [pcells_take, pcells_drop', ← pcells_app, hk1, List.eraseIdx_eq_take_drop_succ], by omega⟩
  have hk2 : k < k1 := by omega
  obtain ⟨m, hm⟩ : ∃ m, m = n - 1 := ⟨_, rfl⟩
  rw [← hm] at HL ⊢
  have hk3 : n - m = 1 := by omega
  have hk4 : m < n := by omega
  clear hm
  clear hk1
  go_enter Tryd.func89, Tryd.ntmps89
  go_wp2_with (first | ((with_reducible show wpList _ _ _ (⟨_, .binOp _ _ _ _ _, _, _, _, _⟩ :: _) _ _); (first | ((with_reducible show wpList _ _ _ (⟨_, .binOp .lss _ _ _ _, _, _, _, _⟩ :: _) _ _); refine st_lss rfl _ _ _ _ rfl _ _ _ rfl rfl (fun h_ => ?_) (fun h_ => ?_)) | ((with_reducible show wpList _ _ _ (⟨_, .binOp .leq _ _ _ _, _, _, _, _⟩ :: _) _ _); refine st_leq rfl _ _ _ _ rfl _ _ _ rfl rfl (fun h_ => ?_) (fun h_ => ?_)) | ((with_reducible show wpList _ _ _ (⟨_, .binOp .gtr _ _ _ _, _, _, _, _⟩ :: _) _ _); refine st_gtr rfl _ _ _ _ rfl _ _ _ rfl rfl (fun h_ => ?_) (fun h_ => ?_)) | ((with_reducible show wpList _ _ _ (⟨_, .binOp .geq _ _ _ _, _, _, _, _⟩ :: _) _ _); refine st_geq rfl _ _ _ _ rfl _ _ _ rfl rfl (fun h_ => ?_) (fun h_ => ?_)) | ((with_reducible show wpList _ _ _ (⟨_, .binOp .eql _ _ _ _, _, _, _, _⟩ :: _) _ _); refine st_eql rfl _ _ _ _ rfl _ _ _ rfl rfl (fun h_ => ?_) (fun h_ => ?_)) | ((with_reducible show wpList _ _ _ (⟨_, .binOp .neq _ _ _ _, _, _, _, _⟩ :: _) _ _); refine st_neq rfl _ _ _ _ rfl _ _ _ rfl rfl (fun h_ => ?_) (fun h_ => ?_))) <;> go_prune))
  refine wp_region_tailS (fun i__ v w => match i__ with
    | 0 => v = .slice (some ⟨g, 0, none⟩) n cap
    | 1 => v = .int .i64 ((k : Nat) : Int)
    | 2 => v = .slice (some ⟨g, 0, none⟩) k cap
    | 3 => v = .slice (some ⟨g, 0, none⟩) n cap
    | 4 => v = .int .i64 ((k1 : Nat) : Int)
    | 5 => v = sliced (some ⟨g, 0, none⟩) k1 n cap 2
    | 6 => True
    | 7 => True
    | _ => True) 6 [7] (by kernel_rfl) (by kernel_rfl) (by kernel_rfl) (by kernel_rfl) (by kernel_rfl) ?mono ⟨.inr ?r0, .inr ?r1, .inr ?r2, .inr ?r3, .inr ?r4, .inr ?r5, .inl (by decide), .inl (by decide), trivial⟩ ?post
  case mono =>
    intro i v w w' h hb
    match i, h with
    | 0, h => exact h
    | 1, h => exact h
    | 2, h => exact h
    | 3, h => exact h
    | 4, h => exact h
    | 5, h => exact h
    | 6, h => exact h
    | 7, h => exact h
    | _ + 8, h => trivial
  case r0 =>
    refine truleT fun b__ w hW hold hpre => ⟨fun hwant K hK => ?_, fun hwant => ?_⟩
    · clear hwant
      have e0 : b__.eval (.tmp 0) = .slice (some ⟨g, 0, none⟩) n cap := (hold 0 (by kernel_rfl)).trans rfl
      exact opw_move rfl e0 (hK _ _ rfl (Below.refl _ _))
    · rw [want_none rfl] at hwant; cases hwant
  case r1 =>
    refine truleT fun b__ w hW hold hpre => ⟨fun hwant K hK => ?_, fun hwant => ?_⟩
    · clear hwant
      have e1 : b__.eval (.tmp 1) = .int .i64 ((k : Nat) : Int) := (hold 1 (by kernel_rfl)).trans rfl
      exact opw_move rfl e1 (hK _ _ rfl (Below.refl _ _))
    · rw [want_none rfl] at hwant; cases hwant
  case r2 =>
    refine truleT fun b__ w hW hold hpre => ⟨fun hwant K hK => ?_, fun hwant => ?_⟩
    · clear hwant
      have e20 : b__.eval (.tmp 20) = .slice (some ⟨g, 0, none⟩) n cap := hpre ⟨0, _⟩ (Array.mem_of_getElem? (i := 0) rfl) rfl _ _ rfl rfl
      have e21 : b__.eval (.tmp 21) = .int .i64 ((k : Nat) : Int) := hpre ⟨1, _⟩ (Array.mem_of_getElem? (i := 1) rfl) rfl _ _ rfl rfl
      exact opw_slh rfl Tryd.underlying25 ⟨2, by kernel_rfl⟩ e20 e21 (by omega) (hK _ _ rfl (Below.refl _ _))
    · rw [want_none rfl] at hwant; cases hwant
  case r3 =>
    refine truleT fun b__ w hW hold hpre => ⟨fun hwant K hK => ?_, fun hwant => ?_⟩
    · clear hwant
      have e0 : b__.eval (.tmp 0) = .slice (some ⟨g, 0, none⟩) n cap := (hold 0 (by kernel_rfl)).trans rfl
      exact opw_move rfl e0 (hK _ _ rfl (Below.refl _ _))
    · rw [want_none rfl] at hwant; cases hwant
  case r4 =>
    refine truleT fun b__ w hW hold hpre => ⟨fun hwant K hK => ?_, fun hwant => ?_⟩
    · clear hwant
      have e2 : b__.eval (.tmp 2) = .int .i64 ((k1 : Nat) : Int) := (hold 2 (by kernel_rfl)).trans rfl
      exact opw_move rfl e2 (hK _ _ rfl (Below.refl _ _))
    · rw [want_none rfl] at hwant; cases hwant
  case r5 =>
    refine truleT fun b__ w hW hold hpre => ⟨fun hwant K hK => ?_, fun hwant => ?_⟩
    · clear hwant
      have e23 : b__.eval (.tmp 23) = .slice (some ⟨g, 0, none⟩) n cap := hpre ⟨3, _⟩ (Array.mem_of_getElem? (i := 0) rfl) rfl _ _ rfl rfl
      have e24 : b__.eval (.tmp 24) = .int .i64 ((k1 : Nat) : Int) := hpre ⟨4, _⟩ (Array.mem_of_getElem? (i := 1) rfl) rfl _ _ rfl rfl
      exact opw_sll rfl Tryd.underlying25 (by kernel_rfl) e23 e24 (by omega) (by omega) (hK _ _ rfl (Below.refl _ _))
    · rw [want_none rfl] at hwant; cases hwant
  case post =>
    intro b__ wz hW hdf hsz hold hT
    have e22 : b__.eval (.tmp 22) = .slice (some ⟨g, 0, none⟩) k cap := hT 2 _ 22 (by decide) rfl rfl
    have e25 : b__.eval (.tmp 25) = sliced (some ⟨g, 0, none⟩) k1 n cap 2 := hT 5 _ 25 (by decide) rfl rfl
    have e20 : b__.eval (.tmp 20) = .slice (some ⟨g, 0, none⟩) n cap := hT 0 _ 20 (by decide) rfl rfl
    have e21 : b__.eval (.tmp 21) = .int .i64 ((k : Nat) : Int) := hT 1 _ 21 (by decide) rfl rfl
    have e23 : b__.eval (.tmp 23) = .slice (some ⟨g, 0, none⟩) n cap := hT 3 _ 23 (by decide) rfl rfl
    have e24 : b__.eval (.tmp 24) = .int .i64 ((k1 : Nat) : Int) := hT 4 _ 24 (by decide) rfl rfl
    obtain ⟨vs, hvs, hb⟩ := frame_of hdf hsz (fun s hs => hold s (noDstS_of hs))
    replace e22 : vs 22 = .slice (some ⟨g, 0, none⟩) k cap := (hvs 22).symm.trans e22
    replace e25 : vs 25 = sliced (some ⟨g, 0, none⟩) k1 n cap 2 := (hvs 25).symm.trans e25
    replace e20 : vs 20 = .slice (some ⟨g, 0, none⟩) n cap := (hvs 20).symm.trans e20
    replace e21 : vs 21 = .int .i64 ((k : Nat) : Int) := (hvs 21).symm.trans e21
    replace e23 : vs 23 = .slice (some ⟨g, 0, none⟩) n cap := (hvs 23).symm.trans e23
    replace e24 : vs 24 = .int .i64 ((k1 : Nat) : Int) := (hvs 24).symm.trans e24
    subst hb
    clear hvs hold hT hdf hsz
    simp only [setAll, Act.put, List.setIfInBounds_toArray, List.set_cons_zero, List.set_cons_succ, List.getElem_toArray, List.getElem_cons_succ, List.getElem_cons_zero]
    (intro o_ ho_; simp only [List.getElem?_toArray, List.getElem?_cons_succ, List.getElem?_cons_zero, Option.some.injEq] at ho_; subst ho_)
    refine opw_amove rfl Tryd.underlying25 (by kernel_rfl) e22 e25 ((hS.ext hW).own 0 rfl) H1.out (by omega) hkn fun w2 ys ho hy hg => ?_
    rw [HL.out.1] at hy
    replace hS := (hS.ext hW).upd 0 rfl (.own (.slice (some ⟨g, 0, none⟩) n cap) 50 2 n ys) hg ho fun _ e => .inl e
    rw [HL.out.2] at hy ⊢
    simp only [TailWp]
    simp only [Act.put, List.setIfInBounds_toArray, List.set_cons_zero, List.set_cons_succ]
    (intro o_ ho_; simp only [List.getElem?_toArray, List.getElem?_cons_succ, List.getElem?_cons_zero, Option.some.injEq] at ho_; subst ho_)
    refine opw_assign rfl rfl ?_
    simp only [TailWp]
    simp only [Act.put, List.setIfInBounds_toArray, List.set_cons_zero, List.set_cons_succ]
    simp only [Act.eval, Array.getD_eq_getD_getElem?, List.getElem?_toArray, List.getElem?_cons_succ, List.getElem?_cons_zero, Option.getD_some]
    clear e22 e25 ho hW
    obtain ⟨w3, zs, hrun, hX, hzs, hG⟩ := run_clear_own (ty := 0) (c := cap - m) (hS.own 0 rfl) Tryd.underlying25 (Tryd.zeroValue50 w2) rfl (by simp [Value.oneCell']) (show m + 1 = n by omega)
    replace hS := hS.upd 0 rfl (.own (.slice (some ⟨g, 0, none⟩) m cap) 50 2 m (pcells (L.eraseIdx k))) hG (by
      have := own_short hX (show m ≤ n by omega)
      rwa [hzs, hy] at this) (fun _ e => .inl e)
    clear hX hG hzs hy
    go_wp2_with (first | ((with_reducible show wpList _ _ _ (⟨_, .binOp _ _ _ _ _, _, _, _, _⟩ :: _) _ _); (first | ((with_reducible show wpList _ _ _ (⟨_, .binOp .lss _ _ _ _, _, _, _, _⟩ :: _) _ _); refine st_lss rfl _ _ _ _ rfl _ _ _ rfl rfl (fun h_ => ?_) (fun h_ => ?_)) | ((with_reducible show wpList _ _ _ (⟨_, .binOp .leq _ _ _ _, _, _, _, _⟩ :: _) _ _); refine st_leq rfl _ _ _ _ rfl _ _ _ rfl rfl (fun h_ => ?_) (fun h_ => ?_)) | ((with_reducible show wpList _ _ _ (⟨_, .binOp .gtr _ _ _ _, _, _, _, _⟩ :: _) _ _); refine st_gtr rfl _ _ _ _ rfl _ _ _ rfl rfl (fun h_ => ?_) (fun h_ => ?_)) | ((with_reducible show wpList _ _ _ (⟨_, .binOp .geq _ _ _ _, _, _, _, _⟩ :: _) _ _); refine st_geq rfl _ _ _ _ rfl _ _ _ rfl rfl (fun h_ => ?_) (fun h_ => ?_)) | ((with_reducible show wpList _ _ _ (⟨_, .binOp .eql _ _ _ _, _, _, _, _⟩ :: _) _ _); refine st_eql rfl _ _ _ _ rfl _ _ _ rfl rfl (fun h_ => ?_) (fun h_ => ?_)) | ((with_reducible show wpList _ _ _ (⟨_, .binOp .neq _ _ _ _, _, _, _, _⟩ :: _) _ _); refine st_neq rfl _ _ _ _ rfl _ _ _ rfl rfl (fun h_ => ?_) (fun h_ => ?_))) <;> go_prune) | ((with_reducible show wpList _ _ _ (⟨_, .call _, _, _, _, _⟩ :: _) _ _); refine BigFrame.wpList_want rfl fun _ hK => opw_clear (w' := w3) rfl rfl hrun (hK _ _ ?_)))
    go_ret
    exact ⟨rfl, hS⟩
theorem unl_asc {L : List (Nat × Nat)} (h : Asc L) (z : Nat × Nat) : Asc (unl L z) := h.filter _
theorem mem_eraseIdx {L : List (Nat × Nat)} (hN : L.Nodup) {k : Nat} {z : Nat × Nat} (hk : L[k]? = some z) (u : Nat × Nat) : u ∈ L.eraseIdx k ↔ u ∈ unl L z := by
  rw [mem_unl]
  obtain ⟨h1, h2⟩ := List.getElem?_eq_some_iff.1 hk
  have hp := List.pairwise_iff_getElem.1 hN
  rw [List.mem_iff_getElem?]
  constructor
  · rintro ⟨i, hi⟩
    rw [List.getElem?_eraseIdx] at hi
    split at hi
    · obtain ⟨h3, h4⟩ := List.getElem?_eq_some_iff.1 hi
      refine ⟨by rw [← h4]; exact List.getElem_mem h3, fun e => ?_⟩
      exact hp i k h3 h1 (by omega) (by rw [h4, h2, e])
    · obtain ⟨h3, h4⟩ := List.getElem?_eq_some_iff.1 hi
      refine ⟨by rw [← h4]; exact List.getElem_mem h3, fun e => ?_⟩
      exact hp k (i + 1) h1 h3 (by omega) (by rw [h4, h2, e])
  · rintro ⟨hu, hne⟩
    obtain ⟨i, hi, e⟩ := List.getElem_of_mem hu
    rcases Nat.lt_trichotomy i k with h | h | h
    · exact ⟨i, by rw [List.getElem?_eraseIdx, if_pos h, List.getElem?_eq_getElem hi, e]⟩
    · subst h
      exact absurd (by rw [← e, h2]) hne
    · exact ⟨i - 1, by rw [List.getElem?_eraseIdx, if_neg (by omega), show i - 1 + 1 = i by omega, List.getElem?_eq_getElem hi, e]⟩
/-- what the last region of Without has made: the pairs, those without one, the result; whether n is read -/
structure DG where
  a : Option Value
  c : Option Value
  d : Option Value
  e : Bool
section
variable {w0 : World} {F : List Fact} {K : (Nat → Prop) → World → Prop} {n : Nat} {L M : List (Nat × Nat)} {p p' : World × DG}
def DJ (w0 : World) (F : List Fact) (K : (Nat → Prop) → World → Prop) (n : Nat) (L M : List (Nat × Nat)) (p : World × DG) : Prop := match p.2.d with
  | none => St w0 p.1 ((match p.2.c with | some v => [.own v 50 2 M.length (pcells M)] | none => ownP L p.2.a) ++ F) K
  | some r => NewP w0 F K n M r p.1
def DR (w0 : World) (F : List Fact) (K : (Nat → Prop) → World → Prop) (n : Nat) (L M : List (Nat × Nat)) (p p' : World × DG) : Prop :=
  (DJ w0 F K n L M p → DJ w0 F K n L M p') ∧ (∀ v, p.2.a = some v → p'.2.a = some v) ∧ (∀ v, p.2.c = some v → p'.2.c = some v) ∧ (∀ v, p.2.d = some v → p'.2.d = some v) ∧ (p.2.e = true → p'.2.e = true)
theorem DR.refl (p : World × DG) : DR w0 F K n L M p p := ⟨id, fun _ h => h, fun _ h => h, fun _ h => h, id⟩
theorem DR.trans (a b c : World × DG) (h : DR w0 F K n L M a b) (k : DR w0 F K n L M b c) : DR w0 F K n L M a c :=
  ⟨fun y => k.1 (h.1 y), fun g y => k.2.1 g (h.2.1 g y), fun g y => k.2.2.1 g (h.2.2.1 g y), fun g y => k.2.2.2.1 g (h.2.2.2.1 g y), fun y => k.2.2.2.2 (h.2.2.2.2 y)⟩
theorem DJ.st (h : DJ w0 F K n L M p) (hd : p.2.d = none) : St w0 p.1 ((match p.2.c with | some v => [.own v 50 2 M.length (pcells M)] | none => ownP L p.2.a) ++ F) K := by unfold DJ at h; rw [hd] at h; exact h
theorem DJ.mkA {w' : World} {v : Value} (h : DJ w0 F K n L M p) (hn : p.2.a = none ∧ p.2.c = none ∧ p.2.d = none) (hs : St p.1 w' [.own v 50 2 L.length (pcells L)] fun _ _ => True) : DJ w0 F K n L M (w', { p.2 with a := some v }) := by
  obtain ⟨w, a, c, d, e⟩ := p
  obtain ⟨rfl, rfl, rfl⟩ := hn
  exact St.new (h.st rfl) hs.below (.own v 50 2 L.length (pcells L)) (hs.own 0 rfl)
theorem DJ.row (h : DJ w0 F K n L M p) (hn : p.2.c = none ∧ p.2.d = none) {v : Value} (ha : p.2.a = some v) : St w0 p.1 (.own v 50 2 L.length (pcells L) :: F) K := by
  obtain ⟨w, a, c, d, e⟩ := p
  obtain ⟨rfl, rfl⟩ := hn
  dsimp only at ha
  subst ha
  exact h.st rfl
theorem DJ.mkC {w' : World} {u : Value} (hn : p.2.d = none) (hs : St w0 w' (.own u 50 2 M.length (pcells M) :: F) K) : DJ w0 F K n L M (w', { p.2 with c := some u }) := by
  obtain ⟨w, a, c, d, e⟩ := p
  dsimp only at hn
  subst hn
  exact hs
theorem DJ.last (h : DJ w0 F K n L M p) (hd : p.2.d = none) {v : Value} (hc : p.2.c = some v) : St w0 p.1 (.own v 50 2 M.length (pcells M) :: F) K := by
  obtain ⟨w, a, c, d, e⟩ := p
  dsimp only at hd hc
  subst hd hc
  exact h.st rfl
end
theorem owithout_any {w0 w : World} {F : List Fact} {K : (Nat → Prop) → World → Prop} (p : Value) (n : Nat) (L : List (Nat × Nat)) (a b : Nat) (hn : n ≤ 256) (hL : Inr n L) (hA : Asc L) (hC : Acyc L) (hl : L.length ≤ 900000) (hS : St w0 w F K)
    (ko : ∀ D w, K D w → IsOrd w D p n L) (kt : ∀ D w, K D w → DTab w ∧ D 0) :
    Calls Tryd.prog 69 #[p, .int .i64 (a : Nat), .int .i64 (b : Nat)] w fun e w' =>
      ((a, b) ∉ L ∧ e = .returned (.tuple #[.pointer none, .int .i64 4]) ∧ St w0 w' F K) ∨ (a, b) ∈ L ∧ ∃ p', e = .returned (.tuple #[p', .int .i64 0]) ∧ St w0 w' F fun D w => K D w ∧ IsOrd w D p' n (unl L (a, b)) := by
  have KS := hS.stable
  obtain ⟨q, gp, av, bv, sv, xa, xb, rfl, hX⟩ := ko _ _ hS.ro
  have hS := hS.add stable_ordX hX fun b h _ => h
  clear hX
  have HCN := Lib.hid (fun (w : World) (h : OrdX q gp av bv sv xa xb n L (Free F) w) => pindex_any (w := w) (by omega) h.2.1 (a, b))
  have HE := Lib.hid (fun (k : Nat) (hk : L[k]? = some (a, b)) => show (∀ u, u ∈ L.eraseIdx k ↔ u ∈ unl L (a, b)) ∧ Inr n (L.eraseIdx k) ∧ Acyc (L.eraseIdx k) ∧ (a, b) ∈ L from ⟨mem_eraseIdx hA.nodup hk, fun u hu => hL u ((mem_unl.1 ((mem_eraseIdx hA.nodup hk u).1 hu)).1), hC.sub fun u hu => (mem_unl.1 ((mem_eraseIdx hA.nodup hk u).1 hu)).1, List.mem_of_getElem? hk⟩)
  have HU := Lib.hid (unl_asc hA (a, b))
  clear hL hA hC
  go_enter Tryd.func69, Tryd.ntmps69
  go_wp2_with (first
    | ((with_reducible show wpList _ _ _ (⟨_, .binOp _ _ _ _ _, _, _, _, _⟩ :: _) _ _); (first | ((with_reducible show wpList _ _ _ (⟨_, .binOp .lss _ _ _ _, _, _, _, _⟩ :: _) _ _); refine st_lss rfl _ _ _ _ rfl _ _ _ rfl rfl (fun h_ => ?_) (fun h_ => ?_)) | ((with_reducible show wpList _ _ _ (⟨_, .binOp .leq _ _ _ _, _, _, _, _⟩ :: _) _ _); refine st_leq rfl _ _ _ _ rfl _ _ _ rfl rfl (fun h_ => ?_) (fun h_ => ?_)) | ((with_reducible show wpList _ _ _ (⟨_, .binOp .gtr _ _ _ _, _, _, _, _⟩ :: _) _ _); refine st_gtr rfl _ _ _ _ rfl _ _ _ rfl rfl (fun h_ => ?_) (fun h_ => ?_)) | ((with_reducible show wpList _ _ _ (⟨_, .binOp .geq _ _ _ _, _, _, _, _⟩ :: _) _ _); refine st_geq rfl _ _ _ _ rfl _ _ _ rfl rfl (fun h_ => ?_) (fun h_ => ?_)) | ((with_reducible show wpList _ _ _ (⟨_, .binOp .eql _ _ _ _, _, _, _, _⟩ :: _) _ _); refine st_eql rfl _ _ _ _ rfl _ _ _ rfl rfl (fun h_ => ?_) (fun h_ => ?_)) | ((with_reducible show wpList _ _ _ (⟨_, .binOp .neq _ _ _ _, _, _, _, _⟩ :: _) _ _); refine st_neq rfl _ _ _ _ rfl _ _ _ rfl rfl (fun h_ => ?_) (fun h_ => ?_))) <;> go_prune)
    | ((with_reducible show wpList _ _ _ (⟨some 14, _, _, _, _, _⟩ :: _) _ _); refine st_kcell hS rfl _ _ rfl _ rfl _ (fun D w h => h.2.1.cell 1 rfl) (by kernel_rfl) ?_)
    | (go_at_call 88; refine (HCN.out _ hS.ro.2).mono ?_; rintro r_ w_ ⟨_, rfl, (⟨k, hk, rfl, hkx⟩ | ⟨rfl, hx⟩), hb_⟩ <;> (replace hS := hS.ext hb_; clear hb_)))
  · obtain ⟨H1, H2, H3, H4⟩ := HE.out k hkx
    have H1 := Lib.hid H1
    have H2 := Lib.hid H2
    have H3 := Lib.hid H3
    have HK := Lib.hid (show (L.eraseIdx k).length = L.length - 1 from List.length_eraseIdx_of_lt hk)
    obtain ⟨KX, k1, k2, hS⟩ : ∃ KX : (Nat → Prop) → World → Prop, (∀ D w, KX D w → K D w) ∧ (∀ D w, KX D w → OrdX q gp av bv sv xa xb n L D w) ∧ St w0 w_ F KX := ⟨_, fun _ _ h => h.1, fun _ _ h => h.2, hS⟩
    clear HCN HE hkx
    obtain ⟨M, hM⟩ : ∃ M, M = L.eraseIdx k := ⟨_, rfl⟩
    have HM := Lib.hid hM
    rw [← hM] at H1 H2 H3 HK
    clear hM
    have hJ0 : DJ w0 F KX n L M (w_.drew, ⟨none, none, none, false⟩) := hS.drew
    have hRr := @DR.refl w0 F KX n L M
    have hRt := @DR.trans w0 F KX n L M
    refine wp_region_ghost (fun i__ v w => match i__ with
      | 0 => v = .pointer (some ⟨q, 0, none⟩)
      | 1 => v = .pointer (some ⟨q, 0, none⟩)
      | 2 => v = .pointer (some ⟨q, 0, none⟩)
      | 3 => w.2.e = true ∧ v = .int .i64 ((n : Nat) : Int)
      | 4 => v = .pointer (some ⟨q, 0, none⟩)
      | 5 => w.2.a = some v
      | 6 => v = .int .i64 ((k : Nat) : Int)
      | 7 => v = .int .i64 ((k : Nat) : Int)
      | 8 => v = .int .i64 ((k + 1 : Nat) : Int)
      | 9 => w.2.c = some v
      | 10 => w.2.d = some v ∧ ∃ (p : Value) (e : Int), v = .tuple #[p, .int .i64 e]
      | 11 => ∃ (p : Value) (e : Int), w.2.d = some (.tuple #[p, .int .i64 e]) ∧ v = p
      | 12 => ∃ (p : Value) (e : Int), w.2.d = some (.tuple #[p, .int .i64 e]) ∧ v = .int .i64 e
      | 13 => ∃ (p : Value) (e : Int), w.2.d = some (.tuple #[p, .int .i64 e]) ∧ v = p
      | 14 => ∃ (p : Value) (e : Int), w.2.d = some (.tuple #[p, .int .i64 e]) ∧ v = .int .i64 e
      | _ => True) (DR w0 F KX n L M) (fun i p => match i with | 3 => p.2.e = false ∧ p.2.d = none | 5 => p.2.a = none ∧ p.2.c = none ∧ p.2.d = none | 9 => p.2.c = none ∧ p.2.d = none | 10 => p.2.d = none | _ => True) (⟨none, none, none, false⟩) (by kernel_rfl) (by kernel_rfl) hRr hRt ?mono ?hN ⟨?r0, ?r1, ?r2, ?r3, ?r4, ?r5, ?r6, ?r7, ?r8, ?r9, ?r10, ?r11, ?r12, ?r13, ?r14, trivial⟩ ?post
    case hN => first | assumption | (intro i; (try dsimp only); split <;> first | trivial | assumption | (left; assumption))
    case mono =>
      intro i v w w' h hb
      match i, h with
      | 0, h => exact h
      | 1, h => exact h
      | 2, h => exact h
      | 3, h => exact ⟨hb.2.2.2.2 h.1, h.2⟩
      | 4, h => exact h
      | 5, h => exact hb.2.1 _ h
      | 6, h => exact h
      | 7, h => exact h
      | 8, h => exact h
      | 9, h => exact hb.2.2.1 _ h
      | 10, h => exact ⟨hb.2.2.2.1 _ h.1, h.2⟩
      | 11, h => exact by obtain ⟨p, e, h1, h2⟩ := h; exact ⟨p, e, hb.2.2.2.1 _ h1, h2⟩
      | 12, h => exact by obtain ⟨p, e, h1, h2⟩ := h; exact ⟨p, e, hb.2.2.2.1 _ h1, h2⟩
      | 13, h => exact by obtain ⟨p, e, h1, h2⟩ := h; exact ⟨p, e, hb.2.2.2.1 _ h1, h2⟩
      | 14, h => exact by obtain ⟨p, e, h1, h2⟩ := h; exact ⟨p, e, hb.2.2.2.1 _ h1, h2⟩
      | _ + 15, h => trivial
    case r0 =>
      refine truleGh fun b__ w hW hN hold hpre => ⟨fun hwant K hK => ?_, fun hwant => ?_⟩
      · clear hwant
        have e0 : b__.eval (.tmp 0) = .pointer (some ⟨q, 0, none⟩) := (hold 0 (by kernel_rfl)).trans rfl
        exact opw_move rfl e0 (hK _ _ rfl ⟨hRr _, fun _ _ h => h⟩)
      · rw [want_none rfl] at hwant; cases hwant
    case r1 =>
      refine truleGh fun b__ w hW hN hold hpre => ⟨fun hwant K hK => ?_, fun hwant => ?_⟩
      · clear hwant
        have e21 : b__.eval (.tmp 21) = .pointer (some ⟨q, 0, none⟩) := hpre ⟨0, _⟩ (Array.mem_of_getElem? (i := 0) rfl) rfl _ _ rfl rfl
        exact opw_nil rfl e21 (hK _ _ rfl ⟨hRr _, fun _ _ h => h⟩)
      · rw [want_none rfl] at hwant; cases hwant
    case r2 =>
      refine truleGh fun b__ w hW hN hold hpre => ⟨fun hwant K hK => ?_, fun hwant => ?_⟩
      · clear hwant
        have e22 : b__.eval (.tmp 22) = .pointer (some ⟨q, 0, none⟩) := hpre ⟨1, _⟩ (Array.mem_of_getElem? (i := 0) rfl) rfl _ _ rfl rfl
        exact opw_faddr rfl e22 (by kernel_rfl) (hK _ _ rfl ⟨hRr _, fun _ _ h => h⟩)
      · rw [want_none rfl] at hwant; cases hwant
    case r3 =>
      refine truleGh fun b__ w hW hN hold hpre => ⟨fun hwant K hK => ?_, fun hwant => ?_⟩
      · clear hwant
        have e23 : b__.eval (.tmp 23) = .pointer (some ⟨q, 0, none⟩) := hpre ⟨2, _⟩ (Array.mem_of_getElem? (i := 0) rfl) rfl _ _ rfl rfl
        exact opw_cell rfl e23 (by kernel_rfl) ((k2 _ _ ((hW.1 hJ0).st hN.2).ro).1.cell 0 rfl) (hK (.int .i64 (n : Nat)) (w.1, { w.2 with e := true }) ⟨rfl, rfl⟩ ⟨⟨fun hj => hj, (fun _ h => h), (fun _ h => h), (fun _ h => h), (fun _ => rfl)⟩, fun j hj hn => by split <;> first | exact absurd rfl hj | exact hn | trivial⟩)
      · rw [want_none rfl] at hwant; cases hwant
    case r4 =>
      refine truleGh fun b__ w hW hN hold hpre => ⟨fun hwant K hK => ?_, fun hwant => ?_⟩
      · clear hwant
        have e0 : b__.eval (.tmp 0) = .pointer (some ⟨q, 0, none⟩) := (hold 0 (by kernel_rfl)).trans rfl
        exact opw_move rfl e0 (hK _ _ rfl ⟨hRr _, fun _ _ h => h⟩)
      · rw [want_none rfl] at hwant; cases hwant
    case r5 =>
      refine truleGh fun b__ w hW hN hold hpre => ⟨fun hwant K hK => ?_, fun hwant => ?_⟩
      · clear hwant
        have e25 : b__.eval (.tmp 25) = .pointer (some ⟨q, 0, none⟩) := hpre ⟨4, _⟩ (Array.mem_of_getElem? (i := 0) rfl) rfl _ _ rfl rfl
        exact opw_callw rfl (by kernel_rfl) (by simp only [List.map_cons, List.map_nil, e25]) (opairs_any (k2 _ _ ((hW.1 hJ0).st hN.2.2).ro).ord (by omega)) fun e w' ⟨v, he, hs⟩ => ⟨v, he, hK v (w', { w.2 with a := some v }) rfl ⟨⟨fun hj => hj.mkA hN hs, (fun g h => by rw [hN.1] at h; cases h), (fun _ h => h), (fun _ h => h), id⟩, fun j hj hn => by split <;> first | exact absurd rfl hj | exact hn | trivial⟩⟩
      · rw [want_none rfl] at hwant; cases hwant
    case r6 =>
      refine truleGh fun b__ w hW hN hold hpre => ⟨fun hwant K hK => ?_, fun hwant => ?_⟩
      · clear hwant
        have e8 : b__.eval (.tmp 8) = .int .i64 ((k : Nat) : Int) := (hold 8 (by kernel_rfl)).trans rfl
        exact opw_move rfl e8 (hK _ _ rfl ⟨hRr _, fun _ _ h => h⟩)
      · rw [want_none rfl] at hwant; cases hwant
    case r7 =>
      refine truleGh fun b__ w hW hN hold hpre => ⟨fun hwant K hK => ?_, fun hwant => ?_⟩
      · clear hwant
        have e8 : b__.eval (.tmp 8) = .int .i64 ((k : Nat) : Int) := (hold 8 (by kernel_rfl)).trans rfl
        exact opw_move rfl e8 (hK _ _ rfl ⟨hRr _, fun _ _ h => h⟩)
      · rw [want_none rfl] at hwant; cases hwant
    case r8 =>
      refine truleGh fun b__ w hW hN hold hpre => ⟨fun hwant K hK => ?_, fun hwant => ?_⟩
      · clear hwant
        have e28 : b__.eval (.tmp 28) = .int .i64 ((k : Nat) : Int) := hpre ⟨7, _⟩ (Array.mem_of_getElem? (i := 0) rfl) rfl _ _ rfl rfl
        exact opw_bin (vx := .int .i64 ((k : Nat) : Int)) (vy := .int .i64 1) (v := .int .i64 ((k + 1 : Nat) : Int)) rfl e28 rfl rfl (run_add64 (by omega) (by omega)) (hK _ _ rfl ⟨hRr _, fun _ _ h => h⟩)
      · rw [want_none rfl] at hwant; cases hwant
    case r9 =>
      refine truleGh fun b__ w hW hN hold hpre => ⟨fun hwant K hK => ?_, fun hwant => ?_⟩
      · clear hwant
        have e26 : (fun (v : Value) (w : World × _) => w.2.a = some v) (b__.eval (.tmp 26)) w := hpre ⟨5, _⟩ (Array.mem_of_getElem? (i := 0) rfl) rfl _ _ rfl rfl
        have e27 : b__.eval (.tmp 27) = .int .i64 ((k : Nat) : Int) := hpre ⟨6, _⟩ (Array.mem_of_getElem? (i := 1) rfl) rfl _ _ rfl rfl
        have e29 : b__.eval (.tmp 29) = .int .i64 ((k + 1 : Nat) : Int) := hpre ⟨8, _⟩ (Array.mem_of_getElem? (i := 2) rfl) rfl _ _ rfl rfl
        have hSx := (hW.1 hJ0).row hN e26
        obtain ⟨g, cap, hv, _, _⟩ := own_pos (hSx.own 0 rfl) (by omega)
        rw [hv] at hSx
        refine opw_callw rfl (by kernel_rfl) (by simp only [List.map_cons, List.map_nil, hv, e27, e29]) (delp_any g L.length cap k (k + 1) L rfl (by omega) rfl (by omega) hSx) fun e w' h => ?_
        obtain ⟨he, h⟩ := h
        rw [← HM.out, ← HK.out] at h
        rw [← HK.out] at he
        exact ⟨_, he, hK _ (w', { w.2 with c := some _ }) rfl ⟨⟨fun _ => DJ.mkC hN.2 h, (fun _ h => h), (fun g h => by rw [hN.1] at h; cases h), (fun _ h => h), id⟩, fun j hj hn => by split <;> first | exact absurd rfl hj | exact hn | exact absurd (hn.1.symm.trans e26) nofun | trivial⟩⟩
      · rw [want_none rfl] at hwant; cases hwant
    case r10 =>
      refine truleGh fun b__ w hW hN hold hpre => ⟨fun hwant K hK => ?_, fun hwant => ?_⟩
      · clear hwant
        have e24 : (fun (v : Value) (w : World × _) => w.2.e = true ∧ v = .int .i64 ((n : Nat) : Int)) (b__.eval (.tmp 24)) w := hpre ⟨3, _⟩ (Array.mem_of_getElem? (i := 0) rfl) rfl _ _ rfl rfl
        have e30 : (fun (v : Value) (w : World × _) => w.2.c = some v) (b__.eval (.tmp 30)) w := hpre ⟨9, _⟩ (Array.mem_of_getElem? (i := 1) rfl) rfl _ _ rfl rfl
        refine opw_callw rfl (by kernel_rfl) (by simp only [List.map_cons, List.map_nil, e24.2]) (onew_own n M _ hn H2.out (by have := HK.out; omega) ((hW.1 hJ0).last hN e30) (fun D w h => kt D w (k1 D w h))) fun e w' h => ?_
        obtain ⟨v, he, hP⟩ := h
        exact ⟨v, he, hK v (w', { w.2 with d := some v }) ⟨rfl, hP.shape⟩ ⟨⟨fun _ => hP, (fun _ h => h), (fun _ h => h), (fun g h => by rw [hN] at h; cases h), id⟩, fun j hj hn => by split <;> first | exact absurd rfl hj | exact hn | exact absurd (hn.1.symm.trans e24.1) nofun | exact absurd (hn.2.1.symm.trans e30) nofun | exact absurd (hn.1.symm.trans e30) nofun | trivial⟩⟩
      · rw [want_none rfl] at hwant; cases hwant
    case r11 =>
      refine truleGh fun b__ w hW hN hold hpre => ⟨fun hwant K hK => ?_, fun hwant => ?_⟩
      · clear hwant
        have e31 : (fun (v : Value) (w : World × _) => w.2.d = some v ∧ ∃ (p : Value) (e : Int), v = .tuple #[p, .int .i64 e]) (b__.eval (.tmp 31)) w := hpre ⟨10, _⟩ (Array.mem_of_getElem? (i := 0) rfl) rfl _ _ rfl rfl
        obtain ⟨hd, p, e, hv⟩ := e31
        rw [hv] at hd
        exact opw_extract rfl hv rfl (hK _ _ ⟨p, e, hd, rfl⟩ ⟨hRr _, fun _ _ h => h⟩)
      · rw [want_none rfl] at hwant; cases hwant
    case r12 =>
      refine truleGh fun b__ w hW hN hold hpre => ⟨fun hwant K hK => ?_, fun hwant => ?_⟩
      · clear hwant
        have e31 : (fun (v : Value) (w : World × _) => w.2.d = some v ∧ ∃ (p : Value) (e : Int), v = .tuple #[p, .int .i64 e]) (b__.eval (.tmp 31)) w := hpre ⟨10, _⟩ (Array.mem_of_getElem? (i := 0) rfl) rfl _ _ rfl rfl
        obtain ⟨hd, p, e, hv⟩ := e31
        rw [hv] at hd
        exact opw_extract rfl hv rfl (hK _ _ ⟨p, e, hd, rfl⟩ ⟨hRr _, fun _ _ h => h⟩)
      · rw [want_none rfl] at hwant; cases hwant
    case r13 =>
      refine truleGh fun b__ w hW hN hold hpre => ⟨fun hwant K hK => ?_, fun hwant => ?_⟩
      · clear hwant
        have e32 : (fun (v : Value) (w : World × _) => ∃ (p : Value) (e : Int), w.2.d = some (.tuple #[p, .int .i64 e]) ∧ v = p) (b__.eval (.tmp 32)) w := hpre ⟨11, _⟩ (Array.mem_of_getElem? (i := 0) rfl) rfl _ _ rfl rfl
        exact opw_assign rfl rfl (hK _ _ e32 ⟨hRr _, fun _ _ h => h⟩)
      · rw [want_none rfl] at hwant; cases hwant
    case r14 =>
      refine truleGh fun b__ w hW hN hold hpre => ⟨fun hwant K hK => ?_, fun hwant => ?_⟩
      · clear hwant
        have e33 : (fun (v : Value) (w : World × _) => ∃ (p : Value) (e : Int), w.2.d = some (.tuple #[p, .int .i64 e]) ∧ v = .int .i64 e) (b__.eval (.tmp 33)) w := hpre ⟨12, _⟩ (Array.mem_of_getElem? (i := 0) rfl) rfl _ _ rfl rfl
        exact opw_assign rfl rfl (hK _ _ e33 ⟨hRr _, fun _ _ h => h⟩)
      · rw [want_none rfl] at hwant; cases hwant
    case post =>
      intro b__ wz hW hdf hsz hold hT hZ
      have e21 : b__.eval (.tmp 21) = .pointer (some ⟨q, 0, none⟩) := hT 0 _ 21 rfl rfl
      have e22 : b__.eval (.tmp 22) = .pointer (some ⟨q, 0, none⟩) := hT 1 _ 22 rfl rfl
      have e23 : b__.eval (.tmp 23) = .pointer (some ⟨q, 0, none⟩) := hT 2 _ 23 rfl rfl
      have e24 : (fun (v : Value) (w : World × _) => w.2.e = true ∧ v = .int .i64 ((n : Nat) : Int)) (b__.eval (.tmp 24)) wz := hT 3 _ 24 rfl rfl
      have e25 : b__.eval (.tmp 25) = .pointer (some ⟨q, 0, none⟩) := hT 4 _ 25 rfl rfl
      have e26 : (fun (v : Value) (w : World × _) => w.2.a = some v) (b__.eval (.tmp 26)) wz := hT 5 _ 26 rfl rfl
      have e27 : b__.eval (.tmp 27) = .int .i64 ((k : Nat) : Int) := hT 6 _ 27 rfl rfl
      have e28 : b__.eval (.tmp 28) = .int .i64 ((k : Nat) : Int) := hT 7 _ 28 rfl rfl
      have e29 : b__.eval (.tmp 29) = .int .i64 ((k + 1 : Nat) : Int) := hT 8 _ 29 rfl rfl
      have e30 : (fun (v : Value) (w : World × _) => w.2.c = some v) (b__.eval (.tmp 30)) wz := hT 9 _ 30 rfl rfl
      have e31 : (fun (v : Value) (w : World × _) => w.2.d = some v ∧ ∃ (p : Value) (e : Int), v = .tuple #[p, .int .i64 e]) (b__.eval (.tmp 31)) wz := hT 10 _ 31 rfl rfl
      have e32 : (fun (v : Value) (w : World × _) => ∃ (p : Value) (e : Int), w.2.d = some (.tuple #[p, .int .i64 e]) ∧ v = p) (b__.eval (.tmp 32)) wz := hT 11 _ 32 rfl rfl
      have e33 : (fun (v : Value) (w : World × _) => ∃ (p : Value) (e : Int), w.2.d = some (.tuple #[p, .int .i64 e]) ∧ v = .int .i64 e) (b__.eval (.tmp 33)) wz := hT 12 _ 33 rfl rfl
      have e6 : (fun (v : Value) (w : World × _) => ∃ (p : Value) (e : Int), w.2.d = some (.tuple #[p, .int .i64 e]) ∧ v = p) (b__.eval (.tmp 6)) wz := hT 13 _ 6 rfl rfl
      have e7 : (fun (v : Value) (w : World × _) => ∃ (p : Value) (e : Int), w.2.d = some (.tuple #[p, .int .i64 e]) ∧ v = .int .i64 e) (b__.eval (.tmp 7)) wz := hT 14 _ 7 rfl rfl
      obtain ⟨vs, hvs, hb⟩ := frame_of hdf hsz hold
      replace e21 : vs 21 = .pointer (some ⟨q, 0, none⟩) := (hvs 21).symm.trans e21
      replace e22 : vs 22 = .pointer (some ⟨q, 0, none⟩) := (hvs 22).symm.trans e22
      replace e23 : vs 23 = .pointer (some ⟨q, 0, none⟩) := (hvs 23).symm.trans e23
      replace e24 := (hvs 24) ▸ e24
      replace e25 : vs 25 = .pointer (some ⟨q, 0, none⟩) := (hvs 25).symm.trans e25
      replace e26 := (hvs 26) ▸ e26
      replace e27 : vs 27 = .int .i64 ((k : Nat) : Int) := (hvs 27).symm.trans e27
      replace e28 : vs 28 = .int .i64 ((k : Nat) : Int) := (hvs 28).symm.trans e28
      replace e29 : vs 29 = .int .i64 ((k + 1 : Nat) : Int) := (hvs 29).symm.trans e29
      replace e30 := (hvs 30) ▸ e30
      replace e31 := (hvs 31) ▸ e31
      replace e32 := (hvs 32) ▸ e32
      replace e33 := (hvs 33) ▸ e33
      replace e6 := (hvs 6) ▸ e6
      replace e7 := (hvs 7) ▸ e7
      subst hb
      clear hvs hold hT hdf hsz
      simp only [setAll, Act.put, List.setIfInBounds_toArray, List.set_cons_zero, List.set_cons_succ, List.getElem_toArray, List.getElem_cons_succ, List.getElem_cons_zero]
      obtain ⟨r1, z1, hd1, e6⟩ := e6
      obtain ⟨r2, z2, hd2, e7⟩ := e7
      rw [hd1] at hd2
      obtain ⟨rfl, rfl⟩ : r1 = r2 ∧ z1 = z2 := by simpa using hd2
      have hJ := hW.1 hJ0
      unfold DJ at hJ
      rw [hd1] at hJ
      have hP := hJ.mono KS k1
      rcases hP with ⟨hc, _, _⟩ | ⟨p', L', hr, h1, h2, _, hSf⟩
      · exact absurd H3.out hc
      · obtain ⟨rfl, rfl⟩ : r1 = p' ∧ z1 = 0 := by simpa using hr
        obtain rfl : L' = unl L (a, b) := Asc.uniq h1 HU.out fun u => (h2 u).trans (H1.out u)
        rw [e6, e7]
        generalize wz.1 = wf at *
        clear hJ hJ0 hRr hRt hW hZ hd1 hd2 e6 e7 h1 h2
        go_wp2_with fail
        go_ret2
        first | exact .inr ⟨H4, _, rfl, hSf⟩ | exact ⟨_, rfl, hSf⟩
  · go_ret2
    exact .inl ⟨hx, rfl, hS.mono KS fun _ _ h => h.1⟩
end Go.Proofs.YtmlkgaiphpimiaaDoor
namespace Go.Proofs.YtmlkgaiphpimiaaDoor
open Go.RowKit
attribute [local go_sem ↓] Go.wp_at_zero Go.wp_at_succ
set_option maxRecDepth 20000
set_option exponentiation.threshold 5000

theorem role_any (r : Int) (w : World) : Calls Tryd.prog 55 #[.int .i64 r] w (Ret (fun x _ => x = .bool (decide (1 ≤ r ∧ r ≤ 63))) w) := by
  by_cases h1 : 1 ≤ r
  · by_cases h2 : r ≤ 63
    · have HR := Lib.hid (show decide (1 ≤ r ∧ r ≤ 63) = true by simp [h1, h2])
      generalize decide (1 ≤ r ∧ r ≤ 63) = R at *
      go_enter Tryd.func55, Tryd.ntmps55
      go_wp2_with (first | ((with_reducible show wpList _ _ _ (⟨_, .binOp _ _ _ _ _, _, _, _, _⟩ :: _) _ _); (first | ((with_reducible show wpList _ _ _ (⟨_, .binOp .lss _ _ _ _, _, _, _, _⟩ :: _) _ _); refine st_lss rfl _ _ _ _ rfl _ _ _ rfl rfl (fun h_ => ?_) (fun h_ => ?_)) | ((with_reducible show wpList _ _ _ (⟨_, .binOp .leq _ _ _ _, _, _, _, _⟩ :: _) _ _); refine st_leq rfl _ _ _ _ rfl _ _ _ rfl rfl (fun h_ => ?_) (fun h_ => ?_)) | ((with_reducible show wpList _ _ _ (⟨_, .binOp .gtr _ _ _ _, _, _, _, _⟩ :: _) _ _); refine st_gtr rfl _ _ _ _ rfl _ _ _ rfl rfl (fun h_ => ?_) (fun h_ => ?_)) | ((with_reducible show wpList _ _ _ (⟨_, .binOp .geq _ _ _ _, _, _, _, _⟩ :: _) _ _); refine st_geq rfl _ _ _ _ rfl _ _ _ rfl rfl (fun h_ => ?_) (fun h_ => ?_)) | ((with_reducible show wpList _ _ _ (⟨_, .binOp .eql _ _ _ _, _, _, _, _⟩ :: _) _ _); refine st_eql rfl _ _ _ _ rfl _ _ _ rfl rfl (fun h_ => ?_) (fun h_ => ?_)) | ((with_reducible show wpList _ _ _ (⟨_, .binOp .neq _ _ _ _, _, _, _, _⟩ :: _) _ _); refine st_neq rfl _ _ _ _ rfl _ _ _ rfl rfl (fun h_ => ?_) (fun h_ => ?_))) <;> go_prune))
      go_ret
      exact Ret.mk (congrArg Value.bool HR.out.symm) (Below.refl _ _)
    · have HR := Lib.hid (show decide (1 ≤ r ∧ r ≤ 63) = false by simp [h2])
      generalize decide (1 ≤ r ∧ r ≤ 63) = R at *
      go_enter Tryd.func55, Tryd.ntmps55
      go_wp2_with (first | ((with_reducible show wpList _ _ _ (⟨_, .binOp _ _ _ _ _, _, _, _, _⟩ :: _) _ _); (first | ((with_reducible show wpList _ _ _ (⟨_, .binOp .lss _ _ _ _, _, _, _, _⟩ :: _) _ _); refine st_lss rfl _ _ _ _ rfl _ _ _ rfl rfl (fun h_ => ?_) (fun h_ => ?_)) | ((with_reducible show wpList _ _ _ (⟨_, .binOp .leq _ _ _ _, _, _, _, _⟩ :: _) _ _); refine st_leq rfl _ _ _ _ rfl _ _ _ rfl rfl (fun h_ => ?_) (fun h_ => ?_)) | ((with_reducible show wpList _ _ _ (⟨_, .binOp .gtr _ _ _ _, _, _, _, _⟩ :: _) _ _); refine st_gtr rfl _ _ _ _ rfl _ _ _ rfl rfl (fun h_ => ?_) (fun h_ => ?_)) | ((with_reducible show wpList _ _ _ (⟨_, .binOp .geq _ _ _ _, _, _, _, _⟩ :: _) _ _); refine st_geq rfl _ _ _ _ rfl _ _ _ rfl rfl (fun h_ => ?_) (fun h_ => ?_)) | ((with_reducible show wpList _ _ _ (⟨_, .binOp .eql _ _ _ _, _, _, _, _⟩ :: _) _ _); refine st_eql rfl _ _ _ _ rfl _ _ _ rfl rfl (fun h_ => ?_) (fun h_ => ?_)) | ((with_reducible show wpList _ _ _ (⟨_, .binOp .neq _ _ _ _, _, _, _, _⟩ :: _) _ _); refine st_neq rfl _ _ _ _ rfl _ _ _ rfl rfl (fun h_ => ?_) (fun h_ => ?_))) <;> go_prune))
      go_ret
      exact Ret.mk (congrArg Value.bool HR.out.symm) (Below.refl _ _)
  · have HR := Lib.hid (show decide (1 ≤ r ∧ r ≤ 63) = false by simp [h1])
    generalize decide (1 ≤ r ∧ r ≤ 63) = R at *
    go_enter Tryd.func55, Tryd.ntmps55
    go_wp2_with (first | ((with_reducible show wpList _ _ _ (⟨_, .binOp _ _ _ _ _, _, _, _, _⟩ :: _) _ _); (first | ((with_reducible show wpList _ _ _ (⟨_, .binOp .lss _ _ _ _, _, _, _, _⟩ :: _) _ _); refine st_lss rfl _ _ _ _ rfl _ _ _ rfl rfl (fun h_ => ?_) (fun h_ => ?_)) | ((with_reducible show wpList _ _ _ (⟨_, .binOp .leq _ _ _ _, _, _, _, _⟩ :: _) _ _); refine st_leq rfl _ _ _ _ rfl _ _ _ rfl rfl (fun h_ => ?_) (fun h_ => ?_)) | ((with_reducible show wpList _ _ _ (⟨_, .binOp .gtr _ _ _ _, _, _, _, _⟩ :: _) _ _); refine st_gtr rfl _ _ _ _ rfl _ _ _ rfl rfl (fun h_ => ?_) (fun h_ => ?_)) | ((with_reducible show wpList _ _ _ (⟨_, .binOp .geq _ _ _ _, _, _, _, _⟩ :: _) _ _); refine st_geq rfl _ _ _ _ rfl _ _ _ rfl rfl (fun h_ => ?_) (fun h_ => ?_)) | ((with_reducible show wpList _ _ _ (⟨_, .binOp .eql _ _ _ _, _, _, _, _⟩ :: _) _ _); refine st_eql rfl _ _ _ _ rfl _ _ _ rfl rfl (fun h_ => ?_) (fun h_ => ?_)) | ((with_reducible show wpList _ _ _ (⟨_, .binOp .neq _ _ _ _, _, _, _, _⟩ :: _) _ _); refine st_neq rfl _ _ _ _ rfl _ _ _ rfl rfl (fun h_ => ?_) (fun h_ => ?_))) <;> go_prune))
    go_ret
    exact Ret.mk (congrArg Value.bool HR.out.symm) (Below.refl _ _)
/-- a hierarchy with the links L -/
def HierX (q : Nat) (o : Value) (L : List (Nat × Nat)) (D : Nat → Prop) (w : World) : Prop := IsBox w D q #[o] ∧ IsOrd w D o 64 L
theorem stable_hierX {q : Nat} {o : Value} {L : List (Nat × Nat)} : Stable (HierX q o L) := stable_isBox.and stable_ord
def IsH (w : World) (D : Nat → Prop) (p : Value) (L : List (Nat × Nat)) : Prop := ∃ (q : Nat) (o : Value), p = .pointer (some ⟨q, 0, none⟩) ∧ HierX q o L D w
theorem stable_isH {p : Value} {L : List (Nat × Nat)} : Stable fun D w => IsH w D p L := fun D D' w w' h a b c => by
  obtain ⟨q, o, h1, h2⟩ := h
  exact ⟨q, o, h1, stable_hierX D D' w w' h2 a b c⟩
/-- links of roles, ascending, without cycles -/
structure HOK (L : List (Nat × Nat)) : Prop where
  asc : Asc L
  role : ∀ x ∈ L, (1 ≤ x.1 ∧ x.1 < 64) ∧ 1 ≤ x.2 ∧ x.2 < 64
  acyc : Acyc L
theorem HOK.inr {L : List (Nat × Nat)} (h : HOK L) : Inr 64 L := fun x hx => ⟨(h.role x hx).1.2, (h.role x hx).2.2⟩
theorem HOK.nil : HOK [] := ⟨.nil, by simp, fun a h => by obtain ⟨y, h, _⟩ := h.first; simp at h⟩
theorem hnew_any {w0 w : World} {F : List Fact} {K : (Nat → Prop) → World → Prop} (hS : St w0 w F K) (kt : ∀ D w, K D w → DTab w ∧ D 0) :
    Calls Tryd.prog 53 #[] w fun e w' => ∃ p, e = .returned p ∧ St w0 w' F fun D w => K D w ∧ IsH w D p [] := by
  have KS := hS.stable
  have HN := Lib.hid (onew_any 64 [] (.slice none 0 0) (by omega) (by intro x hx; simp at hx) (by simp) hS (fun D w _ => ⟨rfl, none, 0, rfl, by simp, by simp, fun h => by simp at h⟩) kt)
  clear hS
  go_enter Tryd.func53, Tryd.ntmps53
  go_wp2_with (first
    | (go_at_call 20; refine HN.out.mono ?_; rintro e w_ (⟨h1, -, -⟩ | ⟨p, L, rfl, hA, hm, hc, hS⟩); · exact absurd HOK.nil.acyc h1
       obtain rfl : L = [] := by
         cases L with
         | nil => rfl
         | cons x r => exact absurd ((hm x).1 (by simp)) (by simp)
       clear hA hm hc
       obtain ⟨qo, _, _, _, _, _, _, rfl, -⟩ := hS.ro.2)
    | ((with_reducible show wpList _ _ _ (⟨some 9, _, _, _, _, _⟩ :: _) _ _); refine st_box hS rfl _ _ rfl (.agg #[.pointer (some ⟨qo, 0, none⟩)]) _ rfl rfl ?_; clear hS; intro q w_ hS; (try simp only [Act.put, Act.eval, List.set_cons_zero, List.set_cons_succ, List.setIfInBounds_toArray, Array.getD_eq_getD_getElem?, List.getElem?_toArray, List.getElem?_cons_succ, List.getElem?_cons_zero, Option.getD_some, Value.cells] at hS)))
  go_ret
  exact ⟨_, rfl, (hS.seal 0 (by simp) rfl).mono (KS.and stable_isH) fun D w h => ⟨h.1.1, q, _, rfl, h.2, h.1.2⟩⟩
theorem hlinks_any {w0 : World} {D : Nat → Prop} {p : Value} {L : List (Nat × Nat)} (h : IsH w0 D p L) (hl : L.length ≤ 1000000) : Calls Tryd.prog 31 #[p] w0 fun e w' => ∃ v, e = .returned v ∧ St w0 w' [.own v 50 2 L.length (pcells L)] fun _ _ => True := by
  obtain ⟨q, o, rfl, hb, ho⟩ := h
  have k0 := Lib.hid (hb.cell 0 (x := o) rfl)
  have HC := Lib.hid (opairs_any ho hl)
  clear hb ho
  go_enter Tryd.func31, Tryd.ntmps31
  go_wp2_with (first
    | ((with_reducible show wpList _ _ _ (⟨_, .binOp _ _ _ _ _, _, _, _, _⟩ :: _) _ _); (first | ((with_reducible show wpList _ _ _ (⟨_, .binOp .lss _ _ _ _, _, _, _, _⟩ :: _) _ _); refine st_lss rfl _ _ _ _ rfl _ _ _ rfl rfl (fun h_ => ?_) (fun h_ => ?_)) | ((with_reducible show wpList _ _ _ (⟨_, .binOp .leq _ _ _ _, _, _, _, _⟩ :: _) _ _); refine st_leq rfl _ _ _ _ rfl _ _ _ rfl rfl (fun h_ => ?_) (fun h_ => ?_)) | ((with_reducible show wpList _ _ _ (⟨_, .binOp .gtr _ _ _ _, _, _, _, _⟩ :: _) _ _); refine st_gtr rfl _ _ _ _ rfl _ _ _ rfl rfl (fun h_ => ?_) (fun h_ => ?_)) | ((with_reducible show wpList _ _ _ (⟨_, .binOp .geq _ _ _ _, _, _, _, _⟩ :: _) _ _); refine st_geq rfl _ _ _ _ rfl _ _ _ rfl rfl (fun h_ => ?_) (fun h_ => ?_)) | ((with_reducible show wpList _ _ _ (⟨_, .binOp .eql _ _ _ _, _, _, _, _⟩ :: _) _ _); refine st_eql rfl _ _ _ _ rfl _ _ _ rfl rfl (fun h_ => ?_) (fun h_ => ?_)) | ((with_reducible show wpList _ _ _ (⟨_, .binOp .neq _ _ _ _, _, _, _, _⟩ :: _) _ _); refine st_neq rfl _ _ _ _ rfl _ _ _ rfl rfl (fun h_ => ?_) (fun h_ => ?_))) <;> go_prune)
    | ((with_reducible show wpList _ _ _ (⟨_, .load _ _, _, _, _, _⟩ :: _) _ _); refine BigFrame.wpList_want rfl fun _ hK => opw_cell rfl rfl (by kernel_rfl) k0.out (hK _ _ ?_))
    | (go_at_call 28; refine HC.out.mono ?_; rintro e w_ ⟨v, rfl, hS⟩))
  go_ret
  exact ⟨v, rfl, hS⟩
/-- what Link gives -/
def LinkP (w0 : World) (F : List Fact) (K : (Nat → Prop) → World → Prop) (L : List (Nat × Nat)) (a b : Int) (r : Value) (z : Int) (w : World) : Prop :=
  (¬ ((1 ≤ a ∧ a ≤ 63) ∧ (1 ≤ b ∧ b ≤ 63) ∧ a ≠ b) ∧ r = .pointer none ∧ z = 1 ∧ St w0 w F K) ∨
  ∃ x y : Nat, a = (x : Int) ∧ b = (y : Int) ∧ (1 ≤ x ∧ x < 64) ∧ (1 ≤ y ∧ y < 64) ∧ x ≠ y ∧
    (((x, y) ∈ L ∧ r = .pointer none ∧ z = 5 ∧ St w0 w F K) ∨ ((x, y) ∉ L ∧ ¬ Acyc (L ++ [(x, y)]) ∧ r = .pointer none ∧ z = 16 ∧ St w0 w F K) ∨
      ((x, y) ∉ L ∧ z = 0 ∧ ∃ L' : List (Nat × Nat), HOK L' ∧ (∀ u, u ∈ L' ↔ u ∈ L ++ [(x, y)]) ∧ St w0 w F fun D w => K D w ∧ IsH w D r L'))
theorem hlink_any {w0 w : World} {F : List Fact} {K : (Nat → Prop) → World → Prop} (p : Value) (L : List (Nat × Nat)) (a b : Int) (hH : HOK L) (hl : L.length ≤ 900000) (hS : St w0 w F K)
    (ko : ∀ D w, K D w → IsH w D p L) (kt : ∀ D w, K D w → DTab w ∧ D 0) :
    Calls Tryd.prog 44 #[p, .int .i64 a, .int .i64 b] w fun e w' => ∃ (r : Value) (z : Int), e = .returned (.tuple #[r, .int .i64 z]) ∧ LinkP w0 F K L a b r z w' := by
  have KS := hS.stable
  obtain ⟨q, o, rfl, hX⟩ := ko _ _ hS.ro
  have hS := hS.add stable_hierX hX fun b h _ => h
  clear hX
  have HH := Lib.hid hH
  clear hH
  by_cases hra : 1 ≤ a ∧ a ≤ 63
  · have HRA := Lib.hid (decide_eq_true hra)
    by_cases hrb : 1 ≤ b ∧ b ≤ 63
    · have HRB := Lib.hid (decide_eq_true hrb)
      by_cases hab : a = b
      · subst hab
        have HNO : Hid (¬ ((1 ≤ a ∧ a ≤ 63) ∧ (1 ≤ a ∧ a ≤ 63) ∧ a ≠ a)) := Lib.hid fun h => h.2.2 rfl
        clear hra hrb
        go_enter Tryd.func44, Tryd.ntmps44
        go_wp2_with (first
          | ((with_reducible show wpList _ _ _ (⟨_, .binOp _ _ _ _ _, _, _, _, _⟩ :: _) _ _); (first | ((with_reducible show wpList _ _ _ (⟨_, .binOp .lss _ _ _ _, _, _, _, _⟩ :: _) _ _); refine st_lss rfl _ _ _ _ rfl _ _ _ rfl rfl (fun h_ => ?_) (fun h_ => ?_)) | ((with_reducible show wpList _ _ _ (⟨_, .binOp .leq _ _ _ _, _, _, _, _⟩ :: _) _ _); refine st_leq rfl _ _ _ _ rfl _ _ _ rfl rfl (fun h_ => ?_) (fun h_ => ?_)) | ((with_reducible show wpList _ _ _ (⟨_, .binOp .gtr _ _ _ _, _, _, _, _⟩ :: _) _ _); refine st_gtr rfl _ _ _ _ rfl _ _ _ rfl rfl (fun h_ => ?_) (fun h_ => ?_)) | ((with_reducible show wpList _ _ _ (⟨_, .binOp .geq _ _ _ _, _, _, _, _⟩ :: _) _ _); refine st_geq rfl _ _ _ _ rfl _ _ _ rfl rfl (fun h_ => ?_) (fun h_ => ?_)) | ((with_reducible show wpList _ _ _ (⟨_, .binOp .eql _ _ _ _, _, _, _, _⟩ :: _) _ _); refine st_eql rfl _ _ _ _ rfl _ _ _ rfl rfl (fun h_ => ?_) (fun h_ => ?_)) | ((with_reducible show wpList _ _ _ (⟨_, .binOp .neq _ _ _ _, _, _, _, _⟩ :: _) _ _); refine st_neq rfl _ _ _ _ rfl _ _ _ rfl rfl (fun h_ => ?_) (fun h_ => ?_))) <;> go_prune)
          | (go_at_call 55; refine (role_any _ _).mono ?_; (first | rw [HRA.out] | rw [HRB.out]); rintro r_ w_ ⟨_, rfl, rfl, hb_⟩; replace hS := hS.ext hb_; clear hb_))
        go_ret2
        exact ⟨_, _, rfl, .inl ⟨HNO.out, rfl, rfl, hS.mono KS fun _ _ h => h.1⟩⟩
      · obtain ⟨x, rfl⟩ : ∃ x : Nat, a = (x : Int) := ⟨a.toNat, by omega⟩
        obtain ⟨y, rfl⟩ : ∃ y : Nat, b = (y : Int) := ⟨b.toNat, by omega⟩
        have hx1 : Hid (1 ≤ x ∧ x < 64) := Lib.hid (by omega)
        have hy1 : Hid (1 ≤ y ∧ y < 64) := Lib.hid (by omega)
        have hxy : Hid (x ≠ y) := Lib.hid (by omega)
        clear hra hrb
        have HW := Lib.hid (fun (w : World) (h : St w0 w F fun D w => K D w ∧ HierX q o L D w) => owith_any o 64 L x y (by omega) HH.out.inr hl hx1.out.2 hy1.out.2 h (fun D w h => h.2.2) (fun D w h => kt D w h.1))
        go_enter Tryd.func44, Tryd.ntmps44
        go_wp2_with (first
          | ((with_reducible show wpList _ _ _ (⟨_, .binOp _ _ _ _ _, _, _, _, _⟩ :: _) _ _); (first | ((with_reducible show wpList _ _ _ (⟨_, .binOp .lss _ _ _ _, _, _, _, _⟩ :: _) _ _); refine st_lss rfl _ _ _ _ rfl _ _ _ rfl rfl (fun h_ => ?_) (fun h_ => ?_)) | ((with_reducible show wpList _ _ _ (⟨_, .binOp .leq _ _ _ _, _, _, _, _⟩ :: _) _ _); refine st_leq rfl _ _ _ _ rfl _ _ _ rfl rfl (fun h_ => ?_) (fun h_ => ?_)) | ((with_reducible show wpList _ _ _ (⟨_, .binOp .gtr _ _ _ _, _, _, _, _⟩ :: _) _ _); refine st_gtr rfl _ _ _ _ rfl _ _ _ rfl rfl (fun h_ => ?_) (fun h_ => ?_)) | ((with_reducible show wpList _ _ _ (⟨_, .binOp .geq _ _ _ _, _, _, _, _⟩ :: _) _ _); refine st_geq rfl _ _ _ _ rfl _ _ _ rfl rfl (fun h_ => ?_) (fun h_ => ?_)) | ((with_reducible show wpList _ _ _ (⟨_, .binOp .eql _ _ _ _, _, _, _, _⟩ :: _) _ _); refine st_eql rfl _ _ _ _ rfl _ _ _ rfl rfl (fun h_ => ?_) (fun h_ => ?_)) | ((with_reducible show wpList _ _ _ (⟨_, .binOp .neq _ _ _ _, _, _, _, _⟩ :: _) _ _); refine st_neq rfl _ _ _ _ rfl _ _ _ rfl rfl (fun h_ => ?_) (fun h_ => ?_))) <;> go_prune)
          | (go_at_call 55; refine (role_any _ _).mono ?_; (first | rw [HRA.out] | rw [HRB.out]); rintro r_ w_ ⟨_, rfl, rfl, hb_⟩; replace hS := hS.ext hb_; clear hb_)
          | ((with_reducible show wpList _ _ _ (⟨_, .load _ _, _, _, _, _⟩ :: _) _ _); refine st_kcell hS rfl _ _ rfl _ rfl _ (fun D w h => h.2.1.cell 0 rfl) (by kernel_rfl) ?_)
          | (go_at_call 73; refine (HW.out _ hS).mono ?_; rintro e w_ (⟨hm, rfl, hS⟩ | ⟨hm, v, rfl, (⟨hc, rfl, hS⟩ | ⟨pp, L', rfl, hA, hmm, hc, hS⟩)⟩) <;> (try obtain ⟨qo, _, _, _, _, _, _, rfl, -⟩ := hS.ro.2))
          | ((with_reducible show wpList _ _ _ (⟨some 42, _, _, _, _, _⟩ :: _) _ _); refine st_box hS rfl _ _ rfl (.agg #[.pointer (some ⟨qo, 0, none⟩)]) _ rfl rfl ?_; clear hS; intro g w_ hS; (try simp only [Act.put, Act.eval, List.set_cons_zero, List.set_cons_succ, List.setIfInBounds_toArray, Array.getD_eq_getD_getElem?, List.getElem?_toArray, List.getElem?_cons_succ, List.getElem?_cons_zero, Option.getD_some, Value.cells] at hS)))
        · go_ret2
          exact ⟨_, _, rfl, .inr ⟨x, y, rfl, rfl, hx1.out, hy1.out, hxy.out, .inl ⟨hm, rfl, rfl, hS.mono KS fun _ _ h => h.1⟩⟩⟩
        · go_ret2
          exact ⟨_, _, rfl, .inr ⟨x, y, rfl, rfl, hx1.out, hy1.out, hxy.out, .inr (.inl ⟨hm, hc, rfl, rfl, hS.mono KS fun _ _ h => h.1⟩)⟩⟩
        · go_ret2
          refine ⟨_, _, rfl, .inr ⟨x, y, rfl, rfl, hx1.out, hy1.out, hxy.out, .inr (.inr ⟨hm, rfl, L', ⟨hA, fun u hu => ?_, hc⟩, hmm, (hS.seal 0 (by simp) rfl).mono (KS.and stable_isH) fun D w h => ⟨h.1.1.1, g, _, rfl, h.2, h.1.2⟩⟩)⟩⟩
          rcases List.mem_append.1 ((hmm u).1 hu) with h | h
          · exact HH.out.role u h
          · rw [List.mem_singleton] at h; subst h; exact ⟨hx1.out, hy1.out⟩
    · have HRB := Lib.hid (decide_eq_false hrb)
      have HNO : Hid (¬ ((1 ≤ a ∧ a ≤ 63) ∧ (1 ≤ b ∧ b ≤ 63) ∧ a ≠ b)) := Lib.hid fun h => hrb h.2.1
      clear hra hrb
      go_enter Tryd.func44, Tryd.ntmps44
      go_wp2_with (first
        | ((with_reducible show wpList _ _ _ (⟨_, .binOp _ _ _ _ _, _, _, _, _⟩ :: _) _ _); (first | ((with_reducible show wpList _ _ _ (⟨_, .binOp .lss _ _ _ _, _, _, _, _⟩ :: _) _ _); refine st_lss rfl _ _ _ _ rfl _ _ _ rfl rfl (fun h_ => ?_) (fun h_ => ?_)) | ((with_reducible show wpList _ _ _ (⟨_, .binOp .leq _ _ _ _, _, _, _, _⟩ :: _) _ _); refine st_leq rfl _ _ _ _ rfl _ _ _ rfl rfl (fun h_ => ?_) (fun h_ => ?_)) | ((with_reducible show wpList _ _ _ (⟨_, .binOp .gtr _ _ _ _, _, _, _, _⟩ :: _) _ _); refine st_gtr rfl _ _ _ _ rfl _ _ _ rfl rfl (fun h_ => ?_) (fun h_ => ?_)) | ((with_reducible show wpList _ _ _ (⟨_, .binOp .geq _ _ _ _, _, _, _, _⟩ :: _) _ _); refine st_geq rfl _ _ _ _ rfl _ _ _ rfl rfl (fun h_ => ?_) (fun h_ => ?_)) | ((with_reducible show wpList _ _ _ (⟨_, .binOp .eql _ _ _ _, _, _, _, _⟩ :: _) _ _); refine st_eql rfl _ _ _ _ rfl _ _ _ rfl rfl (fun h_ => ?_) (fun h_ => ?_)) | ((with_reducible show wpList _ _ _ (⟨_, .binOp .neq _ _ _ _, _, _, _, _⟩ :: _) _ _); refine st_neq rfl _ _ _ _ rfl _ _ _ rfl rfl (fun h_ => ?_) (fun h_ => ?_))) <;> go_prune)
        | (go_at_call 55; refine (role_any _ _).mono ?_; (first | rw [HRA.out] | rw [HRB.out]); rintro r_ w_ ⟨_, rfl, rfl, hb_⟩; replace hS := hS.ext hb_; clear hb_))
      go_ret2
      exact ⟨_, _, rfl, .inl ⟨HNO.out, rfl, rfl, hS.mono KS fun _ _ h => h.1⟩⟩
  · have HRA := Lib.hid (decide_eq_false hra)
    have HRB := HRA
    have HNO : Hid (¬ ((1 ≤ a ∧ a ≤ 63) ∧ (1 ≤ b ∧ b ≤ 63) ∧ a ≠ b)) := Lib.hid fun h => hra h.1
    clear hra
    go_enter Tryd.func44, Tryd.ntmps44
    go_wp2_with (first
      | ((with_reducible show wpList _ _ _ (⟨_, .binOp _ _ _ _ _, _, _, _, _⟩ :: _) _ _); (first | ((with_reducible show wpList _ _ _ (⟨_, .binOp .lss _ _ _ _, _, _, _, _⟩ :: _) _ _); refine st_lss rfl _ _ _ _ rfl _ _ _ rfl rfl (fun h_ => ?_) (fun h_ => ?_)) | ((with_reducible show wpList _ _ _ (⟨_, .binOp .leq _ _ _ _, _, _, _, _⟩ :: _) _ _); refine st_leq rfl _ _ _ _ rfl _ _ _ rfl rfl (fun h_ => ?_) (fun h_ => ?_)) | ((with_reducible show wpList _ _ _ (⟨_, .binOp .gtr _ _ _ _, _, _, _, _⟩ :: _) _ _); refine st_gtr rfl _ _ _ _ rfl _ _ _ rfl rfl (fun h_ => ?_) (fun h_ => ?_)) | ((with_reducible show wpList _ _ _ (⟨_, .binOp .geq _ _ _ _, _, _, _, _⟩ :: _) _ _); refine st_geq rfl _ _ _ _ rfl _ _ _ rfl rfl (fun h_ => ?_) (fun h_ => ?_)) | ((with_reducible show wpList _ _ _ (⟨_, .binOp .eql _ _ _ _, _, _, _, _⟩ :: _) _ _); refine st_eql rfl _ _ _ _ rfl _ _ _ rfl rfl (fun h_ => ?_) (fun h_ => ?_)) | ((with_reducible show wpList _ _ _ (⟨_, .binOp .neq _ _ _ _, _, _, _, _⟩ :: _) _ _); refine st_neq rfl _ _ _ _ rfl _ _ _ rfl rfl (fun h_ => ?_) (fun h_ => ?_))) <;> go_prune)
      | (go_at_call 55; refine (role_any _ _).mono ?_; (first | rw [HRA.out] | rw [HRB.out]); rintro r_ w_ ⟨_, rfl, rfl, hb_⟩; replace hS := hS.ext hb_; clear hb_))
    go_ret2
    exact ⟨_, _, rfl, .inl ⟨HNO.out, rfl, rfl, hS.mono KS fun _ _ h => h.1⟩⟩
end Go.Proofs.YtmlkgaiphpimiaaDoor
namespace Go.Proofs.YtmlkgaiphpimiaaDoor
open Go.RowKit
attribute [local go_sem ↓] Go.wp_at_zero Go.wp_at_succ
set_option maxRecDepth 20000
set_option exponentiation.threshold 5000

theorem withN_nat {N r : Nat} (h : r < 64) : withN N (r : Int) = N ||| 2 ^ r := by
  unfold withN
  rw [if_pos (by omega), Int.toNat_natCast]
theorem free1 {w0 w : World} {g z : Nat} {t : TypeId} {cs : Array Value} {K : (Nat → Prop) → World → Prop} (h : St w0 w [.box g t cs] K) (hz : z < w0.heap.size) : Free [.box g t cs] z := fun f hf e => by
  rw [List.mem_singleton] at hf
  subst hf
  have := Fact.ge (h.holds _ (List.mem_singleton.2 rfl)) e
  omega
theorem stable_inter {r : (Nat → Prop) → World → Prop} (hr : Stable r) (E : Nat → Prop) : Stable fun D w => r (fun z => D z ∧ E z) w := fun D D' w w' h a b c =>
  hr _ _ w w' h a (fun p x hp => b p x hp.1) fun z hz h1 h2 => ⟨c z hz.1 h1 h2, hz.2⟩
theorem hjun_any {w0 : World} {D : Nat → Prop} {p : Value} {L : List (Nat × Nat)} (h : IsH w0 D p L) (hH : HOK L) (r : Int) : Calls Tryd.prog 21 #[p, .int .i64 r] w0 (Ret (fun x w => IsSet w (fun z => D z ∨ w0.heap.size ≤ z) x (if 1 ≤ r ∧ r ≤ 63 then junM L r.toNat else 0)) w0) := by
  obtain ⟨q, o, rfl, hb, ho⟩ := h
  have HO := Lib.hid (stable_ord D (fun z => D z ∧ z < w0.heap.size) w0 w0 ho (Nat.le_refl _) (fun _ _ _ _ h => h) fun b h1 h2 _ => ⟨h1, h2⟩)
  obtain ⟨K, k0, hS⟩ : ∃ K : (Nat → Prop) → World → Prop, (∀ D w, K D w → w.cell? ⟨q, 0, none⟩ = some o) ∧ St w0 w0 [] K := ⟨_, fun _ _ h => IsBox.cell h 0 rfl, St.start stable_isBox hb⟩
  have HH := Lib.hid hH
  clear hb hH ho
  by_cases hr : 1 ≤ r ∧ r ≤ 63
  · obtain ⟨k, rfl⟩ : ∃ k : Nat, r = (k : Int) := ⟨r.toNat, by omega⟩
    have HR := Lib.hid (decide_eq_true hr)
    have HM := Lib.hid (fun (N : Nat) (h : ∀ i : Nat, N.testBit i = true ↔ ∃ b : Nat, (k : Int) = (b : Int) ∧ TC L b i) => show withN N (k : Int) = junM L k from by
      rw [withN_nat (by omega)]
      refine mask_ext fun i => ?_
      rw [tb_or, tb_pow, h, tb_jun HH.out.inr (by omega)]
      constructor
      · rintro (⟨b, e, h⟩ | h)
        · obtain rfl : k = b := by omega
          exact .inr h
        · exact .inl h
      · rintro (h | h)
        · exact .inr h
        · exact .inl ⟨k, rfl, h⟩)
    rw [if_pos hr, Int.toNat_natCast]
    clear hr
    go_enter Tryd.func21, Tryd.ntmps21
    go_wp2_with (first
      | ((with_reducible show wpList _ _ _ (⟨_, .binOp _ _ _ _ _, _, _, _, _⟩ :: _) _ _); (first | ((with_reducible show wpList _ _ _ (⟨_, .binOp .lss _ _ _ _, _, _, _, _⟩ :: _) _ _); refine st_lss rfl _ _ _ _ rfl _ _ _ rfl rfl (fun h_ => ?_) (fun h_ => ?_)) | ((with_reducible show wpList _ _ _ (⟨_, .binOp .leq _ _ _ _, _, _, _, _⟩ :: _) _ _); refine st_leq rfl _ _ _ _ rfl _ _ _ rfl rfl (fun h_ => ?_) (fun h_ => ?_)) | ((with_reducible show wpList _ _ _ (⟨_, .binOp .gtr _ _ _ _, _, _, _, _⟩ :: _) _ _); refine st_gtr rfl _ _ _ _ rfl _ _ _ rfl rfl (fun h_ => ?_) (fun h_ => ?_)) | ((with_reducible show wpList _ _ _ (⟨_, .binOp .geq _ _ _ _, _, _, _, _⟩ :: _) _ _); refine st_geq rfl _ _ _ _ rfl _ _ _ rfl rfl (fun h_ => ?_) (fun h_ => ?_)) | ((with_reducible show wpList _ _ _ (⟨_, .binOp .eql _ _ _ _, _, _, _, _⟩ :: _) _ _); refine st_eql rfl _ _ _ _ rfl _ _ _ rfl rfl (fun h_ => ?_) (fun h_ => ?_)) | ((with_reducible show wpList _ _ _ (⟨_, .binOp .neq _ _ _ _, _, _, _, _⟩ :: _) _ _); refine st_neq rfl _ _ _ _ rfl _ _ _ rfl rfl (fun h_ => ?_) (fun h_ => ?_))) <;> go_prune)
      | ((with_reducible show wpList _ _ _ (⟨some 4, _, _, _, _, _⟩ :: _) _ _); refine st_alloc hS rfl _ rfl (by kernel_rfl) ?_; clear hS; intro g w_ hS; (try simp only [Act.put, Act.eval, List.set_cons_zero, List.set_cons_succ, List.setIfInBounds_toArray, Array.getD_eq_getD_getElem?, List.getElem?_toArray, List.getElem?_cons_succ, List.getElem?_cons_zero, Option.getD_some, Value.cells] at hS))
      | (go_at_call 55; refine (role_any _ _).mono ?_; rw [HR.out]; rintro r_ w_ ⟨_, rfl, rfl, hb_⟩; replace hS := hS.ext hb_; clear hb_)
      | ((with_reducible show wpList _ _ _ (⟨some 16, _, _, _, _, _⟩ :: _) _ _); refine st_kcell hS rfl _ _ rfl _ rfl _ k0 (by kernel_rfl) ?_)
      | (go_at_call 23; refine (obelow_any (stable_ord _ _ _ _ HO.out hS.size (fun _ _ _ hp hc => (hS.below.cell hp).trans hc) fun _ h _ _ => h) HH.out.inr _).mono ?_; rintro r_ w_ ⟨_, rfl, ⟨N, hN, hs⟩, hb_⟩; replace hs := Lib.hid hs; replace hS := hS.ext hb_; clear hb_)
      | (go_at_call 24; refine (with_any _ N _ _ _ hN).mono ?_; rintro r_ w1 ⟨_, rfl, hM, hb_⟩; rw [HM.out N hs.out] at hM; obtain ⟨A3, c3, l3, rfl, -⟩ := hM.parts; replace hS := hS.ret2 hb_ (stable_inter stable_set fun z => D z ∨ w0.heap.size ≤ z) (hM.imp fun z hz _ => ⟨hz.imp (fun hz => free1 hS hz.2) id, hz.elim (fun hz => .inl hz.1) fun hz => .inr (Nat.le_trans hS.size hz)⟩); clear hb_)
      | ((with_reducible show wpList _ _ _ (⟨_, .store _ _ _, _, _, _, _⟩ :: _) _ _); first | (refine st_store hS 0 rfl _ _ _ rfl _ _ rfl rfl _ _ rfl (by kernel_rfl) (by kernel_rfl) (by kernel_rfl) ?_; clear hS; intro w_ hS; (try simp only [Act.put, Act.eval, List.set_cons_zero, List.set_cons_succ, List.setIfInBounds_toArray, Array.getD_eq_getD_getElem?, List.getElem?_toArray, List.getElem?_cons_succ, List.getElem?_cons_zero, Option.getD_some, Value.cells] at hS)) | (refine st_store hS 1 rfl _ _ _ rfl _ _ rfl rfl _ _ rfl (by kernel_rfl) (by kernel_rfl) (by kernel_rfl) ?_; clear hS; intro w_ hS; (try simp only [Act.put, Act.eval, List.set_cons_zero, List.set_cons_succ, List.setIfInBounds_toArray, Array.getD_eq_getD_getElem?, List.getElem?_toArray, List.getElem?_cons_succ, List.getElem?_cons_zero, Option.getD_some, Value.cells] at hS)) | (refine st_store hS 2 rfl _ _ _ rfl _ _ rfl rfl _ _ rfl (by kernel_rfl) (by kernel_rfl) (by kernel_rfl) ?_; clear hS; intro w_ hS; (try simp only [Act.put, Act.eval, List.set_cons_zero, List.set_cons_succ, List.setIfInBounds_toArray, Array.getD_eq_getD_getElem?, List.getElem?_toArray, List.getElem?_cons_succ, List.getElem?_cons_zero, Option.getD_some, Value.cells] at hS)) | (refine st_store hS 3 rfl _ _ _ rfl _ _ rfl rfl _ _ rfl (by kernel_rfl) (by kernel_rfl) (by kernel_rfl) ?_; clear hS; intro w_ hS; (try simp only [Act.put, Act.eval, List.set_cons_zero, List.set_cons_succ, List.setIfInBounds_toArray, Array.getD_eq_getD_getElem?, List.getElem?_toArray, List.getElem?_cons_succ, List.getElem?_cons_zero, Option.getD_some, Value.cells] at hS)) | (refine st_cstore hS 0 rfl _ _ _ rfl _ _ _ rfl rfl rfl (by first | (simp; done) | (simp; omega) | exact of_decide_eq_true (by kernel_rfl)) rfl (by first | rfl | assumption) (by kernel_rfl) ?_; clear hS; intro w_ hS; (try simp only [Act.put, Act.eval, List.set_cons_zero, List.set_cons_succ, List.setIfInBounds_toArray, Array.getD_eq_getD_getElem?, List.getElem?_toArray, List.getElem?_cons_succ, List.getElem?_cons_zero, Option.getD_some, Value.cells] at hS)) | (refine st_cstore hS 1 rfl _ _ _ rfl _ _ _ rfl rfl rfl (by first | (simp; done) | (simp; omega) | exact of_decide_eq_true (by kernel_rfl)) rfl (by first | rfl | assumption) (by kernel_rfl) ?_; clear hS; intro w_ hS; (try simp only [Act.put, Act.eval, List.set_cons_zero, List.set_cons_succ, List.setIfInBounds_toArray, Array.getD_eq_getD_getElem?, List.getElem?_toArray, List.getElem?_cons_succ, List.getElem?_cons_zero, Option.getD_some, Value.cells] at hS)) | (refine st_cstore hS 2 rfl _ _ _ rfl _ _ _ rfl rfl rfl (by first | (simp; done) | (simp; omega) | exact of_decide_eq_true (by kernel_rfl)) rfl (by first | rfl | assumption) (by kernel_rfl) ?_; clear hS; intro w_ hS; (try simp only [Act.put, Act.eval, List.set_cons_zero, List.set_cons_succ, List.setIfInBounds_toArray, Array.getD_eq_getD_getElem?, List.getElem?_toArray, List.getElem?_cons_succ, List.getElem?_cons_zero, Option.getD_some, Value.cells] at hS)) | (refine st_cstore hS 3 rfl _ _ _ rfl _ _ _ rfl rfl rfl (by first | (simp; done) | (simp; omega) | exact of_decide_eq_true (by kernel_rfl)) rfl (by first | rfl | assumption) (by kernel_rfl) ?_; clear hS; intro w_ hS; (try simp only [Act.put, Act.eval, List.set_cons_zero, List.set_cons_succ, List.setIfInBounds_toArray, Array.getD_eq_getD_getElem?, List.getElem?_toArray, List.getElem?_cons_succ, List.getElem?_cons_zero, Option.getD_some, Value.cells] at hS))))
    refine ret_cell Tryd.results21 rfl (hS.box 0 rfl) Tryd.underlying42 rfl (by kernel_rfl) rfl ?_
    exact Ret.mk (hS.ro.2.imp fun z hz _ => hz.2) hS.below
  · have HR := Lib.hid (decide_eq_false hr)
    rw [if_neg hr]
    clear hr
    go_enter Tryd.func21, Tryd.ntmps21
    go_wp2_with (first
      | ((with_reducible show wpList _ _ _ (⟨_, .binOp _ _ _ _ _, _, _, _, _⟩ :: _) _ _); (first | ((with_reducible show wpList _ _ _ (⟨_, .binOp .lss _ _ _ _, _, _, _, _⟩ :: _) _ _); refine st_lss rfl _ _ _ _ rfl _ _ _ rfl rfl (fun h_ => ?_) (fun h_ => ?_)) | ((with_reducible show wpList _ _ _ (⟨_, .binOp .leq _ _ _ _, _, _, _, _⟩ :: _) _ _); refine st_leq rfl _ _ _ _ rfl _ _ _ rfl rfl (fun h_ => ?_) (fun h_ => ?_)) | ((with_reducible show wpList _ _ _ (⟨_, .binOp .gtr _ _ _ _, _, _, _, _⟩ :: _) _ _); refine st_gtr rfl _ _ _ _ rfl _ _ _ rfl rfl (fun h_ => ?_) (fun h_ => ?_)) | ((with_reducible show wpList _ _ _ (⟨_, .binOp .geq _ _ _ _, _, _, _, _⟩ :: _) _ _); refine st_geq rfl _ _ _ _ rfl _ _ _ rfl rfl (fun h_ => ?_) (fun h_ => ?_)) | ((with_reducible show wpList _ _ _ (⟨_, .binOp .eql _ _ _ _, _, _, _, _⟩ :: _) _ _); refine st_eql rfl _ _ _ _ rfl _ _ _ rfl rfl (fun h_ => ?_) (fun h_ => ?_)) | ((with_reducible show wpList _ _ _ (⟨_, .binOp .neq _ _ _ _, _, _, _, _⟩ :: _) _ _); refine st_neq rfl _ _ _ _ rfl _ _ _ rfl rfl (fun h_ => ?_) (fun h_ => ?_))) <;> go_prune)
      | ((with_reducible show wpList _ _ _ (⟨some 4, _, _, _, _, _⟩ :: _) _ _); refine st_alloc hS rfl _ rfl (by kernel_rfl) ?_; clear hS; intro g w_ hS; (try simp only [Act.put, Act.eval, List.set_cons_zero, List.set_cons_succ, List.setIfInBounds_toArray, Array.getD_eq_getD_getElem?, List.getElem?_toArray, List.getElem?_cons_succ, List.getElem?_cons_zero, Option.getD_some, Value.cells] at hS))
      | (go_at_call 55; refine (role_any _ _).mono ?_; rw [HR.out]; rintro r_ w_ ⟨_, rfl, rfl, hb_⟩; replace hS := hS.ext hb_; clear hb_)
      | ((with_reducible show wpList _ _ _ (⟨_, .build _ _, _, _, _, _⟩ :: _) _ _); refine wpList_build_of rfl _ _ rfl #[.slice none 0 0] (by kernel_rfl) ?_)
      | ((with_reducible show wpList _ _ _ (⟨_, .store _ _ _, _, _, _, _⟩ :: _) _ _); first | (refine st_store hS 0 rfl _ _ _ rfl _ _ rfl rfl _ _ rfl (by kernel_rfl) (by kernel_rfl) (by kernel_rfl) ?_; clear hS; intro w_ hS; (try simp only [Act.put, Act.eval, List.set_cons_zero, List.set_cons_succ, List.setIfInBounds_toArray, Array.getD_eq_getD_getElem?, List.getElem?_toArray, List.getElem?_cons_succ, List.getElem?_cons_zero, Option.getD_some, Value.cells] at hS)) | (refine st_store hS 1 rfl _ _ _ rfl _ _ rfl rfl _ _ rfl (by kernel_rfl) (by kernel_rfl) (by kernel_rfl) ?_; clear hS; intro w_ hS; (try simp only [Act.put, Act.eval, List.set_cons_zero, List.set_cons_succ, List.setIfInBounds_toArray, Array.getD_eq_getD_getElem?, List.getElem?_toArray, List.getElem?_cons_succ, List.getElem?_cons_zero, Option.getD_some, Value.cells] at hS)) | (refine st_store hS 2 rfl _ _ _ rfl _ _ rfl rfl _ _ rfl (by kernel_rfl) (by kernel_rfl) (by kernel_rfl) ?_; clear hS; intro w_ hS; (try simp only [Act.put, Act.eval, List.set_cons_zero, List.set_cons_succ, List.setIfInBounds_toArray, Array.getD_eq_getD_getElem?, List.getElem?_toArray, List.getElem?_cons_succ, List.getElem?_cons_zero, Option.getD_some, Value.cells] at hS)) | (refine st_store hS 3 rfl _ _ _ rfl _ _ rfl rfl _ _ rfl (by kernel_rfl) (by kernel_rfl) (by kernel_rfl) ?_; clear hS; intro w_ hS; (try simp only [Act.put, Act.eval, List.set_cons_zero, List.set_cons_succ, List.setIfInBounds_toArray, Array.getD_eq_getD_getElem?, List.getElem?_toArray, List.getElem?_cons_succ, List.getElem?_cons_zero, Option.getD_some, Value.cells] at hS)) | (refine st_cstore hS 0 rfl _ _ _ rfl _ _ _ rfl rfl rfl (by first | (simp; done) | (simp; omega) | exact of_decide_eq_true (by kernel_rfl)) rfl (by first | rfl | assumption) (by kernel_rfl) ?_; clear hS; intro w_ hS; (try simp only [Act.put, Act.eval, List.set_cons_zero, List.set_cons_succ, List.setIfInBounds_toArray, Array.getD_eq_getD_getElem?, List.getElem?_toArray, List.getElem?_cons_succ, List.getElem?_cons_zero, Option.getD_some, Value.cells] at hS)) | (refine st_cstore hS 1 rfl _ _ _ rfl _ _ _ rfl rfl rfl (by first | (simp; done) | (simp; omega) | exact of_decide_eq_true (by kernel_rfl)) rfl (by first | rfl | assumption) (by kernel_rfl) ?_; clear hS; intro w_ hS; (try simp only [Act.put, Act.eval, List.set_cons_zero, List.set_cons_succ, List.setIfInBounds_toArray, Array.getD_eq_getD_getElem?, List.getElem?_toArray, List.getElem?_cons_succ, List.getElem?_cons_zero, Option.getD_some, Value.cells] at hS)) | (refine st_cstore hS 2 rfl _ _ _ rfl _ _ _ rfl rfl rfl (by first | (simp; done) | (simp; omega) | exact of_decide_eq_true (by kernel_rfl)) rfl (by first | rfl | assumption) (by kernel_rfl) ?_; clear hS; intro w_ hS; (try simp only [Act.put, Act.eval, List.set_cons_zero, List.set_cons_succ, List.setIfInBounds_toArray, Array.getD_eq_getD_getElem?, List.getElem?_toArray, List.getElem?_cons_succ, List.getElem?_cons_zero, Option.getD_some, Value.cells] at hS)) | (refine st_cstore hS 3 rfl _ _ _ rfl _ _ _ rfl rfl rfl (by first | (simp; done) | (simp; omega) | exact of_decide_eq_true (by kernel_rfl)) rfl (by first | rfl | assumption) (by kernel_rfl) ?_; clear hS; intro w_ hS; (try simp only [Act.put, Act.eval, List.set_cons_zero, List.set_cons_succ, List.setIfInBounds_toArray, Array.getD_eq_getD_getElem?, List.getElem?_toArray, List.getElem?_cons_succ, List.getElem?_cons_zero, Option.getD_some, Value.cells] at hS))))
    refine ret_cell Tryd.results21 rfl (hS.box 0 rfl) Tryd.underlying42 rfl (by kernel_rfl) rfl ?_
    exact Ret.mk IsSet.empty hS.below
/-- r implies s -/
def impl (L : List (Nat × Nat)) (r s : Int) : Prop := ∃ i j : Nat, r = (i : Int) ∧ s = (j : Int) ∧ (1 ≤ i ∧ i < 64) ∧ (1 ≤ j ∧ j < 64) ∧ (i = j ∨ TC L i j)
theorem himplies_any {w0 : World} {D : Nat → Prop} {p : Value} {L : List (Nat × Nat)} (h : IsH w0 D p L) (hH : HOK L) (r s : Int) : Calls Tryd.prog 15 #[p, .int .i64 r, .int .i64 s] w0 (Ret (fun x _ => ∃ c : Bool, x = .bool c ∧ (c = true ↔ impl L r s)) w0) := by
  obtain ⟨q, o, rfl, hX⟩ := h
  obtain ⟨K, ko, hS⟩ : ∃ K : (Nat → Prop) → World → Prop, (∀ D w, K D w → HierX q o L D w) ∧ St w0 w0 [] K := ⟨_, fun _ _ h => h, St.start stable_hierX hX⟩
  clear hX
  have HH := Lib.hid hH
  clear hH
  by_cases hrr : 1 ≤ r ∧ r ≤ 63
  · have HRA := Lib.hid (decide_eq_true hrr)
    by_cases hrs : 1 ≤ s ∧ s ≤ 63
    · have HRB := Lib.hid (decide_eq_true hrs)
      by_cases hab : r = s
      · subst hab
        have HI : Hid (impl L r r) := Lib.hid ⟨r.toNat, r.toNat, by omega, by omega, by omega, by omega, .inl rfl⟩
        clear hrr hrs
        go_enter Tryd.func15, Tryd.ntmps15
        go_wp2_with (first
          | ((with_reducible show wpList _ _ _ (⟨_, .binOp _ _ _ _ _, _, _, _, _⟩ :: _) _ _); (first | ((with_reducible show wpList _ _ _ (⟨_, .binOp .lss _ _ _ _, _, _, _, _⟩ :: _) _ _); refine st_lss rfl _ _ _ _ rfl _ _ _ rfl rfl (fun h_ => ?_) (fun h_ => ?_)) | ((with_reducible show wpList _ _ _ (⟨_, .binOp .leq _ _ _ _, _, _, _, _⟩ :: _) _ _); refine st_leq rfl _ _ _ _ rfl _ _ _ rfl rfl (fun h_ => ?_) (fun h_ => ?_)) | ((with_reducible show wpList _ _ _ (⟨_, .binOp .gtr _ _ _ _, _, _, _, _⟩ :: _) _ _); refine st_gtr rfl _ _ _ _ rfl _ _ _ rfl rfl (fun h_ => ?_) (fun h_ => ?_)) | ((with_reducible show wpList _ _ _ (⟨_, .binOp .geq _ _ _ _, _, _, _, _⟩ :: _) _ _); refine st_geq rfl _ _ _ _ rfl _ _ _ rfl rfl (fun h_ => ?_) (fun h_ => ?_)) | ((with_reducible show wpList _ _ _ (⟨_, .binOp .eql _ _ _ _, _, _, _, _⟩ :: _) _ _); refine st_eql rfl _ _ _ _ rfl _ _ _ rfl rfl (fun h_ => ?_) (fun h_ => ?_)) | ((with_reducible show wpList _ _ _ (⟨_, .binOp .neq _ _ _ _, _, _, _, _⟩ :: _) _ _); refine st_neq rfl _ _ _ _ rfl _ _ _ rfl rfl (fun h_ => ?_) (fun h_ => ?_))) <;> go_prune)
          | (go_at_call 55; refine (role_any _ _).mono ?_; (first | rw [HRA.out] | rw [HRB.out]); rintro r_ w_ ⟨_, rfl, rfl, hb_⟩; replace hS := hS.ext hb_; clear hb_))
        go_ret
        exact Ret.mk (v := .bool true) (.inr ⟨rfl, HI.out⟩) hS.below
      · have HI : Hid (∀ c : Bool, (c = true ↔ ∃ i j : Nat, s = (i : Int) ∧ r = (j : Int) ∧ TC L j i) → (c = true ↔ impl L r s)) := Lib.hid fun c h => h.trans ⟨fun ⟨i, j, h1, h2, h3⟩ => ⟨j, i, h2, h1, by omega, by omega, .inr h3⟩, fun ⟨i, j, h1, h2, _, _, h3⟩ => ⟨j, i, h2, h1, h3.resolve_left fun e => hab (by rw [h1, h2, e])⟩⟩
        clear hrr hrs
        go_enter Tryd.func15, Tryd.ntmps15
        go_wp2_with (first
          | ((with_reducible show wpList _ _ _ (⟨_, .binOp _ _ _ _ _, _, _, _, _⟩ :: _) _ _); (first | ((with_reducible show wpList _ _ _ (⟨_, .binOp .lss _ _ _ _, _, _, _, _⟩ :: _) _ _); refine st_lss rfl _ _ _ _ rfl _ _ _ rfl rfl (fun h_ => ?_) (fun h_ => ?_)) | ((with_reducible show wpList _ _ _ (⟨_, .binOp .leq _ _ _ _, _, _, _, _⟩ :: _) _ _); refine st_leq rfl _ _ _ _ rfl _ _ _ rfl rfl (fun h_ => ?_) (fun h_ => ?_)) | ((with_reducible show wpList _ _ _ (⟨_, .binOp .gtr _ _ _ _, _, _, _, _⟩ :: _) _ _); refine st_gtr rfl _ _ _ _ rfl _ _ _ rfl rfl (fun h_ => ?_) (fun h_ => ?_)) | ((with_reducible show wpList _ _ _ (⟨_, .binOp .geq _ _ _ _, _, _, _, _⟩ :: _) _ _); refine st_geq rfl _ _ _ _ rfl _ _ _ rfl rfl (fun h_ => ?_) (fun h_ => ?_)) | ((with_reducible show wpList _ _ _ (⟨_, .binOp .eql _ _ _ _, _, _, _, _⟩ :: _) _ _); refine st_eql rfl _ _ _ _ rfl _ _ _ rfl rfl (fun h_ => ?_) (fun h_ => ?_)) | ((with_reducible show wpList _ _ _ (⟨_, .binOp .neq _ _ _ _, _, _, _, _⟩ :: _) _ _); refine st_neq rfl _ _ _ _ rfl _ _ _ rfl rfl (fun h_ => ?_) (fun h_ => ?_))) <;> go_prune)
          | (go_at_call 55; refine (role_any _ _).mono ?_; (first | rw [HRA.out] | rw [HRB.out]); rintro r_ w_ ⟨_, rfl, rfl, hb_⟩; replace hS := hS.ext hb_; clear hb_)
          | ((with_reducible show wpList _ _ _ (⟨_, .load _ _, _, _, _, _⟩ :: _) _ _); refine st_kcell hS rfl _ _ rfl _ rfl _ (fun D w h => (ko D w h).1.cell 0 rfl) (by kernel_rfl) ?_)
          | (go_at_call 56; refine (oless_any (ko _ _ hS.ro).2 HH.out.inr _ _).mono ?_; rintro r_ w_ ⟨_, rfl, ⟨c, rfl, hc⟩, hb_⟩; replace hc := Lib.hid (HI.out c hc); replace hS := hS.ext hb_; clear hb_))
        go_ret
        exact Ret.mk ⟨c, rfl, hc.out⟩ hS.below
    · have HRB := Lib.hid (decide_eq_false hrs)
      have HI : Hid (¬ impl L r s) := Lib.hid fun ⟨i, j, h1, h2, h3, h4, _⟩ => hrs (by omega)
      clear hrr hrs
      go_enter Tryd.func15, Tryd.ntmps15
      go_wp2_with (first
        | ((with_reducible show wpList _ _ _ (⟨_, .binOp _ _ _ _ _, _, _, _, _⟩ :: _) _ _); (first | ((with_reducible show wpList _ _ _ (⟨_, .binOp .lss _ _ _ _, _, _, _, _⟩ :: _) _ _); refine st_lss rfl _ _ _ _ rfl _ _ _ rfl rfl (fun h_ => ?_) (fun h_ => ?_)) | ((with_reducible show wpList _ _ _ (⟨_, .binOp .leq _ _ _ _, _, _, _, _⟩ :: _) _ _); refine st_leq rfl _ _ _ _ rfl _ _ _ rfl rfl (fun h_ => ?_) (fun h_ => ?_)) | ((with_reducible show wpList _ _ _ (⟨_, .binOp .gtr _ _ _ _, _, _, _, _⟩ :: _) _ _); refine st_gtr rfl _ _ _ _ rfl _ _ _ rfl rfl (fun h_ => ?_) (fun h_ => ?_)) | ((with_reducible show wpList _ _ _ (⟨_, .binOp .geq _ _ _ _, _, _, _, _⟩ :: _) _ _); refine st_geq rfl _ _ _ _ rfl _ _ _ rfl rfl (fun h_ => ?_) (fun h_ => ?_)) | ((with_reducible show wpList _ _ _ (⟨_, .binOp .eql _ _ _ _, _, _, _, _⟩ :: _) _ _); refine st_eql rfl _ _ _ _ rfl _ _ _ rfl rfl (fun h_ => ?_) (fun h_ => ?_)) | ((with_reducible show wpList _ _ _ (⟨_, .binOp .neq _ _ _ _, _, _, _, _⟩ :: _) _ _); refine st_neq rfl _ _ _ _ rfl _ _ _ rfl rfl (fun h_ => ?_) (fun h_ => ?_))) <;> go_prune)
        | (go_at_call 55; refine (role_any _ _).mono ?_; (first | rw [HRA.out] | rw [HRB.out]); rintro r_ w_ ⟨_, rfl, rfl, hb_⟩; replace hS := hS.ext hb_; clear hb_))
      go_ret
      exact Ret.mk ⟨false, rfl, fun h => by simp at h, fun h => absurd h HI.out⟩ hS.below
  · have HRA := Lib.hid (decide_eq_false hrr)
    have HI : Hid (¬ impl L r s) := Lib.hid fun ⟨i, j, h1, h2, h3, h4, _⟩ => hrr (by omega)
    clear hrr
    go_enter Tryd.func15, Tryd.ntmps15
    go_wp2_with (first
      | ((with_reducible show wpList _ _ _ (⟨_, .binOp _ _ _ _ _, _, _, _, _⟩ :: _) _ _); (first | ((with_reducible show wpList _ _ _ (⟨_, .binOp .lss _ _ _ _, _, _, _, _⟩ :: _) _ _); refine st_lss rfl _ _ _ _ rfl _ _ _ rfl rfl (fun h_ => ?_) (fun h_ => ?_)) | ((with_reducible show wpList _ _ _ (⟨_, .binOp .leq _ _ _ _, _, _, _, _⟩ :: _) _ _); refine st_leq rfl _ _ _ _ rfl _ _ _ rfl rfl (fun h_ => ?_) (fun h_ => ?_)) | ((with_reducible show wpList _ _ _ (⟨_, .binOp .gtr _ _ _ _, _, _, _, _⟩ :: _) _ _); refine st_gtr rfl _ _ _ _ rfl _ _ _ rfl rfl (fun h_ => ?_) (fun h_ => ?_)) | ((with_reducible show wpList _ _ _ (⟨_, .binOp .geq _ _ _ _, _, _, _, _⟩ :: _) _ _); refine st_geq rfl _ _ _ _ rfl _ _ _ rfl rfl (fun h_ => ?_) (fun h_ => ?_)) | ((with_reducible show wpList _ _ _ (⟨_, .binOp .eql _ _ _ _, _, _, _, _⟩ :: _) _ _); refine st_eql rfl _ _ _ _ rfl _ _ _ rfl rfl (fun h_ => ?_) (fun h_ => ?_)) | ((with_reducible show wpList _ _ _ (⟨_, .binOp .neq _ _ _ _, _, _, _, _⟩ :: _) _ _); refine st_neq rfl _ _ _ _ rfl _ _ _ rfl rfl (fun h_ => ?_) (fun h_ => ?_))) <;> go_prune)
      | (go_at_call 55; refine (role_any _ _).mono ?_; rw [HRA.out]; rintro r_ w_ ⟨_, rfl, rfl, hb_⟩; replace hS := hS.ext hb_; clear hb_))
    go_ret
    exact Ret.mk ⟨false, rfl, fun h => by simp at h, fun h => absurd h HI.out⟩ hS.below
end Go.Proofs.YtmlkgaiphpimiaaDoor
namespace Go.Proofs.YtmlkgaiphpimiaaDoor
open Go.RowKit
set_option maxRecDepth 20000

def OJ (C : World → Prop) (S : Value → World → Prop) (p : World × Option Value) : Prop := C p.1 ∧ ∀ r, p.2 = some r → S r p.1
def OR (C : World → Prop) (S : Value → World → Prop) (p p' : World × Option Value) : Prop := (OJ C S p → OJ C S p') ∧ ∀ v, p.2 = some v → p'.2 = some v
def ON (k : Nat) (i : Nat) (p : World × Option Value) : Prop := i = k → p.2 = none
section
variable {C : World → Prop} {S : Value → World → Prop} {p p' : World × Option Value} {k : Nat}
theorem OR.refl (p : World × Option Value) : OR C S p p := ⟨id, fun _ h => h⟩
theorem OR.trans (a b c : World × Option Value) (h : OR C S a b) (k : OR C S b c) : OR C S a c := ⟨fun y => k.1 (h.1 y), fun g y => k.2 g (h.2 g y)⟩
theorem OJ.start {w : World} (h : C w) : OJ C S (w, none) := ⟨h, fun _ h => by cases h⟩
theorem ON.start (k : Nat) (w : World) (i : Nat) : ON k i (w, none) := fun _ => rfl
theorem one_call {P : Program} {o : Oper} {a : Act} {Kt : Act → World → Prop} {Q : Exit → Act → World → Prop} {f : FuncId} {xs : Array Operand} {ts : Array TypeId} {vs : List Value} {R : Ending → World → Prop} (X : Value → Prop)
    (ho : o.op = .call { callee := .value (.func f), args := xs, argTypes := ts }) (hc : callsGo P f = true) (hv : xs.toList.map a.eval = vs) (h : Calls P f vs.toArray p.1 R) (hN : ON k k p) (hk : ∀ e w', R e w' → ∃ v, e = .returned v ∧ C w' ∧ S v w' ∧ X v)
    (hK : ∀ v w', (w'.2 = some v ∧ X v) → OR C S p w' ∧ (∀ j, j ≠ k → ON k j p → ON k j w') → Kt (a.put o.dst v) w'.1) : o.wp P a p.1 Kt Q := by
  refine opw_callw ho hc hv h fun e w' hr => ?_
  obtain ⟨v, he, h1, h2, h3⟩ := hk e w' hr
  refine ⟨v, he, hK v (w', some v) ⟨rfl, h3⟩ ⟨⟨fun _ => ⟨h1, fun r hr => by cases hr; exact h2⟩, fun g hg => ?_⟩, fun j hj _ e => absurd e hj⟩⟩
  rw [hN rfl] at hg
  cases hg
end
/-- a pair that a call hands back -/
def isTup2 (v : Value) : Prop := ∃ x y : Value, v = .tuple #[x, y]
end Go.Proofs.YtmlkgaiphpimiaaDoor
namespace Go.Proofs.YtmlkgaiphpimiaaDoor
open Go.RowKit
attribute [local go_sem ↓] Go.wp_at_zero Go.wp_at_succ
set_option maxRecDepth 20000
set_option exponentiation.threshold 5000

theorem rrole_any (r : Int) (w : World) : Calls Tryd.prog 57 #[.int .i64 r] w (Ret (fun x _ => x = .bool (decide (1 ≤ r ∧ r ≤ 63))) w) := by
  by_cases h1 : 1 ≤ r
  · by_cases h2 : r ≤ 63
    · have HR := Lib.hid (show decide (1 ≤ r ∧ r ≤ 63) = true by simp [h1, h2])
      generalize decide (1 ≤ r ∧ r ≤ 63) = R at *
      go_enter Tryd.func57, Tryd.ntmps57
      go_wp2_with (first | ((with_reducible show wpList _ _ _ (⟨_, .binOp _ _ _ _ _, _, _, _, _⟩ :: _) _ _); (first | ((with_reducible show wpList _ _ _ (⟨_, .binOp .lss _ _ _ _, _, _, _, _⟩ :: _) _ _); refine st_lss rfl _ _ _ _ rfl _ _ _ rfl rfl (fun h_ => ?_) (fun h_ => ?_)) | ((with_reducible show wpList _ _ _ (⟨_, .binOp .leq _ _ _ _, _, _, _, _⟩ :: _) _ _); refine st_leq rfl _ _ _ _ rfl _ _ _ rfl rfl (fun h_ => ?_) (fun h_ => ?_)) | ((with_reducible show wpList _ _ _ (⟨_, .binOp .gtr _ _ _ _, _, _, _, _⟩ :: _) _ _); refine st_gtr rfl _ _ _ _ rfl _ _ _ rfl rfl (fun h_ => ?_) (fun h_ => ?_)) | ((with_reducible show wpList _ _ _ (⟨_, .binOp .geq _ _ _ _, _, _, _, _⟩ :: _) _ _); refine st_geq rfl _ _ _ _ rfl _ _ _ rfl rfl (fun h_ => ?_) (fun h_ => ?_)) | ((with_reducible show wpList _ _ _ (⟨_, .binOp .eql _ _ _ _, _, _, _, _⟩ :: _) _ _); refine st_eql rfl _ _ _ _ rfl _ _ _ rfl rfl (fun h_ => ?_) (fun h_ => ?_)) | ((with_reducible show wpList _ _ _ (⟨_, .binOp .neq _ _ _ _, _, _, _, _⟩ :: _) _ _); refine st_neq rfl _ _ _ _ rfl _ _ _ rfl rfl (fun h_ => ?_) (fun h_ => ?_))) <;> go_prune))
      go_ret
      exact Ret.mk (congrArg Value.bool HR.out.symm) (Below.refl _ _)
    · have HR := Lib.hid (show decide (1 ≤ r ∧ r ≤ 63) = false by simp [h2])
      generalize decide (1 ≤ r ∧ r ≤ 63) = R at *
      go_enter Tryd.func57, Tryd.ntmps57
      go_wp2_with (first | ((with_reducible show wpList _ _ _ (⟨_, .binOp _ _ _ _ _, _, _, _, _⟩ :: _) _ _); (first | ((with_reducible show wpList _ _ _ (⟨_, .binOp .lss _ _ _ _, _, _, _, _⟩ :: _) _ _); refine st_lss rfl _ _ _ _ rfl _ _ _ rfl rfl (fun h_ => ?_) (fun h_ => ?_)) | ((with_reducible show wpList _ _ _ (⟨_, .binOp .leq _ _ _ _, _, _, _, _⟩ :: _) _ _); refine st_leq rfl _ _ _ _ rfl _ _ _ rfl rfl (fun h_ => ?_) (fun h_ => ?_)) | ((with_reducible show wpList _ _ _ (⟨_, .binOp .gtr _ _ _ _, _, _, _, _⟩ :: _) _ _); refine st_gtr rfl _ _ _ _ rfl _ _ _ rfl rfl (fun h_ => ?_) (fun h_ => ?_)) | ((with_reducible show wpList _ _ _ (⟨_, .binOp .geq _ _ _ _, _, _, _, _⟩ :: _) _ _); refine st_geq rfl _ _ _ _ rfl _ _ _ rfl rfl (fun h_ => ?_) (fun h_ => ?_)) | ((with_reducible show wpList _ _ _ (⟨_, .binOp .eql _ _ _ _, _, _, _, _⟩ :: _) _ _); refine st_eql rfl _ _ _ _ rfl _ _ _ rfl rfl (fun h_ => ?_) (fun h_ => ?_)) | ((with_reducible show wpList _ _ _ (⟨_, .binOp .neq _ _ _ _, _, _, _, _⟩ :: _) _ _); refine st_neq rfl _ _ _ _ rfl _ _ _ rfl rfl (fun h_ => ?_) (fun h_ => ?_))) <;> go_prune))
      go_ret
      exact Ret.mk (congrArg Value.bool HR.out.symm) (Below.refl _ _)
  · have HR := Lib.hid (show decide (1 ≤ r ∧ r ≤ 63) = false by simp [h1])
    generalize decide (1 ≤ r ∧ r ≤ 63) = R at *
    go_enter Tryd.func57, Tryd.ntmps57
    go_wp2_with (first | ((with_reducible show wpList _ _ _ (⟨_, .binOp _ _ _ _ _, _, _, _, _⟩ :: _) _ _); (first | ((with_reducible show wpList _ _ _ (⟨_, .binOp .lss _ _ _ _, _, _, _, _⟩ :: _) _ _); refine st_lss rfl _ _ _ _ rfl _ _ _ rfl rfl (fun h_ => ?_) (fun h_ => ?_)) | ((with_reducible show wpList _ _ _ (⟨_, .binOp .leq _ _ _ _, _, _, _, _⟩ :: _) _ _); refine st_leq rfl _ _ _ _ rfl _ _ _ rfl rfl (fun h_ => ?_) (fun h_ => ?_)) | ((with_reducible show wpList _ _ _ (⟨_, .binOp .gtr _ _ _ _, _, _, _, _⟩ :: _) _ _); refine st_gtr rfl _ _ _ _ rfl _ _ _ rfl rfl (fun h_ => ?_) (fun h_ => ?_)) | ((with_reducible show wpList _ _ _ (⟨_, .binOp .geq _ _ _ _, _, _, _, _⟩ :: _) _ _); refine st_geq rfl _ _ _ _ rfl _ _ _ rfl rfl (fun h_ => ?_) (fun h_ => ?_)) | ((with_reducible show wpList _ _ _ (⟨_, .binOp .eql _ _ _ _, _, _, _, _⟩ :: _) _ _); refine st_eql rfl _ _ _ _ rfl _ _ _ rfl rfl (fun h_ => ?_) (fun h_ => ?_)) | ((with_reducible show wpList _ _ _ (⟨_, .binOp .neq _ _ _ _, _, _, _, _⟩ :: _) _ _); refine st_neq rfl _ _ _ _ rfl _ _ _ rfl rfl (fun h_ => ?_) (fun h_ => ?_))) <;> go_prune))
    go_ret
    exact Ret.mk (congrArg Value.bool HR.out.symm) (Below.refl _ _)
theorem rhas_any {w0 : World} {D : Nat → Prop} {pv : Value} {L : List (Nat × Nat)} (h : Sl w0 D 2 pv L.length (pcells L)) (hl : L.length ≤ 1000000) (a b : Int) :
    Calls Tryd.prog 87 #[pv, .int .i64 a, .int .i64 b] w0 (Ret (fun x _ => ∃ c : Bool, x = .bool c ∧ (c = true ↔ ∃ x ∈ L, a = (x.1 : Int) ∧ b = (x.2 : Int))) w0) := by
  obtain ⟨A, c, rfl, _, _⟩ := h.shape
  obtain ⟨K, kp, hS⟩ : ∃ K : (Nat → Prop) → World → Prop, (∀ D w, K D w → Sl w D 2 (.slice A L.length c) L.length (pcells L)) ∧ St w0 w0 [] K := ⟨_, fun _ _ h => h, St.start (stable_sl (by decide)) h⟩
  clear h
  go_enter Tryd.func87, Tryd.ntmps87
  go_wp2_with (first | ((with_reducible show wpList _ _ _ (⟨_, .binOp _ _ _ _ _, _, _, _, _⟩ :: _) _ _); (first | ((with_reducible show wpList _ _ _ (⟨_, .binOp .lss _ _ _ _, _, _, _, _⟩ :: _) _ _); refine st_lss rfl _ _ _ _ rfl _ _ _ rfl rfl (fun h_ => ?_) (fun h_ => ?_)) | ((with_reducible show wpList _ _ _ (⟨_, .binOp .leq _ _ _ _, _, _, _, _⟩ :: _) _ _); refine st_leq rfl _ _ _ _ rfl _ _ _ rfl rfl (fun h_ => ?_) (fun h_ => ?_)) | ((with_reducible show wpList _ _ _ (⟨_, .binOp .gtr _ _ _ _, _, _, _, _⟩ :: _) _ _); refine st_gtr rfl _ _ _ _ rfl _ _ _ rfl rfl (fun h_ => ?_) (fun h_ => ?_)) | ((with_reducible show wpList _ _ _ (⟨_, .binOp .geq _ _ _ _, _, _, _, _⟩ :: _) _ _); refine st_geq rfl _ _ _ _ rfl _ _ _ rfl rfl (fun h_ => ?_) (fun h_ => ?_)) | ((with_reducible show wpList _ _ _ (⟨_, .binOp .eql _ _ _ _, _, _, _, _⟩ :: _) _ _); refine st_eql rfl _ _ _ _ rfl _ _ _ rfl rfl (fun h_ => ?_) (fun h_ => ?_)) | ((with_reducible show wpList _ _ _ (⟨_, .binOp .neq _ _ _ _, _, _, _, _⟩ :: _) _ _); refine st_neq rfl _ _ _ _ rfl _ _ _ rfl rfl (fun h_ => ?_) (fun h_ => ?_))) <;> go_prune))
  go_loopw [11] (fun i wr => ∃ j : Nat, j ≤ L.length ∧ i = .int .i64 j ∧ Hid (∀ t, t < j → ¬ (a = ((L.getD t (0, 0)).1 : Int) ∧ b = ((L.getD t (0, 0)).2 : Int))) ∧ St w0 wr [] K) (fun i _ => L.length - (intOf i).toNat)
  case atStart => exact ⟨0, by omega, rfl, Lib.hid (fun t h => absurd h (by omega)), hS⟩
  case round =>
    clear hS
    obtain ⟨j, hj, rfl, HJ, hS⟩ := hrel
    by_cases hlj : j < L.length
    · obtain ⟨f1, f2⟩ := pcells_at L j hlj
      have hm : Hid (L.getD j (0, 0) ∈ L) := Lib.hid (by rw [List.getD_eq_getElem?_getD, List.getElem?_eq_getElem hlj]; exact List.getElem_mem hlj)
      have HJ2 : Hid (¬ (a = ((L.getD j (0, 0)).1 : Int) ∧ b = ((L.getD j (0, 0)).2 : Int)) → ∀ t, t < j + 1 → ¬ (a = ((L.getD t (0, 0)).1 : Int) ∧ b = ((L.getD t (0, 0)).2 : Int))) := Lib.hid fun h t ht => if e : t = j then e ▸ h else HJ.out t (by omega)
      generalize L.getD j (0, 0) = x at *
      obtain ⟨xa, xb⟩ := x
      dsimp only at f1 f2 HJ2
      by_cases hx : a = (xa : Int)
      · by_cases hy : b = (xb : Int)
        · subst hx hy
          go_wp2_with (first
            | ((with_reducible show wpList _ _ _ (⟨_, .binOp _ _ _ _ _, _, _, _, _⟩ :: _) _ _); (first | ((with_reducible show wpList _ _ _ (⟨_, .binOp .lss _ _ _ _, _, _, _, _⟩ :: _) _ _); refine st_lss rfl _ _ _ _ rfl _ _ _ rfl rfl (fun h_ => ?_) (fun h_ => ?_)) | ((with_reducible show wpList _ _ _ (⟨_, .binOp .leq _ _ _ _, _, _, _, _⟩ :: _) _ _); refine st_leq rfl _ _ _ _ rfl _ _ _ rfl rfl (fun h_ => ?_) (fun h_ => ?_)) | ((with_reducible show wpList _ _ _ (⟨_, .binOp .gtr _ _ _ _, _, _, _, _⟩ :: _) _ _); refine st_gtr rfl _ _ _ _ rfl _ _ _ rfl rfl (fun h_ => ?_) (fun h_ => ?_)) | ((with_reducible show wpList _ _ _ (⟨_, .binOp .geq _ _ _ _, _, _, _, _⟩ :: _) _ _); refine st_geq rfl _ _ _ _ rfl _ _ _ rfl rfl (fun h_ => ?_) (fun h_ => ?_)) | ((with_reducible show wpList _ _ _ (⟨_, .binOp .eql _ _ _ _, _, _, _, _⟩ :: _) _ _); refine st_eql rfl _ _ _ _ rfl _ _ _ rfl rfl (fun h_ => ?_) (fun h_ => ?_)) | ((with_reducible show wpList _ _ _ (⟨_, .binOp .neq _ _ _ _, _, _, _, _⟩ :: _) _ _); refine st_neq rfl _ _ _ _ rfl _ _ _ rfl rfl (fun h_ => ?_) (fun h_ => ?_))) <;> go_prune)
            | ((with_reducible show wpList _ _ _ (⟨_, .indexAddr _ _ _, _, _, _, _⟩ :: _) _ _); refine st_iaddr2 hS rfl _ _ _ rfl _ rfl rfl (by assumption) Tryd.underlying25 (by kernel_rfl) (by first | assumption | omega) _ _ (by assumption) (by assumption) ?_; intro b_ j_ hc0_ hc1_)
            | ((with_reducible show wpList _ _ _ (⟨some 8, _, _, _, _, _⟩ :: _) _ _); refine st_alloc hS rfl _ rfl (by kernel_rfl) ?_; clear hS; intro g4 w_ hS; (try simp only [Act.put, Act.eval, List.set_cons_zero, List.set_cons_succ, List.setIfInBounds_toArray, Array.getD_eq_getD_getElem?, List.getElem?_toArray, List.getElem?_cons_succ, List.getElem?_cons_zero, Option.getD_some, Value.cells] at hS))
            | ((with_reducible show wpList _ _ _ (⟨_, .store _ _ _, _, _, _, _⟩ :: _) _ _); first | (refine st_store hS 0 rfl _ _ _ rfl _ _ rfl rfl _ _ rfl (by kernel_rfl) (by kernel_rfl) (by kernel_rfl) ?_; clear hS; intro w_ hS; (try simp only [Act.put, Act.eval, List.set_cons_zero, List.set_cons_succ, List.setIfInBounds_toArray, Array.getD_eq_getD_getElem?, List.getElem?_toArray, List.getElem?_cons_succ, List.getElem?_cons_zero, Option.getD_some, Value.cells] at hS)) | (refine st_store hS 1 rfl _ _ _ rfl _ _ rfl rfl _ _ rfl (by kernel_rfl) (by kernel_rfl) (by kernel_rfl) ?_; clear hS; intro w_ hS; (try simp only [Act.put, Act.eval, List.set_cons_zero, List.set_cons_succ, List.setIfInBounds_toArray, Array.getD_eq_getD_getElem?, List.getElem?_toArray, List.getElem?_cons_succ, List.getElem?_cons_zero, Option.getD_some, Value.cells] at hS)) | (refine st_store hS 2 rfl _ _ _ rfl _ _ rfl rfl _ _ rfl (by kernel_rfl) (by kernel_rfl) (by kernel_rfl) ?_; clear hS; intro w_ hS; (try simp only [Act.put, Act.eval, List.set_cons_zero, List.set_cons_succ, List.setIfInBounds_toArray, Array.getD_eq_getD_getElem?, List.getElem?_toArray, List.getElem?_cons_succ, List.getElem?_cons_zero, Option.getD_some, Value.cells] at hS)) | (refine st_store hS 3 rfl _ _ _ rfl _ _ rfl rfl _ _ rfl (by kernel_rfl) (by kernel_rfl) (by kernel_rfl) ?_; clear hS; intro w_ hS; (try simp only [Act.put, Act.eval, List.set_cons_zero, List.set_cons_succ, List.setIfInBounds_toArray, Array.getD_eq_getD_getElem?, List.getElem?_toArray, List.getElem?_cons_succ, List.getElem?_cons_zero, Option.getD_some, Value.cells] at hS)) | (refine st_cstore hS 0 rfl _ _ _ rfl _ _ _ rfl rfl rfl (by first | (simp; done) | (simp; omega) | exact of_decide_eq_true (by kernel_rfl)) rfl (by first | rfl | assumption) (by kernel_rfl) ?_; clear hS; intro w_ hS; (try simp only [Act.put, Act.eval, List.set_cons_zero, List.set_cons_succ, List.setIfInBounds_toArray, Array.getD_eq_getD_getElem?, List.getElem?_toArray, List.getElem?_cons_succ, List.getElem?_cons_zero, Option.getD_some, Value.cells] at hS)) | (refine st_cstore hS 1 rfl _ _ _ rfl _ _ _ rfl rfl rfl (by first | (simp; done) | (simp; omega) | exact of_decide_eq_true (by kernel_rfl)) rfl (by first | rfl | assumption) (by kernel_rfl) ?_; clear hS; intro w_ hS; (try simp only [Act.put, Act.eval, List.set_cons_zero, List.set_cons_succ, List.setIfInBounds_toArray, Array.getD_eq_getD_getElem?, List.getElem?_toArray, List.getElem?_cons_succ, List.getElem?_cons_zero, Option.getD_some, Value.cells] at hS)) | (refine st_cstore hS 2 rfl _ _ _ rfl _ _ _ rfl rfl rfl (by first | (simp; done) | (simp; omega) | exact of_decide_eq_true (by kernel_rfl)) rfl (by first | rfl | assumption) (by kernel_rfl) ?_; clear hS; intro w_ hS; (try simp only [Act.put, Act.eval, List.set_cons_zero, List.set_cons_succ, List.setIfInBounds_toArray, Array.getD_eq_getD_getElem?, List.getElem?_toArray, List.getElem?_cons_succ, List.getElem?_cons_zero, Option.getD_some, Value.cells] at hS)) | (refine st_cstore hS 3 rfl _ _ _ rfl _ _ _ rfl rfl rfl (by first | (simp; done) | (simp; omega) | exact of_decide_eq_true (by kernel_rfl)) rfl (by first | rfl | assumption) (by kernel_rfl) ?_; clear hS; intro w_ hS; (try simp only [Act.put, Act.eval, List.set_cons_zero, List.set_cons_succ, List.setIfInBounds_toArray, Array.getD_eq_getD_getElem?, List.getElem?_toArray, List.getElem?_cons_succ, List.getElem?_cons_zero, Option.getD_some, Value.cells] at hS)))
            | ((with_reducible show wpList _ _ _ (⟨_, .load _ _, _, _, _, _⟩ :: _) _ _); first | (refine st_cell hS 0 rfl _ _ rfl _ _ rfl _ _ rfl (by decide +kernel) _ (by first | assumption | rfl) ?_) | (refine st_cell hS 1 rfl _ _ rfl _ _ rfl _ _ rfl (by decide +kernel) _ (by first | assumption | rfl) ?_) | (refine st_cell hS 2 rfl _ _ rfl _ _ rfl _ _ rfl (by decide +kernel) _ (by first | assumption | rfl) ?_) | (refine st_cell hS 3 rfl _ _ rfl _ _ rfl _ _ rfl (by decide +kernel) _ (by first | assumption | rfl) ?_) | (refine st_cell hS 4 rfl _ _ rfl _ _ rfl _ _ rfl (by decide +kernel) _ (by first | assumption | rfl) ?_) | (refine st_cell hS 5 rfl _ _ rfl _ _ rfl _ _ rfl (by decide +kernel) _ (by first | assumption | rfl) ?_) | (refine st_cell hS 6 rfl _ _ rfl _ _ rfl _ _ rfl (by decide +kernel) _ (by first | assumption | rfl) ?_) | (refine st_cell hS 7 rfl _ _ rfl _ _ rfl _ _ rfl (by decide +kernel) _ (by first | assumption | rfl) ?_)))
          go_ret
          exact Ret.mk (v := .bool true) (by first | exact ⟨true, rfl, fun _ => ⟨_, hm.out, rfl, rfl⟩, fun _ => rfl⟩ | exact .inr ⟨rfl, _, _, hm.out, rfl, rfl⟩) hS.below
        · have HJ3 := Lib.hid (HJ2.out fun h => hy h.2)
          subst hx
          clear HJ2
          have hy' : ¬ ((xb : Nat) : Int) = b := fun e => hy e.symm
          go_wp2_with (first
            | ((with_reducible show wpList _ _ _ (⟨_, .binOp _ _ _ _ _, _, _, _, _⟩ :: _) _ _); (first | ((with_reducible show wpList _ _ _ (⟨_, .binOp .lss _ _ _ _, _, _, _, _⟩ :: _) _ _); refine st_lss rfl _ _ _ _ rfl _ _ _ rfl rfl (fun h_ => ?_) (fun h_ => ?_)) | ((with_reducible show wpList _ _ _ (⟨_, .binOp .leq _ _ _ _, _, _, _, _⟩ :: _) _ _); refine st_leq rfl _ _ _ _ rfl _ _ _ rfl rfl (fun h_ => ?_) (fun h_ => ?_)) | ((with_reducible show wpList _ _ _ (⟨_, .binOp .gtr _ _ _ _, _, _, _, _⟩ :: _) _ _); refine st_gtr rfl _ _ _ _ rfl _ _ _ rfl rfl (fun h_ => ?_) (fun h_ => ?_)) | ((with_reducible show wpList _ _ _ (⟨_, .binOp .geq _ _ _ _, _, _, _, _⟩ :: _) _ _); refine st_geq rfl _ _ _ _ rfl _ _ _ rfl rfl (fun h_ => ?_) (fun h_ => ?_)) | ((with_reducible show wpList _ _ _ (⟨_, .binOp .eql _ _ _ _, _, _, _, _⟩ :: _) _ _); refine st_eql rfl _ _ _ _ rfl _ _ _ rfl rfl (fun h_ => ?_) (fun h_ => ?_)) | ((with_reducible show wpList _ _ _ (⟨_, .binOp .neq _ _ _ _, _, _, _, _⟩ :: _) _ _); refine st_neq rfl _ _ _ _ rfl _ _ _ rfl rfl (fun h_ => ?_) (fun h_ => ?_))) <;> go_prune)
            | ((with_reducible show wpList _ _ _ (⟨_, .indexAddr _ _ _, _, _, _, _⟩ :: _) _ _); refine st_iaddr2 hS rfl _ _ _ rfl _ rfl rfl (by assumption) Tryd.underlying25 (by kernel_rfl) (by first | assumption | omega) _ _ (by assumption) (by assumption) ?_; intro b_ j_ hc0_ hc1_)
            | ((with_reducible show wpList _ _ _ (⟨some 8, _, _, _, _, _⟩ :: _) _ _); refine st_alloc hS rfl _ rfl (by kernel_rfl) ?_; clear hS; intro g4 w_ hS; (try simp only [Act.put, Act.eval, List.set_cons_zero, List.set_cons_succ, List.setIfInBounds_toArray, Array.getD_eq_getD_getElem?, List.getElem?_toArray, List.getElem?_cons_succ, List.getElem?_cons_zero, Option.getD_some, Value.cells] at hS))
            | ((with_reducible show wpList _ _ _ (⟨_, .store _ _ _, _, _, _, _⟩ :: _) _ _); first | (refine st_store hS 0 rfl _ _ _ rfl _ _ rfl rfl _ _ rfl (by kernel_rfl) (by kernel_rfl) (by kernel_rfl) ?_; clear hS; intro w_ hS; (try simp only [Act.put, Act.eval, List.set_cons_zero, List.set_cons_succ, List.setIfInBounds_toArray, Array.getD_eq_getD_getElem?, List.getElem?_toArray, List.getElem?_cons_succ, List.getElem?_cons_zero, Option.getD_some, Value.cells] at hS)) | (refine st_store hS 1 rfl _ _ _ rfl _ _ rfl rfl _ _ rfl (by kernel_rfl) (by kernel_rfl) (by kernel_rfl) ?_; clear hS; intro w_ hS; (try simp only [Act.put, Act.eval, List.set_cons_zero, List.set_cons_succ, List.setIfInBounds_toArray, Array.getD_eq_getD_getElem?, List.getElem?_toArray, List.getElem?_cons_succ, List.getElem?_cons_zero, Option.getD_some, Value.cells] at hS)) | (refine st_store hS 2 rfl _ _ _ rfl _ _ rfl rfl _ _ rfl (by kernel_rfl) (by kernel_rfl) (by kernel_rfl) ?_; clear hS; intro w_ hS; (try simp only [Act.put, Act.eval, List.set_cons_zero, List.set_cons_succ, List.setIfInBounds_toArray, Array.getD_eq_getD_getElem?, List.getElem?_toArray, List.getElem?_cons_succ, List.getElem?_cons_zero, Option.getD_some, Value.cells] at hS)) | (refine st_store hS 3 rfl _ _ _ rfl _ _ rfl rfl _ _ rfl (by kernel_rfl) (by kernel_rfl) (by kernel_rfl) ?_; clear hS; intro w_ hS; (try simp only [Act.put, Act.eval, List.set_cons_zero, List.set_cons_succ, List.setIfInBounds_toArray, Array.getD_eq_getD_getElem?, List.getElem?_toArray, List.getElem?_cons_succ, List.getElem?_cons_zero, Option.getD_some, Value.cells] at hS)) | (refine st_cstore hS 0 rfl _ _ _ rfl _ _ _ rfl rfl rfl (by first | (simp; done) | (simp; omega) | exact of_decide_eq_true (by kernel_rfl)) rfl (by first | rfl | assumption) (by kernel_rfl) ?_; clear hS; intro w_ hS; (try simp only [Act.put, Act.eval, List.set_cons_zero, List.set_cons_succ, List.setIfInBounds_toArray, Array.getD_eq_getD_getElem?, List.getElem?_toArray, List.getElem?_cons_succ, List.getElem?_cons_zero, Option.getD_some, Value.cells] at hS)) | (refine st_cstore hS 1 rfl _ _ _ rfl _ _ _ rfl rfl rfl (by first | (simp; done) | (simp; omega) | exact of_decide_eq_true (by kernel_rfl)) rfl (by first | rfl | assumption) (by kernel_rfl) ?_; clear hS; intro w_ hS; (try simp only [Act.put, Act.eval, List.set_cons_zero, List.set_cons_succ, List.setIfInBounds_toArray, Array.getD_eq_getD_getElem?, List.getElem?_toArray, List.getElem?_cons_succ, List.getElem?_cons_zero, Option.getD_some, Value.cells] at hS)) | (refine st_cstore hS 2 rfl _ _ _ rfl _ _ _ rfl rfl rfl (by first | (simp; done) | (simp; omega) | exact of_decide_eq_true (by kernel_rfl)) rfl (by first | rfl | assumption) (by kernel_rfl) ?_; clear hS; intro w_ hS; (try simp only [Act.put, Act.eval, List.set_cons_zero, List.set_cons_succ, List.setIfInBounds_toArray, Array.getD_eq_getD_getElem?, List.getElem?_toArray, List.getElem?_cons_succ, List.getElem?_cons_zero, Option.getD_some, Value.cells] at hS)) | (refine st_cstore hS 3 rfl _ _ _ rfl _ _ _ rfl rfl rfl (by first | (simp; done) | (simp; omega) | exact of_decide_eq_true (by kernel_rfl)) rfl (by first | rfl | assumption) (by kernel_rfl) ?_; clear hS; intro w_ hS; (try simp only [Act.put, Act.eval, List.set_cons_zero, List.set_cons_succ, List.setIfInBounds_toArray, Array.getD_eq_getD_getElem?, List.getElem?_toArray, List.getElem?_cons_succ, List.getElem?_cons_zero, Option.getD_some, Value.cells] at hS)))
            | ((with_reducible show wpList _ _ _ (⟨_, .load _ _, _, _, _, _⟩ :: _) _ _); first | (refine st_cell hS 0 rfl _ _ rfl _ _ rfl _ _ rfl (by decide +kernel) _ (by first | assumption | rfl) ?_) | (refine st_cell hS 1 rfl _ _ rfl _ _ rfl _ _ rfl (by decide +kernel) _ (by first | assumption | rfl) ?_) | (refine st_cell hS 2 rfl _ _ rfl _ _ rfl _ _ rfl (by decide +kernel) _ (by first | assumption | rfl) ?_) | (refine st_cell hS 3 rfl _ _ rfl _ _ rfl _ _ rfl (by decide +kernel) _ (by first | assumption | rfl) ?_) | (refine st_cell hS 4 rfl _ _ rfl _ _ rfl _ _ rfl (by decide +kernel) _ (by first | assumption | rfl) ?_) | (refine st_cell hS 5 rfl _ _ rfl _ _ rfl _ _ rfl (by decide +kernel) _ (by first | assumption | rfl) ?_) | (refine st_cell hS 6 rfl _ _ rfl _ _ rfl _ _ rfl (by decide +kernel) _ (by first | assumption | rfl) ?_) | (refine st_cell hS 7 rfl _ _ rfl _ _ rfl _ _ rfl (by decide +kernel) _ (by first | assumption | rfl) ?_)))
          exact ⟨⟨j + 1, hlj, by go_num, HJ3, hS.sub (List.sublist_cons_self _ _)⟩, by simp [intOf]; omega⟩
      · have HJ3 := Lib.hid (HJ2.out fun h => hx h.1)
        clear HJ2
        have hx' : ¬ ((xa : Nat) : Int) = a := fun e => hx e.symm
        go_wp2_with (first
          | ((with_reducible show wpList _ _ _ (⟨_, .binOp _ _ _ _ _, _, _, _, _⟩ :: _) _ _); (first | ((with_reducible show wpList _ _ _ (⟨_, .binOp .lss _ _ _ _, _, _, _, _⟩ :: _) _ _); refine st_lss rfl _ _ _ _ rfl _ _ _ rfl rfl (fun h_ => ?_) (fun h_ => ?_)) | ((with_reducible show wpList _ _ _ (⟨_, .binOp .leq _ _ _ _, _, _, _, _⟩ :: _) _ _); refine st_leq rfl _ _ _ _ rfl _ _ _ rfl rfl (fun h_ => ?_) (fun h_ => ?_)) | ((with_reducible show wpList _ _ _ (⟨_, .binOp .gtr _ _ _ _, _, _, _, _⟩ :: _) _ _); refine st_gtr rfl _ _ _ _ rfl _ _ _ rfl rfl (fun h_ => ?_) (fun h_ => ?_)) | ((with_reducible show wpList _ _ _ (⟨_, .binOp .geq _ _ _ _, _, _, _, _⟩ :: _) _ _); refine st_geq rfl _ _ _ _ rfl _ _ _ rfl rfl (fun h_ => ?_) (fun h_ => ?_)) | ((with_reducible show wpList _ _ _ (⟨_, .binOp .eql _ _ _ _, _, _, _, _⟩ :: _) _ _); refine st_eql rfl _ _ _ _ rfl _ _ _ rfl rfl (fun h_ => ?_) (fun h_ => ?_)) | ((with_reducible show wpList _ _ _ (⟨_, .binOp .neq _ _ _ _, _, _, _, _⟩ :: _) _ _); refine st_neq rfl _ _ _ _ rfl _ _ _ rfl rfl (fun h_ => ?_) (fun h_ => ?_))) <;> go_prune)
          | ((with_reducible show wpList _ _ _ (⟨_, .indexAddr _ _ _, _, _, _, _⟩ :: _) _ _); refine st_iaddr2 hS rfl _ _ _ rfl _ rfl rfl (by assumption) Tryd.underlying25 (by kernel_rfl) (by first | assumption | omega) _ _ (by assumption) (by assumption) ?_; intro b_ j_ hc0_ hc1_)
          | ((with_reducible show wpList _ _ _ (⟨some 8, _, _, _, _, _⟩ :: _) _ _); refine st_alloc hS rfl _ rfl (by kernel_rfl) ?_; clear hS; intro g4 w_ hS; (try simp only [Act.put, Act.eval, List.set_cons_zero, List.set_cons_succ, List.setIfInBounds_toArray, Array.getD_eq_getD_getElem?, List.getElem?_toArray, List.getElem?_cons_succ, List.getElem?_cons_zero, Option.getD_some, Value.cells] at hS))
          | ((with_reducible show wpList _ _ _ (⟨_, .store _ _ _, _, _, _, _⟩ :: _) _ _); first | (refine st_store hS 0 rfl _ _ _ rfl _ _ rfl rfl _ _ rfl (by kernel_rfl) (by kernel_rfl) (by kernel_rfl) ?_; clear hS; intro w_ hS; (try simp only [Act.put, Act.eval, List.set_cons_zero, List.set_cons_succ, List.setIfInBounds_toArray, Array.getD_eq_getD_getElem?, List.getElem?_toArray, List.getElem?_cons_succ, List.getElem?_cons_zero, Option.getD_some, Value.cells] at hS)) | (refine st_store hS 1 rfl _ _ _ rfl _ _ rfl rfl _ _ rfl (by kernel_rfl) (by kernel_rfl) (by kernel_rfl) ?_; clear hS; intro w_ hS; (try simp only [Act.put, Act.eval, List.set_cons_zero, List.set_cons_succ, List.setIfInBounds_toArray, Array.getD_eq_getD_getElem?, List.getElem?_toArray, List.getElem?_cons_succ, List.getElem?_cons_zero, Option.getD_some, Value.cells] at hS)) | (refine st_store hS 2 rfl _ _ _ rfl _ _ rfl rfl _ _ rfl (by kernel_rfl) (by kernel_rfl) (by kernel_rfl) ?_; clear hS; intro w_ hS; (try simp only [Act.put, Act.eval, List.set_cons_zero, List.set_cons_succ, List.setIfInBounds_toArray, Array.getD_eq_getD_getElem?, List.getElem?_toArray, List.getElem?_cons_succ, List.getElem?_cons_zero, Option.getD_some, Value.cells] at hS)) | (refine st_store hS 3 rfl _ _ _ rfl _ _ rfl rfl _ _ rfl (by kernel_rfl) (by kernel_rfl) (by kernel_rfl) ?_; clear hS; intro w_ hS; (try simp only [Act.put, Act.eval, List.set_cons_zero, List.set_cons_succ, List.setIfInBounds_toArray, Array.getD_eq_getD_getElem?, List.getElem?_toArray, List.getElem?_cons_succ, List.getElem?_cons_zero, Option.getD_some, Value.cells] at hS)) | (refine st_cstore hS 0 rfl _ _ _ rfl _ _ _ rfl rfl rfl (by first | (simp; done) | (simp; omega) | exact of_decide_eq_true (by kernel_rfl)) rfl (by first | rfl | assumption) (by kernel_rfl) ?_; clear hS; intro w_ hS; (try simp only [Act.put, Act.eval, List.set_cons_zero, List.set_cons_succ, List.setIfInBounds_toArray, Array.getD_eq_getD_getElem?, List.getElem?_toArray, List.getElem?_cons_succ, List.getElem?_cons_zero, Option.getD_some, Value.cells] at hS)) | (refine st_cstore hS 1 rfl _ _ _ rfl _ _ _ rfl rfl rfl (by first | (simp; done) | (simp; omega) | exact of_decide_eq_true (by kernel_rfl)) rfl (by first | rfl | assumption) (by kernel_rfl) ?_; clear hS; intro w_ hS; (try simp only [Act.put, Act.eval, List.set_cons_zero, List.set_cons_succ, List.setIfInBounds_toArray, Array.getD_eq_getD_getElem?, List.getElem?_toArray, List.getElem?_cons_succ, List.getElem?_cons_zero, Option.getD_some, Value.cells] at hS)) | (refine st_cstore hS 2 rfl _ _ _ rfl _ _ _ rfl rfl rfl (by first | (simp; done) | (simp; omega) | exact of_decide_eq_true (by kernel_rfl)) rfl (by first | rfl | assumption) (by kernel_rfl) ?_; clear hS; intro w_ hS; (try simp only [Act.put, Act.eval, List.set_cons_zero, List.set_cons_succ, List.setIfInBounds_toArray, Array.getD_eq_getD_getElem?, List.getElem?_toArray, List.getElem?_cons_succ, List.getElem?_cons_zero, Option.getD_some, Value.cells] at hS)) | (refine st_cstore hS 3 rfl _ _ _ rfl _ _ _ rfl rfl rfl (by first | (simp; done) | (simp; omega) | exact of_decide_eq_true (by kernel_rfl)) rfl (by first | rfl | assumption) (by kernel_rfl) ?_; clear hS; intro w_ hS; (try simp only [Act.put, Act.eval, List.set_cons_zero, List.set_cons_succ, List.setIfInBounds_toArray, Array.getD_eq_getD_getElem?, List.getElem?_toArray, List.getElem?_cons_succ, List.getElem?_cons_zero, Option.getD_some, Value.cells] at hS)))
          | ((with_reducible show wpList _ _ _ (⟨_, .load _ _, _, _, _, _⟩ :: _) _ _); first | (refine st_cell hS 0 rfl _ _ rfl _ _ rfl _ _ rfl (by decide +kernel) _ (by first | assumption | rfl) ?_) | (refine st_cell hS 1 rfl _ _ rfl _ _ rfl _ _ rfl (by decide +kernel) _ (by first | assumption | rfl) ?_) | (refine st_cell hS 2 rfl _ _ rfl _ _ rfl _ _ rfl (by decide +kernel) _ (by first | assumption | rfl) ?_) | (refine st_cell hS 3 rfl _ _ rfl _ _ rfl _ _ rfl (by decide +kernel) _ (by first | assumption | rfl) ?_) | (refine st_cell hS 4 rfl _ _ rfl _ _ rfl _ _ rfl (by decide +kernel) _ (by first | assumption | rfl) ?_) | (refine st_cell hS 5 rfl _ _ rfl _ _ rfl _ _ rfl (by decide +kernel) _ (by first | assumption | rfl) ?_) | (refine st_cell hS 6 rfl _ _ rfl _ _ rfl _ _ rfl (by decide +kernel) _ (by first | assumption | rfl) ?_) | (refine st_cell hS 7 rfl _ _ rfl _ _ rfl _ _ rfl (by decide +kernel) _ (by first | assumption | rfl) ?_)))
        exact ⟨⟨j + 1, hlj, by go_num, HJ3, hS.sub (List.sublist_cons_self _ _)⟩, by simp [intOf]; omega⟩
    · obtain rfl : j = L.length := by omega
      have HN : Hid (¬ ∃ x ∈ L, a = (x.1 : Int) ∧ b = (x.2 : Int)) := Lib.hid fun ⟨x, hx, h⟩ => by
        obtain ⟨k, hk, e⟩ := List.getElem_of_mem hx
        refine HJ.out k hk ?_
        rw [List.getD_eq_getElem?_getD, List.getElem?_eq_getElem hk, Option.getD_some, e]
        exact h
      go_wp2_with (first | ((with_reducible show wpList _ _ _ (⟨_, .binOp _ _ _ _ _, _, _, _, _⟩ :: _) _ _); (first | ((with_reducible show wpList _ _ _ (⟨_, .binOp .lss _ _ _ _, _, _, _, _⟩ :: _) _ _); refine st_lss rfl _ _ _ _ rfl _ _ _ rfl rfl (fun h_ => ?_) (fun h_ => ?_)) | ((with_reducible show wpList _ _ _ (⟨_, .binOp .leq _ _ _ _, _, _, _, _⟩ :: _) _ _); refine st_leq rfl _ _ _ _ rfl _ _ _ rfl rfl (fun h_ => ?_) (fun h_ => ?_)) | ((with_reducible show wpList _ _ _ (⟨_, .binOp .gtr _ _ _ _, _, _, _, _⟩ :: _) _ _); refine st_gtr rfl _ _ _ _ rfl _ _ _ rfl rfl (fun h_ => ?_) (fun h_ => ?_)) | ((with_reducible show wpList _ _ _ (⟨_, .binOp .geq _ _ _ _, _, _, _, _⟩ :: _) _ _); refine st_geq rfl _ _ _ _ rfl _ _ _ rfl rfl (fun h_ => ?_) (fun h_ => ?_)) | ((with_reducible show wpList _ _ _ (⟨_, .binOp .eql _ _ _ _, _, _, _, _⟩ :: _) _ _); refine st_eql rfl _ _ _ _ rfl _ _ _ rfl rfl (fun h_ => ?_) (fun h_ => ?_)) | ((with_reducible show wpList _ _ _ (⟨_, .binOp .neq _ _ _ _, _, _, _, _⟩ :: _) _ _); refine st_neq rfl _ _ _ _ rfl _ _ _ rfl rfl (fun h_ => ?_) (fun h_ => ?_))) <;> go_prune))
      go_ret
      exact Ret.mk (v := .bool false) (by first | exact ⟨false, rfl, fun h => by simp at h, fun h => absurd h HN.out⟩ | exact .inl ⟨rfl, by simpa using HN.out⟩) hS.below
end Go.Proofs.YtmlkgaiphpimiaaDoor
namespace Go.Proofs.YtmlkgaiphpimiaaDoor
open Go.RowKit
attribute [local go_sem ↓] Go.wp_at_zero Go.wp_at_succ
set_option maxRecDepth 20000

/-- a word shifted down; its lowest bit -/
def shrN (s r : Nat) : Nat := s / 2 ^ r
def rem2 (m : Nat) : Nat := m % 2
theorem bit_of {s r : Nat} : rem2 (shrN s r) = if s.testBit r then 1 else 0 := by
  unfold rem2 shrN
  rw [Nat.testBit_eq_decide_div_mod_eq]
  by_cases h : s / 2 ^ r % 2 = 1
  · simp [h]
  · have : s / 2 ^ r % 2 = 0 := by omega
    simp [this]
theorem pow_lt_64 {r : Nat} (h : r < 64) : 2 ^ r < T64 := by rw [T64_eq]; exact Nat.pow_lt_pow_right (by decide) h
section
variable {P : Program} {ops : Array Oper} {rest : List Oper} {o : Oper} {a : Act} {w : World} {Q : Exit → Act → World → Prop}
theorem st_shrN (hg : Region.wanted o (yielded ops a.tmps) = true) (t t2 : TypeId) (x y : Operand) (ho : o.op = .binOp .shr t x y t2) (s r : Nat) (hx : a.eval x = .int .u64 (s : Nat)) (hy : a.eval y = .int .i64 (r : Nat)) (hr : r ≤ 64)
    (hk : wpList P ops Q rest (a.put o.dst (.int .u64 (shrN s r : Nat))) w) : wpList P ops Q (o :: rest) a w := by
  refine BigFrame.wpList_want hg fun _ hK => opw_bin (v := .int .u64 (shrN s r : Nat)) ho hx hy (by simp [eqGuard]) ?_ (hK _ _ hk)
  rw [binOp_shr, shift_shr _ _ _ _ (by omega) (by show (r : Int) ≤ 64; omega)]
  simp [shrN]
theorem st_rem2 (hg : Region.wanted o (yielded ops a.tmps) = true) (t t2 : TypeId) (x y : Operand) (ho : o.op = .binOp .rem t x y t2) (m : Nat) (hx : a.eval x = .int .u64 (m : Nat)) (hy : a.eval y = .int .u64 2)
    (hk : wpList P ops Q rest (a.put o.dst (.int .u64 (rem2 m : Nat))) w) : wpList P ops Q (o :: rest) a w := by
  refine BigFrame.wpList_want hg fun _ hK => opw_bin (v := .int .u64 (rem2 m : Nat)) ho hx hy (by simp [eqGuard]) ?_ (hK _ _ hk)
  go_simp
  exact tmod_nat m 2
theorem st_btest (hg : Region.wanted o (yielded ops a.tmps) = true) (t t2 : TypeId) (x y : Operand) (ho : o.op = .binOp .eql t x y t2) (s r : Nat) (hx : a.eval x = .int .u64 (rem2 (shrN s r) : Nat)) (hy : a.eval y = .int .u64 1) {b : Bool} (hb : s.testBit r = b)
    (hk : wpList P ops Q rest (a.put o.dst (.bool b)) w) : wpList P ops Q (o :: rest) a w := by
  refine BigFrame.wpList_want hg fun _ hK => opw_bin (v := .bool b) ho hx hy (by simp [eqGuard]) ?_ (hK _ _ hk)
  rw [binOp_eql, bit_of, hb]
  cases b <;> simp
theorem st_shl1 (hg : Region.wanted o (yielded ops a.tmps) = true) (t t2 : TypeId) (x y : Operand) (ho : o.op = .binOp .shl t x y t2) (r : Nat) (hx : a.eval x = .int .u64 1) (hy : a.eval y = .int .i64 (r : Nat)) (hr : r < 64)
    (hk : wpList P ops Q rest (a.put o.dst (.int .u64 (2 ^ r : Nat))) w) : wpList P ops Q (o :: rest) a w := by
  have h := run_shl1 (P := P) (w := w) (t := t) (r := r) (e := (r : Nat)) (by rw [Nat.mod_eq_of_lt hr])
  rw [Nat.mod_eq_of_lt hr] at h
  exact BigFrame.wpList_want hg fun _ hK => opw_bin (v := .int .u64 (2 ^ r : Nat)) ho hx hy (by simp [eqGuard]) h (hK _ _ hk)
theorem st_orN (hg : Region.wanted o (yielded ops a.tmps) = true) (t t2 : TypeId) (x y : Operand) (ho : o.op = .binOp .or t x y t2) (m n : Nat) (hx : a.eval x = .int .u64 (m : Nat)) (hy : a.eval y = .int .u64 (n : Nat)) (hm : m < T64) (hn : n < T64)
    (hk : wpList P ops Q rest (a.put o.dst (.int .u64 (m ||| n : Nat))) w) : wpList P ops Q (o :: rest) a w :=
  BigFrame.wpList_want hg fun _ hK => opw_bin (v := .int .u64 (m ||| n : Nat)) ho hx hy (by simp [eqGuard]) (run_or64' hm hn) (hK _ _ hk)
end
end Go.Proofs.YtmlkgaiphpimiaaDoor
namespace Go.Proofs.YtmlkgaiphpimiaaDoor
open Go.RowKit
attribute [local go_sem ↓] Go.wp_at_zero Go.wp_at_succ
set_option maxRecDepth 20000
set_option exponentiation.threshold 5000

/-- r implies s -/
def implR (L : List (Nat × Nat)) (r s : Int) : Prop := ∃ i j : Nat, r = (i : Int) ∧ s = (j : Int) ∧ (1 ≤ i ∧ i < 64) ∧ (1 ≤ j ∧ j < 64) ∧ (i = j ∨ TC L i j)
/-- all that r implies, for any number -/
noncomputable def junR (L : List (Nat × Nat)) (r : Int) : Nat := if 1 ≤ r ∧ r ≤ 63 then junM L r.toNat else 0
theorem rjun_any {w0 : World} {D : Nat → Prop} {pv : Value} {L : List (Nat × Nat)} (h : Sl w0 D 2 pv L.length (pcells L)) (hL : Inr 64 L) (hl : L.length ≤ 1000000) (r : Int) :
    Calls Tryd.prog 38 #[pv, .int .i64 r] w0 (Ret (fun x _ => x = .int .u64 (junR L r : Nat)) w0) := by
  obtain ⟨A, c, rfl, _, _⟩ := h.shape
  obtain ⟨K, kp, hS⟩ : ∃ K : (Nat → Prop) → World → Prop, (∀ D w, K D w → Sl w D 2 (.slice A L.length c) L.length (pcells L)) ∧ St w0 w0 [] K := ⟨_, fun _ _ h => h, St.start (stable_sl (by decide)) h⟩
  clear h
  by_cases hr : 1 ≤ r ∧ r ≤ 63
  · obtain ⟨k, rfl⟩ : ∃ k : Nat, r = (k : Int) := ⟨r.toNat, by omega⟩
    have HR := Lib.hid (decide_eq_true hr)
    have hk : k < 64 := by omega
    have HJ := Lib.hid (show junR L (k : Int) = junM L k by rw [junR, if_pos hr, Int.toNat_natCast])
    have HL := Lib.hid hL
    have H0 : Hid (JunOK L k (2 ^ k) ∧ 2 ^ k < 2 ^ 64) := Lib.hid ⟨JunOK.start L k, Nat.pow_lt_pow_right (by decide) hk⟩
    clear hr hL
    go_enter Tryd.func38, Tryd.ntmps38
    go_wp2_with (first
      | (go_at_call 57; refine (rrole_any _ _).mono ?_; rw [HR.out]; rintro r_ w_ ⟨_, rfl, rfl, hb_⟩; replace hS := hS.ext hb_; clear hb_)
      | ((with_reducible show wpList _ _ _ (⟨_, .binOp .shl _ _ _ _, _, _, _, _⟩ :: _) _ _); refine st_shl1 rfl _ _ _ _ rfl _ rfl rfl hk ?_))
    go_loopw [5] (fun v wr => ∃ s : Nat, v = .int .u64 (s : Nat) ∧ Hid (JunOK L k s ∧ s < 2 ^ 64) ∧ St w0 wr [] K) (fun v _ => outN (intOf v).toNat)
    case atStart => exact ⟨_, rfl, H0, hS⟩
    case round =>
      clear hS H0
      obtain ⟨s, rfl, HS, hS⟩ := hrel
      go_wp2_with (first | ((with_reducible show wpList _ _ _ (⟨_, .binOp _ _ _ _ _, _, _, _, _⟩ :: _) _ _); (first | ((with_reducible show wpList _ _ _ (⟨_, .binOp .lss _ _ _ _, _, _, _, _⟩ :: _) _ _); refine st_lss rfl _ _ _ _ rfl _ _ _ rfl rfl (fun h_ => ?_) (fun h_ => ?_)) | ((with_reducible show wpList _ _ _ (⟨_, .binOp .leq _ _ _ _, _, _, _, _⟩ :: _) _ _); refine st_leq rfl _ _ _ _ rfl _ _ _ rfl rfl (fun h_ => ?_) (fun h_ => ?_)) | ((with_reducible show wpList _ _ _ (⟨_, .binOp .gtr _ _ _ _, _, _, _, _⟩ :: _) _ _); refine st_gtr rfl _ _ _ _ rfl _ _ _ rfl rfl (fun h_ => ?_) (fun h_ => ?_)) | ((with_reducible show wpList _ _ _ (⟨_, .binOp .geq _ _ _ _, _, _, _, _⟩ :: _) _ _); refine st_geq rfl _ _ _ _ rfl _ _ _ rfl rfl (fun h_ => ?_) (fun h_ => ?_)) | ((with_reducible show wpList _ _ _ (⟨_, .binOp .eql _ _ _ _, _, _, _, _⟩ :: _) _ _); refine st_eql rfl _ _ _ _ rfl _ _ _ rfl rfl (fun h_ => ?_) (fun h_ => ?_)) | ((with_reducible show wpList _ _ _ (⟨_, .binOp .neq _ _ _ _, _, _, _, _⟩ :: _) _ _); refine st_neq rfl _ _ _ _ rfl _ _ _ rfl rfl (fun h_ => ?_) (fun h_ => ?_))) <;> go_prune))
      go_loopw [6, 17] (fun m i wr => ∃ j : Nat, j ≤ L.length ∧ i = .int .i64 (j : Nat) ∧ m = .int .u64 (jTo L s j : Nat) ∧ St w0 wr [] K) (fun _ i _ => L.length - (intOf i).toNat)
      case atStart => exact ⟨0, by omega, rfl, by simp [jTo], hS⟩
      case round =>
        clear hS
        obtain ⟨j, hj, rfl, rfl, hS⟩ := hrel
        by_cases hlj : j < L.length
        · obtain ⟨f1, f2⟩ := pcells_at L j hlj
          have HG := Lib.hid (getD_at (0, 0) hlj)
          have hm := HL.out (L.getD j (0, 0)) (by rw [List.getD_eq_getElem?_getD, List.getElem?_eq_getElem hlj]; exact List.getElem_mem hlj)
          have HSt := Lib.hid (jTo_step (s := s) HG.out)
          have hM : jTo L s j < T64 := by rw [T64_eq]; exact jTo_lt HL.out HS.out.2
          generalize L.getD j (0, 0) = x at *
          generalize jTo L s j = M at *
          obtain ⟨xa, xb⟩ := x
          dsimp only at f1 f2 hm HSt
          obtain ⟨hxa, hxb⟩ := hm
          cases hbit : s.testBit xa
          · rw [hbit] at HSt
            have HE := Lib.hid (HSt.out.trans (if_neg (by simp)))
            go_wp2_with (first
              | ((with_reducible show wpList _ _ _ (⟨_, .binOp .shr _ _ _ _, _, _, _, _⟩ :: _) _ _); refine st_shrN rfl _ _ _ _ rfl _ _ rfl rfl (by omega) ?_)
              | ((with_reducible show wpList _ _ _ (⟨_, .binOp .rem _ _ _ _, _, _, _, _⟩ :: _) _ _); refine st_rem2 rfl _ _ _ _ rfl _ rfl rfl ?_)
              | ((with_reducible show wpList _ _ _ (⟨some 26, _, _, _, _, _⟩ :: _) _ _); refine st_btest rfl _ _ _ _ rfl _ _ rfl rfl hbit ?_)
              | ((with_reducible show wpList _ _ _ (⟨_, .binOp _ _ _ _ _, _, _, _, _⟩ :: _) _ _); (first | ((with_reducible show wpList _ _ _ (⟨_, .binOp .lss _ _ _ _, _, _, _, _⟩ :: _) _ _); refine st_lss rfl _ _ _ _ rfl _ _ _ rfl rfl (fun h_ => ?_) (fun h_ => ?_)) | ((with_reducible show wpList _ _ _ (⟨_, .binOp .leq _ _ _ _, _, _, _, _⟩ :: _) _ _); refine st_leq rfl _ _ _ _ rfl _ _ _ rfl rfl (fun h_ => ?_) (fun h_ => ?_)) | ((with_reducible show wpList _ _ _ (⟨_, .binOp .gtr _ _ _ _, _, _, _, _⟩ :: _) _ _); refine st_gtr rfl _ _ _ _ rfl _ _ _ rfl rfl (fun h_ => ?_) (fun h_ => ?_)) | ((with_reducible show wpList _ _ _ (⟨_, .binOp .geq _ _ _ _, _, _, _, _⟩ :: _) _ _); refine st_geq rfl _ _ _ _ rfl _ _ _ rfl rfl (fun h_ => ?_) (fun h_ => ?_)) | ((with_reducible show wpList _ _ _ (⟨_, .binOp .eql _ _ _ _, _, _, _, _⟩ :: _) _ _); refine st_eql rfl _ _ _ _ rfl _ _ _ rfl rfl (fun h_ => ?_) (fun h_ => ?_)) | ((with_reducible show wpList _ _ _ (⟨_, .binOp .neq _ _ _ _, _, _, _, _⟩ :: _) _ _); refine st_neq rfl _ _ _ _ rfl _ _ _ rfl rfl (fun h_ => ?_) (fun h_ => ?_))) <;> go_prune)
              | ((with_reducible show wpList _ _ _ (⟨_, .indexAddr _ _ _, _, _, _, _⟩ :: _) _ _); refine st_iaddr2 hS rfl _ _ _ rfl _ rfl rfl (by assumption) Tryd.underlying25 (by kernel_rfl) (by first | assumption | omega) _ _ (by assumption) (by assumption) ?_; intro b_ j_ hc0_ hc1_)
              | ((with_reducible show wpList _ _ _ (⟨some 8, _, _, _, _, _⟩ :: _) _ _); refine st_alloc hS rfl _ rfl (by kernel_rfl) ?_; clear hS; intro g4 w_ hS; (try simp only [Act.put, Act.eval, List.set_cons_zero, List.set_cons_succ, List.setIfInBounds_toArray, Array.getD_eq_getD_getElem?, List.getElem?_toArray, List.getElem?_cons_succ, List.getElem?_cons_zero, Option.getD_some, Value.cells] at hS))
              | ((with_reducible show wpList _ _ _ (⟨_, .store _ _ _, _, _, _, _⟩ :: _) _ _); first | (refine st_store hS 0 rfl _ _ _ rfl _ _ rfl rfl _ _ rfl (by kernel_rfl) (by kernel_rfl) (by kernel_rfl) ?_; clear hS; intro w_ hS; (try simp only [Act.put, Act.eval, List.set_cons_zero, List.set_cons_succ, List.setIfInBounds_toArray, Array.getD_eq_getD_getElem?, List.getElem?_toArray, List.getElem?_cons_succ, List.getElem?_cons_zero, Option.getD_some, Value.cells] at hS)) | (refine st_store hS 1 rfl _ _ _ rfl _ _ rfl rfl _ _ rfl (by kernel_rfl) (by kernel_rfl) (by kernel_rfl) ?_; clear hS; intro w_ hS; (try simp only [Act.put, Act.eval, List.set_cons_zero, List.set_cons_succ, List.setIfInBounds_toArray, Array.getD_eq_getD_getElem?, List.getElem?_toArray, List.getElem?_cons_succ, List.getElem?_cons_zero, Option.getD_some, Value.cells] at hS)) | (refine st_store hS 2 rfl _ _ _ rfl _ _ rfl rfl _ _ rfl (by kernel_rfl) (by kernel_rfl) (by kernel_rfl) ?_; clear hS; intro w_ hS; (try simp only [Act.put, Act.eval, List.set_cons_zero, List.set_cons_succ, List.setIfInBounds_toArray, Array.getD_eq_getD_getElem?, List.getElem?_toArray, List.getElem?_cons_succ, List.getElem?_cons_zero, Option.getD_some, Value.cells] at hS)) | (refine st_store hS 3 rfl _ _ _ rfl _ _ rfl rfl _ _ rfl (by kernel_rfl) (by kernel_rfl) (by kernel_rfl) ?_; clear hS; intro w_ hS; (try simp only [Act.put, Act.eval, List.set_cons_zero, List.set_cons_succ, List.setIfInBounds_toArray, Array.getD_eq_getD_getElem?, List.getElem?_toArray, List.getElem?_cons_succ, List.getElem?_cons_zero, Option.getD_some, Value.cells] at hS)) | (refine st_cstore hS 0 rfl _ _ _ rfl _ _ _ rfl rfl rfl (by first | (simp; done) | (simp; omega) | exact of_decide_eq_true (by kernel_rfl)) rfl (by first | rfl | assumption) (by kernel_rfl) ?_; clear hS; intro w_ hS; (try simp only [Act.put, Act.eval, List.set_cons_zero, List.set_cons_succ, List.setIfInBounds_toArray, Array.getD_eq_getD_getElem?, List.getElem?_toArray, List.getElem?_cons_succ, List.getElem?_cons_zero, Option.getD_some, Value.cells] at hS)) | (refine st_cstore hS 1 rfl _ _ _ rfl _ _ _ rfl rfl rfl (by first | (simp; done) | (simp; omega) | exact of_decide_eq_true (by kernel_rfl)) rfl (by first | rfl | assumption) (by kernel_rfl) ?_; clear hS; intro w_ hS; (try simp only [Act.put, Act.eval, List.set_cons_zero, List.set_cons_succ, List.setIfInBounds_toArray, Array.getD_eq_getD_getElem?, List.getElem?_toArray, List.getElem?_cons_succ, List.getElem?_cons_zero, Option.getD_some, Value.cells] at hS)) | (refine st_cstore hS 2 rfl _ _ _ rfl _ _ _ rfl rfl rfl (by first | (simp; done) | (simp; omega) | exact of_decide_eq_true (by kernel_rfl)) rfl (by first | rfl | assumption) (by kernel_rfl) ?_; clear hS; intro w_ hS; (try simp only [Act.put, Act.eval, List.set_cons_zero, List.set_cons_succ, List.setIfInBounds_toArray, Array.getD_eq_getD_getElem?, List.getElem?_toArray, List.getElem?_cons_succ, List.getElem?_cons_zero, Option.getD_some, Value.cells] at hS)) | (refine st_cstore hS 3 rfl _ _ _ rfl _ _ _ rfl rfl rfl (by first | (simp; done) | (simp; omega) | exact of_decide_eq_true (by kernel_rfl)) rfl (by first | rfl | assumption) (by kernel_rfl) ?_; clear hS; intro w_ hS; (try simp only [Act.put, Act.eval, List.set_cons_zero, List.set_cons_succ, List.setIfInBounds_toArray, Array.getD_eq_getD_getElem?, List.getElem?_toArray, List.getElem?_cons_succ, List.getElem?_cons_zero, Option.getD_some, Value.cells] at hS)))
              | ((with_reducible show wpList _ _ _ (⟨_, .load _ _, _, _, _, _⟩ :: _) _ _); first | (refine st_cell hS 0 rfl _ _ rfl _ _ rfl _ _ rfl (by decide +kernel) _ (by first | assumption | rfl) ?_) | (refine st_cell hS 1 rfl _ _ rfl _ _ rfl _ _ rfl (by decide +kernel) _ (by first | assumption | rfl) ?_) | (refine st_cell hS 2 rfl _ _ rfl _ _ rfl _ _ rfl (by decide +kernel) _ (by first | assumption | rfl) ?_) | (refine st_cell hS 3 rfl _ _ rfl _ _ rfl _ _ rfl (by decide +kernel) _ (by first | assumption | rfl) ?_) | (refine st_cell hS 4 rfl _ _ rfl _ _ rfl _ _ rfl (by decide +kernel) _ (by first | assumption | rfl) ?_) | (refine st_cell hS 5 rfl _ _ rfl _ _ rfl _ _ rfl (by decide +kernel) _ (by first | assumption | rfl) ?_) | (refine st_cell hS 6 rfl _ _ rfl _ _ rfl _ _ rfl (by decide +kernel) _ (by first | assumption | rfl) ?_) | (refine st_cell hS 7 rfl _ _ rfl _ _ rfl _ _ rfl (by decide +kernel) _ (by first | assumption | rfl) ?_)))
            exact ⟨⟨j + 1, hlj, by go_num, by rw [HE.out], hS.sub (List.sublist_cons_self _ _)⟩, by simp [intOf]; omega⟩
          · rw [hbit] at HSt
            have HE := Lib.hid (HSt.out.trans (if_pos rfl))
            go_wp2_with (first
              | ((with_reducible show wpList _ _ _ (⟨_, .binOp .shr _ _ _ _, _, _, _, _⟩ :: _) _ _); refine st_shrN rfl _ _ _ _ rfl _ _ rfl rfl (by omega) ?_)
              | ((with_reducible show wpList _ _ _ (⟨_, .binOp .rem _ _ _ _, _, _, _, _⟩ :: _) _ _); refine st_rem2 rfl _ _ _ _ rfl _ rfl rfl ?_)
              | ((with_reducible show wpList _ _ _ (⟨_, .binOp .shl _ _ _ _, _, _, _, _⟩ :: _) _ _); refine st_shl1 rfl _ _ _ _ rfl _ rfl rfl hxb ?_)
              | ((with_reducible show wpList _ _ _ (⟨_, .binOp .or _ _ _ _, _, _, _, _⟩ :: _) _ _); refine st_orN rfl _ _ _ _ rfl _ _ rfl rfl hM (pow_lt_64 hxb) ?_)
              | ((with_reducible show wpList _ _ _ (⟨some 26, _, _, _, _, _⟩ :: _) _ _); refine st_btest rfl _ _ _ _ rfl _ _ rfl rfl hbit ?_)
              | ((with_reducible show wpList _ _ _ (⟨_, .binOp _ _ _ _ _, _, _, _, _⟩ :: _) _ _); (first | ((with_reducible show wpList _ _ _ (⟨_, .binOp .lss _ _ _ _, _, _, _, _⟩ :: _) _ _); refine st_lss rfl _ _ _ _ rfl _ _ _ rfl rfl (fun h_ => ?_) (fun h_ => ?_)) | ((with_reducible show wpList _ _ _ (⟨_, .binOp .leq _ _ _ _, _, _, _, _⟩ :: _) _ _); refine st_leq rfl _ _ _ _ rfl _ _ _ rfl rfl (fun h_ => ?_) (fun h_ => ?_)) | ((with_reducible show wpList _ _ _ (⟨_, .binOp .gtr _ _ _ _, _, _, _, _⟩ :: _) _ _); refine st_gtr rfl _ _ _ _ rfl _ _ _ rfl rfl (fun h_ => ?_) (fun h_ => ?_)) | ((with_reducible show wpList _ _ _ (⟨_, .binOp .geq _ _ _ _, _, _, _, _⟩ :: _) _ _); refine st_geq rfl _ _ _ _ rfl _ _ _ rfl rfl (fun h_ => ?_) (fun h_ => ?_)) | ((with_reducible show wpList _ _ _ (⟨_, .binOp .eql _ _ _ _, _, _, _, _⟩ :: _) _ _); refine st_eql rfl _ _ _ _ rfl _ _ _ rfl rfl (fun h_ => ?_) (fun h_ => ?_)) | ((with_reducible show wpList _ _ _ (⟨_, .binOp .neq _ _ _ _, _, _, _, _⟩ :: _) _ _); refine st_neq rfl _ _ _ _ rfl _ _ _ rfl rfl (fun h_ => ?_) (fun h_ => ?_))) <;> go_prune)
              | ((with_reducible show wpList _ _ _ (⟨_, .indexAddr _ _ _, _, _, _, _⟩ :: _) _ _); refine st_iaddr2 hS rfl _ _ _ rfl _ rfl rfl (by assumption) Tryd.underlying25 (by kernel_rfl) (by first | assumption | omega) _ _ (by assumption) (by assumption) ?_; intro b_ j_ hc0_ hc1_)
              | ((with_reducible show wpList _ _ _ (⟨some 8, _, _, _, _, _⟩ :: _) _ _); refine st_alloc hS rfl _ rfl (by kernel_rfl) ?_; clear hS; intro g4 w_ hS; (try simp only [Act.put, Act.eval, List.set_cons_zero, List.set_cons_succ, List.setIfInBounds_toArray, Array.getD_eq_getD_getElem?, List.getElem?_toArray, List.getElem?_cons_succ, List.getElem?_cons_zero, Option.getD_some, Value.cells] at hS))
              | ((with_reducible show wpList _ _ _ (⟨_, .store _ _ _, _, _, _, _⟩ :: _) _ _); first | (refine st_store hS 0 rfl _ _ _ rfl _ _ rfl rfl _ _ rfl (by kernel_rfl) (by kernel_rfl) (by kernel_rfl) ?_; clear hS; intro w_ hS; (try simp only [Act.put, Act.eval, List.set_cons_zero, List.set_cons_succ, List.setIfInBounds_toArray, Array.getD_eq_getD_getElem?, List.getElem?_toArray, List.getElem?_cons_succ, List.getElem?_cons_zero, Option.getD_some, Value.cells] at hS)) | (refine st_store hS 1 rfl _ _ _ rfl _ _ rfl rfl _ _ rfl (by kernel_rfl) (by kernel_rfl) (by kernel_rfl) ?_; clear hS; intro w_ hS; (try simp only [Act.put, Act.eval, List.set_cons_zero, List.set_cons_succ, List.setIfInBounds_toArray, Array.getD_eq_getD_getElem?, List.getElem?_toArray, List.getElem?_cons_succ, List.getElem?_cons_zero, Option.getD_some, Value.cells] at hS)) | (refine st_store hS 2 rfl _ _ _ rfl _ _ rfl rfl _ _ rfl (by kernel_rfl) (by kernel_rfl) (by kernel_rfl) ?_; clear hS; intro w_ hS; (try simp only [Act.put, Act.eval, List.set_cons_zero, List.set_cons_succ, List.setIfInBounds_toArray, Array.getD_eq_getD_getElem?, List.getElem?_toArray, List.getElem?_cons_succ, List.getElem?_cons_zero, Option.getD_some, Value.cells] at hS)) | (refine st_store hS 3 rfl _ _ _ rfl _ _ rfl rfl _ _ rfl (by kernel_rfl) (by kernel_rfl) (by kernel_rfl) ?_; clear hS; intro w_ hS; (try simp only [Act.put, Act.eval, List.set_cons_zero, List.set_cons_succ, List.setIfInBounds_toArray, Array.getD_eq_getD_getElem?, List.getElem?_toArray, List.getElem?_cons_succ, List.getElem?_cons_zero, Option.getD_some, Value.cells] at hS)) | (refine st_cstore hS 0 rfl _ _ _ rfl _ _ _ rfl rfl rfl (by first | (simp; done) | (simp; omega) | exact of_decide_eq_true (by kernel_rfl)) rfl (by first | rfl | assumption) (by kernel_rfl) ?_; clear hS; intro w_ hS; (try simp only [Act.put, Act.eval, List.set_cons_zero, List.set_cons_succ, List.setIfInBounds_toArray, Array.getD_eq_getD_getElem?, List.getElem?_toArray, List.getElem?_cons_succ, List.getElem?_cons_zero, Option.getD_some, Value.cells] at hS)) | (refine st_cstore hS 1 rfl _ _ _ rfl _ _ _ rfl rfl rfl (by first | (simp; done) | (simp; omega) | exact of_decide_eq_true (by kernel_rfl)) rfl (by first | rfl | assumption) (by kernel_rfl) ?_; clear hS; intro w_ hS; (try simp only [Act.put, Act.eval, List.set_cons_zero, List.set_cons_succ, List.setIfInBounds_toArray, Array.getD_eq_getD_getElem?, List.getElem?_toArray, List.getElem?_cons_succ, List.getElem?_cons_zero, Option.getD_some, Value.cells] at hS)) | (refine st_cstore hS 2 rfl _ _ _ rfl _ _ _ rfl rfl rfl (by first | (simp; done) | (simp; omega) | exact of_decide_eq_true (by kernel_rfl)) rfl (by first | rfl | assumption) (by kernel_rfl) ?_; clear hS; intro w_ hS; (try simp only [Act.put, Act.eval, List.set_cons_zero, List.set_cons_succ, List.setIfInBounds_toArray, Array.getD_eq_getD_getElem?, List.getElem?_toArray, List.getElem?_cons_succ, List.getElem?_cons_zero, Option.getD_some, Value.cells] at hS)) | (refine st_cstore hS 3 rfl _ _ _ rfl _ _ _ rfl rfl rfl (by first | (simp; done) | (simp; omega) | exact of_decide_eq_true (by kernel_rfl)) rfl (by first | rfl | assumption) (by kernel_rfl) ?_; clear hS; intro w_ hS; (try simp only [Act.put, Act.eval, List.set_cons_zero, List.set_cons_succ, List.setIfInBounds_toArray, Array.getD_eq_getD_getElem?, List.getElem?_toArray, List.getElem?_cons_succ, List.getElem?_cons_zero, Option.getD_some, Value.cells] at hS)))
              | ((with_reducible show wpList _ _ _ (⟨_, .load _ _, _, _, _, _⟩ :: _) _ _); first | (refine st_cell hS 0 rfl _ _ rfl _ _ rfl _ _ rfl (by decide +kernel) _ (by first | assumption | rfl) ?_) | (refine st_cell hS 1 rfl _ _ rfl _ _ rfl _ _ rfl (by decide +kernel) _ (by first | assumption | rfl) ?_) | (refine st_cell hS 2 rfl _ _ rfl _ _ rfl _ _ rfl (by decide +kernel) _ (by first | assumption | rfl) ?_) | (refine st_cell hS 3 rfl _ _ rfl _ _ rfl _ _ rfl (by decide +kernel) _ (by first | assumption | rfl) ?_) | (refine st_cell hS 4 rfl _ _ rfl _ _ rfl _ _ rfl (by decide +kernel) _ (by first | assumption | rfl) ?_) | (refine st_cell hS 5 rfl _ _ rfl _ _ rfl _ _ rfl (by decide +kernel) _ (by first | assumption | rfl) ?_) | (refine st_cell hS 6 rfl _ _ rfl _ _ rfl _ _ rfl (by decide +kernel) _ (by first | assumption | rfl) ?_) | (refine st_cell hS 7 rfl _ _ rfl _ _ rfl _ _ rfl (by decide +kernel) _ (by first | assumption | rfl) ?_)))
            exact ⟨⟨j + 1, hlj, by go_num, by rw [HE.out], hS.sub (List.sublist_cons_self _ _)⟩, by simp [intOf]; omega⟩
        · obtain rfl : j = L.length := by omega
          have HM : Hid (jTo L s L.length < 2 ^ 64 ∧ JunOK L k (jTo L s L.length) ∧ (∀ i, s.testBit i = true → (jTo L s L.length).testBit i = true)) := Lib.hid ⟨jTo_lt HL.out HS.out.2, HS.out.1.next, fun i hi => (tb_jTo (Nat.le_refl _)).2 (.inl hi)⟩
          by_cases he : jTo L s L.length = s
          · have HF := Lib.hid (HS.out.1.stop HL.out hk he)
            rw [he]
            go_wp2_with (first | ((with_reducible show wpList _ _ _ (⟨_, .binOp _ _ _ _ _, _, _, _, _⟩ :: _) _ _); (first | ((with_reducible show wpList _ _ _ (⟨_, .binOp .lss _ _ _ _, _, _, _, _⟩ :: _) _ _); refine st_lss rfl _ _ _ _ rfl _ _ _ rfl rfl (fun h_ => ?_) (fun h_ => ?_)) | ((with_reducible show wpList _ _ _ (⟨_, .binOp .leq _ _ _ _, _, _, _, _⟩ :: _) _ _); refine st_leq rfl _ _ _ _ rfl _ _ _ rfl rfl (fun h_ => ?_) (fun h_ => ?_)) | ((with_reducible show wpList _ _ _ (⟨_, .binOp .gtr _ _ _ _, _, _, _, _⟩ :: _) _ _); refine st_gtr rfl _ _ _ _ rfl _ _ _ rfl rfl (fun h_ => ?_) (fun h_ => ?_)) | ((with_reducible show wpList _ _ _ (⟨_, .binOp .geq _ _ _ _, _, _, _, _⟩ :: _) _ _); refine st_geq rfl _ _ _ _ rfl _ _ _ rfl rfl (fun h_ => ?_) (fun h_ => ?_)) | ((with_reducible show wpList _ _ _ (⟨_, .binOp .eql _ _ _ _, _, _, _, _⟩ :: _) _ _); refine st_eql rfl _ _ _ _ rfl _ _ _ rfl rfl (fun h_ => ?_) (fun h_ => ?_)) | ((with_reducible show wpList _ _ _ (⟨_, .binOp .neq _ _ _ _, _, _, _, _⟩ :: _) _ _); refine st_neq rfl _ _ _ _ rfl _ _ _ rfl rfl (fun h_ => ?_) (fun h_ => ?_))) <;> go_prune))
            go_ret
            exact Ret.mk (by rw [HJ.out, ← HF.out]; rfl) hS.below
          · have HO := Lib.hid (outN_lt HS.out.2 HM.out.1 HM.out.2.2 he)
            generalize jTo L s L.length = M at *
            have he2 : ¬ (M : Int) = (s : Int) := by omega
            go_wp2_with (first | ((with_reducible show wpList _ _ _ (⟨_, .binOp _ _ _ _ _, _, _, _, _⟩ :: _) _ _); (first | ((with_reducible show wpList _ _ _ (⟨_, .binOp .lss _ _ _ _, _, _, _, _⟩ :: _) _ _); refine st_lss rfl _ _ _ _ rfl _ _ _ rfl rfl (fun h_ => ?_) (fun h_ => ?_)) | ((with_reducible show wpList _ _ _ (⟨_, .binOp .leq _ _ _ _, _, _, _, _⟩ :: _) _ _); refine st_leq rfl _ _ _ _ rfl _ _ _ rfl rfl (fun h_ => ?_) (fun h_ => ?_)) | ((with_reducible show wpList _ _ _ (⟨_, .binOp .gtr _ _ _ _, _, _, _, _⟩ :: _) _ _); refine st_gtr rfl _ _ _ _ rfl _ _ _ rfl rfl (fun h_ => ?_) (fun h_ => ?_)) | ((with_reducible show wpList _ _ _ (⟨_, .binOp .geq _ _ _ _, _, _, _, _⟩ :: _) _ _); refine st_geq rfl _ _ _ _ rfl _ _ _ rfl rfl (fun h_ => ?_) (fun h_ => ?_)) | ((with_reducible show wpList _ _ _ (⟨_, .binOp .eql _ _ _ _, _, _, _, _⟩ :: _) _ _); refine st_eql rfl _ _ _ _ rfl _ _ _ rfl rfl (fun h_ => ?_) (fun h_ => ?_)) | ((with_reducible show wpList _ _ _ (⟨_, .binOp .neq _ _ _ _, _, _, _, _⟩ :: _) _ _); refine st_neq rfl _ _ _ _ rfl _ _ _ rfl rfl (fun h_ => ?_) (fun h_ => ?_))) <;> go_prune))
            exact ⟨⟨M, rfl, Lib.hid ⟨HM.out.2.1, HM.out.1⟩, hS⟩, by simpa [intOf] using HO.out⟩
  · have HR := Lib.hid (decide_eq_false hr)
    have HJ := Lib.hid (show junR L r = 0 by rw [junR, if_neg hr])
    rw [HJ.out]
    clear hr
    go_enter Tryd.func38, Tryd.ntmps38
    go_wp2_with (first
      | (go_at_call 57; refine (rrole_any _ _).mono ?_; rw [HR.out]; rintro r_ w_ ⟨_, rfl, rfl, hb_⟩; replace hS := hS.ext hb_; clear hb_))
    go_ret
    exact Ret.mk rfl hS.below
/-- r implies s, for any numbers -/
theorem impl_junR {L : List (Nat × Nat)} (hL : Inr 64 L) (r s : Int) : (1 ≤ s ∧ s ≤ 63) ∧ (junR L r).testBit s.toNat = true ↔ implR L r s := by
  unfold junR implR
  constructor
  · rintro ⟨h1, h2⟩
    by_cases hr : 1 ≤ r ∧ r ≤ 63
    · rw [if_pos hr, tb_jun hL (by omega)] at h2
      exact ⟨r.toNat, s.toNat, by omega, by omega, by omega, by omega, h2.imp (fun h => h.symm) id⟩
    · rw [if_neg hr, Nat.zero_testBit] at h2; cases h2
  · rintro ⟨i, j, rfl, rfl, h1, h2, h3⟩
    refine ⟨by omega, ?_⟩
    rw [if_pos (by omega), Int.toNat_natCast, Int.toNat_natCast, tb_jun hL (by omega)]
    exact h3.imp (fun h => h.symm) id
theorem rimpl_any {w0 : World} {D : Nat → Prop} {pv : Value} {L : List (Nat × Nat)} (h : Sl w0 D 2 pv L.length (pcells L)) (hL : Inr 64 L) (hl : L.length ≤ 1000000) (r s : Int) :
    Calls Tryd.prog 16 #[pv, .int .i64 r, .int .i64 s] w0 (Ret (fun x _ => ∃ c : Bool, x = .bool c ∧ (c = true ↔ implR L r s)) w0) := by
  have HJ := Lib.hid (fun w (hb : Below w0.heap.size w0 w) => rjun_any (h.ext hb) hL hl r)
  have HI := Lib.hid (impl_junR hL r s)
  by_cases hs : 1 ≤ s ∧ s ≤ 63
  · obtain ⟨k, rfl⟩ : ∃ k : Nat, s = (k : Int) := ⟨s.toNat, by omega⟩
    have HR := Lib.hid (decide_eq_true hs)
    have hk : k < 64 := by omega
    rw [Int.toNat_natCast] at HI
    have HI2 : Hid ((junR L r).testBit k = true ↔ implR L r k) := Lib.hid ⟨fun h => HI.out.1 ⟨hs, h⟩, fun h => (HI.out.2 h).2⟩
    clear hs HI
    obtain ⟨b, hb0⟩ : ∃ b, (junR L r).testBit k = b := ⟨_, rfl⟩
    have hb := Lib.hid hb0
    rw [hb0] at HI2
    generalize junR L r = J at *
    clear hb0
    go_enter Tryd.func16, Tryd.ntmps16
    go_wp2_with (first
      | (go_at_call 57; refine (rrole_any _ _).mono ?_; rw [HR.out]; rintro r_ w_ ⟨_, rfl, rfl, hb_⟩)
      | (go_at_call 38; refine (HJ.out _ hb_).mono ?_; rintro r_ w2 ⟨_, rfl, rfl, hb2⟩)
      | ((with_reducible show wpList _ _ _ (⟨_, .binOp .shr _ _ _ _, _, _, _, _⟩ :: _) _ _); refine st_shrN rfl _ _ _ _ rfl _ _ rfl rfl (by omega) ?_)
      | ((with_reducible show wpList _ _ _ (⟨_, .binOp .rem _ _ _ _, _, _, _, _⟩ :: _) _ _); refine st_rem2 rfl _ _ _ _ rfl _ rfl rfl ?_)
      | ((with_reducible show wpList _ _ _ (⟨some 16, _, _, _, _, _⟩ :: _) _ _); refine st_btest rfl _ _ _ _ rfl _ _ rfl rfl hb.out ?_))
    go_ret
    exact Ret.mk ⟨b, rfl, HI2.out⟩ (bel_tr hb_ hb2)
  · have HR := Lib.hid (decide_eq_false hs)
    have HI2 : Hid (¬ implR L r s) := Lib.hid fun h => hs (HI.out.2 h).1
    clear hs HI
    go_enter Tryd.func16, Tryd.ntmps16
    go_wp2_with (first
      | (go_at_call 57; refine (rrole_any _ _).mono ?_; rw [HR.out]; rintro r_ w_ ⟨_, rfl, rfl, hb_⟩))
    go_ret
    exact Ret.mk ⟨false, rfl, fun h => by simp at h, fun h => absurd h HI2.out⟩ hb_
end Go.Proofs.YtmlkgaiphpimiaaDoor
namespace Go.Proofs.YtmlkgaiphpimiaaDoor
open Go.RowKit
attribute [local go_sem ↓] Go.wp_at_zero Go.wp_at_succ
set_option maxRecDepth 20000
set_option exponentiation.threshold 5000

/-- two different roles -/
def twoR (a b : Int) : Prop := (1 ≤ a ∧ a ≤ 63) ∧ (1 ≤ b ∧ b ≤ 63) ∧ a ≠ b
/-- what the reference's Link gives: the links (a new row where there is no error) and the error -/
def RLinkP (w0 : World) (pv : Value) (L : List (Nat × Nat)) (a b : Int) (e : Ending) (w' : World) : Prop :=
  (¬ twoR a b ∧ e = .returned (.tuple #[pv, .int .i64 1]) ∧ Below w0.heap.size w0 w') ∨
  ∃ x y : Nat, a = (x : Int) ∧ b = (y : Int) ∧ (1 ≤ x ∧ x < 64) ∧ (1 ≤ y ∧ y < 64) ∧ x ≠ y ∧
    (((x, y) ∈ L ∧ e = .returned (.tuple #[pv, .int .i64 5]) ∧ Below w0.heap.size w0 w') ∨
     ((x, y) ∉ L ∧ TC L y x ∧ e = .returned (.tuple #[pv, .int .i64 16]) ∧ Below w0.heap.size w0 w') ∨
     ((x, y) ∉ L ∧ ¬ TC L y x ∧ ∃ v, e = .returned (.tuple #[v, .int .i64 0]) ∧ St w0 w' [.own v 50 2 (L.length + 1) (pcells (ins L (x, y)))] fun _ _ => True))
theorem ins_at {L : List (Nat × Nat)} {y : Nat × Nat} {i : Nat} (h : i ≤ insAt L y) {x : Nat × Nat} (hx : L[i]? = some x) : (plt x y → i + 1 ≤ insAt L y) ∧ (¬ plt x y → i = insAt L y) := by
  constructor
  · intro hp
    rcases Nat.lt_or_ge i (insAt L y) with h1 | h1
    · exact h1
    · obtain rfl : i = insAt L y := by omega
      exact absurd hp (insAt_stop hx)
  · intro hp
    rcases Nat.lt_or_ge i (insAt L y) with h1 | h1
    · obtain ⟨z, h2, h3⟩ := insAt_lt h1
      rw [hx] at h2
      cases h2
      exact absurd h3 hp
    · omega
theorem pcells_drop (L : List (Nat × Nat)) : ∀ k, (pcells L).drop (k * 2) = pcells (L.drop k) := by
  induction L with
  | nil => intro k; simp [pcells]
  | cons x L ih =>
    intro k
    cases k with
    | zero => simp [pcells]
    | succ k => rw [show (k + 1) * 2 = k * 2 + 1 + 1 by omega, pcells_cons]; simp [ih]
/-- the rows that the last region of Link makes, and which operations make them -/
def linkD (L : List (Nat × Nat)) (z : Nat × Nat) (i : Nat) : AD := ⟨50, 2, 4, fun s => match s with | 0 => 0 | 1 => 0 + i | 2 => 0 + i + 1 | _ => 0 + i + 1 + (L.length - i), fun s => match s with | 0 => [] | 1 => [] ++ (pcells L).take (i * 2) | 2 => [] ++ (pcells L).take (i * 2) ++ pcells [z] | _ => [] ++ (pcells L).take (i * 2) ++ pcells [z] ++ (pcells L).drop (i * 2), fun _ v => .own v 50 2 1 (pcells [z])⟩
def linkK : List (Nat × (Bool × Nat)) := [(0, (true, 0)), (4, (true, 1)), (8, (false, 0)), (9, (true, 2)), (13, (true, 3))]
set_option maxHeartbeats 2000000 in
theorem rlink_any {w0 : World} {D : Nat → Prop} {pv : Value} {L : List (Nat × Nat)} (h : Sl w0 D 2 pv L.length (pcells L)) (hL : Inr 64 L) (hl : L.length ≤ 1000000) (a b : Int) :
    Calls Tryd.prog 68 #[pv, .int .i64 a, .int .i64 b] w0 (RLinkP w0 pv L a b) := by
  obtain ⟨A, c, rfl, hc1, _⟩ := h.shape
  obtain ⟨K, kp, hS⟩ : ∃ K : (Nat → Prop) → World → Prop, (∀ D w, K D w → Sl w D 2 (.slice A L.length c) L.length (pcells L)) ∧ St w0 w0 [] K := ⟨_, fun _ _ h => h, St.start (stable_sl (by decide)) h⟩
  clear h
  have HH := Lib.hid (fun (w : World) (D : Nat → Prop) (h : Sl w D 2 (.slice A L.length c) L.length (pcells L)) => rhas_any h hl a b)
  have HI := Lib.hid (fun (w : World) (D : Nat → Prop) (h : Sl w D 2 (.slice A L.length c) L.length (pcells L)) => rimpl_any h hL hl b a)
  by_cases hra : 1 ≤ a ∧ a ≤ 63
  · have HRA := Lib.hid (decide_eq_true hra)
    by_cases hrb : 1 ≤ b ∧ b ≤ 63
    · have HRB := Lib.hid (decide_eq_true hrb)
      by_cases hab : a = b
      · subst hab
        have HNO : Hid (¬ twoR a a) := Lib.hid fun h => h.2.2 rfl
        clear hra hrb
        go_enter Tryd.func68, Tryd.ntmps68
        go_wp2_with (first
          | ((with_reducible show wpList _ _ _ (⟨_, .binOp _ _ _ _ _, _, _, _, _⟩ :: _) _ _); (first | ((with_reducible show wpList _ _ _ (⟨_, .binOp .lss _ _ _ _, _, _, _, _⟩ :: _) _ _); refine st_lss rfl _ _ _ _ rfl _ _ _ rfl rfl (fun h_ => ?_) (fun h_ => ?_)) | ((with_reducible show wpList _ _ _ (⟨_, .binOp .leq _ _ _ _, _, _, _, _⟩ :: _) _ _); refine st_leq rfl _ _ _ _ rfl _ _ _ rfl rfl (fun h_ => ?_) (fun h_ => ?_)) | ((with_reducible show wpList _ _ _ (⟨_, .binOp .gtr _ _ _ _, _, _, _, _⟩ :: _) _ _); refine st_gtr rfl _ _ _ _ rfl _ _ _ rfl rfl (fun h_ => ?_) (fun h_ => ?_)) | ((with_reducible show wpList _ _ _ (⟨_, .binOp .geq _ _ _ _, _, _, _, _⟩ :: _) _ _); refine st_geq rfl _ _ _ _ rfl _ _ _ rfl rfl (fun h_ => ?_) (fun h_ => ?_)) | ((with_reducible show wpList _ _ _ (⟨_, .binOp .eql _ _ _ _, _, _, _, _⟩ :: _) _ _); refine st_eql rfl _ _ _ _ rfl _ _ _ rfl rfl (fun h_ => ?_) (fun h_ => ?_)) | ((with_reducible show wpList _ _ _ (⟨_, .binOp .neq _ _ _ _, _, _, _, _⟩ :: _) _ _); refine st_neq rfl _ _ _ _ rfl _ _ _ rfl rfl (fun h_ => ?_) (fun h_ => ?_))) <;> go_prune)
          | (go_at_call 57; refine (rrole_any _ _).mono ?_; (first | rw [HRA.out] | rw [HRB.out]); rintro r_ w_ ⟨_, rfl, rfl, hb_⟩; replace hS := hS.ext hb_; clear hb_))
        go_ret2
        exact .inl ⟨HNO.out, rfl, hS.below⟩
      · obtain ⟨x, rfl⟩ : ∃ x : Nat, a = (x : Int) := ⟨a.toNat, by omega⟩
        obtain ⟨y, rfl⟩ : ∃ y : Nat, b = (y : Int) := ⟨b.toNat, by omega⟩
        have hx1 : Hid (1 ≤ x ∧ x < 64) := Lib.hid (by omega)
        have hy1 : Hid (1 ≤ y ∧ y < 64) := Lib.hid (by omega)
        have hxy : Hid (x ≠ y) := Lib.hid (by omega)
        have HC1 : Hid (∀ c : Bool, (c = true ↔ ∃ z ∈ L, (x : Int) = (z.1 : Int) ∧ (y : Int) = (z.2 : Int)) → c = decide ((x, y) ∈ L)) := Lib.hid fun c hc => by
          rw [Bool.eq_iff_iff, hc, decide_eq_true_iff]
          constructor
          · rintro ⟨⟨za, zb⟩, h1, h2, h3⟩
            dsimp only at h2 h3
            obtain rfl : x = za := by omega
            obtain rfl : y = zb := by omega
            exact h1
          · intro h; exact ⟨_, h, rfl, rfl⟩
        have HC2 : Hid (∀ c : Bool, (c = true ↔ implR L (y : Nat) (x : Nat)) → (c = true ↔ TC L y x)) := Lib.hid fun c hc => hc.trans ⟨fun ⟨i, j, h1, h2, _, _, h3⟩ => by
            obtain rfl : y = i := by omega
            obtain rfl : x = j := by omega
            exact h3.resolve_left fun e => hxy.out e.symm, fun h => ⟨y, x, rfl, rfl, hy1.out, hx1.out, .inr h⟩⟩
        clear hra hrb
        by_cases hm : (x, y) ∈ L
        · go_enter Tryd.func68, Tryd.ntmps68
          go_wp2_with (first
            | ((with_reducible show wpList _ _ _ (⟨_, .binOp _ _ _ _ _, _, _, _, _⟩ :: _) _ _); (first | ((with_reducible show wpList _ _ _ (⟨_, .binOp .lss _ _ _ _, _, _, _, _⟩ :: _) _ _); refine st_lss rfl _ _ _ _ rfl _ _ _ rfl rfl (fun h_ => ?_) (fun h_ => ?_)) | ((with_reducible show wpList _ _ _ (⟨_, .binOp .leq _ _ _ _, _, _, _, _⟩ :: _) _ _); refine st_leq rfl _ _ _ _ rfl _ _ _ rfl rfl (fun h_ => ?_) (fun h_ => ?_)) | ((with_reducible show wpList _ _ _ (⟨_, .binOp .gtr _ _ _ _, _, _, _, _⟩ :: _) _ _); refine st_gtr rfl _ _ _ _ rfl _ _ _ rfl rfl (fun h_ => ?_) (fun h_ => ?_)) | ((with_reducible show wpList _ _ _ (⟨_, .binOp .geq _ _ _ _, _, _, _, _⟩ :: _) _ _); refine st_geq rfl _ _ _ _ rfl _ _ _ rfl rfl (fun h_ => ?_) (fun h_ => ?_)) | ((with_reducible show wpList _ _ _ (⟨_, .binOp .eql _ _ _ _, _, _, _, _⟩ :: _) _ _); refine st_eql rfl _ _ _ _ rfl _ _ _ rfl rfl (fun h_ => ?_) (fun h_ => ?_)) | ((with_reducible show wpList _ _ _ (⟨_, .binOp .neq _ _ _ _, _, _, _, _⟩ :: _) _ _); refine st_neq rfl _ _ _ _ rfl _ _ _ rfl rfl (fun h_ => ?_) (fun h_ => ?_))) <;> go_prune)
            | (go_at_call 57; refine (rrole_any _ _).mono ?_; (first | rw [HRA.out] | rw [HRB.out]); rintro r_ w_ ⟨_, rfl, rfl, hb_⟩; replace hS := hS.ext hb_; clear hb_)
            | (go_at_call 87; refine (HH.out _ _ (kp _ _ hS.ro)).mono ?_; rintro r_ w_ ⟨_, rfl, ⟨c, rfl, hc⟩, hb_⟩; replace hc := HC1.out c hc; rw [decide_eq_true hm] at hc; subst hc; replace hS := hS.ext hb_; clear hb_))
          go_ret2
          exact .inr ⟨x, y, rfl, rfl, hx1.out, hy1.out, hxy.out, .inl ⟨hm, rfl, hS.below⟩⟩
        · by_cases ht : TC L y x
          · have HT := Lib.hid ht
            have HC3 : Hid (∀ c : Bool, (c = true ↔ implR L (y : Nat) (x : Nat)) → c = true) := Lib.hid fun c hc => (HC2.out c hc).2 ht
            clear ht
            go_enter Tryd.func68, Tryd.ntmps68
            go_wp2_with (first
              | ((with_reducible show wpList _ _ _ (⟨_, .binOp _ _ _ _ _, _, _, _, _⟩ :: _) _ _); (first | ((with_reducible show wpList _ _ _ (⟨_, .binOp .lss _ _ _ _, _, _, _, _⟩ :: _) _ _); refine st_lss rfl _ _ _ _ rfl _ _ _ rfl rfl (fun h_ => ?_) (fun h_ => ?_)) | ((with_reducible show wpList _ _ _ (⟨_, .binOp .leq _ _ _ _, _, _, _, _⟩ :: _) _ _); refine st_leq rfl _ _ _ _ rfl _ _ _ rfl rfl (fun h_ => ?_) (fun h_ => ?_)) | ((with_reducible show wpList _ _ _ (⟨_, .binOp .gtr _ _ _ _, _, _, _, _⟩ :: _) _ _); refine st_gtr rfl _ _ _ _ rfl _ _ _ rfl rfl (fun h_ => ?_) (fun h_ => ?_)) | ((with_reducible show wpList _ _ _ (⟨_, .binOp .geq _ _ _ _, _, _, _, _⟩ :: _) _ _); refine st_geq rfl _ _ _ _ rfl _ _ _ rfl rfl (fun h_ => ?_) (fun h_ => ?_)) | ((with_reducible show wpList _ _ _ (⟨_, .binOp .eql _ _ _ _, _, _, _, _⟩ :: _) _ _); refine st_eql rfl _ _ _ _ rfl _ _ _ rfl rfl (fun h_ => ?_) (fun h_ => ?_)) | ((with_reducible show wpList _ _ _ (⟨_, .binOp .neq _ _ _ _, _, _, _, _⟩ :: _) _ _); refine st_neq rfl _ _ _ _ rfl _ _ _ rfl rfl (fun h_ => ?_) (fun h_ => ?_))) <;> go_prune)
              | (go_at_call 57; refine (rrole_any _ _).mono ?_; (first | rw [HRA.out] | rw [HRB.out]); rintro r_ w_ ⟨_, rfl, rfl, hb_⟩; replace hS := hS.ext hb_; clear hb_)
              | (go_at_call 87; refine (HH.out _ _ (kp _ _ hS.ro)).mono ?_; rintro r_ w_ ⟨_, rfl, ⟨c, rfl, hc⟩, hb_⟩; replace hc := HC1.out c hc; rw [decide_eq_false hm] at hc; subst hc; replace hS := hS.ext hb_; clear hb_)
              | (go_at_call 16; refine (HI.out _ _ (kp _ _ hS.ro)).mono ?_; rintro r_ w_ ⟨_, rfl, ⟨c, rfl, hc⟩, hb_⟩; obtain rfl := HC3.out c hc; clear hc; replace hS := hS.ext hb_; clear hb_))
            go_ret2
            exact .inr ⟨x, y, rfl, rfl, hx1.out, hy1.out, hxy.out, .inr (.inl ⟨hm, HT.out, rfl, hS.below⟩)⟩
          · have HT := Lib.hid ht
            have HC3 : Hid (∀ c : Bool, (c = true ↔ implR L (y : Nat) (x : Nat)) → c = false) := Lib.hid fun c hc => by
              cases c with
              | true => exact absurd ((HC2.out true hc).1 rfl) ht
              | false => rfl
            clear ht
            go_enter Tryd.func68, Tryd.ntmps68
            go_wp2_with (first
              | ((with_reducible show wpList _ _ _ (⟨_, .binOp _ _ _ _ _, _, _, _, _⟩ :: _) _ _); (first | ((with_reducible show wpList _ _ _ (⟨_, .binOp .lss _ _ _ _, _, _, _, _⟩ :: _) _ _); refine st_lss rfl _ _ _ _ rfl _ _ _ rfl rfl (fun h_ => ?_) (fun h_ => ?_)) | ((with_reducible show wpList _ _ _ (⟨_, .binOp .leq _ _ _ _, _, _, _, _⟩ :: _) _ _); refine st_leq rfl _ _ _ _ rfl _ _ _ rfl rfl (fun h_ => ?_) (fun h_ => ?_)) | ((with_reducible show wpList _ _ _ (⟨_, .binOp .gtr _ _ _ _, _, _, _, _⟩ :: _) _ _); refine st_gtr rfl _ _ _ _ rfl _ _ _ rfl rfl (fun h_ => ?_) (fun h_ => ?_)) | ((with_reducible show wpList _ _ _ (⟨_, .binOp .geq _ _ _ _, _, _, _, _⟩ :: _) _ _); refine st_geq rfl _ _ _ _ rfl _ _ _ rfl rfl (fun h_ => ?_) (fun h_ => ?_)) | ((with_reducible show wpList _ _ _ (⟨_, .binOp .eql _ _ _ _, _, _, _, _⟩ :: _) _ _); refine st_eql rfl _ _ _ _ rfl _ _ _ rfl rfl (fun h_ => ?_) (fun h_ => ?_)) | ((with_reducible show wpList _ _ _ (⟨_, .binOp .neq _ _ _ _, _, _, _, _⟩ :: _) _ _); refine st_neq rfl _ _ _ _ rfl _ _ _ rfl rfl (fun h_ => ?_) (fun h_ => ?_))) <;> go_prune)
              | (go_at_call 57; refine (rrole_any _ _).mono ?_; (first | rw [HRA.out] | rw [HRB.out]); rintro r_ w_ ⟨_, rfl, rfl, hb_⟩; replace hS := hS.ext hb_; clear hb_)
              | (go_at_call 87; refine (HH.out _ _ (kp _ _ hS.ro)).mono ?_; rintro r_ w_ ⟨_, rfl, ⟨c, rfl, hc⟩, hb_⟩; replace hc := HC1.out c hc; rw [decide_eq_false hm] at hc; subst hc; replace hS := hS.ext hb_; clear hb_)
              | (go_at_call 16; refine (HI.out _ _ (kp _ _ hS.ro)).mono ?_; rintro r_ w_ ⟨_, rfl, ⟨c, rfl, hc⟩, hb_⟩; obtain rfl := HC3.out c hc; clear hc; replace hS := hS.ext hb_; clear hb_))
            go_loopw [8] (fun v wr => ∃ i : Nat, v = .int .i64 (i : Nat) ∧ i ≤ L.length ∧ Hid (i ≤ insAt L (x, y)) ∧ St w0 wr [] K) (fun v _ => L.length - (intOf v).toNat)
            case atStart => exact ⟨0, rfl, by omega, Lib.hid (Nat.zero_le _), hS⟩
            case round =>
              clear hS HH HI
              obtain ⟨i, rfl, hil, HIA, hS⟩ := hrel
              by_cases hlt : i < L.length
              · obtain ⟨f1, f2⟩ := pcells_at L i hlt
                have HST := Lib.hid (ins_at HIA.out (getD_at (0, 0) hlt))
                generalize L.getD i (0, 0) = z at *
                obtain ⟨za, zb⟩ := z
                dsimp only at f1 f2
                rcases Nat.lt_trichotomy za x with h1 | h1 | h1
                · have HN := Lib.hid (HST.out.1 (.inl h1))
                  clear HST
                  go_wp2_with (first
                    | ((with_reducible show wpList _ _ _ (⟨_, .binOp _ _ _ _ _, _, _, _, _⟩ :: _) _ _); (first | ((with_reducible show wpList _ _ _ (⟨_, .binOp .lss _ _ _ _, _, _, _, _⟩ :: _) _ _); refine st_lss rfl _ _ _ _ rfl _ _ _ rfl rfl (fun h_ => ?_) (fun h_ => ?_)) | ((with_reducible show wpList _ _ _ (⟨_, .binOp .leq _ _ _ _, _, _, _, _⟩ :: _) _ _); refine st_leq rfl _ _ _ _ rfl _ _ _ rfl rfl (fun h_ => ?_) (fun h_ => ?_)) | ((with_reducible show wpList _ _ _ (⟨_, .binOp .gtr _ _ _ _, _, _, _, _⟩ :: _) _ _); refine st_gtr rfl _ _ _ _ rfl _ _ _ rfl rfl (fun h_ => ?_) (fun h_ => ?_)) | ((with_reducible show wpList _ _ _ (⟨_, .binOp .geq _ _ _ _, _, _, _, _⟩ :: _) _ _); refine st_geq rfl _ _ _ _ rfl _ _ _ rfl rfl (fun h_ => ?_) (fun h_ => ?_)) | ((with_reducible show wpList _ _ _ (⟨_, .binOp .eql _ _ _ _, _, _, _, _⟩ :: _) _ _); refine st_eql rfl _ _ _ _ rfl _ _ _ rfl rfl (fun h_ => ?_) (fun h_ => ?_)) | ((with_reducible show wpList _ _ _ (⟨_, .binOp .neq _ _ _ _, _, _, _, _⟩ :: _) _ _); refine st_neq rfl _ _ _ _ rfl _ _ _ rfl rfl (fun h_ => ?_) (fun h_ => ?_))) <;> go_prune)
                    | ((with_reducible show wpList _ _ _ (⟨_, .indexAddr _ _ _, _, _, _, _⟩ :: _) _ _); refine st_iaddr2 hS rfl _ _ _ rfl _ rfl rfl (by assumption) Tryd.underlying25 (by kernel_rfl) (by first | assumption | omega) _ _ (by assumption) (by assumption) ?_; intro b_ j_ hc0_ hc1_)
                    | ((with_reducible show wpList _ _ _ (⟨_, .load _ _, _, _, _, _⟩ :: _) _ _); first | refine BigFrame.wpList_want rfl fun _ hK => opw_cell rfl rfl (by kernel_rfl) hc0_ (hK _ _ ?_) | refine BigFrame.wpList_want rfl fun _ hK => opw_cell rfl rfl (by kernel_rfl) hc1_ (hK _ _ ?_)))
                  exact ⟨⟨i + 1, by go_num, hlt, HN, hS⟩, by simp [intOf]; omega⟩
                · by_cases h2 : zb < y
                  · have HN := Lib.hid (HST.out.1 (.inr ⟨h1, h2⟩))
                    clear HST
                    go_wp2_with (first
                      | ((with_reducible show wpList _ _ _ (⟨_, .binOp _ _ _ _ _, _, _, _, _⟩ :: _) _ _); (first | ((with_reducible show wpList _ _ _ (⟨_, .binOp .lss _ _ _ _, _, _, _, _⟩ :: _) _ _); refine st_lss rfl _ _ _ _ rfl _ _ _ rfl rfl (fun h_ => ?_) (fun h_ => ?_)) | ((with_reducible show wpList _ _ _ (⟨_, .binOp .leq _ _ _ _, _, _, _, _⟩ :: _) _ _); refine st_leq rfl _ _ _ _ rfl _ _ _ rfl rfl (fun h_ => ?_) (fun h_ => ?_)) | ((with_reducible show wpList _ _ _ (⟨_, .binOp .gtr _ _ _ _, _, _, _, _⟩ :: _) _ _); refine st_gtr rfl _ _ _ _ rfl _ _ _ rfl rfl (fun h_ => ?_) (fun h_ => ?_)) | ((with_reducible show wpList _ _ _ (⟨_, .binOp .geq _ _ _ _, _, _, _, _⟩ :: _) _ _); refine st_geq rfl _ _ _ _ rfl _ _ _ rfl rfl (fun h_ => ?_) (fun h_ => ?_)) | ((with_reducible show wpList _ _ _ (⟨_, .binOp .eql _ _ _ _, _, _, _, _⟩ :: _) _ _); refine st_eql rfl _ _ _ _ rfl _ _ _ rfl rfl (fun h_ => ?_) (fun h_ => ?_)) | ((with_reducible show wpList _ _ _ (⟨_, .binOp .neq _ _ _ _, _, _, _, _⟩ :: _) _ _); refine st_neq rfl _ _ _ _ rfl _ _ _ rfl rfl (fun h_ => ?_) (fun h_ => ?_))) <;> go_prune)
                      | ((with_reducible show wpList _ _ _ (⟨_, .indexAddr _ _ _, _, _, _, _⟩ :: _) _ _); refine st_iaddr2 hS rfl _ _ _ rfl _ rfl rfl (by assumption) Tryd.underlying25 (by kernel_rfl) (by first | assumption | omega) _ _ (by assumption) (by assumption) ?_; intro b_ j_ hc0_ hc1_)
                      | ((with_reducible show wpList _ _ _ (⟨_, .load _ _, _, _, _, _⟩ :: _) _ _); first | refine BigFrame.wpList_want rfl fun _ hK => opw_cell rfl rfl (by kernel_rfl) hc0_ (hK _ _ ?_) | refine BigFrame.wpList_want rfl fun _ hK => opw_cell rfl rfl (by kernel_rfl) hc1_ (hK _ _ ?_)))
                    exact ⟨⟨i + 1, by go_num, hlt, HN, hS⟩, by simp [intOf]; omega⟩
                  · have HE := Lib.hid (HST.out.2 (by rintro (h | h) <;> dsimp only at h <;> omega))
                    clear HST
                    go_wp2_with (first
                      | ((with_reducible show wpList _ _ _ (⟨_, .binOp _ _ _ _ _, _, _, _, _⟩ :: _) _ _); (first | ((with_reducible show wpList _ _ _ (⟨_, .binOp .lss _ _ _ _, _, _, _, _⟩ :: _) _ _); refine st_lss rfl _ _ _ _ rfl _ _ _ rfl rfl (fun h_ => ?_) (fun h_ => ?_)) | ((with_reducible show wpList _ _ _ (⟨_, .binOp .leq _ _ _ _, _, _, _, _⟩ :: _) _ _); refine st_leq rfl _ _ _ _ rfl _ _ _ rfl rfl (fun h_ => ?_) (fun h_ => ?_)) | ((with_reducible show wpList _ _ _ (⟨_, .binOp .gtr _ _ _ _, _, _, _, _⟩ :: _) _ _); refine st_gtr rfl _ _ _ _ rfl _ _ _ rfl rfl (fun h_ => ?_) (fun h_ => ?_)) | ((with_reducible show wpList _ _ _ (⟨_, .binOp .geq _ _ _ _, _, _, _, _⟩ :: _) _ _); refine st_geq rfl _ _ _ _ rfl _ _ _ rfl rfl (fun h_ => ?_) (fun h_ => ?_)) | ((with_reducible show wpList _ _ _ (⟨_, .binOp .eql _ _ _ _, _, _, _, _⟩ :: _) _ _); refine st_eql rfl _ _ _ _ rfl _ _ _ rfl rfl (fun h_ => ?_) (fun h_ => ?_)) | ((with_reducible show wpList _ _ _ (⟨_, .binOp .neq _ _ _ _, _, _, _, _⟩ :: _) _ _); refine st_neq rfl _ _ _ _ rfl _ _ _ rfl rfl (fun h_ => ?_) (fun h_ => ?_))) <;> go_prune)
                      | ((with_reducible show wpList _ _ _ (⟨_, .indexAddr _ _ _, _, _, _, _⟩ :: _) _ _); refine st_iaddr2 hS rfl _ _ _ rfl _ rfl rfl (by assumption) Tryd.underlying25 (by kernel_rfl) (by first | assumption | omega) _ _ (by assumption) (by assumption) ?_; intro b_ j_ hc0_ hc1_)
                      | ((with_reducible show wpList _ _ _ (⟨_, .load _ _, _, _, _, _⟩ :: _) _ _); first | refine BigFrame.wpList_want rfl fun _ hK => opw_cell rfl rfl (by kernel_rfl) hc0_ (hK _ _ ?_) | refine BigFrame.wpList_want rfl fun _ hK => opw_cell rfl rfl (by kernel_rfl) hc1_ (hK _ _ ?_)))
                    have hic : i ≤ c := by omega
                    have hJ0 : AJ w0 [] K (linkD L (x, y) i) (wr.drew, ⟨[], []⟩) := ⟨hS.drew, Nat.zero_le _⟩
                    have hN0 := AN_start linkK wr.drew
                    have hRr := @AR.refl w0 [] K (linkD L (x, y) i)
                    have hRt := @AR.trans w0 [] K (linkD L (x, y) i)
                    refine wp_region_ghost (fun i__ v w => match i__ with
                      | 0 => AtS w.2 0 v
                      | 1 => v = .slice A L.length c
                      | 2 => v = .int .i64 ((i : Nat) : Int)
                      | 3 => v = .slice A i c
                      | 4 => AtS w.2 1 v
                      | 5 => v = .int .i64 ((x : Nat) : Int)
                      | 6 => v = .int .i64 ((y : Nat) : Int)
                      | 7 => v = .agg #[.int .i64 ((x : Nat) : Int), .int .i64 ((y : Nat) : Int)]
                      | 8 => (0, v) ∈ w.2.b
                      | 9 => AtS w.2 2 v
                      | 10 => v = .slice A L.length c
                      | 11 => v = .int .i64 ((i : Nat) : Int)
                      | 12 => v = sliced A i L.length c 2
                      | 13 => AtS w.2 3 v
                      | 14 => AtS w.2 3 v
                      | 15 => v = .int .i64 0
                      | _ => True) (AR w0 [] K (linkD L (x, y) i)) (AN linkK) (⟨[], []⟩) (by kernel_rfl) (by kernel_rfl) hRr hRt ?mono ?hN ⟨?r0, ?r1, ?r2, ?r3, ?r4, ?r5, ?r6, ?r7, ?r8, ?r9, ?r10, ?r11, ?r12, ?r13, ?r14, ?r15, trivial⟩ ?post
                    case hN => first | assumption | (intro i; (try dsimp only); split <;> first | trivial | assumption | (left; assumption))
                    case mono =>
                      intro i v w w' h hb
                      match i, h with
                      | 0, h => exact h.mono hb.2.1
                      | 1, h => exact h
                      | 2, h => exact h
                      | 3, h => exact h
                      | 4, h => exact h.mono hb.2.1
                      | 5, h => exact h
                      | 6, h => exact h
                      | 7, h => exact h
                      | 8, h => exact hb.2.2 _ h
                      | 9, h => exact h.mono hb.2.1
                      | 10, h => exact h
                      | 11, h => exact h
                      | 12, h => exact h
                      | 13, h => exact h.mono hb.2.1
                      | 14, h => exact h.mono hb.2.1
                      | 15, h => exact h
                      | _ + 16, h => trivial
                    case r0 =>
                      refine truleGh fun b__ w hW hN hold hpre => ⟨fun hwant K hK => ?_, fun hwant => ?_⟩
                      · clear hwant
                        exact chain_start (kd := linkK) (by decide) rfl rfl Tryd.underlying25 (by kernel_rfl) hN rfl rfl (show 0 < 4 by decide) hK
                      · rw [want_none rfl] at hwant; cases hwant
                    case r1 =>
                      refine truleGh fun b__ w hW hN hold hpre => ⟨fun hwant K hK => ?_, fun hwant => ?_⟩
                      · clear hwant
                        have e0 : b__.eval (.tmp 0) = .slice A L.length c := (hold 0 (by kernel_rfl)).trans rfl
                        exact opw_move rfl e0 (hK _ _ rfl ⟨hRr _, fun _ _ h => h⟩)
                      · rw [want_none rfl] at hwant; cases hwant
                    case r2 =>
                      refine truleGh fun b__ w hW hN hold hpre => ⟨fun hwant K hK => ?_, fun hwant => ?_⟩
                      · clear hwant
                        have e8 : b__.eval (.tmp 8) = .int .i64 ((i : Nat) : Int) := (hold 8 (by kernel_rfl)).trans rfl
                        exact opw_move rfl e8 (hK _ _ rfl ⟨hRr _, fun _ _ h => h⟩)
                      · rw [want_none rfl] at hwant; cases hwant
                    case r3 =>
                      refine truleGh fun b__ w hW hN hold hpre => ⟨fun hwant K hK => ?_, fun hwant => ?_⟩
                      · clear hwant
                        have e67 : b__.eval (.tmp 67) = .slice A L.length c := hpre ⟨1, _⟩ (Array.mem_of_getElem? (i := 0) rfl) rfl _ _ rfl rfl
                        have e68 : b__.eval (.tmp 68) = .int .i64 ((i : Nat) : Int) := hpre ⟨2, _⟩ (Array.mem_of_getElem? (i := 1) rfl) rfl _ _ rfl rfl
                        exact opw_slh rfl Tryd.underlying25 ⟨2, by kernel_rfl⟩ e67 e68 hic (hK _ _ rfl ⟨hRr _, fun _ _ h => h⟩)
                      · rw [want_none rfl] at hwant; cases hwant
                    case r4 =>
                      refine truleGh fun b__ w hW hN hold hpre => ⟨fun hwant K hK => ?_, fun hwant => ?_⟩
                      · clear hwant
                        have e66 : (fun (v : Value) (w : World × _) => AtS w.2 0 v) (b__.eval (.tmp 66)) w := hpre ⟨0, _⟩ (Array.mem_of_getElem? (i := 0) rfl) rfl _ _ rfl rfl
                        have e69 : b__.eval (.tmp 69) = .slice A i c := hpre ⟨3, _⟩ (Array.mem_of_getElem? (i := 1) rfl) rfl _ _ rfl rfl
                        exact chain_app (kd := linkK) (by decide) rfl rfl ty_pairs hN e66 (hW.1 hJ0) (by rw [e69]; exact slc_take (kp _ _ (hW.1 hJ0).1.ro) hil) (fun u hu => pcells_one L u (List.mem_of_mem_take hu)) rfl rfl (by simp [linkD]; omega) (by simp [linkD]; omega) (show 0 + 1 < 4 by decide) hK
                      · rw [want_none rfl] at hwant; cases hwant
                    case r5 =>
                      refine truleGh fun b__ w hW hN hold hpre => ⟨fun hwant K hK => ?_, fun hwant => ?_⟩
                      · clear hwant
                        have e1 : b__.eval (.tmp 1) = .int .i64 ((x : Nat) : Int) := (hold 1 (by kernel_rfl)).trans rfl
                        exact opw_move rfl e1 (hK _ _ rfl ⟨hRr _, fun _ _ h => h⟩)
                      · rw [want_none rfl] at hwant; cases hwant
                    case r6 =>
                      refine truleGh fun b__ w hW hN hold hpre => ⟨fun hwant K hK => ?_, fun hwant => ?_⟩
                      · clear hwant
                        have e2 : b__.eval (.tmp 2) = .int .i64 ((y : Nat) : Int) := (hold 2 (by kernel_rfl)).trans rfl
                        exact opw_move rfl e2 (hK _ _ rfl ⟨hRr _, fun _ _ h => h⟩)
                      · rw [want_none rfl] at hwant; cases hwant
                    case r7 =>
                      refine truleGh fun b__ w hW hN hold hpre => ⟨fun hwant K hK => ?_, fun hwant => ?_⟩
                      · clear hwant
                        have e71 : b__.eval (.tmp 71) = .int .i64 ((x : Nat) : Int) := hpre ⟨5, _⟩ (Array.mem_of_getElem? (i := 0) rfl) rfl _ _ rfl rfl
                        have e72 : b__.eval (.tmp 72) = .int .i64 ((y : Nat) : Int) := hpre ⟨6, _⟩ (Array.mem_of_getElem? (i := 1) rfl) rfl _ _ rfl rfl
                        exact opw_built rfl (ps := [(0, .int .i64 ((x : Nat) : Int)), (1, .int .i64 ((y : Nat) : Int))]) (cells := #[.int .i64 ((x : Nat) : Int), .int .i64 ((y : Nat) : Int)]) (by simp [e71, e72]) (by kernel_rfl) (hK _ _ rfl ⟨hRr _, fun _ _ h => h⟩)
                      · rw [want_none rfl] at hwant; cases hwant
                    case r8 =>
                      refine truleGh fun b__ w hW hN hold hpre => ⟨fun hwant K hK => ?_, fun hwant => ?_⟩
                      · clear hwant
                        have e73 : b__.eval (.tmp 73) = .agg #[.int .i64 ((x : Nat) : Int), .int .i64 ((y : Nat) : Int)] := hpre ⟨7, _⟩ (Array.mem_of_getElem? (i := 0) rfl) rfl _ _ rfl rfl
                        exact chain_side (kd := linkK) (by decide) rfl rfl Tryd.underlying25 (ps := [(0, .agg #[.int .i64 ((x : Nat) : Int), .int .i64 ((y : Nat) : Int)])]) (cells := #[.int .i64 ((x : Nat) : Int), .int .i64 ((y : Nat) : Int)]) (by simp [e73]) (by kernel_rfl) (fun _ => rfl) rfl (by decide) hK
                      · rw [want_none rfl] at hwant; cases hwant
                    case r9 =>
                      refine truleGh fun b__ w hW hN hold hpre => ⟨fun hwant K hK => ?_, fun hwant => ?_⟩
                      · clear hwant
                        have e70 : (fun (v : Value) (w : World × _) => AtS w.2 1 v) (b__.eval (.tmp 70)) w := hpre ⟨4, _⟩ (Array.mem_of_getElem? (i := 0) rfl) rfl _ _ rfl rfl
                        have e74 : (fun (v : Value) (w : World × _) => (0, v) ∈ w.2.b) (b__.eval (.tmp 74)) w := hpre ⟨8, _⟩ (Array.mem_of_getElem? (i := 1) rfl) rfl _ _ rfl rfl
                        exact chain_app (kd := linkK) (by decide) rfl rfl ty_pairs hN e70 (hW.1 hJ0) (Sl.of_own ((hW.1 hJ0).side e74)) (pcells_one [(x, y)]) rfl rfl (by simp [linkD]; omega) (by simp [linkD]; omega) (show 1 + 1 < 4 by decide) hK
                      · rw [want_none rfl] at hwant; cases hwant
                    case r10 =>
                      refine truleGh fun b__ w hW hN hold hpre => ⟨fun hwant K hK => ?_, fun hwant => ?_⟩
                      · clear hwant
                        have e0 : b__.eval (.tmp 0) = .slice A L.length c := (hold 0 (by kernel_rfl)).trans rfl
                        exact opw_move rfl e0 (hK _ _ rfl ⟨hRr _, fun _ _ h => h⟩)
                      · rw [want_none rfl] at hwant; cases hwant
                    case r11 =>
                      refine truleGh fun b__ w hW hN hold hpre => ⟨fun hwant K hK => ?_, fun hwant => ?_⟩
                      · clear hwant
                        have e8 : b__.eval (.tmp 8) = .int .i64 ((i : Nat) : Int) := (hold 8 (by kernel_rfl)).trans rfl
                        exact opw_move rfl e8 (hK _ _ rfl ⟨hRr _, fun _ _ h => h⟩)
                      · rw [want_none rfl] at hwant; cases hwant
                    case r12 =>
                      refine truleGh fun b__ w hW hN hold hpre => ⟨fun hwant K hK => ?_, fun hwant => ?_⟩
                      · clear hwant
                        have e76 : b__.eval (.tmp 76) = .slice A L.length c := hpre ⟨10, _⟩ (Array.mem_of_getElem? (i := 0) rfl) rfl _ _ rfl rfl
                        have e77 : b__.eval (.tmp 77) = .int .i64 ((i : Nat) : Int) := hpre ⟨11, _⟩ (Array.mem_of_getElem? (i := 1) rfl) rfl _ _ rfl rfl
                        exact opw_sll rfl Tryd.underlying25 (by kernel_rfl) e76 e77 hil hc1 (hK _ _ rfl ⟨hRr _, fun _ _ h => h⟩)
                      · rw [want_none rfl] at hwant; cases hwant
                    case r13 =>
                      refine truleGh fun b__ w hW hN hold hpre => ⟨fun hwant K hK => ?_, fun hwant => ?_⟩
                      · clear hwant
                        have e75 : (fun (v : Value) (w : World × _) => AtS w.2 2 v) (b__.eval (.tmp 75)) w := hpre ⟨9, _⟩ (Array.mem_of_getElem? (i := 0) rfl) rfl _ _ rfl rfl
                        have e78 : b__.eval (.tmp 78) = sliced A i L.length c 2 := hpre ⟨12, _⟩ (Array.mem_of_getElem? (i := 1) rfl) rfl _ _ rfl rfl
                        exact chain_app (kd := linkK) (by decide) rfl rfl ty_pairs hN e75 (hW.1 hJ0) (by rw [e78]; exact slc_drop (kp _ _ (hW.1 hJ0).1.ro) hil) (fun u hu => pcells_one L u (List.mem_of_mem_drop hu)) rfl rfl (by simp [linkD]; omega) (by simp [linkD]; omega) (show 2 + 1 < 4 by decide) hK
                      · rw [want_none rfl] at hwant; cases hwant
                    case r14 =>
                      refine truleGh fun b__ w hW hN hold hpre => ⟨fun hwant K hK => ?_, fun hwant => ?_⟩
                      · clear hwant
                        have e79 : (fun (v : Value) (w : World × _) => AtS w.2 3 v) (b__.eval (.tmp 79)) w := hpre ⟨13, _⟩ (Array.mem_of_getElem? (i := 0) rfl) rfl _ _ rfl rfl
                        exact opw_assign rfl rfl (hK _ _ e79 ⟨hRr _, fun _ _ h => h⟩)
                      · rw [want_none rfl] at hwant; cases hwant
                    case r15 =>
                      refine truleGh fun b__ w hW hN hold hpre => ⟨fun hwant K hK => ?_, fun hwant => ?_⟩
                      · clear hwant
                        exact opw_assign rfl rfl (hK _ _ rfl ⟨hRr _, fun _ _ h => h⟩)
                      · rw [want_none rfl] at hwant; cases hwant
                    case post =>
                      intro b__ wz hW hdf hsz hold hT hZ
                      have e66 : (fun (v : Value) (w : World × _) => AtS w.2 0 v) (b__.eval (.tmp 66)) wz := hT 0 _ 66 rfl rfl
                      have e67 : b__.eval (.tmp 67) = .slice A L.length c := hT 1 _ 67 rfl rfl
                      have e68 : b__.eval (.tmp 68) = .int .i64 ((i : Nat) : Int) := hT 2 _ 68 rfl rfl
                      have e69 : b__.eval (.tmp 69) = .slice A i c := hT 3 _ 69 rfl rfl
                      have e70 : (fun (v : Value) (w : World × _) => AtS w.2 1 v) (b__.eval (.tmp 70)) wz := hT 4 _ 70 rfl rfl
                      have e71 : b__.eval (.tmp 71) = .int .i64 ((x : Nat) : Int) := hT 5 _ 71 rfl rfl
                      have e72 : b__.eval (.tmp 72) = .int .i64 ((y : Nat) : Int) := hT 6 _ 72 rfl rfl
                      have e73 : b__.eval (.tmp 73) = .agg #[.int .i64 ((x : Nat) : Int), .int .i64 ((y : Nat) : Int)] := hT 7 _ 73 rfl rfl
                      have e74 : (fun (v : Value) (w : World × _) => (0, v) ∈ w.2.b) (b__.eval (.tmp 74)) wz := hT 8 _ 74 rfl rfl
                      have e75 : (fun (v : Value) (w : World × _) => AtS w.2 2 v) (b__.eval (.tmp 75)) wz := hT 9 _ 75 rfl rfl
                      have e76 : b__.eval (.tmp 76) = .slice A L.length c := hT 10 _ 76 rfl rfl
                      have e77 : b__.eval (.tmp 77) = .int .i64 ((i : Nat) : Int) := hT 11 _ 77 rfl rfl
                      have e78 : b__.eval (.tmp 78) = sliced A i L.length c 2 := hT 12 _ 78 rfl rfl
                      have e79 : (fun (v : Value) (w : World × _) => AtS w.2 3 v) (b__.eval (.tmp 79)) wz := hT 13 _ 79 rfl rfl
                      have e6 : (fun (v : Value) (w : World × _) => AtS w.2 3 v) (b__.eval (.tmp 6)) wz := hT 14 _ 6 rfl rfl
                      have e7 : b__.eval (.tmp 7) = .int .i64 0 := hT 15 _ 7 rfl rfl
                      obtain ⟨vs, hvs, hb⟩ := frame_of hdf hsz hold
                      replace e66 := (hvs 66) ▸ e66
                      replace e67 : vs 67 = .slice A L.length c := (hvs 67).symm.trans e67
                      replace e68 : vs 68 = .int .i64 ((i : Nat) : Int) := (hvs 68).symm.trans e68
                      replace e69 : vs 69 = .slice A i c := (hvs 69).symm.trans e69
                      replace e70 := (hvs 70) ▸ e70
                      replace e71 : vs 71 = .int .i64 ((x : Nat) : Int) := (hvs 71).symm.trans e71
                      replace e72 : vs 72 = .int .i64 ((y : Nat) : Int) := (hvs 72).symm.trans e72
                      replace e73 : vs 73 = .agg #[.int .i64 ((x : Nat) : Int), .int .i64 ((y : Nat) : Int)] := (hvs 73).symm.trans e73
                      replace e74 := (hvs 74) ▸ e74
                      replace e75 := (hvs 75) ▸ e75
                      replace e76 : vs 76 = .slice A L.length c := (hvs 76).symm.trans e76
                      replace e77 : vs 77 = .int .i64 ((i : Nat) : Int) := (hvs 77).symm.trans e77
                      replace e78 : vs 78 = sliced A i L.length c 2 := (hvs 78).symm.trans e78
                      replace e79 := (hvs 79) ▸ e79
                      replace e6 := (hvs 6) ▸ e6
                      replace e7 : vs 7 = .int .i64 0 := (hvs 7).symm.trans e7
                      subst hb
                      clear hvs hold hT hdf hsz
                      simp only [setAll, Act.put, List.setIfInBounds_toArray, List.set_cons_zero, List.set_cons_succ, List.getElem_toArray, List.getElem_cons_succ, List.getElem_cons_zero]
                      have hJ := (hW.1 hJ0).last e6 rfl
                      replace hJ : St w0 wz.1 [.own (vs 6) 50 2 (L.length + 1) (pcells (ins L (x, y)))] fun _ _ => True := by
                        have e1 : 0 + i + 1 + (L.length - i) = L.length + 1 := by omega
                        have e2 : [] ++ (pcells L).take (i * 2) ++ pcells [(x, y)] ++ (pcells L).drop (i * 2) = pcells (ins L (x, y)) := by
                          rw [List.nil_append, pcells_take, pcells_drop, ← pcells_app, ← pcells_app, ins, ← HE.out, List.append_assoc]; rfl
                        simp only [linkD] at hJ
                        rw [e1, e2] at hJ
                        exact hJ.mono (Stable.pure True) fun _ _ _ => trivial
                      rw [e7]
                      generalize vs 6 = v6 at *
                      generalize wz.1 = wf at *
                      clear hW hZ hJ0 hRr hRt e6 e7
                      go_wp2_with fail
                      all_goals
                        go_ret2
                        exact .inr ⟨x, y, rfl, rfl, hx1.out, hy1.out, hxy.out, .inr (.inr ⟨hm, HT.out, _, rfl, hJ⟩)⟩
                · have HE := Lib.hid (HST.out.2 (by rintro (h | h) <;> dsimp only at h <;> omega))
                  clear HST
                  go_wp2_with (first
                    | ((with_reducible show wpList _ _ _ (⟨_, .binOp _ _ _ _ _, _, _, _, _⟩ :: _) _ _); (first | ((with_reducible show wpList _ _ _ (⟨_, .binOp .lss _ _ _ _, _, _, _, _⟩ :: _) _ _); refine st_lss rfl _ _ _ _ rfl _ _ _ rfl rfl (fun h_ => ?_) (fun h_ => ?_)) | ((with_reducible show wpList _ _ _ (⟨_, .binOp .leq _ _ _ _, _, _, _, _⟩ :: _) _ _); refine st_leq rfl _ _ _ _ rfl _ _ _ rfl rfl (fun h_ => ?_) (fun h_ => ?_)) | ((with_reducible show wpList _ _ _ (⟨_, .binOp .gtr _ _ _ _, _, _, _, _⟩ :: _) _ _); refine st_gtr rfl _ _ _ _ rfl _ _ _ rfl rfl (fun h_ => ?_) (fun h_ => ?_)) | ((with_reducible show wpList _ _ _ (⟨_, .binOp .geq _ _ _ _, _, _, _, _⟩ :: _) _ _); refine st_geq rfl _ _ _ _ rfl _ _ _ rfl rfl (fun h_ => ?_) (fun h_ => ?_)) | ((with_reducible show wpList _ _ _ (⟨_, .binOp .eql _ _ _ _, _, _, _, _⟩ :: _) _ _); refine st_eql rfl _ _ _ _ rfl _ _ _ rfl rfl (fun h_ => ?_) (fun h_ => ?_)) | ((with_reducible show wpList _ _ _ (⟨_, .binOp .neq _ _ _ _, _, _, _, _⟩ :: _) _ _); refine st_neq rfl _ _ _ _ rfl _ _ _ rfl rfl (fun h_ => ?_) (fun h_ => ?_))) <;> go_prune)
                    | ((with_reducible show wpList _ _ _ (⟨_, .indexAddr _ _ _, _, _, _, _⟩ :: _) _ _); refine st_iaddr2 hS rfl _ _ _ rfl _ rfl rfl (by assumption) Tryd.underlying25 (by kernel_rfl) (by first | assumption | omega) _ _ (by assumption) (by assumption) ?_; intro b_ j_ hc0_ hc1_)
                    | ((with_reducible show wpList _ _ _ (⟨_, .load _ _, _, _, _, _⟩ :: _) _ _); first | refine BigFrame.wpList_want rfl fun _ hK => opw_cell rfl rfl (by kernel_rfl) hc0_ (hK _ _ ?_) | refine BigFrame.wpList_want rfl fun _ hK => opw_cell rfl rfl (by kernel_rfl) hc1_ (hK _ _ ?_)))
                  have hic : i ≤ c := by omega
                  have hJ0 : AJ w0 [] K (linkD L (x, y) i) (wr.drew, ⟨[], []⟩) := ⟨hS.drew, Nat.zero_le _⟩
                  have hN0 := AN_start linkK wr.drew
                  have hRr := @AR.refl w0 [] K (linkD L (x, y) i)
                  have hRt := @AR.trans w0 [] K (linkD L (x, y) i)
                  refine wp_region_ghost (fun i__ v w => match i__ with
                    | 0 => AtS w.2 0 v
                    | 1 => v = .slice A L.length c
                    | 2 => v = .int .i64 ((i : Nat) : Int)
                    | 3 => v = .slice A i c
                    | 4 => AtS w.2 1 v
                    | 5 => v = .int .i64 ((x : Nat) : Int)
                    | 6 => v = .int .i64 ((y : Nat) : Int)
                    | 7 => v = .agg #[.int .i64 ((x : Nat) : Int), .int .i64 ((y : Nat) : Int)]
                    | 8 => (0, v) ∈ w.2.b
                    | 9 => AtS w.2 2 v
                    | 10 => v = .slice A L.length c
                    | 11 => v = .int .i64 ((i : Nat) : Int)
                    | 12 => v = sliced A i L.length c 2
                    | 13 => AtS w.2 3 v
                    | 14 => AtS w.2 3 v
                    | 15 => v = .int .i64 0
                    | _ => True) (AR w0 [] K (linkD L (x, y) i)) (AN linkK) (⟨[], []⟩) (by kernel_rfl) (by kernel_rfl) hRr hRt ?mono ?hN ⟨?r0, ?r1, ?r2, ?r3, ?r4, ?r5, ?r6, ?r7, ?r8, ?r9, ?r10, ?r11, ?r12, ?r13, ?r14, ?r15, trivial⟩ ?post
                  case hN => first | assumption | (intro i; (try dsimp only); split <;> first | trivial | assumption | (left; assumption))
                  case mono =>
                    intro i v w w' h hb
                    match i, h with
                    | 0, h => exact h.mono hb.2.1
                    | 1, h => exact h
                    | 2, h => exact h
                    | 3, h => exact h
                    | 4, h => exact h.mono hb.2.1
                    | 5, h => exact h
                    | 6, h => exact h
                    | 7, h => exact h
                    | 8, h => exact hb.2.2 _ h
                    | 9, h => exact h.mono hb.2.1
                    | 10, h => exact h
                    | 11, h => exact h
                    | 12, h => exact h
                    | 13, h => exact h.mono hb.2.1
                    | 14, h => exact h.mono hb.2.1
                    | 15, h => exact h
                    | _ + 16, h => trivial
                  case r0 =>
                    refine truleGh fun b__ w hW hN hold hpre => ⟨fun hwant K hK => ?_, fun hwant => ?_⟩
                    · clear hwant
                      exact chain_start (kd := linkK) (by decide) rfl rfl Tryd.underlying25 (by kernel_rfl) hN rfl rfl (show 0 < 4 by decide) hK
                    · rw [want_none rfl] at hwant; cases hwant
                  case r1 =>
                    refine truleGh fun b__ w hW hN hold hpre => ⟨fun hwant K hK => ?_, fun hwant => ?_⟩
                    · clear hwant
                      have e0 : b__.eval (.tmp 0) = .slice A L.length c := (hold 0 (by kernel_rfl)).trans rfl
                      exact opw_move rfl e0 (hK _ _ rfl ⟨hRr _, fun _ _ h => h⟩)
                    · rw [want_none rfl] at hwant; cases hwant
                  case r2 =>
                    refine truleGh fun b__ w hW hN hold hpre => ⟨fun hwant K hK => ?_, fun hwant => ?_⟩
                    · clear hwant
                      have e8 : b__.eval (.tmp 8) = .int .i64 ((i : Nat) : Int) := (hold 8 (by kernel_rfl)).trans rfl
                      exact opw_move rfl e8 (hK _ _ rfl ⟨hRr _, fun _ _ h => h⟩)
                    · rw [want_none rfl] at hwant; cases hwant
                  case r3 =>
                    refine truleGh fun b__ w hW hN hold hpre => ⟨fun hwant K hK => ?_, fun hwant => ?_⟩
                    · clear hwant
                      have e67 : b__.eval (.tmp 67) = .slice A L.length c := hpre ⟨1, _⟩ (Array.mem_of_getElem? (i := 0) rfl) rfl _ _ rfl rfl
                      have e68 : b__.eval (.tmp 68) = .int .i64 ((i : Nat) : Int) := hpre ⟨2, _⟩ (Array.mem_of_getElem? (i := 1) rfl) rfl _ _ rfl rfl
                      exact opw_slh rfl Tryd.underlying25 ⟨2, by kernel_rfl⟩ e67 e68 hic (hK _ _ rfl ⟨hRr _, fun _ _ h => h⟩)
                    · rw [want_none rfl] at hwant; cases hwant
                  case r4 =>
                    refine truleGh fun b__ w hW hN hold hpre => ⟨fun hwant K hK => ?_, fun hwant => ?_⟩
                    · clear hwant
                      have e66 : (fun (v : Value) (w : World × _) => AtS w.2 0 v) (b__.eval (.tmp 66)) w := hpre ⟨0, _⟩ (Array.mem_of_getElem? (i := 0) rfl) rfl _ _ rfl rfl
                      have e69 : b__.eval (.tmp 69) = .slice A i c := hpre ⟨3, _⟩ (Array.mem_of_getElem? (i := 1) rfl) rfl _ _ rfl rfl
                      exact chain_app (kd := linkK) (by decide) rfl rfl ty_pairs hN e66 (hW.1 hJ0) (by rw [e69]; exact slc_take (kp _ _ (hW.1 hJ0).1.ro) hil) (fun u hu => pcells_one L u (List.mem_of_mem_take hu)) rfl rfl (by simp [linkD]; omega) (by simp [linkD]; omega) (show 0 + 1 < 4 by decide) hK
                    · rw [want_none rfl] at hwant; cases hwant
                  case r5 =>
                    refine truleGh fun b__ w hW hN hold hpre => ⟨fun hwant K hK => ?_, fun hwant => ?_⟩
                    · clear hwant
                      have e1 : b__.eval (.tmp 1) = .int .i64 ((x : Nat) : Int) := (hold 1 (by kernel_rfl)).trans rfl
                      exact opw_move rfl e1 (hK _ _ rfl ⟨hRr _, fun _ _ h => h⟩)
                    · rw [want_none rfl] at hwant; cases hwant
                  case r6 =>
                    refine truleGh fun b__ w hW hN hold hpre => ⟨fun hwant K hK => ?_, fun hwant => ?_⟩
                    · clear hwant
                      have e2 : b__.eval (.tmp 2) = .int .i64 ((y : Nat) : Int) := (hold 2 (by kernel_rfl)).trans rfl
                      exact opw_move rfl e2 (hK _ _ rfl ⟨hRr _, fun _ _ h => h⟩)
                    · rw [want_none rfl] at hwant; cases hwant
                  case r7 =>
                    refine truleGh fun b__ w hW hN hold hpre => ⟨fun hwant K hK => ?_, fun hwant => ?_⟩
                    · clear hwant
                      have e71 : b__.eval (.tmp 71) = .int .i64 ((x : Nat) : Int) := hpre ⟨5, _⟩ (Array.mem_of_getElem? (i := 0) rfl) rfl _ _ rfl rfl
                      have e72 : b__.eval (.tmp 72) = .int .i64 ((y : Nat) : Int) := hpre ⟨6, _⟩ (Array.mem_of_getElem? (i := 1) rfl) rfl _ _ rfl rfl
                      exact opw_built rfl (ps := [(0, .int .i64 ((x : Nat) : Int)), (1, .int .i64 ((y : Nat) : Int))]) (cells := #[.int .i64 ((x : Nat) : Int), .int .i64 ((y : Nat) : Int)]) (by simp [e71, e72]) (by kernel_rfl) (hK _ _ rfl ⟨hRr _, fun _ _ h => h⟩)
                    · rw [want_none rfl] at hwant; cases hwant
                  case r8 =>
                    refine truleGh fun b__ w hW hN hold hpre => ⟨fun hwant K hK => ?_, fun hwant => ?_⟩
                    · clear hwant
                      have e73 : b__.eval (.tmp 73) = .agg #[.int .i64 ((x : Nat) : Int), .int .i64 ((y : Nat) : Int)] := hpre ⟨7, _⟩ (Array.mem_of_getElem? (i := 0) rfl) rfl _ _ rfl rfl
                      exact chain_side (kd := linkK) (by decide) rfl rfl Tryd.underlying25 (ps := [(0, .agg #[.int .i64 ((x : Nat) : Int), .int .i64 ((y : Nat) : Int)])]) (cells := #[.int .i64 ((x : Nat) : Int), .int .i64 ((y : Nat) : Int)]) (by simp [e73]) (by kernel_rfl) (fun _ => rfl) rfl (by decide) hK
                    · rw [want_none rfl] at hwant; cases hwant
                  case r9 =>
                    refine truleGh fun b__ w hW hN hold hpre => ⟨fun hwant K hK => ?_, fun hwant => ?_⟩
                    · clear hwant
                      have e70 : (fun (v : Value) (w : World × _) => AtS w.2 1 v) (b__.eval (.tmp 70)) w := hpre ⟨4, _⟩ (Array.mem_of_getElem? (i := 0) rfl) rfl _ _ rfl rfl
                      have e74 : (fun (v : Value) (w : World × _) => (0, v) ∈ w.2.b) (b__.eval (.tmp 74)) w := hpre ⟨8, _⟩ (Array.mem_of_getElem? (i := 1) rfl) rfl _ _ rfl rfl
                      exact chain_app (kd := linkK) (by decide) rfl rfl ty_pairs hN e70 (hW.1 hJ0) (Sl.of_own ((hW.1 hJ0).side e74)) (pcells_one [(x, y)]) rfl rfl (by simp [linkD]; omega) (by simp [linkD]; omega) (show 1 + 1 < 4 by decide) hK
                    · rw [want_none rfl] at hwant; cases hwant
                  case r10 =>
                    refine truleGh fun b__ w hW hN hold hpre => ⟨fun hwant K hK => ?_, fun hwant => ?_⟩
                    · clear hwant
                      have e0 : b__.eval (.tmp 0) = .slice A L.length c := (hold 0 (by kernel_rfl)).trans rfl
                      exact opw_move rfl e0 (hK _ _ rfl ⟨hRr _, fun _ _ h => h⟩)
                    · rw [want_none rfl] at hwant; cases hwant
                  case r11 =>
                    refine truleGh fun b__ w hW hN hold hpre => ⟨fun hwant K hK => ?_, fun hwant => ?_⟩
                    · clear hwant
                      have e8 : b__.eval (.tmp 8) = .int .i64 ((i : Nat) : Int) := (hold 8 (by kernel_rfl)).trans rfl
                      exact opw_move rfl e8 (hK _ _ rfl ⟨hRr _, fun _ _ h => h⟩)
                    · rw [want_none rfl] at hwant; cases hwant
                  case r12 =>
                    refine truleGh fun b__ w hW hN hold hpre => ⟨fun hwant K hK => ?_, fun hwant => ?_⟩
                    · clear hwant
                      have e76 : b__.eval (.tmp 76) = .slice A L.length c := hpre ⟨10, _⟩ (Array.mem_of_getElem? (i := 0) rfl) rfl _ _ rfl rfl
                      have e77 : b__.eval (.tmp 77) = .int .i64 ((i : Nat) : Int) := hpre ⟨11, _⟩ (Array.mem_of_getElem? (i := 1) rfl) rfl _ _ rfl rfl
                      exact opw_sll rfl Tryd.underlying25 (by kernel_rfl) e76 e77 hil hc1 (hK _ _ rfl ⟨hRr _, fun _ _ h => h⟩)
                    · rw [want_none rfl] at hwant; cases hwant
                  case r13 =>
                    refine truleGh fun b__ w hW hN hold hpre => ⟨fun hwant K hK => ?_, fun hwant => ?_⟩
                    · clear hwant
                      have e75 : (fun (v : Value) (w : World × _) => AtS w.2 2 v) (b__.eval (.tmp 75)) w := hpre ⟨9, _⟩ (Array.mem_of_getElem? (i := 0) rfl) rfl _ _ rfl rfl
                      have e78 : b__.eval (.tmp 78) = sliced A i L.length c 2 := hpre ⟨12, _⟩ (Array.mem_of_getElem? (i := 1) rfl) rfl _ _ rfl rfl
                      exact chain_app (kd := linkK) (by decide) rfl rfl ty_pairs hN e75 (hW.1 hJ0) (by rw [e78]; exact slc_drop (kp _ _ (hW.1 hJ0).1.ro) hil) (fun u hu => pcells_one L u (List.mem_of_mem_drop hu)) rfl rfl (by simp [linkD]; omega) (by simp [linkD]; omega) (show 2 + 1 < 4 by decide) hK
                    · rw [want_none rfl] at hwant; cases hwant
                  case r14 =>
                    refine truleGh fun b__ w hW hN hold hpre => ⟨fun hwant K hK => ?_, fun hwant => ?_⟩
                    · clear hwant
                      have e79 : (fun (v : Value) (w : World × _) => AtS w.2 3 v) (b__.eval (.tmp 79)) w := hpre ⟨13, _⟩ (Array.mem_of_getElem? (i := 0) rfl) rfl _ _ rfl rfl
                      exact opw_assign rfl rfl (hK _ _ e79 ⟨hRr _, fun _ _ h => h⟩)
                    · rw [want_none rfl] at hwant; cases hwant
                  case r15 =>
                    refine truleGh fun b__ w hW hN hold hpre => ⟨fun hwant K hK => ?_, fun hwant => ?_⟩
                    · clear hwant
                      exact opw_assign rfl rfl (hK _ _ rfl ⟨hRr _, fun _ _ h => h⟩)
                    · rw [want_none rfl] at hwant; cases hwant
                  case post =>
                    intro b__ wz hW hdf hsz hold hT hZ
                    have e66 : (fun (v : Value) (w : World × _) => AtS w.2 0 v) (b__.eval (.tmp 66)) wz := hT 0 _ 66 rfl rfl
                    have e67 : b__.eval (.tmp 67) = .slice A L.length c := hT 1 _ 67 rfl rfl
                    have e68 : b__.eval (.tmp 68) = .int .i64 ((i : Nat) : Int) := hT 2 _ 68 rfl rfl
                    have e69 : b__.eval (.tmp 69) = .slice A i c := hT 3 _ 69 rfl rfl
                    have e70 : (fun (v : Value) (w : World × _) => AtS w.2 1 v) (b__.eval (.tmp 70)) wz := hT 4 _ 70 rfl rfl
                    have e71 : b__.eval (.tmp 71) = .int .i64 ((x : Nat) : Int) := hT 5 _ 71 rfl rfl
                    have e72 : b__.eval (.tmp 72) = .int .i64 ((y : Nat) : Int) := hT 6 _ 72 rfl rfl
                    have e73 : b__.eval (.tmp 73) = .agg #[.int .i64 ((x : Nat) : Int), .int .i64 ((y : Nat) : Int)] := hT 7 _ 73 rfl rfl
                    have e74 : (fun (v : Value) (w : World × _) => (0, v) ∈ w.2.b) (b__.eval (.tmp 74)) wz := hT 8 _ 74 rfl rfl
                    have e75 : (fun (v : Value) (w : World × _) => AtS w.2 2 v) (b__.eval (.tmp 75)) wz := hT 9 _ 75 rfl rfl
                    have e76 : b__.eval (.tmp 76) = .slice A L.length c := hT 10 _ 76 rfl rfl
                    have e77 : b__.eval (.tmp 77) = .int .i64 ((i : Nat) : Int) := hT 11 _ 77 rfl rfl
                    have e78 : b__.eval (.tmp 78) = sliced A i L.length c 2 := hT 12 _ 78 rfl rfl
                    have e79 : (fun (v : Value) (w : World × _) => AtS w.2 3 v) (b__.eval (.tmp 79)) wz := hT 13 _ 79 rfl rfl
                    have e6 : (fun (v : Value) (w : World × _) => AtS w.2 3 v) (b__.eval (.tmp 6)) wz := hT 14 _ 6 rfl rfl
                    have e7 : b__.eval (.tmp 7) = .int .i64 0 := hT 15 _ 7 rfl rfl
                    obtain ⟨vs, hvs, hb⟩ := frame_of hdf hsz hold
                    replace e66 := (hvs 66) ▸ e66
                    replace e67 : vs 67 = .slice A L.length c := (hvs 67).symm.trans e67
                    replace e68 : vs 68 = .int .i64 ((i : Nat) : Int) := (hvs 68).symm.trans e68
                    replace e69 : vs 69 = .slice A i c := (hvs 69).symm.trans e69
                    replace e70 := (hvs 70) ▸ e70
                    replace e71 : vs 71 = .int .i64 ((x : Nat) : Int) := (hvs 71).symm.trans e71
                    replace e72 : vs 72 = .int .i64 ((y : Nat) : Int) := (hvs 72).symm.trans e72
                    replace e73 : vs 73 = .agg #[.int .i64 ((x : Nat) : Int), .int .i64 ((y : Nat) : Int)] := (hvs 73).symm.trans e73
                    replace e74 := (hvs 74) ▸ e74
                    replace e75 := (hvs 75) ▸ e75
                    replace e76 : vs 76 = .slice A L.length c := (hvs 76).symm.trans e76
                    replace e77 : vs 77 = .int .i64 ((i : Nat) : Int) := (hvs 77).symm.trans e77
                    replace e78 : vs 78 = sliced A i L.length c 2 := (hvs 78).symm.trans e78
                    replace e79 := (hvs 79) ▸ e79
                    replace e6 := (hvs 6) ▸ e6
                    replace e7 : vs 7 = .int .i64 0 := (hvs 7).symm.trans e7
                    subst hb
                    clear hvs hold hT hdf hsz
                    simp only [setAll, Act.put, List.setIfInBounds_toArray, List.set_cons_zero, List.set_cons_succ, List.getElem_toArray, List.getElem_cons_succ, List.getElem_cons_zero]
                    have hJ := (hW.1 hJ0).last e6 rfl
                    replace hJ : St w0 wz.1 [.own (vs 6) 50 2 (L.length + 1) (pcells (ins L (x, y)))] fun _ _ => True := by
                      have e1 : 0 + i + 1 + (L.length - i) = L.length + 1 := by omega
                      have e2 : [] ++ (pcells L).take (i * 2) ++ pcells [(x, y)] ++ (pcells L).drop (i * 2) = pcells (ins L (x, y)) := by
                        rw [List.nil_append, pcells_take, pcells_drop, ← pcells_app, ← pcells_app, ins, ← HE.out, List.append_assoc]; rfl
                      simp only [linkD] at hJ
                      rw [e1, e2] at hJ
                      exact hJ.mono (Stable.pure True) fun _ _ _ => trivial
                    rw [e7]
                    generalize vs 6 = v6 at *
                    generalize wz.1 = wf at *
                    clear hW hZ hJ0 hRr hRt e6 e7
                    go_wp2_with fail
                    all_goals
                      go_ret2
                      exact .inr ⟨x, y, rfl, rfl, hx1.out, hy1.out, hxy.out, .inr (.inr ⟨hm, HT.out, _, rfl, hJ⟩)⟩
              · have HE : Hid (i = insAt L (x, y)) := Lib.hid (Nat.le_antisymm HIA.out (by have := insAt_le L (x, y); omega))
                go_wp2_with (first | ((with_reducible show wpList _ _ _ (⟨_, .binOp _ _ _ _ _, _, _, _, _⟩ :: _) _ _); (first | ((with_reducible show wpList _ _ _ (⟨_, .binOp .lss _ _ _ _, _, _, _, _⟩ :: _) _ _); refine st_lss rfl _ _ _ _ rfl _ _ _ rfl rfl (fun h_ => ?_) (fun h_ => ?_)) | ((with_reducible show wpList _ _ _ (⟨_, .binOp .leq _ _ _ _, _, _, _, _⟩ :: _) _ _); refine st_leq rfl _ _ _ _ rfl _ _ _ rfl rfl (fun h_ => ?_) (fun h_ => ?_)) | ((with_reducible show wpList _ _ _ (⟨_, .binOp .gtr _ _ _ _, _, _, _, _⟩ :: _) _ _); refine st_gtr rfl _ _ _ _ rfl _ _ _ rfl rfl (fun h_ => ?_) (fun h_ => ?_)) | ((with_reducible show wpList _ _ _ (⟨_, .binOp .geq _ _ _ _, _, _, _, _⟩ :: _) _ _); refine st_geq rfl _ _ _ _ rfl _ _ _ rfl rfl (fun h_ => ?_) (fun h_ => ?_)) | ((with_reducible show wpList _ _ _ (⟨_, .binOp .eql _ _ _ _, _, _, _, _⟩ :: _) _ _); refine st_eql rfl _ _ _ _ rfl _ _ _ rfl rfl (fun h_ => ?_) (fun h_ => ?_)) | ((with_reducible show wpList _ _ _ (⟨_, .binOp .neq _ _ _ _, _, _, _, _⟩ :: _) _ _); refine st_neq rfl _ _ _ _ rfl _ _ _ rfl rfl (fun h_ => ?_) (fun h_ => ?_))) <;> go_prune))
                have hic : i ≤ c := by omega
                have hJ0 : AJ w0 [] K (linkD L (x, y) i) (wr.drew, ⟨[], []⟩) := ⟨hS.drew, Nat.zero_le _⟩
                have hN0 := AN_start linkK wr.drew
                have hRr := @AR.refl w0 [] K (linkD L (x, y) i)
                have hRt := @AR.trans w0 [] K (linkD L (x, y) i)
                refine wp_region_ghost (fun i__ v w => match i__ with
                  | 0 => AtS w.2 0 v
                  | 1 => v = .slice A L.length c
                  | 2 => v = .int .i64 ((i : Nat) : Int)
                  | 3 => v = .slice A i c
                  | 4 => AtS w.2 1 v
                  | 5 => v = .int .i64 ((x : Nat) : Int)
                  | 6 => v = .int .i64 ((y : Nat) : Int)
                  | 7 => v = .agg #[.int .i64 ((x : Nat) : Int), .int .i64 ((y : Nat) : Int)]
                  | 8 => (0, v) ∈ w.2.b
                  | 9 => AtS w.2 2 v
                  | 10 => v = .slice A L.length c
                  | 11 => v = .int .i64 ((i : Nat) : Int)
                  | 12 => v = sliced A i L.length c 2
                  | 13 => AtS w.2 3 v
                  | 14 => AtS w.2 3 v
                  | 15 => v = .int .i64 0
                  | _ => True) (AR w0 [] K (linkD L (x, y) i)) (AN linkK) (⟨[], []⟩) (by kernel_rfl) (by kernel_rfl) hRr hRt ?mono ?hN ⟨?r0, ?r1, ?r2, ?r3, ?r4, ?r5, ?r6, ?r7, ?r8, ?r9, ?r10, ?r11, ?r12, ?r13, ?r14, ?r15, trivial⟩ ?post
                case hN => first | assumption | (intro i; (try dsimp only); split <;> first | trivial | assumption | (left; assumption))
                case mono =>
                  intro i v w w' h hb
                  match i, h with
                  | 0, h => exact h.mono hb.2.1
                  | 1, h => exact h
                  | 2, h => exact h
                  | 3, h => exact h
                  | 4, h => exact h.mono hb.2.1
                  | 5, h => exact h
                  | 6, h => exact h
                  | 7, h => exact h
                  | 8, h => exact hb.2.2 _ h
                  | 9, h => exact h.mono hb.2.1
                  | 10, h => exact h
                  | 11, h => exact h
                  | 12, h => exact h
                  | 13, h => exact h.mono hb.2.1
                  | 14, h => exact h.mono hb.2.1
                  | 15, h => exact h
                  | _ + 16, h => trivial
                case r0 =>
                  refine truleGh fun b__ w hW hN hold hpre => ⟨fun hwant K hK => ?_, fun hwant => ?_⟩
                  · clear hwant
                    exact chain_start (kd := linkK) (by decide) rfl rfl Tryd.underlying25 (by kernel_rfl) hN rfl rfl (show 0 < 4 by decide) hK
                  · rw [want_none rfl] at hwant; cases hwant
                case r1 =>
                  refine truleGh fun b__ w hW hN hold hpre => ⟨fun hwant K hK => ?_, fun hwant => ?_⟩
                  · clear hwant
                    have e0 : b__.eval (.tmp 0) = .slice A L.length c := (hold 0 (by kernel_rfl)).trans rfl
                    exact opw_move rfl e0 (hK _ _ rfl ⟨hRr _, fun _ _ h => h⟩)
                  · rw [want_none rfl] at hwant; cases hwant
                case r2 =>
                  refine truleGh fun b__ w hW hN hold hpre => ⟨fun hwant K hK => ?_, fun hwant => ?_⟩
                  · clear hwant
                    have e8 : b__.eval (.tmp 8) = .int .i64 ((i : Nat) : Int) := (hold 8 (by kernel_rfl)).trans rfl
                    exact opw_move rfl e8 (hK _ _ rfl ⟨hRr _, fun _ _ h => h⟩)
                  · rw [want_none rfl] at hwant; cases hwant
                case r3 =>
                  refine truleGh fun b__ w hW hN hold hpre => ⟨fun hwant K hK => ?_, fun hwant => ?_⟩
                  · clear hwant
                    have e67 : b__.eval (.tmp 67) = .slice A L.length c := hpre ⟨1, _⟩ (Array.mem_of_getElem? (i := 0) rfl) rfl _ _ rfl rfl
                    have e68 : b__.eval (.tmp 68) = .int .i64 ((i : Nat) : Int) := hpre ⟨2, _⟩ (Array.mem_of_getElem? (i := 1) rfl) rfl _ _ rfl rfl
                    exact opw_slh rfl Tryd.underlying25 ⟨2, by kernel_rfl⟩ e67 e68 hic (hK _ _ rfl ⟨hRr _, fun _ _ h => h⟩)
                  · rw [want_none rfl] at hwant; cases hwant
                case r4 =>
                  refine truleGh fun b__ w hW hN hold hpre => ⟨fun hwant K hK => ?_, fun hwant => ?_⟩
                  · clear hwant
                    have e66 : (fun (v : Value) (w : World × _) => AtS w.2 0 v) (b__.eval (.tmp 66)) w := hpre ⟨0, _⟩ (Array.mem_of_getElem? (i := 0) rfl) rfl _ _ rfl rfl
                    have e69 : b__.eval (.tmp 69) = .slice A i c := hpre ⟨3, _⟩ (Array.mem_of_getElem? (i := 1) rfl) rfl _ _ rfl rfl
                    exact chain_app (kd := linkK) (by decide) rfl rfl ty_pairs hN e66 (hW.1 hJ0) (by rw [e69]; exact slc_take (kp _ _ (hW.1 hJ0).1.ro) hil) (fun u hu => pcells_one L u (List.mem_of_mem_take hu)) rfl rfl (by simp [linkD]; omega) (by simp [linkD]; omega) (show 0 + 1 < 4 by decide) hK
                  · rw [want_none rfl] at hwant; cases hwant
                case r5 =>
                  refine truleGh fun b__ w hW hN hold hpre => ⟨fun hwant K hK => ?_, fun hwant => ?_⟩
                  · clear hwant
                    have e1 : b__.eval (.tmp 1) = .int .i64 ((x : Nat) : Int) := (hold 1 (by kernel_rfl)).trans rfl
                    exact opw_move rfl e1 (hK _ _ rfl ⟨hRr _, fun _ _ h => h⟩)
                  · rw [want_none rfl] at hwant; cases hwant
                case r6 =>
                  refine truleGh fun b__ w hW hN hold hpre => ⟨fun hwant K hK => ?_, fun hwant => ?_⟩
                  · clear hwant
                    have e2 : b__.eval (.tmp 2) = .int .i64 ((y : Nat) : Int) := (hold 2 (by kernel_rfl)).trans rfl
                    exact opw_move rfl e2 (hK _ _ rfl ⟨hRr _, fun _ _ h => h⟩)
                  · rw [want_none rfl] at hwant; cases hwant
                case r7 =>
                  refine truleGh fun b__ w hW hN hold hpre => ⟨fun hwant K hK => ?_, fun hwant => ?_⟩
                  · clear hwant
                    have e71 : b__.eval (.tmp 71) = .int .i64 ((x : Nat) : Int) := hpre ⟨5, _⟩ (Array.mem_of_getElem? (i := 0) rfl) rfl _ _ rfl rfl
                    have e72 : b__.eval (.tmp 72) = .int .i64 ((y : Nat) : Int) := hpre ⟨6, _⟩ (Array.mem_of_getElem? (i := 1) rfl) rfl _ _ rfl rfl
                    exact opw_built rfl (ps := [(0, .int .i64 ((x : Nat) : Int)), (1, .int .i64 ((y : Nat) : Int))]) (cells := #[.int .i64 ((x : Nat) : Int), .int .i64 ((y : Nat) : Int)]) (by simp [e71, e72]) (by kernel_rfl) (hK _ _ rfl ⟨hRr _, fun _ _ h => h⟩)
                  · rw [want_none rfl] at hwant; cases hwant
                case r8 =>
                  refine truleGh fun b__ w hW hN hold hpre => ⟨fun hwant K hK => ?_, fun hwant => ?_⟩
                  · clear hwant
                    have e73 : b__.eval (.tmp 73) = .agg #[.int .i64 ((x : Nat) : Int), .int .i64 ((y : Nat) : Int)] := hpre ⟨7, _⟩ (Array.mem_of_getElem? (i := 0) rfl) rfl _ _ rfl rfl
                    exact chain_side (kd := linkK) (by decide) rfl rfl Tryd.underlying25 (ps := [(0, .agg #[.int .i64 ((x : Nat) : Int), .int .i64 ((y : Nat) : Int)])]) (cells := #[.int .i64 ((x : Nat) : Int), .int .i64 ((y : Nat) : Int)]) (by simp [e73]) (by kernel_rfl) (fun _ => rfl) rfl (by decide) hK
                  · rw [want_none rfl] at hwant; cases hwant
                case r9 =>
                  refine truleGh fun b__ w hW hN hold hpre => ⟨fun hwant K hK => ?_, fun hwant => ?_⟩
                  · clear hwant
                    have e70 : (fun (v : Value) (w : World × _) => AtS w.2 1 v) (b__.eval (.tmp 70)) w := hpre ⟨4, _⟩ (Array.mem_of_getElem? (i := 0) rfl) rfl _ _ rfl rfl
                    have e74 : (fun (v : Value) (w : World × _) => (0, v) ∈ w.2.b) (b__.eval (.tmp 74)) w := hpre ⟨8, _⟩ (Array.mem_of_getElem? (i := 1) rfl) rfl _ _ rfl rfl
                    exact chain_app (kd := linkK) (by decide) rfl rfl ty_pairs hN e70 (hW.1 hJ0) (Sl.of_own ((hW.1 hJ0).side e74)) (pcells_one [(x, y)]) rfl rfl (by simp [linkD]; omega) (by simp [linkD]; omega) (show 1 + 1 < 4 by decide) hK
                  · rw [want_none rfl] at hwant; cases hwant
                case r10 =>
                  refine truleGh fun b__ w hW hN hold hpre => ⟨fun hwant K hK => ?_, fun hwant => ?_⟩
                  · clear hwant
                    have e0 : b__.eval (.tmp 0) = .slice A L.length c := (hold 0 (by kernel_rfl)).trans rfl
                    exact opw_move rfl e0 (hK _ _ rfl ⟨hRr _, fun _ _ h => h⟩)
                  · rw [want_none rfl] at hwant; cases hwant
                case r11 =>
                  refine truleGh fun b__ w hW hN hold hpre => ⟨fun hwant K hK => ?_, fun hwant => ?_⟩
                  · clear hwant
                    have e8 : b__.eval (.tmp 8) = .int .i64 ((i : Nat) : Int) := (hold 8 (by kernel_rfl)).trans rfl
                    exact opw_move rfl e8 (hK _ _ rfl ⟨hRr _, fun _ _ h => h⟩)
                  · rw [want_none rfl] at hwant; cases hwant
                case r12 =>
                  refine truleGh fun b__ w hW hN hold hpre => ⟨fun hwant K hK => ?_, fun hwant => ?_⟩
                  · clear hwant
                    have e76 : b__.eval (.tmp 76) = .slice A L.length c := hpre ⟨10, _⟩ (Array.mem_of_getElem? (i := 0) rfl) rfl _ _ rfl rfl
                    have e77 : b__.eval (.tmp 77) = .int .i64 ((i : Nat) : Int) := hpre ⟨11, _⟩ (Array.mem_of_getElem? (i := 1) rfl) rfl _ _ rfl rfl
                    exact opw_sll rfl Tryd.underlying25 (by kernel_rfl) e76 e77 hil hc1 (hK _ _ rfl ⟨hRr _, fun _ _ h => h⟩)
                  · rw [want_none rfl] at hwant; cases hwant
                case r13 =>
                  refine truleGh fun b__ w hW hN hold hpre => ⟨fun hwant K hK => ?_, fun hwant => ?_⟩
                  · clear hwant
                    have e75 : (fun (v : Value) (w : World × _) => AtS w.2 2 v) (b__.eval (.tmp 75)) w := hpre ⟨9, _⟩ (Array.mem_of_getElem? (i := 0) rfl) rfl _ _ rfl rfl
                    have e78 : b__.eval (.tmp 78) = sliced A i L.length c 2 := hpre ⟨12, _⟩ (Array.mem_of_getElem? (i := 1) rfl) rfl _ _ rfl rfl
                    exact chain_app (kd := linkK) (by decide) rfl rfl ty_pairs hN e75 (hW.1 hJ0) (by rw [e78]; exact slc_drop (kp _ _ (hW.1 hJ0).1.ro) hil) (fun u hu => pcells_one L u (List.mem_of_mem_drop hu)) rfl rfl (by simp [linkD]; omega) (by simp [linkD]; omega) (show 2 + 1 < 4 by decide) hK
                  · rw [want_none rfl] at hwant; cases hwant
                case r14 =>
                  refine truleGh fun b__ w hW hN hold hpre => ⟨fun hwant K hK => ?_, fun hwant => ?_⟩
                  · clear hwant
                    have e79 : (fun (v : Value) (w : World × _) => AtS w.2 3 v) (b__.eval (.tmp 79)) w := hpre ⟨13, _⟩ (Array.mem_of_getElem? (i := 0) rfl) rfl _ _ rfl rfl
                    exact opw_assign rfl rfl (hK _ _ e79 ⟨hRr _, fun _ _ h => h⟩)
                  · rw [want_none rfl] at hwant; cases hwant
                case r15 =>
                  refine truleGh fun b__ w hW hN hold hpre => ⟨fun hwant K hK => ?_, fun hwant => ?_⟩
                  · clear hwant
                    exact opw_assign rfl rfl (hK _ _ rfl ⟨hRr _, fun _ _ h => h⟩)
                  · rw [want_none rfl] at hwant; cases hwant
                case post =>
                  intro b__ wz hW hdf hsz hold hT hZ
                  have e66 : (fun (v : Value) (w : World × _) => AtS w.2 0 v) (b__.eval (.tmp 66)) wz := hT 0 _ 66 rfl rfl
                  have e67 : b__.eval (.tmp 67) = .slice A L.length c := hT 1 _ 67 rfl rfl
                  have e68 : b__.eval (.tmp 68) = .int .i64 ((i : Nat) : Int) := hT 2 _ 68 rfl rfl
                  have e69 : b__.eval (.tmp 69) = .slice A i c := hT 3 _ 69 rfl rfl
                  have e70 : (fun (v : Value) (w : World × _) => AtS w.2 1 v) (b__.eval (.tmp 70)) wz := hT 4 _ 70 rfl rfl
                  have e71 : b__.eval (.tmp 71) = .int .i64 ((x : Nat) : Int) := hT 5 _ 71 rfl rfl
                  have e72 : b__.eval (.tmp 72) = .int .i64 ((y : Nat) : Int) := hT 6 _ 72 rfl rfl
                  have e73 : b__.eval (.tmp 73) = .agg #[.int .i64 ((x : Nat) : Int), .int .i64 ((y : Nat) : Int)] := hT 7 _ 73 rfl rfl
                  have e74 : (fun (v : Value) (w : World × _) => (0, v) ∈ w.2.b) (b__.eval (.tmp 74)) wz := hT 8 _ 74 rfl rfl
                  have e75 : (fun (v : Value) (w : World × _) => AtS w.2 2 v) (b__.eval (.tmp 75)) wz := hT 9 _ 75 rfl rfl
                  have e76 : b__.eval (.tmp 76) = .slice A L.length c := hT 10 _ 76 rfl rfl
                  have e77 : b__.eval (.tmp 77) = .int .i64 ((i : Nat) : Int) := hT 11 _ 77 rfl rfl
                  have e78 : b__.eval (.tmp 78) = sliced A i L.length c 2 := hT 12 _ 78 rfl rfl
                  have e79 : (fun (v : Value) (w : World × _) => AtS w.2 3 v) (b__.eval (.tmp 79)) wz := hT 13 _ 79 rfl rfl
                  have e6 : (fun (v : Value) (w : World × _) => AtS w.2 3 v) (b__.eval (.tmp 6)) wz := hT 14 _ 6 rfl rfl
                  have e7 : b__.eval (.tmp 7) = .int .i64 0 := hT 15 _ 7 rfl rfl
                  obtain ⟨vs, hvs, hb⟩ := frame_of hdf hsz hold
                  replace e66 := (hvs 66) ▸ e66
                  replace e67 : vs 67 = .slice A L.length c := (hvs 67).symm.trans e67
                  replace e68 : vs 68 = .int .i64 ((i : Nat) : Int) := (hvs 68).symm.trans e68
                  replace e69 : vs 69 = .slice A i c := (hvs 69).symm.trans e69
                  replace e70 := (hvs 70) ▸ e70
                  replace e71 : vs 71 = .int .i64 ((x : Nat) : Int) := (hvs 71).symm.trans e71
                  replace e72 : vs 72 = .int .i64 ((y : Nat) : Int) := (hvs 72).symm.trans e72
                  replace e73 : vs 73 = .agg #[.int .i64 ((x : Nat) : Int), .int .i64 ((y : Nat) : Int)] := (hvs 73).symm.trans e73
                  replace e74 := (hvs 74) ▸ e74
                  replace e75 := (hvs 75) ▸ e75
                  replace e76 : vs 76 = .slice A L.length c := (hvs 76).symm.trans e76
                  replace e77 : vs 77 = .int .i64 ((i : Nat) : Int) := (hvs 77).symm.trans e77
                  replace e78 : vs 78 = sliced A i L.length c 2 := (hvs 78).symm.trans e78
                  replace e79 := (hvs 79) ▸ e79
                  replace e6 := (hvs 6) ▸ e6
                  replace e7 : vs 7 = .int .i64 0 := (hvs 7).symm.trans e7
                  subst hb
                  clear hvs hold hT hdf hsz
                  simp only [setAll, Act.put, List.setIfInBounds_toArray, List.set_cons_zero, List.set_cons_succ, List.getElem_toArray, List.getElem_cons_succ, List.getElem_cons_zero]
                  have hJ := (hW.1 hJ0).last e6 rfl
                  replace hJ : St w0 wz.1 [.own (vs 6) 50 2 (L.length + 1) (pcells (ins L (x, y)))] fun _ _ => True := by
                    have e1 : 0 + i + 1 + (L.length - i) = L.length + 1 := by omega
                    have e2 : [] ++ (pcells L).take (i * 2) ++ pcells [(x, y)] ++ (pcells L).drop (i * 2) = pcells (ins L (x, y)) := by
                      rw [List.nil_append, pcells_take, pcells_drop, ← pcells_app, ← pcells_app, ins, ← HE.out, List.append_assoc]; rfl
                    simp only [linkD] at hJ
                    rw [e1, e2] at hJ
                    exact hJ.mono (Stable.pure True) fun _ _ _ => trivial
                  rw [e7]
                  generalize vs 6 = v6 at *
                  generalize wz.1 = wf at *
                  clear hW hZ hJ0 hRr hRt e6 e7
                  go_wp2_with fail
                  all_goals
                    go_ret2
                    exact .inr ⟨x, y, rfl, rfl, hx1.out, hy1.out, hxy.out, .inr (.inr ⟨hm, HT.out, _, rfl, hJ⟩)⟩
    · have HRB := Lib.hid (decide_eq_false hrb)
      have HNO : Hid (¬ twoR a b) := Lib.hid fun h => hrb h.2.1
      go_enter Tryd.func68, Tryd.ntmps68
      go_wp2_with (first
        | ((with_reducible show wpList _ _ _ (⟨_, .binOp _ _ _ _ _, _, _, _, _⟩ :: _) _ _); (first | ((with_reducible show wpList _ _ _ (⟨_, .binOp .lss _ _ _ _, _, _, _, _⟩ :: _) _ _); refine st_lss rfl _ _ _ _ rfl _ _ _ rfl rfl (fun h_ => ?_) (fun h_ => ?_)) | ((with_reducible show wpList _ _ _ (⟨_, .binOp .leq _ _ _ _, _, _, _, _⟩ :: _) _ _); refine st_leq rfl _ _ _ _ rfl _ _ _ rfl rfl (fun h_ => ?_) (fun h_ => ?_)) | ((with_reducible show wpList _ _ _ (⟨_, .binOp .gtr _ _ _ _, _, _, _, _⟩ :: _) _ _); refine st_gtr rfl _ _ _ _ rfl _ _ _ rfl rfl (fun h_ => ?_) (fun h_ => ?_)) | ((with_reducible show wpList _ _ _ (⟨_, .binOp .geq _ _ _ _, _, _, _, _⟩ :: _) _ _); refine st_geq rfl _ _ _ _ rfl _ _ _ rfl rfl (fun h_ => ?_) (fun h_ => ?_)) | ((with_reducible show wpList _ _ _ (⟨_, .binOp .eql _ _ _ _, _, _, _, _⟩ :: _) _ _); refine st_eql rfl _ _ _ _ rfl _ _ _ rfl rfl (fun h_ => ?_) (fun h_ => ?_)) | ((with_reducible show wpList _ _ _ (⟨_, .binOp .neq _ _ _ _, _, _, _, _⟩ :: _) _ _); refine st_neq rfl _ _ _ _ rfl _ _ _ rfl rfl (fun h_ => ?_) (fun h_ => ?_))) <;> go_prune)
        | (go_at_call 57; refine (rrole_any _ _).mono ?_; (first | rw [HRA.out] | rw [HRB.out]); rintro r_ w_ ⟨_, rfl, rfl, hb_⟩; replace hS := hS.ext hb_; clear hb_))
      go_ret2
      exact .inl ⟨HNO.out, rfl, hS.below⟩
  · have HRA := Lib.hid (decide_eq_false hra)
    have HRB := HRA
    have HNO : Hid (¬ twoR a b) := Lib.hid fun h => hra h.1
    go_enter Tryd.func68, Tryd.ntmps68
    go_wp2_with (first
      | ((with_reducible show wpList _ _ _ (⟨_, .binOp _ _ _ _ _, _, _, _, _⟩ :: _) _ _); (first | ((with_reducible show wpList _ _ _ (⟨_, .binOp .lss _ _ _ _, _, _, _, _⟩ :: _) _ _); refine st_lss rfl _ _ _ _ rfl _ _ _ rfl rfl (fun h_ => ?_) (fun h_ => ?_)) | ((with_reducible show wpList _ _ _ (⟨_, .binOp .leq _ _ _ _, _, _, _, _⟩ :: _) _ _); refine st_leq rfl _ _ _ _ rfl _ _ _ rfl rfl (fun h_ => ?_) (fun h_ => ?_)) | ((with_reducible show wpList _ _ _ (⟨_, .binOp .gtr _ _ _ _, _, _, _, _⟩ :: _) _ _); refine st_gtr rfl _ _ _ _ rfl _ _ _ rfl rfl (fun h_ => ?_) (fun h_ => ?_)) | ((with_reducible show wpList _ _ _ (⟨_, .binOp .geq _ _ _ _, _, _, _, _⟩ :: _) _ _); refine st_geq rfl _ _ _ _ rfl _ _ _ rfl rfl (fun h_ => ?_) (fun h_ => ?_)) | ((with_reducible show wpList _ _ _ (⟨_, .binOp .eql _ _ _ _, _, _, _, _⟩ :: _) _ _); refine st_eql rfl _ _ _ _ rfl _ _ _ rfl rfl (fun h_ => ?_) (fun h_ => ?_)) | ((with_reducible show wpList _ _ _ (⟨_, .binOp .neq _ _ _ _, _, _, _, _⟩ :: _) _ _); refine st_neq rfl _ _ _ _ rfl _ _ _ rfl rfl (fun h_ => ?_) (fun h_ => ?_))) <;> go_prune)
      | (go_at_call 57; refine (rrole_any _ _).mono ?_; (first | rw [HRA.out] | rw [HRB.out]); rintro r_ w_ ⟨_, rfl, rfl, hb_⟩; replace hS := hS.ext hb_; clear hb_))
    go_ret2
    exact .inl ⟨HNO.out, rfl, hS.below⟩
end Go.Proofs.YtmlkgaiphpimiaaDoor
namespace Go.Proofs.YtmlkgaiphpimiaaDoor
open Go.RowKit
attribute [local go_sem ↓] Go.wp_at_zero Go.wp_at_succ
set_option maxRecDepth 20000
set_option exponentiation.threshold 5000

/-- what the reference's Unlink gives -/
def RUnlinkP (w0 : World) (pv : Value) (L : List (Nat × Nat)) (a b : Int) (e : Ending) (w' : World) : Prop :=
  (¬ twoR a b ∧ e = .returned (.tuple #[pv, .int .i64 1]) ∧ Below w0.heap.size w0 w') ∨
  ∃ x y : Nat, a = (x : Int) ∧ b = (y : Int) ∧ (1 ≤ x ∧ x < 64) ∧ (1 ≤ y ∧ y < 64) ∧ x ≠ y ∧
    (((x, y) ∉ L ∧ e = .returned (.tuple #[pv, .int .i64 4]) ∧ Below w0.heap.size w0 w') ∨
     ((x, y) ∈ L ∧ ∃ v, e = .returned (.tuple #[v, .int .i64 0]) ∧ St w0 w' [.own v 50 2 (unl L (x, y)).length (pcells (unl L (x, y)))] fun _ _ => True))
set_option maxHeartbeats 1000000 in
theorem runlink_any {w0 : World} {D : Nat → Prop} {pv : Value} {L : List (Nat × Nat)} (h : Sl w0 D 2 pv L.length (pcells L)) (hl : L.length ≤ 1000000) (a b : Int) :
    Calls Tryd.prog 67 #[pv, .int .i64 a, .int .i64 b] w0 (RUnlinkP w0 pv L a b) := by
  obtain ⟨A, c, rfl, hc1, _⟩ := h.shape
  obtain ⟨K, kp, hS⟩ : ∃ K : (Nat → Prop) → World → Prop, (∀ D w, K D w → Sl w D 2 (.slice A L.length c) L.length (pcells L)) ∧ St w0 w0 [] K := ⟨_, fun _ _ h => h, St.start (stable_sl (by decide)) h⟩
  clear h
  have HH := Lib.hid (fun (w : World) (D : Nat → Prop) (h : Sl w D 2 (.slice A L.length c) L.length (pcells L)) => rhas_any h hl a b)
  by_cases hra : 1 ≤ a ∧ a ≤ 63
  · have HRA := Lib.hid (decide_eq_true hra)
    by_cases hrb : 1 ≤ b ∧ b ≤ 63
    · have HRB := Lib.hid (decide_eq_true hrb)
      by_cases hab : a = b
      · subst hab
        have HNO : Hid (¬ twoR a a) := Lib.hid fun h => h.2.2 rfl
        clear hra hrb
        go_enter Tryd.func67, Tryd.ntmps67
        go_wp2_with (first
          | ((with_reducible show wpList _ _ _ (⟨_, .binOp _ _ _ _ _, _, _, _, _⟩ :: _) _ _); (first | ((with_reducible show wpList _ _ _ (⟨_, .binOp .lss _ _ _ _, _, _, _, _⟩ :: _) _ _); refine st_lss rfl _ _ _ _ rfl _ _ _ rfl rfl (fun h_ => ?_) (fun h_ => ?_)) | ((with_reducible show wpList _ _ _ (⟨_, .binOp .leq _ _ _ _, _, _, _, _⟩ :: _) _ _); refine st_leq rfl _ _ _ _ rfl _ _ _ rfl rfl (fun h_ => ?_) (fun h_ => ?_)) | ((with_reducible show wpList _ _ _ (⟨_, .binOp .gtr _ _ _ _, _, _, _, _⟩ :: _) _ _); refine st_gtr rfl _ _ _ _ rfl _ _ _ rfl rfl (fun h_ => ?_) (fun h_ => ?_)) | ((with_reducible show wpList _ _ _ (⟨_, .binOp .geq _ _ _ _, _, _, _, _⟩ :: _) _ _); refine st_geq rfl _ _ _ _ rfl _ _ _ rfl rfl (fun h_ => ?_) (fun h_ => ?_)) | ((with_reducible show wpList _ _ _ (⟨_, .binOp .eql _ _ _ _, _, _, _, _⟩ :: _) _ _); refine st_eql rfl _ _ _ _ rfl _ _ _ rfl rfl (fun h_ => ?_) (fun h_ => ?_)) | ((with_reducible show wpList _ _ _ (⟨_, .binOp .neq _ _ _ _, _, _, _, _⟩ :: _) _ _); refine st_neq rfl _ _ _ _ rfl _ _ _ rfl rfl (fun h_ => ?_) (fun h_ => ?_))) <;> go_prune)
          | (go_at_call 57; refine (rrole_any _ _).mono ?_; (first | rw [HRA.out] | rw [HRB.out]); rintro r_ w_ ⟨_, rfl, rfl, hb_⟩; replace hS := hS.ext hb_; clear hb_))
        go_ret2
        exact .inl ⟨HNO.out, rfl, hS.below⟩
      · obtain ⟨x, rfl⟩ : ∃ x : Nat, a = (x : Int) := ⟨a.toNat, by omega⟩
        obtain ⟨y, rfl⟩ : ∃ y : Nat, b = (y : Int) := ⟨b.toNat, by omega⟩
        have hx1 : Hid (1 ≤ x ∧ x < 64) := Lib.hid (by omega)
        have hy1 : Hid (1 ≤ y ∧ y < 64) := Lib.hid (by omega)
        have hxy : Hid (x ≠ y) := Lib.hid (by omega)
        have HC1 : Hid (∀ c : Bool, (c = true ↔ ∃ z ∈ L, (x : Int) = (z.1 : Int) ∧ (y : Int) = (z.2 : Int)) → c = decide ((x, y) ∈ L)) := Lib.hid fun c hc => by
          rw [Bool.eq_iff_iff, hc, decide_eq_true_iff]
          constructor
          · rintro ⟨⟨za, zb⟩, h1, h2, h3⟩
            dsimp only at h2 h3
            obtain rfl : x = za := by omega
            obtain rfl : y = zb := by omega
            exact h1
          · intro h; exact ⟨_, h, rfl, rfl⟩
        clear hra hrb
        by_cases hm : (x, y) ∈ L
        · go_enter Tryd.func67, Tryd.ntmps67
          go_wp2_with (first
            | ((with_reducible show wpList _ _ _ (⟨_, .binOp _ _ _ _ _, _, _, _, _⟩ :: _) _ _); (first | ((with_reducible show wpList _ _ _ (⟨_, .binOp .lss _ _ _ _, _, _, _, _⟩ :: _) _ _); refine st_lss rfl _ _ _ _ rfl _ _ _ rfl rfl (fun h_ => ?_) (fun h_ => ?_)) | ((with_reducible show wpList _ _ _ (⟨_, .binOp .leq _ _ _ _, _, _, _, _⟩ :: _) _ _); refine st_leq rfl _ _ _ _ rfl _ _ _ rfl rfl (fun h_ => ?_) (fun h_ => ?_)) | ((with_reducible show wpList _ _ _ (⟨_, .binOp .gtr _ _ _ _, _, _, _, _⟩ :: _) _ _); refine st_gtr rfl _ _ _ _ rfl _ _ _ rfl rfl (fun h_ => ?_) (fun h_ => ?_)) | ((with_reducible show wpList _ _ _ (⟨_, .binOp .geq _ _ _ _, _, _, _, _⟩ :: _) _ _); refine st_geq rfl _ _ _ _ rfl _ _ _ rfl rfl (fun h_ => ?_) (fun h_ => ?_)) | ((with_reducible show wpList _ _ _ (⟨_, .binOp .eql _ _ _ _, _, _, _, _⟩ :: _) _ _); refine st_eql rfl _ _ _ _ rfl _ _ _ rfl rfl (fun h_ => ?_) (fun h_ => ?_)) | ((with_reducible show wpList _ _ _ (⟨_, .binOp .neq _ _ _ _, _, _, _, _⟩ :: _) _ _); refine st_neq rfl _ _ _ _ rfl _ _ _ rfl rfl (fun h_ => ?_) (fun h_ => ?_))) <;> go_prune)
            | (go_at_call 57; refine (rrole_any _ _).mono ?_; (first | rw [HRA.out] | rw [HRB.out]); rintro r_ w_ ⟨_, rfl, rfl, hb_⟩; replace hS := hS.ext hb_; clear hb_)
            | (go_at_call 87; refine (HH.out _ _ (kp _ _ hS.ro)).mono ?_; rintro r_ w_ ⟨_, rfl, ⟨c, rfl, hc⟩, hb_⟩; replace hc := HC1.out c hc; rw [decide_eq_true hm] at hc; subst hc; replace hS := hS.ext hb_; clear hb_))
          replace hS := hS.nil 50 2
          go_loopw [8, 33] (fun v i wr => ∃ j : Nat, i = .int .i64 (j : Nat) ∧ j ≤ L.length ∧ St w0 wr [.own v 50 2 (unl (L.take j) (x, y)).length (pcells (unl (L.take j) (x, y)))] K) (fun _ i _ => L.length - (intOf i).toNat)
          case atStart => exact ⟨0, rfl, by omega, hS⟩
          case round =>
            clear hS HH
            obtain ⟨j, rfl, hj, hS⟩ := hrel
            by_cases hlj : j < L.length
            · obtain ⟨f1, f2⟩ := pcells_at L j hlj
              have HST := Lib.hid (unl_step (getD_at (0, 0) hlj) (x, y))
              have hM := unl_len L (x, y) j
              generalize L.getD j (0, 0) = z at *
              generalize hMM : unl (L.take j) (x, y) = M at *
              clear hMM
              by_cases hz : z = (x, y)
              · have HE := Lib.hid (HST.out.trans (if_neg (by simp [hz])))
                have HD : Hid (decide (z ≠ (x, y)) = false) := Lib.hid (by simp [hz])
                obtain ⟨za, zb⟩ := z
                dsimp only at f1 f2
                clear hz HST
                go_wp2_with (first
                  | ((with_reducible show wpList _ _ _ (⟨some 41, _, _, _, _, _⟩ :: _) _ _); refine BigFrame.wpList_want rfl fun _ hK => opw_bin (vx := .agg #[.int .i64 (za : Nat), .int .i64 (zb : Nat)]) (vy := .agg #[.int .i64 (x : Nat), .int .i64 (y : Nat)]) (v := .bool false) rfl rfl rfl rfl ((ne_pairs _ (za, zb) (x, y)).trans (by rw [HD.out])) (hK _ _ ?_))
                  | ((with_reducible show wpList _ _ _ (⟨_, .binOp _ _ _ _ _, _, _, _, _⟩ :: _) _ _); (first | ((with_reducible show wpList _ _ _ (⟨_, .binOp .lss _ _ _ _, _, _, _, _⟩ :: _) _ _); refine st_lss rfl _ _ _ _ rfl _ _ _ rfl rfl (fun h_ => ?_) (fun h_ => ?_)) | ((with_reducible show wpList _ _ _ (⟨_, .binOp .leq _ _ _ _, _, _, _, _⟩ :: _) _ _); refine st_leq rfl _ _ _ _ rfl _ _ _ rfl rfl (fun h_ => ?_) (fun h_ => ?_)) | ((with_reducible show wpList _ _ _ (⟨_, .binOp .gtr _ _ _ _, _, _, _, _⟩ :: _) _ _); refine st_gtr rfl _ _ _ _ rfl _ _ _ rfl rfl (fun h_ => ?_) (fun h_ => ?_)) | ((with_reducible show wpList _ _ _ (⟨_, .binOp .geq _ _ _ _, _, _, _, _⟩ :: _) _ _); refine st_geq rfl _ _ _ _ rfl _ _ _ rfl rfl (fun h_ => ?_) (fun h_ => ?_)) | ((with_reducible show wpList _ _ _ (⟨_, .binOp .eql _ _ _ _, _, _, _, _⟩ :: _) _ _); refine st_eql rfl _ _ _ _ rfl _ _ _ rfl rfl (fun h_ => ?_) (fun h_ => ?_)) | ((with_reducible show wpList _ _ _ (⟨_, .binOp .neq _ _ _ _, _, _, _, _⟩ :: _) _ _); refine st_neq rfl _ _ _ _ rfl _ _ _ rfl rfl (fun h_ => ?_) (fun h_ => ?_))) <;> go_prune)
                  | ((with_reducible show wpList _ _ _ (⟨_, .indexAddr _ _ _, _, _, _, _⟩ :: _) _ _); refine st_iaddr2 hS rfl _ _ _ rfl _ rfl rfl (by assumption) Tryd.underlying25 (by kernel_rfl) (by first | assumption | omega) _ _ (by assumption) (by assumption) ?_; intro b_ j_ hc0_ hc1_)
                  | ((with_reducible show wpList _ _ _ (⟨some 10, _, _, _, _, _⟩ :: _) _ _); refine st_alloc hS rfl _ rfl (by kernel_rfl) ?_; clear hS; intro g4 w_ hS; (try simp only [Act.put, Act.eval, List.set_cons_zero, List.set_cons_succ, List.setIfInBounds_toArray, Array.getD_eq_getD_getElem?, List.getElem?_toArray, List.getElem?_cons_succ, List.getElem?_cons_zero, Option.getD_some, Value.cells] at hS))
                  | ((with_reducible show wpList _ _ _ (⟨_, .store _ _ _, _, _, _, _⟩ :: _) _ _); first | (refine st_store hS 0 rfl _ _ _ rfl _ _ rfl rfl _ _ rfl (by kernel_rfl) (by kernel_rfl) (by kernel_rfl) ?_; clear hS; intro w_ hS; (try simp only [Act.put, Act.eval, List.set_cons_zero, List.set_cons_succ, List.setIfInBounds_toArray, Array.getD_eq_getD_getElem?, List.getElem?_toArray, List.getElem?_cons_succ, List.getElem?_cons_zero, Option.getD_some, Value.cells] at hS)) | (refine st_store hS 1 rfl _ _ _ rfl _ _ rfl rfl _ _ rfl (by kernel_rfl) (by kernel_rfl) (by kernel_rfl) ?_; clear hS; intro w_ hS; (try simp only [Act.put, Act.eval, List.set_cons_zero, List.set_cons_succ, List.setIfInBounds_toArray, Array.getD_eq_getD_getElem?, List.getElem?_toArray, List.getElem?_cons_succ, List.getElem?_cons_zero, Option.getD_some, Value.cells] at hS)) | (refine st_store hS 2 rfl _ _ _ rfl _ _ rfl rfl _ _ rfl (by kernel_rfl) (by kernel_rfl) (by kernel_rfl) ?_; clear hS; intro w_ hS; (try simp only [Act.put, Act.eval, List.set_cons_zero, List.set_cons_succ, List.setIfInBounds_toArray, Array.getD_eq_getD_getElem?, List.getElem?_toArray, List.getElem?_cons_succ, List.getElem?_cons_zero, Option.getD_some, Value.cells] at hS)) | (refine st_store hS 3 rfl _ _ _ rfl _ _ rfl rfl _ _ rfl (by kernel_rfl) (by kernel_rfl) (by kernel_rfl) ?_; clear hS; intro w_ hS; (try simp only [Act.put, Act.eval, List.set_cons_zero, List.set_cons_succ, List.setIfInBounds_toArray, Array.getD_eq_getD_getElem?, List.getElem?_toArray, List.getElem?_cons_succ, List.getElem?_cons_zero, Option.getD_some, Value.cells] at hS)) | (refine st_cstore hS 0 rfl _ _ _ rfl _ _ _ rfl rfl rfl (by first | (simp; done) | (simp; omega) | exact of_decide_eq_true (by kernel_rfl)) rfl (by first | rfl | assumption) (by kernel_rfl) ?_; clear hS; intro w_ hS; (try simp only [Act.put, Act.eval, List.set_cons_zero, List.set_cons_succ, List.setIfInBounds_toArray, Array.getD_eq_getD_getElem?, List.getElem?_toArray, List.getElem?_cons_succ, List.getElem?_cons_zero, Option.getD_some, Value.cells] at hS)) | (refine st_cstore hS 1 rfl _ _ _ rfl _ _ _ rfl rfl rfl (by first | (simp; done) | (simp; omega) | exact of_decide_eq_true (by kernel_rfl)) rfl (by first | rfl | assumption) (by kernel_rfl) ?_; clear hS; intro w_ hS; (try simp only [Act.put, Act.eval, List.set_cons_zero, List.set_cons_succ, List.setIfInBounds_toArray, Array.getD_eq_getD_getElem?, List.getElem?_toArray, List.getElem?_cons_succ, List.getElem?_cons_zero, Option.getD_some, Value.cells] at hS)) | (refine st_cstore hS 2 rfl _ _ _ rfl _ _ _ rfl rfl rfl (by first | (simp; done) | (simp; omega) | exact of_decide_eq_true (by kernel_rfl)) rfl (by first | rfl | assumption) (by kernel_rfl) ?_; clear hS; intro w_ hS; (try simp only [Act.put, Act.eval, List.set_cons_zero, List.set_cons_succ, List.setIfInBounds_toArray, Array.getD_eq_getD_getElem?, List.getElem?_toArray, List.getElem?_cons_succ, List.getElem?_cons_zero, Option.getD_some, Value.cells] at hS)) | (refine st_cstore hS 3 rfl _ _ _ rfl _ _ _ rfl rfl rfl (by first | (simp; done) | (simp; omega) | exact of_decide_eq_true (by kernel_rfl)) rfl (by first | rfl | assumption) (by kernel_rfl) ?_; clear hS; intro w_ hS; (try simp only [Act.put, Act.eval, List.set_cons_zero, List.set_cons_succ, List.setIfInBounds_toArray, Array.getD_eq_getD_getElem?, List.getElem?_toArray, List.getElem?_cons_succ, List.getElem?_cons_zero, Option.getD_some, Value.cells] at hS)))
                  | ((with_reducible show wpList _ _ _ (⟨_, .load _ _, _, _, _, _⟩ :: _) _ _); first | refine st_load hS 0 rfl _ _ rfl _ rfl _ _ rfl _ Tryd.underlying50 rfl (by kernel_rfl) ?_ | refine st_load hS 1 rfl _ _ rfl _ rfl _ _ rfl _ Tryd.underlying50 rfl (by kernel_rfl) ?_ | refine st_load hS 2 rfl _ _ rfl _ rfl _ _ rfl _ Tryd.underlying50 rfl (by kernel_rfl) ?_ | refine st_load hS 3 rfl _ _ rfl _ rfl _ _ rfl _ Tryd.underlying50 rfl (by kernel_rfl) ?_)
                  | ((with_reducible show wpList _ _ _ (⟨_, .load _ _, _, _, _, _⟩ :: _) _ _); first | (refine st_cell hS 0 rfl _ _ rfl _ _ rfl _ _ rfl (by decide +kernel) _ (by first | assumption | rfl) ?_) | (refine st_cell hS 1 rfl _ _ rfl _ _ rfl _ _ rfl (by decide +kernel) _ (by first | assumption | rfl) ?_) | (refine st_cell hS 2 rfl _ _ rfl _ _ rfl _ _ rfl (by decide +kernel) _ (by first | assumption | rfl) ?_) | (refine st_cell hS 3 rfl _ _ rfl _ _ rfl _ _ rfl (by decide +kernel) _ (by first | assumption | rfl) ?_) | (refine st_cell hS 4 rfl _ _ rfl _ _ rfl _ _ rfl (by decide +kernel) _ (by first | assumption | rfl) ?_) | (refine st_cell hS 5 rfl _ _ rfl _ _ rfl _ _ rfl (by decide +kernel) _ (by first | assumption | rfl) ?_) | (refine st_cell hS 6 rfl _ _ rfl _ _ rfl _ _ rfl (by decide +kernel) _ (by first | assumption | rfl) ?_) | (refine st_cell hS 7 rfl _ _ rfl _ _ rfl _ _ rfl (by decide +kernel) _ (by first | assumption | rfl) ?_)))
                exact ⟨⟨j + 1, by go_num, hlj, by rw [HE.out]; exact hS.sub (List.sublist_cons_self _ _)⟩, by simp [intOf]; omega⟩
              · have HE := Lib.hid (HST.out.trans (if_pos hz))
                have HD : Hid (decide (z ≠ (x, y)) = true) := Lib.hid (by simp [hz])
                obtain ⟨za, zb⟩ := z
                dsimp only at f1 f2
                clear hz HST
                go_wp2_with (first
                  | ((with_reducible show wpList _ _ _ (⟨some 41, _, _, _, _, _⟩ :: _) _ _); refine BigFrame.wpList_want rfl fun _ hK => opw_bin (vx := .agg #[.int .i64 (za : Nat), .int .i64 (zb : Nat)]) (vy := .agg #[.int .i64 (x : Nat), .int .i64 (y : Nat)]) (v := .bool true) rfl rfl rfl rfl ((ne_pairs _ (za, zb) (x, y)).trans (by rw [HD.out])) (hK _ _ ?_))
                  | ((with_reducible show wpList _ _ _ (⟨_, .binOp _ _ _ _ _, _, _, _, _⟩ :: _) _ _); (first | ((with_reducible show wpList _ _ _ (⟨_, .binOp .lss _ _ _ _, _, _, _, _⟩ :: _) _ _); refine st_lss rfl _ _ _ _ rfl _ _ _ rfl rfl (fun h_ => ?_) (fun h_ => ?_)) | ((with_reducible show wpList _ _ _ (⟨_, .binOp .leq _ _ _ _, _, _, _, _⟩ :: _) _ _); refine st_leq rfl _ _ _ _ rfl _ _ _ rfl rfl (fun h_ => ?_) (fun h_ => ?_)) | ((with_reducible show wpList _ _ _ (⟨_, .binOp .gtr _ _ _ _, _, _, _, _⟩ :: _) _ _); refine st_gtr rfl _ _ _ _ rfl _ _ _ rfl rfl (fun h_ => ?_) (fun h_ => ?_)) | ((with_reducible show wpList _ _ _ (⟨_, .binOp .geq _ _ _ _, _, _, _, _⟩ :: _) _ _); refine st_geq rfl _ _ _ _ rfl _ _ _ rfl rfl (fun h_ => ?_) (fun h_ => ?_)) | ((with_reducible show wpList _ _ _ (⟨_, .binOp .eql _ _ _ _, _, _, _, _⟩ :: _) _ _); refine st_eql rfl _ _ _ _ rfl _ _ _ rfl rfl (fun h_ => ?_) (fun h_ => ?_)) | ((with_reducible show wpList _ _ _ (⟨_, .binOp .neq _ _ _ _, _, _, _, _⟩ :: _) _ _); refine st_neq rfl _ _ _ _ rfl _ _ _ rfl rfl (fun h_ => ?_) (fun h_ => ?_))) <;> go_prune)
                  | ((with_reducible show wpList _ _ _ (⟨_, .indexAddr _ _ _, _, _, _, _⟩ :: _) _ _); refine st_iaddr2 hS rfl _ _ _ rfl _ rfl rfl (by assumption) Tryd.underlying25 (by kernel_rfl) (by first | assumption | omega) _ _ (by assumption) (by assumption) ?_; intro b_ j_ hc0_ hc1_)
                  | ((with_reducible show wpList _ _ _ (⟨some 10, _, _, _, _, _⟩ :: _) _ _); refine st_alloc hS rfl _ rfl (by kernel_rfl) ?_; clear hS; intro g4 w_ hS; (try simp only [Act.put, Act.eval, List.set_cons_zero, List.set_cons_succ, List.setIfInBounds_toArray, Array.getD_eq_getD_getElem?, List.getElem?_toArray, List.getElem?_cons_succ, List.getElem?_cons_zero, Option.getD_some, Value.cells] at hS))
                  | ((with_reducible show wpList _ _ _ (⟨_, .store _ _ _, _, _, _, _⟩ :: _) _ _); first | (refine st_store hS 0 rfl _ _ _ rfl _ _ rfl rfl _ _ rfl (by kernel_rfl) (by kernel_rfl) (by kernel_rfl) ?_; clear hS; intro w_ hS; (try simp only [Act.put, Act.eval, List.set_cons_zero, List.set_cons_succ, List.setIfInBounds_toArray, Array.getD_eq_getD_getElem?, List.getElem?_toArray, List.getElem?_cons_succ, List.getElem?_cons_zero, Option.getD_some, Value.cells] at hS)) | (refine st_store hS 1 rfl _ _ _ rfl _ _ rfl rfl _ _ rfl (by kernel_rfl) (by kernel_rfl) (by kernel_rfl) ?_; clear hS; intro w_ hS; (try simp only [Act.put, Act.eval, List.set_cons_zero, List.set_cons_succ, List.setIfInBounds_toArray, Array.getD_eq_getD_getElem?, List.getElem?_toArray, List.getElem?_cons_succ, List.getElem?_cons_zero, Option.getD_some, Value.cells] at hS)) | (refine st_store hS 2 rfl _ _ _ rfl _ _ rfl rfl _ _ rfl (by kernel_rfl) (by kernel_rfl) (by kernel_rfl) ?_; clear hS; intro w_ hS; (try simp only [Act.put, Act.eval, List.set_cons_zero, List.set_cons_succ, List.setIfInBounds_toArray, Array.getD_eq_getD_getElem?, List.getElem?_toArray, List.getElem?_cons_succ, List.getElem?_cons_zero, Option.getD_some, Value.cells] at hS)) | (refine st_store hS 3 rfl _ _ _ rfl _ _ rfl rfl _ _ rfl (by kernel_rfl) (by kernel_rfl) (by kernel_rfl) ?_; clear hS; intro w_ hS; (try simp only [Act.put, Act.eval, List.set_cons_zero, List.set_cons_succ, List.setIfInBounds_toArray, Array.getD_eq_getD_getElem?, List.getElem?_toArray, List.getElem?_cons_succ, List.getElem?_cons_zero, Option.getD_some, Value.cells] at hS)) | (refine st_cstore hS 0 rfl _ _ _ rfl _ _ _ rfl rfl rfl (by first | (simp; done) | (simp; omega) | exact of_decide_eq_true (by kernel_rfl)) rfl (by first | rfl | assumption) (by kernel_rfl) ?_; clear hS; intro w_ hS; (try simp only [Act.put, Act.eval, List.set_cons_zero, List.set_cons_succ, List.setIfInBounds_toArray, Array.getD_eq_getD_getElem?, List.getElem?_toArray, List.getElem?_cons_succ, List.getElem?_cons_zero, Option.getD_some, Value.cells] at hS)) | (refine st_cstore hS 1 rfl _ _ _ rfl _ _ _ rfl rfl rfl (by first | (simp; done) | (simp; omega) | exact of_decide_eq_true (by kernel_rfl)) rfl (by first | rfl | assumption) (by kernel_rfl) ?_; clear hS; intro w_ hS; (try simp only [Act.put, Act.eval, List.set_cons_zero, List.set_cons_succ, List.setIfInBounds_toArray, Array.getD_eq_getD_getElem?, List.getElem?_toArray, List.getElem?_cons_succ, List.getElem?_cons_zero, Option.getD_some, Value.cells] at hS)) | (refine st_cstore hS 2 rfl _ _ _ rfl _ _ _ rfl rfl rfl (by first | (simp; done) | (simp; omega) | exact of_decide_eq_true (by kernel_rfl)) rfl (by first | rfl | assumption) (by kernel_rfl) ?_; clear hS; intro w_ hS; (try simp only [Act.put, Act.eval, List.set_cons_zero, List.set_cons_succ, List.setIfInBounds_toArray, Array.getD_eq_getD_getElem?, List.getElem?_toArray, List.getElem?_cons_succ, List.getElem?_cons_zero, Option.getD_some, Value.cells] at hS)) | (refine st_cstore hS 3 rfl _ _ _ rfl _ _ _ rfl rfl rfl (by first | (simp; done) | (simp; omega) | exact of_decide_eq_true (by kernel_rfl)) rfl (by first | rfl | assumption) (by kernel_rfl) ?_; clear hS; intro w_ hS; (try simp only [Act.put, Act.eval, List.set_cons_zero, List.set_cons_succ, List.setIfInBounds_toArray, Array.getD_eq_getD_getElem?, List.getElem?_toArray, List.getElem?_cons_succ, List.getElem?_cons_zero, Option.getD_some, Value.cells] at hS)))
                  | ((with_reducible show wpList _ _ _ (⟨_, .load _ _, _, _, _, _⟩ :: _) _ _); first | refine st_load hS 0 rfl _ _ rfl _ rfl _ _ rfl _ Tryd.underlying50 rfl (by kernel_rfl) ?_ | refine st_load hS 1 rfl _ _ rfl _ rfl _ _ rfl _ Tryd.underlying50 rfl (by kernel_rfl) ?_ | refine st_load hS 2 rfl _ _ rfl _ rfl _ _ rfl _ Tryd.underlying50 rfl (by kernel_rfl) ?_ | refine st_load hS 3 rfl _ _ rfl _ rfl _ _ rfl _ Tryd.underlying50 rfl (by kernel_rfl) ?_)
                  | ((with_reducible show wpList _ _ _ (⟨_, .buildSlice _ 1 _, _, _, _, _⟩ :: _) _ _); refine st_push hS 1 rfl rfl _ _ _ _ rfl rfl ty_pairs _ _ _ (.agg #[.int .i64 (za : Nat), .int .i64 (zb : Nat)]) #[.int .i64 (za : Nat), .int .i64 (zb : Nat)] rfl (by kernel_rfl) rfl rfl rfl rfl (by intro u hu; simp at hu; first | (subst hu; rfl) | (rcases hu with rfl | rfl <;> rfl)) (by omega) (by omega) ?_; clear hS; intro z_ v_ w_ hS; (try simp only [Act.put, Act.eval, List.set_cons_zero, List.set_cons_succ, List.setIfInBounds_toArray, Array.getD_eq_getD_getElem?, List.getElem?_toArray, List.getElem?_cons_succ, List.getElem?_cons_zero, Option.getD_some, Value.cells] at hS))
                  | ((with_reducible show wpList _ _ _ (⟨_, .load _ _, _, _, _, _⟩ :: _) _ _); first | (refine st_cell hS 0 rfl _ _ rfl _ _ rfl _ _ rfl (by decide +kernel) _ (by first | assumption | rfl) ?_) | (refine st_cell hS 1 rfl _ _ rfl _ _ rfl _ _ rfl (by decide +kernel) _ (by first | assumption | rfl) ?_) | (refine st_cell hS 2 rfl _ _ rfl _ _ rfl _ _ rfl (by decide +kernel) _ (by first | assumption | rfl) ?_) | (refine st_cell hS 3 rfl _ _ rfl _ _ rfl _ _ rfl (by decide +kernel) _ (by first | assumption | rfl) ?_) | (refine st_cell hS 4 rfl _ _ rfl _ _ rfl _ _ rfl (by decide +kernel) _ (by first | assumption | rfl) ?_) | (refine st_cell hS 5 rfl _ _ rfl _ _ rfl _ _ rfl (by decide +kernel) _ (by first | assumption | rfl) ?_) | (refine st_cell hS 6 rfl _ _ rfl _ _ rfl _ _ rfl (by decide +kernel) _ (by first | assumption | rfl) ?_) | (refine st_cell hS 7 rfl _ _ rfl _ _ rfl _ _ rfl (by decide +kernel) _ (by first | assumption | rfl) ?_)))
                refine ⟨⟨j + 1, by go_num, hlj, ?_⟩, by simp [intOf]; omega⟩
                have e : pcells (M ++ [(za, zb)]) = pcells M ++ [.int .i64 (za : Nat), .int .i64 (zb : Nat)] := pcells_app M [(za, zb)]
                rw [HE.out, e, List.length_append]
                exact hS.sub (List.sublist_cons_self _ _)
            · obtain rfl : j = L.length := by omega
              rw [List.take_length] at hS
              go_wp2_with (first | ((with_reducible show wpList _ _ _ (⟨_, .binOp _ _ _ _ _, _, _, _, _⟩ :: _) _ _); (first | ((with_reducible show wpList _ _ _ (⟨_, .binOp .lss _ _ _ _, _, _, _, _⟩ :: _) _ _); refine st_lss rfl _ _ _ _ rfl _ _ _ rfl rfl (fun h_ => ?_) (fun h_ => ?_)) | ((with_reducible show wpList _ _ _ (⟨_, .binOp .leq _ _ _ _, _, _, _, _⟩ :: _) _ _); refine st_leq rfl _ _ _ _ rfl _ _ _ rfl rfl (fun h_ => ?_) (fun h_ => ?_)) | ((with_reducible show wpList _ _ _ (⟨_, .binOp .gtr _ _ _ _, _, _, _, _⟩ :: _) _ _); refine st_gtr rfl _ _ _ _ rfl _ _ _ rfl rfl (fun h_ => ?_) (fun h_ => ?_)) | ((with_reducible show wpList _ _ _ (⟨_, .binOp .geq _ _ _ _, _, _, _, _⟩ :: _) _ _); refine st_geq rfl _ _ _ _ rfl _ _ _ rfl rfl (fun h_ => ?_) (fun h_ => ?_)) | ((with_reducible show wpList _ _ _ (⟨_, .binOp .eql _ _ _ _, _, _, _, _⟩ :: _) _ _); refine st_eql rfl _ _ _ _ rfl _ _ _ rfl rfl (fun h_ => ?_) (fun h_ => ?_)) | ((with_reducible show wpList _ _ _ (⟨_, .binOp .neq _ _ _ _, _, _, _, _⟩ :: _) _ _); refine st_neq rfl _ _ _ _ rfl _ _ _ rfl rfl (fun h_ => ?_) (fun h_ => ?_))) <;> go_prune))
              go_ret2
              exact .inr ⟨x, y, rfl, rfl, hx1.out, hy1.out, hxy.out, .inr ⟨hm, _, rfl, hS.mono (Stable.pure True) fun _ _ _ => trivial⟩⟩
        · go_enter Tryd.func67, Tryd.ntmps67
          go_wp2_with (first
            | ((with_reducible show wpList _ _ _ (⟨_, .binOp _ _ _ _ _, _, _, _, _⟩ :: _) _ _); (first | ((with_reducible show wpList _ _ _ (⟨_, .binOp .lss _ _ _ _, _, _, _, _⟩ :: _) _ _); refine st_lss rfl _ _ _ _ rfl _ _ _ rfl rfl (fun h_ => ?_) (fun h_ => ?_)) | ((with_reducible show wpList _ _ _ (⟨_, .binOp .leq _ _ _ _, _, _, _, _⟩ :: _) _ _); refine st_leq rfl _ _ _ _ rfl _ _ _ rfl rfl (fun h_ => ?_) (fun h_ => ?_)) | ((with_reducible show wpList _ _ _ (⟨_, .binOp .gtr _ _ _ _, _, _, _, _⟩ :: _) _ _); refine st_gtr rfl _ _ _ _ rfl _ _ _ rfl rfl (fun h_ => ?_) (fun h_ => ?_)) | ((with_reducible show wpList _ _ _ (⟨_, .binOp .geq _ _ _ _, _, _, _, _⟩ :: _) _ _); refine st_geq rfl _ _ _ _ rfl _ _ _ rfl rfl (fun h_ => ?_) (fun h_ => ?_)) | ((with_reducible show wpList _ _ _ (⟨_, .binOp .eql _ _ _ _, _, _, _, _⟩ :: _) _ _); refine st_eql rfl _ _ _ _ rfl _ _ _ rfl rfl (fun h_ => ?_) (fun h_ => ?_)) | ((with_reducible show wpList _ _ _ (⟨_, .binOp .neq _ _ _ _, _, _, _, _⟩ :: _) _ _); refine st_neq rfl _ _ _ _ rfl _ _ _ rfl rfl (fun h_ => ?_) (fun h_ => ?_))) <;> go_prune)
            | (go_at_call 57; refine (rrole_any _ _).mono ?_; (first | rw [HRA.out] | rw [HRB.out]); rintro r_ w_ ⟨_, rfl, rfl, hb_⟩; replace hS := hS.ext hb_; clear hb_)
            | (go_at_call 87; refine (HH.out _ _ (kp _ _ hS.ro)).mono ?_; rintro r_ w_ ⟨_, rfl, ⟨c, rfl, hc⟩, hb_⟩; replace hc := HC1.out c hc; rw [decide_eq_false hm] at hc; subst hc; replace hS := hS.ext hb_; clear hb_))
          go_ret2
          exact .inr ⟨x, y, rfl, rfl, hx1.out, hy1.out, hxy.out, .inl ⟨hm, rfl, hS.below⟩⟩
    · have HRB := Lib.hid (decide_eq_false hrb)
      have HNO : Hid (¬ twoR a b) := Lib.hid fun h => hrb h.2.1
      go_enter Tryd.func67, Tryd.ntmps67
      go_wp2_with (first
        | ((with_reducible show wpList _ _ _ (⟨_, .binOp _ _ _ _ _, _, _, _, _⟩ :: _) _ _); (first | ((with_reducible show wpList _ _ _ (⟨_, .binOp .lss _ _ _ _, _, _, _, _⟩ :: _) _ _); refine st_lss rfl _ _ _ _ rfl _ _ _ rfl rfl (fun h_ => ?_) (fun h_ => ?_)) | ((with_reducible show wpList _ _ _ (⟨_, .binOp .leq _ _ _ _, _, _, _, _⟩ :: _) _ _); refine st_leq rfl _ _ _ _ rfl _ _ _ rfl rfl (fun h_ => ?_) (fun h_ => ?_)) | ((with_reducible show wpList _ _ _ (⟨_, .binOp .gtr _ _ _ _, _, _, _, _⟩ :: _) _ _); refine st_gtr rfl _ _ _ _ rfl _ _ _ rfl rfl (fun h_ => ?_) (fun h_ => ?_)) | ((with_reducible show wpList _ _ _ (⟨_, .binOp .geq _ _ _ _, _, _, _, _⟩ :: _) _ _); refine st_geq rfl _ _ _ _ rfl _ _ _ rfl rfl (fun h_ => ?_) (fun h_ => ?_)) | ((with_reducible show wpList _ _ _ (⟨_, .binOp .eql _ _ _ _, _, _, _, _⟩ :: _) _ _); refine st_eql rfl _ _ _ _ rfl _ _ _ rfl rfl (fun h_ => ?_) (fun h_ => ?_)) | ((with_reducible show wpList _ _ _ (⟨_, .binOp .neq _ _ _ _, _, _, _, _⟩ :: _) _ _); refine st_neq rfl _ _ _ _ rfl _ _ _ rfl rfl (fun h_ => ?_) (fun h_ => ?_))) <;> go_prune)
        | (go_at_call 57; refine (rrole_any _ _).mono ?_; (first | rw [HRA.out] | rw [HRB.out]); rintro r_ w_ ⟨_, rfl, rfl, hb_⟩; replace hS := hS.ext hb_; clear hb_))
      go_ret2
      exact .inl ⟨HNO.out, rfl, hS.below⟩
  · have HRA := Lib.hid (decide_eq_false hra)
    have HRB := HRA
    have HNO : Hid (¬ twoR a b) := Lib.hid fun h => hra h.1
    go_enter Tryd.func67, Tryd.ntmps67
    go_wp2_with (first
      | ((with_reducible show wpList _ _ _ (⟨_, .binOp _ _ _ _ _, _, _, _, _⟩ :: _) _ _); (first | ((with_reducible show wpList _ _ _ (⟨_, .binOp .lss _ _ _ _, _, _, _, _⟩ :: _) _ _); refine st_lss rfl _ _ _ _ rfl _ _ _ rfl rfl (fun h_ => ?_) (fun h_ => ?_)) | ((with_reducible show wpList _ _ _ (⟨_, .binOp .leq _ _ _ _, _, _, _, _⟩ :: _) _ _); refine st_leq rfl _ _ _ _ rfl _ _ _ rfl rfl (fun h_ => ?_) (fun h_ => ?_)) | ((with_reducible show wpList _ _ _ (⟨_, .binOp .gtr _ _ _ _, _, _, _, _⟩ :: _) _ _); refine st_gtr rfl _ _ _ _ rfl _ _ _ rfl rfl (fun h_ => ?_) (fun h_ => ?_)) | ((with_reducible show wpList _ _ _ (⟨_, .binOp .geq _ _ _ _, _, _, _, _⟩ :: _) _ _); refine st_geq rfl _ _ _ _ rfl _ _ _ rfl rfl (fun h_ => ?_) (fun h_ => ?_)) | ((with_reducible show wpList _ _ _ (⟨_, .binOp .eql _ _ _ _, _, _, _, _⟩ :: _) _ _); refine st_eql rfl _ _ _ _ rfl _ _ _ rfl rfl (fun h_ => ?_) (fun h_ => ?_)) | ((with_reducible show wpList _ _ _ (⟨_, .binOp .neq _ _ _ _, _, _, _, _⟩ :: _) _ _); refine st_neq rfl _ _ _ _ rfl _ _ _ rfl rfl (fun h_ => ?_) (fun h_ => ?_))) <;> go_prune)
      | (go_at_call 57; refine (rrole_any _ _).mono ?_; (first | rw [HRA.out] | rw [HRB.out]); rintro r_ w_ ⟨_, rfl, rfl, hb_⟩; replace hS := hS.ext hb_; clear hb_))
    go_ret2
    exact .inl ⟨HNO.out, rfl, hS.below⟩
/-- a link that is there is taken away -/
theorem RUnlinkP.mem {w0 w' : World} {pv : Value} {L : List (Nat × Nat)} {x : Nat × Nat} {e : Ending} (h : RUnlinkP w0 pv L (x.1 : Nat) (x.2 : Nat) e w') (hx : x ∈ L) (h1 : (1 ≤ x.1 ∧ x.1 < 64) ∧ 1 ≤ x.2 ∧ x.2 < 64) (h2 : x.1 ≠ x.2) :
    ∃ v, e = .returned (.tuple #[v, .int .i64 0]) ∧ St w0 w' [.own v 50 2 (unl L x).length (pcells (unl L x))] fun _ _ => True := by
  rcases h with ⟨h, _⟩ | ⟨a, b, ha, hb, _, _, _, h⟩
  · exact absurd ⟨⟨by omega, by omega⟩, ⟨by omega, by omega⟩, by omega⟩ h
  · obtain rfl : x = (a, b) := Prod.ext (by show x.1 = a; omega) (by show x.2 = b; omega)
    rcases h with ⟨h, _⟩ | ⟨_, h⟩
    · exact absurd hx h
    · exact h
open Classical in
/-- the links that follow from the others -/
noncomputable def redL (L M : List (Nat × Nat)) : List (Nat × Nat) := M.filter fun x => decide (TC (unl L x) x.1 x.2)
open Classical in
theorem redL_step {L M : List (Nat × Nat)} {j : Nat} {u : Nat × Nat} (h : M[j]? = some u) : redL L (M.take (j + 1)) = if TC (unl L u) u.1 u.2 then redL L (M.take j) ++ [u] else redL L (M.take j) := by
  unfold redL
  rw [List.take_add_one, h, List.filter_append]
  by_cases e : TC (unl L u) u.1 u.2 <;> simp [e]
theorem redL_len (L M : List (Nat × Nat)) (j : Nat) : (redL L (M.take j)).length ≤ j := by
  unfold redL
  exact Nat.le_trans (List.length_filter_le _ _) (by rw [List.length_take]; omega)
end Go.Proofs.YtmlkgaiphpimiaaDoor
