/-
  What the statement needs, part 4.
-/
import Derived.Test.YtmlkgaiphpimiaaDoorCn3
namespace Go.Proofs.YtmlkgaiphpimiaaDoor
open Go.RowKit
attribute [local go_sem ↓] Go.wp_at_zero Go.wp_at_succ
set_option maxRecDepth 20000
set_option exponentiation.threshold 5000

/-- two different roles -/
def twoR (a b : Int) : Prop := (1 ≤ a ∧ a ≤ 63) ∧ (1 ≤ b ∧ b ≤ 63) ∧ a ≠ b
/-- what the reference's Link gives: the links (a new row where there is no error) and the error -/
def RLinkP (w0 : World) (pv : Value) (L : List (Nat × Nat)) (a b : Int) (e : Ending) (w' : World) : Prop :=
  (¬ twoR a b ∧ e = .returned (.tuple #[pv, .int .i64 1]) ∧ Below w0.heap.size w0 w') ∨
  ∃ x y : Nat, a = (x : Int) ∧ b = (y : Int) ∧ (1 ≤ x ∧ x < 64) ∧ (1 ≤ y ∧ y < 64) ∧ x ≠ y ∧
    (((x, y) ∈ L ∧ e = .returned (.tuple #[pv, .int .i64 5]) ∧ Below w0.heap.size w0 w') ∨
     ((x, y) ∉ L ∧ TC L y x ∧ e = .returned (.tuple #[pv, .int .i64 16]) ∧ Below w0.heap.size w0 w') ∨
     ((x, y) ∉ L ∧ ¬ TC L y x ∧ ∃ v, e = .returned (.tuple #[v, .int .i64 0]) ∧ St w0 w' [.own v 50 2 (L.length + 1) (pcells (ins L (x, y)))] fun _ _ => True))
theorem ins_at {L : List (Nat × Nat)} {y : Nat × Nat} {i : Nat} (h : i ≤ insAt L y) {x : Nat × Nat} (hx : L[i]? = some x) : (plt x y → i + 1 ≤ insAt L y) ∧ (¬ plt x y → i = insAt L y) := by
  constructor
  · intro hp
    rcases Nat.lt_or_ge i (insAt L y) with h1 | h1
    · exact h1
    · obtain rfl : i = insAt L y := by omega
      exact absurd hp (insAt_stop hx)
  · intro hp
    rcases Nat.lt_or_ge i (insAt L y) with h1 | h1
    · obtain ⟨z, h2, h3⟩ := insAt_lt h1
      rw [hx] at h2
      cases h2
      exact absurd h3 hp
    · omega
theorem pcells_drop (L : List (Nat × Nat)) : ∀ k, (pcells L).drop (k * 2) = pcells (L.drop k) := by
  induction L with
  | nil => intro k; simp [pcells]
  | cons x L ih =>
    intro k
    cases k with
    | zero => simp [pcells]
    | succ k => rw [show (k + 1) * 2 = k * 2 + 1 + 1 by omega, pcells_cons]; simp [ih]
/-- the rows that the last region of Link makes, and which operations make them -/
def linkD (L : List (Nat × Nat)) (z : Nat × Nat) (i : Nat) : AD := ⟨50, 2, 4, fun s => match s with | 0 => 0 | 1 => 0 + i | 2 => 0 + i + 1 | _ => 0 + i + 1 + (L.length - i), fun s => match s with | 0 => [] | 1 => [] ++ (pcells L).take (i * 2) | 2 => [] ++ (pcells L).take (i * 2) ++ pcells [z] | _ => [] ++ (pcells L).take (i * 2) ++ pcells [z] ++ (pcells L).drop (i * 2), fun _ v => .own v 50 2 1 (pcells [z])⟩
def linkK : List (Nat × (Bool × Nat)) := [(0, (true, 0)), (4, (true, 1)), (8, (false, 0)), (9, (true, 2)), (13, (true, 3))]
set_option maxHeartbeats 2000000 in
theorem rlink_any {w0 : World} {D : Nat → Prop} {pv : Value} {L : List (Nat × Nat)} (h : Sl w0 D 2 pv L.length (pcells L)) (hL : Inr 64 L) (hl : L.length ≤ 1000000) (a b : Int) :
    Calls Tryd.prog 68 #[pv, .int .i64 a, .int .i64 b] w0 (RLinkP w0 pv L a b) := by
  obtain ⟨A, c, rfl, hc1, _⟩ := h.shape
  obtain ⟨K, kp, hS⟩ : ∃ K : (Nat → Prop) → World → Prop, (∀ D w, K D w → Sl w D 2 (.slice A L.length c) L.length (pcells L)) ∧ St w0 w0 [] K := ⟨_, fun _ _ h => h, St.start (stable_sl (by decide)) h⟩
  clear h
  have HH := Lib.hid (fun (w : World) (D : Nat → Prop) (h : Sl w D 2 (.slice A L.length c) L.length (pcells L)) => rhas_any h hl a b)
  have HI := Lib.hid (fun (w : World) (D : Nat → Prop) (h : Sl w D 2 (.slice A L.length c) L.length (pcells L)) => rimpl_any h hL hl b a)
  by_cases hra : 1 ≤ a ∧ a ≤ 63
  · have HRA := Lib.hid (decide_eq_true hra)
    by_cases hrb : 1 ≤ b ∧ b ≤ 63
    · have HRB := Lib.hid (decide_eq_true hrb)
      by_cases hab : a = b
      · subst hab
        have HNO : Hid (¬ twoR a a) := Lib.hid fun h => h.2.2 rfl
        clear hra hrb
        go_enter Tryd.func68, Tryd.ntmps68
        go_wp2_with (first
          | ((with_reducible show wpList _ _ _ (⟨_, .binOp _ _ _ _ _, _, _, _, _⟩ :: _) _ _); (first | ((with_reducible show wpList _ _ _ (⟨_, .binOp .lss _ _ _ _, _, _, _, _⟩ :: _) _ _); refine st_lss rfl _ _ _ _ rfl _ _ _ rfl rfl (fun h_ => ?_) (fun h_ => ?_)) | ((with_reducible show wpList _ _ _ (⟨_, .binOp .leq _ _ _ _, _, _, _, _⟩ :: _) _ _); refine st_leq rfl _ _ _ _ rfl _ _ _ rfl rfl (fun h_ => ?_) (fun h_ => ?_)) | ((with_reducible show wpList _ _ _ (⟨_, .binOp .gtr _ _ _ _, _, _, _, _⟩ :: _) _ _); refine st_gtr rfl _ _ _ _ rfl _ _ _ rfl rfl (fun h_ => ?_) (fun h_ => ?_)) | ((with_reducible show wpList _ _ _ (⟨_, .binOp .geq _ _ _ _, _, _, _, _⟩ :: _) _ _); refine st_geq rfl _ _ _ _ rfl _ _ _ rfl rfl (fun h_ => ?_) (fun h_ => ?_)) | ((with_reducible show wpList _ _ _ (⟨_, .binOp .eql _ _ _ _, _, _, _, _⟩ :: _) _ _); refine st_eql rfl _ _ _ _ rfl _ _ _ rfl rfl (fun h_ => ?_) (fun h_ => ?_)) | ((with_reducible show wpList _ _ _ (⟨_, .binOp .neq _ _ _ _, _, _, _, _⟩ :: _) _ _); refine st_neq rfl _ _ _ _ rfl _ _ _ rfl rfl (fun h_ => ?_) (fun h_ => ?_))) <;> go_prune)
          | (go_at_call 57; refine (rrole_any _ _).mono ?_; (first | rw [HRA.out] | rw [HRB.out]); rintro r_ w_ ⟨_, rfl, rfl, hb_⟩; replace hS := hS.ext hb_; clear hb_))
        go_ret2
        exact .inl ⟨HNO.out, rfl, hS.below⟩
      · obtain ⟨x, rfl⟩ : ∃ x : Nat, a = (x : Int) := ⟨a.toNat, by omega⟩
        obtain ⟨y, rfl⟩ : ∃ y : Nat, b = (y : Int) := ⟨b.toNat, by omega⟩
        have hx1 : Hid (1 ≤ x ∧ x < 64) := Lib.hid (by omega)
        have hy1 : Hid (1 ≤ y ∧ y < 64) := Lib.hid (by omega)
        have hxy : Hid (x ≠ y) := Lib.hid (by omega)
        have HC1 : Hid (∀ c : Bool, (c = true ↔ ∃ z ∈ L, (x : Int) = (z.1 : Int) ∧ (y : Int) = (z.2 : Int)) → c = decide ((x, y) ∈ L)) := Lib.hid fun c hc => by
          rw [Bool.eq_iff_iff, hc, decide_eq_true_iff]
          constructor
          · rintro ⟨⟨za, zb⟩, h1, h2, h3⟩
            dsimp only at h2 h3
            obtain rfl : x = za := by omega
            obtain rfl : y = zb := by omega
            exact h1
          · intro h; exact ⟨_, h, rfl, rfl⟩
        have HC2 : Hid (∀ c : Bool, (c = true ↔ implR L (y : Nat) (x : Nat)) → (c = true ↔ TC L y x)) := Lib.hid fun c hc => hc.trans ⟨fun ⟨i, j, h1, h2, _, _, h3⟩ => by
            obtain rfl : y = i := by omega
            obtain rfl : x = j := by omega
            exact h3.resolve_left fun e => hxy.out e.symm, fun h => ⟨y, x, rfl, rfl, hy1.out, hx1.out, .inr h⟩⟩
        clear hra hrb
        by_cases hm : (x, y) ∈ L
        · go_enter Tryd.func68, Tryd.ntmps68
          go_wp2_with (first
            | ((with_reducible show wpList _ _ _ (⟨_, .binOp _ _ _ _ _, _, _, _, _⟩ :: _) _ _); (first | ((with_reducible show wpList _ _ _ (⟨_, .binOp .lss _ _ _ _, _, _, _, _⟩ :: _) _ _); refine st_lss rfl _ _ _ _ rfl _ _ _ rfl rfl (fun h_ => ?_) (fun h_ => ?_)) | ((with_reducible show wpList _ _ _ (⟨_, .binOp .leq _ _ _ _, _, _, _, _⟩ :: _) _ _); refine st_leq rfl _ _ _ _ rfl _ _ _ rfl rfl (fun h_ => ?_) (fun h_ => ?_)) | ((with_reducible show wpList _ _ _ (⟨_, .binOp .gtr _ _ _ _, _, _, _, _⟩ :: _) _ _); refine st_gtr rfl _ _ _ _ rfl _ _ _ rfl rfl (fun h_ => ?_) (fun h_ => ?_)) | ((with_reducible show wpList _ _ _ (⟨_, .binOp .geq _ _ _ _, _, _, _, _⟩ :: _) _ _); refine st_geq rfl _ _ _ _ rfl _ _ _ rfl rfl (fun h_ => ?_) (fun h_ => ?_)) | ((with_reducible show wpList _ _ _ (⟨_, .binOp .eql _ _ _ _, _, _, _, _⟩ :: _) _ _); refine st_eql rfl _ _ _ _ rfl _ _ _ rfl rfl (fun h_ => ?_) (fun h_ => ?_)) | ((with_reducible show wpList _ _ _ (⟨_, .binOp .neq _ _ _ _, _, _, _, _⟩ :: _) _ _); refine st_neq rfl _ _ _ _ rfl _ _ _ rfl rfl (fun h_ => ?_) (fun h_ => ?_))) <;> go_prune)
            | (go_at_call 57; refine (rrole_any _ _).mono ?_; (first | rw [HRA.out] | rw [HRB.out]); rintro r_ w_ ⟨_, rfl, rfl, hb_⟩; replace hS := hS.ext hb_; clear hb_)
            | (go_at_call 87; refine (HH.out _ _ (kp _ _ hS.ro)).mono ?_; rintro r_ w_ ⟨_, rfl, ⟨c, rfl, hc⟩, hb_⟩; replace hc := HC1.out c hc; rw [decide_eq_true hm] at hc; subst hc; replace hS := hS.ext hb_; clear hb_))
          go_ret2
          exact .inr ⟨x, y, rfl, rfl, hx1.out, hy1.out, hxy.out, .inl ⟨hm, rfl, hS.below⟩⟩
        · by_cases ht : TC L y x
          · have HT := Lib.hid ht
            have HC3 : Hid (∀ c : Bool, (c = true ↔ implR L (y : Nat) (x : Nat)) → c = true) := Lib.hid fun c hc => (HC2.out c hc).2 ht
            clear ht
            go_enter Tryd.func68, Tryd.ntmps68
            go_wp2_with (first
              | ((with_reducible show wpList _ _ _ (⟨_, .binOp _ _ _ _ _, _, _, _, _⟩ :: _) _ _); (first | ((with_reducible show wpList _ _ _ (⟨_, .binOp .lss _ _ _ _, _, _, _, _⟩ :: _) _ _); refine st_lss rfl _ _ _ _ rfl _ _ _ rfl rfl (fun h_ => ?_) (fun h_ => ?_)) | ((with_reducible show wpList _ _ _ (⟨_, .binOp .leq _ _ _ _, _, _, _, _⟩ :: _) _ _); refine st_leq rfl _ _ _ _ rfl _ _ _ rfl rfl (fun h_ => ?_) (fun h_ => ?_)) | ((with_reducible show wpList _ _ _ (⟨_, .binOp .gtr _ _ _ _, _, _, _, _⟩ :: _) _ _); refine st_gtr rfl _ _ _ _ rfl _ _ _ rfl rfl (fun h_ => ?_) (fun h_ => ?_)) | ((with_reducible show wpList _ _ _ (⟨_, .binOp .geq _ _ _ _, _, _, _, _⟩ :: _) _ _); refine st_geq rfl _ _ _ _ rfl _ _ _ rfl rfl (fun h_ => ?_) (fun h_ => ?_)) | ((with_reducible show wpList _ _ _ (⟨_, .binOp .eql _ _ _ _, _, _, _, _⟩ :: _) _ _); refine st_eql rfl _ _ _ _ rfl _ _ _ rfl rfl (fun h_ => ?_) (fun h_ => ?_)) | ((with_reducible show wpList _ _ _ (⟨_, .binOp .neq _ _ _ _, _, _, _, _⟩ :: _) _ _); refine st_neq rfl _ _ _ _ rfl _ _ _ rfl rfl (fun h_ => ?_) (fun h_ => ?_))) <;> go_prune)
              | (go_at_call 57; refine (rrole_any _ _).mono ?_; (first | rw [HRA.out] | rw [HRB.out]); rintro r_ w_ ⟨_, rfl, rfl, hb_⟩; replace hS := hS.ext hb_; clear hb_)
              | (go_at_call 87; refine (HH.out _ _ (kp _ _ hS.ro)).mono ?_; rintro r_ w_ ⟨_, rfl, ⟨c, rfl, hc⟩, hb_⟩; replace hc := HC1.out c hc; rw [decide_eq_false hm] at hc; subst hc; replace hS := hS.ext hb_; clear hb_)
              | (go_at_call 16; refine (HI.out _ _ (kp _ _ hS.ro)).mono ?_; rintro r_ w_ ⟨_, rfl, ⟨c, rfl, hc⟩, hb_⟩; obtain rfl := HC3.out c hc; clear hc; replace hS := hS.ext hb_; clear hb_))
            go_ret2
            exact .inr ⟨x, y, rfl, rfl, hx1.out, hy1.out, hxy.out, .inr (.inl ⟨hm, HT.out, rfl, hS.below⟩)⟩
          · have HT := Lib.hid ht
            have HC3 : Hid (∀ c : Bool, (c = true ↔ implR L (y : Nat) (x : Nat)) → c = false) := Lib.hid fun c hc => by
              cases c with
              | true => exact absurd ((HC2.out true hc).1 rfl) ht
              | false => rfl
            clear ht
            go_enter Tryd.func68, Tryd.ntmps68
            go_wp2_with (first
              | ((with_reducible show wpList _ _ _ (⟨_, .binOp _ _ _ _ _, _, _, _, _⟩ :: _) _ _); (first | ((with_reducible show wpList _ _ _ (⟨_, .binOp .lss _ _ _ _, _, _, _, _⟩ :: _) _ _); refine st_lss rfl _ _ _ _ rfl _ _ _ rfl rfl (fun h_ => ?_) (fun h_ => ?_)) | ((with_reducible show wpList _ _ _ (⟨_, .binOp .leq _ _ _ _, _, _, _, _⟩ :: _) _ _); refine st_leq rfl _ _ _ _ rfl _ _ _ rfl rfl (fun h_ => ?_) (fun h_ => ?_)) | ((with_reducible show wpList _ _ _ (⟨_, .binOp .gtr _ _ _ _, _, _, _, _⟩ :: _) _ _); refine st_gtr rfl _ _ _ _ rfl _ _ _ rfl rfl (fun h_ => ?_) (fun h_ => ?_)) | ((with_reducible show wpList _ _ _ (⟨_, .binOp .geq _ _ _ _, _, _, _, _⟩ :: _) _ _); refine st_geq rfl _ _ _ _ rfl _ _ _ rfl rfl (fun h_ => ?_) (fun h_ => ?_)) | ((with_reducible show wpList _ _ _ (⟨_, .binOp .eql _ _ _ _, _, _, _, _⟩ :: _) _ _); refine st_eql rfl _ _ _ _ rfl _ _ _ rfl rfl (fun h_ => ?_) (fun h_ => ?_)) | ((with_reducible show wpList _ _ _ (⟨_, .binOp .neq _ _ _ _, _, _, _, _⟩ :: _) _ _); refine st_neq rfl _ _ _ _ rfl _ _ _ rfl rfl (fun h_ => ?_) (fun h_ => ?_))) <;> go_prune)
              | (go_at_call 57; refine (rrole_any _ _).mono ?_; (first | rw [HRA.out] | rw [HRB.out]); rintro r_ w_ ⟨_, rfl, rfl, hb_⟩; replace hS := hS.ext hb_; clear hb_)
              | (go_at_call 87; refine (HH.out _ _ (kp _ _ hS.ro)).mono ?_; rintro r_ w_ ⟨_, rfl, ⟨c, rfl, hc⟩, hb_⟩; replace hc := HC1.out c hc; rw [decide_eq_false hm] at hc; subst hc; replace hS := hS.ext hb_; clear hb_)
              | (go_at_call 16; refine (HI.out _ _ (kp _ _ hS.ro)).mono ?_; rintro r_ w_ ⟨_, rfl, ⟨c, rfl, hc⟩, hb_⟩; obtain rfl := HC3.out c hc; clear hc; replace hS := hS.ext hb_; clear hb_))
            go_loopw [8] (fun v wr => ∃ i : Nat, v = .int .i64 (i : Nat) ∧ i ≤ L.length ∧ Hid (i ≤ insAt L (x, y)) ∧ St w0 wr [] K) (fun v _ => L.length - (intOf v).toNat)
            case atStart => exact ⟨0, rfl, by omega, Lib.hid (Nat.zero_le _), hS⟩
            case round =>
              clear hS HH HI
              obtain ⟨i, rfl, hil, HIA, hS⟩ := hrel
              by_cases hlt : i < L.length
              · obtain ⟨f1, f2⟩ := pcells_at L i hlt
                have HST := Lib.hid (ins_at HIA.out (getD_at (0, 0) hlt))
                generalize L.getD i (0, 0) = z at *
                obtain ⟨za, zb⟩ := z
                dsimp only at f1 f2
                rcases Nat.lt_trichotomy za x with h1 | h1 | h1
                · have HN := Lib.hid (HST.out.1 (.inl h1))
                  clear HST
                  go_wp2_with (first
                    | ((with_reducible show wpList _ _ _ (⟨_, .binOp _ _ _ _ _, _, _, _, _⟩ :: _) _ _); (first | ((with_reducible show wpList _ _ _ (⟨_, .binOp .lss _ _ _ _, _, _, _, _⟩ :: _) _ _); refine st_lss rfl _ _ _ _ rfl _ _ _ rfl rfl (fun h_ => ?_) (fun h_ => ?_)) | ((with_reducible show wpList _ _ _ (⟨_, .binOp .leq _ _ _ _, _, _, _, _⟩ :: _) _ _); refine st_leq rfl _ _ _ _ rfl _ _ _ rfl rfl (fun h_ => ?_) (fun h_ => ?_)) | ((with_reducible show wpList _ _ _ (⟨_, .binOp .gtr _ _ _ _, _, _, _, _⟩ :: _) _ _); refine st_gtr rfl _ _ _ _ rfl _ _ _ rfl rfl (fun h_ => ?_) (fun h_ => ?_)) | ((with_reducible show wpList _ _ _ (⟨_, .binOp .geq _ _ _ _, _, _, _, _⟩ :: _) _ _); refine st_geq rfl _ _ _ _ rfl _ _ _ rfl rfl (fun h_ => ?_) (fun h_ => ?_)) | ((with_reducible show wpList _ _ _ (⟨_, .binOp .eql _ _ _ _, _, _, _, _⟩ :: _) _ _); refine st_eql rfl _ _ _ _ rfl _ _ _ rfl rfl (fun h_ => ?_) (fun h_ => ?_)) | ((with_reducible show wpList _ _ _ (⟨_, .binOp .neq _ _ _ _, _, _, _, _⟩ :: _) _ _); refine st_neq rfl _ _ _ _ rfl _ _ _ rfl rfl (fun h_ => ?_) (fun h_ => ?_))) <;> go_prune)
                    | ((with_reducible show wpList _ _ _ (⟨_, .indexAddr _ _ _, _, _, _, _⟩ :: _) _ _); refine st_iaddr2 hS rfl _ _ _ rfl _ rfl rfl (by assumption) Tryd.underlying25 (by kernel_rfl) (by first | assumption | omega) _ _ (by assumption) (by assumption) ?_; intro b_ j_ hc0_ hc1_)
                    | ((with_reducible show wpList _ _ _ (⟨_, .load _ _, _, _, _, _⟩ :: _) _ _); first | refine BigFrame.wpList_want rfl fun _ hK => opw_cell rfl rfl (by kernel_rfl) hc0_ (hK _ _ ?_) | refine BigFrame.wpList_want rfl fun _ hK => opw_cell rfl rfl (by kernel_rfl) hc1_ (hK _ _ ?_)))
                  exact ⟨⟨i + 1, by go_num, hlt, HN, hS⟩, by simp [intOf]; omega⟩
                · by_cases h2 : zb < y
                  · have HN := Lib.hid (HST.out.1 (.inr ⟨h1, h2⟩))
                    clear HST
                    go_wp2_with (first
                      | ((with_reducible show wpList _ _ _ (⟨_, .binOp _ _ _ _ _, _, _, _, _⟩ :: _) _ _); (first | ((with_reducible show wpList _ _ _ (⟨_, .binOp .lss _ _ _ _, _, _, _, _⟩ :: _) _ _); refine st_lss rfl _ _ _ _ rfl _ _ _ rfl rfl (fun h_ => ?_) (fun h_ => ?_)) | ((with_reducible show wpList _ _ _ (⟨_, .binOp .leq _ _ _ _, _, _, _, _⟩ :: _) _ _); refine st_leq rfl _ _ _ _ rfl _ _ _ rfl rfl (fun h_ => ?_) (fun h_ => ?_)) | ((with_reducible show wpList _ _ _ (⟨_, .binOp .gtr _ _ _ _, _, _, _, _⟩ :: _) _ _); refine st_gtr rfl _ _ _ _ rfl _ _ _ rfl rfl (fun h_ => ?_) (fun h_ => ?_)) | ((with_reducible show wpList _ _ _ (⟨_, .binOp .geq _ _ _ _, _, _, _, _⟩ :: _) _ _); refine st_geq rfl _ _ _ _ rfl _ _ _ rfl rfl (fun h_ => ?_) (fun h_ => ?_)) | ((with_reducible show wpList _ _ _ (⟨_, .binOp .eql _ _ _ _, _, _, _, _⟩ :: _) _ _); refine st_eql rfl _ _ _ _ rfl _ _ _ rfl rfl (fun h_ => ?_) (fun h_ => ?_)) | ((with_reducible show wpList _ _ _ (⟨_, .binOp .neq _ _ _ _, _, _, _, _⟩ :: _) _ _); refine st_neq rfl _ _ _ _ rfl _ _ _ rfl rfl (fun h_ => ?_) (fun h_ => ?_))) <;> go_prune)
                      | ((with_reducible show wpList _ _ _ (⟨_, .indexAddr _ _ _, _, _, _, _⟩ :: _) _ _); refine st_iaddr2 hS rfl _ _ _ rfl _ rfl rfl (by assumption) Tryd.underlying25 (by kernel_rfl) (by first | assumption | omega) _ _ (by assumption) (by assumption) ?_; intro b_ j_ hc0_ hc1_)
                      | ((with_reducible show wpList _ _ _ (⟨_, .load _ _, _, _, _, _⟩ :: _) _ _); first | refine BigFrame.wpList_want rfl fun _ hK => opw_cell rfl rfl (by kernel_rfl) hc0_ (hK _ _ ?_) | refine BigFrame.wpList_want rfl fun _ hK => opw_cell rfl rfl (by kernel_rfl) hc1_ (hK _ _ ?_)))
                    exact ⟨⟨i + 1, by go_num, hlt, HN, hS⟩, by simp [intOf]; omega⟩
                  · have HE := Lib.hid (HST.out.2 (by rintro (h | h) <;> dsimp only at h <;> omega))
                    clear HST
                    go_wp2_with (first
                      | ((with_reducible show wpList _ _ _ (⟨_, .binOp _ _ _ _ _, _, _, _, _⟩ :: _) _ _); (first | ((with_reducible show wpList _ _ _ (⟨_, .binOp .lss _ _ _ _, _, _, _, _⟩ :: _) _ _); refine st_lss rfl _ _ _ _ rfl _ _ _ rfl rfl (fun h_ => ?_) (fun h_ => ?_)) | ((with_reducible show wpList _ _ _ (⟨_, .binOp .leq _ _ _ _, _, _, _, _⟩ :: _) _ _); refine st_leq rfl _ _ _ _ rfl _ _ _ rfl rfl (fun h_ => ?_) (fun h_ => ?_)) | ((with_reducible show wpList _ _ _ (⟨_, .binOp .gtr _ _ _ _, _, _, _, _⟩ :: _) _ _); refine st_gtr rfl _ _ _ _ rfl _ _ _ rfl rfl (fun h_ => ?_) (fun h_ => ?_)) | ((with_reducible show wpList _ _ _ (⟨_, .binOp .geq _ _ _ _, _, _, _, _⟩ :: _) _ _); refine st_geq rfl _ _ _ _ rfl _ _ _ rfl rfl (fun h_ => ?_) (fun h_ => ?_)) | ((with_reducible show wpList _ _ _ (⟨_, .binOp .eql _ _ _ _, _, _, _, _⟩ :: _) _ _); refine st_eql rfl _ _ _ _ rfl _ _ _ rfl rfl (fun h_ => ?_) (fun h_ => ?_)) | ((with_reducible show wpList _ _ _ (⟨_, .binOp .neq _ _ _ _, _, _, _, _⟩ :: _) _ _); refine st_neq rfl _ _ _ _ rfl _ _ _ rfl rfl (fun h_ => ?_) (fun h_ => ?_))) <;> go_prune)
                      | ((with_reducible show wpList _ _ _ (⟨_, .indexAddr _ _ _, _, _, _, _⟩ :: _) _ _); refine st_iaddr2 hS rfl _ _ _ rfl _ rfl rfl (by assumption) Tryd.underlying25 (by kernel_rfl) (by first | assumption | omega) _ _ (by assumption) (by assumption) ?_; intro b_ j_ hc0_ hc1_)
                      | ((with_reducible show wpList _ _ _ (⟨_, .load _ _, _, _, _, _⟩ :: _) _ _); first | refine BigFrame.wpList_want rfl fun _ hK => opw_cell rfl rfl (by kernel_rfl) hc0_ (hK _ _ ?_) | refine BigFrame.wpList_want rfl fun _ hK => opw_cell rfl rfl (by kernel_rfl) hc1_ (hK _ _ ?_)))
                    have hic : i ≤ c := by omega
                    have hJ0 : AJ w0 [] K (linkD L (x, y) i) (wr.drew, ⟨[], []⟩) := ⟨hS.drew, Nat.zero_le _⟩
                    have hN0 := AN_start linkK wr.drew
                    have hRr := @AR.refl w0 [] K (linkD L (x, y) i)
                    have hRt := @AR.trans w0 [] K (linkD L (x, y) i)
                    refine wp_region_ghost (fun i__ v w => match i__ with
                      | 0 => AtS w.2 0 v
                      | 1 => v = .slice A L.length c
                      | 2 => v = .int .i64 ((i : Nat) : Int)
                      | 3 => v = .slice A i c
                      | 4 => AtS w.2 1 v
                      | 5 => v = .int .i64 ((x : Nat) : Int)
                      | 6 => v = .int .i64 ((y : Nat) : Int)
                      | 7 => v = .agg #[.int .i64 ((x : Nat) : Int), .int .i64 ((y : Nat) : Int)]
                      | 8 => (0, v) ∈ w.2.b
                      | 9 => AtS w.2 2 v
                      | 10 => v = .slice A L.length c
                      | 11 => v = .int .i64 ((i : Nat) : Int)
                      | 12 => v = sliced A i L.length c 2
                      | 13 => AtS w.2 3 v
                      | 14 => AtS w.2 3 v
                      | 15 => v = .int .i64 0
                      | _ => True) (AR w0 [] K (linkD L (x, y) i)) (AN linkK) (⟨[], []⟩) (by kernel_rfl) (by kernel_rfl) hRr hRt ?mono ?hN ⟨?r0, ?r1, ?r2, ?r3, ?r4, ?r5, ?r6, ?r7, ?r8, ?r9, ?r10, ?r11, ?r12, ?r13, ?r14, ?r15, trivial⟩ ?post
                    case hN => first | assumption | (intro i; (try dsimp only); split <;> first | trivial | assumption | (left; assumption))
                    case mono =>
                      intro i v w w' h hb
                      match i, h with
                      | 0, h => exact h.mono hb.2.1
                      | 1, h => exact h
                      | 2, h => exact h
                      | 3, h => exact h
                      | 4, h => exact h.mono hb.2.1
                      | 5, h => exact h
                      | 6, h => exact h
                      | 7, h => exact h
                      | 8, h => exact hb.2.2 _ h
                      | 9, h => exact h.mono hb.2.1
                      | 10, h => exact h
                      | 11, h => exact h
                      | 12, h => exact h
                      | 13, h => exact h.mono hb.2.1
                      | 14, h => exact h.mono hb.2.1
                      | 15, h => exact h
                      | _ + 16, h => trivial
                    case r0 =>
                      refine truleGh fun b__ w hW hN hold hpre => ⟨fun hwant K hK => ?_, fun hwant => ?_⟩
                      · clear hwant
                        exact chain_start (kd := linkK) (by decide) rfl rfl Tryd.underlying25 (by kernel_rfl) hN rfl rfl (show 0 < 4 by decide) hK
                      · rw [want_none rfl] at hwant; cases hwant
                    case r1 =>
                      refine truleGh fun b__ w hW hN hold hpre => ⟨fun hwant K hK => ?_, fun hwant => ?_⟩
                      · clear hwant
                        have e0 : b__.eval (.tmp 0) = .slice A L.length c := (hold 0 (by kernel_rfl)).trans rfl
                        exact opw_move rfl e0 (hK _ _ rfl ⟨hRr _, fun _ _ h => h⟩)
                      · rw [want_none rfl] at hwant; cases hwant
                    case r2 =>
                      refine truleGh fun b__ w hW hN hold hpre => ⟨fun hwant K hK => ?_, fun hwant => ?_⟩
                      · clear hwant
                        have e8 : b__.eval (.tmp 8) = .int .i64 ((i : Nat) : Int) := (hold 8 (by kernel_rfl)).trans rfl
                        exact opw_move rfl e8 (hK _ _ rfl ⟨hRr _, fun _ _ h => h⟩)
                      · rw [want_none rfl] at hwant; cases hwant
                    case r3 =>
                      refine truleGh fun b__ w hW hN hold hpre => ⟨fun hwant K hK => ?_, fun hwant => ?_⟩
                      · clear hwant
                        have e67 : b__.eval (.tmp 67) = .slice A L.length c := hpre ⟨1, _⟩ (Array.mem_of_getElem? (i := 0) rfl) rfl _ _ rfl rfl
                        have e68 : b__.eval (.tmp 68) = .int .i64 ((i : Nat) : Int) := hpre ⟨2, _⟩ (Array.mem_of_getElem? (i := 1) rfl) rfl _ _ rfl rfl
                        exact opw_slh rfl Tryd.underlying25 ⟨2, by kernel_rfl⟩ e67 e68 hic (hK _ _ rfl ⟨hRr _, fun _ _ h => h⟩)
                      · rw [want_none rfl] at hwant; cases hwant
                    case r4 =>
                      refine truleGh fun b__ w hW hN hold hpre => ⟨fun hwant K hK => ?_, fun hwant => ?_⟩
                      · clear hwant
                        have e66 : (fun (v : Value) (w : World × _) => AtS w.2 0 v) (b__.eval (.tmp 66)) w := hpre ⟨0, _⟩ (Array.mem_of_getElem? (i := 0) rfl) rfl _ _ rfl rfl
                        have e69 : b__.eval (.tmp 69) = .slice A i c := hpre ⟨3, _⟩ (Array.mem_of_getElem? (i := 1) rfl) rfl _ _ rfl rfl
                        exact chain_app (kd := linkK) (by decide) rfl rfl ty_pairs hN e66 (hW.1 hJ0) (by rw [e69]; exact slc_take (kp _ _ (hW.1 hJ0).1.ro) hil) (fun u hu => pcells_one L u (List.mem_of_mem_take hu)) rfl rfl (by simp [linkD]; omega) (by simp [linkD]; omega) (show 0 + 1 < 4 by decide) hK
                      · rw [want_none rfl] at hwant; cases hwant
                    case r5 =>
                      refine truleGh fun b__ w hW hN hold hpre => ⟨fun hwant K hK => ?_, fun hwant => ?_⟩
                      · clear hwant
                        have e1 : b__.eval (.tmp 1) = .int .i64 ((x : Nat) : Int) := (hold 1 (by kernel_rfl)).trans rfl
                        exact opw_move rfl e1 (hK _ _ rfl ⟨hRr _, fun _ _ h => h⟩)
                      · rw [want_none rfl] at hwant; cases hwant
                    case r6 =>
                      refine truleGh fun b__ w hW hN hold hpre => ⟨fun hwant K hK => ?_, fun hwant => ?_⟩
                      · clear hwant
                        have e2 : b__.eval (.tmp 2) = .int .i64 ((y : Nat) : Int) := (hold 2 (by kernel_rfl)).trans rfl
                        exact opw_move rfl e2 (hK _ _ rfl ⟨hRr _, fun _ _ h => h⟩)
                      · rw [want_none rfl] at hwant; cases hwant
                    case r7 =>
                      refine truleGh fun b__ w hW hN hold hpre => ⟨fun hwant K hK => ?_, fun hwant => ?_⟩
                      · clear hwant
                        have e71 : b__.eval (.tmp 71) = .int .i64 ((x : Nat) : Int) := hpre ⟨5, _⟩ (Array.mem_of_getElem? (i := 0) rfl) rfl _ _ rfl rfl
                        have e72 : b__.eval (.tmp 72) = .int .i64 ((y : Nat) : Int) := hpre ⟨6, _⟩ (Array.mem_of_getElem? (i := 1) rfl) rfl _ _ rfl rfl
                        exact opw_built rfl (ps := [(0, .int .i64 ((x : Nat) : Int)), (1, .int .i64 ((y : Nat) : Int))]) (cells := #[.int .i64 ((x : Nat) : Int), .int .i64 ((y : Nat) : Int)]) (by simp [e71, e72]) (by kernel_rfl) (hK _ _ rfl ⟨hRr _, fun _ _ h => h⟩)
                      · rw [want_none rfl] at hwant; cases hwant
                    case r8 =>
                      refine truleGh fun b__ w hW hN hold hpre => ⟨fun hwant K hK => ?_, fun hwant => ?_⟩
                      · clear hwant
                        have e73 : b__.eval (.tmp 73) = .agg #[.int .i64 ((x : Nat) : Int), .int .i64 ((y : Nat) : Int)] := hpre ⟨7, _⟩ (Array.mem_of_getElem? (i := 0) rfl) rfl _ _ rfl rfl
                        exact chain_side (kd := linkK) (by decide) rfl rfl Tryd.underlying25 (ps := [(0, .agg #[.int .i64 ((x : Nat) : Int), .int .i64 ((y : Nat) : Int)])]) (cells := #[.int .i64 ((x : Nat) : Int), .int .i64 ((y : Nat) : Int)]) (by simp [e73]) (by kernel_rfl) (fun _ => rfl) rfl (by decide) hK
                      · rw [want_none rfl] at hwant; cases hwant
                    case r9 =>
                      refine truleGh fun b__ w hW hN hold hpre => ⟨fun hwant K hK => ?_, fun hwant => ?_⟩
                      · clear hwant
                        have e70 : (fun (v : Value) (w : World × _) => AtS w.2 1 v) (b__.eval (.tmp 70)) w := hpre ⟨4, _⟩ (Array.mem_of_getElem? (i := 0) rfl) rfl _ _ rfl rfl
                        have e74 : (fun (v : Value) (w : World × _) => (0, v) ∈ w.2.b) (b__.eval (.tmp 74)) w := hpre ⟨8, _⟩ (Array.mem_of_getElem? (i := 1) rfl) rfl _ _ rfl rfl
                        exact chain_app (kd := linkK) (by decide) rfl rfl ty_pairs hN e70 (hW.1 hJ0) (Sl.of_own ((hW.1 hJ0).side e74)) (pcells_one [(x, y)]) rfl rfl (by simp [linkD]; omega) (by simp [linkD]; omega) (show 1 + 1 < 4 by decide) hK
                      · rw [want_none rfl] at hwant; cases hwant
                    case r10 =>
                      refine truleGh fun b__ w hW hN hold hpre => ⟨fun hwant K hK => ?_, fun hwant => ?_⟩
                      · clear hwant
                        have e0 : b__.eval (.tmp 0) = .slice A L.length c := (hold 0 (by kernel_rfl)).trans rfl
                        exact opw_move rfl e0 (hK _ _ rfl ⟨hRr _, fun _ _ h => h⟩)
                      · rw [want_none rfl] at hwant; cases hwant
                    case r11 =>
                      refine truleGh fun b__ w hW hN hold hpre => ⟨fun hwant K hK => ?_, fun hwant => ?_⟩
                      · clear hwant
                        have e8 : b__.eval (.tmp 8) = .int .i64 ((i : Nat) : Int) := (hold 8 (by kernel_rfl)).trans rfl
                        exact opw_move rfl e8 (hK _ _ rfl ⟨hRr _, fun _ _ h => h⟩)
                      · rw [want_none rfl] at hwant; cases hwant
                    case r12 =>
                      refine truleGh fun b__ w hW hN hold hpre => ⟨fun hwant K hK => ?_, fun hwant => ?_⟩
                      · clear hwant
                        have e76 : b__.eval (.tmp 76) = .slice A L.length c := hpre ⟨10, _⟩ (Array.mem_of_getElem? (i := 0) rfl) rfl _ _ rfl rfl
                        have e77 : b__.eval (.tmp 77) = .int .i64 ((i : Nat) : Int) := hpre ⟨11, _⟩ (Array.mem_of_getElem? (i := 1) rfl) rfl _ _ rfl rfl
                        exact opw_sll rfl Tryd.underlying25 (by kernel_rfl) e76 e77 hil hc1 (hK _ _ rfl ⟨hRr _, fun _ _ h => h⟩)
                      · rw [want_none rfl] at hwant; cases hwant
                    case r13 =>
                      refine truleGh fun b__ w hW hN hold hpre => ⟨fun hwant K hK => ?_, fun hwant => ?_⟩
                      · clear hwant
                        have e75 : (fun (v : Value) (w : World × _) => AtS w.2 2 v) (b__.eval (.tmp 75)) w := hpre ⟨9, _⟩ (Array.mem_of_getElem? (i := 0) rfl) rfl _ _ rfl rfl
                        have e78 : b__.eval (.tmp 78) = sliced A i L.length c 2 := hpre ⟨12, _⟩ (Array.mem_of_getElem? (i := 1) rfl) rfl _ _ rfl rfl
                        exact chain_app (kd := linkK) (by decide) rfl rfl ty_pairs hN e75 (hW.1 hJ0) (by rw [e78]; exact slc_drop (kp _ _ (hW.1 hJ0).1.ro) hil) (fun u hu => pcells_one L u (List.mem_of_mem_drop hu)) rfl rfl (by simp [linkD]; omega) (by simp [linkD]; omega) (show 2 + 1 < 4 by decide) hK
                      · rw [want_none rfl] at hwant; cases hwant
                    case r14 =>
                      refine truleGh fun b__ w hW hN hold hpre => ⟨fun hwant K hK => ?_, fun hwant => ?_⟩
                      · clear hwant
                        have e79 : (fun (v : Value) (w : World × _) => AtS w.2 3 v) (b__.eval (.tmp 79)) w := hpre ⟨13, _⟩ (Array.mem_of_getElem? (i := 0) rfl) rfl _ _ rfl rfl
                        exact opw_assign rfl rfl (hK _ _ e79 ⟨hRr _, fun _ _ h => h⟩)
                      · rw [want_none rfl] at hwant; cases hwant
                    case r15 =>
                      refine truleGh fun b__ w hW hN hold hpre => ⟨fun hwant K hK => ?_, fun hwant => ?_⟩
                      · clear hwant
                        exact opw_assign rfl rfl (hK _ _ rfl ⟨hRr _, fun _ _ h => h⟩)
                      · rw [want_none rfl] at hwant; cases hwant
                    case post =>
                      intro b__ wz hW hdf hsz hold hT hZ
                      have e66 : (fun (v : Value) (w : World × _) => AtS w.2 0 v) (b__.eval (.tmp 66)) wz := hT 0 _ 66 rfl rfl
                      have e67 : b__.eval (.tmp 67) = .slice A L.length c := hT 1 _ 67 rfl rfl
                      have e68 : b__.eval (.tmp 68) = .int .i64 ((i : Nat) : Int) := hT 2 _ 68 rfl rfl
                      have e69 : b__.eval (.tmp 69) = .slice A i c := hT 3 _ 69 rfl rfl
                      have e70 : (fun (v : Value) (w : World × _) => AtS w.2 1 v) (b__.eval (.tmp 70)) wz := hT 4 _ 70 rfl rfl
                      have e71 : b__.eval (.tmp 71) = .int .i64 ((x : Nat) : Int) := hT 5 _ 71 rfl rfl
                      have e72 : b__.eval (.tmp 72) = .int .i64 ((y : Nat) : Int) := hT 6 _ 72 rfl rfl
                      have e73 : b__.eval (.tmp 73) = .agg #[.int .i64 ((x : Nat) : Int), .int .i64 ((y : Nat) : Int)] := hT 7 _ 73 rfl rfl
                      have e74 : (fun (v : Value) (w : World × _) => (0, v) ∈ w.2.b) (b__.eval (.tmp 74)) wz := hT 8 _ 74 rfl rfl
                      have e75 : (fun (v : Value) (w : World × _) => AtS w.2 2 v) (b__.eval (.tmp 75)) wz := hT 9 _ 75 rfl rfl
                      have e76 : b__.eval (.tmp 76) = .slice A L.length c := hT 10 _ 76 rfl rfl
                      have e77 : b__.eval (.tmp 77) = .int .i64 ((i : Nat) : Int) := hT 11 _ 77 rfl rfl
                      have e78 : b__.eval (.tmp 78) = sliced A i L.length c 2 := hT 12 _ 78 rfl rfl
                      have e79 : (fun (v : Value) (w : World × _) => AtS w.2 3 v) (b__.eval (.tmp 79)) wz := hT 13 _ 79 rfl rfl
                      have e6 : (fun (v : Value) (w : World × _) => AtS w.2 3 v) (b__.eval (.tmp 6)) wz := hT 14 _ 6 rfl rfl
                      have e7 : b__.eval (.tmp 7) = .int .i64 0 := hT 15 _ 7 rfl rfl
                      obtain ⟨vs, hvs, hb⟩ := frame_of hdf hsz hold
                      replace e66 := (hvs 66) ▸ e66
                      replace e67 : vs 67 = .slice A L.length c := (hvs 67).symm.trans e67
                      replace e68 : vs 68 = .int .i64 ((i : Nat) : Int) := (hvs 68).symm.trans e68
                      replace e69 : vs 69 = .slice A i c := (hvs 69).symm.trans e69
                      replace e70 := (hvs 70) ▸ e70
                      replace e71 : vs 71 = .int .i64 ((x : Nat) : Int) := (hvs 71).symm.trans e71
                      replace e72 : vs 72 = .int .i64 ((y : Nat) : Int) := (hvs 72).symm.trans e72
                      replace e73 : vs 73 = .agg #[.int .i64 ((x : Nat) : Int), .int .i64 ((y : Nat) : Int)] := (hvs 73).symm.trans e73
                      replace e74 := (hvs 74) ▸ e74
                      replace e75 := (hvs 75) ▸ e75
                      replace e76 : vs 76 = .slice A L.length c := (hvs 76).symm.trans e76
                      replace e77 : vs 77 = .int .i64 ((i : Nat) : Int) := (hvs 77).symm.trans e77
                      replace e78 : vs 78 = sliced A i L.length c 2 := (hvs 78).symm.trans e78
                      replace e79 := (hvs 79) ▸ e79
                      replace e6 := (hvs 6) ▸ e6
                      replace e7 : vs 7 = .int .i64 0 := (hvs 7).symm.trans e7
                      subst hb
                      clear hvs hold hT hdf hsz
                      simp only [setAll, Act.put, List.setIfInBounds_toArray, List.set_cons_zero, List.set_cons_succ, List.getElem_toArray, List.getElem_cons_succ, List.getElem_cons_zero]
                      have hJ := (hW.1 hJ0).last e6 rfl
                      replace hJ : St w0 wz.1 [.own (vs 6) 50 2 (L.length + 1) (pcells (ins L (x, y)))] fun _ _ => True := by
                        have e1 : 0 + i + 1 + (L.length - i) = L.length + 1 := by omega
                        have e2 : [] ++ (pcells L).take (i * 2) ++ pcells [(x, y)] ++ (pcells L).drop (i * 2) = pcells (ins L (x, y)) := by
                          rw [List.nil_append, pcells_take, pcells_drop, ← pcells_app, ← pcells_app, ins, ← HE.out, List.append_assoc]; rfl
                        simp only [linkD] at hJ
                        rw [e1, e2] at hJ
                        exact hJ.mono (Stable.pure True) fun _ _ _ => trivial
                      rw [e7]
                      generalize vs 6 = v6 at *
                      generalize wz.1 = wf at *
                      clear hW hZ hJ0 hRr hRt e6 e7
                      go_wp2_with fail
                      all_goals
                        go_ret2
                        exact .inr ⟨x, y, rfl, rfl, hx1.out, hy1.out, hxy.out, .inr (.inr ⟨hm, HT.out, _, rfl, hJ⟩)⟩
                · have HE := Lib.hid (HST.out.2 (by rintro (h | h) <;> dsimp only at h <;> omega))
                  clear HST
                  go_wp2_with (first
                    | ((with_reducible show wpList _ _ _ (⟨_, .binOp _ _ _ _ _, _, _, _, _⟩ :: _) _ _); (first | ((with_reducible show wpList _ _ _ (⟨_, .binOp .lss _ _ _ _, _, _, _, _⟩ :: _) _ _); refine st_lss rfl _ _ _ _ rfl _ _ _ rfl rfl (fun h_ => ?_) (fun h_ => ?_)) | ((with_reducible show wpList _ _ _ (⟨_, .binOp .leq _ _ _ _, _, _, _, _⟩ :: _) _ _); refine st_leq rfl _ _ _ _ rfl _ _ _ rfl rfl (fun h_ => ?_) (fun h_ => ?_)) | ((with_reducible show wpList _ _ _ (⟨_, .binOp .gtr _ _ _ _, _, _, _, _⟩ :: _) _ _); refine st_gtr rfl _ _ _ _ rfl _ _ _ rfl rfl (fun h_ => ?_) (fun h_ => ?_)) | ((with_reducible show wpList _ _ _ (⟨_, .binOp .geq _ _ _ _, _, _, _, _⟩ :: _) _ _); refine st_geq rfl _ _ _ _ rfl _ _ _ rfl rfl (fun h_ => ?_) (fun h_ => ?_)) | ((with_reducible show wpList _ _ _ (⟨_, .binOp .eql _ _ _ _, _, _, _, _⟩ :: _) _ _); refine st_eql rfl _ _ _ _ rfl _ _ _ rfl rfl (fun h_ => ?_) (fun h_ => ?_)) | ((with_reducible show wpList _ _ _ (⟨_, .binOp .neq _ _ _ _, _, _, _, _⟩ :: _) _ _); refine st_neq rfl _ _ _ _ rfl _ _ _ rfl rfl (fun h_ => ?_) (fun h_ => ?_))) <;> go_prune)
                    | ((with_reducible show wpList _ _ _ (⟨_, .indexAddr _ _ _, _, _, _, _⟩ :: _) _ _); refine st_iaddr2 hS rfl _ _ _ rfl _ rfl rfl (by assumption) Tryd.underlying25 (by kernel_rfl) (by first | assumption | omega) _ _ (by assumption) (by assumption) ?_; intro b_ j_ hc0_ hc1_)
                    | ((with_reducible show wpList _ _ _ (⟨_, .load _ _, _, _, _, _⟩ :: _) _ _); first | refine BigFrame.wpList_want rfl fun _ hK => opw_cell rfl rfl (by kernel_rfl) hc0_ (hK _ _ ?_) | refine BigFrame.wpList_want rfl fun _ hK => opw_cell rfl rfl (by kernel_rfl) hc1_ (hK _ _ ?_)))
                  have hic : i ≤ c := by omega
                  have hJ0 : AJ w0 [] K (linkD L (x, y) i) (wr.drew, ⟨[], []⟩) := ⟨hS.drew, Nat.zero_le _⟩
                  have hN0 := AN_start linkK wr.drew
                  have hRr := @AR.refl w0 [] K (linkD L (x, y) i)
                  have hRt := @AR.trans w0 [] K (linkD L (x, y) i)
                  refine wp_region_ghost (fun i__ v w => match i__ with
                    | 0 => AtS w.2 0 v
                    | 1 => v = .slice A L.length c
                    | 2 => v = .int .i64 ((i : Nat) : Int)
                    | 3 => v = .slice A i c
                    | 4 => AtS w.2 1 v
                    | 5 => v = .int .i64 ((x : Nat) : Int)
                    | 6 => v = .int .i64 ((y : Nat) : Int)
                    | 7 => v = .agg #[.int .i64 ((x : Nat) : Int), .int .i64 ((y : Nat) : Int)]
                    | 8 => (0, v) ∈ w.2.b
                    | 9 => AtS w.2 2 v
                    | 10 => v = .slice A L.length c
                    | 11 => v = .int .i64 ((i : Nat) : Int)
                    | 12 => v = sliced A i L.length c 2
                    | 13 => AtS w.2 3 v
                    | 14 => AtS w.2 3 v
                    | 15 => v = .int .i64 0
                    | _ => True) (AR w0 [] K (linkD L (x, y) i)) (AN linkK) (⟨[], []⟩) (by kernel_rfl) (by kernel_rfl) hRr hRt ?mono ?hN ⟨?r0, ?r1, ?r2, ?r3, ?r4, ?r5, ?r6, ?r7, ?r8, ?r9, ?r10, ?r11, ?r12, ?r13, ?r14, ?r15, trivial⟩ ?post
                  case hN => first | assumption | (intro i; (try dsimp only); split <;> first | trivial | assumption | (left; assumption))
                  case mono =>
                    intro i v w w' h hb
                    match i, h with
                    | 0, h => exact h.mono hb.2.1
                    | 1, h => exact h
                    | 2, h => exact h
                    | 3, h => exact h
                    | 4, h => exact h.mono hb.2.1
                    | 5, h => exact h
                    | 6, h => exact h
                    | 7, h => exact h
                    | 8, h => exact hb.2.2 _ h
                    | 9, h => exact h.mono hb.2.1
                    | 10, h => exact h
                    | 11, h => exact h
                    | 12, h => exact h
                    | 13, h => exact h.mono hb.2.1
                    | 14, h => exact h.mono hb.2.1
                    | 15, h => exact h
                    | _ + 16, h => trivial
                  case r0 =>
                    refine truleGh fun b__ w hW hN hold hpre => ⟨fun hwant K hK => ?_, fun hwant => ?_⟩
                    · clear hwant
                      exact chain_start (kd := linkK) (by decide) rfl rfl Tryd.underlying25 (by kernel_rfl) hN rfl rfl (show 0 < 4 by decide) hK
                    · rw [want_none rfl] at hwant; cases hwant
                  case r1 =>
                    refine truleGh fun b__ w hW hN hold hpre => ⟨fun hwant K hK => ?_, fun hwant => ?_⟩
                    · clear hwant
                      have e0 : b__.eval (.tmp 0) = .slice A L.length c := (hold 0 (by kernel_rfl)).trans rfl
                      exact opw_move rfl e0 (hK _ _ rfl ⟨hRr _, fun _ _ h => h⟩)
                    · rw [want_none rfl] at hwant; cases hwant
                  case r2 =>
                    refine truleGh fun b__ w hW hN hold hpre => ⟨fun hwant K hK => ?_, fun hwant => ?_⟩
                    · clear hwant
                      have e8 : b__.eval (.tmp 8) = .int .i64 ((i : Nat) : Int) := (hold 8 (by kernel_rfl)).trans rfl
                      exact opw_move rfl e8 (hK _ _ rfl ⟨hRr _, fun _ _ h => h⟩)
                    · rw [want_none rfl] at hwant; cases hwant
                  case r3 =>
                    refine truleGh fun b__ w hW hN hold hpre => ⟨fun hwant K hK => ?_, fun hwant => ?_⟩
                    · clear hwant
                      have e67 : b__.eval (.tmp 67) = .slice A L.length c := hpre ⟨1, _⟩ (Array.mem_of_getElem? (i := 0) rfl) rfl _ _ rfl rfl
                      have e68 : b__.eval (.tmp 68) = .int .i64 ((i : Nat) : Int) := hpre ⟨2, _⟩ (Array.mem_of_getElem? (i := 1) rfl) rfl _ _ rfl rfl
                      exact opw_slh rfl Tryd.underlying25 ⟨2, by kernel_rfl⟩ e67 e68 hic (hK _ _ rfl ⟨hRr _, fun _ _ h => h⟩)
                    · rw [want_none rfl] at hwant; cases hwant
                  case r4 =>
                    refine truleGh fun b__ w hW hN hold hpre => ⟨fun hwant K hK => ?_, fun hwant => ?_⟩
                    · clear hwant
                      have e66 : (fun (v : Value) (w : World × _) => AtS w.2 0 v) (b__.eval (.tmp 66)) w := hpre ⟨0, _⟩ (Array.mem_of_getElem? (i := 0) rfl) rfl _ _ rfl rfl
                      have e69 : b__.eval (.tmp 69) = .slice A i c := hpre ⟨3, _⟩ (Array.mem_of_getElem? (i := 1) rfl) rfl _ _ rfl rfl
                      exact chain_app (kd := linkK) (by decide) rfl rfl ty_pairs hN e66 (hW.1 hJ0) (by rw [e69]; exact slc_take (kp _ _ (hW.1 hJ0).1.ro) hil) (fun u hu => pcells_one L u (List.mem_of_mem_take hu)) rfl rfl (by simp [linkD]; omega) (by simp [linkD]; omega) (show 0 + 1 < 4 by decide) hK
                    · rw [want_none rfl] at hwant; cases hwant
                  case r5 =>
                    refine truleGh fun b__ w hW hN hold hpre => ⟨fun hwant K hK => ?_, fun hwant => ?_⟩
                    · clear hwant
                      have e1 : b__.eval (.tmp 1) = .int .i64 ((x : Nat) : Int) := (hold 1 (by kernel_rfl)).trans rfl
                      exact opw_move rfl e1 (hK _ _ rfl ⟨hRr _, fun _ _ h => h⟩)
                    · rw [want_none rfl] at hwant; cases hwant
                  case r6 =>
                    refine truleGh fun b__ w hW hN hold hpre => ⟨fun hwant K hK => ?_, fun hwant => ?_⟩
                    · clear hwant
                      have e2 : b__.eval (.tmp 2) = .int .i64 ((y : Nat) : Int) := (hold 2 (by kernel_rfl)).trans rfl
                      exact opw_move rfl e2 (hK _ _ rfl ⟨hRr _, fun _ _ h => h⟩)
                    · rw [want_none rfl] at hwant; cases hwant
                  case r7 =>
                    refine truleGh fun b__ w hW hN hold hpre => ⟨fun hwant K hK => ?_, fun hwant => ?_⟩
                    · clear hwant
                      have e71 : b__.eval (.tmp 71) = .int .i64 ((x : Nat) : Int) := hpre ⟨5, _⟩ (Array.mem_of_getElem? (i := 0) rfl) rfl _ _ rfl rfl
                      have e72 : b__.eval (.tmp 72) = .int .i64 ((y : Nat) : Int) := hpre ⟨6, _⟩ (Array.mem_of_getElem? (i := 1) rfl) rfl _ _ rfl rfl
                      exact opw_built rfl (ps := [(0, .int .i64 ((x : Nat) : Int)), (1, .int .i64 ((y : Nat) : Int))]) (cells := #[.int .i64 ((x : Nat) : Int), .int .i64 ((y : Nat) : Int)]) (by simp [e71, e72]) (by kernel_rfl) (hK _ _ rfl ⟨hRr _, fun _ _ h => h⟩)
                    · rw [want_none rfl] at hwant; cases hwant
                  case r8 =>
                    refine truleGh fun b__ w hW hN hold hpre => ⟨fun hwant K hK => ?_, fun hwant => ?_⟩
                    · clear hwant
                      have e73 : b__.eval (.tmp 73) = .agg #[.int .i64 ((x : Nat) : Int), .int .i64 ((y : Nat) : Int)] := hpre ⟨7, _⟩ (Array.mem_of_getElem? (i := 0) rfl) rfl _ _ rfl rfl
                      exact chain_side (kd := linkK) (by decide) rfl rfl Tryd.underlying25 (ps := [(0, .agg #[.int .i64 ((x : Nat) : Int), .int .i64 ((y : Nat) : Int)])]) (cells := #[.int .i64 ((x : Nat) : Int), .int .i64 ((y : Nat) : Int)]) (by simp [e73]) (by kernel_rfl) (fun _ => rfl) rfl (by decide) hK
                    · rw [want_none rfl] at hwant; cases hwant
                  case r9 =>
                    refine truleGh fun b__ w hW hN hold hpre => ⟨fun hwant K hK => ?_, fun hwant => ?_⟩
                    · clear hwant
                      have e70 : (fun (v : Value) (w : World × _) => AtS w.2 1 v) (b__.eval (.tmp 70)) w := hpre ⟨4, _⟩ (Array.mem_of_getElem? (i := 0) rfl) rfl _ _ rfl rfl
                      have e74 : (fun (v : Value) (w : World × _) => (0, v) ∈ w.2.b) (b__.eval (.tmp 74)) w := hpre ⟨8, _⟩ (Array.mem_of_getElem? (i := 1) rfl) rfl _ _ rfl rfl
                      exact chain_app (kd := linkK) (by decide) rfl rfl ty_pairs hN e70 (hW.1 hJ0) (Sl.of_own ((hW.1 hJ0).side e74)) (pcells_one [(x, y)]) rfl rfl (by simp [linkD]; omega) (by simp [linkD]; omega) (show 1 + 1 < 4 by decide) hK
                    · rw [want_none rfl] at hwant; cases hwant
                  case r10 =>
                    refine truleGh fun b__ w hW hN hold hpre => ⟨fun hwant K hK => ?_, fun hwant => ?_⟩
                    · clear hwant
                      have e0 : b__.eval (.tmp 0) = .slice A L.length c := (hold 0 (by kernel_rfl)).trans rfl
                      exact opw_move rfl e0 (hK _ _ rfl ⟨hRr _, fun _ _ h => h⟩)
                    · rw [want_none rfl] at hwant; cases hwant
                  case r11 =>
                    refine truleGh fun b__ w hW hN hold hpre => ⟨fun hwant K hK => ?_, fun hwant => ?_⟩
                    · clear hwant
                      have e8 : b__.eval (.tmp 8) = .int .i64 ((i : Nat) : Int) := (hold 8 (by kernel_rfl)).trans rfl
                      exact opw_move rfl e8 (hK _ _ rfl ⟨hRr _, fun _ _ h => h⟩)
                    · rw [want_none rfl] at hwant; cases hwant
                  case r12 =>
                    refine truleGh fun b__ w hW hN hold hpre => ⟨fun hwant K hK => ?_, fun hwant => ?_⟩
                    · clear hwant
                      have e76 : b__.eval (.tmp 76) = .slice A L.length c := hpre ⟨10, _⟩ (Array.mem_of_getElem? (i := 0) rfl) rfl _ _ rfl rfl
                      have e77 : b__.eval (.tmp 77) = .int .i64 ((i : Nat) : Int) := hpre ⟨11, _⟩ (Array.mem_of_getElem? (i := 1) rfl) rfl _ _ rfl rfl
                      exact opw_sll rfl Tryd.underlying25 (by kernel_rfl) e76 e77 hil hc1 (hK _ _ rfl ⟨hRr _, fun _ _ h => h⟩)
                    · rw [want_none rfl] at hwant; cases hwant
                  case r13 =>
                    refine truleGh fun b__ w hW hN hold hpre => ⟨fun hwant K hK => ?_, fun hwant => ?_⟩
                    · clear hwant
                      have e75 : (fun (v : Value) (w : World × _) => AtS w.2 2 v) (b__.eval (.tmp 75)) w := hpre ⟨9, _⟩ (Array.mem_of_getElem? (i := 0) rfl) rfl _ _ rfl rfl
                      have e78 : b__.eval (.tmp 78) = sliced A i L.length c 2 := hpre ⟨12, _⟩ (Array.mem_of_getElem? (i := 1) rfl) rfl _ _ rfl rfl
                      exact chain_app (kd := linkK) (by decide) rfl rfl ty_pairs hN e75 (hW.1 hJ0) (by rw [e78]; exact slc_drop (kp _ _ (hW.1 hJ0).1.ro) hil) (fun u hu => pcells_one L u (List.mem_of_mem_drop hu)) rfl rfl (by simp [linkD]; omega) (by simp [linkD]; omega) (show 2 + 1 < 4 by decide) hK
                    · rw [want_none rfl] at hwant; cases hwant
                  case r14 =>
                    refine truleGh fun b__ w hW hN hold hpre => ⟨fun hwant K hK => ?_, fun hwant => ?_⟩
                    · clear hwant
                      have e79 : (fun (v : Value) (w : World × _) => AtS w.2 3 v) (b__.eval (.tmp 79)) w := hpre ⟨13, _⟩ (Array.mem_of_getElem? (i := 0) rfl) rfl _ _ rfl rfl
                      exact opw_assign rfl rfl (hK _ _ e79 ⟨hRr _, fun _ _ h => h⟩)
                    · rw [want_none rfl] at hwant; cases hwant
                  case r15 =>
                    refine truleGh fun b__ w hW hN hold hpre => ⟨fun hwant K hK => ?_, fun hwant => ?_⟩
                    · clear hwant
                      exact opw_assign rfl rfl (hK _ _ rfl ⟨hRr _, fun _ _ h => h⟩)
                    · rw [want_none rfl] at hwant; cases hwant
                  case post =>
                    intro b__ wz hW hdf hsz hold hT hZ
                    have e66 : (fun (v : Value) (w : World × _) => AtS w.2 0 v) (b__.eval (.tmp 66)) wz := hT 0 _ 66 rfl rfl
                    have e67 : b__.eval (.tmp 67) = .slice A L.length c := hT 1 _ 67 rfl rfl
                    have e68 : b__.eval (.tmp 68) = .int .i64 ((i : Nat) : Int) := hT 2 _ 68 rfl rfl
                    have e69 : b__.eval (.tmp 69) = .slice A i c := hT 3 _ 69 rfl rfl
                    have e70 : (fun (v : Value) (w : World × _) => AtS w.2 1 v) (b__.eval (.tmp 70)) wz := hT 4 _ 70 rfl rfl
                    have e71 : b__.eval (.tmp 71) = .int .i64 ((x : Nat) : Int) := hT 5 _ 71 rfl rfl
                    have e72 : b__.eval (.tmp 72) = .int .i64 ((y : Nat) : Int) := hT 6 _ 72 rfl rfl
                    have e73 : b__.eval (.tmp 73) = .agg #[.int .i64 ((x : Nat) : Int), .int .i64 ((y : Nat) : Int)] := hT 7 _ 73 rfl rfl
                    have e74 : (fun (v : Value) (w : World × _) => (0, v) ∈ w.2.b) (b__.eval (.tmp 74)) wz := hT 8 _ 74 rfl rfl
                    have e75 : (fun (v : Value) (w : World × _) => AtS w.2 2 v) (b__.eval (.tmp 75)) wz := hT 9 _ 75 rfl rfl
                    have e76 : b__.eval (.tmp 76) = .slice A L.length c := hT 10 _ 76 rfl rfl
                    have e77 : b__.eval (.tmp 77) = .int .i64 ((i : Nat) : Int) := hT 11 _ 77 rfl rfl
                    have e78 : b__.eval (.tmp 78) = sliced A i L.length c 2 := hT 12 _ 78 rfl rfl
                    have e79 : (fun (v : Value) (w : World × _) => AtS w.2 3 v) (b__.eval (.tmp 79)) wz := hT 13 _ 79 rfl rfl
                    have e6 : (fun (v : Value) (w : World × _) => AtS w.2 3 v) (b__.eval (.tmp 6)) wz := hT 14 _ 6 rfl rfl
                    have e7 : b__.eval (.tmp 7) = .int .i64 0 := hT 15 _ 7 rfl rfl
                    obtain ⟨vs, hvs, hb⟩ := frame_of hdf hsz hold
                    replace e66 := (hvs 66) ▸ e66
                    replace e67 : vs 67 = .slice A L.length c := (hvs 67).symm.trans e67
                    replace e68 : vs 68 = .int .i64 ((i : Nat) : Int) := (hvs 68).symm.trans e68
                    replace e69 : vs 69 = .slice A i c := (hvs 69).symm.trans e69
                    replace e70 := (hvs 70) ▸ e70
                    replace e71 : vs 71 = .int .i64 ((x : Nat) : Int) := (hvs 71).symm.trans e71
                    replace e72 : vs 72 = .int .i64 ((y : Nat) : Int) := (hvs 72).symm.trans e72
                    replace e73 : vs 73 = .agg #[.int .i64 ((x : Nat) : Int), .int .i64 ((y : Nat) : Int)] := (hvs 73).symm.trans e73
                    replace e74 := (hvs 74) ▸ e74
                    replace e75 := (hvs 75) ▸ e75
                    replace e76 : vs 76 = .slice A L.length c := (hvs 76).symm.trans e76
                    replace e77 : vs 77 = .int .i64 ((i : Nat) : Int) := (hvs 77).symm.trans e77
                    replace e78 : vs 78 = sliced A i L.length c 2 := (hvs 78).symm.trans e78
                    replace e79 := (hvs 79) ▸ e79
                    replace e6 := (hvs 6) ▸ e6
                    replace e7 : vs 7 = .int .i64 0 := (hvs 7).symm.trans e7
                    subst hb
                    clear hvs hold hT hdf hsz
                    simp only [setAll, Act.put, List.setIfInBounds_toArray, List.set_cons_zero, List.set_cons_succ, List.getElem_toArray, List.getElem_cons_succ, List.getElem_cons_zero]
                    have hJ := (hW.1 hJ0).last e6 rfl
                    replace hJ : St w0 wz.1 [.own (vs 6) 50 2 (L.length + 1) (pcells (ins L (x, y)))] fun _ _ => True := by
                      have e1 : 0 + i + 1 + (L.length - i) = L.length + 1 := by omega
                      have e2 : [] ++ (pcells L).take (i * 2) ++ pcells [(x, y)] ++ (pcells L).drop (i * 2) = pcells (ins L (x, y)) := by
                        rw [List.nil_append, pcells_take, pcells_drop, ← pcells_app, ← pcells_app, ins, ← HE.out, List.append_assoc]; rfl
                      simp only [linkD] at hJ
                      rw [e1, e2] at hJ
                      exact hJ.mono (Stable.pure True) fun _ _ _ => trivial
                    rw [e7]
                    generalize vs 6 = v6 at *
                    generalize wz.1 = wf at *
                    clear hW hZ hJ0 hRr hRt e6 e7
                    go_wp2_with fail
                    all_goals
                      go_ret2
                      exact .inr ⟨x, y, rfl, rfl, hx1.out, hy1.out, hxy.out, .inr (.inr ⟨hm, HT.out, _, rfl, hJ⟩)⟩
              · have HE : Hid (i = insAt L (x, y)) := Lib.hid (Nat.le_antisymm HIA.out (by have := insAt_le L (x, y); omega))
                go_wp2_with (first | ((with_reducible show wpList _ _ _ (⟨_, .binOp _ _ _ _ _, _, _, _, _⟩ :: _) _ _); (first | ((with_reducible show wpList _ _ _ (⟨_, .binOp .lss _ _ _ _, _, _, _, _⟩ :: _) _ _); refine st_lss rfl _ _ _ _ rfl _ _ _ rfl rfl (fun h_ => ?_) (fun h_ => ?_)) | ((with_reducible show wpList _ _ _ (⟨_, .binOp .leq _ _ _ _, _, _, _, _⟩ :: _) _ _); refine st_leq rfl _ _ _ _ rfl _ _ _ rfl rfl (fun h_ => ?_) (fun h_ => ?_)) | ((with_reducible show wpList _ _ _ (⟨_, .binOp .gtr _ _ _ _, _, _, _, _⟩ :: _) _ _); refine st_gtr rfl _ _ _ _ rfl _ _ _ rfl rfl (fun h_ => ?_) (fun h_ => ?_)) | ((with_reducible show wpList _ _ _ (⟨_, .binOp .geq _ _ _ _, _, _, _, _⟩ :: _) _ _); refine st_geq rfl _ _ _ _ rfl _ _ _ rfl rfl (fun h_ => ?_) (fun h_ => ?_)) | ((with_reducible show wpList _ _ _ (⟨_, .binOp .eql _ _ _ _, _, _, _, _⟩ :: _) _ _); refine st_eql rfl _ _ _ _ rfl _ _ _ rfl rfl (fun h_ => ?_) (fun h_ => ?_)) | ((with_reducible show wpList _ _ _ (⟨_, .binOp .neq _ _ _ _, _, _, _, _⟩ :: _) _ _); refine st_neq rfl _ _ _ _ rfl _ _ _ rfl rfl (fun h_ => ?_) (fun h_ => ?_))) <;> go_prune))
                have hic : i ≤ c := by omega
                have hJ0 : AJ w0 [] K (linkD L (x, y) i) (wr.drew, ⟨[], []⟩) := ⟨hS.drew, Nat.zero_le _⟩
                have hN0 := AN_start linkK wr.drew
                have hRr := @AR.refl w0 [] K (linkD L (x, y) i)
                have hRt := @AR.trans w0 [] K (linkD L (x, y) i)
                refine wp_region_ghost (fun i__ v w => match i__ with
                  | 0 => AtS w.2 0 v
                  | 1 => v = .slice A L.length c
                  | 2 => v = .int .i64 ((i : Nat) : Int)
                  | 3 => v = .slice A i c
                  | 4 => AtS w.2 1 v
                  | 5 => v = .int .i64 ((x : Nat) : Int)
                  | 6 => v = .int .i64 ((y : Nat) : Int)
                  | 7 => v = .agg #[.int .i64 ((x : Nat) : Int), .int .i64 ((y : Nat) : Int)]
                  | 8 => (0, v) ∈ w.2.b
                  | 9 => AtS w.2 2 v
                  | 10 => v = .slice A L.length c
                  | 11 => v = .int .i64 ((i : Nat) : Int)
                  | 12 => v = sliced A i L.length c 2
                  | 13 => AtS w.2 3 v
                  | 14 => AtS w.2 3 v
                  | 15 => v = .int .i64 0
                  | _ => True) (AR w0 [] K (linkD L (x, y) i)) (AN linkK) (⟨[], []⟩) (by kernel_rfl) (by kernel_rfl) hRr hRt ?mono ?hN ⟨?r0, ?r1, ?r2, ?r3, ?r4, ?r5, ?r6, ?r7, ?r8, ?r9, ?r10, ?r11, ?r12, ?r13, ?r14, ?r15, trivial⟩ ?post
                case hN => first | assumption | (intro i; (try dsimp only); split <;> first | trivial | assumption | (left; assumption))
                case mono =>
                  intro i v w w' h hb
                  match i, h with
                  | 0, h => exact h.mono hb.2.1
                  | 1, h => exact h
                  | 2, h => exact h
                  | 3, h => exact h
                  | 4, h => exact h.mono hb.2.1
                  | 5, h => exact h
                  | 6, h => exact h
                  | 7, h => exact h
                  | 8, h => exact hb.2.2 _ h
                  | 9, h => exact h.mono hb.2.1
                  | 10, h => exact h
                  | 11, h => exact h
                  | 12, h => exact h
                  | 13, h => exact h.mono hb.2.1
                  | 14, h => exact h.mono hb.2.1
                  | 15, h => exact h
                  | _ + 16, h => trivial
                case r0 =>
                  refine truleGh fun b__ w hW hN hold hpre => ⟨fun hwant K hK => ?_, fun hwant => ?_⟩
                  · clear hwant
                    exact chain_start (kd := linkK) (by decide) rfl rfl Tryd.underlying25 (by kernel_rfl) hN rfl rfl (show 0 < 4 by decide) hK
                  · rw [want_none rfl] at hwant; cases hwant
                case r1 =>
                  refine truleGh fun b__ w hW hN hold hpre => ⟨fun hwant K hK => ?_, fun hwant => ?_⟩
                  · clear hwant
                    have e0 : b__.eval (.tmp 0) = .slice A L.length c := (hold 0 (by kernel_rfl)).trans rfl
                    exact opw_move rfl e0 (hK _ _ rfl ⟨hRr _, fun _ _ h => h⟩)
                  · rw [want_none rfl] at hwant; cases hwant
                case r2 =>
                  refine truleGh fun b__ w hW hN hold hpre => ⟨fun hwant K hK => ?_, fun hwant => ?_⟩
                  · clear hwant
                    have e8 : b__.eval (.tmp 8) = .int .i64 ((i : Nat) : Int) := (hold 8 (by kernel_rfl)).trans rfl
                    exact opw_move rfl e8 (hK _ _ rfl ⟨hRr _, fun _ _ h => h⟩)
                  · rw [want_none rfl] at hwant; cases hwant
                case r3 =>
                  refine truleGh fun b__ w hW hN hold hpre => ⟨fun hwant K hK => ?_, fun hwant => ?_⟩
                  · clear hwant
                    have e67 : b__.eval (.tmp 67) = .slice A L.length c := hpre ⟨1, _⟩ (Array.mem_of_getElem? (i := 0) rfl) rfl _ _ rfl rfl
                    have e68 : b__.eval (.tmp 68) = .int .i64 ((i : Nat) : Int) := hpre ⟨2, _⟩ (Array.mem_of_getElem? (i := 1) rfl) rfl _ _ rfl rfl
                    exact opw_slh rfl Tryd.underlying25 ⟨2, by kernel_rfl⟩ e67 e68 hic (hK _ _ rfl ⟨hRr _, fun _ _ h => h⟩)
                  · rw [want_none rfl] at hwant; cases hwant
                case r4 =>
                  refine truleGh fun b__ w hW hN hold hpre => ⟨fun hwant K hK => ?_, fun hwant => ?_⟩
                  · clear hwant
                    have e66 : (fun (v : Value) (w : World × _) => AtS w.2 0 v) (b__.eval (.tmp 66)) w := hpre ⟨0, _⟩ (Array.mem_of_getElem? (i := 0) rfl) rfl _ _ rfl rfl
                    have e69 : b__.eval (.tmp 69) = .slice A i c := hpre ⟨3, _⟩ (Array.mem_of_getElem? (i := 1) rfl) rfl _ _ rfl rfl
                    exact chain_app (kd := linkK) (by decide) rfl rfl ty_pairs hN e66 (hW.1 hJ0) (by rw [e69]; exact slc_take (kp _ _ (hW.1 hJ0).1.ro) hil) (fun u hu => pcells_one L u (List.mem_of_mem_take hu)) rfl rfl (by simp [linkD]; omega) (by simp [linkD]; omega) (show 0 + 1 < 4 by decide) hK
                  · rw [want_none rfl] at hwant; cases hwant
                case r5 =>
                  refine truleGh fun b__ w hW hN hold hpre => ⟨fun hwant K hK => ?_, fun hwant => ?_⟩
                  · clear hwant
                    have e1 : b__.eval (.tmp 1) = .int .i64 ((x : Nat) : Int) := (hold 1 (by kernel_rfl)).trans rfl
                    exact opw_move rfl e1 (hK _ _ rfl ⟨hRr _, fun _ _ h => h⟩)
                  · rw [want_none rfl] at hwant; cases hwant
                case r6 =>
                  refine truleGh fun b__ w hW hN hold hpre => ⟨fun hwant K hK => ?_, fun hwant => ?_⟩
                  · clear hwant
                    have e2 : b__.eval (.tmp 2) = .int .i64 ((y : Nat) : Int) := (hold 2 (by kernel_rfl)).trans rfl
                    exact opw_move rfl e2 (hK _ _ rfl ⟨hRr _, fun _ _ h => h⟩)
                  · rw [want_none rfl] at hwant; cases hwant
                case r7 =>
                  refine truleGh fun b__ w hW hN hold hpre => ⟨fun hwant K hK => ?_, fun hwant => ?_⟩
                  · clear hwant
                    have e71 : b__.eval (.tmp 71) = .int .i64 ((x : Nat) : Int) := hpre ⟨5, _⟩ (Array.mem_of_getElem? (i := 0) rfl) rfl _ _ rfl rfl
                    have e72 : b__.eval (.tmp 72) = .int .i64 ((y : Nat) : Int) := hpre ⟨6, _⟩ (Array.mem_of_getElem? (i := 1) rfl) rfl _ _ rfl rfl
                    exact opw_built rfl (ps := [(0, .int .i64 ((x : Nat) : Int)), (1, .int .i64 ((y : Nat) : Int))]) (cells := #[.int .i64 ((x : Nat) : Int), .int .i64 ((y : Nat) : Int)]) (by simp [e71, e72]) (by kernel_rfl) (hK _ _ rfl ⟨hRr _, fun _ _ h => h⟩)
                  · rw [want_none rfl] at hwant; cases hwant
                case r8 =>
                  refine truleGh fun b__ w hW hN hold hpre => ⟨fun hwant K hK => ?_, fun hwant => ?_⟩
                  · clear hwant
                    have e73 : b__.eval (.tmp 73) = .agg #[.int .i64 ((x : Nat) : Int), .int .i64 ((y : Nat) : Int)] := hpre ⟨7, _⟩ (Array.mem_of_getElem? (i := 0) rfl) rfl _ _ rfl rfl
                    exact chain_side (kd := linkK) (by decide) rfl rfl Tryd.underlying25 (ps := [(0, .agg #[.int .i64 ((x : Nat) : Int), .int .i64 ((y : Nat) : Int)])]) (cells := #[.int .i64 ((x : Nat) : Int), .int .i64 ((y : Nat) : Int)]) (by simp [e73]) (by kernel_rfl) (fun _ => rfl) rfl (by decide) hK
                  · rw [want_none rfl] at hwant; cases hwant
                case r9 =>
                  refine truleGh fun b__ w hW hN hold hpre => ⟨fun hwant K hK => ?_, fun hwant => ?_⟩
                  · clear hwant
                    have e70 : (fun (v : Value) (w : World × _) => AtS w.2 1 v) (b__.eval (.tmp 70)) w := hpre ⟨4, _⟩ (Array.mem_of_getElem? (i := 0) rfl) rfl _ _ rfl rfl
                    have e74 : (fun (v : Value) (w : World × _) => (0, v) ∈ w.2.b) (b__.eval (.tmp 74)) w := hpre ⟨8, _⟩ (Array.mem_of_getElem? (i := 1) rfl) rfl _ _ rfl rfl
                    exact chain_app (kd := linkK) (by decide) rfl rfl ty_pairs hN e70 (hW.1 hJ0) (Sl.of_own ((hW.1 hJ0).side e74)) (pcells_one [(x, y)]) rfl rfl (by simp [linkD]; omega) (by simp [linkD]; omega) (show 1 + 1 < 4 by decide) hK
                  · rw [want_none rfl] at hwant; cases hwant
                case r10 =>
                  refine truleGh fun b__ w hW hN hold hpre => ⟨fun hwant K hK => ?_, fun hwant => ?_⟩
                  · clear hwant
                    have e0 : b__.eval (.tmp 0) = .slice A L.length c := (hold 0 (by kernel_rfl)).trans rfl
                    exact opw_move rfl e0 (hK _ _ rfl ⟨hRr _, fun _ _ h => h⟩)
                  · rw [want_none rfl] at hwant; cases hwant
                case r11 =>
                  refine truleGh fun b__ w hW hN hold hpre => ⟨fun hwant K hK => ?_, fun hwant => ?_⟩
                  · clear hwant
                    have e8 : b__.eval (.tmp 8) = .int .i64 ((i : Nat) : Int) := (hold 8 (by kernel_rfl)).trans rfl
                    exact opw_move rfl e8 (hK _ _ rfl ⟨hRr _, fun _ _ h => h⟩)
                  · rw [want_none rfl] at hwant; cases hwant
                case r12 =>
                  refine truleGh fun b__ w hW hN hold hpre => ⟨fun hwant K hK => ?_, fun hwant => ?_⟩
                  · clear hwant
                    have e76 : b__.eval (.tmp 76) = .slice A L.length c := hpre ⟨10, _⟩ (Array.mem_of_getElem? (i := 0) rfl) rfl _ _ rfl rfl
                    have e77 : b__.eval (.tmp 77) = .int .i64 ((i : Nat) : Int) := hpre ⟨11, _⟩ (Array.mem_of_getElem? (i := 1) rfl) rfl _ _ rfl rfl
                    exact opw_sll rfl Tryd.underlying25 (by kernel_rfl) e76 e77 hil hc1 (hK _ _ rfl ⟨hRr _, fun _ _ h => h⟩)
                  · rw [want_none rfl] at hwant; cases hwant
                case r13 =>
                  refine truleGh fun b__ w hW hN hold hpre => ⟨fun hwant K hK => ?_, fun hwant => ?_⟩
                  · clear hwant
                    have e75 : (fun (v : Value) (w : World × _) => AtS w.2 2 v) (b__.eval (.tmp 75)) w := hpre ⟨9, _⟩ (Array.mem_of_getElem? (i := 0) rfl) rfl _ _ rfl rfl
                    have e78 : b__.eval (.tmp 78) = sliced A i L.length c 2 := hpre ⟨12, _⟩ (Array.mem_of_getElem? (i := 1) rfl) rfl _ _ rfl rfl
                    exact chain_app (kd := linkK) (by decide) rfl rfl ty_pairs hN e75 (hW.1 hJ0) (by rw [e78]; exact slc_drop (kp _ _ (hW.1 hJ0).1.ro) hil) (fun u hu => pcells_one L u (List.mem_of_mem_drop hu)) rfl rfl (by simp [linkD]; omega) (by simp [linkD]; omega) (show 2 + 1 < 4 by decide) hK
                  · rw [want_none rfl] at hwant; cases hwant
                case r14 =>
                  refine truleGh fun b__ w hW hN hold hpre => ⟨fun hwant K hK => ?_, fun hwant => ?_⟩
                  · clear hwant
                    have e79 : (fun (v : Value) (w : World × _) => AtS w.2 3 v) (b__.eval (.tmp 79)) w := hpre ⟨13, _⟩ (Array.mem_of_getElem? (i := 0) rfl) rfl _ _ rfl rfl
                    exact opw_assign rfl rfl (hK _ _ e79 ⟨hRr _, fun _ _ h => h⟩)
                  · rw [want_none rfl] at hwant; cases hwant
                case r15 =>
                  refine truleGh fun b__ w hW hN hold hpre => ⟨fun hwant K hK => ?_, fun hwant => ?_⟩
                  · clear hwant
                    exact opw_assign rfl rfl (hK _ _ rfl ⟨hRr _, fun _ _ h => h⟩)
                  · rw [want_none rfl] at hwant; cases hwant
                case post =>
                  intro b__ wz hW hdf hsz hold hT hZ
                  have e66 : (fun (v : Value) (w : World × _) => AtS w.2 0 v) (b__.eval (.tmp 66)) wz := hT 0 _ 66 rfl rfl
                  have e67 : b__.eval (.tmp 67) = .slice A L.length c := hT 1 _ 67 rfl rfl
                  have e68 : b__.eval (.tmp 68) = .int .i64 ((i : Nat) : Int) := hT 2 _ 68 rfl rfl
                  have e69 : b__.eval (.tmp 69) = .slice A i c := hT 3 _ 69 rfl rfl
                  have e70 : (fun (v : Value) (w : World × _) => AtS w.2 1 v) (b__.eval (.tmp 70)) wz := hT 4 _ 70 rfl rfl
                  have e71 : b__.eval (.tmp 71) = .int .i64 ((x : Nat) : Int) := hT 5 _ 71 rfl rfl
                  have e72 : b__.eval (.tmp 72) = .int .i64 ((y : Nat) : Int) := hT 6 _ 72 rfl rfl
                  have e73 : b__.eval (.tmp 73) = .agg #[.int .i64 ((x : Nat) : Int), .int .i64 ((y : Nat) : Int)] := hT 7 _ 73 rfl rfl
                  have e74 : (fun (v : Value) (w : World × _) => (0, v) ∈ w.2.b) (b__.eval (.tmp 74)) wz := hT 8 _ 74 rfl rfl
                  have e75 : (fun (v : Value) (w : World × _) => AtS w.2 2 v) (b__.eval (.tmp 75)) wz := hT 9 _ 75 rfl rfl
                  have e76 : b__.eval (.tmp 76) = .slice A L.length c := hT 10 _ 76 rfl rfl
                  have e77 : b__.eval (.tmp 77) = .int .i64 ((i : Nat) : Int) := hT 11 _ 77 rfl rfl
                  have e78 : b__.eval (.tmp 78) = sliced A i L.length c 2 := hT 12 _ 78 rfl rfl
                  have e79 : (fun (v : Value) (w : World × _) => AtS w.2 3 v) (b__.eval (.tmp 79)) wz := hT 13 _ 79 rfl rfl
                  have e6 : (fun (v : Value) (w : World × _) => AtS w.2 3 v) (b__.eval (.tmp 6)) wz := hT 14 _ 6 rfl rfl
                  have e7 : b__.eval (.tmp 7) = .int .i64 0 := hT 15 _ 7 rfl rfl
                  obtain ⟨vs, hvs, hb⟩ := frame_of hdf hsz hold
                  replace e66 := (hvs 66) ▸ e66
                  replace e67 : vs 67 = .slice A L.length c := (hvs 67).symm.trans e67
                  replace e68 : vs 68 = .int .i64 ((i : Nat) : Int) := (hvs 68).symm.trans e68
                  replace e69 : vs 69 = .slice A i c := (hvs 69).symm.trans e69
                  replace e70 := (hvs 70) ▸ e70
                  replace e71 : vs 71 = .int .i64 ((x : Nat) : Int) := (hvs 71).symm.trans e71
                  replace e72 : vs 72 = .int .i64 ((y : Nat) : Int) := (hvs 72).symm.trans e72
                  replace e73 : vs 73 = .agg #[.int .i64 ((x : Nat) : Int), .int .i64 ((y : Nat) : Int)] := (hvs 73).symm.trans e73
                  replace e74 := (hvs 74) ▸ e74
                  replace e75 := (hvs 75) ▸ e75
                  replace e76 : vs 76 = .slice A L.length c := (hvs 76).symm.trans e76
                  replace e77 : vs 77 = .int .i64 ((i : Nat) : Int) := (hvs 77).symm.trans e77
                  replace e78 : vs 78 = sliced A i L.length c 2 := (hvs 78).symm.trans e78
                  replace e79 := (hvs 79) ▸ e79
                  replace e6 := (hvs 6) ▸ e6
                  replace e7 : vs 7 = .int .i64 0 := (hvs 7).symm.trans e7
                  subst hb
                  clear hvs hold hT hdf hsz
                  simp only [setAll, Act.put, List.setIfInBounds_toArray, List.set_cons_zero, List.set_cons_succ, List.getElem_toArray, List.getElem_cons_succ, List.getElem_cons_zero]
                  have hJ := (hW.1 hJ0).last e6 rfl
                  replace hJ : St w0 wz.1 [.own (vs 6) 50 2 (L.length + 1) (pcells (ins L (x, y)))] fun _ _ => True := by
                    have e1 : 0 + i + 1 + (L.length - i) = L.length + 1 := by omega
                    have e2 : [] ++ (pcells L).take (i * 2) ++ pcells [(x, y)] ++ (pcells L).drop (i * 2) = pcells (ins L (x, y)) := by
                      rw [List.nil_append, pcells_take, pcells_drop, ← pcells_app, ← pcells_app, ins, ← HE.out, List.append_assoc]; rfl
                    simp only [linkD] at hJ
                    rw [e1, e2] at hJ
                    exact hJ.mono (Stable.pure True) fun _ _ _ => trivial
                  rw [e7]
                  generalize vs 6 = v6 at *
                  generalize wz.1 = wf at *
                  clear hW hZ hJ0 hRr hRt e6 e7
                  go_wp2_with fail
                  all_goals
                    go_ret2
                    exact .inr ⟨x, y, rfl, rfl, hx1.out, hy1.out, hxy.out, .inr (.inr ⟨hm, HT.out, _, rfl, hJ⟩)⟩
    · have HRB := Lib.hid (decide_eq_false hrb)
      have HNO : Hid (¬ twoR a b) := Lib.hid fun h => hrb h.2.1
      go_enter Tryd.func68, Tryd.ntmps68
      go_wp2_with (first
        | ((with_reducible show wpList _ _ _ (⟨_, .binOp _ _ _ _ _, _, _, _, _⟩ :: _) _ _); (first | ((with_reducible show wpList _ _ _ (⟨_, .binOp .lss _ _ _ _, _, _, _, _⟩ :: _) _ _); refine st_lss rfl _ _ _ _ rfl _ _ _ rfl rfl (fun h_ => ?_) (fun h_ => ?_)) | ((with_reducible show wpList _ _ _ (⟨_, .binOp .leq _ _ _ _, _, _, _, _⟩ :: _) _ _); refine st_leq rfl _ _ _ _ rfl _ _ _ rfl rfl (fun h_ => ?_) (fun h_ => ?_)) | ((with_reducible show wpList _ _ _ (⟨_, .binOp .gtr _ _ _ _, _, _, _, _⟩ :: _) _ _); refine st_gtr rfl _ _ _ _ rfl _ _ _ rfl rfl (fun h_ => ?_) (fun h_ => ?_)) | ((with_reducible show wpList _ _ _ (⟨_, .binOp .geq _ _ _ _, _, _, _, _⟩ :: _) _ _); refine st_geq rfl _ _ _ _ rfl _ _ _ rfl rfl (fun h_ => ?_) (fun h_ => ?_)) | ((with_reducible show wpList _ _ _ (⟨_, .binOp .eql _ _ _ _, _, _, _, _⟩ :: _) _ _); refine st_eql rfl _ _ _ _ rfl _ _ _ rfl rfl (fun h_ => ?_) (fun h_ => ?_)) | ((with_reducible show wpList _ _ _ (⟨_, .binOp .neq _ _ _ _, _, _, _, _⟩ :: _) _ _); refine st_neq rfl _ _ _ _ rfl _ _ _ rfl rfl (fun h_ => ?_) (fun h_ => ?_))) <;> go_prune)
        | (go_at_call 57; refine (rrole_any _ _).mono ?_; (first | rw [HRA.out] | rw [HRB.out]); rintro r_ w_ ⟨_, rfl, rfl, hb_⟩; replace hS := hS.ext hb_; clear hb_))
      go_ret2
      exact .inl ⟨HNO.out, rfl, hS.below⟩
  · have HRA := Lib.hid (decide_eq_false hra)
    have HRB := HRA
    have HNO : Hid (¬ twoR a b) := Lib.hid fun h => hra h.1
    go_enter Tryd.func68, Tryd.ntmps68
    go_wp2_with (first
      | ((with_reducible show wpList _ _ _ (⟨_, .binOp _ _ _ _ _, _, _, _, _⟩ :: _) _ _); (first | ((with_reducible show wpList _ _ _ (⟨_, .binOp .lss _ _ _ _, _, _, _, _⟩ :: _) _ _); refine st_lss rfl _ _ _ _ rfl _ _ _ rfl rfl (fun h_ => ?_) (fun h_ => ?_)) | ((with_reducible show wpList _ _ _ (⟨_, .binOp .leq _ _ _ _, _, _, _, _⟩ :: _) _ _); refine st_leq rfl _ _ _ _ rfl _ _ _ rfl rfl (fun h_ => ?_) (fun h_ => ?_)) | ((with_reducible show wpList _ _ _ (⟨_, .binOp .gtr _ _ _ _, _, _, _, _⟩ :: _) _ _); refine st_gtr rfl _ _ _ _ rfl _ _ _ rfl rfl (fun h_ => ?_) (fun h_ => ?_)) | ((with_reducible show wpList _ _ _ (⟨_, .binOp .geq _ _ _ _, _, _, _, _⟩ :: _) _ _); refine st_geq rfl _ _ _ _ rfl _ _ _ rfl rfl (fun h_ => ?_) (fun h_ => ?_)) | ((with_reducible show wpList _ _ _ (⟨_, .binOp .eql _ _ _ _, _, _, _, _⟩ :: _) _ _); refine st_eql rfl _ _ _ _ rfl _ _ _ rfl rfl (fun h_ => ?_) (fun h_ => ?_)) | ((with_reducible show wpList _ _ _ (⟨_, .binOp .neq _ _ _ _, _, _, _, _⟩ :: _) _ _); refine st_neq rfl _ _ _ _ rfl _ _ _ rfl rfl (fun h_ => ?_) (fun h_ => ?_))) <;> go_prune)
      | (go_at_call 57; refine (rrole_any _ _).mono ?_; (first | rw [HRA.out] | rw [HRB.out]); rintro r_ w_ ⟨_, rfl, rfl, hb_⟩; replace hS := hS.ext hb_; clear hb_))
    go_ret2
    exact .inl ⟨HNO.out, rfl, hS.below⟩
end Go.Proofs.YtmlkgaiphpimiaaDoor
namespace Go.Proofs.YtmlkgaiphpimiaaDoor
open Go.RowKit
attribute [local go_sem ↓] Go.wp_at_zero Go.wp_at_succ
set_option maxRecDepth 20000
set_option exponentiation.threshold 5000

theorem oin_any {w0 : World} {D : Nat → Prop} {p : Value} {n : Nat} {L : List (Nat × Nat)} (h : IsOrd w0 D p n L) (a : Int) : Calls Tryd.prog 64 #[p, .int .i64 a] w0 (Ret (fun x _ => x = .bool (decide (0 ≤ a ∧ a < n))) w0) := by
  obtain ⟨q, gp, av, bv, sv, xa, xb, rfl, hb, _⟩ := h
  obtain ⟨K, k0, hS⟩ : ∃ K : (Nat → Prop) → World → Prop, (∀ D w, K D w → w.cell? ⟨q, 0, none⟩ = some (.int .i64 (n : Nat))) ∧ St w0 w0 [] K := ⟨_, fun _ _ h => IsBox.cell h 0 rfl, St.start stable_isBox hb⟩
  clear hb
  by_cases h1 : 0 ≤ a
  · by_cases h2 : a < n
    · have HR := Lib.hid (show decide (0 ≤ a ∧ a < (n : Int)) = true by simp [h1, h2])
      generalize decide (0 ≤ a ∧ a < (n : Int)) = R at *
      go_enter Tryd.func64, Tryd.ntmps64
      go_wp2_with (first | ((with_reducible show wpList _ _ _ (⟨_, .binOp _ _ _ _ _, _, _, _, _⟩ :: _) _ _); (first | ((with_reducible show wpList _ _ _ (⟨_, .binOp .lss _ _ _ _, _, _, _, _⟩ :: _) _ _); refine st_lss rfl _ _ _ _ rfl _ _ _ rfl rfl (fun h_ => ?_) (fun h_ => ?_)) | ((with_reducible show wpList _ _ _ (⟨_, .binOp .leq _ _ _ _, _, _, _, _⟩ :: _) _ _); refine st_leq rfl _ _ _ _ rfl _ _ _ rfl rfl (fun h_ => ?_) (fun h_ => ?_)) | ((with_reducible show wpList _ _ _ (⟨_, .binOp .gtr _ _ _ _, _, _, _, _⟩ :: _) _ _); refine st_gtr rfl _ _ _ _ rfl _ _ _ rfl rfl (fun h_ => ?_) (fun h_ => ?_)) | ((with_reducible show wpList _ _ _ (⟨_, .binOp .geq _ _ _ _, _, _, _, _⟩ :: _) _ _); refine st_geq rfl _ _ _ _ rfl _ _ _ rfl rfl (fun h_ => ?_) (fun h_ => ?_)) | ((with_reducible show wpList _ _ _ (⟨_, .binOp .eql _ _ _ _, _, _, _, _⟩ :: _) _ _); refine st_eql rfl _ _ _ _ rfl _ _ _ rfl rfl (fun h_ => ?_) (fun h_ => ?_)) | ((with_reducible show wpList _ _ _ (⟨_, .binOp .neq _ _ _ _, _, _, _, _⟩ :: _) _ _); refine st_neq rfl _ _ _ _ rfl _ _ _ rfl rfl (fun h_ => ?_) (fun h_ => ?_))) <;> go_prune) | ((with_reducible show wpList _ _ _ (⟨_, .load _ _, _, _, _, _⟩ :: _) _ _); refine st_kcell hS rfl _ _ rfl _ rfl _ k0 (by kernel_rfl) ?_))
      go_ret
      exact Ret.mk (congrArg Value.bool HR.out.symm) hS.below
    · have HR := Lib.hid (show decide (0 ≤ a ∧ a < (n : Int)) = false by simp [h2])
      generalize decide (0 ≤ a ∧ a < (n : Int)) = R at *
      go_enter Tryd.func64, Tryd.ntmps64
      go_wp2_with (first | ((with_reducible show wpList _ _ _ (⟨_, .binOp _ _ _ _ _, _, _, _, _⟩ :: _) _ _); (first | ((with_reducible show wpList _ _ _ (⟨_, .binOp .lss _ _ _ _, _, _, _, _⟩ :: _) _ _); refine st_lss rfl _ _ _ _ rfl _ _ _ rfl rfl (fun h_ => ?_) (fun h_ => ?_)) | ((with_reducible show wpList _ _ _ (⟨_, .binOp .leq _ _ _ _, _, _, _, _⟩ :: _) _ _); refine st_leq rfl _ _ _ _ rfl _ _ _ rfl rfl (fun h_ => ?_) (fun h_ => ?_)) | ((with_reducible show wpList _ _ _ (⟨_, .binOp .gtr _ _ _ _, _, _, _, _⟩ :: _) _ _); refine st_gtr rfl _ _ _ _ rfl _ _ _ rfl rfl (fun h_ => ?_) (fun h_ => ?_)) | ((with_reducible show wpList _ _ _ (⟨_, .binOp .geq _ _ _ _, _, _, _, _⟩ :: _) _ _); refine st_geq rfl _ _ _ _ rfl _ _ _ rfl rfl (fun h_ => ?_) (fun h_ => ?_)) | ((with_reducible show wpList _ _ _ (⟨_, .binOp .eql _ _ _ _, _, _, _, _⟩ :: _) _ _); refine st_eql rfl _ _ _ _ rfl _ _ _ rfl rfl (fun h_ => ?_) (fun h_ => ?_)) | ((with_reducible show wpList _ _ _ (⟨_, .binOp .neq _ _ _ _, _, _, _, _⟩ :: _) _ _); refine st_neq rfl _ _ _ _ rfl _ _ _ rfl rfl (fun h_ => ?_) (fun h_ => ?_))) <;> go_prune) | ((with_reducible show wpList _ _ _ (⟨_, .load _ _, _, _, _, _⟩ :: _) _ _); refine st_kcell hS rfl _ _ rfl _ rfl _ k0 (by kernel_rfl) ?_))
      go_ret
      exact Ret.mk (congrArg Value.bool HR.out.symm) hS.below
  · have HR := Lib.hid (show decide (0 ≤ a ∧ a < (n : Int)) = false by simp [h1])
    generalize decide (0 ≤ a ∧ a < (n : Int)) = R at *
    go_enter Tryd.func64, Tryd.ntmps64
    go_wp2_with (first | ((with_reducible show wpList _ _ _ (⟨_, .binOp _ _ _ _ _, _, _, _, _⟩ :: _) _ _); (first | ((with_reducible show wpList _ _ _ (⟨_, .binOp .lss _ _ _ _, _, _, _, _⟩ :: _) _ _); refine st_lss rfl _ _ _ _ rfl _ _ _ rfl rfl (fun h_ => ?_) (fun h_ => ?_)) | ((with_reducible show wpList _ _ _ (⟨_, .binOp .leq _ _ _ _, _, _, _, _⟩ :: _) _ _); refine st_leq rfl _ _ _ _ rfl _ _ _ rfl rfl (fun h_ => ?_) (fun h_ => ?_)) | ((with_reducible show wpList _ _ _ (⟨_, .binOp .gtr _ _ _ _, _, _, _, _⟩ :: _) _ _); refine st_gtr rfl _ _ _ _ rfl _ _ _ rfl rfl (fun h_ => ?_) (fun h_ => ?_)) | ((with_reducible show wpList _ _ _ (⟨_, .binOp .geq _ _ _ _, _, _, _, _⟩ :: _) _ _); refine st_geq rfl _ _ _ _ rfl _ _ _ rfl rfl (fun h_ => ?_) (fun h_ => ?_)) | ((with_reducible show wpList _ _ _ (⟨_, .binOp .eql _ _ _ _, _, _, _, _⟩ :: _) _ _); refine st_eql rfl _ _ _ _ rfl _ _ _ rfl rfl (fun h_ => ?_) (fun h_ => ?_)) | ((with_reducible show wpList _ _ _ (⟨_, .binOp .neq _ _ _ _, _, _, _, _⟩ :: _) _ _); refine st_neq rfl _ _ _ _ rfl _ _ _ rfl rfl (fun h_ => ?_) (fun h_ => ?_))) <;> go_prune) | ((with_reducible show wpList _ _ _ (⟨_, .load _ _, _, _, _, _⟩ :: _) _ _); refine st_kcell hS rfl _ _ rfl _ rfl _ k0 (by kernel_rfl) ?_))
    go_ret
    exact Ret.mk (congrArg Value.bool HR.out.symm) hS.below
theorem pclone_any {w0 : World} {D : Nat → Prop} {pv : Value} {L : List (Nat × Nat)} (h : Sl w0 D 2 pv L.length (pcells L)) (hl : L.length ≤ 1000000) : Calls Tryd.prog 66 #[pv] w0 fun e w' => ∃ v, e = .returned v ∧ St w0 w' [.own v 50 2 L.length (pcells L)] fun _ _ => True := by
  obtain ⟨A, c, rfl, hc1, hc2⟩ := h.shape
  obtain ⟨K, kp, hS⟩ : ∃ K : (Nat → Prop) → World → Prop, (∀ D w, K D w → Sl w D 2 (.slice A L.length c) L.length (pcells L)) ∧ St w0 w0 [] K := ⟨_, fun _ _ h => h, St.start (stable_sl (by decide)) h⟩
  clear h
  cases A with
  | none =>
    have h0 : L.length = 0 := by
      obtain ⟨_, A, c2, h2, _, _, h5⟩ := kp _ _ hS.ro
      rcases Nat.eq_zero_or_pos L.length with h | h
      · exact h
      · obtain ⟨b, o, h6, _⟩ := h5 h
        injection h2 with h2; rw [← h2] at h6; cases h6
    have hL : L = [] := List.length_eq_zero_iff.1 h0
    subst hL
    go_enter Tryd.func66, Tryd.ntmps66
    go_wp2_with (first
      | ((with_reducible show wpList _ _ _ (⟨_, .binOp _ _ _ _ _, _, _, _, _⟩ :: _) _ _); (first | ((with_reducible show wpList _ _ _ (⟨_, .binOp .lss _ _ _ _, _, _, _, _⟩ :: _) _ _); refine st_lss rfl _ _ _ _ rfl _ _ _ rfl rfl (fun h_ => ?_) (fun h_ => ?_)) | ((with_reducible show wpList _ _ _ (⟨_, .binOp .leq _ _ _ _, _, _, _, _⟩ :: _) _ _); refine st_leq rfl _ _ _ _ rfl _ _ _ rfl rfl (fun h_ => ?_) (fun h_ => ?_)) | ((with_reducible show wpList _ _ _ (⟨_, .binOp .gtr _ _ _ _, _, _, _, _⟩ :: _) _ _); refine st_gtr rfl _ _ _ _ rfl _ _ _ rfl rfl (fun h_ => ?_) (fun h_ => ?_)) | ((with_reducible show wpList _ _ _ (⟨_, .binOp .geq _ _ _ _, _, _, _, _⟩ :: _) _ _); refine st_geq rfl _ _ _ _ rfl _ _ _ rfl rfl (fun h_ => ?_) (fun h_ => ?_)) | ((with_reducible show wpList _ _ _ (⟨_, .binOp .eql _ _ _ _, _, _, _, _⟩ :: _) _ _); refine st_eql rfl _ _ _ _ rfl _ _ _ rfl rfl (fun h_ => ?_) (fun h_ => ?_)) | ((with_reducible show wpList _ _ _ (⟨_, .binOp .neq _ _ _ _, _, _, _, _⟩ :: _) _ _); refine st_neq rfl _ _ _ _ rfl _ _ _ rfl rfl (fun h_ => ?_) (fun h_ => ?_))) <;> go_prune)
      | ((with_reducible show wpList _ _ _ (⟨some 4, _, _, _, _, _⟩ :: _) _ _); refine BigFrame.wpList_want rfl fun _ hK => opw_bin (vx := .slice none _ c) (vy := .slice none 0 0) (v := .bool true) rfl rfl rfl rfl (Lib.run_eql_slice_nil _ _ _ _ _ _ _ _ Tryd.underlying25) (hK _ _ ?_)))
    go_ret
    exact ⟨_, rfl, ((hS.nil 50 2)).mono (Stable.pure True) fun _ _ _ => trivial⟩
  | some ad =>
    go_enter Tryd.func66, Tryd.ntmps66
    go_wp2_with (first
      | ((with_reducible show wpList _ _ _ (⟨some 4, _, _, _, _, _⟩ :: _) _ _); refine BigFrame.wpList_want rfl fun _ hK => opw_bin (vx := .slice (some ad) L.length c) (vy := .slice none 0 0) (v := .bool false) rfl rfl rfl rfl (Lib.run_eql_slice_nil _ _ _ _ _ _ _ _ Tryd.underlying25) (hK _ _ ?_))
      | ((with_reducible show wpList _ _ _ (⟨_, .buildSlice _ 0 _, _, _, _, _⟩ :: _) _ _); refine st_empty hS rfl _ _ rfl Tryd.underlying25 (by kernel_rfl) 2 ?_; clear hS; intro ge w_ hS)
      | ((with_reducible show wpList _ _ _ (⟨some 7, _, _, _, _, _⟩ :: _) _ _); refine st_appf hS 0 rfl _ _ _ rfl ty_pairs _ rfl rfl _ _ _ _ rfl (kp _ _ hS.ro) (pcells_one L) (by omega) (by omega) ?_; clear hS; intro g cap w_ hS))
    go_ret
    exact ⟨_, rfl, hS.mono (Stable.pure True) fun _ _ _ => trivial⟩
theorem opairs_any {w0 : World} {D : Nat → Prop} {p : Value} {n : Nat} {L : List (Nat × Nat)} (h : IsOrd w0 D p n L) (hl : L.length ≤ 1000000) : Calls Tryd.prog 28 #[p] w0 fun e w' => ∃ v, e = .returned v ∧ St w0 w' [.own v 50 2 L.length (pcells L)] fun _ _ => True := by
  obtain ⟨q, gp, av, bv, sv, xa, xb, rfl, hb, hp, _⟩ := h
  have k0 := Lib.hid (hb.cell 1 (x := .slice (some ⟨gp, 0, none⟩) L.length L.length) rfl)
  have HC := Lib.hid (pclone_any hp hl)
  clear hb hp
  go_enter Tryd.func28, Tryd.ntmps28
  go_wp2_with (first
    | ((with_reducible show wpList _ _ _ (⟨_, .binOp _ _ _ _ _, _, _, _, _⟩ :: _) _ _); (first | ((with_reducible show wpList _ _ _ (⟨_, .binOp .lss _ _ _ _, _, _, _, _⟩ :: _) _ _); refine st_lss rfl _ _ _ _ rfl _ _ _ rfl rfl (fun h_ => ?_) (fun h_ => ?_)) | ((with_reducible show wpList _ _ _ (⟨_, .binOp .leq _ _ _ _, _, _, _, _⟩ :: _) _ _); refine st_leq rfl _ _ _ _ rfl _ _ _ rfl rfl (fun h_ => ?_) (fun h_ => ?_)) | ((with_reducible show wpList _ _ _ (⟨_, .binOp .gtr _ _ _ _, _, _, _, _⟩ :: _) _ _); refine st_gtr rfl _ _ _ _ rfl _ _ _ rfl rfl (fun h_ => ?_) (fun h_ => ?_)) | ((with_reducible show wpList _ _ _ (⟨_, .binOp .geq _ _ _ _, _, _, _, _⟩ :: _) _ _); refine st_geq rfl _ _ _ _ rfl _ _ _ rfl rfl (fun h_ => ?_) (fun h_ => ?_)) | ((with_reducible show wpList _ _ _ (⟨_, .binOp .eql _ _ _ _, _, _, _, _⟩ :: _) _ _); refine st_eql rfl _ _ _ _ rfl _ _ _ rfl rfl (fun h_ => ?_) (fun h_ => ?_)) | ((with_reducible show wpList _ _ _ (⟨_, .binOp .neq _ _ _ _, _, _, _, _⟩ :: _) _ _); refine st_neq rfl _ _ _ _ rfl _ _ _ rfl rfl (fun h_ => ?_) (fun h_ => ?_))) <;> go_prune)
    | ((with_reducible show wpList _ _ _ (⟨_, .load _ _, _, _, _, _⟩ :: _) _ _); refine BigFrame.wpList_want rfl fun _ hK => opw_cell rfl rfl (by kernel_rfl) k0.out (hK _ _ ?_))
    | (go_at_call 66; refine HC.out.mono ?_; rintro e w_ ⟨v, rfl, hS⟩))
  go_ret
  exact ⟨v, rfl, hS⟩
theorem rng1 {w : World} {g i : Nat} {u : Value} (h : w.cell? ⟨g, i + 0, none⟩ = some u) : w.rangeAt g i [u] := fun j v hj => by
  match j, hj with
  | 0, hj => simp at hj; subst hj; exact h
  | j + 1, hj => simp at hj
theorem oabove_any {w0 : World} {D : Nat → Prop} {p : Value} {n : Nat} {L : List (Nat × Nat)} (h : IsOrd w0 D p n L) (hL : Inr n L) (a : Int) : Calls Tryd.prog 26 #[p, .int .i64 a] w0 (Ret (fun x w => ∃ N, IsSet w D x N ∧ ∀ i : Nat, N.testBit i = true ↔ ∃ b : Nat, a = (b : Int) ∧ TC L i b) w0) := by
  obtain ⟨q, gp, av, bv, sv, xa, xb, rfl, h⟩ := h
  have HA := Lib.hid h.2.2.1.2
  obtain ⟨A, c, rfl, _, _⟩ := h.2.2.1.1.shape
  obtain ⟨K, ko, hS⟩ : ∃ K : (Nat → Prop) → World → Prop, (∀ D w, K D w → OrdX q gp (.slice A n c) bv sv xa xb n L D w) ∧ St w0 w0 [] K := ⟨_, fun _ _ h => h, St.start stable_ordX h⟩
  clear h
  by_cases hin : 0 ≤ a ∧ a < (n : Int)
  · obtain ⟨k, rfl⟩ : ∃ k : Nat, a = (k : Int) := ⟨a.toNat, by omega⟩
    have hk : k < n := by omega
    obtain ⟨u, hu1, hu2⟩ := HA.out k hk
    obtain ⟨A3, c3, l3, he, _⟩ := hu2.parts
    obtain rfl : u = .slice A3 l3.length c3 := by injection he with he; simpa using he
    clear he
    have HU := Lib.hid hu2
    have HD := Lib.hid (decide_eq_true hin)
    clear hu2 hin
    go_enter Tryd.func26, Tryd.ntmps26
    go_wp2_with (first
      | ((with_reducible show wpList _ _ _ (⟨some 4, _, _, _, _, _⟩ :: _) _ _); refine st_alloc hS rfl _ rfl (by kernel_rfl) ?_; clear hS; intro g w_ hS; (try simp only [Act.put, Act.eval, List.set_cons_zero, List.set_cons_succ, List.setIfInBounds_toArray, Array.getD_eq_getD_getElem?, List.getElem?_toArray, List.getElem?_cons_succ, List.getElem?_cons_zero, Option.getD_some, Value.cells] at hS))
      | (go_at_call 64; refine (oin_any (ko _ _ hS.ro).ord _).mono ?_; rw [HD.out]; rintro r_ w_ ⟨_, rfl, rfl, hb_⟩; replace hS := hS.ext hb_; clear hb_)
      | ((with_reducible show wpList _ _ _ (⟨some 13, _, _, _, _, _⟩ :: _) _ _); refine st_kcell hS rfl _ _ rfl _ rfl _ (fun D w h => (ko D w h).1.cell 2 rfl) (by kernel_rfl) ?_)
      | ((with_reducible show wpList _ _ _ (⟨some 15, _, _, _, _, _⟩ :: _) _ _); refine st_iaddr rfl _ _ _ rfl _ rfl rfl (ko _ _ hS.ro).2.2.1.1 Tryd.underlying82 (by kernel_rfl) hk ?_; intro b_ j_ _ _ hc_)
      | ((with_reducible show wpList _ _ _ (⟨some 16, _, _, _, _, _⟩ :: _) _ _); refine BigFrame.wpList_want rfl fun _ hK => opw_mid (cs := [.slice A3 l3.length c3]) rfl rfl (rng1 (hc_ 0 _ (by simpa using hu1))) Tryd.underlying42 rfl (by kernel_rfl) (hK _ _ ?_))
      | ((with_reducible show wpList _ _ _ (⟨_, .store _ _ _, _, _, _, _⟩ :: _) _ _); first | (refine st_store hS 0 rfl _ _ _ rfl _ _ rfl rfl _ _ rfl (by kernel_rfl) (by kernel_rfl) (by kernel_rfl) ?_; clear hS; intro w_ hS; (try simp only [Act.put, Act.eval, List.set_cons_zero, List.set_cons_succ, List.setIfInBounds_toArray, Array.getD_eq_getD_getElem?, List.getElem?_toArray, List.getElem?_cons_succ, List.getElem?_cons_zero, Option.getD_some, Value.cells] at hS)) | (refine st_store hS 1 rfl _ _ _ rfl _ _ rfl rfl _ _ rfl (by kernel_rfl) (by kernel_rfl) (by kernel_rfl) ?_; clear hS; intro w_ hS; (try simp only [Act.put, Act.eval, List.set_cons_zero, List.set_cons_succ, List.setIfInBounds_toArray, Array.getD_eq_getD_getElem?, List.getElem?_toArray, List.getElem?_cons_succ, List.getElem?_cons_zero, Option.getD_some, Value.cells] at hS)) | (refine st_store hS 2 rfl _ _ _ rfl _ _ rfl rfl _ _ rfl (by kernel_rfl) (by kernel_rfl) (by kernel_rfl) ?_; clear hS; intro w_ hS; (try simp only [Act.put, Act.eval, List.set_cons_zero, List.set_cons_succ, List.setIfInBounds_toArray, Array.getD_eq_getD_getElem?, List.getElem?_toArray, List.getElem?_cons_succ, List.getElem?_cons_zero, Option.getD_some, Value.cells] at hS)) | (refine st_store hS 3 rfl _ _ _ rfl _ _ rfl rfl _ _ rfl (by kernel_rfl) (by kernel_rfl) (by kernel_rfl) ?_; clear hS; intro w_ hS; (try simp only [Act.put, Act.eval, List.set_cons_zero, List.set_cons_succ, List.setIfInBounds_toArray, Array.getD_eq_getD_getElem?, List.getElem?_toArray, List.getElem?_cons_succ, List.getElem?_cons_zero, Option.getD_some, Value.cells] at hS)) | (refine st_cstore hS 0 rfl _ _ _ rfl _ _ _ rfl rfl rfl (by first | (simp; done) | (simp; omega) | exact of_decide_eq_true (by kernel_rfl)) rfl (by first | rfl | assumption) (by kernel_rfl) ?_; clear hS; intro w_ hS; (try simp only [Act.put, Act.eval, List.set_cons_zero, List.set_cons_succ, List.setIfInBounds_toArray, Array.getD_eq_getD_getElem?, List.getElem?_toArray, List.getElem?_cons_succ, List.getElem?_cons_zero, Option.getD_some, Value.cells] at hS)) | (refine st_cstore hS 1 rfl _ _ _ rfl _ _ _ rfl rfl rfl (by first | (simp; done) | (simp; omega) | exact of_decide_eq_true (by kernel_rfl)) rfl (by first | rfl | assumption) (by kernel_rfl) ?_; clear hS; intro w_ hS; (try simp only [Act.put, Act.eval, List.set_cons_zero, List.set_cons_succ, List.setIfInBounds_toArray, Array.getD_eq_getD_getElem?, List.getElem?_toArray, List.getElem?_cons_succ, List.getElem?_cons_zero, Option.getD_some, Value.cells] at hS)) | (refine st_cstore hS 2 rfl _ _ _ rfl _ _ _ rfl rfl rfl (by first | (simp; done) | (simp; omega) | exact of_decide_eq_true (by kernel_rfl)) rfl (by first | rfl | assumption) (by kernel_rfl) ?_; clear hS; intro w_ hS; (try simp only [Act.put, Act.eval, List.set_cons_zero, List.set_cons_succ, List.setIfInBounds_toArray, Array.getD_eq_getD_getElem?, List.getElem?_toArray, List.getElem?_cons_succ, List.getElem?_cons_zero, Option.getD_some, Value.cells] at hS)) | (refine st_cstore hS 3 rfl _ _ _ rfl _ _ _ rfl rfl rfl (by first | (simp; done) | (simp; omega) | exact of_decide_eq_true (by kernel_rfl)) rfl (by first | rfl | assumption) (by kernel_rfl) ?_; clear hS; intro w_ hS; (try simp only [Act.put, Act.eval, List.set_cons_zero, List.set_cons_succ, List.setIfInBounds_toArray, Array.getD_eq_getD_getElem?, List.getElem?_toArray, List.getElem?_cons_succ, List.getElem?_cons_zero, Option.getD_some, Value.cells] at hS))))
    refine ret_cell Tryd.results26 rfl (hS.box 0 rfl) Tryd.underlying42 rfl (by kernel_rfl) rfl ?_
    refine Ret.mk ⟨_, HU.out.ext hS.below, fun i => (tb_above hL).trans ⟨fun h => ⟨k, rfl, h⟩, fun ⟨b, e, h⟩ => ?_⟩⟩ hS.below
    obtain rfl : k = b := by omega
    exact h
  · have HD := Lib.hid (decide_eq_false hin)
    go_enter Tryd.func26, Tryd.ntmps26
    go_wp2_with (first
      | ((with_reducible show wpList _ _ _ (⟨some 4, _, _, _, _, _⟩ :: _) _ _); refine st_alloc hS rfl _ rfl (by kernel_rfl) ?_; clear hS; intro g w_ hS; (try simp only [Act.put, Act.eval, List.set_cons_zero, List.set_cons_succ, List.setIfInBounds_toArray, Array.getD_eq_getD_getElem?, List.getElem?_toArray, List.getElem?_cons_succ, List.getElem?_cons_zero, Option.getD_some, Value.cells] at hS))
      | (go_at_call 64; refine (oin_any (ko _ _ hS.ro).ord _).mono ?_; rw [HD.out]; rintro r_ w_ ⟨_, rfl, rfl, hb_⟩; replace hS := hS.ext hb_; clear hb_)
      | ((with_reducible show wpList _ _ _ (⟨_, .build _ _, _, _, _, _⟩ :: _) _ _); refine wpList_build_of rfl _ _ rfl #[.slice none 0 0] (by kernel_rfl) ?_)
      | ((with_reducible show wpList _ _ _ (⟨_, .store _ _ _, _, _, _, _⟩ :: _) _ _); first | (refine st_store hS 0 rfl _ _ _ rfl _ _ rfl rfl _ _ rfl (by kernel_rfl) (by kernel_rfl) (by kernel_rfl) ?_; clear hS; intro w_ hS; (try simp only [Act.put, Act.eval, List.set_cons_zero, List.set_cons_succ, List.setIfInBounds_toArray, Array.getD_eq_getD_getElem?, List.getElem?_toArray, List.getElem?_cons_succ, List.getElem?_cons_zero, Option.getD_some, Value.cells] at hS)) | (refine st_store hS 1 rfl _ _ _ rfl _ _ rfl rfl _ _ rfl (by kernel_rfl) (by kernel_rfl) (by kernel_rfl) ?_; clear hS; intro w_ hS; (try simp only [Act.put, Act.eval, List.set_cons_zero, List.set_cons_succ, List.setIfInBounds_toArray, Array.getD_eq_getD_getElem?, List.getElem?_toArray, List.getElem?_cons_succ, List.getElem?_cons_zero, Option.getD_some, Value.cells] at hS)) | (refine st_store hS 2 rfl _ _ _ rfl _ _ rfl rfl _ _ rfl (by kernel_rfl) (by kernel_rfl) (by kernel_rfl) ?_; clear hS; intro w_ hS; (try simp only [Act.put, Act.eval, List.set_cons_zero, List.set_cons_succ, List.setIfInBounds_toArray, Array.getD_eq_getD_getElem?, List.getElem?_toArray, List.getElem?_cons_succ, List.getElem?_cons_zero, Option.getD_some, Value.cells] at hS)) | (refine st_store hS 3 rfl _ _ _ rfl _ _ rfl rfl _ _ rfl (by kernel_rfl) (by kernel_rfl) (by kernel_rfl) ?_; clear hS; intro w_ hS; (try simp only [Act.put, Act.eval, List.set_cons_zero, List.set_cons_succ, List.setIfInBounds_toArray, Array.getD_eq_getD_getElem?, List.getElem?_toArray, List.getElem?_cons_succ, List.getElem?_cons_zero, Option.getD_some, Value.cells] at hS)) | (refine st_cstore hS 0 rfl _ _ _ rfl _ _ _ rfl rfl rfl (by first | (simp; done) | (simp; omega) | exact of_decide_eq_true (by kernel_rfl)) rfl (by first | rfl | assumption) (by kernel_rfl) ?_; clear hS; intro w_ hS; (try simp only [Act.put, Act.eval, List.set_cons_zero, List.set_cons_succ, List.setIfInBounds_toArray, Array.getD_eq_getD_getElem?, List.getElem?_toArray, List.getElem?_cons_succ, List.getElem?_cons_zero, Option.getD_some, Value.cells] at hS)) | (refine st_cstore hS 1 rfl _ _ _ rfl _ _ _ rfl rfl rfl (by first | (simp; done) | (simp; omega) | exact of_decide_eq_true (by kernel_rfl)) rfl (by first | rfl | assumption) (by kernel_rfl) ?_; clear hS; intro w_ hS; (try simp only [Act.put, Act.eval, List.set_cons_zero, List.set_cons_succ, List.setIfInBounds_toArray, Array.getD_eq_getD_getElem?, List.getElem?_toArray, List.getElem?_cons_succ, List.getElem?_cons_zero, Option.getD_some, Value.cells] at hS)) | (refine st_cstore hS 2 rfl _ _ _ rfl _ _ _ rfl rfl rfl (by first | (simp; done) | (simp; omega) | exact of_decide_eq_true (by kernel_rfl)) rfl (by first | rfl | assumption) (by kernel_rfl) ?_; clear hS; intro w_ hS; (try simp only [Act.put, Act.eval, List.set_cons_zero, List.set_cons_succ, List.setIfInBounds_toArray, Array.getD_eq_getD_getElem?, List.getElem?_toArray, List.getElem?_cons_succ, List.getElem?_cons_zero, Option.getD_some, Value.cells] at hS)) | (refine st_cstore hS 3 rfl _ _ _ rfl _ _ _ rfl rfl rfl (by first | (simp; done) | (simp; omega) | exact of_decide_eq_true (by kernel_rfl)) rfl (by first | rfl | assumption) (by kernel_rfl) ?_; clear hS; intro w_ hS; (try simp only [Act.put, Act.eval, List.set_cons_zero, List.set_cons_succ, List.setIfInBounds_toArray, Array.getD_eq_getD_getElem?, List.getElem?_toArray, List.getElem?_cons_succ, List.getElem?_cons_zero, Option.getD_some, Value.cells] at hS))))
    refine ret_cell Tryd.results26 rfl (hS.box 0 rfl) Tryd.underlying42 rfl (by kernel_rfl) rfl ?_
    refine Ret.mk ⟨0, IsSet.empty, fun i => ⟨fun h => by simp at h, fun ⟨b, e, h⟩ => ?_⟩⟩ hS.below
    have := (h.lt hL).2
    omega
theorem obelow_any {w0 : World} {D : Nat → Prop} {p : Value} {n : Nat} {L : List (Nat × Nat)} (h : IsOrd w0 D p n L) (hL : Inr n L) (a : Int) : Calls Tryd.prog 23 #[p, .int .i64 a] w0 (Ret (fun x w => ∃ N, IsSet w D x N ∧ ∀ i : Nat, N.testBit i = true ↔ ∃ b : Nat, a = (b : Int) ∧ TC L b i) w0) := by
  obtain ⟨q, gp, av, bv, sv, xa, xb, rfl, h⟩ := h
  have HA := Lib.hid h.2.2.2.2
  obtain ⟨A, c, rfl, _, _⟩ := h.2.2.2.1.shape
  obtain ⟨K, ko, hS⟩ : ∃ K : (Nat → Prop) → World → Prop, (∀ D w, K D w → OrdX q gp av (.slice A n c) sv xa xb n L D w) ∧ St w0 w0 [] K := ⟨_, fun _ _ h => h, St.start stable_ordX h⟩
  clear h
  by_cases hin : 0 ≤ a ∧ a < (n : Int)
  · obtain ⟨k, rfl⟩ : ∃ k : Nat, a = (k : Int) := ⟨a.toNat, by omega⟩
    have hk : k < n := by omega
    obtain ⟨u, hu1, hu2⟩ := HA.out k hk
    obtain ⟨A3, c3, l3, he, _⟩ := hu2.parts
    obtain rfl : u = .slice A3 l3.length c3 := by injection he with he; simpa using he
    clear he
    have HU := Lib.hid hu2
    have HD := Lib.hid (decide_eq_true hin)
    clear hu2 hin
    go_enter Tryd.func23, Tryd.ntmps23
    go_wp2_with (first
      | ((with_reducible show wpList _ _ _ (⟨some 4, _, _, _, _, _⟩ :: _) _ _); refine st_alloc hS rfl _ rfl (by kernel_rfl) ?_; clear hS; intro g w_ hS; (try simp only [Act.put, Act.eval, List.set_cons_zero, List.set_cons_succ, List.setIfInBounds_toArray, Array.getD_eq_getD_getElem?, List.getElem?_toArray, List.getElem?_cons_succ, List.getElem?_cons_zero, Option.getD_some, Value.cells] at hS))
      | (go_at_call 64; refine (oin_any (ko _ _ hS.ro).ord _).mono ?_; rw [HD.out]; rintro r_ w_ ⟨_, rfl, rfl, hb_⟩; replace hS := hS.ext hb_; clear hb_)
      | ((with_reducible show wpList _ _ _ (⟨some 13, _, _, _, _, _⟩ :: _) _ _); refine st_kcell hS rfl _ _ rfl _ rfl _ (fun D w h => (ko D w h).1.cell 3 rfl) (by kernel_rfl) ?_)
      | ((with_reducible show wpList _ _ _ (⟨some 15, _, _, _, _, _⟩ :: _) _ _); refine st_iaddr rfl _ _ _ rfl _ rfl rfl (ko _ _ hS.ro).2.2.2.1 Tryd.underlying82 (by kernel_rfl) hk ?_; intro b_ j_ _ _ hc_)
      | ((with_reducible show wpList _ _ _ (⟨some 16, _, _, _, _, _⟩ :: _) _ _); refine BigFrame.wpList_want rfl fun _ hK => opw_mid (cs := [.slice A3 l3.length c3]) rfl rfl (rng1 (hc_ 0 _ (by simpa using hu1))) Tryd.underlying42 rfl (by kernel_rfl) (hK _ _ ?_))
      | ((with_reducible show wpList _ _ _ (⟨_, .store _ _ _, _, _, _, _⟩ :: _) _ _); first | (refine st_store hS 0 rfl _ _ _ rfl _ _ rfl rfl _ _ rfl (by kernel_rfl) (by kernel_rfl) (by kernel_rfl) ?_; clear hS; intro w_ hS; (try simp only [Act.put, Act.eval, List.set_cons_zero, List.set_cons_succ, List.setIfInBounds_toArray, Array.getD_eq_getD_getElem?, List.getElem?_toArray, List.getElem?_cons_succ, List.getElem?_cons_zero, Option.getD_some, Value.cells] at hS)) | (refine st_store hS 1 rfl _ _ _ rfl _ _ rfl rfl _ _ rfl (by kernel_rfl) (by kernel_rfl) (by kernel_rfl) ?_; clear hS; intro w_ hS; (try simp only [Act.put, Act.eval, List.set_cons_zero, List.set_cons_succ, List.setIfInBounds_toArray, Array.getD_eq_getD_getElem?, List.getElem?_toArray, List.getElem?_cons_succ, List.getElem?_cons_zero, Option.getD_some, Value.cells] at hS)) | (refine st_store hS 2 rfl _ _ _ rfl _ _ rfl rfl _ _ rfl (by kernel_rfl) (by kernel_rfl) (by kernel_rfl) ?_; clear hS; intro w_ hS; (try simp only [Act.put, Act.eval, List.set_cons_zero, List.set_cons_succ, List.setIfInBounds_toArray, Array.getD_eq_getD_getElem?, List.getElem?_toArray, List.getElem?_cons_succ, List.getElem?_cons_zero, Option.getD_some, Value.cells] at hS)) | (refine st_store hS 3 rfl _ _ _ rfl _ _ rfl rfl _ _ rfl (by kernel_rfl) (by kernel_rfl) (by kernel_rfl) ?_; clear hS; intro w_ hS; (try simp only [Act.put, Act.eval, List.set_cons_zero, List.set_cons_succ, List.setIfInBounds_toArray, Array.getD_eq_getD_getElem?, List.getElem?_toArray, List.getElem?_cons_succ, List.getElem?_cons_zero, Option.getD_some, Value.cells] at hS)) | (refine st_cstore hS 0 rfl _ _ _ rfl _ _ _ rfl rfl rfl (by first | (simp; done) | (simp; omega) | exact of_decide_eq_true (by kernel_rfl)) rfl (by first | rfl | assumption) (by kernel_rfl) ?_; clear hS; intro w_ hS; (try simp only [Act.put, Act.eval, List.set_cons_zero, List.set_cons_succ, List.setIfInBounds_toArray, Array.getD_eq_getD_getElem?, List.getElem?_toArray, List.getElem?_cons_succ, List.getElem?_cons_zero, Option.getD_some, Value.cells] at hS)) | (refine st_cstore hS 1 rfl _ _ _ rfl _ _ _ rfl rfl rfl (by first | (simp; done) | (simp; omega) | exact of_decide_eq_true (by kernel_rfl)) rfl (by first | rfl | assumption) (by kernel_rfl) ?_; clear hS; intro w_ hS; (try simp only [Act.put, Act.eval, List.set_cons_zero, List.set_cons_succ, List.setIfInBounds_toArray, Array.getD_eq_getD_getElem?, List.getElem?_toArray, List.getElem?_cons_succ, List.getElem?_cons_zero, Option.getD_some, Value.cells] at hS)) | (refine st_cstore hS 2 rfl _ _ _ rfl _ _ _ rfl rfl rfl (by first | (simp; done) | (simp; omega) | exact of_decide_eq_true (by kernel_rfl)) rfl (by first | rfl | assumption) (by kernel_rfl) ?_; clear hS; intro w_ hS; (try simp only [Act.put, Act.eval, List.set_cons_zero, List.set_cons_succ, List.setIfInBounds_toArray, Array.getD_eq_getD_getElem?, List.getElem?_toArray, List.getElem?_cons_succ, List.getElem?_cons_zero, Option.getD_some, Value.cells] at hS)) | (refine st_cstore hS 3 rfl _ _ _ rfl _ _ _ rfl rfl rfl (by first | (simp; done) | (simp; omega) | exact of_decide_eq_true (by kernel_rfl)) rfl (by first | rfl | assumption) (by kernel_rfl) ?_; clear hS; intro w_ hS; (try simp only [Act.put, Act.eval, List.set_cons_zero, List.set_cons_succ, List.setIfInBounds_toArray, Array.getD_eq_getD_getElem?, List.getElem?_toArray, List.getElem?_cons_succ, List.getElem?_cons_zero, Option.getD_some, Value.cells] at hS))))
    refine ret_cell Tryd.results23 rfl (hS.box 0 rfl) Tryd.underlying42 rfl (by kernel_rfl) rfl ?_
    refine Ret.mk ⟨_, HU.out.ext hS.below, fun i => (tb_below hL).trans ⟨fun h => ⟨k, rfl, h⟩, fun ⟨b, e, h⟩ => ?_⟩⟩ hS.below
    obtain rfl : k = b := by omega
    exact h
  · have HD := Lib.hid (decide_eq_false hin)
    go_enter Tryd.func23, Tryd.ntmps23
    go_wp2_with (first
      | ((with_reducible show wpList _ _ _ (⟨some 4, _, _, _, _, _⟩ :: _) _ _); refine st_alloc hS rfl _ rfl (by kernel_rfl) ?_; clear hS; intro g w_ hS; (try simp only [Act.put, Act.eval, List.set_cons_zero, List.set_cons_succ, List.setIfInBounds_toArray, Array.getD_eq_getD_getElem?, List.getElem?_toArray, List.getElem?_cons_succ, List.getElem?_cons_zero, Option.getD_some, Value.cells] at hS))
      | (go_at_call 64; refine (oin_any (ko _ _ hS.ro).ord _).mono ?_; rw [HD.out]; rintro r_ w_ ⟨_, rfl, rfl, hb_⟩; replace hS := hS.ext hb_; clear hb_)
      | ((with_reducible show wpList _ _ _ (⟨_, .build _ _, _, _, _, _⟩ :: _) _ _); refine wpList_build_of rfl _ _ rfl #[.slice none 0 0] (by kernel_rfl) ?_)
      | ((with_reducible show wpList _ _ _ (⟨_, .store _ _ _, _, _, _, _⟩ :: _) _ _); first | (refine st_store hS 0 rfl _ _ _ rfl _ _ rfl rfl _ _ rfl (by kernel_rfl) (by kernel_rfl) (by kernel_rfl) ?_; clear hS; intro w_ hS; (try simp only [Act.put, Act.eval, List.set_cons_zero, List.set_cons_succ, List.setIfInBounds_toArray, Array.getD_eq_getD_getElem?, List.getElem?_toArray, List.getElem?_cons_succ, List.getElem?_cons_zero, Option.getD_some, Value.cells] at hS)) | (refine st_store hS 1 rfl _ _ _ rfl _ _ rfl rfl _ _ rfl (by kernel_rfl) (by kernel_rfl) (by kernel_rfl) ?_; clear hS; intro w_ hS; (try simp only [Act.put, Act.eval, List.set_cons_zero, List.set_cons_succ, List.setIfInBounds_toArray, Array.getD_eq_getD_getElem?, List.getElem?_toArray, List.getElem?_cons_succ, List.getElem?_cons_zero, Option.getD_some, Value.cells] at hS)) | (refine st_store hS 2 rfl _ _ _ rfl _ _ rfl rfl _ _ rfl (by kernel_rfl) (by kernel_rfl) (by kernel_rfl) ?_; clear hS; intro w_ hS; (try simp only [Act.put, Act.eval, List.set_cons_zero, List.set_cons_succ, List.setIfInBounds_toArray, Array.getD_eq_getD_getElem?, List.getElem?_toArray, List.getElem?_cons_succ, List.getElem?_cons_zero, Option.getD_some, Value.cells] at hS)) | (refine st_store hS 3 rfl _ _ _ rfl _ _ rfl rfl _ _ rfl (by kernel_rfl) (by kernel_rfl) (by kernel_rfl) ?_; clear hS; intro w_ hS; (try simp only [Act.put, Act.eval, List.set_cons_zero, List.set_cons_succ, List.setIfInBounds_toArray, Array.getD_eq_getD_getElem?, List.getElem?_toArray, List.getElem?_cons_succ, List.getElem?_cons_zero, Option.getD_some, Value.cells] at hS)) | (refine st_cstore hS 0 rfl _ _ _ rfl _ _ _ rfl rfl rfl (by first | (simp; done) | (simp; omega) | exact of_decide_eq_true (by kernel_rfl)) rfl (by first | rfl | assumption) (by kernel_rfl) ?_; clear hS; intro w_ hS; (try simp only [Act.put, Act.eval, List.set_cons_zero, List.set_cons_succ, List.setIfInBounds_toArray, Array.getD_eq_getD_getElem?, List.getElem?_toArray, List.getElem?_cons_succ, List.getElem?_cons_zero, Option.getD_some, Value.cells] at hS)) | (refine st_cstore hS 1 rfl _ _ _ rfl _ _ _ rfl rfl rfl (by first | (simp; done) | (simp; omega) | exact of_decide_eq_true (by kernel_rfl)) rfl (by first | rfl | assumption) (by kernel_rfl) ?_; clear hS; intro w_ hS; (try simp only [Act.put, Act.eval, List.set_cons_zero, List.set_cons_succ, List.setIfInBounds_toArray, Array.getD_eq_getD_getElem?, List.getElem?_toArray, List.getElem?_cons_succ, List.getElem?_cons_zero, Option.getD_some, Value.cells] at hS)) | (refine st_cstore hS 2 rfl _ _ _ rfl _ _ _ rfl rfl rfl (by first | (simp; done) | (simp; omega) | exact of_decide_eq_true (by kernel_rfl)) rfl (by first | rfl | assumption) (by kernel_rfl) ?_; clear hS; intro w_ hS; (try simp only [Act.put, Act.eval, List.set_cons_zero, List.set_cons_succ, List.setIfInBounds_toArray, Array.getD_eq_getD_getElem?, List.getElem?_toArray, List.getElem?_cons_succ, List.getElem?_cons_zero, Option.getD_some, Value.cells] at hS)) | (refine st_cstore hS 3 rfl _ _ _ rfl _ _ _ rfl rfl rfl (by first | (simp; done) | (simp; omega) | exact of_decide_eq_true (by kernel_rfl)) rfl (by first | rfl | assumption) (by kernel_rfl) ?_; clear hS; intro w_ hS; (try simp only [Act.put, Act.eval, List.set_cons_zero, List.set_cons_succ, List.setIfInBounds_toArray, Array.getD_eq_getD_getElem?, List.getElem?_toArray, List.getElem?_cons_succ, List.getElem?_cons_zero, Option.getD_some, Value.cells] at hS))))
    refine ret_cell Tryd.results23 rfl (hS.box 0 rfl) Tryd.underlying42 rfl (by kernel_rfl) rfl ?_
    refine Ret.mk ⟨0, IsSet.empty, fun i => ⟨fun h => by simp at h, fun ⟨b, e, h⟩ => ?_⟩⟩ hS.below
    have := (h.lt hL).1
    omega
theorem oless_any {w0 : World} {D : Nat → Prop} {p : Value} {n : Nat} {L : List (Nat × Nat)} (h : IsOrd w0 D p n L) (hL : Inr n L) (a b : Int) : Calls Tryd.prog 56 #[p, .int .i64 a, .int .i64 b] w0 (Ret (fun x _ => ∃ c : Bool, x = .bool c ∧ (c = true ↔ ∃ i j : Nat, a = (i : Int) ∧ b = (j : Int) ∧ TC L j i)) w0) := by
  have HA := Lib.hid (oabove_any h hL a)
  obtain ⟨q, gp, av, bv, sv, xa, xb, rfl, h⟩ := h
  clear h
  go_enter Tryd.func56, Tryd.ntmps56
  go_wp2_with (first
    | (go_at_call 26; refine HA.out.mono ?_; rintro r_ w_ ⟨_, rfl, ⟨N, hN, hs⟩, hb⟩; replace hs := Lib.hid hs)
    | (go_at_call 65; refine (has_any _ N b _ _ hN).mono ?_; rintro r_ w1 ⟨_, rfl, rfl, hb2⟩))
  go_ret
  refine Ret.mk ⟨_, rfl, ?_⟩ (bel_tr hb hb2)
  unfold hasB
  rw [Bool.and_eq_true, decide_eq_true_eq, hs.out]
  exact ⟨fun ⟨h1, k, h2, h3⟩ => ⟨k, b.toNat, h2, by omega, h3⟩, fun ⟨i, j, h1, h2, h3⟩ => ⟨by omega, i, h1, by rw [h2]; simpa using h3⟩⟩
def encP (x : Nat × Nat) : List Value := [.int .i64 (x.1 : Nat), .int .i64 (x.2 : Nat)]
theorem eqlP : EqlAt Tryd.prog 50 (fun x => .agg (encP x).toArray) (fun x y : Nat × Nat => decide (x = y)) := ⟨fun x y w => eq_pairs w x y, GuardAt.agg _ (by kernel_rfl)⟩
theorem cellsP {w : World} {D : Nat → Prop} {g c : Nat} {L : List (Nat × Nat)} (h : Sl w D 2 (.slice (some ⟨g, 0, none⟩) L.length c) L.length (pcells L)) : ∀ j, j < L.length → ∀ i v, (encP L[j]!)[i]? = some v → w.cell? ⟨g, 0 + j * 2 + i, none⟩ = some v := fun j hj i v hv => by
  obtain ⟨_, A, c2, h2, _, _, h5⟩ := h
  injection h2 with h2
  obtain ⟨b, o, h6, _, _, h8⟩ := h5 (by omega)
  rw [← h2] at h6
  injection h6 with h6; injection h6 with h6 h7
  subst h6; subst h7
  have h3 := pcells_at L j hj
  have h4 : L.getD j (0, 0) = L[j]! := by rw [getElem!_pos L j hj, List.getD_eq_getElem?_getD, List.getElem?_eq_getElem hj]; rfl
  rw [h4] at h3
  rw [Nat.add_assoc]
  generalize L[j]! = y at *
  match i, hv with
  | 0, hv => simp [encP] at hv; subst hv; exact h8 _ _ h3.1
  | 1, hv => simp [encP] at hv; subst hv; exact h8 _ _ h3.2
  | i + 2, hv => simp [encP] at hv
theorem pcontains_any {w : World} {D : Nat → Prop} {g c : Nat} {L : List (Nat × Nat)} (hl : L.length ≤ 1000000) (h : Sl w D 2 (.slice (some ⟨g, 0, none⟩) L.length c) L.length (pcells L)) (x : Nat × Nat) :
    Calls Tryd.prog 92 #[.slice (some ⟨g, 0, none⟩) L.length c, .agg #[.int .i64 (x.1 : Nat), .int .i64 (x.2 : Nat)]] w (Ret (fun r _ => r = .bool (decide (x ∈ L))) w) := by
  have := AnyQ.slices_Contains Tryd.containsPairs 2 Tryd.isAgg50 Tryd.sizeOf50 encP (fun _ => rfl) _ eqlP g 0 L.length c L x w (Nat.le_refl _) (by omega) (cellsP h)
  refine this.mono ?_
  rintro e w' ⟨rfl, hb⟩
  refine Ret.mk ?_ hb
  rw [List.take_length]
  congr 1
  rw [Bool.eq_iff_iff, List.any_eq_true, decide_eq_true_eq]
  exact ⟨fun ⟨y, h1, h2⟩ => by rw [decide_eq_true_eq] at h2; rw [h2]; exact h1, fun h => ⟨x, h, by simp⟩⟩
theorem pindex_any {w : World} {D : Nat → Prop} {g c : Nat} {L : List (Nat × Nat)} (hl : L.length ≤ 1000000) (h : Sl w D 2 (.slice (some ⟨g, 0, none⟩) L.length c) L.length (pcells L)) (x : Nat × Nat) :
    Calls Tryd.prog 88 #[.slice (some ⟨g, 0, none⟩) L.length c, .agg #[.int .i64 (x.1 : Nat), .int .i64 (x.2 : Nat)]] w (Ret (fun r _ => (∃ k : Nat, k < L.length ∧ r = .int .i64 (k : Nat) ∧ L[k]? = some x) ∨ r = .int .i64 (-1) ∧ x ∉ L) w) := by
  have := AnyQ.slices_Index Tryd.indexPairs 2 Tryd.isAgg50 Tryd.sizeOf50 encP (fun _ => rfl) _ eqlP g 0 L.length c L x w (Nat.le_refl _) (by omega) (cellsP h)
  refine this.mono ?_
  rintro e w' ⟨rfl, q, rfl⟩
  refine Ret.mk ?_ (bel_drewN ((Below.refl _ _).alloc (Nat.le_refl _) _) q)
  by_cases hx : x ∈ L
  · left
    have h1 : L.idxOf x < L.length := List.idxOf_lt_length_iff.2 hx
    have h2 : L[L.idxOf x]! = x := by rw [getElem!_pos L _ h1]; exact List.getElem_idxOf h1
    refine ⟨L.idxOf x, h1, ?_, by rw [List.getElem?_eq_getElem h1, List.getElem_idxOf h1]⟩
    congr 1
    refine Lib.idxBy_hit _ L L.length (L.idxOf x) x h1 (Nat.le_refl _) (by simp [h2]) fun j hj => ?_
    have h3 := List.not_of_lt_findIdx (p := (· == x)) (xs := L) hj
    rw [getElem!_pos L j (by omega)]
    simp at h3 ⊢
    exact fun e => h3 e.symm
  · right
    refine ⟨?_, hx⟩
    congr 1
    refine Lib.idxBy_miss _ L L.length x fun j hj => ?_
    rw [getElem!_pos L j hj]
    simp
    intro e
    exact hx (e ▸ List.getElem_mem hj)
end Go.Proofs.YtmlkgaiphpimiaaDoor
namespace Go.Proofs.YtmlkgaiphpimiaaDoor
open Go.RowKit
attribute [local go_sem ↓] Go.wp_at_zero Go.wp_at_succ
set_option maxRecDepth 20000
set_option exponentiation.threshold 5000

/-- the links without one -/
def unl (L : List (Nat × Nat)) (z : Nat × Nat) : List (Nat × Nat) := L.filter fun u => decide (u ≠ z)
theorem mem_unl {L : List (Nat × Nat)} {z u : Nat × Nat} : u ∈ unl L z ↔ u ∈ L ∧ u ≠ z := by
  unfold unl; rw [List.mem_filter, decide_eq_true_iff]
theorem Inr.unl {n : Nat} {L : List (Nat × Nat)} (h : Inr n L) (z : Nat × Nat) : Inr n (unl L z) := fun x hx => h x (mem_unl.1 hx).1
section
variable {n : Nat} {L : List (Nat × Nat)}
open Classical in
theorem nAbove_lt' (hA : Acyc L) {b : Nat} (hb : b < n) : nAbove n L b < n := by
  have h := filt_lt (fun a => decide (TC L a b)) (fun _ => true) (List.range n) (fun _ _ _ => rfl) ⟨b, List.mem_range.2 hb, decide_eq_false (hA b), rfl⟩
  have e : (List.range n).filter (fun _ => true) = List.range n := List.filter_eq_self.2 fun _ _ => rfl
  rw [e, List.length_range] at h
  exact h
theorem Wk.lt (hL : Inr n L) (hA : Acyc L) {b k x : Nat} (hb : b < n) (h : Wk L b k x) : k < n := by
  have h1 := h.nAbove hL hA
  have h2 := nAbove_lt' hA hb
  omega
theorem farStep_at (m : Nat) (far : List Nat) (x : Nat × Nat) (i : Nat) (hi : i < far.length) : (farStep m far x).getD i 0 = far.getD i 0 ∨ (farStep m far x).getD i 0 = m + 1 := by
  unfold farStep
  split
  · by_cases e : x.1 = i
    · subst e
      right
      rw [List.getD_eq_getElem?_getD, List.getElem?_set_self hi]; rfl
    · left
      rw [List.getD_eq_getElem?_getD, List.getElem?_set_ne e, ← List.getD_eq_getElem?_getD]
  · exact .inl rfl
open Classical in
theorem gp_first {L : List (Nat × Nat)} {b v d t : Nat} {x : Nat × Nat} (h : L[t]? = some x) (h1 : x.1 = v) (h2 : isDist L b x.2 d) (hn : ∀ s, s < t → ∀ y, L[s]? = some y → ¬ (y.1 = v ∧ isDist L b y.2 d)) : gp L b (d + 1) v = v :: gp L b d x.2 := by
  have hf : L.find? (fun x => decide (x.1 = v ∧ isDist L b x.2 d)) = some x := by
    rw [List.find?_eq_some_iff_getElem]
    obtain ⟨h3, h4⟩ := List.getElem?_eq_some_iff.1 h
    refine ⟨decide_eq_true ⟨h1, h2⟩, t, h3, h4, fun s hs => ?_⟩
    have := hn s hs _ (List.getElem?_eq_getElem (by omega))
    simpa only [Bool.not_eq_true', decide_eq_false_iff_not] using this
  rw [gp, hf]
theorem gp_len {L : List (Nat × Nat)} {b : Nat} : ∀ {d v : Nat}, isDist L b v d → (gp L b d v).length = d + 1
  | 0, v, _ => rfl
  | d + 1, v, h => by
    obtain ⟨y, h1, h2⟩ := isDist_succ h
    have hex : ∃ t : Nat, ∃ x : Nat × Nat, L[t]? = some x ∧ x.1 = v ∧ isDist L b x.2 d := by
      obtain ⟨t, ht, e⟩ := List.getElem_of_mem h1
      exact ⟨t, (v, y), by rw [List.getElem?_eq_getElem ht, e], rfl, h2⟩
    have key : ∀ t : Nat, (∃ x : Nat × Nat, L[t]? = some x ∧ x.1 = v ∧ isDist L b x.2 d) → (gp L b (d + 1) v).length = d + 2 := by
      intro t
      induction t using Nat.strongRecOn with
      | _ t ih =>
        rintro ⟨x, hx, hx1, hx2⟩
        by_cases hf : ∃ s, s < t ∧ ∃ y, L[s]? = some y ∧ y.1 = v ∧ isDist L b y.2 d
        · obtain ⟨s, hs, hy⟩ := hf
          exact ih s hs hy
        · rw [gp_first hx hx1 hx2 fun s hs y hy hc => hf ⟨s, hs, y, hy, hc⟩, List.length_cons, gp_len hx2]
    obtain ⟨t, hx⟩ := hex
    exact key t hx
theorem far_bound {b m : Nat} {far : List Nat} (h : FarOK L b m far) {x : Nat} (hx : x < far.length) : far.getD x 0 ≤ m := by
  rcases Nat.eq_zero_or_pos (far.getD x 0) with h0 | h0
  · omega
  · have := (h x hx (far.getD x 0 - 1)).1 (by omega)
    omega
end
theorem natI_at {l : List Nat} {k : Nat} (h : k < l.length) : (ints (natInts l))[k]? = some (.int .i64 (l.getD k 0 : Nat)) := ints_natA l k h
theorem natI_set (l : List Nat) (k v : Nat) : (ints (natInts l)).set k (.int .i64 (v : Nat)) = ints (natInts (l.set k v)) := by
  simp [ints, natInts, List.map_set]
theorem natI_rep (n : Nat) : (madeCells #[Value.int .i64 0] (n * 1)).toList = ints (natInts (List.replicate n 0)) := by
  rw [ints_rep]; simp [ints, natInts]
theorem natI_snoc (l : List Nat) (k : Nat) : ints (natInts l) ++ [.int .i64 (k : Nat)] = ints (natInts (l ++ [k])) := by simp [ints, natInts]
/-- the length of a slice -/
def lenV : Value → Nat
  | .slice _ n _ => n
  | _ => 0
/-- what Path gives -/
def PathP (L : List (Nat × Nat)) (n : Nat) (a b : Int) (l : List Nat) (c : Bool) : Prop :=
  (c = false ∧ l = [] ∧ ¬ ∃ i j k : Nat, a = (i : Int) ∧ b = (j : Int) ∧ i < n ∧ j < n ∧ Wk L j k i) ∨
  (c = true ∧ ∃ i j d : Nat, a = (i : Int) ∧ b = (j : Int) ∧ i < n ∧ j < n ∧ isDist L j i d ∧ l = gp L j d i)
def PathR (w0 : World) (L : List (Nat × Nat)) (n : Nat) (a b : Int) (e : Ending) (w' : World) : Prop :=
  ∃ (v : Value) (c : Bool) (l : List Nat), e = .returned (.tuple #[v, .bool c]) ∧ PathP L n a b l c ∧ l.length ≤ n ∧ St w0 w' [.own v 3 1 l.length (ints (natInts l))] fun _ _ => True
set_option maxHeartbeats 2000000 in
theorem opath_any {w0 : World} {D : Nat → Prop} {p : Value} {n : Nat} {L : List (Nat × Nat)} (h : IsOrd w0 D p n L) (hL : Inr n L) (hA : Acyc L) (hl : L.length ≤ 1000000) (hn : n ≤ 256) (a b : Int) :
    Calls Tryd.prog 27 #[p, .int .i64 a, .int .i64 b] w0 (PathR w0 L n a b) := by
  obtain ⟨q, gp_, av, bv, sv, xa, xb, rfl, h⟩ := h
  obtain ⟨K, ko, hS⟩ : ∃ K : (Nat → Prop) → World → Prop, (∀ D w, K D w → OrdX q gp_ av bv sv xa xb n L D w) ∧ St w0 w0 [] K := ⟨_, fun _ _ h => h, St.start stable_ordX h⟩
  clear h
  have HL := Lib.hid hL
  have HA := Lib.hid hA
  clear hL hA
  by_cases hin : 0 ≤ a ∧ a < (n : Int)
  · obtain ⟨i, rfl⟩ : ∃ i : Nat, a = (i : Int) := ⟨a.toNat, by omega⟩
    have HDA := Lib.hid (decide_eq_true hin)
    by_cases hjn : 0 ≤ b ∧ b < (n : Int)
    · obtain ⟨j, rfl⟩ : ∃ j : Nat, b = (j : Int) := ⟨b.toNat, by omega⟩
      have HDB := Lib.hid (decide_eq_true hjn)
      have hi : i < n := by omega
      have hj : j < n := by omega
      have HF0 := Lib.hid (FarOK.start (L := L) hj)
      have HFl : Hid (((List.replicate n 0).set j 1).length = n) := Lib.hid (by simp)
      have HFi : Hid (((List.replicate n 0).set j 1).getD i 0 = 0 ∨ ((List.replicate n 0).set j 1).getD i 0 = 1) := Lib.hid (by
        by_cases e : j = i
        · subst e; right; rw [List.getD_eq_getElem?_getD, List.getElem?_set_self (by simpa using hj)]; rfl
        · left; rw [List.getD_eq_getElem?_getD, List.getElem?_set_ne e, List.getElem?_replicate, if_pos hi]; rfl)
      have HST : Hid ((ints (natInts (List.replicate n 0))).set j (.int .i64 1) = ints (natInts ((List.replicate n 0).set j 1))) := Lib.hid (natI_set _ _ 1)
      clear hin hjn
      go_enter Tryd.func27, Tryd.ntmps27
      go_wp2_with (first
        | ((with_reducible show wpList _ _ _ (⟨_, .binOp _ _ _ _ _, _, _, _, _⟩ :: _) _ _); (first | ((with_reducible show wpList _ _ _ (⟨_, .binOp .lss _ _ _ _, _, _, _, _⟩ :: _) _ _); refine st_lss rfl _ _ _ _ rfl _ _ _ rfl rfl (fun h_ => ?_) (fun h_ => ?_)) | ((with_reducible show wpList _ _ _ (⟨_, .binOp .leq _ _ _ _, _, _, _, _⟩ :: _) _ _); refine st_leq rfl _ _ _ _ rfl _ _ _ rfl rfl (fun h_ => ?_) (fun h_ => ?_)) | ((with_reducible show wpList _ _ _ (⟨_, .binOp .gtr _ _ _ _, _, _, _, _⟩ :: _) _ _); refine st_gtr rfl _ _ _ _ rfl _ _ _ rfl rfl (fun h_ => ?_) (fun h_ => ?_)) | ((with_reducible show wpList _ _ _ (⟨_, .binOp .geq _ _ _ _, _, _, _, _⟩ :: _) _ _); refine st_geq rfl _ _ _ _ rfl _ _ _ rfl rfl (fun h_ => ?_) (fun h_ => ?_)) | ((with_reducible show wpList _ _ _ (⟨_, .binOp .eql _ _ _ _, _, _, _, _⟩ :: _) _ _); refine st_eql rfl _ _ _ _ rfl _ _ _ rfl rfl (fun h_ => ?_) (fun h_ => ?_)) | ((with_reducible show wpList _ _ _ (⟨_, .binOp .neq _ _ _ _, _, _, _, _⟩ :: _) _ _); refine st_neq rfl _ _ _ _ rfl _ _ _ rfl rfl (fun h_ => ?_) (fun h_ => ?_))) <;> go_prune)
        | (go_at_call 64; refine (oin_any (ko _ _ hS.ro).ord _).mono ?_; (first | rw [HDA.out] | rw [HDB.out]); rintro r_ w_ ⟨_, rfl, rfl, hb_⟩; replace hS := hS.ext hb_; clear hb_)
        | ((with_reducible show wpList _ _ _ (⟨some 29, _, _, _, _, _⟩ :: _) _ _); refine st_kcell hS rfl _ _ rfl _ rfl _ (fun D w h => (ko D w h).1.cell 0 rfl) (by kernel_rfl) ?_)
        | ((with_reducible show wpList _ _ _ (⟨_, .makeSlice _ _ _, _, _, _, _⟩ :: _) _ _); refine st_mk hS rfl _ _ _ rfl ty_ints .i64 .i64 n #[.int .i64 0] rfl rfl (by kernel_rfl) (by omega) (by omega) ?_; clear hS; intro g3 w_ hS)
        | ((with_reducible show wpList _ _ _ (⟨_, .store 3 _ _, _, _, _, _⟩ :: _) _ _); refine st_ostore hS 0 rfl _ _ _ rfl _ (j) (.int .i64 1) rfl (rfl) rfl (by omega) rfl rfl (by kernel_rfl) ?_; clear hS; intro w_ hS; (try simp only [Act.put, Act.eval, List.set_cons_zero, List.set_cons_succ, List.setIfInBounds_toArray, Array.getD_eq_getD_getElem?, List.getElem?_toArray, List.getElem?_cons_succ, List.getElem?_cons_zero, Option.getD_some, Value.cells] at hS)))
      rw [natI_rep, HST.out] at hS
      go_loopw [9] (fun v wr => ∃ (m : Nat) (far : List Nat), v = .int .i64 (m : Nat) ∧ 1 ≤ m ∧ m ≤ n + 1 ∧ Hid (FarOK L j m far) ∧ Hid (far.length = n) ∧ Hid (far.getD i 0 = 0 ∨ far.getD i 0 = m) ∧ St w0 wr [.own (.slice (some ⟨g3, 0, none⟩) n n) 3 1 n (ints (natInts far))] K) (fun v _ => n + 1 - (intOf v).toNat)
      case atStart => exact ⟨1, _, rfl, by omega, by omega, HF0, HFl, HFi, hS⟩
      case round =>
        clear hS HF0 HFl HFi HST
        obtain ⟨m, far, rfl, hm1, hm2, HF, HFl, HFi, hS⟩ := hrel
        have HNi := Lib.hid (natI_at (l := far) (k := i) (by rw [HFl.out]; exact hi))
        by_cases hz : far.getD i 0 = 0
        · rw [hz] at HNi
          by_cases hmn : m ≤ n
          · have HT0 := Lib.hid (FarTo.zero HF.out)
            go_wp2_with (first
              | ((with_reducible show wpList _ _ _ (⟨_, .binOp _ _ _ _ _, _, _, _, _⟩ :: _) _ _); (first | ((with_reducible show wpList _ _ _ (⟨_, .binOp .lss _ _ _ _, _, _, _, _⟩ :: _) _ _); refine st_lss rfl _ _ _ _ rfl _ _ _ rfl rfl (fun h_ => ?_) (fun h_ => ?_)) | ((with_reducible show wpList _ _ _ (⟨_, .binOp .leq _ _ _ _, _, _, _, _⟩ :: _) _ _); refine st_leq rfl _ _ _ _ rfl _ _ _ rfl rfl (fun h_ => ?_) (fun h_ => ?_)) | ((with_reducible show wpList _ _ _ (⟨_, .binOp .gtr _ _ _ _, _, _, _, _⟩ :: _) _ _); refine st_gtr rfl _ _ _ _ rfl _ _ _ rfl rfl (fun h_ => ?_) (fun h_ => ?_)) | ((with_reducible show wpList _ _ _ (⟨_, .binOp .geq _ _ _ _, _, _, _, _⟩ :: _) _ _); refine st_geq rfl _ _ _ _ rfl _ _ _ rfl rfl (fun h_ => ?_) (fun h_ => ?_)) | ((with_reducible show wpList _ _ _ (⟨_, .binOp .eql _ _ _ _, _, _, _, _⟩ :: _) _ _); refine st_eql rfl _ _ _ _ rfl _ _ _ rfl rfl (fun h_ => ?_) (fun h_ => ?_)) | ((with_reducible show wpList _ _ _ (⟨_, .binOp .neq _ _ _ _, _, _, _, _⟩ :: _) _ _); refine st_neq rfl _ _ _ _ rfl _ _ _ rfl rfl (fun h_ => ?_) (fun h_ => ?_))) <;> go_prune)
              | ((with_reducible show wpList _ _ _ (⟨some 38, _, _, _, _, _⟩ :: _) _ _); refine st_kcell hS rfl _ _ rfl _ rfl _ (fun D w h => (ko D w h).1.cell 0 rfl) (by kernel_rfl) ?_)
              | ((with_reducible show wpList _ _ _ (⟨some 52, _, _, _, _, _⟩ :: _) _ _); refine st_kcell hS rfl _ _ rfl _ rfl _ (fun D w h => (ko D w h).1.cell 1 rfl) (by kernel_rfl) ?_)
              | ((with_reducible show wpList _ _ _ (⟨some 44, _, _, _, _, _⟩ :: _) _ _); refine BigFrame.wpList_want rfl fun _ hK => opw_cell rfl rfl (by kernel_rfl) (own_cell (hS.own 0 rfl) _ _ (HNi.out)) (hK _ _ ?_)))
            have HZ := Lib.hid hz
            clear hz HNi HFi
            go_loopw [54] (fun v wr => ∃ (t : Nat) (far : List Nat), v = .int .i64 (t : Nat) ∧ t ≤ L.length ∧ Hid (FarTo L j m t far) ∧ Hid (far.length = n) ∧ Hid (far.getD i 0 = 0 ∨ far.getD i 0 = m + 1) ∧ St w0 wr [.own (.slice (some ⟨g3, 0, none⟩) n n) 3 1 n (ints (natInts far))] K) (fun v _ => L.length - (intOf v).toNat)
            case atStart => exact ⟨0, _, rfl, by omega, HT0, HFl, Lib.hid (.inl HZ.out), hS⟩
            case round =>
              clear hS HF HFl HZ HT0
              clear far
              obtain ⟨t, far, rfl, ht, HF, HFl, HFi, hS⟩ := hrel
              have kp : ∀ D w, K D w → Sl w D 2 (.slice (some ⟨gp_, 0, none⟩) L.length L.length) L.length (pcells L) := fun D w h => (ko D w h).2.1
              by_cases htl : t < L.length
              · obtain ⟨f1, f2⟩ := pcells_at L t htl
                have HG := getD_at (0, 0) htl
                have hx := HL.out _ (List.mem_of_getElem? HG)
                have HSP : Hid (FarTo L j m (t + 1) (farStep m far (L.getD t (0, 0))) ∧ ((farStep m far (L.getD t (0, 0))).getD i 0 = 0 ∨ (farStep m far (L.getD t (0, 0))).getD i 0 = m + 1) ∧ (farStep m far (L.getD t (0, 0))).length = n) := Lib.hid ⟨FarTo.step (by omega) HG (by rw [HFl.out]; exact hx.1) (by rw [HFl.out]; exact hx.2) HF.out, by
                  rcases farStep_at m far (L.getD t (0, 0)) i (by rw [HFl.out]; exact hi) with h | h
                  · rw [h]; exact HFi.out
                  · exact .inr h, by rw [farStep_len]; exact HFl.out⟩
                clear HG
                generalize L.getD t (0, 0) = x at *
                obtain ⟨xa, xb⟩ := x
                dsimp only at f1 f2 hx
                obtain ⟨hxa, hxb⟩ := hx
                have HNa := Lib.hid (natI_at (l := far) (k := xa) (by rw [HFl.out]; exact hxa))
                have HNb := Lib.hid (natI_at (l := far) (k := xb) (by rw [HFl.out]; exact hxb))
                by_cases hc : far.getD xb 0 = m ∧ far.getD xa 0 = 0
                · have HE : Hid (farStep m far (xa, xb) = far.set xa (m + 1)) := Lib.hid (if_pos hc)
                  have HS2 := Lib.hid (natI_set far xa (m + 1))
                  obtain ⟨hc1, hc2⟩ := hc
                  rw [hc1] at HNb
                  rw [hc2] at HNa
                  rw [HE.out] at HSP
                  clear hc1 hc2
                  go_wp2_with (first
                    | ((with_reducible show wpList _ _ _ (⟨_, .binOp _ _ _ _ _, _, _, _, _⟩ :: _) _ _); (first | ((with_reducible show wpList _ _ _ (⟨_, .binOp .lss _ _ _ _, _, _, _, _⟩ :: _) _ _); refine st_lss rfl _ _ _ _ rfl _ _ _ rfl rfl (fun h_ => ?_) (fun h_ => ?_)) | ((with_reducible show wpList _ _ _ (⟨_, .binOp .leq _ _ _ _, _, _, _, _⟩ :: _) _ _); refine st_leq rfl _ _ _ _ rfl _ _ _ rfl rfl (fun h_ => ?_) (fun h_ => ?_)) | ((with_reducible show wpList _ _ _ (⟨_, .binOp .gtr _ _ _ _, _, _, _, _⟩ :: _) _ _); refine st_gtr rfl _ _ _ _ rfl _ _ _ rfl rfl (fun h_ => ?_) (fun h_ => ?_)) | ((with_reducible show wpList _ _ _ (⟨_, .binOp .geq _ _ _ _, _, _, _, _⟩ :: _) _ _); refine st_geq rfl _ _ _ _ rfl _ _ _ rfl rfl (fun h_ => ?_) (fun h_ => ?_)) | ((with_reducible show wpList _ _ _ (⟨_, .binOp .eql _ _ _ _, _, _, _, _⟩ :: _) _ _); refine st_eql rfl _ _ _ _ rfl _ _ _ rfl rfl (fun h_ => ?_) (fun h_ => ?_)) | ((with_reducible show wpList _ _ _ (⟨_, .binOp .neq _ _ _ _, _, _, _, _⟩ :: _) _ _); refine st_neq rfl _ _ _ _ rfl _ _ _ rfl rfl (fun h_ => ?_) (fun h_ => ?_))) <;> go_prune)
                    | ((with_reducible show wpList _ _ _ (⟨_, .indexAddr _ _ _, _, _, _, _⟩ :: _) _ _); refine st_iaddr2 hS rfl _ _ _ rfl _ rfl rfl (by assumption) Tryd.underlying25 (by kernel_rfl) (by first | assumption | omega) _ _ (by assumption) (by assumption) ?_; intro b_ j_ hc0_ hc1_)
                    | ((with_reducible show wpList _ _ _ (⟨some 11, _, _, _, _, _⟩ :: _) _ _); refine st_alloc hS rfl _ rfl (by kernel_rfl) ?_; clear hS; intro g4 w_ hS; (try simp only [Act.put, Act.eval, List.set_cons_zero, List.set_cons_succ, List.setIfInBounds_toArray, Array.getD_eq_getD_getElem?, List.getElem?_toArray, List.getElem?_cons_succ, List.getElem?_cons_zero, Option.getD_some, Value.cells] at hS))
                    | ((with_reducible show wpList _ _ _ (⟨_, .store 3 _ _, _, _, _, _⟩ :: _) _ _); refine st_ostore hS 1 rfl _ _ _ rfl _ (xa) (.int .i64 ((m + 1 : Nat) : Int)) rfl (rfl) rfl (by omega) rfl rfl (by kernel_rfl) ?_; clear hS; intro w_ hS; (try simp only [Act.put, Act.eval, List.set_cons_zero, List.set_cons_succ, List.setIfInBounds_toArray, Array.getD_eq_getD_getElem?, List.getElem?_toArray, List.getElem?_cons_succ, List.getElem?_cons_zero, Option.getD_some, Value.cells] at hS))
                    | ((with_reducible show wpList _ _ _ (⟨some 62, _, _, _, _, _⟩ :: _) _ _); refine BigFrame.wpList_want rfl fun _ hK => opw_cell rfl rfl (by kernel_rfl) (own_cell (hS.own 1 rfl) _ _ (HNb.out)) (hK _ _ ?_))
                    | ((with_reducible show wpList _ _ _ (⟨some 70, _, _, _, _, _⟩ :: _) _ _); refine BigFrame.wpList_want rfl fun _ hK => opw_cell rfl rfl (by kernel_rfl) (own_cell (hS.own 1 rfl) _ _ (HNa.out)) (hK _ _ ?_))
                    | ((with_reducible show wpList _ _ _ (⟨_, .store _ _ _, _, _, _, _⟩ :: _) _ _); first | (refine st_store hS 0 rfl _ _ _ rfl _ _ rfl rfl _ _ rfl (by kernel_rfl) (by kernel_rfl) (by kernel_rfl) ?_; clear hS; intro w_ hS; (try simp only [Act.put, Act.eval, List.set_cons_zero, List.set_cons_succ, List.setIfInBounds_toArray, Array.getD_eq_getD_getElem?, List.getElem?_toArray, List.getElem?_cons_succ, List.getElem?_cons_zero, Option.getD_some, Value.cells] at hS)) | (refine st_store hS 1 rfl _ _ _ rfl _ _ rfl rfl _ _ rfl (by kernel_rfl) (by kernel_rfl) (by kernel_rfl) ?_; clear hS; intro w_ hS; (try simp only [Act.put, Act.eval, List.set_cons_zero, List.set_cons_succ, List.setIfInBounds_toArray, Array.getD_eq_getD_getElem?, List.getElem?_toArray, List.getElem?_cons_succ, List.getElem?_cons_zero, Option.getD_some, Value.cells] at hS)) | (refine st_store hS 2 rfl _ _ _ rfl _ _ rfl rfl _ _ rfl (by kernel_rfl) (by kernel_rfl) (by kernel_rfl) ?_; clear hS; intro w_ hS; (try simp only [Act.put, Act.eval, List.set_cons_zero, List.set_cons_succ, List.setIfInBounds_toArray, Array.getD_eq_getD_getElem?, List.getElem?_toArray, List.getElem?_cons_succ, List.getElem?_cons_zero, Option.getD_some, Value.cells] at hS)) | (refine st_store hS 3 rfl _ _ _ rfl _ _ rfl rfl _ _ rfl (by kernel_rfl) (by kernel_rfl) (by kernel_rfl) ?_; clear hS; intro w_ hS; (try simp only [Act.put, Act.eval, List.set_cons_zero, List.set_cons_succ, List.setIfInBounds_toArray, Array.getD_eq_getD_getElem?, List.getElem?_toArray, List.getElem?_cons_succ, List.getElem?_cons_zero, Option.getD_some, Value.cells] at hS)) | (refine st_cstore hS 0 rfl _ _ _ rfl _ _ _ rfl rfl rfl (by first | (simp; done) | (simp; omega) | exact of_decide_eq_true (by kernel_rfl)) rfl (by first | rfl | assumption) (by kernel_rfl) ?_; clear hS; intro w_ hS; (try simp only [Act.put, Act.eval, List.set_cons_zero, List.set_cons_succ, List.setIfInBounds_toArray, Array.getD_eq_getD_getElem?, List.getElem?_toArray, List.getElem?_cons_succ, List.getElem?_cons_zero, Option.getD_some, Value.cells] at hS)) | (refine st_cstore hS 1 rfl _ _ _ rfl _ _ _ rfl rfl rfl (by first | (simp; done) | (simp; omega) | exact of_decide_eq_true (by kernel_rfl)) rfl (by first | rfl | assumption) (by kernel_rfl) ?_; clear hS; intro w_ hS; (try simp only [Act.put, Act.eval, List.set_cons_zero, List.set_cons_succ, List.setIfInBounds_toArray, Array.getD_eq_getD_getElem?, List.getElem?_toArray, List.getElem?_cons_succ, List.getElem?_cons_zero, Option.getD_some, Value.cells] at hS)) | (refine st_cstore hS 2 rfl _ _ _ rfl _ _ _ rfl rfl rfl (by first | (simp; done) | (simp; omega) | exact of_decide_eq_true (by kernel_rfl)) rfl (by first | rfl | assumption) (by kernel_rfl) ?_; clear hS; intro w_ hS; (try simp only [Act.put, Act.eval, List.set_cons_zero, List.set_cons_succ, List.setIfInBounds_toArray, Array.getD_eq_getD_getElem?, List.getElem?_toArray, List.getElem?_cons_succ, List.getElem?_cons_zero, Option.getD_some, Value.cells] at hS)) | (refine st_cstore hS 3 rfl _ _ _ rfl _ _ _ rfl rfl rfl (by first | (simp; done) | (simp; omega) | exact of_decide_eq_true (by kernel_rfl)) rfl (by first | rfl | assumption) (by kernel_rfl) ?_; clear hS; intro w_ hS; (try simp only [Act.put, Act.eval, List.set_cons_zero, List.set_cons_succ, List.setIfInBounds_toArray, Array.getD_eq_getD_getElem?, List.getElem?_toArray, List.getElem?_cons_succ, List.getElem?_cons_zero, Option.getD_some, Value.cells] at hS)))
                    | ((with_reducible show wpList _ _ _ (⟨_, .load _ _, _, _, _, _⟩ :: _) _ _); first | (refine st_cell hS 0 rfl _ _ rfl _ _ rfl _ _ rfl (by decide +kernel) _ (by first | assumption | rfl) ?_) | (refine st_cell hS 1 rfl _ _ rfl _ _ rfl _ _ rfl (by decide +kernel) _ (by first | assumption | rfl) ?_) | (refine st_cell hS 2 rfl _ _ rfl _ _ rfl _ _ rfl (by decide +kernel) _ (by first | assumption | rfl) ?_) | (refine st_cell hS 3 rfl _ _ rfl _ _ rfl _ _ rfl (by decide +kernel) _ (by first | assumption | rfl) ?_) | (refine st_cell hS 4 rfl _ _ rfl _ _ rfl _ _ rfl (by decide +kernel) _ (by first | assumption | rfl) ?_) | (refine st_cell hS 5 rfl _ _ rfl _ _ rfl _ _ rfl (by decide +kernel) _ (by first | assumption | rfl) ?_) | (refine st_cell hS 6 rfl _ _ rfl _ _ rfl _ _ rfl (by decide +kernel) _ (by first | assumption | rfl) ?_) | (refine st_cell hS 7 rfl _ _ rfl _ _ rfl _ _ rfl (by decide +kernel) _ (by first | assumption | rfl) ?_)))
                  rw [HS2.out] at hS
                  exact ⟨⟨t + 1, _, by go_num, htl, Lib.hid HSP.out.1, Lib.hid HSP.out.2.2, Lib.hid HSP.out.2.1, hS.sub (List.sublist_cons_self _ _)⟩, by simp [intOf]; omega⟩
                · have HE : Hid (farStep m far (xa, xb) = far) := Lib.hid (if_neg hc)
                  rw [HE.out] at HSP
                  generalize far.getD xa 0 = ua at *
                  generalize far.getD xb 0 = ub at *
                  by_cases hc1 : ub = m
                  · have hc2 : ¬ ua = 0 := fun h => hc ⟨hc1, h⟩
                    clear hc
                    go_wp2_with (first
                      | ((with_reducible show wpList _ _ _ (⟨_, .binOp _ _ _ _ _, _, _, _, _⟩ :: _) _ _); (first | ((with_reducible show wpList _ _ _ (⟨_, .binOp .lss _ _ _ _, _, _, _, _⟩ :: _) _ _); refine st_lss rfl _ _ _ _ rfl _ _ _ rfl rfl (fun h_ => ?_) (fun h_ => ?_)) | ((with_reducible show wpList _ _ _ (⟨_, .binOp .leq _ _ _ _, _, _, _, _⟩ :: _) _ _); refine st_leq rfl _ _ _ _ rfl _ _ _ rfl rfl (fun h_ => ?_) (fun h_ => ?_)) | ((with_reducible show wpList _ _ _ (⟨_, .binOp .gtr _ _ _ _, _, _, _, _⟩ :: _) _ _); refine st_gtr rfl _ _ _ _ rfl _ _ _ rfl rfl (fun h_ => ?_) (fun h_ => ?_)) | ((with_reducible show wpList _ _ _ (⟨_, .binOp .geq _ _ _ _, _, _, _, _⟩ :: _) _ _); refine st_geq rfl _ _ _ _ rfl _ _ _ rfl rfl (fun h_ => ?_) (fun h_ => ?_)) | ((with_reducible show wpList _ _ _ (⟨_, .binOp .eql _ _ _ _, _, _, _, _⟩ :: _) _ _); refine st_eql rfl _ _ _ _ rfl _ _ _ rfl rfl (fun h_ => ?_) (fun h_ => ?_)) | ((with_reducible show wpList _ _ _ (⟨_, .binOp .neq _ _ _ _, _, _, _, _⟩ :: _) _ _); refine st_neq rfl _ _ _ _ rfl _ _ _ rfl rfl (fun h_ => ?_) (fun h_ => ?_))) <;> go_prune)
                      | ((with_reducible show wpList _ _ _ (⟨_, .indexAddr _ _ _, _, _, _, _⟩ :: _) _ _); refine st_iaddr2 hS rfl _ _ _ rfl _ rfl rfl (by assumption) Tryd.underlying25 (by kernel_rfl) (by first | assumption | omega) _ _ (by assumption) (by assumption) ?_; intro b_ j_ hc0_ hc1_)
                      | ((with_reducible show wpList _ _ _ (⟨some 11, _, _, _, _, _⟩ :: _) _ _); refine st_alloc hS rfl _ rfl (by kernel_rfl) ?_; clear hS; intro g4 w_ hS; (try simp only [Act.put, Act.eval, List.set_cons_zero, List.set_cons_succ, List.setIfInBounds_toArray, Array.getD_eq_getD_getElem?, List.getElem?_toArray, List.getElem?_cons_succ, List.getElem?_cons_zero, Option.getD_some, Value.cells] at hS))
                      | ((with_reducible show wpList _ _ _ (⟨some 62, _, _, _, _, _⟩ :: _) _ _); refine BigFrame.wpList_want rfl fun _ hK => opw_cell rfl rfl (by kernel_rfl) (own_cell (hS.own 1 rfl) _ _ (HNb.out)) (hK _ _ ?_))
                      | ((with_reducible show wpList _ _ _ (⟨some 70, _, _, _, _, _⟩ :: _) _ _); refine BigFrame.wpList_want rfl fun _ hK => opw_cell rfl rfl (by kernel_rfl) (own_cell (hS.own 1 rfl) _ _ (HNa.out)) (hK _ _ ?_))
                      | ((with_reducible show wpList _ _ _ (⟨_, .store _ _ _, _, _, _, _⟩ :: _) _ _); first | (refine st_store hS 0 rfl _ _ _ rfl _ _ rfl rfl _ _ rfl (by kernel_rfl) (by kernel_rfl) (by kernel_rfl) ?_; clear hS; intro w_ hS; (try simp only [Act.put, Act.eval, List.set_cons_zero, List.set_cons_succ, List.setIfInBounds_toArray, Array.getD_eq_getD_getElem?, List.getElem?_toArray, List.getElem?_cons_succ, List.getElem?_cons_zero, Option.getD_some, Value.cells] at hS)) | (refine st_store hS 1 rfl _ _ _ rfl _ _ rfl rfl _ _ rfl (by kernel_rfl) (by kernel_rfl) (by kernel_rfl) ?_; clear hS; intro w_ hS; (try simp only [Act.put, Act.eval, List.set_cons_zero, List.set_cons_succ, List.setIfInBounds_toArray, Array.getD_eq_getD_getElem?, List.getElem?_toArray, List.getElem?_cons_succ, List.getElem?_cons_zero, Option.getD_some, Value.cells] at hS)) | (refine st_store hS 2 rfl _ _ _ rfl _ _ rfl rfl _ _ rfl (by kernel_rfl) (by kernel_rfl) (by kernel_rfl) ?_; clear hS; intro w_ hS; (try simp only [Act.put, Act.eval, List.set_cons_zero, List.set_cons_succ, List.setIfInBounds_toArray, Array.getD_eq_getD_getElem?, List.getElem?_toArray, List.getElem?_cons_succ, List.getElem?_cons_zero, Option.getD_some, Value.cells] at hS)) | (refine st_store hS 3 rfl _ _ _ rfl _ _ rfl rfl _ _ rfl (by kernel_rfl) (by kernel_rfl) (by kernel_rfl) ?_; clear hS; intro w_ hS; (try simp only [Act.put, Act.eval, List.set_cons_zero, List.set_cons_succ, List.setIfInBounds_toArray, Array.getD_eq_getD_getElem?, List.getElem?_toArray, List.getElem?_cons_succ, List.getElem?_cons_zero, Option.getD_some, Value.cells] at hS)) | (refine st_cstore hS 0 rfl _ _ _ rfl _ _ _ rfl rfl rfl (by first | (simp; done) | (simp; omega) | exact of_decide_eq_true (by kernel_rfl)) rfl (by first | rfl | assumption) (by kernel_rfl) ?_; clear hS; intro w_ hS; (try simp only [Act.put, Act.eval, List.set_cons_zero, List.set_cons_succ, List.setIfInBounds_toArray, Array.getD_eq_getD_getElem?, List.getElem?_toArray, List.getElem?_cons_succ, List.getElem?_cons_zero, Option.getD_some, Value.cells] at hS)) | (refine st_cstore hS 1 rfl _ _ _ rfl _ _ _ rfl rfl rfl (by first | (simp; done) | (simp; omega) | exact of_decide_eq_true (by kernel_rfl)) rfl (by first | rfl | assumption) (by kernel_rfl) ?_; clear hS; intro w_ hS; (try simp only [Act.put, Act.eval, List.set_cons_zero, List.set_cons_succ, List.setIfInBounds_toArray, Array.getD_eq_getD_getElem?, List.getElem?_toArray, List.getElem?_cons_succ, List.getElem?_cons_zero, Option.getD_some, Value.cells] at hS)) | (refine st_cstore hS 2 rfl _ _ _ rfl _ _ _ rfl rfl rfl (by first | (simp; done) | (simp; omega) | exact of_decide_eq_true (by kernel_rfl)) rfl (by first | rfl | assumption) (by kernel_rfl) ?_; clear hS; intro w_ hS; (try simp only [Act.put, Act.eval, List.set_cons_zero, List.set_cons_succ, List.setIfInBounds_toArray, Array.getD_eq_getD_getElem?, List.getElem?_toArray, List.getElem?_cons_succ, List.getElem?_cons_zero, Option.getD_some, Value.cells] at hS)) | (refine st_cstore hS 3 rfl _ _ _ rfl _ _ _ rfl rfl rfl (by first | (simp; done) | (simp; omega) | exact of_decide_eq_true (by kernel_rfl)) rfl (by first | rfl | assumption) (by kernel_rfl) ?_; clear hS; intro w_ hS; (try simp only [Act.put, Act.eval, List.set_cons_zero, List.set_cons_succ, List.setIfInBounds_toArray, Array.getD_eq_getD_getElem?, List.getElem?_toArray, List.getElem?_cons_succ, List.getElem?_cons_zero, Option.getD_some, Value.cells] at hS)))
                      | ((with_reducible show wpList _ _ _ (⟨_, .load _ _, _, _, _, _⟩ :: _) _ _); first | (refine st_cell hS 0 rfl _ _ rfl _ _ rfl _ _ rfl (by decide +kernel) _ (by first | assumption | rfl) ?_) | (refine st_cell hS 1 rfl _ _ rfl _ _ rfl _ _ rfl (by decide +kernel) _ (by first | assumption | rfl) ?_) | (refine st_cell hS 2 rfl _ _ rfl _ _ rfl _ _ rfl (by decide +kernel) _ (by first | assumption | rfl) ?_) | (refine st_cell hS 3 rfl _ _ rfl _ _ rfl _ _ rfl (by decide +kernel) _ (by first | assumption | rfl) ?_) | (refine st_cell hS 4 rfl _ _ rfl _ _ rfl _ _ rfl (by decide +kernel) _ (by first | assumption | rfl) ?_) | (refine st_cell hS 5 rfl _ _ rfl _ _ rfl _ _ rfl (by decide +kernel) _ (by first | assumption | rfl) ?_) | (refine st_cell hS 6 rfl _ _ rfl _ _ rfl _ _ rfl (by decide +kernel) _ (by first | assumption | rfl) ?_) | (refine st_cell hS 7 rfl _ _ rfl _ _ rfl _ _ rfl (by decide +kernel) _ (by first | assumption | rfl) ?_)))
                    exact ⟨⟨t + 1, _, by go_num, htl, Lib.hid HSP.out.1, Lib.hid HSP.out.2.2, Lib.hid HSP.out.2.1, hS.sub (List.sublist_cons_self _ _)⟩, by simp [intOf]; omega⟩
                  · clear hc
                    go_wp2_with (first
                      | ((with_reducible show wpList _ _ _ (⟨_, .binOp _ _ _ _ _, _, _, _, _⟩ :: _) _ _); (first | ((with_reducible show wpList _ _ _ (⟨_, .binOp .lss _ _ _ _, _, _, _, _⟩ :: _) _ _); refine st_lss rfl _ _ _ _ rfl _ _ _ rfl rfl (fun h_ => ?_) (fun h_ => ?_)) | ((with_reducible show wpList _ _ _ (⟨_, .binOp .leq _ _ _ _, _, _, _, _⟩ :: _) _ _); refine st_leq rfl _ _ _ _ rfl _ _ _ rfl rfl (fun h_ => ?_) (fun h_ => ?_)) | ((with_reducible show wpList _ _ _ (⟨_, .binOp .gtr _ _ _ _, _, _, _, _⟩ :: _) _ _); refine st_gtr rfl _ _ _ _ rfl _ _ _ rfl rfl (fun h_ => ?_) (fun h_ => ?_)) | ((with_reducible show wpList _ _ _ (⟨_, .binOp .geq _ _ _ _, _, _, _, _⟩ :: _) _ _); refine st_geq rfl _ _ _ _ rfl _ _ _ rfl rfl (fun h_ => ?_) (fun h_ => ?_)) | ((with_reducible show wpList _ _ _ (⟨_, .binOp .eql _ _ _ _, _, _, _, _⟩ :: _) _ _); refine st_eql rfl _ _ _ _ rfl _ _ _ rfl rfl (fun h_ => ?_) (fun h_ => ?_)) | ((with_reducible show wpList _ _ _ (⟨_, .binOp .neq _ _ _ _, _, _, _, _⟩ :: _) _ _); refine st_neq rfl _ _ _ _ rfl _ _ _ rfl rfl (fun h_ => ?_) (fun h_ => ?_))) <;> go_prune)
                      | ((with_reducible show wpList _ _ _ (⟨_, .indexAddr _ _ _, _, _, _, _⟩ :: _) _ _); refine st_iaddr2 hS rfl _ _ _ rfl _ rfl rfl (by assumption) Tryd.underlying25 (by kernel_rfl) (by first | assumption | omega) _ _ (by assumption) (by assumption) ?_; intro b_ j_ hc0_ hc1_)
                      | ((with_reducible show wpList _ _ _ (⟨some 11, _, _, _, _, _⟩ :: _) _ _); refine st_alloc hS rfl _ rfl (by kernel_rfl) ?_; clear hS; intro g4 w_ hS; (try simp only [Act.put, Act.eval, List.set_cons_zero, List.set_cons_succ, List.setIfInBounds_toArray, Array.getD_eq_getD_getElem?, List.getElem?_toArray, List.getElem?_cons_succ, List.getElem?_cons_zero, Option.getD_some, Value.cells] at hS))
                      | ((with_reducible show wpList _ _ _ (⟨some 62, _, _, _, _, _⟩ :: _) _ _); refine BigFrame.wpList_want rfl fun _ hK => opw_cell rfl rfl (by kernel_rfl) (own_cell (hS.own 1 rfl) _ _ (HNb.out)) (hK _ _ ?_))
                      | ((with_reducible show wpList _ _ _ (⟨_, .store _ _ _, _, _, _, _⟩ :: _) _ _); first | (refine st_store hS 0 rfl _ _ _ rfl _ _ rfl rfl _ _ rfl (by kernel_rfl) (by kernel_rfl) (by kernel_rfl) ?_; clear hS; intro w_ hS; (try simp only [Act.put, Act.eval, List.set_cons_zero, List.set_cons_succ, List.setIfInBounds_toArray, Array.getD_eq_getD_getElem?, List.getElem?_toArray, List.getElem?_cons_succ, List.getElem?_cons_zero, Option.getD_some, Value.cells] at hS)) | (refine st_store hS 1 rfl _ _ _ rfl _ _ rfl rfl _ _ rfl (by kernel_rfl) (by kernel_rfl) (by kernel_rfl) ?_; clear hS; intro w_ hS; (try simp only [Act.put, Act.eval, List.set_cons_zero, List.set_cons_succ, List.setIfInBounds_toArray, Array.getD_eq_getD_getElem?, List.getElem?_toArray, List.getElem?_cons_succ, List.getElem?_cons_zero, Option.getD_some, Value.cells] at hS)) | (refine st_store hS 2 rfl _ _ _ rfl _ _ rfl rfl _ _ rfl (by kernel_rfl) (by kernel_rfl) (by kernel_rfl) ?_; clear hS; intro w_ hS; (try simp only [Act.put, Act.eval, List.set_cons_zero, List.set_cons_succ, List.setIfInBounds_toArray, Array.getD_eq_getD_getElem?, List.getElem?_toArray, List.getElem?_cons_succ, List.getElem?_cons_zero, Option.getD_some, Value.cells] at hS)) | (refine st_store hS 3 rfl _ _ _ rfl _ _ rfl rfl _ _ rfl (by kernel_rfl) (by kernel_rfl) (by kernel_rfl) ?_; clear hS; intro w_ hS; (try simp only [Act.put, Act.eval, List.set_cons_zero, List.set_cons_succ, List.setIfInBounds_toArray, Array.getD_eq_getD_getElem?, List.getElem?_toArray, List.getElem?_cons_succ, List.getElem?_cons_zero, Option.getD_some, Value.cells] at hS)) | (refine st_cstore hS 0 rfl _ _ _ rfl _ _ _ rfl rfl rfl (by first | (simp; done) | (simp; omega) | exact of_decide_eq_true (by kernel_rfl)) rfl (by first | rfl | assumption) (by kernel_rfl) ?_; clear hS; intro w_ hS; (try simp only [Act.put, Act.eval, List.set_cons_zero, List.set_cons_succ, List.setIfInBounds_toArray, Array.getD_eq_getD_getElem?, List.getElem?_toArray, List.getElem?_cons_succ, List.getElem?_cons_zero, Option.getD_some, Value.cells] at hS)) | (refine st_cstore hS 1 rfl _ _ _ rfl _ _ _ rfl rfl rfl (by first | (simp; done) | (simp; omega) | exact of_decide_eq_true (by kernel_rfl)) rfl (by first | rfl | assumption) (by kernel_rfl) ?_; clear hS; intro w_ hS; (try simp only [Act.put, Act.eval, List.set_cons_zero, List.set_cons_succ, List.setIfInBounds_toArray, Array.getD_eq_getD_getElem?, List.getElem?_toArray, List.getElem?_cons_succ, List.getElem?_cons_zero, Option.getD_some, Value.cells] at hS)) | (refine st_cstore hS 2 rfl _ _ _ rfl _ _ _ rfl rfl rfl (by first | (simp; done) | (simp; omega) | exact of_decide_eq_true (by kernel_rfl)) rfl (by first | rfl | assumption) (by kernel_rfl) ?_; clear hS; intro w_ hS; (try simp only [Act.put, Act.eval, List.set_cons_zero, List.set_cons_succ, List.setIfInBounds_toArray, Array.getD_eq_getD_getElem?, List.getElem?_toArray, List.getElem?_cons_succ, List.getElem?_cons_zero, Option.getD_some, Value.cells] at hS)) | (refine st_cstore hS 3 rfl _ _ _ rfl _ _ _ rfl rfl rfl (by first | (simp; done) | (simp; omega) | exact of_decide_eq_true (by kernel_rfl)) rfl (by first | rfl | assumption) (by kernel_rfl) ?_; clear hS; intro w_ hS; (try simp only [Act.put, Act.eval, List.set_cons_zero, List.set_cons_succ, List.setIfInBounds_toArray, Array.getD_eq_getD_getElem?, List.getElem?_toArray, List.getElem?_cons_succ, List.getElem?_cons_zero, Option.getD_some, Value.cells] at hS)))
                      | ((with_reducible show wpList _ _ _ (⟨_, .load _ _, _, _, _, _⟩ :: _) _ _); first | (refine st_cell hS 0 rfl _ _ rfl _ _ rfl _ _ rfl (by decide +kernel) _ (by first | assumption | rfl) ?_) | (refine st_cell hS 1 rfl _ _ rfl _ _ rfl _ _ rfl (by decide +kernel) _ (by first | assumption | rfl) ?_) | (refine st_cell hS 2 rfl _ _ rfl _ _ rfl _ _ rfl (by decide +kernel) _ (by first | assumption | rfl) ?_) | (refine st_cell hS 3 rfl _ _ rfl _ _ rfl _ _ rfl (by decide +kernel) _ (by first | assumption | rfl) ?_) | (refine st_cell hS 4 rfl _ _ rfl _ _ rfl _ _ rfl (by decide +kernel) _ (by first | assumption | rfl) ?_) | (refine st_cell hS 5 rfl _ _ rfl _ _ rfl _ _ rfl (by decide +kernel) _ (by first | assumption | rfl) ?_) | (refine st_cell hS 6 rfl _ _ rfl _ _ rfl _ _ rfl (by decide +kernel) _ (by first | assumption | rfl) ?_) | (refine st_cell hS 7 rfl _ _ rfl _ _ rfl _ _ rfl (by decide +kernel) _ (by first | assumption | rfl) ?_)))
                    exact ⟨⟨t + 1, _, by go_num, htl, Lib.hid HSP.out.1, Lib.hid HSP.out.2.2, Lib.hid HSP.out.2.1, hS.sub (List.sublist_cons_self _ _)⟩, by simp [intOf]; omega⟩
              · obtain rfl : t = L.length := by omega
                have HFF := Lib.hid (FarTo.full (by omega) HF.out)
                go_wp2_with (first | ((with_reducible show wpList _ _ _ (⟨_, .binOp _ _ _ _ _, _, _, _, _⟩ :: _) _ _); (first | ((with_reducible show wpList _ _ _ (⟨_, .binOp .lss _ _ _ _, _, _, _, _⟩ :: _) _ _); refine st_lss rfl _ _ _ _ rfl _ _ _ rfl rfl (fun h_ => ?_) (fun h_ => ?_)) | ((with_reducible show wpList _ _ _ (⟨_, .binOp .leq _ _ _ _, _, _, _, _⟩ :: _) _ _); refine st_leq rfl _ _ _ _ rfl _ _ _ rfl rfl (fun h_ => ?_) (fun h_ => ?_)) | ((with_reducible show wpList _ _ _ (⟨_, .binOp .gtr _ _ _ _, _, _, _, _⟩ :: _) _ _); refine st_gtr rfl _ _ _ _ rfl _ _ _ rfl rfl (fun h_ => ?_) (fun h_ => ?_)) | ((with_reducible show wpList _ _ _ (⟨_, .binOp .geq _ _ _ _, _, _, _, _⟩ :: _) _ _); refine st_geq rfl _ _ _ _ rfl _ _ _ rfl rfl (fun h_ => ?_) (fun h_ => ?_)) | ((with_reducible show wpList _ _ _ (⟨_, .binOp .eql _ _ _ _, _, _, _, _⟩ :: _) _ _); refine st_eql rfl _ _ _ _ rfl _ _ _ rfl rfl (fun h_ => ?_) (fun h_ => ?_)) | ((with_reducible show wpList _ _ _ (⟨_, .binOp .neq _ _ _ _, _, _, _, _⟩ :: _) _ _); refine st_neq rfl _ _ _ _ rfl _ _ _ rfl rfl (fun h_ => ?_) (fun h_ => ?_))) <;> go_prune))
                exact ⟨⟨m + 1, far, by go_num, by omega, by omega, HFF, HFl, HFi, hS⟩, by simp [intOf]; omega⟩
          · obtain rfl : m = n + 1 := by omega
            have HNO : Hid (¬ ∃ i' j' k : Nat, (i : Int) = (i' : Int) ∧ (j : Int) = (j' : Int) ∧ i' < n ∧ j' < n ∧ Wk L j' k i') := Lib.hid fun ⟨i', j', k, h1, h2, h3, h4, h5⟩ => by
              obtain rfl : i = i' := by omega
              obtain rfl : j = j' := by omega
              obtain ⟨d, h6, h7⟩ := isDist_of h5
              have h8 := h5.lt HL.out HA.out h4
              have h9 := (HF.out i (by rw [HFl.out]; exact hi) d).2 ⟨h7, by omega⟩
              omega
            clear hmn
            go_wp2_with (first
              | ((with_reducible show wpList _ _ _ (⟨_, .binOp _ _ _ _ _, _, _, _, _⟩ :: _) _ _); (first | ((with_reducible show wpList _ _ _ (⟨_, .binOp .lss _ _ _ _, _, _, _, _⟩ :: _) _ _); refine st_lss rfl _ _ _ _ rfl _ _ _ rfl rfl (fun h_ => ?_) (fun h_ => ?_)) | ((with_reducible show wpList _ _ _ (⟨_, .binOp .leq _ _ _ _, _, _, _, _⟩ :: _) _ _); refine st_leq rfl _ _ _ _ rfl _ _ _ rfl rfl (fun h_ => ?_) (fun h_ => ?_)) | ((with_reducible show wpList _ _ _ (⟨_, .binOp .gtr _ _ _ _, _, _, _, _⟩ :: _) _ _); refine st_gtr rfl _ _ _ _ rfl _ _ _ rfl rfl (fun h_ => ?_) (fun h_ => ?_)) | ((with_reducible show wpList _ _ _ (⟨_, .binOp .geq _ _ _ _, _, _, _, _⟩ :: _) _ _); refine st_geq rfl _ _ _ _ rfl _ _ _ rfl rfl (fun h_ => ?_) (fun h_ => ?_)) | ((with_reducible show wpList _ _ _ (⟨_, .binOp .eql _ _ _ _, _, _, _, _⟩ :: _) _ _); refine st_eql rfl _ _ _ _ rfl _ _ _ rfl rfl (fun h_ => ?_) (fun h_ => ?_)) | ((with_reducible show wpList _ _ _ (⟨_, .binOp .neq _ _ _ _, _, _, _, _⟩ :: _) _ _); refine st_neq rfl _ _ _ _ rfl _ _ _ rfl rfl (fun h_ => ?_) (fun h_ => ?_))) <;> go_prune)
              | ((with_reducible show wpList _ _ _ (⟨some 38, _, _, _, _, _⟩ :: _) _ _); refine st_kcell hS rfl _ _ rfl _ rfl _ (fun D w h => (ko D w h).1.cell 0 rfl) (by kernel_rfl) ?_)
              | ((with_reducible show wpList _ _ _ (⟨some 83, _, _, _, _, _⟩ :: _) _ _); refine BigFrame.wpList_want rfl fun _ hK => opw_cell rfl rfl (by kernel_rfl) (own_cell (hS.own 0 rfl) _ _ (HNi.out)) (hK _ _ ?_)))
            go_ret2
            exact ⟨_, false, [], rfl, .inl ⟨rfl, rfl, HNO.out⟩, by simp, ((hS.nil 3 1).sub (.cons_cons _ (List.nil_sublist _))).mono (Stable.pure True) fun _ _ _ => trivial⟩
        · have hFi : far.getD i 0 = m := HFi.out.resolve_left hz
          obtain ⟨d, rfl⟩ : ∃ d, m = d + 1 := ⟨m - 1, by omega⟩
          have HDi := Lib.hid ((HF.out i (by rw [HFl.out]; exact hi) d).1 hFi).1
          have hdn := HDi.out.1.lt HL.out HA.out hj
          rw [hFi] at HNi
          clear hz hFi HFi
          go_wp2_with (first
            | ((with_reducible show wpList _ _ _ (⟨_, .binOp _ _ _ _ _, _, _, _, _⟩ :: _) _ _); (first | ((with_reducible show wpList _ _ _ (⟨_, .binOp .lss _ _ _ _, _, _, _, _⟩ :: _) _ _); refine st_lss rfl _ _ _ _ rfl _ _ _ rfl rfl (fun h_ => ?_) (fun h_ => ?_)) | ((with_reducible show wpList _ _ _ (⟨_, .binOp .leq _ _ _ _, _, _, _, _⟩ :: _) _ _); refine st_leq rfl _ _ _ _ rfl _ _ _ rfl rfl (fun h_ => ?_) (fun h_ => ?_)) | ((with_reducible show wpList _ _ _ (⟨_, .binOp .gtr _ _ _ _, _, _, _, _⟩ :: _) _ _); refine st_gtr rfl _ _ _ _ rfl _ _ _ rfl rfl (fun h_ => ?_) (fun h_ => ?_)) | ((with_reducible show wpList _ _ _ (⟨_, .binOp .geq _ _ _ _, _, _, _, _⟩ :: _) _ _); refine st_geq rfl _ _ _ _ rfl _ _ _ rfl rfl (fun h_ => ?_) (fun h_ => ?_)) | ((with_reducible show wpList _ _ _ (⟨_, .binOp .eql _ _ _ _, _, _, _, _⟩ :: _) _ _); refine st_eql rfl _ _ _ _ rfl _ _ _ rfl rfl (fun h_ => ?_) (fun h_ => ?_)) | ((with_reducible show wpList _ _ _ (⟨_, .binOp .neq _ _ _ _, _, _, _, _⟩ :: _) _ _); refine st_neq rfl _ _ _ _ rfl _ _ _ rfl rfl (fun h_ => ?_) (fun h_ => ?_))) <;> go_prune)
            | ((with_reducible show wpList _ _ _ (⟨some 38, _, _, _, _, _⟩ :: _) _ _); refine st_kcell hS rfl _ _ rfl _ rfl _ (fun D w h => (ko D w h).1.cell 0 rfl) (by kernel_rfl) ?_)
            | ((with_reducible show wpList _ _ _ (⟨some 44, _, _, _, _, _⟩ :: _) _ _); refine BigFrame.wpList_want rfl fun _ hK => opw_cell rfl rfl (by kernel_rfl) (own_cell (hS.own 0 rfl) _ _ (HNi.out)) (hK _ _ ?_))
            | ((with_reducible show wpList _ _ _ (⟨some 83, _, _, _, _, _⟩ :: _) _ _); refine BigFrame.wpList_want rfl fun _ hK => opw_cell rfl rfl (by kernel_rfl) (own_cell (hS.own 0 rfl) _ _ (HNi.out)) (hK _ _ ?_))
            | ((with_reducible show wpList _ _ _ (⟨some 86, _, _, _, _, _⟩ :: _) _ _); refine st_litown hS rfl _ _ _ _ rfl Tryd.underlying31 #[.int .i64 (i : Nat)] (by kernel_rfl) 1 rfl (by decide) ?_; clear hS; intro g12 w_ hS))
          have HFv := Lib.hid (fun x (hx : x < n) => HF.out x (by rw [HFl.out]; exact hx))
          have HNv := Lib.hid (fun x (hx : x < n) => natI_at (l := far) (k := x) (by rw [HFl.out]; exact hx))
          have HBv := Lib.hid (fun x (hx : x < n) => far_bound HF.out (x := x) (by rw [HFl.out]; exact hx))
          clear HNi HF HFl
          go_loopw [12, 13] (fun o v wr => ∃ (acc : List Nat) (at_ e : Nat), v = .int .i64 (at_ : Nat) ∧ e ≤ d ∧ acc.length + e = d ∧ at_ < n ∧ Hid (isDist L j at_ e) ∧ Hid (acc ++ gp L j e at_ = gp L j d i) ∧ St w0 wr [.own o 3 1 (acc.length + 1) (ints (natInts (acc ++ [at_]))), .own (.slice (some ⟨g3, 0, none⟩) n n) 3 1 n (ints (natInts far))] K) (fun o _ _ => d + 1 - lenV o)
          case atStart => exact ⟨[], i, d, rfl, Nat.le_refl _, by simp, hi, HDi, Lib.hid rfl, hS⟩
          case round =>
            clear hS
            obtain ⟨acc, at_, e, rfl, he, hacc, hat, HD, HG, hS⟩ := hrel
            obtain ⟨go_, co_, rfl, _, _⟩ := own_pos (hS.own 0 rfl) (Nat.succ_pos _)
            cases e with
            | zero =>
              have hj2 : at_ = j := HD.out.1
              have HE : Hid (acc ++ [at_] = gp L j d i) := HG
              have HLn := Lib.hid (gp_len HDi.out)
              go_wp2_with (first | ((with_reducible show wpList _ _ _ (⟨_, .binOp _ _ _ _ _, _, _, _, _⟩ :: _) _ _); (first | ((with_reducible show wpList _ _ _ (⟨_, .binOp .lss _ _ _ _, _, _, _, _⟩ :: _) _ _); refine st_lss rfl _ _ _ _ rfl _ _ _ rfl rfl (fun h_ => ?_) (fun h_ => ?_)) | ((with_reducible show wpList _ _ _ (⟨_, .binOp .leq _ _ _ _, _, _, _, _⟩ :: _) _ _); refine st_leq rfl _ _ _ _ rfl _ _ _ rfl rfl (fun h_ => ?_) (fun h_ => ?_)) | ((with_reducible show wpList _ _ _ (⟨_, .binOp .gtr _ _ _ _, _, _, _, _⟩ :: _) _ _); refine st_gtr rfl _ _ _ _ rfl _ _ _ rfl rfl (fun h_ => ?_) (fun h_ => ?_)) | ((with_reducible show wpList _ _ _ (⟨_, .binOp .geq _ _ _ _, _, _, _, _⟩ :: _) _ _); refine st_geq rfl _ _ _ _ rfl _ _ _ rfl rfl (fun h_ => ?_) (fun h_ => ?_)) | ((with_reducible show wpList _ _ _ (⟨_, .binOp .eql _ _ _ _, _, _, _, _⟩ :: _) _ _); refine st_eql rfl _ _ _ _ rfl _ _ _ rfl rfl (fun h_ => ?_) (fun h_ => ?_)) | ((with_reducible show wpList _ _ _ (⟨_, .binOp .neq _ _ _ _, _, _, _, _⟩ :: _) _ _); refine st_neq rfl _ _ _ _ rfl _ _ _ rfl rfl (fun h_ => ?_) (fun h_ => ?_))) <;> go_prune))
              go_ret2
              refine ⟨_, true, gp L j d i, rfl, .inr ⟨rfl, i, j, d, rfl, rfl, hi, hj, HDi.out, rfl⟩, by rw [HLn.out]; omega, ?_⟩
              have := (hS.sub (.cons_cons _ (List.nil_sublist _))).mono (Stable.pure True) fun _ _ _ => trivial
              rw [← HE.out, List.length_append]
              exact this
            | succ e =>
              have hj2 : ¬ (at_ : Int) = (j : Int) := fun h => by
                have : at_ = j := by omega
                subst this
                exact HD.out.2 0 (Nat.succ_pos _) rfl
              have HFa : Hid (far.getD at_ 0 = e + 2) := Lib.hid ((HFv.out at_ hat (e + 1)).2 ⟨HD.out, by omega⟩)
              go_wp2_with (first
                | ((with_reducible show wpList _ _ _ (⟨_, .binOp _ _ _ _ _, _, _, _, _⟩ :: _) _ _); (first | ((with_reducible show wpList _ _ _ (⟨_, .binOp .lss _ _ _ _, _, _, _, _⟩ :: _) _ _); refine st_lss rfl _ _ _ _ rfl _ _ _ rfl rfl (fun h_ => ?_) (fun h_ => ?_)) | ((with_reducible show wpList _ _ _ (⟨_, .binOp .leq _ _ _ _, _, _, _, _⟩ :: _) _ _); refine st_leq rfl _ _ _ _ rfl _ _ _ rfl rfl (fun h_ => ?_) (fun h_ => ?_)) | ((with_reducible show wpList _ _ _ (⟨_, .binOp .gtr _ _ _ _, _, _, _, _⟩ :: _) _ _); refine st_gtr rfl _ _ _ _ rfl _ _ _ rfl rfl (fun h_ => ?_) (fun h_ => ?_)) | ((with_reducible show wpList _ _ _ (⟨_, .binOp .geq _ _ _ _, _, _, _, _⟩ :: _) _ _); refine st_geq rfl _ _ _ _ rfl _ _ _ rfl rfl (fun h_ => ?_) (fun h_ => ?_)) | ((with_reducible show wpList _ _ _ (⟨_, .binOp .eql _ _ _ _, _, _, _, _⟩ :: _) _ _); refine st_eql rfl _ _ _ _ rfl _ _ _ rfl rfl (fun h_ => ?_) (fun h_ => ?_)) | ((with_reducible show wpList _ _ _ (⟨_, .binOp .neq _ _ _ _, _, _, _, _⟩ :: _) _ _); refine st_neq rfl _ _ _ _ rfl _ _ _ rfl rfl (fun h_ => ?_) (fun h_ => ?_))) <;> go_prune)
                | ((with_reducible show wpList _ _ _ (⟨some 94, _, _, _, _, _⟩ :: _) _ _); refine st_kcell hS rfl _ _ rfl _ rfl _ (fun D w h => (ko D w h).1.cell 1 rfl) (by kernel_rfl) ?_))
              go_loopw [12, 13, 96] (fun o u v wr => ∃ t : Nat, v = .int .i64 (t : Nat) ∧ o = .slice (some ⟨go_, 0, none⟩) (acc.length + 1) co_ ∧ u = .int .i64 (at_ : Nat) ∧ t ≤ L.length ∧ Hid (∀ s, s < t → ∀ y, L[s]? = some y → ¬ (y.1 = at_ ∧ isDist L j y.2 e)) ∧ St w0 wr [.own (.slice (some ⟨go_, 0, none⟩) (acc.length + 1) co_) 3 1 (acc.length + 1) (ints (natInts (acc ++ [at_]))), .own (.slice (some ⟨g3, 0, none⟩) n n) 3 1 n (ints (natInts far))] K) (fun _ _ v _ => L.length - (intOf v).toNat)
              case atStart => exact ⟨0, rfl, rfl, rfl, by omega, Lib.hid (fun s h => absurd h (by omega)), hS⟩
              case round =>
                clear hS
                obtain ⟨t, rfl, rfl, rfl, ht, HN, hS⟩ := hrel
                have kp : ∀ D w, K D w → Sl w D 2 (.slice (some ⟨gp_, 0, none⟩) L.length L.length) L.length (pcells L) := fun D w h => (ko D w h).2.1
                by_cases htl : t < L.length
                · obtain ⟨f1, f2⟩ := pcells_at L t htl
                  have HGx := Lib.hid (getD_at (0, 0) htl)
                  have hx := HL.out _ (List.mem_of_getElem? HGx.out)
                  have HN2 : Hid (¬ ((L.getD t (0, 0)).1 = at_ ∧ isDist L j (L.getD t (0, 0)).2 e) → ∀ s, s < t + 1 → ∀ y, L[s]? = some y → ¬ (y.1 = at_ ∧ isDist L j y.2 e)) := Lib.hid fun hno s hs y hy => by
                    rcases Nat.lt_or_ge s t with h | h
                    · exact HN.out s h y hy
                    · obtain rfl : s = t := by omega
                      rw [HGx.out] at hy
                      cases hy
                      exact hno
                  generalize L.getD t (0, 0) = x at *
                  obtain ⟨xa, xb⟩ := x
                  dsimp only at f1 f2 hx HN2
                  obtain ⟨hxa, hxb⟩ := hx
                  have HNb := Lib.hid (HNv.out xb hxb)
                  have HNa := Lib.hid (HNv.out at_ hat)
                  rw [HFa.out] at HNa
                  have HFb := Lib.hid (HFv.out xb hxb e)
                  have hub := HBv.out xb hxb
                  generalize far.getD xb 0 = ub at *
                  have hed : e < d + 1 := by omega
                  by_cases hc1 : xa = at_
                  · have D1 : Hid (decide (((xa : Nat) : Int) = ((at_ : Nat) : Int)) = true) := Lib.hid (decide_eq_true (by omega))
                    by_cases hc2 : ub = e + 1
                    · have HDb := Lib.hid (HFb.out.1 hc2).1
                      have HGP := Lib.hid (gp_first HGx.out hc1 HDb.out HN.out)
                      have D2 : Hid (decide (((ub : Nat) : Int) > (0 : Int)) = true) := Lib.hid (decide_eq_true (by omega))
                      have D3 : Hid (decide (((ub : Nat) : Int) = ((e + 2 : Nat) : Int) - (1 : Int)) = true) := Lib.hid (decide_eq_true (by omega))
                      clear hc1 hc2
                      go_wp2_with (first
                        | ((with_reducible show wpList _ _ _ (⟨_, .binOp _ _ _ _ _, _, _, _, _⟩ :: _) _ _); (first | ((with_reducible show wpList _ _ _ (⟨_, .binOp .lss _ _ _ _, _, _, _, _⟩ :: _) _ _); refine st_lss rfl _ _ _ _ rfl _ _ _ rfl rfl (fun h_ => ?_) (fun h_ => ?_)) | ((with_reducible show wpList _ _ _ (⟨_, .binOp .leq _ _ _ _, _, _, _, _⟩ :: _) _ _); refine st_leq rfl _ _ _ _ rfl _ _ _ rfl rfl (fun h_ => ?_) (fun h_ => ?_)) | ((with_reducible show wpList _ _ _ (⟨_, .binOp .gtr _ _ _ _, _, _, _, _⟩ :: _) _ _); refine st_gtr rfl _ _ _ _ rfl _ _ _ rfl rfl (fun h_ => ?_) (fun h_ => ?_)) | ((with_reducible show wpList _ _ _ (⟨_, .binOp .geq _ _ _ _, _, _, _, _⟩ :: _) _ _); refine st_geq rfl _ _ _ _ rfl _ _ _ rfl rfl (fun h_ => ?_) (fun h_ => ?_)) | ((with_reducible show wpList _ _ _ (⟨_, .binOp .eql _ _ _ _, _, _, _, _⟩ :: _) _ _); refine st_eql rfl _ _ _ _ rfl _ _ _ rfl rfl (fun h_ => ?_) (fun h_ => ?_)) | ((with_reducible show wpList _ _ _ (⟨_, .binOp .neq _ _ _ _, _, _, _, _⟩ :: _) _ _); refine st_neq rfl _ _ _ _ rfl _ _ _ rfl rfl (fun h_ => ?_) (fun h_ => ?_))) <;> go_prune)
                        | ((with_reducible show wpList _ _ _ (⟨_, .indexAddr _ _ _, _, _, _, _⟩ :: _) _ _); refine st_iaddr2 hS rfl _ _ _ rfl _ rfl rfl (by assumption) Tryd.underlying25 (by kernel_rfl) (by first | assumption | omega) _ _ (by assumption) (by assumption) ?_; intro b_ j_ hc0_ hc1_)
                        | ((with_reducible show wpList _ _ _ (⟨some 15, _, _, _, _, _⟩ :: _) _ _); refine st_alloc hS rfl _ rfl (by kernel_rfl) ?_; clear hS; intro g4 w_ hS; (try simp only [Act.put, Act.eval, List.set_cons_zero, List.set_cons_succ, List.setIfInBounds_toArray, Array.getD_eq_getD_getElem?, List.getElem?_toArray, List.getElem?_cons_succ, List.getElem?_cons_zero, Option.getD_some, Value.cells] at hS))
                        | ((with_reducible show wpList _ _ _ (⟨_, .store _ _ _, _, _, _, _⟩ :: _) _ _); first | (refine st_store hS 0 rfl _ _ _ rfl _ _ rfl rfl _ _ rfl (by kernel_rfl) (by kernel_rfl) (by kernel_rfl) ?_; clear hS; intro w_ hS; (try simp only [Act.put, Act.eval, List.set_cons_zero, List.set_cons_succ, List.setIfInBounds_toArray, Array.getD_eq_getD_getElem?, List.getElem?_toArray, List.getElem?_cons_succ, List.getElem?_cons_zero, Option.getD_some, Value.cells] at hS)) | (refine st_store hS 1 rfl _ _ _ rfl _ _ rfl rfl _ _ rfl (by kernel_rfl) (by kernel_rfl) (by kernel_rfl) ?_; clear hS; intro w_ hS; (try simp only [Act.put, Act.eval, List.set_cons_zero, List.set_cons_succ, List.setIfInBounds_toArray, Array.getD_eq_getD_getElem?, List.getElem?_toArray, List.getElem?_cons_succ, List.getElem?_cons_zero, Option.getD_some, Value.cells] at hS)) | (refine st_store hS 2 rfl _ _ _ rfl _ _ rfl rfl _ _ rfl (by kernel_rfl) (by kernel_rfl) (by kernel_rfl) ?_; clear hS; intro w_ hS; (try simp only [Act.put, Act.eval, List.set_cons_zero, List.set_cons_succ, List.setIfInBounds_toArray, Array.getD_eq_getD_getElem?, List.getElem?_toArray, List.getElem?_cons_succ, List.getElem?_cons_zero, Option.getD_some, Value.cells] at hS)) | (refine st_store hS 3 rfl _ _ _ rfl _ _ rfl rfl _ _ rfl (by kernel_rfl) (by kernel_rfl) (by kernel_rfl) ?_; clear hS; intro w_ hS; (try simp only [Act.put, Act.eval, List.set_cons_zero, List.set_cons_succ, List.setIfInBounds_toArray, Array.getD_eq_getD_getElem?, List.getElem?_toArray, List.getElem?_cons_succ, List.getElem?_cons_zero, Option.getD_some, Value.cells] at hS)) | (refine st_cstore hS 0 rfl _ _ _ rfl _ _ _ rfl rfl rfl (by first | (simp; done) | (simp; omega) | exact of_decide_eq_true (by kernel_rfl)) rfl (by first | rfl | assumption) (by kernel_rfl) ?_; clear hS; intro w_ hS; (try simp only [Act.put, Act.eval, List.set_cons_zero, List.set_cons_succ, List.setIfInBounds_toArray, Array.getD_eq_getD_getElem?, List.getElem?_toArray, List.getElem?_cons_succ, List.getElem?_cons_zero, Option.getD_some, Value.cells] at hS)) | (refine st_cstore hS 1 rfl _ _ _ rfl _ _ _ rfl rfl rfl (by first | (simp; done) | (simp; omega) | exact of_decide_eq_true (by kernel_rfl)) rfl (by first | rfl | assumption) (by kernel_rfl) ?_; clear hS; intro w_ hS; (try simp only [Act.put, Act.eval, List.set_cons_zero, List.set_cons_succ, List.setIfInBounds_toArray, Array.getD_eq_getD_getElem?, List.getElem?_toArray, List.getElem?_cons_succ, List.getElem?_cons_zero, Option.getD_some, Value.cells] at hS)) | (refine st_cstore hS 2 rfl _ _ _ rfl _ _ _ rfl rfl rfl (by first | (simp; done) | (simp; omega) | exact of_decide_eq_true (by kernel_rfl)) rfl (by first | rfl | assumption) (by kernel_rfl) ?_; clear hS; intro w_ hS; (try simp only [Act.put, Act.eval, List.set_cons_zero, List.set_cons_succ, List.setIfInBounds_toArray, Array.getD_eq_getD_getElem?, List.getElem?_toArray, List.getElem?_cons_succ, List.getElem?_cons_zero, Option.getD_some, Value.cells] at hS)) | (refine st_cstore hS 3 rfl _ _ _ rfl _ _ _ rfl rfl rfl (by first | (simp; done) | (simp; omega) | exact of_decide_eq_true (by kernel_rfl)) rfl (by first | rfl | assumption) (by kernel_rfl) ?_; clear hS; intro w_ hS; (try simp only [Act.put, Act.eval, List.set_cons_zero, List.set_cons_succ, List.setIfInBounds_toArray, Array.getD_eq_getD_getElem?, List.getElem?_toArray, List.getElem?_cons_succ, List.getElem?_cons_zero, Option.getD_some, Value.cells] at hS))))
                      refine wp_region_typed (fun i__ v w => match i__ with
                        | 0 => v = .pointer (some ⟨g4, 0, none⟩)
                        | 1 => v = .int .i64 ((xa : Nat) : Int)
                        | 2 => v = .int .i64 ((at_ : Nat) : Int)
                        | 3 => v = .bool true
                        | 4 => v = .bool true
                        | 5 => v = .slice (some ⟨g3, 0, none⟩) n n
                        | 6 => v = .pointer (some ⟨g4, 1, none⟩)
                        | 7 => v = .int .i64 ((xb : Nat) : Int)
                        | 8 => v = .pointer (some ⟨g3, 0 + (xb) * 1, none⟩)
                        | 9 => v = .int .i64 ((ub : Nat) : Int)
                        | 10 => v = .bool true
                        | 11 => v = .bool true
                        | 12 => v = .bool true
                        | 13 => v = .slice (some ⟨g3, 0, none⟩) n n
                        | 14 => v = .pointer (some ⟨g4, 1, none⟩)
                        | 15 => v = .int .i64 ((xb : Nat) : Int)
                        | 16 => v = .pointer (some ⟨g3, 0 + (xb) * 1, none⟩)
                        | 17 => v = .int .i64 ((ub : Nat) : Int)
                        | 18 => v = .slice (some ⟨g3, 0, none⟩) n n
                        | 19 => v = .int .i64 ((at_ : Nat) : Int)
                        | 20 => v = .pointer (some ⟨g3, 0 + (at_) * 1, none⟩)
                        | 21 => v = .int .i64 ((e + 2 : Nat) : Int)
                        | 22 => v = .int .i64 (((e + 2 : Nat) : Int) - (1 : Int))
                        | 23 => v = .bool true
                        | 24 => v = .bool true
                        | _ => True) (by kernel_rfl) (by kernel_rfl) ?mono ⟨?r0, ?r1, ?r2, ?r3, ?r4, ?r5, ?r6, ?r7, ?r8, ?r9, ?r10, ?r11, ?r12, ?r13, ?r14, ?r15, ?r16, ?r17, ?r18, ?r19, ?r20, ?r21, ?r22, ?r23, ?r24, trivial⟩ ?post
                      case mono =>
                        intro i v w w' h hb
                        match i, h with
                        | 0, h => exact h
                        | 1, h => exact h
                        | 2, h => exact h
                        | 3, h => exact h
                        | 4, h => exact h
                        | 5, h => exact h
                        | 6, h => exact h
                        | 7, h => exact h
                        | 8, h => exact h
                        | 9, h => exact h
                        | 10, h => exact h
                        | 11, h => exact h
                        | 12, h => exact h
                        | 13, h => exact h
                        | 14, h => exact h
                        | 15, h => exact h
                        | 16, h => exact h
                        | 17, h => exact h
                        | 18, h => exact h
                        | 19, h => exact h
                        | 20, h => exact h
                        | 21, h => exact h
                        | 22, h => exact h
                        | 23, h => exact h
                        | 24, h => exact h
                        | _ + 25, h => trivial
                      case r0 =>
                        refine trule fun b__ w hW hold hpre => ⟨fun hwant K hK => ?_, fun hwant => ?_⟩
                        · clear hwant
                          have e15 : b__.eval (.tmp 15) = .pointer (some ⟨g4, 0, none⟩) := (hold 15 (by kernel_rfl)).trans rfl
                          exact opw_iaddr rfl e15 rfl (by kernel_rfl) (hK _ _ rfl (Below.refl _ _))
                        · rw [want_none rfl] at hwant; cases hwant
                      case r1 =>
                        refine trule fun b__ w hW hold hpre => ⟨fun hwant K hK => ?_, fun hwant => ?_⟩
                        · clear hwant
                          have e100 : b__.eval (.tmp 100) = .pointer (some ⟨g4, 0, none⟩) := hpre ⟨0, _⟩ (Array.mem_of_getElem? (i := 0) rfl) rfl _ _ rfl rfl
                          exact opw_cell rfl e100 (by kernel_rfl) ((hS.ext (undrew hW)).shut 0 rfl 0 rfl) (hK _ _ rfl (Below.refl _ _))
                        · rw [want_none rfl] at hwant; cases hwant
                      case r2 =>
                        refine trule fun b__ w hW hold hpre => ⟨fun hwant K hK => ?_, fun hwant => ?_⟩
                        · clear hwant
                          have e13 : b__.eval (.tmp 13) = .int .i64 ((at_ : Nat) : Int) := (hold 13 (by kernel_rfl)).trans rfl
                          exact opw_move rfl e13 (hK _ _ rfl (Below.refl _ _))
                        · rw [want_none rfl] at hwant; cases hwant
                      case r3 =>
                        refine trule fun b__ w hW hold hpre => ⟨fun hwant K hK => ?_, fun hwant => ?_⟩
                        · clear hwant
                          have e101 : b__.eval (.tmp 101) = .int .i64 ((xa : Nat) : Int) := hpre ⟨1, _⟩ (Array.mem_of_getElem? (i := 0) rfl) rfl _ _ rfl rfl
                          have e102 : b__.eval (.tmp 102) = .int .i64 ((at_ : Nat) : Int) := hpre ⟨2, _⟩ (Array.mem_of_getElem? (i := 1) rfl) rfl _ _ rfl rfl
                          exact opw_bin (vx := .int .i64 ((xa : Nat) : Int)) (vy := .int .i64 ((at_ : Nat) : Int)) (v := .bool true) rfl e101 e102 rfl (run_eqB D1.out) (hK _ _ rfl (Below.refl _ _))
                        · rw [want_none rfl] at hwant; cases hwant
                      case r4 =>
                        refine trule fun b__ w hW hold hpre => ⟨fun hwant K hK => ?_, fun hwant => ?_⟩
                        · clear hwant
                          have e103 : b__.eval (.tmp 103) = .bool true := hpre ⟨3, _⟩ (Array.mem_of_getElem? (i := 0) rfl) rfl _ _ rfl rfl
                          exact opw_move rfl e103 (hK _ _ rfl (Below.refl _ _))
                        · rw [want_none rfl] at hwant; cases hwant
                      case r5 =>
                        refine trule fun b__ w hW hold hpre => ⟨fun hwant K hK => ?_, fun hwant => ?_⟩
                        · clear hwant
                          have e8 : b__.eval (.tmp 8) = .slice (some ⟨g3, 0, none⟩) n n := (hold 8 (by kernel_rfl)).trans rfl
                          exact opw_move rfl e8 (hK _ _ rfl (Below.refl _ _))
                        · rw [want_some rfl rfl rfl (show b__.eval (.tmp 104) = .bool true from (hpre ⟨4, _⟩ (Array.mem_of_getElem? (i := 0) rfl) rfl _ _ rfl rfl))] at hwant; cases hwant
                      case r6 =>
                        refine trule fun b__ w hW hold hpre => ⟨fun hwant K hK => ?_, fun hwant => ?_⟩
                        · clear hwant
                          have e15 : b__.eval (.tmp 15) = .pointer (some ⟨g4, 0, none⟩) := (hold 15 (by kernel_rfl)).trans rfl
                          exact opw_iaddr rfl e15 rfl (by kernel_rfl) (hK _ _ rfl (Below.refl _ _))
                        · rw [want_some rfl rfl rfl (show b__.eval (.tmp 104) = .bool true from (hpre ⟨4, _⟩ (Array.mem_of_getElem? (i := 0) rfl) rfl _ _ rfl rfl))] at hwant; cases hwant
                      case r7 =>
                        refine trule fun b__ w hW hold hpre => ⟨fun hwant K hK => ?_, fun hwant => ?_⟩
                        · clear hwant
                          have e106 : b__.eval (.tmp 106) = .pointer (some ⟨g4, 1, none⟩) := hpre ⟨6, _⟩ (Array.mem_of_getElem? (i := 0) rfl) rfl _ _ rfl rfl
                          exact opw_cell rfl e106 (by kernel_rfl) ((hS.ext (undrew hW)).shut 0 rfl 1 rfl) (hK _ _ rfl (Below.refl _ _))
                        · rw [want_some rfl rfl rfl (show b__.eval (.tmp 104) = .bool true from (hpre ⟨4, _⟩ (Array.mem_of_getElem? (i := 1) rfl) rfl _ _ rfl rfl))] at hwant; cases hwant
                      case r8 =>
                        refine trule fun b__ w hW hold hpre => ⟨fun hwant K hK => ?_, fun hwant => ?_⟩
                        · clear hwant
                          have e105 : b__.eval (.tmp 105) = .slice (some ⟨g3, 0, none⟩) n n := hpre ⟨5, _⟩ (Array.mem_of_getElem? (i := 0) rfl) rfl _ _ rfl rfl
                          have e107 : b__.eval (.tmp 107) = .int .i64 ((xb : Nat) : Int) := hpre ⟨7, _⟩ (Array.mem_of_getElem? (i := 1) rfl) rfl _ _ rfl rfl
                          exact opw_iaddr rfl e105 e107 (run_iaddr_lit (m := xb) Tryd.underlying31 (by kernel_rfl) (by omega) (by omega)) (hK _ _ rfl (Below.refl _ _))
                        · rw [want_some rfl rfl rfl (show b__.eval (.tmp 104) = .bool true from (hpre ⟨4, _⟩ (Array.mem_of_getElem? (i := 2) rfl) rfl _ _ rfl rfl))] at hwant; cases hwant
                      case r9 =>
                        refine trule fun b__ w hW hold hpre => ⟨fun hwant K hK => ?_, fun hwant => ?_⟩
                        · clear hwant
                          have e108 : b__.eval (.tmp 108) = .pointer (some ⟨g3, 0 + (xb) * 1, none⟩) := hpre ⟨8, _⟩ (Array.mem_of_getElem? (i := 0) rfl) rfl _ _ rfl rfl
                          exact opw_cell rfl e108 (by kernel_rfl) (by rw [Nat.zero_add, Nat.mul_one]; exact own_cell ((hS.ext (undrew hW)).own 2 rfl) xb _ HNb.out) (hK _ _ rfl (Below.refl _ _))
                        · rw [want_some rfl rfl rfl (show b__.eval (.tmp 104) = .bool true from (hpre ⟨4, _⟩ (Array.mem_of_getElem? (i := 1) rfl) rfl _ _ rfl rfl))] at hwant; cases hwant
                      case r10 =>
                        refine trule fun b__ w hW hold hpre => ⟨fun hwant K hK => ?_, fun hwant => ?_⟩
                        · clear hwant
                          have e109 : b__.eval (.tmp 109) = .int .i64 ((ub : Nat) : Int) := hpre ⟨9, _⟩ (Array.mem_of_getElem? (i := 0) rfl) rfl _ _ rfl rfl
                          exact opw_bin (vx := .int .i64 ((ub : Nat) : Int)) (vy := .int .i64 0) (v := .bool true) rfl e109 rfl rfl (run_gtB D2.out) (hK _ _ rfl (Below.refl _ _))
                        · rw [want_some rfl rfl rfl (show b__.eval (.tmp 104) = .bool true from (hpre ⟨4, _⟩ (Array.mem_of_getElem? (i := 1) rfl) rfl _ _ rfl rfl))] at hwant; cases hwant
                      case r11 =>
                        refine trule fun b__ w hW hold hpre => ⟨fun hwant K hK => ?_, fun hwant => ?_⟩
                        · clear hwant
                          have e104 : b__.eval (.tmp 104) = .bool true := hpre ⟨4, _⟩ (Array.mem_of_getElem? (i := 0) rfl) rfl _ _ rfl rfl
                          have e110 : b__.eval (.tmp 110) = .bool true := hpre ⟨10, _⟩ (Array.mem_of_getElem? (i := 1) rfl) rfl _ _ rfl rfl
                          exact opw_pick rfl e104 (if_pos rfl) (hK _ _ e110 (Below.refl _ _))
                        · rw [want_none rfl] at hwant; cases hwant
                      case r12 =>
                        refine trule fun b__ w hW hold hpre => ⟨fun hwant K hK => ?_, fun hwant => ?_⟩
                        · clear hwant
                          have e111 : b__.eval (.tmp 111) = .bool true := hpre ⟨11, _⟩ (Array.mem_of_getElem? (i := 0) rfl) rfl _ _ rfl rfl
                          exact opw_move rfl e111 (hK _ _ rfl (Below.refl _ _))
                        · rw [want_none rfl] at hwant; cases hwant
                      case r13 =>
                        refine trule fun b__ w hW hold hpre => ⟨fun hwant K hK => ?_, fun hwant => ?_⟩
                        · clear hwant
                          have e8 : b__.eval (.tmp 8) = .slice (some ⟨g3, 0, none⟩) n n := (hold 8 (by kernel_rfl)).trans rfl
                          exact opw_move rfl e8 (hK _ _ rfl (Below.refl _ _))
                        · rw [want_some rfl rfl rfl (show b__.eval (.tmp 112) = .bool true from (hpre ⟨12, _⟩ (Array.mem_of_getElem? (i := 0) rfl) rfl _ _ rfl rfl))] at hwant; cases hwant
                      case r14 =>
                        refine trule fun b__ w hW hold hpre => ⟨fun hwant K hK => ?_, fun hwant => ?_⟩
                        · clear hwant
                          have e15 : b__.eval (.tmp 15) = .pointer (some ⟨g4, 0, none⟩) := (hold 15 (by kernel_rfl)).trans rfl
                          exact opw_iaddr rfl e15 rfl (by kernel_rfl) (hK _ _ rfl (Below.refl _ _))
                        · rw [want_some rfl rfl rfl (show b__.eval (.tmp 112) = .bool true from (hpre ⟨12, _⟩ (Array.mem_of_getElem? (i := 0) rfl) rfl _ _ rfl rfl))] at hwant; cases hwant
                      case r15 =>
                        refine trule fun b__ w hW hold hpre => ⟨fun hwant K hK => ?_, fun hwant => ?_⟩
                        · clear hwant
                          have e114 : b__.eval (.tmp 114) = .pointer (some ⟨g4, 1, none⟩) := hpre ⟨14, _⟩ (Array.mem_of_getElem? (i := 0) rfl) rfl _ _ rfl rfl
                          exact opw_cell rfl e114 (by kernel_rfl) ((hS.ext (undrew hW)).shut 0 rfl 1 rfl) (hK _ _ rfl (Below.refl _ _))
                        · rw [want_some rfl rfl rfl (show b__.eval (.tmp 112) = .bool true from (hpre ⟨12, _⟩ (Array.mem_of_getElem? (i := 1) rfl) rfl _ _ rfl rfl))] at hwant; cases hwant
                      case r16 =>
                        refine trule fun b__ w hW hold hpre => ⟨fun hwant K hK => ?_, fun hwant => ?_⟩
                        · clear hwant
                          have e113 : b__.eval (.tmp 113) = .slice (some ⟨g3, 0, none⟩) n n := hpre ⟨13, _⟩ (Array.mem_of_getElem? (i := 0) rfl) rfl _ _ rfl rfl
                          have e115 : b__.eval (.tmp 115) = .int .i64 ((xb : Nat) : Int) := hpre ⟨15, _⟩ (Array.mem_of_getElem? (i := 1) rfl) rfl _ _ rfl rfl
                          exact opw_iaddr rfl e113 e115 (run_iaddr_lit (m := xb) Tryd.underlying31 (by kernel_rfl) (by omega) (by omega)) (hK _ _ rfl (Below.refl _ _))
                        · rw [want_some rfl rfl rfl (show b__.eval (.tmp 112) = .bool true from (hpre ⟨12, _⟩ (Array.mem_of_getElem? (i := 2) rfl) rfl _ _ rfl rfl))] at hwant; cases hwant
                      case r17 =>
                        refine trule fun b__ w hW hold hpre => ⟨fun hwant K hK => ?_, fun hwant => ?_⟩
                        · clear hwant
                          have e116 : b__.eval (.tmp 116) = .pointer (some ⟨g3, 0 + (xb) * 1, none⟩) := hpre ⟨16, _⟩ (Array.mem_of_getElem? (i := 0) rfl) rfl _ _ rfl rfl
                          exact opw_cell rfl e116 (by kernel_rfl) (by rw [Nat.zero_add, Nat.mul_one]; exact own_cell ((hS.ext (undrew hW)).own 2 rfl) xb _ HNb.out) (hK _ _ rfl (Below.refl _ _))
                        · rw [want_some rfl rfl rfl (show b__.eval (.tmp 112) = .bool true from (hpre ⟨12, _⟩ (Array.mem_of_getElem? (i := 1) rfl) rfl _ _ rfl rfl))] at hwant; cases hwant
                      case r18 =>
                        refine trule fun b__ w hW hold hpre => ⟨fun hwant K hK => ?_, fun hwant => ?_⟩
                        · clear hwant
                          have e8 : b__.eval (.tmp 8) = .slice (some ⟨g3, 0, none⟩) n n := (hold 8 (by kernel_rfl)).trans rfl
                          exact opw_move rfl e8 (hK _ _ rfl (Below.refl _ _))
                        · rw [want_some rfl rfl rfl (show b__.eval (.tmp 112) = .bool true from (hpre ⟨12, _⟩ (Array.mem_of_getElem? (i := 0) rfl) rfl _ _ rfl rfl))] at hwant; cases hwant
                      case r19 =>
                        refine trule fun b__ w hW hold hpre => ⟨fun hwant K hK => ?_, fun hwant => ?_⟩
                        · clear hwant
                          have e13 : b__.eval (.tmp 13) = .int .i64 ((at_ : Nat) : Int) := (hold 13 (by kernel_rfl)).trans rfl
                          exact opw_move rfl e13 (hK _ _ rfl (Below.refl _ _))
                        · rw [want_some rfl rfl rfl (show b__.eval (.tmp 112) = .bool true from (hpre ⟨12, _⟩ (Array.mem_of_getElem? (i := 0) rfl) rfl _ _ rfl rfl))] at hwant; cases hwant
                      case r20 =>
                        refine trule fun b__ w hW hold hpre => ⟨fun hwant K hK => ?_, fun hwant => ?_⟩
                        · clear hwant
                          have e118 : b__.eval (.tmp 118) = .slice (some ⟨g3, 0, none⟩) n n := hpre ⟨18, _⟩ (Array.mem_of_getElem? (i := 0) rfl) rfl _ _ rfl rfl
                          have e119 : b__.eval (.tmp 119) = .int .i64 ((at_ : Nat) : Int) := hpre ⟨19, _⟩ (Array.mem_of_getElem? (i := 1) rfl) rfl _ _ rfl rfl
                          exact opw_iaddr rfl e118 e119 (run_iaddr_lit (m := at_) Tryd.underlying31 (by kernel_rfl) (by omega) (by omega)) (hK _ _ rfl (Below.refl _ _))
                        · rw [want_some rfl rfl rfl (show b__.eval (.tmp 112) = .bool true from (hpre ⟨12, _⟩ (Array.mem_of_getElem? (i := 2) rfl) rfl _ _ rfl rfl))] at hwant; cases hwant
                      case r21 =>
                        refine trule fun b__ w hW hold hpre => ⟨fun hwant K hK => ?_, fun hwant => ?_⟩
                        · clear hwant
                          have e120 : b__.eval (.tmp 120) = .pointer (some ⟨g3, 0 + (at_) * 1, none⟩) := hpre ⟨20, _⟩ (Array.mem_of_getElem? (i := 0) rfl) rfl _ _ rfl rfl
                          exact opw_cell rfl e120 (by kernel_rfl) (by rw [Nat.zero_add, Nat.mul_one]; exact own_cell ((hS.ext (undrew hW)).own 2 rfl) at_ _ HNa.out) (hK _ _ rfl (Below.refl _ _))
                        · rw [want_some rfl rfl rfl (show b__.eval (.tmp 112) = .bool true from (hpre ⟨12, _⟩ (Array.mem_of_getElem? (i := 1) rfl) rfl _ _ rfl rfl))] at hwant; cases hwant
                      case r22 =>
                        refine trule fun b__ w hW hold hpre => ⟨fun hwant K hK => ?_, fun hwant => ?_⟩
                        · clear hwant
                          have e121 : b__.eval (.tmp 121) = .int .i64 ((e + 2 : Nat) : Int) := hpre ⟨21, _⟩ (Array.mem_of_getElem? (i := 0) rfl) rfl _ _ rfl rfl
                          exact opw_bin (vx := .int .i64 ((e + 2 : Nat) : Int)) (vy := .int .i64 (1 : Int)) (v := .int .i64 (((e + 2 : Nat) : Int) - (1 : Int))) rfl e121 rfl rfl (run_sub64 (by omega) (by omega)) (hK _ _ rfl (Below.refl _ _))
                        · rw [want_some rfl rfl rfl (show b__.eval (.tmp 112) = .bool true from (hpre ⟨12, _⟩ (Array.mem_of_getElem? (i := 1) rfl) rfl _ _ rfl rfl))] at hwant; cases hwant
                      case r23 =>
                        refine trule fun b__ w hW hold hpre => ⟨fun hwant K hK => ?_, fun hwant => ?_⟩
                        · clear hwant
                          have e117 : b__.eval (.tmp 117) = .int .i64 ((ub : Nat) : Int) := hpre ⟨17, _⟩ (Array.mem_of_getElem? (i := 0) rfl) rfl _ _ rfl rfl
                          have e122 : b__.eval (.tmp 122) = .int .i64 (((e + 2 : Nat) : Int) - (1 : Int)) := hpre ⟨22, _⟩ (Array.mem_of_getElem? (i := 1) rfl) rfl _ _ rfl rfl
                          exact opw_bin (vx := .int .i64 ((ub : Nat) : Int)) (vy := .int .i64 (((e + 2 : Nat) : Int) - (1 : Int))) (v := .bool true) rfl e117 e122 rfl (run_eqB D3.out) (hK _ _ rfl (Below.refl _ _))
                        · rw [want_some rfl rfl rfl (show b__.eval (.tmp 112) = .bool true from (hpre ⟨12, _⟩ (Array.mem_of_getElem? (i := 2) rfl) rfl _ _ rfl rfl))] at hwant; cases hwant
                      case r24 =>
                        refine trule fun b__ w hW hold hpre => ⟨fun hwant K hK => ?_, fun hwant => ?_⟩
                        · clear hwant
                          have e112 : b__.eval (.tmp 112) = .bool true := hpre ⟨12, _⟩ (Array.mem_of_getElem? (i := 0) rfl) rfl _ _ rfl rfl
                          have e123 : b__.eval (.tmp 123) = .bool true := hpre ⟨23, _⟩ (Array.mem_of_getElem? (i := 1) rfl) rfl _ _ rfl rfl
                          exact opw_pick rfl e112 (if_pos rfl) (hK _ _ e123 (Below.refl _ _))
                        · rw [want_none rfl] at hwant; cases hwant
                      case post =>
                        intro b__ wz hW hdf hsz hold hT
                        have e100 : b__.eval (.tmp 100) = .pointer (some ⟨g4, 0, none⟩) := hT 0 _ 100 rfl rfl
                        have e101 : b__.eval (.tmp 101) = .int .i64 ((xa : Nat) : Int) := hT 1 _ 101 rfl rfl
                        have e102 : b__.eval (.tmp 102) = .int .i64 ((at_ : Nat) : Int) := hT 2 _ 102 rfl rfl
                        have e103 : b__.eval (.tmp 103) = .bool true := hT 3 _ 103 rfl rfl
                        have e104 : b__.eval (.tmp 104) = .bool true := hT 4 _ 104 rfl rfl
                        have e105 : b__.eval (.tmp 105) = .slice (some ⟨g3, 0, none⟩) n n := hT 5 _ 105 rfl rfl
                        have e106 : b__.eval (.tmp 106) = .pointer (some ⟨g4, 1, none⟩) := hT 6 _ 106 rfl rfl
                        have e107 : b__.eval (.tmp 107) = .int .i64 ((xb : Nat) : Int) := hT 7 _ 107 rfl rfl
                        have e108 : b__.eval (.tmp 108) = .pointer (some ⟨g3, 0 + (xb) * 1, none⟩) := hT 8 _ 108 rfl rfl
                        have e109 : b__.eval (.tmp 109) = .int .i64 ((ub : Nat) : Int) := hT 9 _ 109 rfl rfl
                        have e110 : b__.eval (.tmp 110) = .bool true := hT 10 _ 110 rfl rfl
                        have e111 : b__.eval (.tmp 111) = .bool true := hT 11 _ 111 rfl rfl
                        have e112 : b__.eval (.tmp 112) = .bool true := hT 12 _ 112 rfl rfl
                        have e113 : b__.eval (.tmp 113) = .slice (some ⟨g3, 0, none⟩) n n := hT 13 _ 113 rfl rfl
                        have e114 : b__.eval (.tmp 114) = .pointer (some ⟨g4, 1, none⟩) := hT 14 _ 114 rfl rfl
                        have e115 : b__.eval (.tmp 115) = .int .i64 ((xb : Nat) : Int) := hT 15 _ 115 rfl rfl
                        have e116 : b__.eval (.tmp 116) = .pointer (some ⟨g3, 0 + (xb) * 1, none⟩) := hT 16 _ 116 rfl rfl
                        have e117 : b__.eval (.tmp 117) = .int .i64 ((ub : Nat) : Int) := hT 17 _ 117 rfl rfl
                        have e118 : b__.eval (.tmp 118) = .slice (some ⟨g3, 0, none⟩) n n := hT 18 _ 118 rfl rfl
                        have e119 : b__.eval (.tmp 119) = .int .i64 ((at_ : Nat) : Int) := hT 19 _ 119 rfl rfl
                        have e120 : b__.eval (.tmp 120) = .pointer (some ⟨g3, 0 + (at_) * 1, none⟩) := hT 20 _ 120 rfl rfl
                        have e121 : b__.eval (.tmp 121) = .int .i64 ((e + 2 : Nat) : Int) := hT 21 _ 121 rfl rfl
                        have e122 : b__.eval (.tmp 122) = .int .i64 (((e + 2 : Nat) : Int) - (1 : Int)) := hT 22 _ 122 rfl rfl
                        have e123 : b__.eval (.tmp 123) = .bool true := hT 23 _ 123 rfl rfl
                        have e124 : b__.eval (.tmp 124) = .bool true := hT 24 _ 124 rfl rfl
                        obtain ⟨vs, hvs, hb⟩ := frame_of hdf hsz hold
                        replace e100 : vs 100 = .pointer (some ⟨g4, 0, none⟩) := (hvs 100).symm.trans e100
                        replace e101 : vs 101 = .int .i64 ((xa : Nat) : Int) := (hvs 101).symm.trans e101
                        replace e102 : vs 102 = .int .i64 ((at_ : Nat) : Int) := (hvs 102).symm.trans e102
                        replace e103 : vs 103 = .bool true := (hvs 103).symm.trans e103
                        replace e104 : vs 104 = .bool true := (hvs 104).symm.trans e104
                        replace e105 : vs 105 = .slice (some ⟨g3, 0, none⟩) n n := (hvs 105).symm.trans e105
                        replace e106 : vs 106 = .pointer (some ⟨g4, 1, none⟩) := (hvs 106).symm.trans e106
                        replace e107 : vs 107 = .int .i64 ((xb : Nat) : Int) := (hvs 107).symm.trans e107
                        replace e108 : vs 108 = .pointer (some ⟨g3, 0 + (xb) * 1, none⟩) := (hvs 108).symm.trans e108
                        replace e109 : vs 109 = .int .i64 ((ub : Nat) : Int) := (hvs 109).symm.trans e109
                        replace e110 : vs 110 = .bool true := (hvs 110).symm.trans e110
                        replace e111 : vs 111 = .bool true := (hvs 111).symm.trans e111
                        replace e112 : vs 112 = .bool true := (hvs 112).symm.trans e112
                        replace e113 : vs 113 = .slice (some ⟨g3, 0, none⟩) n n := (hvs 113).symm.trans e113
                        replace e114 : vs 114 = .pointer (some ⟨g4, 1, none⟩) := (hvs 114).symm.trans e114
                        replace e115 : vs 115 = .int .i64 ((xb : Nat) : Int) := (hvs 115).symm.trans e115
                        replace e116 : vs 116 = .pointer (some ⟨g3, 0 + (xb) * 1, none⟩) := (hvs 116).symm.trans e116
                        replace e117 : vs 117 = .int .i64 ((ub : Nat) : Int) := (hvs 117).symm.trans e117
                        replace e118 : vs 118 = .slice (some ⟨g3, 0, none⟩) n n := (hvs 118).symm.trans e118
                        replace e119 : vs 119 = .int .i64 ((at_ : Nat) : Int) := (hvs 119).symm.trans e119
                        replace e120 : vs 120 = .pointer (some ⟨g3, 0 + (at_) * 1, none⟩) := (hvs 120).symm.trans e120
                        replace e121 : vs 121 = .int .i64 ((e + 2 : Nat) : Int) := (hvs 121).symm.trans e121
                        replace e122 : vs 122 = .int .i64 (((e + 2 : Nat) : Int) - (1 : Int)) := (hvs 122).symm.trans e122
                        replace e123 : vs 123 = .bool true := (hvs 123).symm.trans e123
                        replace e124 : vs 124 = .bool true := (hvs 124).symm.trans e124
                        subst hb
                        clear hvs hold hT hdf hsz
                        simp only [setAll, Act.put, List.setIfInBounds_toArray, List.set_cons_zero, List.set_cons_succ, List.getElem_toArray, List.getElem_cons_succ, List.getElem_cons_zero]
                        rw [e124]
                        replace hS := hS.ext hW
                        go_wp2_with (first
                          | ((with_reducible show wpList _ _ _ (⟨_, .buildSlice _ 1 _, _, _, _, _⟩ :: _) _ _); refine st_push hS 1 rfl rfl _ _ _ _ rfl rfl ty_ints _ _ _ (.int .i64 (xb : Nat)) #[.int .i64 (xb : Nat)] rfl (by kernel_rfl) rfl rfl rfl rfl (by intro u hu; simp at hu; first | (subst hu; rfl) | (rcases hu with rfl | rfl <;> rfl)) (by omega) (by omega) ?_; clear hS; intro z_ v_ w_ hS; (try simp only [Act.put, Act.eval, List.set_cons_zero, List.set_cons_succ, List.setIfInBounds_toArray, Array.getD_eq_getD_getElem?, List.getElem?_toArray, List.getElem?_cons_succ, List.getElem?_cons_zero, Option.getD_some, Value.cells] at hS))
                          | ((with_reducible show wpList _ _ _ (⟨_, .load _ _, _, _, _, _⟩ :: _) _ _); first | (refine st_cell hS 0 rfl _ _ rfl _ _ rfl _ _ rfl (by decide +kernel) _ (by first | assumption | rfl) ?_) | (refine st_cell hS 1 rfl _ _ rfl _ _ rfl _ _ rfl (by decide +kernel) _ (by first | assumption | rfl) ?_) | (refine st_cell hS 2 rfl _ _ rfl _ _ rfl _ _ rfl (by decide +kernel) _ (by first | assumption | rfl) ?_) | (refine st_cell hS 3 rfl _ _ rfl _ _ rfl _ _ rfl (by decide +kernel) _ (by first | assumption | rfl) ?_) | (refine st_cell hS 4 rfl _ _ rfl _ _ rfl _ _ rfl (by decide +kernel) _ (by first | assumption | rfl) ?_) | (refine st_cell hS 5 rfl _ _ rfl _ _ rfl _ _ rfl (by decide +kernel) _ (by first | assumption | rfl) ?_) | (refine st_cell hS 6 rfl _ _ rfl _ _ rfl _ _ rfl (by decide +kernel) _ (by first | assumption | rfl) ?_) | (refine st_cell hS 7 rfl _ _ rfl _ _ rfl _ _ rfl (by decide +kernel) _ (by first | assumption | rfl) ?_)))
                        obtain ⟨Av, cv, rfl, _, _⟩ := own_shp (hS.own 1 rfl)
                        refine ⟨⟨acc ++ [at_], xb, e, rfl, by omega, by simp; omega, hxb, HDb, Lib.hid (by rw [← HG.out, HGP.out]; simp), ?_⟩, by simp [lenV]; omega⟩
                        have e1 : ints (natInts (acc ++ [at_] ++ [xb])) = ints (natInts (acc ++ [at_])) ++ [.int .i64 (xb : Nat)] := (natI_snoc _ _).symm
                        rw [e1, show (acc ++ [at_]).length + 1 = acc.length + 1 + 1 by simp]
                        exact hS.sub (List.sublist_cons_self _ _)
                    · have HN3 := Lib.hid (HN2.out fun h => hc2 (HFb.out.2 ⟨h.2, hed⟩))
                      have D3 : Hid (decide (((ub : Nat) : Int) = ((e + 2 : Nat) : Int) - (1 : Int)) = false) := Lib.hid (decide_eq_false (by omega))
                      by_cases hu0 : ub = 0
                      · have D2 : Hid (decide (((ub : Nat) : Int) > (0 : Int)) = false) := Lib.hid (decide_eq_false (by omega))
                        clear hc1 hc2
                        go_wp2_with (first
                          | ((with_reducible show wpList _ _ _ (⟨_, .binOp _ _ _ _ _, _, _, _, _⟩ :: _) _ _); (first | ((with_reducible show wpList _ _ _ (⟨_, .binOp .lss _ _ _ _, _, _, _, _⟩ :: _) _ _); refine st_lss rfl _ _ _ _ rfl _ _ _ rfl rfl (fun h_ => ?_) (fun h_ => ?_)) | ((with_reducible show wpList _ _ _ (⟨_, .binOp .leq _ _ _ _, _, _, _, _⟩ :: _) _ _); refine st_leq rfl _ _ _ _ rfl _ _ _ rfl rfl (fun h_ => ?_) (fun h_ => ?_)) | ((with_reducible show wpList _ _ _ (⟨_, .binOp .gtr _ _ _ _, _, _, _, _⟩ :: _) _ _); refine st_gtr rfl _ _ _ _ rfl _ _ _ rfl rfl (fun h_ => ?_) (fun h_ => ?_)) | ((with_reducible show wpList _ _ _ (⟨_, .binOp .geq _ _ _ _, _, _, _, _⟩ :: _) _ _); refine st_geq rfl _ _ _ _ rfl _ _ _ rfl rfl (fun h_ => ?_) (fun h_ => ?_)) | ((with_reducible show wpList _ _ _ (⟨_, .binOp .eql _ _ _ _, _, _, _, _⟩ :: _) _ _); refine st_eql rfl _ _ _ _ rfl _ _ _ rfl rfl (fun h_ => ?_) (fun h_ => ?_)) | ((with_reducible show wpList _ _ _ (⟨_, .binOp .neq _ _ _ _, _, _, _, _⟩ :: _) _ _); refine st_neq rfl _ _ _ _ rfl _ _ _ rfl rfl (fun h_ => ?_) (fun h_ => ?_))) <;> go_prune)
                          | ((with_reducible show wpList _ _ _ (⟨_, .indexAddr _ _ _, _, _, _, _⟩ :: _) _ _); refine st_iaddr2 hS rfl _ _ _ rfl _ rfl rfl (by assumption) Tryd.underlying25 (by kernel_rfl) (by first | assumption | omega) _ _ (by assumption) (by assumption) ?_; intro b_ j_ hc0_ hc1_)
                          | ((with_reducible show wpList _ _ _ (⟨some 15, _, _, _, _, _⟩ :: _) _ _); refine st_alloc hS rfl _ rfl (by kernel_rfl) ?_; clear hS; intro g4 w_ hS; (try simp only [Act.put, Act.eval, List.set_cons_zero, List.set_cons_succ, List.setIfInBounds_toArray, Array.getD_eq_getD_getElem?, List.getElem?_toArray, List.getElem?_cons_succ, List.getElem?_cons_zero, Option.getD_some, Value.cells] at hS))
                          | ((with_reducible show wpList _ _ _ (⟨_, .store _ _ _, _, _, _, _⟩ :: _) _ _); first | (refine st_store hS 0 rfl _ _ _ rfl _ _ rfl rfl _ _ rfl (by kernel_rfl) (by kernel_rfl) (by kernel_rfl) ?_; clear hS; intro w_ hS; (try simp only [Act.put, Act.eval, List.set_cons_zero, List.set_cons_succ, List.setIfInBounds_toArray, Array.getD_eq_getD_getElem?, List.getElem?_toArray, List.getElem?_cons_succ, List.getElem?_cons_zero, Option.getD_some, Value.cells] at hS)) | (refine st_store hS 1 rfl _ _ _ rfl _ _ rfl rfl _ _ rfl (by kernel_rfl) (by kernel_rfl) (by kernel_rfl) ?_; clear hS; intro w_ hS; (try simp only [Act.put, Act.eval, List.set_cons_zero, List.set_cons_succ, List.setIfInBounds_toArray, Array.getD_eq_getD_getElem?, List.getElem?_toArray, List.getElem?_cons_succ, List.getElem?_cons_zero, Option.getD_some, Value.cells] at hS)) | (refine st_store hS 2 rfl _ _ _ rfl _ _ rfl rfl _ _ rfl (by kernel_rfl) (by kernel_rfl) (by kernel_rfl) ?_; clear hS; intro w_ hS; (try simp only [Act.put, Act.eval, List.set_cons_zero, List.set_cons_succ, List.setIfInBounds_toArray, Array.getD_eq_getD_getElem?, List.getElem?_toArray, List.getElem?_cons_succ, List.getElem?_cons_zero, Option.getD_some, Value.cells] at hS)) | (refine st_store hS 3 rfl _ _ _ rfl _ _ rfl rfl _ _ rfl (by kernel_rfl) (by kernel_rfl) (by kernel_rfl) ?_; clear hS; intro w_ hS; (try simp only [Act.put, Act.eval, List.set_cons_zero, List.set_cons_succ, List.setIfInBounds_toArray, Array.getD_eq_getD_getElem?, List.getElem?_toArray, List.getElem?_cons_succ, List.getElem?_cons_zero, Option.getD_some, Value.cells] at hS)) | (refine st_cstore hS 0 rfl _ _ _ rfl _ _ _ rfl rfl rfl (by first | (simp; done) | (simp; omega) | exact of_decide_eq_true (by kernel_rfl)) rfl (by first | rfl | assumption) (by kernel_rfl) ?_; clear hS; intro w_ hS; (try simp only [Act.put, Act.eval, List.set_cons_zero, List.set_cons_succ, List.setIfInBounds_toArray, Array.getD_eq_getD_getElem?, List.getElem?_toArray, List.getElem?_cons_succ, List.getElem?_cons_zero, Option.getD_some, Value.cells] at hS)) | (refine st_cstore hS 1 rfl _ _ _ rfl _ _ _ rfl rfl rfl (by first | (simp; done) | (simp; omega) | exact of_decide_eq_true (by kernel_rfl)) rfl (by first | rfl | assumption) (by kernel_rfl) ?_; clear hS; intro w_ hS; (try simp only [Act.put, Act.eval, List.set_cons_zero, List.set_cons_succ, List.setIfInBounds_toArray, Array.getD_eq_getD_getElem?, List.getElem?_toArray, List.getElem?_cons_succ, List.getElem?_cons_zero, Option.getD_some, Value.cells] at hS)) | (refine st_cstore hS 2 rfl _ _ _ rfl _ _ _ rfl rfl rfl (by first | (simp; done) | (simp; omega) | exact of_decide_eq_true (by kernel_rfl)) rfl (by first | rfl | assumption) (by kernel_rfl) ?_; clear hS; intro w_ hS; (try simp only [Act.put, Act.eval, List.set_cons_zero, List.set_cons_succ, List.setIfInBounds_toArray, Array.getD_eq_getD_getElem?, List.getElem?_toArray, List.getElem?_cons_succ, List.getElem?_cons_zero, Option.getD_some, Value.cells] at hS)) | (refine st_cstore hS 3 rfl _ _ _ rfl _ _ _ rfl rfl rfl (by first | (simp; done) | (simp; omega) | exact of_decide_eq_true (by kernel_rfl)) rfl (by first | rfl | assumption) (by kernel_rfl) ?_; clear hS; intro w_ hS; (try simp only [Act.put, Act.eval, List.set_cons_zero, List.set_cons_succ, List.setIfInBounds_toArray, Array.getD_eq_getD_getElem?, List.getElem?_toArray, List.getElem?_cons_succ, List.getElem?_cons_zero, Option.getD_some, Value.cells] at hS))))
                        refine wp_region_typed (fun i__ v w => match i__ with
                          | 0 => v = .pointer (some ⟨g4, 0, none⟩)
                          | 1 => v = .int .i64 ((xa : Nat) : Int)
                          | 2 => v = .int .i64 ((at_ : Nat) : Int)
                          | 3 => v = .bool true
                          | 4 => v = .bool true
                          | 5 => v = .slice (some ⟨g3, 0, none⟩) n n
                          | 6 => v = .pointer (some ⟨g4, 1, none⟩)
                          | 7 => v = .int .i64 ((xb : Nat) : Int)
                          | 8 => v = .pointer (some ⟨g3, 0 + (xb) * 1, none⟩)
                          | 9 => v = .int .i64 ((ub : Nat) : Int)
                          | 10 => v = .bool false
                          | 11 => v = .bool false
                          | 12 => v = .bool false
                          | 13 => True
                          | 14 => True
                          | 15 => True
                          | 16 => True
                          | 17 => True
                          | 18 => True
                          | 19 => True
                          | 20 => True
                          | 21 => True
                          | 22 => True
                          | 23 => True
                          | 24 => v = .bool false
                          | _ => True) (by kernel_rfl) (by kernel_rfl) ?mono ⟨?r0, ?r1, ?r2, ?r3, ?r4, ?r5, ?r6, ?r7, ?r8, ?r9, ?r10, ?r11, ?r12, ?r13, ?r14, ?r15, ?r16, ?r17, ?r18, ?r19, ?r20, ?r21, ?r22, ?r23, ?r24, trivial⟩ ?post
                        case mono =>
                          intro i v w w' h hb
                          match i, h with
                          | 0, h => exact h
                          | 1, h => exact h
                          | 2, h => exact h
                          | 3, h => exact h
                          | 4, h => exact h
                          | 5, h => exact h
                          | 6, h => exact h
                          | 7, h => exact h
                          | 8, h => exact h
                          | 9, h => exact h
                          | 10, h => exact h
                          | 11, h => exact h
                          | 12, h => exact h
                          | 13, h => exact h
                          | 14, h => exact h
                          | 15, h => exact h
                          | 16, h => exact h
                          | 17, h => exact h
                          | 18, h => exact h
                          | 19, h => exact h
                          | 20, h => exact h
                          | 21, h => exact h
                          | 22, h => exact h
                          | 23, h => exact h
                          | 24, h => exact h
                          | _ + 25, h => trivial
                        case r0 =>
                          refine trule fun b__ w hW hold hpre => ⟨fun hwant K hK => ?_, fun hwant => ?_⟩
                          · clear hwant
                            have e15 : b__.eval (.tmp 15) = .pointer (some ⟨g4, 0, none⟩) := (hold 15 (by kernel_rfl)).trans rfl
                            exact opw_iaddr rfl e15 rfl (by kernel_rfl) (hK _ _ rfl (Below.refl _ _))
                          · rw [want_none rfl] at hwant; cases hwant
                        case r1 =>
                          refine trule fun b__ w hW hold hpre => ⟨fun hwant K hK => ?_, fun hwant => ?_⟩
                          · clear hwant
                            have e100 : b__.eval (.tmp 100) = .pointer (some ⟨g4, 0, none⟩) := hpre ⟨0, _⟩ (Array.mem_of_getElem? (i := 0) rfl) rfl _ _ rfl rfl
                            exact opw_cell rfl e100 (by kernel_rfl) ((hS.ext (undrew hW)).shut 0 rfl 0 rfl) (hK _ _ rfl (Below.refl _ _))
                          · rw [want_none rfl] at hwant; cases hwant
                        case r2 =>
                          refine trule fun b__ w hW hold hpre => ⟨fun hwant K hK => ?_, fun hwant => ?_⟩
                          · clear hwant
                            have e13 : b__.eval (.tmp 13) = .int .i64 ((at_ : Nat) : Int) := (hold 13 (by kernel_rfl)).trans rfl
                            exact opw_move rfl e13 (hK _ _ rfl (Below.refl _ _))
                          · rw [want_none rfl] at hwant; cases hwant
                        case r3 =>
                          refine trule fun b__ w hW hold hpre => ⟨fun hwant K hK => ?_, fun hwant => ?_⟩
                          · clear hwant
                            have e101 : b__.eval (.tmp 101) = .int .i64 ((xa : Nat) : Int) := hpre ⟨1, _⟩ (Array.mem_of_getElem? (i := 0) rfl) rfl _ _ rfl rfl
                            have e102 : b__.eval (.tmp 102) = .int .i64 ((at_ : Nat) : Int) := hpre ⟨2, _⟩ (Array.mem_of_getElem? (i := 1) rfl) rfl _ _ rfl rfl
                            exact opw_bin (vx := .int .i64 ((xa : Nat) : Int)) (vy := .int .i64 ((at_ : Nat) : Int)) (v := .bool true) rfl e101 e102 rfl (run_eqB D1.out) (hK _ _ rfl (Below.refl _ _))
                          · rw [want_none rfl] at hwant; cases hwant
                        case r4 =>
                          refine trule fun b__ w hW hold hpre => ⟨fun hwant K hK => ?_, fun hwant => ?_⟩
                          · clear hwant
                            have e103 : b__.eval (.tmp 103) = .bool true := hpre ⟨3, _⟩ (Array.mem_of_getElem? (i := 0) rfl) rfl _ _ rfl rfl
                            exact opw_move rfl e103 (hK _ _ rfl (Below.refl _ _))
                          · rw [want_none rfl] at hwant; cases hwant
                        case r5 =>
                          refine trule fun b__ w hW hold hpre => ⟨fun hwant K hK => ?_, fun hwant => ?_⟩
                          · clear hwant
                            have e8 : b__.eval (.tmp 8) = .slice (some ⟨g3, 0, none⟩) n n := (hold 8 (by kernel_rfl)).trans rfl
                            exact opw_move rfl e8 (hK _ _ rfl (Below.refl _ _))
                          · rw [want_some rfl rfl rfl (show b__.eval (.tmp 104) = .bool true from (hpre ⟨4, _⟩ (Array.mem_of_getElem? (i := 0) rfl) rfl _ _ rfl rfl))] at hwant; cases hwant
                        case r6 =>
                          refine trule fun b__ w hW hold hpre => ⟨fun hwant K hK => ?_, fun hwant => ?_⟩
                          · clear hwant
                            have e15 : b__.eval (.tmp 15) = .pointer (some ⟨g4, 0, none⟩) := (hold 15 (by kernel_rfl)).trans rfl
                            exact opw_iaddr rfl e15 rfl (by kernel_rfl) (hK _ _ rfl (Below.refl _ _))
                          · rw [want_some rfl rfl rfl (show b__.eval (.tmp 104) = .bool true from (hpre ⟨4, _⟩ (Array.mem_of_getElem? (i := 0) rfl) rfl _ _ rfl rfl))] at hwant; cases hwant
                        case r7 =>
                          refine trule fun b__ w hW hold hpre => ⟨fun hwant K hK => ?_, fun hwant => ?_⟩
                          · clear hwant
                            have e106 : b__.eval (.tmp 106) = .pointer (some ⟨g4, 1, none⟩) := hpre ⟨6, _⟩ (Array.mem_of_getElem? (i := 0) rfl) rfl _ _ rfl rfl
                            exact opw_cell rfl e106 (by kernel_rfl) ((hS.ext (undrew hW)).shut 0 rfl 1 rfl) (hK _ _ rfl (Below.refl _ _))
                          · rw [want_some rfl rfl rfl (show b__.eval (.tmp 104) = .bool true from (hpre ⟨4, _⟩ (Array.mem_of_getElem? (i := 1) rfl) rfl _ _ rfl rfl))] at hwant; cases hwant
                        case r8 =>
                          refine trule fun b__ w hW hold hpre => ⟨fun hwant K hK => ?_, fun hwant => ?_⟩
                          · clear hwant
                            have e105 : b__.eval (.tmp 105) = .slice (some ⟨g3, 0, none⟩) n n := hpre ⟨5, _⟩ (Array.mem_of_getElem? (i := 0) rfl) rfl _ _ rfl rfl
                            have e107 : b__.eval (.tmp 107) = .int .i64 ((xb : Nat) : Int) := hpre ⟨7, _⟩ (Array.mem_of_getElem? (i := 1) rfl) rfl _ _ rfl rfl
                            exact opw_iaddr rfl e105 e107 (run_iaddr_lit (m := xb) Tryd.underlying31 (by kernel_rfl) (by omega) (by omega)) (hK _ _ rfl (Below.refl _ _))
                          · rw [want_some rfl rfl rfl (show b__.eval (.tmp 104) = .bool true from (hpre ⟨4, _⟩ (Array.mem_of_getElem? (i := 2) rfl) rfl _ _ rfl rfl))] at hwant; cases hwant
                        case r9 =>
                          refine trule fun b__ w hW hold hpre => ⟨fun hwant K hK => ?_, fun hwant => ?_⟩
                          · clear hwant
                            have e108 : b__.eval (.tmp 108) = .pointer (some ⟨g3, 0 + (xb) * 1, none⟩) := hpre ⟨8, _⟩ (Array.mem_of_getElem? (i := 0) rfl) rfl _ _ rfl rfl
                            exact opw_cell rfl e108 (by kernel_rfl) (by rw [Nat.zero_add, Nat.mul_one]; exact own_cell ((hS.ext (undrew hW)).own 2 rfl) xb _ HNb.out) (hK _ _ rfl (Below.refl _ _))
                          · rw [want_some rfl rfl rfl (show b__.eval (.tmp 104) = .bool true from (hpre ⟨4, _⟩ (Array.mem_of_getElem? (i := 1) rfl) rfl _ _ rfl rfl))] at hwant; cases hwant
                        case r10 =>
                          refine trule fun b__ w hW hold hpre => ⟨fun hwant K hK => ?_, fun hwant => ?_⟩
                          · clear hwant
                            have e109 : b__.eval (.tmp 109) = .int .i64 ((ub : Nat) : Int) := hpre ⟨9, _⟩ (Array.mem_of_getElem? (i := 0) rfl) rfl _ _ rfl rfl
                            exact opw_bin (vx := .int .i64 ((ub : Nat) : Int)) (vy := .int .i64 0) (v := .bool false) rfl e109 rfl rfl (run_gtB D2.out) (hK _ _ rfl (Below.refl _ _))
                          · rw [want_some rfl rfl rfl (show b__.eval (.tmp 104) = .bool true from (hpre ⟨4, _⟩ (Array.mem_of_getElem? (i := 1) rfl) rfl _ _ rfl rfl))] at hwant; cases hwant
                        case r11 =>
                          refine trule fun b__ w hW hold hpre => ⟨fun hwant K hK => ?_, fun hwant => ?_⟩
                          · clear hwant
                            have e104 : b__.eval (.tmp 104) = .bool true := hpre ⟨4, _⟩ (Array.mem_of_getElem? (i := 0) rfl) rfl _ _ rfl rfl
                            have e110 : b__.eval (.tmp 110) = .bool false := hpre ⟨10, _⟩ (Array.mem_of_getElem? (i := 1) rfl) rfl _ _ rfl rfl
                            exact opw_pick rfl e104 (if_pos rfl) (hK _ _ e110 (Below.refl _ _))
                          · rw [want_none rfl] at hwant; cases hwant
                        case r12 =>
                          refine trule fun b__ w hW hold hpre => ⟨fun hwant K hK => ?_, fun hwant => ?_⟩
                          · clear hwant
                            have e111 : b__.eval (.tmp 111) = .bool false := hpre ⟨11, _⟩ (Array.mem_of_getElem? (i := 0) rfl) rfl _ _ rfl rfl
                            exact opw_move rfl e111 (hK _ _ rfl (Below.refl _ _))
                          · rw [want_none rfl] at hwant; cases hwant
                        case r13 =>
                          refine trule fun b__ w hW hold hpre => ⟨fun hwant K hK => ?_, fun hwant => ?_⟩
                          · rw [want_some rfl rfl rfl (show b__.eval (.tmp 112) = .bool false from hpre ⟨12, _⟩ (Array.mem_of_getElem? (i := 0) rfl) rfl _ _ rfl rfl)] at hwant; cases hwant
                          · exact trivial
                        case r14 =>
                          refine trule fun b__ w hW hold hpre => ⟨fun hwant K hK => ?_, fun hwant => ?_⟩
                          · rw [want_some rfl rfl rfl (show b__.eval (.tmp 112) = .bool false from hpre ⟨12, _⟩ (Array.mem_of_getElem? (i := 0) rfl) rfl _ _ rfl rfl)] at hwant; cases hwant
                          · exact trivial
                        case r15 =>
                          refine trule fun b__ w hW hold hpre => ⟨fun hwant K hK => ?_, fun hwant => ?_⟩
                          · rw [want_some rfl rfl rfl (show b__.eval (.tmp 112) = .bool false from hpre ⟨12, _⟩ (Array.mem_of_getElem? (i := 1) rfl) rfl _ _ rfl rfl)] at hwant; cases hwant
                          · exact trivial
                        case r16 =>
                          refine trule fun b__ w hW hold hpre => ⟨fun hwant K hK => ?_, fun hwant => ?_⟩
                          · rw [want_some rfl rfl rfl (show b__.eval (.tmp 112) = .bool false from hpre ⟨12, _⟩ (Array.mem_of_getElem? (i := 2) rfl) rfl _ _ rfl rfl)] at hwant; cases hwant
                          · exact trivial
                        case r17 =>
                          refine trule fun b__ w hW hold hpre => ⟨fun hwant K hK => ?_, fun hwant => ?_⟩
                          · rw [want_some rfl rfl rfl (show b__.eval (.tmp 112) = .bool false from hpre ⟨12, _⟩ (Array.mem_of_getElem? (i := 1) rfl) rfl _ _ rfl rfl)] at hwant; cases hwant
                          · exact trivial
                        case r18 =>
                          refine trule fun b__ w hW hold hpre => ⟨fun hwant K hK => ?_, fun hwant => ?_⟩
                          · rw [want_some rfl rfl rfl (show b__.eval (.tmp 112) = .bool false from hpre ⟨12, _⟩ (Array.mem_of_getElem? (i := 0) rfl) rfl _ _ rfl rfl)] at hwant; cases hwant
                          · exact trivial
                        case r19 =>
                          refine trule fun b__ w hW hold hpre => ⟨fun hwant K hK => ?_, fun hwant => ?_⟩
                          · rw [want_some rfl rfl rfl (show b__.eval (.tmp 112) = .bool false from hpre ⟨12, _⟩ (Array.mem_of_getElem? (i := 0) rfl) rfl _ _ rfl rfl)] at hwant; cases hwant
                          · exact trivial
                        case r20 =>
                          refine trule fun b__ w hW hold hpre => ⟨fun hwant K hK => ?_, fun hwant => ?_⟩
                          · rw [want_some rfl rfl rfl (show b__.eval (.tmp 112) = .bool false from hpre ⟨12, _⟩ (Array.mem_of_getElem? (i := 2) rfl) rfl _ _ rfl rfl)] at hwant; cases hwant
                          · exact trivial
                        case r21 =>
                          refine trule fun b__ w hW hold hpre => ⟨fun hwant K hK => ?_, fun hwant => ?_⟩
                          · rw [want_some rfl rfl rfl (show b__.eval (.tmp 112) = .bool false from hpre ⟨12, _⟩ (Array.mem_of_getElem? (i := 1) rfl) rfl _ _ rfl rfl)] at hwant; cases hwant
                          · exact trivial
                        case r22 =>
                          refine trule fun b__ w hW hold hpre => ⟨fun hwant K hK => ?_, fun hwant => ?_⟩
                          · rw [want_some rfl rfl rfl (show b__.eval (.tmp 112) = .bool false from hpre ⟨12, _⟩ (Array.mem_of_getElem? (i := 1) rfl) rfl _ _ rfl rfl)] at hwant; cases hwant
                          · exact trivial
                        case r23 =>
                          refine trule fun b__ w hW hold hpre => ⟨fun hwant K hK => ?_, fun hwant => ?_⟩
                          · rw [want_some rfl rfl rfl (show b__.eval (.tmp 112) = .bool false from hpre ⟨12, _⟩ (Array.mem_of_getElem? (i := 2) rfl) rfl _ _ rfl rfl)] at hwant; cases hwant
                          · exact trivial
                        case r24 =>
                          refine trule fun b__ w hW hold hpre => ⟨fun hwant K hK => ?_, fun hwant => ?_⟩
                          · clear hwant
                            have e112 : b__.eval (.tmp 112) = .bool false := hpre ⟨12, _⟩ (Array.mem_of_getElem? (i := 0) rfl) rfl _ _ rfl rfl
                            have e123 : (fun (v : Value) (w : World) => True) (b__.eval (.tmp 123)) w := hpre ⟨23, _⟩ (Array.mem_of_getElem? (i := 1) rfl) rfl _ _ rfl rfl
                            exact opw_pick rfl e112 rfl (hK _ _ rfl (Below.refl _ _))
                          · rw [want_none rfl] at hwant; cases hwant
                        case post =>
                          intro b__ wz hW hdf hsz hold hT
                          have e100 : b__.eval (.tmp 100) = .pointer (some ⟨g4, 0, none⟩) := hT 0 _ 100 rfl rfl
                          have e101 : b__.eval (.tmp 101) = .int .i64 ((xa : Nat) : Int) := hT 1 _ 101 rfl rfl
                          have e102 : b__.eval (.tmp 102) = .int .i64 ((at_ : Nat) : Int) := hT 2 _ 102 rfl rfl
                          have e103 : b__.eval (.tmp 103) = .bool true := hT 3 _ 103 rfl rfl
                          have e104 : b__.eval (.tmp 104) = .bool true := hT 4 _ 104 rfl rfl
                          have e105 : b__.eval (.tmp 105) = .slice (some ⟨g3, 0, none⟩) n n := hT 5 _ 105 rfl rfl
                          have e106 : b__.eval (.tmp 106) = .pointer (some ⟨g4, 1, none⟩) := hT 6 _ 106 rfl rfl
                          have e107 : b__.eval (.tmp 107) = .int .i64 ((xb : Nat) : Int) := hT 7 _ 107 rfl rfl
                          have e108 : b__.eval (.tmp 108) = .pointer (some ⟨g3, 0 + (xb) * 1, none⟩) := hT 8 _ 108 rfl rfl
                          have e109 : b__.eval (.tmp 109) = .int .i64 ((ub : Nat) : Int) := hT 9 _ 109 rfl rfl
                          have e110 : b__.eval (.tmp 110) = .bool false := hT 10 _ 110 rfl rfl
                          have e111 : b__.eval (.tmp 111) = .bool false := hT 11 _ 111 rfl rfl
                          have e112 : b__.eval (.tmp 112) = .bool false := hT 12 _ 112 rfl rfl
                          have e124 : b__.eval (.tmp 124) = .bool false := hT 24 _ 124 rfl rfl
                          obtain ⟨vs, hvs, hb⟩ := frame_of hdf hsz hold
                          replace e100 : vs 100 = .pointer (some ⟨g4, 0, none⟩) := (hvs 100).symm.trans e100
                          replace e101 : vs 101 = .int .i64 ((xa : Nat) : Int) := (hvs 101).symm.trans e101
                          replace e102 : vs 102 = .int .i64 ((at_ : Nat) : Int) := (hvs 102).symm.trans e102
                          replace e103 : vs 103 = .bool true := (hvs 103).symm.trans e103
                          replace e104 : vs 104 = .bool true := (hvs 104).symm.trans e104
                          replace e105 : vs 105 = .slice (some ⟨g3, 0, none⟩) n n := (hvs 105).symm.trans e105
                          replace e106 : vs 106 = .pointer (some ⟨g4, 1, none⟩) := (hvs 106).symm.trans e106
                          replace e107 : vs 107 = .int .i64 ((xb : Nat) : Int) := (hvs 107).symm.trans e107
                          replace e108 : vs 108 = .pointer (some ⟨g3, 0 + (xb) * 1, none⟩) := (hvs 108).symm.trans e108
                          replace e109 : vs 109 = .int .i64 ((ub : Nat) : Int) := (hvs 109).symm.trans e109
                          replace e110 : vs 110 = .bool false := (hvs 110).symm.trans e110
                          replace e111 : vs 111 = .bool false := (hvs 111).symm.trans e111
                          replace e112 : vs 112 = .bool false := (hvs 112).symm.trans e112
                          replace e124 : vs 124 = .bool false := (hvs 124).symm.trans e124
                          subst hb
                          clear hvs hold hT hdf hsz
                          simp only [setAll, Act.put, List.setIfInBounds_toArray, List.set_cons_zero, List.set_cons_succ, List.getElem_toArray, List.getElem_cons_succ, List.getElem_cons_zero]
                          rw [e124]
                          replace hS := hS.ext hW
                          go_wp2_with fail
                          exact ⟨⟨t + 1, by go_num, rfl, rfl, htl, HN3, hS.sub (List.sublist_cons_self _ _)⟩, by simp [intOf]; omega⟩
                      · have D2 : Hid (decide (((ub : Nat) : Int) > (0 : Int)) = true) := Lib.hid (decide_eq_true (by omega))
                        clear hc1 hc2
                        go_wp2_with (first
                          | ((with_reducible show wpList _ _ _ (⟨_, .binOp _ _ _ _ _, _, _, _, _⟩ :: _) _ _); (first | ((with_reducible show wpList _ _ _ (⟨_, .binOp .lss _ _ _ _, _, _, _, _⟩ :: _) _ _); refine st_lss rfl _ _ _ _ rfl _ _ _ rfl rfl (fun h_ => ?_) (fun h_ => ?_)) | ((with_reducible show wpList _ _ _ (⟨_, .binOp .leq _ _ _ _, _, _, _, _⟩ :: _) _ _); refine st_leq rfl _ _ _ _ rfl _ _ _ rfl rfl (fun h_ => ?_) (fun h_ => ?_)) | ((with_reducible show wpList _ _ _ (⟨_, .binOp .gtr _ _ _ _, _, _, _, _⟩ :: _) _ _); refine st_gtr rfl _ _ _ _ rfl _ _ _ rfl rfl (fun h_ => ?_) (fun h_ => ?_)) | ((with_reducible show wpList _ _ _ (⟨_, .binOp .geq _ _ _ _, _, _, _, _⟩ :: _) _ _); refine st_geq rfl _ _ _ _ rfl _ _ _ rfl rfl (fun h_ => ?_) (fun h_ => ?_)) | ((with_reducible show wpList _ _ _ (⟨_, .binOp .eql _ _ _ _, _, _, _, _⟩ :: _) _ _); refine st_eql rfl _ _ _ _ rfl _ _ _ rfl rfl (fun h_ => ?_) (fun h_ => ?_)) | ((with_reducible show wpList _ _ _ (⟨_, .binOp .neq _ _ _ _, _, _, _, _⟩ :: _) _ _); refine st_neq rfl _ _ _ _ rfl _ _ _ rfl rfl (fun h_ => ?_) (fun h_ => ?_))) <;> go_prune)
                          | ((with_reducible show wpList _ _ _ (⟨_, .indexAddr _ _ _, _, _, _, _⟩ :: _) _ _); refine st_iaddr2 hS rfl _ _ _ rfl _ rfl rfl (by assumption) Tryd.underlying25 (by kernel_rfl) (by first | assumption | omega) _ _ (by assumption) (by assumption) ?_; intro b_ j_ hc0_ hc1_)
                          | ((with_reducible show wpList _ _ _ (⟨some 15, _, _, _, _, _⟩ :: _) _ _); refine st_alloc hS rfl _ rfl (by kernel_rfl) ?_; clear hS; intro g4 w_ hS; (try simp only [Act.put, Act.eval, List.set_cons_zero, List.set_cons_succ, List.setIfInBounds_toArray, Array.getD_eq_getD_getElem?, List.getElem?_toArray, List.getElem?_cons_succ, List.getElem?_cons_zero, Option.getD_some, Value.cells] at hS))
                          | ((with_reducible show wpList _ _ _ (⟨_, .store _ _ _, _, _, _, _⟩ :: _) _ _); first | (refine st_store hS 0 rfl _ _ _ rfl _ _ rfl rfl _ _ rfl (by kernel_rfl) (by kernel_rfl) (by kernel_rfl) ?_; clear hS; intro w_ hS; (try simp only [Act.put, Act.eval, List.set_cons_zero, List.set_cons_succ, List.setIfInBounds_toArray, Array.getD_eq_getD_getElem?, List.getElem?_toArray, List.getElem?_cons_succ, List.getElem?_cons_zero, Option.getD_some, Value.cells] at hS)) | (refine st_store hS 1 rfl _ _ _ rfl _ _ rfl rfl _ _ rfl (by kernel_rfl) (by kernel_rfl) (by kernel_rfl) ?_; clear hS; intro w_ hS; (try simp only [Act.put, Act.eval, List.set_cons_zero, List.set_cons_succ, List.setIfInBounds_toArray, Array.getD_eq_getD_getElem?, List.getElem?_toArray, List.getElem?_cons_succ, List.getElem?_cons_zero, Option.getD_some, Value.cells] at hS)) | (refine st_store hS 2 rfl _ _ _ rfl _ _ rfl rfl _ _ rfl (by kernel_rfl) (by kernel_rfl) (by kernel_rfl) ?_; clear hS; intro w_ hS; (try simp only [Act.put, Act.eval, List.set_cons_zero, List.set_cons_succ, List.setIfInBounds_toArray, Array.getD_eq_getD_getElem?, List.getElem?_toArray, List.getElem?_cons_succ, List.getElem?_cons_zero, Option.getD_some, Value.cells] at hS)) | (refine st_store hS 3 rfl _ _ _ rfl _ _ rfl rfl _ _ rfl (by kernel_rfl) (by kernel_rfl) (by kernel_rfl) ?_; clear hS; intro w_ hS; (try simp only [Act.put, Act.eval, List.set_cons_zero, List.set_cons_succ, List.setIfInBounds_toArray, Array.getD_eq_getD_getElem?, List.getElem?_toArray, List.getElem?_cons_succ, List.getElem?_cons_zero, Option.getD_some, Value.cells] at hS)) | (refine st_cstore hS 0 rfl _ _ _ rfl _ _ _ rfl rfl rfl (by first | (simp; done) | (simp; omega) | exact of_decide_eq_true (by kernel_rfl)) rfl (by first | rfl | assumption) (by kernel_rfl) ?_; clear hS; intro w_ hS; (try simp only [Act.put, Act.eval, List.set_cons_zero, List.set_cons_succ, List.setIfInBounds_toArray, Array.getD_eq_getD_getElem?, List.getElem?_toArray, List.getElem?_cons_succ, List.getElem?_cons_zero, Option.getD_some, Value.cells] at hS)) | (refine st_cstore hS 1 rfl _ _ _ rfl _ _ _ rfl rfl rfl (by first | (simp; done) | (simp; omega) | exact of_decide_eq_true (by kernel_rfl)) rfl (by first | rfl | assumption) (by kernel_rfl) ?_; clear hS; intro w_ hS; (try simp only [Act.put, Act.eval, List.set_cons_zero, List.set_cons_succ, List.setIfInBounds_toArray, Array.getD_eq_getD_getElem?, List.getElem?_toArray, List.getElem?_cons_succ, List.getElem?_cons_zero, Option.getD_some, Value.cells] at hS)) | (refine st_cstore hS 2 rfl _ _ _ rfl _ _ _ rfl rfl rfl (by first | (simp; done) | (simp; omega) | exact of_decide_eq_true (by kernel_rfl)) rfl (by first | rfl | assumption) (by kernel_rfl) ?_; clear hS; intro w_ hS; (try simp only [Act.put, Act.eval, List.set_cons_zero, List.set_cons_succ, List.setIfInBounds_toArray, Array.getD_eq_getD_getElem?, List.getElem?_toArray, List.getElem?_cons_succ, List.getElem?_cons_zero, Option.getD_some, Value.cells] at hS)) | (refine st_cstore hS 3 rfl _ _ _ rfl _ _ _ rfl rfl rfl (by first | (simp; done) | (simp; omega) | exact of_decide_eq_true (by kernel_rfl)) rfl (by first | rfl | assumption) (by kernel_rfl) ?_; clear hS; intro w_ hS; (try simp only [Act.put, Act.eval, List.set_cons_zero, List.set_cons_succ, List.setIfInBounds_toArray, Array.getD_eq_getD_getElem?, List.getElem?_toArray, List.getElem?_cons_succ, List.getElem?_cons_zero, Option.getD_some, Value.cells] at hS))))
                        refine wp_region_typed (fun i__ v w => match i__ with
                          | 0 => v = .pointer (some ⟨g4, 0, none⟩)
                          | 1 => v = .int .i64 ((xa : Nat) : Int)
                          | 2 => v = .int .i64 ((at_ : Nat) : Int)
                          | 3 => v = .bool true
                          | 4 => v = .bool true
                          | 5 => v = .slice (some ⟨g3, 0, none⟩) n n
                          | 6 => v = .pointer (some ⟨g4, 1, none⟩)
                          | 7 => v = .int .i64 ((xb : Nat) : Int)
                          | 8 => v = .pointer (some ⟨g3, 0 + (xb) * 1, none⟩)
                          | 9 => v = .int .i64 ((ub : Nat) : Int)
                          | 10 => v = .bool true
                          | 11 => v = .bool true
                          | 12 => v = .bool true
                          | 13 => v = .slice (some ⟨g3, 0, none⟩) n n
                          | 14 => v = .pointer (some ⟨g4, 1, none⟩)
                          | 15 => v = .int .i64 ((xb : Nat) : Int)
                          | 16 => v = .pointer (some ⟨g3, 0 + (xb) * 1, none⟩)
                          | 17 => v = .int .i64 ((ub : Nat) : Int)
                          | 18 => v = .slice (some ⟨g3, 0, none⟩) n n
                          | 19 => v = .int .i64 ((at_ : Nat) : Int)
                          | 20 => v = .pointer (some ⟨g3, 0 + (at_) * 1, none⟩)
                          | 21 => v = .int .i64 ((e + 2 : Nat) : Int)
                          | 22 => v = .int .i64 (((e + 2 : Nat) : Int) - (1 : Int))
                          | 23 => v = .bool false
                          | 24 => v = .bool false
                          | _ => True) (by kernel_rfl) (by kernel_rfl) ?mono ⟨?r0, ?r1, ?r2, ?r3, ?r4, ?r5, ?r6, ?r7, ?r8, ?r9, ?r10, ?r11, ?r12, ?r13, ?r14, ?r15, ?r16, ?r17, ?r18, ?r19, ?r20, ?r21, ?r22, ?r23, ?r24, trivial⟩ ?post
                        case mono =>
                          intro i v w w' h hb
                          match i, h with
                          | 0, h => exact h
                          | 1, h => exact h
                          | 2, h => exact h
                          | 3, h => exact h
                          | 4, h => exact h
                          | 5, h => exact h
                          | 6, h => exact h
                          | 7, h => exact h
                          | 8, h => exact h
                          | 9, h => exact h
                          | 10, h => exact h
                          | 11, h => exact h
                          | 12, h => exact h
                          | 13, h => exact h
                          | 14, h => exact h
                          | 15, h => exact h
                          | 16, h => exact h
                          | 17, h => exact h
                          | 18, h => exact h
                          | 19, h => exact h
                          | 20, h => exact h
                          | 21, h => exact h
                          | 22, h => exact h
                          | 23, h => exact h
                          | 24, h => exact h
                          | _ + 25, h => trivial
                        case r0 =>
                          refine trule fun b__ w hW hold hpre => ⟨fun hwant K hK => ?_, fun hwant => ?_⟩
                          · clear hwant
                            have e15 : b__.eval (.tmp 15) = .pointer (some ⟨g4, 0, none⟩) := (hold 15 (by kernel_rfl)).trans rfl
                            exact opw_iaddr rfl e15 rfl (by kernel_rfl) (hK _ _ rfl (Below.refl _ _))
                          · rw [want_none rfl] at hwant; cases hwant
                        case r1 =>
                          refine trule fun b__ w hW hold hpre => ⟨fun hwant K hK => ?_, fun hwant => ?_⟩
                          · clear hwant
                            have e100 : b__.eval (.tmp 100) = .pointer (some ⟨g4, 0, none⟩) := hpre ⟨0, _⟩ (Array.mem_of_getElem? (i := 0) rfl) rfl _ _ rfl rfl
                            exact opw_cell rfl e100 (by kernel_rfl) ((hS.ext (undrew hW)).shut 0 rfl 0 rfl) (hK _ _ rfl (Below.refl _ _))
                          · rw [want_none rfl] at hwant; cases hwant
                        case r2 =>
                          refine trule fun b__ w hW hold hpre => ⟨fun hwant K hK => ?_, fun hwant => ?_⟩
                          · clear hwant
                            have e13 : b__.eval (.tmp 13) = .int .i64 ((at_ : Nat) : Int) := (hold 13 (by kernel_rfl)).trans rfl
                            exact opw_move rfl e13 (hK _ _ rfl (Below.refl _ _))
                          · rw [want_none rfl] at hwant; cases hwant
                        case r3 =>
                          refine trule fun b__ w hW hold hpre => ⟨fun hwant K hK => ?_, fun hwant => ?_⟩
                          · clear hwant
                            have e101 : b__.eval (.tmp 101) = .int .i64 ((xa : Nat) : Int) := hpre ⟨1, _⟩ (Array.mem_of_getElem? (i := 0) rfl) rfl _ _ rfl rfl
                            have e102 : b__.eval (.tmp 102) = .int .i64 ((at_ : Nat) : Int) := hpre ⟨2, _⟩ (Array.mem_of_getElem? (i := 1) rfl) rfl _ _ rfl rfl
                            exact opw_bin (vx := .int .i64 ((xa : Nat) : Int)) (vy := .int .i64 ((at_ : Nat) : Int)) (v := .bool true) rfl e101 e102 rfl (run_eqB D1.out) (hK _ _ rfl (Below.refl _ _))
                          · rw [want_none rfl] at hwant; cases hwant
                        case r4 =>
                          refine trule fun b__ w hW hold hpre => ⟨fun hwant K hK => ?_, fun hwant => ?_⟩
                          · clear hwant
                            have e103 : b__.eval (.tmp 103) = .bool true := hpre ⟨3, _⟩ (Array.mem_of_getElem? (i := 0) rfl) rfl _ _ rfl rfl
                            exact opw_move rfl e103 (hK _ _ rfl (Below.refl _ _))
                          · rw [want_none rfl] at hwant; cases hwant
                        case r5 =>
                          refine trule fun b__ w hW hold hpre => ⟨fun hwant K hK => ?_, fun hwant => ?_⟩
                          · clear hwant
                            have e8 : b__.eval (.tmp 8) = .slice (some ⟨g3, 0, none⟩) n n := (hold 8 (by kernel_rfl)).trans rfl
                            exact opw_move rfl e8 (hK _ _ rfl (Below.refl _ _))
                          · rw [want_some rfl rfl rfl (show b__.eval (.tmp 104) = .bool true from (hpre ⟨4, _⟩ (Array.mem_of_getElem? (i := 0) rfl) rfl _ _ rfl rfl))] at hwant; cases hwant
                        case r6 =>
                          refine trule fun b__ w hW hold hpre => ⟨fun hwant K hK => ?_, fun hwant => ?_⟩
                          · clear hwant
                            have e15 : b__.eval (.tmp 15) = .pointer (some ⟨g4, 0, none⟩) := (hold 15 (by kernel_rfl)).trans rfl
                            exact opw_iaddr rfl e15 rfl (by kernel_rfl) (hK _ _ rfl (Below.refl _ _))
                          · rw [want_some rfl rfl rfl (show b__.eval (.tmp 104) = .bool true from (hpre ⟨4, _⟩ (Array.mem_of_getElem? (i := 0) rfl) rfl _ _ rfl rfl))] at hwant; cases hwant
                        case r7 =>
                          refine trule fun b__ w hW hold hpre => ⟨fun hwant K hK => ?_, fun hwant => ?_⟩
                          · clear hwant
                            have e106 : b__.eval (.tmp 106) = .pointer (some ⟨g4, 1, none⟩) := hpre ⟨6, _⟩ (Array.mem_of_getElem? (i := 0) rfl) rfl _ _ rfl rfl
                            exact opw_cell rfl e106 (by kernel_rfl) ((hS.ext (undrew hW)).shut 0 rfl 1 rfl) (hK _ _ rfl (Below.refl _ _))
                          · rw [want_some rfl rfl rfl (show b__.eval (.tmp 104) = .bool true from (hpre ⟨4, _⟩ (Array.mem_of_getElem? (i := 1) rfl) rfl _ _ rfl rfl))] at hwant; cases hwant
                        case r8 =>
                          refine trule fun b__ w hW hold hpre => ⟨fun hwant K hK => ?_, fun hwant => ?_⟩
                          · clear hwant
                            have e105 : b__.eval (.tmp 105) = .slice (some ⟨g3, 0, none⟩) n n := hpre ⟨5, _⟩ (Array.mem_of_getElem? (i := 0) rfl) rfl _ _ rfl rfl
                            have e107 : b__.eval (.tmp 107) = .int .i64 ((xb : Nat) : Int) := hpre ⟨7, _⟩ (Array.mem_of_getElem? (i := 1) rfl) rfl _ _ rfl rfl
                            exact opw_iaddr rfl e105 e107 (run_iaddr_lit (m := xb) Tryd.underlying31 (by kernel_rfl) (by omega) (by omega)) (hK _ _ rfl (Below.refl _ _))
                          · rw [want_some rfl rfl rfl (show b__.eval (.tmp 104) = .bool true from (hpre ⟨4, _⟩ (Array.mem_of_getElem? (i := 2) rfl) rfl _ _ rfl rfl))] at hwant; cases hwant
                        case r9 =>
                          refine trule fun b__ w hW hold hpre => ⟨fun hwant K hK => ?_, fun hwant => ?_⟩
                          · clear hwant
                            have e108 : b__.eval (.tmp 108) = .pointer (some ⟨g3, 0 + (xb) * 1, none⟩) := hpre ⟨8, _⟩ (Array.mem_of_getElem? (i := 0) rfl) rfl _ _ rfl rfl
                            exact opw_cell rfl e108 (by kernel_rfl) (by rw [Nat.zero_add, Nat.mul_one]; exact own_cell ((hS.ext (undrew hW)).own 2 rfl) xb _ HNb.out) (hK _ _ rfl (Below.refl _ _))
                          · rw [want_some rfl rfl rfl (show b__.eval (.tmp 104) = .bool true from (hpre ⟨4, _⟩ (Array.mem_of_getElem? (i := 1) rfl) rfl _ _ rfl rfl))] at hwant; cases hwant
                        case r10 =>
                          refine trule fun b__ w hW hold hpre => ⟨fun hwant K hK => ?_, fun hwant => ?_⟩
                          · clear hwant
                            have e109 : b__.eval (.tmp 109) = .int .i64 ((ub : Nat) : Int) := hpre ⟨9, _⟩ (Array.mem_of_getElem? (i := 0) rfl) rfl _ _ rfl rfl
                            exact opw_bin (vx := .int .i64 ((ub : Nat) : Int)) (vy := .int .i64 0) (v := .bool true) rfl e109 rfl rfl (run_gtB D2.out) (hK _ _ rfl (Below.refl _ _))
                          · rw [want_some rfl rfl rfl (show b__.eval (.tmp 104) = .bool true from (hpre ⟨4, _⟩ (Array.mem_of_getElem? (i := 1) rfl) rfl _ _ rfl rfl))] at hwant; cases hwant
                        case r11 =>
                          refine trule fun b__ w hW hold hpre => ⟨fun hwant K hK => ?_, fun hwant => ?_⟩
                          · clear hwant
                            have e104 : b__.eval (.tmp 104) = .bool true := hpre ⟨4, _⟩ (Array.mem_of_getElem? (i := 0) rfl) rfl _ _ rfl rfl
                            have e110 : b__.eval (.tmp 110) = .bool true := hpre ⟨10, _⟩ (Array.mem_of_getElem? (i := 1) rfl) rfl _ _ rfl rfl
                            exact opw_pick rfl e104 (if_pos rfl) (hK _ _ e110 (Below.refl _ _))
                          · rw [want_none rfl] at hwant; cases hwant
                        case r12 =>
                          refine trule fun b__ w hW hold hpre => ⟨fun hwant K hK => ?_, fun hwant => ?_⟩
                          · clear hwant
                            have e111 : b__.eval (.tmp 111) = .bool true := hpre ⟨11, _⟩ (Array.mem_of_getElem? (i := 0) rfl) rfl _ _ rfl rfl
                            exact opw_move rfl e111 (hK _ _ rfl (Below.refl _ _))
                          · rw [want_none rfl] at hwant; cases hwant
                        case r13 =>
                          refine trule fun b__ w hW hold hpre => ⟨fun hwant K hK => ?_, fun hwant => ?_⟩
                          · clear hwant
                            have e8 : b__.eval (.tmp 8) = .slice (some ⟨g3, 0, none⟩) n n := (hold 8 (by kernel_rfl)).trans rfl
                            exact opw_move rfl e8 (hK _ _ rfl (Below.refl _ _))
                          · rw [want_some rfl rfl rfl (show b__.eval (.tmp 112) = .bool true from (hpre ⟨12, _⟩ (Array.mem_of_getElem? (i := 0) rfl) rfl _ _ rfl rfl))] at hwant; cases hwant
                        case r14 =>
                          refine trule fun b__ w hW hold hpre => ⟨fun hwant K hK => ?_, fun hwant => ?_⟩
                          · clear hwant
                            have e15 : b__.eval (.tmp 15) = .pointer (some ⟨g4, 0, none⟩) := (hold 15 (by kernel_rfl)).trans rfl
                            exact opw_iaddr rfl e15 rfl (by kernel_rfl) (hK _ _ rfl (Below.refl _ _))
                          · rw [want_some rfl rfl rfl (show b__.eval (.tmp 112) = .bool true from (hpre ⟨12, _⟩ (Array.mem_of_getElem? (i := 0) rfl) rfl _ _ rfl rfl))] at hwant; cases hwant
                        case r15 =>
                          refine trule fun b__ w hW hold hpre => ⟨fun hwant K hK => ?_, fun hwant => ?_⟩
                          · clear hwant
                            have e114 : b__.eval (.tmp 114) = .pointer (some ⟨g4, 1, none⟩) := hpre ⟨14, _⟩ (Array.mem_of_getElem? (i := 0) rfl) rfl _ _ rfl rfl
                            exact opw_cell rfl e114 (by kernel_rfl) ((hS.ext (undrew hW)).shut 0 rfl 1 rfl) (hK _ _ rfl (Below.refl _ _))
                          · rw [want_some rfl rfl rfl (show b__.eval (.tmp 112) = .bool true from (hpre ⟨12, _⟩ (Array.mem_of_getElem? (i := 1) rfl) rfl _ _ rfl rfl))] at hwant; cases hwant
                        case r16 =>
                          refine trule fun b__ w hW hold hpre => ⟨fun hwant K hK => ?_, fun hwant => ?_⟩
                          · clear hwant
                            have e113 : b__.eval (.tmp 113) = .slice (some ⟨g3, 0, none⟩) n n := hpre ⟨13, _⟩ (Array.mem_of_getElem? (i := 0) rfl) rfl _ _ rfl rfl
                            have e115 : b__.eval (.tmp 115) = .int .i64 ((xb : Nat) : Int) := hpre ⟨15, _⟩ (Array.mem_of_getElem? (i := 1) rfl) rfl _ _ rfl rfl
                            exact opw_iaddr rfl e113 e115 (run_iaddr_lit (m := xb) Tryd.underlying31 (by kernel_rfl) (by omega) (by omega)) (hK _ _ rfl (Below.refl _ _))
                          · rw [want_some rfl rfl rfl (show b__.eval (.tmp 112) = .bool true from (hpre ⟨12, _⟩ (Array.mem_of_getElem? (i := 2) rfl) rfl _ _ rfl rfl))] at hwant; cases hwant
                        case r17 =>
                          refine trule fun b__ w hW hold hpre => ⟨fun hwant K hK => ?_, fun hwant => ?_⟩
                          · clear hwant
                            have e116 : b__.eval (.tmp 116) = .pointer (some ⟨g3, 0 + (xb) * 1, none⟩) := hpre ⟨16, _⟩ (Array.mem_of_getElem? (i := 0) rfl) rfl _ _ rfl rfl
                            exact opw_cell rfl e116 (by kernel_rfl) (by rw [Nat.zero_add, Nat.mul_one]; exact own_cell ((hS.ext (undrew hW)).own 2 rfl) xb _ HNb.out) (hK _ _ rfl (Below.refl _ _))
                          · rw [want_some rfl rfl rfl (show b__.eval (.tmp 112) = .bool true from (hpre ⟨12, _⟩ (Array.mem_of_getElem? (i := 1) rfl) rfl _ _ rfl rfl))] at hwant; cases hwant
                        case r18 =>
                          refine trule fun b__ w hW hold hpre => ⟨fun hwant K hK => ?_, fun hwant => ?_⟩
                          · clear hwant
                            have e8 : b__.eval (.tmp 8) = .slice (some ⟨g3, 0, none⟩) n n := (hold 8 (by kernel_rfl)).trans rfl
                            exact opw_move rfl e8 (hK _ _ rfl (Below.refl _ _))
                          · rw [want_some rfl rfl rfl (show b__.eval (.tmp 112) = .bool true from (hpre ⟨12, _⟩ (Array.mem_of_getElem? (i := 0) rfl) rfl _ _ rfl rfl))] at hwant; cases hwant
                        case r19 =>
                          refine trule fun b__ w hW hold hpre => ⟨fun hwant K hK => ?_, fun hwant => ?_⟩
                          · clear hwant
                            have e13 : b__.eval (.tmp 13) = .int .i64 ((at_ : Nat) : Int) := (hold 13 (by kernel_rfl)).trans rfl
                            exact opw_move rfl e13 (hK _ _ rfl (Below.refl _ _))
                          · rw [want_some rfl rfl rfl (show b__.eval (.tmp 112) = .bool true from (hpre ⟨12, _⟩ (Array.mem_of_getElem? (i := 0) rfl) rfl _ _ rfl rfl))] at hwant; cases hwant
                        case r20 =>
                          refine trule fun b__ w hW hold hpre => ⟨fun hwant K hK => ?_, fun hwant => ?_⟩
                          · clear hwant
                            have e118 : b__.eval (.tmp 118) = .slice (some ⟨g3, 0, none⟩) n n := hpre ⟨18, _⟩ (Array.mem_of_getElem? (i := 0) rfl) rfl _ _ rfl rfl
                            have e119 : b__.eval (.tmp 119) = .int .i64 ((at_ : Nat) : Int) := hpre ⟨19, _⟩ (Array.mem_of_getElem? (i := 1) rfl) rfl _ _ rfl rfl
                            exact opw_iaddr rfl e118 e119 (run_iaddr_lit (m := at_) Tryd.underlying31 (by kernel_rfl) (by omega) (by omega)) (hK _ _ rfl (Below.refl _ _))
                          · rw [want_some rfl rfl rfl (show b__.eval (.tmp 112) = .bool true from (hpre ⟨12, _⟩ (Array.mem_of_getElem? (i := 2) rfl) rfl _ _ rfl rfl))] at hwant; cases hwant
                        case r21 =>
                          refine trule fun b__ w hW hold hpre => ⟨fun hwant K hK => ?_, fun hwant => ?_⟩
                          · clear hwant
                            have e120 : b__.eval (.tmp 120) = .pointer (some ⟨g3, 0 + (at_) * 1, none⟩) := hpre ⟨20, _⟩ (Array.mem_of_getElem? (i := 0) rfl) rfl _ _ rfl rfl
                            exact opw_cell rfl e120 (by kernel_rfl) (by rw [Nat.zero_add, Nat.mul_one]; exact own_cell ((hS.ext (undrew hW)).own 2 rfl) at_ _ HNa.out) (hK _ _ rfl (Below.refl _ _))
                          · rw [want_some rfl rfl rfl (show b__.eval (.tmp 112) = .bool true from (hpre ⟨12, _⟩ (Array.mem_of_getElem? (i := 1) rfl) rfl _ _ rfl rfl))] at hwant; cases hwant
                        case r22 =>
                          refine trule fun b__ w hW hold hpre => ⟨fun hwant K hK => ?_, fun hwant => ?_⟩
                          · clear hwant
                            have e121 : b__.eval (.tmp 121) = .int .i64 ((e + 2 : Nat) : Int) := hpre ⟨21, _⟩ (Array.mem_of_getElem? (i := 0) rfl) rfl _ _ rfl rfl
                            exact opw_bin (vx := .int .i64 ((e + 2 : Nat) : Int)) (vy := .int .i64 (1 : Int)) (v := .int .i64 (((e + 2 : Nat) : Int) - (1 : Int))) rfl e121 rfl rfl (run_sub64 (by omega) (by omega)) (hK _ _ rfl (Below.refl _ _))
                          · rw [want_some rfl rfl rfl (show b__.eval (.tmp 112) = .bool true from (hpre ⟨12, _⟩ (Array.mem_of_getElem? (i := 1) rfl) rfl _ _ rfl rfl))] at hwant; cases hwant
                        case r23 =>
                          refine trule fun b__ w hW hold hpre => ⟨fun hwant K hK => ?_, fun hwant => ?_⟩
                          · clear hwant
                            have e117 : b__.eval (.tmp 117) = .int .i64 ((ub : Nat) : Int) := hpre ⟨17, _⟩ (Array.mem_of_getElem? (i := 0) rfl) rfl _ _ rfl rfl
                            have e122 : b__.eval (.tmp 122) = .int .i64 (((e + 2 : Nat) : Int) - (1 : Int)) := hpre ⟨22, _⟩ (Array.mem_of_getElem? (i := 1) rfl) rfl _ _ rfl rfl
                            exact opw_bin (vx := .int .i64 ((ub : Nat) : Int)) (vy := .int .i64 (((e + 2 : Nat) : Int) - (1 : Int))) (v := .bool false) rfl e117 e122 rfl (run_eqB D3.out) (hK _ _ rfl (Below.refl _ _))
                          · rw [want_some rfl rfl rfl (show b__.eval (.tmp 112) = .bool true from (hpre ⟨12, _⟩ (Array.mem_of_getElem? (i := 2) rfl) rfl _ _ rfl rfl))] at hwant; cases hwant
                        case r24 =>
                          refine trule fun b__ w hW hold hpre => ⟨fun hwant K hK => ?_, fun hwant => ?_⟩
                          · clear hwant
                            have e112 : b__.eval (.tmp 112) = .bool true := hpre ⟨12, _⟩ (Array.mem_of_getElem? (i := 0) rfl) rfl _ _ rfl rfl
                            have e123 : b__.eval (.tmp 123) = .bool false := hpre ⟨23, _⟩ (Array.mem_of_getElem? (i := 1) rfl) rfl _ _ rfl rfl
                            exact opw_pick rfl e112 (if_pos rfl) (hK _ _ e123 (Below.refl _ _))
                          · rw [want_none rfl] at hwant; cases hwant
                        case post =>
                          intro b__ wz hW hdf hsz hold hT
                          have e100 : b__.eval (.tmp 100) = .pointer (some ⟨g4, 0, none⟩) := hT 0 _ 100 rfl rfl
                          have e101 : b__.eval (.tmp 101) = .int .i64 ((xa : Nat) : Int) := hT 1 _ 101 rfl rfl
                          have e102 : b__.eval (.tmp 102) = .int .i64 ((at_ : Nat) : Int) := hT 2 _ 102 rfl rfl
                          have e103 : b__.eval (.tmp 103) = .bool true := hT 3 _ 103 rfl rfl
                          have e104 : b__.eval (.tmp 104) = .bool true := hT 4 _ 104 rfl rfl
                          have e105 : b__.eval (.tmp 105) = .slice (some ⟨g3, 0, none⟩) n n := hT 5 _ 105 rfl rfl
                          have e106 : b__.eval (.tmp 106) = .pointer (some ⟨g4, 1, none⟩) := hT 6 _ 106 rfl rfl
                          have e107 : b__.eval (.tmp 107) = .int .i64 ((xb : Nat) : Int) := hT 7 _ 107 rfl rfl
                          have e108 : b__.eval (.tmp 108) = .pointer (some ⟨g3, 0 + (xb) * 1, none⟩) := hT 8 _ 108 rfl rfl
                          have e109 : b__.eval (.tmp 109) = .int .i64 ((ub : Nat) : Int) := hT 9 _ 109 rfl rfl
                          have e110 : b__.eval (.tmp 110) = .bool true := hT 10 _ 110 rfl rfl
                          have e111 : b__.eval (.tmp 111) = .bool true := hT 11 _ 111 rfl rfl
                          have e112 : b__.eval (.tmp 112) = .bool true := hT 12 _ 112 rfl rfl
                          have e113 : b__.eval (.tmp 113) = .slice (some ⟨g3, 0, none⟩) n n := hT 13 _ 113 rfl rfl
                          have e114 : b__.eval (.tmp 114) = .pointer (some ⟨g4, 1, none⟩) := hT 14 _ 114 rfl rfl
                          have e115 : b__.eval (.tmp 115) = .int .i64 ((xb : Nat) : Int) := hT 15 _ 115 rfl rfl
                          have e116 : b__.eval (.tmp 116) = .pointer (some ⟨g3, 0 + (xb) * 1, none⟩) := hT 16 _ 116 rfl rfl
                          have e117 : b__.eval (.tmp 117) = .int .i64 ((ub : Nat) : Int) := hT 17 _ 117 rfl rfl
                          have e118 : b__.eval (.tmp 118) = .slice (some ⟨g3, 0, none⟩) n n := hT 18 _ 118 rfl rfl
                          have e119 : b__.eval (.tmp 119) = .int .i64 ((at_ : Nat) : Int) := hT 19 _ 119 rfl rfl
                          have e120 : b__.eval (.tmp 120) = .pointer (some ⟨g3, 0 + (at_) * 1, none⟩) := hT 20 _ 120 rfl rfl
                          have e121 : b__.eval (.tmp 121) = .int .i64 ((e + 2 : Nat) : Int) := hT 21 _ 121 rfl rfl
                          have e122 : b__.eval (.tmp 122) = .int .i64 (((e + 2 : Nat) : Int) - (1 : Int)) := hT 22 _ 122 rfl rfl
                          have e123 : b__.eval (.tmp 123) = .bool false := hT 23 _ 123 rfl rfl
                          have e124 : b__.eval (.tmp 124) = .bool false := hT 24 _ 124 rfl rfl
                          obtain ⟨vs, hvs, hb⟩ := frame_of hdf hsz hold
                          replace e100 : vs 100 = .pointer (some ⟨g4, 0, none⟩) := (hvs 100).symm.trans e100
                          replace e101 : vs 101 = .int .i64 ((xa : Nat) : Int) := (hvs 101).symm.trans e101
                          replace e102 : vs 102 = .int .i64 ((at_ : Nat) : Int) := (hvs 102).symm.trans e102
                          replace e103 : vs 103 = .bool true := (hvs 103).symm.trans e103
                          replace e104 : vs 104 = .bool true := (hvs 104).symm.trans e104
                          replace e105 : vs 105 = .slice (some ⟨g3, 0, none⟩) n n := (hvs 105).symm.trans e105
                          replace e106 : vs 106 = .pointer (some ⟨g4, 1, none⟩) := (hvs 106).symm.trans e106
                          replace e107 : vs 107 = .int .i64 ((xb : Nat) : Int) := (hvs 107).symm.trans e107
                          replace e108 : vs 108 = .pointer (some ⟨g3, 0 + (xb) * 1, none⟩) := (hvs 108).symm.trans e108
                          replace e109 : vs 109 = .int .i64 ((ub : Nat) : Int) := (hvs 109).symm.trans e109
                          replace e110 : vs 110 = .bool true := (hvs 110).symm.trans e110
                          replace e111 : vs 111 = .bool true := (hvs 111).symm.trans e111
                          replace e112 : vs 112 = .bool true := (hvs 112).symm.trans e112
                          replace e113 : vs 113 = .slice (some ⟨g3, 0, none⟩) n n := (hvs 113).symm.trans e113
                          replace e114 : vs 114 = .pointer (some ⟨g4, 1, none⟩) := (hvs 114).symm.trans e114
                          replace e115 : vs 115 = .int .i64 ((xb : Nat) : Int) := (hvs 115).symm.trans e115
                          replace e116 : vs 116 = .pointer (some ⟨g3, 0 + (xb) * 1, none⟩) := (hvs 116).symm.trans e116
                          replace e117 : vs 117 = .int .i64 ((ub : Nat) : Int) := (hvs 117).symm.trans e117
                          replace e118 : vs 118 = .slice (some ⟨g3, 0, none⟩) n n := (hvs 118).symm.trans e118
                          replace e119 : vs 119 = .int .i64 ((at_ : Nat) : Int) := (hvs 119).symm.trans e119
                          replace e120 : vs 120 = .pointer (some ⟨g3, 0 + (at_) * 1, none⟩) := (hvs 120).symm.trans e120
                          replace e121 : vs 121 = .int .i64 ((e + 2 : Nat) : Int) := (hvs 121).symm.trans e121
                          replace e122 : vs 122 = .int .i64 (((e + 2 : Nat) : Int) - (1 : Int)) := (hvs 122).symm.trans e122
                          replace e123 : vs 123 = .bool false := (hvs 123).symm.trans e123
                          replace e124 : vs 124 = .bool false := (hvs 124).symm.trans e124
                          subst hb
                          clear hvs hold hT hdf hsz
                          simp only [setAll, Act.put, List.setIfInBounds_toArray, List.set_cons_zero, List.set_cons_succ, List.getElem_toArray, List.getElem_cons_succ, List.getElem_cons_zero]
                          rw [e124]
                          replace hS := hS.ext hW
                          go_wp2_with fail
                          exact ⟨⟨t + 1, by go_num, rfl, rfl, htl, HN3, hS.sub (List.sublist_cons_self _ _)⟩, by simp [intOf]; omega⟩
                  · have HN3 := Lib.hid (HN2.out fun h => hc1 h.1)
                    have D1 : Hid (decide (((xa : Nat) : Int) = ((at_ : Nat) : Int)) = false) := Lib.hid (decide_eq_false (by omega))
                    clear hc1
                    go_wp2_with (first
                      | ((with_reducible show wpList _ _ _ (⟨_, .binOp _ _ _ _ _, _, _, _, _⟩ :: _) _ _); (first | ((with_reducible show wpList _ _ _ (⟨_, .binOp .lss _ _ _ _, _, _, _, _⟩ :: _) _ _); refine st_lss rfl _ _ _ _ rfl _ _ _ rfl rfl (fun h_ => ?_) (fun h_ => ?_)) | ((with_reducible show wpList _ _ _ (⟨_, .binOp .leq _ _ _ _, _, _, _, _⟩ :: _) _ _); refine st_leq rfl _ _ _ _ rfl _ _ _ rfl rfl (fun h_ => ?_) (fun h_ => ?_)) | ((with_reducible show wpList _ _ _ (⟨_, .binOp .gtr _ _ _ _, _, _, _, _⟩ :: _) _ _); refine st_gtr rfl _ _ _ _ rfl _ _ _ rfl rfl (fun h_ => ?_) (fun h_ => ?_)) | ((with_reducible show wpList _ _ _ (⟨_, .binOp .geq _ _ _ _, _, _, _, _⟩ :: _) _ _); refine st_geq rfl _ _ _ _ rfl _ _ _ rfl rfl (fun h_ => ?_) (fun h_ => ?_)) | ((with_reducible show wpList _ _ _ (⟨_, .binOp .eql _ _ _ _, _, _, _, _⟩ :: _) _ _); refine st_eql rfl _ _ _ _ rfl _ _ _ rfl rfl (fun h_ => ?_) (fun h_ => ?_)) | ((with_reducible show wpList _ _ _ (⟨_, .binOp .neq _ _ _ _, _, _, _, _⟩ :: _) _ _); refine st_neq rfl _ _ _ _ rfl _ _ _ rfl rfl (fun h_ => ?_) (fun h_ => ?_))) <;> go_prune)
                      | ((with_reducible show wpList _ _ _ (⟨_, .indexAddr _ _ _, _, _, _, _⟩ :: _) _ _); refine st_iaddr2 hS rfl _ _ _ rfl _ rfl rfl (by assumption) Tryd.underlying25 (by kernel_rfl) (by first | assumption | omega) _ _ (by assumption) (by assumption) ?_; intro b_ j_ hc0_ hc1_)
                      | ((with_reducible show wpList _ _ _ (⟨some 15, _, _, _, _, _⟩ :: _) _ _); refine st_alloc hS rfl _ rfl (by kernel_rfl) ?_; clear hS; intro g4 w_ hS; (try simp only [Act.put, Act.eval, List.set_cons_zero, List.set_cons_succ, List.setIfInBounds_toArray, Array.getD_eq_getD_getElem?, List.getElem?_toArray, List.getElem?_cons_succ, List.getElem?_cons_zero, Option.getD_some, Value.cells] at hS))
                      | ((with_reducible show wpList _ _ _ (⟨_, .store _ _ _, _, _, _, _⟩ :: _) _ _); first | (refine st_store hS 0 rfl _ _ _ rfl _ _ rfl rfl _ _ rfl (by kernel_rfl) (by kernel_rfl) (by kernel_rfl) ?_; clear hS; intro w_ hS; (try simp only [Act.put, Act.eval, List.set_cons_zero, List.set_cons_succ, List.setIfInBounds_toArray, Array.getD_eq_getD_getElem?, List.getElem?_toArray, List.getElem?_cons_succ, List.getElem?_cons_zero, Option.getD_some, Value.cells] at hS)) | (refine st_store hS 1 rfl _ _ _ rfl _ _ rfl rfl _ _ rfl (by kernel_rfl) (by kernel_rfl) (by kernel_rfl) ?_; clear hS; intro w_ hS; (try simp only [Act.put, Act.eval, List.set_cons_zero, List.set_cons_succ, List.setIfInBounds_toArray, Array.getD_eq_getD_getElem?, List.getElem?_toArray, List.getElem?_cons_succ, List.getElem?_cons_zero, Option.getD_some, Value.cells] at hS)) | (refine st_store hS 2 rfl _ _ _ rfl _ _ rfl rfl _ _ rfl (by kernel_rfl) (by kernel_rfl) (by kernel_rfl) ?_; clear hS; intro w_ hS; (try simp only [Act.put, Act.eval, List.set_cons_zero, List.set_cons_succ, List.setIfInBounds_toArray, Array.getD_eq_getD_getElem?, List.getElem?_toArray, List.getElem?_cons_succ, List.getElem?_cons_zero, Option.getD_some, Value.cells] at hS)) | (refine st_store hS 3 rfl _ _ _ rfl _ _ rfl rfl _ _ rfl (by kernel_rfl) (by kernel_rfl) (by kernel_rfl) ?_; clear hS; intro w_ hS; (try simp only [Act.put, Act.eval, List.set_cons_zero, List.set_cons_succ, List.setIfInBounds_toArray, Array.getD_eq_getD_getElem?, List.getElem?_toArray, List.getElem?_cons_succ, List.getElem?_cons_zero, Option.getD_some, Value.cells] at hS)) | (refine st_cstore hS 0 rfl _ _ _ rfl _ _ _ rfl rfl rfl (by first | (simp; done) | (simp; omega) | exact of_decide_eq_true (by kernel_rfl)) rfl (by first | rfl | assumption) (by kernel_rfl) ?_; clear hS; intro w_ hS; (try simp only [Act.put, Act.eval, List.set_cons_zero, List.set_cons_succ, List.setIfInBounds_toArray, Array.getD_eq_getD_getElem?, List.getElem?_toArray, List.getElem?_cons_succ, List.getElem?_cons_zero, Option.getD_some, Value.cells] at hS)) | (refine st_cstore hS 1 rfl _ _ _ rfl _ _ _ rfl rfl rfl (by first | (simp; done) | (simp; omega) | exact of_decide_eq_true (by kernel_rfl)) rfl (by first | rfl | assumption) (by kernel_rfl) ?_; clear hS; intro w_ hS; (try simp only [Act.put, Act.eval, List.set_cons_zero, List.set_cons_succ, List.setIfInBounds_toArray, Array.getD_eq_getD_getElem?, List.getElem?_toArray, List.getElem?_cons_succ, List.getElem?_cons_zero, Option.getD_some, Value.cells] at hS)) | (refine st_cstore hS 2 rfl _ _ _ rfl _ _ _ rfl rfl rfl (by first | (simp; done) | (simp; omega) | exact of_decide_eq_true (by kernel_rfl)) rfl (by first | rfl | assumption) (by kernel_rfl) ?_; clear hS; intro w_ hS; (try simp only [Act.put, Act.eval, List.set_cons_zero, List.set_cons_succ, List.setIfInBounds_toArray, Array.getD_eq_getD_getElem?, List.getElem?_toArray, List.getElem?_cons_succ, List.getElem?_cons_zero, Option.getD_some, Value.cells] at hS)) | (refine st_cstore hS 3 rfl _ _ _ rfl _ _ _ rfl rfl rfl (by first | (simp; done) | (simp; omega) | exact of_decide_eq_true (by kernel_rfl)) rfl (by first | rfl | assumption) (by kernel_rfl) ?_; clear hS; intro w_ hS; (try simp only [Act.put, Act.eval, List.set_cons_zero, List.set_cons_succ, List.setIfInBounds_toArray, Array.getD_eq_getD_getElem?, List.getElem?_toArray, List.getElem?_cons_succ, List.getElem?_cons_zero, Option.getD_some, Value.cells] at hS))))
                    refine wp_region_typed (fun i__ v w => match i__ with
                      | 0 => v = .pointer (some ⟨g4, 0, none⟩)
                      | 1 => v = .int .i64 ((xa : Nat) : Int)
                      | 2 => v = .int .i64 ((at_ : Nat) : Int)
                      | 3 => v = .bool false
                      | 4 => v = .bool false
                      | 5 => True
                      | 6 => True
                      | 7 => True
                      | 8 => True
                      | 9 => True
                      | 10 => True
                      | 11 => v = .bool false
                      | 12 => v = .bool false
                      | 13 => True
                      | 14 => True
                      | 15 => True
                      | 16 => True
                      | 17 => True
                      | 18 => True
                      | 19 => True
                      | 20 => True
                      | 21 => True
                      | 22 => True
                      | 23 => True
                      | 24 => v = .bool false
                      | _ => True) (by kernel_rfl) (by kernel_rfl) ?mono ⟨?r0, ?r1, ?r2, ?r3, ?r4, ?r5, ?r6, ?r7, ?r8, ?r9, ?r10, ?r11, ?r12, ?r13, ?r14, ?r15, ?r16, ?r17, ?r18, ?r19, ?r20, ?r21, ?r22, ?r23, ?r24, trivial⟩ ?post
                    case mono =>
                      intro i v w w' h hb
                      match i, h with
                      | 0, h => exact h
                      | 1, h => exact h
                      | 2, h => exact h
                      | 3, h => exact h
                      | 4, h => exact h
                      | 5, h => exact h
                      | 6, h => exact h
                      | 7, h => exact h
                      | 8, h => exact h
                      | 9, h => exact h
                      | 10, h => exact h
                      | 11, h => exact h
                      | 12, h => exact h
                      | 13, h => exact h
                      | 14, h => exact h
                      | 15, h => exact h
                      | 16, h => exact h
                      | 17, h => exact h
                      | 18, h => exact h
                      | 19, h => exact h
                      | 20, h => exact h
                      | 21, h => exact h
                      | 22, h => exact h
                      | 23, h => exact h
                      | 24, h => exact h
                      | _ + 25, h => trivial
                    case r0 =>
                      refine trule fun b__ w hW hold hpre => ⟨fun hwant K hK => ?_, fun hwant => ?_⟩
                      · clear hwant
                        have e15 : b__.eval (.tmp 15) = .pointer (some ⟨g4, 0, none⟩) := (hold 15 (by kernel_rfl)).trans rfl
                        exact opw_iaddr rfl e15 rfl (by kernel_rfl) (hK _ _ rfl (Below.refl _ _))
                      · rw [want_none rfl] at hwant; cases hwant
                    case r1 =>
                      refine trule fun b__ w hW hold hpre => ⟨fun hwant K hK => ?_, fun hwant => ?_⟩
                      · clear hwant
                        have e100 : b__.eval (.tmp 100) = .pointer (some ⟨g4, 0, none⟩) := hpre ⟨0, _⟩ (Array.mem_of_getElem? (i := 0) rfl) rfl _ _ rfl rfl
                        exact opw_cell rfl e100 (by kernel_rfl) ((hS.ext (undrew hW)).shut 0 rfl 0 rfl) (hK _ _ rfl (Below.refl _ _))
                      · rw [want_none rfl] at hwant; cases hwant
                    case r2 =>
                      refine trule fun b__ w hW hold hpre => ⟨fun hwant K hK => ?_, fun hwant => ?_⟩
                      · clear hwant
                        have e13 : b__.eval (.tmp 13) = .int .i64 ((at_ : Nat) : Int) := (hold 13 (by kernel_rfl)).trans rfl
                        exact opw_move rfl e13 (hK _ _ rfl (Below.refl _ _))
                      · rw [want_none rfl] at hwant; cases hwant
                    case r3 =>
                      refine trule fun b__ w hW hold hpre => ⟨fun hwant K hK => ?_, fun hwant => ?_⟩
                      · clear hwant
                        have e101 : b__.eval (.tmp 101) = .int .i64 ((xa : Nat) : Int) := hpre ⟨1, _⟩ (Array.mem_of_getElem? (i := 0) rfl) rfl _ _ rfl rfl
                        have e102 : b__.eval (.tmp 102) = .int .i64 ((at_ : Nat) : Int) := hpre ⟨2, _⟩ (Array.mem_of_getElem? (i := 1) rfl) rfl _ _ rfl rfl
                        exact opw_bin (vx := .int .i64 ((xa : Nat) : Int)) (vy := .int .i64 ((at_ : Nat) : Int)) (v := .bool false) rfl e101 e102 rfl (run_eqB D1.out) (hK _ _ rfl (Below.refl _ _))
                      · rw [want_none rfl] at hwant; cases hwant
                    case r4 =>
                      refine trule fun b__ w hW hold hpre => ⟨fun hwant K hK => ?_, fun hwant => ?_⟩
                      · clear hwant
                        have e103 : b__.eval (.tmp 103) = .bool false := hpre ⟨3, _⟩ (Array.mem_of_getElem? (i := 0) rfl) rfl _ _ rfl rfl
                        exact opw_move rfl e103 (hK _ _ rfl (Below.refl _ _))
                      · rw [want_none rfl] at hwant; cases hwant
                    case r5 =>
                      refine trule fun b__ w hW hold hpre => ⟨fun hwant K hK => ?_, fun hwant => ?_⟩
                      · rw [want_some rfl rfl rfl (show b__.eval (.tmp 104) = .bool false from hpre ⟨4, _⟩ (Array.mem_of_getElem? (i := 0) rfl) rfl _ _ rfl rfl)] at hwant; cases hwant
                      · exact trivial
                    case r6 =>
                      refine trule fun b__ w hW hold hpre => ⟨fun hwant K hK => ?_, fun hwant => ?_⟩
                      · rw [want_some rfl rfl rfl (show b__.eval (.tmp 104) = .bool false from hpre ⟨4, _⟩ (Array.mem_of_getElem? (i := 0) rfl) rfl _ _ rfl rfl)] at hwant; cases hwant
                      · exact trivial
                    case r7 =>
                      refine trule fun b__ w hW hold hpre => ⟨fun hwant K hK => ?_, fun hwant => ?_⟩
                      · rw [want_some rfl rfl rfl (show b__.eval (.tmp 104) = .bool false from hpre ⟨4, _⟩ (Array.mem_of_getElem? (i := 1) rfl) rfl _ _ rfl rfl)] at hwant; cases hwant
                      · exact trivial
                    case r8 =>
                      refine trule fun b__ w hW hold hpre => ⟨fun hwant K hK => ?_, fun hwant => ?_⟩
                      · rw [want_some rfl rfl rfl (show b__.eval (.tmp 104) = .bool false from hpre ⟨4, _⟩ (Array.mem_of_getElem? (i := 2) rfl) rfl _ _ rfl rfl)] at hwant; cases hwant
                      · exact trivial
                    case r9 =>
                      refine trule fun b__ w hW hold hpre => ⟨fun hwant K hK => ?_, fun hwant => ?_⟩
                      · rw [want_some rfl rfl rfl (show b__.eval (.tmp 104) = .bool false from hpre ⟨4, _⟩ (Array.mem_of_getElem? (i := 1) rfl) rfl _ _ rfl rfl)] at hwant; cases hwant
                      · exact trivial
                    case r10 =>
                      refine trule fun b__ w hW hold hpre => ⟨fun hwant K hK => ?_, fun hwant => ?_⟩
                      · rw [want_some rfl rfl rfl (show b__.eval (.tmp 104) = .bool false from hpre ⟨4, _⟩ (Array.mem_of_getElem? (i := 1) rfl) rfl _ _ rfl rfl)] at hwant; cases hwant
                      · exact trivial
                    case r11 =>
                      refine trule fun b__ w hW hold hpre => ⟨fun hwant K hK => ?_, fun hwant => ?_⟩
                      · clear hwant
                        have e104 : b__.eval (.tmp 104) = .bool false := hpre ⟨4, _⟩ (Array.mem_of_getElem? (i := 0) rfl) rfl _ _ rfl rfl
                        have e110 : (fun (v : Value) (w : World) => True) (b__.eval (.tmp 110)) w := hpre ⟨10, _⟩ (Array.mem_of_getElem? (i := 1) rfl) rfl _ _ rfl rfl
                        exact opw_pick rfl e104 rfl (hK _ _ rfl (Below.refl _ _))
                      · rw [want_none rfl] at hwant; cases hwant
                    case r12 =>
                      refine trule fun b__ w hW hold hpre => ⟨fun hwant K hK => ?_, fun hwant => ?_⟩
                      · clear hwant
                        have e111 : b__.eval (.tmp 111) = .bool false := hpre ⟨11, _⟩ (Array.mem_of_getElem? (i := 0) rfl) rfl _ _ rfl rfl
                        exact opw_move rfl e111 (hK _ _ rfl (Below.refl _ _))
                      · rw [want_none rfl] at hwant; cases hwant
                    case r13 =>
                      refine trule fun b__ w hW hold hpre => ⟨fun hwant K hK => ?_, fun hwant => ?_⟩
                      · rw [want_some rfl rfl rfl (show b__.eval (.tmp 112) = .bool false from hpre ⟨12, _⟩ (Array.mem_of_getElem? (i := 0) rfl) rfl _ _ rfl rfl)] at hwant; cases hwant
                      · exact trivial
                    case r14 =>
                      refine trule fun b__ w hW hold hpre => ⟨fun hwant K hK => ?_, fun hwant => ?_⟩
                      · rw [want_some rfl rfl rfl (show b__.eval (.tmp 112) = .bool false from hpre ⟨12, _⟩ (Array.mem_of_getElem? (i := 0) rfl) rfl _ _ rfl rfl)] at hwant; cases hwant
                      · exact trivial
                    case r15 =>
                      refine trule fun b__ w hW hold hpre => ⟨fun hwant K hK => ?_, fun hwant => ?_⟩
                      · rw [want_some rfl rfl rfl (show b__.eval (.tmp 112) = .bool false from hpre ⟨12, _⟩ (Array.mem_of_getElem? (i := 1) rfl) rfl _ _ rfl rfl)] at hwant; cases hwant
                      · exact trivial
                    case r16 =>
                      refine trule fun b__ w hW hold hpre => ⟨fun hwant K hK => ?_, fun hwant => ?_⟩
                      · rw [want_some rfl rfl rfl (show b__.eval (.tmp 112) = .bool false from hpre ⟨12, _⟩ (Array.mem_of_getElem? (i := 2) rfl) rfl _ _ rfl rfl)] at hwant; cases hwant
                      · exact trivial
                    case r17 =>
                      refine trule fun b__ w hW hold hpre => ⟨fun hwant K hK => ?_, fun hwant => ?_⟩
                      · rw [want_some rfl rfl rfl (show b__.eval (.tmp 112) = .bool false from hpre ⟨12, _⟩ (Array.mem_of_getElem? (i := 1) rfl) rfl _ _ rfl rfl)] at hwant; cases hwant
                      · exact trivial
                    case r18 =>
                      refine trule fun b__ w hW hold hpre => ⟨fun hwant K hK => ?_, fun hwant => ?_⟩
                      · rw [want_some rfl rfl rfl (show b__.eval (.tmp 112) = .bool false from hpre ⟨12, _⟩ (Array.mem_of_getElem? (i := 0) rfl) rfl _ _ rfl rfl)] at hwant; cases hwant
                      · exact trivial
                    case r19 =>
                      refine trule fun b__ w hW hold hpre => ⟨fun hwant K hK => ?_, fun hwant => ?_⟩
                      · rw [want_some rfl rfl rfl (show b__.eval (.tmp 112) = .bool false from hpre ⟨12, _⟩ (Array.mem_of_getElem? (i := 0) rfl) rfl _ _ rfl rfl)] at hwant; cases hwant
                      · exact trivial
                    case r20 =>
                      refine trule fun b__ w hW hold hpre => ⟨fun hwant K hK => ?_, fun hwant => ?_⟩
                      · rw [want_some rfl rfl rfl (show b__.eval (.tmp 112) = .bool false from hpre ⟨12, _⟩ (Array.mem_of_getElem? (i := 2) rfl) rfl _ _ rfl rfl)] at hwant; cases hwant
                      · exact trivial
                    case r21 =>
                      refine trule fun b__ w hW hold hpre => ⟨fun hwant K hK => ?_, fun hwant => ?_⟩
                      · rw [want_some rfl rfl rfl (show b__.eval (.tmp 112) = .bool false from hpre ⟨12, _⟩ (Array.mem_of_getElem? (i := 1) rfl) rfl _ _ rfl rfl)] at hwant; cases hwant
                      · exact trivial
                    case r22 =>
                      refine trule fun b__ w hW hold hpre => ⟨fun hwant K hK => ?_, fun hwant => ?_⟩
                      · rw [want_some rfl rfl rfl (show b__.eval (.tmp 112) = .bool false from hpre ⟨12, _⟩ (Array.mem_of_getElem? (i := 1) rfl) rfl _ _ rfl rfl)] at hwant; cases hwant
                      · exact trivial
                    case r23 =>
                      refine trule fun b__ w hW hold hpre => ⟨fun hwant K hK => ?_, fun hwant => ?_⟩
                      · rw [want_some rfl rfl rfl (show b__.eval (.tmp 112) = .bool false from hpre ⟨12, _⟩ (Array.mem_of_getElem? (i := 2) rfl) rfl _ _ rfl rfl)] at hwant; cases hwant
                      · exact trivial
                    case r24 =>
                      refine trule fun b__ w hW hold hpre => ⟨fun hwant K hK => ?_, fun hwant => ?_⟩
                      · clear hwant
                        have e112 : b__.eval (.tmp 112) = .bool false := hpre ⟨12, _⟩ (Array.mem_of_getElem? (i := 0) rfl) rfl _ _ rfl rfl
                        have e123 : (fun (v : Value) (w : World) => True) (b__.eval (.tmp 123)) w := hpre ⟨23, _⟩ (Array.mem_of_getElem? (i := 1) rfl) rfl _ _ rfl rfl
                        exact opw_pick rfl e112 rfl (hK _ _ rfl (Below.refl _ _))
                      · rw [want_none rfl] at hwant; cases hwant
                    case post =>
                      intro b__ wz hW hdf hsz hold hT
                      have e100 : b__.eval (.tmp 100) = .pointer (some ⟨g4, 0, none⟩) := hT 0 _ 100 rfl rfl
                      have e101 : b__.eval (.tmp 101) = .int .i64 ((xa : Nat) : Int) := hT 1 _ 101 rfl rfl
                      have e102 : b__.eval (.tmp 102) = .int .i64 ((at_ : Nat) : Int) := hT 2 _ 102 rfl rfl
                      have e103 : b__.eval (.tmp 103) = .bool false := hT 3 _ 103 rfl rfl
                      have e104 : b__.eval (.tmp 104) = .bool false := hT 4 _ 104 rfl rfl
                      have e111 : b__.eval (.tmp 111) = .bool false := hT 11 _ 111 rfl rfl
                      have e112 : b__.eval (.tmp 112) = .bool false := hT 12 _ 112 rfl rfl
                      have e124 : b__.eval (.tmp 124) = .bool false := hT 24 _ 124 rfl rfl
                      obtain ⟨vs, hvs, hb⟩ := frame_of hdf hsz hold
                      replace e100 : vs 100 = .pointer (some ⟨g4, 0, none⟩) := (hvs 100).symm.trans e100
                      replace e101 : vs 101 = .int .i64 ((xa : Nat) : Int) := (hvs 101).symm.trans e101
                      replace e102 : vs 102 = .int .i64 ((at_ : Nat) : Int) := (hvs 102).symm.trans e102
                      replace e103 : vs 103 = .bool false := (hvs 103).symm.trans e103
                      replace e104 : vs 104 = .bool false := (hvs 104).symm.trans e104
                      replace e111 : vs 111 = .bool false := (hvs 111).symm.trans e111
                      replace e112 : vs 112 = .bool false := (hvs 112).symm.trans e112
                      replace e124 : vs 124 = .bool false := (hvs 124).symm.trans e124
                      subst hb
                      clear hvs hold hT hdf hsz
                      simp only [setAll, Act.put, List.setIfInBounds_toArray, List.set_cons_zero, List.set_cons_succ, List.getElem_toArray, List.getElem_cons_succ, List.getElem_cons_zero]
                      rw [e124]
                      replace hS := hS.ext hW
                      go_wp2_with fail
                      exact ⟨⟨t + 1, by go_num, rfl, rfl, htl, HN3, hS.sub (List.sublist_cons_self _ _)⟩, by simp [intOf]; omega⟩
                · exfalso
                  obtain ⟨y, h1, h2⟩ := isDist_succ HD.out
                  obtain ⟨s, hs, h3⟩ := List.getElem_of_mem h1
                  exact HN.out s (by omega) (at_, y) (by rw [List.getElem?_eq_getElem hs, h3]) ⟨rfl, h2⟩
    · have HDB := Lib.hid (decide_eq_false hjn)
      have HNO : Hid (¬ ∃ i' j' k : Nat, (i : Int) = (i' : Int) ∧ b = (j' : Int) ∧ i' < n ∧ j' < n ∧ Wk L j' k i') := Lib.hid fun ⟨i', j', k, h1, h2, h3, h4, h5⟩ => hjn ⟨by omega, by omega⟩
      clear hin hjn
      go_enter Tryd.func27, Tryd.ntmps27
      go_wp2_with (first
        | ((with_reducible show wpList _ _ _ (⟨_, .binOp _ _ _ _ _, _, _, _, _⟩ :: _) _ _); (first | ((with_reducible show wpList _ _ _ (⟨_, .binOp .lss _ _ _ _, _, _, _, _⟩ :: _) _ _); refine st_lss rfl _ _ _ _ rfl _ _ _ rfl rfl (fun h_ => ?_) (fun h_ => ?_)) | ((with_reducible show wpList _ _ _ (⟨_, .binOp .leq _ _ _ _, _, _, _, _⟩ :: _) _ _); refine st_leq rfl _ _ _ _ rfl _ _ _ rfl rfl (fun h_ => ?_) (fun h_ => ?_)) | ((with_reducible show wpList _ _ _ (⟨_, .binOp .gtr _ _ _ _, _, _, _, _⟩ :: _) _ _); refine st_gtr rfl _ _ _ _ rfl _ _ _ rfl rfl (fun h_ => ?_) (fun h_ => ?_)) | ((with_reducible show wpList _ _ _ (⟨_, .binOp .geq _ _ _ _, _, _, _, _⟩ :: _) _ _); refine st_geq rfl _ _ _ _ rfl _ _ _ rfl rfl (fun h_ => ?_) (fun h_ => ?_)) | ((with_reducible show wpList _ _ _ (⟨_, .binOp .eql _ _ _ _, _, _, _, _⟩ :: _) _ _); refine st_eql rfl _ _ _ _ rfl _ _ _ rfl rfl (fun h_ => ?_) (fun h_ => ?_)) | ((with_reducible show wpList _ _ _ (⟨_, .binOp .neq _ _ _ _, _, _, _, _⟩ :: _) _ _); refine st_neq rfl _ _ _ _ rfl _ _ _ rfl rfl (fun h_ => ?_) (fun h_ => ?_))) <;> go_prune)
        | (go_at_call 64; refine (oin_any (ko _ _ hS.ro).ord _).mono ?_; (first | rw [HDA.out] | rw [HDB.out]); rintro r_ w_ ⟨_, rfl, rfl, hb_⟩; replace hS := hS.ext hb_; clear hb_))
      go_ret2
      exact ⟨_, false, [], rfl, .inl ⟨rfl, rfl, HNO.out⟩, by simp, (hS.nil 3 1).mono (Stable.pure True) fun _ _ _ => trivial⟩
  · have HDA := Lib.hid (decide_eq_false hin)
    have HDB := HDA
    have HNO : Hid (¬ ∃ i' j' k : Nat, a = (i' : Int) ∧ b = (j' : Int) ∧ i' < n ∧ j' < n ∧ Wk L j' k i') := Lib.hid fun ⟨i', j', k, h1, h2, h3, h4, h5⟩ => hin ⟨by omega, by omega⟩
    clear hin
    go_enter Tryd.func27, Tryd.ntmps27
    go_wp2_with (first
      | ((with_reducible show wpList _ _ _ (⟨_, .binOp _ _ _ _ _, _, _, _, _⟩ :: _) _ _); (first | ((with_reducible show wpList _ _ _ (⟨_, .binOp .lss _ _ _ _, _, _, _, _⟩ :: _) _ _); refine st_lss rfl _ _ _ _ rfl _ _ _ rfl rfl (fun h_ => ?_) (fun h_ => ?_)) | ((with_reducible show wpList _ _ _ (⟨_, .binOp .leq _ _ _ _, _, _, _, _⟩ :: _) _ _); refine st_leq rfl _ _ _ _ rfl _ _ _ rfl rfl (fun h_ => ?_) (fun h_ => ?_)) | ((with_reducible show wpList _ _ _ (⟨_, .binOp .gtr _ _ _ _, _, _, _, _⟩ :: _) _ _); refine st_gtr rfl _ _ _ _ rfl _ _ _ rfl rfl (fun h_ => ?_) (fun h_ => ?_)) | ((with_reducible show wpList _ _ _ (⟨_, .binOp .geq _ _ _ _, _, _, _, _⟩ :: _) _ _); refine st_geq rfl _ _ _ _ rfl _ _ _ rfl rfl (fun h_ => ?_) (fun h_ => ?_)) | ((with_reducible show wpList _ _ _ (⟨_, .binOp .eql _ _ _ _, _, _, _, _⟩ :: _) _ _); refine st_eql rfl _ _ _ _ rfl _ _ _ rfl rfl (fun h_ => ?_) (fun h_ => ?_)) | ((with_reducible show wpList _ _ _ (⟨_, .binOp .neq _ _ _ _, _, _, _, _⟩ :: _) _ _); refine st_neq rfl _ _ _ _ rfl _ _ _ rfl rfl (fun h_ => ?_) (fun h_ => ?_))) <;> go_prune)
      | (go_at_call 64; refine (oin_any (ko _ _ hS.ro).ord _).mono ?_; (first | rw [HDA.out] | rw [HDB.out]); rintro r_ w_ ⟨_, rfl, rfl, hb_⟩; replace hS := hS.ext hb_; clear hb_))
    go_ret2
    exact ⟨_, false, [], rfl, .inl ⟨rfl, rfl, HNO.out⟩, by simp, (hS.nil 3 1).mono (Stable.pure True) fun _ _ _ => trivial⟩
end Go.Proofs.YtmlkgaiphpimiaaDoor
namespace Go.Proofs.YtmlkgaiphpimiaaDoor
open Go.RowKit
attribute [local go_sem ↓] Go.wp_at_zero Go.wp_at_succ
set_option maxRecDepth 20000
set_option exponentiation.threshold 5000

open Classical in
/-- the links that follow from the others -/
noncomputable def redL (L M : List (Nat × Nat)) : List (Nat × Nat) := M.filter fun x => decide (TC (unl L x) x.1 x.2)
open Classical in
theorem redL_step {L M : List (Nat × Nat)} {j : Nat} {u : Nat × Nat} (h : M[j]? = some u) : redL L (M.take (j + 1)) = if TC (unl L u) u.1 u.2 then redL L (M.take j) ++ [u] else redL L (M.take j) := by
  unfold redL
  rw [List.take_add_one, h, List.filter_append]
  by_cases e : TC (unl L u) u.1 u.2 <;> simp [e]
theorem redL_len (L M : List (Nat × Nat)) (j : Nat) : (redL L (M.take j)).length ≤ j := by
  unfold redL
  exact Nat.le_trans (List.length_filter_le _ _) (by rw [List.length_take]; omega)
end Go.Proofs.YtmlkgaiphpimiaaDoor
