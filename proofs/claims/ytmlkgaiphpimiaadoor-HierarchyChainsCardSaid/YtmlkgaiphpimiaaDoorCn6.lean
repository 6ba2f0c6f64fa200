/-
  The card of HierarchyChains.
-/
import Derived.Test.YtmlkgaiphpimiaaDoorRows
import Derived.ProofKit
import Derived.Lib.LaidU8
import Derived.Lay
import Derived.MakeChecks
import Derived.LaidLaws
import Derived.Stop.Joined
import Derived.Test.YtmlkgaiphpimiaaDoorCards
import Derived.Test.YtmlkgaiphpimiaaDoorTie
import Derived.SevenTiedAt
import Derived.Test.YtmlkgaiphpimiaaDoorCn5
namespace Go.Proofs.YtmlkgaiphpimiaaDoor
open Go.RowKit
attribute [local go_sem ↓] Go.wp_at_zero Go.wp_at_succ
set_option maxRecDepth 20000
set_option exponentiation.threshold 5000

/-- the paths that are one step longer -/
def ext1 (L : List (Nat × Nat)) (p : List Nat) : List (List Nat) := (L.filter fun x => x.1 == lastD p).map fun x => p ++ [x.2]
def extP (L : List (Nat × Nat)) (ps : List (List Nat)) : List (List Nat) := ps.flatMap (ext1 L)
theorem extP_wlk (L : List (Nat × Nat)) (k v : Nat) : wlk L (k + 1) v = extP L (wlk L k v) := wlk_back L k v
theorem extP_step {L : List (Nat × Nat)} {ps : List (List Nat)} {j : Nat} {p : List Nat} (h : ps[j]? = some p) : extP L (ps.take (j + 1)) = extP L (ps.take j) ++ ext1 L p := by
  unfold extP
  rw [List.take_add_one, h, List.flatMap_append]
  simp
theorem ext1_step {L : List (Nat × Nat)} {p : List Nat} {t : Nat} {z : Nat × Nat} (h : L[t]? = some z) : ext1 (L.take (t + 1)) p = if z.1 = lastD p then ext1 (L.take t) p ++ [p ++ [z.2]] else ext1 (L.take t) p := by
  unfold ext1
  rw [List.take_add_one, h, List.filter_append]
  by_cases e : z.1 = lastD p <;> simp [e]
theorem ext_len {L : List (Nat × Nat)} {ps : List (List Nat)} {j : Nat} {p : List Nat} (h : ps[j]? = some p) (t : Nat) : (extP L (ps.take j) ++ ext1 (L.take t) p).length ≤ (extP L ps).length := by
  obtain ⟨hj, rfl⟩ := List.getElem?_eq_some_iff.1 h
  have e : ps = ps.take j ++ ps[j] :: ps.drop (j + 1) := by rw [List.getElem_cons_drop, List.take_append_drop]
  have h1 : (ext1 (L.take t) ps[j]).length ≤ (ext1 L ps[j]).length := by
    unfold ext1
    rw [List.length_map, List.length_map]
    exact ((List.take_sublist t L).filter _).length_le
  have h2 : extP L ps = extP L (ps.take j) ++ (ext1 L ps[j] ++ extP L (ps.drop (j + 1))) := by
    conv => lhs; rw [e]
    unfold extP
    rw [List.flatMap_append, List.flatMap_cons]
  rw [h2, List.length_append, List.length_append, List.length_append]
  omega
theorem find_at {α : Type} {q : α → Bool} : ∀ {l : List α} {j : Nat} {x : α}, l[j]? = some x → q x = true → (∀ y ∈ l.take j, q y = false) → l.find? q = some x
  | a :: l, 0, x, h, hx, _ => by cases h; simp [hx]
  | a :: l, j + 1, x, h, hx, hn => by
    have h0 : q a = false := hn a (by simp)
    rw [List.find?_cons, h0]
    exact find_at (by simpa using h) hx fun y hy => hn y (by simp [hy])
theorem lastD_at {p : List Nat} {q : Nat} (h : p.length = q + 1) : p[q]? = some (lastD p) := by
  unfold lastD
  rw [List.getLastD_eq_getLast?, List.getLast?_eq_getElem?, h, Nat.add_sub_cancel, List.getElem?_eq_getElem (by omega)]
  rfl
theorem wlk_len {L : List (Nat × Nat)} : ∀ {k v : Nat} {p : List Nat}, p ∈ wlk L k v → p.length = k + 1
  | 0, v, p, h => by rw [show p = [v] from List.mem_singleton.1 h]; rfl
  | k + 1, v, p, h => by
    obtain ⟨x, _, h2⟩ := List.mem_flatMap.1 (show p ∈ (L.filter fun x => x.1 == v).flatMap fun x => (wlk L k x.2).map (v :: ·) from h)
    obtain ⟨q, h3, rfl⟩ := List.mem_map.1 h2
    rw [List.length_cons, wlk_len h3]
theorem no_wk {L : List (Nat × Nat)} {n x y : Nat} (h : ∀ p ∈ wlk L n x, lastD p ≠ y) : ¬ Wk L y n x := fun hw => by
  obtain ⟨p, h1, h2⟩ := wlk_wk.2 hw
  exact h p h1 h2
theorem PathsX.at {vs : List Value} {ps : List (List Nat)} {D : Nat → Prop} {w : World} (h : PathsX vs ps D w) {k : Nat} {v : Value} {p : List Nat} (h1 : vs[k]? = some v) (h2 : ps[k]? = some p) : Sl w D 1 v p.length (ints (natInts p)) := h.2 k v p h1 h2
theorem run_sub1 {P : Program} {w : World} {t : TypeId} {n : Nat} (h : n ≤ 64) : (binOp .sub t (.int .i64 ((n + 1 : Nat) : Int)) (.int .i64 1)).run P w = .ok (.int .i64 ((n : Nat) : Int)) w := by
  rw [run_sub64 (by omega) (by omega), show ((n + 1 : Nat) : Int) - 1 = (n : Int) by omega]
theorem run_snd (g : Nat) (w : World) : (Instr.indexAt 50 (.pointer (some ⟨g, 0, none⟩)) (.int .i64 1)).run Tryd.prog w = .ok (.pointer (some ⟨g, 1, none⟩)) w := by
  go_simp
/-- what the reference's Chain gives -/
def RChainR (w0 : World) (L : List (Nat × Nat)) (a b : Int) (e : Ending) (w' : World) : Prop :=
  ∃ (v : Value) (c : Bool) (l : List Nat), e = .returned v ∧ ChainP L a b l c ∧ l.length ≤ 64 ∧ St w0 w' [] fun D w => Sl w D 1 v l.length (ints (natInts l))
set_option maxHeartbeats 2000000 in
theorem rchain_any {w0 : World} {D : Nat → Prop} {pv : Value} {L : List (Nat × Nat)} (h : Sl w0 D 2 pv L.length (pcells L)) (hL : Inr 64 L) (hA : Acyc L) (hl : L.length ≤ 1000000) (hb : ∀ k v, (wlk L k v).length ≤ 3000000000) (a b : Int) :
    Calls Tryd.prog 18 #[pv, .int .i64 a, .int .i64 b] w0 (RChainR w0 L a b) := by
  obtain ⟨A, c, rfl, hc1, _⟩ := h.shape
  obtain ⟨K, kp, hS⟩ : ∃ K : (Nat → Prop) → World → Prop, (∀ D w, K D w → Sl w D 2 (.slice A L.length c) L.length (pcells L)) ∧ St w0 w0 [] K := ⟨_, fun _ _ h => h, St.start (stable_sl (by decide)) h⟩
  clear h
  by_cases hra : 1 ≤ a ∧ a ≤ 63
  · have HRA := Lib.hid (decide_eq_true hra)
    by_cases hrb : 1 ≤ b ∧ b ≤ 63
    · have HRB := Lib.hid (decide_eq_true hrb)
      obtain ⟨x, rfl⟩ : ∃ x : Nat, a = (x : Int) := ⟨a.toNat, by omega⟩
      obtain ⟨y, rfl⟩ : ∃ y : Nat, b = (y : Int) := ⟨b.toNat, by omega⟩
      have hx1 : Hid (1 ≤ x ∧ x < 64) := Lib.hid (by omega)
      have hy1 : Hid (1 ≤ y ∧ y < 64) := Lib.hid (by omega)
      have HB := Lib.hid hb
      have HLA := Lib.hid (And.intro hL hA)
      clear hra hrb hb hL hA
      go_enter Tryd.func18, Tryd.ntmps18
      go_wp2_with (first
        | ((with_reducible show wpList _ _ _ (⟨_, .binOp _ _ _ _ _, _, _, _, _⟩ :: _) _ _); (first | ((with_reducible show wpList _ _ _ (⟨_, .binOp .lss _ _ _ _, _, _, _, _⟩ :: _) _ _); refine st_lss rfl _ _ _ _ rfl _ _ _ rfl rfl (fun h_ => ?_) (fun h_ => ?_)) | ((with_reducible show wpList _ _ _ (⟨_, .binOp .leq _ _ _ _, _, _, _, _⟩ :: _) _ _); refine st_leq rfl _ _ _ _ rfl _ _ _ rfl rfl (fun h_ => ?_) (fun h_ => ?_)) | ((with_reducible show wpList _ _ _ (⟨_, .binOp .gtr _ _ _ _, _, _, _, _⟩ :: _) _ _); refine st_gtr rfl _ _ _ _ rfl _ _ _ rfl rfl (fun h_ => ?_) (fun h_ => ?_)) | ((with_reducible show wpList _ _ _ (⟨_, .binOp .geq _ _ _ _, _, _, _, _⟩ :: _) _ _); refine st_geq rfl _ _ _ _ rfl _ _ _ rfl rfl (fun h_ => ?_) (fun h_ => ?_)) | ((with_reducible show wpList _ _ _ (⟨_, .binOp .eql _ _ _ _, _, _, _, _⟩ :: _) _ _); refine st_eql rfl _ _ _ _ rfl _ _ _ rfl rfl (fun h_ => ?_) (fun h_ => ?_)) | ((with_reducible show wpList _ _ _ (⟨_, .binOp .neq _ _ _ _, _, _, _, _⟩ :: _) _ _); refine st_neq rfl _ _ _ _ rfl _ _ _ rfl rfl (fun h_ => ?_) (fun h_ => ?_))) <;> go_prune)
        | (go_at_call 57; refine (rrole_any _ _).mono ?_; (first | rw [HRA.out] | rw [HRB.out]); rintro r_ w_ ⟨_, rfl, rfl, hb_⟩; replace hS := hS.ext hb_; clear hb_)
        | ((with_reducible show wpList _ _ _ (⟨some 24, _, _, _, _, _⟩ :: _) _ _); refine st_litown hS rfl _ _ _ _ rfl Tryd.underlying31 #[.int .i64 (x : Nat)] (by kernel_rfl) 1 rfl (by decide) ?_; clear hS; intro g24 w_ hS)
        | ((with_reducible show wpList _ _ _ (⟨some 25, _, _, _, _, _⟩ :: _) _ _); refine st_litown hS rfl _ _ _ _ rfl Tryd.underlying79 #[.slice (some ⟨g24, 0, none⟩) 1 1] (by kernel_rfl) 1 rfl (by decide) ?_; clear hS; intro g25 w_ hS))
      have hS1 := hS.freeze 1 (by decide) rfl
      have hS2 := hS1.freeze 0 (by decide) rfl
      clear hS hS1
      have hS := hS2
      clear hS2
      have HP0 : Hid (∀ D w, ((K D w ∧ Sl w D 1 (.slice (some ⟨g24, 0, none⟩) 1 1) 1 [.int .i64 (x : Nat)]) ∧ Sl w D 1 (.slice (some ⟨g25, 0, none⟩) 1 1) 1 [.slice (some ⟨g24, 0, none⟩) 1 1]) → K D w ∧ Sl w D 1 (.slice (some ⟨g25, 0, none⟩) 1 1) 1 [.slice (some ⟨g24, 0, none⟩) 1 1] ∧ PathsX [.slice (some ⟨g24, 0, none⟩) 1 1] (wlk L 0 x) D w) := Lib.hid fun D w h => ⟨h.1.1, h.2, rfl, fun k v p h1 h2 => by
        cases k with
        | zero => cases h1; cases h2; exact h.1.2
        | succ k => simp at h1⟩
      go_loopw [7, 8] (fun v i wr => ∃ (vo : Value) (n : Nat) (us : List Value) (K1 : (Nat → Prop) → World → Prop), vo = v ∧ i = .int .i64 (n : Nat) ∧ n ≤ 64 ∧ Hid (∀ k, k < n → ¬ Wk L y k x) ∧ Hid (∀ D w, K1 D w → K D w ∧ Sl w D 1 vo us.length us ∧ PathsX us (wlk L n x) D w) ∧ St w0 wr [] K1) (fun _ i _ => 64 - (intOf i).toNat)
      case atStart => exact ⟨_, 0, _, _, rfl, rfl, by omega, Lib.hid (fun k h => absurd h (by omega)), HP0, hS⟩
      case round =>
        clear hS HP0
        obtain ⟨vo, n, us, K1, rfl, rfl, hn, HN, HK1, hS⟩ := hrel
        by_cases hn64 : n < 64
        · obtain ⟨A7, c7, rfl, hc7, _⟩ := (HK1.out _ _ hS.ro).2.1.shape
          have HLN := Lib.hid (HK1.out _ _ hS.ro).2.2.1
          go_wp2_with (first | ((with_reducible show wpList _ _ _ (⟨_, .binOp _ _ _ _ _, _, _, _, _⟩ :: _) _ _); (first | ((with_reducible show wpList _ _ _ (⟨_, .binOp .lss _ _ _ _, _, _, _, _⟩ :: _) _ _); refine st_lss rfl _ _ _ _ rfl _ _ _ rfl rfl (fun h_ => ?_) (fun h_ => ?_)) | ((with_reducible show wpList _ _ _ (⟨_, .binOp .leq _ _ _ _, _, _, _, _⟩ :: _) _ _); refine st_leq rfl _ _ _ _ rfl _ _ _ rfl rfl (fun h_ => ?_) (fun h_ => ?_)) | ((with_reducible show wpList _ _ _ (⟨_, .binOp .gtr _ _ _ _, _, _, _, _⟩ :: _) _ _); refine st_gtr rfl _ _ _ _ rfl _ _ _ rfl rfl (fun h_ => ?_) (fun h_ => ?_)) | ((with_reducible show wpList _ _ _ (⟨_, .binOp .geq _ _ _ _, _, _, _, _⟩ :: _) _ _); refine st_geq rfl _ _ _ _ rfl _ _ _ rfl rfl (fun h_ => ?_) (fun h_ => ?_)) | ((with_reducible show wpList _ _ _ (⟨_, .binOp .eql _ _ _ _, _, _, _, _⟩ :: _) _ _); refine st_eql rfl _ _ _ _ rfl _ _ _ rfl rfl (fun h_ => ?_) (fun h_ => ?_)) | ((with_reducible show wpList _ _ _ (⟨_, .binOp .neq _ _ _ _, _, _, _, _⟩ :: _) _ _); refine st_neq rfl _ _ _ _ rfl _ _ _ rfl rfl (fun h_ => ?_) (fun h_ => ?_))) <;> go_prune))
          replace hS := hS.nil 31 1
          go_loopw [9, 32] (fun v i wr => ∃ (lv : Value) (j : Nat) (us2 : List Value) (K2 : (Nat → Prop) → World → Prop), lv = v ∧ i = .int .i64 (j : Nat) ∧ j ≤ us.length ∧ Hid (∀ p ∈ (wlk L n x).take j, lastD p ≠ y) ∧ Hid (∀ D w, K2 D w → K1 D w ∧ PathsX us2 (extP L ((wlk L n x).take j)) D w) ∧ St w0 wr [.own lv 31 1 us2.length us2] K2) (fun _ i _ => us.length - (intOf i).toNat)
          case atStart => exact ⟨_, 0, [], K1, rfl, rfl, by omega, Lib.hid (by simp), Lib.hid (fun D w h => ⟨h, rfl, fun k v p h1 _ => by simp at h1⟩), hS⟩
          case round =>
            clear hS
            obtain ⟨lv, j, us2, K2, rfl, rfl, hj, HJ, HK2, hS⟩ := hrel
            by_cases hju : j < us.length
            · obtain ⟨pv, hpv⟩ : ∃ v, us[j]? = some v := ⟨_, List.getElem?_eq_getElem hju⟩
              obtain ⟨p, hp⟩ : ∃ p, (wlk L n x)[j]? = some p := ⟨_, List.getElem?_eq_getElem (by rw [← HLN.out]; exact hju)⟩
              have HP := Lib.hid hp
              have HPL := Lib.hid (wlk_len (List.mem_of_getElem? hp))
              have HLC : (ints (natInts p))[n]? = some (.int .i64 ((lastD p : Nat) : Int)) := by simp [ints, natInts, lastD_at HPL.out]
              have kpv : Hid (∀ D w, K2 D w → Sl w D 1 pv (n + 1) (ints (natInts p))) := Lib.hid fun D w h => by have h1 := (HK1.out _ _ (HK2.out _ _ h).1).2.2.at hpv HP.out; rwa [HPL.out] at h1
              obtain ⟨A2, c2, rfl, hc2, _⟩ := (kpv.out _ _ hS.ro).shape
              have k7 := fun D w h => (HK1.out D w (HK2.out D w h).1).2.1
              have kv := kpv.out
              have HLP := Lib.hid (Eq.refl (lastD p))
              generalize hlp : lastD p = lp at HLC HLP
              replace hlp := Lib.hid hlp
              clear HLP hp kpv
              have hnn := Lib.hid hn
              by_cases hy : lp = y
              · subst hy
                have HF : Hid (isDist L lp x n ∧ p = gp L lp n x) := Lib.hid (by
                  have h1 : isDist L lp x n := ⟨wlk_wk.1 ⟨p, List.mem_of_getElem? HP.out, hlp.out⟩, HN.out⟩
                  have h2 := find_gp h1
                  rw [find_at HP.out (by simp [hlp.out]) fun q hq => by simpa using HJ.out q hq] at h2
                  exact ⟨h1, Option.some.inj h2⟩)
                go_wp2_with (first
                  | ((with_reducible show wpList _ _ _ (⟨_, .binOp _ _ _ _ _, _, _, _, _⟩ :: _) _ _); (first | ((with_reducible show wpList _ _ _ (⟨_, .binOp .lss _ _ _ _, _, _, _, _⟩ :: _) _ _); refine st_lss rfl _ _ _ _ rfl _ _ _ rfl rfl (fun h_ => ?_) (fun h_ => ?_)) | ((with_reducible show wpList _ _ _ (⟨_, .binOp .leq _ _ _ _, _, _, _, _⟩ :: _) _ _); refine st_leq rfl _ _ _ _ rfl _ _ _ rfl rfl (fun h_ => ?_) (fun h_ => ?_)) | ((with_reducible show wpList _ _ _ (⟨_, .binOp .gtr _ _ _ _, _, _, _, _⟩ :: _) _ _); refine st_gtr rfl _ _ _ _ rfl _ _ _ rfl rfl (fun h_ => ?_) (fun h_ => ?_)) | ((with_reducible show wpList _ _ _ (⟨_, .binOp .geq _ _ _ _, _, _, _, _⟩ :: _) _ _); refine st_geq rfl _ _ _ _ rfl _ _ _ rfl rfl (fun h_ => ?_) (fun h_ => ?_)) | ((with_reducible show wpList _ _ _ (⟨_, .binOp .eql _ _ _ _, _, _, _, _⟩ :: _) _ _); refine st_eql rfl _ _ _ _ rfl _ _ _ rfl rfl (fun h_ => ?_) (fun h_ => ?_)) | ((with_reducible show wpList _ _ _ (⟨_, .binOp .neq _ _ _ _, _, _, _, _⟩ :: _) _ _); refine st_neq rfl _ _ _ _ rfl _ _ _ rfl rfl (fun h_ => ?_) (fun h_ => ?_))) <;> go_prune)
                  | ((with_reducible show wpList _ _ _ (⟨some 39, _, _, _, _, _⟩ :: _) _ _); refine BigFrame.wpList_want rfl fun _ hK => opw_bin (vx := .int .i64 ((n + 1 : Nat) : Int)) (vy := .int .i64 1) (v := .int .i64 ((n : Nat) : Int)) rfl rfl rfl rfl (run_sub1 hnn.out) (hK _ _ ?_))
                  | ((with_reducible show wpList _ _ _ (⟨_, .indexAddr _ _ _, _, _, _, _⟩ :: _) _ _); refine st_iaddr1 hS rfl _ _ _ rfl _ rfl rfl (by assumption) Tryd.underlying79 (by kernel_rfl) (by first | assumption | omega) _ (by assumption) ?_; intro p_ hc_)
                  | ((with_reducible show wpList _ _ _ (⟨_, .indexAddr _ _ _, _, _, _, _⟩ :: _) _ _); refine st_iaddr1 hS rfl _ _ _ rfl _ rfl rfl (by assumption) Tryd.underlying31 (by kernel_rfl) (by first | assumption | omega) _ (by assumption) ?_; intro p_ hc_)
                  | ((with_reducible show wpList _ _ _ (⟨_, .load _ _, _, _, _, _⟩ :: _) _ _); refine BigFrame.wpList_want rfl fun _ hK => opw_cell rfl rfl (by kernel_rfl) hc_ (hK _ _ ?_)))
                go_ret
                exact ⟨_, true, p, rfl, .inr ⟨rfl, x, lp, n, rfl, rfl, hx1.out, hy1.out, HF.out.1, HF.out.2⟩, by rw [HPL.out]; omega, (hS.sub (List.nil_sublist _)).mono (stable_sl (by decide)) fun D w h => by rw [HPL.out]; exact kv D w h⟩
              · go_wp2_with (first
                  | ((with_reducible show wpList _ _ _ (⟨_, .binOp _ _ _ _ _, _, _, _, _⟩ :: _) _ _); (first | ((with_reducible show wpList _ _ _ (⟨_, .binOp .lss _ _ _ _, _, _, _, _⟩ :: _) _ _); refine st_lss rfl _ _ _ _ rfl _ _ _ rfl rfl (fun h_ => ?_) (fun h_ => ?_)) | ((with_reducible show wpList _ _ _ (⟨_, .binOp .leq _ _ _ _, _, _, _, _⟩ :: _) _ _); refine st_leq rfl _ _ _ _ rfl _ _ _ rfl rfl (fun h_ => ?_) (fun h_ => ?_)) | ((with_reducible show wpList _ _ _ (⟨_, .binOp .gtr _ _ _ _, _, _, _, _⟩ :: _) _ _); refine st_gtr rfl _ _ _ _ rfl _ _ _ rfl rfl (fun h_ => ?_) (fun h_ => ?_)) | ((with_reducible show wpList _ _ _ (⟨_, .binOp .geq _ _ _ _, _, _, _, _⟩ :: _) _ _); refine st_geq rfl _ _ _ _ rfl _ _ _ rfl rfl (fun h_ => ?_) (fun h_ => ?_)) | ((with_reducible show wpList _ _ _ (⟨_, .binOp .eql _ _ _ _, _, _, _, _⟩ :: _) _ _); refine st_eql rfl _ _ _ _ rfl _ _ _ rfl rfl (fun h_ => ?_) (fun h_ => ?_)) | ((with_reducible show wpList _ _ _ (⟨_, .binOp .neq _ _ _ _, _, _, _, _⟩ :: _) _ _); refine st_neq rfl _ _ _ _ rfl _ _ _ rfl rfl (fun h_ => ?_) (fun h_ => ?_))) <;> go_prune)
                  | ((with_reducible show wpList _ _ _ (⟨some 39, _, _, _, _, _⟩ :: _) _ _); refine BigFrame.wpList_want rfl fun _ hK => opw_bin (vx := .int .i64 ((n + 1 : Nat) : Int)) (vy := .int .i64 1) (v := .int .i64 ((n : Nat) : Int)) rfl rfl rfl rfl (run_sub1 hnn.out) (hK _ _ ?_))
                  | ((with_reducible show wpList _ _ _ (⟨_, .indexAddr _ _ _, _, _, _, _⟩ :: _) _ _); refine st_iaddr1 hS rfl _ _ _ rfl _ rfl rfl (by assumption) Tryd.underlying79 (by kernel_rfl) (by first | assumption | omega) _ (by assumption) ?_; intro p_ hc_)
                  | ((with_reducible show wpList _ _ _ (⟨_, .indexAddr _ _ _, _, _, _, _⟩ :: _) _ _); refine st_iaddr1 hS rfl _ _ _ rfl _ rfl rfl (by assumption) Tryd.underlying31 (by kernel_rfl) (by first | assumption | omega) _ (by assumption) ?_; intro p_ hc_)
                  | ((with_reducible show wpList _ _ _ (⟨_, .load _ _, _, _, _, _⟩ :: _) _ _); refine BigFrame.wpList_want rfl fun _ hK => opw_cell rfl rfl (by kernel_rfl) hc_ (hK _ _ ?_)))
                have HE2 : Hid (∀ t, (extP L ((wlk L n x).take j) ++ ext1 (L.take t) p).length ≤ 3000000000) := Lib.hid fun t => Nat.le_trans (ext_len HP.out t) (by rw [← extP_wlk]; exact HB.out _ _)
                have HE3 : Hid (extP L ((wlk L n x).take j) ++ ext1 (L.take L.length) p = extP L ((wlk L n x).take (j + 1))) := Lib.hid (by rw [extP_step HP.out, List.take_length])
                have HJ3 : Hid (∀ q ∈ (wlk L n x).take (j + 1), lastD q ≠ y) := Lib.hid fun q hq => by
                  rw [List.take_add_one, HP.out] at hq
                  rcases List.mem_append.1 hq with h | h
                  · exact HJ.out q h
                  · obtain rfl : q = p := by simpa using h
                    rw [hlp.out]; exact hy
                go_loopw [9, 48] (fun v i wr => ∃ (lv : Value) (t : Nat) (us3 : List Value) (K3 : (Nat → Prop) → World → Prop), lv = v ∧ i = .int .i64 (t : Nat) ∧ t ≤ L.length ∧ Hid (∀ D w, K3 D w → K2 D w ∧ PathsX us3 (extP L ((wlk L n x).take j) ++ ext1 (L.take t) p) D w) ∧ St w0 wr [.own lv 31 1 us3.length us3] K3) (fun _ i _ => L.length - (intOf i).toNat)
                case atStart => exact ⟨_, 0, us2, K2, rfl, rfl, by omega, Lib.hid (fun D w h => ⟨h, by simpa [ext1] using (HK2.out D w h).2⟩), hS⟩
                case round =>
                  clear hS
                  obtain ⟨lv, t, us3, K3, rfl, rfl, ht, HK3, hS⟩ := hrel
                  have kp3 := fun D w h => kp D w (HK1.out D w (HK2.out D w (HK3.out D w h).1).1).1
                  by_cases htl : t < L.length
                  · obtain ⟨f1, f2⟩ := pcells_at L t htl
                    have HST := Lib.hid (ext1_step (p := p) (getD_at (0, 0) htl))
                    generalize L.getD t (0, 0) = z at *
                    obtain ⟨za, zb⟩ := z
                    dsimp only at f1 f2 HST
                    by_cases hz : za = lp
                    · subst hz
                      have HE := Lib.hid (HST.out.trans (if_pos hlp.out.symm))
                      clear HST
                      go_wp2_with (first
                        | ((with_reducible show wpList _ _ _ (⟨_, .binOp _ _ _ _ _, _, _, _, _⟩ :: _) _ _); (first | ((with_reducible show wpList _ _ _ (⟨_, .binOp .lss _ _ _ _, _, _, _, _⟩ :: _) _ _); refine st_lss rfl _ _ _ _ rfl _ _ _ rfl rfl (fun h_ => ?_) (fun h_ => ?_)) | ((with_reducible show wpList _ _ _ (⟨_, .binOp .leq _ _ _ _, _, _, _, _⟩ :: _) _ _); refine st_leq rfl _ _ _ _ rfl _ _ _ rfl rfl (fun h_ => ?_) (fun h_ => ?_)) | ((with_reducible show wpList _ _ _ (⟨_, .binOp .gtr _ _ _ _, _, _, _, _⟩ :: _) _ _); refine st_gtr rfl _ _ _ _ rfl _ _ _ rfl rfl (fun h_ => ?_) (fun h_ => ?_)) | ((with_reducible show wpList _ _ _ (⟨_, .binOp .geq _ _ _ _, _, _, _, _⟩ :: _) _ _); refine st_geq rfl _ _ _ _ rfl _ _ _ rfl rfl (fun h_ => ?_) (fun h_ => ?_)) | ((with_reducible show wpList _ _ _ (⟨_, .binOp .eql _ _ _ _, _, _, _, _⟩ :: _) _ _); refine st_eql rfl _ _ _ _ rfl _ _ _ rfl rfl (fun h_ => ?_) (fun h_ => ?_)) | ((with_reducible show wpList _ _ _ (⟨_, .binOp .neq _ _ _ _, _, _, _, _⟩ :: _) _ _); refine st_neq rfl _ _ _ _ rfl _ _ _ rfl rfl (fun h_ => ?_) (fun h_ => ?_))) <;> go_prune)
                        | ((with_reducible show wpList _ _ _ (⟨_, .indexAddr _ _ _, _, _, _, _⟩ :: _) _ _); refine st_iaddr2 hS rfl _ _ _ rfl _ rfl rfl (by assumption) Tryd.underlying25 (by kernel_rfl) (by first | assumption | omega) _ _ (by assumption) (by assumption) ?_; intro b_ j_ hc0_ hc1_)
                        | ((with_reducible show wpList _ _ _ (⟨some 14, _, _, _, _, _⟩ :: _) _ _); refine st_alloc hS rfl _ rfl (by kernel_rfl) ?_; clear hS; intro g4 w_ hS; (try simp only [Act.put, Act.eval, List.set_cons_zero, List.set_cons_succ, List.setIfInBounds_toArray, Array.getD_eq_getD_getElem?, List.getElem?_toArray, List.getElem?_cons_succ, List.getElem?_cons_zero, Option.getD_some, Value.cells] at hS))
                        | ((with_reducible show wpList _ _ _ (⟨_, .store _ _ _, _, _, _, _⟩ :: _) _ _); first | (refine st_store hS 0 rfl _ _ _ rfl _ _ rfl rfl _ _ rfl (by kernel_rfl) (by kernel_rfl) (by kernel_rfl) ?_; clear hS; intro w_ hS; (try simp only [Act.put, Act.eval, List.set_cons_zero, List.set_cons_succ, List.setIfInBounds_toArray, Array.getD_eq_getD_getElem?, List.getElem?_toArray, List.getElem?_cons_succ, List.getElem?_cons_zero, Option.getD_some, Value.cells] at hS)) | (refine st_store hS 1 rfl _ _ _ rfl _ _ rfl rfl _ _ rfl (by kernel_rfl) (by kernel_rfl) (by kernel_rfl) ?_; clear hS; intro w_ hS; (try simp only [Act.put, Act.eval, List.set_cons_zero, List.set_cons_succ, List.setIfInBounds_toArray, Array.getD_eq_getD_getElem?, List.getElem?_toArray, List.getElem?_cons_succ, List.getElem?_cons_zero, Option.getD_some, Value.cells] at hS)) | (refine st_store hS 2 rfl _ _ _ rfl _ _ rfl rfl _ _ rfl (by kernel_rfl) (by kernel_rfl) (by kernel_rfl) ?_; clear hS; intro w_ hS; (try simp only [Act.put, Act.eval, List.set_cons_zero, List.set_cons_succ, List.setIfInBounds_toArray, Array.getD_eq_getD_getElem?, List.getElem?_toArray, List.getElem?_cons_succ, List.getElem?_cons_zero, Option.getD_some, Value.cells] at hS)) | (refine st_store hS 3 rfl _ _ _ rfl _ _ rfl rfl _ _ rfl (by kernel_rfl) (by kernel_rfl) (by kernel_rfl) ?_; clear hS; intro w_ hS; (try simp only [Act.put, Act.eval, List.set_cons_zero, List.set_cons_succ, List.setIfInBounds_toArray, Array.getD_eq_getD_getElem?, List.getElem?_toArray, List.getElem?_cons_succ, List.getElem?_cons_zero, Option.getD_some, Value.cells] at hS)) | (refine st_cstore hS 0 rfl _ _ _ rfl _ _ _ rfl rfl rfl (by first | (simp; done) | (simp; omega) | exact of_decide_eq_true (by kernel_rfl)) rfl (by first | rfl | assumption) (by kernel_rfl) ?_; clear hS; intro w_ hS; (try simp only [Act.put, Act.eval, List.set_cons_zero, List.set_cons_succ, List.setIfInBounds_toArray, Array.getD_eq_getD_getElem?, List.getElem?_toArray, List.getElem?_cons_succ, List.getElem?_cons_zero, Option.getD_some, Value.cells] at hS)) | (refine st_cstore hS 1 rfl _ _ _ rfl _ _ _ rfl rfl rfl (by first | (simp; done) | (simp; omega) | exact of_decide_eq_true (by kernel_rfl)) rfl (by first | rfl | assumption) (by kernel_rfl) ?_; clear hS; intro w_ hS; (try simp only [Act.put, Act.eval, List.set_cons_zero, List.set_cons_succ, List.setIfInBounds_toArray, Array.getD_eq_getD_getElem?, List.getElem?_toArray, List.getElem?_cons_succ, List.getElem?_cons_zero, Option.getD_some, Value.cells] at hS)) | (refine st_cstore hS 2 rfl _ _ _ rfl _ _ _ rfl rfl rfl (by first | (simp; done) | (simp; omega) | exact of_decide_eq_true (by kernel_rfl)) rfl (by first | rfl | assumption) (by kernel_rfl) ?_; clear hS; intro w_ hS; (try simp only [Act.put, Act.eval, List.set_cons_zero, List.set_cons_succ, List.setIfInBounds_toArray, Array.getD_eq_getD_getElem?, List.getElem?_toArray, List.getElem?_cons_succ, List.getElem?_cons_zero, Option.getD_some, Value.cells] at hS)) | (refine st_cstore hS 3 rfl _ _ _ rfl _ _ _ rfl rfl rfl (by first | (simp; done) | (simp; omega) | exact of_decide_eq_true (by kernel_rfl)) rfl (by first | rfl | assumption) (by kernel_rfl) ?_; clear hS; intro w_ hS; (try simp only [Act.put, Act.eval, List.set_cons_zero, List.set_cons_succ, List.setIfInBounds_toArray, Array.getD_eq_getD_getElem?, List.getElem?_toArray, List.getElem?_cons_succ, List.getElem?_cons_zero, Option.getD_some, Value.cells] at hS)))
                        | ((with_reducible show wpList _ _ _ (⟨_, .load _ _, _, _, _, _⟩ :: _) _ _); first | refine st_load hS 0 rfl _ _ rfl _ rfl _ _ rfl _ Tryd.underlying50 rfl (by kernel_rfl) ?_ | refine st_load hS 1 rfl _ _ rfl _ rfl _ _ rfl _ Tryd.underlying50 rfl (by kernel_rfl) ?_ | refine st_load hS 2 rfl _ _ rfl _ rfl _ _ rfl _ Tryd.underlying50 rfl (by kernel_rfl) ?_ | refine st_load hS 3 rfl _ _ rfl _ rfl _ _ rfl _ Tryd.underlying50 rfl (by kernel_rfl) ?_)
                        | ((with_reducible show wpList _ _ _ (⟨_, .load _ _, _, _, _, _⟩ :: _) _ _); first | (refine st_cell hS 0 rfl _ _ rfl _ _ rfl _ _ rfl (by decide +kernel) _ (by first | assumption | rfl) ?_) | (refine st_cell hS 1 rfl _ _ rfl _ _ rfl _ _ rfl (by decide +kernel) _ (by first | assumption | rfl) ?_) | (refine st_cell hS 2 rfl _ _ rfl _ _ rfl _ _ rfl (by decide +kernel) _ (by first | assumption | rfl) ?_) | (refine st_cell hS 3 rfl _ _ rfl _ _ rfl _ _ rfl (by decide +kernel) _ (by first | assumption | rfl) ?_) | (refine st_cell hS 4 rfl _ _ rfl _ _ rfl _ _ rfl (by decide +kernel) _ (by first | assumption | rfl) ?_) | (refine st_cell hS 5 rfl _ _ rfl _ _ rfl _ _ rfl (by decide +kernel) _ (by first | assumption | rfl) ?_) | (refine st_cell hS 6 rfl _ _ rfl _ _ rfl _ _ rfl (by decide +kernel) _ (by first | assumption | rfl) ?_) | (refine st_cell hS 7 rfl _ _ rfl _ _ rfl _ _ rfl (by decide +kernel) _ (by first | assumption | rfl) ?_)))
                      replace hS := hS.swap
                      have hlen : us3.length ≤ 4000000000 := Nat.le_trans (by rw [(HK3.out _ _ hS.ro).2.1]; exact HE2.out t) (by decide)
                      have kvp := Lib.hid (fun D w (h : K3 D w) => show Sl w D 1 (.slice A2 (n + 1) c2) p.length (ints (natInts p)) by rw [HPL.out]; exact kv D w (HK3.out D w h).1)
                      have hpl : Hid (p.length ≤ 1000) := Lib.hid (by rw [HPL.out]; omega)
                      obtain ⟨F, hF, hF1⟩ : ∃ F : List Fact, F = [.box g4 50 #[.int .i64 (za : Nat), .int .i64 (zb : Nat)]] ∧ Fact.box g4 50 #[.int .i64 (za : Nat), .int .i64 (zb : Nat)] ∈ F := ⟨_, rfl, List.mem_singleton.2 rfl⟩
                      replace hF := Lib.hid hF
                      have hJ0 : PJ w0 F K3 lv us3 p zb (w_.drew, ⟨none, none, none, none, none, none⟩) := by rw [hF.out]; exact hS.drew
                      have hN0 := fun i => PN.start i w_.drew
                      have hRr := @PR.refl w0 F K3 lv us3 p zb
                      have hRt := @PR.trans w0 F K3 lv us3 p zb
                      clear hS
                      refine wp_region_ghost (fun i__ v w => match i__ with
                        | 0 => v = lv
                        | 1 => w.2.a = some v
                        | 2 => v = .slice A2 (n + 1) c2
                        | 3 => w.2.b = some v
                        | 4 => v = .pointer (some ⟨g4, 1, none⟩)
                        | 5 => v = .int .i64 ((zb : Nat) : Int)
                        | 6 => w.2.c = some v
                        | 7 => w.2.d = some v ∧ ∃ A n c, v = .slice A n c
                        | 8 => w.2.e = some v ∧ ∃ u, w.2.d = some u ∧ u.oneCell' = true
                        | 9 => w.2.f = some v ∧ ∃ u, w.2.d = some u
                        | 10 => w.2.f = some v ∧ ∃ u, w.2.d = some u
                        | _ => True) (PR w0 F K3 lv us3 p zb) (PN) (⟨none, none, none, none, none, none⟩) (by kernel_rfl) (by kernel_rfl) hRr hRt ?mono ?hN ⟨?r0, ?r1, ?r2, ?r3, ?r4, ?r5, ?r6, ?r7, ?r8, ?r9, ?r10, trivial⟩ ?post
                      case hN => first | assumption | (intro i; (try dsimp only); split <;> first | trivial | assumption | (left; assumption))
                      case mono =>
                        intro i v w w' h hb
                        match i, h with
                        | 0, h => exact h
                        | 1, h => exact hb.2.1 _ h
                        | 2, h => exact h
                        | 3, h => exact hb.2.2.1 _ h
                        | 4, h => exact h
                        | 5, h => exact h
                        | 6, h => exact hb.2.2.2.1 _ h
                        | 7, h => exact ⟨hb.2.2.2.2.1 _ h.1, h.2⟩
                        | 8, h => exact by obtain ⟨h1, u, h2, h3⟩ := h; exact ⟨hb.2.2.2.2.2.1 _ h1, u, hb.2.2.2.2.1 _ h2, h3⟩
                        | 9, h => exact by obtain ⟨h1, u, h2⟩ := h; exact ⟨hb.2.2.2.2.2.2 _ h1, u, hb.2.2.2.2.1 _ h2⟩
                        | 10, h => exact by obtain ⟨h1, u, h2⟩ := h; exact ⟨hb.2.2.2.2.2.2 _ h1, u, hb.2.2.2.2.1 _ h2⟩
                        | _ + 11, h => trivial
                      case r0 =>
                        refine truleGh fun b__ w hW hN hold hpre => ⟨fun hwant K hK => ?_, fun hwant => ?_⟩
                        · clear hwant
                          have e9 : b__.eval (.tmp 9) = lv := (hold 9 (by kernel_rfl)).trans rfl
                          exact opw_move rfl e9 (hK _ _ rfl ⟨hRr _, fun _ _ h => h⟩)
                        · rw [want_none rfl] at hwant; cases hwant
                      case r1 =>
                        refine truleGh fun b__ w hW hN hold hpre => ⟨fun hwant K hK => ?_, fun hwant => ?_⟩
                        · clear hwant
                          exact p_start rfl Tryd.underlying31 (by kernel_rfl) hN hK
                        · rw [want_none rfl] at hwant; cases hwant
                      case r2 =>
                        refine truleGh fun b__ w hW hN hold hpre => ⟨fun hwant K hK => ?_, fun hwant => ?_⟩
                        · clear hwant
                          have e11 : b__.eval (.tmp 11) = .slice A2 (n + 1) c2 := (hold 11 (by kernel_rfl)).trans rfl
                          exact opw_move rfl e11 (hK _ _ rfl ⟨hRr _, fun _ _ h => h⟩)
                        · rw [want_none rfl] at hwant; cases hwant
                      case r3 =>
                        refine truleGh fun b__ w hW hN hold hpre => ⟨fun hwant K hK => ?_, fun hwant => ?_⟩
                        · clear hwant
                          have e57 : (fun (v : Value) (w : World × _) => w.2.a = some v) (b__.eval (.tmp 57)) w := hpre ⟨1, _⟩ (Array.mem_of_getElem? (i := 0) rfl) rfl _ _ rfl rfl
                          have e58 : b__.eval (.tmp 58) = .slice A2 (n + 1) c2 := hpre ⟨2, _⟩ (Array.mem_of_getElem? (i := 1) rfl) rfl _ _ rfl rfl
                          exact p_path rfl ty_ints (by decide) hN e57 (hW.1 hJ0) (by rw [e58]; exact kvp.out _ _ (hW.1 hJ0).ro) hpl.out hK
                        · rw [want_none rfl] at hwant; cases hwant
                      case r4 =>
                        refine truleGh fun b__ w hW hN hold hpre => ⟨fun hwant K hK => ?_, fun hwant => ?_⟩
                        · clear hwant
                          have e14 : b__.eval (.tmp 14) = .pointer (some ⟨g4, 0, none⟩) := (hold 14 (by kernel_rfl)).trans rfl
                          exact opw_iaddr rfl (by assumption) rfl (run_snd g4 _) (hK _ _ rfl ⟨hRr _, fun _ _ h => h⟩)
                        · rw [want_none rfl] at hwant; cases hwant
                      case r5 =>
                        refine truleGh fun b__ w hW hN hold hpre => ⟨fun hwant K hK => ?_, fun hwant => ?_⟩
                        · clear hwant
                          have e60 : b__.eval (.tmp 60) = .pointer (some ⟨g4, 1, none⟩) := hpre ⟨4, _⟩ (Array.mem_of_getElem? (i := 0) rfl) rfl _ _ rfl rfl
                          exact opw_cell rfl e60 (by kernel_rfl) (((hW.1 hJ0).rest hF1).2.cell 1) (hK _ _ rfl ⟨hRr _, fun _ _ h => h⟩)
                        · rw [want_none rfl] at hwant; cases hwant
                      case r6 =>
                        refine truleGh fun b__ w hW hN hold hpre => ⟨fun hwant K hK => ?_, fun hwant => ?_⟩
                        · clear hwant
                          have e61 : b__.eval (.tmp 61) = .int .i64 ((zb : Nat) : Int) := hpre ⟨5, _⟩ (Array.mem_of_getElem? (i := 0) rfl) rfl _ _ rfl rfl
                          exact p_end rfl Tryd.underlying31 (by simp [e61]) (by kernel_rfl) hN hK
                        · rw [want_none rfl] at hwant; cases hwant
                      case r7 =>
                        refine truleGh fun b__ w hW hN hold hpre => ⟨fun hwant K hK => ?_, fun hwant => ?_⟩
                        · clear hwant
                          have e59 : (fun (v : Value) (w : World × _) => w.2.b = some v) (b__.eval (.tmp 59)) w := hpre ⟨3, _⟩ (Array.mem_of_getElem? (i := 0) rfl) rfl _ _ rfl rfl
                          have e62 : (fun (v : Value) (w : World × _) => w.2.c = some v) (b__.eval (.tmp 62)) w := hpre ⟨6, _⟩ (Array.mem_of_getElem? (i := 1) rfl) rfl _ _ rfl rfl
                          exact p_long rfl ty_ints (by decide) hN e59 e62 (hW.1 hJ0) hpl.out hK
                        · rw [want_none rfl] at hwant; cases hwant
                      case r8 =>
                        refine truleGh fun b__ w hW hN hold hpre => ⟨fun hwant K hK => ?_, fun hwant => ?_⟩
                        · clear hwant
                          have e63 : (fun (v : Value) (w : World × _) => w.2.d = some v ∧ ∃ A n c, v = .slice A n c) (b__.eval (.tmp 63)) w := hpre ⟨7, _⟩ (Array.mem_of_getElem? (i := 0) rfl) rfl _ _ rfl rfl
                          obtain ⟨hd, A, n, c, hv⟩ := e63
                          rw [hv] at hd
                          exact p_row (u := .slice A n c) rfl Tryd.underlying79 (by simp [hv]) (by kernel_rfl) hN hd rfl hK
                        · rw [want_none rfl] at hwant; cases hwant
                      case r9 =>
                        refine truleGh fun b__ w hW hN hold hpre => ⟨fun hwant K hK => ?_, fun hwant => ?_⟩
                        · clear hwant
                          have e56 : b__.eval (.tmp 56) = lv := hpre ⟨0, _⟩ (Array.mem_of_getElem? (i := 0) rfl) rfl _ _ rfl rfl
                          have e64 : (fun (v : Value) (w : World × _) => w.2.e = some v ∧ ∃ u, w.2.d = some u ∧ u.oneCell' = true) (b__.eval (.tmp 64)) w := hpre ⟨8, _⟩ (Array.mem_of_getElem? (i := 1) rfl) rfl _ _ rfl rfl
                          obtain ⟨he, u, hd, hu⟩ := e64
                          exact p_rows rfl ty_intss (by decide) hN e56 hd he hu (hW.1 hJ0) hlen hK
                        · rw [want_none rfl] at hwant; cases hwant
                      case r10 =>
                        refine truleGh fun b__ w hW hN hold hpre => ⟨fun hwant K hK => ?_, fun hwant => ?_⟩
                        · clear hwant
                          have e65 : (fun (v : Value) (w : World × _) => w.2.f = some v ∧ ∃ u, w.2.d = some u) (b__.eval (.tmp 65)) w := hpre ⟨9, _⟩ (Array.mem_of_getElem? (i := 0) rfl) rfl _ _ rfl rfl
                          exact opw_assign rfl rfl (hK _ _ e65 ⟨hRr _, fun _ _ h => h⟩)
                        · rw [want_none rfl] at hwant; cases hwant
                      case post =>
                        intro b__ wz hW hdf hsz hold hT hZ
                        have e56 : b__.eval (.tmp 56) = lv := hT 0 _ 56 rfl rfl
                        have e57 : (fun (v : Value) (w : World × _) => w.2.a = some v) (b__.eval (.tmp 57)) wz := hT 1 _ 57 rfl rfl
                        have e58 : b__.eval (.tmp 58) = .slice A2 (n + 1) c2 := hT 2 _ 58 rfl rfl
                        have e59 : (fun (v : Value) (w : World × _) => w.2.b = some v) (b__.eval (.tmp 59)) wz := hT 3 _ 59 rfl rfl
                        have e60 : b__.eval (.tmp 60) = .pointer (some ⟨g4, 1, none⟩) := hT 4 _ 60 rfl rfl
                        have e61 : b__.eval (.tmp 61) = .int .i64 ((zb : Nat) : Int) := hT 5 _ 61 rfl rfl
                        have e62 : (fun (v : Value) (w : World × _) => w.2.c = some v) (b__.eval (.tmp 62)) wz := hT 6 _ 62 rfl rfl
                        have e63 : (fun (v : Value) (w : World × _) => w.2.d = some v ∧ ∃ A n c, v = .slice A n c) (b__.eval (.tmp 63)) wz := hT 7 _ 63 rfl rfl
                        have e64 : (fun (v : Value) (w : World × _) => w.2.e = some v ∧ ∃ u, w.2.d = some u ∧ u.oneCell' = true) (b__.eval (.tmp 64)) wz := hT 8 _ 64 rfl rfl
                        have e65 : (fun (v : Value) (w : World × _) => w.2.f = some v ∧ ∃ u, w.2.d = some u) (b__.eval (.tmp 65)) wz := hT 9 _ 65 rfl rfl
                        have e9 : (fun (v : Value) (w : World × _) => w.2.f = some v ∧ ∃ u, w.2.d = some u) (b__.eval (.tmp 9)) wz := hT 10 _ 9 rfl rfl
                        obtain ⟨vs, hvs, hb⟩ := frame_of hdf hsz hold
                        replace e56 : vs 56 = lv := (hvs 56).symm.trans e56
                        replace e57 := (hvs 57) ▸ e57
                        replace e58 : vs 58 = .slice A2 (n + 1) c2 := (hvs 58).symm.trans e58
                        replace e59 := (hvs 59) ▸ e59
                        replace e60 : vs 60 = .pointer (some ⟨g4, 1, none⟩) := (hvs 60).symm.trans e60
                        replace e61 : vs 61 = .int .i64 ((zb : Nat) : Int) := (hvs 61).symm.trans e61
                        replace e62 := (hvs 62) ▸ e62
                        replace e63 := (hvs 63) ▸ e63
                        replace e64 := (hvs 64) ▸ e64
                        replace e65 := (hvs 65) ▸ e65
                        replace e9 := (hvs 9) ▸ e9
                        subst hb
                        clear hvs hold hT hdf hsz
                        simp only [setAll, Act.put, List.setIfInBounds_toArray, List.set_cons_zero, List.set_cons_succ, List.getElem_toArray, List.getElem_cons_succ, List.getElem_cons_zero]
                        obtain ⟨hf, u, hd⟩ := e9
                        have hS1 := (hW.1 hJ0).done hd hf
                        have hS2 := hS1.freeze 1 (by decide) rfl
                        have hS3 := hS2.sub (F' := [.own (vs 9) 31 1 (us3.length + 1) (us3 ++ [u])]) (List.cons_sublist_cons.2 (List.nil_sublist _))
                        clear hS1 hS2 hd hf hJ0 hRr hRt hW hZ hN0
                        have hS := hS3
                        clear hS3
                        generalize vs 9 = v9 at *
                        generalize wz.1 = wf at *
                        go_wp2_with fail
                        replace hS : St w0 wf [.own v9 31 1 (us3 ++ [u]).length (us3 ++ [u])] (fun D w => K3 D w ∧ Sl w D 1 u (p.length + 1) (ints (natInts (p ++ [zb])))) := by rw [List.length_append]; exact hS
                        refine ⟨⟨_, t + 1, us3 ++ [u], _, rfl, by go_num, htl, ?_, hS⟩, by simp [intOf]; omega⟩
                        exact Lib.hid fun D w h => ⟨(HK3.out D w h.1).1, by rw [HE.out, ← List.append_assoc]; exact (HK3.out D w h.1).2.snoc (by rw [List.length_append]; exact h.2)⟩
                    · have HE := Lib.hid (HST.out.trans (if_neg (by rw [hlp.out]; exact hz)))
                      clear HST
                      go_wp2_with (first
                        | ((with_reducible show wpList _ _ _ (⟨_, .binOp _ _ _ _ _, _, _, _, _⟩ :: _) _ _); (first | ((with_reducible show wpList _ _ _ (⟨_, .binOp .lss _ _ _ _, _, _, _, _⟩ :: _) _ _); refine st_lss rfl _ _ _ _ rfl _ _ _ rfl rfl (fun h_ => ?_) (fun h_ => ?_)) | ((with_reducible show wpList _ _ _ (⟨_, .binOp .leq _ _ _ _, _, _, _, _⟩ :: _) _ _); refine st_leq rfl _ _ _ _ rfl _ _ _ rfl rfl (fun h_ => ?_) (fun h_ => ?_)) | ((with_reducible show wpList _ _ _ (⟨_, .binOp .gtr _ _ _ _, _, _, _, _⟩ :: _) _ _); refine st_gtr rfl _ _ _ _ rfl _ _ _ rfl rfl (fun h_ => ?_) (fun h_ => ?_)) | ((with_reducible show wpList _ _ _ (⟨_, .binOp .geq _ _ _ _, _, _, _, _⟩ :: _) _ _); refine st_geq rfl _ _ _ _ rfl _ _ _ rfl rfl (fun h_ => ?_) (fun h_ => ?_)) | ((with_reducible show wpList _ _ _ (⟨_, .binOp .eql _ _ _ _, _, _, _, _⟩ :: _) _ _); refine st_eql rfl _ _ _ _ rfl _ _ _ rfl rfl (fun h_ => ?_) (fun h_ => ?_)) | ((with_reducible show wpList _ _ _ (⟨_, .binOp .neq _ _ _ _, _, _, _, _⟩ :: _) _ _); refine st_neq rfl _ _ _ _ rfl _ _ _ rfl rfl (fun h_ => ?_) (fun h_ => ?_))) <;> go_prune)
                        | ((with_reducible show wpList _ _ _ (⟨_, .indexAddr _ _ _, _, _, _, _⟩ :: _) _ _); refine st_iaddr2 hS rfl _ _ _ rfl _ rfl rfl (by assumption) Tryd.underlying25 (by kernel_rfl) (by first | assumption | omega) _ _ (by assumption) (by assumption) ?_; intro b_ j_ hc0_ hc1_)
                        | ((with_reducible show wpList _ _ _ (⟨some 14, _, _, _, _, _⟩ :: _) _ _); refine st_alloc hS rfl _ rfl (by kernel_rfl) ?_; clear hS; intro g4 w_ hS; (try simp only [Act.put, Act.eval, List.set_cons_zero, List.set_cons_succ, List.setIfInBounds_toArray, Array.getD_eq_getD_getElem?, List.getElem?_toArray, List.getElem?_cons_succ, List.getElem?_cons_zero, Option.getD_some, Value.cells] at hS))
                        | ((with_reducible show wpList _ _ _ (⟨_, .store _ _ _, _, _, _, _⟩ :: _) _ _); first | (refine st_store hS 0 rfl _ _ _ rfl _ _ rfl rfl _ _ rfl (by kernel_rfl) (by kernel_rfl) (by kernel_rfl) ?_; clear hS; intro w_ hS; (try simp only [Act.put, Act.eval, List.set_cons_zero, List.set_cons_succ, List.setIfInBounds_toArray, Array.getD_eq_getD_getElem?, List.getElem?_toArray, List.getElem?_cons_succ, List.getElem?_cons_zero, Option.getD_some, Value.cells] at hS)) | (refine st_store hS 1 rfl _ _ _ rfl _ _ rfl rfl _ _ rfl (by kernel_rfl) (by kernel_rfl) (by kernel_rfl) ?_; clear hS; intro w_ hS; (try simp only [Act.put, Act.eval, List.set_cons_zero, List.set_cons_succ, List.setIfInBounds_toArray, Array.getD_eq_getD_getElem?, List.getElem?_toArray, List.getElem?_cons_succ, List.getElem?_cons_zero, Option.getD_some, Value.cells] at hS)) | (refine st_store hS 2 rfl _ _ _ rfl _ _ rfl rfl _ _ rfl (by kernel_rfl) (by kernel_rfl) (by kernel_rfl) ?_; clear hS; intro w_ hS; (try simp only [Act.put, Act.eval, List.set_cons_zero, List.set_cons_succ, List.setIfInBounds_toArray, Array.getD_eq_getD_getElem?, List.getElem?_toArray, List.getElem?_cons_succ, List.getElem?_cons_zero, Option.getD_some, Value.cells] at hS)) | (refine st_store hS 3 rfl _ _ _ rfl _ _ rfl rfl _ _ rfl (by kernel_rfl) (by kernel_rfl) (by kernel_rfl) ?_; clear hS; intro w_ hS; (try simp only [Act.put, Act.eval, List.set_cons_zero, List.set_cons_succ, List.setIfInBounds_toArray, Array.getD_eq_getD_getElem?, List.getElem?_toArray, List.getElem?_cons_succ, List.getElem?_cons_zero, Option.getD_some, Value.cells] at hS)) | (refine st_cstore hS 0 rfl _ _ _ rfl _ _ _ rfl rfl rfl (by first | (simp; done) | (simp; omega) | exact of_decide_eq_true (by kernel_rfl)) rfl (by first | rfl | assumption) (by kernel_rfl) ?_; clear hS; intro w_ hS; (try simp only [Act.put, Act.eval, List.set_cons_zero, List.set_cons_succ, List.setIfInBounds_toArray, Array.getD_eq_getD_getElem?, List.getElem?_toArray, List.getElem?_cons_succ, List.getElem?_cons_zero, Option.getD_some, Value.cells] at hS)) | (refine st_cstore hS 1 rfl _ _ _ rfl _ _ _ rfl rfl rfl (by first | (simp; done) | (simp; omega) | exact of_decide_eq_true (by kernel_rfl)) rfl (by first | rfl | assumption) (by kernel_rfl) ?_; clear hS; intro w_ hS; (try simp only [Act.put, Act.eval, List.set_cons_zero, List.set_cons_succ, List.setIfInBounds_toArray, Array.getD_eq_getD_getElem?, List.getElem?_toArray, List.getElem?_cons_succ, List.getElem?_cons_zero, Option.getD_some, Value.cells] at hS)) | (refine st_cstore hS 2 rfl _ _ _ rfl _ _ _ rfl rfl rfl (by first | (simp; done) | (simp; omega) | exact of_decide_eq_true (by kernel_rfl)) rfl (by first | rfl | assumption) (by kernel_rfl) ?_; clear hS; intro w_ hS; (try simp only [Act.put, Act.eval, List.set_cons_zero, List.set_cons_succ, List.setIfInBounds_toArray, Array.getD_eq_getD_getElem?, List.getElem?_toArray, List.getElem?_cons_succ, List.getElem?_cons_zero, Option.getD_some, Value.cells] at hS)) | (refine st_cstore hS 3 rfl _ _ _ rfl _ _ _ rfl rfl rfl (by first | (simp; done) | (simp; omega) | exact of_decide_eq_true (by kernel_rfl)) rfl (by first | rfl | assumption) (by kernel_rfl) ?_; clear hS; intro w_ hS; (try simp only [Act.put, Act.eval, List.set_cons_zero, List.set_cons_succ, List.setIfInBounds_toArray, Array.getD_eq_getD_getElem?, List.getElem?_toArray, List.getElem?_cons_succ, List.getElem?_cons_zero, Option.getD_some, Value.cells] at hS)))
                        | ((with_reducible show wpList _ _ _ (⟨_, .load _ _, _, _, _, _⟩ :: _) _ _); first | refine st_load hS 0 rfl _ _ rfl _ rfl _ _ rfl _ Tryd.underlying50 rfl (by kernel_rfl) ?_ | refine st_load hS 1 rfl _ _ rfl _ rfl _ _ rfl _ Tryd.underlying50 rfl (by kernel_rfl) ?_ | refine st_load hS 2 rfl _ _ rfl _ rfl _ _ rfl _ Tryd.underlying50 rfl (by kernel_rfl) ?_ | refine st_load hS 3 rfl _ _ rfl _ rfl _ _ rfl _ Tryd.underlying50 rfl (by kernel_rfl) ?_)
                        | ((with_reducible show wpList _ _ _ (⟨_, .load _ _, _, _, _, _⟩ :: _) _ _); first | (refine st_cell hS 0 rfl _ _ rfl _ _ rfl _ _ rfl (by decide +kernel) _ (by first | assumption | rfl) ?_) | (refine st_cell hS 1 rfl _ _ rfl _ _ rfl _ _ rfl (by decide +kernel) _ (by first | assumption | rfl) ?_) | (refine st_cell hS 2 rfl _ _ rfl _ _ rfl _ _ rfl (by decide +kernel) _ (by first | assumption | rfl) ?_) | (refine st_cell hS 3 rfl _ _ rfl _ _ rfl _ _ rfl (by decide +kernel) _ (by first | assumption | rfl) ?_) | (refine st_cell hS 4 rfl _ _ rfl _ _ rfl _ _ rfl (by decide +kernel) _ (by first | assumption | rfl) ?_) | (refine st_cell hS 5 rfl _ _ rfl _ _ rfl _ _ rfl (by decide +kernel) _ (by first | assumption | rfl) ?_) | (refine st_cell hS 6 rfl _ _ rfl _ _ rfl _ _ rfl (by decide +kernel) _ (by first | assumption | rfl) ?_) | (refine st_cell hS 7 rfl _ _ rfl _ _ rfl _ _ rfl (by decide +kernel) _ (by first | assumption | rfl) ?_)))
                      exact ⟨⟨_, t + 1, us3, K3, rfl, by go_num, htl, by rw [HE.out]; exact HK3, hS.sub (List.sublist_cons_self _ _)⟩, by simp [intOf]; omega⟩
                  · obtain rfl : t = L.length := by omega
                    go_wp2_with (first | ((with_reducible show wpList _ _ _ (⟨_, .binOp _ _ _ _ _, _, _, _, _⟩ :: _) _ _); (first | ((with_reducible show wpList _ _ _ (⟨_, .binOp .lss _ _ _ _, _, _, _, _⟩ :: _) _ _); refine st_lss rfl _ _ _ _ rfl _ _ _ rfl rfl (fun h_ => ?_) (fun h_ => ?_)) | ((with_reducible show wpList _ _ _ (⟨_, .binOp .leq _ _ _ _, _, _, _, _⟩ :: _) _ _); refine st_leq rfl _ _ _ _ rfl _ _ _ rfl rfl (fun h_ => ?_) (fun h_ => ?_)) | ((with_reducible show wpList _ _ _ (⟨_, .binOp .gtr _ _ _ _, _, _, _, _⟩ :: _) _ _); refine st_gtr rfl _ _ _ _ rfl _ _ _ rfl rfl (fun h_ => ?_) (fun h_ => ?_)) | ((with_reducible show wpList _ _ _ (⟨_, .binOp .geq _ _ _ _, _, _, _, _⟩ :: _) _ _); refine st_geq rfl _ _ _ _ rfl _ _ _ rfl rfl (fun h_ => ?_) (fun h_ => ?_)) | ((with_reducible show wpList _ _ _ (⟨_, .binOp .eql _ _ _ _, _, _, _, _⟩ :: _) _ _); refine st_eql rfl _ _ _ _ rfl _ _ _ rfl rfl (fun h_ => ?_) (fun h_ => ?_)) | ((with_reducible show wpList _ _ _ (⟨_, .binOp .neq _ _ _ _, _, _, _, _⟩ :: _) _ _); refine st_neq rfl _ _ _ _ rfl _ _ _ rfl rfl (fun h_ => ?_) (fun h_ => ?_))) <;> go_prune))
                    exact ⟨⟨_, j + 1, us3, K3, rfl, by go_num, hju, HJ3, Lib.hid fun D w h => ⟨(HK2.out D w (HK3.out D w h).1).1, by rw [← HE3.out]; exact (HK3.out D w h).2⟩, hS⟩, by simp [intOf]; omega⟩
            · obtain rfl : j = us.length := by omega
              have HJ4 : Hid (∀ k, k < n + 1 → ¬ Wk L y k x) := Lib.hid fun k hk => by
                by_cases e : k = n
                · subst e
                  refine no_wk fun q hq => HJ.out q ?_
                  rw [HLN.out, List.take_length]; exact hq
                · exact HN.out k (by omega)
              have HX : Hid (extP L ((wlk L n x).take us.length) = wlk L (n + 1) x) := Lib.hid (by rw [HLN.out, List.take_length, extP_wlk])
              have hS1 := hS.freeze 0 (by decide) rfl
              clear hS
              have hS := hS1
              clear hS1
              go_wp2_with (first | ((with_reducible show wpList _ _ _ (⟨_, .binOp _ _ _ _ _, _, _, _, _⟩ :: _) _ _); (first | ((with_reducible show wpList _ _ _ (⟨_, .binOp .lss _ _ _ _, _, _, _, _⟩ :: _) _ _); refine st_lss rfl _ _ _ _ rfl _ _ _ rfl rfl (fun h_ => ?_) (fun h_ => ?_)) | ((with_reducible show wpList _ _ _ (⟨_, .binOp .leq _ _ _ _, _, _, _, _⟩ :: _) _ _); refine st_leq rfl _ _ _ _ rfl _ _ _ rfl rfl (fun h_ => ?_) (fun h_ => ?_)) | ((with_reducible show wpList _ _ _ (⟨_, .binOp .gtr _ _ _ _, _, _, _, _⟩ :: _) _ _); refine st_gtr rfl _ _ _ _ rfl _ _ _ rfl rfl (fun h_ => ?_) (fun h_ => ?_)) | ((with_reducible show wpList _ _ _ (⟨_, .binOp .geq _ _ _ _, _, _, _, _⟩ :: _) _ _); refine st_geq rfl _ _ _ _ rfl _ _ _ rfl rfl (fun h_ => ?_) (fun h_ => ?_)) | ((with_reducible show wpList _ _ _ (⟨_, .binOp .eql _ _ _ _, _, _, _, _⟩ :: _) _ _); refine st_eql rfl _ _ _ _ rfl _ _ _ rfl rfl (fun h_ => ?_) (fun h_ => ?_)) | ((with_reducible show wpList _ _ _ (⟨_, .binOp .neq _ _ _ _, _, _, _, _⟩ :: _) _ _); refine st_neq rfl _ _ _ _ rfl _ _ _ rfl rfl (fun h_ => ?_) (fun h_ => ?_))) <;> go_prune))
              exact ⟨⟨_, n + 1, us2, _, rfl, by go_num, hn64, HJ4, Lib.hid (fun D w h => ⟨(HK1.out D w (HK2.out D w h.1).1).1, h.2, by rw [← HX.out]; exact (HK2.out D w h.1).2⟩), hS⟩, by simp [intOf]; omega⟩
        · obtain rfl : n = 64 := by omega
          have HNI : Hid (¬ impl L (x : Nat) (y : Nat)) := Lib.hid fun ⟨i, j, h1, h2, _, h4, h5⟩ => by
            obtain rfl : x = i := by omega
            obtain rfl : y = j := by omega
            obtain ⟨k, hk⟩ : ∃ k, Wk L y k x := by
              rcases h5 with rfl | h5
              · exact ⟨0, rfl⟩
              · exact h5.wk
            exact HN.out k (Wk.lt HLA.out.1 HLA.out.2 hy1.out.2 hk) hk
          go_wp2_with (first | ((with_reducible show wpList _ _ _ (⟨_, .binOp _ _ _ _ _, _, _, _, _⟩ :: _) _ _); (first | ((with_reducible show wpList _ _ _ (⟨_, .binOp .lss _ _ _ _, _, _, _, _⟩ :: _) _ _); refine st_lss rfl _ _ _ _ rfl _ _ _ rfl rfl (fun h_ => ?_) (fun h_ => ?_)) | ((with_reducible show wpList _ _ _ (⟨_, .binOp .leq _ _ _ _, _, _, _, _⟩ :: _) _ _); refine st_leq rfl _ _ _ _ rfl _ _ _ rfl rfl (fun h_ => ?_) (fun h_ => ?_)) | ((with_reducible show wpList _ _ _ (⟨_, .binOp .gtr _ _ _ _, _, _, _, _⟩ :: _) _ _); refine st_gtr rfl _ _ _ _ rfl _ _ _ rfl rfl (fun h_ => ?_) (fun h_ => ?_)) | ((with_reducible show wpList _ _ _ (⟨_, .binOp .geq _ _ _ _, _, _, _, _⟩ :: _) _ _); refine st_geq rfl _ _ _ _ rfl _ _ _ rfl rfl (fun h_ => ?_) (fun h_ => ?_)) | ((with_reducible show wpList _ _ _ (⟨_, .binOp .eql _ _ _ _, _, _, _, _⟩ :: _) _ _); refine st_eql rfl _ _ _ _ rfl _ _ _ rfl rfl (fun h_ => ?_) (fun h_ => ?_)) | ((with_reducible show wpList _ _ _ (⟨_, .binOp .neq _ _ _ _, _, _, _, _⟩ :: _) _ _); refine st_neq rfl _ _ _ _ rfl _ _ _ rfl rfl (fun h_ => ?_) (fun h_ => ?_))) <;> go_prune))
          go_ret
          exact ⟨_, false, [], rfl, .inl ⟨rfl, rfl, HNI.out⟩, by simp, hS.mono (stable_sl (by decide)) fun D w _ => Sl.none_⟩
    · have HRB := Lib.hid (decide_eq_false hrb)
      have HNO : Hid (¬ impl L a b) := Lib.hid fun ⟨i, j, h1, h2, h3, h4, _⟩ => hrb (by omega)
      clear hra hrb
      go_enter Tryd.func18, Tryd.ntmps18
      go_wp2_with (first
        | ((with_reducible show wpList _ _ _ (⟨_, .binOp _ _ _ _ _, _, _, _, _⟩ :: _) _ _); (first | ((with_reducible show wpList _ _ _ (⟨_, .binOp .lss _ _ _ _, _, _, _, _⟩ :: _) _ _); refine st_lss rfl _ _ _ _ rfl _ _ _ rfl rfl (fun h_ => ?_) (fun h_ => ?_)) | ((with_reducible show wpList _ _ _ (⟨_, .binOp .leq _ _ _ _, _, _, _, _⟩ :: _) _ _); refine st_leq rfl _ _ _ _ rfl _ _ _ rfl rfl (fun h_ => ?_) (fun h_ => ?_)) | ((with_reducible show wpList _ _ _ (⟨_, .binOp .gtr _ _ _ _, _, _, _, _⟩ :: _) _ _); refine st_gtr rfl _ _ _ _ rfl _ _ _ rfl rfl (fun h_ => ?_) (fun h_ => ?_)) | ((with_reducible show wpList _ _ _ (⟨_, .binOp .geq _ _ _ _, _, _, _, _⟩ :: _) _ _); refine st_geq rfl _ _ _ _ rfl _ _ _ rfl rfl (fun h_ => ?_) (fun h_ => ?_)) | ((with_reducible show wpList _ _ _ (⟨_, .binOp .eql _ _ _ _, _, _, _, _⟩ :: _) _ _); refine st_eql rfl _ _ _ _ rfl _ _ _ rfl rfl (fun h_ => ?_) (fun h_ => ?_)) | ((with_reducible show wpList _ _ _ (⟨_, .binOp .neq _ _ _ _, _, _, _, _⟩ :: _) _ _); refine st_neq rfl _ _ _ _ rfl _ _ _ rfl rfl (fun h_ => ?_) (fun h_ => ?_))) <;> go_prune)
        | (go_at_call 57; refine (rrole_any _ _).mono ?_; (first | rw [HRA.out] | rw [HRB.out]); rintro r_ w_ ⟨_, rfl, rfl, hb_⟩; replace hS := hS.ext hb_; clear hb_))
      go_ret
      exact ⟨_, false, [], rfl, .inl ⟨rfl, rfl, HNO.out⟩, by simp, hS.mono (stable_sl (by decide)) fun D w _ => Sl.none_⟩
  · have HRA := Lib.hid (decide_eq_false hra)
    have HRB := HRA
    have HNO : Hid (¬ impl L a b) := Lib.hid fun ⟨i, j, h1, h2, h3, h4, _⟩ => hra (by omega)
    clear hra
    go_enter Tryd.func18, Tryd.ntmps18
    go_wp2_with (first
      | ((with_reducible show wpList _ _ _ (⟨_, .binOp _ _ _ _ _, _, _, _, _⟩ :: _) _ _); (first | ((with_reducible show wpList _ _ _ (⟨_, .binOp .lss _ _ _ _, _, _, _, _⟩ :: _) _ _); refine st_lss rfl _ _ _ _ rfl _ _ _ rfl rfl (fun h_ => ?_) (fun h_ => ?_)) | ((with_reducible show wpList _ _ _ (⟨_, .binOp .leq _ _ _ _, _, _, _, _⟩ :: _) _ _); refine st_leq rfl _ _ _ _ rfl _ _ _ rfl rfl (fun h_ => ?_) (fun h_ => ?_)) | ((with_reducible show wpList _ _ _ (⟨_, .binOp .gtr _ _ _ _, _, _, _, _⟩ :: _) _ _); refine st_gtr rfl _ _ _ _ rfl _ _ _ rfl rfl (fun h_ => ?_) (fun h_ => ?_)) | ((with_reducible show wpList _ _ _ (⟨_, .binOp .geq _ _ _ _, _, _, _, _⟩ :: _) _ _); refine st_geq rfl _ _ _ _ rfl _ _ _ rfl rfl (fun h_ => ?_) (fun h_ => ?_)) | ((with_reducible show wpList _ _ _ (⟨_, .binOp .eql _ _ _ _, _, _, _, _⟩ :: _) _ _); refine st_eql rfl _ _ _ _ rfl _ _ _ rfl rfl (fun h_ => ?_) (fun h_ => ?_)) | ((with_reducible show wpList _ _ _ (⟨_, .binOp .neq _ _ _ _, _, _, _, _⟩ :: _) _ _); refine st_neq rfl _ _ _ _ rfl _ _ _ rfl rfl (fun h_ => ?_) (fun h_ => ?_))) <;> go_prune)
      | (go_at_call 57; refine (rrole_any _ _).mono ?_; (first | rw [HRA.out] | rw [HRB.out]); rintro r_ w_ ⟨_, rfl, rfl, hb_⟩; replace hS := hS.ext hb_; clear hb_))
    go_ret
    exact ⟨_, false, [], rfl, .inl ⟨rfl, rfl, HNO.out⟩, by simp, hS.mono (stable_sl (by decide)) fun D w _ => Sl.none_⟩
end Go.Proofs.YtmlkgaiphpimiaaDoor
namespace Go.Proofs.YtmlkgaiphpimiaaDoor
open Go.RowKit
attribute [local go_sem ↓] Go.wp_at_zero Go.wp_at_succ
set_option maxRecDepth 20000
set_option exponentiation.threshold 5000

theorem nodup_le : ∀ {T S : List (Nat × Nat)}, T.Nodup → (∀ y ∈ T, y ∈ S) → T.length ≤ S.length
  | [], _, _, _ => by simp
  | t :: T, S, hT, hs => by
    have hT := List.nodup_cons.1 hT
    have ht := hs t (List.mem_cons_self ..)
    have := nodup_le (T := T) (S := S.erase t) hT.2 fun y hy => (List.mem_erase_of_ne (fun e => hT.1 (by rw [← e]; exact hy))).2 (hs y (List.mem_cons_of_mem _ hy))
    rw [List.length_erase_of_mem ht] at this
    have := List.length_pos_of_mem ht
    rw [List.length_cons]
    omega
/-- some of the links M, as a hierarchy has them -/
def Part (M : List (Nat × Nat)) (j : Nat) (L : List (Nat × Nat)) : Prop := HOK L ∧ ∀ u, u ∈ L ↔ u ∈ M.take j
theorem Part.len {M L : List (Nat × Nat)} {j : Nat} (h : Part M j L) : L.length ≤ M.length := nodup_le h.1.asc.nodup fun y hy => List.mem_of_mem_take ((h.2 y).1 hy)
theorem Part.full {M L : List (Nat × Nat)} (h : Part M M.length L) (hM : Asc M) : L = M := Asc.uniq h.1.asc hM fun u => by rw [h.2, List.take_length]
set_option maxHeartbeats 1000000 in
theorem lmake10_any {w0 w : World} {F : List Fact} {K : (Nat → Prop) → World → Prop} (x : Nat) (hx : x < T64) (hS : St w0 w F K) (kt : ∀ D w, K D w → DTab w ∧ D 0) :
    Calls Tryd.prog 14 #[.int .u64 (x : Nat)] w fun e w' => ∃ (p v : Value) (L : List (Nat × Nat)), e = .returned (.tuple #[p, v]) ∧ HOK L ∧ Six L ∧ L.length ≤ 36 ∧ St w0 w' F fun D w => (K D w ∧ Sl w D 2 v L.length (pcells L)) ∧ IsH w D p L := by
  have HX := Lib.hid hx
  have KSt := hS.stable
  clear hx
  go_enter Tryd.func14, Tryd.ntmps14
  go_wp2_with (first
    | (go_at_call 54; refine (rlinks_any x HX.out _).mono ?_; rintro e w_ ⟨v, L, rfl, hH, h6, hl, hs⟩; replace hH := Lib.hid hH; replace h6 := Lib.hid h6; replace hS := (hS.new hs.below (.own v 50 2 L.length (pcells L)) (hs.own 0 rfl)).freeze 0 (by decide) rfl; have KS1 := hS.stable; obtain ⟨A, c, rfl, _, _⟩ := own_shp (hs.own 0 rfl); clear hs)
    | (go_at_call 53; refine (hnew_any hS (fun D w h => kt D w h.1)).mono ?_; rintro e w_ ⟨p, rfl, hS⟩))
  obtain ⟨KX, k1, kp, KF, KS, hS2⟩ : ∃ KX : (Nat → Prop) → World → Prop, (∀ D w, KX D w → K D w) ∧ (∀ D w, KX D w → Sl w D 2 (.slice A L.length c) L.length (pcells L)) ∧ (∀ D w, KX D w → K D w ∧ Sl w D 2 (.slice A L.length c) L.length (pcells L)) ∧ Stable KX ∧ St w0 w_ F fun D w => KX D w ∧ IsH w D p [] := ⟨_, fun _ _ h => h.1, fun _ _ h => h.2, fun _ _ h => h, KS1, hS⟩
  clear hS KS1
  have hS := hS2
  clear hS2
  have HNX : Hid (∀ (j : Nat) (x : Nat × Nat) (L' : List (Nat × Nat)), L[j]? = some x → Part L j L' → ∀ (F : List Fact) (K : (Nat → Prop) → World → Prop) (w : World) (r : Value) (z : Int), LinkP w0 F K L' (x.1 : Nat) (x.2 : Nat) r z w → z = 0 ∧ ∃ L'', Part L (j + 1) L'' ∧ St w0 w F fun D w => K D w ∧ IsH w D r L'') := Lib.hid fun j x L' hx hP F K w r z h => by
    obtain ⟨h1, L'', h2, h3, h4⟩ := h.next hx hP.2 hH.out.asc.nodup hH.out.role hH.out.acyc
    exact ⟨h1, L'', ⟨h2, h3⟩, h4⟩
  have HLF : Hid (∀ L', Part L L.length L' → L' = L) := Lib.hid fun L' h => h.full hH.out.asc
  have KSF : Stable fun D w => K D w ∧ Sl w D 2 (.slice A L.length c) L.length (pcells L) := KSt.and (stable_sl (by decide))
  have hP0 : Part L 0 [] := ⟨HOK.nil, by simp⟩
  go_loopw [5, 15] (fun v i wr => ∃ (j : Nat) (p : Value) (L' : List (Nat × Nat)), i = .int .i64 (j : Nat) ∧ p = v ∧ j ≤ L.length ∧ Hid (Part L j L') ∧ St w0 wr F fun D w => KX D w ∧ IsH w D p L') (fun _ i _ => L.length - (intOf i).toNat)
  case atStart => exact ⟨0, p, [], rfl, rfl, by omega, Lib.hid hP0, hS⟩
  case round =>
    clear hS hP0
    obtain ⟨j, p, L', rfl, rfl, hj, HP, hS⟩ := hrel
    by_cases hlj : j < L.length
    · obtain ⟨f1, f2⟩ := pcells_at L j hlj
      have HNY := Lib.hid (HNX.out j _ L' (getD_at (0, 0) hlj) HP.out)
      have HLL : Hid (L'.length ≤ 900000) := Lib.hid (by have := HP.out.len; omega)
      generalize L.getD j (0, 0) = z at *
      obtain ⟨za, zb⟩ := z
      dsimp only at f1 f2 HNY
      have kp2 : ∀ D w, (KX D w ∧ IsH w D p L') → Sl w D 2 (.slice A L.length c) L.length (pcells L) := fun D w h => kp D w h.1
      go_wp2_with (first
        | ((with_reducible show wpList _ _ _ (⟨_, .binOp _ _ _ _ _, _, _, _, _⟩ :: _) _ _); (first | ((with_reducible show wpList _ _ _ (⟨_, .binOp .lss _ _ _ _, _, _, _, _⟩ :: _) _ _); refine st_lss rfl _ _ _ _ rfl _ _ _ rfl rfl (fun h_ => ?_) (fun h_ => ?_)) | ((with_reducible show wpList _ _ _ (⟨_, .binOp .leq _ _ _ _, _, _, _, _⟩ :: _) _ _); refine st_leq rfl _ _ _ _ rfl _ _ _ rfl rfl (fun h_ => ?_) (fun h_ => ?_)) | ((with_reducible show wpList _ _ _ (⟨_, .binOp .gtr _ _ _ _, _, _, _, _⟩ :: _) _ _); refine st_gtr rfl _ _ _ _ rfl _ _ _ rfl rfl (fun h_ => ?_) (fun h_ => ?_)) | ((with_reducible show wpList _ _ _ (⟨_, .binOp .geq _ _ _ _, _, _, _, _⟩ :: _) _ _); refine st_geq rfl _ _ _ _ rfl _ _ _ rfl rfl (fun h_ => ?_) (fun h_ => ?_)) | ((with_reducible show wpList _ _ _ (⟨_, .binOp .eql _ _ _ _, _, _, _, _⟩ :: _) _ _); refine st_eql rfl _ _ _ _ rfl _ _ _ rfl rfl (fun h_ => ?_) (fun h_ => ?_)) | ((with_reducible show wpList _ _ _ (⟨_, .binOp .neq _ _ _ _, _, _, _, _⟩ :: _) _ _); refine st_neq rfl _ _ _ _ rfl _ _ _ rfl rfl (fun h_ => ?_) (fun h_ => ?_))) <;> go_prune)
        | ((with_reducible show wpList _ _ _ (⟨_, .indexAddr _ _ _, _, _, _, _⟩ :: _) _ _); refine st_iaddr2 hS rfl _ _ _ rfl _ rfl rfl (by assumption) Tryd.underlying25 (by kernel_rfl) (by first | assumption | omega) _ _ (by assumption) (by assumption) ?_; intro b_ j_ hc0_ hc1_)
        | ((with_reducible show wpList _ _ _ (⟨some 7, _, _, _, _, _⟩ :: _) _ _); refine st_alloc hS rfl _ rfl (by kernel_rfl) ?_; clear hS; intro g4 w_ hS; (try simp only [Act.put, Act.eval, List.set_cons_zero, List.set_cons_succ, List.setIfInBounds_toArray, Array.getD_eq_getD_getElem?, List.getElem?_toArray, List.getElem?_cons_succ, List.getElem?_cons_zero, Option.getD_some, Value.cells] at hS))
        | ((with_reducible show wpList _ _ _ (⟨_, .store _ _ _, _, _, _, _⟩ :: _) _ _); first | (refine st_store hS 0 rfl _ _ _ rfl _ _ rfl rfl _ _ rfl (by kernel_rfl) (by kernel_rfl) (by kernel_rfl) ?_; clear hS; intro w_ hS; (try simp only [Act.put, Act.eval, List.set_cons_zero, List.set_cons_succ, List.setIfInBounds_toArray, Array.getD_eq_getD_getElem?, List.getElem?_toArray, List.getElem?_cons_succ, List.getElem?_cons_zero, Option.getD_some, Value.cells] at hS)) | (refine st_store hS 1 rfl _ _ _ rfl _ _ rfl rfl _ _ rfl (by kernel_rfl) (by kernel_rfl) (by kernel_rfl) ?_; clear hS; intro w_ hS; (try simp only [Act.put, Act.eval, List.set_cons_zero, List.set_cons_succ, List.setIfInBounds_toArray, Array.getD_eq_getD_getElem?, List.getElem?_toArray, List.getElem?_cons_succ, List.getElem?_cons_zero, Option.getD_some, Value.cells] at hS)) | (refine st_store hS 2 rfl _ _ _ rfl _ _ rfl rfl _ _ rfl (by kernel_rfl) (by kernel_rfl) (by kernel_rfl) ?_; clear hS; intro w_ hS; (try simp only [Act.put, Act.eval, List.set_cons_zero, List.set_cons_succ, List.setIfInBounds_toArray, Array.getD_eq_getD_getElem?, List.getElem?_toArray, List.getElem?_cons_succ, List.getElem?_cons_zero, Option.getD_some, Value.cells] at hS)) | (refine st_store hS 3 rfl _ _ _ rfl _ _ rfl rfl _ _ rfl (by kernel_rfl) (by kernel_rfl) (by kernel_rfl) ?_; clear hS; intro w_ hS; (try simp only [Act.put, Act.eval, List.set_cons_zero, List.set_cons_succ, List.setIfInBounds_toArray, Array.getD_eq_getD_getElem?, List.getElem?_toArray, List.getElem?_cons_succ, List.getElem?_cons_zero, Option.getD_some, Value.cells] at hS)) | (refine st_cstore hS 0 rfl _ _ _ rfl _ _ _ rfl rfl rfl (by first | (simp; done) | (simp; omega) | exact of_decide_eq_true (by kernel_rfl)) rfl (by first | rfl | assumption) (by kernel_rfl) ?_; clear hS; intro w_ hS; (try simp only [Act.put, Act.eval, List.set_cons_zero, List.set_cons_succ, List.setIfInBounds_toArray, Array.getD_eq_getD_getElem?, List.getElem?_toArray, List.getElem?_cons_succ, List.getElem?_cons_zero, Option.getD_some, Value.cells] at hS)) | (refine st_cstore hS 1 rfl _ _ _ rfl _ _ _ rfl rfl rfl (by first | (simp; done) | (simp; omega) | exact of_decide_eq_true (by kernel_rfl)) rfl (by first | rfl | assumption) (by kernel_rfl) ?_; clear hS; intro w_ hS; (try simp only [Act.put, Act.eval, List.set_cons_zero, List.set_cons_succ, List.setIfInBounds_toArray, Array.getD_eq_getD_getElem?, List.getElem?_toArray, List.getElem?_cons_succ, List.getElem?_cons_zero, Option.getD_some, Value.cells] at hS)) | (refine st_cstore hS 2 rfl _ _ _ rfl _ _ _ rfl rfl rfl (by first | (simp; done) | (simp; omega) | exact of_decide_eq_true (by kernel_rfl)) rfl (by first | rfl | assumption) (by kernel_rfl) ?_; clear hS; intro w_ hS; (try simp only [Act.put, Act.eval, List.set_cons_zero, List.set_cons_succ, List.setIfInBounds_toArray, Array.getD_eq_getD_getElem?, List.getElem?_toArray, List.getElem?_cons_succ, List.getElem?_cons_zero, Option.getD_some, Value.cells] at hS)) | (refine st_cstore hS 3 rfl _ _ _ rfl _ _ _ rfl rfl rfl (by first | (simp; done) | (simp; omega) | exact of_decide_eq_true (by kernel_rfl)) rfl (by first | rfl | assumption) (by kernel_rfl) ?_; clear hS; intro w_ hS; (try simp only [Act.put, Act.eval, List.set_cons_zero, List.set_cons_succ, List.setIfInBounds_toArray, Array.getD_eq_getD_getElem?, List.getElem?_toArray, List.getElem?_cons_succ, List.getElem?_cons_zero, Option.getD_some, Value.cells] at hS)))
        | (go_at_call 44; refine (hlink_any p L' (za : Nat) (zb : Nat) HP.out.1 HLL.out hS (fun D w h => h.2) (fun D w h => kt D w (k1 D w h.1))).mono ?_; rintro e w_ ⟨r, z, rfl, hP⟩; obtain ⟨rfl, L'', hP2, hS⟩ := HNY.out _ _ _ _ _ hP; replace hP2 := Lib.hid hP2; clear hP)
        | ((with_reducible show wpList _ _ _ (⟨_, .load _ _, _, _, _, _⟩ :: _) _ _); first | (refine st_cell hS 0 rfl _ _ rfl _ _ rfl _ _ rfl (by decide +kernel) _ (by first | assumption | rfl) ?_) | (refine st_cell hS 1 rfl _ _ rfl _ _ rfl _ _ rfl (by decide +kernel) _ (by first | assumption | rfl) ?_) | (refine st_cell hS 2 rfl _ _ rfl _ _ rfl _ _ rfl (by decide +kernel) _ (by first | assumption | rfl) ?_) | (refine st_cell hS 3 rfl _ _ rfl _ _ rfl _ _ rfl (by decide +kernel) _ (by first | assumption | rfl) ?_) | (refine st_cell hS 4 rfl _ _ rfl _ _ rfl _ _ rfl (by decide +kernel) _ (by first | assumption | rfl) ?_) | (refine st_cell hS 5 rfl _ _ rfl _ _ rfl _ _ rfl (by decide +kernel) _ (by first | assumption | rfl) ?_) | (refine st_cell hS 6 rfl _ _ rfl _ _ rfl _ _ rfl (by decide +kernel) _ (by first | assumption | rfl) ?_) | (refine st_cell hS 7 rfl _ _ rfl _ _ rfl _ _ rfl (by decide +kernel) _ (by first | assumption | rfl) ?_)))
      exact ⟨⟨j + 1, r, L'', by go_num, rfl, hlj, hP2, (hS.sub (List.sublist_cons_self _ _)).mono (KS.and stable_isH) fun D w h => ⟨h.1.1, h.2⟩⟩, by simp [intOf]; omega⟩
    · obtain rfl : j = L.length := by omega
      rw [HLF.out _ HP.out] at hS
      go_wp2_with (first | ((with_reducible show wpList _ _ _ (⟨_, .binOp _ _ _ _ _, _, _, _, _⟩ :: _) _ _); (first | ((with_reducible show wpList _ _ _ (⟨_, .binOp .lss _ _ _ _, _, _, _, _⟩ :: _) _ _); refine st_lss rfl _ _ _ _ rfl _ _ _ rfl rfl (fun h_ => ?_) (fun h_ => ?_)) | ((with_reducible show wpList _ _ _ (⟨_, .binOp .leq _ _ _ _, _, _, _, _⟩ :: _) _ _); refine st_leq rfl _ _ _ _ rfl _ _ _ rfl rfl (fun h_ => ?_) (fun h_ => ?_)) | ((with_reducible show wpList _ _ _ (⟨_, .binOp .gtr _ _ _ _, _, _, _, _⟩ :: _) _ _); refine st_gtr rfl _ _ _ _ rfl _ _ _ rfl rfl (fun h_ => ?_) (fun h_ => ?_)) | ((with_reducible show wpList _ _ _ (⟨_, .binOp .geq _ _ _ _, _, _, _, _⟩ :: _) _ _); refine st_geq rfl _ _ _ _ rfl _ _ _ rfl rfl (fun h_ => ?_) (fun h_ => ?_)) | ((with_reducible show wpList _ _ _ (⟨_, .binOp .eql _ _ _ _, _, _, _, _⟩ :: _) _ _); refine st_eql rfl _ _ _ _ rfl _ _ _ rfl rfl (fun h_ => ?_) (fun h_ => ?_)) | ((with_reducible show wpList _ _ _ (⟨_, .binOp .neq _ _ _ _, _, _, _, _⟩ :: _) _ _); refine st_neq rfl _ _ _ _ rfl _ _ _ rfl rfl (fun h_ => ?_) (fun h_ => ?_))) <;> go_prune))
      go_ret2

      exact ⟨_, _, rfl, _, hH.out, h6.out, hl, hS.mono (KSF.and stable_isH) fun D w h => ⟨KF D w h.1, h.2⟩⟩
end Go.Proofs.YtmlkgaiphpimiaaDoor
namespace Go.Proofs.YtmlkgaiphpimiaaDoor
open Go.RowKit
attribute [local go_sem ↓] Go.wp_at_zero Go.wp_at_succ
set_option maxRecDepth 20000
set_option exponentiation.threshold 5000

/-- '[]T{x, ..}', perhaps guarded: a row of the call's own -/
theorem st_litw {P : Program} {ops : Array Oper} {rest : List Oper} {o : Oper} {a : Act} {Q : Exit → Act → World → Prop} {w0 w : World} {F : List Fact} {K : (Nat → Prop) → World → Prop} (h : St w0 w F K) (hg : Region.wanted o (yielded ops a.tmps) = true) (t e : TypeId) (len : Nat) (parts : Array (Nat × Operand)) (ho : o.op = .buildSlice t len parts) (ht : P.underlying t = some (.slice e)) (cells : Array Value)
    (hb : builtSlice P e len (parts.map fun (i, x) => (i, a.eval x)).toList = some cells) (size : Nat) (hs : cells.size = len * size) (hm : len ≤ 1000000000000)
    (hk : ∀ g w', St w0 w' (.own (.slice (some ⟨g, 0, none⟩) len len) e size len cells.toList :: F) K → wpList P ops Q rest (a.put o.dst (.slice (some ⟨g, 0, none⟩) len len)) w') : wpList P ops Q (o :: rest) a w :=
  BigFrame.wpList_want hg fun _ hK => opw_slice ho ht rfl hb fun w' hX hB => hK _ _ (hk _ w' (h.new hB _ ⟨by simpa using hs, .inr ⟨w.heap.size, len, cells, rfl, Nat.le_refl _, hX, Nat.le_refl _, by unfold maxLen; omega, hs, by rw [← hs, show cells.size = cells.toList.length by simp, List.take_length]⟩⟩))
def T3 : List (Nat × Nat) := [(1, 2), (1, 3), (2, 3)]
def M3 : List (Nat × Nat) := [(1, 2), (2, 3), (1, 3)]
/-- links that lead upwards: no cycle -/
theorem acyc_up {L : List (Nat × Nat)} (h : ∀ x ∈ L, x.1 < x.2) : Acyc L := by
  have key : ∀ {a b : Nat}, TC L a b → a < b := by
    intro a b k
    induction k with
    | one h1 => exact h _ h1
    | cons h1 _ ih => exact Nat.lt_trans (h _ h1) ih
  exact fun a ha => Nat.lt_irrefl _ (key ha)
theorem t3_hok : HOK T3 := by
  refine ⟨?_, ?_, acyc_up ?_⟩
  · unfold Asc T3 plt; simp
  · unfold T3; simp
  · unfold T3; simp
theorem m3_acyc : Acyc M3 := acyc_up (by unfold M3; simp)
theorem t3_part {L : List (Nat × Nat)} (h : Part M3 3 L) : L = T3 := Asc.uniq h.1.asc t3_hok.asc fun u => by
  rw [h.2]; unfold M3 T3; simp; constructor
  · rintro (h | h | h) <;> simp [h]
  · rintro (h | h | h) <;> simp [h]
theorem t3_chain {l : List Nat} {c : Bool} (h : ChainP T3 1 3 l c) : l = [1, 3] ∧ c = true := by
  have h13 : (1, 3) ∈ T3 := by unfold T3; simp
  rcases h with ⟨_, _, h⟩ | ⟨h, i, j, d, e1, e2, _, _, hd, hl⟩
  · exact absurd ⟨1, 3, rfl, rfl, by omega, by omega, .inr (.one h13)⟩ h
  · obtain rfl : i = 1 := by omega
    obtain rfl : j = 3 := by omega
    have h1 : isDist T3 3 1 1 := ⟨⟨3, h13, rfl⟩, fun k hk hw => by
      obtain rfl : k = 0 := by omega
      exact absurd (show 1 = 3 from hw) (by decide)⟩
    obtain rfl := isDist_uniq hd h1
    refine ⟨?_, h⟩
    rw [hl, gp_first (L := T3) (b := 3) (v := 1) (d := 0) (t := 1) (x := (1, 3)) rfl rfl (show isDist T3 3 3 0 from ⟨rfl, fun k hk => absurd hk (Nat.not_lt_zero _)⟩) fun s hs y hy hc => ?_]
    · rfl
    · obtain rfl : s = 0 := by omega
      cases hy
      exact absurd (show 2 = 3 from hc.2.1) (by decide)
theorem t3_link {w0 w : World} {F : List Fact} {K : (Nat → Prop) → World → Prop} {r : Value} {z : Int} (h : LinkP w0 F K T3 3 1 r z w) : r = .pointer none ∧ z = 16 ∧ St w0 w F K := by
  rcases h with ⟨h, _⟩ | ⟨x, y, hx, hy, _, _, _, h⟩
  · exact absurd ⟨⟨by omega, by omega⟩, ⟨by omega, by omega⟩, by omega⟩ h
  · obtain rfl : x = 3 := by omega
    obtain rfl : y = 1 := by omega
    rcases h with ⟨h, _⟩ | ⟨_, _, h1, h2, h3⟩ | ⟨_, _, L', h1, h2, _⟩
    · exact absurd h (by unfold T3; decide)
    · exact ⟨h1, h2, h3⟩
    · exfalso
      have h3 : (3, 1) ∈ L' := (h2 _).2 (by simp)
      have h4 : (1, 3) ∈ L' := (h2 _).2 (by unfold T3; simp)
      exact h1.acyc 3 (.cons h3 (.one h4))
theorem t3_tc {a b : Nat} : TC T3 a b ↔ (a, b) ∈ T3 := by
  constructor
  · intro h
    induction h with
    | one h => exact h
    | @cons a b c h _ ih =>
      unfold T3 at *
      simp only [List.mem_cons, Prod.mk.injEq, List.not_mem_nil, or_false] at *
      omega
  · exact .one
theorem t3_jun : junM T3 1 = 14 := mask_ext fun i => by
  rw [tb_jun t3_hok.inr (by omega), t3_tc]
  constructor
  · rintro (rfl | h)
    · decide
    · unfold T3 at h
      simp only [List.mem_cons, Prod.mk.injEq, List.not_mem_nil, or_false] at h
      have : i = 2 ∨ i = 3 := by omega
      rcases this with rfl | rfl <;> decide
  · intro h
    have hi : i < 4 := by
      rcases Nat.lt_or_ge i 4 with h1 | h1
      · exact h1
      · rw [Nat.testBit_lt_two_pow (Nat.lt_of_lt_of_le (show 14 < 2 ^ 4 by decide) (Nat.pow_le_pow_right (by decide) h1))] at h; cases h
    have : i = 0 ∨ i = 1 ∨ i = 2 ∨ i = 3 := by omega
    rcases this with rfl | rfl | rfl | rfl
    · revert h; decide
    · exact .inl rfl
    · exact .inr (by unfold T3; decide)
    · exact .inr (by unfold T3; decide)
theorem t3_of : ofN [1, 2, 3] = 14 := by decide
theorem tc_unl {L : List (Nat × Nat)} {z : Nat × Nat} {a b : Nat} (h : TC (unl L z) a b) : TC L a b := h.mono fun x hx => (mem_unl.1 hx).1
theorem t3_red : redL T3 T3 = [(1, 3)] := by
  have h1 : ¬ TC (unl T3 (1, 2)) 1 2 := fun h => by
    obtain ⟨y, hy, hk⟩ := h.first
    obtain ⟨hy1, hy2⟩ := mem_unl.1 hy
    rcases hk with rfl | hk
    · exact hy2 rfl
    · have := t3_tc.1 (tc_unl hk)
      unfold T3 at hy1 this
      simp only [List.mem_cons, Prod.mk.injEq, List.not_mem_nil, or_false] at hy1 this
      omega
  have h2 : TC (unl T3 (1, 3)) 1 3 := .cons (b := 2) (mem_unl.2 ⟨by unfold T3; simp, by decide⟩) (.one (mem_unl.2 ⟨by unfold T3; simp, by decide⟩))
  have h3 : ¬ TC (unl T3 (2, 3)) 2 3 := fun h => by
    obtain ⟨y, hy, hk⟩ := h.first
    obtain ⟨hy1, hy2⟩ := mem_unl.1 hy
    unfold T3 at hy1
    simp only [List.mem_cons, Prod.mk.injEq, List.not_mem_nil, or_false] at hy1
    have : y = 3 := by omega
    subst this
    exact hy2 rfl
  unfold redL
  rw [show T3.filter _ = (T3.filter fun x => decide (x = (1, 3))) from List.filter_congr fun x hx => ?_]
  · unfold T3; decide
  · unfold T3 at hx
    simp only [List.mem_cons, List.not_mem_nil, or_false] at hx
    rcases hx with rfl | rfl | rfl
    · simpa using h1
    · simpa using h2
    · simpa using h3
set_option maxHeartbeats 2000000 in
theorem lawake10_any {w0 w : World} {F : List Fact} {K : (Nat → Prop) → World → Prop} (hS : St w0 w F K) (kt : ∀ D w, K D w → DTab w ∧ D 0) :
    Calls Tryd.prog 13 #[] w fun e w' => e = .returned (.bool true) ∧ St w0 w' F K := by
  have KSt := hS.stable
  go_enter Tryd.func13, Tryd.ntmps13
  go_wp2_with (first
    | (go_at_call 53; refine (hnew_any hS kt).mono ?_; rintro e w_ ⟨p, rfl, hS⟩)
    | ((with_reducible show wpList _ _ _ (⟨some 14, _, _, _, _, _⟩ :: _) _ _); refine st_litown hS rfl _ _ _ _ rfl Tryd.underlying25 #[.int .i64 1, .int .i64 2, .int .i64 2, .int .i64 3, .int .i64 1, .int .i64 3] (by kernel_rfl) 2 rfl (by decide) ?_; clear hS; intro gl w_ hS; replace hS := hS.freeze 0 (by decide) rfl))
  obtain ⟨KX, k1, kp, KS, hS2⟩ : ∃ KX : (Nat → Prop) → World → Prop, (∀ D w, KX D w → K D w) ∧ (∀ D w, KX D w → Sl w D 2 (.slice (some ⟨gl, 0, none⟩) 3 3) 3 (pcells M3)) ∧ Stable KX ∧ St w0 w_ F fun D w => KX D w ∧ IsH w D p [] := ⟨fun D w => K D w ∧ Sl w D 2 (.slice (some ⟨gl, 0, none⟩) 3 3) 3 (pcells M3), fun _ _ h => h.1, fun _ _ h => h.2, KSt.and (stable_sl (by decide)), hS.mono ((KSt.and (stable_sl (by decide))).and stable_isH) fun D w h => ⟨⟨h.1.1, h.2⟩, h.1.2⟩⟩
  clear hS
  have hS := hS2
  clear hS2
  have HNX : Hid (∀ (j : Nat) (x : Nat × Nat) (L' : List (Nat × Nat)), M3[j]? = some x → Part M3 j L' → ∀ (F : List Fact) (K : (Nat → Prop) → World → Prop) (w : World) (r : Value) (z : Int), LinkP w0 F K L' (x.1 : Nat) (x.2 : Nat) r z w → z = 0 ∧ ∃ L'', Part M3 (j + 1) L'' ∧ St w0 w F fun D w => K D w ∧ IsH w D r L'') := Lib.hid fun j x L' hx hP F K w r z h => by
    obtain ⟨h1, L'', h2, h3, h4⟩ := h.next hx hP.2 (by unfold M3; decide) (by unfold M3; simp) m3_acyc
    exact ⟨h1, L'', ⟨h2, h3⟩, h4⟩
  have hP0 : Part M3 0 [] := ⟨HOK.nil, by simp⟩
  go_loopw [1, 16] (fun v i wr => ∃ (j : Nat) (p : Value) (L' : List (Nat × Nat)), i = .int .i64 (j : Nat) ∧ p = v ∧ j ≤ 3 ∧ Hid (Part M3 j L') ∧ St w0 wr F fun D w => KX D w ∧ IsH w D p L') (fun _ i _ => 3 - (intOf i).toNat)
  case atStart => exact ⟨0, p, [], rfl, rfl, by omega, Lib.hid hP0, hS⟩
  case round =>
    clear hS hP0
    obtain ⟨j, p, L', rfl, rfl, hj, HP, hS⟩ := hrel
    by_cases hlj : j < 3
    · obtain ⟨f1, f2⟩ := pcells_at M3 j hlj
      have HNY := Lib.hid (HNX.out j _ L' (getD_at (0, 0) hlj) HP.out)
      have HLL : Hid (L'.length ≤ 900000) := Lib.hid (by have := HP.out.len; have e : M3.length = 3 := rfl; omega)
      generalize M3.getD j (0, 0) = z at *
      obtain ⟨za, zb⟩ := z
      dsimp only at f1 f2 HNY
      have kp2 : ∀ D w, (KX D w ∧ IsH w D p L') → Sl w D 2 (.slice (some ⟨gl, 0, none⟩) 3 3) 3 (pcells M3) := fun D w h => kp D w h.1
      go_wp2_with (first
        | ((with_reducible show wpList _ _ _ (⟨_, .binOp _ _ _ _ _, _, _, _, _⟩ :: _) _ _); (first | ((with_reducible show wpList _ _ _ (⟨_, .binOp .lss _ _ _ _, _, _, _, _⟩ :: _) _ _); refine st_lss rfl _ _ _ _ rfl _ _ _ rfl rfl (fun h_ => ?_) (fun h_ => ?_)) | ((with_reducible show wpList _ _ _ (⟨_, .binOp .leq _ _ _ _, _, _, _, _⟩ :: _) _ _); refine st_leq rfl _ _ _ _ rfl _ _ _ rfl rfl (fun h_ => ?_) (fun h_ => ?_)) | ((with_reducible show wpList _ _ _ (⟨_, .binOp .gtr _ _ _ _, _, _, _, _⟩ :: _) _ _); refine st_gtr rfl _ _ _ _ rfl _ _ _ rfl rfl (fun h_ => ?_) (fun h_ => ?_)) | ((with_reducible show wpList _ _ _ (⟨_, .binOp .geq _ _ _ _, _, _, _, _⟩ :: _) _ _); refine st_geq rfl _ _ _ _ rfl _ _ _ rfl rfl (fun h_ => ?_) (fun h_ => ?_)) | ((with_reducible show wpList _ _ _ (⟨_, .binOp .eql _ _ _ _, _, _, _, _⟩ :: _) _ _); refine st_eql rfl _ _ _ _ rfl _ _ _ rfl rfl (fun h_ => ?_) (fun h_ => ?_)) | ((with_reducible show wpList _ _ _ (⟨_, .binOp .neq _ _ _ _, _, _, _, _⟩ :: _) _ _); refine st_neq rfl _ _ _ _ rfl _ _ _ rfl rfl (fun h_ => ?_) (fun h_ => ?_))) <;> go_prune)
        | ((with_reducible show wpList _ _ _ (⟨_, .indexAddr _ _ _, _, _, _, _⟩ :: _) _ _); refine st_iaddr2 hS rfl _ _ _ rfl _ rfl rfl (by assumption) Tryd.underlying25 (by kernel_rfl) (by first | assumption | omega) _ _ (by assumption) (by assumption) ?_; intro b_ j_ hc0_ hc1_)
        | ((with_reducible show wpList _ _ _ (⟨some 3, _, _, _, _, _⟩ :: _) _ _); refine st_alloc hS rfl _ rfl (by kernel_rfl) ?_; clear hS; intro g4 w_ hS; (try simp only [Act.put, Act.eval, List.set_cons_zero, List.set_cons_succ, List.setIfInBounds_toArray, Array.getD_eq_getD_getElem?, List.getElem?_toArray, List.getElem?_cons_succ, List.getElem?_cons_zero, Option.getD_some, Value.cells] at hS))
        | ((with_reducible show wpList _ _ _ (⟨_, .store _ _ _, _, _, _, _⟩ :: _) _ _); first | (refine st_store hS 0 rfl _ _ _ rfl _ _ rfl rfl _ _ rfl (by kernel_rfl) (by kernel_rfl) (by kernel_rfl) ?_; clear hS; intro w_ hS; (try simp only [Act.put, Act.eval, List.set_cons_zero, List.set_cons_succ, List.setIfInBounds_toArray, Array.getD_eq_getD_getElem?, List.getElem?_toArray, List.getElem?_cons_succ, List.getElem?_cons_zero, Option.getD_some, Value.cells] at hS)) | (refine st_store hS 1 rfl _ _ _ rfl _ _ rfl rfl _ _ rfl (by kernel_rfl) (by kernel_rfl) (by kernel_rfl) ?_; clear hS; intro w_ hS; (try simp only [Act.put, Act.eval, List.set_cons_zero, List.set_cons_succ, List.setIfInBounds_toArray, Array.getD_eq_getD_getElem?, List.getElem?_toArray, List.getElem?_cons_succ, List.getElem?_cons_zero, Option.getD_some, Value.cells] at hS)) | (refine st_store hS 2 rfl _ _ _ rfl _ _ rfl rfl _ _ rfl (by kernel_rfl) (by kernel_rfl) (by kernel_rfl) ?_; clear hS; intro w_ hS; (try simp only [Act.put, Act.eval, List.set_cons_zero, List.set_cons_succ, List.setIfInBounds_toArray, Array.getD_eq_getD_getElem?, List.getElem?_toArray, List.getElem?_cons_succ, List.getElem?_cons_zero, Option.getD_some, Value.cells] at hS)) | (refine st_store hS 3 rfl _ _ _ rfl _ _ rfl rfl _ _ rfl (by kernel_rfl) (by kernel_rfl) (by kernel_rfl) ?_; clear hS; intro w_ hS; (try simp only [Act.put, Act.eval, List.set_cons_zero, List.set_cons_succ, List.setIfInBounds_toArray, Array.getD_eq_getD_getElem?, List.getElem?_toArray, List.getElem?_cons_succ, List.getElem?_cons_zero, Option.getD_some, Value.cells] at hS)) | (refine st_cstore hS 0 rfl _ _ _ rfl _ _ _ rfl rfl rfl (by first | (simp; done) | (simp; omega) | exact of_decide_eq_true (by kernel_rfl)) rfl (by first | rfl | assumption) (by kernel_rfl) ?_; clear hS; intro w_ hS; (try simp only [Act.put, Act.eval, List.set_cons_zero, List.set_cons_succ, List.setIfInBounds_toArray, Array.getD_eq_getD_getElem?, List.getElem?_toArray, List.getElem?_cons_succ, List.getElem?_cons_zero, Option.getD_some, Value.cells] at hS)) | (refine st_cstore hS 1 rfl _ _ _ rfl _ _ _ rfl rfl rfl (by first | (simp; done) | (simp; omega) | exact of_decide_eq_true (by kernel_rfl)) rfl (by first | rfl | assumption) (by kernel_rfl) ?_; clear hS; intro w_ hS; (try simp only [Act.put, Act.eval, List.set_cons_zero, List.set_cons_succ, List.setIfInBounds_toArray, Array.getD_eq_getD_getElem?, List.getElem?_toArray, List.getElem?_cons_succ, List.getElem?_cons_zero, Option.getD_some, Value.cells] at hS)) | (refine st_cstore hS 2 rfl _ _ _ rfl _ _ _ rfl rfl rfl (by first | (simp; done) | (simp; omega) | exact of_decide_eq_true (by kernel_rfl)) rfl (by first | rfl | assumption) (by kernel_rfl) ?_; clear hS; intro w_ hS; (try simp only [Act.put, Act.eval, List.set_cons_zero, List.set_cons_succ, List.setIfInBounds_toArray, Array.getD_eq_getD_getElem?, List.getElem?_toArray, List.getElem?_cons_succ, List.getElem?_cons_zero, Option.getD_some, Value.cells] at hS)) | (refine st_cstore hS 3 rfl _ _ _ rfl _ _ _ rfl rfl rfl (by first | (simp; done) | (simp; omega) | exact of_decide_eq_true (by kernel_rfl)) rfl (by first | rfl | assumption) (by kernel_rfl) ?_; clear hS; intro w_ hS; (try simp only [Act.put, Act.eval, List.set_cons_zero, List.set_cons_succ, List.setIfInBounds_toArray, Array.getD_eq_getD_getElem?, List.getElem?_toArray, List.getElem?_cons_succ, List.getElem?_cons_zero, Option.getD_some, Value.cells] at hS)))
        | (go_at_call 44; refine (hlink_any p L' (za : Nat) (zb : Nat) HP.out.1 HLL.out hS (fun D w h => h.2) (fun D w h => kt D w (k1 D w h.1))).mono ?_; rintro e w_ ⟨r, z, rfl, hP⟩; obtain ⟨rfl, L'', hP2, hS⟩ := HNY.out _ _ _ _ _ hP; replace hP2 := Lib.hid hP2; clear hP; obtain ⟨qr, _, rfl, -⟩ := hS.ro.2)
        | ((with_reducible show wpList _ _ _ (⟨_, .load _ _, _, _, _, _⟩ :: _) _ _); first | (refine st_cell hS 0 rfl _ _ rfl _ _ rfl _ _ rfl (by decide +kernel) _ (by first | assumption | rfl) ?_) | (refine st_cell hS 1 rfl _ _ rfl _ _ rfl _ _ rfl (by decide +kernel) _ (by first | assumption | rfl) ?_) | (refine st_cell hS 2 rfl _ _ rfl _ _ rfl _ _ rfl (by decide +kernel) _ (by first | assumption | rfl) ?_) | (refine st_cell hS 3 rfl _ _ rfl _ _ rfl _ _ rfl (by decide +kernel) _ (by first | assumption | rfl) ?_) | (refine st_cell hS 4 rfl _ _ rfl _ _ rfl _ _ rfl (by decide +kernel) _ (by first | assumption | rfl) ?_) | (refine st_cell hS 5 rfl _ _ rfl _ _ rfl _ _ rfl (by decide +kernel) _ (by first | assumption | rfl) ?_) | (refine st_cell hS 6 rfl _ _ rfl _ _ rfl _ _ rfl (by decide +kernel) _ (by first | assumption | rfl) ?_) | (refine st_cell hS 7 rfl _ _ rfl _ _ rfl _ _ rfl (by decide +kernel) _ (by first | assumption | rfl) ?_)))
      exact ⟨⟨j + 1, _, L'', by go_num, rfl, hlj, hP2, (hS.sub (List.sublist_cons_self _ _)).mono (KS.and stable_isH) fun D w h => ⟨h.1.1, h.2⟩⟩, by simp [intOf]; omega⟩
    · obtain rfl : j = 3 := by omega
      rw [t3_part HP.out] at hS
      obtain ⟨KY, ky1, ky2, hS2⟩ : ∃ KY : (Nat → Prop) → World → Prop, (∀ D w, KY D w → K D w) ∧ (∀ D w, KY D w → IsH w D p T3) ∧ St w0 wr F KY := ⟨_, fun D w h => k1 D w h.1, fun D w h => h.2, hS⟩
      clear hS
      have hS := hS2
      clear hS2 HNX HP k1 kp KS
      have HCH := Lib.hid (fun l c (h : ChainP T3 1 3 l c) => t3_chain h)
      have HLK := Lib.hid (fun (w0 w : World) (F : List Fact) (K : (Nat → Prop) → World → Prop) r z (h : LinkP w0 F K T3 3 1 r z w) => t3_link h)
      have H3 := Lib.hid t3_hok
      have HJ := Lib.hid (show (if (1 : Int) ≤ 1 ∧ (1 : Int) ≤ 63 then junM T3 (1 : Int).toNat else 0) = 14 by rw [if_pos (by omega)]; exact t3_jun)
      have HO := Lib.hid t3_of
      have HR := Lib.hid t3_red
      have HL3 : Hid (T3.length ≤ 900000) := Lib.hid (by decide)
      go_wp2_with (first
        | ((with_reducible show wpList _ _ _ (⟨_, .binOp _ _ _ _ _, _, _, _, _⟩ :: _) _ _); (first | ((with_reducible show wpList _ _ _ (⟨_, .binOp .lss _ _ _ _, _, _, _, _⟩ :: _) _ _); refine st_lss rfl _ _ _ _ rfl _ _ _ rfl rfl (fun h_ => ?_) (fun h_ => ?_)) | ((with_reducible show wpList _ _ _ (⟨_, .binOp .leq _ _ _ _, _, _, _, _⟩ :: _) _ _); refine st_leq rfl _ _ _ _ rfl _ _ _ rfl rfl (fun h_ => ?_) (fun h_ => ?_)) | ((with_reducible show wpList _ _ _ (⟨_, .binOp .gtr _ _ _ _, _, _, _, _⟩ :: _) _ _); refine st_gtr rfl _ _ _ _ rfl _ _ _ rfl rfl (fun h_ => ?_) (fun h_ => ?_)) | ((with_reducible show wpList _ _ _ (⟨_, .binOp .geq _ _ _ _, _, _, _, _⟩ :: _) _ _); refine st_geq rfl _ _ _ _ rfl _ _ _ rfl rfl (fun h_ => ?_) (fun h_ => ?_)) | ((with_reducible show wpList _ _ _ (⟨_, .binOp .eql _ _ _ _, _, _, _, _⟩ :: _) _ _); refine st_eql rfl _ _ _ _ rfl _ _ _ rfl rfl (fun h_ => ?_) (fun h_ => ?_)) | ((with_reducible show wpList _ _ _ (⟨_, .binOp .neq _ _ _ _, _, _, _, _⟩ :: _) _ _); refine st_neq rfl _ _ _ _ rfl _ _ _ rfl rfl (fun h_ => ?_) (fun h_ => ?_))) <;> go_prune)
        | (go_at_call 17; refine (hchain_any (ky2 _ _ hS.ro) H3.out HL3.out 1 3).mono ?_; rintro e w_ ⟨v, c, l, rfl, hp, hll, hs⟩; obtain ⟨rfl, rfl⟩ := HCH.out _ _ hp; replace hS := hS.new hs.below (.own v 3 1 2 (ints (natInts [1, 3]))) (hs.own 0 rfl); clear hs hp hll)
        | (go_at_call 44; refine (hlink_any p T3 3 1 H3.out HL3.out hS ky2 (fun D w h => kt D w (ky1 D w h))).mono ?_; rintro e w_ ⟨r, z, rfl, hP⟩; obtain ⟨rfl, rfl, hS⟩ := HLK.out _ _ _ _ _ _ hP; clear hP)
        | (go_at_call 21; refine (hjun_any (ky2 _ _ hS.ro) H3.out 1).mono ?_; rintro r_ w_ ⟨_, rfl, hj1, hb_⟩; rw [HJ.out] at hj1; replace hS := hS.ret2 hb_ stable_set hj1; clear hb_ hj1)
        | ((with_reducible show wpList _ _ _ (⟨some 49, _, _, _, _, _⟩ :: _) _ _); refine st_litown hS rfl _ _ _ _ rfl Tryd.underlying31 #[.int .i64 1, .int .i64 2, .int .i64 3] (by kernel_rfl) 1 rfl (by decide) ?_; clear hS; intro g49 w_ hS)
        | (go_at_call 46; refine (of_any _ [1, 2, 3] _ _ (Sl.of_own (hS.own 0 rfl))).mono ?_; rintro r_ w_ ⟨_, rfl, hO1, hb_⟩; rw [HO.out] at hO1; replace hS := hS.ret hb_ stable_set hO1; clear hb_ hO1)
        | (go_at_call 22; refine (equal_any _ _ 14 14 _ _ _ hS.ro.1.2 hS.ro.2).mono ?_; rintro r_ w_ ⟨_, rfl, rfl, hb_⟩; rw [show ((14 : Nat) == 14) = true from rfl]; replace hS := hS.ext hb_; clear hb_)
        | ((with_reducible show wpList _ _ _ (⟨some 54, _, _, _, _, _⟩ :: _) _ _); refine st_litw hS rfl _ _ _ _ rfl Tryd.underlying31 #[.int .i64 1, .int .i64 3] (by kernel_rfl) 1 rfl (by decide) ?_; clear hS; intro g54 w_ hS)
        | (go_at_call 19; refine (sleq_any _ _ [1, 3] [1, 3] _ _ _ (Sl.of_own (hS.own 2 rfl)) (Sl.of_own (hS.own 0 rfl))).mono ?_; rintro r_ w_ ⟨_, rfl, rfl, hb_⟩; rw [show (([1, 3] : List Int) == [1, 3]) = true from rfl]; replace hS := hS.ext hb_; clear hb_)
        | (go_at_call 32; refine (hred_any (ky2 _ _ hS.ro.1.1) (kt _ _ (ky1 _ _ hS.ro.1.1)).1 H3.out HL3.out).mono ?_; rintro e w_ ⟨v2, rfl, hs⟩; rw [HR.out] at hs; replace hS := hS.new hs.below (.own v2 50 2 1 (pcells [(1, 3)])) (hs.own 0 rfl); clear hs)
        | ((with_reducible show wpList _ _ _ (⟨some 64, _, _, _, _, _⟩ :: _) _ _); refine st_litw hS rfl _ _ _ _ rfl Tryd.underlying25 #[.int .i64 1, .int .i64 3] (by kernel_rfl) 2 rfl (by decide) ?_; clear hS; intro g64 w_ hS)
        | (go_at_call 30; refine (peq_any (L := [(1, 3)]) (M := [(1, 3)]) (Sl.of_own (hS.own 1 rfl)) (Sl.of_own (hS.own 0 rfl)) (by decide)).mono ?_; rintro r_ w_ ⟨_, rfl, rfl, hb_⟩; rw [show decide (([(1, 3)] : List (Nat × Nat)) = [(1, 3)]) = true from rfl]; replace hS := hS.ext hb_; clear hb_))
      go_ret
      exact ⟨rfl, (hS.sub (.cons _ (.cons _ (.cons _ (.cons _ (.cons _ (List.Sublist.refl _))))))).mono KSt fun D w h => ky1 D w h.1.1⟩
end Go.Proofs.YtmlkgaiphpimiaaDoor
namespace Go.Proofs.YtmlkgaiphpimiaaDoor
open Go.RowKit
attribute [local go_sem ↓] Go.wp_at_zero Go.wp_at_succ
set_option maxRecDepth 20000
set_option exponentiation.threshold 5000

/-- what a statement begins with: the laid table, which only reads -/
theorem start_tab {W : World} (h : DTab W) : ∃ K : (Nat → Prop) → World → Prop, (∀ D w, K D w → DTab w ∧ D 0) ∧ St W W [] K :=
  ⟨_, fun _ _ h => h, St.start (D := fun _ => True) dtab_stable ⟨h, trivial⟩⟩
theorem run_neb {w : World} {b : Bool} : (binOp .neq 4 (.bool b) (.bool b)).run Tryd.prog w = .ok (.bool false) w := by cases b <;> go_simp
end Go.Proofs.YtmlkgaiphpimiaaDoor
namespace Go.Proofs.YtmlkgaiphpimiaaDoor
open Go.RowKit
attribute [local go_sem ↓] Go.wp_at_zero Go.wp_at_succ
set_option maxRecDepth 20000
set_option exponentiation.threshold 5000

theorem six7 {L : List (Nat × Nat)} (h6 : Six L) : Inr 7 L := fun x hx => by have := h6 x hx; omega
theorem flat_leB {α β : Type} {f : α → List β} {B : Nat} : ∀ {l : List α}, (∀ x ∈ l, (f x).length ≤ B) → (l.flatMap f).length ≤ l.length * B
  | [], _ => by simp
  | x :: l, h => by
    have h1 := h x (by simp)
    have h2 := flat_leB (l := l) fun y hy => h y (by simp [hy])
    rw [List.flatMap_cons, List.length_append, List.length_cons, Nat.add_mul]
    omega
theorem wlk_pow {L : List (Nat × Nat)} (hl : L.length ≤ 36) : ∀ k v, (wlk L k v).length ≤ 36 ^ k
  | 0, v => by simp [wlk]
  | k + 1, v => by
    show ((L.filter fun x => x.1 == v).flatMap fun x => (wlk L k x.2).map (v :: ·)).length ≤ _
    refine Nat.le_trans (flat_leB (B := 36 ^ k) fun x _ => by rw [List.length_map]; exact wlk_pow hl k x.2) ?_
    rw [Nat.pow_succ, Nat.mul_comm]
    exact Nat.mul_le_mul_left _ (Nat.le_trans (List.length_filter_le _ _) hl)
theorem wlk_bound {L : List (Nat × Nat)} (h7 : Inr 7 L) (hA : Acyc L) (hl : L.length ≤ 36) (k v : Nat) : (wlk L k v).length ≤ 3000000000 := by
  by_cases hk : k ≤ 6
  · exact Nat.le_trans (wlk_pow hl k v) (Nat.le_trans (Nat.pow_le_pow_right (by decide) hk) (by decide))
  · obtain ⟨k, rfl⟩ : ∃ i, k = i + 1 := ⟨k - 1, by omega⟩
    suffices h : wlk L (k + 1) v = [] by rw [h]; simp
    refine List.eq_nil_iff_forall_not_mem.2 fun p hp => ?_
    have h1 := hp
    rw [extP_wlk] at h1
    obtain ⟨q, _, h2⟩ := List.mem_flatMap.1 h1
    obtain ⟨x, h3, h4⟩ := List.mem_map.1 h2
    have h5 : lastD p < 7 := by
      rw [← h4, show lastD (q ++ [x.2]) = x.2 by simp [lastD]]
      exact (h7 x (List.mem_filter.1 h3).1).2
    have := Wk.lt h7 hA h5 (wlk_wk.1 ⟨p, hp, rfl⟩)
    omega
section
variable {L : List (Nat × Nat)} {a b : Int} {l l' : List Nat} {c c' : Bool}
theorem chain_uniq (h : ChainP L a b l c) (k : ChainP L a b l' c') : l = l' ∧ c = c' := by
  have key : ∀ {i j d : Nat}, a = i → b = j → (1 ≤ i ∧ i < 64) → (1 ≤ j ∧ j < 64) → isDist L j i d → impl L a b := fun h1 h2 h3 h4 h5 => ⟨_, _, h1, h2, h3, h4, h5.1.tc⟩
  rcases h with ⟨rfl, rfl, h⟩ | ⟨rfl, i, j, d, h1, h2, h3, h4, h5, rfl⟩
  · rcases k with ⟨rfl, rfl, _⟩ | ⟨rfl, i, j, d, k1, k2, k3, k4, k5, rfl⟩
    · exact ⟨rfl, rfl⟩
    · exact absurd (key k1 k2 k3 k4 k5) h
  · rcases k with ⟨rfl, rfl, k⟩ | ⟨rfl, i', j', d', k1, k2, k3, k4, k5, rfl⟩
    · exact absurd (key h1 h2 h3 h4 h5) k
    · obtain rfl : i = i' := by omega
      obtain rfl : j = j' := by omega
      obtain rfl := isDist_uniq h5 k5
      exact ⟨rfl, rfl⟩
theorem chain_len (h : ChainP L a b l c) : decide ((l.length : Int) > 0) = c := by
  rcases h with ⟨rfl, rfl, _⟩ | ⟨rfl, i, j, d, _, _, _, _, h5, rfl⟩
  · rfl
  · rw [gp_len h5]
    exact decide_eq_true (by omega)
end
section
variable {w0 w w' : World} {F : List Fact} {K K2 : (Nat → Prop) → World → Prop} {v : Value} {e : TypeId} {size n : Nat} {xs : List Value}
theorem St.retS (hS : St w0 w F K) (hs : St w w' [.own v e size n xs] K2) (hz : 0 < size) : St w0 w' F fun D w => K D w ∧ Sl w D size v n xs :=
  (hS.new hs.below (.own v e size n xs) (hs.own 0 rfl)).freeze 0 hz rfl
theorem St.retR (hS : St w0 w [] K) (hs : St w w' [] fun D w => Sl w D size v n xs) (hz : 0 < size) : St w0 w' [] fun D w => K D w ∧ Sl w D size v n xs :=
  (hS.ext hs.below).add (D := fun _ => True) (stable_sl hz) (hs.ro.imp fun _ _ _ => trivial) fun _ _ _ f hf => by cases hf
end
set_option maxHeartbeats 2000000 in
theorem lchains_any (x : Nat) (hx : x < T64) (r s : Int) (W : World) (hT : DTab W) : Calls Tryd.prog 4 #[.int .u64 (x : Nat), .int .i64 r, .int .i64 s] W (Ret (fun x _ => x = .bool true) W) := by
  obtain ⟨K, kt, hS⟩ := start_tab hT
  have HX := Lib.hid hx
  clear hx hT
  go_enter Tryd.func4, Tryd.ntmps4
  go_wp2_with (first
    | (go_at_call 13; refine (lawake10_any hS kt).mono ?_; rintro e w_ ⟨rfl, hS⟩)
    | (go_at_call 14; refine (lmake10_any x HX.out hS kt).mono ?_; rintro e w_ ⟨p, v, L, rfl, hH, h6, hl, hS⟩; replace hH := Lib.hid hH; replace h6 := Lib.hid h6; obtain ⟨q, o, rfl, -⟩ := id hS.ro.2; obtain ⟨A, c, rfl, _, _⟩ := hS.ro.1.2.shape; obtain ⟨KY, kI, kL, hS2⟩ : ∃ KY : (Nat → Prop) → World → Prop, (∀ D w, KY D w → IsH w D (.pointer (some ⟨q, 0, none⟩)) L) ∧ (∀ D w, KY D w → Sl w D 2 (.slice A L.length c) L.length (pcells L)) ∧ St W w_ [] KY := ⟨_, fun D w h => h.2, fun D w h => h.1.2, hS⟩; clear hS; have hS := hS2; clear hS2; have KSY := hS.stable; have HB := Lib.hid (wlk_bound (six7 h6.out) hH.out.acyc hl); have hll : L.length ≤ 900000 := by omega)
    | (go_at_call 17; refine (hchain_any (by first | exact kI _ _ hS.ro | exact kI _ _ hS.ro.1 | exact kI _ _ hS.ro.1.1 | exact kI _ _ hS.ro.1.1.1 | exact kI _ _ hS.ro.1.1.1.1 | exact kI _ _ hS.ro.1.1.1.1.1 | exact kI _ _ hS.ro.1.1.1.1.1.1 | exact kI _ _ hS.ro.1.1.1.1.1.1.1 | exact kI _ _ hS.ro.1.1.1.1.1.1.1.1 | exact kI _ _ hS.ro.1.1.1.1.1.1.1.1.1 | exact kI _ _ hS.ro.1.1.1.1.1.1.1.1.1.1 | exact kI _ _ hS.ro.1.1.1.1.1.1.1.1.1.1.1) hH.out hll r s).mono ?_; rintro e w_ ⟨v1, c1, l1, rfl, hp1, hl1, hs⟩; replace hp1 := Lib.hid hp1; replace hS := hS.retS hs (by decide); clear hs)
    | (go_at_call 18; refine (rchain_any (by first | exact kL _ _ hS.ro | exact kL _ _ hS.ro.1 | exact kL _ _ hS.ro.1.1 | exact kL _ _ hS.ro.1.1.1 | exact kL _ _ hS.ro.1.1.1.1 | exact kL _ _ hS.ro.1.1.1.1.1 | exact kL _ _ hS.ro.1.1.1.1.1.1 | exact kL _ _ hS.ro.1.1.1.1.1.1.1 | exact kL _ _ hS.ro.1.1.1.1.1.1.1.1 | exact kL _ _ hS.ro.1.1.1.1.1.1.1.1.1 | exact kL _ _ hS.ro.1.1.1.1.1.1.1.1.1.1 | exact kL _ _ hS.ro.1.1.1.1.1.1.1.1.1.1.1) hH.out.inr hH.out.acyc (by omega) HB.out r s).mono ?_; rintro e w_ ⟨v2, c2, l2, rfl, hp2, hl2, hs⟩; obtain ⟨rfl, rfl⟩ := chain_uniq hp1.out hp2; have hlc := Lib.hid (chain_len hp2); replace hS := hS.retR hs (by decide); obtain ⟨A2, cc, rfl, _, _⟩ := hS.ro.2.shape; clear hs hp2 hp1)
    | ((with_reducible show wpList _ _ _ (⟨some 45, _, _, _, _, _⟩ :: _) _ _); refine BigFrame.wpList_want rfl fun _ hK => opw_bin (vx := .int .i64 (l1.length : Nat)) (vy := .int .i64 0) (v := .bool c1) rfl rfl rfl rfl (run_gtB hlc.out) (hK _ _ ?_))
    | ((with_reducible show wpList _ _ _ (⟨some 46, _, _, _, _, _⟩ :: _) _ _); refine BigFrame.wpList_want rfl fun _ hK => opw_bin (vx := .bool c1) (vy := .bool c1) (v := .bool false) rfl rfl rfl rfl run_neb (hK _ _ ?_))
    | (go_at_call 19; refine (sleq_any _ _ (natInts l1) (natInts l1) _ _ _ (by rw [show (natInts l1).length = l1.length by simp [natInts]]; exact hS.ro.1.2) (by rw [show (natInts l1).length = l1.length by simp [natInts]]; exact hS.ro.2)).mono ?_; rintro r_ w_ ⟨_, rfl, rfl, hb_⟩; rw [beq_self_eq_true]; replace hS := hS.ext hb_; clear hb_))
  replace hS := hS.mono KSY fun D w h => h.1.1
  clear hlc
  go_loopw [12] (fun i wr => ∃ a : Nat, i = .int .i64 (a : Nat) ∧ a ≤ 7 ∧ St W wr [] KY) (fun i _ => 7 - (intOf i).toNat)
  case atStart => exact ⟨1, rfl, by omega, hS⟩
  case round =>
    clear hS
    obtain ⟨a, rfl, ha, hS⟩ := hrel
    by_cases ha7 : a < 7
    · go_wp2_with (first | ((with_reducible show wpList _ _ _ (⟨_, .binOp _ _ _ _ _, _, _, _, _⟩ :: _) _ _); (first | ((with_reducible show wpList _ _ _ (⟨_, .binOp .lss _ _ _ _, _, _, _, _⟩ :: _) _ _); refine st_lss rfl _ _ _ _ rfl _ _ _ rfl rfl (fun h_ => ?_) (fun h_ => ?_)) | ((with_reducible show wpList _ _ _ (⟨_, .binOp .leq _ _ _ _, _, _, _, _⟩ :: _) _ _); refine st_leq rfl _ _ _ _ rfl _ _ _ rfl rfl (fun h_ => ?_) (fun h_ => ?_)) | ((with_reducible show wpList _ _ _ (⟨_, .binOp .gtr _ _ _ _, _, _, _, _⟩ :: _) _ _); refine st_gtr rfl _ _ _ _ rfl _ _ _ rfl rfl (fun h_ => ?_) (fun h_ => ?_)) | ((with_reducible show wpList _ _ _ (⟨_, .binOp .geq _ _ _ _, _, _, _, _⟩ :: _) _ _); refine st_geq rfl _ _ _ _ rfl _ _ _ rfl rfl (fun h_ => ?_) (fun h_ => ?_)) | ((with_reducible show wpList _ _ _ (⟨_, .binOp .eql _ _ _ _, _, _, _, _⟩ :: _) _ _); refine st_eql rfl _ _ _ _ rfl _ _ _ rfl rfl (fun h_ => ?_) (fun h_ => ?_)) | ((with_reducible show wpList _ _ _ (⟨_, .binOp .neq _ _ _ _, _, _, _, _⟩ :: _) _ _); refine st_neq rfl _ _ _ _ rfl _ _ _ rfl rfl (fun h_ => ?_) (fun h_ => ?_))) <;> go_prune))
      go_loopw [13] (fun i wr => ∃ b : Nat, i = .int .i64 (b : Nat) ∧ b ≤ 7 ∧ St W wr [] KY) (fun i _ => 7 - (intOf i).toNat)
      case atStart => exact ⟨1, rfl, by omega, hS⟩
      case round =>
        clear hS
        obtain ⟨b, rfl, hb, hS⟩ := hrel
        by_cases hb7 : b < 7
        · go_wp2_with (first
            | (go_at_call 17; refine (hchain_any (by first | exact kI _ _ hS.ro | exact kI _ _ hS.ro.1 | exact kI _ _ hS.ro.1.1 | exact kI _ _ hS.ro.1.1.1 | exact kI _ _ hS.ro.1.1.1.1 | exact kI _ _ hS.ro.1.1.1.1.1 | exact kI _ _ hS.ro.1.1.1.1.1.1 | exact kI _ _ hS.ro.1.1.1.1.1.1.1 | exact kI _ _ hS.ro.1.1.1.1.1.1.1.1 | exact kI _ _ hS.ro.1.1.1.1.1.1.1.1.1 | exact kI _ _ hS.ro.1.1.1.1.1.1.1.1.1.1 | exact kI _ _ hS.ro.1.1.1.1.1.1.1.1.1.1.1) hH.out hll (a : Nat) (b : Nat)).mono ?_; rintro e w_ ⟨v1, c1, l1, rfl, hp1, hl1, hs⟩; replace hp1 := Lib.hid hp1; replace hS := hS.retS hs (by decide); clear hs)
            | (go_at_call 18; refine (rchain_any (by first | exact kL _ _ hS.ro | exact kL _ _ hS.ro.1 | exact kL _ _ hS.ro.1.1 | exact kL _ _ hS.ro.1.1.1 | exact kL _ _ hS.ro.1.1.1.1 | exact kL _ _ hS.ro.1.1.1.1.1 | exact kL _ _ hS.ro.1.1.1.1.1.1 | exact kL _ _ hS.ro.1.1.1.1.1.1.1 | exact kL _ _ hS.ro.1.1.1.1.1.1.1.1 | exact kL _ _ hS.ro.1.1.1.1.1.1.1.1.1 | exact kL _ _ hS.ro.1.1.1.1.1.1.1.1.1.1 | exact kL _ _ hS.ro.1.1.1.1.1.1.1.1.1.1.1) hH.out.inr hH.out.acyc (by omega) HB.out (a : Nat) (b : Nat)).mono ?_; rintro e w_ ⟨v2, c2, l2, rfl, hp2, hl2, hs⟩; obtain ⟨rfl, rfl⟩ := chain_uniq hp1.out hp2; have hlc := Lib.hid (chain_len hp2); replace hS := hS.retR hs (by decide); obtain ⟨A2, cc, rfl, _, _⟩ := hS.ro.2.shape; clear hs hp2 hp1)
            | ((with_reducible show wpList _ _ _ (⟨some 75, _, _, _, _, _⟩ :: _) _ _); refine BigFrame.wpList_want rfl fun _ hK => opw_bin (vx := .int .i64 (l1.length : Nat)) (vy := .int .i64 0) (v := .bool c1) rfl rfl rfl rfl (run_gtB hlc.out) (hK _ _ ?_))
            | ((with_reducible show wpList _ _ _ (⟨some 76, _, _, _, _, _⟩ :: _) _ _); refine BigFrame.wpList_want rfl fun _ hK => opw_bin (vx := .bool c1) (vy := .bool c1) (v := .bool false) rfl rfl rfl rfl run_neb (hK _ _ ?_))
            | (go_at_call 19; refine (sleq_any _ _ (natInts l1) (natInts l1) _ _ _ (by rw [show (natInts l1).length = l1.length by simp [natInts]]; exact hS.ro.1.2) (by rw [show (natInts l1).length = l1.length by simp [natInts]]; exact hS.ro.2)).mono ?_; rintro r_ w_ ⟨_, rfl, rfl, hb_⟩; rw [beq_self_eq_true]; replace hS := hS.ext hb_; clear hb_)
            | ((with_reducible show wpList _ _ _ (⟨_, .binOp _ _ _ _ _, _, _, _, _⟩ :: _) _ _); (first | ((with_reducible show wpList _ _ _ (⟨_, .binOp .lss _ _ _ _, _, _, _, _⟩ :: _) _ _); refine st_lss rfl _ _ _ _ rfl _ _ _ rfl rfl (fun h_ => ?_) (fun h_ => ?_)) | ((with_reducible show wpList _ _ _ (⟨_, .binOp .leq _ _ _ _, _, _, _, _⟩ :: _) _ _); refine st_leq rfl _ _ _ _ rfl _ _ _ rfl rfl (fun h_ => ?_) (fun h_ => ?_)) | ((with_reducible show wpList _ _ _ (⟨_, .binOp .gtr _ _ _ _, _, _, _, _⟩ :: _) _ _); refine st_gtr rfl _ _ _ _ rfl _ _ _ rfl rfl (fun h_ => ?_) (fun h_ => ?_)) | ((with_reducible show wpList _ _ _ (⟨_, .binOp .geq _ _ _ _, _, _, _, _⟩ :: _) _ _); refine st_geq rfl _ _ _ _ rfl _ _ _ rfl rfl (fun h_ => ?_) (fun h_ => ?_)) | ((with_reducible show wpList _ _ _ (⟨_, .binOp .eql _ _ _ _, _, _, _, _⟩ :: _) _ _); refine st_eql rfl _ _ _ _ rfl _ _ _ rfl rfl (fun h_ => ?_) (fun h_ => ?_)) | ((with_reducible show wpList _ _ _ (⟨_, .binOp .neq _ _ _ _, _, _, _, _⟩ :: _) _ _); refine st_neq rfl _ _ _ _ rfl _ _ _ rfl rfl (fun h_ => ?_) (fun h_ => ?_))) <;> go_prune))
          exact ⟨⟨b + 1, by go_num, hb7, hS.mono KSY fun D w h => h.1.1⟩, by simp [intOf]; omega⟩
        · go_wp2_with (first | ((with_reducible show wpList _ _ _ (⟨_, .binOp _ _ _ _ _, _, _, _, _⟩ :: _) _ _); (first | ((with_reducible show wpList _ _ _ (⟨_, .binOp .lss _ _ _ _, _, _, _, _⟩ :: _) _ _); refine st_lss rfl _ _ _ _ rfl _ _ _ rfl rfl (fun h_ => ?_) (fun h_ => ?_)) | ((with_reducible show wpList _ _ _ (⟨_, .binOp .leq _ _ _ _, _, _, _, _⟩ :: _) _ _); refine st_leq rfl _ _ _ _ rfl _ _ _ rfl rfl (fun h_ => ?_) (fun h_ => ?_)) | ((with_reducible show wpList _ _ _ (⟨_, .binOp .gtr _ _ _ _, _, _, _, _⟩ :: _) _ _); refine st_gtr rfl _ _ _ _ rfl _ _ _ rfl rfl (fun h_ => ?_) (fun h_ => ?_)) | ((with_reducible show wpList _ _ _ (⟨_, .binOp .geq _ _ _ _, _, _, _, _⟩ :: _) _ _); refine st_geq rfl _ _ _ _ rfl _ _ _ rfl rfl (fun h_ => ?_) (fun h_ => ?_)) | ((with_reducible show wpList _ _ _ (⟨_, .binOp .eql _ _ _ _, _, _, _, _⟩ :: _) _ _); refine st_eql rfl _ _ _ _ rfl _ _ _ rfl rfl (fun h_ => ?_) (fun h_ => ?_)) | ((with_reducible show wpList _ _ _ (⟨_, .binOp .neq _ _ _ _, _, _, _, _⟩ :: _) _ _); refine st_neq rfl _ _ _ _ rfl _ _ _ rfl rfl (fun h_ => ?_) (fun h_ => ?_))) <;> go_prune))
          exact ⟨⟨a + 1, by go_num, ha7, hS⟩, by simp [intOf]; omega⟩
    · go_wp2_with (first | ((with_reducible show wpList _ _ _ (⟨_, .binOp _ _ _ _ _, _, _, _, _⟩ :: _) _ _); (first | ((with_reducible show wpList _ _ _ (⟨_, .binOp .lss _ _ _ _, _, _, _, _⟩ :: _) _ _); refine st_lss rfl _ _ _ _ rfl _ _ _ rfl rfl (fun h_ => ?_) (fun h_ => ?_)) | ((with_reducible show wpList _ _ _ (⟨_, .binOp .leq _ _ _ _, _, _, _, _⟩ :: _) _ _); refine st_leq rfl _ _ _ _ rfl _ _ _ rfl rfl (fun h_ => ?_) (fun h_ => ?_)) | ((with_reducible show wpList _ _ _ (⟨_, .binOp .gtr _ _ _ _, _, _, _, _⟩ :: _) _ _); refine st_gtr rfl _ _ _ _ rfl _ _ _ rfl rfl (fun h_ => ?_) (fun h_ => ?_)) | ((with_reducible show wpList _ _ _ (⟨_, .binOp .geq _ _ _ _, _, _, _, _⟩ :: _) _ _); refine st_geq rfl _ _ _ _ rfl _ _ _ rfl rfl (fun h_ => ?_) (fun h_ => ?_)) | ((with_reducible show wpList _ _ _ (⟨_, .binOp .eql _ _ _ _, _, _, _, _⟩ :: _) _ _); refine st_eql rfl _ _ _ _ rfl _ _ _ rfl rfl (fun h_ => ?_) (fun h_ => ?_)) | ((with_reducible show wpList _ _ _ (⟨_, .binOp .neq _ _ _ _, _, _, _, _⟩ :: _) _ _); refine st_neq rfl _ _ _ _ rfl _ _ _ rfl rfl (fun h_ => ?_) (fun h_ => ?_))) <;> go_prune))
      go_ret
      exact Ret.mk rfl hS.below
end Go.Proofs.YtmlkgaiphpimiaaDoor
namespace Go.Proofs.YtmlkgaiphpimiaaDoor
open Go.RowKit Go.ChangeShapes Go.WideShapes

theorem boxF_of_reads {w : World} {n : String} {g : Nat} {t e : TypeId} {m : Nat} {k : IntKind} {zs : List Int} (hg : Tryd.prog.globalNamed n = some g) (hty : (Tryd.prog.globals[g]?).map (·.type) = some t)
    (ht : Tryd.prog.underlying t = some (.array m e)) (he : Tryd.prog.underlying e = some (.int k)) (hce : Tryd.prog.cellsOf e = 1) (hct : Tryd.prog.cellsOf t = m) (h : Lib.VarReads Tryd.prog w n (Lib.tabData k zs)) :
    ∃ t, BoxF w g t (zs.map fun z => Value.int k z).toArray := by
  obtain ⟨g', t', cs, fuel, p, hg', hty', hvar, hd⟩ := h
  obtain rfl := Option.some.inj (hg.symm.trans hg')
  obtain rfl := Option.some.inj (hty.symm.trans hty')
  have hcs := Lib.cells_of_tab ht he hce hct hd
  simp only [World.var?, hg, Option.bind_some] at hvar
  split at hvar
  · rename_i cs' t'' f heq
    obtain rfl := Option.some.inj hvar
    refine ⟨(t'', f), ?_⟩
    rw [← hcs]
    exact heq
  · cases hvar
end Go.Proofs.YtmlkgaiphpimiaaDoor
namespace Go.Proofs.YtmlkgaiphpimiaaDoor
open Go.RowKit Go.ChangeShapes Go.WideShapes

theorem dtab_of_reads {w : World} (h1 : Lib.VarReads Tryd.prog w "math/bits.deBruijn64tab" Rows.laid_math_bits_deBruijn64tab) : DTab w := by
  have e1 : (Rows.laid_math_bits_deBruijn64tab : DataW Unit) = Lib.tabData .u8 (dbL.map fun x : Nat => (x : Int)) := by kernel_rfl
  rw [e1] at h1
  obtain ⟨t, b1⟩ := boxF_of_reads (g := 0) (by kernel_rfl) (t := 133) (by kernel_rfl) Tryd.underlying133 Tryd.underlying5 (by kernel_rfl) (by kernel_rfl) h1
  have e : (List.map (fun z => Value.int .u8 z) (dbL.map fun x : Nat => (x : Int))) = u8s dbL := by simp [u8s]
  rw [e] at b1
  intro q hq
  rw [b1.cell, List.getElem?_toArray]
  exact u8s_at _ _ hq
end Go.Proofs.YtmlkgaiphpimiaaDoor
namespace Go.Proofs.YtmlkgaiphpimiaaDoor
open Go.ChangeShapes Go.WideShapes Go.ChangeAt Go.RowKit

section
variable {P : Program} {H : Type} {enc : TypeId × Value → H} {W : World} {r : Reach} {b0 base : Nat} {sp : Nat → Bool} {held : Bool} {v : Value} {d : DataW H} {p : List MemPlace} {t : TypeId}
theorem int_open {k : IntKind} (ht : P.underlying t = some (.int k)) (hv : Value.okWide P W r b0 t v) (h : DataW.Trod enc P W base sp held t v d p) : ∃ n, v = .int k n ∧ (Lit.int k n).wf = true := by
  obtain ⟨n, rfl⟩ := okWide_int ht hv
  obtain ⟨fuel, hf⟩ := h
  obtain ⟨m, e, _, w⟩ := DataW.trod_int ht hf
  simp [Value.cells] at e
  subst e
  exact ⟨_, rfl, w⟩
theorem u64_open (ht : P.underlying t = some (.int .u64)) (hv : Value.okWide P W r b0 t v) (h : DataW.Trod enc P W base sp held t v d p) : ∃ n : Nat, v = .int .u64 n ∧ n < T64 := by
  obtain ⟨n, rfl, w⟩ := int_open ht hv h
  have := bounds_u64 w
  obtain ⟨m, rfl⟩ := Int.eq_ofNat_of_zero_le (by omega : 0 ≤ n)
  exact ⟨m, rfl, by unfold T64; omega⟩
theorem i64_open (ht : P.underlying t = some (.int .i64)) (hv : Value.okWide P W r b0 t v) (h : DataW.Trod enc P W base sp held t v d p) : ∃ n : Int, v = .int .i64 n ∧ -9223372036854775808 ≤ n ∧ n < 9223372036854775808 := by
  obtain ⟨n, rfl, w⟩ := int_open ht hv h
  have := bounds_i64 w
  exact ⟨n, rfl, by omega, by omega⟩
end
end Go.Proofs.YtmlkgaiphpimiaaDoor
namespace Go.Proofs.YtmlkgaiphpimiaaDoor
open Go.ChangeShapes Go.WideShapes Go.ChangeAt Go.RowKit

theorem chns_laid_plain (W : World) (h : laidMetH Tryd.prog Rows.hierarchyChainsRow.laid W) : DTab W := by
  have h' : laidMetH Tryd.prog [("math/bits.deBruijn64tab", Rows.laid_math_bits_deBruijn64tab)] W := h
  rw [MakeChecks.laidMetH_plain _ _ _ (by kernel_rfl)] at h'
  exact dtab_of_reads (Lib.laidMet.reads h' (.head _))
noncomputable def chnsStart (os : Os) : World := World.laidAll Tryd.prog os Rows.hierarchyChainsRow.laid
theorem chns_start_met (os : Os) (args : Array Value) : laidMetH Tryd.prog Rows.hierarchyChainsRow.laid ((chnsStart os).forCall (fun _ _ => 0) ⟨#[], args, []⟩).memory := by
  rw [MakeChecks.laidMetH_plain _ _ _ (by kernel_rfl)]
  exact laidMet_laidAll _ (by kernel_rfl) (by kernel_rfl)
theorem chns_own : ownKnob Tryd.prog.godebug = none := by kernel_rfl
theorem chns_laidOut : laidOutB Tryd.prog = true := by kernel_rfl

set_option maxRecDepth 100000 in
theorem chns_lifted (os : Os) (started : os.Started) (H : Type) (enc : TypeId × Value → H) :
    ReturnsInHanded {} Tryd.checked os 4 .any (fun w args => (Rows.hierarchyChainsSpec.pre enc Tryd.prog Tryd.f4 [] false w args ∧ laidMetH Tryd.prog Rows.hierarchyChainsRow.laid w) ∧ sizedMet enc Tryd.prog Tryd.f4 (OpenSpec.ofChange Rows.hierarchyChainsSpec) false w args)
      (Rows.hierarchyChainsSpec.post enc Tryd.prog Tryd.f4 false true false false) := by
  refine returnsInHanded_of_change_and (C := Tryd.checked) (X := fun w _ => laidMetH Tryd.prog Rows.hierarchyChainsRow.laid w) (fun _ _ _ hh h => h.of_heap hh) chns_own started (by kernel_rfl) Tryd.func4
    (ChangeSpec.witness_shaped (enc := enc) (C := Tryd.checked) (os := os) (X := fun w _ => laidMetH Tryd.prog Rows.hierarchyChainsRow.laid w) false (chnsStart os) #[.int .u64 0, .int .i64 0, .int .i64 0] 8 (World.laidAll_os _ _ _) (World.shaped_of_ZipB (by kernel_rfl) (by kernel_rfl)) (by kernel_rfl) (by kernel_rfl) (by kernel_rfl) (chns_start_met os _)) ?_
  intro W base args ds gs before hval0 hW _ _ hL _
  have hval : ∀ (j : Nat) t v, Tryd.f4.params[j]? = some t → args[j]? = some v → Value.okWide Tryd.prog W .any base t v := hval0
  have hW' := hW
  obtain ⟨p, q, hA0, hV, rfl, hfz, hnd⟩ := hW
  have hA : DataW.TrodAll enc Tryd.prog W 0 (fun _ => true) true Tryd.f4.params.toList args.toList ds p := hA0
  rw [Tryd.params4] at hA hval
  obtain ⟨v0, v1, v2, d0, d1, d2, p0, p1, p2, rfl, rfl, rfl, h0, h1, h2⟩ := trodAll_three hA
  obtain ⟨rfl, rfl⟩ := trodVars_none hV
  obtain ⟨x, rfl, hx⟩ := u64_open Tryd.underlying22 (hval 0 _ v0 rfl rfl) h0
  obtain ⟨y, rfl, hy, hy2⟩ := i64_open Tryd.underlying3 (hval 1 _ v1 rfl rfl) h1
  obtain ⟨z, rfl, hz, hz2⟩ := i64_open Tryd.underlying3 (hval 2 _ v2 rfl rfl) h2
  have hT := chns_laid_plain W hL
  have lt : ∀ z ∈ p0 ++ p1 ++ p2, z.block < W.heap.size := fun z hz => by simpa using hW'.lt z (by simpa using hz)
  refine (lchains_any x hx y z W hT).mono fun E W' he => ?_
  obtain ⟨r, rfl, rfl, hb⟩ := he
  refine ⟨_, rfl, _, _, _, [], p0 ++ p1 ++ p2, [], hW', ?_, ?_, ?_, hb.frame _, fun h => by cases h⟩
  · exact trodAll_mk1 (shut_bool Tryd.underlying4 true)
  · rw [Tryd.params4]
    rw [List.append_assoc]
    exact trodAll_mk3 (Below.trod chns_laidOut (by kernel_rfl) (of_decide_eq_true (by kernel_rfl)) h0 hb fun z hz => lt z (List.mem_append_left _ (List.mem_append_left _ hz))) (Below.trod chns_laidOut (by kernel_rfl) (of_decide_eq_true (by kernel_rfl)) h1 hb fun z hz => lt z (List.mem_append_left _ (List.mem_append_right _ hz))) (Below.trod chns_laidOut (by kernel_rfl) (of_decide_eq_true (by kernel_rfl)) h2 hb fun z hz => lt z (List.mem_append_right _ hz))
  · rfl

theorem chns_holds : Rows.HierarchyChainsSaid :=
  OpenClaim.holds_of_wide 4 Tryd.f4 rfl rfl rfl rfl rfl rfl rfl ⟨rfl, rfl, rfl, rfl, rfl⟩ rfl rfl rfl rfl rfl (by kernel_rfl) Tryd.func4 (by kernel_rfl)
    (of_decide_eq_true (by kernel_rfl)) (by unfold Func.isWrapper; rw [if_neg (by decide +kernel)]; exact ⟨rfl, rfl⟩)
    (fun os started H enc _ => chns_lifted os started H enc)
end Go.Proofs.YtmlkgaiphpimiaaDoor
namespace Go.Proofs.YtmlkgaiphpimiaaDoor
open Go

theorem chns_card : Rows.HierarchyChainsCardSaid :=
  Claim7.holds_tied_plain_at .later [] [.data] true (true, "cfd49cb4656b8bd54bde5f9242d591093a1a57a61d44ec1a091c4818a6365428") false
    chns_holds (fun _ h => by cases h) (by kernel_rfl) (fun _ h => by cases h) hierarchyChains_row_tie rfl ⟨rfl, rfl⟩ (by kernel_rfl) rfl
    (fun f fn hf hfn => by
      obtain rfl : f = 4 := Option.some.inj ((show Tryd.prog.funcNamed "arbac/arbaclaw10.HierarchyChains" = some 4 by kernel_rfl).symm.trans hf) |>.symm
      obtain rfl : fn = Tryd.f4 := (Option.some.inj (Tryd.func4.symm.trans hfn)).symm
      exact ⟨by kernel_rfl, fun j t ht => by
        rw [Tryd.params4] at ht
        have h3 : t = 22 ∨ t = 3 := by
          rcases j with _ | _ | _ | j
          · simp at ht; simp [← ht]
          · simp at ht; simp [← ht]
          · simp at ht; simp [← ht]
          · simp at ht
        rcases h3 with rfl | rfl
        · exact (show Tryd.prog.wantsStandIn 22 = false by kernel_rfl)
        · exact (show Tryd.prog.wantsStandIn 3 = false by kernel_rfl)⟩)
    (by kernel_rfl)
end Go.Proofs.YtmlkgaiphpimiaaDoor
namespace Go.Proofs.YtmlkgaiphpimiaaDoor
#print axioms chns_card
end Go.Proofs.YtmlkgaiphpimiaaDoor
