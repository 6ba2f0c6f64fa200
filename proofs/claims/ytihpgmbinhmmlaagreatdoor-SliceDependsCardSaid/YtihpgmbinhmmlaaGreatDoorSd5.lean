/-
  What the statement needs, part 5.
-/
import Derived.Deep.LoopGhost
import Derived.Test.YtihpgmbinhmmlaaGreatDoorSd4
namespace Go.Proofs.YtihpgmbinhmmlaaGreatDoor
open Go.RowKit
attribute [local go_sem ↓] Go.wp_at_zero Go.wp_at_succ
set_option maxRecDepth 20000
set_option exponentiation.threshold 5000

theorem ty_rules : SliceTy Tryz.prog 28 58 5 72 := ⟨Tryz.underlying28, by kernel_rfl⟩
theorem kclone_any {w0 : World} {D : Nat → Prop} {pv : Value} {n : Nat} {xs : List Value} (h : Sl w0 D 2 pv n xs) (ho : ∀ u ∈ xs, u.oneCell' = true) (hl : n ≤ 1000000) : Calls Tryz.prog 60 #[pv] w0 fun e w' => ∃ v, e = .returned v ∧ St w0 w' [.own v 56 2 n xs] fun _ _ => True := by
 obtain ⟨A, c, rfl, hc1, hc2⟩ := h.shape
 obtain ⟨K, kp, hS⟩ : ∃ K : (Nat → Prop) → World → Prop, (∀ D w, K D w → Sl w D 2 (.slice A n c) n xs) ∧ St w0 w0 [] K := ⟨_, fun _ _ h => h, St.start (stable_sl (by decide)) h⟩
 clear h
 cases A with
 | none =>
  obtain ⟨rfl, rfl⟩ : n = 0 ∧ xs = [] := by
   obtain ⟨h1, A, c2, h2, _, _, h5⟩ := kp _ _ hS.ro
   rcases Nat.eq_zero_or_pos n with h | h
   ·subst h; exact ⟨rfl, List.length_eq_zero_iff.1 (by omega)⟩
   ·obtain ⟨b, o, h6, _⟩ := h5 h
    injection h2 with h2; rw [← h2] at h6; cases h6
  go_enter Tryz.func60, Tryz.ntmps60
  go_wp2_with (first
   | ((with_reducible refine qB ?_); (first | refine q1 ?_ ?_ | refine q2 ?_ ?_ | refine q3 ?_ ?_ | refine q4 ?_ ?_ | refine q5 ?_ ?_ | refine q6 ?_ ?_) <;> intro h_ <;> go_prune)
   | ((with_reducible refine qA 4 ?_); refine BigFrame.wpList_want rfl fun _ hK => opw_bin (vx := .slice none 0 c) (vy := .slice none 0 0) (v := .bool true) rfl rfl rfl rfl (Lib.run_eql_slice_nil _ _ _ _ _ _ _ _ Tryz.underlying29) (hK _ _ ?_)))
  go_ret
  exact ⟨_, rfl, ((hS.nil 56 2)).mono (Stable.pure True) fun _ _ _ => trivial⟩
 | some ad =>
  go_enter Tryz.func60, Tryz.ntmps60
  go_wp2_with (first
   | ((with_reducible refine qA 4 ?_); refine BigFrame.wpList_want rfl fun _ hK => opw_bin (vx := .slice (some ad) n c) (vy := .slice none 0 0) (v := .bool false) rfl rfl rfl rfl (Lib.run_eql_slice_nil _ _ _ _ _ _ _ _ Tryz.underlying29) (hK _ _ ?_))
   | ((with_reducible show wpList _ _ _ (⟨_, .buildSlice _ 0 _, _, _, _, _⟩ :: _) _ _); refine st_empty hS rfl _ _ rfl Tryz.underlying29 (by kernel_rfl) 2 ?_; clear hS; intro ge w_ hS)
   | ((with_reducible refine qA 7 ?_); refine st_appf hS 0 rfl _ _ _ rfl ty_cubes _ rfl rfl _ _ _ _ rfl (kp _ _ hS.ro) ho (by omega) (by omega) ?_; clear hS; intro g cap w_ hS))
  go_ret
  exact ⟨_, rfl, hS.mono (Stable.pure True) fun _ _ _ => trivial⟩
theorem rclone_any {w0 : World} {D : Nat → Prop} {pv : Value} {n : Nat} {xs : List Value} (h : Sl w0 D 5 pv n xs) (ho : ∀ u ∈ xs, u.oneCell' = true) (hl : n ≤ 1000000) : Calls Tryz.prog 61 #[pv] w0 fun e w' => ∃ v, e = .returned v ∧ St w0 w' [.own v 58 5 n xs] fun _ _ => True := by
 obtain ⟨A, c, rfl, hc1, hc2⟩ := h.shape
 obtain ⟨K, kp, hS⟩ : ∃ K : (Nat → Prop) → World → Prop, (∀ D w, K D w → Sl w D 5 (.slice A n c) n xs) ∧ St w0 w0 [] K := ⟨_, fun _ _ h => h, St.start (stable_sl (by decide)) h⟩
 clear h
 cases A with
 | none =>
  obtain ⟨rfl, rfl⟩ : n = 0 ∧ xs = [] := by
   obtain ⟨h1, A, c2, h2, _, _, h5⟩ := kp _ _ hS.ro
   rcases Nat.eq_zero_or_pos n with h | h
   ·subst h; exact ⟨rfl, List.length_eq_zero_iff.1 (by omega)⟩
   ·obtain ⟨b, o, h6, _⟩ := h5 h
    injection h2 with h2; rw [← h2] at h6; cases h6
  go_enter Tryz.func61, Tryz.ntmps61
  go_wp2_with (first
   | ((with_reducible refine qB ?_); (first | refine q1 ?_ ?_ | refine q2 ?_ ?_ | refine q3 ?_ ?_ | refine q4 ?_ ?_ | refine q5 ?_ ?_ | refine q6 ?_ ?_) <;> intro h_ <;> go_prune)
   | ((with_reducible refine qA 4 ?_); refine BigFrame.wpList_want rfl fun _ hK => opw_bin (vx := .slice none 0 c) (vy := .slice none 0 0) (v := .bool true) rfl rfl rfl rfl (Lib.run_eql_slice_nil _ _ _ _ _ _ _ _ Tryz.underlying28) (hK _ _ ?_)))
  go_ret
  exact ⟨_, rfl, ((hS.nil 58 5)).mono (Stable.pure True) fun _ _ _ => trivial⟩
 | some ad =>
  go_enter Tryz.func61, Tryz.ntmps61
  go_wp2_with (first
   | ((with_reducible refine qA 4 ?_); refine BigFrame.wpList_want rfl fun _ hK => opw_bin (vx := .slice (some ad) n c) (vy := .slice none 0 0) (v := .bool false) rfl rfl rfl rfl (Lib.run_eql_slice_nil _ _ _ _ _ _ _ _ Tryz.underlying28) (hK _ _ ?_))
   | ((with_reducible show wpList _ _ _ (⟨_, .buildSlice _ 0 _, _, _, _, _⟩ :: _) _ _); refine st_empty hS rfl _ _ rfl Tryz.underlying28 (by kernel_rfl) 5 ?_; clear hS; intro ge w_ hS)
   | ((with_reducible refine qA 7 ?_); refine st_appf hS 0 rfl _ _ _ rfl ty_rules _ rfl rfl _ _ _ _ rfl (kp _ _ hS.ro) ho (by omega) (by omega) ?_; clear hS; intro g cap w_ hS))
  go_ret
  exact ⟨_, rfl, hS.mono (Stable.pure True) fun _ _ _ => trivial⟩
theorem copies_any {w0 : World} {D : Nat → Prop} {pv : Value} {n : Nat} {xs : List Value} (h : Sl w0 D 2 pv n xs) (ho : ∀ u ∈ xs, u.oneCell' = true) (hl : n ≤ 1000000) : Calls Tryz.prog 114 #[pv] w0 fun e w' => ∃ v, e = .returned v ∧ St w0 w' [.own v 56 2 n xs] fun _ _ => True := by
 have HC := Lib.hid (kclone_any h ho hl)
 clear h ho
 go_enter Tryz.func114, Tryz.ntmps114
 go_wp2_with (first | (go_at_call 60; refine HC.out.mono ?_; rintro e w_ ⟨v, rfl, hS⟩))
 go_ret
 exact ⟨_, rfl, hS⟩
theorem vs_len5 {vs : List Value} (h : vs.length = 5) : ∃ x0 x1 x2 x3 x4, vs = [x0, x1, x2, x3, x4] := by
 obtain ⟨x, vs', rfl, h'⟩ := vs_cons h
 obtain ⟨y, z, u, t, rfl⟩ := vs_len4 h'
 exact ⟨x, y, z, u, t, rfl⟩
theorem vs_len6 {vs : List Value} (h : vs.length = 6) : ∃ x0 x1 x2 x3 x4 x5, vs = [x0, x1, x2, x3, x4, x5] := by
 obtain ⟨x, vs', rfl, h'⟩ := vs_cons h
 obtain ⟨y, z, u, t, r, rfl⟩ := vs_len5 h'
 exact ⟨x, y, z, u, t, r, rfl⟩
theorem sl_cells {w : World} {D : Nat → Prop} {size n : Nat} {v : Value} {xs : List Value} (h : Sl w D size v n xs) : v.cells = #[v] ∧ v.oneCell' = true := by
 obtain ⟨A, c, rfl, _, _⟩ := h.shape
 exact ⟨rfl, rfl⟩
theorem RuleCells.one {w : World} {D : Nat → Prop} {xs : List Value} {l : List RuleD} (hl : xs.length = l.length * 5) (h : RuleCells w D xs l) : ∀ u ∈ xs, u.oneCell' = true := fun u hu => by
 obtain ⟨i, hi, rfl⟩ := List.getElem_of_mem hu
 have hk : i / 5 < l.length := by omega
 obtain ⟨a, b, q0, q1, q2, q3, q4, q5, q6⟩ := h (i / 5) l[i / 5] (by rw [List.getElem?_eq_getElem hk])
 obtain ⟨A, m, c, e3⟩ := q5.shape
 obtain ⟨B, k, d, e4⟩ := q6.shape
 have key : ∀ {j : Nat} {v : Value}, xs[i / 5 * 5 + j]? = some v → i = i / 5 * 5 + j → v.oneCell' = true → xs[i].oneCell' = true := fun {j v} q e hv => by
  rw [← e, List.getElem?_eq_getElem hi] at q
  injection q with q
  rw [q]; exact hv
 have h5 : i % 5 < 5 := Nat.mod_lt _ (by decide)
 have hd := Nat.div_add_mod i 5
 match hm : i % 5, h5 with
 | 0, _ => exact key (j := 0) q0 (by omega) rfl
 | 1, _ => exact key (j := 1) q1 (by omega) (by rw [e3]; rfl)
 | 2, _ => exact key (j := 2) q2 (by omega) (by rw [e4]; rfl)
 | 3, _ => exact key (j := 3) q3 (by omega) rfl
 | 4, _ => exact key (j := 4) q4 (by omega) rfl
set_option maxHeartbeats 1000000 in
theorem copy_any {w0 w : World} {F : List Fact} {K : (Nat → Prop) → World → Prop} {v : Value} {p : ProbD} (hP : p.Ok) (hS : St w0 w F K) (kp : ∀ D w, K D w → IsProb w D v p) :
  Calls Tryz.prog 69 #[v] w fun e w' => ∃ u, e = .returned u ∧ St w0 w' F fun D w => K D w ∧ IsProb w D u p := by
 obtain ⟨R, lk, st, rl, nl, gl⟩ := p
 obtain ⟨lp, s, rv, nv, gv, rfl, hh, hs, hr, hn, hg⟩ := kp _ _ hS.ro
 dsimp only at hh hs hr hn hg
 obtain ⟨hP1, hP2, hP3, -⟩ := hP
 dsimp only at hP1 hP2 hP3
 have KS := Lib.hid hS.stable
 obtain ⟨la, rfl⟩ : ∃ la, lp = .pointer la := by
  cases lk with
  | none => exact ⟨none, hh⟩
  | some L => obtain ⟨q, o, rfl, -⟩ := hh; exact ⟨_, rfl⟩
 obtain ⟨Cs, ns, cs, rfl⟩ := hs.shape
 obtain ⟨Ar, cr, rfl, _, _⟩ := hr.shape
 obtain ⟨An, cn, rfl, _, _⟩ := hn.shape
 obtain ⟨Ag, cg, rfl, _, _⟩ := hg.shape
 obtain ⟨xr, hr1, hr2⟩ := hr
 obtain ⟨xn, hn1, hn2⟩ := hn
 obtain ⟨xg, hg1, hg2⟩ := hg
 have OR : Hid (∀ u ∈ xr, u.oneCell' = true) := Lib.hid (hr2.one hr1.1)
 have ON : Hid (∀ u ∈ xn, u.oneCell' = true) := Lib.hid (CubeCells.one hn1.1 hn2)
 have OG : Hid (∀ u ∈ xg, u.oneCell' = true) := Lib.hid (CubeCells.one hg1.1 hg2)
 obtain ⟨K1, k0, kh, ks, kr, kn, kg, kr2, kn2, kg2, hS2⟩ : ∃ K1 : (Nat → Prop) → World → Prop, (∀ D w, K1 D w → K D w) ∧ (∀ D w, K1 D w → IsHo w D (.pointer la) lk) ∧ (∀ D w, K1 D w → IsSet w D (.agg #[.slice Cs ns cs]) st) ∧ (∀ D w, K1 D w → Sl w D 5 (.slice Ar rl.length cr) rl.length xr) ∧ (∀ D w, K1 D w → Sl w D 2 (.slice An nl.length cn) nl.length xn) ∧ (∀ D w, K1 D w → Sl w D 2 (.slice Ag gl.length cg) gl.length xg) ∧ (∀ D w, K1 D w → RuleCells w D xr rl) ∧ (∀ D w, K1 D w → CubeCells w D xn nl) ∧ (∀ D w, K1 D w → CubeCells w D xg gl) ∧ St w0 w F K1 :=
  ⟨_, fun _ _ h => h.1, fun _ _ h => h.2.1.1, fun _ _ h => h.2.1.2, fun _ _ h => h.2.2.1.1, fun _ _ h => h.2.2.2.1.1, fun _ _ h => h.2.2.2.2.1, fun _ _ h => h.2.2.1.2, fun _ _ h => h.2.2.2.1.2, fun _ _ h => h.2.2.2.2.2, hS.add (D := Free F) ((stable_ho.and stable_set).and (((stable_sl (by decide)).and stable_rcells).and (((stable_sl (by decide)).and stable_cc).and ((stable_sl (by decide)).and stable_cc)))) ⟨⟨hh, hs⟩, ⟨hr1, hr2⟩, ⟨hn1, hn2⟩, hg1, hg2⟩ fun _ h _ => h⟩
 clear hS hh hs hr1 hr2 hn1 hn2 hg1 hg2 kp
 have hS := hS2
 clear hS2
 have KS1 := Lib.hid hS.stable
 go_enter Tryz.func69, Tryz.ntmps69
 go_wp2_with (first
  | ((with_reducible refine qA 1 ?_); refine st_box hS rfl _ _ rfl (.agg #[.int .i64 R, .pointer la, .slice Cs ns cs, .slice Ar rl.length cr, .slice An nl.length cn, .slice Ag gl.length cg]) _ rfl rfl ?_; clear hS; intro g1 w_ hS; (try simp only [Act.put, Act.eval, z1, z2, z3, z4, z5, z6, z7, z8, Value.cells] at hS))
  | ((with_reducible refine qA 2 ?_); refine qa hS #[.int .i64 0, .pointer none, .slice none 0 0, .slice none 0 0, .slice none 0 0, .slice none 0 0] ?_; clear hS; intro g2 w_ hS))
 have h0d : St w0 w_.drew (.box g2 31 #[.int .i64 0, .pointer none, .slice none 0 0, .slice none 0 0, .slice none 0 0, .slice none 0 0] :: .box g1 31 #[.int .i64 R, .pointer la, .slice Cs ns cs, .slice Ar rl.length cr, .slice An nl.length cn, .slice Ag gl.length cg] :: F) K1 := hS.drew
 clear hS
 refine wp_region_seq [2, 5, 8, 10, 12, 14] (fun i__ v => match i__ with
  | 0 => v = .pointer (some ⟨g1, 3, none⟩)
  | 1 => v = .slice Ar rl.length cr
  | 2 => True
  | 3 => v = .pointer (some ⟨g1, 4, none⟩)
  | 4 => v = .slice An nl.length cn
  | 5 => True
  | 6 => v = .pointer (some ⟨g1, 5, none⟩)
  | 7 => v = .slice Ag gl.length cg
  | 8 => True
  | 9 => v = .pointer (some ⟨g1, 3, none⟩)
  | 10 => True
  | 11 => v = .pointer (some ⟨g1, 4, none⟩)
  | 12 => True
  | 13 => v = .pointer (some ⟨g1, 5, none⟩)
  | 14 => True
  | _ => True) (fun vs w => match vs with | [] => St w0 w (.box g2 31 #[.int .i64 0, .pointer none, .slice none 0 0, .slice none 0 0, .slice none 0 0, .slice none 0 0] :: .box g1 31 #[.int .i64 R, .pointer la, .slice Cs ns cs, .slice Ar rl.length cr, .slice An nl.length cn, .slice Ag gl.length cg] :: F) K1 | [a] => St w0 w (.box g2 31 #[.int .i64 0, .pointer none, .slice none 0 0, .slice none 0 0, .slice none 0 0, .slice none 0 0] :: .box g1 31 #[.int .i64 R, .pointer la, .slice Cs ns cs, .slice Ar rl.length cr, .slice An nl.length cn, .slice Ag gl.length cg] :: F) (fun D w => K1 D w ∧ Sl w D 5 a rl.length xr) | [a, b] => St w0 w (.box g2 31 #[.int .i64 0, .pointer none, .slice none 0 0, .slice none 0 0, .slice none 0 0, .slice none 0 0] :: .box g1 31 #[.int .i64 R, .pointer la, .slice Cs ns cs, .slice Ar rl.length cr, .slice An nl.length cn, .slice Ag gl.length cg] :: F) (fun D w => (K1 D w ∧ Sl w D 5 a rl.length xr) ∧ Sl w D 2 b nl.length xn) | [a, b, c] => St w0 w (.box g2 31 #[.int .i64 0, .pointer none, .slice none 0 0, .slice none 0 0, .slice none 0 0, .slice none 0 0] :: .box g1 31 #[.int .i64 R, .pointer la, .slice Cs ns cs, .slice Ar rl.length cr, .slice An nl.length cn, .slice Ag gl.length cg] :: F) (fun D w => ((K1 D w ∧ Sl w D 5 a rl.length xr) ∧ Sl w D 2 b nl.length xn) ∧ Sl w D 2 c gl.length xg) | [a, b, c, _] => St w0 w (.box g2 31 #[.int .i64 0, .pointer none, .slice none 0 0, .slice none 0 0, .slice none 0 0, .slice none 0 0] :: .box g1 31 #[.int .i64 R, .pointer la, .slice Cs ns cs, a, .slice An nl.length cn, .slice Ag gl.length cg] :: F) (fun D w => ((K1 D w ∧ Sl w D 5 a rl.length xr) ∧ Sl w D 2 b nl.length xn) ∧ Sl w D 2 c gl.length xg) | [a, b, c, _, _] => St w0 w (.box g2 31 #[.int .i64 0, .pointer none, .slice none 0 0, .slice none 0 0, .slice none 0 0, .slice none 0 0] :: .box g1 31 #[.int .i64 R, .pointer la, .slice Cs ns cs, a, b, .slice Ag gl.length cg] :: F) (fun D w => ((K1 D w ∧ Sl w D 5 a rl.length xr) ∧ Sl w D 2 b nl.length xn) ∧ Sl w D 2 c gl.length xg) | [a, b, c, _, _, _] => St w0 w (.box g2 31 #[.int .i64 0, .pointer none, .slice none 0 0, .slice none 0 0, .slice none 0 0, .slice none 0 0] :: .box g1 31 #[.int .i64 R, .pointer la, .slice Cs ns cs, a, b, c] :: F) (fun D w => ((K1 D w ∧ Sl w D 5 a rl.length xr) ∧ Sl w D 2 b nl.length xn) ∧ Sl w D 2 c gl.length xg) | _ => False) (by kernel_rfl) (by kernel_rfl) (by decide) (by kernel_rfl) (by kernel_rfl) ?start ⟨?r0, ?r1, ?r2, ?r3, ?r4, ?r5, ?r6, ?r7, ?r8, ?r9, ?r10, ?r11, ?r12, ?r13, ?r14, trivial⟩ ?post
 case start => first | assumption | (dsimp only; assumption)
 case r0 =>
  refine qread rfl fun b__ w vs hS hcov hold hpre heff => ?_
  refine ⟨fun hwant K hK => ?_, fun hwant => ?_⟩
  ·clear hwant
   have e1 : b__.eval (.tmp 1) = .pointer (some ⟨g1, 0, none⟩) := (hold 1 (by kernel_rfl)).trans rfl
   exact opw_faddr rfl e1 (by kernel_rfl) (hK _ rfl)
  ·rw [want_none rfl] at hwant; cases hwant
 case r1 =>
  refine qread rfl fun b__ w vs hS hcov hold hpre heff => ?_
  have hl1 : vs.length ≤ 0 := hcov 0 2 _ rfl rfl (by kernel_rfl)
  refine ⟨fun hwant K hK => ?_, fun hwant => ?_⟩
  ·clear hwant
   have hl0 : 0 ≤ vs.length ∧ vs.length ≤ 0 := ⟨by omega, by omega⟩
   rcases (by omega : vs.length = 0) with hl
   ·obtain rfl := vs_len0 hl
    have e3 : b__.eval (.tmp 3) = .pointer (some ⟨g1, 3, none⟩) := hpre ⟨0, _⟩ (Array.mem_of_getElem? (i := 0) rfl) rfl _ _ rfl rfl rfl
    first | exact opw_cell rfl e3 (by kernel_rfl) ((show St w0 w (.box g2 31 #[.int .i64 0, .pointer none, .slice none 0 0, .slice none 0 0, .slice none 0 0, .slice none 0 0] :: .box g1 31 #[.int .i64 R, .pointer la, .slice Cs ns cs, .slice Ar rl.length cr, .slice An nl.length cn, .slice Ag gl.length cg] :: F) K1 from hS).shut 1 rfl 3 rfl) (hK _ rfl)
  ·rw [want_none rfl] at hwant; cases hwant
 case r2 =>
  refine qturn 0 rfl (by decide) fun b__ w vs hS hl hold hpre heff => ?_
  obtain rfl := vs_len0 hl
  refine ⟨fun hwant K hK => ?_, fun hwant => ?_⟩
  ·clear hwant
   have e4 : b__.eval (.tmp 4) = .slice Ar rl.length cr := hpre ⟨1, _⟩ (Array.mem_of_getElem? (i := 0) rfl) rfl _ _ rfl rfl rfl
   have h3 : St w0 w (.box g2 31 #[.int .i64 0, .pointer none, .slice none 0 0, .slice none 0 0, .slice none 0 0, .slice none 0 0] :: .box g1 31 #[.int .i64 R, .pointer la, .slice Cs ns cs, .slice Ar rl.length cr, .slice An nl.length cn, .slice Ag gl.length cg] :: F) K1 := hS
   exact opw_callw rfl (by kernel_rfl) (by simp only [List.map_cons, List.map_nil, e4]) (rclone_any (kr _ _ h3.ro) OR.out (by omega)) fun e w' ⟨v, he, hs⟩ => ⟨v, he, hK v w' ((h3.new hs.below (.own v 58 5 rl.length xr) (hs.own 0 rfl)).freeze 0 (by decide) rfl)⟩
  ·rw [want_none rfl] at hwant; cases hwant
 case r3 =>
  refine qread rfl fun b__ w vs hS hcov hold hpre heff => ?_
  refine ⟨fun hwant K hK => ?_, fun hwant => ?_⟩
  ·clear hwant
   have e1 : b__.eval (.tmp 1) = .pointer (some ⟨g1, 0, none⟩) := (hold 1 (by kernel_rfl)).trans rfl
   exact opw_faddr rfl e1 (by kernel_rfl) (hK _ rfl)
  ·rw [want_none rfl] at hwant; cases hwant
 case r4 =>
  refine qread rfl fun b__ w vs hS hcov hold hpre heff => ?_
  have hl1 : vs.length ≤ 1 := hcov 1 5 _ rfl rfl (by kernel_rfl)
  refine ⟨fun hwant K hK => ?_, fun hwant => ?_⟩
  ·clear hwant
   have hl0 : 0 ≤ vs.length ∧ vs.length ≤ 1 := ⟨by omega, by omega⟩
   rcases (by omega : vs.length = 0 ∨ vs.length = 1) with hl | hl
   ·obtain rfl := vs_len0 hl
    have e6 : b__.eval (.tmp 6) = .pointer (some ⟨g1, 4, none⟩) := hpre ⟨3, _⟩ (Array.mem_of_getElem? (i := 0) rfl) rfl _ _ rfl rfl rfl
    first | exact opw_cell rfl e6 (by kernel_rfl) ((show St w0 w (.box g2 31 #[.int .i64 0, .pointer none, .slice none 0 0, .slice none 0 0, .slice none 0 0, .slice none 0 0] :: .box g1 31 #[.int .i64 R, .pointer la, .slice Cs ns cs, .slice Ar rl.length cr, .slice An nl.length cn, .slice Ag gl.length cg] :: F) K1 from hS).shut 1 rfl 4 rfl) (hK _ rfl) | exact opw_cell rfl e6 (by kernel_rfl) ((show St w0 w (.box g2 31 #[.int .i64 0, .pointer none, .slice none 0 0, .slice none 0 0, .slice none 0 0, .slice none 0 0] :: .box g1 31 #[.int .i64 R, .pointer la, .slice Cs ns cs, .slice Ar rl.length cr, .slice An nl.length cn, .slice Ag gl.length cg] :: F) (fun D w => K1 D w ∧ Sl w D 5 x0 rl.length xr) from hS).shut 1 rfl 4 rfl) (hK _ rfl)
   ·obtain ⟨x0, rfl⟩ := vs_len1 hl
    have e6 : b__.eval (.tmp 6) = .pointer (some ⟨g1, 4, none⟩) := hpre ⟨3, _⟩ (Array.mem_of_getElem? (i := 0) rfl) rfl _ _ rfl rfl rfl
    first | exact opw_cell rfl e6 (by kernel_rfl) ((show St w0 w (.box g2 31 #[.int .i64 0, .pointer none, .slice none 0 0, .slice none 0 0, .slice none 0 0, .slice none 0 0] :: .box g1 31 #[.int .i64 R, .pointer la, .slice Cs ns cs, .slice Ar rl.length cr, .slice An nl.length cn, .slice Ag gl.length cg] :: F) K1 from hS).shut 1 rfl 4 rfl) (hK _ rfl) | exact opw_cell rfl e6 (by kernel_rfl) ((show St w0 w (.box g2 31 #[.int .i64 0, .pointer none, .slice none 0 0, .slice none 0 0, .slice none 0 0, .slice none 0 0] :: .box g1 31 #[.int .i64 R, .pointer la, .slice Cs ns cs, .slice Ar rl.length cr, .slice An nl.length cn, .slice Ag gl.length cg] :: F) (fun D w => K1 D w ∧ Sl w D 5 x0 rl.length xr) from hS).shut 1 rfl 4 rfl) (hK _ rfl)
  ·rw [want_none rfl] at hwant; cases hwant
 case r5 =>
  refine qturn 1 rfl (by decide) fun b__ w vs hS hl hold hpre heff => ?_
  obtain ⟨x0, rfl⟩ := vs_len1 hl
  refine ⟨fun hwant K hK => ?_, fun hwant => ?_⟩
  ·clear hwant
   have e7 : b__.eval (.tmp 7) = .slice An nl.length cn := hpre ⟨4, _⟩ (Array.mem_of_getElem? (i := 0) rfl) rfl _ _ rfl rfl rfl
   have h3 : St w0 w (.box g2 31 #[.int .i64 0, .pointer none, .slice none 0 0, .slice none 0 0, .slice none 0 0, .slice none 0 0] :: .box g1 31 #[.int .i64 R, .pointer la, .slice Cs ns cs, .slice Ar rl.length cr, .slice An nl.length cn, .slice Ag gl.length cg] :: F) (fun D w => K1 D w ∧ Sl w D 5 x0 rl.length xr) := hS
   exact opw_callw rfl (by kernel_rfl) (by simp only [List.map_cons, List.map_nil, e7]) (copies_any (kn _ _ h3.ro.1) ON.out (by omega)) fun e w' ⟨v, he, hs⟩ => ⟨v, he, hK v w' ((h3.new hs.below (.own v 56 2 nl.length xn) (hs.own 0 rfl)).freeze 0 (by decide) rfl)⟩
  ·rw [want_none rfl] at hwant; cases hwant
 case r6 =>
  refine qread rfl fun b__ w vs hS hcov hold hpre heff => ?_
  refine ⟨fun hwant K hK => ?_, fun hwant => ?_⟩
  ·clear hwant
   have e1 : b__.eval (.tmp 1) = .pointer (some ⟨g1, 0, none⟩) := (hold 1 (by kernel_rfl)).trans rfl
   exact opw_faddr rfl e1 (by kernel_rfl) (hK _ rfl)
  ·rw [want_none rfl] at hwant; cases hwant
 case r7 =>
  refine qread rfl fun b__ w vs hS hcov hold hpre heff => ?_
  have hl1 : vs.length ≤ 2 := hcov 2 8 _ rfl rfl (by kernel_rfl)
  refine ⟨fun hwant K hK => ?_, fun hwant => ?_⟩
  ·clear hwant
   have hl0 : 0 ≤ vs.length ∧ vs.length ≤ 2 := ⟨by omega, by omega⟩
   rcases (by omega : vs.length = 0 ∨ vs.length = 1 ∨ vs.length = 2) with hl | hl | hl
   ·obtain rfl := vs_len0 hl
    have e9 : b__.eval (.tmp 9) = .pointer (some ⟨g1, 5, none⟩) := hpre ⟨6, _⟩ (Array.mem_of_getElem? (i := 0) rfl) rfl _ _ rfl rfl rfl
    first | exact opw_cell rfl e9 (by kernel_rfl) ((show St w0 w (.box g2 31 #[.int .i64 0, .pointer none, .slice none 0 0, .slice none 0 0, .slice none 0 0, .slice none 0 0] :: .box g1 31 #[.int .i64 R, .pointer la, .slice Cs ns cs, .slice Ar rl.length cr, .slice An nl.length cn, .slice Ag gl.length cg] :: F) K1 from hS).shut 1 rfl 5 rfl) (hK _ rfl) | exact opw_cell rfl e9 (by kernel_rfl) ((show St w0 w (.box g2 31 #[.int .i64 0, .pointer none, .slice none 0 0, .slice none 0 0, .slice none 0 0, .slice none 0 0] :: .box g1 31 #[.int .i64 R, .pointer la, .slice Cs ns cs, .slice Ar rl.length cr, .slice An nl.length cn, .slice Ag gl.length cg] :: F) (fun D w => K1 D w ∧ Sl w D 5 x0 rl.length xr) from hS).shut 1 rfl 5 rfl) (hK _ rfl) | exact opw_cell rfl e9 (by kernel_rfl) ((show St w0 w (.box g2 31 #[.int .i64 0, .pointer none, .slice none 0 0, .slice none 0 0, .slice none 0 0, .slice none 0 0] :: .box g1 31 #[.int .i64 R, .pointer la, .slice Cs ns cs, .slice Ar rl.length cr, .slice An nl.length cn, .slice Ag gl.length cg] :: F) (fun D w => (K1 D w ∧ Sl w D 5 x0 rl.length xr) ∧ Sl w D 2 x1 nl.length xn) from hS).shut 1 rfl 5 rfl) (hK _ rfl)
   ·obtain ⟨x0, rfl⟩ := vs_len1 hl
    have e9 : b__.eval (.tmp 9) = .pointer (some ⟨g1, 5, none⟩) := hpre ⟨6, _⟩ (Array.mem_of_getElem? (i := 0) rfl) rfl _ _ rfl rfl rfl
    first | exact opw_cell rfl e9 (by kernel_rfl) ((show St w0 w (.box g2 31 #[.int .i64 0, .pointer none, .slice none 0 0, .slice none 0 0, .slice none 0 0, .slice none 0 0] :: .box g1 31 #[.int .i64 R, .pointer la, .slice Cs ns cs, .slice Ar rl.length cr, .slice An nl.length cn, .slice Ag gl.length cg] :: F) K1 from hS).shut 1 rfl 5 rfl) (hK _ rfl) | exact opw_cell rfl e9 (by kernel_rfl) ((show St w0 w (.box g2 31 #[.int .i64 0, .pointer none, .slice none 0 0, .slice none 0 0, .slice none 0 0, .slice none 0 0] :: .box g1 31 #[.int .i64 R, .pointer la, .slice Cs ns cs, .slice Ar rl.length cr, .slice An nl.length cn, .slice Ag gl.length cg] :: F) (fun D w => K1 D w ∧ Sl w D 5 x0 rl.length xr) from hS).shut 1 rfl 5 rfl) (hK _ rfl) | exact opw_cell rfl e9 (by kernel_rfl) ((show St w0 w (.box g2 31 #[.int .i64 0, .pointer none, .slice none 0 0, .slice none 0 0, .slice none 0 0, .slice none 0 0] :: .box g1 31 #[.int .i64 R, .pointer la, .slice Cs ns cs, .slice Ar rl.length cr, .slice An nl.length cn, .slice Ag gl.length cg] :: F) (fun D w => (K1 D w ∧ Sl w D 5 x0 rl.length xr) ∧ Sl w D 2 x1 nl.length xn) from hS).shut 1 rfl 5 rfl) (hK _ rfl)
   ·obtain ⟨x0, x1, rfl⟩ := vs_len2 hl
    have e9 : b__.eval (.tmp 9) = .pointer (some ⟨g1, 5, none⟩) := hpre ⟨6, _⟩ (Array.mem_of_getElem? (i := 0) rfl) rfl _ _ rfl rfl rfl
    first | exact opw_cell rfl e9 (by kernel_rfl) ((show St w0 w (.box g2 31 #[.int .i64 0, .pointer none, .slice none 0 0, .slice none 0 0, .slice none 0 0, .slice none 0 0] :: .box g1 31 #[.int .i64 R, .pointer la, .slice Cs ns cs, .slice Ar rl.length cr, .slice An nl.length cn, .slice Ag gl.length cg] :: F) K1 from hS).shut 1 rfl 5 rfl) (hK _ rfl) | exact opw_cell rfl e9 (by kernel_rfl) ((show St w0 w (.box g2 31 #[.int .i64 0, .pointer none, .slice none 0 0, .slice none 0 0, .slice none 0 0, .slice none 0 0] :: .box g1 31 #[.int .i64 R, .pointer la, .slice Cs ns cs, .slice Ar rl.length cr, .slice An nl.length cn, .slice Ag gl.length cg] :: F) (fun D w => K1 D w ∧ Sl w D 5 x0 rl.length xr) from hS).shut 1 rfl 5 rfl) (hK _ rfl) | exact opw_cell rfl e9 (by kernel_rfl) ((show St w0 w (.box g2 31 #[.int .i64 0, .pointer none, .slice none 0 0, .slice none 0 0, .slice none 0 0, .slice none 0 0] :: .box g1 31 #[.int .i64 R, .pointer la, .slice Cs ns cs, .slice Ar rl.length cr, .slice An nl.length cn, .slice Ag gl.length cg] :: F) (fun D w => (K1 D w ∧ Sl w D 5 x0 rl.length xr) ∧ Sl w D 2 x1 nl.length xn) from hS).shut 1 rfl 5 rfl) (hK _ rfl)
  ·rw [want_none rfl] at hwant; cases hwant
 case r8 =>
  refine qturn 2 rfl (by decide) fun b__ w vs hS hl hold hpre heff => ?_
  obtain ⟨x0, x1, rfl⟩ := vs_len2 hl
  refine ⟨fun hwant K hK => ?_, fun hwant => ?_⟩
  ·clear hwant
   have e10 : b__.eval (.tmp 10) = .slice Ag gl.length cg := hpre ⟨7, _⟩ (Array.mem_of_getElem? (i := 0) rfl) rfl _ _ rfl rfl rfl
   have h3 : St w0 w (.box g2 31 #[.int .i64 0, .pointer none, .slice none 0 0, .slice none 0 0, .slice none 0 0, .slice none 0 0] :: .box g1 31 #[.int .i64 R, .pointer la, .slice Cs ns cs, .slice Ar rl.length cr, .slice An nl.length cn, .slice Ag gl.length cg] :: F) (fun D w => (K1 D w ∧ Sl w D 5 x0 rl.length xr) ∧ Sl w D 2 x1 nl.length xn) := hS
   exact opw_callw rfl (by kernel_rfl) (by simp only [List.map_cons, List.map_nil, e10]) (copies_any (kg _ _ h3.ro.1.1) OG.out (by omega)) fun e w' ⟨v, he, hs⟩ => ⟨v, he, hK v w' ((h3.new hs.below (.own v 56 2 gl.length xg) (hs.own 0 rfl)).freeze 0 (by decide) rfl)⟩
  ·rw [want_none rfl] at hwant; cases hwant
 case r9 =>
  refine qread rfl fun b__ w vs hS hcov hold hpre heff => ?_
  refine ⟨fun hwant K hK => ?_, fun hwant => ?_⟩
  ·clear hwant
   have e1 : b__.eval (.tmp 1) = .pointer (some ⟨g1, 0, none⟩) := (hold 1 (by kernel_rfl)).trans rfl
   exact opw_faddr rfl e1 (by kernel_rfl) (hK _ rfl)
  ·rw [want_none rfl] at hwant; cases hwant
 case r10 =>
  refine qturn 3 rfl (by decide) fun b__ w vs hS hl hold hpre heff => ?_
  obtain ⟨x0, x1, x2, rfl⟩ := vs_len3 hl
  refine ⟨fun hwant K hK => ?_, fun hwant => ?_⟩
  ·clear hwant
   have e12 : b__.eval (.tmp 12) = .pointer (some ⟨g1, 3, none⟩) := hpre ⟨9, _⟩ (Array.mem_of_getElem? (i := 0) rfl) rfl _ _ rfl rfl rfl
   have e5 : b__.eval (.tmp 5) = x0 := (heff ⟨2, _⟩ (Array.mem_of_getElem? (i := 1) rfl) rfl 0 _ _ rfl rfl rfl).2
   have h3 : St w0 w (.box g2 31 #[.int .i64 0, .pointer none, .slice none 0 0, .slice none 0 0, .slice none 0 0, .slice none 0 0] :: .box g1 31 #[.int .i64 R, .pointer la, .slice Cs ns cs, .slice Ar rl.length cr, .slice An nl.length cn, .slice Ag gl.length cg] :: F) (fun D w => ((K1 D w ∧ Sl w D 5 x0 rl.length xr) ∧ Sl w D 2 x1 nl.length xn) ∧ Sl w D 2 x2 gl.length xg) := hS
   have hc := sl_cells (h3.ro.1.1.2)
   exact opw_cstore rfl e12 e5 (h3.box 1 rfl) (show 3 < 6 by decide) hc.1 hc.2 (by kernel_rfl) fun w' hbx hup => hK _ w' (h3.upd 1 rfl (.box g1 31 #[.int .i64 R, .pointer la, .slice Cs ns cs, x0, .slice An nl.length cn, .slice Ag gl.length cg]) (upd_gb hup) ⟨(h3.holds (.box g1 31 _) (List.mem_of_getElem? (i := 1) rfl)).1, hbx⟩ fun _ e => .inl e)
  ·rw [want_none rfl] at hwant; cases hwant
 case r11 =>
  refine qread rfl fun b__ w vs hS hcov hold hpre heff => ?_
  refine ⟨fun hwant K hK => ?_, fun hwant => ?_⟩
  ·clear hwant
   have e1 : b__.eval (.tmp 1) = .pointer (some ⟨g1, 0, none⟩) := (hold 1 (by kernel_rfl)).trans rfl
   exact opw_faddr rfl e1 (by kernel_rfl) (hK _ rfl)
  ·rw [want_none rfl] at hwant; cases hwant
 case r12 =>
  refine qturn 4 rfl (by decide) fun b__ w vs hS hl hold hpre heff => ?_
  obtain ⟨x0, x1, x2, x3, rfl⟩ := vs_len4 hl
  refine ⟨fun hwant K hK => ?_, fun hwant => ?_⟩
  ·clear hwant
   have e13 : b__.eval (.tmp 13) = .pointer (some ⟨g1, 4, none⟩) := hpre ⟨11, _⟩ (Array.mem_of_getElem? (i := 0) rfl) rfl _ _ rfl rfl rfl
   have e8 : b__.eval (.tmp 8) = x1 := (heff ⟨5, _⟩ (Array.mem_of_getElem? (i := 1) rfl) rfl 1 _ _ rfl rfl rfl).2
   have h3 : St w0 w (.box g2 31 #[.int .i64 0, .pointer none, .slice none 0 0, .slice none 0 0, .slice none 0 0, .slice none 0 0] :: .box g1 31 #[.int .i64 R, .pointer la, .slice Cs ns cs, x0, .slice An nl.length cn, .slice Ag gl.length cg] :: F) (fun D w => ((K1 D w ∧ Sl w D 5 x0 rl.length xr) ∧ Sl w D 2 x1 nl.length xn) ∧ Sl w D 2 x2 gl.length xg) := hS
   have hc := sl_cells (h3.ro.1.2)
   exact opw_cstore rfl e13 e8 (h3.box 1 rfl) (show 4 < 6 by decide) hc.1 hc.2 (by kernel_rfl) fun w' hbx hup => hK _ w' (h3.upd 1 rfl (.box g1 31 #[.int .i64 R, .pointer la, .slice Cs ns cs, x0, x1, .slice Ag gl.length cg]) (upd_gb hup) ⟨(h3.holds (.box g1 31 _) (List.mem_of_getElem? (i := 1) rfl)).1, hbx⟩ fun _ e => .inl e)
  ·rw [want_none rfl] at hwant; cases hwant
 case r13 =>
  refine qread rfl fun b__ w vs hS hcov hold hpre heff => ?_
  refine ⟨fun hwant K hK => ?_, fun hwant => ?_⟩
  ·clear hwant
   have e1 : b__.eval (.tmp 1) = .pointer (some ⟨g1, 0, none⟩) := (hold 1 (by kernel_rfl)).trans rfl
   exact opw_faddr rfl e1 (by kernel_rfl) (hK _ rfl)
  ·rw [want_none rfl] at hwant; cases hwant
 case r14 =>
  refine qturn 5 rfl (by decide) fun b__ w vs hS hl hold hpre heff => ?_
  obtain ⟨x0, x1, x2, x3, x4, rfl⟩ := vs_len5 hl
  refine ⟨fun hwant K hK => ?_, fun hwant => ?_⟩
  ·clear hwant
   have e14 : b__.eval (.tmp 14) = .pointer (some ⟨g1, 5, none⟩) := hpre ⟨13, _⟩ (Array.mem_of_getElem? (i := 0) rfl) rfl _ _ rfl rfl rfl
   have e11 : b__.eval (.tmp 11) = x2 := (heff ⟨8, _⟩ (Array.mem_of_getElem? (i := 1) rfl) rfl 2 _ _ rfl rfl rfl).2
   have h3 : St w0 w (.box g2 31 #[.int .i64 0, .pointer none, .slice none 0 0, .slice none 0 0, .slice none 0 0, .slice none 0 0] :: .box g1 31 #[.int .i64 R, .pointer la, .slice Cs ns cs, x0, x1, .slice Ag gl.length cg] :: F) (fun D w => ((K1 D w ∧ Sl w D 5 x0 rl.length xr) ∧ Sl w D 2 x1 nl.length xn) ∧ Sl w D 2 x2 gl.length xg) := hS
   have hc := sl_cells (h3.ro.2)
   exact opw_cstore rfl e14 e11 (h3.box 1 rfl) (show 5 < 6 by decide) hc.1 hc.2 (by kernel_rfl) fun w' hbx hup => hK _ w' (h3.upd 1 rfl (.box g1 31 #[.int .i64 R, .pointer la, .slice Cs ns cs, x0, x1, x2]) (upd_gb hup) ⟨(h3.holds (.box g1 31 _) (List.mem_of_getElem? (i := 1) rfl)).1, hbx⟩ fun _ e => .inl e)
  ·rw [want_none rfl] at hwant; cases hwant
 case post =>
  intro b__ wz vs hS hl hdf hsz hold hT hE
  obtain ⟨x0, x1, x2, x3, x4, x5, rfl⟩ := vs_len6 hl
  have e3 : b__.eval (.tmp 3) = .pointer (some ⟨g1, 3, none⟩) := hT 0 _ 3 rfl rfl rfl
  have e4 : b__.eval (.tmp 4) = .slice Ar rl.length cr := hT 1 _ 4 rfl rfl rfl
  have e5 : b__.eval (.tmp 5) = x0 := hE 0 2 _ 5 rfl rfl rfl
  have e6 : b__.eval (.tmp 6) = .pointer (some ⟨g1, 4, none⟩) := hT 3 _ 6 rfl rfl rfl
  have e7 : b__.eval (.tmp 7) = .slice An nl.length cn := hT 4 _ 7 rfl rfl rfl
  have e8 : b__.eval (.tmp 8) = x1 := hE 1 5 _ 8 rfl rfl rfl
  have e9 : b__.eval (.tmp 9) = .pointer (some ⟨g1, 5, none⟩) := hT 6 _ 9 rfl rfl rfl
  have e10 : b__.eval (.tmp 10) = .slice Ag gl.length cg := hT 7 _ 10 rfl rfl rfl
  have e11 : b__.eval (.tmp 11) = x2 := hE 2 8 _ 11 rfl rfl rfl
  have e12 : b__.eval (.tmp 12) = .pointer (some ⟨g1, 3, none⟩) := hT 9 _ 12 rfl rfl rfl
  have e13 : b__.eval (.tmp 13) = .pointer (some ⟨g1, 4, none⟩) := hT 11 _ 13 rfl rfl rfl
  have e14 : b__.eval (.tmp 14) = .pointer (some ⟨g1, 5, none⟩) := hT 13 _ 14 rfl rfl rfl
  obtain ⟨us, hus, hb⟩ := frame_of hdf hsz hold
  replace e3 : us 3 = .pointer (some ⟨g1, 3, none⟩) := (hus 3).symm.trans e3
  replace e4 : us 4 = .slice Ar rl.length cr := (hus 4).symm.trans e4
  replace e5 : us 5 = x0 := (hus 5).symm.trans e5
  replace e6 : us 6 = .pointer (some ⟨g1, 4, none⟩) := (hus 6).symm.trans e6
  replace e7 : us 7 = .slice An nl.length cn := (hus 7).symm.trans e7
  replace e8 : us 8 = x1 := (hus 8).symm.trans e8
  replace e9 : us 9 = .pointer (some ⟨g1, 5, none⟩) := (hus 9).symm.trans e9
  replace e10 : us 10 = .slice Ag gl.length cg := (hus 10).symm.trans e10
  replace e11 : us 11 = x2 := (hus 11).symm.trans e11
  replace e12 : us 12 = .pointer (some ⟨g1, 3, none⟩) := (hus 12).symm.trans e12
  replace e13 : us 13 = .pointer (some ⟨g1, 4, none⟩) := (hus 13).symm.trans e13
  replace e14 : us 14 = .pointer (some ⟨g1, 5, none⟩) := (hus 14).symm.trans e14
  subst hb
  clear hus hold hT hE hdf hsz hl
  simp only [setAll, Act.put, List.setIfInBounds_toArray, List.set_cons_zero, List.set_cons_succ, List.getElem_toArray, List.getElem_cons_succ, List.getElem_cons_zero]
  have hS2 : St w0 wz (.box g2 31 #[.int .i64 0, .pointer none, .slice none 0 0, .slice none 0 0, .slice none 0 0, .slice none 0 0] :: .box g1 31 #[.int .i64 R, .pointer la, .slice Cs ns cs, x0, x1, x2] :: F) (fun D w => ((K1 D w ∧ Sl w D 5 x0 rl.length xr) ∧ Sl w D 2 x1 nl.length xn) ∧ Sl w D 2 x2 gl.length xg) := hS
  clear hS
  have hS := hS2
  clear hS2
  obtain ⟨A0, c0, rfl, _, _⟩ := hS.ro.1.1.2.shape
  obtain ⟨A1, c1, rfl, _, _⟩ := hS.ro.1.2.shape
  obtain ⟨A2, c2, rfl, _, _⟩ := hS.ro.2.shape
  go_wp2_with (first
   | ((with_reducible refine qK ?_); refine qL hS Tryz.underlying31 ?_)
   | ((with_reducible refine qM ?_); (first | refine qS hS ?_ | refine qT hS ?_); clear hS; intro w_ hS; (try simp only [Act.put, Act.eval, z1, z2, z3, z4, z5, z6, z7, z8, Value.cells] at hS)))
  refine ret_cell Tryz.results69 rfl (hS.box 0 rfl) Tryz.underlying31 rfl (by kernel_rfl) rfl ?_
  exact ⟨_, rfl, (hS.sub ((List.sublist_cons_self _ _).trans (List.sublist_cons_self _ _))).mono (KS.out.and stable_prob) fun D w h => ⟨k0 _ _ h.1.1.1, _, _, _, _, _, rfl, kh _ _ h.1.1.1, ks _ _ h.1.1.1, ⟨xr, h.1.1.2, kr2 _ _ h.1.1.1⟩, ⟨xn, h.1.2, kn2 _ _ h.1.1.1⟩, xg, h.2, kg2 _ _ h.1.1.1⟩⟩
end Go.Proofs.YtihpgmbinhmmlaaGreatDoor
namespace Go.Proofs.YtihpgmbinhmmlaaGreatDoor
open Go.RowKit
attribute [local go_sem ↓] Go.wp_at_zero Go.wp_at_succ
set_option maxRecDepth 20000
set_option exponentiation.threshold 5000

theorem ret3_cell {P : Program} {fn : Func} {p t2 t3 : Tmp} {ty : TypeId} {R : Ending → World → Prop} {a : Act} {w : World} {g : Nat} {t : TypeId} {cs : Array Value} {d : TypeDesc} {v u : Value} (h : fn.results = #[.cell p ty, .tmp t2, .tmp t3]) (hp : a.eval (.tmp p) = .pointer (some ⟨g, 0, none⟩)) (hb : Box w g t cs)
  (hu : P.underlying ty = some d) (hd : (match d with | .struct _ | .array _ _ => true | _ => false) = true) (hi : (P.info? ty).map (·.size) = some cs.size) (hv : a.eval (.tmp t2) = v) (hv2 : a.eval (.tmp t3) = u) (hdf : a.defers = []) (hR : R (.returned (.tuple #[.agg cs, v, u])) w) : bodyPost P fn R .ret a w := by
 have hr : (results fn a.tmps).run P w = .ok (.tuple #[.agg cs, v, u]) w := by
  have hp' : a.tmps[p]?.getD undef = .pointer (some ⟨g, 0, none⟩) := by simpa [Act.eval] using hp
  have hv' : a.tmps[t2]?.getD undef = v := by simpa [Act.eval] using hv
  have hv2' : a.tmps[t3]?.getD undef = u := by simpa [Act.eval] using hv2
  simp [results, h, hp', hv', hv2', asAddr, run_loadVar_row w g t ty cs (0, 0) d hb hu hd hi]
 exact bodyPost_ret hr hdf hR
def keepR (S : Nat) (l : List RuleD) : List RuleD := l.filter fun r => hasB S r.target
def keepN (S : Nat) (l : List RuleD) (j : Nat) : List Int := ((List.range j).filter fun k : Nat => hasB S (l.getD k dfltR).target).map fun k : Nat => (k : Int)
noncomputable def keepC (L : List (Nat × Nat)) (S : Nat) (l : List (Nat × Nat)) : List (Nat × Nat) := l.filter fun c => depC L c &&& S != 0
theorem keepR_step {S : Nat} {l : List RuleD} {j : Nat} {r : RuleD} (h : l[j]? = some r) : keepR S (l.take (j + 1)) = if hasB S r.target = true then keepR S (l.take j) ++ [r] else keepR S (l.take j) := by
 unfold keepR
 rw [List.take_add_one, h, List.filter_append]
 by_cases e : hasB S r.target = true <;> simp [e]
theorem keepN_step {S : Nat} {l : List RuleD} {j : Nat} {r : RuleD} (h : l[j]? = some r) : keepN S l (j + 1) = if hasB S r.target = true then keepN S l j ++ [(j : Int)] else keepN S l j := by
 unfold keepN
 have e : l.getD j dfltR = r := by rw [List.getD_eq_getElem?_getD, h]; rfl
 rw [List.range_succ, List.filter_append, List.map_append]
 by_cases e2 : hasB S r.target = true
 ·rw [if_pos e2, List.filter_cons, e, if_pos e2]; rfl
 ·rw [if_neg e2, List.filter_cons, e, if_neg e2]; simp
theorem keepC_step {L : List (Nat × Nat)} {S : Nat} {l : List (Nat × Nat)} {j : Nat} {c : Nat × Nat} (h : l[j]? = some c) : keepC L S (l.take (j + 1)) = if (depC L c &&& S != 0) = true then keepC L S (l.take j) ++ [c] else keepC L S (l.take j) := by
 unfold keepC
 rw [List.take_add_one, h, List.filter_append]
 by_cases e : (depC L c &&& S != 0) = true
 ·rw [if_pos e]; simp [List.filter_cons, e]
 ·rw [if_neg e]; simp [List.filter_cons, e]
theorem IsSet.off {w : World} {D : Nat → Prop} {v : Value} {N g : Nat} {t : TypeId} {cs : Array Value} (h : IsSet w D v N) (hb : Box w g t cs) (hc : ∀ (i : Nat) (x : Value), cs[i]? = some x → ∀ n : Int, x ≠ Value.int .u64 n) : IsSet w (fun b => D b ∧ b ≠ g) v N := by
 obtain ⟨u, l, rfl, h1, h2, h3, A, c, rfl, h4, h5, h6⟩ := h
 refine ⟨_, l, rfl, h1, h2, h3, A, c, rfl, h4, h5, fun hp => ?_⟩
 obtain ⟨b, o, rfl, q1, q2, q3⟩ := h6 hp
 refine ⟨b, o, rfl, ⟨q1, fun e => ?_⟩, q2, q3⟩
 subst e
 have h7 := q3 0 (.int .u64 (l.getD 0 0 : Nat)) (by
  cases l with
  | nil => simp at hp
  | cons y l => simp [u64s])
 rw [hb.cell] at h7
 exact hc _ _ h7 _ rfl
def zeroP : ProbD := ⟨0, none, 0, [], [], []⟩
noncomputable def ofP (p : ProbD) : ProbD := if checkE p = 0 then (match p.links with
 | none => zeroP
 | some L => ⟨p.roles, p.links, p.start &&& relM L p, keepR (relM L p) p.rules, keepC L (relM L p) p.never, p.goal⟩) else zeroP
noncomputable def ofKept (p : ProbD) : List Int := if checkE p = 0 then (match p.links with
 | none => []
 | some L => keepN (relM L p) p.rules p.rules.length) else []
theorem IsProb.parts {w : World} {D : Nat → Prop} {a lp s rv nv gv : Value} {p : ProbD} (h : IsProb w D (.agg #[a, lp, s, rv, nv, gv]) p) : IsHo w D lp p.links ∧ IsSet w D (.agg #[s]) p.start ∧ IsRules w D rv p.rules ∧ IsCubes w D nv p.never ∧ IsCubes w D gv p.goal := by
 obtain ⟨lp', s', rv', nv', gv', he, h1, h2, h3, h4, h5⟩ := h
 have e : a = .int .i64 p.roles ∧ lp = lp' ∧ s = s' ∧ rv = rv' ∧ nv = nv' ∧ gv = gv' := by simpa using he
 obtain ⟨-, rfl, rfl, rfl, rfl, rfl⟩ := e
 exact ⟨h1, h2, h3, h4, h5⟩
theorem RuleCells.append {w : World} {D : Nat → Prop} {xs ys : List Value} {l m : List RuleD} (hx : xs.length = l.length * 5) (h : RuleCells w D xs l) (k : RuleCells w D ys m) : RuleCells w D (xs ++ ys) (l ++ m) := fun i z hi => by
 rcases Nat.lt_or_ge i l.length with h1 | h1
 ·rw [List.getElem?_append_left h1] at hi
  obtain ⟨a, b, q0, q1, q2, q3, q4, q5, q6⟩ := h i z hi
  refine ⟨a, b, ?_, ?_, ?_, ?_, ?_, q5, q6⟩
  all_goals rw [List.getElem?_append_left (by omega)]; assumption
 ·rw [List.getElem?_append_right h1] at hi
  obtain ⟨a, b, q0, q1, q2, q3, q4, q5, q6⟩ := k _ z hi
  refine ⟨a, b, ?_, ?_, ?_, ?_, ?_, q5, q6⟩
  ·rw [List.getElem?_append_right (by omega), ← q0]; congr 1; omega
  ·rw [List.getElem?_append_right (by omega), ← q1]; congr 1; omega
  ·rw [List.getElem?_append_right (by omega), ← q2]; congr 1; omega
  ·rw [List.getElem?_append_right (by omega), ← q3]; congr 1; omega
  ·rw [List.getElem?_append_right (by omega), ← q4]; congr 1; omega
theorem RuleCells.single {w : World} {D : Nat → Prop} {a b : Value} {z : RuleD} (ha : IsSet w D (.agg #[a]) z.yes) (hb : IsSet w D (.agg #[b]) z.no) : RuleCells w D [.bool z.revoke, a, b, .int .i64 z.target, .int .i64 z.origin] [z] := fun i x hi => by
 cases i with
 | zero => obtain rfl := Option.some.inj (show some z = some x from hi); exact ⟨a, b, rfl, rfl, rfl, rfl, rfl, ha, hb⟩
 | succ i => simp at hi
set_option maxHeartbeats 4000000 in
theorem of_slice_any {w0 w : World} {F : List Fact} {K : (Nat → Prop) → World → Prop} {v : Value} {p : ProbD} (hP : p.Ok) (hS : St w0 w F K) (kp : ∀ D w, K D w → IsProb w D v p) (kt : ∀ D w, K D w → DTab w) :
  Calls Tryz.prog 19 #[v] w fun e w' => ∃ u k, e = .returned (.tuple #[u, k, .int .i64 (checkE p)]) ∧ St w0 w' F fun D w => (K D w ∧ IsProb w D u (ofP p)) ∧ Sl w D 1 k (ofKept p).length (ints (ofKept p)) := by
 obtain ⟨R, lk, st, rl, nl, gl⟩ := p
 obtain ⟨lp, s, rv, nv, gv, rfl, hh, hs, hr, hn, hg⟩ := kp _ _ hS.ro
 dsimp only at hh hs hr hn hg
 have HP := Lib.hid hP
 obtain ⟨hP1, hP2, hP3, -⟩ := hP
 dsimp only at hP1 hP2 hP3
 have KS := Lib.hid hS.stable
 obtain ⟨Cs, ns, cs, rfl⟩ := hs.shape
 obtain ⟨Ar, cr, rfl, _, _⟩ := hr.shape
 obtain ⟨An, cn, rfl, _, _⟩ := hn.shape
 obtain ⟨Ag, cg, rfl, _, _⟩ := hg.shape
 clear hs hr hn hg
 dsimp only at kp ⊢
 obtain ⟨e, he⟩ : ∃ e, e = checkE ⟨R, lk, st, rl, nl, gl⟩ := ⟨_, rfl⟩
 have HE := Lib.hid he
 rw [← he]
 clear he
 by_cases h0 : e = 0
 ·subst h0
  cases lk with
  | none => have := HE.out; cases this
  | some L =>
   have HH := Lib.hid (HP.out.links L rfl).1
   obtain ⟨q, o, rfl, -⟩ := hh
   obtain ⟨SM, hSM⟩ : ∃ S, S = relM L ⟨R, some L, st, rl, nl, gl⟩ := ⟨_, rfl⟩
   have HRS : Hid (relS ⟨R, some L, st, rl, nl, gl⟩ = SM) := Lib.hid (by unfold relS; rw [if_pos HE.out.symm, hSM])
   have HOF : Hid (ofP ⟨R, some L, st, rl, nl, gl⟩ = ⟨R, some L, st &&& SM, keepR SM rl, keepC L SM nl, gl⟩) := Lib.hid (by unfold ofP; rw [if_pos HE.out.symm, hSM])
   have HON : Hid (ofKept ⟨R, some L, st, rl, nl, gl⟩ = keepN SM rl rl.length) := Lib.hid (by unfold ofKept; rw [if_pos HE.out.symm, hSM])
   clear hSM
   go_enter Tryz.func19, Tryz.ntmps19
   go_wp2_with (first
    | ((with_reducible refine qA 1 ?_); refine st_box hS rfl _ _ rfl (.agg #[.int .i64 R, .pointer (some ⟨q, 0, none⟩), .slice Cs ns cs, .slice Ar rl.length cr, .slice An nl.length cn, .slice Ag gl.length cg]) _ rfl rfl ?_; clear hS; intro g1 w_ hS; (try simp only [Act.put, Act.eval, z1, z2, z3, z4, z5, z6, z7, z8, Value.cells] at hS))
    | ((with_reducible refine qA 2 ?_); refine qa hS #[.int .i64 0, .pointer none, .slice none 0 0, .slice none 0 0, .slice none 0 0, .slice none 0 0] ?_; clear hS; intro g2 w_ hS)
    | ((with_reducible refine qA 6 ?_); refine qa hS #[.slice none 0 0] ?_; clear hS; intro g6 w_ hS)
    | ((with_reducible refine qA 7 ?_); refine qa hS #[.int .i64 0, .pointer none, .slice none 0 0, .slice none 0 0, .slice none 0 0, .slice none 0 0] ?_; clear hS; intro g7 w_ hS)
    | ((with_reducible refine qB ?_); (first | refine q1 ?_ ?_ | refine q2 ?_ ?_ | refine q3 ?_ ?_ | refine q4 ?_ ?_ | refine q5 ?_ ?_ | refine q6 ?_ ?_) <;> intro h_ <;> go_prune)
    | ((with_reducible refine qk 31 ?_); first | refine BigFrame.wpList_want rfl fun _ hK => opw_row rfl rfl (hS.box 1 rfl) Tryz.underlying31 rfl (by kernel_rfl) (hK _ _ ?_) | refine BigFrame.wpList_want rfl fun _ hK => opw_row rfl rfl (hS.box 2 rfl) Tryz.underlying31 rfl (by kernel_rfl) (hK _ _ ?_))
    | ((with_reducible refine qM ?_); (first | refine qS hS ?_ | refine qT hS ?_); clear hS; intro w_ hS; (try simp only [Act.put, Act.eval, z1, z2, z3, z4, z5, z6, z7, z8, Value.cells] at hS))
    | (go_at_call 18; refine (schk_any (kp _ _ hS.ro) HP.out (kt _ _ hS.ro)).mono ?_; rw [← HE.out]; rintro r_ w_ ⟨_, rfl, rfl, hb_⟩; replace hS := hS.ext hb_; clear hb_)
    | (go_at_call 13; refine (relevant_any (kp _ _ hS.ro) HP.out (kt _ _ hS.ro)).mono ?_; rw [HRS.out]; rintro r_ w_ ⟨_, rfl, h1, hb_⟩; replace hS := hS.ret hb_ stable_set h1; clear h1 hb_; obtain ⟨A6, c6, l6, rfl, -⟩ := hS.ro.2.parts; obtain ⟨n6, hn6⟩ : ∃ n, n = l6.length := ⟨_, rfl⟩; rw [← hn6] at hS ⊢; clear hn6)
    | (go_at_call 69; refine (copy_any HP.out hS (fun D w h => kp D w h.1)).mono ?_; clear hS; rintro r_ w_ ⟨u7, rfl, hS⟩; obtain ⟨lp7, s7, rv7, nv7, gv7, rfl, hh7, hs7, hr7, hn7, hg7⟩ := id hS.ro.2; dsimp only at hh7 hs7 hr7 hn7 hg7; obtain ⟨q7, o7, rfl, -⟩ := hh7; obtain ⟨C7, m7, d7, rfl⟩ := hs7.shape; obtain ⟨Ar7, cr7, rfl, _, _⟩ := hr7.shape; obtain ⟨An7, cn7, rfl, _, _⟩ := hn7.shape; obtain ⟨Ag7, cg7, rfl, _, _⟩ := hg7.shape; clear hs7 hr7 hn7 hg7))
   obtain ⟨K7, k0, k6, kq, ks7, hS2⟩ : ∃ K7 : (Nat → Prop) → World → Prop, (∀ D w, K7 D w → K D w) ∧ (∀ D w, K7 D w → IsSet w D (.agg #[.slice A6 n6 c6]) SM) ∧ (∀ D w, K7 D w → IsProb w D (.agg #[.int .i64 R, .pointer (some ⟨q7, 0, none⟩), .slice C7 m7 d7, .slice Ar7 rl.length cr7, .slice An7 nl.length cn7, .slice Ag7 gl.length cg7]) ⟨R, some L, st, rl, nl, gl⟩) ∧ (∀ D w, K7 D w → IsSet w D (.agg #[.slice C7 m7 d7]) st) ∧ St w0 w_ (.box g7 31 #[.int .i64 R, .pointer (some ⟨q7, 0, none⟩), .slice C7 m7 d7, .slice Ar7 rl.length cr7, .slice An7 nl.length cn7, .slice Ag7 gl.length cg7] :: .box g6 27 #[.slice A6 n6 c6] :: .box g2 31 #[.int .i64 0, .pointer none, .slice none 0 0, .slice none 0 0, .slice none 0 0, .slice none 0 0] :: .box g1 31 #[.int .i64 R, .pointer (some ⟨q, 0, none⟩), .slice Cs ns cs, .slice Ar rl.length cr, .slice An nl.length cn, .slice Ag gl.length cg] :: F) K7 := ⟨_, fun _ _ h => h.1.1, fun _ _ h => h.1.2, fun _ _ h => h.2, fun _ _ h => h.2.parts.2.1, hS⟩
   clear hS
   have hS := hS2
   clear hS2
   have KS7 := Lib.hid hS.stable
   refine wp_region_tail2 (fun i__ lo hi v w => match i__ with
    | 0 => v = .pointer (some ⟨g7, 0, none⟩)
    | 1 => v = .int .i64 R
    | 2 => v = .pointer (some ⟨g7, 1, none⟩)
    | 3 => v = .pointer (some ⟨q7, 0, none⟩)
    | 4 => v = .pointer (some ⟨g7, 2, none⟩)
    | 5 => v = .agg #[.slice C7 m7 d7]
    | 6 => v = .agg #[.slice A6 n6 c6]
    | 7 => ∃ u, v = .agg #[u] ∧ u.oneCell' = true ∧ IsSet w (fun z => w_.heap.size ≤ z) (.agg #[u]) (st &&& SM)
    | 8 => v = .pointer (some ⟨g7, 5, none⟩)
    | 9 => v = .slice Ag7 gl.length cg7
    | 10 => ∃ u, v = .agg #[.int .i64 R, .pointer (some ⟨q7, 0, none⟩), u, .slice none 0 0, .slice none 0 0, .slice Ag7 gl.length cg7] ∧ u.oneCell' = true ∧ IsSet w (fun z => w_.heap.size ≤ z) (.agg #[u]) (st &&& SM)
    | 11 => ∃ g, v = .pointer (some ⟨g, 0, none⟩) ∧ Box w g 31 (zeroCells Tryz.prog 31) ∧ lo ≤ g ∧ g < hi
    | 12 => True
    | _ => True) 12 [] (by kernel_rfl) (by kernel_rfl) (by kernel_rfl) (by kernel_rfl) (by kernel_rfl) ?mono ⟨.inr ?r0, .inr ?r1, .inr ?r2, .inr ?r3, .inr ?r4, .inr ?r5, .inr ?r6, .inr ?r7, .inr ?r8, .inr ?r9, .inr ?r10, .inr ?r11, .inl (by decide), trivial⟩ ?post
   case mono =>
    intro i lo hi v w w' h hb
    match i, h with
    | 0, h | 1, h | 2, h | 3, h | 4, h | 5, h | 6, h => exact h
    | 7, h => exact ⟨_, h.choose_spec.1, h.choose_spec.2.1, h.choose_spec.2.2.ext hb⟩
    | 8, h | 9, h => exact h
    | 10, h => exact ⟨_, h.choose_spec.1, h.choose_spec.2.1, h.choose_spec.2.2.ext hb⟩
    | 11, h => exact by obtain ⟨g, e, hb2, h1⟩ := h; exact ⟨g, e, hb2.ext hb, h1⟩
    | 12, h => exact h
    | _ + 13, h => trivial
   case r0 =>
    refine truleG fun b__ w hW hold hpre => wU rfl fun K hK => ?_
    have e7 : b__.eval (.tmp 7) = .pointer (some ⟨g7, 0, none⟩) := (hold 7 (by kernel_rfl)).trans rfl
    exact opw_faddr rfl e7 (by kernel_rfl) (hK _ _ rfl (Below.refl _ _))
   case r1 =>
    refine truleG fun b__ w hW hold hpre => wU rfl fun K hK => ?_
    have e24 : b__.eval (.tmp 24) = .pointer (some ⟨g7, 0, none⟩) := by obtain ⟨_, _, h⟩ := hpre ⟨0, _⟩ (Array.mem_of_getElem? (i := 0) rfl) rfl _ _ rfl rfl; exact h
    exact opw_cell rfl e24 (by kernel_rfl) (((hS.ext (undrew hW)).box 0 rfl).cell 0) (hK _ _ rfl (Below.refl _ _))
   case r2 =>
    refine truleG fun b__ w hW hold hpre => wU rfl fun K hK => ?_
    have e7 : b__.eval (.tmp 7) = .pointer (some ⟨g7, 0, none⟩) := (hold 7 (by kernel_rfl)).trans rfl
    exact opw_faddr rfl e7 (by kernel_rfl) (hK _ _ rfl (Below.refl _ _))
   case r3 =>
    refine truleG fun b__ w hW hold hpre => wU rfl fun K hK => ?_
    have e26 : b__.eval (.tmp 26) = .pointer (some ⟨g7, 1, none⟩) := by obtain ⟨_, _, h⟩ := hpre ⟨2, _⟩ (Array.mem_of_getElem? (i := 0) rfl) rfl _ _ rfl rfl; exact h
    exact opw_cell rfl e26 (by kernel_rfl) (((hS.ext (undrew hW)).box 0 rfl).cell 1) (hK _ _ rfl (Below.refl _ _))
   case r4 =>
    refine truleG fun b__ w hW hold hpre => wU rfl fun K hK => ?_
    have e7 : b__.eval (.tmp 7) = .pointer (some ⟨g7, 0, none⟩) := (hold 7 (by kernel_rfl)).trans rfl
    exact opw_faddr rfl e7 (by kernel_rfl) (hK _ _ rfl (Below.refl _ _))
   case r5 =>
    refine truleG fun b__ w hW hold hpre => wU rfl fun K hK => ?_
    have e28 : b__.eval (.tmp 28) = .pointer (some ⟨g7, 2, none⟩) := by obtain ⟨_, _, h⟩ := hpre ⟨4, _⟩ (Array.mem_of_getElem? (i := 0) rfl) rfl _ _ rfl rfl; exact h
    exact opw_row1 rfl e28 ((hS.ext (undrew hW)).box 0 rfl) rfl Tryz.underlying27 (by kernel_rfl) (by kernel_rfl) (hK _ _ rfl (Below.refl _ _))
   case r6 =>
    refine truleG fun b__ w hW hold hpre => wU rfl fun K hK => ?_
    have e6 : b__.eval (.tmp 6) = .pointer (some ⟨g6, 0, none⟩) := (hold 6 (by kernel_rfl)).trans rfl
    exact opw_row rfl e6 ((hS.ext (undrew hW)).box 1 rfl) Tryz.underlying27 rfl (by kernel_rfl) (hK _ _ rfl (Below.refl _ _))
   case r7 =>
    refine truleG fun b__ w hW hold hpre => wU rfl fun K hK => ?_
    have e29 : b__.eval (.tmp 29) = .agg #[.slice C7 m7 d7] := by obtain ⟨_, _, h⟩ := hpre ⟨5, _⟩ (Array.mem_of_getElem? (i := 0) rfl) rfl _ _ rfl rfl; exact h
    have e30 : b__.eval (.tmp 30) = .agg #[.slice A6 n6 c6] := by obtain ⟨_, _, h⟩ := hpre ⟨6, _⟩ (Array.mem_of_getElem? (i := 1) rfl) rfl _ _ rfl rfl; exact h
    refine opw_call rfl (by kernel_rfl) (by simp only [List.map_cons, List.map_nil, e29, e30]) (and_any (ks7 _ _ (hS.ext (undrew hW)).ro) (k6 _ _ (hS.ext (undrew hW)).ro)) fun v w' h hb => ?_
    obtain ⟨u, rfl, h1⟩ := set_one h
    exact hK _ w' ⟨u, rfl, h1, h.imp fun z hz _ => Nat.le_trans (undrew hW).size hz⟩ hb
   case r8 =>
    refine truleG fun b__ w hW hold hpre => wU rfl fun K hK => ?_
    have e7 : b__.eval (.tmp 7) = .pointer (some ⟨g7, 0, none⟩) := (hold 7 (by kernel_rfl)).trans rfl
    exact opw_faddr rfl e7 (by kernel_rfl) (hK _ _ rfl (Below.refl _ _))
   case r9 =>
    refine truleG fun b__ w hW hold hpre => wU rfl fun K hK => ?_
    have e32 : b__.eval (.tmp 32) = .pointer (some ⟨g7, 5, none⟩) := by obtain ⟨_, _, h⟩ := hpre ⟨8, _⟩ (Array.mem_of_getElem? (i := 0) rfl) rfl _ _ rfl rfl; exact h
    exact opw_cell rfl e32 (by kernel_rfl) (((hS.ext (undrew hW)).box 0 rfl).cell 5) (hK _ _ rfl (Below.refl _ _))
   case r10 =>
    refine truleG fun b__ w hW hold hpre => wU rfl fun K hK => ?_
    have e25 : b__.eval (.tmp 25) = .int .i64 R := by obtain ⟨_, _, h⟩ := hpre ⟨1, _⟩ (Array.mem_of_getElem? (i := 0) rfl) rfl _ _ rfl rfl; exact h
    have e27 : b__.eval (.tmp 27) = .pointer (some ⟨q7, 0, none⟩) := by obtain ⟨_, _, h⟩ := hpre ⟨3, _⟩ (Array.mem_of_getElem? (i := 1) rfl) rfl _ _ rfl rfl; exact h
    obtain ⟨lo31, hi31, e31⟩ : ∃ lo hi : Nat, (fun (v : Value) (w : World) => ∃ u, v = .agg #[u] ∧ u.oneCell' = true ∧ IsSet w (fun z => w_.heap.size ≤ z) (.agg #[u]) (st &&& SM)) (b__.eval (.tmp 31)) w := hpre ⟨7, _⟩ (Array.mem_of_getElem? (i := 2) rfl) rfl _ _ rfl rfl
    have e33 : b__.eval (.tmp 33) = .slice Ag7 gl.length cg7 := by obtain ⟨_, _, h⟩ := hpre ⟨9, _⟩ (Array.mem_of_getElem? (i := 3) rfl) rfl _ _ rfl rfl; exact h
    obtain ⟨u, hu, h1, h2⟩ := e31
    exact opw_built rfl (ps := [(0, .int .i64 R), (1, .pointer (some ⟨q7, 0, none⟩)), (2, .agg #[u]), (5, .slice Ag7 gl.length cg7)]) (cells := #[.int .i64 R, .pointer (some ⟨q7, 0, none⟩), u, .slice none 0 0, .slice none 0 0, .slice Ag7 gl.length cg7]) (by simp [e25, e27, hu, e33]) (by kernel_rfl) (hK _ _ ⟨u, rfl, h1, h2⟩ (Below.refl _ _))
   case r11 =>
    refine truleG fun b__ w hW hold hpre => ⟨fun hwant K hK => opw_alloc rfl (by kernel_rfl) fun w' hb hbel => hK _ _ ⟨_, rfl, hb, Nat.le_refl _, hb.lt⟩ hbel, fun hwant => ?_⟩
    rw [want_none rfl] at hwant; cases hwant
   case post =>
    intro b__ wz lo hi hW hdf hsz hold hT hap hlim
    have e8 : (fun (v : Value) (w : World) => ∃ g, v = .pointer (some ⟨g, 0, none⟩) ∧ Box w g 31 (zeroCells Tryz.prog 31) ∧ (lo 11) ≤ g ∧ g < (hi 11)) (b__.eval (.tmp 8)) wz := hT 11 _ 8 (by decide) rfl rfl
    have e34 : (fun (v : Value) (w : World) => ∃ u, v = .agg #[.int .i64 R, .pointer (some ⟨q7, 0, none⟩), u, .slice none 0 0, .slice none 0 0, .slice Ag7 gl.length cg7] ∧ u.oneCell' = true ∧ IsSet w (fun z => w_.heap.size ≤ z) (.agg #[u]) (st &&& SM)) (b__.eval (.tmp 34)) wz := hT 10 _ 34 (by decide) rfl rfl
    have e24 : b__.eval (.tmp 24) = .pointer (some ⟨g7, 0, none⟩) := hT 0 _ 24 (by decide) rfl rfl
    have e25 : b__.eval (.tmp 25) = .int .i64 R := hT 1 _ 25 (by decide) rfl rfl
    have e26 : b__.eval (.tmp 26) = .pointer (some ⟨g7, 1, none⟩) := hT 2 _ 26 (by decide) rfl rfl
    have e27 : b__.eval (.tmp 27) = .pointer (some ⟨q7, 0, none⟩) := hT 3 _ 27 (by decide) rfl rfl
    have e28 : b__.eval (.tmp 28) = .pointer (some ⟨g7, 2, none⟩) := hT 4 _ 28 (by decide) rfl rfl
    have e29 : b__.eval (.tmp 29) = .agg #[.slice C7 m7 d7] := hT 5 _ 29 (by decide) rfl rfl
    have e30 : b__.eval (.tmp 30) = .agg #[.slice A6 n6 c6] := hT 6 _ 30 (by decide) rfl rfl
    have e31 : (fun (v : Value) (w : World) => ∃ u, v = .agg #[u] ∧ u.oneCell' = true ∧ IsSet w (fun z => w_.heap.size ≤ z) (.agg #[u]) (st &&& SM)) (b__.eval (.tmp 31)) wz := hT 7 _ 31 (by decide) rfl rfl
    have e32 : b__.eval (.tmp 32) = .pointer (some ⟨g7, 5, none⟩) := hT 8 _ 32 (by decide) rfl rfl
    have e33 : b__.eval (.tmp 33) = .slice Ag7 gl.length cg7 := hT 9 _ 33 (by decide) rfl rfl
    obtain ⟨vs, hvs, hb⟩ := frame_of hdf hsz hold
    replace e8 := (hvs 8) ▸ e8
    replace e34 := (hvs 34) ▸ e34
    replace e24 : vs 24 = .pointer (some ⟨g7, 0, none⟩) := (hvs 24).symm.trans e24
    replace e25 : vs 25 = .int .i64 R := (hvs 25).symm.trans e25
    replace e26 : vs 26 = .pointer (some ⟨g7, 1, none⟩) := (hvs 26).symm.trans e26
    replace e27 : vs 27 = .pointer (some ⟨q7, 0, none⟩) := (hvs 27).symm.trans e27
    replace e28 : vs 28 = .pointer (some ⟨g7, 2, none⟩) := (hvs 28).symm.trans e28
    replace e29 : vs 29 = .agg #[.slice C7 m7 d7] := (hvs 29).symm.trans e29
    replace e30 : vs 30 = .agg #[.slice A6 n6 c6] := (hvs 30).symm.trans e30
    replace e31 := (hvs 31) ▸ e31
    replace e32 : vs 32 = .pointer (some ⟨g7, 5, none⟩) := (hvs 32).symm.trans e32
    replace e33 : vs 33 = .slice Ag7 gl.length cg7 := (hvs 33).symm.trans e33
    subst hb
    clear hvs hold hT hdf hsz
    simp only [setAll, Act.put, List.setIfInBounds_toArray, List.set_cons_zero, List.set_cons_succ, List.getElem_toArray, List.getElem_cons_succ, List.getElem_cons_zero]
    obtain ⟨g8, e8, hb8, l8, u8⟩ := e8
    obtain ⟨u, e34, hu1, hu2⟩ := e34
    obtain ⟨Au, cu, lu, hvu, -⟩ := hu2.parts
    obtain rfl : u = .slice Au lu.length cu := by injection hvu with hvu; simpa using hvu
    clear hvu
    obtain ⟨nu, hnu⟩ : ∃ n, n = lu.length := ⟨_, rfl⟩
    rw [← hnu] at hu2 e34
    clear hnu
    have L11 := (hlim 11 (by decide) (by decide)).1
    have hz : zeroCells Tryz.prog 31 = #[.int .i64 0, .pointer none, .slice none 0 0, .slice none 0 0, .slice none 0 0, .slice none 0 0] := by kernel_rfl
    rw [hz] at hb8
    have hu3 := hu2.off hb8 (by
     intro i x hx n
     match i, hx with
     | 0, hx => cases hx; exact nofun
     | 1, hx => cases hx; exact nofun
     | 2, hx => cases hx; exact nofun
     | 3, hx => cases hx; exact nofun
     | 4, hx => cases hx; exact nofun
     | 5, hx => cases hx; exact nofun
     | i + 6, hx => simp at hx)
    have hfr : ∀ b, (w_.heap.size ≤ b ∧ b ≠ g8) → Free (.box g8 31 #[.int .i64 0, .pointer none, .slice none 0 0, .slice none 0 0, .slice none 0 0, .slice none 0 0] :: (.box g7 31 #[.int .i64 R, .pointer (some ⟨q7, 0, none⟩), .slice C7 m7 d7, .slice Ar7 rl.length cr7, .slice An7 nl.length cn7, .slice Ag7 gl.length cg7] :: .box g6 27 #[.slice A6 n6 c6] :: .box g2 31 #[.int .i64 0, .pointer none, .slice none 0 0, .slice none 0 0, .slice none 0 0, .slice none 0 0] :: .box g1 31 #[.int .i64 R, .pointer (some ⟨q, 0, none⟩), .slice Cs ns cs, .slice Ar rl.length cr, .slice An nl.length cn, .slice Ag gl.length cg] :: F)) b := fun b hb f hf => by
     rcases List.mem_cons.1 hf with rfl | hf
     ·exact fun e => hb.2 (by injection e with e; exact e.symm)
     ·exact hS.fresh hb.1 f hf
    have hS2 := (hS.new hW (.box g8 31 #[.int .i64 0, .pointer none, .slice none 0 0, .slice none 0 0, .slice none 0 0, .slice none 0 0]) ⟨by omega, hb8⟩).add stable_set hu3 fun b hb _ => hfr b hb
    clear hS hu2 hu3 hfr hW hlim hap hz
    have hS := hS2
    clear hS2
    simp only [show vs (8 : Nat) = _ from e8, show vs (34 : Nat) = _ from e34]
    (intro o_ ho_; simp only [List.getElem?_toArray, List.getElem?_cons_succ, List.getElem?_cons_zero, Option.some.injEq] at ho_; subst ho_)
    refine opw_store rfl rfl rfl (hS.box 0 rfl) (by kernel_rfl) (by kernel_rfl) (by simp [Value.oneCell']) fun w4 h4 hU4 => ?_
    replace hS := hS.upd 0 rfl (.box g8 31 #[.int .i64 R, .pointer (some ⟨q7, 0, none⟩), .slice Au nu cu, .slice none 0 0, .slice none 0 0, .slice Ag7 gl.length cg7]) (upd_gb hU4) ⟨(hS.holds (.box g8 31 #[.int .i64 0, .pointer none, .slice none 0 0, .slice none 0 0, .slice none 0 0, .slice none 0 0]) (by simp)).1, h4⟩ fun _ e => .inl e
    simp only [TailWp]
    simp only [Act.put, List.setIfInBounds_toArray, List.set_cons_zero, List.set_cons_succ]
    clear h4 hU4 hb8 e8 e34 l8 u8 L11
    go_wp2_with (first | ((with_reducible refine qK ?_); refine qC hS ?_))
    obtain ⟨KA, ka, kr7, kn7, hS2⟩ : ∃ KA : (Nat → Prop) → World → Prop, Hid (∀ D w, KA D w → K7 D w ∧ IsSet w D (.agg #[.slice Au nu cu]) (st &&& SM)) ∧ (∀ D w, KA D w → IsRules w D (.slice Ar7 rl.length cr7) rl) ∧ (∀ D w, KA D w → IsCubes w D (.slice An7 nl.length cn7) nl) ∧ St w0 w4 (.box g8 31 #[.int .i64 R, .pointer (some ⟨q7, 0, none⟩), .slice Au nu cu, .slice none 0 0, .slice none 0 0, .slice Ag7 gl.length cg7] :: (.box g7 31 #[.int .i64 R, .pointer (some ⟨q7, 0, none⟩), .slice C7 m7 d7, .slice Ar7 rl.length cr7, .slice An7 nl.length cn7, .slice Ag7 gl.length cg7] :: .box g6 27 #[.slice A6 n6 c6] :: .box g2 31 #[.int .i64 0, .pointer none, .slice none 0 0, .slice none 0 0, .slice none 0 0, .slice none 0 0] :: .box g1 31 #[.int .i64 R, .pointer (some ⟨q, 0, none⟩), .slice Cs ns cs, .slice Ar rl.length cr, .slice An nl.length cn, .slice Ag gl.length cg] :: F)) KA := ⟨_, Lib.hid fun D w h => ⟨h.1, h.2.imp fun _ h _ => h⟩, fun D w h => (kq _ _ h.1).parts.2.2.1, fun D w h => (kq _ _ h.1).parts.2.2.2.1, hS⟩
    clear hS
    have hS := (hS2.nil 58 5).nil 3 1
    clear hS2
    have KSA := Lib.hid hS.stable
    go_loopw [9, 38] (fun kw i wr => ∃ (j : Nat) (kv rv : Value) (xs : List Value), i = .int .i64 (j : Nat) ∧ kv = kw ∧ j ≤ rl.length ∧ St w0 wr (.own kv 3 1 (keepN SM rl j).length (ints (keepN SM rl j)) :: .own rv 58 5 (keepR SM (rl.take j)).length xs :: .box g8 31 #[.int .i64 R, .pointer (some ⟨q7, 0, none⟩), .slice Au nu cu, rv, .slice none 0 0, .slice Ag7 gl.length cg7] :: (.box g7 31 #[.int .i64 R, .pointer (some ⟨q7, 0, none⟩), .slice C7 m7 d7, .slice Ar7 rl.length cr7, .slice An7 nl.length cn7, .slice Ag7 gl.length cg7] :: .box g6 27 #[.slice A6 n6 c6] :: .box g2 31 #[.int .i64 0, .pointer none, .slice none 0 0, .slice none 0 0, .slice none 0 0, .slice none 0 0] :: .box g1 31 #[.int .i64 R, .pointer (some ⟨q, 0, none⟩), .slice Cs ns cs, .slice Ar rl.length cr, .slice An nl.length cn, .slice Ag gl.length cg] :: F)) (fun D w => KA D w ∧ RuleCells w D xs (keepR SM (rl.take j)))) (fun _ i _ => rl.length - (intOf i).toNat)
    case atStart => exact ⟨0, _, _, [], rfl, rfl, by omega, hS.mono (KSA.out.and stable_rcells) fun D w h => ⟨h, fun i z hi => by simp [keepR] at hi⟩⟩
    case round =>
     clear hS
     obtain ⟨j, kv, rv, xs, rfl, rfl, hj, hS⟩ := hrel
     by_cases hlj : j < rl.length
     ·obtain ⟨b, o2, y, n, rfl, _, hb, c0, c1, c2, c3, c4, hy, hn⟩ := (kr7 _ _ hS.ro.1).at_ hlj
      obtain ⟨Ay, my, cy, rfl⟩ := hy.shape
      obtain ⟨Am, mn, cm, rfl⟩ := hn.shape
      have HGj := Lib.hid (getD_at dfltR hlj)
      have HLK : Hid ((keepR SM (rl.take j)).length ≤ 100000 ∧ (keepN SM rl j).length ≤ 100000) := Lib.hid ⟨Nat.le_trans (List.length_filter_le _ _) (by rw [List.length_take]; omega), by unfold keepN; rw [List.length_map]; exact Nat.le_trans (List.length_filter_le _ _) (by rw [List.length_range]; omega)⟩
      obtain ⟨KC, kc, hS2⟩ : ∃ KC : (Nat → Prop) → World → Prop, Hid (∀ D w, KC D w → (KA D w ∧ RuleCells w D xs (keepR SM (rl.take j))) ∧ IsSet w D (.agg #[.slice Ay my cy]) (rl.getD j dfltR).yes ∧ IsSet w D (.agg #[.slice Am mn cm]) (rl.getD j dfltR).no) ∧ St w0 wr (.own kv 3 1 (keepN SM rl j).length (ints (keepN SM rl j)) :: .own rv 58 5 (keepR SM (rl.take j)).length xs :: .box g8 31 #[.int .i64 R, .pointer (some ⟨q7, 0, none⟩), .slice Au nu cu, rv, .slice none 0 0, .slice Ag7 gl.length cg7] :: (.box g7 31 #[.int .i64 R, .pointer (some ⟨q7, 0, none⟩), .slice C7 m7 d7, .slice (some ⟨b, o2, none⟩) rl.length cr7, .slice An7 nl.length cn7, .slice Ag7 gl.length cg7] :: .box g6 27 #[.slice A6 n6 c6] :: .box g2 31 #[.int .i64 0, .pointer none, .slice none 0 0, .slice none 0 0, .slice none 0 0, .slice none 0 0] :: .box g1 31 #[.int .i64 R, .pointer (some ⟨q, 0, none⟩), .slice Cs ns cs, .slice Ar rl.length cr, .slice An nl.length cn, .slice Ag gl.length cg] :: F)) KC := ⟨_, Lib.hid fun D w h => h, hS.add (D := Free _) (stable_set.and stable_set) ⟨hy, hn⟩ fun _ h _ => h⟩
      clear hS hy hn
      have hS := hS2
      clear hS2
      have HTR := Lib.hid (keepR_step (S := SM) HGj.out)
      have HTN := Lib.hid (keepN_step (S := SM) HGj.out)
      generalize rl.getD j dfltR = z at *
      obtain ⟨zv, ry, rn, rt, ro⟩ := z
      dsimp only at kc c0 c1 c2 c3 c4
      obtain ⟨b1, hb1⟩ : ∃ b, b = hasB SM rt := ⟨_, rfl⟩
      have HB1 := Lib.hid hb1
      generalize hKR : keepR SM (rl.take j) = KR at *
      generalize hKN : keepN SM rl j = KN at *
      have k61 : Hid (∀ D w, KC D w → IsSet w D (.agg #[.slice A6 n6 c6]) SM) := Lib.hid fun D w h => k6 _ _ (ka.out _ _ (kc.out _ _ h).1.1).1
      cases b1
      ·have HT1 : Hid (keepR SM (rl.take (j + 1)) = KR) := Lib.hid (HTR.out.trans (if_neg (by rw [← hb1]; exact Bool.false_ne_true)))
       have HT2 : Hid (keepN SM rl (j + 1) = KN) := Lib.hid (HTN.out.trans (if_neg (by rw [← hb1]; exact Bool.false_ne_true)))
       clear hb1 hKR hKN HTR HTN
       go_wp2_with (first
        | ((with_reducible refine qB ?_); (first | refine q1 ?_ ?_ | refine q2 ?_ ?_ | refine q3 ?_ ?_ | refine q4 ?_ ?_ | refine q5 ?_ ?_ | refine q6 ?_ ?_) <;> intro h_ <;> go_prune)
        | ((with_reducible refine qA 42 ?_); refine BigFrame.wpList_want rfl fun _ hK => opw_mid (cs := [.bool zv, .slice Ay my cy, .slice Am mn cm, .int .i64 rt, .int .i64 ro]) rfl rfl (rng5 c0 c1 c2 c3 c4) Tryz.underlying58 rfl (by kernel_rfl) (hK _ _ ?_))
        | ((with_reducible refine qA 11 ?_); refine qa hS #[.bool false, .slice none 0 0, .slice none 0 0, .int .i64 0, .int .i64 0] ?_; clear hS; intro g11 w_ hS)
        | ((with_reducible refine qM ?_); (first | refine qS hS ?_ | refine qT hS ?_); clear hS; intro w_ hS; (try simp only [Act.put, Act.eval, z1, z2, z3, z4, z5, z6, z7, z8, Value.cells] at hS))
        | ((with_reducible refine qk 27 ?_); first | (refine st_setl hS 0 rfl _ _ rfl _ _ rfl _ _ rfl _ (by first | rfl | assumption) Tryz.underlying27 rfl (by kernel_rfl) ?_) | (refine st_setl hS 1 rfl _ _ rfl _ _ rfl _ _ rfl _ (by first | rfl | assumption) Tryz.underlying27 rfl (by kernel_rfl) ?_) | (refine st_setl hS 2 rfl _ _ rfl _ _ rfl _ _ rfl _ (by first | rfl | assumption) Tryz.underlying27 rfl (by kernel_rfl) ?_) | (refine st_setl hS 3 rfl _ _ rfl _ _ rfl _ _ rfl _ (by first | rfl | assumption) Tryz.underlying27 rfl (by kernel_rfl) ?_) | (refine st_setl hS 4 rfl _ _ rfl _ _ rfl _ _ rfl _ (by first | rfl | assumption) Tryz.underlying27 rfl (by kernel_rfl) ?_) | (refine st_setl hS 5 rfl _ _ rfl _ _ rfl _ _ rfl _ (by first | rfl | assumption) Tryz.underlying27 rfl (by kernel_rfl) ?_))
        | ((with_reducible refine qK ?_); refine qC hS ?_)
        | (go_at_call 55; refine (has_any _ SM rt _ _ (k61.out _ _ hS.ro)).mono ?_; rw [← HB1.out]; rintro r_ w_ ⟨_, rfl, rfl, hb_⟩; replace hS := hS.ext hb_; clear hb_)
        )
       refine ⟨⟨j + 1, _, rv, xs, by go_num, rfl, hlj, ?_⟩, by simp [intOf]; omega⟩
       rw [HT1.out, HT2.out]
       exact (hS.sub (List.sublist_cons_self _ _)).mono (KSA.out.and stable_rcells) fun D w h => (kc.out _ _ h).1
      ·have HT1 : Hid (keepR SM (rl.take (j + 1)) = KR ++ [⟨zv, ry, rn, rt, ro⟩]) := Lib.hid (HTR.out.trans (if_pos hb1.symm))
       have HT2 : Hid (keepN SM rl (j + 1) = KN ++ [(j : Int)]) := Lib.hid (HTN.out.trans (if_pos hb1.symm))
       clear hb1 hKR hKN HTR HTN
       have hkl1 := HLK.out.1
       have hkl2 := HLK.out.2
       obtain ⟨Arv, crv, rfl, _, _⟩ := own_shp (hS.own 1 rfl)
       go_wp2_with (first
        | ((with_reducible refine qB ?_); (first | refine q1 ?_ ?_ | refine q2 ?_ ?_ | refine q3 ?_ ?_ | refine q4 ?_ ?_ | refine q5 ?_ ?_ | refine q6 ?_ ?_) <;> intro h_ <;> go_prune)
        | ((with_reducible refine qA 42 ?_); refine BigFrame.wpList_want rfl fun _ hK => opw_mid (cs := [.bool zv, .slice Ay my cy, .slice Am mn cm, .int .i64 rt, .int .i64 ro]) rfl rfl (rng5 c0 c1 c2 c3 c4) Tryz.underlying58 rfl (by kernel_rfl) (hK _ _ ?_))
        | ((with_reducible refine qA 11 ?_); refine qa hS #[.bool false, .slice none 0 0, .slice none 0 0, .int .i64 0, .int .i64 0] ?_; clear hS; intro g11 w_ hS)
        | ((with_reducible refine qM ?_); (first | refine qS hS ?_ | refine qT hS ?_); clear hS; intro w_ hS; (try simp only [Act.put, Act.eval, z1, z2, z3, z4, z5, z6, z7, z8, Value.cells] at hS))
        | ((with_reducible refine qk 27 ?_); first | (refine st_setl hS 0 rfl _ _ rfl _ _ rfl _ _ rfl _ (by first | rfl | assumption) Tryz.underlying27 rfl (by kernel_rfl) ?_) | (refine st_setl hS 1 rfl _ _ rfl _ _ rfl _ _ rfl _ (by first | rfl | assumption) Tryz.underlying27 rfl (by kernel_rfl) ?_) | (refine st_setl hS 2 rfl _ _ rfl _ _ rfl _ _ rfl _ (by first | rfl | assumption) Tryz.underlying27 rfl (by kernel_rfl) ?_) | (refine st_setl hS 3 rfl _ _ rfl _ _ rfl _ _ rfl _ (by first | rfl | assumption) Tryz.underlying27 rfl (by kernel_rfl) ?_) | (refine st_setl hS 4 rfl _ _ rfl _ _ rfl _ _ rfl _ (by first | rfl | assumption) Tryz.underlying27 rfl (by kernel_rfl) ?_) | (refine st_setl hS 5 rfl _ _ rfl _ _ rfl _ _ rfl _ (by first | rfl | assumption) Tryz.underlying27 rfl (by kernel_rfl) ?_))
        | ((with_reducible refine qK ?_); refine qC hS ?_)
        | (go_at_call 55; refine (has_any _ SM rt _ _ (k61.out _ _ hS.ro)).mono ?_; rw [← HB1.out]; rintro r_ w_ ⟨_, rfl, rfl, hb_⟩; replace hS := hS.ext hb_; clear hb_)
        | ((with_reducible refine qK ?_); refine qL hS Tryz.underlying58 ?_)
        | ((with_reducible refine qA 50 ?_); refine st_push hS 2 rfl rfl _ _ _ _ rfl rfl ty_rules (.slice Arv KR.length crv) KR.length xs (.agg #[.bool zv, .slice Ay my cy, .slice Am mn cm, .int .i64 rt, .int .i64 ro]) #[.bool zv, .slice Ay my cy, .slice Am mn cm, .int .i64 rt, .int .i64 ro] rfl (by kernel_rfl) rfl rfl rfl rfl (by intro u hu; simp at hu; rcases hu with rfl | rfl | rfl | rfl | rfl <;> rfl) (by omega) (by omega) ?_; clear hS; intro z_ v' w_ hS; (try simp only [Act.put, Act.eval, z1, z2, z3, z4, z5, z6, z7, z8, Value.cells] at hS); obtain ⟨Arv2, crv2, rfl, _, _⟩ := own_shp (hS.own 2 rfl))
        | ((with_reducible refine qA 54 ?_); refine st_push hS 1 rfl rfl _ _ _ _ rfl rfl ty_ints kv KN.length (ints KN) (.int .i64 (j : Nat)) #[.int .i64 (j : Nat)] rfl (by kernel_rfl) rfl rfl rfl rfl (by intro u hu; simp at hu; subst hu; rfl) (by omega) (by omega) ?_; clear hS; intro z_ kv' w_ hS; (try simp only [Act.put, Act.eval, z1, z2, z3, z4, z5, z6, z7, z8, Value.cells] at hS)))
       have hxl := (hS.own 2 rfl).1
       refine ⟨⟨j + 1, _, .slice Arv2 (KR.length + 1) crv2, xs ++ [.bool zv, .slice Ay my cy, .slice Am mn cm, .int .i64 rt, .int .i64 ro], by go_num, rfl, hlj, ?_⟩, by simp [intOf]; omega⟩
       rw [HT1.out, HT2.out, show (KR ++ [(⟨zv, ry, rn, rt, ro⟩ : RuleD)]).length = KR.length + 1 by simp, show (KN ++ [(j : Int)]).length = KN.length + 1 by simp, show ints (KN ++ [(j : Int)]) = ints KN ++ [.int .i64 (j : Nat)] by simp [ints]]
       exact (hS.sub (List.sublist_cons_self _ _)).mono (KSA.out.and stable_rcells) fun D w h => ⟨(kc.out _ _ h).1.1, RuleCells.append (by simp at hxl; omega) (kc.out _ _ h).1.2 (RuleCells.single (z := ⟨zv, ry, rn, rt, ro⟩) (kc.out _ _ h).2.1 (kc.out _ _ h).2.2)⟩
     ·obtain rfl : rl.length = j := by omega
      rw [List.take_length] at hS
      have HLK : Hid ((keepR SM rl).length ≤ 100000) := Lib.hid (Nat.le_trans (List.length_filter_le _ _) (by omega))
      go_wp2_with (first | ((with_reducible refine qB ?_); (first | refine q1 ?_ ?_ | refine q2 ?_ ?_ | refine q3 ?_ ?_ | refine q4 ?_ ?_ | refine q5 ?_ ?_ | refine q6 ?_ ?_) <;> intro h_ <;> go_prune) | ((with_reducible refine qK ?_); refine qC hS ?_))
      obtain ⟨KR, hKR⟩ : ∃ KR, KR = keepR SM rl := ⟨_, rfl⟩
      obtain ⟨KN, hKN⟩ : ∃ KN, KN = keepN SM rl rl.length := ⟨_, rfl⟩
      have HKR := Lib.hid hKR
      have HKN := Lib.hid hKN
      rw [← hKR] at hS HLK
      rw [← hKN] at hS
      clear hKR hKN
      obtain ⟨Arv, crv, rfl, _, _⟩ := own_shp (hS.own 1 rfl)
      obtain ⟨KB, kb, hS2⟩ : ∃ KB : (Nat → Prop) → World → Prop, Hid (∀ D w, KB D w → KA D w ∧ RuleCells w D xs KR) ∧ St w0 wr (.own kv 3 1 KN.length (ints KN) :: .own (.slice Arv KR.length crv) 58 5 KR.length xs :: .box g8 31 #[.int .i64 R, .pointer (some ⟨q7, 0, none⟩), .slice Au nu cu, .slice Arv KR.length crv, .slice none 0 0, .slice Ag7 gl.length cg7] :: (.box g7 31 #[.int .i64 R, .pointer (some ⟨q7, 0, none⟩), .slice C7 m7 d7, .slice Ar7 rl.length cr7, .slice An7 nl.length cn7, .slice Ag7 gl.length cg7] :: .box g6 27 #[.slice A6 n6 c6] :: .box g2 31 #[.int .i64 0, .pointer none, .slice none 0 0, .slice none 0 0, .slice none 0 0, .slice none 0 0] :: .box g1 31 #[.int .i64 R, .pointer (some ⟨q, 0, none⟩), .slice Cs ns cs, .slice Ar rl.length cr, .slice An nl.length cn, .slice Ag gl.length cg] :: F)) KB := ⟨_, Lib.hid fun _ _ h => h, hS⟩
      clear hS
      have hS := hS2.nil 56 2
      clear hS2
      have KSB := Lib.hid hS.stable
      go_loopw [61] (fun i wr => ∃ (j : Nat) (nv : Value) (ys : List Value), i = .int .i64 (j : Nat) ∧ j ≤ nl.length ∧ St w0 wr (.own nv 56 2 (keepC L SM (nl.take j)).length ys :: .own kv 3 1 KN.length (ints KN) :: .own (.slice Arv KR.length crv) 58 5 KR.length xs :: .box g8 31 #[.int .i64 R, .pointer (some ⟨q7, 0, none⟩), .slice Au nu cu, .slice Arv KR.length crv, nv, .slice Ag7 gl.length cg7] :: (.box g7 31 #[.int .i64 R, .pointer (some ⟨q7, 0, none⟩), .slice C7 m7 d7, .slice Ar7 rl.length cr7, .slice An7 nl.length cn7, .slice Ag7 gl.length cg7] :: .box g6 27 #[.slice A6 n6 c6] :: .box g2 31 #[.int .i64 0, .pointer none, .slice none 0 0, .slice none 0 0, .slice none 0 0, .slice none 0 0] :: .box g1 31 #[.int .i64 R, .pointer (some ⟨q, 0, none⟩), .slice Cs ns cs, .slice Ar rl.length cr, .slice An nl.length cn, .slice Ag gl.length cg] :: F)) (fun D w => KB D w ∧ CubeCells w D ys (keepC L SM (nl.take j)))) (fun i _ => nl.length - (intOf i).toNat)
      case atStart => exact ⟨0, _, [], rfl, by omega, hS.mono (KSB.out.and stable_cc) fun D w h => ⟨h, fun i y n hi => by simp [keepC] at hi⟩⟩
      case round =>
       clear hS
       obtain ⟨j, nv, ys, rfl, hj, hS⟩ := hrel
       by_cases hlj : j < nl.length
       ·obtain ⟨b, o2, y, n, rfl, _, hb, c0, c1, hy, hn⟩ := (kn7 _ _ (kb.out _ _ hS.ro.1).1).at_ hlj
        obtain ⟨Ay, my, cy, rfl⟩ := hy.shape
        obtain ⟨Am, mn, cm, rfl⟩ := hn.shape
        have HGj := Lib.hid (getD_at (0, 0) hlj)
        have HLC : Hid ((keepC L SM (nl.take j)).length ≤ 100000) := Lib.hid (Nat.le_trans (List.length_filter_le _ _) (by rw [List.length_take]; omega))
        obtain ⟨KC, kc, hS2⟩ : ∃ KC : (Nat → Prop) → World → Prop, Hid (∀ D w, KC D w → (KB D w ∧ CubeCells w D ys (keepC L SM (nl.take j))) ∧ IsCube w D (.agg #[.slice Ay my cy, .slice Am mn cm]) (nl.getD j (0, 0))) ∧ St w0 wr (.own nv 56 2 (keepC L SM (nl.take j)).length ys :: .own kv 3 1 KN.length (ints KN) :: .own (.slice Arv KR.length crv) 58 5 KR.length xs :: .box g8 31 #[.int .i64 R, .pointer (some ⟨q7, 0, none⟩), .slice Au nu cu, .slice Arv KR.length crv, nv, .slice Ag7 gl.length cg7] :: (.box g7 31 #[.int .i64 R, .pointer (some ⟨q7, 0, none⟩), .slice C7 m7 d7, .slice Ar7 rl.length cr7, .slice (some ⟨b, o2, none⟩) nl.length cn7, .slice Ag7 gl.length cg7] :: .box g6 27 #[.slice A6 n6 c6] :: .box g2 31 #[.int .i64 0, .pointer none, .slice none 0 0, .slice none 0 0, .slice none 0 0, .slice none 0 0] :: .box g1 31 #[.int .i64 R, .pointer (some ⟨q, 0, none⟩), .slice Cs ns cs, .slice Ar rl.length cr, .slice An nl.length cn, .slice Ag gl.length cg] :: F)) KC := ⟨_, Lib.hid fun D w h => h, hS.add (D := Free _) stable_cube ⟨_, _, rfl, hy, hn⟩ fun _ h _ => h⟩
        clear hS hy hn
        have hS := hS2
        clear hS2
        have HTC := Lib.hid (keepC_step (L := L) (S := SM) HGj.out)
        generalize nl.getD j (0, 0) = z at *
        obtain ⟨b1, hb1⟩ : ∃ b, b = (depC L z &&& SM != 0) := ⟨_, rfl⟩
        have HB1 := Lib.hid hb1
        have HDZ : Hid (depM L (z.1 ||| z.2) = depC L z) := Lib.hid rfl
        generalize hKC : keepC L SM (nl.take j) = KCL at *
        have k62 : Hid (∀ D w, KC D w → K7 D w) := Lib.hid fun D w h => (ka.out _ _ (kb.out _ _ (kc.out _ _ h).1.1).1).1
        go_wp2_with (first
         | ((with_reducible refine qB ?_); (first | refine q1 ?_ ?_ | refine q2 ?_ ?_ | refine q3 ?_ ?_ | refine q4 ?_ ?_ | refine q5 ?_ ?_ | refine q6 ?_ ?_) <;> intro h_ <;> go_prune)
         | ((with_reducible refine qA 64 ?_); refine BigFrame.wpList_want rfl fun _ hK => opw_mid (cs := [.slice Ay my cy, .slice Am mn cm]) rfl rfl (rng2 c0 c1) Tryz.underlying56 rfl (by kernel_rfl) (hK _ _ ?_))
         | ((with_reducible refine qA 13 ?_); refine qa hS #[.slice none 0 0, .slice none 0 0] ?_; clear hS; intro g13 w_ hS)
         | ((with_reducible refine qM ?_); (first | refine qS hS ?_ | refine qT hS ?_); clear hS; intro w_ hS; (try simp only [Act.put, Act.eval, z1, z2, z3, z4, z5, z6, z7, z8, Value.cells] at hS)))
        refine wp_region_typed (fun i__ v w => match i__ with
         | 0 => v = .agg #[.int .i64 R, .pointer (some ⟨q, 0, none⟩), .slice Cs ns cs, .slice Ar rl.length cr, .slice An nl.length cn, .slice Ag gl.length cg]
         | 1 => v = .agg #[.slice Ay my cy, .slice Am mn cm]
         | 2 => IsSet w (fun _ => True) v (depC L z)
         | 3 => v = .agg #[.slice A6 n6 c6]
         | 4 => v = .bool b1
         | _ => True) (by kernel_rfl) (by kernel_rfl) ?mono ⟨?r0, ?r1, ?r2, ?r3, ?r4, trivial⟩ ?post
        case mono =>
         intro i v w w' h hb
         match i, h with
         | 0, h | 1, h => exact h
         | 2, h => exact h.ext hb
         | 3, h | 4, h => exact h
         | _ + 5, h => trivial
        case r0 =>
         refine trule fun b__ w hW hold hpre => wU rfl fun K hK => ?_
         have e1 : b__.eval (.tmp 1) = .pointer (some ⟨g1, 0, none⟩) := (hold 1 (by kernel_rfl)).trans rfl
         exact opw_row rfl e1 ((hS.ext (undrew hW)).box 8 rfl) Tryz.underlying31 rfl (by kernel_rfl) (hK _ _ rfl (Below.refl _ _))
        case r1 =>
         refine trule fun b__ w hW hold hpre => wU rfl fun K hK => ?_
         have e13 : b__.eval (.tmp 13) = .pointer (some ⟨g13, 0, none⟩) := (hold 13 (by kernel_rfl)).trans rfl
         exact opw_row rfl e13 ((hS.ext (undrew hW)).box 0 rfl) Tryz.underlying56 rfl (by kernel_rfl) (hK _ _ rfl (Below.refl _ _))
        case r2 =>
         refine trule fun b__ w hW hold hpre => wU rfl fun K hK => ?_
         have e65 : b__.eval (.tmp 65) = .agg #[.int .i64 R, .pointer (some ⟨q, 0, none⟩), .slice Cs ns cs, .slice Ar rl.length cr, .slice An nl.length cn, .slice Ag gl.length cg] := pq hpre 0 0 65
         have e66 : b__.eval (.tmp 66) = .agg #[.slice Ay my cy, .slice Am mn cm] := pq hpre 1 1 66
         refine opw_call rfl (by kernel_rfl) (by simp only [List.map_cons, List.map_nil, e65, e66]) (depends_any (kp _ _ (k0 _ _ (k62.out _ _ (hS.ext (undrew hW)).ro))) rfl HH.out (kt _ _ (k0 _ _ (k62.out _ _ (hS.ext (undrew hW)).ro))) (kc.out _ _ (hS.ext (undrew hW)).ro).2) fun v w' h hb => ?_
         exact hK v w' (by rw [← HDZ.out]; exact h.imp fun _ _ _ => trivial) hb
        case r3 =>
         refine trule fun b__ w hW hold hpre => wU rfl fun K hK => ?_
         have e6 : b__.eval (.tmp 6) = .pointer (some ⟨g6, 0, none⟩) := (hold 6 (by kernel_rfl)).trans rfl
         exact opw_row rfl e6 ((hS.ext (undrew hW)).box 6 rfl) Tryz.underlying27 rfl (by kernel_rfl) (hK _ _ rfl (Below.refl _ _))
        case r4 =>
         refine trule fun b__ w hW hold hpre => wU rfl fun K hK => ?_
         have e67 : (fun (v : Value) (w : World) => IsSet w (fun _ => True) v (depC L z)) (b__.eval (.tmp 67)) w := hpre ⟨2, _⟩ (Array.mem_of_getElem? (i := 0) rfl) rfl _ _ rfl rfl
         have e68 : b__.eval (.tmp 68) = .agg #[.slice A6 n6 c6] := pq hpre 1 3 68
         exact opw_call rfl (by kernel_rfl) (by simp only [List.map_cons, List.map_nil, e68]) (meets_any _ _ (depC L z) SM _ _ _ e67 (k6 _ _ (k62.out _ _ (hS.ext (undrew hW)).ro))) fun v w' h hb => hK v w' (h.trans (by rw [HB1.out])) hb
        case post =>
         intro b__ wz hW hdf hsz hold hT
         have e65 : b__.eval (.tmp 65) = .agg #[.int .i64 R, .pointer (some ⟨q, 0, none⟩), .slice Cs ns cs, .slice Ar rl.length cr, .slice An nl.length cn, .slice Ag gl.length cg] := hT 0 _ 65 rfl rfl
         have e66 : b__.eval (.tmp 66) = .agg #[.slice Ay my cy, .slice Am mn cm] := hT 1 _ 66 rfl rfl
         have e67 : (fun (v : Value) (w : World) => IsSet w (fun _ => True) v (depC L z)) (b__.eval (.tmp 67)) wz := hT 2 _ 67 rfl rfl
         have e68 : b__.eval (.tmp 68) = .agg #[.slice A6 n6 c6] := hT 3 _ 68 rfl rfl
         have e69 : b__.eval (.tmp 69) = .bool b1 := hT 4 _ 69 rfl rfl
         obtain ⟨vs, hvs, hb⟩ := frame_of hdf hsz hold
         replace e65 : vs 65 = .agg #[.int .i64 R, .pointer (some ⟨q, 0, none⟩), .slice Cs ns cs, .slice Ar rl.length cr, .slice An nl.length cn, .slice Ag gl.length cg] := (hvs 65).symm.trans e65
         replace e66 : vs 66 = .agg #[.slice Ay my cy, .slice Am mn cm] := (hvs 66).symm.trans e66
         replace e67 := (hvs 67) ▸ e67
         replace e68 : vs 68 = .agg #[.slice A6 n6 c6] := (hvs 68).symm.trans e68
         replace e69 : vs 69 = .bool b1 := (hvs 69).symm.trans e69
         subst hb
         clear hvs hold hT hdf hsz
         simp only [setAll, Act.put, List.setIfInBounds_toArray, List.set_cons_zero, List.set_cons_succ, List.getElem_toArray, List.getElem_cons_succ, List.getElem_cons_zero]
         rw [e69]
         replace hS := hS.ext hW
         clear hW e65 e66 e67 e68 e69
         cases b1
         ·have HT1 : Hid (keepC L SM (nl.take (j + 1)) = KCL) := Lib.hid (HTC.out.trans (if_neg (by rw [← hb1]; exact Bool.false_ne_true)))
          clear hb1 hKC HTC
          go_wp2_with fail
          refine ⟨⟨j + 1, nv, ys, by go_num, hlj, ?_⟩, by simp [intOf]; omega⟩
          rw [HT1.out]
          exact (hS.sub (List.sublist_cons_self _ _)).mono (KSB.out.and stable_cc) fun D w h => (kc.out _ _ h).1
         ·have HT1 : Hid (keepC L SM (nl.take (j + 1)) = KCL ++ [z]) := Lib.hid (HTC.out.trans (if_pos hb1.symm))
          clear hb1 hKC HTC
          have hcl := HLC.out
          obtain ⟨Anv, cnv, rfl, _, _⟩ := own_shp (hS.own 1 rfl)
          go_wp2_with (first
           | ((with_reducible refine qA 71 ?_); refine st_cell hS 4 rfl _ _ rfl g8 4 rfl _ _ rfl (by decide +kernel) _ rfl ?_)
           | ((with_reducible refine qK ?_); refine qL hS Tryz.underlying56 ?_)
           | ((with_reducible refine qA 73 ?_); refine st_push hS 1 rfl rfl _ _ _ _ rfl rfl ty_cubes (.slice Anv KCL.length cnv) KCL.length ys (.agg #[.slice Ay my cy, .slice Am mn cm]) #[.slice Ay my cy, .slice Am mn cm] rfl (by kernel_rfl) rfl rfl rfl rfl (by intro u hu; simp at hu; rcases hu with rfl | rfl <;> rfl) (by omega) (by omega) ?_; clear hS; intro z_ v' w_ hS; (try simp only [Act.put, Act.eval, z1, z2, z3, z4, z5, z6, z7, z8, Value.cells] at hS); obtain ⟨Anv2, cnv2, rfl, _, _⟩ := own_shp (hS.own 1 rfl))
           | ((with_reducible show wpList _ _ _ (⟨none, .store 29 _ _, _, _, _, _⟩ :: _) _ _); refine qT hS ?_; clear hS; intro w_ hS; (try simp only [Act.put, Act.eval, z1, z2, z3, z4, z5, z6, z7, z8, Value.cells] at hS)))
          have hxl := (hS.own 1 rfl).1
          refine ⟨⟨j + 1, .slice Anv2 (KCL.length + 1) cnv2, ys ++ [.slice Ay my cy, .slice Am mn cm], by go_num, hlj, ?_⟩, by simp [intOf]; omega⟩
          rw [HT1.out, show (KCL ++ [z]).length = KCL.length + 1 by simp]
          exact (hS.sub (List.sublist_cons_self _ _)).mono (KSB.out.and stable_cc) fun D w h => ⟨(kc.out _ _ h).1.1, by obtain ⟨_, _, he, hy, hn⟩ := (kc.out _ _ h).2; injection he with he; injection he with he; injection he with e1 he; injection he with e2 he; subst e1 e2; exact (kc.out _ _ h).1.2.push (by simp at hxl; omega) hy hn⟩
       ·obtain rfl : nl.length = j := by omega
        rw [List.take_length] at hS
        obtain ⟨Anv, cnv, rfl, _, _⟩ := own_shp (hS.own 0 rfl)
        go_wp2_with (first
         | ((with_reducible refine qB ?_); (first | refine q1 ?_ ?_ | refine q2 ?_ ?_ | refine q3 ?_ ?_ | refine q4 ?_ ?_ | refine q5 ?_ ?_ | refine q6 ?_ ?_) <;> intro h_ <;> go_prune)
         | ((with_reducible refine qA 77 ?_); refine BigFrame.wpList_want rfl fun _ hK => opw_row rfl rfl (hS.box 3 rfl) Tryz.underlying31 rfl (by kernel_rfl) (hK _ _ ?_))
         | ((with_reducible show wpList _ _ _ (⟨none, .store 31 _ _, _, _, _, _⟩ :: _) _ _); refine qS hS ?_; clear hS; intro w_ hS; (try simp only [Act.put, Act.eval, z1, z2, z3, z4, z5, z6, z7, z8, Value.cells] at hS)))
        have hS1 := ((hS.freeze 0 (by decide) rfl).freeze 0 (by decide) rfl).freeze 0 (by decide) rfl
        refine ret3_cell Tryz.results19 rfl (hS.box 6 rfl) Tryz.underlying31 rfl (by kernel_rfl) rfl rfl rfl ?_
        refine ⟨_, _, rfl, (hS1.sub (F' := F) (((((List.sublist_cons_self _ _).trans (List.sublist_cons_self _ _)).trans (List.sublist_cons_self _ _)).trans (List.sublist_cons_self _ _)).trans (List.sublist_cons_self _ _))).mono ((KS.out.and stable_prob).and (stable_sl (by decide))) fun D w h => ?_⟩
        obtain ⟨⟨⟨⟨hB, hC⟩, hN⟩, hI⟩, hRl⟩ := h
        obtain ⟨hA, hRC⟩ := kb.out _ _ hB
        obtain ⟨h7, hSt⟩ := ka.out _ _ hA
        obtain ⟨p1, -, -, -, p5⟩ := (kq _ _ h7).parts
        rw [HOF.out, HON.out, ← HKN.out]
        refine ⟨⟨k0 _ _ h7, _, _, _, _, _, rfl, p1, hSt, ?_, ?_, p5⟩, hI⟩
        ·rw [← HKR.out]; exact ⟨xs, hRl, hRC⟩
        ·exact ⟨ys, hN, hC⟩
 ·have HOF : Hid (ofP ⟨R, lk, st, rl, nl, gl⟩ = zeroP) := Lib.hid (by unfold ofP; rw [if_neg (fun h => h0 (HE.out.trans h))])
  have HON : Hid (ofKept ⟨R, lk, st, rl, nl, gl⟩ = []) := Lib.hid (by unfold ofKept; rw [if_neg (fun h => h0 (HE.out.trans h))])
  go_enter Tryz.func19, Tryz.ntmps19
  go_wp2_with (first
   | ((with_reducible refine qA 1 ?_); refine st_box hS rfl _ _ rfl (.agg #[.int .i64 R, lp, .slice Cs ns cs, .slice Ar rl.length cr, .slice An nl.length cn, .slice Ag gl.length cg]) _ rfl rfl ?_; clear hS; intro g1 w_ hS; (try simp only [Act.put, Act.eval, z1, z2, z3, z4, z5, z6, z7, z8, Value.cells] at hS))
   | ((with_reducible refine qA 2 ?_); refine qa hS #[.int .i64 0, .pointer none, .slice none 0 0, .slice none 0 0, .slice none 0 0, .slice none 0 0] ?_; clear hS; intro g2 w_ hS)
   | ((with_reducible refine qB ?_); (first | refine q1 ?_ ?_ | refine q2 ?_ ?_ | refine q3 ?_ ?_ | refine q4 ?_ ?_ | refine q5 ?_ ?_ | refine q6 ?_ ?_) <;> intro h_ <;> go_prune)
   | ((with_reducible refine qK ?_); refine qL hS Tryz.underlying31 ?_)
   | ((with_reducible show wpList _ _ _ (⟨_, .build _ _, _, _, _, _⟩ :: _) _ _); refine wpList_build_of rfl _ _ rfl #[.int .i64 0, .pointer none, .slice none 0 0, .slice none 0 0, .slice none 0 0, .slice none 0 0] (by kernel_rfl) ?_)
   | ((with_reducible refine qM ?_); (first | refine qS hS ?_ | refine qT hS ?_); clear hS; intro w_ hS; (try simp only [Act.put, Act.eval, z1, z2, z3, z4, z5, z6, z7, z8, Value.cells] at hS))
   | (go_at_call 18; refine (schk_any (kp _ _ hS.ro) HP.out (kt _ _ hS.ro)).mono ?_; rw [← HE.out]; rintro r_ w_ ⟨_, rfl, rfl, hb_⟩; replace hS := hS.ext hb_; clear hb_))
  refine ret3_cell Tryz.results19 rfl (hS.box 0 rfl) Tryz.underlying31 rfl (by kernel_rfl) rfl rfl rfl ?_
  refine ⟨_, _, rfl, (hS.sub (F' := F) ((List.sublist_cons_self _ _).trans (List.sublist_cons_self _ _))).mono ((KS.out.and stable_prob).and (stable_sl (by decide))) fun D w h => ?_⟩
  rw [HOF.out, HON.out]
  exact ⟨⟨h, _, _, _, _, _, rfl, rfl, IsSet.empty, ⟨[], Sl.none_, fun i z hi => by simp [zeroP] at hi⟩, ⟨[], Sl.none_, fun i y n hi => by simp [zeroP] at hi⟩, [], Sl.none_, fun i y n hi => by simp [zeroP] at hi⟩, Sl.none_⟩
end Go.Proofs.YtihpgmbinhmmlaaGreatDoor
namespace Go.Proofs.YtihpgmbinhmmlaaGreatDoor
open Go.RowKit
attribute [local go_sem ↓] Go.wp_at_zero Go.wp_at_succ
set_option maxRecDepth 20000
set_option exponentiation.threshold 5000

structure Fits (p : ProbD) : Prop where
 start : p.start < T64
 rules : ∀ z ∈ p.rules, z.yes < T64 ∧ z.no < T64
 rlen : p.rules.length ≤ 1000
 never : Small p.never
 nlen : p.never.length ≤ 1000
 goal : Small p.goal
 glen : p.goal.length ≤ 1000
theorem cubes_shape {w : World} {D : Nat → Prop} {v : Value} {l : List (Nat × Nat)} (h : IsCubes w D v l) : ∃ A c, v = .slice A l.length c := by
 obtain ⟨xs, h1, -⟩ := h
 obtain ⟨A, c, e, _, _⟩ := h1.shape
 exact ⟨A, c, e⟩
theorem ret2_cellM {P : Program} {fn : Func} {p t2 : Tmp} {ty : TypeId} {R : Ending → World → Prop} {a : Act} {w : World} {g : Nat} {t : TypeId} {cs : Array Value} {d : TypeDesc} {v : Value} (h : fn.results = #[.cell p ty, .tmp t2]) (hp : a.eval (.tmp p) = .pointer (some ⟨g, 0, none⟩)) (hb : Box w g t cs)
  (hu : P.underlying ty = some d) (hd : (match d with | .struct _ | .array _ _ => true | _ => false) = true) (hi : (P.info? ty).map (·.size) = some cs.size) (hv : a.eval (.tmp t2) = v) (hdf : a.defers = []) (hR : R (.returned (.tuple #[.agg cs, v])) w) : bodyPost P fn R .ret a w := by
 have hr : (results fn a.tmps).run P w = .ok (.tuple #[.agg cs, v]) w := by
  have hp' : a.tmps[p]?.getD undef = .pointer (some ⟨g, 0, none⟩) := by simpa [Act.eval] using hp
  have hv' : a.tmps[t2]?.getD undef = v := by simpa [Act.eval] using hv
  simp [results, h, hp', hv', asAddr, run_loadVar_row w g t ty cs (0, 0) d hb hu hd hi]
 exact bodyPost_ret hr hdf hR
theorem cube_sets {w : World} {D : Nat → Prop} {a b : Value} {z : Nat × Nat} (h : IsCube w D (.agg #[a, b]) z) : IsSet w D (.agg #[a]) z.1 ∧ IsSet w D (.agg #[b]) z.2 := by
 obtain ⟨_, _, he, h1, h2⟩ := h
 injection he with he; injection he with he; injection he with e1 he; injection he with e2 _
 subst e1 e2
 exact ⟨h1, h2⟩
theorem rr_at {w : World} {D : Nat → Prop} {l : List RuleD} {A : Option Addr} {c : Nat} (h : Sl w D 5 (.slice A l.length c) l.length (rrcells l)) {k : Nat} (hk : k < l.length) :
  ∃ b o, A = some ⟨b, o, none⟩ ∧ w.cell? ⟨b, o + k * 5, none⟩ = some (.bool (l.getD k dfltR).revoke) ∧ w.cell? ⟨b, o + k * 5 + 1, none⟩ = some (.int .u64 ((l.getD k dfltR).yes : Nat)) ∧ w.cell? ⟨b, o + k * 5 + 2, none⟩ = some (.int .u64 ((l.getD k dfltR).no : Nat)) ∧ w.cell? ⟨b, o + k * 5 + 3, none⟩ = some (.int .i64 (l.getD k dfltR).target) ∧ w.cell? ⟨b, o + k * 5 + 4, none⟩ = some (.int .i64 (l.getD k dfltR).origin) := by
 obtain ⟨_, A', c', e, h1, h2, h3⟩ := h
 injection e with e1 e2 e3
 subst e1
 obtain ⟨b, o, h4, _, _, h5⟩ := h3 (by omega)
 obtain ⟨q0, q1, q2, q3, q4⟩ := rrcells_at l k _ (getD_at dfltR hk)
 exact ⟨b, o, h4, h5 _ _ q0, by rw [Nat.add_assoc]; exact h5 _ _ q1, by rw [Nat.add_assoc]; exact h5 _ _ q2, by rw [Nat.add_assoc]; exact h5 _ _ q3, by rw [Nat.add_assoc]; exact h5 _ _ q4⟩
set_option maxHeartbeats 4000000 in
theorem lproblem_any {w0 w : World} {F : List Fact} {K : (Nat → Prop) → World → Prop} {v : Value} {p : ProbD} {L : List (Nat × Nat)} (hl : p.links = some L) (hH : HOK L) (hlen : L.length ≤ 1000) (hB : Fits p) (hS : St w0 w F K) (kp : ∀ D w, K D w → IsRProb w D v p) (kt : ∀ D w, K D w → DTab w ∧ D 0) :
  Calls Tryz.prog 53 #[v] w fun e w' => ∃ u, e = .returned (.tuple #[u, .bool true]) ∧ St w0 w' F fun D w => K D w ∧ IsProb w D u p := by
 obtain ⟨pr, lk, ps, rl, nl, gl⟩ := p
 dsimp only at hl
 subst hl
 obtain ⟨lv, rv, nv, gv, L', rfl, hl', h1, h2, h3, h4⟩ := kp _ _ hS.ro
 dsimp only at hl' h1 h2 h3 h4
 obtain rfl : L = L' := by injection hl'
 clear hl'
 obtain ⟨Al, cl, rfl, _, _⟩ := h1.shape
 obtain ⟨Ar, cr, rfl, _, _⟩ := h2.shape
 obtain ⟨An, cn, rfl, _, _⟩ := Sl.shape (h3 : Sl _ _ _ _ _ _)
 obtain ⟨Ag, cg, rfl, _, _⟩ := Sl.shape (h4 : Sl _ _ _ _ _ _)
 clear h1 h2 h3 h4
 have KSt := Lib.hid hS.stable
 have k1 : ∀ D w, K D w → Sl w D 2 (.slice Al L.length cl) L.length (pcells L) := fun D w h => by
  obtain ⟨_, _, _, _, L', e, e2, h1, _, _, _⟩ := kp D w h
  injection e2 with e2; subst e2
  injection e with e; injection e with e; injection e with _ e; injection e with e1 _; subst e1; exact h1
 have k2 : ∀ D w, K D w → Sl w D 5 (.slice Ar rl.length cr) rl.length (rrcells rl) := fun D w h => by
  obtain ⟨_, _, _, _, L', e, e2, _, h1, _, _⟩ := kp D w h
  injection e with e; injection e with e; injection e with _ e; injection e with _ e; injection e with _ e; injection e with e1 _; subst e1; exact h1
 have k3 : ∀ D w, K D w → RCubes w D (.slice An nl.length cn) nl := fun D w h => by
  obtain ⟨_, _, _, _, L', e, e2, _, _, h1, _⟩ := kp D w h
  injection e with e; injection e with e; injection e with _ e; injection e with _ e; injection e with _ e; injection e with _ e; injection e with e1 _; subst e1; exact h1
 have k4 : ∀ D w, K D w → RCubes w D (.slice Ag gl.length cg) gl := fun D w h => by
  obtain ⟨_, _, _, _, L', e, e2, _, _, _, h1⟩ := kp D w h
  injection e with e; injection e with e; injection e with _ e; injection e with _ e; injection e with _ e; injection e with _ e; injection e with _ e; injection e with e1 _; subst e1; exact h1
 have HF := Lib.hid hB
 have HH := Lib.hid hH
 have hrl1 := HF.out.rlen
 clear hB hH kp
 dsimp only at hrl1
 go_enter Tryz.func53, Tryz.ntmps53
 go_wp2_with (first
  | ((with_reducible refine qA 1 ?_); refine st_box hS rfl _ _ rfl (.agg #[.int .i64 pr, .slice Al L.length cl, .int .u64 (ps : Nat), .slice Ar rl.length cr, .slice An nl.length cn, .slice Ag gl.length cg]) _ rfl rfl ?_; clear hS; intro g1 w_ hS; (try simp only [Act.put, Act.eval, z1, z2, z3, z4, z5, z6, z7, z8, Value.cells] at hS))
  | ((with_reducible refine qA 2 ?_); refine qa hS #[.int .i64 0, .pointer none, .slice none 0 0, .slice none 0 0, .slice none 0 0, .slice none 0 0] ?_; clear hS; intro g2 w_ hS))
 have hJ0 : GJ w0 (.box g2 31 #[.int .i64 0, .pointer none, .slice none 0 0, .slice none 0 0, .slice none 0 0, .slice none 0 0] :: .box g1 37 #[.int .i64 pr, .slice Al L.length cl, .int .u64 (ps : Nat), .slice Ar rl.length cr, .slice An nl.length cn, .slice Ag gl.length cg] :: F) 31 #[.int .i64 0, .pointer none, .slice none 0 0, .slice none 0 0, .slice none 0 0, .slice none 0 0] (w_.drew, ⟨none, K⟩) := hS.drew
 have hRr := @GR.refl w0 (.box g2 31 #[.int .i64 0, .pointer none, .slice none 0 0, .slice none 0 0, .slice none 0 0, .slice none 0 0] :: .box g1 37 #[.int .i64 pr, .slice Al L.length cl, .int .u64 (ps : Nat), .slice Ar rl.length cr, .slice An nl.length cn, .slice Ag gl.length cg] :: F) 31 #[.int .i64 0, .pointer none, .slice none 0 0, .slice none 0 0, .slice none 0 0, .slice none 0 0]
 have hRt := @GR.trans w0 (.box g2 31 #[.int .i64 0, .pointer none, .slice none 0 0, .slice none 0 0, .slice none 0 0, .slice none 0 0] :: .box g1 37 #[.int .i64 pr, .slice Al L.length cl, .int .u64 (ps : Nat), .slice Ar rl.length cr, .slice An nl.length cn, .slice Ag gl.length cg] :: F) 31 #[.int .i64 0, .pointer none, .slice none 0 0, .slice none 0 0, .slice none 0 0, .slice none 0 0]
 have hN0 := @GN.start 13 14 w_.drew K
 clear hS
 refine wp_region_ghost (fun i__ v w => match i__ with
  | 0 => v = .pointer (some ⟨g1, 0, none⟩)
  | 1 => v = .int .i64 pr
  | 2 => ∃ q, v = .pointer (some ⟨q, 0, none⟩) ∧ ∀ D w1, w.2.K D w1 → IsH w1 D (.pointer (some ⟨q, 0, none⟩)) []
  | 3 => v = .pointer (some ⟨g1, 2, none⟩)
  | 4 => v = .int .u64 (ps : Nat)
  | 5 => ∃ u, v = .agg #[u] ∧ u.oneCell' = true ∧ ∀ D w1, w.2.K D w1 → IsSet w1 D (.agg #[u]) ps
  | 6 => v = .pointer (some ⟨g1, 4, none⟩)
  | 7 => v = .slice An nl.length cn
  | 8 => (∃ A c, v = .slice A nl.length c) ∧ ∀ D w1, w.2.K D w1 → IsCubes w1 D v nl
  | 9 => v = .pointer (some ⟨g1, 5, none⟩)
  | 10 => v = .slice Ag gl.length cg
  | 11 => (∃ A c, v = .slice A gl.length c) ∧ ∀ D w1, w.2.K D w1 → IsCubes w1 D v gl
  | 12 => ∃ q u A c B d, v = .agg #[.int .i64 pr, .pointer (some ⟨q, 0, none⟩), u, .slice none 0 0, .slice A nl.length c, .slice B gl.length d] ∧ u.oneCell' = true ∧ ∀ D w1, w.2.K D w1 → IsH w1 D (.pointer (some ⟨q, 0, none⟩)) [] ∧ IsSet w1 D (.agg #[u]) ps ∧ IsCubes w1 D (.slice A nl.length c) nl ∧ IsCubes w1 D (.slice B gl.length d) gl
  | 13 => ∃ g o, v = .pointer (some ⟨g, 0, none⟩) ∧ w.2.b = some (g, o)
  | 14 => ∃ g q u A c B d, w.2.b = some (g, some #[.int .i64 pr, .pointer (some ⟨q, 0, none⟩), u, .slice none 0 0, .slice A nl.length c, .slice B gl.length d]) ∧ ∀ D w1, w.2.K D w1 → IsH w1 D (.pointer (some ⟨q, 0, none⟩)) [] ∧ IsSet w1 D (.agg #[u]) ps ∧ IsCubes w1 D (.slice A nl.length c) nl ∧ IsCubes w1 D (.slice B gl.length d) gl
  | _ => True) (GR w0 (.box g2 31 #[.int .i64 0, .pointer none, .slice none 0 0, .slice none 0 0, .slice none 0 0, .slice none 0 0] :: .box g1 37 #[.int .i64 pr, .slice Al L.length cl, .int .u64 (ps : Nat), .slice Ar rl.length cr, .slice An nl.length cn, .slice Ag gl.length cg] :: F) 31 #[.int .i64 0, .pointer none, .slice none 0 0, .slice none 0 0, .slice none 0 0, .slice none 0 0]) (GN 13 14) (⟨none, K⟩) (by kernel_rfl) (by kernel_rfl) hRr hRt ?mono ?hN ⟨?r0, ?r1, ?r2, ?r3, ?r4, ?r5, ?r6, ?r7, ?r8, ?r9, ?r10, ?r11, ?r12, ?r13, ?r14, trivial⟩ ?post
 case hN => first | assumption | (intro i; (try dsimp only); split <;> first | trivial | assumption | (left; assumption))
 case mono =>
  intro i v w w' h hb
  match i, h with
  | 0, h | 1, h => exact h
  | 2, h => exact by obtain ⟨q, e, h⟩ := h; exact ⟨q, e, fun D w1 h1 => h D w1 (hb.2.1 D w1 h1)⟩
  | 3, h | 4, h => exact h
  | 5, h => exact by obtain ⟨u, e, e2, h⟩ := h; exact ⟨u, e, e2, fun D w1 h1 => h D w1 (hb.2.1 D w1 h1)⟩
  | 6, h | 7, h => exact h
  | 8, h => exact ⟨h.1, fun D w1 h1 => h.2 D w1 (hb.2.1 D w1 h1)⟩
  | 9, h | 10, h => exact h
  | 11, h => exact ⟨h.1, fun D w1 h1 => h.2 D w1 (hb.2.1 D w1 h1)⟩
  | 12, h => exact by obtain ⟨q, u, A, c, B, d, e, e2, h⟩ := h; exact ⟨q, u, A, c, B, d, e, e2, fun D w1 h1 => h D w1 (hb.2.1 D w1 h1)⟩
  | 13, h => exact hb.var h
  | 14, h => exact by obtain ⟨g, q, u, A, c, B, d, e, h⟩ := h; exact ⟨g, q, u, A, c, B, d, hb.2.2.2 _ _ e, fun D w1 h1 => h D w1 (hb.2.1 D w1 h1)⟩
  | _ + 15, h => trivial
 case r0 =>
  refine truleGh fun b__ w hW hN hold hpre => wU rfl fun K hK => ?_
  have e1 : b__.eval (.tmp 1) = .pointer (some ⟨g1, 0, none⟩) := (hold 1 (by kernel_rfl)).trans rfl
  exact opw_faddr rfl e1 (by kernel_rfl) (hK _ _ rfl ⟨hRr _, fun _ _ h => h⟩)
 case r1 =>
  refine truleGh fun b__ w hW hN hold hpre => wU rfl fun K hK => ?_
  have e11 : b__.eval (.tmp 11) = .pointer (some ⟨g1, 0, none⟩) := pq hpre 0 0 11
  exact opw_cell rfl e11 (by kernel_rfl) ((hW.1 hJ0).cell 1 rfl 0 rfl) (hK _ _ rfl ⟨hRr _, fun _ _ h => h⟩)
 case r2 =>
  refine truleGh fun b__ w hW hN hold hpre => wU rfl fun K hK => ?_
  refine opw_callw rfl (by kernel_rfl) (by simp only [List.map_nil]) (hnew_any (hW.1 hJ0) fun D w1 h => kt D w1 (hW.2.1 D w1 h)) fun e w' ⟨p, he, hs⟩ => ⟨p, he, ?_⟩
  obtain ⟨q, o, rfl, -⟩ := id hs.ro.2
  exact hK _ (w', { w.2 with K := _ }) ⟨q, rfl, fun D w1 h => h.2⟩ (GK.more hs fun D w1 h => h.1)
 case r3 =>
  refine truleGh fun b__ w hW hN hold hpre => wU rfl fun K hK => ?_
  have e1 : b__.eval (.tmp 1) = .pointer (some ⟨g1, 0, none⟩) := (hold 1 (by kernel_rfl)).trans rfl
  exact opw_faddr rfl e1 (by kernel_rfl) (hK _ _ rfl ⟨hRr _, fun _ _ h => h⟩)
 case r4 =>
  refine truleGh fun b__ w hW hN hold hpre => wU rfl fun K hK => ?_
  have e14 : b__.eval (.tmp 14) = .pointer (some ⟨g1, 2, none⟩) := pq hpre 0 3 14
  exact opw_cell rfl e14 (by kernel_rfl) ((hW.1 hJ0).cell 1 rfl 2 rfl) (hK _ _ rfl ⟨hRr _, fun _ _ h => h⟩)
 case r5 =>
  refine truleGh fun b__ w hW hN hold hpre => wU rfl fun K hK => ?_
  have e15 : b__.eval (.tmp 15) = .int .u64 (ps : Nat) := pq hpre 0 4 15
  refine opw_callw rfl (by kernel_rfl) (by simp only [List.map_cons, List.map_nil, e15]) (lset_any ps HF.out.start w.1) fun e w' ⟨x, he, hx, hb⟩ => ⟨x, he, ?_⟩
  obtain ⟨u, rfl, h1⟩ := set_one hx
  exact hK _ (w', { w.2 with K := _ }) ⟨u, rfl, h1, fun D w1 h => h.2⟩ (GK.more ((hW.1 hJ0).ret hb stable_set hx) fun D w1 h => h.1)
 case r6 =>
  refine truleGh fun b__ w hW hN hold hpre => wU rfl fun K hK => ?_
  have e1 : b__.eval (.tmp 1) = .pointer (some ⟨g1, 0, none⟩) := (hold 1 (by kernel_rfl)).trans rfl
  exact opw_faddr rfl e1 (by kernel_rfl) (hK _ _ rfl ⟨hRr _, fun _ _ h => h⟩)
 case r7 =>
  refine truleGh fun b__ w hW hN hold hpre => wU rfl fun K hK => ?_
  have e17 : b__.eval (.tmp 17) = .pointer (some ⟨g1, 4, none⟩) := pq hpre 0 6 17
  exact opw_cell rfl e17 (by kernel_rfl) ((hW.1 hJ0).cell 1 rfl 4 rfl) (hK _ _ rfl ⟨hRr _, fun _ _ h => h⟩)
 case r8 =>
  refine truleGh fun b__ w hW hN hold hpre => wU rfl fun K hK => ?_
  have e18 : b__.eval (.tmp 18) = .slice An nl.length cn := pq hpre 0 7 18
  refine opw_callw rfl (by kernel_rfl) (by simp only [List.map_cons, List.map_nil, e18]) (makeall_any _ nl w.1 _ (k3 _ _ (hW.2.1 _ _ (hW.1 hJ0).ro)) HF.out.never (by have := HF.out.nlen; dsimp only at this; omega)) fun e w' ⟨x, he, hx, hb⟩ => ⟨x, he, ?_⟩
  exact hK _ (w', { w.2 with K := _ }) ⟨cubes_shape hx, fun D w1 h => h.2⟩ (GK.more ((hW.1 hJ0).ret hb stable_cubes hx) fun D w1 h => h.1)
 case r9 =>
  refine truleGh fun b__ w hW hN hold hpre => wU rfl fun K hK => ?_
  have e1 : b__.eval (.tmp 1) = .pointer (some ⟨g1, 0, none⟩) := (hold 1 (by kernel_rfl)).trans rfl
  exact opw_faddr rfl e1 (by kernel_rfl) (hK _ _ rfl ⟨hRr _, fun _ _ h => h⟩)
 case r10 =>
  refine truleGh fun b__ w hW hN hold hpre => wU rfl fun K hK => ?_
  have e20 : b__.eval (.tmp 20) = .pointer (some ⟨g1, 5, none⟩) := pq hpre 0 9 20
  exact opw_cell rfl e20 (by kernel_rfl) ((hW.1 hJ0).cell 1 rfl 5 rfl) (hK _ _ rfl ⟨hRr _, fun _ _ h => h⟩)
 case r11 =>
  refine truleGh fun b__ w hW hN hold hpre => wU rfl fun K hK => ?_
  have e21 : b__.eval (.tmp 21) = .slice Ag gl.length cg := pq hpre 0 10 21
  refine opw_callw rfl (by kernel_rfl) (by simp only [List.map_cons, List.map_nil, e21]) (makeall_any _ gl w.1 _ (k4 _ _ (hW.2.1 _ _ (hW.1 hJ0).ro)) HF.out.goal (by have := HF.out.glen; dsimp only at this; omega)) fun e w' ⟨x, he, hx, hb⟩ => ⟨x, he, ?_⟩
  exact hK _ (w', { w.2 with K := _ }) ⟨cubes_shape hx, fun D w1 h => h.2⟩ (GK.more ((hW.1 hJ0).ret hb stable_cubes hx) fun D w1 h => h.1)
 case r12 =>
  refine truleGh fun b__ w hW hN hold hpre => wU rfl fun K hK => ?_
  have e12 : b__.eval (.tmp 12) = .int .i64 pr := pq hpre 0 1 12
  have e13 : (fun (v : Value) (w : World × _) => ∃ q, v = .pointer (some ⟨q, 0, none⟩) ∧ ∀ D w1, w.2.K D w1 → IsH w1 D (.pointer (some ⟨q, 0, none⟩)) []) (b__.eval (.tmp 13)) w := hpre ⟨2, _⟩ (Array.mem_of_getElem? (i := 1) rfl) rfl _ _ rfl rfl
  have e16 : (fun (v : Value) (w : World × _) => ∃ u, v = .agg #[u] ∧ u.oneCell' = true ∧ ∀ D w1, w.2.K D w1 → IsSet w1 D (.agg #[u]) ps) (b__.eval (.tmp 16)) w := hpre ⟨5, _⟩ (Array.mem_of_getElem? (i := 2) rfl) rfl _ _ rfl rfl
  have e19 : (fun (v : Value) (w : World × _) => (∃ A c, v = .slice A nl.length c) ∧ ∀ D w1, w.2.K D w1 → IsCubes w1 D v nl) (b__.eval (.tmp 19)) w := hpre ⟨8, _⟩ (Array.mem_of_getElem? (i := 3) rfl) rfl _ _ rfl rfl
  have e22 : (fun (v : Value) (w : World × _) => (∃ A c, v = .slice A gl.length c) ∧ ∀ D w1, w.2.K D w1 → IsCubes w1 D v gl) (b__.eval (.tmp 22)) w := hpre ⟨11, _⟩ (Array.mem_of_getElem? (i := 4) rfl) rfl _ _ rfl rfl
  obtain ⟨q, hq, h1⟩ := e13
  obtain ⟨u, hu, hu1, h2⟩ := e16
  obtain ⟨⟨A, c, ha⟩, h3⟩ := e19
  obtain ⟨⟨B, d, hbb⟩, h4⟩ := e22
  rw [ha] at h3
  rw [hbb] at h4
  exact opw_built rfl (ps := [(0, .int .i64 pr), (1, .pointer (some ⟨q, 0, none⟩)), (2, .agg #[u]), (4, .slice A nl.length c), (5, .slice B gl.length d)]) (cells := #[.int .i64 pr, .pointer (some ⟨q, 0, none⟩), u, .slice none 0 0, .slice A nl.length c, .slice B gl.length d]) (by simp [e12, hq, hu, ha, hbb]) (by kernel_rfl) (hK _ _ ⟨q, u, A, c, B, d, rfl, hu1, fun D w1 h => ⟨h1 D w1 h, h2 D w1 h, h3 D w1 h, h4 D w1 h⟩⟩ ⟨hRr _, fun _ _ h => h⟩)
 case r13 =>
  refine truleGh fun b__ w hW hN hold hpre => wU rfl fun K hK => ?_
  exact gk_alloc rfl (by kernel_rfl) (by kernel_rfl) (hW.1 hJ0) (hN.1 rfl) fun g w' hs => hK _ (w', { w.2 with b := some (g, none) }) ⟨g, none, rfl, rfl⟩ (GK.made (hN.1 rfl) hs)
 case r14 =>
  refine truleGh fun b__ w hW hN hold hpre => wU rfl fun K hK => ?_
  have e4 : (fun (v : Value) (w : World × _) => ∃ g o, v = .pointer (some ⟨g, 0, none⟩) ∧ w.2.b = some (g, o)) (b__.eval (.tmp 4)) w := hpre ⟨13, _⟩ (Array.mem_of_getElem? (i := 0) rfl) rfl _ _ rfl rfl
  have e23 : (fun (v : Value) (w : World × _) => ∃ q u A c B d, v = .agg #[.int .i64 pr, .pointer (some ⟨q, 0, none⟩), u, .slice none 0 0, .slice A nl.length c, .slice B gl.length d] ∧ u.oneCell' = true ∧ ∀ D w1, w.2.K D w1 → IsH w1 D (.pointer (some ⟨q, 0, none⟩)) [] ∧ IsSet w1 D (.agg #[u]) ps ∧ IsCubes w1 D (.slice A nl.length c) nl ∧ IsCubes w1 D (.slice B gl.length d) gl) (b__.eval (.tmp 23)) w := hpre ⟨12, _⟩ (Array.mem_of_getElem? (i := 1) rfl) rfl _ _ rfl rfl
  obtain ⟨g, o, hg, hgb⟩ := e4
  obtain ⟨q, u, A, c, B, d, hv, hu1, h1⟩ := e23
  obtain rfl : o = none := (by cases o with | none => rfl | some cs => exact absurd hgb (hN.2 rfl g cs))
  exact gk_store rfl hg hv (hW.1 hJ0) hgb (by kernel_rfl) rfl (by simpa [Value.oneCell'] using hu1) fun w' hs => hK undef (w', { w.2 with b := some (g, some #[.int .i64 pr, .pointer (some ⟨q, 0, none⟩), u, .slice none 0 0, .slice A nl.length c, .slice B gl.length d]) }) ⟨g, q, u, A, c, B, d, rfl, h1⟩ (GK.put hgb hs)
 case post =>
  intro b__ wz hW hdf hsz hold hT hZ
  have e11 : b__.eval (.tmp 11) = .pointer (some ⟨g1, 0, none⟩) := hT 0 _ 11 rfl rfl
  have e12 : b__.eval (.tmp 12) = .int .i64 pr := hT 1 _ 12 rfl rfl
  have e13 : (fun (v : Value) (w : World × _) => ∃ q, v = .pointer (some ⟨q, 0, none⟩) ∧ ∀ D w1, w.2.K D w1 → IsH w1 D (.pointer (some ⟨q, 0, none⟩)) []) (b__.eval (.tmp 13)) wz := hT 2 _ 13 rfl rfl
  have e14 : b__.eval (.tmp 14) = .pointer (some ⟨g1, 2, none⟩) := hT 3 _ 14 rfl rfl
  have e15 : b__.eval (.tmp 15) = .int .u64 (ps : Nat) := hT 4 _ 15 rfl rfl
  have e16 : (fun (v : Value) (w : World × _) => ∃ u, v = .agg #[u] ∧ u.oneCell' = true ∧ ∀ D w1, w.2.K D w1 → IsSet w1 D (.agg #[u]) ps) (b__.eval (.tmp 16)) wz := hT 5 _ 16 rfl rfl
  have e17 : b__.eval (.tmp 17) = .pointer (some ⟨g1, 4, none⟩) := hT 6 _ 17 rfl rfl
  have e18 : b__.eval (.tmp 18) = .slice An nl.length cn := hT 7 _ 18 rfl rfl
  have e19 : (fun (v : Value) (w : World × _) => (∃ A c, v = .slice A nl.length c) ∧ ∀ D w1, w.2.K D w1 → IsCubes w1 D v nl) (b__.eval (.tmp 19)) wz := hT 8 _ 19 rfl rfl
  have e20 : b__.eval (.tmp 20) = .pointer (some ⟨g1, 5, none⟩) := hT 9 _ 20 rfl rfl
  have e21 : b__.eval (.tmp 21) = .slice Ag gl.length cg := hT 10 _ 21 rfl rfl
  have e22 : (fun (v : Value) (w : World × _) => (∃ A c, v = .slice A gl.length c) ∧ ∀ D w1, w.2.K D w1 → IsCubes w1 D v gl) (b__.eval (.tmp 22)) wz := hT 11 _ 22 rfl rfl
  have e23 : (fun (v : Value) (w : World × _) => ∃ q u A c B d, v = .agg #[.int .i64 pr, .pointer (some ⟨q, 0, none⟩), u, .slice none 0 0, .slice A nl.length c, .slice B gl.length d] ∧ u.oneCell' = true ∧ ∀ D w1, w.2.K D w1 → IsH w1 D (.pointer (some ⟨q, 0, none⟩)) [] ∧ IsSet w1 D (.agg #[u]) ps ∧ IsCubes w1 D (.slice A nl.length c) nl ∧ IsCubes w1 D (.slice B gl.length d) gl) (b__.eval (.tmp 23)) wz := hT 12 _ 23 rfl rfl
  have e4 : (fun (v : Value) (w : World × _) => ∃ g o, v = .pointer (some ⟨g, 0, none⟩) ∧ w.2.b = some (g, o)) (b__.eval (.tmp 4)) wz := hT 13 _ 4 rfl rfl
  obtain ⟨vs, hvs, hb⟩ := frame_of hdf hsz hold
  replace e11 : vs 11 = .pointer (some ⟨g1, 0, none⟩) := (hvs 11).symm.trans e11
  replace e12 : vs 12 = .int .i64 pr := (hvs 12).symm.trans e12
  replace e13 := (hvs 13) ▸ e13
  replace e14 : vs 14 = .pointer (some ⟨g1, 2, none⟩) := (hvs 14).symm.trans e14
  replace e15 : vs 15 = .int .u64 (ps : Nat) := (hvs 15).symm.trans e15
  replace e16 := (hvs 16) ▸ e16
  replace e17 : vs 17 = .pointer (some ⟨g1, 4, none⟩) := (hvs 17).symm.trans e17
  replace e18 : vs 18 = .slice An nl.length cn := (hvs 18).symm.trans e18
  replace e19 := (hvs 19) ▸ e19
  replace e20 : vs 20 = .pointer (some ⟨g1, 5, none⟩) := (hvs 20).symm.trans e20
  replace e21 : vs 21 = .slice Ag gl.length cg := (hvs 21).symm.trans e21
  replace e22 := (hvs 22) ▸ e22
  replace e23 := (hvs 23) ▸ e23
  replace e4 := (hvs 4) ▸ e4
  subst hb
  clear hvs hold hT hdf hsz
  simp only [setAll, Act.put, List.setIfInBounds_toArray, List.set_cons_zero, List.set_cons_succ, List.getElem_toArray, List.getElem_cons_succ, List.getElem_cons_zero]
  obtain ⟨_, g4, q, u, A4, c4, B4, d4, hb4, hK4⟩ := hZ 14 _ rfl rfl
  obtain ⟨g, o, hg, hgb⟩ := e4
  obtain rfl : g = g4 := by rw [hb4] at hgb; injection hgb with h; injection h with h _; exact h.symm
  have hS : St w0 wz.1 (.box g 31 #[.int .i64 pr, .pointer (some ⟨q, 0, none⟩), u, .slice none 0 0, .slice A4 nl.length c4, .slice B4 gl.length d4] :: .box g2 31 #[.int .i64 0, .pointer none, .slice none 0 0, .slice none 0 0, .slice none 0 0, .slice none 0 0] :: .box g1 37 #[.int .i64 pr, .slice Al L.length cl, .int .u64 (ps : Nat), .slice Ar rl.length cr, .slice An nl.length cn, .slice Ag gl.length cg] :: F) wz.2.K := (hW.1 hJ0).some hb4
  obtain ⟨K4, wf, k0, kq, kc, hwf, hS2⟩ : ∃ (K4 : (Nat → Prop) → World → Prop) (wf : World), (∀ D w, K4 D w → K D w) ∧ (∀ D w1, K4 D w1 → IsH w1 D (.pointer (some ⟨q, 0, none⟩)) []) ∧ Hid (∀ D w1, K4 D w1 → IsSet w1 D (.agg #[u]) ps ∧ IsCubes w1 D (.slice A4 nl.length c4) nl ∧ IsCubes w1 D (.slice B4 gl.length d4) gl) ∧ wz.1 = wf ∧ St w0 wf (.box g 31 #[.int .i64 pr, .pointer (some ⟨q, 0, none⟩), u, .slice none 0 0, .slice A4 nl.length c4, .slice B4 gl.length d4] :: .box g2 31 #[.int .i64 0, .pointer none, .slice none 0 0, .slice none 0 0, .slice none 0 0, .slice none 0 0] :: .box g1 37 #[.int .i64 pr, .slice Al L.length cl, .int .u64 (ps : Nat), .slice Ar rl.length cr, .slice An nl.length cn, .slice Ag gl.length cg] :: F) K4 := ⟨_, _, hW.2.1, fun D w1 h => (hK4 D w1 h).1, Lib.hid fun D w1 h => (hK4 D w1 h).2, rfl, hS⟩
  rw [hwf]
  simp only [show vs (4 : Nat) = _ from hg]
  clear hS hW hZ hJ0 hRr hRt hN0 e11 e12 e13 e14 e15 e16 e17 e18 e19 e20 e21 e22 e23 hb4 hgb hK4 hg hwf
  have hS := hS2
  clear hS2
  generalize vs 11 = s11, vs 12 = s12, vs 13 = s13, vs 14 = s14, vs 15 = s15, vs 16 = s16, vs 17 = s17, vs 18 = s18, vs 19 = s19, vs 20 = s20, vs 21 = s21, vs 22 = s22, vs 23 = s23
  obtain ⟨Au, cu, lu, hvu, -⟩ := (kc.out _ _ hS.ro).1.parts
  obtain rfl : u = .slice Au lu.length cu := by injection hvu with hvu; simpa using hvu
  clear hvu
  generalize lu.length = nu at *
  have KS4 := Lib.hid hS.stable
  go_wp2_with (first | ((with_reducible refine qK ?_); refine qC hS ?_))
  have HNX : Hid (∀ (j : Nat) (x : Nat × Nat) (L' : List (Nat × Nat)), L[j]? = some x → Part L j L' → ∀ (F : List Fact) (K : (Nat → Prop) → World → Prop) (w : World) (r : Value) (z : Int), LinkP w0 F K L' (x.1 : Nat) (x.2 : Nat) r z w → z = 0 ∧ ∃ L'', Part L (j + 1) L'' ∧ St w0 w F fun D w => K D w ∧ IsH w D r L'') := Lib.hid fun j x L' hx hP F K w r z h => by
   obtain ⟨h1, L'', h2, h3, h4⟩ := h.next hx hP.2 HH.out.asc.nodup HH.out.role HH.out.acyc
   exact ⟨h1, L'', ⟨h2, h3⟩, h4⟩
  have HLF : Hid (∀ L', Part L L.length L' → L' = L) := Lib.hid fun L' h => h.full HH.out.asc
  have hP0 : Part L 0 [] := ⟨HOK.nil, by simp⟩
  have k1' : ∀ D w, K4 D w → Sl w D 2 (.slice Al L.length cl) L.length (pcells L) := fun D w h => k1 D w (k0 D w h)
  go_loopw [27] (fun i wr => ∃ (j q' : Nat) (L' : List (Nat × Nat)), i = .int .i64 (j : Nat) ∧ j ≤ L.length ∧ Hid (Part L j L') ∧ St w0 wr (.box g 31 #[.int .i64 pr, .pointer (some ⟨q', 0, none⟩), .slice Au nu cu, .slice none 0 0, .slice A4 nl.length c4, .slice B4 gl.length d4] :: .box g2 31 #[.int .i64 0, .pointer none, .slice none 0 0, .slice none 0 0, .slice none 0 0, .slice none 0 0] :: .box g1 37 #[.int .i64 pr, .slice Al L.length cl, .int .u64 (ps : Nat), .slice Ar rl.length cr, .slice An nl.length cn, .slice Ag gl.length cg] :: F) fun D w => K4 D w ∧ IsH w D (.pointer (some ⟨q', 0, none⟩)) L') (fun i _ => L.length - (intOf i).toNat)
  case atStart => exact ⟨0, q, [], rfl, by omega, Lib.hid hP0, hS.mono (KS4.out.and stable_isH) fun D w h => ⟨h, kq D w h⟩⟩
  case round =>
   clear hS hP0
   obtain ⟨j, q', L', rfl, hj, HP, hS⟩ := hrel
   by_cases hlj : j < L.length
   ·obtain ⟨f1, f2⟩ := pcells_at L j hlj
    have HNY := Lib.hid (HNX.out j _ L' (getD_at (0, 0) hlj) HP.out)
    have HLL : Hid (L'.length ≤ 900000) := Lib.hid (by have := HP.out.len; omega)
    generalize L.getD j (0, 0) = z at *
    obtain ⟨za, zb⟩ := z
    dsimp only at f1 f2 HNY
    have kp2 : ∀ D w, (K4 D w ∧ IsH w D (.pointer (some ⟨q', 0, none⟩)) L') → Sl w D 2 (.slice Al L.length cl) L.length (pcells L) := fun D w h => k1' D w h.1
    go_wp2_with (first
     | ((with_reducible refine qB ?_); (first | refine q1 ?_ ?_ | refine q2 ?_ ?_ | refine q3 ?_ ?_ | refine q4 ?_ ?_ | refine q5 ?_ ?_ | refine q6 ?_ ?_) <;> intro h_ <;> go_prune)
     | ((with_reducible refine qI ?_); refine qj hS Tryz.underlying32 ?_; intro b_ j_ hc0_ hc1_)
     | ((with_reducible refine qA 6 ?_); refine st_alloc hS rfl _ rfl (by kernel_rfl) ?_; clear hS; intro g6 w_ hS; (try simp only [Act.put, Act.eval, z1, z2, z3, z4, z5, z6, z7, z8, Value.cells] at hS))
     | (go_at_call 103; refine (hlink_any (.pointer (some ⟨q', 0, none⟩)) L' (za : Nat) (zb : Nat) HP.out.1 HLL.out hS (fun D w h => h.2) (fun D w h => kt D w (k0 D w h.1))).mono ?_; clear hS; rintro e w_ ⟨r, z, rfl, hP⟩; obtain ⟨rfl, L'', hP2, hS⟩ := HNY.out _ _ _ _ _ hP; replace hP2 := Lib.hid hP2; clear hP; obtain ⟨q2, _, rfl, -⟩ := id hS.ro.2)
     | ((with_reducible refine qM ?_); (first | refine qS hS ?_ | refine qT hS ?_); clear hS; intro w_ hS; (try simp only [Act.put, Act.eval, z1, z2, z3, z4, z5, z6, z7, z8, Value.cells] at hS))
     | ((with_reducible refine qK ?_); refine qC hS ?_))
    exact ⟨⟨j + 1, q2, L'', by go_num, hlj, hP2, (hS.sub (List.sublist_cons_self _ _)).mono (KS4.out.and stable_isH) fun D w h => ⟨h.1.1, h.2⟩⟩, by simp [intOf]; omega⟩
   ·obtain rfl : L.length = j := by omega
    rw [HLF.out _ HP.out] at hS
    clear HP HNX HLF
    go_wp2_with (first | ((with_reducible refine qB ?_); (first | refine q1 ?_ ?_ | refine q2 ?_ ?_ | refine q3 ?_ ?_ | refine q4 ?_ ?_ | refine q5 ?_ ?_ | refine q6 ?_ ?_) <;> intro h_ <;> go_prune) | ((with_reducible refine qK ?_); refine qC hS ?_))
    obtain ⟨K5, k5, kh, hS2⟩ : ∃ K5 : (Nat → Prop) → World → Prop, (∀ D w, K5 D w → K4 D w) ∧ Hid (∀ D w, K5 D w → IsH w D (.pointer (some ⟨q', 0, none⟩)) L) ∧ St w0 wr (.box g 31 #[.int .i64 pr, .pointer (some ⟨q', 0, none⟩), .slice Au nu cu, .slice none 0 0, .slice A4 nl.length c4, .slice B4 gl.length d4] :: .box g2 31 #[.int .i64 0, .pointer none, .slice none 0 0, .slice none 0 0, .slice none 0 0, .slice none 0 0] :: .box g1 37 #[.int .i64 pr, .slice Al L.length cl, .int .u64 (ps : Nat), .slice Ar rl.length cr, .slice An nl.length cn, .slice Ag gl.length cg] :: F) K5 := ⟨_, fun _ _ h => h.1, Lib.hid fun _ _ h => h.2, hS⟩
    clear hS
    have hS := hS2.nil 58 5
    clear hS2
    have KS5 := Lib.hid hS.stable
    have kr : ∀ D w, K5 D w → Sl w D 5 (.slice Ar rl.length cr) rl.length (rrcells rl) := fun D w h => k2 D w (k0 D w (k5 D w h))
    go_loopw [50] (fun i wr => ∃ (j : Nat) (rv : Value) (xs : List Value), i = .int .i64 (j : Nat) ∧ j ≤ rl.length ∧ St w0 wr (.own rv 58 5 j xs :: .box g 31 #[.int .i64 pr, .pointer (some ⟨q', 0, none⟩), .slice Au nu cu, rv, .slice A4 nl.length c4, .slice B4 gl.length d4] :: .box g2 31 #[.int .i64 0, .pointer none, .slice none 0 0, .slice none 0 0, .slice none 0 0, .slice none 0 0] :: .box g1 37 #[.int .i64 pr, .slice Al L.length cl, .int .u64 (ps : Nat), .slice Ar rl.length cr, .slice An nl.length cn, .slice Ag gl.length cg] :: F) fun D w => K5 D w ∧ RuleCells w D xs (rl.take j)) (fun i _ => rl.length - (intOf i).toNat)
    case atStart => exact ⟨0, _, [], rfl, by omega, hS.mono (KS5.out.and stable_rcells) fun D w h => ⟨h, fun i z hi => by simp at hi⟩⟩
    case round =>
     clear hS
     obtain ⟨j, rv, xs, rfl, hj2, hS⟩ := hrel
     obtain ⟨Arv, crv, rfl, _, _⟩ := own_shp (hS.own 0 rfl)
     by_cases hlj : j < rl.length
     ·obtain ⟨bk, o, rfl, c0, c1, c2, c3, c4'⟩ := rr_at (kr _ _ hS.ro.1) hlj
      have HT : Hid (rl.take (j + 1) = rl.take j ++ [rl.getD j dfltR]) := Lib.hid (take_getD rl j dfltR hlj)
      have HZ : Hid ((rl.getD j dfltR).yes < T64 ∧ (rl.getD j dfltR).no < T64) := Lib.hid (HF.out.rules _ (by rw [List.getD_eq_getElem?_getD, List.getElem?_eq_getElem hlj]; exact List.getElem_mem hlj))
      have HLT : Hid ((rl.take j).length = j) := Lib.hid (by rw [List.length_take]; omega)
      generalize rl.getD j dfltR = z at *
      obtain ⟨zr, zy, zn, zt, zo⟩ := z
      dsimp only at c0 c1 c2 c3 c4' HZ
      go_wp2_with (first
       | ((with_reducible refine qB ?_); (first | refine q1 ?_ ?_ | refine q2 ?_ ?_ | refine q3 ?_ ?_ | refine q4 ?_ ?_ | refine q5 ?_ ?_ | refine q6 ?_ ?_) <;> intro h_ <;> go_prune)
       | ((with_reducible refine qA 53 ?_); refine BigFrame.wpList_want rfl fun _ hK => opw_mid (cs := [.bool zr, .int .u64 (zy : Nat), .int .u64 (zn : Nat), .int .i64 zt, .int .i64 zo]) rfl rfl (rng5 c0 c1 c2 c3 c4') Tryz.underlying104 rfl (by kernel_rfl) (hK _ _ ?_))
       | ((with_reducible refine qA 10 ?_); refine qa hS #[.bool false, .int .u64 0, .int .u64 0, .int .i64 0, .int .i64 0] ?_; clear hS; intro g10 w_ hS)
       | ((with_reducible refine qM ?_); (first | refine qS hS ?_ | refine qT hS ?_); clear hS; intro w_ hS; (try simp only [Act.put, Act.eval, z1, z2, z3, z4, z5, z6, z7, z8, Value.cells] at hS)))
      obtain ⟨K6, k6, hS2⟩ : ∃ K6 : (Nat → Prop) → World → Prop, Hid (∀ D w, K6 D w → K5 D w ∧ RuleCells w D xs (rl.take j)) ∧ St w0 w_ (.box g10 104 #[.bool zr, .int .u64 (zy : Nat), .int .u64 (zn : Nat), .int .i64 zt, .int .i64 zo] :: .own (.slice Arv j crv) 58 5 j xs :: .box g 31 #[.int .i64 pr, .pointer (some ⟨q', 0, none⟩), .slice Au nu cu, .slice Arv j crv, .slice A4 nl.length c4, .slice B4 gl.length d4] :: .box g2 31 #[.int .i64 0, .pointer none, .slice none 0 0, .slice none 0 0, .slice none 0 0, .slice none 0 0] :: .box g1 37 #[.int .i64 pr, .slice Al L.length cl, .int .u64 (ps : Nat), .slice (some ⟨bk, o, none⟩) rl.length cr, .slice An nl.length cn, .slice Ag gl.length cg] :: F) K6 := ⟨_, Lib.hid fun _ _ h => h, hS⟩
      clear hS
      have hS := hS2
      clear hS2
      have KS6 := Lib.hid hS.stable
      have h0d := hS.drew
      refine wp_region_seq [6, 11, 12, 13, 15] (fun i__ v => match i__ with
       | 0 => v = .pointer (some ⟨g, 3, none⟩)
       | 1 => v = .slice Arv j crv
       | 2 => v = .pointer (some ⟨g10, 0, none⟩)
       | 3 => v = .bool zr
       | 4 => v = .pointer (some ⟨g10, 1, none⟩)
       | 5 => v = .agg #[.int .u64 (zy : Nat), .int .u64 (zn : Nat)]
       | 6 => True
       | 7 => v = .pointer (some ⟨g10, 3, none⟩)
       | 8 => v = .int .i64 zt
       | 9 => v = .pointer (some ⟨g10, 4, none⟩)
       | 10 => v = .int .i64 zo
       | 11 => True
       | 12 => True
       | 13 => True
       | 14 => v = .pointer (some ⟨g, 3, none⟩)
       | 15 => True
       | _ => True) (fun vs w => match vs with | [] => St w0 w (.box g10 104 #[.bool zr, .int .u64 (zy : Nat), .int .u64 (zn : Nat), .int .i64 zt, .int .i64 zo] :: .own (.slice Arv j crv) 58 5 j xs :: .box g 31 #[.int .i64 pr, .pointer (some ⟨q', 0, none⟩), .slice Au nu cu, .slice Arv j crv, .slice A4 nl.length c4, .slice B4 gl.length d4] :: .box g2 31 #[.int .i64 0, .pointer none, .slice none 0 0, .slice none 0 0, .slice none 0 0, .slice none 0 0] :: .box g1 37 #[.int .i64 pr, .slice Al L.length cl, .int .u64 (ps : Nat), .slice (some ⟨bk, o, none⟩) rl.length cr, .slice An nl.length cn, .slice Ag gl.length cg] :: F) K6 | [z] => ∃ a b : Value, z = .agg #[a, b] ∧ St w0 w (.box g10 104 #[.bool zr, .int .u64 (zy : Nat), .int .u64 (zn : Nat), .int .i64 zt, .int .i64 zo] :: .own (.slice Arv j crv) 58 5 j xs :: .box g 31 #[.int .i64 pr, .pointer (some ⟨q', 0, none⟩), .slice Au nu cu, .slice Arv j crv, .slice A4 nl.length c4, .slice B4 gl.length d4] :: .box g2 31 #[.int .i64 0, .pointer none, .slice none 0 0, .slice none 0 0, .slice none 0 0, .slice none 0 0] :: .box g1 37 #[.int .i64 pr, .slice Al L.length cl, .int .u64 (ps : Nat), .slice (some ⟨bk, o, none⟩) rl.length cr, .slice An nl.length cn, .slice Ag gl.length cg] :: F) (fun D w => K6 D w ∧ IsCube w D (.agg #[a, b]) (zy, zn)) | [_, z] => ∃ a b : Value, z = .agg #[.bool zr, a, b, .int .i64 zt, .int .i64 zo] ∧ St w0 w (.box g10 104 #[.bool zr, .int .u64 (zy : Nat), .int .u64 (zn : Nat), .int .i64 zt, .int .i64 zo] :: .own (.slice Arv j crv) 58 5 j xs :: .box g 31 #[.int .i64 pr, .pointer (some ⟨q', 0, none⟩), .slice Au nu cu, .slice Arv j crv, .slice A4 nl.length c4, .slice B4 gl.length d4] :: .box g2 31 #[.int .i64 0, .pointer none, .slice none 0 0, .slice none 0 0, .slice none 0 0, .slice none 0 0] :: .box g1 37 #[.int .i64 pr, .slice Al L.length cl, .int .u64 (ps : Nat), .slice (some ⟨bk, o, none⟩) rl.length cr, .slice An nl.length cn, .slice Ag gl.length cg] :: F) (fun D w => K6 D w ∧ IsCube w D (.agg #[a, b]) (zy, zn)) | [_, _, z] => ∃ a b : Value, St w0 w (.box g10 104 #[.bool zr, .int .u64 (zy : Nat), .int .u64 (zn : Nat), .int .i64 zt, .int .i64 zo] :: .own (.slice Arv j crv) 58 5 j xs :: .box g 31 #[.int .i64 pr, .pointer (some ⟨q', 0, none⟩), .slice Au nu cu, .slice Arv j crv, .slice A4 nl.length c4, .slice B4 gl.length d4] :: .box g2 31 #[.int .i64 0, .pointer none, .slice none 0 0, .slice none 0 0, .slice none 0 0, .slice none 0 0] :: .box g1 37 #[.int .i64 pr, .slice Al L.length cl, .int .u64 (ps : Nat), .slice (some ⟨bk, o, none⟩) rl.length cr, .slice An nl.length cn, .slice Ag gl.length cg] :: F) (fun D w => (K6 D w ∧ IsCube w D (.agg #[a, b]) (zy, zn)) ∧ Sl w D 5 z 1 [.bool zr, a, b, .int .i64 zt, .int .i64 zo]) | [_, _, _, p'] => ∃ a b : Value, St w0 w (.box g10 104 #[.bool zr, .int .u64 (zy : Nat), .int .u64 (zn : Nat), .int .i64 zt, .int .i64 zo] :: .own p' 58 5 (j + 1) (xs ++ [.bool zr, a, b, .int .i64 zt, .int .i64 zo]) :: .box g 31 #[.int .i64 pr, .pointer (some ⟨q', 0, none⟩), .slice Au nu cu, .slice Arv j crv, .slice A4 nl.length c4, .slice B4 gl.length d4] :: .box g2 31 #[.int .i64 0, .pointer none, .slice none 0 0, .slice none 0 0, .slice none 0 0, .slice none 0 0] :: .box g1 37 #[.int .i64 pr, .slice Al L.length cl, .int .u64 (ps : Nat), .slice (some ⟨bk, o, none⟩) rl.length cr, .slice An nl.length cn, .slice Ag gl.length cg] :: F) (fun D w => K6 D w ∧ IsCube w D (.agg #[a, b]) (zy, zn)) | [_, _, _, p', _] => ∃ a b : Value, St w0 w (.box g10 104 #[.bool zr, .int .u64 (zy : Nat), .int .u64 (zn : Nat), .int .i64 zt, .int .i64 zo] :: .own p' 58 5 (j + 1) (xs ++ [.bool zr, a, b, .int .i64 zt, .int .i64 zo]) :: .box g 31 #[.int .i64 pr, .pointer (some ⟨q', 0, none⟩), .slice Au nu cu, p', .slice A4 nl.length c4, .slice B4 gl.length d4] :: .box g2 31 #[.int .i64 0, .pointer none, .slice none 0 0, .slice none 0 0, .slice none 0 0, .slice none 0 0] :: .box g1 37 #[.int .i64 pr, .slice Al L.length cl, .int .u64 (ps : Nat), .slice (some ⟨bk, o, none⟩) rl.length cr, .slice An nl.length cn, .slice Ag gl.length cg] :: F) (fun D w => K6 D w ∧ IsCube w D (.agg #[a, b]) (zy, zn)) | _ => False) (by kernel_rfl) (by kernel_rfl) (by decide) (by kernel_rfl) (by kernel_rfl) ?start ⟨?r0, ?r1, ?r2, ?r3, ?r4, ?r5, ?r6, ?r7, ?r8, ?r9, ?r10, ?r11, ?r12, ?r13, ?r14, ?r15, trivial⟩ ?post
      case start => first | assumption | (dsimp only; assumption)
      case r0 =>
       refine qread rfl fun b__ w vs hS hcov hold hpre heff => ?_
       refine ⟨fun hwant K hK => ?_, fun hwant => ?_⟩
       ·clear hwant
        have e4 : b__.eval (.tmp 4) = .pointer (some ⟨g, 0, none⟩) := (hold 4 (by kernel_rfl)).trans rfl
        exact opw_faddr rfl e4 (by kernel_rfl) (hK _ rfl)
       ·rw [want_none rfl] at hwant; cases hwant
      case r1 =>
       refine qread rfl fun b__ w vs hS hcov hold hpre heff => ?_
       have hl1 : vs.length ≤ 3 := hcov 3 13 _ rfl rfl (by kernel_rfl)
       refine ⟨fun hwant K hK => ?_, fun hwant => ?_⟩
       ·clear hwant
        have hl0 : 0 ≤ vs.length ∧ vs.length ≤ 3 := ⟨by omega, by omega⟩
        rcases (by omega : vs.length = 0 ∨ vs.length = 1 ∨ vs.length = 2 ∨ vs.length = 3) with hl | hl | hl | hl
        ·obtain rfl := vs_len0 hl
         have e54 : b__.eval (.tmp 54) = .pointer (some ⟨g, 3, none⟩) := hpre ⟨0, _⟩ (Array.mem_of_getElem? (i := 0) rfl) rfl _ _ rfl rfl rfl
         first | exact opw_cell rfl e54 (by kernel_rfl) (hS.shut 2 rfl 3 rfl) (hK _ rfl) | (obtain ⟨_, _, hS⟩ := hS; exact opw_cell rfl e54 (by kernel_rfl) (hS.shut 2 rfl 3 rfl) (hK _ rfl)) | (obtain ⟨_, _, _, hS⟩ := hS; exact opw_cell rfl e54 (by kernel_rfl) (hS.shut 2 rfl 3 rfl) (hK _ rfl))
        ·obtain ⟨x0, rfl⟩ := vs_len1 hl
         have e54 : b__.eval (.tmp 54) = .pointer (some ⟨g, 3, none⟩) := hpre ⟨0, _⟩ (Array.mem_of_getElem? (i := 0) rfl) rfl _ _ rfl rfl rfl
         first | exact opw_cell rfl e54 (by kernel_rfl) (hS.shut 2 rfl 3 rfl) (hK _ rfl) | (obtain ⟨_, _, hS⟩ := hS; exact opw_cell rfl e54 (by kernel_rfl) (hS.shut 2 rfl 3 rfl) (hK _ rfl)) | (obtain ⟨_, _, _, hS⟩ := hS; exact opw_cell rfl e54 (by kernel_rfl) (hS.shut 2 rfl 3 rfl) (hK _ rfl))
        ·obtain ⟨x0, x1, rfl⟩ := vs_len2 hl
         have e54 : b__.eval (.tmp 54) = .pointer (some ⟨g, 3, none⟩) := hpre ⟨0, _⟩ (Array.mem_of_getElem? (i := 0) rfl) rfl _ _ rfl rfl rfl
         first | exact opw_cell rfl e54 (by kernel_rfl) (hS.shut 2 rfl 3 rfl) (hK _ rfl) | (obtain ⟨_, _, hS⟩ := hS; exact opw_cell rfl e54 (by kernel_rfl) (hS.shut 2 rfl 3 rfl) (hK _ rfl)) | (obtain ⟨_, _, _, hS⟩ := hS; exact opw_cell rfl e54 (by kernel_rfl) (hS.shut 2 rfl 3 rfl) (hK _ rfl))
        ·obtain ⟨x0, x1, x2, rfl⟩ := vs_len3 hl
         have e54 : b__.eval (.tmp 54) = .pointer (some ⟨g, 3, none⟩) := hpre ⟨0, _⟩ (Array.mem_of_getElem? (i := 0) rfl) rfl _ _ rfl rfl rfl
         first | exact opw_cell rfl e54 (by kernel_rfl) (hS.shut 2 rfl 3 rfl) (hK _ rfl) | (obtain ⟨_, _, hS⟩ := hS; exact opw_cell rfl e54 (by kernel_rfl) (hS.shut 2 rfl 3 rfl) (hK _ rfl)) | (obtain ⟨_, _, _, hS⟩ := hS; exact opw_cell rfl e54 (by kernel_rfl) (hS.shut 2 rfl 3 rfl) (hK _ rfl))
       ·rw [want_none rfl] at hwant; cases hwant
      case r2 =>
       refine qread rfl fun b__ w vs hS hcov hold hpre heff => ?_
       refine ⟨fun hwant K hK => ?_, fun hwant => ?_⟩
       ·clear hwant
        have e10 : b__.eval (.tmp 10) = .pointer (some ⟨g10, 0, none⟩) := (hold 10 (by kernel_rfl)).trans rfl
        exact opw_faddr rfl e10 (by kernel_rfl) (hK _ rfl)
       ·rw [want_none rfl] at hwant; cases hwant
      case r3 =>
       refine qread rfl fun b__ w vs hS hcov hold hpre heff => ?_
       have hl1 : vs.length ≤ 1 := hcov 1 11 _ rfl rfl (by kernel_rfl)
       refine ⟨fun hwant K hK => ?_, fun hwant => ?_⟩
       ·clear hwant
        have hl0 : 0 ≤ vs.length ∧ vs.length ≤ 1 := ⟨by omega, by omega⟩
        rcases (by omega : vs.length = 0 ∨ vs.length = 1) with hl | hl
        ·obtain rfl := vs_len0 hl
         have e56 : b__.eval (.tmp 56) = .pointer (some ⟨g10, 0, none⟩) := hpre ⟨2, _⟩ (Array.mem_of_getElem? (i := 0) rfl) rfl _ _ rfl rfl rfl
         first | exact opw_cell rfl e56 (by kernel_rfl) (hS.shut 0 rfl 0 rfl) (hK _ rfl) | (obtain ⟨_, _, _, hS⟩ := hS; exact opw_cell rfl e56 (by kernel_rfl) (hS.shut 0 rfl 0 rfl) (hK _ rfl))
        ·obtain ⟨x0, rfl⟩ := vs_len1 hl
         have e56 : b__.eval (.tmp 56) = .pointer (some ⟨g10, 0, none⟩) := hpre ⟨2, _⟩ (Array.mem_of_getElem? (i := 0) rfl) rfl _ _ rfl rfl rfl
         first | exact opw_cell rfl e56 (by kernel_rfl) (hS.shut 0 rfl 0 rfl) (hK _ rfl) | (obtain ⟨_, _, _, hS⟩ := hS; exact opw_cell rfl e56 (by kernel_rfl) (hS.shut 0 rfl 0 rfl) (hK _ rfl))
       ·rw [want_none rfl] at hwant; cases hwant
      case r4 =>
       refine qread rfl fun b__ w vs hS hcov hold hpre heff => ?_
       refine ⟨fun hwant K hK => ?_, fun hwant => ?_⟩
       ·clear hwant
        have e10 : b__.eval (.tmp 10) = .pointer (some ⟨g10, 0, none⟩) := (hold 10 (by kernel_rfl)).trans rfl
        exact opw_faddr rfl e10 (by kernel_rfl) (hK _ rfl)
       ·rw [want_none rfl] at hwant; cases hwant
      case r5 =>
       refine qread rfl fun b__ w vs hS hcov hold hpre heff => ?_
       have hl1 : vs.length ≤ 0 := hcov 0 6 _ rfl rfl (by kernel_rfl)
       refine ⟨fun hwant K hK => ?_, fun hwant => ?_⟩
       ·clear hwant
        have hl0 : 0 ≤ vs.length ∧ vs.length ≤ 0 := ⟨by omega, by omega⟩
        rcases (by omega : vs.length = 0) with hl
        ·obtain rfl := vs_len0 hl
         have e58 : b__.eval (.tmp 58) = .pointer (some ⟨g10, 1, none⟩) := hpre ⟨4, _⟩ (Array.mem_of_getElem? (i := 0) rfl) rfl _ _ rfl rfl rfl
         exact opw_mid (cs := [.int .u64 (zy : Nat), .int .u64 (zn : Nat)]) rfl e58 (rng2 (hS.shut 0 rfl 1 rfl) (hS.shut 0 rfl 2 rfl)) Tryz.underlying81 rfl (by kernel_rfl) (hK _ rfl)
       ·rw [want_none rfl] at hwant; cases hwant
      case r6 =>
       refine qturn 0 rfl (by decide) fun b__ w vs hS hl hold hpre heff => ?_
       obtain rfl := vs_len0 hl
       refine ⟨fun hwant K hK => ?_, fun hwant => ?_⟩
       ·clear hwant
        have e59 : b__.eval (.tmp 59) = .agg #[.int .u64 (zy : Nat), .int .u64 (zn : Nat)] := hpre ⟨5, _⟩ (Array.mem_of_getElem? (i := 0) rfl) rfl _ _ rfl rfl rfl
        refine opw_callw rfl (by kernel_rfl) (by simp only [List.map_cons, List.map_nil, e59]) (lmake_any zy zn HZ.out.1 HZ.out.2 _) fun e w' ⟨z, he, hx, hb_⟩ => ⟨z, he, ?_⟩
        obtain ⟨a, b, rfl, -, -⟩ := id hx
        exact hK _ w' ⟨a, b, rfl, hS.ret hb_ stable_cube hx⟩
       ·rw [want_none rfl] at hwant; cases hwant
      case r7 =>
       refine qread rfl fun b__ w vs hS hcov hold hpre heff => ?_
       refine ⟨fun hwant K hK => ?_, fun hwant => ?_⟩
       ·clear hwant
        have e10 : b__.eval (.tmp 10) = .pointer (some ⟨g10, 0, none⟩) := (hold 10 (by kernel_rfl)).trans rfl
        exact opw_faddr rfl e10 (by kernel_rfl) (hK _ rfl)
       ·rw [want_none rfl] at hwant; cases hwant
      case r8 =>
       refine qread rfl fun b__ w vs hS hcov hold hpre heff => ?_
       have hl1 : vs.length ≤ 1 := hcov 1 11 _ rfl rfl (by kernel_rfl)
       refine ⟨fun hwant K hK => ?_, fun hwant => ?_⟩
       ·clear hwant
        have hl0 : 0 ≤ vs.length ∧ vs.length ≤ 1 := ⟨by omega, by omega⟩
        rcases (by omega : vs.length = 0 ∨ vs.length = 1) with hl | hl
        ·obtain rfl := vs_len0 hl
         have e61 : b__.eval (.tmp 61) = .pointer (some ⟨g10, 3, none⟩) := hpre ⟨7, _⟩ (Array.mem_of_getElem? (i := 0) rfl) rfl _ _ rfl rfl rfl
         first | exact opw_cell rfl e61 (by kernel_rfl) (hS.shut 0 rfl 3 rfl) (hK _ rfl) | (obtain ⟨_, _, _, hS⟩ := hS; exact opw_cell rfl e61 (by kernel_rfl) (hS.shut 0 rfl 3 rfl) (hK _ rfl))
        ·obtain ⟨x0, rfl⟩ := vs_len1 hl
         have e61 : b__.eval (.tmp 61) = .pointer (some ⟨g10, 3, none⟩) := hpre ⟨7, _⟩ (Array.mem_of_getElem? (i := 0) rfl) rfl _ _ rfl rfl rfl
         first | exact opw_cell rfl e61 (by kernel_rfl) (hS.shut 0 rfl 3 rfl) (hK _ rfl) | (obtain ⟨_, _, _, hS⟩ := hS; exact opw_cell rfl e61 (by kernel_rfl) (hS.shut 0 rfl 3 rfl) (hK _ rfl))
       ·rw [want_none rfl] at hwant; cases hwant
      case r9 =>
       refine qread rfl fun b__ w vs hS hcov hold hpre heff => ?_
       refine ⟨fun hwant K hK => ?_, fun hwant => ?_⟩
       ·clear hwant
        have e10 : b__.eval (.tmp 10) = .pointer (some ⟨g10, 0, none⟩) := (hold 10 (by kernel_rfl)).trans rfl
        exact opw_faddr rfl e10 (by kernel_rfl) (hK _ rfl)
       ·rw [want_none rfl] at hwant; cases hwant
      case r10 =>
       refine qread rfl fun b__ w vs hS hcov hold hpre heff => ?_
       have hl1 : vs.length ≤ 1 := hcov 1 11 _ rfl rfl (by kernel_rfl)
       refine ⟨fun hwant K hK => ?_, fun hwant => ?_⟩
       ·clear hwant
        have hl0 : 0 ≤ vs.length ∧ vs.length ≤ 1 := ⟨by omega, by omega⟩
        rcases (by omega : vs.length = 0 ∨ vs.length = 1) with hl | hl
        ·obtain rfl := vs_len0 hl
         have e63 : b__.eval (.tmp 63) = .pointer (some ⟨g10, 4, none⟩) := hpre ⟨9, _⟩ (Array.mem_of_getElem? (i := 0) rfl) rfl _ _ rfl rfl rfl
         first | exact opw_cell rfl e63 (by kernel_rfl) (hS.shut 0 rfl 4 rfl) (hK _ rfl) | (obtain ⟨_, _, _, hS⟩ := hS; exact opw_cell rfl e63 (by kernel_rfl) (hS.shut 0 rfl 4 rfl) (hK _ rfl))
        ·obtain ⟨x0, rfl⟩ := vs_len1 hl
         have e63 : b__.eval (.tmp 63) = .pointer (some ⟨g10, 4, none⟩) := hpre ⟨9, _⟩ (Array.mem_of_getElem? (i := 0) rfl) rfl _ _ rfl rfl rfl
         first | exact opw_cell rfl e63 (by kernel_rfl) (hS.shut 0 rfl 4 rfl) (hK _ rfl) | (obtain ⟨_, _, _, hS⟩ := hS; exact opw_cell rfl e63 (by kernel_rfl) (hS.shut 0 rfl 4 rfl) (hK _ rfl))
       ·rw [want_none rfl] at hwant; cases hwant
      case r11 =>
       refine qturn 1 rfl (by decide) fun b__ w vs hS hl hold hpre heff => ?_
       obtain ⟨x0, rfl⟩ := vs_len1 hl
       refine ⟨fun hwant K hK => ?_, fun hwant => ?_⟩
       ·clear hwant
        have e57 : b__.eval (.tmp 57) = .bool zr := hpre ⟨3, _⟩ (Array.mem_of_getElem? (i := 0) rfl) rfl _ _ rfl rfl rfl
        have e60 : b__.eval (.tmp 60) = x0 := (heff ⟨6, _⟩ (Array.mem_of_getElem? (i := 1) rfl) rfl 0 _ _ rfl rfl rfl).2
        have e62 : b__.eval (.tmp 62) = .int .i64 zt := hpre ⟨8, _⟩ (Array.mem_of_getElem? (i := 2) rfl) rfl _ _ rfl rfl rfl
        have e64 : b__.eval (.tmp 64) = .int .i64 zo := hpre ⟨10, _⟩ (Array.mem_of_getElem? (i := 3) rfl) rfl _ _ rfl rfl rfl
        obtain ⟨a, b, rfl, hS⟩ := hS
        exact opw_built rfl (ps := [(0, .bool zr), (1, .agg #[a, b]), (2, .int .i64 zt), (3, .int .i64 zo)]) (cells := #[.bool zr, a, b, .int .i64 zt, .int .i64 zo]) (by simp [e57, e60, e62, e64]) (by kernel_rfl) (hK _ _ ⟨a, b, rfl, hS⟩)
       ·rw [want_none rfl] at hwant; cases hwant
      case r12 =>
       refine qturn 2 rfl (by decide) fun b__ w vs hS hl hold hpre heff => ?_
       obtain ⟨x0, x1, rfl⟩ := vs_len2 hl
       refine ⟨fun hwant K hK => ?_, fun hwant => ?_⟩
       ·clear hwant
        have e65 : b__.eval (.tmp 65) = x1 := (heff ⟨11, _⟩ (Array.mem_of_getElem? (i := 0) rfl) rfl 1 _ _ rfl rfl rfl).2
        obtain ⟨a, b, rfl, hS⟩ := hS
        refine opw_slice (ps := [(0, .agg #[.bool zr, a, b, .int .i64 zt, .int .i64 zo])]) (cells := #[.bool zr, a, b, .int .i64 zt, .int .i64 zo]) rfl Tryz.underlying28 (by simp [e65]) (by kernel_rfl) ?_
        intro w' hbx hbel
        exact hK _ w' ⟨a, b, hS.ret hbel (stable_sl (by decide)) (⟨by simp, _, 1, rfl, by omega, by unfold maxLen; omega, fun _ => ⟨w.heap.size, 0, rfl, Nat.le_refl _, hbx.lt, fun j x hj => by rw [Nat.zero_add]; exact (hbx.cell j).trans (by simpa using hj)⟩⟩ : Sl w' (w.heap.size ≤ ·) 5 (.slice (some ⟨w.heap.size, 0, none⟩) 1 1) 1 [.bool zr, a, b, .int .i64 zt, .int .i64 zo])⟩
       ·rw [want_none rfl] at hwant; cases hwant
      case r13 =>
       refine qturn 3 rfl (by decide) fun b__ w vs hS hl hold hpre heff => ?_
       obtain ⟨x0, x1, x2, rfl⟩ := vs_len3 hl
       refine ⟨fun hwant K hK => ?_, fun hwant => ?_⟩
       ·clear hwant
        have e55 : b__.eval (.tmp 55) = .slice Arv j crv := hpre ⟨1, _⟩ (Array.mem_of_getElem? (i := 0) rfl) rfl _ _ rfl rfl rfl
        have e66 : b__.eval (.tmp 66) = x2 := (heff ⟨12, _⟩ (Array.mem_of_getElem? (i := 1) rfl) rfl 2 _ _ rfl rfl rfl).2
        obtain ⟨a, b, h3⟩ := hS
        refine opw_app rfl ty_rules e55 (h3.own 1 rfl) e66 h3.ro.2 (by obtain ⟨_, _, he, hy, hn⟩ := h3.ro.1.2; injection he with he; injection he with he; injection he with e1 he; injection he with e2 he; subst e1 e2; obtain ⟨A8, m8, c8, rfl⟩ := hy.shape; obtain ⟨B8, k8, d8, rfl⟩ := hn.shape; intro u hu; simp at hu; rcases hu with rfl | rfl | rfl | rfl | rfl <;> rfl) (by omega) (by omega) h3.size ?_
        intro v' w' ho hg hat
        exact hK v' w' ⟨a, b, (h3.upd 1 rfl (.own v' 58 5 (j + 1) (xs ++ [.bool zr, a, b, .int .i64 zt, .int .i64 zo])) hg ho hat).mono (KS6.out.and stable_cube) fun D w h => h.1⟩
       ·rw [want_none rfl] at hwant; cases hwant
      case r14 =>
       refine qread rfl fun b__ w vs hS hcov hold hpre heff => ?_
       refine ⟨fun hwant K hK => ?_, fun hwant => ?_⟩
       ·clear hwant
        have e4 : b__.eval (.tmp 4) = .pointer (some ⟨g, 0, none⟩) := (hold 4 (by kernel_rfl)).trans rfl
        exact opw_faddr rfl e4 (by kernel_rfl) (hK _ rfl)
       ·rw [want_none rfl] at hwant; cases hwant
      case r15 =>
       refine qturn 4 rfl (by decide) fun b__ w vs hS hl hold hpre heff => ?_
       obtain ⟨x0, x1, x2, x3, rfl⟩ := vs_len4 hl
       refine ⟨fun hwant K hK => ?_, fun hwant => ?_⟩
       ·clear hwant
        have e68 : b__.eval (.tmp 68) = .pointer (some ⟨g, 3, none⟩) := hpre ⟨14, _⟩ (Array.mem_of_getElem? (i := 0) rfl) rfl _ _ rfl rfl rfl
        have e67 : b__.eval (.tmp 67) = x3 := (heff ⟨13, _⟩ (Array.mem_of_getElem? (i := 1) rfl) rfl 3 _ _ rfl rfl rfl).2
        obtain ⟨a, b, h3⟩ := hS
        refine opw_cstore rfl e68 e67 (h3.box 2 rfl) (by simp) (own_cells (h3.own 1 rfl)) (own_one (h3.own 1 rfl)) (by kernel_rfl) ?_
        intro w' hbx hup
        exact hK _ w' ⟨a, b, h3.upd 2 rfl (.box g 31 #[.int .i64 pr, .pointer (some ⟨q', 0, none⟩), .slice Au nu cu, x3, .slice A4 nl.length c4, .slice B4 gl.length d4]) (upd_gb hup) ⟨(h3.holds _ (List.mem_of_getElem? (i := 2) rfl)).1, hbx⟩ fun _ e => .inl e⟩
       ·rw [want_none rfl] at hwant; cases hwant
      case post =>
       intro b__ wz vs hS hl hdf hsz hold hT hE
       obtain ⟨x0, x1, x2, x3, x4, rfl⟩ := vs_len5 hl
       have e54 : b__.eval (.tmp 54) = .pointer (some ⟨g, 3, none⟩) := hT 0 _ 54 rfl rfl rfl
       have e55 : b__.eval (.tmp 55) = .slice Arv j crv := hT 1 _ 55 rfl rfl rfl
       have e56 : b__.eval (.tmp 56) = .pointer (some ⟨g10, 0, none⟩) := hT 2 _ 56 rfl rfl rfl
       have e57 : b__.eval (.tmp 57) = .bool zr := hT 3 _ 57 rfl rfl rfl
       have e58 : b__.eval (.tmp 58) = .pointer (some ⟨g10, 1, none⟩) := hT 4 _ 58 rfl rfl rfl
       have e59 : b__.eval (.tmp 59) = .agg #[.int .u64 (zy : Nat), .int .u64 (zn : Nat)] := hT 5 _ 59 rfl rfl rfl
       have e60 : b__.eval (.tmp 60) = x0 := hE 0 6 _ 60 rfl rfl rfl
       have e61 : b__.eval (.tmp 61) = .pointer (some ⟨g10, 3, none⟩) := hT 7 _ 61 rfl rfl rfl
       have e62 : b__.eval (.tmp 62) = .int .i64 zt := hT 8 _ 62 rfl rfl rfl
       have e63 : b__.eval (.tmp 63) = .pointer (some ⟨g10, 4, none⟩) := hT 9 _ 63 rfl rfl rfl
       have e64 : b__.eval (.tmp 64) = .int .i64 zo := hT 10 _ 64 rfl rfl rfl
       have e65 : b__.eval (.tmp 65) = x1 := hE 1 11 _ 65 rfl rfl rfl
       have e66 : b__.eval (.tmp 66) = x2 := hE 2 12 _ 66 rfl rfl rfl
       have e67 : b__.eval (.tmp 67) = x3 := hE 3 13 _ 67 rfl rfl rfl
       have e68 : b__.eval (.tmp 68) = .pointer (some ⟨g, 3, none⟩) := hT 14 _ 68 rfl rfl rfl
       obtain ⟨us, hus, hb⟩ := frame_of hdf hsz hold
       replace e54 : us 54 = .pointer (some ⟨g, 3, none⟩) := (hus 54).symm.trans e54
       replace e55 : us 55 = .slice Arv j crv := (hus 55).symm.trans e55
       replace e56 : us 56 = .pointer (some ⟨g10, 0, none⟩) := (hus 56).symm.trans e56
       replace e57 : us 57 = .bool zr := (hus 57).symm.trans e57
       replace e58 : us 58 = .pointer (some ⟨g10, 1, none⟩) := (hus 58).symm.trans e58
       replace e59 : us 59 = .agg #[.int .u64 (zy : Nat), .int .u64 (zn : Nat)] := (hus 59).symm.trans e59
       replace e60 : us 60 = x0 := (hus 60).symm.trans e60
       replace e61 : us 61 = .pointer (some ⟨g10, 3, none⟩) := (hus 61).symm.trans e61
       replace e62 : us 62 = .int .i64 zt := (hus 62).symm.trans e62
       replace e63 : us 63 = .pointer (some ⟨g10, 4, none⟩) := (hus 63).symm.trans e63
       replace e64 : us 64 = .int .i64 zo := (hus 64).symm.trans e64
       replace e65 : us 65 = x1 := (hus 65).symm.trans e65
       replace e66 : us 66 = x2 := (hus 66).symm.trans e66
       replace e67 : us 67 = x3 := (hus 67).symm.trans e67
       replace e68 : us 68 = .pointer (some ⟨g, 3, none⟩) := (hus 68).symm.trans e68
       subst hb
       clear hus hold hT hE hdf hsz hl
       simp only [setAll, Act.put, List.setIfInBounds_toArray, List.set_cons_zero, List.set_cons_succ, List.getElem_toArray, List.getElem_cons_succ, List.getElem_cons_zero]
       obtain ⟨a, b, hS⟩ := hS
       clear h0d
       go_wp2_with fail
       have hxl := HLT.out
       refine ⟨⟨j + 1, _, xs ++ [.bool zr, a, b, .int .i64 zt, .int .i64 zo], by go_num, hlj, (hS.sub (List.sublist_cons_self _ _)).mono (KS5.out.and stable_rcells) fun D w h => ⟨(k6.out _ _ h.1).1, ?_⟩⟩, by simp [intOf]; omega⟩
       rw [HT.out]
       have hz := (hS.own 1 rfl).1
       exact RuleCells.append (by simp at hz; omega) (k6.out _ _ h.1).2 (RuleCells.single (z := ⟨zr, zy, zn, zt, zo⟩) (cube_sets h.2).1 (cube_sets h.2).2)
     ·obtain rfl : rl.length = j := by omega
      rw [List.take_length] at hS
      go_wp2_with (first | ((with_reducible refine qB ?_); (first | refine q1 ?_ ?_ | refine q2 ?_ ?_ | refine q3 ?_ ?_ | refine q4 ?_ ?_ | refine q5 ?_ ?_ | refine q6 ?_ ?_) <;> intro h_ <;> go_prune))
      obtain ⟨K7, k7, ks7, hS2⟩ : ∃ K7 : (Nat → Prop) → World → Prop, Hid (∀ D w, K7 D w → (K5 D w ∧ RuleCells w D xs rl) ∧ Sl w D 5 (.slice Arv rl.length crv) rl.length xs) ∧ Stable K7 ∧ St w0 wr (.box g 31 #[.int .i64 pr, .pointer (some ⟨q', 0, none⟩), .slice Au nu cu, .slice Arv rl.length crv, .slice A4 nl.length c4, .slice B4 gl.length d4] :: .box g2 31 #[.int .i64 0, .pointer none, .slice none 0 0, .slice none 0 0, .slice none 0 0, .slice none 0 0] :: .box g1 37 #[.int .i64 pr, .slice Al L.length cl, .int .u64 (ps : Nat), .slice Ar rl.length cr, .slice An nl.length cn, .slice Ag gl.length cg] :: F) K7 := ⟨_, Lib.hid fun _ _ h => h, (hS.freeze 0 (by decide) rfl).stable, hS.freeze 0 (by decide) rfl⟩
      clear hS
      have hS := hS2
      clear hS2
      have hJ0 : St w0 wr.drew (.box g 31 #[.int .i64 pr, .pointer (some ⟨q', 0, none⟩), .slice Au nu cu, .slice Arv rl.length crv, .slice A4 nl.length c4, .slice B4 gl.length d4] :: .box g2 31 (cond (false, false).1 #[.int .i64 pr, .pointer (some ⟨q', 0, none⟩), .slice Au nu cu, .slice Arv rl.length crv, .slice A4 nl.length c4, .slice B4 gl.length d4] #[.int .i64 0, .pointer none, .slice none 0 0, .slice none 0 0, .slice none 0 0, .slice none 0 0]) :: .box g1 37 #[.int .i64 pr, .slice Al L.length cl, .int .u64 (ps : Nat), .slice Ar rl.length cr, .slice An nl.length cn, .slice Ag gl.length cg] :: F) K7 := hS.drew
      have hRr := @SR.refl w0 (fun s => .box g 31 #[.int .i64 pr, .pointer (some ⟨q', 0, none⟩), .slice Au nu cu, .slice Arv rl.length crv, .slice A4 nl.length c4, .slice B4 gl.length d4] :: .box g2 31 (cond s.1 #[.int .i64 pr, .pointer (some ⟨q', 0, none⟩), .slice Au nu cu, .slice Arv rl.length crv, .slice A4 nl.length c4, .slice B4 gl.length d4] #[.int .i64 0, .pointer none, .slice none 0 0, .slice none 0 0, .slice none 0 0, .slice none 0 0]) :: .box g1 37 #[.int .i64 pr, .slice Al L.length cl, .int .u64 (ps : Nat), .slice Ar rl.length cr, .slice An nl.length cn, .slice Ag gl.length cg] :: F) K7
      have hRt := @SR.trans w0 (fun s => .box g 31 #[.int .i64 pr, .pointer (some ⟨q', 0, none⟩), .slice Au nu cu, .slice Arv rl.length crv, .slice A4 nl.length c4, .slice B4 gl.length d4] :: .box g2 31 (cond s.1 #[.int .i64 pr, .pointer (some ⟨q', 0, none⟩), .slice Au nu cu, .slice Arv rl.length crv, .slice A4 nl.length c4, .slice B4 gl.length d4] #[.int .i64 0, .pointer none, .slice none 0 0, .slice none 0 0, .slice none 0 0, .slice none 0 0]) :: .box g1 37 #[.int .i64 pr, .slice Al L.length cl, .int .u64 (ps : Nat), .slice Ar rl.length cr, .slice An nl.length cn, .slice Ag gl.length cg] :: F) K7
      have hN0 : ∀ _ : Nat, True := fun _ => trivial
      clear hS
      refine wp_region_ghost (fun i__ v w => match i__ with
       | 0 => v = .agg #[.int .i64 pr, .pointer (some ⟨q', 0, none⟩), .slice Au nu cu, .slice Arv rl.length crv, .slice A4 nl.length c4, .slice B4 gl.length d4]
       | 1 => v = .pointer (some ⟨g, 1, none⟩)
       | 2 => v = .pointer (some ⟨q', 0, none⟩)
       | 3 => v = .bool true
       | 4 => w.2.1 = true
       | 5 => v = .bool true
       | _ => True) (SR w0 (fun s => .box g 31 #[.int .i64 pr, .pointer (some ⟨q', 0, none⟩), .slice Au nu cu, .slice Arv rl.length crv, .slice A4 nl.length c4, .slice B4 gl.length d4] :: .box g2 31 (cond s.1 #[.int .i64 pr, .pointer (some ⟨q', 0, none⟩), .slice Au nu cu, .slice Arv rl.length crv, .slice A4 nl.length c4, .slice B4 gl.length d4] #[.int .i64 0, .pointer none, .slice none 0 0, .slice none 0 0, .slice none 0 0, .slice none 0 0]) :: .box g1 37 #[.int .i64 pr, .slice Al L.length cl, .int .u64 (ps : Nat), .slice Ar rl.length cr, .slice An nl.length cn, .slice Ag gl.length cg] :: F) K7) (fun _ _ => True) ((false, false)) (by kernel_rfl) (by kernel_rfl) hRr hRt ?mono ?hN ⟨?r0, ?r1, ?r2, ?r3, ?r4, ?r5, trivial⟩ ?post
      case hN => first | assumption | (intro i; (try dsimp only); split <;> first | trivial | assumption | (left; assumption))
      case mono =>
       intro i v w w' h hb
       match i, h with
       | 0, h | 1, h | 2, h | 3, h => exact h
       | 4, h => exact hb.2.1 h
       | 5, h => exact h
       | _ + 6, h => trivial
      case r0 =>
       refine truleGh fun b__ w hW hN hold hpre => wU rfl fun K hK => ?_
       have e4 : b__.eval (.tmp 4) = .pointer (some ⟨g, 0, none⟩) := (hold 4 (by kernel_rfl)).trans rfl
       exact opw_row rfl e4 ((hW.1 hJ0).box 0 rfl) Tryz.underlying31 rfl (by kernel_rfl) (hK _ _ rfl ⟨hRr _, fun _ _ h => h⟩)
      case r1 =>
       refine truleGh fun b__ w hW hN hold hpre => wU rfl fun K hK => ?_
       have e4 : b__.eval (.tmp 4) = .pointer (some ⟨g, 0, none⟩) := (hold 4 (by kernel_rfl)).trans rfl
       exact opw_faddr rfl e4 (by kernel_rfl) (hK _ _ rfl ⟨hRr _, fun _ _ h => h⟩)
      case r2 =>
       refine truleGh fun b__ w hW hN hold hpre => wU rfl fun K hK => ?_
       have e71 : b__.eval (.tmp 71) = .pointer (some ⟨g, 1, none⟩) := pq hpre 0 1 71
       exact opw_cell rfl e71 (by kernel_rfl) ((hW.1 hJ0).shut 0 rfl 1 rfl) (hK _ _ rfl ⟨hRr _, fun _ _ h => h⟩)
      case r3 =>
       refine truleGh fun b__ w hW hN hold hpre => wU rfl fun K hK => ?_
       have e72 : b__.eval (.tmp 72) = .pointer (some ⟨q', 0, none⟩) := pq hpre 0 2 72
       exact opw_bin rfl e72 rfl rfl (run_pnil _ _) (hK _ _ rfl ⟨hRr _, fun _ _ h => h⟩)
      case r4 =>
       refine truleGh fun b__ w hW hN hold hpre => wU rfl fun K hK => ?_
       have e2 : b__.eval (.tmp 2) = .pointer (some ⟨g2, 0, none⟩) := (hold 2 (by kernel_rfl)).trans rfl
       have e70 : b__.eval (.tmp 70) = .agg #[.int .i64 pr, .pointer (some ⟨q', 0, none⟩), .slice Au nu cu, .slice Arv rl.length crv, .slice A4 nl.length c4, .slice B4 gl.length d4] := pq hpre 0 0 70
       have hS := hW.1 hJ0
       exact opw_store rfl e2 e70 (hS.box 1 rfl) (by kernel_rfl) (by cases w.2.1 <;> rfl) (by simp [Value.oneCell']) fun w4 h1 hU => hK undef (w4, (true, w.2.2)) rfl ⟨⟨fun _ => hS.upd 1 rfl (.box g2 31 #[.int .i64 pr, .pointer (some ⟨q', 0, none⟩), .slice Au nu cu, .slice Arv rl.length crv, .slice A4 nl.length c4, .slice B4 gl.length d4]) (upd_gb hU) ⟨(hS.holds _ (List.mem_of_getElem? (i := 1) rfl)).1, h1⟩ fun _ e => .inl e, fun _ => rfl, id⟩, fun _ _ h => h⟩
      case r5 =>
       refine truleGh fun b__ w hW hN hold hpre => wU rfl fun K hK => ?_
       have e73 : b__.eval (.tmp 73) = .bool true := pq hpre 0 3 73
       exact opw_assign rfl e73 (hK _ _ rfl ⟨hRr _, fun _ _ h => h⟩)
      case post =>
       intro b__ wz hW hdf hsz hold hT hZ
       have e70 : b__.eval (.tmp 70) = .agg #[.int .i64 pr, .pointer (some ⟨q', 0, none⟩), .slice Au nu cu, .slice Arv rl.length crv, .slice A4 nl.length c4, .slice B4 gl.length d4] := hT 0 _ 70 rfl rfl
       have e71 : b__.eval (.tmp 71) = .pointer (some ⟨g, 1, none⟩) := hT 1 _ 71 rfl rfl
       have e72 : b__.eval (.tmp 72) = .pointer (some ⟨q', 0, none⟩) := hT 2 _ 72 rfl rfl
       have e73 : b__.eval (.tmp 73) = .bool true := hT 3 _ 73 rfl rfl
       have e3 : b__.eval (.tmp 3) = .bool true := hT 5 _ 3 rfl rfl
       obtain ⟨vs, hvs, hb⟩ := frame_of hdf hsz hold
       replace e70 : vs 70 = .agg #[.int .i64 pr, .pointer (some ⟨q', 0, none⟩), .slice Au nu cu, .slice Arv rl.length crv, .slice A4 nl.length c4, .slice B4 gl.length d4] := (hvs 70).symm.trans e70
       replace e71 : vs 71 = .pointer (some ⟨g, 1, none⟩) := (hvs 71).symm.trans e71
       replace e72 : vs 72 = .pointer (some ⟨q', 0, none⟩) := (hvs 72).symm.trans e72
       replace e73 : vs 73 = .bool true := (hvs 73).symm.trans e73
       replace e3 : vs 3 = .bool true := (hvs 3).symm.trans e3
       subst hb
       clear hvs hold hT hdf hsz
       simp only [setAll, Act.put, List.setIfInBounds_toArray, List.set_cons_zero, List.set_cons_succ, List.getElem_toArray, List.getElem_cons_succ, List.getElem_cons_zero]
       obtain ⟨_, hst⟩ := hZ 4 _ rfl rfl
       have hS : St w0 wz.1 (.box g 31 #[.int .i64 pr, .pointer (some ⟨q', 0, none⟩), .slice Au nu cu, .slice Arv rl.length crv, .slice A4 nl.length c4, .slice B4 gl.length d4] :: .box g2 31 (cond wz.2.1 #[.int .i64 pr, .pointer (some ⟨q', 0, none⟩), .slice Au nu cu, .slice Arv rl.length crv, .slice A4 nl.length c4, .slice B4 gl.length d4] #[.int .i64 0, .pointer none, .slice none 0 0, .slice none 0 0, .slice none 0 0, .slice none 0 0]) :: .box g1 37 #[.int .i64 pr, .slice Al L.length cl, .int .u64 (ps : Nat), .slice Ar rl.length cr, .slice An nl.length cn, .slice Ag gl.length cg] :: F) K7 := hW.1 hJ0
       rw [show wz.2.1 = true from hst] at hS
       dsimp only [cond] at hS
       clear hW hZ hJ0 hRr hRt hN0 hst
       generalize wz.1 = wf at *
       simp only [show vs (3 : Nat) = _ from e3]
       go_wp2_with fail
       refine ret2_cellM Tryz.results53 rfl (hS.box 1 rfl) Tryz.underlying31 rfl (by kernel_rfl) rfl rfl ?_
       refine ⟨_, rfl, (hS.sub (F' := F) (((List.sublist_cons_self _ _).trans (List.sublist_cons_self _ _)).trans (List.sublist_cons_self _ _))).mono (KSt.out.and stable_prob) fun D w h => ?_⟩
       have h := k7.out _ _ h
       have h2 := kc.out _ _ (k5 _ _ h.1.1)
       exact ⟨k0 _ _ (k5 _ _ h.1.1), _, _, _, _, _, rfl, kh.out _ _ h.1.1, h2.1, ⟨_, h.2, h.1.2⟩, h2.2.1, h2.2.2⟩
theorem MadeP.fits {p : ProbD} {L : List (Nat × Nat)} {R : Nat} (h : MadeP p L R) : Fits p := by
 have hm : maskR R < T64 := by
  have : 2 ^ (R + 1) ≤ 2 ^ 6 := Nat.pow_le_pow_right (by decide) (by have := h.r5; omega)
  unfold maskR T64; omega
 refine ⟨?_, fun z hz => ?_, by have := h.rlen; omega, fun z hz => ?_, by have := h.nlen; omega, fun z hz => ?_, by have := h.glen; omega⟩
 ·rw [← h.start]; exact Nat.lt_of_le_of_lt Nat.and_le_right hm
 ·have := (h.rules z hz).2.2.2.2.2
  unfold T64; omega
 ·have := (h.never z hz).1.2.2.2
  unfold T64; omega
 ·have := (h.goal z hz).2.2.2
  unfold T64; omega
theorem MadeP.ok {p : ProbD} {L : List (Nat × Nat)} {R : Nat} (h : MadeP p L R) : p.Ok :=
 ⟨by have := h.rlen; omega, by have := h.nlen; omega, by have := h.glen; omega, fun L' e => by rw [h.links] at e; injection e with e; subst e; exact ⟨h.hok, by have := h.len; omega⟩⟩
end Go.Proofs.YtihpgmbinhmmlaaGreatDoor
namespace Go.Proofs.YtihpgmbinhmmlaaGreatDoor
open Go.RowKit
attribute [local go_sem ↓] Go.wp_at_zero Go.wp_at_succ
set_option maxRecDepth 20000
set_option exponentiation.threshold 5000

theorem isH_ptr {w : World} {D : Nat → Prop} {v : Value} {o : Option (List (Nat × Nat))} (h : IsHo w D v o) : ∃ p, v = .pointer p := by
 cases o with
 | none => exact ⟨_, h⟩
 | some L => obtain ⟨q, o, h, _⟩ := h; exact ⟨_, h⟩
theorem IsProb.cells {w : World} {D : Nat → Prop} {v : Value} {p : ProbD} (h : IsProb w D v p) : ∃ cs, v = .agg cs ∧ cs.size = 6 ∧ cs.all (·.oneCell') = true := by
 obtain ⟨lp, s, rv, nv, gv, rfl, h1, h2, h3, h4, h5⟩ := h
 obtain ⟨_, rfl⟩ := isH_ptr h1
 obtain ⟨_, _, _, rfl⟩ := h2.shape
 obtain ⟨_, _, rfl, _, _⟩ := h3.shape
 obtain ⟨_, _, rfl⟩ := cubes_shape h4
 obtain ⟨_, _, rfl⟩ := cubes_shape h5
 exact ⟨_, rfl, rfl, by simp [Value.oneCell']⟩
theorem IsRProb.cells {w : World} {D : Nat → Prop} {v : Value} {p : ProbD} (h : IsRProb w D v p) : ∃ cs, v = .agg cs ∧ cs.size = 6 ∧ cs.all (·.oneCell') = true := by
 obtain ⟨lv, rv, nv, gv, L, rfl, _, h1, h2, h3, h4⟩ := h
 obtain ⟨_, _, rfl, _, _⟩ := h1.shape
 obtain ⟨_, _, rfl, _, _⟩ := h2.shape
 obtain ⟨_, _, rfl, _, _⟩ := Sl.shape (h3 : Sl _ _ _ _ _ _)
 obtain ⟨_, _, rfl, _, _⟩ := Sl.shape (h4 : Sl _ _ _ _ _ _)
 exact ⟨_, rfl, rfl, by simp [Value.oneCell']⟩
theorem ret_cct {P : Program} {fn : Func} {p p2 t3 : Tmp} {ty ty2 : TypeId} {R : Ending → World → Prop} {a : Act} {w : World} {g g2 : Nat} {t t2 : TypeId} {cs cs2 : Array Value} {d d2 : TypeDesc} {v : Value} (h : fn.results = #[.cell p ty, .cell p2 ty2, .tmp t3]) (hp : a.eval (.tmp p) = .pointer (some ⟨g, 0, none⟩)) (hb : Box w g t cs)
  (hu : P.underlying ty = some d) (hd : (match d with | .struct _ | .array _ _ => true | _ => false) = true) (hi : (P.info? ty).map (·.size) = some cs.size)
  (hp2 : a.eval (.tmp p2) = .pointer (some ⟨g2, 0, none⟩)) (hb2 : Box w g2 t2 cs2) (hu2 : P.underlying ty2 = some d2) (hd2 : (match d2 with | .struct _ | .array _ _ => true | _ => false) = true) (hi2 : (P.info? ty2).map (·.size) = some cs2.size)
  (hv : a.eval (.tmp t3) = v) (hdf : a.defers = []) (hR : R (.returned (.tuple #[.agg cs, .agg cs2, v])) w) : bodyPost P fn R .ret a w := by
 have hr : (results fn a.tmps).run P w = .ok (.tuple #[.agg cs, .agg cs2, v]) w := by
  have hp' : a.tmps[p]?.getD undef = .pointer (some ⟨g, 0, none⟩) := by simpa [Act.eval] using hp
  have hp2' : a.tmps[p2]?.getD undef = .pointer (some ⟨g2, 0, none⟩) := by simpa [Act.eval] using hp2
  have hv' : a.tmps[t3]?.getD undef = v := by simpa [Act.eval] using hv
  simp [results, h, hp', hp2', hv', asAddr, run_loadVar_row w g t ty cs (0, 0) d hb hu hd hi, run_loadVar_row w g2 t2 ty2 cs2 (0, 0) d2 hb2 hu2 hd2 hi2]
 exact bodyPost_ret hr hdf hR
set_option maxHeartbeats 1000000 in
theorem lmake31_any {w0 w : World} {F : List Fact} {K : (Nat → Prop) → World → Prop} {v : Value} {l : List Nat} (hl : ∀ x ∈ l, x < 256) (hS : St w0 w F K) (kp : ∀ D w, K D w → Sl w D 1 v l.length (u8s l)) (kt : ∀ D w, K D w → DTab w ∧ D 0) :
  Calls Tryz.prog 12 #[v] w fun e w' => ∃ x u, e = .returned (.tuple #[x, u, .bool true]) ∧ ∃ p, (∃ L R, MadeP p L R) ∧ St w0 w' F fun D w => K D w ∧ IsProb w D x p ∧ IsRProb w D u p := by
 have HL := Lib.hid hl
 have KS := Lib.hid hS.stable
 go_enter Tryz.func12, Tryz.ntmps12
 go_wp2_with (first
  | ((with_reducible refine qA 2 ?_); refine qa hS #[.int .i64 0, .pointer none, .slice none 0 0, .slice none 0 0, .slice none 0 0, .slice none 0 0] ?_; clear hS; intro g2 w_ hS)
  | ((with_reducible refine qA 3 ?_); refine qa hS #[.int .i64 0, .slice none 0 0, .int .u64 0, .slice none 0 0, .slice none 0 0, .slice none 0 0] ?_; clear hS; intro g3 w_ hS)
  | ((with_reducible refine qA 5 ?_); refine qa hS #[.int .i64 0, .slice none 0 0, .int .u64 0, .slice none 0 0, .slice none 0 0, .slice none 0 0] ?_; clear hS; intro g5 w_ hS)
  | ((with_reducible refine qA 6 ?_); refine qa hS #[.int .i64 0, .pointer none, .slice none 0 0, .slice none 0 0, .slice none 0 0, .slice none 0 0] ?_; clear hS; intro g6 w_ hS)
  | (go_at_call 52; refine (rmake31_any HL.out hS kp).mono ?_; clear hS; rintro e w_ ⟨u, p, L, R, rfl, hM, hS⟩; replace hM := Lib.hid hM; obtain ⟨us, rfl, hu6, hu1⟩ := hS.ro.2.cells; replace hu6 := Lib.hid hu6)
  | (go_at_call 53; refine (lproblem_any hM.out.links hM.out.hok (by have := hM.out.len; omega) hM.out.fits hS (fun D w h => h.2) (fun D w h => kt D w h.1)).mono ?_; clear hS; rintro e w_ ⟨x, rfl, hS⟩; obtain ⟨xs, rfl, hx6, hx1⟩ := hS.ro.2.cells; replace hx6 := Lib.hid hx6)
  | ((with_reducible refine qm 37 ?_); refine st_store hS 0 rfl _ _ _ rfl _ _ rfl rfl _ _ rfl (by rw [hu6.out]; kernel_rfl) (by rw [hu6.out]; rfl) hu1 ?_; clear hS; intro w_ hS; (try simp only [Act.put, Act.eval, z1, z2, z3, z4, z5, z6, z7, z8, Value.cells] at hS))
  | ((with_reducible refine qm 31 ?_); refine st_store hS 0 rfl _ _ _ rfl _ _ rfl rfl _ _ rfl (by rw [hx6.out]; kernel_rfl) (by rw [hx6.out]; rfl) hx1 ?_; clear hS; intro w_ hS; (try simp only [Act.put, Act.eval, z1, z2, z3, z4, z5, z6, z7, z8, Value.cells] at hS))
  | ((with_reducible refine qA 11 ?_); refine BigFrame.wpList_want rfl fun _ hK => opw_row rfl rfl (hS.box 0 rfl) Tryz.underlying37 rfl (by rw [hu6.out]; kernel_rfl) (hK _ _ ?_)))
 obtain ⟨K7, k7, hJ0⟩ : ∃ K7 : (Nat → Prop) → World → Prop, Hid (∀ D w, K7 D w → (K D w ∧ IsRProb w D (.agg us) p) ∧ IsProb w D (.agg xs) p) ∧ St w0 w_.drew (.box g6 31 xs :: .box g5 37 us :: .box g3 37 (cond (false, false).2 us #[.int .i64 0, .slice none 0 0, .int .u64 0, .slice none 0 0, .slice none 0 0, .slice none 0 0]) :: .box g2 31 (cond (false, false).1 xs #[.int .i64 0, .pointer none, .slice none 0 0, .slice none 0 0, .slice none 0 0, .slice none 0 0]) :: F) K7 := ⟨_, Lib.hid fun _ _ h => h, hS.drew⟩
 have hRr := @SR.refl w0 (fun s => .box g6 31 xs :: .box g5 37 us :: .box g3 37 (cond s.2 us #[.int .i64 0, .slice none 0 0, .int .u64 0, .slice none 0 0, .slice none 0 0, .slice none 0 0]) :: .box g2 31 (cond s.1 xs #[.int .i64 0, .pointer none, .slice none 0 0, .slice none 0 0, .slice none 0 0, .slice none 0 0]) :: F) K7
 have hRt := @SR.trans w0 (fun s => .box g6 31 xs :: .box g5 37 us :: .box g3 37 (cond s.2 us #[.int .i64 0, .slice none 0 0, .int .u64 0, .slice none 0 0, .slice none 0 0, .slice none 0 0]) :: .box g2 31 (cond s.1 xs #[.int .i64 0, .pointer none, .slice none 0 0, .slice none 0 0, .slice none 0 0, .slice none 0 0]) :: F) K7
 have hN0 : ∀ _ : Nat, True := fun _ => trivial
 clear hS
 refine wp_region_ghost (fun i__ v w => match i__ with
  | 0 => v = .agg xs
  | 1 => v = .agg us
  | 2 => v = .bool true
  | 3 => w.2.1 = true
  | 4 => w.2.2 = true
  | 5 => v = .bool true
  | _ => True) (SR w0 (fun s => .box g6 31 xs :: .box g5 37 us :: .box g3 37 (cond s.2 us #[.int .i64 0, .slice none 0 0, .int .u64 0, .slice none 0 0, .slice none 0 0, .slice none 0 0]) :: .box g2 31 (cond s.1 xs #[.int .i64 0, .pointer none, .slice none 0 0, .slice none 0 0, .slice none 0 0, .slice none 0 0]) :: F) K7) (fun _ _ => True) ((false, false)) (by kernel_rfl) (by kernel_rfl) hRr hRt ?mono ?hN ⟨?r0, ?r1, ?r2, ?r3, ?r4, ?r5, trivial⟩ ?post
 case hN => first | assumption | (intro i; (try dsimp only); split <;> first | trivial | assumption | (left; assumption))
 case mono =>
  intro i v w w' h hb
  match i, h with
  | 0, h | 1, h | 2, h => exact h
  | 3, h => exact hb.2.1 h
  | 4, h => exact hb.2.2 h
  | 5, h => exact h
  | _ + 6, h => trivial
 case r0 =>
  refine truleGh fun b__ w hW hN hold hpre => wU rfl fun K hK => ?_
  have e6 : b__.eval (.tmp 6) = .pointer (some ⟨g6, 0, none⟩) := (hold 6 (by kernel_rfl)).trans rfl
  exact opw_row rfl e6 ((hW.1 hJ0).box 0 rfl) Tryz.underlying31 rfl (by rw [hx6.out]; kernel_rfl) (hK _ _ rfl ⟨hRr _, fun _ _ h => h⟩)
 case r1 =>
  refine truleGh fun b__ w hW hN hold hpre => wU rfl fun K hK => ?_
  have e5 : b__.eval (.tmp 5) = .pointer (some ⟨g5, 0, none⟩) := (hold 5 (by kernel_rfl)).trans rfl
  exact opw_row rfl e5 ((hW.1 hJ0).box 1 rfl) Tryz.underlying37 rfl (by rw [hu6.out]; kernel_rfl) (hK _ _ rfl ⟨hRr _, fun _ _ h => h⟩)
 case r2 =>
  refine truleGh fun b__ w hW hN hold hpre => wU rfl fun K hK => ?_
  have e7 : b__.eval (.tmp 7) = .bool true := (hold 7 (by kernel_rfl)).trans rfl
  exact opw_move rfl e7 (hK _ _ rfl ⟨hRr _, fun _ _ h => h⟩)
 case r3 =>
  refine truleGh fun b__ w hW hN hold hpre => wU rfl fun K hK => ?_
  have e2 : b__.eval (.tmp 2) = .pointer (some ⟨g2, 0, none⟩) := (hold 2 (by kernel_rfl)).trans rfl
  have e15 : b__.eval (.tmp 15) = .agg xs := pq hpre 0 0 15
  have hS := hW.1 hJ0
  exact opw_store rfl e2 e15 (hS.box 3 rfl) (by rw [hx6.out]; kernel_rfl) (by cases w.2.1; exact hx6.out.symm; rfl) hx1 fun w4 h1 hU => hK undef (w4, (true, w.2.2)) rfl ⟨⟨fun _ => hS.upd 3 rfl (.box g2 31 xs) (upd_gb hU) ⟨(hS.holds _ (List.mem_of_getElem? (i := 3) rfl)).1, h1⟩ fun _ e => .inl e, fun _ => rfl, id⟩, fun _ _ h => h⟩
 case r4 =>
  refine truleGh fun b__ w hW hN hold hpre => wU rfl fun K hK => ?_
  have e3 : b__.eval (.tmp 3) = .pointer (some ⟨g3, 0, none⟩) := (hold 3 (by kernel_rfl)).trans rfl
  have e16 : b__.eval (.tmp 16) = .agg us := pq hpre 0 1 16
  have hS := hW.1 hJ0
  exact opw_store rfl e3 e16 (hS.box 2 rfl) (by rw [hu6.out]; kernel_rfl) (by cases w.2.2; exact hu6.out.symm; rfl) hu1 fun w4 h1 hU => hK undef (w4, (w.2.1, true)) rfl ⟨⟨fun _ => hS.upd 2 rfl (.box g3 37 us) (upd_gb hU) ⟨(hS.holds _ (List.mem_of_getElem? (i := 2) rfl)).1, h1⟩ fun _ e => .inl e, id, fun _ => rfl⟩, fun _ _ h => h⟩
 case r5 =>
  refine truleGh fun b__ w hW hN hold hpre => wU rfl fun K hK => ?_
  have e17 : b__.eval (.tmp 17) = .bool true := pq hpre 0 2 17
  exact opw_assign rfl e17 (hK _ _ rfl ⟨hRr _, fun _ _ h => h⟩)
 case post =>
  intro b__ wz hW hdf hsz hold hT hZ
  have e15 : b__.eval (.tmp 15) = .agg xs := hT 0 _ 15 rfl rfl
  have e16 : b__.eval (.tmp 16) = .agg us := hT 1 _ 16 rfl rfl
  have e17 : b__.eval (.tmp 17) = .bool true := hT 2 _ 17 rfl rfl
  have e4 : b__.eval (.tmp 4) = .bool true := hT 5 _ 4 rfl rfl
  obtain ⟨vs, hvs, hb⟩ := frame_of hdf hsz hold
  replace e15 : vs 15 = .agg xs := (hvs 15).symm.trans e15
  replace e16 : vs 16 = .agg us := (hvs 16).symm.trans e16
  replace e17 : vs 17 = .bool true := (hvs 17).symm.trans e17
  replace e4 : vs 4 = .bool true := (hvs 4).symm.trans e4
  subst hb
  clear hvs hold hT hdf hsz
  simp only [setAll, Act.put, List.setIfInBounds_toArray, List.set_cons_zero, List.set_cons_succ, List.getElem_toArray, List.getElem_cons_succ, List.getElem_cons_zero]
  obtain ⟨_, hst⟩ := hZ 3 _ rfl rfl
  obtain ⟨_, hst2⟩ := hZ 4 _ rfl rfl
  have hS : St w0 wz.1 (.box g6 31 xs :: .box g5 37 us :: .box g3 37 (cond wz.2.2 us #[.int .i64 0, .slice none 0 0, .int .u64 0, .slice none 0 0, .slice none 0 0, .slice none 0 0]) :: .box g2 31 (cond wz.2.1 xs #[.int .i64 0, .pointer none, .slice none 0 0, .slice none 0 0, .slice none 0 0, .slice none 0 0]) :: F) K7 := hW.1 hJ0
  rw [show wz.2.1 = true from hst, show wz.2.2 = true from hst2] at hS
  dsimp only [cond] at hS
  clear hW hZ hJ0 hRr hRt hN0 hst hst2
  generalize wz.1 = wf at *
  simp only [show vs (4 : Nat) = _ from e4]
  go_wp2_with fail
  refine ret_cct Tryz.results12 rfl (hS.box 3 rfl) Tryz.underlying31 rfl (by rw [hx6.out]; kernel_rfl) rfl (hS.box 2 rfl) Tryz.underlying37 rfl (by rw [hu6.out]; kernel_rfl) rfl rfl ?_
  exact ⟨_, _, rfl, p, ⟨L, R, hM.out⟩, (hS.sub (F' := F) ((((List.sublist_cons_self _ _).trans (List.sublist_cons_self _ _)).trans (List.sublist_cons_self _ _)).trans (List.sublist_cons_self _ _))).mono (KS.out.and (stable_prob.and stable_rprob)) fun D w h => ⟨(k7.out _ _ h).1.1, (k7.out _ _ h).2, (k7.out _ _ h).1.2⟩⟩
end Go.Proofs.YtihpgmbinhmmlaaGreatDoor
namespace Go.Proofs.YtihpgmbinhmmlaaGreatDoor
open Go.RowKit
attribute [local go_sem ↓] Go.wp_at_zero Go.wp_at_succ
set_option maxRecDepth 20000
set_option exponentiation.threshold 5000

theorem tc_role {L : List (Nat × Nat)} (hH : HOK L) {a b : Nat} (h : TC L a b) : (1 ≤ a ∧ a < 64) ∧ 1 ≤ b ∧ b < 64 := by
 obtain ⟨y, h1, _⟩ := h.first
 obtain ⟨z, h2, _⟩ := h.last
 exact ⟨(hH.role _ h1).1, (hH.role _ h2).2⟩
end Go.Proofs.YtihpgmbinhmmlaaGreatDoor
namespace Go.Proofs.YtihpgmbinhmmlaaGreatDoor
open Go.RowKit
attribute [local go_sem ↓] Go.wp_at_zero Go.wp_at_succ
set_option maxRecDepth 20000
set_option exponentiation.threshold 5000

theorem hasB_nat {N t : Nat} : hasB N (t : Int) = N.testBit t := by simp [hasB]
end Go.Proofs.YtihpgmbinhmmlaaGreatDoor
namespace Go.Proofs.YtihpgmbinhmmlaaGreatDoor
open Go.RowKit
set_option exponentiation.threshold 5000

theorem rolesN_mask : ∀ R, R < 6 → rolesN R = maskR R := by decide
theorem role_in : ∀ R, R < 6 → ∀ z, z < 6 → 1 ≤ z → z ≤ R → (maskR R).testBit z = true := by decide
theorem role_hasB {R : Nat} (hR : R ≤ 5) {i : Int} (h1 : 1 ≤ i) (h2 : i ≤ R) : hasB (maskR R) i = true := by
 obtain ⟨z, rfl⟩ : ∃ z : Nat, i = (z : Int) := ⟨i.toNat, by omega⟩
 rw [hasB_nat]
 exact role_in R (by omega) z (by omega) (by omega) (by omega)
theorem over_of {m : Nat} {z : Nat × Nat} (h1 : z.1 &&& m = z.1) (h2 : z.2 &&& m = z.2) : overB m z = true := by
 unfold overB
 rw [beq_iff_eq]
 exact mask_ext fun i => by
  have a : (z.1 &&& m).testBit i = z.1.testBit i := by rw [h1]
  have b : (z.2 &&& m).testBit i = z.2.testBit i := by rw [h2]
  rw [Nat.testBit_and] at a b
  rw [Nat.testBit_and, Nat.testBit_or]
  cases h3 : z.1.testBit i <;> cases h4 : z.2.testBit i <;> cases h5 : m.testBit i <;> simp_all
theorem MadeP.check {p : ProbD} {L : List (Nat × Nat)} {R : Nat} (h : MadeP p L R) : checkE p = 0 := by
 have hR := h.r5
 have hm := rolesN_mask R (by omega)
 have hc : ∀ z ∈ p.cubes, z.1 &&& maskR R = z.1 ∧ z.2 &&& maskR R = z.2 ∧ z.1 &&& z.2 = 0 := fun z hz => by
  unfold ProbD.cubes at hz
  rcases List.mem_append.1 hz with hz | hz
  ·rcases List.mem_append.1 hz with hz | hz
   ·obtain ⟨r, hr, rfl⟩ := List.mem_map.1 hz
    have := h.rules r hr
    exact ⟨this.2.2.1, this.2.2.2.1, this.2.2.2.2.1⟩
   ·have := (h.never z hz).1; exact ⟨this.1, this.2.1, this.2.2.1⟩
  ·have := h.goal z hz; exact ⟨this.1, this.2.1, this.2.2.1⟩
 unfold checkE
 rw [h.links]
 dsimp only
 rw [h.roles, Int.toNat_natCast, hm, if_neg (by have := h.r2; omega), if_neg (by have := h.rlen; have := h.nlen; have := h.glen; omega), if_neg, if_neg, if_neg]
 ·unfold goodB
  rw [h.links]
  dsimp only
  intro e
  rw [Bool.not_eq_false', List.any_eq_true] at e
  obtain ⟨z, hz, e⟩ := e
  rw [(h.never z hz).2] at e; cases e
 ·rintro (e | e)
  ·obtain ⟨z, hz, e⟩ := List.any_eq_true.1 e
   rw [(hc z hz).2.2] at e; cases e
  ·have : p.rules.all revB = true := List.all_eq_true.2 fun r hr => by
    unfold revB
    cases hr' : r.revoke with
    | false => rfl
    | true =>
     have := (h.rules r hr).2.2.2.2.2.2.2 hr'
     simp [this]
   rw [this] at e; cases e
 ·have : knownB p L (maskR R) = true := by
   unfold knownB
   rw [Bool.and_eq_true, Bool.and_eq_true, Bool.and_eq_true]
   refine ⟨by rw [h.start]; simp, List.all_eq_true.2 fun z hz => ?_, List.all_eq_true.2 fun r hr => ?_, List.all_eq_true.2 fun z hz => over_of (hc z hz).1 (hc z hz).2.1⟩
   ·have := h.inr z hz
    rw [Bool.and_eq_true]
    exact ⟨role_hasB hR (by omega) (by omega), role_hasB hR (by omega) (by omega)⟩
   ·have := (h.rules r hr).1
    exact role_hasB hR (by omega) (by omega)
  rw [this]; exact nofun
theorem MadeP.rel {p : ProbD} {L : List (Nat × Nat)} {R : Nat} (h : MadeP p L R) : relS p = relM L p := by
 unfold relS
 rw [if_pos h.check, h.links]
end Go.Proofs.YtihpgmbinhmmlaaGreatDoor
namespace Go.Proofs.YtihpgmbinhmmlaaGreatDoor
open Go.RowKit
attribute [local go_sem ↓] Go.wp_at_zero Go.wp_at_succ
set_option maxRecDepth 20000
set_option exponentiation.threshold 5000

theorem rolesN_lt (r : Nat) : rolesN r < 2 ^ (r + 1) := by
 have h1 : 2 ^ (r + 1) - 1 < 2 ^ (r + 1) := by have := Nat.two_pow_pos (r + 1); omega
 unfold rolesN del
 split
 ·exact Nat.xor_lt_two_pow h1 (Nat.pow_lt_pow_right (by decide) (by simp))
 ·exact h1
theorem has_roles {r : Nat} {i : Int} (h : hasB (rolesN r) i = true) : ∃ t : Nat, i = (t : Int) ∧ t ≤ r := by
 unfold hasB at h
 simp only [Bool.and_eq_true, decide_eq_true_eq] at h
 refine ⟨i.toNat, by omega, ?_⟩
 rcases Nat.lt_or_ge i.toNat (r + 1) with h1 | h1
 ·omega
 ·have := Nat.testBit_lt_two_pow (Nat.lt_of_lt_of_le (rolesN_lt r) (Nat.pow_le_pow_right (by decide) h1))
  rw [this] at h; cases h.2
theorem checkE_known {p : ProbD} {L : List (Nat × Nat)} (h : checkE p = 0) (hl : p.links = some L) : (1 ≤ p.roles ∧ p.roles ≤ 63) ∧ knownB p L (rolesN p.roles.toNat) = true := by
 unfold checkE at h
 rw [hl] at h
 dsimp only at h
 split at h
 ·cases h
 ·rename_i h1
  split at h
  ·cases h
  ·split at h
   ·cases h
   ·rename_i h2
    exact ⟨by omega, by simpa using h2⟩
theorem target_nat {p : ProbD} {L : List (Nat × Nat)} (h : checkE p = 0) (hl : p.links = some L) {r : RuleD} (hr : r ∈ p.rules) : ∃ t : Nat, r.target = (t : Int) ∧ t < 64 := by
 obtain ⟨h1, h2⟩ := checkE_known h hl
 unfold knownB at h2
 simp only [Bool.and_eq_true] at h2
 obtain ⟨t, e, ht⟩ := has_roles (List.all_eq_true.1 h2.2.2.1 r hr)
 exact ⟨t, e, by omega⟩
theorem cnt_lt {α : Type} {p q : α → Bool} (h : ∀ x, q x = true → p x = true) {r : α} (hp : p r = true) (hq : q r = false) : ∀ {l : List α}, r ∈ l → (l.filter q).length < (l.filter p).length
 | x :: l, hr => by
  have hle : ∀ l : List α, (l.filter q).length ≤ (l.filter p).length := fun l => by
   induction l with
   | nil => simp
   | cons y l ih =>
    rw [List.filter_cons, List.filter_cons]
    by_cases hy : q y = true
    ·rw [if_pos hy, if_pos (h y hy)]; simpa using ih
    ·rw [if_neg hy]; split
     ·simp; omega
     ·exact ih
  rcases List.mem_cons.1 hr with rfl | hr
  ·rw [List.filter_cons, List.filter_cons, if_neg (by rw [hq]; decide), if_pos hp]
   have := hle l
   simp; omega
  ·have ih := cnt_lt h hp hq hr
   rw [List.filter_cons, List.filter_cons]
   by_cases hy : q x = true
   ·rw [if_pos hy, if_pos (h x hy)]; simpa using ih
   ·rw [if_neg hy]; split
    ·simp; omega
    ·exact ih
theorem tb_closM {L : List (Nat × Nat)} {s i : Nat} : (closM L s).testBit i = true ↔ ∃ r, r < 64 ∧ 1 ≤ r ∧ s.testBit r = true ∧ (junM L r).testBit i = true := by
 unfold closM; exact tb_closTo
theorem Sub.clos {L : List (Nat × Nat)} {a b : Nat} (h : Sub a b) : Sub (closM L a) (closM L b) := fun i hi => by
 obtain ⟨r, h1, h2, h3, h4⟩ := tb_closM.1 hi
 exact tb_closM.2 ⟨r, h1, h2, h r h3, h4⟩
theorem within_iff {a b : Nat} : (a &&& b == a) = true ↔ Sub a b := by
 rw [beq_iff_eq]
 constructor
 ·intro h i hi
  rw [← h, Nat.testBit_and, Bool.and_eq_true] at hi
  exact hi.2
 ·intro h
  refine mask_ext fun i => ?_
  rw [Nat.testBit_and, Bool.and_eq_true]
  exact ⟨fun h => h.1, fun hi => ⟨hi, h i hi⟩⟩
structure UCl (L : List (Nat × Nat)) (p : ProbD) (T : Nat) : Prop where
 start : Sub p.start T
 rules : ∀ r ∈ p.rules, r.revoke = false → (r.yes &&& closM L T == r.yes) = true → hasB T r.target = true
def ULow (L : List (Nat × Nat)) (p : ProbD) (N : Nat) : Prop := Sub p.start N ∧ ∀ T, UCl L p T → Sub N T
def ULeast (L : List (Nat × Nat)) (p : ProbD) (N : Nat) : Prop := UCl L p N ∧ ∀ T, UCl L p T → Sub N T
open Classical in
noncomputable def uppM (L : List (Nat × Nat)) (p : ProbD) : Nat := if h : ∃ N, ULeast L p N then Classical.choose h else 0
theorem ULeast.eq {L : List (Nat × Nat)} {p : ProbD} {N : Nat} (h : ULeast L p N) : N = uppM L p := by
 have hx : ∃ N, ULeast L p N := ⟨N, h⟩
 have k : ULeast L p (uppM L p) := by unfold uppM; rw [dif_pos hx]; exact Classical.choose_spec hx
 exact (h.2 _ k.1).anti (k.2 _ h.1)
theorem ULow.add {L : List (Nat × Nat)} {p : ProbD} {N t : Nat} (h : ULow L p N) {r : RuleD} (hr : r ∈ p.rules) (h1 : r.revoke = false) (h2 : (r.yes &&& closM L N == r.yes) = true) (ht : r.target = (t : Int)) : ULow L p (N ||| 2 ^ t) :=
 ⟨h.1.trans (Sub.left _ _), fun T hT => (h.2 T hT).or fun i hi => by
  have e : i = t := tb_pow.1 hi
  subst e
  have := hT.rules r hr h1 (within_iff.2 ((within_iff.1 h2).trans (h.2 T hT).clos))
  rw [ht] at this
  unfold hasB at this
  simp only [Bool.and_eq_true] at this
  simpa using this.2⟩
def lacks (N : Nat) (l : List RuleD) : Nat := (l.filter fun r => !hasB N r.target).length
theorem lacks_lt {N t : Nat} {l : List RuleD} {r : RuleD} (hr : r ∈ l) (ht : r.target = (t : Int)) (hn : hasB N r.target = false) : lacks (N ||| 2 ^ t) l < lacks N l := by
 refine cnt_lt (r := r) (fun x hx => ?_) (by rw [hn]; rfl) ?_ hr
 ·cases hb : hasB N x.target with
  | false => rfl
  | true => rw [(Sub.left N (2 ^ t)).has hb] at hx; cases hx
 ·rw [ht]; simp [hasB]
noncomputable def uslN (C : Nat) (l : List RuleD) (j : Nat) : List Int := ((List.range j).filter fun k : Nat => !(l.getD k dfltR).revoke && !((l.getD k dfltR).yes &&& C == (l.getD k dfltR).yes)).map fun k : Nat => (k : Int)
theorem uslN_step {C : Nat} {l : List RuleD} {j : Nat} {r : RuleD} (h : l[j]? = some r) : uslN C l (j + 1) = if (!r.revoke && !(r.yes &&& C == r.yes)) = true then uslN C l j ++ [(j : Int)] else uslN C l j := by
 unfold uslN
 have e : l.getD j dfltR = r := by rw [List.getD_eq_getElem?_getD, h]; rfl
 rw [List.range_succ, List.filter_append, List.map_append]
 by_cases e2 : (!r.revoke && !(r.yes &&& C == r.yes)) = true
 ·rw [if_pos e2, List.filter_cons, e, if_pos e2]; rfl
 ·rw [if_neg e2, List.filter_cons, e, if_neg e2]; simp
noncomputable def useN (p : ProbD) : List Int := if checkE p = 0 then (match p.links with
 | none => []
 | some L => uslN (closM L (uppM L p)) p.rules p.rules.length) else []
structure URnd (L : List (Nat × Nat)) (p : ProbD) (B N : Nat) (b : Bool) (j : Nat) : Prop where
 low : ULow L p N
 yes : b = true → lacks N p.rules < lacks B p.rules
 no : b = false → N = B ∧ ∀ r ∈ p.rules.take j, r.revoke = false → (r.yes &&& closM L N == r.yes) = true → hasB N r.target = true
theorem URnd.skip {L : List (Nat × Nat)} {p : ProbD} {B N : Nat} {b : Bool} {j : Nat} (h : URnd L p B N b j) {r : RuleD} (hj : p.rules[j]? = some r) (h1 : r.revoke = true ∨ hasB N r.target = true ∨ (r.yes &&& closM L N == r.yes) = false) : URnd L p B N b (j + 1) :=
 ⟨h.low, h.yes, fun e => ⟨(h.no e).1, fun x hx a c => (take_mem hj hx).elim (fun hx => (h.no e).2 x hx a c) fun e2 => by
  subst e2
  rcases h1 with h1 | h1 | h1
  ·rw [h1] at a; cases a
  ·exact h1
  ·rw [h1] at c; cases c⟩⟩
theorem URnd.add {L : List (Nat × Nat)} {p : ProbD} {B N t : Nat} {b : Bool} {j : Nat} (h : URnd L p B N b j) {r : RuleD} (hj : p.rules[j]? = some r) (h1 : r.revoke = false) (h2 : hasB N r.target = false) (h3 : (r.yes &&& closM L N == r.yes) = true) (ht : r.target = (t : Int)) : URnd L p B (N ||| 2 ^ t) true (j + 1) :=
 ⟨h.low.add (List.mem_of_getElem? hj) h1 h3 ht, fun _ => by
  have h4 := lacks_lt (List.mem_of_getElem? hj) ht h2
  cases b with
  | true => exact Nat.lt_trans h4 (h.yes rfl)
  | false => rw [← (h.no rfl).1]; exact h4, fun e => by cases e⟩
end Go.Proofs.YtihpgmbinhmmlaaGreatDoor
namespace Go.Proofs.YtihpgmbinhmmlaaGreatDoor
open Go.RowKit
attribute [local go_sem ↓] Go.wp_at_zero Go.wp_at_succ
set_option maxRecDepth 20000
set_option exponentiation.threshold 5000

set_option maxHeartbeats 4000000 in
theorem useless_any {w0 : World} {D : Nat → Prop} {v : Value} {p : ProbD} (hp : IsProb w0 D v p) (hP : p.Ok) (hT : DTab w0) : Calls Tryz.prog 21 #[v] w0 fun e w' => ∃ u, e = .returned u ∧ St w0 w' [.own u 3 1 (useN p).length (ints (useN p))] fun _ _ => True := by
 obtain ⟨R, lk, st, rl, nl, gl⟩ := p
 have HP := Lib.hid hP
 have hP1 := hP.rules
 dsimp only at hP1
 clear hP
 obtain ⟨lp, s, rv, nv, gv, rfl, h1, h2, h3, h4, h5⟩ := hp
 dsimp only at h1 h2 h3 h4 h5 ⊢
 obtain ⟨Cs, ns, cs, rfl⟩ := h2.shape
 obtain ⟨Ar, cr, rfl, _, _⟩ := h3.shape
 obtain ⟨An, cn, rfl, _, _⟩ := h4.shape
 obtain ⟨Ag, cg, rfl, _, _⟩ := h5.shape
 obtain ⟨K, kp, kho, ks, kr, kt, hS⟩ : ∃ K : (Nat → Prop) → World → Prop, (∀ D w, K D w → IsProb w D (.agg #[.int .i64 R, lp, .slice Cs ns cs, .slice Ar rl.length cr, .slice An nl.length cn, .slice Ag gl.length cg]) ⟨R, lk, st, rl, nl, gl⟩) ∧ (∀ D w, K D w → IsHo w D lp lk) ∧ (∀ D w, K D w → IsSet w D (.agg #[.slice Cs ns cs]) st) ∧ (∀ D w, K D w → IsRules w D (.slice Ar rl.length cr) rl) ∧ (∀ D w, K D w → DTab w) ∧ St w0 w0 [] K :=
  ⟨fun D w => ((IsHo w D lp lk ∧ IsSet w D (.agg #[.slice Cs ns cs]) st) ∧ IsRules w D (.slice Ar rl.length cr) rl ∧ IsCubes w D (.slice An nl.length cn) nl ∧ IsCubes w D (.slice Ag gl.length cg) gl) ∧ (DTab w ∧ D 0), fun _ _ h => ⟨_, _, _, _, _, rfl, h.1.1.1, h.1.1.2, h.1.2.1, h.1.2.2.1, h.1.2.2.2⟩, fun _ _ h => h.1.1.1, fun _ _ h => h.1.1.2, fun _ _ h => h.1.2.1, fun _ _ h => h.2.1,
   St.start (D := fun _ => True) (((stable_ho.and stable_set).and (stable_rules.and (stable_cubes.and stable_cubes))).and dtab_stable) ⟨⟨⟨stable_ho D _ w0 w0 h1 (Nat.le_refl _) (fun _ _ _ _ h => h) fun _ _ _ _ => trivial, h2.imp fun _ _ _ => trivial⟩, stable_rules D _ w0 w0 h3 (Nat.le_refl _) (fun _ _ _ _ h => h) fun _ _ _ _ => trivial, h4.imp fun _ _ _ => trivial, h5.imp fun _ _ _ => trivial⟩, hT, trivial⟩⟩
 clear h1 h2 h3 h4 h5 hT
 have KS := Lib.hid hS.stable
 obtain ⟨e, he⟩ : ∃ e, e = checkE ⟨R, lk, st, rl, nl, gl⟩ := ⟨_, rfl⟩
 have HE := Lib.hid he
 clear he
 by_cases h0 : e = 0
 ·subst h0
  cases lk with
  | none => have := HE.out; cases this
  | some L =>
   have HH := Lib.hid (HP.out.links L rfl).1
   have HTG := Lib.hid fun (r : RuleD) (hr : r ∈ rl) => target_nat HE.out.symm rfl (r := r) hr
   have HUS : Hid (useN ⟨R, some L, st, rl, nl, gl⟩ = uslN (closM L (uppM L ⟨R, some L, st, rl, nl, gl⟩)) rl rl.length) := Lib.hid (by unfold useN; rw [if_pos HE.out.symm])
   rw [HUS.out]
   obtain ⟨q, o, rfl, -⟩ := id (kho _ _ hS.ro)
   have kh : ∀ D w, K D w → IsH w D (.pointer (some ⟨q, 0, none⟩)) L := fun D w h => kho D w h
   go_enter Tryz.func21, Tryz.ntmps21
   go_wp2_with (first
    | ((with_reducible refine qA 1 ?_); refine st_box hS rfl _ _ rfl (.agg #[.int .i64 R, .pointer (some ⟨q, 0, none⟩), .slice Cs ns cs, .slice Ar rl.length cr, .slice An nl.length cn, .slice Ag gl.length cg]) _ rfl rfl ?_; clear hS; intro g1 w_ hS; (try simp only [Act.put, Act.eval, z1, z2, z3, z4, z5, z6, z7, z8, Value.cells] at hS))
    | ((with_reducible refine qA 3 ?_); refine qa hS #[.slice none 0 0] ?_; clear hS; intro g3 w_ hS)
    | ((with_reducible refine qB ?_); (first | refine q1 ?_ ?_ | refine q2 ?_ ?_ | refine q3 ?_ ?_ | refine q4 ?_ ?_ | refine q5 ?_ ?_ | refine q6 ?_ ?_) <;> intro h_ <;> go_prune)
    | ((with_reducible refine qK ?_); refine qL hS Tryz.underlying31 ?_)
    | ((with_reducible refine qk 27 ?_); first | (refine st_setl hS 0 rfl _ _ rfl _ _ rfl _ _ rfl _ (by first | rfl | assumption) Tryz.underlying27 rfl (by kernel_rfl) ?_) | (refine st_setl hS 1 rfl _ _ rfl _ _ rfl _ _ rfl _ (by first | rfl | assumption) Tryz.underlying27 rfl (by kernel_rfl) ?_) | (refine st_setl hS 2 rfl _ _ rfl _ _ rfl _ _ rfl _ (by first | rfl | assumption) Tryz.underlying27 rfl (by kernel_rfl) ?_) | (refine st_setl hS 3 rfl _ _ rfl _ _ rfl _ _ rfl _ (by first | rfl | assumption) Tryz.underlying27 rfl (by kernel_rfl) ?_) | (refine st_setl hS 4 rfl _ _ rfl _ _ rfl _ _ rfl _ (by first | rfl | assumption) Tryz.underlying27 rfl (by kernel_rfl) ?_) | (refine st_setl hS 5 rfl _ _ rfl _ _ rfl _ _ rfl _ (by first | rfl | assumption) Tryz.underlying27 rfl (by kernel_rfl) ?_))
    | ((with_reducible refine qM ?_); (first | refine qS hS ?_ | refine qT hS ?_); clear hS; intro w_ hS; (try simp only [Act.put, Act.eval, z1, z2, z3, z4, z5, z6, z7, z8, Value.cells] at hS))
    | (go_at_call 18; refine (schk_any (kp _ _ hS.ro) HP.out (kt _ _ hS.ro)).mono ?_; rw [← HE.out]; rintro r_ w_ ⟨_, rfl, rfl, hb_⟩; replace hS := hS.ext hb_; clear hb_))
   go_loopg [4] (2 * lacks st rl + 1) (fun k mv wr => ∃ (mb : Bool) (u : Value) (N : Nat), mv = .bool mb ∧ 2 * lacks N rl + (if mb = true then 1 else 0) ≤ k ∧ Hid (ULow L ⟨R, some L, st, rl, nl, gl⟩ N ∧ (mb = false → ∀ r ∈ rl, r.revoke = false → (r.yes &&& closM L N == r.yes) = true → hasB N r.target = true)) ∧ St w0 wr [.box g3 27 #[u], .box g1 31 #[.int .i64 R, .pointer (some ⟨q, 0, none⟩), .slice Cs ns cs, .slice Ar rl.length cr, .slice An nl.length cn, .slice Ag gl.length cg]] (fun D w => K D w ∧ IsSet w D (.agg #[u]) N))
   case atStart => exact ⟨true, _, st, rfl, by simp, Lib.hid ⟨⟨Sub.refl _, fun T hT => hT.start⟩, nofun⟩, hS.mono (KS.out.and stable_set) fun D w h => ⟨h, ks _ _ h⟩⟩
   case round =>
    clear hS
    obtain ⟨mb, u, B, rfl, hgk, HI, hS⟩ := hrel
    have HGK := Lib.hid hgk
    clear hgk
    cases mb
    ·have HU : Hid (B = uppM L ⟨R, some L, st, rl, nl, gl⟩) := Lib.hid (ULeast.eq ⟨⟨HI.out.1.1, HI.out.2 rfl⟩, HI.out.1.2⟩)
     obtain ⟨N0, rfl⟩ : ∃ N0, N0 = B := ⟨_, rfl⟩
     clear HI HGK
     go_wp2_with (first | ((with_reducible refine qK ?_); refine qC hS ?_))
     have hSn := hS.nil 3 1
     clear hS
     have hS := hSn
     clear hSn
     go_loopw [7, 51] (fun kw i wr => ∃ (j : Nat) (kv : Value), i = .int .i64 (j : Nat) ∧ kv = kw ∧ j ≤ rl.length ∧ St w0 wr (.own kv 3 1 (uslN (closM L N0) rl j).length (ints (uslN (closM L N0) rl j)) :: [.box g3 27 #[u], .box g1 31 #[.int .i64 R, .pointer (some ⟨q, 0, none⟩), .slice Cs ns cs, .slice Ar rl.length cr, .slice An nl.length cn, .slice Ag gl.length cg]]) (fun D w => K D w ∧ IsSet w D (.agg #[u]) N0)) (fun _ i _ => rl.length - (intOf i).toNat)
     case atStart => exact ⟨0, _, rfl, rfl, by omega, hS⟩
     case round =>
      clear hS
      obtain ⟨j, kv, rfl, rfl, hj, hS⟩ := hrel
      by_cases hlj : j < rl.length
      ·obtain ⟨b, o2, y, n, rfl, _, hb, c0, c1, c2, c3, c4, hy, hn⟩ := (kr _ _ hS.ro.1).at_ hlj
       obtain ⟨Ay, my, cy, rfl⟩ := hy.shape
       obtain ⟨Am, mn, cm, rfl⟩ := hn.shape
       have HTN := Lib.hid (uslN_step (C := closM L N0) (getD_at dfltR hlj))
       have HLK : Hid ((uslN (closM L N0) rl j).length ≤ 100000) := Lib.hid (by unfold uslN; rw [List.length_map]; exact Nat.le_trans (List.length_filter_le _ _) (by rw [List.length_range]; omega))
       obtain ⟨KC, kc, hS2⟩ : ∃ KC : (Nat → Prop) → World → Prop, Hid (∀ D w, KC D w → K D w ∧ IsSet w D (.agg #[u]) N0 ∧ IsSet w D (.agg #[.slice Ay my cy]) (rl.getD j dfltR).yes ∧ IsSet w D (.agg #[.slice Am mn cm]) (rl.getD j dfltR).no) ∧ St w0 wr (.own kv 3 1 (uslN (closM L N0) rl j).length (ints (uslN (closM L N0) rl j)) :: [.box g3 27 #[u], .box g1 31 #[.int .i64 R, .pointer (some ⟨q, 0, none⟩), .slice Cs ns cs, .slice (some ⟨b, o2, none⟩) rl.length cr, .slice An nl.length cn, .slice Ag gl.length cg]]) KC := ⟨_, Lib.hid fun D w h => ⟨h.1.1, h.1.2, h.2.1, h.2.2⟩, hS.add (D := Free _) (stable_set.and stable_set) ⟨hy, hn⟩ fun _ h _ => h⟩
       clear hS hy hn
       have hS := hS2
       clear hS2
       generalize rl.getD j dfltR = z at *
       obtain ⟨rv, ry, rn, rt, ro⟩ := z
       dsimp only at kc c0 c1 c2 c3 c4 HTN
       obtain ⟨b2, hb2⟩ : ∃ b, b = (ry &&& closM L N0 == ry) := ⟨_, rfl⟩
       have HB2 := Lib.hid hb2
       rw [← hb2] at HTN
       clear hb2
       generalize hKN : uslN (closM L N0) rl j = KN at *
       clear hKN
       cases rv
       ·cases b2
        ·obtain ⟨b2, hb2'⟩ : ∃ b, b = false := ⟨_, rfl⟩
         rw [← hb2'] at HB2
         have hkl := HLK.out
         go_wp2_with (first
          | ((with_reducible refine qB ?_); (first | refine q1 ?_ ?_ | refine q2 ?_ ?_ | refine q3 ?_ ?_ | refine q4 ?_ ?_ | refine q5 ?_ ?_ | refine q6 ?_ ?_) <;> intro h_ <;> go_prune)
          | ((with_reducible refine qA 55 ?_); refine BigFrame.wpList_want rfl fun _ hK => opw_mid (cs := [.bool _, .slice Ay my cy, .slice Am mn cm, .int .i64 rt, .int .i64 ro]) rfl rfl (rng5 c0 c1 c2 c3 c4) Tryz.underlying58 rfl (by kernel_rfl) (hK _ _ ?_))
          | ((with_reducible refine qA 9 ?_); refine qa hS #[.bool false, .slice none 0 0, .slice none 0 0, .int .i64 0, .int .i64 0] ?_; clear hS; intro g9 w_ hS)
          | ((with_reducible refine qM ?_); (first | refine qS hS ?_ | refine qT hS ?_); clear hS; intro w_ hS; (try simp only [Act.put, Act.eval, z1, z2, z3, z4, z5, z6, z7, z8, Value.cells] at hS)))
         refine wp_region_typed (fun i__ v w => match i__ with
          | 0 => v = .pointer (some ⟨g9, 0, none⟩)
          | 1 => v = .bool false
          | 2 => v = .bool true
          | 3 => v = .bool true
          | 4 => v = .pointer (some ⟨g9, 1, none⟩)
          | 5 => v = .pointer (some ⟨g9, 1, none⟩)
          | 6 => v = .agg #[.slice Ay my cy]
          | 7 => v = .pointer (some ⟨g1, 1, none⟩)
          | 8 => v = .pointer (some ⟨q, 0, none⟩)
          | 9 => v = .agg #[u]
          | 10 => IsSet w (fun _ => True) v (closM L N0)
          | 11 => v = .bool b2
          | 12 => v = .bool (!b2)
          | 13 => v = .bool (!b2)
          | _ => True) (by kernel_rfl) (by kernel_rfl) ?mono ⟨?r0, ?r1, ?r2, ?r3, ?r4, ?r5, ?r6, ?r7, ?r8, ?r9, ?r10, ?r11, ?r12, ?r13, trivial⟩ ?post
         case mono =>
          intro i v w w' h hb
          match i, h with
          | 0, h | 1, h | 2, h | 3, h | 4, h | 5, h | 6, h | 7, h | 8, h | 9, h => exact h
          | 10, h => exact h.ext hb
          | 11, h | 12, h | 13, h => exact h
          | _ + 14, h => trivial
         case r0 =>
          refine trule fun b__ w hW hold hpre => wU rfl fun K hK => ?_
          have e9 : b__.eval (.tmp 9) = .pointer (some ⟨g9, 0, none⟩) := (hold 9 (by kernel_rfl)).trans rfl
          exact opw_faddr rfl e9 (by kernel_rfl) (hK _ _ rfl (Below.refl _ _))
         case r1 =>
          refine trule fun b__ w hW hold hpre => wU rfl fun K hK => ?_
          have e56 : b__.eval (.tmp 56) = .pointer (some ⟨g9, 0, none⟩) := pq hpre 0 0 56
          exact opw_cell rfl e56 (by kernel_rfl) (((hS.ext (undrew hW)).box 0 rfl).cell 0) (hK _ _ rfl (Below.refl _ _))
         case r2 =>
          refine trule fun b__ w hW hold hpre => wU rfl fun K hK => ?_
          have e57 : b__.eval (.tmp 57) = .bool false := pq hpre 0 1 57
          exact opw_un rfl e57 rfl (hK _ _ rfl (Below.refl _ _))
         case r3 =>
          refine trule fun b__ w hW hold hpre => wU rfl fun K hK => ?_
          have e58 : b__.eval (.tmp 58) = .bool true := pq hpre 0 2 58
          exact opw_move rfl e58 (hK _ _ rfl (Below.refl _ _))
         case r4 =>
          refine trule fun b__ w hW hold hpre => wT rfl rfl rfl (show b__.eval (.tmp 59) = .bool true from pq hpre 0 3 59) fun K hK => ?_
          have e9 : b__.eval (.tmp 9) = .pointer (some ⟨g9, 0, none⟩) := (hold 9 (by kernel_rfl)).trans rfl
          exact opw_faddr rfl e9 (by kernel_rfl) (hK _ _ rfl (Below.refl _ _))
         case r5 =>
          refine trule fun b__ w hW hold hpre => wT rfl rfl rfl (show b__.eval (.tmp 59) = .bool true from pq hpre 1 3 59) fun K hK => ?_
          have e60 : b__.eval (.tmp 60) = .pointer (some ⟨g9, 1, none⟩) := pq hpre 0 4 60
          exact opw_faddr rfl e60 (by kernel_rfl) (hK _ _ rfl (Below.refl _ _))
         case r6 =>
          refine trule fun b__ w hW hold hpre => wT rfl rfl rfl (show b__.eval (.tmp 59) = .bool true from pq hpre 1 3 59) fun K hK => ?_
          have e61 : b__.eval (.tmp 61) = .pointer (some ⟨g9, 1, none⟩) := pq hpre 0 5 61
          exact opw_row1 rfl e61 ((hS.ext (undrew hW)).box 0 rfl) rfl Tryz.underlying27 (by kernel_rfl) (by kernel_rfl) (hK _ _ rfl (Below.refl _ _))
         case r7 =>
          refine trule fun b__ w hW hold hpre => wT rfl rfl rfl (show b__.eval (.tmp 59) = .bool true from pq hpre 0 3 59) fun K hK => ?_
          have e1 : b__.eval (.tmp 1) = .pointer (some ⟨g1, 0, none⟩) := (hold 1 (by kernel_rfl)).trans rfl
          exact opw_faddr rfl e1 (by kernel_rfl) (hK _ _ rfl (Below.refl _ _))
         case r8 =>
          refine trule fun b__ w hW hold hpre => wT rfl rfl rfl (show b__.eval (.tmp 59) = .bool true from pq hpre 1 3 59) fun K hK => ?_
          have e63 : b__.eval (.tmp 63) = .pointer (some ⟨g1, 1, none⟩) := pq hpre 0 7 63
          exact opw_cell rfl e63 (by kernel_rfl) (((hS.ext (undrew hW)).box 3 rfl).cell 1) (hK _ _ rfl (Below.refl _ _))
         case r9 =>
          refine trule fun b__ w hW hold hpre => wT rfl rfl rfl (show b__.eval (.tmp 59) = .bool true from pq hpre 0 3 59) fun K hK => ?_
          have e3 : b__.eval (.tmp 3) = .pointer (some ⟨g3, 0, none⟩) := (hold 3 (by kernel_rfl)).trans rfl
          exact opw_row rfl e3 ((hS.ext (undrew hW)).box 2 rfl) Tryz.underlying27 rfl (by kernel_rfl) (hK _ _ rfl (Below.refl _ _))
         case r10 =>
          refine trule fun b__ w hW hold hpre => wT rfl rfl rfl (show b__.eval (.tmp 59) = .bool true from pq hpre 2 3 59) fun K hK => ?_
          have e64 : b__.eval (.tmp 64) = .pointer (some ⟨q, 0, none⟩) := pq hpre 0 8 64
          have e65 : b__.eval (.tmp 65) = .agg #[u] := pq hpre 1 9 65
          exact opw_call rfl (by kernel_rfl) (by simp only [List.map_cons, List.map_nil, e64, e65]) (hclos_any (kh _ _ (kc.out _ _ (hS.ext (undrew hW)).ro).1) (kt _ _ (kc.out _ _ (hS.ext (undrew hW)).ro).1) HH.out (kc.out _ _ (hS.ext (undrew hW)).ro).2.1) fun v w' h hb => hK v w' (h.imp fun _ _ _ => trivial) hb
         case r11 =>
          refine trule fun b__ w hW hold hpre => wT rfl rfl rfl (show b__.eval (.tmp 59) = .bool true from pq hpre 3 3 59) fun K hK => ?_
          have e62 : b__.eval (.tmp 62) = .agg #[.slice Ay my cy] := pq hpre 0 6 62
          have e66 : (fun (v : Value) (w : World) => IsSet w (fun _ => True) v (closM L N0)) (b__.eval (.tmp 66)) w := hpre ⟨10, _⟩ (Array.mem_of_getElem? (i := 1) rfl) rfl _ _ rfl rfl
          exact opw_call rfl (by kernel_rfl) (by simp only [List.map_cons, List.map_nil, e62]) (within_any _ _ ry (closM L N0) _ _ _ (kc.out _ _ (hS.ext (undrew hW)).ro).2.2.1 e66) fun v w' h hb => hK v w' (h.trans (by rw [HB2.out])) hb
         case r12 =>
          refine trule fun b__ w hW hold hpre => wT rfl rfl rfl (show b__.eval (.tmp 59) = .bool true from pq hpre 1 3 59) fun K hK => ?_
          have e67 : b__.eval (.tmp 67) = .bool b2 := pq hpre 0 11 67
          exact opw_un rfl e67 rfl (hK _ _ rfl (Below.refl _ _))
         case r13 =>
          refine trule fun b__ w hW hold hpre => wU rfl fun K hK => ?_
          have e59 : b__.eval (.tmp 59) = .bool true := pq hpre 0 3 59
          have e68 : b__.eval (.tmp 68) = .bool (!b2) := pq hpre 1 12 68
          exact opw_pick rfl e59 e68 (hK _ _ rfl (Below.refl _ _))
         case post =>
          intro b__ wz hW hdf hsz hold hT
          have e56 : b__.eval (.tmp 56) = .pointer (some ⟨g9, 0, none⟩) := hT 0 _ 56 rfl rfl
          have e57 : b__.eval (.tmp 57) = .bool false := hT 1 _ 57 rfl rfl
          have e58 : b__.eval (.tmp 58) = .bool true := hT 2 _ 58 rfl rfl
          have e59 : b__.eval (.tmp 59) = .bool true := hT 3 _ 59 rfl rfl
          have e60 : b__.eval (.tmp 60) = .pointer (some ⟨g9, 1, none⟩) := hT 4 _ 60 rfl rfl
          have e61 : b__.eval (.tmp 61) = .pointer (some ⟨g9, 1, none⟩) := hT 5 _ 61 rfl rfl
          have e62 : b__.eval (.tmp 62) = .agg #[.slice Ay my cy] := hT 6 _ 62 rfl rfl
          have e63 : b__.eval (.tmp 63) = .pointer (some ⟨g1, 1, none⟩) := hT 7 _ 63 rfl rfl
          have e64 : b__.eval (.tmp 64) = .pointer (some ⟨q, 0, none⟩) := hT 8 _ 64 rfl rfl
          have e65 : b__.eval (.tmp 65) = .agg #[u] := hT 9 _ 65 rfl rfl
          have e66 : (fun (v : Value) (w : World) => IsSet w (fun _ => True) v (closM L N0)) (b__.eval (.tmp 66)) wz := hT 10 _ 66 rfl rfl
          have e67 : b__.eval (.tmp 67) = .bool b2 := hT 11 _ 67 rfl rfl
          have e68 : b__.eval (.tmp 68) = .bool (!b2) := hT 12 _ 68 rfl rfl
          have e69 : b__.eval (.tmp 69) = .bool (!b2) := hT 13 _ 69 rfl rfl
          obtain ⟨vs, hvs, hb⟩ := frame_of hdf hsz hold
          replace e56 : vs 56 = .pointer (some ⟨g9, 0, none⟩) := (hvs 56).symm.trans e56
          replace e57 : vs 57 = .bool false := (hvs 57).symm.trans e57
          replace e58 : vs 58 = .bool true := (hvs 58).symm.trans e58
          replace e59 : vs 59 = .bool true := (hvs 59).symm.trans e59
          replace e60 : vs 60 = .pointer (some ⟨g9, 1, none⟩) := (hvs 60).symm.trans e60
          replace e61 : vs 61 = .pointer (some ⟨g9, 1, none⟩) := (hvs 61).symm.trans e61
          replace e62 : vs 62 = .agg #[.slice Ay my cy] := (hvs 62).symm.trans e62
          replace e63 : vs 63 = .pointer (some ⟨g1, 1, none⟩) := (hvs 63).symm.trans e63
          replace e64 : vs 64 = .pointer (some ⟨q, 0, none⟩) := (hvs 64).symm.trans e64
          replace e65 : vs 65 = .agg #[u] := (hvs 65).symm.trans e65
          replace e66 := (hvs 66) ▸ e66
          replace e67 : vs 67 = .bool b2 := (hvs 67).symm.trans e67
          replace e68 : vs 68 = .bool (!b2) := (hvs 68).symm.trans e68
          replace e69 : vs 69 = .bool (!b2) := (hvs 69).symm.trans e69
          subst hb
          clear hvs hold hT hdf hsz
          simp only [setAll, Act.put, List.setIfInBounds_toArray, List.set_cons_zero, List.set_cons_succ, List.getElem_toArray, List.getElem_cons_succ, List.getElem_cons_zero]
          rw [hb2'] at e69
          rw [e69]
          replace hS := hS.ext hW
          clear hW
          go_wp2_with (first
           | ((with_reducible refine qA 72 ?_); refine st_push hS 1 rfl rfl _ _ _ _ rfl rfl ty_ints kv KN.length (ints KN) (.int .i64 (j : Nat)) #[.int .i64 (j : Nat)] rfl (by kernel_rfl) rfl rfl rfl rfl (by intro u hu; simp at hu; subst hu; rfl) (by omega) (by omega) ?_; clear hS; intro z_ kv' w_ hS; (try simp only [Act.put, Act.eval, z1, z2, z3, z4, z5, z6, z7, z8, Value.cells] at hS)))
          refine ⟨⟨j + 1, _, by go_num, rfl, hlj, ?_⟩, by simp [intOf]; omega⟩
          rw [HTN.out.trans (if_pos rfl), show (KN ++ [(j : Int)]).length = KN.length + 1 by simp, show ints (KN ++ [(j : Int)]) = ints KN ++ [.int .i64 (j : Nat)] by simp [ints]]
          exact (hS.sub (List.sublist_cons_self _ _)).mono (KS.out.and stable_set) fun D w h => ⟨(kc.out _ _ h).1, (kc.out _ _ h).2.1⟩
        ·obtain ⟨b2, hb2'⟩ : ∃ b, b = true := ⟨_, rfl⟩
         rw [← hb2'] at HB2
         go_wp2_with (first
          | ((with_reducible refine qB ?_); (first | refine q1 ?_ ?_ | refine q2 ?_ ?_ | refine q3 ?_ ?_ | refine q4 ?_ ?_ | refine q5 ?_ ?_ | refine q6 ?_ ?_) <;> intro h_ <;> go_prune)
          | ((with_reducible refine qA 55 ?_); refine BigFrame.wpList_want rfl fun _ hK => opw_mid (cs := [.bool _, .slice Ay my cy, .slice Am mn cm, .int .i64 rt, .int .i64 ro]) rfl rfl (rng5 c0 c1 c2 c3 c4) Tryz.underlying58 rfl (by kernel_rfl) (hK _ _ ?_))
          | ((with_reducible refine qA 9 ?_); refine qa hS #[.bool false, .slice none 0 0, .slice none 0 0, .int .i64 0, .int .i64 0] ?_; clear hS; intro g9 w_ hS)
          | ((with_reducible refine qM ?_); (first | refine qS hS ?_ | refine qT hS ?_); clear hS; intro w_ hS; (try simp only [Act.put, Act.eval, z1, z2, z3, z4, z5, z6, z7, z8, Value.cells] at hS)))
         refine wp_region_typed (fun i__ v w => match i__ with
          | 0 => v = .pointer (some ⟨g9, 0, none⟩)
          | 1 => v = .bool false
          | 2 => v = .bool true
          | 3 => v = .bool true
          | 4 => v = .pointer (some ⟨g9, 1, none⟩)
          | 5 => v = .pointer (some ⟨g9, 1, none⟩)
          | 6 => v = .agg #[.slice Ay my cy]
          | 7 => v = .pointer (some ⟨g1, 1, none⟩)
          | 8 => v = .pointer (some ⟨q, 0, none⟩)
          | 9 => v = .agg #[u]
          | 10 => IsSet w (fun _ => True) v (closM L N0)
          | 11 => v = .bool b2
          | 12 => v = .bool (!b2)
          | 13 => v = .bool (!b2)
          | _ => True) (by kernel_rfl) (by kernel_rfl) ?mono ⟨?r0, ?r1, ?r2, ?r3, ?r4, ?r5, ?r6, ?r7, ?r8, ?r9, ?r10, ?r11, ?r12, ?r13, trivial⟩ ?post
         case mono =>
          intro i v w w' h hb
          match i, h with
          | 0, h | 1, h | 2, h | 3, h | 4, h | 5, h | 6, h | 7, h | 8, h | 9, h => exact h
          | 10, h => exact h.ext hb
          | 11, h | 12, h | 13, h => exact h
          | _ + 14, h => trivial
         case r0 =>
          refine trule fun b__ w hW hold hpre => wU rfl fun K hK => ?_
          have e9 : b__.eval (.tmp 9) = .pointer (some ⟨g9, 0, none⟩) := (hold 9 (by kernel_rfl)).trans rfl
          exact opw_faddr rfl e9 (by kernel_rfl) (hK _ _ rfl (Below.refl _ _))
         case r1 =>
          refine trule fun b__ w hW hold hpre => wU rfl fun K hK => ?_
          have e56 : b__.eval (.tmp 56) = .pointer (some ⟨g9, 0, none⟩) := pq hpre 0 0 56
          exact opw_cell rfl e56 (by kernel_rfl) (((hS.ext (undrew hW)).box 0 rfl).cell 0) (hK _ _ rfl (Below.refl _ _))
         case r2 =>
          refine trule fun b__ w hW hold hpre => wU rfl fun K hK => ?_
          have e57 : b__.eval (.tmp 57) = .bool false := pq hpre 0 1 57
          exact opw_un rfl e57 rfl (hK _ _ rfl (Below.refl _ _))
         case r3 =>
          refine trule fun b__ w hW hold hpre => wU rfl fun K hK => ?_
          have e58 : b__.eval (.tmp 58) = .bool true := pq hpre 0 2 58
          exact opw_move rfl e58 (hK _ _ rfl (Below.refl _ _))
         case r4 =>
          refine trule fun b__ w hW hold hpre => wT rfl rfl rfl (show b__.eval (.tmp 59) = .bool true from pq hpre 0 3 59) fun K hK => ?_
          have e9 : b__.eval (.tmp 9) = .pointer (some ⟨g9, 0, none⟩) := (hold 9 (by kernel_rfl)).trans rfl
          exact opw_faddr rfl e9 (by kernel_rfl) (hK _ _ rfl (Below.refl _ _))
         case r5 =>
          refine trule fun b__ w hW hold hpre => wT rfl rfl rfl (show b__.eval (.tmp 59) = .bool true from pq hpre 1 3 59) fun K hK => ?_
          have e60 : b__.eval (.tmp 60) = .pointer (some ⟨g9, 1, none⟩) := pq hpre 0 4 60
          exact opw_faddr rfl e60 (by kernel_rfl) (hK _ _ rfl (Below.refl _ _))
         case r6 =>
          refine trule fun b__ w hW hold hpre => wT rfl rfl rfl (show b__.eval (.tmp 59) = .bool true from pq hpre 1 3 59) fun K hK => ?_
          have e61 : b__.eval (.tmp 61) = .pointer (some ⟨g9, 1, none⟩) := pq hpre 0 5 61
          exact opw_row1 rfl e61 ((hS.ext (undrew hW)).box 0 rfl) rfl Tryz.underlying27 (by kernel_rfl) (by kernel_rfl) (hK _ _ rfl (Below.refl _ _))
         case r7 =>
          refine trule fun b__ w hW hold hpre => wT rfl rfl rfl (show b__.eval (.tmp 59) = .bool true from pq hpre 0 3 59) fun K hK => ?_
          have e1 : b__.eval (.tmp 1) = .pointer (some ⟨g1, 0, none⟩) := (hold 1 (by kernel_rfl)).trans rfl
          exact opw_faddr rfl e1 (by kernel_rfl) (hK _ _ rfl (Below.refl _ _))
         case r8 =>
          refine trule fun b__ w hW hold hpre => wT rfl rfl rfl (show b__.eval (.tmp 59) = .bool true from pq hpre 1 3 59) fun K hK => ?_
          have e63 : b__.eval (.tmp 63) = .pointer (some ⟨g1, 1, none⟩) := pq hpre 0 7 63
          exact opw_cell rfl e63 (by kernel_rfl) (((hS.ext (undrew hW)).box 3 rfl).cell 1) (hK _ _ rfl (Below.refl _ _))
         case r9 =>
          refine trule fun b__ w hW hold hpre => wT rfl rfl rfl (show b__.eval (.tmp 59) = .bool true from pq hpre 0 3 59) fun K hK => ?_
          have e3 : b__.eval (.tmp 3) = .pointer (some ⟨g3, 0, none⟩) := (hold 3 (by kernel_rfl)).trans rfl
          exact opw_row rfl e3 ((hS.ext (undrew hW)).box 2 rfl) Tryz.underlying27 rfl (by kernel_rfl) (hK _ _ rfl (Below.refl _ _))
         case r10 =>
          refine trule fun b__ w hW hold hpre => wT rfl rfl rfl (show b__.eval (.tmp 59) = .bool true from pq hpre 2 3 59) fun K hK => ?_
          have e64 : b__.eval (.tmp 64) = .pointer (some ⟨q, 0, none⟩) := pq hpre 0 8 64
          have e65 : b__.eval (.tmp 65) = .agg #[u] := pq hpre 1 9 65
          exact opw_call rfl (by kernel_rfl) (by simp only [List.map_cons, List.map_nil, e64, e65]) (hclos_any (kh _ _ (kc.out _ _ (hS.ext (undrew hW)).ro).1) (kt _ _ (kc.out _ _ (hS.ext (undrew hW)).ro).1) HH.out (kc.out _ _ (hS.ext (undrew hW)).ro).2.1) fun v w' h hb => hK v w' (h.imp fun _ _ _ => trivial) hb
         case r11 =>
          refine trule fun b__ w hW hold hpre => wT rfl rfl rfl (show b__.eval (.tmp 59) = .bool true from pq hpre 3 3 59) fun K hK => ?_
          have e62 : b__.eval (.tmp 62) = .agg #[.slice Ay my cy] := pq hpre 0 6 62
          have e66 : (fun (v : Value) (w : World) => IsSet w (fun _ => True) v (closM L N0)) (b__.eval (.tmp 66)) w := hpre ⟨10, _⟩ (Array.mem_of_getElem? (i := 1) rfl) rfl _ _ rfl rfl
          exact opw_call rfl (by kernel_rfl) (by simp only [List.map_cons, List.map_nil, e62]) (within_any _ _ ry (closM L N0) _ _ _ (kc.out _ _ (hS.ext (undrew hW)).ro).2.2.1 e66) fun v w' h hb => hK v w' (h.trans (by rw [HB2.out])) hb
         case r12 =>
          refine trule fun b__ w hW hold hpre => wT rfl rfl rfl (show b__.eval (.tmp 59) = .bool true from pq hpre 1 3 59) fun K hK => ?_
          have e67 : b__.eval (.tmp 67) = .bool b2 := pq hpre 0 11 67
          exact opw_un rfl e67 rfl (hK _ _ rfl (Below.refl _ _))
         case r13 =>
          refine trule fun b__ w hW hold hpre => wU rfl fun K hK => ?_
          have e59 : b__.eval (.tmp 59) = .bool true := pq hpre 0 3 59
          have e68 : b__.eval (.tmp 68) = .bool (!b2) := pq hpre 1 12 68
          exact opw_pick rfl e59 e68 (hK _ _ rfl (Below.refl _ _))
         case post =>
          intro b__ wz hW hdf hsz hold hT
          have e56 : b__.eval (.tmp 56) = .pointer (some ⟨g9, 0, none⟩) := hT 0 _ 56 rfl rfl
          have e57 : b__.eval (.tmp 57) = .bool false := hT 1 _ 57 rfl rfl
          have e58 : b__.eval (.tmp 58) = .bool true := hT 2 _ 58 rfl rfl
          have e59 : b__.eval (.tmp 59) = .bool true := hT 3 _ 59 rfl rfl
          have e60 : b__.eval (.tmp 60) = .pointer (some ⟨g9, 1, none⟩) := hT 4 _ 60 rfl rfl
          have e61 : b__.eval (.tmp 61) = .pointer (some ⟨g9, 1, none⟩) := hT 5 _ 61 rfl rfl
          have e62 : b__.eval (.tmp 62) = .agg #[.slice Ay my cy] := hT 6 _ 62 rfl rfl
          have e63 : b__.eval (.tmp 63) = .pointer (some ⟨g1, 1, none⟩) := hT 7 _ 63 rfl rfl
          have e64 : b__.eval (.tmp 64) = .pointer (some ⟨q, 0, none⟩) := hT 8 _ 64 rfl rfl
          have e65 : b__.eval (.tmp 65) = .agg #[u] := hT 9 _ 65 rfl rfl
          have e66 : (fun (v : Value) (w : World) => IsSet w (fun _ => True) v (closM L N0)) (b__.eval (.tmp 66)) wz := hT 10 _ 66 rfl rfl
          have e67 : b__.eval (.tmp 67) = .bool b2 := hT 11 _ 67 rfl rfl
          have e68 : b__.eval (.tmp 68) = .bool (!b2) := hT 12 _ 68 rfl rfl
          have e69 : b__.eval (.tmp 69) = .bool (!b2) := hT 13 _ 69 rfl rfl
          obtain ⟨vs, hvs, hb⟩ := frame_of hdf hsz hold
          replace e56 : vs 56 = .pointer (some ⟨g9, 0, none⟩) := (hvs 56).symm.trans e56
          replace e57 : vs 57 = .bool false := (hvs 57).symm.trans e57
          replace e58 : vs 58 = .bool true := (hvs 58).symm.trans e58
          replace e59 : vs 59 = .bool true := (hvs 59).symm.trans e59
          replace e60 : vs 60 = .pointer (some ⟨g9, 1, none⟩) := (hvs 60).symm.trans e60
          replace e61 : vs 61 = .pointer (some ⟨g9, 1, none⟩) := (hvs 61).symm.trans e61
          replace e62 : vs 62 = .agg #[.slice Ay my cy] := (hvs 62).symm.trans e62
          replace e63 : vs 63 = .pointer (some ⟨g1, 1, none⟩) := (hvs 63).symm.trans e63
          replace e64 : vs 64 = .pointer (some ⟨q, 0, none⟩) := (hvs 64).symm.trans e64
          replace e65 : vs 65 = .agg #[u] := (hvs 65).symm.trans e65
          replace e66 := (hvs 66) ▸ e66
          replace e67 : vs 67 = .bool b2 := (hvs 67).symm.trans e67
          replace e68 : vs 68 = .bool (!b2) := (hvs 68).symm.trans e68
          replace e69 : vs 69 = .bool (!b2) := (hvs 69).symm.trans e69
          subst hb
          clear hvs hold hT hdf hsz
          simp only [setAll, Act.put, List.setIfInBounds_toArray, List.set_cons_zero, List.set_cons_succ, List.getElem_toArray, List.getElem_cons_succ, List.getElem_cons_zero]
          rw [hb2'] at e69
          rw [e69]
          replace hS := hS.ext hW
          clear hW
          go_wp2_with fail
          refine ⟨⟨j + 1, kv, by go_num, rfl, hlj, ?_⟩, by simp [intOf]; omega⟩
          rw [HTN.out.trans (if_neg (by decide))]
          exact (hS.sub (List.sublist_cons_self _ _)).mono (KS.out.and stable_set) fun D w h => ⟨(kc.out _ _ h).1, (kc.out _ _ h).2.1⟩
       ·skip
        go_wp2_with (first
         | ((with_reducible refine qB ?_); (first | refine q1 ?_ ?_ | refine q2 ?_ ?_ | refine q3 ?_ ?_ | refine q4 ?_ ?_ | refine q5 ?_ ?_ | refine q6 ?_ ?_) <;> intro h_ <;> go_prune)
         | ((with_reducible refine qA 55 ?_); refine BigFrame.wpList_want rfl fun _ hK => opw_mid (cs := [.bool _, .slice Ay my cy, .slice Am mn cm, .int .i64 rt, .int .i64 ro]) rfl rfl (rng5 c0 c1 c2 c3 c4) Tryz.underlying58 rfl (by kernel_rfl) (hK _ _ ?_))
         | ((with_reducible refine qA 9 ?_); refine qa hS #[.bool false, .slice none 0 0, .slice none 0 0, .int .i64 0, .int .i64 0] ?_; clear hS; intro g9 w_ hS)
         | ((with_reducible refine qM ?_); (first | refine qS hS ?_ | refine qT hS ?_); clear hS; intro w_ hS; (try simp only [Act.put, Act.eval, z1, z2, z3, z4, z5, z6, z7, z8, Value.cells] at hS)))
        refine wp_region_typed (fun i__ v w => match i__ with
         | 0 => v = .pointer (some ⟨g9, 0, none⟩)
         | 1 => v = .bool true
         | 2 => v = .bool false
         | 3 => v = .bool false
         | 4 => True
         | 5 => True
         | 6 => True
         | 7 => True
         | 8 => True
         | 9 => True
         | 10 => True
         | 11 => True
         | 12 => True
         | 13 => v = .bool false
         | _ => True) (by kernel_rfl) (by kernel_rfl) ?mono ⟨?r0, ?r1, ?r2, ?r3, ?r4, ?r5, ?r6, ?r7, ?r8, ?r9, ?r10, ?r11, ?r12, ?r13, trivial⟩ ?post
        case mono =>
         intro i v w w' h hb
         match i, h with
         | 0, h | 1, h | 2, h | 3, h | 4, h | 5, h | 6, h | 7, h | 8, h | 9, h | 10, h | 11, h | 12, h | 13, h => exact h
         | _ + 14, h => trivial
        case r0 =>
         refine trule fun b__ w hW hold hpre => wU rfl fun K hK => ?_
         have e9 : b__.eval (.tmp 9) = .pointer (some ⟨g9, 0, none⟩) := (hold 9 (by kernel_rfl)).trans rfl
         exact opw_faddr rfl e9 (by kernel_rfl) (hK _ _ rfl (Below.refl _ _))
        case r1 =>
         refine trule fun b__ w hW hold hpre => wU rfl fun K hK => ?_
         have e56 : b__.eval (.tmp 56) = .pointer (some ⟨g9, 0, none⟩) := pq hpre 0 0 56
         exact opw_cell rfl e56 (by kernel_rfl) (((hS.ext (undrew hW)).box 0 rfl).cell 0) (hK _ _ rfl (Below.refl _ _))
        case r2 =>
         refine trule fun b__ w hW hold hpre => wU rfl fun K hK => ?_
         have e57 : b__.eval (.tmp 57) = .bool true := pq hpre 0 1 57
         exact opw_un rfl e57 rfl (hK _ _ rfl (Below.refl _ _))
        case r3 =>
         refine trule fun b__ w hW hold hpre => wU rfl fun K hK => ?_
         have e58 : b__.eval (.tmp 58) = .bool false := pq hpre 0 2 58
         exact opw_move rfl e58 (hK _ _ rfl (Below.refl _ _))
        case r4 =>
         refine trule fun b__ w hW hold hpre => ⟨fun hwant K hK => ?_, fun hwant => ?_⟩
         ·rw [want_some rfl rfl rfl (show b__.eval (.tmp 59) = .bool false from hpre ⟨3, _⟩ (Array.mem_of_getElem? (i := 0) rfl) rfl _ _ rfl rfl)] at hwant; cases hwant
         ·exact trivial
        case r5 =>
         refine trule fun b__ w hW hold hpre => ⟨fun hwant K hK => ?_, fun hwant => ?_⟩
         ·rw [want_some rfl rfl rfl (show b__.eval (.tmp 59) = .bool false from hpre ⟨3, _⟩ (Array.mem_of_getElem? (i := 1) rfl) rfl _ _ rfl rfl)] at hwant; cases hwant
         ·exact trivial
        case r6 =>
         refine trule fun b__ w hW hold hpre => ⟨fun hwant K hK => ?_, fun hwant => ?_⟩
         ·rw [want_some rfl rfl rfl (show b__.eval (.tmp 59) = .bool false from hpre ⟨3, _⟩ (Array.mem_of_getElem? (i := 1) rfl) rfl _ _ rfl rfl)] at hwant; cases hwant
         ·exact trivial
        case r7 =>
         refine trule fun b__ w hW hold hpre => ⟨fun hwant K hK => ?_, fun hwant => ?_⟩
         ·rw [want_some rfl rfl rfl (show b__.eval (.tmp 59) = .bool false from hpre ⟨3, _⟩ (Array.mem_of_getElem? (i := 0) rfl) rfl _ _ rfl rfl)] at hwant; cases hwant
         ·exact trivial
        case r8 =>
         refine trule fun b__ w hW hold hpre => ⟨fun hwant K hK => ?_, fun hwant => ?_⟩
         ·rw [want_some rfl rfl rfl (show b__.eval (.tmp 59) = .bool false from hpre ⟨3, _⟩ (Array.mem_of_getElem? (i := 1) rfl) rfl _ _ rfl rfl)] at hwant; cases hwant
         ·exact trivial
        case r9 =>
         refine trule fun b__ w hW hold hpre => ⟨fun hwant K hK => ?_, fun hwant => ?_⟩
         ·rw [want_some rfl rfl rfl (show b__.eval (.tmp 59) = .bool false from hpre ⟨3, _⟩ (Array.mem_of_getElem? (i := 0) rfl) rfl _ _ rfl rfl)] at hwant; cases hwant
         ·exact trivial
        case r10 =>
         refine trule fun b__ w hW hold hpre => ⟨fun hwant K hK => ?_, fun hwant => ?_⟩
         ·rw [want_some rfl rfl rfl (show b__.eval (.tmp 59) = .bool false from hpre ⟨3, _⟩ (Array.mem_of_getElem? (i := 2) rfl) rfl _ _ rfl rfl)] at hwant; cases hwant
         ·exact trivial
        case r11 =>
         refine trule fun b__ w hW hold hpre => ⟨fun hwant K hK => ?_, fun hwant => ?_⟩
         ·rw [want_some rfl rfl rfl (show b__.eval (.tmp 59) = .bool false from hpre ⟨3, _⟩ (Array.mem_of_getElem? (i := 3) rfl) rfl _ _ rfl rfl)] at hwant; cases hwant
         ·exact trivial
        case r12 =>
         refine trule fun b__ w hW hold hpre => ⟨fun hwant K hK => ?_, fun hwant => ?_⟩
         ·rw [want_some rfl rfl rfl (show b__.eval (.tmp 59) = .bool false from hpre ⟨3, _⟩ (Array.mem_of_getElem? (i := 1) rfl) rfl _ _ rfl rfl)] at hwant; cases hwant
         ·exact trivial
        case r13 =>
         refine trule fun b__ w hW hold hpre => wU rfl fun K hK => ?_
         have e59 : b__.eval (.tmp 59) = .bool false := pq hpre 0 3 59
         have e68 : (fun (v : Value) (w : World) => True) (b__.eval (.tmp 68)) w := hpre ⟨12, _⟩ (Array.mem_of_getElem? (i := 1) rfl) rfl _ _ rfl rfl
         exact opw_pick rfl e59 rfl (hK _ _ rfl (Below.refl _ _))
        case post =>
         intro b__ wz hW hdf hsz hold hT
         have e56 : b__.eval (.tmp 56) = .pointer (some ⟨g9, 0, none⟩) := hT 0 _ 56 rfl rfl
         have e57 : b__.eval (.tmp 57) = .bool true := hT 1 _ 57 rfl rfl
         have e58 : b__.eval (.tmp 58) = .bool false := hT 2 _ 58 rfl rfl
         have e59 : b__.eval (.tmp 59) = .bool false := hT 3 _ 59 rfl rfl
         have e69 : b__.eval (.tmp 69) = .bool false := hT 13 _ 69 rfl rfl
         obtain ⟨vs, hvs, hb⟩ := frame_of hdf hsz hold
         replace e56 : vs 56 = .pointer (some ⟨g9, 0, none⟩) := (hvs 56).symm.trans e56
         replace e57 : vs 57 = .bool true := (hvs 57).symm.trans e57
         replace e58 : vs 58 = .bool false := (hvs 58).symm.trans e58
         replace e59 : vs 59 = .bool false := (hvs 59).symm.trans e59
         replace e69 : vs 69 = .bool false := (hvs 69).symm.trans e69
         subst hb
         clear hvs hold hT hdf hsz
         simp only [setAll, Act.put, List.setIfInBounds_toArray, List.set_cons_zero, List.set_cons_succ, List.getElem_toArray, List.getElem_cons_succ, List.getElem_cons_zero]
         rw [e69]
         replace hS := hS.ext hW
         clear hW
         go_wp2_with fail
         refine ⟨⟨j + 1, kv, by go_num, rfl, hlj, ?_⟩, by simp [intOf]; omega⟩
         rw [HTN.out.trans (if_neg (by cases b2 <;> decide))]
         exact (hS.sub (List.sublist_cons_self _ _)).mono (KS.out.and stable_set) fun D w h => ⟨(kc.out _ _ h).1, (kc.out _ _ h).2.1⟩
      ·obtain rfl : rl.length = j := by omega
       go_wp2_with (first | ((with_reducible refine qB ?_); (first | refine q1 ?_ ?_ | refine q2 ?_ ?_ | refine q3 ?_ ?_ | refine q4 ?_ ?_ | refine q5 ?_ ?_ | refine q6 ?_ ?_) <;> intro h_ <;> go_prune))
       go_ret
       rw [← HU.out]
       exact ⟨_, rfl, (hS.sub (F' := [_]) ((List.nil_sublist _).cons_cons _)).mono (Stable.pure True) fun _ _ _ => trivial⟩
    ·go_wp2_with (first | ((with_reducible refine qK ?_); refine qC hS ?_))
     go_loopw [4, 19] (fun mv i wr => ∃ (j : Nat) (mb : Bool) (u : Value) (N : Nat), i = .int .i64 (j : Nat) ∧ mv = .bool mb ∧ j ≤ rl.length ∧ Hid (URnd L ⟨R, some L, st, rl, nl, gl⟩ B N mb j) ∧ St w0 wr [.box g3 27 #[u], .box g1 31 #[.int .i64 R, .pointer (some ⟨q, 0, none⟩), .slice Cs ns cs, .slice Ar rl.length cr, .slice An nl.length cn, .slice Ag gl.length cg]] (fun D w => K D w ∧ IsSet w D (.agg #[u]) N)) (fun _ i _ => rl.length - (intOf i).toNat)
     case atStart => exact ⟨0, false, u, B, rfl, rfl, by omega, Lib.hid ⟨HI.out.1, nofun, fun _ => ⟨rfl, fun r hr => by simp at hr⟩⟩, hS⟩
     case round =>
      clear hS HI
      obtain ⟨j, mb, u, N0, rfl, rfl, hj, HI, hS⟩ := hrel
      by_cases hlj : j < rl.length
      ·obtain ⟨b, o2, y, n, rfl, _, hb, c0, c1, c2, c3, c4, hy, hn⟩ := (kr _ _ hS.ro.1).at_ hlj
       obtain ⟨Ay, my, cy, rfl⟩ := hy.shape
       obtain ⟨Am, mn, cm, rfl⟩ := hn.shape
       have HGj := Lib.hid (getD_at dfltR hlj)
       have HTj := Lib.hid (HTG.out _ (List.mem_of_getElem? HGj.out))
       obtain ⟨KC, kc, hS2⟩ : ∃ KC : (Nat → Prop) → World → Prop, Hid (∀ D w, KC D w → K D w ∧ IsSet w D (.agg #[u]) N0 ∧ IsSet w D (.agg #[.slice Ay my cy]) (rl.getD j dfltR).yes ∧ IsSet w D (.agg #[.slice Am mn cm]) (rl.getD j dfltR).no) ∧ St w0 wr [.box g3 27 #[u], .box g1 31 #[.int .i64 R, .pointer (some ⟨q, 0, none⟩), .slice Cs ns cs, .slice (some ⟨b, o2, none⟩) rl.length cr, .slice An nl.length cn, .slice Ag gl.length cg]] KC := ⟨_, Lib.hid fun D w h => ⟨h.1.1, h.1.2, h.2.1, h.2.2⟩, hS.add (D := Free _) (stable_set.and stable_set) ⟨hy, hn⟩ fun _ h _ => h⟩
       clear hS hy hn
       have hS := hS2
       clear hS2
       generalize rl.getD j dfltR = z at *
       obtain ⟨rv, ry, rn, rt, ro⟩ := z
       dsimp only at kc c0 c1 c2 c3 c4
       obtain ⟨b1, hb1⟩ : ∃ b, b = hasB N0 rt := ⟨_, rfl⟩
       have HB1 := Lib.hid hb1
       obtain ⟨b2, hb2⟩ : ∃ b, b = (ry &&& closM L N0 == ry) := ⟨_, rfl⟩
       have HB2 := Lib.hid hb2
       cases rv
       ·cases b1
        ·cases b2
         ·have HI2 := Lib.hid (HI.out.skip HGj.out (.inr (.inr hb2.symm)))
          obtain ⟨b2, hb2'⟩ : ∃ b, b = false := ⟨_, rfl⟩
          rw [← hb2'] at HB2
          clear hb1 hb2 HI
          go_wp2_with (first
           | ((with_reducible refine qB ?_); (first | refine q1 ?_ ?_ | refine q2 ?_ ?_ | refine q3 ?_ ?_ | refine q4 ?_ ?_ | refine q5 ?_ ?_ | refine q6 ?_ ?_) <;> intro h_ <;> go_prune)
           | ((with_reducible refine qA 22 ?_); refine BigFrame.wpList_want rfl fun _ hK => opw_mid (cs := [.bool _, .slice Ay my cy, .slice Am mn cm, .int .i64 rt, .int .i64 ro]) rfl rfl (rng5 c0 c1 c2 c3 c4) Tryz.underlying58 rfl (by kernel_rfl) (hK _ _ ?_))
           | ((with_reducible refine qA 6 ?_); refine qa hS #[.bool false, .slice none 0 0, .slice none 0 0, .int .i64 0, .int .i64 0] ?_; clear hS; intro g6 w_ hS)
           | ((with_reducible refine qM ?_); (first | refine qS hS ?_ | refine qT hS ?_); clear hS; intro w_ hS; (try simp only [Act.put, Act.eval, z1, z2, z3, z4, z5, z6, z7, z8, Value.cells] at hS)))
          refine wp_region_typed (fun i__ v w => match i__ with
           | 0 => v = .pointer (some ⟨g6, 0, none⟩)
           | 1 => v = .bool false
           | 2 => v = .bool true
           | 3 => v = .bool true
           | 4 => v = .agg #[u]
           | 5 => v = .pointer (some ⟨g6, 3, none⟩)
           | 6 => v = .int .i64 rt
           | 7 => v = .bool false
           | 8 => v = .bool true
           | 9 => v = .bool true
           | 10 => v = .bool true
           | 11 => v = .pointer (some ⟨g6, 1, none⟩)
           | 12 => v = .pointer (some ⟨g6, 1, none⟩)
           | 13 => v = .agg #[.slice Ay my cy]
           | 14 => v = .pointer (some ⟨g1, 1, none⟩)
           | 15 => v = .pointer (some ⟨q, 0, none⟩)
           | 16 => v = .agg #[u]
           | 17 => IsSet w (fun _ => True) v (closM L N0)
           | 18 => v = .bool b2
           | 19 => v = .bool b2
           | _ => True) (by kernel_rfl) (by kernel_rfl) ?mono ⟨?r0, ?r1, ?r2, ?r3, ?r4, ?r5, ?r6, ?r7, ?r8, ?r9, ?r10, ?r11, ?r12, ?r13, ?r14, ?r15, ?r16, ?r17, ?r18, ?r19, trivial⟩ ?post
          case mono =>
           intro i v w w' h hb
           match i, h with
           | 0, h | 1, h | 2, h | 3, h | 4, h | 5, h | 6, h | 7, h | 8, h | 9, h | 10, h | 11, h | 12, h | 13, h | 14, h | 15, h | 16, h => exact h
           | 17, h => exact h.ext hb
           | 18, h | 19, h => exact h
           | _ + 20, h => trivial
          case r0 =>
           refine trule fun b__ w hW hold hpre => wU rfl fun K hK => ?_
           have e6 : b__.eval (.tmp 6) = .pointer (some ⟨g6, 0, none⟩) := (hold 6 (by kernel_rfl)).trans rfl
           exact opw_faddr rfl e6 (by kernel_rfl) (hK _ _ rfl (Below.refl _ _))
          case r1 =>
           refine trule fun b__ w hW hold hpre => wU rfl fun K hK => ?_
           have e23 : b__.eval (.tmp 23) = .pointer (some ⟨g6, 0, none⟩) := pq hpre 0 0 23
           exact opw_cell rfl e23 (by kernel_rfl) (((hS.ext (undrew hW)).box 0 rfl).cell 0) (hK _ _ rfl (Below.refl _ _))
          case r2 =>
           refine trule fun b__ w hW hold hpre => wU rfl fun K hK => ?_
           have e24 : b__.eval (.tmp 24) = .bool false := pq hpre 0 1 24
           exact opw_un rfl e24 rfl (hK _ _ rfl (Below.refl _ _))
          case r3 =>
           refine trule fun b__ w hW hold hpre => wU rfl fun K hK => ?_
           have e25 : b__.eval (.tmp 25) = .bool true := pq hpre 0 2 25
           exact opw_move rfl e25 (hK _ _ rfl (Below.refl _ _))
          case r4 =>
           refine trule fun b__ w hW hold hpre => wT rfl rfl rfl (show b__.eval (.tmp 26) = .bool true from pq hpre 0 3 26) fun K hK => ?_
           have e3 : b__.eval (.tmp 3) = .pointer (some ⟨g3, 0, none⟩) := (hold 3 (by kernel_rfl)).trans rfl
           exact opw_row rfl e3 ((hS.ext (undrew hW)).box 1 rfl) Tryz.underlying27 rfl (by kernel_rfl) (hK _ _ rfl (Below.refl _ _))
          case r5 =>
           refine trule fun b__ w hW hold hpre => wT rfl rfl rfl (show b__.eval (.tmp 26) = .bool true from pq hpre 0 3 26) fun K hK => ?_
           have e6 : b__.eval (.tmp 6) = .pointer (some ⟨g6, 0, none⟩) := (hold 6 (by kernel_rfl)).trans rfl
           exact opw_faddr rfl e6 (by kernel_rfl) (hK _ _ rfl (Below.refl _ _))
          case r6 =>
           refine trule fun b__ w hW hold hpre => wT rfl rfl rfl (show b__.eval (.tmp 26) = .bool true from pq hpre 1 3 26) fun K hK => ?_
           have e28 : b__.eval (.tmp 28) = .pointer (some ⟨g6, 3, none⟩) := pq hpre 0 5 28
           exact opw_cell rfl e28 (by kernel_rfl) (((hS.ext (undrew hW)).box 0 rfl).cell 3) (hK _ _ rfl (Below.refl _ _))
          case r7 =>
           refine trule fun b__ w hW hold hpre => wT rfl rfl rfl (show b__.eval (.tmp 26) = .bool true from pq hpre 2 3 26) fun K hK => ?_
           have e27 : b__.eval (.tmp 27) = .agg #[u] := pq hpre 0 4 27
           have e29 : b__.eval (.tmp 29) = .int .i64 rt := pq hpre 1 6 29
           exact opw_call rfl (by kernel_rfl) (by simp only [List.map_cons, List.map_nil, e27, e29]) (has_any _ N0 rt _ _ (kc.out _ _ (hS.ext (undrew hW)).ro).2.1) fun v w' h hb => hK v w' (h.trans (by rw [← HB1.out])) hb
          case r8 =>
           refine trule fun b__ w hW hold hpre => wT rfl rfl rfl (show b__.eval (.tmp 26) = .bool true from pq hpre 1 3 26) fun K hK => ?_
           have e30 : b__.eval (.tmp 30) = .bool false := pq hpre 0 7 30
           exact opw_un rfl e30 rfl (hK _ _ rfl (Below.refl _ _))
          case r9 =>
           refine trule fun b__ w hW hold hpre => wU rfl fun K hK => ?_
           have e26 : b__.eval (.tmp 26) = .bool true := pq hpre 0 3 26
           have e31 : b__.eval (.tmp 31) = .bool true := pq hpre 1 8 31
           exact opw_pick rfl e26 e31 (hK _ _ rfl (Below.refl _ _))
          case r10 =>
           refine trule fun b__ w hW hold hpre => wU rfl fun K hK => ?_
           have e32 : b__.eval (.tmp 32) = .bool true := pq hpre 0 9 32
           exact opw_move rfl e32 (hK _ _ rfl (Below.refl _ _))
          case r11 =>
           refine trule fun b__ w hW hold hpre => wT rfl rfl rfl (show b__.eval (.tmp 33) = .bool true from pq hpre 0 10 33) fun K hK => ?_
           have e6 : b__.eval (.tmp 6) = .pointer (some ⟨g6, 0, none⟩) := (hold 6 (by kernel_rfl)).trans rfl
           exact opw_faddr rfl e6 (by kernel_rfl) (hK _ _ rfl (Below.refl _ _))
          case r12 =>
           refine trule fun b__ w hW hold hpre => wT rfl rfl rfl (show b__.eval (.tmp 33) = .bool true from pq hpre 1 10 33) fun K hK => ?_
           have e34 : b__.eval (.tmp 34) = .pointer (some ⟨g6, 1, none⟩) := pq hpre 0 11 34
           exact opw_faddr rfl e34 (by kernel_rfl) (hK _ _ rfl (Below.refl _ _))
          case r13 =>
           refine trule fun b__ w hW hold hpre => wT rfl rfl rfl (show b__.eval (.tmp 33) = .bool true from pq hpre 1 10 33) fun K hK => ?_
           have e35 : b__.eval (.tmp 35) = .pointer (some ⟨g6, 1, none⟩) := pq hpre 0 12 35
           exact opw_row1 rfl e35 ((hS.ext (undrew hW)).box 0 rfl) rfl Tryz.underlying27 (by kernel_rfl) (by kernel_rfl) (hK _ _ rfl (Below.refl _ _))
          case r14 =>
           refine trule fun b__ w hW hold hpre => wT rfl rfl rfl (show b__.eval (.tmp 33) = .bool true from pq hpre 0 10 33) fun K hK => ?_
           have e1 : b__.eval (.tmp 1) = .pointer (some ⟨g1, 0, none⟩) := (hold 1 (by kernel_rfl)).trans rfl
           exact opw_faddr rfl e1 (by kernel_rfl) (hK _ _ rfl (Below.refl _ _))
          case r15 =>
           refine trule fun b__ w hW hold hpre => wT rfl rfl rfl (show b__.eval (.tmp 33) = .bool true from pq hpre 1 10 33) fun K hK => ?_
           have e37 : b__.eval (.tmp 37) = .pointer (some ⟨g1, 1, none⟩) := pq hpre 0 14 37
           exact opw_cell rfl e37 (by kernel_rfl) (((hS.ext (undrew hW)).box 2 rfl).cell 1) (hK _ _ rfl (Below.refl _ _))
          case r16 =>
           refine trule fun b__ w hW hold hpre => wT rfl rfl rfl (show b__.eval (.tmp 33) = .bool true from pq hpre 0 10 33) fun K hK => ?_
           have e3 : b__.eval (.tmp 3) = .pointer (some ⟨g3, 0, none⟩) := (hold 3 (by kernel_rfl)).trans rfl
           exact opw_row rfl e3 ((hS.ext (undrew hW)).box 1 rfl) Tryz.underlying27 rfl (by kernel_rfl) (hK _ _ rfl (Below.refl _ _))
          case r17 =>
           refine trule fun b__ w hW hold hpre => wT rfl rfl rfl (show b__.eval (.tmp 33) = .bool true from pq hpre 2 10 33) fun K hK => ?_
           have e38 : b__.eval (.tmp 38) = .pointer (some ⟨q, 0, none⟩) := pq hpre 0 15 38
           have e39 : b__.eval (.tmp 39) = .agg #[u] := pq hpre 1 16 39
           exact opw_call rfl (by kernel_rfl) (by simp only [List.map_cons, List.map_nil, e38, e39]) (hclos_any (kh _ _ (kc.out _ _ (hS.ext (undrew hW)).ro).1) (kt _ _ (kc.out _ _ (hS.ext (undrew hW)).ro).1) HH.out (kc.out _ _ (hS.ext (undrew hW)).ro).2.1) fun v w' h hb => hK v w' (h.imp fun _ _ _ => trivial) hb
          case r18 =>
           refine trule fun b__ w hW hold hpre => wT rfl rfl rfl (show b__.eval (.tmp 33) = .bool true from pq hpre 3 10 33) fun K hK => ?_
           have e36 : b__.eval (.tmp 36) = .agg #[.slice Ay my cy] := pq hpre 0 13 36
           have e40 : (fun (v : Value) (w : World) => IsSet w (fun _ => True) v (closM L N0)) (b__.eval (.tmp 40)) w := hpre ⟨17, _⟩ (Array.mem_of_getElem? (i := 1) rfl) rfl _ _ rfl rfl
           exact opw_call rfl (by kernel_rfl) (by simp only [List.map_cons, List.map_nil, e36]) (within_any _ _ ry (closM L N0) _ _ _ (kc.out _ _ (hS.ext (undrew hW)).ro).2.2.1 e40) fun v w' h hb => hK v w' (h.trans (by rw [HB2.out])) hb
          case r19 =>
           refine trule fun b__ w hW hold hpre => wU rfl fun K hK => ?_
           have e33 : b__.eval (.tmp 33) = .bool true := pq hpre 0 10 33
           have e41 : b__.eval (.tmp 41) = .bool b2 := pq hpre 1 18 41
           exact opw_pick rfl e33 e41 (hK _ _ rfl (Below.refl _ _))
          case post =>
           intro b__ wz hW hdf hsz hold hT
           have e23 : b__.eval (.tmp 23) = .pointer (some ⟨g6, 0, none⟩) := hT 0 _ 23 rfl rfl
           have e24 : b__.eval (.tmp 24) = .bool false := hT 1 _ 24 rfl rfl
           have e25 : b__.eval (.tmp 25) = .bool true := hT 2 _ 25 rfl rfl
           have e26 : b__.eval (.tmp 26) = .bool true := hT 3 _ 26 rfl rfl
           have e27 : b__.eval (.tmp 27) = .agg #[u] := hT 4 _ 27 rfl rfl
           have e28 : b__.eval (.tmp 28) = .pointer (some ⟨g6, 3, none⟩) := hT 5 _ 28 rfl rfl
           have e29 : b__.eval (.tmp 29) = .int .i64 rt := hT 6 _ 29 rfl rfl
           have e30 : b__.eval (.tmp 30) = .bool false := hT 7 _ 30 rfl rfl
           have e31 : b__.eval (.tmp 31) = .bool true := hT 8 _ 31 rfl rfl
           have e32 : b__.eval (.tmp 32) = .bool true := hT 9 _ 32 rfl rfl
           have e33 : b__.eval (.tmp 33) = .bool true := hT 10 _ 33 rfl rfl
           have e34 : b__.eval (.tmp 34) = .pointer (some ⟨g6, 1, none⟩) := hT 11 _ 34 rfl rfl
           have e35 : b__.eval (.tmp 35) = .pointer (some ⟨g6, 1, none⟩) := hT 12 _ 35 rfl rfl
           have e36 : b__.eval (.tmp 36) = .agg #[.slice Ay my cy] := hT 13 _ 36 rfl rfl
           have e37 : b__.eval (.tmp 37) = .pointer (some ⟨g1, 1, none⟩) := hT 14 _ 37 rfl rfl
           have e38 : b__.eval (.tmp 38) = .pointer (some ⟨q, 0, none⟩) := hT 15 _ 38 rfl rfl
           have e39 : b__.eval (.tmp 39) = .agg #[u] := hT 16 _ 39 rfl rfl
           have e40 : (fun (v : Value) (w : World) => IsSet w (fun _ => True) v (closM L N0)) (b__.eval (.tmp 40)) wz := hT 17 _ 40 rfl rfl
           have e41 : b__.eval (.tmp 41) = .bool b2 := hT 18 _ 41 rfl rfl
           have e42 : b__.eval (.tmp 42) = .bool b2 := hT 19 _ 42 rfl rfl
           obtain ⟨vs, hvs, hb⟩ := frame_of hdf hsz hold
           replace e23 : vs 23 = .pointer (some ⟨g6, 0, none⟩) := (hvs 23).symm.trans e23
           replace e24 : vs 24 = .bool false := (hvs 24).symm.trans e24
           replace e25 : vs 25 = .bool true := (hvs 25).symm.trans e25
           replace e26 : vs 26 = .bool true := (hvs 26).symm.trans e26
           replace e27 : vs 27 = .agg #[u] := (hvs 27).symm.trans e27
           replace e28 : vs 28 = .pointer (some ⟨g6, 3, none⟩) := (hvs 28).symm.trans e28
           replace e29 : vs 29 = .int .i64 rt := (hvs 29).symm.trans e29
           replace e30 : vs 30 = .bool false := (hvs 30).symm.trans e30
           replace e31 : vs 31 = .bool true := (hvs 31).symm.trans e31
           replace e32 : vs 32 = .bool true := (hvs 32).symm.trans e32
           replace e33 : vs 33 = .bool true := (hvs 33).symm.trans e33
           replace e34 : vs 34 = .pointer (some ⟨g6, 1, none⟩) := (hvs 34).symm.trans e34
           replace e35 : vs 35 = .pointer (some ⟨g6, 1, none⟩) := (hvs 35).symm.trans e35
           replace e36 : vs 36 = .agg #[.slice Ay my cy] := (hvs 36).symm.trans e36
           replace e37 : vs 37 = .pointer (some ⟨g1, 1, none⟩) := (hvs 37).symm.trans e37
           replace e38 : vs 38 = .pointer (some ⟨q, 0, none⟩) := (hvs 38).symm.trans e38
           replace e39 : vs 39 = .agg #[u] := (hvs 39).symm.trans e39
           replace e40 := (hvs 40) ▸ e40
           replace e41 : vs 41 = .bool b2 := (hvs 41).symm.trans e41
           replace e42 : vs 42 = .bool b2 := (hvs 42).symm.trans e42
           subst hb
           clear hvs hold hT hdf hsz
           simp only [setAll, Act.put, List.setIfInBounds_toArray, List.set_cons_zero, List.set_cons_succ, List.getElem_toArray, List.getElem_cons_succ, List.getElem_cons_zero]
           rw [hb2'] at e42
           rw [e42]
           replace hS := hS.ext hW
           clear hW
           go_wp2_with fail
           exact ⟨⟨j + 1, mb, u, N0, by go_num, rfl, hlj, HI2, (hS.sub (List.sublist_cons_self _ _)).mono (KS.out.and stable_set) fun D w h => ⟨(kc.out _ _ h).1, (kc.out _ _ h).2.1⟩⟩, by simp [intOf]; omega⟩
         ·obtain ⟨t, ht, ht64⟩ := HTj.out
          dsimp only at ht
          have HI2 := Lib.hid (HI.out.add HGj.out rfl hb1.symm hb2.symm ht)
          have HWT : Hid (withN N0 rt = N0 ||| 2 ^ t) := Lib.hid (by rw [ht]; exact withN_nat ht64)
          obtain ⟨b2, hb2'⟩ : ∃ b, b = true := ⟨_, rfl⟩
          rw [← hb2'] at HB2
          clear hb1 hb2 HI ht ht64
          go_wp2_with (first
           | ((with_reducible refine qB ?_); (first | refine q1 ?_ ?_ | refine q2 ?_ ?_ | refine q3 ?_ ?_ | refine q4 ?_ ?_ | refine q5 ?_ ?_ | refine q6 ?_ ?_) <;> intro h_ <;> go_prune)
           | ((with_reducible refine qA 22 ?_); refine BigFrame.wpList_want rfl fun _ hK => opw_mid (cs := [.bool _, .slice Ay my cy, .slice Am mn cm, .int .i64 rt, .int .i64 ro]) rfl rfl (rng5 c0 c1 c2 c3 c4) Tryz.underlying58 rfl (by kernel_rfl) (hK _ _ ?_))
           | ((with_reducible refine qA 6 ?_); refine qa hS #[.bool false, .slice none 0 0, .slice none 0 0, .int .i64 0, .int .i64 0] ?_; clear hS; intro g6 w_ hS)
           | ((with_reducible refine qM ?_); (first | refine qS hS ?_ | refine qT hS ?_); clear hS; intro w_ hS; (try simp only [Act.put, Act.eval, z1, z2, z3, z4, z5, z6, z7, z8, Value.cells] at hS)))
          refine wp_region_typed (fun i__ v w => match i__ with
           | 0 => v = .pointer (some ⟨g6, 0, none⟩)
           | 1 => v = .bool false
           | 2 => v = .bool true
           | 3 => v = .bool true
           | 4 => v = .agg #[u]
           | 5 => v = .pointer (some ⟨g6, 3, none⟩)
           | 6 => v = .int .i64 rt
           | 7 => v = .bool false
           | 8 => v = .bool true
           | 9 => v = .bool true
           | 10 => v = .bool true
           | 11 => v = .pointer (some ⟨g6, 1, none⟩)
           | 12 => v = .pointer (some ⟨g6, 1, none⟩)
           | 13 => v = .agg #[.slice Ay my cy]
           | 14 => v = .pointer (some ⟨g1, 1, none⟩)
           | 15 => v = .pointer (some ⟨q, 0, none⟩)
           | 16 => v = .agg #[u]
           | 17 => IsSet w (fun _ => True) v (closM L N0)
           | 18 => v = .bool b2
           | 19 => v = .bool b2
           | _ => True) (by kernel_rfl) (by kernel_rfl) ?mono ⟨?r0, ?r1, ?r2, ?r3, ?r4, ?r5, ?r6, ?r7, ?r8, ?r9, ?r10, ?r11, ?r12, ?r13, ?r14, ?r15, ?r16, ?r17, ?r18, ?r19, trivial⟩ ?post
          case mono =>
           intro i v w w' h hb
           match i, h with
           | 0, h | 1, h | 2, h | 3, h | 4, h | 5, h | 6, h | 7, h | 8, h | 9, h | 10, h | 11, h | 12, h | 13, h | 14, h | 15, h | 16, h => exact h
           | 17, h => exact h.ext hb
           | 18, h | 19, h => exact h
           | _ + 20, h => trivial
          case r0 =>
           refine trule fun b__ w hW hold hpre => wU rfl fun K hK => ?_
           have e6 : b__.eval (.tmp 6) = .pointer (some ⟨g6, 0, none⟩) := (hold 6 (by kernel_rfl)).trans rfl
           exact opw_faddr rfl e6 (by kernel_rfl) (hK _ _ rfl (Below.refl _ _))
          case r1 =>
           refine trule fun b__ w hW hold hpre => wU rfl fun K hK => ?_
           have e23 : b__.eval (.tmp 23) = .pointer (some ⟨g6, 0, none⟩) := pq hpre 0 0 23
           exact opw_cell rfl e23 (by kernel_rfl) (((hS.ext (undrew hW)).box 0 rfl).cell 0) (hK _ _ rfl (Below.refl _ _))
          case r2 =>
           refine trule fun b__ w hW hold hpre => wU rfl fun K hK => ?_
           have e24 : b__.eval (.tmp 24) = .bool false := pq hpre 0 1 24
           exact opw_un rfl e24 rfl (hK _ _ rfl (Below.refl _ _))
          case r3 =>
           refine trule fun b__ w hW hold hpre => wU rfl fun K hK => ?_
           have e25 : b__.eval (.tmp 25) = .bool true := pq hpre 0 2 25
           exact opw_move rfl e25 (hK _ _ rfl (Below.refl _ _))
          case r4 =>
           refine trule fun b__ w hW hold hpre => wT rfl rfl rfl (show b__.eval (.tmp 26) = .bool true from pq hpre 0 3 26) fun K hK => ?_
           have e3 : b__.eval (.tmp 3) = .pointer (some ⟨g3, 0, none⟩) := (hold 3 (by kernel_rfl)).trans rfl
           exact opw_row rfl e3 ((hS.ext (undrew hW)).box 1 rfl) Tryz.underlying27 rfl (by kernel_rfl) (hK _ _ rfl (Below.refl _ _))
          case r5 =>
           refine trule fun b__ w hW hold hpre => wT rfl rfl rfl (show b__.eval (.tmp 26) = .bool true from pq hpre 0 3 26) fun K hK => ?_
           have e6 : b__.eval (.tmp 6) = .pointer (some ⟨g6, 0, none⟩) := (hold 6 (by kernel_rfl)).trans rfl
           exact opw_faddr rfl e6 (by kernel_rfl) (hK _ _ rfl (Below.refl _ _))
          case r6 =>
           refine trule fun b__ w hW hold hpre => wT rfl rfl rfl (show b__.eval (.tmp 26) = .bool true from pq hpre 1 3 26) fun K hK => ?_
           have e28 : b__.eval (.tmp 28) = .pointer (some ⟨g6, 3, none⟩) := pq hpre 0 5 28
           exact opw_cell rfl e28 (by kernel_rfl) (((hS.ext (undrew hW)).box 0 rfl).cell 3) (hK _ _ rfl (Below.refl _ _))
          case r7 =>
           refine trule fun b__ w hW hold hpre => wT rfl rfl rfl (show b__.eval (.tmp 26) = .bool true from pq hpre 2 3 26) fun K hK => ?_
           have e27 : b__.eval (.tmp 27) = .agg #[u] := pq hpre 0 4 27
           have e29 : b__.eval (.tmp 29) = .int .i64 rt := pq hpre 1 6 29
           exact opw_call rfl (by kernel_rfl) (by simp only [List.map_cons, List.map_nil, e27, e29]) (has_any _ N0 rt _ _ (kc.out _ _ (hS.ext (undrew hW)).ro).2.1) fun v w' h hb => hK v w' (h.trans (by rw [← HB1.out])) hb
          case r8 =>
           refine trule fun b__ w hW hold hpre => wT rfl rfl rfl (show b__.eval (.tmp 26) = .bool true from pq hpre 1 3 26) fun K hK => ?_
           have e30 : b__.eval (.tmp 30) = .bool false := pq hpre 0 7 30
           exact opw_un rfl e30 rfl (hK _ _ rfl (Below.refl _ _))
          case r9 =>
           refine trule fun b__ w hW hold hpre => wU rfl fun K hK => ?_
           have e26 : b__.eval (.tmp 26) = .bool true := pq hpre 0 3 26
           have e31 : b__.eval (.tmp 31) = .bool true := pq hpre 1 8 31
           exact opw_pick rfl e26 e31 (hK _ _ rfl (Below.refl _ _))
          case r10 =>
           refine trule fun b__ w hW hold hpre => wU rfl fun K hK => ?_
           have e32 : b__.eval (.tmp 32) = .bool true := pq hpre 0 9 32
           exact opw_move rfl e32 (hK _ _ rfl (Below.refl _ _))
          case r11 =>
           refine trule fun b__ w hW hold hpre => wT rfl rfl rfl (show b__.eval (.tmp 33) = .bool true from pq hpre 0 10 33) fun K hK => ?_
           have e6 : b__.eval (.tmp 6) = .pointer (some ⟨g6, 0, none⟩) := (hold 6 (by kernel_rfl)).trans rfl
           exact opw_faddr rfl e6 (by kernel_rfl) (hK _ _ rfl (Below.refl _ _))
          case r12 =>
           refine trule fun b__ w hW hold hpre => wT rfl rfl rfl (show b__.eval (.tmp 33) = .bool true from pq hpre 1 10 33) fun K hK => ?_
           have e34 : b__.eval (.tmp 34) = .pointer (some ⟨g6, 1, none⟩) := pq hpre 0 11 34
           exact opw_faddr rfl e34 (by kernel_rfl) (hK _ _ rfl (Below.refl _ _))
          case r13 =>
           refine trule fun b__ w hW hold hpre => wT rfl rfl rfl (show b__.eval (.tmp 33) = .bool true from pq hpre 1 10 33) fun K hK => ?_
           have e35 : b__.eval (.tmp 35) = .pointer (some ⟨g6, 1, none⟩) := pq hpre 0 12 35
           exact opw_row1 rfl e35 ((hS.ext (undrew hW)).box 0 rfl) rfl Tryz.underlying27 (by kernel_rfl) (by kernel_rfl) (hK _ _ rfl (Below.refl _ _))
          case r14 =>
           refine trule fun b__ w hW hold hpre => wT rfl rfl rfl (show b__.eval (.tmp 33) = .bool true from pq hpre 0 10 33) fun K hK => ?_
           have e1 : b__.eval (.tmp 1) = .pointer (some ⟨g1, 0, none⟩) := (hold 1 (by kernel_rfl)).trans rfl
           exact opw_faddr rfl e1 (by kernel_rfl) (hK _ _ rfl (Below.refl _ _))
          case r15 =>
           refine trule fun b__ w hW hold hpre => wT rfl rfl rfl (show b__.eval (.tmp 33) = .bool true from pq hpre 1 10 33) fun K hK => ?_
           have e37 : b__.eval (.tmp 37) = .pointer (some ⟨g1, 1, none⟩) := pq hpre 0 14 37
           exact opw_cell rfl e37 (by kernel_rfl) (((hS.ext (undrew hW)).box 2 rfl).cell 1) (hK _ _ rfl (Below.refl _ _))
          case r16 =>
           refine trule fun b__ w hW hold hpre => wT rfl rfl rfl (show b__.eval (.tmp 33) = .bool true from pq hpre 0 10 33) fun K hK => ?_
           have e3 : b__.eval (.tmp 3) = .pointer (some ⟨g3, 0, none⟩) := (hold 3 (by kernel_rfl)).trans rfl
           exact opw_row rfl e3 ((hS.ext (undrew hW)).box 1 rfl) Tryz.underlying27 rfl (by kernel_rfl) (hK _ _ rfl (Below.refl _ _))
          case r17 =>
           refine trule fun b__ w hW hold hpre => wT rfl rfl rfl (show b__.eval (.tmp 33) = .bool true from pq hpre 2 10 33) fun K hK => ?_
           have e38 : b__.eval (.tmp 38) = .pointer (some ⟨q, 0, none⟩) := pq hpre 0 15 38
           have e39 : b__.eval (.tmp 39) = .agg #[u] := pq hpre 1 16 39
           exact opw_call rfl (by kernel_rfl) (by simp only [List.map_cons, List.map_nil, e38, e39]) (hclos_any (kh _ _ (kc.out _ _ (hS.ext (undrew hW)).ro).1) (kt _ _ (kc.out _ _ (hS.ext (undrew hW)).ro).1) HH.out (kc.out _ _ (hS.ext (undrew hW)).ro).2.1) fun v w' h hb => hK v w' (h.imp fun _ _ _ => trivial) hb
          case r18 =>
           refine trule fun b__ w hW hold hpre => wT rfl rfl rfl (show b__.eval (.tmp 33) = .bool true from pq hpre 3 10 33) fun K hK => ?_
           have e36 : b__.eval (.tmp 36) = .agg #[.slice Ay my cy] := pq hpre 0 13 36
           have e40 : (fun (v : Value) (w : World) => IsSet w (fun _ => True) v (closM L N0)) (b__.eval (.tmp 40)) w := hpre ⟨17, _⟩ (Array.mem_of_getElem? (i := 1) rfl) rfl _ _ rfl rfl
           exact opw_call rfl (by kernel_rfl) (by simp only [List.map_cons, List.map_nil, e36]) (within_any _ _ ry (closM L N0) _ _ _ (kc.out _ _ (hS.ext (undrew hW)).ro).2.2.1 e40) fun v w' h hb => hK v w' (h.trans (by rw [HB2.out])) hb
          case r19 =>
           refine trule fun b__ w hW hold hpre => wU rfl fun K hK => ?_
           have e33 : b__.eval (.tmp 33) = .bool true := pq hpre 0 10 33
           have e41 : b__.eval (.tmp 41) = .bool b2 := pq hpre 1 18 41
           exact opw_pick rfl e33 e41 (hK _ _ rfl (Below.refl _ _))
          case post =>
           intro b__ wz hW hdf hsz hold hT
           have e23 : b__.eval (.tmp 23) = .pointer (some ⟨g6, 0, none⟩) := hT 0 _ 23 rfl rfl
           have e24 : b__.eval (.tmp 24) = .bool false := hT 1 _ 24 rfl rfl
           have e25 : b__.eval (.tmp 25) = .bool true := hT 2 _ 25 rfl rfl
           have e26 : b__.eval (.tmp 26) = .bool true := hT 3 _ 26 rfl rfl
           have e27 : b__.eval (.tmp 27) = .agg #[u] := hT 4 _ 27 rfl rfl
           have e28 : b__.eval (.tmp 28) = .pointer (some ⟨g6, 3, none⟩) := hT 5 _ 28 rfl rfl
           have e29 : b__.eval (.tmp 29) = .int .i64 rt := hT 6 _ 29 rfl rfl
           have e30 : b__.eval (.tmp 30) = .bool false := hT 7 _ 30 rfl rfl
           have e31 : b__.eval (.tmp 31) = .bool true := hT 8 _ 31 rfl rfl
           have e32 : b__.eval (.tmp 32) = .bool true := hT 9 _ 32 rfl rfl
           have e33 : b__.eval (.tmp 33) = .bool true := hT 10 _ 33 rfl rfl
           have e34 : b__.eval (.tmp 34) = .pointer (some ⟨g6, 1, none⟩) := hT 11 _ 34 rfl rfl
           have e35 : b__.eval (.tmp 35) = .pointer (some ⟨g6, 1, none⟩) := hT 12 _ 35 rfl rfl
           have e36 : b__.eval (.tmp 36) = .agg #[.slice Ay my cy] := hT 13 _ 36 rfl rfl
           have e37 : b__.eval (.tmp 37) = .pointer (some ⟨g1, 1, none⟩) := hT 14 _ 37 rfl rfl
           have e38 : b__.eval (.tmp 38) = .pointer (some ⟨q, 0, none⟩) := hT 15 _ 38 rfl rfl
           have e39 : b__.eval (.tmp 39) = .agg #[u] := hT 16 _ 39 rfl rfl
           have e40 : (fun (v : Value) (w : World) => IsSet w (fun _ => True) v (closM L N0)) (b__.eval (.tmp 40)) wz := hT 17 _ 40 rfl rfl
           have e41 : b__.eval (.tmp 41) = .bool b2 := hT 18 _ 41 rfl rfl
           have e42 : b__.eval (.tmp 42) = .bool b2 := hT 19 _ 42 rfl rfl
           obtain ⟨vs, hvs, hb⟩ := frame_of hdf hsz hold
           replace e23 : vs 23 = .pointer (some ⟨g6, 0, none⟩) := (hvs 23).symm.trans e23
           replace e24 : vs 24 = .bool false := (hvs 24).symm.trans e24
           replace e25 : vs 25 = .bool true := (hvs 25).symm.trans e25
           replace e26 : vs 26 = .bool true := (hvs 26).symm.trans e26
           replace e27 : vs 27 = .agg #[u] := (hvs 27).symm.trans e27
           replace e28 : vs 28 = .pointer (some ⟨g6, 3, none⟩) := (hvs 28).symm.trans e28
           replace e29 : vs 29 = .int .i64 rt := (hvs 29).symm.trans e29
           replace e30 : vs 30 = .bool false := (hvs 30).symm.trans e30
           replace e31 : vs 31 = .bool true := (hvs 31).symm.trans e31
           replace e32 : vs 32 = .bool true := (hvs 32).symm.trans e32
           replace e33 : vs 33 = .bool true := (hvs 33).symm.trans e33
           replace e34 : vs 34 = .pointer (some ⟨g6, 1, none⟩) := (hvs 34).symm.trans e34
           replace e35 : vs 35 = .pointer (some ⟨g6, 1, none⟩) := (hvs 35).symm.trans e35
           replace e36 : vs 36 = .agg #[.slice Ay my cy] := (hvs 36).symm.trans e36
           replace e37 : vs 37 = .pointer (some ⟨g1, 1, none⟩) := (hvs 37).symm.trans e37
           replace e38 : vs 38 = .pointer (some ⟨q, 0, none⟩) := (hvs 38).symm.trans e38
           replace e39 : vs 39 = .agg #[u] := (hvs 39).symm.trans e39
           replace e40 := (hvs 40) ▸ e40
           replace e41 : vs 41 = .bool b2 := (hvs 41).symm.trans e41
           replace e42 : vs 42 = .bool b2 := (hvs 42).symm.trans e42
           subst hb
           clear hvs hold hT hdf hsz
           simp only [setAll, Act.put, List.setIfInBounds_toArray, List.set_cons_zero, List.set_cons_succ, List.getElem_toArray, List.getElem_cons_succ, List.getElem_cons_zero]
           rw [hb2'] at e42
           rw [e42]
           replace hS := hS.ext hW
           clear hW
           go_wp2_with (first
            | ((with_reducible refine qk 27 ?_); first | (refine st_setl hS 0 rfl _ _ rfl _ _ rfl _ _ rfl _ (by first | rfl | assumption) Tryz.underlying27 rfl (by kernel_rfl) ?_) | (refine st_setl hS 1 rfl _ _ rfl _ _ rfl _ _ rfl _ (by first | rfl | assumption) Tryz.underlying27 rfl (by kernel_rfl) ?_) | (refine st_setl hS 2 rfl _ _ rfl _ _ rfl _ _ rfl _ (by first | rfl | assumption) Tryz.underlying27 rfl (by kernel_rfl) ?_) | (refine st_setl hS 3 rfl _ _ rfl _ _ rfl _ _ rfl _ (by first | rfl | assumption) Tryz.underlying27 rfl (by kernel_rfl) ?_) | (refine st_setl hS 4 rfl _ _ rfl _ _ rfl _ _ rfl _ (by first | rfl | assumption) Tryz.underlying27 rfl (by kernel_rfl) ?_) | (refine st_setl hS 5 rfl _ _ rfl _ _ rfl _ _ rfl _ (by first | rfl | assumption) Tryz.underlying27 rfl (by kernel_rfl) ?_))
            | ((with_reducible refine qK ?_); refine qC hS ?_)
            | (go_at_call 59; refine (with_any _ N0 rt _ _ (kc.out _ _ hS.ro).2.1).mono ?_; rw [HWT.out]; rintro r_ w_ ⟨_, rfl, hM, hb_⟩; obtain ⟨A4, c4, l4, rfl, -⟩ := hM.parts; replace hS := hS.ret2 hb_ stable_set hM; clear hb_ hM)
            | ((with_reducible refine qM ?_); (first | refine qS hS ?_ | refine qT hS ?_); clear hS; intro w_ hS; (try simp only [Act.put, Act.eval, z1, z2, z3, z4, z5, z6, z7, z8, Value.cells] at hS)))
           exact ⟨⟨j + 1, true, _, N0 ||| 2 ^ t, by go_num, rfl, hlj, HI2, (hS.sub (List.sublist_cons_self _ _)).mono (KS.out.and stable_set) fun D w h => ⟨(kc.out _ _ h.1).1, h.2⟩⟩, by simp [intOf]; omega⟩
        ·have HI2 := Lib.hid (HI.out.skip HGj.out (.inr (.inl hb1.symm)))
         clear hb1 hb2 HI
         go_wp2_with (first
          | ((with_reducible refine qB ?_); (first | refine q1 ?_ ?_ | refine q2 ?_ ?_ | refine q3 ?_ ?_ | refine q4 ?_ ?_ | refine q5 ?_ ?_ | refine q6 ?_ ?_) <;> intro h_ <;> go_prune)
          | ((with_reducible refine qA 22 ?_); refine BigFrame.wpList_want rfl fun _ hK => opw_mid (cs := [.bool _, .slice Ay my cy, .slice Am mn cm, .int .i64 rt, .int .i64 ro]) rfl rfl (rng5 c0 c1 c2 c3 c4) Tryz.underlying58 rfl (by kernel_rfl) (hK _ _ ?_))
          | ((with_reducible refine qA 6 ?_); refine qa hS #[.bool false, .slice none 0 0, .slice none 0 0, .int .i64 0, .int .i64 0] ?_; clear hS; intro g6 w_ hS)
          | ((with_reducible refine qM ?_); (first | refine qS hS ?_ | refine qT hS ?_); clear hS; intro w_ hS; (try simp only [Act.put, Act.eval, z1, z2, z3, z4, z5, z6, z7, z8, Value.cells] at hS)))
         refine wp_region_typed (fun i__ v w => match i__ with
          | 0 => v = .pointer (some ⟨g6, 0, none⟩)
          | 1 => v = .bool false
          | 2 => v = .bool true
          | 3 => v = .bool true
          | 4 => v = .agg #[u]
          | 5 => v = .pointer (some ⟨g6, 3, none⟩)
          | 6 => v = .int .i64 rt
          | 7 => v = .bool true
          | 8 => v = .bool false
          | 9 => v = .bool false
          | 10 => v = .bool false
          | 11 => True
          | 12 => True
          | 13 => True
          | 14 => True
          | 15 => True
          | 16 => True
          | 17 => True
          | 18 => True
          | 19 => v = .bool false
          | _ => True) (by kernel_rfl) (by kernel_rfl) ?mono ⟨?r0, ?r1, ?r2, ?r3, ?r4, ?r5, ?r6, ?r7, ?r8, ?r9, ?r10, ?r11, ?r12, ?r13, ?r14, ?r15, ?r16, ?r17, ?r18, ?r19, trivial⟩ ?post
         case mono =>
          intro i v w w' h hb
          match i, h with
          | 0, h | 1, h | 2, h | 3, h | 4, h | 5, h | 6, h | 7, h | 8, h | 9, h | 10, h | 11, h | 12, h | 13, h | 14, h | 15, h | 16, h | 17, h | 18, h | 19, h => exact h
          | _ + 20, h => trivial
         case r0 =>
          refine trule fun b__ w hW hold hpre => wU rfl fun K hK => ?_
          have e6 : b__.eval (.tmp 6) = .pointer (some ⟨g6, 0, none⟩) := (hold 6 (by kernel_rfl)).trans rfl
          exact opw_faddr rfl e6 (by kernel_rfl) (hK _ _ rfl (Below.refl _ _))
         case r1 =>
          refine trule fun b__ w hW hold hpre => wU rfl fun K hK => ?_
          have e23 : b__.eval (.tmp 23) = .pointer (some ⟨g6, 0, none⟩) := pq hpre 0 0 23
          exact opw_cell rfl e23 (by kernel_rfl) (((hS.ext (undrew hW)).box 0 rfl).cell 0) (hK _ _ rfl (Below.refl _ _))
         case r2 =>
          refine trule fun b__ w hW hold hpre => wU rfl fun K hK => ?_
          have e24 : b__.eval (.tmp 24) = .bool false := pq hpre 0 1 24
          exact opw_un rfl e24 rfl (hK _ _ rfl (Below.refl _ _))
         case r3 =>
          refine trule fun b__ w hW hold hpre => wU rfl fun K hK => ?_
          have e25 : b__.eval (.tmp 25) = .bool true := pq hpre 0 2 25
          exact opw_move rfl e25 (hK _ _ rfl (Below.refl _ _))
         case r4 =>
          refine trule fun b__ w hW hold hpre => wT rfl rfl rfl (show b__.eval (.tmp 26) = .bool true from pq hpre 0 3 26) fun K hK => ?_
          have e3 : b__.eval (.tmp 3) = .pointer (some ⟨g3, 0, none⟩) := (hold 3 (by kernel_rfl)).trans rfl
          exact opw_row rfl e3 ((hS.ext (undrew hW)).box 1 rfl) Tryz.underlying27 rfl (by kernel_rfl) (hK _ _ rfl (Below.refl _ _))
         case r5 =>
          refine trule fun b__ w hW hold hpre => wT rfl rfl rfl (show b__.eval (.tmp 26) = .bool true from pq hpre 0 3 26) fun K hK => ?_
          have e6 : b__.eval (.tmp 6) = .pointer (some ⟨g6, 0, none⟩) := (hold 6 (by kernel_rfl)).trans rfl
          exact opw_faddr rfl e6 (by kernel_rfl) (hK _ _ rfl (Below.refl _ _))
         case r6 =>
          refine trule fun b__ w hW hold hpre => wT rfl rfl rfl (show b__.eval (.tmp 26) = .bool true from pq hpre 1 3 26) fun K hK => ?_
          have e28 : b__.eval (.tmp 28) = .pointer (some ⟨g6, 3, none⟩) := pq hpre 0 5 28
          exact opw_cell rfl e28 (by kernel_rfl) (((hS.ext (undrew hW)).box 0 rfl).cell 3) (hK _ _ rfl (Below.refl _ _))
         case r7 =>
          refine trule fun b__ w hW hold hpre => wT rfl rfl rfl (show b__.eval (.tmp 26) = .bool true from pq hpre 2 3 26) fun K hK => ?_
          have e27 : b__.eval (.tmp 27) = .agg #[u] := pq hpre 0 4 27
          have e29 : b__.eval (.tmp 29) = .int .i64 rt := pq hpre 1 6 29
          exact opw_call rfl (by kernel_rfl) (by simp only [List.map_cons, List.map_nil, e27, e29]) (has_any _ N0 rt _ _ (kc.out _ _ (hS.ext (undrew hW)).ro).2.1) fun v w' h hb => hK v w' (h.trans (by rw [← HB1.out])) hb
         case r8 =>
          refine trule fun b__ w hW hold hpre => wT rfl rfl rfl (show b__.eval (.tmp 26) = .bool true from pq hpre 1 3 26) fun K hK => ?_
          have e30 : b__.eval (.tmp 30) = .bool true := pq hpre 0 7 30
          exact opw_un rfl e30 rfl (hK _ _ rfl (Below.refl _ _))
         case r9 =>
          refine trule fun b__ w hW hold hpre => wU rfl fun K hK => ?_
          have e26 : b__.eval (.tmp 26) = .bool true := pq hpre 0 3 26
          have e31 : b__.eval (.tmp 31) = .bool false := pq hpre 1 8 31
          exact opw_pick rfl e26 e31 (hK _ _ rfl (Below.refl _ _))
         case r10 =>
          refine trule fun b__ w hW hold hpre => wU rfl fun K hK => ?_
          have e32 : b__.eval (.tmp 32) = .bool false := pq hpre 0 9 32
          exact opw_move rfl e32 (hK _ _ rfl (Below.refl _ _))
         case r11 =>
          refine trule fun b__ w hW hold hpre => ⟨fun hwant K hK => ?_, fun hwant => ?_⟩
          ·rw [want_some rfl rfl rfl (show b__.eval (.tmp 33) = .bool false from hpre ⟨10, _⟩ (Array.mem_of_getElem? (i := 0) rfl) rfl _ _ rfl rfl)] at hwant; cases hwant
          ·exact trivial
         case r12 =>
          refine trule fun b__ w hW hold hpre => ⟨fun hwant K hK => ?_, fun hwant => ?_⟩
          ·rw [want_some rfl rfl rfl (show b__.eval (.tmp 33) = .bool false from hpre ⟨10, _⟩ (Array.mem_of_getElem? (i := 1) rfl) rfl _ _ rfl rfl)] at hwant; cases hwant
          ·exact trivial
         case r13 =>
          refine trule fun b__ w hW hold hpre => ⟨fun hwant K hK => ?_, fun hwant => ?_⟩
          ·rw [want_some rfl rfl rfl (show b__.eval (.tmp 33) = .bool false from hpre ⟨10, _⟩ (Array.mem_of_getElem? (i := 1) rfl) rfl _ _ rfl rfl)] at hwant; cases hwant
          ·exact trivial
         case r14 =>
          refine trule fun b__ w hW hold hpre => ⟨fun hwant K hK => ?_, fun hwant => ?_⟩
          ·rw [want_some rfl rfl rfl (show b__.eval (.tmp 33) = .bool false from hpre ⟨10, _⟩ (Array.mem_of_getElem? (i := 0) rfl) rfl _ _ rfl rfl)] at hwant; cases hwant
          ·exact trivial
         case r15 =>
          refine trule fun b__ w hW hold hpre => ⟨fun hwant K hK => ?_, fun hwant => ?_⟩
          ·rw [want_some rfl rfl rfl (show b__.eval (.tmp 33) = .bool false from hpre ⟨10, _⟩ (Array.mem_of_getElem? (i := 1) rfl) rfl _ _ rfl rfl)] at hwant; cases hwant
          ·exact trivial
         case r16 =>
          refine trule fun b__ w hW hold hpre => ⟨fun hwant K hK => ?_, fun hwant => ?_⟩
          ·rw [want_some rfl rfl rfl (show b__.eval (.tmp 33) = .bool false from hpre ⟨10, _⟩ (Array.mem_of_getElem? (i := 0) rfl) rfl _ _ rfl rfl)] at hwant; cases hwant
          ·exact trivial
         case r17 =>
          refine trule fun b__ w hW hold hpre => ⟨fun hwant K hK => ?_, fun hwant => ?_⟩
          ·rw [want_some rfl rfl rfl (show b__.eval (.tmp 33) = .bool false from hpre ⟨10, _⟩ (Array.mem_of_getElem? (i := 2) rfl) rfl _ _ rfl rfl)] at hwant; cases hwant
          ·exact trivial
         case r18 =>
          refine trule fun b__ w hW hold hpre => ⟨fun hwant K hK => ?_, fun hwant => ?_⟩
          ·rw [want_some rfl rfl rfl (show b__.eval (.tmp 33) = .bool false from hpre ⟨10, _⟩ (Array.mem_of_getElem? (i := 3) rfl) rfl _ _ rfl rfl)] at hwant; cases hwant
          ·exact trivial
         case r19 =>
          refine trule fun b__ w hW hold hpre => wU rfl fun K hK => ?_
          have e33 : b__.eval (.tmp 33) = .bool false := pq hpre 0 10 33
          have e41 : (fun (v : Value) (w : World) => True) (b__.eval (.tmp 41)) w := hpre ⟨18, _⟩ (Array.mem_of_getElem? (i := 1) rfl) rfl _ _ rfl rfl
          exact opw_pick rfl e33 rfl (hK _ _ rfl (Below.refl _ _))
         case post =>
          intro b__ wz hW hdf hsz hold hT
          have e23 : b__.eval (.tmp 23) = .pointer (some ⟨g6, 0, none⟩) := hT 0 _ 23 rfl rfl
          have e24 : b__.eval (.tmp 24) = .bool false := hT 1 _ 24 rfl rfl
          have e25 : b__.eval (.tmp 25) = .bool true := hT 2 _ 25 rfl rfl
          have e26 : b__.eval (.tmp 26) = .bool true := hT 3 _ 26 rfl rfl
          have e27 : b__.eval (.tmp 27) = .agg #[u] := hT 4 _ 27 rfl rfl
          have e28 : b__.eval (.tmp 28) = .pointer (some ⟨g6, 3, none⟩) := hT 5 _ 28 rfl rfl
          have e29 : b__.eval (.tmp 29) = .int .i64 rt := hT 6 _ 29 rfl rfl
          have e30 : b__.eval (.tmp 30) = .bool true := hT 7 _ 30 rfl rfl
          have e31 : b__.eval (.tmp 31) = .bool false := hT 8 _ 31 rfl rfl
          have e32 : b__.eval (.tmp 32) = .bool false := hT 9 _ 32 rfl rfl
          have e33 : b__.eval (.tmp 33) = .bool false := hT 10 _ 33 rfl rfl
          have e42 : b__.eval (.tmp 42) = .bool false := hT 19 _ 42 rfl rfl
          obtain ⟨vs, hvs, hb⟩ := frame_of hdf hsz hold
          replace e23 : vs 23 = .pointer (some ⟨g6, 0, none⟩) := (hvs 23).symm.trans e23
          replace e24 : vs 24 = .bool false := (hvs 24).symm.trans e24
          replace e25 : vs 25 = .bool true := (hvs 25).symm.trans e25
          replace e26 : vs 26 = .bool true := (hvs 26).symm.trans e26
          replace e27 : vs 27 = .agg #[u] := (hvs 27).symm.trans e27
          replace e28 : vs 28 = .pointer (some ⟨g6, 3, none⟩) := (hvs 28).symm.trans e28
          replace e29 : vs 29 = .int .i64 rt := (hvs 29).symm.trans e29
          replace e30 : vs 30 = .bool true := (hvs 30).symm.trans e30
          replace e31 : vs 31 = .bool false := (hvs 31).symm.trans e31
          replace e32 : vs 32 = .bool false := (hvs 32).symm.trans e32
          replace e33 : vs 33 = .bool false := (hvs 33).symm.trans e33
          replace e42 : vs 42 = .bool false := (hvs 42).symm.trans e42
          subst hb
          clear hvs hold hT hdf hsz
          simp only [setAll, Act.put, List.setIfInBounds_toArray, List.set_cons_zero, List.set_cons_succ, List.getElem_toArray, List.getElem_cons_succ, List.getElem_cons_zero]
          rw [e42]
          replace hS := hS.ext hW
          clear hW
          go_wp2_with fail
          exact ⟨⟨j + 1, mb, u, N0, by go_num, rfl, hlj, HI2, (hS.sub (List.sublist_cons_self _ _)).mono (KS.out.and stable_set) fun D w h => ⟨(kc.out _ _ h).1, (kc.out _ _ h).2.1⟩⟩, by simp [intOf]; omega⟩
       ·have HI2 := Lib.hid (HI.out.skip HGj.out (.inl rfl))
        clear hb1 hb2 HI
        go_wp2_with (first
         | ((with_reducible refine qB ?_); (first | refine q1 ?_ ?_ | refine q2 ?_ ?_ | refine q3 ?_ ?_ | refine q4 ?_ ?_ | refine q5 ?_ ?_ | refine q6 ?_ ?_) <;> intro h_ <;> go_prune)
         | ((with_reducible refine qA 22 ?_); refine BigFrame.wpList_want rfl fun _ hK => opw_mid (cs := [.bool _, .slice Ay my cy, .slice Am mn cm, .int .i64 rt, .int .i64 ro]) rfl rfl (rng5 c0 c1 c2 c3 c4) Tryz.underlying58 rfl (by kernel_rfl) (hK _ _ ?_))
         | ((with_reducible refine qA 6 ?_); refine qa hS #[.bool false, .slice none 0 0, .slice none 0 0, .int .i64 0, .int .i64 0] ?_; clear hS; intro g6 w_ hS)
         | ((with_reducible refine qM ?_); (first | refine qS hS ?_ | refine qT hS ?_); clear hS; intro w_ hS; (try simp only [Act.put, Act.eval, z1, z2, z3, z4, z5, z6, z7, z8, Value.cells] at hS)))
        refine wp_region_typed (fun i__ v w => match i__ with
         | 0 => v = .pointer (some ⟨g6, 0, none⟩)
         | 1 => v = .bool true
         | 2 => v = .bool false
         | 3 => v = .bool false
         | 4 => True
         | 5 => True
         | 6 => True
         | 7 => True
         | 8 => True
         | 9 => v = .bool false
         | 10 => v = .bool false
         | 11 => True
         | 12 => True
         | 13 => True
         | 14 => True
         | 15 => True
         | 16 => True
         | 17 => True
         | 18 => True
         | 19 => v = .bool false
         | _ => True) (by kernel_rfl) (by kernel_rfl) ?mono ⟨?r0, ?r1, ?r2, ?r3, ?r4, ?r5, ?r6, ?r7, ?r8, ?r9, ?r10, ?r11, ?r12, ?r13, ?r14, ?r15, ?r16, ?r17, ?r18, ?r19, trivial⟩ ?post
        case mono =>
         intro i v w w' h hb
         match i, h with
         | 0, h | 1, h | 2, h | 3, h | 4, h | 5, h | 6, h | 7, h | 8, h | 9, h | 10, h | 11, h | 12, h | 13, h | 14, h | 15, h | 16, h | 17, h | 18, h | 19, h => exact h
         | _ + 20, h => trivial
        case r0 =>
         refine trule fun b__ w hW hold hpre => wU rfl fun K hK => ?_
         have e6 : b__.eval (.tmp 6) = .pointer (some ⟨g6, 0, none⟩) := (hold 6 (by kernel_rfl)).trans rfl
         exact opw_faddr rfl e6 (by kernel_rfl) (hK _ _ rfl (Below.refl _ _))
        case r1 =>
         refine trule fun b__ w hW hold hpre => wU rfl fun K hK => ?_
         have e23 : b__.eval (.tmp 23) = .pointer (some ⟨g6, 0, none⟩) := pq hpre 0 0 23
         exact opw_cell rfl e23 (by kernel_rfl) (((hS.ext (undrew hW)).box 0 rfl).cell 0) (hK _ _ rfl (Below.refl _ _))
        case r2 =>
         refine trule fun b__ w hW hold hpre => wU rfl fun K hK => ?_
         have e24 : b__.eval (.tmp 24) = .bool true := pq hpre 0 1 24
         exact opw_un rfl e24 rfl (hK _ _ rfl (Below.refl _ _))
        case r3 =>
         refine trule fun b__ w hW hold hpre => wU rfl fun K hK => ?_
         have e25 : b__.eval (.tmp 25) = .bool false := pq hpre 0 2 25
         exact opw_move rfl e25 (hK _ _ rfl (Below.refl _ _))
        case r4 =>
         refine trule fun b__ w hW hold hpre => ⟨fun hwant K hK => ?_, fun hwant => ?_⟩
         ·rw [want_some rfl rfl rfl (show b__.eval (.tmp 26) = .bool false from hpre ⟨3, _⟩ (Array.mem_of_getElem? (i := 0) rfl) rfl _ _ rfl rfl)] at hwant; cases hwant
         ·exact trivial
        case r5 =>
         refine trule fun b__ w hW hold hpre => ⟨fun hwant K hK => ?_, fun hwant => ?_⟩
         ·rw [want_some rfl rfl rfl (show b__.eval (.tmp 26) = .bool false from hpre ⟨3, _⟩ (Array.mem_of_getElem? (i := 0) rfl) rfl _ _ rfl rfl)] at hwant; cases hwant
         ·exact trivial
        case r6 =>
         refine trule fun b__ w hW hold hpre => ⟨fun hwant K hK => ?_, fun hwant => ?_⟩
         ·rw [want_some rfl rfl rfl (show b__.eval (.tmp 26) = .bool false from hpre ⟨3, _⟩ (Array.mem_of_getElem? (i := 1) rfl) rfl _ _ rfl rfl)] at hwant; cases hwant
         ·exact trivial
        case r7 =>
         refine trule fun b__ w hW hold hpre => ⟨fun hwant K hK => ?_, fun hwant => ?_⟩
         ·rw [want_some rfl rfl rfl (show b__.eval (.tmp 26) = .bool false from hpre ⟨3, _⟩ (Array.mem_of_getElem? (i := 2) rfl) rfl _ _ rfl rfl)] at hwant; cases hwant
         ·exact trivial
        case r8 =>
         refine trule fun b__ w hW hold hpre => ⟨fun hwant K hK => ?_, fun hwant => ?_⟩
         ·rw [want_some rfl rfl rfl (show b__.eval (.tmp 26) = .bool false from hpre ⟨3, _⟩ (Array.mem_of_getElem? (i := 1) rfl) rfl _ _ rfl rfl)] at hwant; cases hwant
         ·exact trivial
        case r9 =>
         refine trule fun b__ w hW hold hpre => wU rfl fun K hK => ?_
         have e26 : b__.eval (.tmp 26) = .bool false := pq hpre 0 3 26
         have e31 : (fun (v : Value) (w : World) => True) (b__.eval (.tmp 31)) w := hpre ⟨8, _⟩ (Array.mem_of_getElem? (i := 1) rfl) rfl _ _ rfl rfl
         exact opw_pick rfl e26 rfl (hK _ _ rfl (Below.refl _ _))
        case r10 =>
         refine trule fun b__ w hW hold hpre => wU rfl fun K hK => ?_
         have e32 : b__.eval (.tmp 32) = .bool false := pq hpre 0 9 32
         exact opw_move rfl e32 (hK _ _ rfl (Below.refl _ _))
        case r11 =>
         refine trule fun b__ w hW hold hpre => ⟨fun hwant K hK => ?_, fun hwant => ?_⟩
         ·rw [want_some rfl rfl rfl (show b__.eval (.tmp 33) = .bool false from hpre ⟨10, _⟩ (Array.mem_of_getElem? (i := 0) rfl) rfl _ _ rfl rfl)] at hwant; cases hwant
         ·exact trivial
        case r12 =>
         refine trule fun b__ w hW hold hpre => ⟨fun hwant K hK => ?_, fun hwant => ?_⟩
         ·rw [want_some rfl rfl rfl (show b__.eval (.tmp 33) = .bool false from hpre ⟨10, _⟩ (Array.mem_of_getElem? (i := 1) rfl) rfl _ _ rfl rfl)] at hwant; cases hwant
         ·exact trivial
        case r13 =>
         refine trule fun b__ w hW hold hpre => ⟨fun hwant K hK => ?_, fun hwant => ?_⟩
         ·rw [want_some rfl rfl rfl (show b__.eval (.tmp 33) = .bool false from hpre ⟨10, _⟩ (Array.mem_of_getElem? (i := 1) rfl) rfl _ _ rfl rfl)] at hwant; cases hwant
         ·exact trivial
        case r14 =>
         refine trule fun b__ w hW hold hpre => ⟨fun hwant K hK => ?_, fun hwant => ?_⟩
         ·rw [want_some rfl rfl rfl (show b__.eval (.tmp 33) = .bool false from hpre ⟨10, _⟩ (Array.mem_of_getElem? (i := 0) rfl) rfl _ _ rfl rfl)] at hwant; cases hwant
         ·exact trivial
        case r15 =>
         refine trule fun b__ w hW hold hpre => ⟨fun hwant K hK => ?_, fun hwant => ?_⟩
         ·rw [want_some rfl rfl rfl (show b__.eval (.tmp 33) = .bool false from hpre ⟨10, _⟩ (Array.mem_of_getElem? (i := 1) rfl) rfl _ _ rfl rfl)] at hwant; cases hwant
         ·exact trivial
        case r16 =>
         refine trule fun b__ w hW hold hpre => ⟨fun hwant K hK => ?_, fun hwant => ?_⟩
         ·rw [want_some rfl rfl rfl (show b__.eval (.tmp 33) = .bool false from hpre ⟨10, _⟩ (Array.mem_of_getElem? (i := 0) rfl) rfl _ _ rfl rfl)] at hwant; cases hwant
         ·exact trivial
        case r17 =>
         refine trule fun b__ w hW hold hpre => ⟨fun hwant K hK => ?_, fun hwant => ?_⟩
         ·rw [want_some rfl rfl rfl (show b__.eval (.tmp 33) = .bool false from hpre ⟨10, _⟩ (Array.mem_of_getElem? (i := 2) rfl) rfl _ _ rfl rfl)] at hwant; cases hwant
         ·exact trivial
        case r18 =>
         refine trule fun b__ w hW hold hpre => ⟨fun hwant K hK => ?_, fun hwant => ?_⟩
         ·rw [want_some rfl rfl rfl (show b__.eval (.tmp 33) = .bool false from hpre ⟨10, _⟩ (Array.mem_of_getElem? (i := 3) rfl) rfl _ _ rfl rfl)] at hwant; cases hwant
         ·exact trivial
        case r19 =>
         refine trule fun b__ w hW hold hpre => wU rfl fun K hK => ?_
         have e33 : b__.eval (.tmp 33) = .bool false := pq hpre 0 10 33
         have e41 : (fun (v : Value) (w : World) => True) (b__.eval (.tmp 41)) w := hpre ⟨18, _⟩ (Array.mem_of_getElem? (i := 1) rfl) rfl _ _ rfl rfl
         exact opw_pick rfl e33 rfl (hK _ _ rfl (Below.refl _ _))
        case post =>
         intro b__ wz hW hdf hsz hold hT
         have e23 : b__.eval (.tmp 23) = .pointer (some ⟨g6, 0, none⟩) := hT 0 _ 23 rfl rfl
         have e24 : b__.eval (.tmp 24) = .bool true := hT 1 _ 24 rfl rfl
         have e25 : b__.eval (.tmp 25) = .bool false := hT 2 _ 25 rfl rfl
         have e26 : b__.eval (.tmp 26) = .bool false := hT 3 _ 26 rfl rfl
         have e32 : b__.eval (.tmp 32) = .bool false := hT 9 _ 32 rfl rfl
         have e33 : b__.eval (.tmp 33) = .bool false := hT 10 _ 33 rfl rfl
         have e42 : b__.eval (.tmp 42) = .bool false := hT 19 _ 42 rfl rfl
         obtain ⟨vs, hvs, hb⟩ := frame_of hdf hsz hold
         replace e23 : vs 23 = .pointer (some ⟨g6, 0, none⟩) := (hvs 23).symm.trans e23
         replace e24 : vs 24 = .bool true := (hvs 24).symm.trans e24
         replace e25 : vs 25 = .bool false := (hvs 25).symm.trans e25
         replace e26 : vs 26 = .bool false := (hvs 26).symm.trans e26
         replace e32 : vs 32 = .bool false := (hvs 32).symm.trans e32
         replace e33 : vs 33 = .bool false := (hvs 33).symm.trans e33
         replace e42 : vs 42 = .bool false := (hvs 42).symm.trans e42
         subst hb
         clear hvs hold hT hdf hsz
         simp only [setAll, Act.put, List.setIfInBounds_toArray, List.set_cons_zero, List.set_cons_succ, List.getElem_toArray, List.getElem_cons_succ, List.getElem_cons_zero]
         rw [e42]
         replace hS := hS.ext hW
         clear hW
         go_wp2_with fail
         exact ⟨⟨j + 1, mb, u, N0, by go_num, rfl, hlj, HI2, (hS.sub (List.sublist_cons_self _ _)).mono (KS.out.and stable_set) fun D w h => ⟨(kc.out _ _ h).1, (kc.out _ _ h).2.1⟩⟩, by simp [intOf]; omega⟩
      ·obtain rfl : rl.length = j := by omega
       have HI2 : Hid (ULow L ⟨R, some L, st, rl, nl, gl⟩ N0 ∧ (mb = false → ∀ r ∈ rl, r.revoke = false → (r.yes &&& closM L N0 == r.yes) = true → hasB N0 r.target = true)) := Lib.hid ⟨HI.out.low, fun e r hr => (HI.out.no e).2 r (by rw [List.take_length]; exact hr)⟩
       have HLK : Hid (2 * lacks N0 rl + (if mb = true then 1 else 0) < 2 * lacks B rl + 1) := Lib.hid (by
        cases mb with
        | true => have h := HI.out.yes rfl; dsimp only at h; simp; omega
        | false => have h := (HI.out.no rfl).1; rw [h]; simp)
       clear HI
       go_wp2_with (first | ((with_reducible refine qB ?_); (first | refine q1 ?_ ?_ | refine q2 ?_ ?_ | refine q3 ?_ ?_ | refine q4 ?_ ?_ | refine q5 ?_ ?_ | refine q6 ?_ ?_) <;> intro h_ <;> go_prune))
       go_roundg (2 * lacks N0 rl + (if mb = true then 1 else 0))
       case measure => have h2 := HGK.out; simp only [if_true] at h2; exact Nat.lt_of_lt_of_le HLK.out h2
       case rel => exact ⟨mb, u, N0, rfl, Nat.le_refl _, HI2, hS⟩
 ·have HUS : Hid (useN ⟨R, lk, st, rl, nl, gl⟩ = []) := Lib.hid (by unfold useN; rw [if_neg (fun h => h0 (HE.out.trans h))])
  rw [HUS.out]
  go_enter Tryz.func21, Tryz.ntmps21
  go_wp2_with (first
   | ((with_reducible refine qA 1 ?_); refine st_box hS rfl _ _ rfl (.agg #[.int .i64 R, lp, .slice Cs ns cs, .slice Ar rl.length cr, .slice An nl.length cn, .slice Ag gl.length cg]) _ rfl rfl ?_; clear hS; intro g1 w_ hS; (try simp only [Act.put, Act.eval, z1, z2, z3, z4, z5, z6, z7, z8, Value.cells] at hS))
   | ((with_reducible refine qB ?_); (first | refine q1 ?_ ?_ | refine q2 ?_ ?_ | refine q3 ?_ ?_ | refine q4 ?_ ?_ | refine q5 ?_ ?_ | refine q6 ?_ ?_) <;> intro h_ <;> go_prune)
   | ((with_reducible refine qK ?_); refine qL hS Tryz.underlying31 ?_)
   | (go_at_call 18; refine (schk_any (kp _ _ hS.ro) HP.out (kt _ _ hS.ro)).mono ?_; rw [← HE.out]; rintro r_ w_ ⟨_, rfl, rfl, hb_⟩; replace hS := hS.ext hb_; clear hb_))
  go_ret
  exact ⟨_, rfl, ((hS.sub (List.nil_sublist _)).nil 3 1).mono (Stable.pure True) fun _ _ _ => trivial⟩
end Go.Proofs.YtihpgmbinhmmlaaGreatDoor
namespace Go.Proofs.YtihpgmbinhmmlaaGreatDoor
open Go.RowKit
set_option exponentiation.threshold 5000

def InR (N : Nat) : Prop := ∀ i, N.testBit i = true → 1 ≤ i ∧ i < 64
theorem tc_nil {a b : Nat} : ¬ TC [] a b := fun h => by obtain ⟨y, h, _⟩ := h.first; simp at h
theorem closM_nil {N : Nat} (h : InR N) : closM [] N = N := mask_ext fun i => by
 rw [tb_closM]
 constructor
 ·rintro ⟨r, h1, h2, h3, h4⟩
  rcases (tb_jun (by intro x hx; simp at hx) h1).1 h4 with rfl | h5
  ·exact h3
  ·exact absurd h5 tc_nil
 ·intro hi
  exact ⟨i, (h i hi).2, (h i hi).1, hi, (tb_jun (by intro x hx; simp at hx) (h i hi).2).2 (.inl rfl)⟩
theorem depM_nil {N : Nat} (h : InR N) : depM [] N = N := mask_ext fun i => by
 rw [tb_dep (by intro x hx; simp at hx)]
 constructor
 ·rintro ⟨r, h1, h2, h3, h4⟩
  rcases (tb_sen (by intro x hx; simp at hx)).1 h4 with rfl | h5
  ·exact h3
  ·exact absurd h5 tc_nil
 ·intro hi
  exact ⟨i, (h i hi).1, (h i hi).2, hi, (tb_sen (by intro x hx; simp at hx)).2 (.inl rfl)⟩
theorem inR_of {N : Nat} (h : N < 2 ^ 7) (h0 : N.testBit 0 = false) : InR N := fun i hi => by
 have : i < 7 := by
  rcases Nat.lt_or_ge i 7 with h1 | h1
  ·exact h1
  ·rw [Nat.testBit_lt_two_pow (Nat.lt_of_lt_of_le h (Nat.pow_le_pow_right (by decide) h1))] at hi; cases hi
 refine ⟨?_, by omega⟩
 rcases Nat.eq_zero_or_pos i with rfl | h1
 ·rw [h0] at hi; cases hi
 ·exact h1
def P1 : ProbD := ⟨5, some [], 0, [⟨false, 4, 0, 1, 0⟩, ⟨false, 0, 0, 2, 0⟩, ⟨false, 2, 0, 3, 0⟩, ⟨true, 0, 0, 4, 0⟩], [(36, 0)], [(2, 0)]⟩
def P2 : ProbD := ⟨5, some [], 4, [⟨false, 12, 0, 1, 0⟩], [], [(2, 0)]⟩
theorem dep2 : depM [] 2 = 2 := depM_nil (inR_of (by decide) (by decide))
theorem dep4 : depM [] 4 = 4 := depM_nil (inR_of (by decide) (by decide))
theorem dep36 : depM [] 36 = 36 := depM_nil (inR_of (by decide) (by decide))
theorem dep0 : depM [] 0 = 0 := depM_nil (inR_of (by decide) (by decide))
theorem check1 : checkE P1 = 0 := by
 have hg : goodB P1 0 = true := by
  show (!(P1.never.any fun z => holdsB z (closM [] 0))) = true
  rw [closM_nil (inR_of (by decide) (by decide))]; decide
 show (if (5 : Int) < 1 ∨ 63 < (5 : Int) then (1 : Int) else if 64 < P1.rules.length ∨ 2000 < P1.never.length ∨ 2000 < P1.goal.length then 3
  else if knownB P1 [] (rolesN 5) = false then 4 else if (P1.cubes.any fun z => z.1 &&& z.2 != 0) = true ∨ P1.rules.all revB = false then 6
  else if goodB P1 0 = false then 7 else 0) = 0
 rw [if_neg (by decide), if_neg (by decide), if_neg (by decide), if_neg (by decide), if_neg (by rw [hg]; decide)]
theorem check2 : checkE P2 = 0 := by
 have hg : goodB P2 4 = true := by
  show (!(P2.never.any fun z => holdsB z (closM [] 4))) = true
  rfl
 show (if (5 : Int) < 1 ∨ 63 < (5 : Int) then (1 : Int) else if 64 < P2.rules.length ∨ 2000 < P2.never.length ∨ 2000 < P2.goal.length then 3
  else if knownB P2 [] (rolesN 5) = false then 4 else if (P2.cubes.any fun z => z.1 &&& z.2 != 0) = true ∨ P2.rules.all revB = false then 6
  else if goodB P2 4 = false then 7 else 0) = 0
 rw [if_neg (by decide), if_neg (by decide), if_neg (by decide), if_neg (by decide), if_neg (by rw [hg]; decide)]
theorem rel1 : relM [] P1 = 38 := by
 refine (Low.eq ⟨fun T hT => ?_, by decide⟩ ⟨fun c hc => ?_, fun r hr h1 h2 => ?_, fun c hc _ => ?_⟩).symm
 ·have a1 : Sub 2 T := by
   have := hT.goal (2, 0) (by simp [P1])
   rw [show depC [] (2, 0) = depM [] 2 from rfl, dep2] at this; exact this
  have a2 : Sub 4 T := by
   have := hT.rules ⟨false, 4, 0, 1, 0⟩ (by simp [P1]) rfl (a1.has (by decide))
   rw [show depR [] ⟨false, 4, 0, 1, 0⟩ = depM [] 4 from rfl, dep4] at this; exact this
  have a3 : Sub 36 T := by
   have := hT.never (36, 0) (by simp [P1]) (by rw [show depC [] (36, 0) = depM [] 36 from rfl, dep36]; exact meets_iff.2 ⟨2, by decide, a2 2 (by decide)⟩)
   rw [show depC [] (36, 0) = depM [] 36 from rfl, dep36] at this; exact this
  have e : (38 : Nat) = 2 ||| 36 := by decide
  rw [e]; exact a1.or a3
 ·obtain rfl : c = (2, 0) := by simpa [P1] using hc
  rw [show depC [] (2, 0) = depM [] 2 from rfl, dep2]; exact within_iff.1 (by decide)
 ·simp only [P1, List.mem_cons, List.not_mem_nil, or_false] at hr
  rcases hr with rfl | rfl | rfl | rfl
  ·rw [show depR [] ⟨false, 4, 0, 1, 0⟩ = depM [] 4 from rfl, dep4]; exact within_iff.1 (by decide)
  ·rw [show depR [] ⟨false, 0, 0, 2, 0⟩ = depM [] 0 from rfl, dep0]; exact within_iff.1 (by decide)
  ·exact absurd h2 (by decide)
  ·cases h1
 ·obtain rfl : c = (36, 0) := by simpa [P1] using hc
  rw [show depC [] (36, 0) = depM [] 36 from rfl, dep36]; exact within_iff.1 (by decide)
theorem relS1 : relS P1 = 38 := by unfold relS; rw [if_pos check1]; exact rel1
theorem ofP1 : (ofP P1).rules.length = 2 ∧ (ofP P1).never.length = 1 := by
 have e : ofP P1 = ⟨5, some [], 0 &&& relM [] P1, keepR (relM [] P1) P1.rules, keepC [] (relM [] P1) P1.never, P1.goal⟩ := by unfold ofP; rw [if_pos check1]; rfl
 rw [e, rel1]
 refine ⟨by decide, ?_⟩
 show (List.filter (fun c => depC [] c &&& 38 != 0) [(36, 0)]).length = 1
 rw [List.filter_cons, show depC [] (36, 0) = depM [] 36 from rfl, dep36]; rfl
theorem ofK1 : ofKept P1 = [0, 1] := by
 have e : ofKept P1 = keepN (relM [] P1) P1.rules P1.rules.length := by unfold ofKept; rw [if_pos check1]; rfl
 rw [e, rel1]; decide
theorem upp2 : uppM [] P2 = 4 := by
 refine (ULeast.eq ⟨⟨Sub.refl _, fun r hr h1 h2 => ?_⟩, fun T hT => hT.start⟩).symm
 obtain rfl : r = ⟨false, 12, 0, 1, 0⟩ := by simpa [P2] using hr
 rw [closM_nil (inR_of (by decide) (by decide))] at h2
 revert h2; decide
theorem use2 : useN P2 = [0] := by
 have e : useN P2 = uslN (closM [] (uppM [] P2)) P2.rules P2.rules.length := by unfold useN; rw [if_pos check2]; rfl
 rw [e, upp2, closM_nil (inR_of (by decide) (by decide))]; rfl
theorem ok1 : P1.Ok := ⟨by decide, by decide, by decide, fun L h => by cases h; exact ⟨HOK.nil, by decide⟩⟩
theorem ok2 : P2.Ok := ⟨by decide, by decide, by decide, fun L h => by cases h; exact ⟨HOK.nil, by decide⟩⟩
end Go.Proofs.YtihpgmbinhmmlaaGreatDoor
