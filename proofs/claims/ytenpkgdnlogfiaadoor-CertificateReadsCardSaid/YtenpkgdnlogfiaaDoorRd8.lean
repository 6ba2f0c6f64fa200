/-
  What CertificateReads computes: true, on all raw certificates, places and bytes.
-/
import Derived.Test.YtenpkgdnlogfiaaDoorRd7
import Derived.Test.YtenpkgdnlogfiaaDoorChk3
namespace Go.Proofs.YtenpkgdnlogfiaaDoor
open Go.RowKit
attribute [local go_sem ↓] Go.wp_at_zero Go.wp_at_succ
set_option maxRecDepth 20000
set_option exponentiation.threshold 5000

section
variable {P : Program} {ops : Array Oper} {rest : List Oper} {o : Oper} {a : Act} {w0 w : World} {F : List Fact} {K : (Nat → Prop) → World → Prop} {Q : Exit → Act → World → Prop}
/-- '[]T{}': an empty row of the call's own -/
theorem st_empty (h : St w0 w F K) (hg : o.guard = none) (t e : TypeId) (ho : o.op = .buildSlice t 0 #[]) (ht : P.underlying t = some (.slice e)) (hb : builtSlice P e 0 [] = some #[]) (size : Nat)
    (hk : ∀ g w', St w0 w' (.own (.slice (some ⟨g, 0, none⟩) 0 0) e size 0 [] :: F) K → wpList P ops Q rest (a.put o.dst (.slice (some ⟨g, 0, none⟩) 0 0)) w') : wpList P ops Q (o :: rest) a w :=
  wpList_buildSlice_op hg t e 0 #[] ho ht #[] (by simpa using hb) fun w' hX hB => hk _ w' (h.new hB _ ⟨by simp, .inr ⟨w.heap.size, 0, #[], rfl, Nat.le_refl _, hX, Nat.le_refl _, by simp [maxLen], by simp, by simp⟩⟩)
end
theorem own_pos {w : World} {base n : Nat} {e : TypeId} {size : Nat} {v : Value} {xs : List Value} (h : w.ownsRow base e size v n xs) (hn : 0 < n) : ∃ g cap, v = .slice (some ⟨g, 0, none⟩) n cap ∧ n ≤ cap ∧ cap ≤ 9223372036854775807 := by
  obtain ⟨A, c, e1, h1, h2⟩ := own_shp h
  rcases h.2 with ⟨rfl, h0⟩ | ⟨g, cap, cur, rfl, _⟩
  · omega
  · injection e1 with e1 e2 e3; subst e3; exact ⟨g, cap, rfl, h1, h2⟩
theorem sl_bytes {w : World} {D : Nat → Prop} {v : Value} {n : Nat} {xs : List Value} {ps : List Nat} (h : Sl w D 1 v n xs) (e : xs = u8s ps) : Sl w D 1 v ps.length (u8s ps) := by
  subst e
  have : ps.length = n := by have := h.1; simpa [u8s] using this
  rw [this]; exact h
theorem eqC_refl (c : CertD) : eqC c c = true := by simp [eqC]
theorem ty_bytes' : SliceTy Tryd.prog 47 5 1 1 := ⟨Tryd.underlying47, by kernel_rfl⟩

set_option maxHeartbeats 4000000 in
theorem certreads_any (u : Value) (x : RawCert) (hx : x.ok) (at_ v : Nat) (hat : at_ < 65536) (hv : v < 256) (w0 : World) (hT : Tab w0) (hDT : DTab w0) (D : Nat → Prop) (hu : IsRaw w0 D u x) :
    Calls Tryd.prog 6 #[u, .int .u16 at_, .int .u8 v] w0 (Ret (fun r _ => r = .bool true) w0) := by
  obtain ⟨pv, qv, rfl, hp, hq⟩ := hu
  have hS := St.start0 (w := w0)
  obtain ⟨y, hy⟩ : ∃ y : RawCert, y = { x with odd := 0 } := ⟨_, rfl⟩
  have hyo : y.ok := by rw [hy]; exact ⟨hx.1, (by decide : (0 : Nat) < 256), hx.2.2⟩
  have hy0 : y.odd = 0 := by rw [hy]
  have hu : IsRaw w0 D (.agg #[.int .u8 (x.prob : Nat), .int .u8 0, .bool x.reach, pv, qv]) y := by rw [hy]; exact ⟨pv, qv, rfl, hp, hq⟩
  clear hy hp hq
  obtain ⟨c, hc⟩ : ∃ c, c = makeC y := ⟨_, rfl⟩
  have HSc := Lib.hid (show Small c.cubes ∧ c.plan.length ≤ 1000000 ∧ c.cubes.length ≤ 1000000 by rw [hc]; exact ⟨makeC_small hyo, makeC_len y⟩)
  have HCx : ∀ (v : Value) (wa w' : World), (∃ pv qv, v = .agg (cc (makeC y).prob (makeC y).reach pv qv) ∧ Sl w' (wa.heap.size ≤ ·) 1 pv (makeC y).plan.length (ints (makeC y).plan) ∧ RCubes w' (wa.heap.size ≤ ·) qv (makeC y).cubes) → IsRCert w' (fun b => wa.heap.size ≤ b ∧ b < w'.heap.size) v c := fun v wa w' h => by rw [hc]; exact rc_of hyo h
  have hFit : Fit c := by rw [hc]; exact makeC_fit hyo hy0
  obtain ⟨bs, hbs⟩ : ∃ bs, bs = bytesC c := ⟨_, rfl⟩
  have hck := hFit.1
  have hlen : 0 < bs.length ∧ bs.length ≤ 100000 := by
    rw [hbs, bytesC_ok hck]
    have h32 := hFit.2.1
    have hpl : c.plan.length ≤ 12 := by rw [hc]; exact (makeC_plan hy0).1
    have hcl : c.cubes.length ≤ 8 := by rw [hc]; exact (makeC_cubes hyo hy0).1
    have a1 := rest_len hpl hcl HSc.out.1
    have a3 := putN_len c.plan.length
    have a4 : (putFlag c.reach).length ≤ 1 := by cases c.reach <;> simp [putFlag]
    simp only [List.length_append]; omega
  have hbb : Bytes bs := by rw [hbs]; exact bytesC_bytes hFit.2.2.1
  obtain ⟨k, hk⟩ : ∃ k, k = at_ % bs.length := ⟨_, rfl⟩
  have hkl : k < bs.length := by rw [hk]; exact Nat.mod_lt _ hlen.1
  have HCut := Lib.hid (show (readC (bs.take k)).2 = 6 by rw [hbs]; exact readC_cut hFit (by rw [← hbs]; exact hkl))
  have HMore := Lib.hid (show (readC (bs ++ [v])).2 = 6 by rw [hbs]; exact readC_more hFit v)
  obtain ⟨z, hz⟩ : ∃ z, z = bs.getD k 0 ^^^ v := ⟨_, rfl⟩
  have hbk : bs.getD k 0 < 256 := hbb _ (by rw [List.getD_eq_getElem?_getD, List.getElem?_eq_getElem hkl]; exact List.getElem_mem hkl)
  have hz8 : z < 256 := by rw [hz]; exact Nat.xor_lt_two_pow (n := 8) hbk hv
  have hxor : bits .xor .u8 ((bs.getD k 0 : Nat) : Int) (v : Int) = ((z : Nat) : Int) := by rw [hz]; exact u8_xor_nat _ _ hbk hv
  have hcell : (u8s bs)[k]? = some (.int .u8 (bs.getD k 0 : Nat)) := u8s_at bs k hkl
  have hb3 : Bytes (bs.set k z) := fun t ht => by
    rcases List.mem_or_eq_of_mem_set ht with h | h
    · exact hbb t h
    · rw [h]; exact hz8
  have hl3 : (bs.set k z).length = bs.length := List.length_set
  have hw1 : IntKind.i64.wrap (at_ : Int) = (at_ : Int) := wrap_i64_nat (by omega)
  have hw2 : ((at_ : Int)).tmod (bs.length : Int) = (k : Int) := by rw [hk, Int.tmod_eq_emod_of_nonneg (Int.natCast_nonneg _)]; simp
  have HBS := Lib.hid hbs
  have HBB := Lib.hid hbb
  have HB3 := Lib.hid hb3
  have HL3 := Lib.hid hl3
  have HW2 := Lib.hid hw2
  have HCell := Lib.hid hcell
  have HXor := Lib.hid hxor
  have HU := Lib.hid hu
  have HT := Lib.hid hT
  have HDT := Lib.hid hDT
  have HX := Lib.hid hyo
  replace HCx := Lib.hid HCx
  generalize bs.getD k 0 = bk at *
  obtain ⟨hn0, hn1⟩ := hlen
  clear hc hu hT hDT hx hyo hy0 hFit hck hbb hbs hk hz hz8 hb3 hl3 hxor hcell hbk
  obtain ⟨xp, hxp⟩ : ∃ v : Value, v = .int .u8 (x.prob : Nat) ∧ v.cells = #[v] ∧ v.oneCell' = true := ⟨_, rfl, rfl, rfl⟩
  go_enter Tryd.func6, Tryd.ntmps6
  go_wp2_with (first
    | ((with_reducible show wpList _ _ _ (⟨some 3, _, _, _, _, _⟩ :: _) _ _); refine st_box hS rfl _ _ rfl (.agg #[.int .u8 (x.prob : Nat), .int .u8 (x.odd : Nat), .bool x.reach, pv, qv]) _ rfl rfl ?_; clear hS; intro g3 w_ hS; (try simp only [Act.put, Act.eval, List.set_cons_zero, List.set_cons_succ, List.setIfInBounds_toArray, Array.getD_eq_getD_getElem?, List.getElem?_toArray, List.getElem?_cons_succ, List.getElem?_cons_zero, Option.getD_some, Value.cells] at hS))
    | ((with_reducible show wpList _ _ _ (⟨_, .store _ _ _, _, _, _, _⟩ :: _) _ _); first | (refine st_store hS 0 rfl _ _ _ rfl _ _ rfl rfl _ _ rfl (by kernel_rfl) (by kernel_rfl) (by kernel_rfl) ?_; clear hS; intro w_ hS; (try simp only [Act.put, Act.eval, List.set_cons_zero, List.set_cons_succ, List.setIfInBounds_toArray, Array.getD_eq_getD_getElem?, List.getElem?_toArray, List.getElem?_cons_succ, List.getElem?_cons_zero, Option.getD_some, Value.cells] at hS)) | (refine st_store hS 1 rfl _ _ _ rfl _ _ rfl rfl _ _ rfl (by kernel_rfl) (by kernel_rfl) (by kernel_rfl) ?_; clear hS; intro w_ hS; (try simp only [Act.put, Act.eval, List.set_cons_zero, List.set_cons_succ, List.setIfInBounds_toArray, Array.getD_eq_getD_getElem?, List.getElem?_toArray, List.getElem?_cons_succ, List.getElem?_cons_zero, Option.getD_some, Value.cells] at hS)) | (refine st_store hS 2 rfl _ _ _ rfl _ _ rfl rfl _ _ rfl (by kernel_rfl) (by kernel_rfl) (by kernel_rfl) ?_; clear hS; intro w_ hS; (try simp only [Act.put, Act.eval, List.set_cons_zero, List.set_cons_succ, List.setIfInBounds_toArray, Array.getD_eq_getD_getElem?, List.getElem?_toArray, List.getElem?_cons_succ, List.getElem?_cons_zero, Option.getD_some, Value.cells] at hS)) | (refine st_store hS 3 rfl _ _ _ rfl _ _ rfl rfl _ _ rfl (by kernel_rfl) (by kernel_rfl) (by kernel_rfl) ?_; clear hS; intro w_ hS; (try simp only [Act.put, Act.eval, List.set_cons_zero, List.set_cons_succ, List.setIfInBounds_toArray, Array.getD_eq_getD_getElem?, List.getElem?_toArray, List.getElem?_cons_succ, List.getElem?_cons_zero, Option.getD_some, Value.cells] at hS)) | (refine st_cstore hS 0 rfl _ _ _ rfl _ _ _ rfl rfl rfl (by first | (simp; done) | (simp; omega) | exact of_decide_eq_true (by kernel_rfl)) rfl (by first | rfl | assumption) (by kernel_rfl) ?_; clear hS; intro w_ hS; (try simp only [Act.put, Act.eval, List.set_cons_zero, List.set_cons_succ, List.setIfInBounds_toArray, Array.getD_eq_getD_getElem?, List.getElem?_toArray, List.getElem?_cons_succ, List.getElem?_cons_zero, Option.getD_some, Value.cells] at hS)) | (refine st_cstore hS 1 rfl _ _ _ rfl _ _ _ rfl rfl rfl (by first | (simp; done) | (simp; omega) | exact of_decide_eq_true (by kernel_rfl)) rfl (by first | rfl | assumption) (by kernel_rfl) ?_; clear hS; intro w_ hS; (try simp only [Act.put, Act.eval, List.set_cons_zero, List.set_cons_succ, List.setIfInBounds_toArray, Array.getD_eq_getD_getElem?, List.getElem?_toArray, List.getElem?_cons_succ, List.getElem?_cons_zero, Option.getD_some, Value.cells] at hS)) | (refine st_cstore hS 2 rfl _ _ _ rfl _ _ _ rfl rfl rfl (by first | (simp; done) | (simp; omega) | exact of_decide_eq_true (by kernel_rfl)) rfl (by first | rfl | assumption) (by kernel_rfl) ?_; clear hS; intro w_ hS; (try simp only [Act.put, Act.eval, List.set_cons_zero, List.set_cons_succ, List.setIfInBounds_toArray, Array.getD_eq_getD_getElem?, List.getElem?_toArray, List.getElem?_cons_succ, List.getElem?_cons_zero, Option.getD_some, Value.cells] at hS)) | (refine st_cstore hS 3 rfl _ _ _ rfl _ _ _ rfl rfl rfl (by first | (simp; done) | (simp; omega) | exact of_decide_eq_true (by kernel_rfl)) rfl (by first | rfl | assumption) (by kernel_rfl) ?_; clear hS; intro w_ hS; (try simp only [Act.put, Act.eval, List.set_cons_zero, List.set_cons_succ, List.setIfInBounds_toArray, Array.getD_eq_getD_getElem?, List.getElem?_toArray, List.getElem?_cons_succ, List.getElem?_cons_zero, Option.getD_some, Value.cells] at hS)))
    | ((with_reducible show wpList _ _ _ (⟨_, .load _ _, _, _, _, _⟩ :: _) _ _); first | refine st_load hS 0 rfl _ _ rfl _ rfl _ _ rfl _ Tryd.underlying25 rfl (by kernel_rfl) ?_ | refine st_load hS 1 rfl _ _ rfl _ rfl _ _ rfl _ Tryd.underlying25 rfl (by kernel_rfl) ?_ | refine st_load hS 2 rfl _ _ rfl _ rfl _ _ rfl _ Tryd.underlying25 rfl (by kernel_rfl) ?_ | refine st_load hS 3 rfl _ _ rfl _ rfl _ _ rfl _ Tryd.underlying25 rfl (by kernel_rfl) ?_)
    | (go_at_call 7; refine (awake_any _ (HT.out.ext hS.below)).mono ?_; rintro e w3 ⟨_, rfl, rfl, hb3⟩; replace hS := hS.ext hb3; clear hb3)
    | (go_at_call 8; refine (rmake_any _ y HX.out _ D (IsRaw.ext HU.out hS.below)).mono ?_; rintro e w4 ⟨v4, rfl, h4, hb4⟩; replace h4 := HCx.out _ _ _ h4; obtain ⟨A, rfl, sA, oA⟩ := IsRCert.row h4; replace hS := hS.ret hb4 stable_rcertE (h4.imp fun b h _ => h.1); clear h4 hb4 sA oA)
    | (go_at_call 9; refine (lcert_any (.agg A) c _ _ hS.ro.2 HSc.out.1 HSc.out.2.1 HSc.out.2.2).mono ?_; rintro e w5 ⟨v5, rfl, h5, hb5⟩; obtain ⟨B, rfl, sB, oB⟩ := IsCert.row h5; replace hS := hS.ret hb5 stable_cert h5; clear h5 hb5 sB oB)
    | (go_at_call 16; refine (cbytes_own (.agg B) c _ _ hS.ro.2).mono ?_; rintro e w6 ⟨v6, rfl, h6, hb6⟩; rw [← HBS.out] at h6; replace h6 := h6.2 hn0; replace hS := hS.new hb6 (.own v6 5 1 bs.length (u8s bs)) h6; obtain ⟨g6, c6, rfl, hc6, hc6'⟩ := own_pos h6 hn0; clear h6 hb6)
    | ((with_reducible show wpList _ _ _ (⟨_, .binOp _ _ _ _ _, _, _, _, _⟩ :: _) _ _); (first | ((with_reducible show wpList _ _ _ (⟨_, .binOp .lss _ _ _ _, _, _, _, _⟩ :: _) _ _); refine st_lss rfl _ _ _ _ rfl _ _ _ rfl rfl (fun h_ => ?_) (fun h_ => ?_)) | ((with_reducible show wpList _ _ _ (⟨_, .binOp .leq _ _ _ _, _, _, _, _⟩ :: _) _ _); refine st_leq rfl _ _ _ _ rfl _ _ _ rfl rfl (fun h_ => ?_) (fun h_ => ?_)) | ((with_reducible show wpList _ _ _ (⟨_, .binOp .gtr _ _ _ _, _, _, _, _⟩ :: _) _ _); refine st_gtr rfl _ _ _ _ rfl _ _ _ rfl rfl (fun h_ => ?_) (fun h_ => ?_)) | ((with_reducible show wpList _ _ _ (⟨_, .binOp .geq _ _ _ _, _, _, _, _⟩ :: _) _ _); refine st_geq rfl _ _ _ _ rfl _ _ _ rfl rfl (fun h_ => ?_) (fun h_ => ?_)) | ((with_reducible show wpList _ _ _ (⟨_, .binOp .eql _ _ _ _, _, _, _, _⟩ :: _) _ _); refine st_eql rfl _ _ _ _ rfl _ _ _ rfl rfl (fun h_ => ?_) (fun h_ => ?_)) | ((with_reducible show wpList _ _ _ (⟨_, .binOp .neq _ _ _ _, _, _, _, _⟩ :: _) _ _); refine st_neq rfl _ _ _ _ rfl _ _ _ rfl rfl (fun h_ => ?_) (fun h_ => ?_))) <;> go_prune))
  have hsl := sl_take (Sl.of_own (hS.own 0 rfl)) (Nat.le_of_lt hkl)
  refine (cread_any _ (bs.take k) (fun t ht => HBB.out t (List.mem_of_mem_take ht)) (by rw [List.length_take]; omega) (St.start0 (w := w6)) (sl_bytes hsl (u8s_take bs k).symm)).mono ?_
  rintro r_ w7 ⟨v7, rfl, hS7⟩
  rw [HCut.out]
  replace hS := hS.ext hS7.below
  obtain ⟨B7, rfl, sB7, oB7⟩ := IsCert.row hS7.ro.2
  have HIB7 := Lib.hid (show (Tryd.prog.info? 35).map (·.size) = some B7.size by rw [sB7]; kernel_rfl)
  have SB7 := Lib.hid sB7
  have OB7 := Lib.hid oB7
  clear sB7 oB7
  clear hS7 hsl
  go_wp2_with (first
    | ((with_reducible show wpList _ _ _ (⟨some 8, _, _, _, _, _⟩ :: _) _ _); refine st_alloc hS rfl _ rfl (by kernel_rfl) ?_; clear hS; intro g8 w_ hS)
    | ((with_reducible show wpList _ _ _ (⟨_, .store 35 _ _, _, _, _, _⟩ :: _) _ _); refine st_store hS 0 rfl _ _ _ rfl g8 B7 rfl rfl _ _ rfl HIB7.out (by rw [SB7.out]; kernel_rfl) OB7.out ?_; clear hS; intro w_ hS; simp only [List.set_cons_zero] at hS)
    | ((with_reducible show wpList _ _ _ (⟨_, .buildSlice _ 0 _, _, _, _, _⟩ :: _) _ _); refine st_empty hS rfl _ _ rfl Tryd.underlying47 (by kernel_rfl) 1 ?_; clear hS; intro ge w_ hS)
    | ((with_reducible show wpList _ _ _ (⟨some 38, _, _, _, _, _⟩ :: _) _ _); refine st_app hS 0 rfl _ _ _ rfl ty_bytes' _ 0 [] rfl rfl _ _ bs.length (u8s bs) rfl (Sl.of_own (hS.own 2 rfl)) (u8s_one _) (by unfold maxLen; omega) (by omega) ?_; clear hS; intro v_ w_ hS; (try simp only [Act.put, Act.eval, List.set_cons_zero, List.set_cons_succ, List.setIfInBounds_toArray, Array.getD_eq_getD_getElem?, List.getElem?_toArray, List.getElem?_cons_succ, List.getElem?_cons_zero, Option.getD_some, Value.cells] at hS); simp only [List.nil_append, Nat.zero_add] at hS; obtain ⟨ga, ca, rfl, hca, hca'⟩ := own_pos (hS.own 0 rfl) hn0)
    | ((with_reducible show wpList _ _ _ (⟨some 40, _, _, _, _, _⟩ :: _) _ _); refine st_push hS 0 rfl rfl _ _ _ _ rfl rfl ty_bytes' _ bs.length (u8s bs) (.int .u8 (v : Nat)) #[.int .u8 (v : Nat)] rfl (by kernel_rfl) rfl rfl rfl rfl (by intro u hu; simp at hu; subst hu; rfl) (by omega) (by omega) ?_; clear hS; intro z_ v' w_ hS; (try simp only [Act.put, Act.eval, List.set_cons_zero, List.set_cons_succ, List.setIfInBounds_toArray, Array.getD_eq_getD_getElem?, List.getElem?_toArray, List.getElem?_cons_succ, List.getElem?_cons_zero, Option.getD_some, Value.cells] at hS); obtain ⟨gp, cp, rfl, hcp, hcp'⟩ := own_pos (hS.own 0 rfl) (Nat.succ_pos _)))
  have hsl := Sl.of_own (hS.own 0 rfl)
  refine (cread_any _ (bs ++ [v]) (fun t ht => by rcases List.mem_append.1 ht with h | h; exact HBB.out t h; rw [List.mem_singleton] at h; rw [h]; exact hv) (by simp; omega) (St.start0 (w := w_)) (sl_bytes hsl (by simp [u8s]))).mono ?_
  rintro r_ w8 ⟨v8, rfl, hS8⟩
  rw [HMore.out]
  replace hS := hS.ext hS8.below
  obtain ⟨B8, rfl, sB8, oB8⟩ := IsCert.row hS8.ro.2
  have HIB8 := Lib.hid (show (Tryd.prog.info? 35).map (·.size) = some B8.size by rw [sB8]; kernel_rfl)
  have SB8 := Lib.hid sB8
  have OB8 := Lib.hid oB8
  clear sB8 oB8
  clear hS8 hsl
  go_wp2_with (first
    | ((with_reducible show wpList _ _ _ (⟨some 10, _, _, _, _, _⟩ :: _) _ _); refine st_alloc hS rfl _ rfl (by kernel_rfl) ?_; clear hS; intro g10 w_ hS)
    | ((with_reducible show wpList _ _ _ (⟨_, .store 35 _ _, _, _, _, _⟩ :: _) _ _); refine st_store hS 0 rfl _ _ _ rfl g10 B8 rfl rfl _ _ rfl HIB8.out (by rw [SB8.out]; kernel_rfl) OB8.out ?_; clear hS; intro w_ hS; simp only [List.set_cons_zero] at hS)
    | ((with_reducible show wpList _ _ _ (⟨some 52, _, _, _, _, _⟩ :: _) _ _); refine BigFrame.wpList_want rfl fun _ hK => opw_cell rfl rfl (by kernel_rfl) (own_cell (hS.own 3 rfl) k _ HCell.out) (hK _ _ ?_))
    | ((with_reducible show wpList _ _ _ (⟨_, .store 5 _ _, _, _, _, _⟩ :: _) _ _); refine st_ostore hS 3 rfl _ _ _ rfl g6 k (.int .u8 (z : Nat)) rfl (congrArg (Value.int .u8) HXor.out) rfl (by omega) rfl rfl (by kernel_rfl) ?_; clear hS; intro w_ hS; (try simp only [Act.put, Act.eval, List.set_cons_zero, List.set_cons_succ, List.setIfInBounds_toArray, Array.getD_eq_getD_getElem?, List.getElem?_toArray, List.getElem?_cons_succ, List.getElem?_cons_zero, Option.getD_some, Value.cells] at hS)))
  replace hS := hS.freeze 3 (by decide) rfl
  have hsl := sl_bytes hS.ro.2 (u8s_set bs k z).symm
  obtain ⟨ps, hps⟩ : ∃ ps, ps = bs.set k z := ⟨_, rfl⟩
  rw [← hps] at hsl HB3 HL3
  have hpl : ps.length = bs.length := HL3.out
  refine (cread_any _ ps HB3.out (by omega) hS hsl).mono ?_
  rintro r_ w9 ⟨v9, rfl, hS9⟩
  clear hsl
  obtain ⟨B9, rfl, sB9, oB9⟩ := IsCert.row hS9.ro.2
  have HIB9 := Lib.hid (show (Tryd.prog.info? 35).map (·.size) = some B9.size by rw [sB9]; kernel_rfl)
  have SB9 := Lib.hid sB9
  have OB9 := Lib.hid oB9
  clear sB9 oB9
  replace hS := hS9.mono ((stable_sl (size := 1)).and stable_cert) (K' := fun D w => Sl w D 1 (.slice (some ⟨g6, 0, none⟩) ps.length c6) ps.length (u8s ps) ∧ IsCert w D (.agg B9) (readC ps).1) fun D w h => ⟨by rw [hpl]; have := h.1.2; rw [← u8s_set, ← hps] at this; exact this, h.2⟩
  clear hS9 hps
  obtain ⟨⟨CT, E9⟩, hRC⟩ : ∃ V, V = readC ps := ⟨_, rfl⟩
  rw [← hRC] at hS ⊢
  dsimp only at hS ⊢
  have HRC := Lib.hid hRC
  clear hRC
  by_cases hE : E9 = 0
  · subst hE
    go_wp2_with (first
      | ((with_reducible show wpList _ _ _ (⟨some 12, _, _, _, _, _⟩ :: _) _ _); refine st_alloc hS rfl _ rfl (by kernel_rfl) ?_; clear hS; intro g12 w_ hS)
      | ((with_reducible show wpList _ _ _ (⟨_, .store 35 _ _, _, _, _, _⟩ :: _) _ _); refine st_store hS 0 rfl _ _ _ rfl g12 B9 rfl rfl _ _ rfl HIB9.out (by rw [SB9.out]; kernel_rfl) OB9.out ?_; clear hS; intro w_ hS; simp only [List.set_cons_zero] at hS))
    obtain ⟨r1, r2, -⟩ := readC_ok HB3.out (by rw [← HRC.out])
    rw [← HRC.out] at r1 r2
    dsimp only at r1 r2
    have HR1 := Lib.hid r1
    have HR2 := Lib.hid r2
    have HCV := Lib.hid (fun (w : World) (D : Nat → Prop) (v : Value) (h : Sl w D 1 v ps.length (u8s ps)) => conv_sl h HB3.out)
    clear r1 r2
    have hse : ((strOf ps).toList == (strOf ps).toList) = true := by simp
    generalize strOf ps = sP at *
    have HSE := Lib.hid hse
    clear hse
    refine wp_region_typed (fun i v w => match i with
      | 0 => v = .agg B9
      | 1 => v = .int .i64 0
      | 2 => v = .bool true
      | 3 => v = .bool true
      | 4 => v = .agg B9
      | 5 => Sl w (fun _ => True) 1 v ps.length (u8s ps)
      | 6 => v = .string sP
      | 7 => v = .slice (some ⟨g6, 0, none⟩) bs.length c6
      | 8 => v = .string sP
      | 9 => v = .bool true
      | 10 => v = .bool true
      | 11 => v = .bool true
      | _ => True) (by kernel_rfl) (by kernel_rfl) ?mono ⟨?r0, ?r1, ?r2, ?r3, ?r4, ?r5, ?r6, ?r7, ?r8, ?r9, ?r10, ?r11, trivial⟩ ?post
    case mono =>
      intro i v w w' h hb
      match i, h with
      | 0, h => exact h
      | 1, h => exact h
      | 2, h => exact h
      | 3, h => exact h
      | 4, h => exact h
      | 5, h => exact h.ext hb
      | 6, h => exact h
      | 7, h => exact h
      | 8, h => exact h
      | 9, h => exact h
      | 10, h => exact h
      | 11, h => exact h
      | _ + 12, h => trivial
    case r0 =>
      refine trule fun b w hW hold hpre => ⟨fun hwant K hK => ?_, fun hwant => ?_⟩
      · clear hwant
        have e12 : b.eval (.tmp 12) = .pointer (some ⟨g12, 0, none⟩) := (hold 12 (by kernel_rfl)).trans rfl
        exact opw_row rfl e12 ((hS.ext (undrew hW)).box 0 rfl) Tryd.underlying35 rfl HIB9.out (hK _ _ rfl (Below.refl _ _))
      · rw [want_none rfl] at hwant; cases hwant
    case r1 =>
      refine trule fun b w hW hold hpre => ⟨fun hwant K hK => ?_, fun hwant => ?_⟩
      · clear hwant
        have e76 : b.eval (.tmp 76) = .agg B9 := hpre ⟨0, _⟩ (Array.mem_of_getElem? (i := 0) rfl) rfl _ _ rfl rfl
        exact opw_call rfl (by kernel_rfl) (by simp [e76]) (check_any (.agg B9) CT w _ (hS.ext (undrew hW)).ro.2) fun v w' h hb => hK v w' (h.trans (by rw [HR1.out])) hb
      · rw [want_none rfl] at hwant; cases hwant
    case r2 =>
      refine trule fun b w hW hold hpre => ⟨fun hwant K hK => ?_, fun hwant => ?_⟩
      · clear hwant
        have e77 : b.eval (.tmp 77) = .int .i64 0 := hpre ⟨1, _⟩ (Array.mem_of_getElem? (i := 0) rfl) rfl _ _ rfl rfl
        exact opw_bin (v := .bool true) (vy := .int .i64 0) rfl e77 rfl rfl (by rw [binOp_eql]; simp) (hK _ _ rfl (Below.refl _ _))
      · rw [want_none rfl] at hwant; cases hwant
    case r3 =>
      refine trule fun b w hW hold hpre => ⟨fun hwant K hK => ?_, fun hwant => ?_⟩
      · clear hwant
        have e78 : b.eval (.tmp 78) = .bool true := hpre ⟨2, _⟩ (Array.mem_of_getElem? (i := 0) rfl) rfl _ _ rfl rfl
        exact opw_move rfl e78 (hK _ _ rfl (Below.refl _ _))
      · rw [want_none rfl] at hwant; cases hwant
    case r4 =>
      refine trule fun b w hW hold hpre => ⟨fun hwant K hK => ?_, fun hwant => ?_⟩
      · clear hwant
        have e12 : b.eval (.tmp 12) = .pointer (some ⟨g12, 0, none⟩) := (hold 12 (by kernel_rfl)).trans rfl
        exact opw_row rfl e12 ((hS.ext (undrew hW)).box 0 rfl) Tryd.underlying35 rfl HIB9.out (hK _ _ rfl (Below.refl _ _))
      · rw [want_some rfl rfl rfl (show b.eval (.tmp 79) = .bool true from (hpre ⟨3, _⟩ (Array.mem_of_getElem? (i := 0) rfl) rfl _ _ rfl rfl))] at hwant; cases hwant
    case r5 =>
      refine trule fun b w hW hold hpre => ⟨fun hwant K hK => ?_, fun hwant => ?_⟩
      · clear hwant
        have e80 : b.eval (.tmp 80) = .agg B9 := hpre ⟨4, _⟩ (Array.mem_of_getElem? (i := 0) rfl) rfl _ _ rfl rfl
        exact opw_call rfl (by kernel_rfl) (by simp [e80]) (cbytes_any (.agg B9) CT w _ (hS.ext (undrew hW)).ro.2) fun v w' h hb => hK v w' (by rw [HR2.out] at h; exact h.imp fun _ _ _ => trivial) hb
      · rw [want_some rfl rfl rfl (show b.eval (.tmp 79) = .bool true from (hpre ⟨3, _⟩ (Array.mem_of_getElem? (i := 1) rfl) rfl _ _ rfl rfl))] at hwant; cases hwant
    case r6 =>
      refine trule fun b w hW hold hpre => ⟨fun hwant K hK => ?_, fun hwant => ?_⟩
      · clear hwant
        have e81 : (fun (v : Value) (w : World) => Sl w (fun _ => True) 1 v ps.length (u8s ps)) (b.eval (.tmp 81)) w := hpre ⟨5, _⟩ (Array.mem_of_getElem? (i := 0) rfl) rfl _ _ rfl rfl
        exact opw_conv rfl rfl (HCV.out w _ _ e81) (hK _ _ rfl (Below.refl _ _))
      · rw [want_some rfl rfl rfl (show b.eval (.tmp 79) = .bool true from (hpre ⟨3, _⟩ (Array.mem_of_getElem? (i := 1) rfl) rfl _ _ rfl rfl))] at hwant; cases hwant
    case r7 =>
      refine trule fun b w hW hold hpre => ⟨fun hwant K hK => ?_, fun hwant => ?_⟩
      · clear hwant
        have e7 : b.eval (.tmp 7) = .slice (some ⟨g6, 0, none⟩) bs.length c6 := (hold 7 (by kernel_rfl)).trans rfl
        exact opw_move rfl e7 (hK _ _ rfl (Below.refl _ _))
      · rw [want_some rfl rfl rfl (show b.eval (.tmp 79) = .bool true from (hpre ⟨3, _⟩ (Array.mem_of_getElem? (i := 0) rfl) rfl _ _ rfl rfl))] at hwant; cases hwant
    case r8 =>
      refine trule fun b w hW hold hpre => ⟨fun hwant K hK => ?_, fun hwant => ?_⟩
      · clear hwant
        have e83 : b.eval (.tmp 83) = .slice (some ⟨g6, 0, none⟩) bs.length c6 := hpre ⟨7, _⟩ (Array.mem_of_getElem? (i := 0) rfl) rfl _ _ rfl rfl
        exact opw_conv rfl e83 (HCV.out w _ _ (by have := (hS.ext (undrew hW)).ro.1; rw [hpl] at this ⊢; exact this)) (hK _ _ rfl (Below.refl _ _))
      · rw [want_some rfl rfl rfl (show b.eval (.tmp 79) = .bool true from (hpre ⟨3, _⟩ (Array.mem_of_getElem? (i := 1) rfl) rfl _ _ rfl rfl))] at hwant; cases hwant
    case r9 =>
      refine trule fun b w hW hold hpre => ⟨fun hwant K hK => ?_, fun hwant => ?_⟩
      · clear hwant
        have e82 : b.eval (.tmp 82) = .string sP := hpre ⟨6, _⟩ (Array.mem_of_getElem? (i := 0) rfl) rfl _ _ rfl rfl
        have e84 : b.eval (.tmp 84) = .string sP := hpre ⟨8, _⟩ (Array.mem_of_getElem? (i := 1) rfl) rfl _ _ rfl rfl
        exact opw_bin rfl e82 e84 rfl (str_eql HSE.out w) (hK _ _ rfl (Below.refl _ _))
      · rw [want_some rfl rfl rfl (show b.eval (.tmp 79) = .bool true from (hpre ⟨3, _⟩ (Array.mem_of_getElem? (i := 2) rfl) rfl _ _ rfl rfl))] at hwant; cases hwant
    case r10 =>
      refine trule fun b w hW hold hpre => ⟨fun hwant K hK => ?_, fun hwant => ?_⟩
      · clear hwant
        have e79 : b.eval (.tmp 79) = .bool true := hpre ⟨3, _⟩ (Array.mem_of_getElem? (i := 0) rfl) rfl _ _ rfl rfl
        have e85 : b.eval (.tmp 85) = .bool true := hpre ⟨9, _⟩ (Array.mem_of_getElem? (i := 1) rfl) rfl _ _ rfl rfl
        exact opw_pick rfl e79 e85 (hK _ _ rfl (Below.refl _ _))
      · rw [want_none rfl] at hwant; cases hwant
    case r11 =>
      refine trule fun b w hW hold hpre => ⟨fun hwant K hK => ?_, fun hwant => ?_⟩
      · clear hwant
        have e86 : b.eval (.tmp 86) = .bool true := hpre ⟨10, _⟩ (Array.mem_of_getElem? (i := 0) rfl) rfl _ _ rfl rfl
        exact opw_assign rfl e86 (hK _ _ rfl (Below.refl _ _))
      · rw [want_none rfl] at hwant; cases hwant
    case post =>
      intro b wz hW hdf hsz hold hT
      have e76 : b.eval (.tmp 76) = .agg B9 := hT 0 _ 76 rfl rfl
      have e77 : b.eval (.tmp 77) = .int .i64 0 := hT 1 _ 77 rfl rfl
      have e78 : b.eval (.tmp 78) = .bool true := hT 2 _ 78 rfl rfl
      have e79 : b.eval (.tmp 79) = .bool true := hT 3 _ 79 rfl rfl
      have e80 : b.eval (.tmp 80) = .agg B9 := hT 4 _ 80 rfl rfl
      have e81 : (fun (v : Value) (w : World) => Sl w (fun _ => True) 1 v ps.length (u8s ps)) (b.eval (.tmp 81)) wz := hT 5 _ 81 rfl rfl
      have e82 : b.eval (.tmp 82) = .string sP := hT 6 _ 82 rfl rfl
      have e83 : b.eval (.tmp 83) = .slice (some ⟨g6, 0, none⟩) bs.length c6 := hT 7 _ 83 rfl rfl
      have e84 : b.eval (.tmp 84) = .string sP := hT 8 _ 84 rfl rfl
      have e85 : b.eval (.tmp 85) = .bool true := hT 9 _ 85 rfl rfl
      have e86 : b.eval (.tmp 86) = .bool true := hT 10 _ 86 rfl rfl
      have e6 : b.eval (.tmp 6) = .bool true := hT 11 _ 6 rfl rfl
      obtain ⟨vs, hvs, hb⟩ := frame_of hdf hsz hold
      replace e76 : vs 76 = .agg B9 := (hvs 76).symm.trans e76
      replace e77 : vs 77 = .int .i64 0 := (hvs 77).symm.trans e77
      replace e78 : vs 78 = .bool true := (hvs 78).symm.trans e78
      replace e79 : vs 79 = .bool true := (hvs 79).symm.trans e79
      replace e80 : vs 80 = .agg B9 := (hvs 80).symm.trans e80
      replace e81 := (hvs 81) ▸ e81
      replace e82 : vs 82 = .string sP := (hvs 82).symm.trans e82
      replace e83 : vs 83 = .slice (some ⟨g6, 0, none⟩) bs.length c6 := (hvs 83).symm.trans e83
      replace e84 : vs 84 = .string sP := (hvs 84).symm.trans e84
      replace e85 : vs 85 = .bool true := (hvs 85).symm.trans e85
      replace e86 : vs 86 = .bool true := (hvs 86).symm.trans e86
      replace e6 : vs 6 = .bool true := (hvs 6).symm.trans e6
      subst hb
      clear hvs hold hT hdf hsz
      simp only [setAll, Act.put, List.setIfInBounds_toArray, List.set_cons_zero, List.set_cons_succ, List.getElem_toArray, List.getElem_cons_succ, List.getElem_cons_zero]
      go_wp2_with fail
      go_ret
      exact Ret.mk rfl (bel_tr hS.below hW)
  · have hz := readC_err (ps := ps) (by rw [← HRC.out]; exact hE)
    rw [← HRC.out] at hz
    injection hz with hz1 hz2
    subst hz2
    have HZ1 := Lib.hid hz1
    clear hE hz1
    go_wp2_with (first
      | ((with_reducible show wpList _ _ _ (⟨some 12, _, _, _, _, _⟩ :: _) _ _); refine st_alloc hS rfl _ rfl (by kernel_rfl) ?_; clear hS; intro g12 w_ hS)
      | ((with_reducible show wpList _ _ _ (⟨_, .store 35 _ _, _, _, _, _⟩ :: _) _ _); refine st_store hS 0 rfl _ _ _ rfl g12 B9 rfl rfl _ _ rfl HIB9.out (by rw [SB9.out]; kernel_rfl) OB9.out ?_; clear hS; intro w_ hS; simp only [List.set_cons_zero] at hS)
      | ((with_reducible show wpList _ _ _ (⟨_, .load 35 _, _, _, _, _⟩ :: _) _ _); refine st_loadw hS 0 rfl _ _ rfl g12 rfl _ B9 rfl _ Tryd.underlying35 rfl HIB9.out ?_))
    obtain ⟨zd, hzd⟩ : ∃ z : CertD, z = ⟨List.replicate 32 0, false, [], []⟩ := ⟨_, rfl⟩
    have hq := hS.ro.2
    rw [HZ1.out, ← hzd] at hq
    have hr : IsRCert w_ (fun _ => True) (.agg (cc (List.replicate 32 0) false (.slice none 0 0) (.slice none 0 0))) zd := by rw [hzd]; exact ⟨_, _, rfl, by simp, Bytes.rep _, Sl.none_, Sl.none_⟩
    have hsm : Small zd.cubes := by rw [hzd]; intro z hz; simp at hz
    refine (csame_any (.agg B9) _ zd zd _ _ _ hq hr hsm hsm (HDT.out.ext hS.below)).mono ?_
    rw [eqC_refl]
    rintro r_ w10 ⟨_, rfl, rfl, hb10⟩
    go_wp2_with fail
    go_ret
    exact Ret.mk rfl (bel_tr hS.below hb10)
end Go.Proofs.YtenpkgdnlogfiaaDoor
