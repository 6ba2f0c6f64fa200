/-
  What CertificateEncodes computes: true, on all raw certificates.
-/
import Derived.Test.YtenpkgdnlogfiaaDoorEnc1
import Derived.Test.YtenpkgdnlogfiaaDoorTyp5
namespace Go.Proofs.YtenpkgdnlogfiaaDoor
open Go.RowKit
attribute [local go_sem ↓] Go.wp_at_zero Go.wp_at_succ
set_option maxRecDepth 20000

theorem stable_rcertE {v : Value} {c : CertD} : Stable fun D w => IsRCert w D v c := fun D D' w w' h a b k => by
  obtain ⟨pv, qv, h1, h2, h3, h4, h5⟩ := h
  exact ⟨pv, qv, h1, h2, h3, stable_sl (by decide) D D' w w' h4 a b k, stable_sl (by decide) D D' w w' h5 a b k⟩
theorem run_arrayAt {P : Program} {arr e : TypeId} {n : Nat} (h : P.underlying arr = some (.array n e)) (w : World) (A : Option Addr) (len c : Nat) (hl : n ≤ len) : (Instr.arrayAt arr (.slice A len c)).run P w = .ok (.pointer A) w := by
  unfold Instr.arrayAt
  rw [Sem.run_bind, run_underlying h w]
  simp
  intro h'; omega
theorem opw_arr {P : Program} {o : Oper} {a : Act} {w : World} {K : Act → World → Prop} {Q : Exit → Act → World → Prop} {arr e : TypeId} {x : Operand} {n len c : Nat} {A : Option Addr} (ho : o.op = .sliceToArrayPointer arr x) (hx : a.eval x = .slice A len c) (h : P.underlying arr = some (.array n e)) (hl : n ≤ len) (hk : K (a.put o.dst (.pointer A)) w) : o.wp P a w K Q :=
  opw_val (by simp [execOp, ho, hx, run_arrayAt h w A len c hl]) hk
theorem opw_len {P : Program} {o : Oper} {a : Act} {w : World} {K : Act → World → Prop} {Q : Exit → Act → World → Prop} {t e : TypeId} {x : Operand} {n c : Nat} {A : Option Addr} (ho : o.op = .call { callee := .builtin .len, args := #[x], argTypes := #[t] }) (hx : a.eval x = .slice A n c) (h : P.underlying t = some (.slice e)) (hk : K (a.put o.dst (.int .i64 n)) w) : o.wp P a w K Q := by
  have hr : (Builtin.len_ #[t] o.type #[.slice A n c]).run P w = .ok (.int .i64 (n : Nat)) w := by
    simp [Builtin.len_, run_underlying h]; rfl
  unfold Oper.wp execOp
  simp only [ho, resolve, invoke, builtin, Sem.run_bind, Sem.run_pure, Result.andThen_ok, List.map_toArray, List.map_cons, List.map_nil, hx, hr]
  exact hk
theorem st_gstore {P : Program} {ops : Array Oper} {rest : List Oper} {o : Oper} {a : Act} {w0 w : World} {F : List Fact} {K : (Nat → Prop) → World → Prop} {Q : Exit → Act → World → Prop} (h : St w0 w F K) (i : Nat) (hg : o.guard = none) (ty : TypeId) (x y : Operand) (ho : o.op = .store ty x y) (g j : Nat) (u : Value) (hx : a.eval x = .pointer (some ⟨g, j, none⟩)) (hy : a.eval y = .agg #[u]) {t : TypeId} {cs : Array Value} (hb : F[i]? = some (.box g t cs)) (hi : j < cs.size)
    (h1 : u.oneCell' = true) (hs : (P.info? ty).map (·.size) = some 1) (hk : ∀ w', St w0 w' (F.set i (.box g t (cs.setIfInBounds j u))) K → wpList P ops Q rest (a.put o.dst undef) w') : wpList P ops Q (o :: rest) a w := by
  have hB := h.box i hb
  refine wpList_store_mid hg ty x y ho g j #[u] hx hy (fun k hk => ?_) hs (by simpa using h1) ?_
  · obtain rfl : k = 0 := by simpa using hk
    exact ⟨by rw [hB.cell]; simp [hi], hB.free _⟩
  · refine hk _ (h.upd i hb (.box g t (cs.setIfInBounds j u)) (upd_gb (upd_setCell w g j u)) ⟨(h.holds _ (List.mem_of_getElem? hb)).1, hB.setC u⟩ fun _ e => .inl e)
theorem Sl.range {w : World} {D : Nat → Prop} {v : Value} {n : Nat} {xs : List Value} (h : Sl w D 1 v n xs) (hn : 0 < n) : ∃ b o c, v = .slice (some ⟨b, o, none⟩) n c ∧ w.rangeAt b o xs := by
  obtain ⟨_, A, c, rfl, _, _, h⟩ := h
  obtain ⟨b, o, rfl, _, _, h⟩ := h hn
  exact ⟨b, o, c, rfl, fun j v hj => h j v hj⟩

theorem Sl.rangeAt {w : World} {D : Nat → Prop} {b o n c : Nat} {xs : List Value} (h : Sl w D 1 (.slice (some ⟨b, o, none⟩) n c) n xs) (hn : 0 < n) : w.rangeAt b o xs := by
  obtain ⟨b', o', c', e, h'⟩ := h.range hn
  injection e with e1 e2 e3
  injection e1 with e1
  injection e1 with e1 e2
  subst e1 e2; exact h'
theorem Rd.len {w0 w : World} {X X' : List Fact} {K K' : (Nat → Prop) → World → Prop} {q : Nat} {l l' : List Nat} {e e' : Int} (h : Rd w0 w X K q l e) (h' : Rd w0 w X' K' q l' e') : l.length = l'.length := by
  obtain ⟨_, A, c, _, _, hS⟩ := h
  obtain ⟨_, A', c', _, _, hS'⟩ := h'
  have h1 := hS.shut 0 rfl 0 rfl
  rw [hS'.shut 0 rfl 0 rfl] at h1
  simp at h1; exact h1.2.1.symm
theorem Rd.drew {w0 w : World} {X : List Fact} {K : (Nat → Prop) → World → Prop} {q : Nat} {l : List Nat} {e : Int} (h : Rd w0 w X K q l e) : Rd w0 w.drew X K q l e := by
  obtain ⟨hK, A, c, h1, h2, hS⟩ := h
  exact ⟨hK, A, c, h1, h2, hS.drew⟩

set_option maxHeartbeats 4000000 in
theorem certenc_any (u : Value) (x : RawCert) (hx : x.ok) (w0 : World) (hT : Tab w0) (D : Nat → Prop) (hu : IsRaw w0 D u x) :
    Calls Tryd.prog 5 #[u] w0 (Ret (fun r _ => r = .bool true) w0) := by
  obtain ⟨pv, qv, rfl, hp, hq⟩ := hu
  have hS := St.start0 (w := w0)
  obtain ⟨y, hy⟩ : ∃ y : RawCert, y = { x with odd := 0 } := ⟨_, rfl⟩
  have hyo : y.ok := by rw [hy]; exact ⟨hx.1, (by decide : (0 : Nat) < 256), hx.2.2⟩
  have hy0 : y.odd = 0 := by rw [hy]
  have hu : IsRaw w0 D (.agg #[.int .u8 (x.prob : Nat), .int .u8 0, .bool x.reach, pv, qv]) y := by rw [hy]; exact ⟨pv, qv, rfl, hp, hq⟩
  clear hy hp hq
  obtain ⟨c, hc⟩ : ∃ c, c = makeC y := ⟨_, rfl⟩
  have HSc := Lib.hid (show Small c.cubes ∧ c.plan.length ≤ 1000000 ∧ c.cubes.length ≤ 1000000 by rw [hc]; exact ⟨makeC_small hyo, makeC_len y⟩)
  have HCx : ∀ (v : Value) (wa w' : World), (∃ pv qv, v = .agg (cc (makeC y).prob (makeC y).reach pv qv) ∧ Sl w' (wa.heap.size ≤ ·) 1 pv (makeC y).plan.length (ints (makeC y).plan) ∧ RCubes w' (wa.heap.size ≤ ·) qv (makeC y).cubes) → IsRCert w' (fun b => wa.heap.size ≤ b ∧ b < w'.heap.size) v c := fun v wa w' h => by rw [hc]; exact rc_of hyo h
  have HCk := Lib.hid (show checkC c = 0 by rw [hc]; exact makeC_check hyo hy0)
  have HPl := Lib.hid (show c.plan.length ≤ 12 ∧ ∀ k ∈ c.plan, 0 ≤ k ∧ k ≤ 63 by rw [hc]; exact makeC_plan hy0)
  have HCu := Lib.hid (show c.cubes.length ≤ 8 by rw [hc]; exact (makeC_cubes hyo hy0).1)
  have HP32 := Lib.hid (show c.prob.length = 32 by rw [hc]; show ((List.replicate 32 0).set (y.prob % 32) y.prob).length = 32; rw [List.length_set, List.length_replicate])
  have HRL := Lib.hid (rest_len HPl.out.1 HCu.out HSc.out.1)
  have HBL := Lib.hid (show (bytesC c).length ≤ 1000000000000 by
    have a1 := HRL.out; have a2 := HP32.out; have a3 := putN_len c.plan.length
    rw [bytesC_ok HCk.out]; simp only [List.length_append]
    have a4 : (putFlag c.reach).length ≤ 1 := by cases c.reach <;> simp [putFlag]
    omega)
  have HRR := Lib.hid (show readRaw 32 (bytesC c) 0 = (c.prob, putFlag c.reach ++ (putN c.plan.length ++ restC c), 0) by rw [bytesC_ok HCk.out]; exact readRaw_append HP32.out _)
  clear hc
  have HU := Lib.hid hu
  have HT := Lib.hid hT
  have HX := Lib.hid hyo
  replace HCx := Lib.hid HCx
  clear hu hT hx hyo hy0
  obtain ⟨xp, hxp⟩ : ∃ v : Value, v = .int .u8 (x.prob : Nat) ∧ v.cells = #[v] ∧ v.oneCell' = true := ⟨_, rfl, rfl, rfl⟩
  go_enter Tryd.func5, Tryd.ntmps5
  go_wp2_with (first
    | ((with_reducible show wpList _ _ _ (⟨some 1, _, _, _, _, _⟩ :: _) _ _); refine st_box hS rfl _ _ rfl (.agg #[.int .u8 (x.prob : Nat), .int .u8 (x.odd : Nat), .bool x.reach, pv, qv]) _ rfl rfl ?_; clear hS; intro g1 w_ hS; (try simp only [Act.put, Act.eval, List.set_cons_zero, List.set_cons_succ, List.setIfInBounds_toArray, Array.getD_eq_getD_getElem?, List.getElem?_toArray, List.getElem?_cons_succ, List.getElem?_cons_zero, Option.getD_some, Value.cells] at hS))
    | ((with_reducible show wpList _ _ _ (⟨_, .store 35 _ _, _, _, _, _⟩ :: _) _ _); refine st_store hS 0 rfl _ _ _ rfl g3 B rfl rfl _ _ rfl (by rw [SB.out]; kernel_rfl) (by rw [SB.out]; kernel_rfl) OB.out ?_; clear hS; intro w_ hS; simp only [List.set_cons_zero] at hS)
    | ((with_reducible show wpList _ _ _ (⟨_, .store _ _ _, _, _, _, _⟩ :: _) _ _); first | (refine st_store hS 0 rfl _ _ _ rfl _ _ rfl rfl _ _ rfl (by kernel_rfl) (by kernel_rfl) (by kernel_rfl) ?_; clear hS; intro w_ hS; (try simp only [Act.put, Act.eval, List.set_cons_zero, List.set_cons_succ, List.setIfInBounds_toArray, Array.getD_eq_getD_getElem?, List.getElem?_toArray, List.getElem?_cons_succ, List.getElem?_cons_zero, Option.getD_some, Value.cells] at hS)) | (refine st_store hS 1 rfl _ _ _ rfl _ _ rfl rfl _ _ rfl (by kernel_rfl) (by kernel_rfl) (by kernel_rfl) ?_; clear hS; intro w_ hS; (try simp only [Act.put, Act.eval, List.set_cons_zero, List.set_cons_succ, List.setIfInBounds_toArray, Array.getD_eq_getD_getElem?, List.getElem?_toArray, List.getElem?_cons_succ, List.getElem?_cons_zero, Option.getD_some, Value.cells] at hS)) | (refine st_store hS 2 rfl _ _ _ rfl _ _ rfl rfl _ _ rfl (by kernel_rfl) (by kernel_rfl) (by kernel_rfl) ?_; clear hS; intro w_ hS; (try simp only [Act.put, Act.eval, List.set_cons_zero, List.set_cons_succ, List.setIfInBounds_toArray, Array.getD_eq_getD_getElem?, List.getElem?_toArray, List.getElem?_cons_succ, List.getElem?_cons_zero, Option.getD_some, Value.cells] at hS)) | (refine st_store hS 3 rfl _ _ _ rfl _ _ rfl rfl _ _ rfl (by kernel_rfl) (by kernel_rfl) (by kernel_rfl) ?_; clear hS; intro w_ hS; (try simp only [Act.put, Act.eval, List.set_cons_zero, List.set_cons_succ, List.setIfInBounds_toArray, Array.getD_eq_getD_getElem?, List.getElem?_toArray, List.getElem?_cons_succ, List.getElem?_cons_zero, Option.getD_some, Value.cells] at hS)) | (refine st_cstore hS 0 rfl _ _ _ rfl _ _ _ rfl rfl rfl (by first | (simp; done) | (simp; omega) | exact of_decide_eq_true (by kernel_rfl)) rfl (by first | rfl | assumption) (by kernel_rfl) ?_; clear hS; intro w_ hS; (try simp only [Act.put, Act.eval, List.set_cons_zero, List.set_cons_succ, List.setIfInBounds_toArray, Array.getD_eq_getD_getElem?, List.getElem?_toArray, List.getElem?_cons_succ, List.getElem?_cons_zero, Option.getD_some, Value.cells] at hS)) | (refine st_cstore hS 1 rfl _ _ _ rfl _ _ _ rfl rfl rfl (by first | (simp; done) | (simp; omega) | exact of_decide_eq_true (by kernel_rfl)) rfl (by first | rfl | assumption) (by kernel_rfl) ?_; clear hS; intro w_ hS; (try simp only [Act.put, Act.eval, List.set_cons_zero, List.set_cons_succ, List.setIfInBounds_toArray, Array.getD_eq_getD_getElem?, List.getElem?_toArray, List.getElem?_cons_succ, List.getElem?_cons_zero, Option.getD_some, Value.cells] at hS)) | (refine st_cstore hS 2 rfl _ _ _ rfl _ _ _ rfl rfl rfl (by first | (simp; done) | (simp; omega) | exact of_decide_eq_true (by kernel_rfl)) rfl (by first | rfl | assumption) (by kernel_rfl) ?_; clear hS; intro w_ hS; (try simp only [Act.put, Act.eval, List.set_cons_zero, List.set_cons_succ, List.setIfInBounds_toArray, Array.getD_eq_getD_getElem?, List.getElem?_toArray, List.getElem?_cons_succ, List.getElem?_cons_zero, Option.getD_some, Value.cells] at hS)) | (refine st_cstore hS 3 rfl _ _ _ rfl _ _ _ rfl rfl rfl (by first | (simp; done) | (simp; omega) | exact of_decide_eq_true (by kernel_rfl)) rfl (by first | rfl | assumption) (by kernel_rfl) ?_; clear hS; intro w_ hS; (try simp only [Act.put, Act.eval, List.set_cons_zero, List.set_cons_succ, List.setIfInBounds_toArray, Array.getD_eq_getD_getElem?, List.getElem?_toArray, List.getElem?_cons_succ, List.getElem?_cons_zero, Option.getD_some, Value.cells] at hS)))
    | ((with_reducible show wpList _ _ _ (⟨_, .load _ _, _, _, _, _⟩ :: _) _ _); first | refine st_load hS 0 rfl _ _ rfl _ rfl _ _ rfl _ Tryd.underlying25 rfl (by kernel_rfl) ?_ | refine st_load hS 1 rfl _ _ rfl _ rfl _ _ rfl _ Tryd.underlying25 rfl (by kernel_rfl) ?_ | refine st_load hS 2 rfl _ _ rfl _ rfl _ _ rfl _ Tryd.underlying25 rfl (by kernel_rfl) ?_ | refine st_load hS 3 rfl _ _ rfl _ rfl _ _ rfl _ Tryd.underlying25 rfl (by kernel_rfl) ?_)
    | (go_at_call 7; refine (awake_any _ (HT.out.ext hS.below)).mono ?_; rintro e w3 ⟨_, rfl, rfl, hb3⟩; replace hS := hS.ext hb3)
    | (go_at_call 8; refine (rmake_any _ y HX.out _ D (IsRaw.ext HU.out hS.below)).mono ?_; rintro e w4 ⟨v4, rfl, h4, hb4⟩; replace h4 := HCx.out _ _ _ h4; obtain ⟨A, rfl, sA, oA⟩ := IsRCert.row h4; replace hS := hS.ret hb4 stable_rcertE (h4.imp fun b h _ => h.1); clear h4 hb4 sA oA)
    | (go_at_call 9; refine (lcert_any (.agg A) c _ _ hS.ro.2 HSc.out.1 HSc.out.2.1 HSc.out.2.2).mono ?_; rintro e w5 ⟨v5, rfl, h5, hb5⟩; obtain ⟨B, rfl, sB, oB⟩ := IsCert.row h5; replace hS := hS.ret hb5 stable_cert h5; have HIB := Lib.hid (show (Tryd.prog.info? 35).map (·.size) = some B.size by rw [sB]; kernel_rfl); have SB := Lib.hid sB; have OB := Lib.hid oB; clear h5 hb5 sB oB)
    | ((with_reducible show wpList _ _ _ (⟨some 3, _, _, _, _, _⟩ :: _) _ _); refine st_alloc hS rfl _ rfl (by kernel_rfl) ?_; clear hS; intro g3 w_ hS)
    | ((with_reducible show wpList _ _ _ (⟨some 17, _, _, _, _, _⟩ :: _) _ _); refine st_load hS 0 rfl _ _ rfl g3 rfl _ B rfl _ Tryd.underlying35 rfl HIB.out ?_)
    | (go_at_call 16; refine (cbytes_any (.agg B) c _ _ hS.ro.2).mono ?_; rintro e w6 ⟨v6, rfl, h6, hb6⟩; replace hS := hS.ret hb6 stable_sl h6; obtain ⟨A6, c6, rfl, -, -⟩ := h6.shape; clear h6 hb6)
    | (go_at_call 15; refine (rnew_any _ (bytesC c) HBL.out hS hS.ro.2).mono ?_; rintro e w7 ⟨q, rfl, hR⟩; replace hR := hR.weak stable_cert fun D w h => h.1.2; clear hS)
    | (go_at_call 17; refine (rraw_any 32 HBL.out hR).mono ?_; clear hR; rw [HRR.out]; rintro e w8 ⟨vi, rfl, hR⟩))
  obtain ⟨-, A9, c9, -, -, hS9⟩ := id hR
  obtain ⟨pw, qw, hB, -, -, hpl, hcu⟩ := hS9.ro.1.1.cc
  obtain ⟨bi, oi, ci, rfl, -⟩ := hS9.ro.1.2.range (by rw [HP32.out]; decide)
  clear hS9
  injection hB with hB
  obtain ⟨A33, c33, rfl, -, -⟩ := hpl.shape
  obtain ⟨A34, c34, rfl, -, -⟩ := hcu.shape
  clear hpl hcu
  obtain ⟨X, hX⟩ : ∃ X : List Fact, X = [.box g3 35 B, .box g1 25 #[.int .u8 (x.prob : Nat), .int .u8 0, .bool x.reach, pv, qv]] := ⟨_, rfl⟩
  obtain ⟨K, hK⟩ : ∃ K : (Nat → Prop) → World → Prop, K = fun D w => IsCert w D (.agg B) c ∧ Sl w D 1 (.slice (some ⟨bi, oi, none⟩) c.prob.length ci) c.prob.length (u8s c.prob) := ⟨_, rfl⟩
  replace hR : Rd w0 w8 X K q (putFlag c.reach ++ (putN c.plan.length ++ restC c)) 0 := by rw [hX, hK]; exact hR
  obtain ⟨A0, hA0⟩ : ∃ A : World → Prop, A = fun w => Rd w0 w X K q (putFlag c.reach ++ (putN c.plan.length ++ restC c)) 0 := ⟨_, rfl⟩
  obtain ⟨A1, hA1⟩ : ∃ A : World → Prop, A = fun w => Rd w0 w X K q (putN c.plan.length ++ restC c) 0 := ⟨_, rfl⟩
  obtain ⟨A2, hA2⟩ : ∃ A : World → Prop, A = fun w => Rd w0 w X K q (restC c) 0 := ⟨_, rfl⟩
  have HMem := Lib.hid (show ∀ w, A0 w ∨ A1 w ∨ A2 w → Box w g3 35 B ∧ w.rangeAt bi oi (u8s c.prob) from by
    have key : ∀ (l : List Nat) (w : World), Rd w0 w X K q l 0 → Box w g3 35 B ∧ w.rangeAt bi oi (u8s c.prob) := fun l w h => by
      rw [hX, hK] at h
      obtain ⟨-, _, _, -, -, hS⟩ := h
      exact ⟨hS.box 1 rfl, hS.ro.1.2.rangeAt (by rw [HP32.out]; decide)⟩
    rw [hA0, hA1, hA2]
    rintro w (h | h | h) <;> exact key _ w h)
  have hfl1 : (putFlag c.reach).length = 1 := by cases c.reach <;> rfl
  have HX1 := Lib.hid (show ∀ w, A0 w → A1 w → False from fun w h k => by
    rw [hA0] at h; rw [hA1] at k
    have h2 := Rd.len h k
    simp only [List.length_append] at h2; omega)
  have HX2 := Lib.hid (show ∀ w, A0 w → A2 w → False from fun w h k => by
    rw [hA0] at h; rw [hA2] at k
    have h2 := Rd.len h k
    simp only [List.length_append] at h2; omega)
  have HFl := Lib.hid (show ∀ w, A0 w → Calls Tryd.prog 18 #[.pointer (some ⟨q, 0, none⟩)] w fun e w' => e = .returned (.bool c.reach) ∧ A1 w' from fun w h => by
    rw [hA0] at h; rw [hA1]
    refine (rflag_any ?_ (bytes_app (bytes_flag _) (bytes_app (putN_byte _) (bytes_rest c))) h).mono ?_
    · have a1 := HRL.out; have a3 := putN_len c.plan.length
      simp only [List.length_append]
      have a4 : (putFlag c.reach).length ≤ 1 := by cases c.reach <;> simp [putFlag]
      omega
    · rw [readFlag_putFlag]; exact fun _ _ h => h)
  have HCo := Lib.hid (show ∀ w, A1 w → Calls Tryd.prog 19 #[.pointer (some ⟨q, 0, none⟩), .int .i64 100] w fun e w' => e = .returned (.int .i64 c.plan.length) ∧ A2 w' from fun w h => by
    rw [hA1] at h; rw [hA2]
    refine (rcount_any 100 (by decide) ?_ (bytes_app (putN_byte _) (bytes_rest c)) h).mono ?_
    · have a1 := HRL.out; have a3 := putN_len c.plan.length
      simp only [List.length_append]; omega
    · rw [readCount_putN (by have := HPl.out.1; unfold T64; omega) (by have := HPl.out.1; omega)]; exact fun _ _ h => h)
  have hA0d : A0 w8.drew := by rw [hA0]; exact hR.drew
  have HBr := Lib.hid hB
  have hslot33 : ∀ w, Box w g3 35 B → w.cell? ⟨g3, 33, none⟩ = some (.slice A33 c.plan.length c33) := fun w h => by rw [h.cell, hB]; exact (cc_at _ _ _ _ HP32.out).2.1
  have hslot32 : ∀ w, Box w g3 35 B → w.cell? ⟨g3, 32, none⟩ = some (.bool c.reach) := fun w h => by rw [h.cell, hB]; exact (cc_at _ _ _ _ HP32.out).1
  have hslot34 : ∀ w, Box w g3 35 B → w.cell? ⟨g3, 34, none⟩ = some (.slice A34 c.cubes.length c34) := fun w h => by rw [h.cell, hB]; exact (cc_at _ _ _ _ HP32.out).2.2
  have hrow : ∀ w, Box w g3 35 B → w.rangeAt g3 0 (u8s c.prob) := fun w h => by rw [hB] at h; exact cc_range h
  have hIA : (Tryd.prog.info? 32).map (·.size) = some (u8s c.prob).length := by rw [u8s_length, HP32.out]; kernel_rfl
  have HRP := HP32.out
  have HS33 := Lib.hid hslot33
  have HS32 := Lib.hid hslot32
  have HS34 := Lib.hid hslot34
  have HRow := Lib.hid hrow
  have HIA := Lib.hid hIA
  clear hslot33 hslot32 hslot34 hrow hIA hB
  have hm0 : ∀ w, R3 A0 A1 A2 w8.drew w → A0 w ∨ A1 w ∨ A2 w := fun w h => h.m (.inl hA0d)
  refine wp_region_staged (fun i v w => match i with
    | 0 => v = .slice (some ⟨bi, oi, none⟩) c.prob.length ci
    | 1 => v = .int .i64 c.prob.length
    | 2 => v = .bool false
    | 3 => v = .bool false
    | 4 => v = .slice (some ⟨bi, oi, none⟩) c.prob.length ci
    | 5 => v = .pointer (some ⟨bi, oi, none⟩)
    | 6 => v = .agg (u8s c.prob).toArray
    | 7 => v = .pointer (some ⟨g3, 0, none⟩)
    | 8 => v = .agg (u8s c.prob).toArray
    | 9 => v = .bool false
    | 10 => v = .bool false
    | 11 => v = .bool false
    | 12 => v = .pointer (some ⟨q, 0, none⟩)
    | 13 => (v = .bool c.reach) ∧ (A1 w ∨ A2 w)
    | 14 => v = .pointer (some ⟨g3, 32, none⟩)
    | 15 => v = .bool c.reach
    | 16 => (v = .bool false) ∧ (A1 w ∨ A2 w)
    | 17 => (v = .bool false) ∧ (A1 w ∨ A2 w)
    | 18 => (v = .bool false) ∧ (A1 w ∨ A2 w)
    | 19 => v = .pointer (some ⟨q, 0, none⟩)
    | 20 => (v = .int .i64 c.plan.length) ∧ A2 w
    | 21 => v = .pointer (some ⟨g3, 33, none⟩)
    | 22 => v = .slice A33 c.plan.length c33
    | 23 => v = .int .i64 c.plan.length
    | 24 => (v = .bool false) ∧ A2 w
    | 25 => (v = .bool false) ∧ A2 w
    | _ => True) (R3 A0 A1 A2) (fun i w => match i with | 13 => A0 w | 20 => A0 w ∨ A1 w | _ => True) (by kernel_rfl) (by kernel_rfl) (fun _ => R3.refl _) (fun _ _ _ => R3.trans) ?mono ?hN ⟨?r0, ?r1, ?r2, ?r3, ?r4, ?r5, ?r6, ?r7, ?r8, ?r9, ?r10, ?r11, ?r12, ?r13, ?r14, ?r15, ?r16, ?r17, ?r18, ?r19, ?r20, ?r21, ?r22, ?r23, ?r24, ?r25, trivial⟩ ?post
  case hN => intro i; (try dsimp only); split <;> first | trivial | assumption | (left; assumption)
  case mono =>
    intro i v w w' h hb
    match i, h with
    | 0, h => exact h
    | 1, h => exact h
    | 2, h => exact h
    | 3, h => exact h
    | 4, h => exact h
    | 5, h => exact h
    | 6, h => exact h
    | 7, h => exact h
    | 8, h => exact h
    | 9, h => exact h
    | 10, h => exact h
    | 11, h => exact h
    | 12, h => exact h
    | 13, h => exact ⟨h.1, hb.m12 h.2⟩
    | 14, h => exact h
    | 15, h => exact h
    | 16, h => exact ⟨h.1, hb.m12 h.2⟩
    | 17, h => exact ⟨h.1, hb.m12 h.2⟩
    | 18, h => exact ⟨h.1, hb.m12 h.2⟩
    | 19, h => exact h
    | 20, h => exact ⟨h.1, hb.2.2 h.2⟩
    | 21, h => exact h
    | 22, h => exact h
    | 23, h => exact h
    | 24, h => exact ⟨h.1, hb.2.2 h.2⟩
    | 25, h => exact ⟨h.1, hb.2.2 h.2⟩
    | _ + 26, h => trivial
  case r0 =>
    refine truleS fun b w hW hN hold hpre => ⟨fun hwant K hK => ?_, fun hwant => ?_⟩
    · clear hwant
      have e5 : b.eval (.tmp 5) = .slice (some ⟨bi, oi, none⟩) c.prob.length ci := (hold 5 (by kernel_rfl)).trans rfl
      exact opw_move rfl e5 (hK _ _ rfl ⟨R3.refl _, fun _ _ h => h⟩)
    · rw [want_none rfl] at hwant; cases hwant
  case r1 =>
    refine truleS fun b w hW hN hold hpre => ⟨fun hwant K hK => ?_, fun hwant => ?_⟩
    · clear hwant
      have e22 : b.eval (.tmp 22) = .slice (some ⟨bi, oi, none⟩) c.prob.length ci := hpre ⟨0, _⟩ (Array.mem_of_getElem? (i := 0) rfl) rfl _ _ rfl rfl
      exact opw_len rfl e22 Tryd.underlying47 (hK _ _ rfl ⟨R3.refl _, fun _ _ h => h⟩)
    · rw [want_none rfl] at hwant; cases hwant
  case r2 =>
    refine truleS fun b w hW hN hold hpre => ⟨fun hwant K hK => ?_, fun hwant => ?_⟩
    · clear hwant
      have e23 : b.eval (.tmp 23) = .int .i64 c.prob.length := hpre ⟨1, _⟩ (Array.mem_of_getElem? (i := 0) rfl) rfl _ _ rfl rfl
      exact opw_bin (v := .bool false) (vy := .int .i64 32) rfl e23 rfl rfl (by rw [HRP, binOp_neq]; simp) (hK _ _ rfl ⟨R3.refl _, fun _ _ h => h⟩)
    · rw [want_none rfl] at hwant; cases hwant
  case r3 =>
    refine truleS fun b w hW hN hold hpre => ⟨fun hwant K hK => ?_, fun hwant => ?_⟩
    · clear hwant
      have e24 : b.eval (.tmp 24) = .bool false := hpre ⟨2, _⟩ (Array.mem_of_getElem? (i := 0) rfl) rfl _ _ rfl rfl
      exact opw_move rfl e24 (hK _ _ rfl ⟨R3.refl _, fun _ _ h => h⟩)
    · rw [want_none rfl] at hwant; cases hwant
  case r4 =>
    refine truleS fun b w hW hN hold hpre => ⟨fun hwant K hK => ?_, fun hwant => ?_⟩
    · clear hwant
      have e5 : b.eval (.tmp 5) = .slice (some ⟨bi, oi, none⟩) c.prob.length ci := (hold 5 (by kernel_rfl)).trans rfl
      exact opw_move rfl e5 (hK _ _ rfl ⟨R3.refl _, fun _ _ h => h⟩)
    · rw [want_some rfl rfl rfl (show b.eval (.tmp 25) = .bool false from (hpre ⟨3, _⟩ (Array.mem_of_getElem? (i := 0) rfl) rfl _ _ rfl rfl))] at hwant; cases hwant
  case r5 =>
    refine truleS fun b w hW hN hold hpre => ⟨fun hwant K hK => ?_, fun hwant => ?_⟩
    · clear hwant
      have e26 : b.eval (.tmp 26) = .slice (some ⟨bi, oi, none⟩) c.prob.length ci := hpre ⟨4, _⟩ (Array.mem_of_getElem? (i := 0) rfl) rfl _ _ rfl rfl
      exact opw_arr rfl e26 Tryd.underlying32 (by rw [HRP]; decide) (hK _ _ rfl ⟨R3.refl _, fun _ _ h => h⟩)
    · rw [want_some rfl rfl rfl (show b.eval (.tmp 25) = .bool false from (hpre ⟨3, _⟩ (Array.mem_of_getElem? (i := 1) rfl) rfl _ _ rfl rfl))] at hwant; cases hwant
  case r6 =>
    refine truleS fun b w hW hN hold hpre => ⟨fun hwant K hK => ?_, fun hwant => ?_⟩
    · clear hwant
      have e27 : b.eval (.tmp 27) = .pointer (some ⟨bi, oi, none⟩) := hpre ⟨5, _⟩ (Array.mem_of_getElem? (i := 0) rfl) rfl _ _ rfl rfl
      exact opw_mid rfl e27 (HMem.out w (hm0 w hW)).2 Tryd.underlying32 rfl HIA.out (hK _ _ rfl ⟨R3.refl _, fun _ _ h => h⟩)
    · rw [want_some rfl rfl rfl (show b.eval (.tmp 25) = .bool false from (hpre ⟨3, _⟩ (Array.mem_of_getElem? (i := 1) rfl) rfl _ _ rfl rfl))] at hwant; cases hwant
  case r7 =>
    refine truleS fun b w hW hN hold hpre => ⟨fun hwant K hK => ?_, fun hwant => ?_⟩
    · clear hwant
      have e3 : b.eval (.tmp 3) = .pointer (some ⟨g3, 0, none⟩) := (hold 3 (by kernel_rfl)).trans rfl
      exact opw_faddr rfl e3 (by kernel_rfl) (hK _ _ rfl ⟨R3.refl _, fun _ _ h => h⟩)
    · rw [want_some rfl rfl rfl (show b.eval (.tmp 25) = .bool false from (hpre ⟨3, _⟩ (Array.mem_of_getElem? (i := 0) rfl) rfl _ _ rfl rfl))] at hwant; cases hwant
  case r8 =>
    refine truleS fun b w hW hN hold hpre => ⟨fun hwant K hK => ?_, fun hwant => ?_⟩
    · clear hwant
      have e29 : b.eval (.tmp 29) = .pointer (some ⟨g3, 0, none⟩) := hpre ⟨7, _⟩ (Array.mem_of_getElem? (i := 0) rfl) rfl _ _ rfl rfl
      exact opw_mid rfl e29 (HRow.out w (HMem.out w (hm0 w hW)).1) Tryd.underlying32 rfl HIA.out (hK _ _ rfl ⟨R3.refl _, fun _ _ h => h⟩)
    · rw [want_some rfl rfl rfl (show b.eval (.tmp 25) = .bool false from (hpre ⟨3, _⟩ (Array.mem_of_getElem? (i := 1) rfl) rfl _ _ rfl rfl))] at hwant; cases hwant
  case r9 =>
    refine truleS fun b w hW hN hold hpre => ⟨fun hwant K hK => ?_, fun hwant => ?_⟩
    · clear hwant
      have e28 : b.eval (.tmp 28) = .agg (u8s c.prob).toArray := hpre ⟨6, _⟩ (Array.mem_of_getElem? (i := 0) rfl) rfl _ _ rfl rfl
      have e30 : b.eval (.tmp 30) = .agg (u8s c.prob).toArray := hpre ⟨8, _⟩ (Array.mem_of_getElem? (i := 1) rfl) rfl _ _ rfl rfl
      exact opw_bin (v := .bool false) rfl e28 e30 rfl (by rw [neq_id w _ _ HRP HRP]; simp) (hK _ _ rfl ⟨R3.refl _, fun _ _ h => h⟩)
    · rw [want_some rfl rfl rfl (show b.eval (.tmp 25) = .bool false from (hpre ⟨3, _⟩ (Array.mem_of_getElem? (i := 2) rfl) rfl _ _ rfl rfl))] at hwant; cases hwant
  case r10 =>
    refine truleS fun b w hW hN hold hpre => ⟨fun hwant K hK => ?_, fun hwant => ?_⟩
    · clear hwant
      have e25 : b.eval (.tmp 25) = .bool false := hpre ⟨3, _⟩ (Array.mem_of_getElem? (i := 0) rfl) rfl _ _ rfl rfl
      have e31 : b.eval (.tmp 31) = .bool false := hpre ⟨9, _⟩ (Array.mem_of_getElem? (i := 1) rfl) rfl _ _ rfl rfl
      exact opw_pick rfl e25 e31 (hK _ _ rfl ⟨R3.refl _, fun _ _ h => h⟩)
    · rw [want_none rfl] at hwant; cases hwant
  case r11 =>
    refine truleS fun b w hW hN hold hpre => ⟨fun hwant K hK => ?_, fun hwant => ?_⟩
    · clear hwant
      have e32 : b.eval (.tmp 32) = .bool false := hpre ⟨10, _⟩ (Array.mem_of_getElem? (i := 0) rfl) rfl _ _ rfl rfl
      exact opw_move rfl e32 (hK _ _ rfl ⟨R3.refl _, fun _ _ h => h⟩)
    · rw [want_none rfl] at hwant; cases hwant
  case r12 =>
    refine truleS fun b w hW hN hold hpre => ⟨fun hwant K hK => ?_, fun hwant => ?_⟩
    · clear hwant
      have e4 : b.eval (.tmp 4) = .pointer (some ⟨q, 0, none⟩) := (hold 4 (by kernel_rfl)).trans rfl
      exact opw_move rfl e4 (hK _ _ rfl ⟨R3.refl _, fun _ _ h => h⟩)
    · rw [want_some rfl rfl rfl (show b.eval (.tmp 33) = .bool false from (hpre ⟨11, _⟩ (Array.mem_of_getElem? (i := 0) rfl) rfl _ _ rfl rfl))] at hwant; cases hwant
  case r13 =>
    refine truleS fun b w hW hN hold hpre => ⟨fun hwant K hK => ?_, fun hwant => ?_⟩
    · clear hwant
      have e34 : b.eval (.tmp 34) = .pointer (some ⟨q, 0, none⟩) := hpre ⟨12, _⟩ (Array.mem_of_getElem? (i := 0) rfl) rfl _ _ rfl rfl
      exact opw_callw rfl (by kernel_rfl) (by simp [e34]) (HFl.out w hN) fun e w' h => ⟨_, h.1, hK _ _ ⟨rfl, .inl h.2⟩ ⟨⟨fun _ => .inr (.inl h.2), fun _ => .inl h.2, fun h2 => (HX2.out w hN h2).elim⟩, fun j hj hn => by (try dsimp only at hn ⊢); split at hn <;> first | trivial | exact absurd rfl hj | exact .inr h.2⟩⟩
    · rw [want_some rfl rfl rfl (show b.eval (.tmp 33) = .bool false from (hpre ⟨11, _⟩ (Array.mem_of_getElem? (i := 1) rfl) rfl _ _ rfl rfl))] at hwant; cases hwant
  case r14 =>
    refine truleS fun b w hW hN hold hpre => ⟨fun hwant K hK => ?_, fun hwant => ?_⟩
    · clear hwant
      have e3 : b.eval (.tmp 3) = .pointer (some ⟨g3, 0, none⟩) := (hold 3 (by kernel_rfl)).trans rfl
      exact opw_faddr rfl e3 (by kernel_rfl) (hK _ _ rfl ⟨R3.refl _, fun _ _ h => h⟩)
    · rw [want_some rfl rfl rfl (show b.eval (.tmp 33) = .bool false from (hpre ⟨11, _⟩ (Array.mem_of_getElem? (i := 0) rfl) rfl _ _ rfl rfl))] at hwant; cases hwant
  case r15 =>
    refine truleS fun b w hW hN hold hpre => ⟨fun hwant K hK => ?_, fun hwant => ?_⟩
    · clear hwant
      have e36 : b.eval (.tmp 36) = .pointer (some ⟨g3, 32, none⟩) := hpre ⟨14, _⟩ (Array.mem_of_getElem? (i := 0) rfl) rfl _ _ rfl rfl
      exact opw_cell rfl e36 (by kernel_rfl) (HS32.out w (HMem.out w (hm0 w hW)).1) (hK _ _ rfl ⟨R3.refl _, fun _ _ h => h⟩)
    · rw [want_some rfl rfl rfl (show b.eval (.tmp 33) = .bool false from (hpre ⟨11, _⟩ (Array.mem_of_getElem? (i := 1) rfl) rfl _ _ rfl rfl))] at hwant; cases hwant
  case r16 =>
    refine truleS fun b w hW hN hold hpre => ⟨fun hwant K hK => ?_, fun hwant => ?_⟩
    · clear hwant
      have e35 : (fun (v : Value) (w : World) => (v = .bool c.reach) ∧ (A1 w ∨ A2 w)) (b.eval (.tmp 35)) w := hpre ⟨13, _⟩ (Array.mem_of_getElem? (i := 0) rfl) rfl _ _ rfl rfl
      have e37 : b.eval (.tmp 37) = .bool c.reach := hpre ⟨15, _⟩ (Array.mem_of_getElem? (i := 1) rfl) rfl _ _ rfl rfl
      exact opw_bin (v := .bool false) rfl e35.1 e37 rfl (by rw [run_neq_bool _ _ _ _ Tryd.underlying4]; simp) (hK _ _ ⟨rfl, e35.2⟩ ⟨R3.refl _, fun _ _ h => h⟩)
    · rw [want_some rfl rfl rfl (show b.eval (.tmp 33) = .bool false from (hpre ⟨11, _⟩ (Array.mem_of_getElem? (i := 2) rfl) rfl _ _ rfl rfl))] at hwant; cases hwant
  case r17 =>
    refine truleS fun b w hW hN hold hpre => ⟨fun hwant K hK => ?_, fun hwant => ?_⟩
    · clear hwant
      have e33 : b.eval (.tmp 33) = .bool false := hpre ⟨11, _⟩ (Array.mem_of_getElem? (i := 0) rfl) rfl _ _ rfl rfl
      have e38 : (fun (v : Value) (w : World) => (v = .bool false) ∧ (A1 w ∨ A2 w)) (b.eval (.tmp 38)) w := hpre ⟨16, _⟩ (Array.mem_of_getElem? (i := 1) rfl) rfl _ _ rfl rfl
      exact opw_pick rfl e33 e38.1 (hK _ _ ⟨rfl, e38.2⟩ ⟨R3.refl _, fun _ _ h => h⟩)
    · rw [want_none rfl] at hwant; cases hwant
  case r18 =>
    refine truleS fun b w hW hN hold hpre => ⟨fun hwant K hK => ?_, fun hwant => ?_⟩
    · clear hwant
      have e39 : (fun (v : Value) (w : World) => (v = .bool false) ∧ (A1 w ∨ A2 w)) (b.eval (.tmp 39)) w := hpre ⟨17, _⟩ (Array.mem_of_getElem? (i := 0) rfl) rfl _ _ rfl rfl
      exact opw_move rfl rfl (hK _ _ e39 ⟨R3.refl _, fun _ _ h => h⟩)
    · rw [want_none rfl] at hwant; cases hwant
  case r19 =>
    refine truleS fun b w hW hN hold hpre => ⟨fun hwant K hK => ?_, fun hwant => ?_⟩
    · clear hwant
      have e4 : b.eval (.tmp 4) = .pointer (some ⟨q, 0, none⟩) := (hold 4 (by kernel_rfl)).trans rfl
      exact opw_move rfl e4 (hK _ _ rfl ⟨R3.refl _, fun _ _ h => h⟩)
    · rw [want_some rfl rfl rfl (show b.eval (.tmp 40) = .bool false from (hpre ⟨18, _⟩ (Array.mem_of_getElem? (i := 0) rfl) rfl _ _ rfl rfl).1)] at hwant; cases hwant
  case r20 =>
    refine truleS fun b w hW hN hold hpre => ⟨fun hwant K hK => ?_, fun hwant => ?_⟩
    · clear hwant
      have e41 : b.eval (.tmp 41) = .pointer (some ⟨q, 0, none⟩) := hpre ⟨19, _⟩ (Array.mem_of_getElem? (i := 0) rfl) rfl _ _ rfl rfl
      have hA : A1 w := by rcases hN with h | h; rcases (hpre ⟨18, _⟩ (Array.mem_of_getElem? (i := 1) rfl) rfl _ _ rfl rfl).2 with k | k; exact k; exact (HX2.out w h k).elim; exact h
      exact opw_callw rfl (by kernel_rfl) (by simp only [List.map_cons, List.map_nil, e41]; rfl) (HCo.out w hA) fun e w' h => ⟨_, h.1, hK _ _ ⟨rfl, h.2⟩ ⟨⟨fun h0 => (HX1.out w h0 hA).elim, fun _ => .inr h.2, fun _ => h.2⟩, fun j hj hn => by (try dsimp only at hn ⊢); split at hn <;> first | trivial | exact absurd rfl hj | exact (HX1.out w hn hA).elim⟩⟩
    · rw [want_some rfl rfl rfl (show b.eval (.tmp 40) = .bool false from (hpre ⟨18, _⟩ (Array.mem_of_getElem? (i := 1) rfl) rfl _ _ rfl rfl).1)] at hwant; cases hwant
  case r21 =>
    refine truleS fun b w hW hN hold hpre => ⟨fun hwant K hK => ?_, fun hwant => ?_⟩
    · clear hwant
      have e3 : b.eval (.tmp 3) = .pointer (some ⟨g3, 0, none⟩) := (hold 3 (by kernel_rfl)).trans rfl
      exact opw_faddr rfl e3 (by kernel_rfl) (hK _ _ rfl ⟨R3.refl _, fun _ _ h => h⟩)
    · rw [want_some rfl rfl rfl (show b.eval (.tmp 40) = .bool false from (hpre ⟨18, _⟩ (Array.mem_of_getElem? (i := 0) rfl) rfl _ _ rfl rfl).1)] at hwant; cases hwant
  case r22 =>
    refine truleS fun b w hW hN hold hpre => ⟨fun hwant K hK => ?_, fun hwant => ?_⟩
    · clear hwant
      have e43 : b.eval (.tmp 43) = .pointer (some ⟨g3, 33, none⟩) := hpre ⟨21, _⟩ (Array.mem_of_getElem? (i := 0) rfl) rfl _ _ rfl rfl
      exact opw_cell rfl e43 (by kernel_rfl) (HS33.out w (HMem.out w (hm0 w hW)).1) (hK _ _ rfl ⟨R3.refl _, fun _ _ h => h⟩)
    · rw [want_some rfl rfl rfl (show b.eval (.tmp 40) = .bool false from (hpre ⟨18, _⟩ (Array.mem_of_getElem? (i := 1) rfl) rfl _ _ rfl rfl).1)] at hwant; cases hwant
  case r23 =>
    refine truleS fun b w hW hN hold hpre => ⟨fun hwant K hK => ?_, fun hwant => ?_⟩
    · clear hwant
      have e44 : b.eval (.tmp 44) = .slice A33 c.plan.length c33 := hpre ⟨22, _⟩ (Array.mem_of_getElem? (i := 0) rfl) rfl _ _ rfl rfl
      exact opw_len rfl e44 Tryd.underlying22 (hK _ _ rfl ⟨R3.refl _, fun _ _ h => h⟩)
    · rw [want_some rfl rfl rfl (show b.eval (.tmp 40) = .bool false from (hpre ⟨18, _⟩ (Array.mem_of_getElem? (i := 1) rfl) rfl _ _ rfl rfl).1)] at hwant; cases hwant
  case r24 =>
    refine truleS fun b w hW hN hold hpre => ⟨fun hwant K hK => ?_, fun hwant => ?_⟩
    · clear hwant
      have e42 : (fun (v : Value) (w : World) => (v = .int .i64 c.plan.length) ∧ A2 w) (b.eval (.tmp 42)) w := hpre ⟨20, _⟩ (Array.mem_of_getElem? (i := 0) rfl) rfl _ _ rfl rfl
      have e45 : b.eval (.tmp 45) = .int .i64 c.plan.length := hpre ⟨23, _⟩ (Array.mem_of_getElem? (i := 1) rfl) rfl _ _ rfl rfl
      exact opw_bin (v := .bool false) rfl e42.1 e45 rfl (by rw [binOp_neq]; simp) (hK _ _ ⟨rfl, e42.2⟩ ⟨R3.refl _, fun _ _ h => h⟩)
    · rw [want_some rfl rfl rfl (show b.eval (.tmp 40) = .bool false from (hpre ⟨18, _⟩ (Array.mem_of_getElem? (i := 2) rfl) rfl _ _ rfl rfl).1)] at hwant; cases hwant
  case r25 =>
    refine truleS fun b w hW hN hold hpre => ⟨fun hwant K hK => ?_, fun hwant => ?_⟩
    · clear hwant
      have e40 : (fun (v : Value) (w : World) => (v = .bool false) ∧ (A1 w ∨ A2 w)) (b.eval (.tmp 40)) w := hpre ⟨18, _⟩ (Array.mem_of_getElem? (i := 0) rfl) rfl _ _ rfl rfl
      have e46 : (fun (v : Value) (w : World) => (v = .bool false) ∧ A2 w) (b.eval (.tmp 46)) w := hpre ⟨24, _⟩ (Array.mem_of_getElem? (i := 1) rfl) rfl _ _ rfl rfl
      exact opw_pick rfl e40.1 e46.1 (hK _ _ ⟨rfl, e46.2⟩ ⟨R3.refl _, fun _ _ h => h⟩)
    · rw [want_none rfl] at hwant; cases hwant
  case post =>
    intro b wz hW hdf hsz hold hT
    have e22 : b.eval (.tmp 22) = .slice (some ⟨bi, oi, none⟩) c.prob.length ci := hT 0 _ 22 rfl rfl
    have e23 : b.eval (.tmp 23) = .int .i64 c.prob.length := hT 1 _ 23 rfl rfl
    have e24 : b.eval (.tmp 24) = .bool false := hT 2 _ 24 rfl rfl
    have e25 : b.eval (.tmp 25) = .bool false := hT 3 _ 25 rfl rfl
    have e26 : b.eval (.tmp 26) = .slice (some ⟨bi, oi, none⟩) c.prob.length ci := hT 4 _ 26 rfl rfl
    have e27 : b.eval (.tmp 27) = .pointer (some ⟨bi, oi, none⟩) := hT 5 _ 27 rfl rfl
    have e28 : b.eval (.tmp 28) = .agg (u8s c.prob).toArray := hT 6 _ 28 rfl rfl
    have e29 : b.eval (.tmp 29) = .pointer (some ⟨g3, 0, none⟩) := hT 7 _ 29 rfl rfl
    have e30 : b.eval (.tmp 30) = .agg (u8s c.prob).toArray := hT 8 _ 30 rfl rfl
    have e31 : b.eval (.tmp 31) = .bool false := hT 9 _ 31 rfl rfl
    have e32 : b.eval (.tmp 32) = .bool false := hT 10 _ 32 rfl rfl
    have e33 : b.eval (.tmp 33) = .bool false := hT 11 _ 33 rfl rfl
    have e34 : b.eval (.tmp 34) = .pointer (some ⟨q, 0, none⟩) := hT 12 _ 34 rfl rfl
    have e35 : (fun (v : Value) (w : World) => (v = .bool c.reach) ∧ (A1 w ∨ A2 w)) (b.eval (.tmp 35)) wz := hT 13 _ 35 rfl rfl
    have e36 : b.eval (.tmp 36) = .pointer (some ⟨g3, 32, none⟩) := hT 14 _ 36 rfl rfl
    have e37 : b.eval (.tmp 37) = .bool c.reach := hT 15 _ 37 rfl rfl
    have e38 : (fun (v : Value) (w : World) => (v = .bool false) ∧ (A1 w ∨ A2 w)) (b.eval (.tmp 38)) wz := hT 16 _ 38 rfl rfl
    have e39 : (fun (v : Value) (w : World) => (v = .bool false) ∧ (A1 w ∨ A2 w)) (b.eval (.tmp 39)) wz := hT 17 _ 39 rfl rfl
    have e40 : (fun (v : Value) (w : World) => (v = .bool false) ∧ (A1 w ∨ A2 w)) (b.eval (.tmp 40)) wz := hT 18 _ 40 rfl rfl
    have e41 : b.eval (.tmp 41) = .pointer (some ⟨q, 0, none⟩) := hT 19 _ 41 rfl rfl
    have e42 : (fun (v : Value) (w : World) => (v = .int .i64 c.plan.length) ∧ A2 w) (b.eval (.tmp 42)) wz := hT 20 _ 42 rfl rfl
    have e43 : b.eval (.tmp 43) = .pointer (some ⟨g3, 33, none⟩) := hT 21 _ 43 rfl rfl
    have e44 : b.eval (.tmp 44) = .slice A33 c.plan.length c33 := hT 22 _ 44 rfl rfl
    have e45 : b.eval (.tmp 45) = .int .i64 c.plan.length := hT 23 _ 45 rfl rfl
    have e46 : (fun (v : Value) (w : World) => (v = .bool false) ∧ A2 w) (b.eval (.tmp 46)) wz := hT 24 _ 46 rfl rfl
    have e47 : (fun (v : Value) (w : World) => (v = .bool false) ∧ A2 w) (b.eval (.tmp 47)) wz := hT 25 _ 47 rfl rfl
    obtain ⟨vs, hvs, hb⟩ := frame_of hdf hsz hold
    replace e22 : vs 22 = .slice (some ⟨bi, oi, none⟩) c.prob.length ci := (hvs 22).symm.trans e22
    replace e23 : vs 23 = .int .i64 c.prob.length := (hvs 23).symm.trans e23
    replace e24 : vs 24 = .bool false := (hvs 24).symm.trans e24
    replace e25 : vs 25 = .bool false := (hvs 25).symm.trans e25
    replace e26 : vs 26 = .slice (some ⟨bi, oi, none⟩) c.prob.length ci := (hvs 26).symm.trans e26
    replace e27 : vs 27 = .pointer (some ⟨bi, oi, none⟩) := (hvs 27).symm.trans e27
    replace e28 : vs 28 = .agg (u8s c.prob).toArray := (hvs 28).symm.trans e28
    replace e29 : vs 29 = .pointer (some ⟨g3, 0, none⟩) := (hvs 29).symm.trans e29
    replace e30 : vs 30 = .agg (u8s c.prob).toArray := (hvs 30).symm.trans e30
    replace e31 : vs 31 = .bool false := (hvs 31).symm.trans e31
    replace e32 : vs 32 = .bool false := (hvs 32).symm.trans e32
    replace e33 : vs 33 = .bool false := (hvs 33).symm.trans e33
    replace e34 : vs 34 = .pointer (some ⟨q, 0, none⟩) := (hvs 34).symm.trans e34
    replace e35 := (hvs 35) ▸ e35
    replace e36 : vs 36 = .pointer (some ⟨g3, 32, none⟩) := (hvs 36).symm.trans e36
    replace e37 : vs 37 = .bool c.reach := (hvs 37).symm.trans e37
    replace e38 := (hvs 38) ▸ e38
    replace e39 := (hvs 39) ▸ e39
    replace e40 := (hvs 40) ▸ e40
    replace e41 : vs 41 = .pointer (some ⟨q, 0, none⟩) := (hvs 41).symm.trans e41
    replace e42 := (hvs 42) ▸ e42
    replace e43 : vs 43 = .pointer (some ⟨g3, 33, none⟩) := (hvs 43).symm.trans e43
    replace e44 : vs 44 = .slice A33 c.plan.length c33 := (hvs 44).symm.trans e44
    replace e45 : vs 45 = .int .i64 c.plan.length := (hvs 45).symm.trans e45
    replace e46 := (hvs 46) ▸ e46
    replace e47 := (hvs 47) ▸ e47
    subst hb
    clear hvs hold hT hdf hsz
    simp only [setAll, Act.put, List.setIfInBounds_toArray, List.set_cons_zero, List.set_cons_succ, List.getElem_toArray, List.getElem_cons_succ, List.getElem_cons_zero]
    obtain ⟨e47, hA⟩ := e47
    rw [hA2] at hA
    clear hA0d HX1 HX2 HFl HCo HMem hA0 hA1 hA2 hm0
    have k1 : ∀ D w, K D w → Sl w D 1 (.slice A33 c.plan.length c33) c.plan.length (ints c.plan) := fun D w h => by
      rw [hK] at h
      obtain ⟨pv', qv', e, -, -, h1, -⟩ := h.1.cc
      injection e with e
      have := (cc_at c.prob c.reach pv' qv' HRP).2.1
      rw [← e, HBr.out, (cc_at _ _ _ _ HRP).2.1] at this
      injection this with this
      rw [this]; exact h1
    have k2 : ∀ D w, K D w → IsCubes w D (.slice A34 c.cubes.length c34) c.cubes := fun D w h => by
      rw [hK] at h
      obtain ⟨pv', qv', e, -, -, -, h1⟩ := h.1.cc
      injection e with e
      have := (cc_at c.prob c.reach pv' qv' HRP).2.2
      rw [← e, HBr.out, (cc_at _ _ _ _ HRP).2.2] at this
      injection this with this
      rw [this]; exact h1
    have hbox : ∀ (l : List Nat) (w : World), Rd w0 w X K q l 0 → Box w g3 35 B := fun l w h => by
      rw [hX] at h
      obtain ⟨-, _, _, -, -, hS⟩ := h
      exact hS.box 1 rfl
    have HK1 := Lib.hid k1
    have HK2 := Lib.hid k2
    have HBox := Lib.hid hbox
    have hR := hA
    have c33 := HS33.out _ (hbox _ _ hA)
    clear k1 k2 hbox hA hK hX
    go_wp2_with fail
    have hpl1 := HPl.out.1
    go_loopw [51] (fun i wr => ∃ k : Nat, k ≤ c.plan.length ∧ i = .int .i64 k ∧ Rd w0 wr X K q (((c.plan.drop k).flatMap fun z => putN z.toNat) ++ putCubes c.cubes) 0) (fun i _ => c.plan.length - (intOf i).toNat)
    case atStart => exact ⟨0, by omega, rfl, hR⟩
    case round =>
      clear hR c33
      obtain ⟨k, hk, rfl, hR⟩ := hrel
      by_cases hlt : k < c.plan.length
      · have hz := HPl.out.2 (c.plan.getD k 0) (by rw [List.getD_eq_getElem?_getD, List.getElem?_eq_getElem hlt]; exact List.getElem_mem hlt)
        have f1 : (ints c.plan)[k]? = some (.int .i64 (c.plan.getD k 0)) := by simp [ints, List.getElem?_eq_getElem hlt]
        have hst := drop_getD c.plan 0 hlt
        rw [hst, List.flatMap_cons, List.append_assoc] at hR
        clear hst
        generalize c.plan.getD k 0 = z at *
        obtain ⟨z, rfl⟩ := Int.eq_ofNat_of_zero_le hz.1
        rw [show ((z : Int)).toNat = z by simp] at hR
        have hz2 : z ≤ 63 := by omega
        have hl2 : (((c.plan.drop (k + 1)).flatMap fun z => putN z.toNat) ++ putCubes c.cubes).length ≤ 20000 := by
          have a1 := plan_len (c.plan.drop (k + 1)); have a2 := HRL.out
          simp only [restC, List.length_append, List.length_drop] at *; omega
        have hb2 : Bytes (((c.plan.drop (k + 1)).flatMap fun z => putN z.toNat) ++ putCubes c.cubes) := bytes_app (bytes_flat _ _ fun _ => putN_byte _) (putCubes_bytes _)
        have HNum := Lib.hid fun (w : World) (h : Rd w0 w X K q (putN z ++ (((c.plan.drop (k + 1)).flatMap fun z => putN z.toNat) ++ putCubes c.cubes)) 0) => rnumberm_any 63 (by decide) (by have := putN_len z; simp only [List.length_append] at *; omega) (bytes_app (putN_byte _) hb2) h
        have HRU := Lib.hid (readUint_putN (v := z) (most := 63) (by unfold T64; omega) hz2 (((c.plan.drop (k + 1)).flatMap fun z => putN z.toNat) ++ putCubes c.cubes))
        clear hl2 hb2 hz
        generalize hL9 : ((c.plan.drop (k + 1)).flatMap fun z => putN z.toNat) ++ putCubes c.cubes = L9 at *
        have HL9 := Lib.hid hL9
        clear hL9
        go_wp2_with (first
          | ((with_reducible show wpList _ _ _ (⟨_, .indexAddr _ _ _, _, _, _, _⟩ :: _) _ _); obtain ⟨_, A9, c9, _, _, hS⟩ := id hR; refine st_iaddr1 hS rfl _ _ _ rfl _ rfl rfl (fun D w h => HK1.out D w h.1) Tryd.underlying22 (by kernel_rfl) (by omega) _ f1 ?_; clear hS; intro p_ hc_)
          | (go_at_call 20; refine (HNum.out _ hR).mono ?_; rw [HRU.out]; clear hR; rintro r_ w_ ⟨rfl, hR⟩))
        rw [← HL9.out] at hR
        exact ⟨⟨k + 1, hlt, by go_num, hR⟩, by simp [intOf]; omega⟩
      · obtain rfl : k = c.plan.length := by omega
        rw [List.drop_length, List.flatMap_nil, List.nil_append] at hR
        go_wp2_with fail
        obtain ⟨B0, hB0⟩ : ∃ A : World → Prop, A = fun w => Rd w0 w X K q (putCubes c.cubes) 0 := ⟨_, rfl⟩
        obtain ⟨B1, hB1⟩ : ∃ A : World → Prop, A = fun w => Rd w0 w X K q (c.cubes.flatMap fun z => putCube z.1 z.2) 0 := ⟨_, rfl⟩
        have hflb : Bytes (c.cubes.flatMap fun z => putCube z.1 z.2) := bytes_flat _ _ fun _ => putCube_bytes _ _
        have hfll : (c.cubes.flatMap fun z => putCube z.1 z.2).length ≤ 20000 := by
          have a2 := HRL.out; simp only [restC, putCubes, List.length_append] at a2; omega
        have HCo := Lib.hid (show ∀ w, B0 w → Calls Tryd.prog 19 #[.pointer (some ⟨q, 0, none⟩), .int .i64 100] w fun e w' => e = .returned (.int .i64 c.cubes.length) ∧ B1 w' from fun w h => by
          rw [hB0] at h; rw [hB1]
          rw [putCubes] at h
          refine (rcount_any 100 (by decide) ?_ (bytes_app (putN_byte _) hflb) h).mono ?_
          · have a3 := putN_len c.cubes.length
            simp only [List.length_append]; omega
          · rw [readCount_putN (by have := HCu.out; unfold T64; omega) (by have := HCu.out; omega)]; exact fun _ _ h => h)
        have HMem := Lib.hid (show ∀ w, B0 w ∨ B1 w ∨ False → w.cell? ⟨g3, 34, none⟩ = some (.slice A34 c.cubes.length c34) from by
          rw [hB0, hB1]
          rintro w (h | h | h)
          · exact HS34.out w (HBox.out _ _ h)
          · exact HS34.out w (HBox.out _ _ h)
          · cases h)
        have hA0d : B0 wr.drew := by rw [hB0]; exact hR.drew
        have hm0 : ∀ w, R3 B0 B1 (fun _ => False) wr.drew w → B0 w ∨ B1 w ∨ False := fun w h => h.m (.inl hA0d)
        refine wp_region_staged (fun i v w => match i with
          | 0 => v = .pointer (some ⟨q, 0, none⟩)
          | 1 => (v = .int .i64 c.cubes.length) ∧ (B1 w ∨ False)
          | 2 => v = .pointer (some ⟨g3, 34, none⟩)
          | 3 => v = .slice A34 c.cubes.length c34
          | 4 => v = .int .i64 c.cubes.length
          | 5 => (v = .bool false) ∧ (B1 w ∨ False)
          | _ => True) (R3 B0 B1 (fun _ => False)) (fun i w => match i with | 1 => B0 w | _ => True) (by kernel_rfl) (by kernel_rfl) (fun _ => R3.refl _) (fun _ _ _ => R3.trans) ?mono ?hN ⟨?r0, ?r1, ?r2, ?r3, ?r4, ?r5, trivial⟩ ?post
        case hN => intro i; (try dsimp only); split <;> first | trivial | assumption | (left; assumption)
        case mono =>
          intro i v w w' h hb
          match i, h with
          | 0, h => exact h
          | 1, h => exact ⟨h.1, hb.m12 h.2⟩
          | 2, h => exact h
          | 3, h => exact h
          | 4, h => exact h
          | 5, h => exact ⟨h.1, hb.m12 h.2⟩
          | _ + 6, h => trivial
        case r0 =>
          refine truleS fun b w hW hN hold hpre => ⟨fun hwant K hK => ?_, fun hwant => ?_⟩
          · clear hwant
            have e4 : b.eval (.tmp 4) = .pointer (some ⟨q, 0, none⟩) := (hold 4 (by kernel_rfl)).trans rfl
            exact opw_move rfl e4 (hK _ _ rfl ⟨R3.refl _, fun _ _ h => h⟩)
          · rw [want_none rfl] at hwant; cases hwant
        case r1 =>
          refine truleS fun b w hW hN hold hpre => ⟨fun hwant K hK => ?_, fun hwant => ?_⟩
          · clear hwant
            have e60 : b.eval (.tmp 60) = .pointer (some ⟨q, 0, none⟩) := hpre ⟨0, _⟩ (Array.mem_of_getElem? (i := 0) rfl) rfl _ _ rfl rfl
            exact opw_callw rfl (by kernel_rfl) (by simp only [List.map_cons, List.map_nil, e60]; rfl) (HCo.out w hN) fun e w' h => ⟨_, h.1, hK _ _ ⟨rfl, .inl h.2⟩ ⟨⟨fun _ => .inr (.inl h.2), fun _ => .inl h.2, fun h2 => h2.elim⟩, fun j hj hn => by (try dsimp only at hn ⊢); split at hn <;> first | trivial | exact absurd rfl hj⟩⟩
          · rw [want_none rfl] at hwant; cases hwant
        case r2 =>
          refine truleS fun b w hW hN hold hpre => ⟨fun hwant K hK => ?_, fun hwant => ?_⟩
          · clear hwant
            have e3 : b.eval (.tmp 3) = .pointer (some ⟨g3, 0, none⟩) := (hold 3 (by kernel_rfl)).trans rfl
            exact opw_faddr rfl e3 (by kernel_rfl) (hK _ _ rfl ⟨R3.refl _, fun _ _ h => h⟩)
          · rw [want_none rfl] at hwant; cases hwant
        case r3 =>
          refine truleS fun b w hW hN hold hpre => ⟨fun hwant K hK => ?_, fun hwant => ?_⟩
          · clear hwant
            have e62 : b.eval (.tmp 62) = .pointer (some ⟨g3, 34, none⟩) := hpre ⟨2, _⟩ (Array.mem_of_getElem? (i := 0) rfl) rfl _ _ rfl rfl
            exact opw_cell rfl e62 (by kernel_rfl) (HMem.out w (hm0 w hW)) (hK _ _ rfl ⟨R3.refl _, fun _ _ h => h⟩)
          · rw [want_none rfl] at hwant; cases hwant
        case r4 =>
          refine truleS fun b w hW hN hold hpre => ⟨fun hwant K hK => ?_, fun hwant => ?_⟩
          · clear hwant
            have e63 : b.eval (.tmp 63) = .slice A34 c.cubes.length c34 := hpre ⟨3, _⟩ (Array.mem_of_getElem? (i := 0) rfl) rfl _ _ rfl rfl
            exact opw_len rfl e63 Tryd.underlying33 (hK _ _ rfl ⟨R3.refl _, fun _ _ h => h⟩)
          · rw [want_none rfl] at hwant; cases hwant
        case r5 =>
          refine truleS fun b w hW hN hold hpre => ⟨fun hwant K hK => ?_, fun hwant => ?_⟩
          · clear hwant
            have e61 : (fun (v : Value) (w : World) => (v = .int .i64 c.cubes.length) ∧ (B1 w ∨ False)) (b.eval (.tmp 61)) w := hpre ⟨1, _⟩ (Array.mem_of_getElem? (i := 0) rfl) rfl _ _ rfl rfl
            have e64 : b.eval (.tmp 64) = .int .i64 c.cubes.length := hpre ⟨4, _⟩ (Array.mem_of_getElem? (i := 1) rfl) rfl _ _ rfl rfl
            exact opw_bin (v := .bool false) rfl e61.1 e64 rfl (by rw [binOp_neq]; simp) (hK _ _ ⟨rfl, e61.2⟩ ⟨R3.refl _, fun _ _ h => h⟩)
          · rw [want_none rfl] at hwant; cases hwant
        case post =>
          intro b wz hW hdf hsz hold hT
          have e60 : b.eval (.tmp 60) = .pointer (some ⟨q, 0, none⟩) := hT 0 _ 60 rfl rfl
          have e61 : (fun (v : Value) (w : World) => (v = .int .i64 c.cubes.length) ∧ (B1 w ∨ False)) (b.eval (.tmp 61)) wz := hT 1 _ 61 rfl rfl
          have e62 : b.eval (.tmp 62) = .pointer (some ⟨g3, 34, none⟩) := hT 2 _ 62 rfl rfl
          have e63 : b.eval (.tmp 63) = .slice A34 c.cubes.length c34 := hT 3 _ 63 rfl rfl
          have e64 : b.eval (.tmp 64) = .int .i64 c.cubes.length := hT 4 _ 64 rfl rfl
          have e65 : (fun (v : Value) (w : World) => (v = .bool false) ∧ (B1 w ∨ False)) (b.eval (.tmp 65)) wz := hT 5 _ 65 rfl rfl
          obtain ⟨vs, hvs, hb⟩ := frame_of hdf hsz hold
          replace e60 : vs 60 = .pointer (some ⟨q, 0, none⟩) := (hvs 60).symm.trans e60
          replace e61 := (hvs 61) ▸ e61
          replace e62 : vs 62 = .pointer (some ⟨g3, 34, none⟩) := (hvs 62).symm.trans e62
          replace e63 : vs 63 = .slice A34 c.cubes.length c34 := (hvs 63).symm.trans e63
          replace e64 : vs 64 = .int .i64 c.cubes.length := (hvs 64).symm.trans e64
          replace e65 := (hvs 65) ▸ e65
          subst hb
          clear hvs hold hT hdf hsz
          simp only [setAll, Act.put, List.setIfInBounds_toArray, List.set_cons_zero, List.set_cons_succ, List.getElem_toArray, List.getElem_cons_succ, List.getElem_cons_zero]
          obtain ⟨e65, hA⟩ := e65
          replace hA := hA.resolve_right id
          rw [hB1] at hA
          have hR2 := hA
          have c34f := HS34.out _ (HBox.out _ _ hA)
          clear hA0d HCo HMem hB0 hB1 hm0 hA hR hflb hfll
          go_wp2_with fail
          have hcl := HCu.out
          clear hpl1
          go_loopw [69] (fun i wr => ∃ k : Nat, k ≤ c.cubes.length ∧ i = .int .i64 k ∧ Rd w0 wr X K q ((c.cubes.drop k).flatMap fun z => putCube z.1 z.2) 0) (fun i _ => c.cubes.length - (intOf i).toNat)
          case atStart => exact ⟨0, by omega, rfl, hR2⟩
          case round =>
            clear hR2 c34f
            obtain ⟨k, hk, rfl, hR⟩ := hrel
            by_cases hlt : k < c.cubes.length
            · have hst : ((c.cubes.drop k).flatMap fun z => putCube z.1 z.2) = putSet (c.cubes.getD k (0, 0)).1 ++ (putSet (c.cubes.getD k (0, 0)).2 ++ ((c.cubes.drop (k + 1)).flatMap fun z => putCube z.1 z.2)) := by
                rw [drop_getD c.cubes (0, 0) hlt, List.flatMap_cons, putCube, List.append_assoc]
              rw [hst] at hR
              have hsm := HSc.out.1.at_ k hlt
              have hget : c.cubes[k]? = some (c.cubes.getD k (0, 0)) := by rw [List.getD_eq_getElem?_getD, List.getElem?_eq_getElem hlt]; rfl
              have hl2 : ((c.cubes.drop (k + 1)).flatMap fun z => putCube z.1 z.2).length ≤ 20000 := flat_drop HSc.out.1 hcl k
              have hb2 : Bytes ((c.cubes.drop (k + 1)).flatMap fun z => putCube z.1 z.2) := bytes_flat _ _ fun _ => putCube_bytes _ _
              clear hst
              generalize hL9 : ((c.cubes.drop (k + 1)).flatMap fun z => putCube z.1 z.2) = L9 at *
              have HL9 := Lib.hid hL9
              clear hL9
              generalize c.cubes.getD k (0, 0) = z at *
              obtain ⟨Y, N⟩ := z
              dsimp only at hsm hR
              obtain ⟨hY1, hY2⟩ := small_set hsm.1
              obtain ⟨hN1, hN2⟩ := small_set hsm.2
              have hyl := putSet_len hY1
              have hnl := putSet_len hN1
              have HS1 := Lib.hid fun (w : World) (X' : List Fact) (K' : (Nat → Prop) → World → Prop) (h : Rd w0 w X' K' q (putSet Y ++ (putSet N ++ L9)) 0) => rset_any 63 (by decide) (by simp only [List.length_append]; omega) (bytes_app (bytes_set _) (bytes_app (bytes_set _) hb2)) h
              have HS2 := Lib.hid fun (w : World) (X' : List Fact) (K' : (Nat → Prop) → World → Prop) (h : Rd w0 w X' K' q (putSet N ++ L9) 0) => rset_any 63 (by decide) (by simp only [List.length_append]; omega) (bytes_app (bytes_set _) hb2) h
              have HR1 := Lib.hid (readSet_put (most := 63) hY1 hY2 (putSet N ++ L9))
              have HR2 := Lib.hid (readSet_put (most := 63) hN1 hN2 L9)
              clear hY1 hY2 hN1 hN2 hyl hnl hl2 hb2 hsm
              obtain ⟨hKs, A9, c9, m1, m2, hS⟩ := hR
              obtain ⟨xs, hsl, hat⟩ := HK2.out _ _ hS.ro.1
              obtain ⟨ya, ma, f1, f2, sy, sm⟩ := hat k Y N hget
              obtain ⟨Ay, ny, cy, rfl⟩ := sy.shape
              obtain ⟨Am, nm, cm, rfl⟩ := sm.shape
              replace hS := hS.add (Stable.and stable_sl (stable_set.and stable_set)) ⟨hsl, sy, sm⟩ (fun _ h _ => h)
              have HKs := Lib.hid hKs
              clear hsl hat sy sm hKs hget
              go_wp2_with (first
                | ((with_reducible show wpList _ _ _ (⟨_, .indexAddr _ _ _, _, _, _, _⟩ :: _) _ _); refine st_iaddr2 hS rfl _ _ _ rfl _ rfl rfl (fun D w h => h.2.1) Tryd.underlying33 (by kernel_rfl) (by omega) _ _ f1 f2 ?_; intro b_ j_ hc0_ hc1_)
                | ((with_reducible show wpList _ _ _ (⟨some 9, _, _, _, _, _⟩ :: _) _ _); refine st_allocz hS rfl _ rfl (by kernel_rfl) #[.slice none 0 0, .slice none 0 0] (by kernel_rfl) ?_; clear hS; intro g9 w_ hS; (try simp only [Act.put, Act.eval, List.set_cons_zero, List.set_cons_succ, List.setIfInBounds_toArray, Array.getD_eq_getD_getElem?, List.getElem?_toArray, List.getElem?_cons_succ, List.getElem?_cons_zero, Option.getD_some, Value.cells] at hS))
                | ((with_reducible show wpList _ _ _ (⟨_, .store _ _ _, _, _, _, _⟩ :: _) _ _); first | (refine st_store hS 0 rfl _ _ _ rfl _ _ rfl rfl _ _ rfl (by kernel_rfl) (by kernel_rfl) (by kernel_rfl) ?_; clear hS; intro w_ hS; (try simp only [Act.put, Act.eval, List.set_cons_zero, List.set_cons_succ, List.setIfInBounds_toArray, Array.getD_eq_getD_getElem?, List.getElem?_toArray, List.getElem?_cons_succ, List.getElem?_cons_zero, Option.getD_some, Value.cells] at hS)) | (refine st_store hS 1 rfl _ _ _ rfl _ _ rfl rfl _ _ rfl (by kernel_rfl) (by kernel_rfl) (by kernel_rfl) ?_; clear hS; intro w_ hS; (try simp only [Act.put, Act.eval, List.set_cons_zero, List.set_cons_succ, List.setIfInBounds_toArray, Array.getD_eq_getD_getElem?, List.getElem?_toArray, List.getElem?_cons_succ, List.getElem?_cons_zero, Option.getD_some, Value.cells] at hS)) | (refine st_store hS 2 rfl _ _ _ rfl _ _ rfl rfl _ _ rfl (by kernel_rfl) (by kernel_rfl) (by kernel_rfl) ?_; clear hS; intro w_ hS; (try simp only [Act.put, Act.eval, List.set_cons_zero, List.set_cons_succ, List.setIfInBounds_toArray, Array.getD_eq_getD_getElem?, List.getElem?_toArray, List.getElem?_cons_succ, List.getElem?_cons_zero, Option.getD_some, Value.cells] at hS)) | (refine st_store hS 3 rfl _ _ _ rfl _ _ rfl rfl _ _ rfl (by kernel_rfl) (by kernel_rfl) (by kernel_rfl) ?_; clear hS; intro w_ hS; (try simp only [Act.put, Act.eval, List.set_cons_zero, List.set_cons_succ, List.setIfInBounds_toArray, Array.getD_eq_getD_getElem?, List.getElem?_toArray, List.getElem?_cons_succ, List.getElem?_cons_zero, Option.getD_some, Value.cells] at hS)) | (refine st_cstore hS 0 rfl _ _ _ rfl _ _ _ rfl rfl rfl (by first | (simp; done) | (simp; omega) | exact of_decide_eq_true (by kernel_rfl)) rfl (by first | rfl | assumption) (by kernel_rfl) ?_; clear hS; intro w_ hS; (try simp only [Act.put, Act.eval, List.set_cons_zero, List.set_cons_succ, List.setIfInBounds_toArray, Array.getD_eq_getD_getElem?, List.getElem?_toArray, List.getElem?_cons_succ, List.getElem?_cons_zero, Option.getD_some, Value.cells] at hS)) | (refine st_cstore hS 1 rfl _ _ _ rfl _ _ _ rfl rfl rfl (by first | (simp; done) | (simp; omega) | exact of_decide_eq_true (by kernel_rfl)) rfl (by first | rfl | assumption) (by kernel_rfl) ?_; clear hS; intro w_ hS; (try simp only [Act.put, Act.eval, List.set_cons_zero, List.set_cons_succ, List.setIfInBounds_toArray, Array.getD_eq_getD_getElem?, List.getElem?_toArray, List.getElem?_cons_succ, List.getElem?_cons_zero, Option.getD_some, Value.cells] at hS)) | (refine st_cstore hS 2 rfl _ _ _ rfl _ _ _ rfl rfl rfl (by first | (simp; done) | (simp; omega) | exact of_decide_eq_true (by kernel_rfl)) rfl (by first | rfl | assumption) (by kernel_rfl) ?_; clear hS; intro w_ hS; (try simp only [Act.put, Act.eval, List.set_cons_zero, List.set_cons_succ, List.setIfInBounds_toArray, Array.getD_eq_getD_getElem?, List.getElem?_toArray, List.getElem?_cons_succ, List.getElem?_cons_zero, Option.getD_some, Value.cells] at hS)) | (refine st_cstore hS 3 rfl _ _ _ rfl _ _ _ rfl rfl rfl (by first | (simp; done) | (simp; omega) | exact of_decide_eq_true (by kernel_rfl)) rfl (by first | rfl | assumption) (by kernel_rfl) ?_; clear hS; intro w_ hS; (try simp only [Act.put, Act.eval, List.set_cons_zero, List.set_cons_succ, List.setIfInBounds_toArray, Array.getD_eq_getD_getElem?, List.getElem?_toArray, List.getElem?_cons_succ, List.getElem?_cons_zero, Option.getD_some, Value.cells] at hS))))
              have hR1 : Rd w0 w_ (.box g9 55 #[.slice Ay ny cy, .slice Am nm cm] :: X) (fun D w => K D w ∧ (IsSet w D (.agg #[.slice Ay ny cy]) Y ∧ IsSet w D (.agg #[.slice Am nm cm]) N)) q (putSet Y ++ (putSet N ++ L9)) 0 :=
                ⟨HKs.out.and (stable_set.and stable_set), A9, c9, m1, m2, hS.swap.mono ((HKs.out.and (stable_set.and stable_set)).and stable_sl) fun D w h => ⟨⟨h.1.1, h.2.2⟩, h.1.2⟩⟩
              clear hS hc0_ hc1_
              refine (HS1.out _ _ _ hR1).mono ?_
              rw [HR1.out]
              rintro r_ w2 ⟨v1, rfl, hR2⟩
              clear hR1
              obtain ⟨-, A8, c8, n1, n2, hS⟩ := hR2
              obtain ⟨A1, c1, l1, rfl, -⟩ := hS.ro.1.2.parts
              go_wp2_with (first
                | ((with_reducible show wpList _ _ _ (⟨_, .build _ _, _, _, _, _⟩ :: _) _ _); refine wpList_build_of rfl _ _ rfl #[.slice A1 l1.length c1, .slice none 0 0] (by kernel_rfl) ?_)
                | ((with_reducible show wpList _ _ _ (⟨some 10, _, _, _, _, _⟩ :: _) _ _); refine st_allocz hS rfl _ rfl (by kernel_rfl) #[.slice none 0 0, .slice none 0 0] (by kernel_rfl) ?_; clear hS; intro g10 w_ hS; (try simp only [Act.put, Act.eval, List.set_cons_zero, List.set_cons_succ, List.setIfInBounds_toArray, Array.getD_eq_getD_getElem?, List.getElem?_toArray, List.getElem?_cons_succ, List.getElem?_cons_zero, Option.getD_some, Value.cells] at hS))
                | ((with_reducible show wpList _ _ _ (⟨_, .store _ _ _, _, _, _, _⟩ :: _) _ _); first | (refine st_store hS 0 rfl _ _ _ rfl _ _ rfl rfl _ _ rfl (by kernel_rfl) (by kernel_rfl) (by kernel_rfl) ?_; clear hS; intro w_ hS; (try simp only [Act.put, Act.eval, List.set_cons_zero, List.set_cons_succ, List.setIfInBounds_toArray, Array.getD_eq_getD_getElem?, List.getElem?_toArray, List.getElem?_cons_succ, List.getElem?_cons_zero, Option.getD_some, Value.cells] at hS)) | (refine st_store hS 1 rfl _ _ _ rfl _ _ rfl rfl _ _ rfl (by kernel_rfl) (by kernel_rfl) (by kernel_rfl) ?_; clear hS; intro w_ hS; (try simp only [Act.put, Act.eval, List.set_cons_zero, List.set_cons_succ, List.setIfInBounds_toArray, Array.getD_eq_getD_getElem?, List.getElem?_toArray, List.getElem?_cons_succ, List.getElem?_cons_zero, Option.getD_some, Value.cells] at hS)) | (refine st_store hS 2 rfl _ _ _ rfl _ _ rfl rfl _ _ rfl (by kernel_rfl) (by kernel_rfl) (by kernel_rfl) ?_; clear hS; intro w_ hS; (try simp only [Act.put, Act.eval, List.set_cons_zero, List.set_cons_succ, List.setIfInBounds_toArray, Array.getD_eq_getD_getElem?, List.getElem?_toArray, List.getElem?_cons_succ, List.getElem?_cons_zero, Option.getD_some, Value.cells] at hS)) | (refine st_store hS 3 rfl _ _ _ rfl _ _ rfl rfl _ _ rfl (by kernel_rfl) (by kernel_rfl) (by kernel_rfl) ?_; clear hS; intro w_ hS; (try simp only [Act.put, Act.eval, List.set_cons_zero, List.set_cons_succ, List.setIfInBounds_toArray, Array.getD_eq_getD_getElem?, List.getElem?_toArray, List.getElem?_cons_succ, List.getElem?_cons_zero, Option.getD_some, Value.cells] at hS)) | (refine st_cstore hS 0 rfl _ _ _ rfl _ _ _ rfl rfl rfl (by first | (simp; done) | (simp; omega) | exact of_decide_eq_true (by kernel_rfl)) rfl (by first | rfl | assumption) (by kernel_rfl) ?_; clear hS; intro w_ hS; (try simp only [Act.put, Act.eval, List.set_cons_zero, List.set_cons_succ, List.setIfInBounds_toArray, Array.getD_eq_getD_getElem?, List.getElem?_toArray, List.getElem?_cons_succ, List.getElem?_cons_zero, Option.getD_some, Value.cells] at hS)) | (refine st_cstore hS 1 rfl _ _ _ rfl _ _ _ rfl rfl rfl (by first | (simp; done) | (simp; omega) | exact of_decide_eq_true (by kernel_rfl)) rfl (by first | rfl | assumption) (by kernel_rfl) ?_; clear hS; intro w_ hS; (try simp only [Act.put, Act.eval, List.set_cons_zero, List.set_cons_succ, List.setIfInBounds_toArray, Array.getD_eq_getD_getElem?, List.getElem?_toArray, List.getElem?_cons_succ, List.getElem?_cons_zero, Option.getD_some, Value.cells] at hS)) | (refine st_cstore hS 2 rfl _ _ _ rfl _ _ _ rfl rfl rfl (by first | (simp; done) | (simp; omega) | exact of_decide_eq_true (by kernel_rfl)) rfl (by first | rfl | assumption) (by kernel_rfl) ?_; clear hS; intro w_ hS; (try simp only [Act.put, Act.eval, List.set_cons_zero, List.set_cons_succ, List.setIfInBounds_toArray, Array.getD_eq_getD_getElem?, List.getElem?_toArray, List.getElem?_cons_succ, List.getElem?_cons_zero, Option.getD_some, Value.cells] at hS)) | (refine st_cstore hS 3 rfl _ _ _ rfl _ _ _ rfl rfl rfl (by first | (simp; done) | (simp; omega) | exact of_decide_eq_true (by kernel_rfl)) rfl (by first | rfl | assumption) (by kernel_rfl) ?_; clear hS; intro w_ hS; (try simp only [Act.put, Act.eval, List.set_cons_zero, List.set_cons_succ, List.setIfInBounds_toArray, Array.getD_eq_getD_getElem?, List.getElem?_toArray, List.getElem?_cons_succ, List.getElem?_cons_zero, Option.getD_some, Value.cells] at hS))))
              have hR3 : Rd w0 w_ (.box g10 55 #[.slice A1 l1.length c1, .slice none 0 0] :: .box g9 55 #[.slice Ay ny cy, .slice Am nm cm] :: X) (fun D w => (K D w ∧ (IsSet w D (.agg #[.slice Ay ny cy]) Y ∧ IsSet w D (.agg #[.slice Am nm cm]) N)) ∧ IsSet w D (.agg #[.slice A1 l1.length c1]) Y) q (putSet N ++ L9) 0 :=
                ⟨(HKs.out.and (stable_set.and stable_set)).and stable_set, A8, c8, n1, n2, hS.swap⟩
              clear hS
              refine (HS2.out _ _ _ hR3).mono ?_
              rw [HR2.out]
              rintro r_ w3 ⟨v2, rfl, hR4⟩
              clear hR3
              obtain ⟨-, A7, c7, o1, o2, hS⟩ := hR4
              obtain ⟨A2', c2, l2, rfl, -⟩ := hS.ro.1.2.parts
              have hbe : ((Y, N) == (Y, N)) = true := by simp
              go_wp2_with (first
                | ((with_reducible show wpList _ _ _ (⟨none, .store 53 _ _, _, _, _, _⟩ :: _) _ _); refine st_gstore hS 1 rfl _ _ _ rfl g10 1 _ rfl rfl rfl (by simp) rfl (by kernel_rfl) ?_; clear hS; intro w_ hS; (try simp only [Act.put, Act.eval, List.set_cons_zero, List.set_cons_succ, List.setIfInBounds_toArray, Array.getD_eq_getD_getElem?, List.getElem?_toArray, List.getElem?_cons_succ, List.getElem?_cons_zero, Option.getD_some, Value.cells] at hS))
                | ((with_reducible show wpList _ _ _ (⟨_, .load _ _, _, _, _, _⟩ :: _) _ _); first | refine st_load hS 0 rfl _ _ rfl _ rfl _ _ rfl _ Tryd.underlying55 rfl (by kernel_rfl) ?_ | refine st_load hS 1 rfl _ _ rfl _ rfl _ _ rfl _ Tryd.underlying55 rfl (by kernel_rfl) ?_ | refine st_load hS 2 rfl _ _ rfl _ rfl _ _ rfl _ Tryd.underlying55 rfl (by kernel_rfl) ?_ | refine st_load hS 3 rfl _ _ rfl _ rfl _ _ rfl _ Tryd.underlying55 rfl (by kernel_rfl) ?_)
                | (go_at_call 22; refine (cube_equal_any _ _ (Y, N) (Y, N) _ _ _ ⟨_, _, rfl, hS.ro.1.1.1.2.1, hS.ro.1.1.1.2.2⟩ ⟨_, _, rfl, hS.ro.1.1.2, hS.ro.1.2⟩).mono ?_; rw [hbe]; rintro r_ w_ ⟨_, rfl, rfl, hb_⟩; replace hS := hS.ext hb_; clear hb_))
              have hR5 : Rd w0 w_ X K q L9 0 := ⟨HKs.out, A7, c7, o1, o2, (hS.sub (.cons_cons _ (.cons _ (.cons _ (.refl _))))).mono (HKs.out.and stable_sl) fun D w h => ⟨h.1.1.1.1, h.2⟩⟩
              rw [← HL9.out] at hR5
              exact ⟨⟨k + 1, hlt, by go_num, hR5⟩, by simp [intOf]; omega⟩
            · obtain rfl : k = c.cubes.length := by omega
              rw [List.drop_length, List.flatMap_nil] at hR
              go_wp2_with (go_at_call 23; refine (rend_any hR).mono ?_; rw [show endE ([] : List Nat) 0 = 0 from rfl]; rintro r_ w_ ⟨rfl, rfl⟩)
              obtain ⟨_, _, _, _, _, hS⟩ := hR
              go_ret
              exact Ret.mk rfl hS.below
end Go.Proofs.YtenpkgdnlogfiaaDoor
