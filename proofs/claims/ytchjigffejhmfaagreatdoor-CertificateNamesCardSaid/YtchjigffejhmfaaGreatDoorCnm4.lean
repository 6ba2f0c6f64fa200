/-
  What the statement needs, part 4.
-/
import Derived.Lib.BufferRead
import Derived.Lib.MinMax
import Derived.Laws.BitsAllLaws
import Derived.Test.YtchjigffejhmfaaGreatDoorCnm3
namespace Go.Proofs.YtchjigffejhmfaaGreatDoor
section
open Go.RowKit
attribute [local go_sem ↓] Go.wp_at_zero Go.wp_at_succ
set_option maxRecDepth 20000
theorem Gm (b : Bool) : AK (BB b) := by
 intro x hx
 unfold BB at hx
 split at hx <;> simp at hx <;> omega
theorem EZ (N : Nat) : AK (B9 N) := (Bx _).append (setBytes_byte N)
theorem Dy {α : Type} {f : α -> List Nat} (h : ∀ z, AK (f z)) (l : List α) : AK (l.flatMap f) := by
 intro x hx
 obtain ⟨z, _, hz⟩ := List.mem_flatMap.1 hx
 exact h z x hz
theorem Gn (y n : Nat) : AK (Ba y n) := by
 unfold Ba
 exact (EZ y).append (EZ n)
theorem E1 (l : List (Nat × Nat)) : AK (AQ l) := by
 unfold AQ
 exact (Bx _).append (Dy (f := fun z : Nat × Nat => Ba z.1 z.2) (fun z => Gn z.1 z.2) l)
theorem Ff {c : Dn} (h : AK c.prob) : AK (AE c) := by
 unfold AE
 split
 ·exact h.append ((Gm _).append ((Bx _).append ((Dy (fun k => Bx _) _).append (E1 _))))
 ·intro x hx; simp at hx
theorem bytesC_len {c : Dn} (h : ∀ z ∈ c.cubes, z.1 < 2 ^ 4096 /\ z.2 < 2 ^ 4096) (hp : c.prob.length = 32) : (AE c).length <= 4000000 := by
 unfold AE
 split
 ·rename_i hc
  have h0 := plan_ok hc
  have h1 := EO c.cubes h
  have h2 := Aw c.cubes.length
  have h3 := Aw c.plan.length
  have h4 := JZ c.plan
  have h5 : (BB c.reach).length = 1 := by unfold BB; split <;> rfl
  simp only [AQ, List.length_append]
  omega
 ·simp
def Gb : ByteArray := { data := #[99, 101, 114, 116, 105, 102, 105, 99, 97, 116, 101] }
def idC (c : Dn) : List Nat := if BQ c = 0 then CU (EU Gb (AE c)) else List.replicate 32 0
theorem idC_len (c : Dn) : (idC c).length = 32 := by unfold idC; split <;> simp [CU, H6]
theorem cid_any (v : Value) (c : Dn) (w : World) (D : Nat -> Prop) (hT : GM w) (hv : C5 w D v c) :
  Calls Tryz.prog 99 #[v] w (Ax (fun x _ => x = .agg (Aa (idC c)).toArray) w) := by
 obtain ⟨cs, pv, qv, rfl, hsz, hl32, hby, _, _, _, _, _, hq⟩ := id hv
 have hbl := bytesC_len hq.bound hl32
 have hbb := Ff hby
 have hbox := (AW.new w 96 cs).alloc (.cells (Aa (List.replicate 32 0)).toArray 87)
 have hb0 : Below w.heap.size w ((w.alloc (.cells cs 96)).alloc (.cells (Aa (List.replicate 32 0)).toArray 87)) := ((Below.refl _ _).alloc (Nat.le_refl _) _).alloc (by simp) _
 have hr0 : AW ((w.alloc (.cells cs 96)).alloc (.cells (Aa (List.replicate 32 0)).toArray 87)) (w.heap.size + 1) 87 (Aa (List.replicate 32 0)).toArray := by
  have := AW.new (w.alloc (.cells cs 96)) 87 (Aa (List.replicate 32 0)).toArray
  rw [World.size_alloc] at this
  exact this
 have hv1 := (hv.imp (D' := (· < w.heap.size)) fun b _ h => h).ext hb0
 have hi35 : (Tryz.prog.info? 96).map (·.size) = some cs.size := by rw [hsz]; kernel_rfl
 have hi32 : (Tryz.prog.info? 87).map (·.size) = some (Aa (idC c)).toArray.size := by rw [List.size_toArray, Ae, idC_len]; kernel_rfl
 have hone : (Aa (idC c)).toArray.all (·.oneCell') = true := all_oneCell_toArray (B6 _)
 have hold : (Aa (List.replicate 32 0)).toArray.size = (Aa (idC c)).toArray.size := by rw [List.size_toArray, List.size_toArray, Ae, Ae, idC_len, List.length_replicate]
 have HI := Lib.hid hi35
 have HI2 := Lib.hid hi32
 have HON := Lib.hid hone
 have HOL := Lib.hid hold
 have HX := Lib.hid hbox
 clear hi35 hi32 hone hold hbox hsz hl32 hby hq hv
 go_enter Tryz.func99, Tryz.ntmps99
 go_wp2_with ((with_reducible refine qA 3 ?_); refine wpList_load_row rfl 96 _ rfl w.heap.size rfl 96 cs (0, 0) _ HX.out Tryz.underlying96 rfl HI.out ?_)
 change Calls _ _ _ ((w.alloc (.cells cs 96)).alloc (.cells (Aa (List.replicate 32 0)).toArray 87)) _
 generalize (w.alloc (.cells cs 96)).alloc (.cells (Aa (List.replicate 32 0)).toArray 87) = W1 at *
 refine (IJ _ c _ _ hv1).mono ?_
 rintro e w1 ⟨_, rfl, rfl, hb1⟩
 have hX1 := HX.out.ext hb1
 have hr1 := hr0.ext hb1
 have hv2 := hv1.ext hb1
 have hB1 := hb0.trans (hb1.mono hb0.size)
 have HX1 := Lib.hid hX1
 clear hX1 hr0 hv1 HX hb1 hb0
 by_cases hc : BQ c = 0
 ·have heq : (BQ c != 0) = false := by simpa using hc
  have HE := Lib.hid (show idC c = CU (EU Gb (AE c)) by rw [idC, if_pos hc])
  clear hc
  go_wp2_with ((with_reducible refine qA 7 ?_); refine wpList_load_row rfl 96 _ rfl w.heap.size rfl 96 cs (0, 0) _ HX1.out Tryz.underlying96 rfl HI.out ?_)
  refine (Fe _ c _ _ hv2).mono ?_
  rintro e w2 ⟨v2, rfl, hs2, hb2⟩
  have hr2 := hr1.ext hb2
  have hB2 := hB1.trans (hb2.mono hB1.size)
  have hT2 := hT.ext hB2
  obtain ⟨A2, c2, rfl, _, _⟩ := hs2.shape
  have hB3 := hB2.alloc (by have := hB2.size; omega) (.cells #[.slice A2 (AE c).length c2] 22)
  have hpv := (Sl.new w2 22 [.slice A2 (AE c).length c2] (by simp)).imp (D' := fun _ => True) fun _ _ _ => trivial
  have hs3 := (hs2.alloc (.cells #[.slice A2 (AE c).length c2] 22)).imp (D' := fun _ => True) fun _ _ _ => trivial
  have hr3 := hr2.alloc (.cells #[.slice A2 (AE c).length c2] 22)
  have hT3 := hT.ext hB3
  have HPV := Lib.hid hpv
  have HS3 := Lib.hid hs3
  clear hpv hs3 hr2 hs2 hr1
  go_wp2_with fail
  refine (Gx Gb _ _ (AE c) _ _ hT3 HPV.out HS3.out hbb (by decide) (by omega)).mono ?_
  rintro e w4 ⟨v4, rfl, rfl, hb4⟩
  rw [<- HE.out]
  have HR4 := Lib.hid (hr3.ext hb4)
  have hB5 := hB3.trans (hb4.mono hB3.size)
  clear hr3
  go_wp2_with ((with_reducible show wpList _ _ _ (⟨none, .store 87 _ _, _, _, _, _⟩ :: _) _ _); refine wpList_store_row rfl 87 _ _ rfl (w.heap.size + 1) (Aa (idC c)).toArray rfl rfl 87 (Aa (List.replicate 32 0)).toArray HR4.out HI2.out HOL.out HON.out ?_)
  refine bodyPost_ret (v := .agg (Aa (idC c)).toArray) (by exact results_cell_row rfl _ _ (w.heap.size + 1) 87 _ (0, 0) _ rfl (setRow_heap _ _ _ _ _ _ HR4.out) Tryz.underlying87 rfl HI2.out) rfl ?_
  exact Ax.mk rfl (below_setRow hB5 (by omega) _)
 ·have hne : (BQ c != 0) = true := by simpa using hc
  have HE := Lib.hid (show idC c = List.replicate 32 0 by rw [idC, if_neg hc])
  have HI2' := HI2.out
  have HON' := HON.out
  rw [HE.out] at HI2' HON'
  have HIZ := Lib.hid HI2'
  have HOZ := Lib.hid HON'
  have HR1 := Lib.hid hr1
  clear hc HI2' HON' hr1
  go_wp2_with ((with_reducible show wpList _ _ _ (⟨none, .store 87 _ _, _, _, _, _⟩ :: _) _ _); refine wpList_store_row rfl 87 _ _ rfl (w.heap.size + 1) (Aa (List.replicate 32 0)).toArray rfl rfl 87 (Aa (List.replicate 32 0)).toArray HR1.out HIZ.out rfl HOZ.out ?_)
  refine bodyPost_ret (v := .agg (Aa (List.replicate 32 0)).toArray) (by exact results_cell_row rfl _ _ (w.heap.size + 1) 87 _ (0, 0) _ rfl (setRow_heap _ _ _ _ _ _ HR1.out) Tryz.underlying87 rfl HIZ.out) rfl ?_
  exact Ax.mk (by rw [HE.out]) (below_setRow hB1 (by omega) _)
end
section
open Go.RowKit
attribute [local go_sem ↓] Go.wp_at_zero Go.wp_at_succ
set_option maxRecDepth 20000
def Fk (l : List Nat) : ByteArray := ⟨(l.map UInt8.ofNat).toArray⟩
theorem strOf_size (l : List Nat) : (Fk l).size = l.length := by simp [Fk, ByteArray.size]
theorem conv_sl {w : World} {D : Nat -> Prop} {v : Value} {l : List Nat} (h : Sl w D 1 v l.length (Aa l)) (hb : AK l) :
  (convert 22 9 v).run Tryz.prog w = .ok (.string (Fk l)) w := by
 obtain ⟨_, A, c, rfl, h1, h2, h3⟩ := h
 rcases Nat.eq_zero_or_pos l.length with h0 | h0
 ·have hl : l = [] := List.eq_nil_of_length_eq_zero h0
  subst hl
  show (convert 22 9 (.slice A 0 c)).run Tryz.prog w = .ok (.string ⟨#[]⟩) w
  cases A with
  | none => exact Lib.run_convert_nil_bytes w _ _ 5 c Tryz.underlying22 Tryz.underlying5 Tryz.underlying9
  | some a => exact run_convert_bytes_back w _ _ 5 a c [] Tryz.underlying22 Tryz.underlying5 Tryz.underlying9 (fun j hj => absurd hj (by simp))
 ·obtain ⟨b, o, rfl, _, _, hc⟩ := h3 h0
  have := run_convert_bytes_back (P := Tryz.prog) w 22 9 5 ⟨b, o, none⟩ c (l.map UInt8.ofNat) Tryz.underlying22 Tryz.underlying5 Tryz.underlying9 (fun j hj => by
   have hj' : j < l.length := by simpa using hj
   have hadd : (⟨b, o, none⟩ : Addr).add j = ⟨b, o + j, none⟩ := by unfold Addr.add; split <;> simp_all
   rw [hadd, hc j _ (CZ l j hj')]
   have h4 := hb (l[j]) (List.getElem_mem hj')
   simp [List.getD_eq_getElem?_getD, List.getElem?_eq_getElem hj']
   rw [Int.emod_eq_of_lt (by omega) (by omega)])
  rw [List.length_map] at this
  exact this
theorem C5.of {w : World} {D : Nat -> Prop} {prob : List Nat} {r : Bool} {pv qv : Value} {plan : List Int} {cubes : List (Nat × Nat)} (h1 : prob.length = 32) (h2 : AK prob) (hp : Sl w D 1 pv plan.length (Bm plan)) (hq : Ab w D qv cubes) :
  C5 w D (.agg (Aa prob ++ [.bool r, pv, qv]).toArray) ⟨prob, r, plan, cubes⟩ := by
 have hl : (Aa prob).length = 32 := by rw [Ae, h1]
 refine ⟨_, pv, qv, rfl, by simp [hl], h1, h2, fun i hi => ?_, ?_, ?_, ?_, hp, hq⟩
 ·rw [List.getElem?_toArray, List.getElem?_append_left (by omega)]; exact CZ _ _ (by omega)
 ·rw [List.getElem?_toArray, List.getElem?_append_right (by omega), hl]; rfl
 ·rw [List.getElem?_toArray, List.getElem?_append_right (by omega), hl]; rfl
 ·rw [List.getElem?_toArray, List.getElem?_append_right (by omega), hl]; rfl
def G6 : Dn := ⟨List.replicate 32 0, true, [2, 0], []⟩
def exB : Dn := ⟨List.replicate 32 0, false, [], [(2, 8)]⟩
theorem exA_bytes : Fk (AE G6) = Fk (List.replicate 32 0) ++ { data := #[1, 2, 2, 0, 0] } := by decide
theorem exB_bytes : Fk (AE exB) = Fk (List.replicate 32 0) ++ { data := #[0, 0, 1, 1, 2, 1, 8] } := by decide
theorem exA_id : idC G6 = CU (EU Gb (AE G6)) := by rw [idC, if_pos (by decide)]
theorem exA_len : (AE G6).length <= 100 := by decide
theorem Dz (n : Nat) : AK (List.replicate n 0) := by intro x hx; rw [List.eq_of_mem_replicate hx]; omega
theorem exA_by : AK (AE G6) := Ff (Dz 32)
theorem exB_by : AK (AE exB) := Ff (Dz 32)
end
section
open Go.RowKit
attribute [local go_sem ↓] Go.wp_at_zero Go.wp_at_succ
set_option maxRecDepth 20000
theorem C5.cc {w : World} {D : Nat -> Prop} {v : Value} {c : Dn} (h : C5 w D v c) : ∃ pv qv, v = .agg (cc c.prob c.reach pv qv) /\ c.prob.length = 32 /\ AK c.prob /\ Sl w D 1 pv c.plan.length (Bm c.plan) /\ Ab w D qv c.cubes := by
 obtain ⟨cs, pv, qv, h1, h2, h3, h4, h5, h6, h7, h8, h9, h10⟩ := h
 refine ⟨pv, qv, ?_, h3, h4, h9, h10⟩
 rw [h1]
 congr 1
 have ha := cc_at c.prob c.reach pv qv h3
 apply Array.ext_getElem?
 intro i
 rcases Nat.lt_or_ge i 32 with hi | hi
 ·rw [h5 i hi]
  simp only [Go.Proofs.YtchjigffejhmfaaGreatDoor.cc, List.getElem?_toArray]
  rw [List.getElem?_append_left (by simp [Aa]; omega)]
  exact (CZ _ _ (by omega)).symm
 ·rcases Nat.lt_or_ge i 35 with hi2 | hi2
  ·have : i = 32 \/ i = 33 \/ i = 34 := by omega
   rcases this with rfl | rfl | rfl
   ·rw [h6, ha.1]
   ·rw [h7, ha.2.1]
   ·rw [h8, ha.2.2]
  ·rw [Array.getElem?_eq_none (by omega), Array.getElem?_eq_none (by rw [cc_size _ _ _ _ h3]; omega)]
end
section
open Go.RowKit
attribute [local go_sem ↓] Go.wp_at_zero Go.wp_at_succ
set_option maxRecDepth 20000
theorem rempty_any (y n : Nat) (w0 : World) (hy : y < AA) (hn : n < AA) :
  Calls Tryz.prog 58 #[.agg #[.int .u64 (y : Nat), .int .u64 (n : Nat)]] w0 (Ax (fun x _ => x = .bool (y &&& n != 0)) w0) := by
 have h0 := Gt hy hn
 have hS := St.start0 (w := w0)
 go_enter Tryz.func58, Tryz.ntmps58
 go_wp2_with (first | ((with_reducible refine qA 1 ?_); refine AH hS rfl _ _ rfl _ _ rfl rfl ?_; clear hS; intro g w_ hS; (try simp only [Act.put, Act.eval, zz, Value.cells] at hS)) | ((with_reducible refine qK ?_); refine qC hS ?_) | ((with_reducible refine qB ?_); refine qc ?_ ?_ <;> intro h_ <;> go_prune))
 ·go_ret
  exact Ax.mk (by simp; omega) hS.below
 ·go_ret
  exact Ax.mk (by simp; omega) hS.below
end
section
open Go.RowKit
attribute [local go_sem ↓] Go.wp_at_zero Go.wp_at_succ
set_option maxRecDepth 20000
theorem Ke {P : Program} {o : Oper} {a : Act} {w : World} {K : Act -> World -> Prop} {Q : Exit -> Act -> World -> Prop} {t : TypeId} {x : Operand} {g j : Nat} {ty : TypeId} {cs : Array Value} {x' : Value} {d : TypeDesc} (ho : o.op = .load t x) (hx : a.eval x = .pointer (some ⟨g, j, none⟩)) (hb : AW w g ty cs) (hx' : cs[j]? = some x')
  (hu : P.underlying t = some d) (hd : d.isRow = true) (hi : (P.info? t).map (·.size) = some 1) (hk : K (a.put o.dst (.agg #[x'])) w) : o.wp P a w K Q :=
 Bb (cs := [x']) ho hx (fun i v hi => by
  cases i with
  | zero => simp at hi; subst hi; rw [Nat.add_zero, hb.cell]; exact hx'
  | succ i => simp at hi) hu hd hi hk
theorem CL {v : Value} {z : Nat × Nat} : AF fun D w => Bi w D v z := fun D D' w w' h a b c => by
 obtain ⟨x, y, h1, h2, h3⟩ := h
 exact ⟨x, y, h1, Ah D D' w w' h2 a b c, Ah D D' w w' h3 a b c⟩
end
section
open Go.RowKit
attribute [local go_sem ↓] Go.wp_at_zero Go.wp_at_succ
set_option maxRecDepth 20000
set_option exponentiation.threshold 5000
section
variable {P : Program} {ops : Array Oper} {rest : List Oper} {o : Oper} {a : Act} {w : World} {Q : Exit -> Act -> World -> Prop}
end
theorem Gi.ins {L : List (Nat × Nat)} (h : Gi L) {x y : Nat} (hx : 1 <= x /\ x < 64) (hy : 1 <= y /\ y < 64) (hne : x ≠ y) (hm : (x, y) ∉ L) (ht : ¬ TC L y x) : Gi (ins L (x, y)) := by
 refine ⟨ins_asc h.asc hm, fun z hz => ?_, (acyc_ins h.acyc fun z => Jv).2 ?_⟩
 ·rcases Jv.1 hz with rfl | hz
  ·exact ⟨hx, hy⟩
  ·exact h.role z hz
 ·rintro (e | e)
  ·exact hne e.symm
  ·exact ht e
end
section
open Go.RowKit
attribute [local go_sem ↓] Go.wp_at_zero Go.wp_at_succ
set_option maxRecDepth 20000
set_option exponentiation.threshold 5000
theorem run_and64 {P : Program} {w : World} {t : TypeId} {x y : Nat} (hx : x < AA) (hy : y < AA) : (binOp .and t (.int .u64 (x : Nat)) (.int .u64 (y : Nat))).run P w = .ok (.int .u64 ((x &&& y : Nat) : Int)) w := by
 go_simp; rw [Gt hx hy]
end
section
open Go.RowKit
attribute [local go_sem ↓] Go.wp_at_zero Go.wp_at_succ
set_option maxRecDepth 20000
set_option exponentiation.threshold 5000
section
variable {P : Program} {ops : Array Oper} {rest : List Oper} {o : Oper} {a : Act} {w0 w : World} {F : List A7} {K : (Nat -> Prop) -> World -> Prop} {Kt : Act -> World -> Prop} {Q : Exit -> Act -> World -> Prop}
theorem DT {x : Operand} {f : FuncId} {first caps : Array Value} {xs : Array Operand} {ts : Array TypeId} {vs : List Value} {R : Ending -> World -> Prop} (ho : o.op = .call { callee := .value x, args := xs, argTypes := ts }) (hx : a.eval x = .func (.func f) first caps) (hc : C4 P f = true) (hv : first.toList ++ xs.toList.map a.eval ++ caps.toList = vs)
  (h : Calls P f vs.toArray w R) (hk : ∀ e w', R e w' -> ∃ v, e = .returned v /\ Kt (a.put o.dst v) w') : o.wp P a w Kt Q := by
 have he : execOp a.eval o = callFunc f vs.toArray := by
  cases o with
  | mk dst op ty pos after guard =>
   simp only at ho
   subst ho
   have e1 : vs.toArray = first ++ xs.map a.eval ++ caps := by rw [<- hv]; simp
   rw [e1]
   simp [execOp, resolve, hx, Deferred.ofValue, invoke]
 unfold Oper.wp
 rw [he, Hh f vs.toArray hc]
 refine h.mono fun e w' hR => ?_
 obtain ⟨v, rfl, hk⟩ := hk e w' hR
 exact hk
theorem B7 (h : St w0 w F K) (i : Nat) (hg : Region.wanted o (yielded ops a.tmps) = true) (x : Operand) (ty : TypeId) (ho : o.op = .load ty x) (g j : Nat) (hx : a.eval x = .pointer (some ⟨g, j, none⟩)) (t : TypeId) (cs : Array Value) (hb : F[i]? = some (.box g t cs)) (v : Value) (hv : cs[j]? = some v)
  {d : TypeDesc} (hu : P.underlying ty = some d) (hd : d.isRow = true) (hi : (P.info? ty).map (·.size) = some 1) (hk : wpList P ops Q rest (a.put o.dst (.agg #[v])) w) : wpList P ops Q (o :: rest) a w :=
 BigFrame.wpList_want hg fun _ hK => Ke ho hx (h.box i hb) hv hu hd hi (hK _ _ hk)
theorem EE (h : St w0 w F K) (i : Nat) (hg : Region.wanted o (yielded ops a.tmps) = true) (x : Operand) (ty : TypeId) (ho : o.op = .load ty x) (g j : Nat) (hx : a.eval x = .pointer (some ⟨g, j, none⟩)) (t : TypeId) (cs : Array Value) (hb : F[i]? = some (.box g t cs)) (v u : Value) (hv : cs[j]? = some v) (hv2 : cs[j + 1]? = some u)
  {d : TypeDesc} (hu : P.underlying ty = some d) (hd : d.isRow = true) (hi : (P.info? ty).map (·.size) = some 2) (hk : wpList P ops Q rest (a.put o.dst (.agg #[v, u])) w) : wpList P ops Q (o :: rest) a w :=
 BigFrame.wpList_want hg fun _ hK => Bb (cs := [v, u]) ho hx (fun k z hz => by
  have hbx := h.box i hb
  match k, hz with
  | 0, hz => obtain rfl := Option.some.inj (show some _ = some z from hz); rw [Nat.add_zero, hbx.cell]; exact hv
  | 1, hz => obtain rfl := Option.some.inj (show some _ = some z from hz); rw [hbx.cell]; exact hv2
  | k + 2, hz => simp at hz) hu hd hi (hK _ _ hk)
end
theorem rng2 {w : World} {g i : Nat} {a b : Value} (h0 : w.cell? ⟨g, i, none⟩ = some a) (h1 : w.cell? ⟨g, i + 1, none⟩ = some b) : w.rangeAt g i [a, b] := fun j v hj => by
 match j, hj with
 | 0, hj => obtain rfl := Option.some.inj (show some _ = some v from hj); exact h0
 | 1, hj => obtain rfl := Option.some.inj (show some _ = some v from hj); exact h1
 | j + 2, hj => simp at hj
theorem run_geB {P : Program} {w : World} {t : TypeId} {k : IntKind} {m n : Int} {b : Bool} (h : decide (m ≥ n) = b) : (binOp .geq t (.int k m) (.int k n)).run P w = .ok (.bool b) w := by
 rw [binOp_geq, <- h]; simp
def BZ (z : Nat × Nat) (N : Nat) : Bool := (z.1 &&& N == z.1) && !(z.2 &&& N != 0)
theorem holds_any {w0 : World} {D E : Nat -> Prop} {u v : Value} {z : Nat × Nat} {N : Nat} (hu : Bi w0 D u z) (hv : A5 w0 E v N) : Calls Tryz.prog 25 #[u, v] w0 (Ax (fun x _ => x = .bool (BZ z N)) w0) := by
 obtain ⟨a, b, rfl, ha, hb⟩ := hu
 obtain ⟨y, n⟩ := z
 dsimp only at ha hb
 obtain ⟨A, m, c, rfl⟩ := ha.shape
 obtain ⟨B, k, d, rfl⟩ := hb.shape
 obtain ⟨C, e, lw, rfl, -⟩ := hv.parts
 obtain ⟨l, hl⟩ : ∃ l, l = lw.length := ⟨_, rfl⟩
 rw [<- hl] at hv ⊢
 clear hl
 obtain ⟨K, ka, kb, kc, hS⟩ : ∃ K : (Nat -> Prop) -> World -> Prop, (∀ D w, K D w -> A5 w D (.agg #[.slice A m c]) y) /\ (∀ D w, K D w -> A5 w D (.agg #[.slice B k d]) n) /\ (∀ D w, K D w -> A5 w D (.agg #[.slice C l e]) N) /\ St w0 w0 [] K :=
  ⟨fun D w => (A5 w D (.agg #[.slice A m c]) y /\ A5 w D (.agg #[.slice B k d]) n) /\ A5 w D (.agg #[.slice C l e]) N, fun _ _ h => h.1.1, fun _ _ h => h.1.2, fun _ _ h => h.2, St.start (D := fun _ => True) ((Ah.and Ah).and Ah) ⟨⟨ha.imp fun _ _ _ => trivial, hb.imp fun _ _ _ => trivial⟩, hv.imp fun _ _ _ => trivial⟩⟩
 clear ha hb hv
 have HR := Lib.hid (show BZ (y, n) N = ((y &&& N == y) && !(n &&& N != 0)) from rfl)
 generalize BZ (y, n) N = R at *
 obtain ⟨b1, hb1⟩ : ∃ b1, b1 = (y &&& N == y) := ⟨_, rfl⟩
 have HB1 := Lib.hid hb1
 rw [<- hb1] at HR
 clear hb1
 go_enter Tryz.func25, Tryz.ntmps25
 cases b1
 all_goals
  go_wp2_with (first
   | ((with_reducible refine qA 2 ?_); refine AH hS rfl _ _ rfl (.agg #[.slice A m c, .slice B k d]) _ rfl rfl ?_; clear hS; intro g2 w_ hS; (try simp only [Act.put, Act.eval, zz, Value.cells] at hS))
   | ((with_reducible refine qA 3 ?_); refine AH hS rfl _ _ rfl (.agg #[.slice C l e]) _ rfl rfl ?_; clear hS; intro g3 w_ hS; (try simp only [Act.put, Act.eval, zz, Value.cells] at hS))
   | ((with_reducible refine qk 39 ?_); first | (refine B7 hS 0 rfl _ _ rfl _ _ rfl _ _ rfl _ (by first | rfl | assumption) Tryz.underlying39 rfl (by kernel_rfl) ?_) | (refine B7 hS 1 rfl _ _ rfl _ _ rfl _ _ rfl _ (by first | rfl | assumption) Tryz.underlying39 rfl (by kernel_rfl) ?_) | (refine B7 hS 2 rfl _ _ rfl _ _ rfl _ _ rfl _ (by first | rfl | assumption) Tryz.underlying39 rfl (by kernel_rfl) ?_) | (refine B7 hS 3 rfl _ _ rfl _ _ rfl _ _ rfl _ (by first | rfl | assumption) Tryz.underlying39 rfl (by kernel_rfl) ?_) | (refine B7 hS 4 rfl _ _ rfl _ _ rfl _ _ rfl _ (by first | rfl | assumption) Tryz.underlying39 rfl (by kernel_rfl) ?_) | (refine B7 hS 5 rfl _ _ rfl _ _ rfl _ _ rfl _ (by first | rfl | assumption) Tryz.underlying39 rfl (by kernel_rfl) ?_))
   | (go_at_call 71; refine (EQ _ _ y N _ _ _ (ka _ _ hS.ro) (kc _ _ hS.ro)).mono ?_; rintro r_ w_ ⟨_, rfl, rfl, hb_⟩; rw [<- HB1.out]; replace hS := hS.ext hb_; clear hb_)
   | (go_at_call 86; refine (meets_any _ _ n N _ _ _ (kb _ _ hS.ro) (kc _ _ hS.ro)).mono ?_; rintro r_ w_ ⟨_, rfl, rfl, hb_⟩; replace hS := hS.ext hb_; clear hb_))
  go_ret
  exact Ax.mk (by rw [HR.out]; rfl) hS.below
theorem idxc_any {w0 w : World} {F : List A7} {K : (Nat -> Prop) -> World -> Prop} (v : Value) (l : List (Nat × Nat)) (f : FuncId) (first caps : Array Value) (q : Nat × Nat -> Bool) (hcg : C4 Tryz.prog f = true) (hS : St w0 w F K) (kl : ∀ D w, K D w -> Ab w D v l)
  (hq : ∀ (x : Value) (z : Nat × Nat) (w : World), z ∈ l -> (∃ F', St w0 w (F' ++ F) fun D w => K D w /\ Bi w D x z) -> Calls Tryz.prog f (first.toList ++ [x] ++ caps.toList).toArray w (Ax (fun r _ => r = .bool (q z)) w)) :
  Calls Tryz.prog 138 #[v, .func (.func f) first caps] w fun e w' => ∃ k : Int, e = .returned (.int .i64 k) /\ decide (0 <= k) = l.any q /\ St w0 w' F K := by
 obtain ⟨A, c, rfl, _, hc2⟩ := (kl _ _ hS.ro).shape
 have KS := Lib.hid hS.stable
 have HQ := Lib.hid hq
 clear hq
 have HCG := Lib.hid hcg
 clear hcg
 go_enter Tryz.func138, Tryz.ntmps138
 go_wp2_with (first | ((with_reducible refine qB ?_); refine qc ?_ ?_ <;> intro h_ <;> go_prune))
 go_loopw [8] (fun i wr => ∃ k : Nat, k <= l.length /\ i = .int .i64 (k : Nat) /\ St w0 wr F K /\ Hid (∀ z ∈ l.take k, q z = false)) (fun i _ => l.length - (intOf i).toNat)
 case atStart => exact ⟨0, by omega, rfl, hS, Lib.hid (by simp)⟩
 case round =>
  clear hS
  obtain ⟨k, hk, rfl, hS, HZ⟩ := hrel
  by_cases hlt : k < l.length
  ·obtain ⟨b, o, y, n, rfl, _, hb, c0, c1, hy, hn⟩ := (kl _ _ hS.ro).at_ hlt
   obtain ⟨Ay, my, cy, rfl⟩ := hy.shape
   obtain ⟨An, mn, cn, rfl⟩ := hn.shape
   have HM : Hid (l.getD k (0, 0) ∈ l) := Lib.hid (by rw [List.getD_eq_getElem?_getD, List.getElem?_eq_getElem hlt]; exact List.getElem_mem hlt)
   have HZ2 : Hid (q (l.getD k (0, 0)) = false -> ∀ z ∈ l.take (k + 1), q z = false) := Lib.hid fun h z hz => by
    rw [List.take_add_one, List.mem_append] at hz
    rcases hz with hz | hz
    ·exact HZ.out z hz
    ·rw [List.getElem?_eq_getElem hlt] at hz
     rw [List.getD_eq_getElem?_getD, List.getElem?_eq_getElem hlt] at h
     have : z = l[k] := by simpa using hz
     rw [this]; exact h
   have HY : Hid (q (l.getD k (0, 0)) = true -> true = l.any q) := Lib.hid fun h => (List.any_eq_true.2 ⟨_, HM.out, h⟩).symm
   replace hS := hS.add (D := EA F) (CL (v := .agg #[.slice Ay my cy, .slice An mn cn]) (z := l.getD k (0, 0))) ⟨_, _, rfl, hy, hn⟩ fun _ h _ => h
   clear hy hn
   generalize l.getD k (0, 0) = z at *
   have HK := Lib.hid (HQ.out (.agg #[.slice Ay my cy, .slice An mn cn]) z wr HM.out ⟨[], hS⟩)
   obtain ⟨args, hargs⟩ : ∃ args, args = first.toList ++ [Value.agg #[.slice Ay my cy, .slice An mn cn]] ++ caps.toList := ⟨_, rfl⟩
   rw [<- hargs] at HK
   have HARG := Lib.hid hargs
   clear hargs
   go_wp2_with (first
    | ((with_reducible refine qA 15 ?_); refine BigFrame.wpList_want rfl fun _ hK => Bb (cs := [.slice Ay my cy, .slice An mn cn]) rfl rfl (rng2 c0 c1) Tryz.underlying56 rfl (by kernel_rfl) (hK _ _ ?_))
    | ((with_reducible refine qA 16 ?_); refine BigFrame.wpList_want rfl fun _ hK => DT (vs := args) rfl rfl HCG.out (by simp [Act.eval, Act.put, HARG.out]) HK.out fun e w' ⟨u_, he_, hu_, hb_⟩ => ⟨u_, he_, hK _ _ ?_⟩))
   ·go_ret
    exact ⟨_, rfl, (decide_eq_true (by omega)).trans (HY.out (by assumption)), (hS.ext hb_).mono KS.out fun _ _ h => h.1⟩
   ·exact ⟨⟨k + 1, hlt, by go_num, (hS.ext hb_).mono KS.out fun _ _ h => h.1, Lib.hid (HZ2.out (by assumption))⟩, by simp [intOf]; omega⟩
  ·obtain rfl : k = l.length := by omega
   have HN : Hid (false = l.any q) := Lib.hid (by
    have h := HZ.out
    rw [List.take_length] at h
    exact (List.any_eq_false.2 fun z hz => by rw [h z hz]; simp).symm)
   go_wp2_with (first | ((with_reducible refine qB ?_); refine qc ?_ ?_ <;> intro h_ <;> go_prune))
   go_ret
   exact ⟨_, rfl, (decide_eq_false (by omega)).trans HN.out, hS⟩
theorem Kw {w0 w : World} {F : List A7} {K : (Nat -> Prop) -> World -> Prop} (v : Value) (l : List (Nat × Nat)) (f : FuncId) (first caps : Array Value) (q : Nat × Nat -> Bool) (hcg : C4 Tryz.prog f = true) (hS : St w0 w F K) (kl : ∀ D w, K D w -> Ab w D v l)
  (hq : ∀ (x : Value) (z : Nat × Nat) (w : World), z ∈ l -> (∃ F', St w0 w (F' ++ F) fun D w => K D w /\ Bi w D x z) -> Calls Tryz.prog f (first.toList ++ [x] ++ caps.toList).toArray w (Ax (fun r _ => r = .bool (q z)) w)) :
  Calls Tryz.prog 64 #[v, .func (.func f) first caps] w fun e w' => e = .returned (.bool (l.any q)) /\ St w0 w' F K := by
 have HI := Lib.hid (idxc_any v l f first caps q hcg hS kl hq)
 clear hcg hS kl hq
 go_enter Tryz.func64, Tryz.ntmps64
 go_wp2_with fail
 refine HI.out.mono ?_
 rintro e w1 ⟨k, rfl, hk, hS⟩
 have HK := Lib.hid hk
 clear hk
 go_wp2_with (first | ((with_reducible refine qA 8 ?_); refine BigFrame.wpList_want rfl fun _ hK => Az (vx := .int .i64 k) (vy := .int .i64 0) (v := .bool (l.any q)) rfl rfl rfl rfl (run_geB ((decide_eq_decide.2 (by omega)).trans HK.out)) (hK _ _ ?_)))
 go_ret
 exact ⟨rfl, hS⟩
end
section
open Go.RowKit
attribute [local go_sem ↓] Go.wp_at_zero Go.wp_at_succ
set_option maxRecDepth 20000
set_option exponentiation.threshold 5000
theorem some1_any {w : World} {D E : Nat -> Prop} {x sv : Value} {z : Nat × Nat} {N g : Nat} (hx : Bi w D x z) (hb : CH w E g #[sv]) (hs : A5 w E (.agg #[sv]) N) : Calls Tryz.prog 85 #[x, .pointer (some ⟨g, 0, none⟩)] w (Ax (fun r _ => r = .bool (BZ z N)) w) := by
 obtain ⟨a, b, rfl, ha, hb1⟩ := hx
 obtain ⟨A, m, c, rfl⟩ := ha.shape
 obtain ⟨B, k, d, rfl⟩ := hb1.shape
 obtain ⟨C, l, e, rfl⟩ := hs.shape
 obtain ⟨K, ka, kb, kc, hS⟩ : ∃ K : (Nat -> Prop) -> World -> Prop, (∀ D w, K D w -> Bi w D (.agg #[.slice A m c, .slice B k d]) z) /\ (∀ D w, K D w -> CH w D g #[.slice C l e]) /\ (∀ D w, K D w -> A5 w D (.agg #[.slice C l e]) N) /\ St w w [] K :=
  ⟨fun D w => (Bi w D (.agg #[.slice A m c, .slice B k d]) z /\ CH w D g #[.slice C l e]) /\ A5 w D (.agg #[.slice C l e]) N, fun _ _ h => h.1.1, fun _ _ h => h.1.2, fun _ _ h => h.2, St.start (D := fun _ => True) ((CL.and Be).and Ah) ⟨⟨⟨_, _, rfl, ha.imp fun _ _ _ => trivial, hb1.imp fun _ _ _ => trivial⟩, Be E _ w w hb (Nat.le_refl _) (fun _ _ _ _ h => h) fun _ _ _ _ => trivial⟩, hs.imp fun _ _ _ => trivial⟩⟩
 clear ha hb1 hb hs
 go_enter Tryz.func85, Tryz.ntmps85
 go_wp2_with (first
  | ((with_reducible refine qA 2 ?_); refine AH hS rfl _ _ rfl (.agg #[.slice A m c, .slice B k d]) _ rfl rfl ?_; clear hS; intro g2 w_ hS; (try simp only [Act.put, Act.eval, zz, Value.cells] at hS))
  | ((with_reducible refine qK ?_); refine qL hS Tryz.underlying56 ?_)
  | ((with_reducible refine qk 39 ?_); refine BigFrame.wpList_want rfl fun _ hK => Bb (cs := [.slice C l e]) rfl rfl (rng1 ((kb _ _ hS.ro).cell 0 rfl)) Tryz.underlying39 rfl (by kernel_rfl) (hK _ _ ?_))
  | (go_at_call 25; refine (holds_any (ka _ _ hS.ro) (kc _ _ hS.ro)).mono ?_; rintro r_ w_ ⟨_, rfl, rfl, hb_⟩; replace hS := hS.ext hb_; clear hb_))
 go_ret
 exact Ax.mk rfl hS.below
theorem some_any {w0 : World} {D E : Nat -> Prop} {v u : Value} {l : List (Nat × Nat)} {N : Nat} (hv : Ab w0 D v l) (hu : A5 w0 E u N) : Calls Tryz.prog 23 #[v, u] w0 (Ax (fun r _ => r = .bool (l.any fun z => BZ z N)) w0) := by
 obtain ⟨A, c, rfl, _, _⟩ := hv.shape
 obtain ⟨C, e, lw, rfl, -⟩ := hu.parts
 obtain ⟨n, hn⟩ : ∃ n, n = lw.length := ⟨_, rfl⟩
 rw [<- hn] at hu ⊢
 clear hn
 obtain ⟨K, kl, ks, hS⟩ : ∃ K : (Nat -> Prop) -> World -> Prop, (∀ D w, K D w -> Ab w D (.slice A l.length c) l) /\ (∀ D w, K D w -> A5 w D (.agg #[.slice C n e]) N) /\ St w0 w0 [] K :=
  ⟨fun D w => Ab w D (.slice A l.length c) l /\ A5 w D (.agg #[.slice C n e]) N, fun _ _ h => h.1, fun _ _ h => h.2, St.start (D := fun _ => True) (AY.and Ah) ⟨hv.imp fun _ _ _ => trivial, hu.imp fun _ _ _ => trivial⟩⟩
 clear hv hu
 go_enter Tryz.func23, Tryz.ntmps23
 go_wp2_with (first
  | (((with_reducible refine qA 3 ?_); refine AH hS rfl _ _ rfl (.agg #[.slice C n e]) _ rfl rfl ?_; clear hS; intro g3 w_ hS; (try simp only [Act.put, Act.eval, zz, Value.cells] at hS)); replace hS := hS.sealB 0 (by simp) rfl)
  | (go_at_call 64; refine (Kw _ l 85 #[] #[.pointer (some ⟨g3, 0, none⟩)] (fun z => BZ z N) (by kernel_rfl) hS (fun D w h => kl D w h.1) fun x z w _ ⟨F', h⟩ => some1_any h.ro.2 h.ro.1.2 (ks _ _ h.ro.1.1)).mono ?_; clear hS; rintro e_ w_ ⟨rfl, hS⟩))
 go_ret
 exact Ax.mk rfl hS.below
structure B3 where
 revoke : Bool
 yes : Nat
 no : Nat
 target : Int
 origin : Int
def Bd : B3 := ⟨false, 0, 0, 0, 0⟩
def GL (w : World) (D : Nat -> Prop) (v : Value) (z : B3) : Prop := ∃ a b, v = .agg #[.bool z.revoke, a, b, .int .i64 z.target, .int .i64 z.origin] /\ A5 w D (.agg #[a]) z.yes /\ A5 w D (.agg #[b]) z.no
theorem IO {v : Value} {z : B3} : AF fun D w => GL w D v z := fun D D' w w' h a b c => by
 obtain ⟨x, y, h1, h2, h3⟩ := h
 exact ⟨x, y, h1, Ah D D' w w' h2 a b c, Ah D D' w w' h3 a b c⟩
def AB (w : World) (D : Nat -> Prop) (xs : List Value) (l : List B3) : Prop :=
 ∀ i z, l[i]? = some z -> ∃ a b, xs[i * 5]? = some (.bool z.revoke) /\ xs[i * 5 + 1]? = some a /\ xs[i * 5 + 2]? = some b /\ xs[i * 5 + 3]? = some (.int .i64 z.target) /\ xs[i * 5 + 4]? = some (.int .i64 z.origin) /\ A5 w D (.agg #[a]) z.yes /\ A5 w D (.agg #[b]) z.no
theorem BT {xs : List Value} {l : List B3} : AF fun D w => AB w D xs l := fun D D' w w' h a b c i z hi => by
 obtain ⟨x, y, h1, h2, h3, h4, h5, h6, h7⟩ := h i z hi
 exact ⟨x, y, h1, h2, h3, h4, h5, Ah D D' w w' h6 a b c, Ah D D' w w' h7 a b c⟩
def BI (w : World) (D : Nat -> Prop) (v : Value) (l : List B3) : Prop := ∃ xs : List Value, Sl w D 5 v l.length xs /\ AB w D xs l
theorem C9 {v : Value} {l : List B3} : AF fun D w => BI w D v l := fun D D' w w' h a b c => by
 obtain ⟨xs, h1, h2⟩ := h
 exact ⟨xs, Aj (by decide) D D' w w' h1 a b c, BT D D' w w' h2 a b c⟩
theorem BI.shape {w : World} {D : Nat -> Prop} {v : Value} {l : List B3} (h : BI w D v l) : ∃ A c, v = .slice A l.length c /\ l.length <= c /\ c <= 9223372036854775807 := by
 obtain ⟨xs, h, _⟩ := h
 exact h.shape
theorem BI.at_ {w : World} {D : Nat -> Prop} {l : List B3} {A : Option Addr} {n c : Nat} (h : BI w D (.slice A n c) l) {k : Nat} (hk : k < l.length) :
  ∃ b o y m, A = some ⟨b, o, none⟩ /\ D b /\ b < w.heap.size /\ w.cell? ⟨b, o + k * 5, none⟩ = some (.bool (l.getD k Bd).revoke) /\ w.cell? ⟨b, o + k * 5 + 1, none⟩ = some y /\ w.cell? ⟨b, o + k * 5 + 2, none⟩ = some m /\ w.cell? ⟨b, o + k * 5 + 3, none⟩ = some (.int .i64 (l.getD k Bd).target) /\ w.cell? ⟨b, o + k * 5 + 4, none⟩ = some (.int .i64 (l.getD k Bd).origin) /\ A5 w D (.agg #[y]) (l.getD k Bd).yes /\ A5 w D (.agg #[m]) (l.getD k Bd).no := by
 obtain ⟨xs, ⟨hl, A', c', h1, _, _, h2⟩, h3⟩ := h
 injection h1 with h1
 subst h1
 obtain ⟨b, o, rfl, hD, hb, hc⟩ := h2 (by omega)
 have e : l[k]? = some (l.getD k Bd) := by rw [List.getD_eq_getElem?_getD, List.getElem?_eq_getElem hk]; rfl
 obtain ⟨y, m, q0, q1, q2, q3, q4, q5, q6⟩ := h3 k _ e
 exact ⟨b, o, y, m, rfl, hD, hb, hc _ _ q0, hc _ _ q1, hc _ _ q2, hc _ _ q3, hc _ _ q4, q5, q6⟩
theorem Jg {w : World} {g i : Nat} {a b c d e : Value} (h0 : w.cell? ⟨g, i, none⟩ = some a) (h1 : w.cell? ⟨g, i + 1, none⟩ = some b) (h2 : w.cell? ⟨g, i + 2, none⟩ = some c) (h3 : w.cell? ⟨g, i + 3, none⟩ = some d) (h4 : w.cell? ⟨g, i + 4, none⟩ = some e) : w.rangeAt g i [a, b, c, d, e] := fun j v hj => by
 match j, hj with
 | 0, hj => obtain rfl := Option.some.inj (show some _ = some v from hj); exact h0
 | 1, hj => obtain rfl := Option.some.inj (show some _ = some v from hj); exact h1
 | 2, hj => obtain rfl := Option.some.inj (show some _ = some v from hj); exact h2
 | 3, hj => obtain rfl := Option.some.inj (show some _ = some v from hj); exact h3
 | 4, hj => obtain rfl := Option.some.inj (show some _ = some v from hj); exact h4
 | j + 5, hj => simp at hj
theorem idxr_any {w0 w : World} {F : List A7} {K : (Nat -> Prop) -> World -> Prop} (v : Value) (l : List (B3)) (f : FuncId) (first caps : Array Value) (q : B3 -> Bool) (hcg : C4 Tryz.prog f = true) (hS : St w0 w F K) (kl : ∀ D w, K D w -> BI w D v l)
  (hq : ∀ (x : Value) (z : B3) (w : World), z ∈ l -> (∃ F', St w0 w (F' ++ F) fun D w => K D w /\ GL w D x z) -> Calls Tryz.prog f (first.toList ++ [x] ++ caps.toList).toArray w (Ax (fun r _ => r = .bool (q z)) w)) :
  Calls Tryz.prog 189 #[v, .func (.func f) first caps] w fun e w' => ∃ k : Int, e = .returned (.int .i64 k) /\ decide (0 <= k) = l.any q /\ St w0 w' F K := by
 obtain ⟨A, c, rfl, _, hc2⟩ := (kl _ _ hS.ro).shape
 have KS := Lib.hid hS.stable
 have HQ := Lib.hid hq
 clear hq
 have HCG := Lib.hid hcg
 clear hcg
 go_enter Tryz.func189, Tryz.ntmps189
 go_wp2_with (first | ((with_reducible refine qB ?_); refine qc ?_ ?_ <;> intro h_ <;> go_prune))
 go_loopw [8] (fun i wr => ∃ k : Nat, k <= l.length /\ i = .int .i64 (k : Nat) /\ St w0 wr F K /\ Hid (∀ z ∈ l.take k, q z = false)) (fun i _ => l.length - (intOf i).toNat)
 case atStart => exact ⟨0, by omega, rfl, hS, Lib.hid (by simp)⟩
 case round =>
  clear hS
  obtain ⟨k, hk, rfl, hS, HZ⟩ := hrel
  by_cases hlt : k < l.length
  ·obtain ⟨b, o, y, n, rfl, _, hb, c0, c1, c2, c3, c4, hy, hn⟩ := (kl _ _ hS.ro).at_ hlt
   obtain ⟨Ay, my, cy, rfl⟩ := hy.shape
   obtain ⟨An, mn, cn, rfl⟩ := hn.shape
   have HM : Hid (l.getD k Bd ∈ l) := Lib.hid (by rw [List.getD_eq_getElem?_getD, List.getElem?_eq_getElem hlt]; exact List.getElem_mem hlt)
   have HZ2 : Hid (q (l.getD k Bd) = false -> ∀ z ∈ l.take (k + 1), q z = false) := Lib.hid fun h z hz => by
    rw [List.take_add_one, List.mem_append] at hz
    rcases hz with hz | hz
    ·exact HZ.out z hz
    ·rw [List.getElem?_eq_getElem hlt] at hz
     rw [List.getD_eq_getElem?_getD, List.getElem?_eq_getElem hlt] at h
     have : z = l[k] := by simpa using hz
     rw [this]; exact h
   have HY : Hid (q (l.getD k Bd) = true -> true = l.any q) := Lib.hid fun h => (List.any_eq_true.2 ⟨_, HM.out, h⟩).symm
   replace hS := hS.add (D := EA F) (IO (v := .agg #[.bool (l.getD k Bd).revoke, .slice Ay my cy, .slice An mn cn, .int .i64 (l.getD k Bd).target, .int .i64 (l.getD k Bd).origin]) (z := l.getD k Bd)) ⟨_, _, rfl, hy, hn⟩ fun _ h _ => h
   clear hy hn
   generalize l.getD k Bd = z at *
   have HK := Lib.hid (HQ.out (.agg #[.bool z.revoke, .slice Ay my cy, .slice An mn cn, .int .i64 z.target, .int .i64 z.origin]) z wr HM.out ⟨[], hS⟩)
   obtain ⟨args, hargs⟩ : ∃ args, args = first.toList ++ [Value.agg #[.bool z.revoke, .slice Ay my cy, .slice An mn cn, .int .i64 z.target, .int .i64 z.origin]] ++ caps.toList := ⟨_, rfl⟩
   rw [<- hargs] at HK
   have HARG := Lib.hid hargs
   clear hargs
   go_wp2_with (first
    | ((with_reducible refine qA 15 ?_); refine BigFrame.wpList_want rfl fun _ hK => Bb (cs := [.bool z.revoke, .slice Ay my cy, .slice An mn cn, .int .i64 z.target, .int .i64 z.origin]) rfl rfl (Jg c0 c1 c2 c3 c4) Tryz.underlying84 rfl (by kernel_rfl) (hK _ _ ?_))
    | ((with_reducible refine qA 16 ?_); refine BigFrame.wpList_want rfl fun _ hK => DT (vs := args) rfl rfl HCG.out (by simp [Act.eval, Act.put, HARG.out]) HK.out fun e w' ⟨u_, he_, hu_, hb_⟩ => ⟨u_, he_, hK _ _ ?_⟩))
   ·go_ret
    exact ⟨_, rfl, (decide_eq_true (by omega)).trans (HY.out (by assumption)), (hS.ext hb_).mono KS.out fun _ _ h => h.1⟩
   ·exact ⟨⟨k + 1, hlt, by go_num, (hS.ext hb_).mono KS.out fun _ _ h => h.1, Lib.hid (HZ2.out (by assumption))⟩, by simp [intOf]; omega⟩
  ·obtain rfl : k = l.length := by omega
   have HN : Hid (false = l.any q) := Lib.hid (by
    have h := HZ.out
    rw [List.take_length] at h
    exact (List.any_eq_false.2 fun z hz => by rw [h z hz]; simp).symm)
   go_wp2_with (first | ((with_reducible refine qB ?_); refine qc ?_ ?_ <;> intro h_ <;> go_prune))
   go_ret
   exact ⟨_, rfl, (decide_eq_false (by omega)).trans HN.out, hS⟩
theorem anyr_any {w0 w : World} {F : List A7} {K : (Nat -> Prop) -> World -> Prop} (v : Value) (l : List (B3)) (f : FuncId) (first caps : Array Value) (q : B3 -> Bool) (hcg : C4 Tryz.prog f = true) (hS : St w0 w F K) (kl : ∀ D w, K D w -> BI w D v l)
  (hq : ∀ (x : Value) (z : B3) (w : World), z ∈ l -> (∃ F', St w0 w (F' ++ F) fun D w => K D w /\ GL w D x z) -> Calls Tryz.prog f (first.toList ++ [x] ++ caps.toList).toArray w (Ax (fun r _ => r = .bool (q z)) w)) :
  Calls Tryz.prog 139 #[v, .func (.func f) first caps] w fun e w' => e = .returned (.bool (l.any q)) /\ St w0 w' F K := by
 have HI := Lib.hid (idxr_any v l f first caps q hcg hS kl hq)
 clear hcg hS kl hq
 go_enter Tryz.func139, Tryz.ntmps139
 go_wp2_with fail
 refine HI.out.mono ?_
 rintro e w1 ⟨k, rfl, hk, hS⟩
 have HK := Lib.hid hk
 clear hk
 go_wp2_with (first | ((with_reducible refine qA 8 ?_); refine BigFrame.wpList_want rfl fun _ hK => Az (vx := .int .i64 k) (vy := .int .i64 0) (v := .bool (l.any q)) rfl rfl rfl rfl (run_geB ((decide_eq_decide.2 (by omega)).trans HK.out)) (hK _ _ ?_)))
 go_ret
 exact ⟨rfl, hS⟩
theorem idxp_any {w0 w : World} {F : List A7} {K : (Nat -> Prop) -> World -> Prop} (v : Value) (l : List (Nat × Nat)) (f : FuncId) (first caps : Array Value) (q : Nat × Nat -> Bool) (hcg : C4 Tryz.prog f = true) (hS : St w0 w F K) (kl : ∀ D w, K D w -> Sl w D 2 v l.length (A6 l))
  (hq : ∀ (x : Value) (z : Nat × Nat) (w : World), z ∈ l -> St w0 w F K -> x = .agg #[.int .i64 (z.1 : Nat), .int .i64 (z.2 : Nat)] -> Calls Tryz.prog f (first.toList ++ [x] ++ caps.toList).toArray w (Ax (fun r _ => r = .bool (q z)) w)) :
  Calls Tryz.prog 209 #[v, .func (.func f) first caps] w fun e w' => ∃ k : Int, e = .returned (.int .i64 k) /\ decide (0 <= k) = l.any q /\ St w0 w' F K := by
 obtain ⟨A, c, rfl, _, hc2⟩ := (kl _ _ hS.ro).shape
 have KS := Lib.hid hS.stable
 have HQ := Lib.hid hq
 clear hq
 have HCG := Lib.hid hcg
 clear hcg
 go_enter Tryz.func209, Tryz.ntmps209
 go_wp2_with (first | ((with_reducible refine qB ?_); refine qc ?_ ?_ <;> intro h_ <;> go_prune))
 go_loopw [8] (fun i wr => ∃ k : Nat, k <= l.length /\ i = .int .i64 (k : Nat) /\ St w0 wr F K /\ Hid (∀ z ∈ l.take k, q z = false)) (fun i _ => l.length - (intOf i).toNat)
 case atStart => exact ⟨0, by omega, rfl, hS, Lib.hid (by simp)⟩
 case round =>
  clear hS
  obtain ⟨k, hk, rfl, hS, HZ⟩ := hrel
  by_cases hlt : k < l.length
  ·obtain ⟨f1, f2⟩ := Bf l k hlt
   obtain ⟨b, o, rfl, c0, c1⟩ : ∃ b o, A = some ⟨b, o, none⟩ /\ wr.cell? ⟨b, o + k * 2, none⟩ = some (.int .i64 ((l.getD k (0, 0)).1 : Nat)) /\ wr.cell? ⟨b, o + k * 2 + 1, none⟩ = some (.int .i64 ((l.getD k (0, 0)).2 : Nat)) := by
    obtain ⟨_, A2, c2, e2, _, _, h5⟩ := kl _ _ hS.ro
    obtain ⟨b, o, h6, _, _, h7⟩ := h5 (by omega)
    injection e2 with e2
    exact ⟨b, o, e2.trans h6, h7 _ _ f1, h7 _ _ f2⟩
   clear f1 f2
   have HM : Hid (l.getD k (0, 0) ∈ l) := Lib.hid (by rw [List.getD_eq_getElem?_getD, List.getElem?_eq_getElem hlt]; exact List.getElem_mem hlt)
   have HZ2 : Hid (q (l.getD k (0, 0)) = false -> ∀ z ∈ l.take (k + 1), q z = false) := Lib.hid fun h z hz => by
    rw [List.take_add_one, List.mem_append] at hz
    rcases hz with hz | hz
    ·exact HZ.out z hz
    ·rw [List.getElem?_eq_getElem hlt] at hz
     rw [List.getD_eq_getElem?_getD, List.getElem?_eq_getElem hlt] at h
     have : z = l[k] := by simpa using hz
     rw [this]; exact h
   have HY : Hid (q (l.getD k (0, 0)) = true -> true = l.any q) := Lib.hid fun h => (List.any_eq_true.2 ⟨_, HM.out, h⟩).symm
   generalize l.getD k (0, 0) = z at *
   have HK := Lib.hid (HQ.out (.agg #[.int .i64 (z.1 : Nat), .int .i64 (z.2 : Nat)]) z wr HM.out hS rfl)
   obtain ⟨args, hargs⟩ : ∃ args, args = first.toList ++ [Value.agg #[.int .i64 (z.1 : Nat), .int .i64 (z.2 : Nat)]] ++ caps.toList := ⟨_, rfl⟩
   rw [<- hargs] at HK
   have HARG := Lib.hid hargs
   clear hargs
   go_wp2_with (first
    | ((with_reducible refine qA 15 ?_); refine BigFrame.wpList_want rfl fun _ hK => Bb (cs := [.int .i64 (z.1 : Nat), .int .i64 (z.2 : Nat)]) rfl rfl (rng2 c0 c1) Tryz.underlying107 rfl (by kernel_rfl) (hK _ _ ?_))
    | ((with_reducible refine qA 16 ?_); refine BigFrame.wpList_want rfl fun _ hK => DT (vs := args) rfl rfl HCG.out (by simp [Act.eval, Act.put, HARG.out]) HK.out fun e w' ⟨u_, he_, hu_, hb_⟩ => ⟨u_, he_, hK _ _ ?_⟩))
   ·go_ret
    exact ⟨_, rfl, (decide_eq_true (by omega)).trans (HY.out (by assumption)), hS.ext hb_⟩
   ·exact ⟨⟨k + 1, hlt, by go_num, hS.ext hb_, Lib.hid (HZ2.out (by assumption))⟩, by simp [intOf]; omega⟩
  ·obtain rfl : k = l.length := by omega
   have HN : Hid (false = l.any q) := Lib.hid (by
    have h := HZ.out
    rw [List.take_length] at h
    exact (List.any_eq_false.2 fun z hz => by rw [h z hz]; simp).symm)
   go_wp2_with (first | ((with_reducible refine qB ?_); refine qc ?_ ?_ <;> intro h_ <;> go_prune))
   go_ret
   exact ⟨_, rfl, (decide_eq_false (by omega)).trans HN.out, hS⟩
theorem anyp_any {w0 w : World} {F : List A7} {K : (Nat -> Prop) -> World -> Prop} (v : Value) (l : List (Nat × Nat)) (f : FuncId) (first caps : Array Value) (q : Nat × Nat -> Bool) (hcg : C4 Tryz.prog f = true) (hS : St w0 w F K) (kl : ∀ D w, K D w -> Sl w D 2 v l.length (A6 l))
  (hq : ∀ (x : Value) (z : Nat × Nat) (w : World), z ∈ l -> St w0 w F K -> x = .agg #[.int .i64 (z.1 : Nat), .int .i64 (z.2 : Nat)] -> Calls Tryz.prog f (first.toList ++ [x] ++ caps.toList).toArray w (Ax (fun r _ => r = .bool (q z)) w)) :
  Calls Tryz.prog 186 #[v, .func (.func f) first caps] w fun e w' => e = .returned (.bool (l.any q)) /\ St w0 w' F K := by
 have HI := Lib.hid (idxp_any v l f first caps q hcg hS kl hq)
 clear hcg hS kl hq
 go_enter Tryz.func186, Tryz.ntmps186
 go_wp2_with fail
 refine HI.out.mono ?_
 rintro e w1 ⟨k, rfl, hk, hS⟩
 have HK := Lib.hid hk
 clear hk
 go_wp2_with (first | ((with_reducible refine qA 8 ?_); refine BigFrame.wpList_want rfl fun _ hK => Az (vx := .int .i64 k) (vy := .int .i64 0) (v := .bool (l.any q)) rfl rfl rfl rfl (run_geB ((decide_eq_decide.2 (by omega)).trans HK.out)) (hK _ _ ?_)))
 go_ret
 exact ⟨rfl, hS⟩
end
section
open Go.RowKit
attribute [local go_sem ↓] Go.wp_at_zero Go.wp_at_succ
set_option maxRecDepth 20000
set_option exponentiation.threshold 5000
theorem all1c_any {w0 w : World} {F : List A7} {K : (Nat -> Prop) -> World -> Prop} {x : Value} {z : Nat × Nat} {g : Nat} {f : FuncId} {first caps : Array Value} {b : Bool} (hcg : C4 Tryz.prog f = true) (hS : St w0 w F K) (kb : ∀ D w, K D w -> CH w D g #[.func (.func f) first caps]) (kx : ∀ D w, K D w -> Bi w D x z)
  (hq : ∀ w, (∃ F', St w0 w (F' ++ F) K) -> Calls Tryz.prog f (first.toList ++ [x] ++ caps.toList).toArray w (Ax (fun r _ => r = .bool b) w)) :
  Calls Tryz.prog 188 #[x, .pointer (some ⟨g, 0, none⟩)] w (Ax (fun r _ => r = .bool (!b)) w) := by
 obtain ⟨a0, b0, rfl, ha, hb⟩ := kx _ _ hS.ro
 obtain ⟨A, m, c, rfl⟩ := ha.shape
 obtain ⟨B, k, d, rfl⟩ := hb.shape
 obtain ⟨args, hargs⟩ : ∃ args, args = first.toList ++ [Value.agg #[.slice A m c, .slice B k d]] ++ caps.toList := ⟨_, rfl⟩
 rw [<- hargs] at hq
 have HARG := Lib.hid hargs
 have HQ := Lib.hid hq
 have HCG := Lib.hid hcg
 have HB := Lib.hid hS.below
 have hW := Below.refl w.heap.size w
 clear ha hb hargs hq hcg kx
 go_enter Tryz.func188, Tryz.ntmps188
 go_wp2_with (first
  | ((with_reducible refine qA 2 ?_); refine D0 rfl _ _ rfl (.agg #[.slice A m c, .slice B k d]) _ rfl rfl ?_; intro w_ hX hb_; replace hS := hS.new hb_ (.box _ _ _) ⟨Nat.le_refl _, hX⟩; replace hW := CE hW hb_; clear hX hb_; (try simp only [Act.put, Act.eval, zz, Value.cells] at hS))
  | ((with_reducible refine qK ?_); refine qL hS Tryz.underlying56 ?_)
  | ((with_reducible refine qA 4 ?_); refine BigFrame.wpList_want rfl fun _ hK => Ad rfl rfl (by kernel_rfl) ((kb _ _ hS.ro).cell 0 rfl) (hK _ _ ?_))
  | ((with_reducible refine qA 6 ?_); refine BigFrame.wpList_want rfl fun _ hK => DT (vs := args) rfl rfl HCG.out (by simp [Act.eval, Act.put, HARG.out]) (HQ.out _ ⟨[_], hS⟩) fun e w' ⟨u_, he_, hu_, hb_⟩ => ⟨u_, he_, hK _ _ ?_⟩))
 go_ret
 exact Ax.mk rfl (CE hW hb_)
theorem allc_any {w0 w : World} {F : List A7} {K : (Nat -> Prop) -> World -> Prop} (v : Value) (l : List (Nat × Nat)) (f : FuncId) (first caps : Array Value) (q : Nat × Nat -> Bool) (hcg : C4 Tryz.prog f = true) (hS : St w0 w F K) (kl : ∀ D w, K D w -> Ab w D v l)
  (hq : ∀ (x : Value) (z : Nat × Nat) (w : World), z ∈ l -> (∃ F', St w0 w (F' ++ F) fun D w => K D w /\ Bi w D x z) -> Calls Tryz.prog f (first.toList ++ [x] ++ caps.toList).toArray w (Ax (fun r _ => r = .bool (q z)) w)) :
  Calls Tryz.prog 136 #[v, .func (.func f) first caps] w fun e w' => e = .returned (.bool (l.all q)) /\ St w0 w' F K := by
 have KS := Lib.hid hS.stable
 have HQ := Lib.hid hq
 have HR : Hid ((!l.any fun z => !q z) = l.all q) := Lib.hid (by rw [List.all_eq_not_any_not])
 obtain ⟨R, hR⟩ : ∃ R, R = l.any fun z => !q z := ⟨_, rfl⟩
 rw [<- hR] at HR
 have HRR := Lib.hid hR
 clear hq hR
 go_enter Tryz.func136, Tryz.ntmps136
 go_wp2_with (first
  | (((with_reducible refine qA 3 ?_); refine AH hS rfl _ _ rfl (.func (.func f) first caps) _ rfl rfl ?_; clear hS; intro g3 w_ hS; (try simp only [Act.put, Act.eval, zz, Value.cells] at hS)); replace hS := hS.sealB 0 (by simp) rfl)
  | (go_at_call 64; refine (Kw v l 188 #[] #[.pointer (some ⟨g3, 0, none⟩)] (fun z => !q z) (by kernel_rfl) hS (fun D w h => kl D w h.1) fun x z w hz ⟨F1, h⟩ => all1c_any hcg h (fun D w h => h.1.2) (fun D w h => h.2) fun w' ⟨F2, h'⟩ => HQ.out x z w' hz ⟨F2 ++ F1, (by rw [List.append_assoc]; exact h'.mono (KS.out.and CL) fun D w h => ⟨h.1.1, h.2⟩)⟩).mono ?_; clear hS; rintro e_ w_ ⟨rfl, hS⟩; rw [<- HRR.out]))
 go_ret
 exact ⟨by rw [HR.out]; rfl, hS.mono KS.out fun _ _ h => h.1⟩
theorem all1r_any {w0 w : World} {F : List A7} {K : (Nat -> Prop) -> World -> Prop} {x : Value} {z : B3} {g : Nat} {f : FuncId} {first caps : Array Value} {b : Bool} (hcg : C4 Tryz.prog f = true) (hS : St w0 w F K) (kb : ∀ D w, K D w -> CH w D g #[.func (.func f) first caps]) (kx : ∀ D w, K D w -> GL w D x z)
  (hq : ∀ w, (∃ F', St w0 w (F' ++ F) K) -> Calls Tryz.prog f (first.toList ++ [x] ++ caps.toList).toArray w (Ax (fun r _ => r = .bool b) w)) :
  Calls Tryz.prog 140 #[x, .pointer (some ⟨g, 0, none⟩)] w (Ax (fun r _ => r = .bool (!b)) w) := by
 obtain ⟨a0, b0, rfl, ha, hb⟩ := kx _ _ hS.ro
 obtain ⟨A, m, c, rfl⟩ := ha.shape
 obtain ⟨B, k, d, rfl⟩ := hb.shape
 obtain ⟨args, hargs⟩ : ∃ args, args = first.toList ++ [Value.agg #[.bool z.revoke, .slice A m c, .slice B k d, .int .i64 z.target, .int .i64 z.origin]] ++ caps.toList := ⟨_, rfl⟩
 rw [<- hargs] at hq
 have HARG := Lib.hid hargs
 have HQ := Lib.hid hq
 have HCG := Lib.hid hcg
 have HB := Lib.hid hS.below
 have hW := Below.refl w.heap.size w
 clear ha hb hargs hq hcg kx
 go_enter Tryz.func140, Tryz.ntmps140
 go_wp2_with (first
  | ((with_reducible refine qA 2 ?_); refine D0 rfl _ _ rfl (.agg #[.bool z.revoke, .slice A m c, .slice B k d, .int .i64 z.target, .int .i64 z.origin]) _ rfl rfl ?_; intro w_ hX hb_; replace hS := hS.new hb_ (.box _ _ _) ⟨Nat.le_refl _, hX⟩; replace hW := CE hW hb_; clear hX hb_; (try simp only [Act.put, Act.eval, zz, Value.cells] at hS))
  | ((with_reducible refine qK ?_); refine qL hS Tryz.underlying84 ?_)
  | ((with_reducible refine qA 4 ?_); refine BigFrame.wpList_want rfl fun _ hK => Ad rfl rfl (by kernel_rfl) ((kb _ _ hS.ro).cell 0 rfl) (hK _ _ ?_))
  | ((with_reducible refine qA 6 ?_); refine BigFrame.wpList_want rfl fun _ hK => DT (vs := args) rfl rfl HCG.out (by simp [Act.eval, Act.put, HARG.out]) (HQ.out _ ⟨[_], hS⟩) fun e w' ⟨u_, he_, hu_, hb_⟩ => ⟨u_, he_, hK _ _ ?_⟩))
 go_ret
 exact Ax.mk rfl (CE hW hb_)
theorem allr_any {w0 w : World} {F : List A7} {K : (Nat -> Prop) -> World -> Prop} (v : Value) (l : List B3) (f : FuncId) (first caps : Array Value) (q : B3 -> Bool) (hcg : C4 Tryz.prog f = true) (hS : St w0 w F K) (kl : ∀ D w, K D w -> BI w D v l)
  (hq : ∀ (x : Value) (z : B3) (w : World), z ∈ l -> (∃ F', St w0 w (F' ++ F) fun D w => K D w /\ GL w D x z) -> Calls Tryz.prog f (first.toList ++ [x] ++ caps.toList).toArray w (Ax (fun r _ => r = .bool (q z)) w)) :
  Calls Tryz.prog 67 #[v, .func (.func f) first caps] w fun e w' => e = .returned (.bool (l.all q)) /\ St w0 w' F K := by
 have KS := Lib.hid hS.stable
 have HQ := Lib.hid hq
 have HR : Hid ((!l.any fun z => !q z) = l.all q) := Lib.hid (by rw [List.all_eq_not_any_not])
 obtain ⟨R, hR⟩ : ∃ R, R = l.any fun z => !q z := ⟨_, rfl⟩
 rw [<- hR] at HR
 have HRR := Lib.hid hR
 clear hq hR
 go_enter Tryz.func67, Tryz.ntmps67
 go_wp2_with (first
  | (((with_reducible refine qA 3 ?_); refine AH hS rfl _ _ rfl (.func (.func f) first caps) _ rfl rfl ?_; clear hS; intro g3 w_ hS; (try simp only [Act.put, Act.eval, zz, Value.cells] at hS)); replace hS := hS.sealB 0 (by simp) rfl)
  | (go_at_call 139; refine (anyr_any v l 140 #[] #[.pointer (some ⟨g3, 0, none⟩)] (fun z => !q z) (by kernel_rfl) hS (fun D w h => kl D w h.1) fun x z w hz ⟨F1, h⟩ => all1r_any hcg h (fun D w h => h.1.2) (fun D w h => h.2) fun w' ⟨F2, h'⟩ => HQ.out x z w' hz ⟨F2 ++ F1, (by rw [List.append_assoc]; exact h'.mono (KS.out.and IO) fun D w h => ⟨h.1.1, h.2⟩)⟩).mono ?_; clear hS; rintro e_ w_ ⟨rfl, hS⟩; rw [<- HRR.out]))
 go_ret
 exact ⟨by rw [HR.out]; rfl, hS.mono KS.out fun _ _ h => h.1⟩
theorem all1p_any {w0 w : World} {F : List A7} {K : (Nat -> Prop) -> World -> Prop} {x : Value} {z : Nat × Nat} {g : Nat} {f : FuncId} {first caps : Array Value} {b : Bool} (hcg : C4 Tryz.prog f = true) (hS : St w0 w F K) (kb : ∀ D w, K D w -> CH w D g #[.func (.func f) first caps]) (kx : x = .agg #[.int .i64 (z.1 : Nat), .int .i64 (z.2 : Nat)])
  (hq : ∀ w, (∃ F', St w0 w (F' ++ F) K) -> Calls Tryz.prog f (first.toList ++ [x] ++ caps.toList).toArray w (Ax (fun r _ => r = .bool b) w)) :
  Calls Tryz.prog 187 #[x, .pointer (some ⟨g, 0, none⟩)] w (Ax (fun r _ => r = .bool (!b)) w) := by
 subst kx
 obtain ⟨args, hargs⟩ : ∃ args, args = first.toList ++ [Value.agg #[.int .i64 (z.1 : Nat), .int .i64 (z.2 : Nat)]] ++ caps.toList := ⟨_, rfl⟩
 rw [<- hargs] at hq
 have HARG := Lib.hid hargs
 have HQ := Lib.hid hq
 have HCG := Lib.hid hcg
 have HB := Lib.hid hS.below
 have hW := Below.refl w.heap.size w
 clear hargs hq hcg
 go_enter Tryz.func187, Tryz.ntmps187
 go_wp2_with (first
  | ((with_reducible refine qA 2 ?_); refine D0 rfl _ _ rfl (.agg #[.int .i64 (z.1 : Nat), .int .i64 (z.2 : Nat)]) _ rfl rfl ?_; intro w_ hX hb_; replace hS := hS.new hb_ (.box _ _ _) ⟨Nat.le_refl _, hX⟩; replace hW := CE hW hb_; clear hX hb_; (try simp only [Act.put, Act.eval, zz, Value.cells] at hS))
  | ((with_reducible refine qK ?_); refine qL hS Tryz.underlying107 ?_)
  | ((with_reducible refine qA 4 ?_); refine BigFrame.wpList_want rfl fun _ hK => Ad rfl rfl (by kernel_rfl) ((kb _ _ hS.ro).cell 0 rfl) (hK _ _ ?_))
  | ((with_reducible refine qA 6 ?_); refine BigFrame.wpList_want rfl fun _ hK => DT (vs := args) rfl rfl HCG.out (by simp [Act.eval, Act.put, HARG.out]) (HQ.out _ ⟨[_], hS⟩) fun e w' ⟨u_, he_, hu_, hb_⟩ => ⟨u_, he_, hK _ _ ?_⟩))
 go_ret
 exact Ax.mk rfl (CE hW hb_)
theorem allp_any {w0 w : World} {F : List A7} {K : (Nat -> Prop) -> World -> Prop} (v : Value) (l : List (Nat × Nat)) (f : FuncId) (first caps : Array Value) (q : Nat × Nat -> Bool) (hcg : C4 Tryz.prog f = true) (hS : St w0 w F K) (kl : ∀ D w, K D w -> Sl w D 2 v l.length (A6 l))
  (hq : ∀ (x : Value) (z : Nat × Nat) (w : World), z ∈ l -> (∃ F', St w0 w (F' ++ F) K) -> x = .agg #[.int .i64 (z.1 : Nat), .int .i64 (z.2 : Nat)] -> Calls Tryz.prog f (first.toList ++ [x] ++ caps.toList).toArray w (Ax (fun r _ => r = .bool (q z)) w)) :
  Calls Tryz.prog 133 #[v, .func (.func f) first caps] w fun e w' => e = .returned (.bool (l.all q)) /\ St w0 w' F K := by
 have KS := Lib.hid hS.stable
 have HQ := Lib.hid hq
 have HR : Hid ((!l.any fun z => !q z) = l.all q) := Lib.hid (by rw [List.all_eq_not_any_not])
 obtain ⟨R, hR⟩ : ∃ R, R = l.any fun z => !q z := ⟨_, rfl⟩
 rw [<- hR] at HR
 have HRR := Lib.hid hR
 clear hq hR
 go_enter Tryz.func133, Tryz.ntmps133
 go_wp2_with (first
  | (((with_reducible refine qA 3 ?_); refine AH hS rfl _ _ rfl (.func (.func f) first caps) _ rfl rfl ?_; clear hS; intro g3 w_ hS; (try simp only [Act.put, Act.eval, zz, Value.cells] at hS)); replace hS := hS.sealB 0 (by simp) rfl)
  | (go_at_call 186; refine (anyp_any v l 187 #[] #[.pointer (some ⟨g3, 0, none⟩)] (fun z => !q z) (by kernel_rfl) hS (fun D w h => kl D w h.1) fun x z w hz h hx => all1p_any hcg h (fun D w h => h.2) hx fun w' ⟨F2, h'⟩ => HQ.out x z w' hz ⟨F2, h'.mono KS.out fun D w h => h.1⟩ hx).mono ?_; clear hS; rintro e_ w_ ⟨rfl, hS⟩; rw [<- HRR.out]))
 go_ret
 exact ⟨by rw [HR.out]; rfl, hS.mono KS.out fun _ _ h => h.1⟩
end
section
open Go.RowKit
attribute [local go_sem ↓] Go.wp_at_zero Go.wp_at_succ
set_option maxRecDepth 20000
set_option exponentiation.threshold 5000
structure AP where
 roles : Int
 links : Option (List (Nat × Nat))
 start : Nat
 rules : List B3
 never : List (Nat × Nat)
 goal : List (Nat × Nat)
def IsHo (w : World) (D : Nat -> Prop) (v : Value) : Option (List (Nat × Nat)) -> Prop
 | none => v = .pointer none
 | some L => Il w D v L
theorem De {v : Value} {o : Option (List (Nat × Nat))} : AF fun D w => IsHo w D v o := by
 cases o with
 | none => exact fun _ _ _ _ h _ _ _ => h
 | some L => exact CJ
def BR (w : World) (D : Nat -> Prop) (v : Value) (p : AP) : Prop :=
 ∃ lp s rv nv gv, v = .agg #[.int .i64 p.roles, lp, s, rv, nv, gv] /\ IsHo w D lp p.links /\ A5 w D (.agg #[s]) p.start /\ BI w D rv p.rules /\ Ab w D nv p.never /\ Ab w D gv p.goal
theorem Fy {v : Value} {p : AP} : AF fun D w => BR w D v p := fun D D' w w' h a b c => by
 obtain ⟨lp, s, rv, nv, gv, h1, h2, h3, h4, h5, h6⟩ := h
 exact ⟨lp, s, rv, nv, gv, h1, De D D' w w' h2 a b c, Ah D D' w w' h3 a b c, C9 D D' w w' h4 a b c, AY D D' w w' h5 a b c, AY D D' w w' h6 a b c⟩
structure AP.Ok (p : AP) : Prop where
 rules : p.rules.length <= 100000
 never : p.never.length <= 100000
 goal : p.goal.length <= 100000
 links : ∀ L, p.links = some L -> Gi L /\ L.length <= 900000
def AP.cubes (p : AP) : List (Nat × Nat) := (p.rules.map fun r => (r.yes, r.no)) ++ p.never ++ p.goal
theorem Aq.append {w : World} {D : Nat -> Prop} {xs ys : List Value} {l m : List (Nat × Nat)} (hx : xs.length = l.length * 2) (h : Aq w D xs l) (k : Aq w D ys m) : Aq w D (xs ++ ys) (l ++ m) := fun i y n hi => by
 rcases Nat.lt_or_ge i l.length with h1 | h1
 ·rw [List.getElem?_append_left h1] at hi
  obtain ⟨a, b, q1, q2, q3, q4⟩ := h i y n hi
  exact ⟨a, b, by rw [List.getElem?_append_left (by omega)]; exact q1, by rw [List.getElem?_append_left (by omega)]; exact q2, q3, q4⟩
 ·rw [List.getElem?_append_right h1] at hi
  obtain ⟨a, b, q1, q2, q3, q4⟩ := k _ y n hi
  refine ⟨a, b, ?_, ?_, q3, q4⟩
  ·rw [List.getElem?_append_right (by omega), <- q1]; congr 1; omega
  ·rw [List.getElem?_append_right (by omega), <- q2]; congr 1; omega
theorem Aq.one {w : World} {D : Nat -> Prop} {xs : List Value} {l : List (Nat × Nat)} (hl : xs.length = l.length * 2) (h : Aq w D xs l) : ∀ u ∈ xs, u.oneCell' = true := fun u hu => by
 obtain ⟨i, hi, rfl⟩ := List.getElem_of_mem hu
 have hk : i / 2 < l.length := by omega
 obtain ⟨a, b, q1, q2, q3, q4⟩ := h (i / 2) l[i / 2].1 l[i / 2].2 (by rw [List.getElem?_eq_getElem hk])
 obtain ⟨A, m, c, e3⟩ := q3.shape
 obtain ⟨B, k, d, e4⟩ := q4.shape
 rcases Nat.mod_two_eq_zero_or_one i with e | e
 ·have : i = i / 2 * 2 := by omega
  rw [<- this, List.getElem?_eq_getElem hi] at q1
  injection q1 with q1
  rw [q1, e3]; rfl
 ·have : i = i / 2 * 2 + 1 := by omega
  rw [<- this, List.getElem?_eq_getElem hi] at q2
  injection q2 with q2
  rw [q2, e4]; rfl
theorem FV {xs : List Value} {l : List (Nat × Nat)} : AF fun D w => Aq w D xs l := fun D D' w w' h a b c i y n hi => by
 obtain ⟨x, z, h1, h2, h3, h4⟩ := h i y n hi
 exact ⟨x, z, h1, h2, Ah D D' w w' h3 a b c, Ah D D' w w' h4 a b c⟩
def cbD (xs xn xg : List Value) (n m k : Nat) : AD := ⟨56, 2, 3, fun s => match s with | 0 => n | 1 => n + m | _ => n + m + k, fun s => match s with | 0 => xs | 1 => xs ++ xn | _ => xs ++ xn ++ xg, fun _ v => .own v 56 2 0 []⟩
def cbK : List (Nat × (Bool × Nat)) := [(3, (true, 1)), (6, (true, 2))]
theorem AN_one1 {kd : List (Nat × (Bool × Nat))} (hk : ∀ x ∈ kd, x.2.1 = true -> 1 <= x.2.2) (w : World) (v : Value) (i : Nat) : AN kd i (w, ⟨[v], []⟩) := by
 unfold AN
 split
 ·rename_i s hs
  unfold Fl at hs
  obtain ⟨y, hy, e⟩ := Option.map_eq_some_iff.1 hs
  have := hk y (List.mem_of_find?_eq_some hy) (by rw [e])
  rw [e] at this
  exact this
 ·simp
 ·trivial
set_option maxHeartbeats 1000000 in
theorem K0 {w0 w : World} {F : List A7} {K : (Nat -> Prop) -> World -> Prop} {v : Value} {p : AP} (hP : p.Ok) (hS : St w0 w F K) (kp : ∀ D w, K D w -> BR w D v p) :
  Calls Tryz.prog 65 #[v] w fun e w' => ∃ u, e = .returned u /\ St w0 w' F fun D w => K D w /\ Ab w D u p.cubes := by
 obtain ⟨R, lk, st, rl, nl, gl⟩ := p
 obtain ⟨lp, s, rv, nv, gv, rfl, -, -, hr, hn, hg⟩ := kp _ _ hS.ro
 dsimp only at hr hn hg
 obtain ⟨hP1, hP2, hP3, -⟩ := hP
 dsimp only at hP1 hP2 hP3
 have KS := Lib.hid hS.stable
 obtain ⟨Ar, cr, rfl, _, _⟩ := hr.shape
 obtain ⟨An, cn, rfl, _, _⟩ := hn.shape
 obtain ⟨Ag, cg, rfl, _, _⟩ := hg.shape
 obtain ⟨xn, hn1, hn2⟩ := hn
 obtain ⟨xg, hg1, hg2⟩ := hg
 obtain ⟨K1, k0, kr, kn, kg, kn2, kg2, hS2⟩ : ∃ K1 : (Nat -> Prop) -> World -> Prop, (∀ D w, K1 D w -> K D w) /\ (∀ D w, K1 D w -> BI w D (.slice Ar rl.length cr) rl) /\ (∀ D w, K1 D w -> Sl w D 2 (.slice An nl.length cn) nl.length xn) /\ (∀ D w, K1 D w -> Sl w D 2 (.slice Ag gl.length cg) gl.length xg) /\ (∀ D w, K1 D w -> Aq w D xn nl) /\ (∀ D w, K1 D w -> Aq w D xg gl) /\ St w0 w F K1 :=
  ⟨_, fun _ _ h => h.1, fun _ _ h => h.2.1, fun _ _ h => h.2.2.1.1, fun _ _ h => h.2.2.2.1, fun _ _ h => h.2.2.1.2, fun _ _ h => h.2.2.2.2, hS.add (D := EA F) (C9.and (((Aj (by decide)).and FV).and ((Aj (by decide)).and FV))) ⟨hr, ⟨hn1, hn2⟩, hg1, hg2⟩ fun _ h _ => h⟩
 clear hS hr hn1 hn2 hg1 hg2 kp
 have hS := hS2
 clear hS2
 have KS1 := Lib.hid hS.stable
 go_enter Tryz.func65, Tryz.ntmps65
 go_wp2_with (first
  | ((with_reducible refine qA 1 ?_); refine AH hS rfl _ _ rfl (.agg #[.int .i64 R, lp, s, .slice Ar rl.length cr, .slice An nl.length cn, .slice Ag gl.length cg]) _ rfl rfl ?_; clear hS; intro g1 w_ hS; (try simp only [Act.put, Act.eval, zz, Value.cells] at hS))
  | ((with_reducible refine qK ?_); refine qC hS ?_))
 obtain ⟨CS, hCS⟩ : ∃ CS : List (Nat × Nat), CS = rl.map fun r => (r.yes, r.no) := ⟨_, rfl⟩
 have HCS := Lib.hid hCS
 have hlC : CS.length = rl.length := by rw [hCS]; simp
 have HLC := Lib.hid hlC
 clear hCS hlC
 replace hS := hS.nil 56 2
 go_loopw [3, 9] (fun ov i wr => ∃ (j : Nat) (sv : Value) (xs : List Value), i = .int .i64 (j : Nat) /\ sv = ov /\ j <= rl.length /\ St w0 wr (.own sv 56 2 j xs :: .box g1 43 #[.int .i64 R, lp, s, .slice Ar rl.length cr, .slice An nl.length cn, .slice Ag gl.length cg] :: F) fun D w => K1 D w /\ Aq w D xs (CS.take j)) (fun _ i _ => rl.length - (intOf i).toNat)
 case atStart => exact ⟨0, _, [], rfl, rfl, by omega, hS.mono (KS1.out.and FV) fun D w h => ⟨h, Aq.nil⟩⟩
 case round =>
  clear hS
  obtain ⟨j, sv, xs, rfl, rfl, hj, hS⟩ := hrel
  by_cases hlj : j < rl.length
  ·obtain ⟨b, o, y, n, rfl, _, hb, c0, c1, c2, c3, c4, hy, hn⟩ := (kr _ _ hS.ro.1).at_ hlj
   obtain ⟨Ay, my, cy, rfl⟩ := hy.shape
   obtain ⟨Am, mn, cm, rfl⟩ := hn.shape
   have HT : Hid (CS.take (j + 1) = CS.take j ++ [((rl.getD j Bd).yes, (rl.getD j Bd).no)]) := Lib.hid (by
    rw [HCS.out, List.take_add_one, List.getElem?_map, List.getElem?_eq_getElem hlj, List.getD_eq_getElem?_getD, List.getElem?_eq_getElem hlj]; rfl)
   have HLT : Hid ((CS.take j).length = j) := Lib.hid (by rw [List.length_take, HLC.out]; omega)
   replace hS := hS.add (D := EA (.own sv 56 2 j xs :: .box g1 43 #[.int .i64 R, lp, s, .slice (some ⟨b, o, none⟩) rl.length cr, .slice An nl.length cn, .slice Ag gl.length cg] :: F)) (Ah.and Ah) ⟨hy, hn⟩ fun _ h _ => h
   clear hy hn
   generalize rl.getD j Bd = z at *
   have hj1 : j <= 100000 := by omega
   go_wp2_with (first
    | ((with_reducible refine qB ?_); refine qc ?_ ?_ <;> intro h_ <;> go_prune)
    | ((with_reducible refine qA 12 ?_); refine BigFrame.wpList_want rfl fun _ hK => Bb (cs := [.bool z.revoke, .slice Ay my cy, .slice Am mn cm, .int .i64 z.target, .int .i64 z.origin]) rfl rfl (Jg c0 c1 c2 c3 c4) Tryz.underlying84 rfl (by kernel_rfl) (hK _ _ ?_))
    | ((with_reducible refine qA 5 ?_); refine qa hS #[.bool false, .slice none 0 0, .slice none 0 0, .int .i64 0, .int .i64 0] ?_; clear hS; intro g5 w_ hS)
    | ((with_reducible refine qM ?_); (first | refine qS hS ?_ | refine qT hS ?_); clear hS; intro w_ hS; (try simp only [Act.put, Act.eval, zz, Value.cells] at hS))
    | ((with_reducible refine qk 56 ?_); refine EE hS 0 rfl _ _ rfl _ _ rfl _ _ rfl _ _ rfl rfl Tryz.underlying56 rfl (by kernel_rfl) ?_)
    | ((with_reducible show wpList _ _ _ (⟨_, .buildSlice _ 1 _, _, _, _, _⟩ :: _) _ _); refine Ef hS 1 rfl rfl _ _ _ _ rfl rfl GY _ _ _ (.agg #[.slice Ay my cy, .slice Am mn cm]) #[.slice Ay my cy, .slice Am mn cm] rfl (by kernel_rfl) rfl rfl rfl rfl (by intro u hu; simp at hu; first | (subst hu; rfl) | (rcases hu with rfl | rfl <;> rfl)) (by omega) (by omega) ?_; clear hS; intro z_ v_ w_ hS; (try simp only [Act.put, Act.eval, zz, Value.cells] at hS)))
   have hcl := (hS.own 1 rfl).1
   refine ⟨⟨j + 1, _, xs ++ [.slice Ay my cy, .slice Am mn cm], by go_num, rfl, hlj, ?_⟩, by simp [intOf]; omega⟩
   rw [HT.out]
   exact (hS.sub (F' := _ :: _ :: F) (List.sublist_cons_self _ _)).mono (KS1.out.and FV) fun D w h => ⟨h.1.1, h.1.2.push (by rw [HLT.out]; simp at hcl; omega) h.2.1 h.2.2⟩
  ·obtain rfl : rl.length = j := by omega
   have hCT : CS.take rl.length = CS := by rw [<- HLC.out, List.take_length]
   rw [hCT] at hS
   clear hCT
   go_wp2_with (first | ((with_reducible refine qB ?_); refine qc ?_ ?_ <;> intro h_ <;> go_prune))
   have hxl := (hS.own 0 rfl).1
   have hA0 : Fo ⟨[sv], []⟩ 0 sv := ⟨[], [], rfl, rfl⟩
   have hJ0 : AJ w0 (.box g1 43 #[.int .i64 R, lp, s, .slice Ar rl.length cr, .slice An nl.length cn, .slice Ag gl.length cg] :: F) (fun D w => K1 D w /\ Aq w D xs CS) (cbD xs xn xg rl.length nl.length gl.length) (wr.drew, ⟨[sv], []⟩) := ⟨hS.drew, show 1 <= 3 by decide⟩
   have hN0 := AN_one1 (kd := cbK) (by decide) wr.drew sv
   have hRr := @AR.refl w0 (.box g1 43 #[.int .i64 R, lp, s, .slice Ar rl.length cr, .slice An nl.length cn, .slice Ag gl.length cg] :: F) (fun D w => K1 D w /\ Aq w D xs CS) (cbD xs xn xg rl.length nl.length gl.length)
   have hRt := @AR.trans w0 (.box g1 43 #[.int .i64 R, lp, s, .slice Ar rl.length cr, .slice An nl.length cn, .slice Ag gl.length cg] :: F) (fun D w => K1 D w /\ Aq w D xs CS) (cbD xs xn xg rl.length nl.length gl.length)
   have ON : Hid (∀ u ∈ xn, u.oneCell' = true) := Lib.hid ((kn2 _ _ hS.ro.1).one (kn _ _ hS.ro.1).1)
   have OG : Hid (∀ u ∈ xg, u.oneCell' = true) := Lib.hid ((kg2 _ _ hS.ro.1).one (kg _ _ hS.ro.1).1)
   have hb0 : Hid (rl.length + nl.length <= 1000000000000 /\ (rl.length + nl.length) * 48 <= 140737488355328 /\ rl.length + nl.length + gl.length <= 1000000000000 /\ (rl.length + nl.length + gl.length) * 48 <= 140737488355328) := Lib.hid (by omega)
   clear hS
   refine Ed (AR w0 (.box g1 43 #[.int .i64 R, lp, s, .slice Ar rl.length cr, .slice An nl.length cn, .slice Ag gl.length cg] :: F) (fun D w => K1 D w /\ Aq w D xs CS) (cbD xs xn xg rl.length nl.length gl.length)) (AN cbK) (⟨[sv], []⟩) hRr hRt [.i sv, .q g1 4, .i (.slice An nl.length cn), .s (fun v w => Fo w.2 1 v) fun v w w' h hb => h.mono hb.2.1, .q g1 5, .i (.slice Ag gl.length cg), .s (fun v w => Fo w.2 2 v) fun v w w' h hb => h.mono hb.2.1, .s (fun v w => Fo w.2 2 v) fun v w w' h hb => h.mono hb.2.1] ?_ ⟨uM, uF, uC (h := fun w hW hN => ((hW.1 hJ0).1.holds (.box g1 43 #[.int .i64 R, lp, s, .slice Ar rl.length cr, .slice An nl.length cn, .slice Ag gl.length cg]) (List.mem_append_right _ (List.mem_cons_self ..))).2.cell 4), ?_, uF, uC (h := fun w hW hN => ((hW.1 hJ0).1.holds (.box g1 43 #[.int .i64 R, lp, s, .slice Ar rl.length cr, .slice An nl.length cn, .slice Ag gl.length cg]) (List.mem_append_right _ (List.mem_cons_self ..))).2.cell 5), ?_, uA, trivial⟩ ?_
   ·first | assumption | (intro i; (try dsimp only); split <;> first | trivial | assumption | (left; assumption))
   ·refine uG fun b__ w hW hN hE K hK => ?_
    have e19 := hE 19
    have e21 := hE 21
    exact BA (kd := cbK) (by decide) rfl rfl GY hN (by rw [e19]; exact hA0.mono hW.2.1) (hW.1 hJ0) (by rw [e21]; exact kn _ _ (hW.1 hJ0).1.ro.1) ON.out rfl rfl (by exact hb0.out.1) (by exact hb0.out.2.1) (show 0 + 1 < 3 by decide) hK
   ·refine uG fun b__ w hW hN hE K hK => ?_
    have e22 := hE 22
    have e24 := hE 24
    exact BA (kd := cbK) (by decide) rfl rfl GY hN e22 (hW.1 hJ0) (by rw [e24]; exact kg _ _ (hW.1 hJ0).1.ro.1) OG.out rfl rfl (by exact hb0.out.2.2.1) (by exact hb0.out.2.2.2) (show 1 + 1 < 3 by decide) hK
   ·intro vs wz hW hT
    obtain ⟨e19, e20, e21, e22, e23, e24, e25, e2, -⟩ := hT
    have bx : (fun _ : Nat => True) 0 := trivial
    simp only [AL, Act.put, zz, ze]
    have hJ := (hW.1 hJ0).last e2 rfl
    simp only [cbD] at hJ
    have hS := (hJ.freeze 0 (by decide) rfl).sub (F' := F) (List.sublist_cons_self _ _)
    generalize vs 2 = v2 at *
    generalize wz.1 = wf at *
    clear hW hJ0 hRr hRt hN0 hA0 hJ e2
    go_wp2_with fail
    go_ret
    have e : (AP.cubes ⟨R, lk, st, rl, nl, gl⟩) = CS ++ nl ++ gl := by rw [HCS.out]; rfl
    have el : (CS ++ nl ++ gl).length = rl.length + nl.length + gl.length := by rw [List.length_append, List.length_append, HLC.out]
    refine ⟨_, rfl, hS.mono (KS.out.and AY) fun D w h => ⟨k0 _ _ h.1.1, ?_⟩⟩
    rw [e]
    refine ⟨_, by rw [el]; exact h.2, Aq.append ?_ (Aq.append ?_ h.1.2 (kn2 _ _ h.1.1)) (kg2 _ _ h.1.1)⟩
    ·have := (kn _ _ h.1.1).1
     rw [List.length_append, List.length_append, HLC.out]; omega
    ·rw [HLC.out]; exact hxl
end
section
open Go.RowKit
attribute [local go_sem ↓] Go.wp_at_zero Go.wp_at_succ
set_option maxRecDepth 20000
set_option exponentiation.threshold 5000
theorem JP (q : Addr) (w : World) : (binOp .neq 36 (.pointer (some q)) (.pointer none)).run Tryz.prog w = .ok (.bool true) w := rfl
theorem run_nnil (w : World) : (binOp .neq 36 (.pointer none) (.pointer none)).run Tryz.prog w = .ok (.bool false) w := rfl
noncomputable def goodB (p : AP) (N : Nat) : Bool := match p.links with
 | none => false
 | some L => !(p.never.any fun z => BZ z (closM L N))
set_option maxHeartbeats 1000000 in
theorem good_any {w0 : World} {D E : Nat -> Prop} {v u : Value} {p : AP} {N : Nat} (hp : BR w0 D v p) (hP : p.Ok) (hT : Cw w0) (hu : A5 w0 E u N) : Calls Tryz.prog 27 #[v, u] w0 (Ax (fun r _ => r = .bool (goodB p N)) w0) := by
 obtain ⟨R, lk, st, rl, nl, gl⟩ := p
 obtain ⟨lp, s, rv, nv, gv, rfl, h1, h2, h3, h4, h5⟩ := hp
 dsimp only at h1 h2 h3 h4 h5
 obtain ⟨Cs, ns, cs, rfl⟩ := h2.shape
 obtain ⟨Ar, cr, rfl, _, _⟩ := h3.shape
 obtain ⟨An, cn, rfl, _, _⟩ := h4.shape
 obtain ⟨Ag, cg, rfl, _, _⟩ := h5.shape
 obtain ⟨C, e, lw, rfl, -⟩ := hu.parts
 obtain ⟨n, hn⟩ : ∃ n, n = lw.length := ⟨_, rfl⟩
 rw [<- hn] at hu ⊢
 clear hn
 obtain ⟨K, kh, ks, kr, kn, kg, kt, ku, hS⟩ : ∃ K : (Nat -> Prop) -> World -> Prop, (∀ D w, K D w -> IsHo w D lp lk) /\ (∀ D w, K D w -> A5 w D (.agg #[.slice Cs ns cs]) st) /\ (∀ D w, K D w -> BI w D (.slice Ar rl.length cr) rl) /\ (∀ D w, K D w -> Ab w D (.slice An nl.length cn) nl) /\ (∀ D w, K D w -> Ab w D (.slice Ag gl.length cg) gl) /\ (∀ D w, K D w -> Cw w) /\ (∀ D w, K D w -> A5 w D (.agg #[.slice C n e]) N) /\ St w0 w0 [] K :=
  ⟨fun D w => ((IsHo w D lp lk /\ A5 w D (.agg #[.slice Cs ns cs]) st) /\ BI w D (.slice Ar rl.length cr) rl /\ Ab w D (.slice An nl.length cn) nl /\ Ab w D (.slice Ag gl.length cg) gl) /\ (Cw w /\ D 0) /\ A5 w D (.agg #[.slice C n e]) N, fun _ _ h => h.1.1.1, fun _ _ h => h.1.1.2, fun _ _ h => h.1.2.1, fun _ _ h => h.1.2.2.1, fun _ _ h => h.1.2.2.2, fun _ _ h => h.2.1.1, fun _ _ h => h.2.2,
   St.start (D := fun _ => True) (((De.and Ah).and (C9.and (AY.and AY))).and (Ek.and Ah)) ⟨⟨⟨De D _ w0 w0 h1 (Nat.le_refl _) (fun _ _ _ _ h => h) fun _ _ _ _ => trivial, h2.imp fun _ _ _ => trivial⟩, C9 D _ w0 w0 h3 (Nat.le_refl _) (fun _ _ _ _ h => h) fun _ _ _ _ => trivial, h4.imp fun _ _ _ => trivial, h5.imp fun _ _ _ => trivial⟩, ⟨hT, trivial⟩, hu.imp fun _ _ _ => trivial⟩⟩
 clear h1 h2 h3 h4 h5 hu hT
 have HL := Lib.hid hP.links
 clear hP
 cases lk with
 | none =>
  obtain rfl := kh _ _ hS.ro
  go_enter Tryz.func27, Tryz.ntmps27
  go_wp2_with (first
   | ((with_reducible refine qA 2 ?_); refine AH hS rfl _ _ rfl (.agg #[.int .i64 R, .pointer none, .slice Cs ns cs, .slice Ar rl.length cr, .slice An nl.length cn, .slice Ag gl.length cg]) _ rfl rfl ?_; clear hS; intro g2 w_ hS; (try simp only [Act.put, Act.eval, zz, Value.cells] at hS))
   | ((with_reducible refine qA 3 ?_); refine AH hS rfl _ _ rfl (.agg #[.slice C n e]) _ rfl rfl ?_; clear hS; intro g3 w_ hS; (try simp only [Act.put, Act.eval, zz, Value.cells] at hS)))
  refine EB [.q g2 1, .i (.pointer none), .b false, .b false, .t, .t, .t, .t, .t, .t, .t, .t, .b false, .b false] ⟨uF, uC (h := fun w hW hN => (hS.ext hW).shut 1 rfl 1 rfl), uB (h := fun w hW hN => run_nnil _), uM, uW, uW, uW, uW, uW, uW, uW, uW, uP, uA, trivial⟩ ?_
  ·intro vs wz hW hT
   obtain ⟨e5, e6, e7, e8, e17, e4, -⟩ := hT
   simp only [AL, Act.put, zz, ze]
   rw [e4]
   go_wp2_with fail
   go_ret
   exact Ax.mk rfl (CE hS.below hW)
 | some L =>
  have hH := Lib.hid (HL.out L rfl).1
  obtain ⟨q, o, rfl, -⟩ := id (kh _ _ hS.ro)
  obtain ⟨b, hb⟩ : ∃ b, b = nl.any fun z => BZ z (closM L N) := ⟨_, rfl⟩
  have HB := Lib.hid hb
  have HR : Hid (goodB ⟨R, some L, st, rl, nl, gl⟩ N = !b) := Lib.hid (by rw [hb]; rfl)
  clear hb HL
  go_enter Tryz.func27, Tryz.ntmps27
  go_wp2_with (first
   | ((with_reducible refine qA 2 ?_); refine AH hS rfl _ _ rfl (.agg #[.int .i64 R, .pointer (some ⟨q, 0, none⟩), .slice Cs ns cs, .slice Ar rl.length cr, .slice An nl.length cn, .slice Ag gl.length cg]) _ rfl rfl ?_; clear hS; intro g2 w_ hS; (try simp only [Act.put, Act.eval, zz, Value.cells] at hS))
   | ((with_reducible refine qA 3 ?_); refine AH hS rfl _ _ rfl (.agg #[.slice C n e]) _ rfl rfl ?_; clear hS; intro g3 w_ hS; (try simp only [Act.put, Act.eval, zz, Value.cells] at hS)))
  refine EB [.q g2 1, .q q 0, .b true, .b true, .q g2 4, .i (.slice An nl.length cn), .q g2 1, .q q 0, .i (.agg #[.slice C n e]), .s (fun v w => A5 w (fun _ => True) v (closM L N)) fun v w w' h hb => h.ext hb, .i (.bool b), .i (.bool (!b)), .i (.bool (!b)), .i (.bool (!b))] ⟨uF, uC (h := fun w hW hN => (hS.ext hW).shut 1 rfl 1 rfl), uB (h := fun w hW hN => JP _ _), uM, uF, uC (h := fun w hW hN => (hS.ext hW).shut 1 rfl 4 rfl), uF, uC (h := fun w hW hN => (hS.ext hW).shut 1 rfl 1 rfl), uR (h := fun w hW hN => (hS.ext hW).box 0 rfl), ?_, ?_, uU, uP, uA, trivial⟩ ?_
  ·refine uT fun b__ w hW hE K hK => ?_
   have e12 := hE 12
   have e13 := hE 13
   exact AV rfl (by kernel_rfl) (by simp only [List.map_cons, List.map_nil, e12, e13]) (hclos_any (kh _ _ (hS.ext hW).ro) (kt _ _ (hS.ext hW).ro) hH.out (ku _ _ (hS.ext hW).ro)) fun v w' h hb => hK v w' (h.imp fun _ _ _ => trivial) hb
  ·refine uT fun b__ w hW hE K hK => ?_
   have e10 := hE 10
   have e14 := hE 14
   exact AV rfl (by kernel_rfl) (by simp only [List.map_cons, List.map_nil, e10]) (some_any (kn _ _ (hS.ext hW).ro) e14) fun v w' h hb => hK v w' (h.trans (by rw [HB.out])) hb
  ·intro vs wz hW hT
   obtain ⟨e5, e6, e7, e8, e9, e10, e11, e12, e13, e14, e15, e16, e17, e4, -⟩ := hT
   have bx : (fun _ : Nat => True) 0 := trivial
   simp only [AL, Act.put, zz, ze]
   rw [e4]
   go_wp2_with fail
   go_ret
   exact Ax.mk (by rw [HR.out]; rfl) (CE hS.below hW)
end
section
open Go.RowKit
attribute [local go_sem ↓] Go.wp_at_zero Go.wp_at_succ
set_option maxRecDepth 20000
set_option exponentiation.threshold 5000
def Jh (z : B3) : Bool := !z.revoke || (z.yes == 0 && z.no == 0)
theorem chk1_any {w : World} {D : Nat -> Prop} {x : Value} {z : B3} (hx : GL w D x z) : Calls Tryz.prog 61 #[x] w (Ax (fun r _ => r = .bool (Jh z)) w) := by
 obtain ⟨a, b, rfl, ha, hb⟩ := hx
 obtain ⟨rv, y, n, t, o⟩ := z
 dsimp only at ha hb
 obtain ⟨A, m, c, rfl⟩ := ha.shape
 obtain ⟨B, k, d, rfl⟩ := hb.shape
 obtain ⟨K, ka, kb, hS⟩ : ∃ K : (Nat -> Prop) -> World -> Prop, (∀ D w, K D w -> A5 w D (.agg #[.slice A m c]) y) /\ (∀ D w, K D w -> A5 w D (.agg #[.slice B k d]) n) /\ St w w [] K :=
  ⟨fun D w => A5 w D (.agg #[.slice A m c]) y /\ A5 w D (.agg #[.slice B k d]) n, fun _ _ h => h.1, fun _ _ h => h.2, St.start (D := fun _ => True) (Ah.and Ah) ⟨ha.imp fun _ _ _ => trivial, hb.imp fun _ _ _ => trivial⟩⟩
 clear ha hb
 obtain ⟨b1, hb1⟩ : ∃ b, b = (y == 0) := ⟨_, rfl⟩
 obtain ⟨b2, hb2⟩ : ∃ b, b = (n == 0) := ⟨_, rfl⟩
 have HR : Hid (Jh ⟨rv, y, n, t, o⟩ = (!rv || (b1 && b2))) := Lib.hid (by rw [hb1, hb2]; rfl)
 have HB1 := Lib.hid hb1
 have HB2 := Lib.hid hb2
 clear hb1 hb2
 go_enter Tryz.func61, Tryz.ntmps61
 cases rv <;> cases b1
 all_goals
  go_wp2_with (first
   | ((with_reducible refine qA 1 ?_); refine AH hS rfl _ _ rfl (.agg #[.bool _, .slice A m c, .slice B k d, .int .i64 t, .int .i64 o]) _ rfl rfl ?_; clear hS; intro g1 w_ hS; (try simp only [Act.put, Act.eval, zz, Value.cells] at hS))
   | ((with_reducible refine qk 39 ?_); first | (refine B7 hS 0 rfl _ _ rfl _ _ rfl _ _ rfl _ (by first | rfl | assumption) Tryz.underlying39 rfl (by kernel_rfl) ?_) | (refine B7 hS 1 rfl _ _ rfl _ _ rfl _ _ rfl _ (by first | rfl | assumption) Tryz.underlying39 rfl (by kernel_rfl) ?_) | (refine B7 hS 2 rfl _ _ rfl _ _ rfl _ _ rfl _ (by first | rfl | assumption) Tryz.underlying39 rfl (by kernel_rfl) ?_) | (refine B7 hS 3 rfl _ _ rfl _ _ rfl _ _ rfl _ (by first | rfl | assumption) Tryz.underlying39 rfl (by kernel_rfl) ?_) | (refine B7 hS 4 rfl _ _ rfl _ _ rfl _ _ rfl _ (by first | rfl | assumption) Tryz.underlying39 rfl (by kernel_rfl) ?_) | (refine B7 hS 5 rfl _ _ rfl _ _ rfl _ _ rfl _ (by first | rfl | assumption) Tryz.underlying39 rfl (by kernel_rfl) ?_))
   | ((with_reducible refine qK ?_); refine qC hS ?_)
   | (go_at_call 62; first
      | ((with_reducible show Calls _ _ #[.agg #[.slice A m c]] _ _); refine (G7 _ y _ _ (ka _ _ hS.ro)).mono ?_; rw [<- HB1.out]; rintro r_ w_ ⟨_, rfl, rfl, hb_⟩; replace hS := hS.ext hb_; clear hb_)
      | ((with_reducible show Calls _ _ #[.agg #[.slice B k d]] _ _); refine (G7 _ n _ _ (kb _ _ hS.ro)).mono ?_; rw [<- HB2.out]; rintro r_ w_ ⟨_, rfl, rfl, hb_⟩; replace hS := hS.ext hb_; clear hb_)))
  go_ret
  exact Ax.mk (by rw [HR.out]; rfl) hS.below
theorem kn1_any {w : World} {E : Nat -> Prop} {x sv : Value} {z : Nat × Nat} {N g : Nat} (hx : x = .agg #[.int .i64 (z.1 : Nat), .int .i64 (z.2 : Nat)]) (hb : CH w E g #[sv]) (hs : A5 w E (.agg #[sv]) N) : Calls Tryz.prog 134 #[x, .pointer (some ⟨g, 0, none⟩)] w (Ax (fun r _ => r = .bool (Cj N z.1 && Cj N z.2)) w) := by
 subst hx
 obtain ⟨C, l, e, rfl⟩ := hs.shape
 obtain ⟨K, kb, kc, hS⟩ : ∃ K : (Nat -> Prop) -> World -> Prop, (∀ D w, K D w -> CH w D g #[.slice C l e]) /\ (∀ D w, K D w -> A5 w D (.agg #[.slice C l e]) N) /\ St w w [] K :=
  ⟨fun D w => CH w D g #[.slice C l e] /\ A5 w D (.agg #[.slice C l e]) N, fun _ _ h => h.1, fun _ _ h => h.2, St.start (D := fun _ => True) (Be.and Ah) ⟨Be E _ w w hb (Nat.le_refl _) (fun _ _ _ _ h => h) fun _ _ _ _ => trivial, hs.imp fun _ _ _ => trivial⟩⟩
 clear hb hs
 obtain ⟨za, zb⟩ := z
 dsimp only
 obtain ⟨b1, hb1⟩ : ∃ b, b = Cj N za := ⟨_, rfl⟩
 rw [<- hb1]
 have HB1 := Lib.hid hb1
 obtain ⟨b2, hb2⟩ : ∃ b, b = Cj N zb := ⟨_, rfl⟩
 rw [<- hb2]
 have HB2 := Lib.hid hb2
 clear hb1 hb2
 go_enter Tryz.func134, Tryz.ntmps134
 cases b1
 ·go_wp2_with (first
   | ((with_reducible refine qA 2 ?_); refine AH hS rfl _ _ rfl (.agg #[.int .i64 (za : Nat), .int .i64 (zb : Nat)]) _ rfl rfl ?_; clear hS; intro g2 w_ hS; (try simp only [Act.put, Act.eval, zz, Value.cells] at hS))
   | ((with_reducible refine qk 39 ?_); refine BigFrame.wpList_want rfl fun _ hK => Bb (cs := [.slice C l e]) rfl rfl (rng1 ((kb _ _ hS.ro).cell 0 rfl)) Tryz.underlying39 rfl (by kernel_rfl) (hK _ _ ?_))
   | ((with_reducible refine qK ?_); refine qC hS ?_)
   | (go_at_call 89; refine (DM _ N za _ _ (kc _ _ hS.ro)).mono ?_; rw [<- HB1.out]; rintro r_ w_ ⟨_, rfl, rfl, hb_⟩; replace hS := hS.ext hb_; clear hb_))
  go_ret
  exact Ax.mk rfl hS.below
 ·go_wp2_with (first
   | ((with_reducible refine qA 2 ?_); refine AH hS rfl _ _ rfl (.agg #[.int .i64 (za : Nat), .int .i64 (zb : Nat)]) _ rfl rfl ?_; clear hS; intro g2 w_ hS; (try simp only [Act.put, Act.eval, zz, Value.cells] at hS))
   | ((with_reducible refine qk 39 ?_); refine BigFrame.wpList_want rfl fun _ hK => Bb (cs := [.slice C l e]) rfl rfl (rng1 ((kb _ _ hS.ro).cell 0 rfl)) Tryz.underlying39 rfl (by kernel_rfl) (hK _ _ ?_))
   | ((with_reducible refine qK ?_); refine qC hS ?_))
  refine (DM _ N za _ _ (kc _ _ hS.ro)).mono ?_
  rw [<- HB1.out]
  rintro r_ w_ ⟨_, rfl, rfl, hb_⟩
  replace hS := hS.ext hb_
  clear hb_
  go_wp2_with (first
   | ((with_reducible refine qk 39 ?_); refine BigFrame.wpList_want rfl fun _ hK => Bb (cs := [.slice C l e]) rfl rfl (rng1 ((kb _ _ hS.ro).cell 0 rfl)) Tryz.underlying39 rfl (by kernel_rfl) (hK _ _ ?_))
   | ((with_reducible refine qK ?_); refine qC hS ?_))
  refine (DM _ N zb _ _ (kc _ _ hS.ro)).mono ?_
  rw [<- HB2.out]
  rintro r_ w_ ⟨_, rfl, rfl, hb_⟩
  replace hS := hS.ext hb_
  clear hb_
  go_wp2_with fail
  go_ret
  exact Ax.mk rfl hS.below
theorem kn2_any {w : World} {D E : Nat -> Prop} {x sv : Value} {z : B3} {N g : Nat} (hx : GL w D x z) (hb : CH w E g #[sv]) (hs : A5 w E (.agg #[sv]) N) : Calls Tryz.prog 135 #[x, .pointer (some ⟨g, 0, none⟩)] w (Ax (fun r _ => r = .bool (Cj N z.target)) w) := by
 obtain ⟨a, b, rfl, ha, hb1⟩ := hx
 obtain ⟨C, l, e, rfl⟩ := hs.shape
 obtain ⟨A, m, c, rfl⟩ := ha.shape
 obtain ⟨B, k, d, rfl⟩ := hb1.shape
 clear ha hb1
 obtain ⟨K, kb, kc, hS⟩ : ∃ K : (Nat -> Prop) -> World -> Prop, (∀ D w, K D w -> CH w D g #[.slice C l e]) /\ (∀ D w, K D w -> A5 w D (.agg #[.slice C l e]) N) /\ St w w [] K :=
  ⟨fun D w => CH w D g #[.slice C l e] /\ A5 w D (.agg #[.slice C l e]) N, fun _ _ h => h.1, fun _ _ h => h.2, St.start (D := fun _ => True) (Be.and Ah) ⟨Be E _ w w hb (Nat.le_refl _) (fun _ _ _ _ h => h) fun _ _ _ _ => trivial, hs.imp fun _ _ _ => trivial⟩⟩
 clear hb hs
 go_enter Tryz.func135, Tryz.ntmps135
 go_wp2_with (first
  | ((with_reducible refine qA 2 ?_); refine AH hS rfl _ _ rfl (.agg #[.bool z.revoke, .slice A m c, .slice B k d, .int .i64 z.target, .int .i64 z.origin]) _ rfl rfl ?_; clear hS; intro g2 w_ hS; (try simp only [Act.put, Act.eval, zz, Value.cells] at hS))
  | ((with_reducible refine qk 39 ?_); refine BigFrame.wpList_want rfl fun _ hK => Bb (cs := [.slice C l e]) rfl rfl (rng1 ((kb _ _ hS.ro).cell 0 rfl)) Tryz.underlying39 rfl (by kernel_rfl) (hK _ _ ?_))
  | ((with_reducible refine qK ?_); refine qC hS ?_)
  | (go_at_call 89; refine (DM _ N z.target _ _ (kc _ _ hS.ro)).mono ?_; rintro r_ w_ ⟨_, rfl, rfl, hb_⟩; replace hS := hS.ext hb_; clear hb_))
 go_ret
 exact Ax.mk rfl hS.below
def Gp (N : Nat) (z : Nat × Nat) : Bool := (z.1 ||| z.2) &&& N == (z.1 ||| z.2)
theorem kn3_any {w : World} {D E : Nat -> Prop} {x sv : Value} {z : Nat × Nat} {N g : Nat} (hx : Bi w D x z) (hb : CH w E g #[sv]) (hs : A5 w E (.agg #[sv]) N) : Calls Tryz.prog 137 #[x, .pointer (some ⟨g, 0, none⟩)] w (Ax (fun r _ => r = .bool (Gp N z)) w) := by
 obtain ⟨a, b, rfl, ha, hb1⟩ := hx
 obtain ⟨y, n⟩ := z
 dsimp only at ha hb1
 obtain ⟨A, m, c, rfl⟩ := ha.shape
 obtain ⟨B, k, d, rfl⟩ := hb1.shape
 obtain ⟨C, l, e, rfl⟩ := hs.shape
 obtain ⟨K, ka, kn, kb, kc, hS⟩ : ∃ K : (Nat -> Prop) -> World -> Prop, (∀ D w, K D w -> A5 w D (.agg #[.slice A m c]) y) /\ (∀ D w, K D w -> A5 w D (.agg #[.slice B k d]) n) /\ (∀ D w, K D w -> CH w D g #[.slice C l e]) /\ (∀ D w, K D w -> A5 w D (.agg #[.slice C l e]) N) /\ St w w [] K :=
  ⟨fun D w => (A5 w D (.agg #[.slice A m c]) y /\ A5 w D (.agg #[.slice B k d]) n) /\ CH w D g #[.slice C l e] /\ A5 w D (.agg #[.slice C l e]) N, fun _ _ h => h.1.1, fun _ _ h => h.1.2, fun _ _ h => h.2.1, fun _ _ h => h.2.2, St.start (D := fun _ => True) ((Ah.and Ah).and (Be.and Ah)) ⟨⟨ha.imp fun _ _ _ => trivial, hb1.imp fun _ _ _ => trivial⟩, Be E _ w w hb (Nat.le_refl _) (fun _ _ _ _ h => h) fun _ _ _ _ => trivial, hs.imp fun _ _ _ => trivial⟩⟩
 clear ha hb1 hb hs
 have HR := Lib.hid (show Gp N (y, n) = ((y ||| n) &&& N == (y ||| n)) from rfl)
 generalize Gp N (y, n) = R at *
 go_enter Tryz.func137, Tryz.ntmps137
 go_wp2_with (first
  | ((with_reducible refine qA 2 ?_); refine AH hS rfl _ _ rfl (.agg #[.slice A m c, .slice B k d]) _ rfl rfl ?_; clear hS; intro g2 w_ hS; (try simp only [Act.put, Act.eval, zz, Value.cells] at hS)))
 refine EB [.q g2 0, .i (.agg #[.slice A m c]), .q g2 1, .i (.agg #[.slice B k d]), .s (fun v w => A5 w (fun _ => True) v (y ||| n)) fun v w w' h hb => h.ext hb, .i (.agg #[.slice C l e]), .i (.bool R), .i (.bool R)] ⟨uF, ?_, uF, ?_, ?_, uD (h := fun w hW hN => rng1 ((kb _ _ (hS.ext hW).ro).cell 0 rfl)), ?_, uA, trivial⟩ ?_
 ·refine uT fun b__ w hW hE K hK => ?_
  have e4 := hE 4
  exact Ke rfl e4 ((hS.ext hW).box 0 rfl) rfl Tryz.underlying39 (by kernel_rfl) (by kernel_rfl) (hK _ _ rfl (Below.refl _ _))
 ·refine uT fun b__ w hW hE K hK => ?_
  have e6 := hE 6
  exact Ke rfl e6 ((hS.ext hW).box 0 rfl) rfl Tryz.underlying39 (by kernel_rfl) (by kernel_rfl) (hK _ _ rfl (Below.refl _ _))
 ·refine uT fun b__ w hW hE K hK => ?_
  have e5 := hE 5
  have e7 := hE 7
  exact AV rfl (by kernel_rfl) (by simp only [List.map_cons, List.map_nil, e5, e7]) (or_any _ _ _ _ _ _ _ (ka _ _ (hS.ext hW).ro) (kn _ _ (hS.ext hW).ro)) fun v w' h hb => hK v w' (h.imp fun _ _ _ => trivial) hb
 ·refine uT fun b__ w hW hE K hK => ?_
  have e8 := hE 8
  have e9 := hE 9
  exact AV rfl (by kernel_rfl) (by simp only [List.map_cons, List.map_nil, e9]) (EQ _ _ _ _ _ _ _ e8 (kc _ _ (hS.ext hW).ro)) fun v w' h hb => hK v w' (h.trans (by rw [HR.out])) hb
 ·intro vs wz hW hT
  obtain ⟨e4, e5, e6, e7, e8, e9, e10, e3, -⟩ := hT
  have bx : (fun _ : Nat => True) 0 := trivial
  simp only [AL, Act.put, zz, ze]
  rw [e3]
  go_wp2_with fail
  go_ret
  exact Ax.mk rfl (CE hS.below hW)
end
section
open Go.RowKit
attribute [local go_sem ↓] Go.wp_at_zero Go.wp_at_succ
set_option maxRecDepth 20000
set_option exponentiation.threshold 5000
def AZ (r : Nat) : Nat := del (2 ^ (r + 1) - 1) 0
def CN (p : AP) (L : List (Nat × Nat)) (N : Nat) : Bool :=
 p.start &&& N == p.start && (L.all (fun z => Cj N z.1 && Cj N z.2) && (p.rules.all (fun z => Cj N z.target) && p.cubes.all (Gp N)))
set_option maxHeartbeats 2000000 in
theorem known_any {w0 : World} {D : Nat -> Prop} {v : Value} {p : AP} {L : List (Nat × Nat)} {r : Nat} (hp : BR w0 D v p) (hP : p.Ok) (hl : p.links = some L) (hr : p.roles = (r : Int)) (h63 : r <= 63) :
  Calls Tryz.prog 63 #[v] w0 (Ax (fun x _ => x = .bool (CN p L (AZ r))) w0) := by
 obtain ⟨N, hN⟩ : ∃ N, N = AZ r := ⟨_, rfl⟩
 rw [<- hN]
 have HN := Lib.hid hN
 clear hN
 obtain ⟨R, lk, st, rl, nl, gl⟩ := p
 dsimp only at hl hr
 subst hl hr
 have HL := Lib.hid (hP.links L rfl).2
 have HP := Lib.hid hP
 clear hP
 obtain ⟨lp, s, rv, nv, gv, rfl, h1, h2, h3, h4, h5⟩ := hp
 dsimp only at h1 h2 h3 h4 h5
 obtain ⟨q, o, rfl, -⟩ := id h1
 obtain ⟨Cs, ns, cs, rfl⟩ := h2.shape
 obtain ⟨Ar, cr, rfl, _, _⟩ := h3.shape
 obtain ⟨An, cn, rfl, _, _⟩ := h4.shape
 obtain ⟨Ag, cg, rfl, _, _⟩ := h5.shape
 obtain ⟨K, kp, kh, ks, kr, hS⟩ : ∃ K : (Nat -> Prop) -> World -> Prop, (∀ D w, K D w -> BR w D (.agg #[.int .i64 (r : Nat), .pointer (some ⟨q, 0, none⟩), .slice Cs ns cs, .slice Ar rl.length cr, .slice An nl.length cn, .slice Ag gl.length cg]) ⟨(r : Int), some L, st, rl, nl, gl⟩) /\ (∀ D w, K D w -> Il w D (.pointer (some ⟨q, 0, none⟩)) L) /\ (∀ D w, K D w -> A5 w D (.agg #[.slice Cs ns cs]) st) /\ (∀ D w, K D w -> BI w D (.slice Ar rl.length cr) rl) /\ St w0 w0 [] K :=
  ⟨fun D w => ((IsHo w D (.pointer (some ⟨q, 0, none⟩)) (some L) /\ A5 w D (.agg #[.slice Cs ns cs]) st) /\ BI w D (.slice Ar rl.length cr) rl /\ Ab w D (.slice An nl.length cn) nl /\ Ab w D (.slice Ag gl.length cg) gl), fun _ _ h => ⟨_, _, _, _, _, rfl, h.1.1, h.1.2, h.2.1, h.2.2.1, h.2.2.2⟩, fun _ _ h => h.1.1, fun _ _ h => h.1.2, fun _ _ h => h.2.1,
   St.start (D := fun _ => True) ((De.and Ah).and (C9.and (AY.and AY))) ⟨⟨De D _ w0 w0 h1 (Nat.le_refl _) (fun _ _ _ _ h => h) fun _ _ _ _ => trivial, h2.imp fun _ _ _ => trivial⟩, C9 D _ w0 w0 h3 (Nat.le_refl _) (fun _ _ _ _ h => h) fun _ _ _ _ => trivial, h4.imp fun _ _ _ => trivial, h5.imp fun _ _ _ => trivial⟩⟩
 clear h1 h2 h3 h4 h5
 obtain ⟨b1, hb1⟩ : ∃ b, b = (st &&& N == st) := ⟨_, rfl⟩
 obtain ⟨b2, hb2⟩ : ∃ b, b = L.all (fun z => Cj N z.1 && Cj N z.2) := ⟨_, rfl⟩
 obtain ⟨b3, hb3⟩ : ∃ b, b = rl.all (fun z => Cj N z.target) := ⟨_, rfl⟩
 obtain ⟨b4, hb4⟩ : ∃ b, b = (AP.cubes ⟨(r : Int), some L, st, rl, nl, gl⟩).all (Gp N) := ⟨_, rfl⟩
 have HR : Hid (CN ⟨(r : Int), some L, st, rl, nl, gl⟩ L N = (b1 && (b2 && (b3 && b4)))) := Lib.hid (by rw [hb1, hb2, hb3, hb4]; rfl)
 have HB1 := Lib.hid hb1
 have HB2 := Lib.hid hb2
 have HB3 := Lib.hid hb3
 have HB4 := Lib.hid hb4
 clear hb1 hb2 hb3 hb4
 obtain ⟨m, hm⟩ : ∃ m, m = r + 1 := ⟨_, rfl⟩
 have hm1 : ((r : Int) + 1) = (m : Int) := by omega
 have hm2 : m <= 4096 := by omega
 have HM : Hid (del (2 ^ m - 1) 0 = N) := Lib.hid (by rw [HN.out, hm]; rfl)
 clear hm
 go_enter Tryz.func63, Tryz.ntmps63
 go_wp2_with (first
  | ((with_reducible refine qA 1 ?_); refine AH hS rfl _ _ rfl (.agg #[.int .i64 (r : Nat), .pointer (some ⟨q, 0, none⟩), .slice Cs ns cs, .slice Ar rl.length cr, .slice An nl.length cn, .slice Ag gl.length cg]) _ rfl rfl ?_; clear hS; intro g1 w_ hS; (try simp only [Act.put, Act.eval, zz, Value.cells] at hS))
  | ((with_reducible refine qK ?_); refine qC hS ?_)
  | (go_at_call 68; refine (below_any m _ hm2).mono ?_; rintro r_ w_ ⟨v1, rfl, h1, hb_⟩; replace hS := hS.ret hb_ Ah h1; clear h1 hb_; obtain ⟨B1, c1, w1, rfl, -⟩ := hS.ro.2.parts)
  | (go_at_call 69; refine (IM _ _ 0 _ _ hS.ro.2).mono ?_; rw [HM.out]; rintro r_ w_ ⟨v2, rfl, h1, hb_⟩; replace hS := hS.ret2 hb_ Ah h1; clear h1 hb_; obtain ⟨B2, c2, w2, rfl, -⟩ := hS.ro.2.parts; obtain ⟨n2, hn2⟩ : ∃ n, n = w2.length := ⟨_, rfl⟩; rw [<- hn2] at hS ⊢; clear hn2)
  | ((with_reducible refine qA 3 ?_); refine qa hS #[.slice none 0 0] ?_; clear hS; intro g3 w_ hS)
  | (((with_reducible refine qM ?_); (first | refine qS hS ?_ | refine qT hS ?_); clear hS; intro w_ hS; (try simp only [Act.put, Act.eval, zz, Value.cells] at hS)); replace hS := hS.sealB 0 (by simp) rfl)
  | ((with_reducible refine qk 39 ?_); first | (refine B7 hS 0 rfl _ _ rfl _ _ rfl _ _ rfl _ (by first | rfl | assumption) Tryz.underlying39 rfl (by kernel_rfl) ?_) | (refine B7 hS 1 rfl _ _ rfl _ _ rfl _ _ rfl _ (by first | rfl | assumption) Tryz.underlying39 rfl (by kernel_rfl) ?_) | (refine B7 hS 2 rfl _ _ rfl _ _ rfl _ _ rfl _ (by first | rfl | assumption) Tryz.underlying39 rfl (by kernel_rfl) ?_) | (refine B7 hS 3 rfl _ _ rfl _ _ rfl _ _ rfl _ (by first | rfl | assumption) Tryz.underlying39 rfl (by kernel_rfl) ?_) | (refine B7 hS 4 rfl _ _ rfl _ _ rfl _ _ rfl _ (by first | rfl | assumption) Tryz.underlying39 rfl (by kernel_rfl) ?_) | (refine B7 hS 5 rfl _ _ rfl _ _ rfl _ _ rfl _ (by first | rfl | assumption) Tryz.underlying39 rfl (by kernel_rfl) ?_))
  | ((with_reducible refine qA 11 ?_); refine BigFrame.wpList_want rfl fun _ hK => Bb (cs := [.slice B2 n2 c2]) rfl rfl (rng1 (hS.ro.2.cell 0 rfl)) Tryz.underlying39 rfl (by kernel_rfl) (hK _ _ ?_)))
 obtain ⟨K1, kk, k3, kN, hS2⟩ : ∃ K1 : (Nat -> Prop) -> World -> Prop, (∀ D w, K1 D w -> K D w) /\ (∀ D w, K1 D w -> CH w D g3 #[.slice B2 n2 c2]) /\ (∀ D w, K1 D w -> A5 w D (.agg #[.slice B2 n2 c2]) N) /\ St w0 w_ [.box g1 43 #[.int .i64 (r : Nat), .pointer (some ⟨q, 0, none⟩), .slice Cs ns cs, .slice Ar rl.length cr, .slice An nl.length cn, .slice Ag gl.length cg]] K1 := ⟨_, fun _ _ h => h.1.1.1, fun _ _ h => h.2, fun _ _ h => h.1.2, hS⟩
 clear hS
 have hS := hS2
 clear hS2
 refine (EQ _ _ st N _ _ _ (ks _ _ (kk _ _ hS.ro)) (kN _ _ hS.ro)).mono ?_
 rw [<- HB1.out]
 rintro r_ w5 ⟨_, rfl, rfl, hb_⟩
 replace hS := hS.ext hb_
 clear hb_
 cases b1
 ·go_wp2_with fail
  go_ret
  exact Ax.mk (by rw [HR.out]; rfl) hS.below
 go_wp2_with (first
  | ((with_reducible refine qK ?_); refine qC hS ?_)
  | (go_at_call 96; refine (Kn (kh _ _ (kk _ _ hS.ro)) (by have := HL.out; omega)).mono ?_; rintro e w_ ⟨v4, rfl, hs⟩; replace hS := hS.new hs.below (.own v4 107 2 L.length (A6 L)) (hs.own 0 rfl); clear hs; replace hS := hS.freeze 0 (by decide) rfl))
 refine (allp_any v4 L 134 #[] #[.pointer (some ⟨g3, 0, none⟩)] (fun z => Cj N z.1 && Cj N z.2) (by kernel_rfl) hS (fun D w h => h.2) fun x z w _ ⟨F', h⟩ hx => kn1_any hx (k3 _ _ h.ro.1) (kN _ _ h.ro.1)).mono ?_
 rw [<- HB2.out]
 clear hS
 rintro r_ w6 ⟨rfl, hS⟩
 cases b2
 ·go_wp2_with fail
  go_ret
  exact Ax.mk (by rw [HR.out]; rfl) hS.below
 go_wp2_with (first | ((with_reducible refine qK ?_); refine qC hS ?_))
 refine (allr_any _ rl 135 #[] #[.pointer (some ⟨g3, 0, none⟩)] (fun z => Cj N z.target) (by kernel_rfl) hS (fun D w h => kr D w (kk D w h.1)) fun x z w _ ⟨F', h⟩ => kn2_any h.ro.2 (k3 _ _ h.ro.1.1) (kN _ _ h.ro.1.1)).mono ?_
 rw [<- HB3.out]
 clear hS
 rintro r_ w7 ⟨rfl, hS⟩
 cases b3
 ·go_wp2_with fail
  go_ret
  exact Ax.mk (by rw [HR.out]; rfl) hS.below
 go_wp2_with (first
  | ((with_reducible refine qA 27 ?_); refine BigFrame.wpList_want rfl fun _ hK => C2 rfl rfl (hS.box 0 rfl) Tryz.underlying43 rfl (by kernel_rfl) (hK _ _ ?_))
  | (go_at_call 65; refine (K0 HP.out hS (fun D w h => kp D w (kk D w h.1))).mono ?_; clear hS; rintro e w_ ⟨v8, rfl, hS⟩))
 refine (allc_any v8 _ 137 #[] #[.pointer (some ⟨g3, 0, none⟩)] (Gp N) (by kernel_rfl) hS (fun D w h => h.2) fun x z w _ ⟨F', h⟩ => kn3_any h.ro.2 (k3 _ _ h.ro.1.1.1) (kN _ _ h.ro.1.1.1)).mono ?_
 rw [<- HB4.out]
 clear hS
 rintro r_ w9 ⟨rfl, hS⟩
 go_wp2_with fail
 go_ret
 exact Ax.mk (by rw [HR.out]; rfl) hS.below
end
section
open Go.RowKit
attribute [local go_sem ↓] Go.wp_at_zero Go.wp_at_succ
set_option maxRecDepth 20000
set_option exponentiation.threshold 5000
noncomputable def checkE (p : AP) : Int := match p.links with
 | none => 1
 | some L => if p.roles < 1 \/ 63 < p.roles then 1 else if 64 < p.rules.length \/ 2000 < p.never.length \/ 2000 < p.goal.length then 3
  else if CN p L (AZ p.roles.toNat) = false then 4 else if (p.cubes.any fun z => z.1 &&& z.2 != 0) = true \/ p.rules.all Jh = false then 6
  else if goodB p p.start = false then 7 else 0
theorem BR.shape6 {w : World} {D : Nat -> Prop} {v : Value} {p : AP} (h : BR w D v p) : ∃ la As ns cs Ar cr An cn Ag cg, v = .agg #[.int .i64 p.roles, .pointer la, .slice As ns cs, .slice Ar p.rules.length cr, .slice An p.never.length cn, .slice Ag p.goal.length cg] := by
 obtain ⟨lp, s, rv, nv, gv, rfl, h1, h2, h3, h4, h5⟩ := h
 obtain ⟨la, rfl⟩ : ∃ la, lp = .pointer la := by
  cases hl : p.links with
  | none => rw [hl] at h1; exact ⟨none, h1⟩
  | some L => rw [hl] at h1; obtain ⟨q, o, rfl, -⟩ := h1; exact ⟨_, rfl⟩
 obtain ⟨Cs, ns, cs, rfl⟩ := h2.shape
 obtain ⟨Ar, cr, rfl, _, _⟩ := h3.shape
 obtain ⟨An, cn, rfl, _, _⟩ := h4.shape
 obtain ⟨Ag, cg, rfl, _, _⟩ := h5.shape
 exact ⟨_, _, _, _, _, _, _, _, _, _, rfl⟩
theorem cempty_any {w : World} {D : Nat -> Prop} {x : Value} {z : Nat × Nat} (hx : Bi w D x z) : Calls Tryz.prog 66 #[x] w (Ax (fun u _ => u = .bool (z.1 &&& z.2 != 0)) w) := by
 obtain ⟨a, b, rfl, ha, hb⟩ := hx
 exact FL a b _ _ w D D ha hb
set_option maxHeartbeats 2000000 in
theorem schk_any {w0 : World} {D : Nat -> Prop} {v : Value} {p : AP} (hp : BR w0 D v p) (hP : p.Ok) (hT : Cw w0) : Calls Tryz.prog 17 #[v] w0 (Ax (fun x _ => x = .int .i64 (checkE p)) w0) := by
 obtain ⟨R, lk, st, rl, nl, gl⟩ := p
 have HP := Lib.hid hP
 obtain ⟨hP1, hP2, hP3, -⟩ := hP
 dsimp only at hP1 hP2 hP3
 obtain ⟨lp, s, rv, nv, gv, rfl, h1, h2, h3, h4, h5⟩ := hp
 dsimp only at h1 h2 h3 h4 h5 ⊢
 obtain ⟨Cs, ns, cs, rfl⟩ := h2.shape
 obtain ⟨Ar, cr, rfl, _, _⟩ := h3.shape
 obtain ⟨An, cn, rfl, _, _⟩ := h4.shape
 obtain ⟨Ag, cg, rfl, _, _⟩ := h5.shape
 obtain ⟨K, kp, kh, ks, kr, kt, hS⟩ : ∃ K : (Nat -> Prop) -> World -> Prop, (∀ D w, K D w -> BR w D (.agg #[.int .i64 R, lp, .slice Cs ns cs, .slice Ar rl.length cr, .slice An nl.length cn, .slice Ag gl.length cg]) ⟨R, lk, st, rl, nl, gl⟩) /\ (∀ D w, K D w -> IsHo w D lp lk) /\ (∀ D w, K D w -> A5 w D (.agg #[.slice Cs ns cs]) st) /\ (∀ D w, K D w -> BI w D (.slice Ar rl.length cr) rl) /\ (∀ D w, K D w -> Cw w) /\ St w0 w0 [] K :=
  ⟨fun D w => ((IsHo w D lp lk /\ A5 w D (.agg #[.slice Cs ns cs]) st) /\ BI w D (.slice Ar rl.length cr) rl /\ Ab w D (.slice An nl.length cn) nl /\ Ab w D (.slice Ag gl.length cg) gl) /\ (Cw w /\ D 0), fun _ _ h => ⟨_, _, _, _, _, rfl, h.1.1.1, h.1.1.2, h.1.2.1, h.1.2.2.1, h.1.2.2.2⟩, fun _ _ h => h.1.1.1, fun _ _ h => h.1.1.2, fun _ _ h => h.1.2.1, fun _ _ h => h.2.1,
   St.start (D := fun _ => True) (((De.and Ah).and (C9.and (AY.and AY))).and Ek) ⟨⟨⟨De D _ w0 w0 h1 (Nat.le_refl _) (fun _ _ _ _ h => h) fun _ _ _ _ => trivial, h2.imp fun _ _ _ => trivial⟩, C9 D _ w0 w0 h3 (Nat.le_refl _) (fun _ _ _ _ h => h) fun _ _ _ _ => trivial, h4.imp fun _ _ _ => trivial, h5.imp fun _ _ _ => trivial⟩, hT, trivial⟩⟩
 clear h1 h2 h3 h4 h5 hT
 cases lk with
 | none =>
  obtain rfl := kh _ _ hS.ro
  go_enter Tryz.func17, Tryz.ntmps17
  go_wp2_with (first
   | ((with_reducible refine qA 1 ?_); refine AH hS rfl _ _ rfl (.agg #[.int .i64 R, .pointer none, .slice Cs ns cs, .slice Ar rl.length cr, .slice An nl.length cn, .slice Ag gl.length cg]) _ rfl rfl ?_; clear hS; intro g1 w_ hS; (try simp only [Act.put, Act.eval, zz, Value.cells] at hS))
   | ((with_reducible refine qK ?_); refine qC hS ?_))
  go_ret
  exact Ax.mk rfl hS.below
 | some L =>
  obtain ⟨q, o, rfl, -⟩ := id (kh _ _ hS.ro)
  have HE := Lib.hid (show checkE ⟨R, some L, st, rl, nl, gl⟩ = if R < 1 \/ 63 < R then 1 else if 64 < rl.length \/ 2000 < nl.length \/ 2000 < gl.length then 3
   else if CN ⟨R, some L, st, rl, nl, gl⟩ L (AZ R.toNat) = false then 4 else if ((AP.cubes ⟨R, some L, st, rl, nl, gl⟩).any fun z => z.1 &&& z.2 != 0) = true \/ rl.all Jh = false then 6
   else if goodB ⟨R, some L, st, rl, nl, gl⟩ st = false then 7 else 0 from rfl)
  generalize checkE ⟨R, some L, st, rl, nl, gl⟩ = RES at *
  by_cases hR : R < 1 \/ 63 < R
  ·have hE : RES = 1 := by rw [HE.out, if_pos hR]
   subst hE
   by_cases hR1 : R < 1
   all_goals
    go_enter Tryz.func17, Tryz.ntmps17
    go_wp2_with (first
     | ((with_reducible refine qA 1 ?_); refine AH hS rfl _ _ rfl (.agg #[.int .i64 R, .pointer (some ⟨q, 0, none⟩), .slice Cs ns cs, .slice Ar rl.length cr, .slice An nl.length cn, .slice Ag gl.length cg]) _ rfl rfl ?_; clear hS; intro g1 w_ hS; (try simp only [Act.put, Act.eval, zz, Value.cells] at hS))
     | ((with_reducible refine qK ?_); refine qC hS ?_)
     | ((with_reducible refine qB ?_); refine qc ?_ ?_ <;> intro h_ <;> go_prune)
     )
    go_ret
    exact Ax.mk rfl hS.below
  obtain ⟨r, rfl⟩ : ∃ r : Nat, R = (r : Int) := ⟨R.toNat, by omega⟩
  have hr63 : 1 <= r /\ r <= 63 := by omega
  replace HE := Lib.hid (HE.out.trans (if_neg hR))
  clear hR
  by_cases hN : 64 < rl.length \/ 2000 < nl.length \/ 2000 < gl.length
  ·have hE : RES = 3 := by rw [HE.out, if_pos hN]
   subst hE
   by_cases hN1 : 64 < rl.length
   all_goals
    by_cases hN2 : 2000 < nl.length
    all_goals
     go_enter Tryz.func17, Tryz.ntmps17
     go_wp2_with (first
      | ((with_reducible refine qA 1 ?_); refine AH hS rfl _ _ rfl (.agg #[.int .i64 (r : Nat), .pointer (some ⟨q, 0, none⟩), .slice Cs ns cs, .slice Ar rl.length cr, .slice An nl.length cn, .slice Ag gl.length cg]) _ rfl rfl ?_; clear hS; intro g1 w_ hS; (try simp only [Act.put, Act.eval, zz, Value.cells] at hS))
      | ((with_reducible refine qK ?_); refine qC hS ?_)
      | ((with_reducible refine qB ?_); refine qc ?_ ?_ <;> intro h_ <;> go_prune)
      )
     go_ret
     exact Ax.mk rfl hS.below
  have hN1 : rl.length <= 64 /\ nl.length <= 2000 /\ gl.length <= 2000 := by omega
  obtain ⟨hN1, hN2, hN3⟩ := hN1
  replace HE := Lib.hid (HE.out.trans (if_neg hN))
  clear hN
  go_enter Tryz.func17, Tryz.ntmps17
  go_wp2_with (first
   | ((with_reducible refine qA 1 ?_); refine AH hS rfl _ _ rfl (.agg #[.int .i64 (r : Nat), .pointer (some ⟨q, 0, none⟩), .slice Cs ns cs, .slice Ar rl.length cr, .slice An nl.length cn, .slice Ag gl.length cg]) _ rfl rfl ?_; clear hS; intro g1 w_ hS; (try simp only [Act.put, Act.eval, zz, Value.cells] at hS))
   | ((with_reducible refine qK ?_); refine qC hS ?_)
   | ((with_reducible refine qB ?_); refine qc ?_ ?_ <;> intro h_ <;> go_prune)
   | ((with_reducible refine qK ?_); refine qL hS Tryz.underlying43 ?_))
  refine (known_any (kp _ _ hS.ro) HP.out rfl rfl hr63.2).mono ?_
  rintro e_ w1 ⟨_, rfl, rfl, hb_⟩
  replace hS := hS.ext hb_
  clear hb_
  have e1 : AZ ((r : Int)).toNat = AZ r := by rw [Int.toNat_natCast]
  rw [e1] at HE
  obtain ⟨b1, hb1⟩ : ∃ b, b = CN ⟨(r : Int), some L, st, rl, nl, gl⟩ L (AZ r) := ⟨_, rfl⟩
  rw [<- hb1] at HE ⊢
  clear hb1 e1
  cases b1
  ·have hE : RES = 4 := HE.out.trans (if_pos rfl)
   subst hE
   go_wp2_with fail
   go_ret
   exact Ax.mk rfl hS.below
  replace HE := Lib.hid (HE.out.trans (if_neg (by decide)))
  go_wp2_with (first
   | ((with_reducible refine qK ?_); refine qL hS Tryz.underlying43 ?_)
   | (go_at_call 65; refine (K0 HP.out hS kp).mono ?_; clear hS; rintro e w_ ⟨v8, rfl, hS⟩))
  refine (Kw v8 _ 66 #[] #[] (fun z => z.1 &&& z.2 != 0) (by kernel_rfl) hS (fun D w h => h.2) fun x z w _ ⟨F', h⟩ => cempty_any h.ro.2).mono ?_
  clear hS
  rintro r_ w2 ⟨rfl, hS⟩
  obtain ⟨b2, hb2⟩ : ∃ b, b = (AP.cubes ⟨(r : Int), some L, st, rl, nl, gl⟩).any fun z => z.1 &&& z.2 != 0 := ⟨_, rfl⟩
  rw [<- hb2] at HE ⊢
  clear hb2
  cases b2
  rotate_left
  ·have hE : RES = 6 := HE.out.trans (if_pos (.inl rfl))
   subst hE
   go_wp2_with fail
   go_ret
   exact Ax.mk rfl hS.below
  go_wp2_with (first | ((with_reducible refine qK ?_); refine qC hS ?_))
  refine (allr_any _ rl 61 #[] #[] Jh (by kernel_rfl) hS (fun D w h => kr D w h.1) fun x z w _ ⟨F', h⟩ => chk1_any h.ro.2).mono ?_
  clear hS
  rintro r_ w3 ⟨rfl, hS⟩
  obtain ⟨b3, hb3⟩ : ∃ b, b = rl.all Jh := ⟨_, rfl⟩
  rw [<- hb3] at HE ⊢
  clear hb3
  cases b3
  ·have hE : RES = 6 := HE.out.trans (if_pos (.inr rfl))
   subst hE
   go_wp2_with fail
   go_ret
   exact Ax.mk rfl hS.below
  replace HE := Lib.hid (HE.out.trans (if_neg (by decide)))
  go_wp2_with (first
   | ((with_reducible refine qK ?_); refine qL hS Tryz.underlying43 ?_)
   | ((with_reducible refine qk 39 ?_); first | (refine B7 hS 0 rfl _ _ rfl _ _ rfl _ _ rfl _ (by first | rfl | assumption) Tryz.underlying39 rfl (by kernel_rfl) ?_) | (refine B7 hS 1 rfl _ _ rfl _ _ rfl _ _ rfl _ (by first | rfl | assumption) Tryz.underlying39 rfl (by kernel_rfl) ?_) | (refine B7 hS 2 rfl _ _ rfl _ _ rfl _ _ rfl _ (by first | rfl | assumption) Tryz.underlying39 rfl (by kernel_rfl) ?_) | (refine B7 hS 3 rfl _ _ rfl _ _ rfl _ _ rfl _ (by first | rfl | assumption) Tryz.underlying39 rfl (by kernel_rfl) ?_) | (refine B7 hS 4 rfl _ _ rfl _ _ rfl _ _ rfl _ (by first | rfl | assumption) Tryz.underlying39 rfl (by kernel_rfl) ?_) | (refine B7 hS 5 rfl _ _ rfl _ _ rfl _ _ rfl _ (by first | rfl | assumption) Tryz.underlying39 rfl (by kernel_rfl) ?_)))
  refine (good_any (kp _ _ hS.ro.1) HP.out (kt _ _ hS.ro.1) (ks _ _ hS.ro.1)).mono ?_
  rintro e_ w4 ⟨_, rfl, rfl, hb_⟩
  replace hS := hS.ext hb_
  clear hb_
  obtain ⟨b4, hb4⟩ : ∃ b, b = goodB ⟨(r : Int), some L, st, rl, nl, gl⟩ st := ⟨_, rfl⟩
  rw [<- hb4] at HE ⊢
  clear hb4
  cases b4
  ·have hE : RES = 7 := HE.out.trans (if_pos rfl)
   subst hE
   go_wp2_with fail
   go_ret
   exact Ax.mk rfl hS.below
  have hE : RES = 0 := HE.out.trans (if_neg (by decide))
  subst hE
  go_wp2_with fail
  go_ret
  exact Ax.mk rfl hS.below
end
section
open Go.RowKit
attribute [local go_sem ↓] Go.wp_at_zero Go.wp_at_succ
set_option maxRecDepth 20000
set_option exponentiation.threshold 5000
theorem ty_rules : Bn Tryz.prog 40 84 5 72 := ⟨Tryz.underlying40, by kernel_rfl⟩
theorem vs_len5 {vs : List Value} (h : vs.length = 5) : ∃ x0 x1 x2 x3 x4, vs = [x0, x1, x2, x3, x4] := by
 obtain ⟨x, vs', rfl, h'⟩ := Jo h
 obtain ⟨y, z, u, t, rfl⟩ := Jm h'
 exact ⟨x, y, z, u, t, rfl⟩
end
section
open Go.RowKit
attribute [local go_sem ↓] Go.wp_at_zero Go.wp_at_succ
set_option maxRecDepth 20000
set_option exponentiation.threshold 5000
theorem BR.parts {w : World} {D : Nat -> Prop} {a lp s rv nv gv : Value} {p : AP} (h : BR w D (.agg #[a, lp, s, rv, nv, gv]) p) : IsHo w D lp p.links /\ A5 w D (.agg #[s]) p.start /\ BI w D rv p.rules /\ Ab w D nv p.never /\ Ab w D gv p.goal := by
 obtain ⟨lp', s', rv', nv', gv', he, h1, h2, h3, h4, h5⟩ := h
 have e : a = .int .i64 p.roles /\ lp = lp' /\ s = s' /\ rv = rv' /\ nv = nv' /\ gv = gv' := by simpa using he
 obtain ⟨-, rfl, rfl, rfl, rfl, rfl⟩ := e
 exact ⟨h1, h2, h3, h4, h5⟩
theorem AB.append {w : World} {D : Nat -> Prop} {xs ys : List Value} {l m : List B3} (hx : xs.length = l.length * 5) (h : AB w D xs l) (k : AB w D ys m) : AB w D (xs ++ ys) (l ++ m) := fun i z hi => by
 rcases Nat.lt_or_ge i l.length with h1 | h1
 ·rw [List.getElem?_append_left h1] at hi
  obtain ⟨a, b, q0, q1, q2, q3, q4, q5, q6⟩ := h i z hi
  refine ⟨a, b, ?_, ?_, ?_, ?_, ?_, q5, q6⟩
  all_goals rw [List.getElem?_append_left (by omega)]; assumption
 ·rw [List.getElem?_append_right h1] at hi
  obtain ⟨a, b, q0, q1, q2, q3, q4, q5, q6⟩ := k _ z hi
  refine ⟨a, b, ?_, ?_, ?_, ?_, ?_, q5, q6⟩
  ·rw [List.getElem?_append_right (by omega), <- q0]; congr 1; omega
  ·rw [List.getElem?_append_right (by omega), <- q1]; congr 1; omega
  ·rw [List.getElem?_append_right (by omega), <- q2]; congr 1; omega
  ·rw [List.getElem?_append_right (by omega), <- q3]; congr 1; omega
  ·rw [List.getElem?_append_right (by omega), <- q4]; congr 1; omega
theorem AB.single {w : World} {D : Nat -> Prop} {a b : Value} {z : B3} (ha : A5 w D (.agg #[a]) z.yes) (hb : A5 w D (.agg #[b]) z.no) : AB w D [.bool z.revoke, a, b, .int .i64 z.target, .int .i64 z.origin] [z] := fun i x hi => by
 cases i with
 | zero => obtain rfl := Option.some.inj (show some z = some x from hi); exact ⟨a, b, rfl, rfl, rfl, rfl, rfl, ha, hb⟩
 | succ i => simp at hi
end
section
open Go.RowKit
attribute [local go_sem ↓] Go.wp_at_zero Go.wp_at_succ
set_option maxRecDepth 20000
set_option exponentiation.threshold 5000
theorem A7.same {f : A7} {base : Nat} {w w' : World} (h : f.holds base w) (he : ∀ k, f.blk = some k -> w'.heap[k]? = w.heap[k]?) : f.holds base w' := by
 cases f with
 | box g t cs => exact ⟨h.1, (he g rfl).trans h.2⟩
 | own v e size n xs =>
  refine ⟨h.1, ?_⟩
  rcases h.2 with h | ⟨g, cap, cur, rfl, h2, h3, h4⟩
  ·exact .inl h
  ·exact .inr ⟨g, cap, cur, rfl, h2, (he g rfl).trans h3, h4⟩
 | obj g o => exact ⟨h.1, (he g rfl).trans h.2⟩
theorem St.isW {w0 w : World} {F : List A7} {K : (Nat -> Prop) -> World -> Prop} {q : Nat} {sv : Value} {bs : List Nat} (h : St w0 w (.box q 198 #[sv] :: .own sv 5 1 bs.length (Aa bs) :: F) K) : GI w (fun k => sv.ownBlock = some k) q bs :=
 ⟨sv, h.box 0 rfl, (A7.down (h.holds (.own sv 5 1 bs.length (Aa bs)) (by simp)) (Nat.zero_le _) :), fun _ h => h⟩
theorem St.wf {w0 w w' : World} {F : List A7} {K : (Nat -> Prop) -> World -> Prop} {q : Nat} {sv : Value} {bs bs' : List Nat} (h : St w0 w (.box q 198 #[sv] :: .own sv 5 1 bs.length (Aa bs) :: F) K)
  (hW : GI w' (Jc (fun k => sv.ownBlock = some k) w) q bs') (hF : WF (fun k => sv.ownBlock = some k) q w w') : ∃ sv', St w0 w' (.box q 198 #[sv'] :: .own sv' 5 1 bs'.length (Aa bs') :: F) K := by
 obtain ⟨sv', h1, h2, h3⟩ := hW
 have hq : w0.heap.size <= q := (h.holds (.box q 198 #[sv]) (by simp)).1
 have hr : ∀ k, sv.ownBlock = some k -> w0.heap.size <= k := fun k hk => A7.ge (h.holds (.own sv 5 1 bs.length (Aa bs)) (by simp)) hk
 have hap := h.apart
 rw [List.pairwise_cons, List.pairwise_cons] at hap
 have hge : ∀ k, sv'.ownBlock = some k -> w0.heap.size <= k := fun k hk => (h3 k hk).elim (hr k) fun e => Nat.le_trans h.size e
 have hown : w'.ownsRow w0.heap.size 5 1 sv' bs'.length (Aa bs') := by
  refine ⟨h2.1, ?_⟩
  rcases h2.2 with e | ⟨g, cap, cur, rfl, e2, e3⟩
  ·exact .inl e
  ·exact .inr ⟨g, cap, cur, rfl, hge g rfl, e3⟩
 have hkeep : ∀ f ∈ F, ∀ k, f.blk = some k -> w'.heap[k]? = w.heap[k]? := fun f hf k hk =>
  hF.other k (h.lt (by simp [hf]) hk) (fun e => hap.1 f (by simp [hf]) q rfl (by rw [hk, e])) fun e => hap.2.1 f hf k e hk
 have hqs : sv'.ownBlock ≠ some q := fun e => by
  have h5 := h1
  rcases h2.2 with e1 | ⟨g, cap, cur, rfl, e2, e3, _⟩
  ·rw [e1.1] at e; cases e
  ·injection e with e
   have e4 : w'.heap[g]? = _ := e3
   have e5 : w'.heap[q]? = _ := h5
   have e : g = q := e
   rw [e, e5] at e4
   simp at e4
 have hsv : ∀ f ∈ F, ∀ k, sv'.ownBlock = some k -> f.blk ≠ some k := fun f hf k hk e => by
  rcases h3 k hk with h4 | h4
  ·exact hap.2.1 f hf k h4 e
  ·have := h.lt (f := f) (by simp [hf]) e; omega
 refine ⟨sv', h.below.trans ⟨hF.os, hF.tape, hF.output, hF.size, fun k hk => hF.other k (Nat.lt_of_lt_of_le hk h.size) (by omega) fun e => by have := hr k e; omega⟩, fun f hf => ?_, ?_, h.stable, ?_⟩
 ·rcases List.mem_cons.1 hf with rfl | hf
  ·exact ⟨hq, h1⟩
  ·rcases List.mem_cons.1 hf with rfl | hf
   ·exact hown
   ·exact A7.same (h.holds f (by simp [hf])) (hkeep f hf)
 ·rw [List.pairwise_cons, List.pairwise_cons]
  refine ⟨fun f hf k hk e => ?_, fun f hf k hk => hsv f hf k hk, hap.2.2⟩
  injection hk with hk
  subst hk
  rcases List.mem_cons.1 hf with rfl | hf
  ·exact hqs e
  ·exact hap.1 f (by simp [hf]) _ rfl e
 ·refine h.stable _ _ _ _ h.ro hF.size (fun p x hp hlt hc => ?_) fun b hb hlt _ f hf e => ?_
  ·have hb : w'.heap[p.block]? = w.heap[p.block]? := hF.other _ hlt (fun e => hp (.box q 198 #[sv]) (by simp) (by rw [e]; rfl)) fun e => hp (.own sv 5 1 bs.length (Aa bs)) (by simp) e
   rw [<- hc]
   simp only [World.cell?, hb]
  ·rcases List.mem_cons.1 hf with rfl | hf
   ·exact hb _ (List.mem_cons_self ..) e
   ·rcases List.mem_cons.1 hf with rfl | hf
    ·rcases h3 b e with h4 | h4
     ·exact hb (.own sv 5 1 bs.length (Aa bs)) (by simp) h4
     ·omega
    ·exact hb f (by simp [hf]) e
theorem FW {w0 w : World} {F : List A7} {K : (Nat -> Prop) -> World -> Prop} {q : Nat} {sv : Value} {bs : List Nat} (h : St w0 w (.box q 198 #[sv] :: .own sv 5 1 bs.length (Aa bs) :: F) K) (v : Nat) (hv : v < AA) (hlen : bs.length <= 100000000000) :
  Calls Tryz.prog 102 #[.pointer (some ⟨q, 0, none⟩), .int .u64 (v : Nat)] w fun e w' => e = .returned (.tuple #[]) /\ ∃ sv', St w0 w' (.box q 198 #[sv'] :: .own sv' 5 1 (bs ++ Ao v).length (Aa (bs ++ Ao v)) :: F) K :=
 (Ft q v bs w _ h.isW hv hlen).mono fun _ _ ⟨h1, h2, h3⟩ => ⟨h1, h.wf h2 h3⟩
theorem st_wnew {w0 w : World} {F : List A7} {K : (Nat -> Prop) -> World -> Prop} (h : St w0 w F K) :
  Calls Tryz.prog 101 #[] w fun e w' => ∃ q, e = .returned (.pointer (some ⟨q, 0, none⟩)) /\ ∃ sv, St w0 w' (.box q 198 #[sv] :: .own sv 5 1 ([] : List Nat).length (Aa []) :: F) K :=
 (Ex w).mono fun _ _ ⟨h1, h2⟩ => ⟨_, h1, .slice none 0 0, by
  rw [h2]
  exact ((h.new ((Below.refl _ _).alloc (Nat.le_refl _) _) (.box w.heap.size 198 #[.slice none 0 0]) ⟨Nat.le_refl _, AW.new _ _ _⟩).nil 5 1).swap⟩
theorem st_wout {w0 w : World} {F : List A7} {K : (Nat -> Prop) -> World -> Prop} {q : Nat} {sv : Value} {bs : List Nat} (h : St w0 w (.box q 198 #[sv] :: .own sv 5 1 bs.length (Aa bs) :: F) K) (hlen : bs.length <= 1000000000000) (h0 : 0 < bs.length) :
  Calls Tryz.prog 109 #[.pointer (some ⟨q, 0, none⟩)] w fun e w' => ∃ v, e = .returned v /\ St w0 w' (.own v 5 1 bs.length (Aa bs) :: .box q 198 #[sv] :: .own sv 5 1 bs.length (Aa bs) :: F) K :=
 (JA q bs w _ h.isW hlen).mono fun _ _ ⟨v, h1, h2, h3⟩ => ⟨v, h1, h.new h3 (.own v 5 1 bs.length (Aa bs)) (h2.2 h0)⟩
end
section
open Go.RowKit
attribute [local go_sem ↓] Go.wp_at_zero Go.wp_at_succ
set_option maxRecDepth 20000
set_option exponentiation.threshold 5000
def Cb (L : List (Nat × Nat)) : List Nat := L.flatMap fun z => Ao z.1 ++ Ao z.2
def Cz (L : List (Nat × Nat)) : List Nat := Ao L.length ++ Cb L
theorem J7 {L : List (Nat × Nat)} {j : Nat} {z : Nat × Nat} (h : L[j]? = some z) : Cb (L.take (j + 1)) = Cb (L.take j) ++ Ao z.1 ++ Ao z.2 := by
 unfold Cb
 rw [List.take_add_one, h, List.flatMap_append, List.append_assoc]
 simp
theorem Dt (L : List (Nat × Nat)) : (Cb L).length <= 22 * L.length := by
 induction L with
 | nil => simp [Cb]
 | cons z L ih =>
  have h1 := Aw z.1
  have h2 := Aw z.2
  simp [Cb] at *
  omega
theorem putN_gt0 (v : Nat) : 0 < (Ao v).length := by simp [Ao]
theorem BK {w : World} {n : Nat} (h : n < AA) : (convert 3 26 (.int .i64 (n : Nat))).run Tryz.prog w = .ok (.int .u64 (n : Nat)) w := by
 go_simp
 exact Cn h
set_option maxHeartbeats 1000000 in
theorem hbytes_any {w0 : World} {D : Nat -> Prop} {p : Value} {L : List (Nat × Nat)} (h : Il w0 D p L) (hH : Gi L) (hl : L.length <= 900000) : Calls Tryz.prog 104 #[p] w0 fun e w' => ∃ v, e = .returned v /\ St w0 w' [.own v 5 1 (Cz L).length (Aa (Cz L))] fun _ _ => True := by
 obtain ⟨K, kI, hS⟩ : ∃ K : (Nat -> Prop) -> World -> Prop, (∀ D w, K D w -> Il w D p L) /\ St w0 w0 [] K := ⟨_, fun _ _ h => h, St.start CJ h⟩
 obtain ⟨q, o, rfl, -⟩ := id h
 clear h
 have hlT : Hid (L.length < AA) := Lib.hid (by rw [C1]; omega)
 have HP := Lib.hid (Dt L)
 have HQ := Lib.hid (Aw L.length)
 go_enter Tryz.func104, Tryz.ntmps104
 go_wp2_with (first
  | ((with_reducible refine qB ?_); refine qc ?_ ?_ <;> intro h_ <;> go_prune)
  | (go_at_call 101; refine (st_wnew hS).mono ?_; clear hS; rintro e w_ ⟨g, rfl, sv, hS⟩)
  | (go_at_call 96; refine (Kn (kI _ _ hS.ro) (by omega)).mono ?_; rintro e w_ ⟨v1, rfl, hs⟩; replace hS := hS.new hs.below (.own v1 107 2 L.length (A6 L)) (hs.own 0 rfl); clear hs; replace hS := hS.freeze 0 (by decide) rfl; obtain ⟨A1, c1, rfl, _, _⟩ := hS.ro.2.shape; obtain ⟨KX, kL, hS2⟩ : ∃ KX : (Nat -> Prop) -> World -> Prop, (∀ D w, KX D w -> Sl w D 2 (.slice A1 L.length c1) L.length (A6 L)) /\ St w0 w_ [.box g 198 #[sv], .own sv 5 1 ([] : List Nat).length (Aa [])] KX := ⟨_, fun _ _ h => h.2, hS⟩; clear hS; have hS := hS2; clear hS2)
  | ((with_reducible refine qA 15 ?_); refine BigFrame.wpList_want rfl fun _ hK => BW (vx := .int .i64 (L.length : Nat)) (v := .int .u64 (L.length : Nat)) rfl rfl (BK hlT.out) (hK _ _ ?_))
  | (go_at_call 102; refine (FW hS L.length hlT.out (by simp)).mono ?_; clear hS; rintro e w_ ⟨rfl, sv2, hS⟩))
 go_loopw [19] (fun i wr => ∃ (j : Nat) (sv : Value), i = .int .i64 (j : Nat) /\ j <= L.length /\ St w0 wr [.box g 198 #[sv], .own sv 5 1 (Ao L.length ++ Cb (L.take j)).length (Aa (Ao L.length ++ Cb (L.take j)))] KX) (fun i _ => L.length - (intOf i).toNat)
 case atStart => exact ⟨0, sv2, rfl, by omega, by simpa [Cb] using hS⟩
 case round =>
  clear hS
  obtain ⟨j, sv, rfl, hj, hS⟩ := hrel
  by_cases hlj : j < L.length
  ·obtain ⟨f1, f2⟩ := Bf L j hlj
   have HST := Lib.hid (J7 (C3 (0, 0) hlj))
   have hm := hH.role (L.getD j (0, 0)) (by rw [List.getD_eq_getElem?_getD, List.getElem?_eq_getElem hlj]; exact List.getElem_mem hlj)
   generalize L.getD j (0, 0) = z at *
   obtain ⟨za, zb⟩ := z
   dsimp only at f1 f2 hm HST
   have HA : Hid (za < AA) := Lib.hid (by rw [C1]; omega)
   have HB : Hid (zb < AA) := Lib.hid (by rw [C1]; omega)
   have HLN : Hid ((Ao L.length ++ Cb (L.take j)).length <= 11 + 22 * L.length) := Lib.hid (by
    have h1 := Dt (L.take j)
    have h2 := HQ.out
    rw [List.length_take] at h1
    rw [List.length_append]; omega)
   have HPA := Lib.hid (Aw za)
   generalize hBS : Ao L.length ++ Cb (L.take j) = bs at *
   have HE : Hid (Ao L.length ++ Cb (L.take (j + 1)) = bs ++ Ao za ++ Ao zb) := Lib.hid (by rw [HST.out, <- hBS]; simp)
   clear HST hBS
   go_wp2_with (first
    | ((with_reducible refine qB ?_); refine qc ?_ ?_ <;> intro h_ <;> go_prune)
    | ((with_reducible refine qI ?_); refine qj hS Tryz.underlying25 ?_; intro b_ j_ hc0_ hc1_)
    | ((with_reducible refine qA 6 ?_); refine AU hS rfl _ rfl (by kernel_rfl) ?_; clear hS; intro g6 w_ hS; (try simp only [Act.put, Act.eval, zz, Value.cells] at hS))
    | ((with_reducible refine qM ?_); (first | refine qS hS ?_ | refine qT hS ?_); clear hS; intro w_ hS; (try simp only [Act.put, Act.eval, zz, Value.cells] at hS))
    | ((with_reducible refine qK ?_); refine qL hS Tryz.underlying107 ?_)
    | ((with_reducible refine qA 26 ?_); refine BigFrame.wpList_want rfl fun _ hK => BW (vx := .int .i64 (za : Nat)) (v := .int .u64 (za : Nat)) rfl rfl (BK HA.out) (hK _ _ ?_))
    | ((with_reducible refine qA 31 ?_); refine BigFrame.wpList_want rfl fun _ hK => BW (vx := .int .i64 (zb : Nat)) (v := .int .u64 (zb : Nat)) rfl rfl (BK HB.out) (hK _ _ ?_))
    | (go_at_call 102; first
       | ((with_reducible show Calls _ _ #[_, .int .u64 (zb : Nat)] _ _); refine (FW hS zb HB.out (by have := HLN.out; have := HPA.out; rw [List.length_append]; omega)).mono ?_; clear hS; rintro e w_ ⟨rfl, sv4, hS⟩)
       | (replace hS := hS.perm (F' := [.box g 198 #[sv], .own sv 5 1 bs.length (Aa bs), .box g6 107 #[.int .i64 (za : Nat), .int .i64 (zb : Nat)]]) ((List.perm_append_comm (l₁ := [_, _]) (l₂ := [_]))); refine (FW hS za HA.out (by have := HLN.out; omega)).mono ?_; clear hS; rintro e w_ ⟨rfl, sv3, hS⟩))
    | ((with_reducible refine qK ?_); refine qC hS ?_))
   refine ⟨⟨j + 1, sv4, by go_num, hlj, ?_⟩, by simp [intOf]; omega⟩
   rw [HE.out]
   exact hS.sub ((List.nil_sublist _).cons_cons _ |>.cons_cons _)
  ·obtain rfl : j = L.length := by omega
   rw [List.take_length] at hS
   have hlen : Hid ((Cz L).length <= 1000000000000 /\ 0 < (Cz L).length) := Lib.hid (by
    have h1 := HP.out
    have h2 := HQ.out
    have h3 := putN_gt0 L.length
    unfold Cz
    rw [List.length_append]; omega)
   go_wp2_with (first
    | ((with_reducible refine qB ?_); refine qc ?_ ?_ <;> intro h_ <;> go_prune)
    | (go_at_call 109; refine (st_wout hS hlen.out.1 hlen.out.2).mono ?_; clear hS; rintro e w_ ⟨v, rfl, hS⟩))
   go_ret
   exact ⟨_, rfl, (hS.sub ((List.nil_sublist _).cons_cons _)).mono (AF.pure True) fun _ _ _ => trivial⟩
end
section
open Go.RowKit
set_option exponentiation.threshold 5000
def Gy (r : B3) : List Nat := BB r.revoke ++ Ba r.yes r.no ++ Ao r.target.toNat
def Bh (l : List B3) : List Nat := l.flatMap Gy
def FH (p : AP) : List Nat := match p.links with | none => [] | some L => Cz L
def D3 (p : AP) : List Nat := Ao p.roles.toNat ++ (Ao (FH p).length ++ FH p) ++ B9 p.start ++ Ao p.rules.length ++ Bh p.rules ++ AQ p.never ++ AQ p.goal
def F3 : ByteArray := { data := #[112, 114, 111, 98, 108, 101, 109] }
noncomputable def pidC (p : AP) : List Nat := if checkE p = 0 then CU (EU F3 (D3 p)) else List.replicate 32 0
theorem Hr (p : AP) : (pidC p).length = 32 := by unfold pidC; split <;> simp [CU, H6]
theorem hpairs_bytes (L : List (Nat × Nat)) : AK (Cb L) := by
 unfold Cb
 exact Dy (f := fun z : Nat × Nat => Ao z.1 ++ Ao z.2) (fun z => (Bx _).append (Bx _)) L
theorem hencB_byt (L : List (Nat × Nat)) : AK (Cz L) := (Bx _).append (hpairs_bytes L)
theorem ruleB_bytes (r : B3) : AK (Gy r) := ((Gm _).append (Gn _ _)).append (Bx _)
theorem IX (p : AP) : AK (D3 p) := by
 have h : AK (FH p) := by
  unfold FH
  split
  ·intro x hx; simp at hx
  ·exact hencB_byt _
 exact ((((((Bx _).append ((Bx _).append h)).append (EZ _)).append (Bx _)).append (Dy ruleB_bytes _)).append (E1 _)).append (E1 _)
theorem IR {l : List B3} {j : Nat} (h : j < l.length) : Bh (l.take (j + 1)) = Bh (l.take j) ++ Gy (l.getD j Bd) := by
 unfold Bh
 rw [List.take_succ_eq_append_getElem h, List.flatMap_append, List.getD_eq_getElem?_getD, List.getElem?_eq_getElem h]; simp
theorem FD (b : Bool) : (BB b).length = 1 := by unfold BB; split <;> rfl
theorem ruleB_len {r : B3} (h : r.yes < 2 ^ 4096 /\ r.no < 2 ^ 4096) : (Gy r).length <= 1060 := by
 have h1 := Bg h.1
 have h2 := Bg h.2
 have h3 := Aw r.target.toNat
 have h4 := FD r.revoke
 unfold Gy Ba
 simp only [List.length_append]; omega
theorem EY {l : List B3} (h : ∀ r ∈ l, r.yes < 2 ^ 4096 /\ r.no < 2 ^ 4096) : (Bh l).length <= 1060 * l.length := by
 induction l with
 | nil => simp [Bh]
 | cons r l ih =>
  have h1 := ruleB_len (h r (by simp))
  have h2 := ih fun x hx => h x (by simp [hx])
  simp [Bh] at *
  omega
theorem rulesN_lt : ∀ r, r < 64 -> AZ r < AA := by decide
theorem FM {p : AP} (h : checkE p = 0) : ∃ (L : List (Nat × Nat)) (r : Nat), p.links = some L /\ p.roles = (r : Int) /\ 1 <= r /\ r <= 63 /\ p.rules.length <= 64 /\ p.never.length <= 2000 /\ p.goal.length <= 2000 /\ CN p L (AZ r) = true /\ ∀ z ∈ p.rules, ∃ t : Nat, z.target = (t : Int) /\ t < 64 := by
 unfold checkE at h
 split at h
 ·cases h
 ·rename_i L hL
  split at h
  ·cases h
  ·rename_i h1
   split at h
   ·cases h
   ·rename_i h2
    split at h
    ·cases h
    ·rename_i h3
     obtain ⟨r, hr⟩ : ∃ r : Nat, p.roles = (r : Int) := ⟨p.roles.toNat, by omega⟩
     rw [hr, Int.toNat_natCast, Bool.not_eq_false] at h3
     refine ⟨L, r, hL, hr, by omega, by omega, by omega, by omega, by omega, h3, fun z hz => ?_⟩
     unfold CN at h3
     simp only [Bool.and_eq_true, List.all_eq_true] at h3
     have h4 := h3.2.2.1 z hz
     unfold Cj at h4
     simp only [Bool.and_eq_true, decide_eq_true_eq] at h4
     refine ⟨z.target.toNat, by omega, ?_⟩
     rcases Nat.lt_or_ge z.target.toNat 64 with h5 | h5
     ·exact h5
     ·rw [Dj (rulesN_lt r (by omega)) h5] at h4; exact absurd h4.2 (by decide)
end
section
open Go.RowKit
set_option exponentiation.threshold 5000
theorem free_wr {q : Nat} {sv : Value} {n : Nat} {xs : List Value} {F : List A7} {t : TypeId} {cs : Array Value} {e : TypeId} (b : Nat) (h : EA (.box q t cs :: .own sv e 1 n xs :: F) b) : b ≠ q /\ ¬ (sv.ownBlock = some b) :=
 ⟨fun hq => h (.box q t cs) (by simp) (by rw [hq]; rfl), fun hs => h (.own sv e 1 n xs) (by simp) hs⟩
section
variable {w0 w : World} {F : List A7} {K : (Nat -> Prop) -> World -> Prop} {q : Nat} {sv : Value} {bs : List Nat}
theorem st_wflag (h : St w0 w (.box q 198 #[sv] :: .own sv 5 1 bs.length (Aa bs) :: F) K) (b : Bool) (hlen : bs.length <= 100000000000) :
  Calls Tryz.prog 106 #[.pointer (some ⟨q, 0, none⟩), .bool b] w fun e w' => e = .returned (.tuple #[]) /\ ∃ sv', St w0 w' (.box q 198 #[sv'] :: .own sv' 5 1 (bs ++ BB b).length (Aa (bs ++ BB b)) :: F) K :=
 (flag_any q b bs w _ h.isW hlen).mono fun _ _ ⟨h1, h2, h3⟩ => ⟨h1, h.wf h2 h3⟩
theorem st_wset (h : St w0 w (.box q 198 #[sv] :: .own sv 5 1 bs.length (Aa bs) :: F) K) {D : Nat -> Prop} {v : Value} {N : Nat} (hv : A5 w D v N) (hlen : bs.length <= 10000000000) :
  Calls Tryz.prog 105 #[.pointer (some ⟨q, 0, none⟩), v] w fun e w' => e = .returned (.tuple #[]) /\ ∃ sv', St w0 w' (.box q 198 #[sv'] :: .own sv' 5 1 (bs ++ B9 N).length (Aa (bs ++ B9 N)) :: F) K :=
 (Jw q v N bs w _ D h.isW hv hlen).mono fun _ _ ⟨h1, h2, h3⟩ => ⟨h1, h.wf h2 h3⟩
theorem st_wbytes (h : St w0 w (.box q 198 #[sv] :: .own sv 5 1 bs.length (Aa bs) :: F) K) {p : Value} {ps : List Nat} (hp : Sl w (EA (.box q 198 #[sv] :: .own sv 5 1 bs.length (Aa bs) :: F)) 1 p ps.length (Aa ps)) (hlen : bs.length + ps.length <= 90000000000) :
  Calls Tryz.prog 103 #[.pointer (some ⟨q, 0, none⟩), p] w fun e w' => e = .returned (.tuple #[]) /\ ∃ sv', St w0 w' (.box q 198 #[sv'] :: .own sv' 5 1 (bs ++ (Ao ps.length ++ ps)).length (Aa (bs ++ (Ao ps.length ++ ps))) :: F) K :=
 (ER q p bs ps w _ _ h.isW hp (fun b hb _ => free_wr b hb) hlen).mono fun _ _ ⟨h1, h2, h3⟩ => ⟨h1, h.wf h2 h3⟩
theorem st_wput (h : St w0 w (.box q 198 #[sv] :: .own sv 5 1 bs.length (Aa bs) :: F) K) {y n : Value} {Y N : Nat} (hy : A5 w (EA (.box q 198 #[sv] :: .own sv 5 1 bs.length (Aa bs) :: F)) (.agg #[y]) Y) (hn : A5 w (EA (.box q 198 #[sv] :: .own sv 5 1 bs.length (Aa bs) :: F)) (.agg #[n]) N) (hlen : bs.length <= 9000000000) :
  Calls Tryz.prog 107 #[.pointer (some ⟨q, 0, none⟩), .agg #[y, n]] w fun e w' => e = .returned (.tuple #[]) /\ ∃ sv', St w0 w' (.box q 198 #[sv'] :: .own sv' 5 1 (bs ++ Ba Y N).length (Aa (bs ++ Ba Y N)) :: F) K :=
 (put_any q y n Y N bs w _ _ h.isW hy hn (fun b hb _ => free_wr b hb) hlen).mono fun _ _ ⟨h1, h2, h3⟩ => ⟨h1, h.wf h2 h3⟩
theorem st_wlist (h : St w0 w (.box q 198 #[sv] :: .own sv 5 1 bs.length (Aa bs) :: F) K) {v : Value} {l : List (Nat × Nat)} (hv : Ab w (EA (.box q 198 #[sv] :: .own sv 5 1 bs.length (Aa bs) :: F)) v l) (hlen : bs.length <= 1000000000) (hll : l.length <= 2000) :
  Calls Tryz.prog 108 #[.pointer (some ⟨q, 0, none⟩), v] w fun e w' => e = .returned (.tuple #[]) /\ ∃ sv', St w0 w' (.box q 198 #[sv'] :: .own sv' 5 1 (bs ++ AQ l).length (Aa (bs ++ AQ l)) :: F) K :=
 (list_any q v l bs w _ _ h.isW hv (fun b hb _ => free_wr b hb) hlen hll).mono fun _ _ ⟨h1, h2, h3⟩ => ⟨h1, h.wf h2 h3⟩
end
end
section
open Go.RowKit
attribute [local go_sem ↓] Go.wp_at_zero Go.wp_at_succ
set_option maxRecDepth 20000
set_option exponentiation.threshold 5000
theorem BI.bound {w : World} {D : Nat -> Prop} {v : Value} {l : List B3} (h : BI w D v l) : ∀ r ∈ l, r.yes < 2 ^ 4096 /\ r.no < 2 ^ 4096 := by
 intro z hz
 obtain ⟨i, hi, rfl⟩ := List.getElem_of_mem hz
 obtain ⟨A, c, rfl, _, _⟩ := h.shape
 obtain ⟨_, _, y, m, _, _, _, _, _, _, _, _, h5, h6⟩ := h.at_ hi
 rw [List.getD_eq_getElem?_getD, List.getElem?_eq_getElem hi] at h5 h6
 exact ⟨h5.bound, h6.bound⟩
theorem St.rot3 {w0 w : World} {a b c : A7} {F : List A7} {K : (Nat -> Prop) -> World -> Prop} (h : St w0 w (a :: b :: c :: F) K) : St w0 w (b :: c :: a :: F) K := h.perm (List.perm_middle (l₁ := [b, c]))
set_option maxHeartbeats 4000000 in
theorem pid_any {w0 : World} {D : Nat -> Prop} {v : Value} {p : AP} (hp : BR w0 D v p) (hP : p.Ok) (hT : Cw w0) (hTB : GM w0) :
  Calls Tryz.prog 40 #[v] w0 (Ax (fun x _ => x = .agg (Aa (pidC p)).toArray) w0) := by
 obtain ⟨la, As, ns, cs, Ar, cr, An, cn, Ag, cg, rfl⟩ := hp.shape6
 have Gi := Lib.hid hP
 have HDT := Lib.hid hT
 have HTB := Lib.hid hTB
 have hL32 := Hr p
 have hone : (Aa (pidC p)).toArray.all (·.oneCell') = true := all_oneCell_toArray (B6 _)
 have hi32 : (Tryz.prog.info? 87).map (·.size) = some (Aa (pidC p)).toArray.size := by rw [List.size_toArray, Ae, hL32]; kernel_rfl
 have hold : (Aa (List.replicate 32 0)).toArray.size = (Aa (pidC p)).toArray.size := by rw [List.size_toArray, List.size_toArray, Ae, Ae, hL32, List.length_replicate]
 have HON := Lib.hid hone
 have HI := Lib.hid hi32
 have HOL := Lib.hid hold
 have HPD := Lib.hid (show pidC p = if checkE p = 0 then CU (EU F3 (D3 p)) else List.replicate 32 0 from rfl)
 have HPT := Lib.hid (FM (p := p))
 obtain ⟨pid, hpid⟩ : ∃ x, pidC p = x := ⟨_, rfl⟩
 rw [hpid] at HON HI HOL HPD ⊢
 obtain ⟨K, kp, hS⟩ : ∃ K : (Nat -> Prop) -> World -> Prop, (∀ D w, K D w -> BR w D (.agg #[.int .i64 p.roles, .pointer la, .slice As ns cs, .slice Ar p.rules.length cr, .slice An p.never.length cn, .slice Ag p.goal.length cg]) p) /\ St w0 w0 [] K := ⟨_, fun _ _ h => h, St.start Fy hp⟩
 clear hp hP hT hTB hL32 hone hi32 hold hpid
 by_cases hc : checkE p = 0
 rotate_left
 ·have HPZ : Hid (pid = List.replicate 32 0) := Lib.hid (HPD.out.trans (if_neg hc))
  have hne : Hid ((checkE p != 0) = true) := Lib.hid (by simpa using hc)
  clear hc
  have hiz : (Tryz.prog.info? 87).map (·.size) = some (Aa (List.replicate 32 0)).toArray.size := by kernel_rfl
  have HCK : Hid (∀ (w : World) (D : Nat -> Prop), Cw w -> BR w D (.agg #[.int .i64 p.roles, .pointer la, .slice As ns cs, .slice Ar p.rules.length cr, .slice An p.never.length cn, .slice Ag p.goal.length cg]) p -> Calls Tryz.prog 17 #[.agg #[.int .i64 p.roles, .pointer la, .slice As ns cs, .slice Ar p.rules.length cr, .slice An p.never.length cn, .slice Ag p.goal.length cg]] w (Ax (fun x _ => x = .int .i64 (checkE p)) w)) := Lib.hid fun w D h1 h2 => schk_any h2 Gi.out h1
  have hck : checkE p ≠ 0 := by simpa using hne.out
  generalize checkE p = ce at *
  go_enter Tryz.func40, Tryz.ntmps40
  go_wp2_with (first
   | ((with_reducible refine qA 1 ?_); refine AH hS rfl _ _ rfl (.agg #[.int .i64 p.roles, .pointer la, .slice As ns cs, .slice Ar p.rules.length cr, .slice An p.never.length cn, .slice Ag p.goal.length cg]) _ rfl rfl ?_; clear hS; intro g1 w_ hS; (try simp only [Act.put, Act.eval, zz, Value.cells] at hS))
   | ((with_reducible refine qA 2 ?_); refine CT hS rfl _ rfl (by kernel_rfl) (Aa (List.replicate 32 0)).toArray (by kernel_rfl) ?_; clear hS; intro g2 w_ hS; (try simp only [Act.put, Act.eval, zz, Value.cells] at hS))
   | ((with_reducible refine qK ?_); refine qL hS Tryz.underlying43 ?_)
   | (go_at_call 17; refine (HCK.out _ _ (HDT.out.ext hS.below) (kp _ _ hS.ro)).mono ?_; rintro r_ w2 ⟨_, rfl, rfl, hb2⟩; replace hS := hS.ext hb2; clear hb2)
   | ((with_reducible refine qB ?_); refine qc ?_ ?_ <;> intro h_ <;> go_prune)
   | ((with_reducible refine qm 87 ?_); refine BV hS 0 rfl _ _ _ rfl g2 ((Aa (List.replicate 32 0)).toArray) rfl rfl _ _ rfl hiz rfl (by kernel_rfl) ?_; clear hS; intro w_ hS; (try simp only [Act.put, Act.eval, zz, Value.cells] at hS)))
  refine bodyPost_ret (v := .agg ((Aa (List.replicate 32 0)).toArray)) (by exact results_cell_row rfl _ _ g2 87 _ (0, 0) _ rfl (hS.box 0 rfl) Tryz.underlying87 rfl hiz) rfl ?_
  exact Ax.mk (by rw [HPZ.out]) hS.below
 ·have HPZ : Hid (pid = CU (EU F3 (D3 p))) := Lib.hid (HPD.out.trans (if_pos hc))
  obtain ⟨L, r, hL, hr, hr1, hr63, hl1, hl2, hl3, -, htg⟩ := HPT.out hc
  have HTG := Lib.hid htg
  have HHL := Lib.hid (Gi.out.links L hL)
  have HB1 := Lib.hid (IX p)
  have HPB : Hid (D3 p = Ao r ++ (Ao (Cz L).length ++ Cz L) ++ B9 p.start ++ Ao p.rules.length ++ Bh p.rules ++ AQ p.never ++ AQ p.goal) := Lib.hid (by unfold D3 FH; rw [hL, hr]; rfl)
  rw [hr] at kp
  have kh : ∀ D w, K D w -> Il w D (.pointer la) L := fun D w h => by have := (kp D w h).parts.1; rw [hL] at this; exact this
  have ks : ∀ D w, K D w -> A5 w D (.agg #[.slice As ns cs]) p.start := fun D w h => (kp D w h).parts.2.1
  have kr : ∀ D w, K D w -> BI w D (.slice Ar p.rules.length cr) p.rules := fun D w h => (kp D w h).parts.2.2.1
  have kn : ∀ D w, K D w -> Ab w D (.slice An p.never.length cn) p.never := fun D w h => (kp D w h).parts.2.2.2.1
  have kg : ∀ D w, K D w -> Ab w D (.slice Ag p.goal.length cg) p.goal := fun D w h => (kp D w h).parts.2.2.2.2
  have HKP := Lib.hid kp
  have HKH := Lib.hid kh
  have hl0 : L.length <= 900000 := HHL.out.2
  have hhl : (Cz L).length <= 20000000 := by
   have h1 := Dt L
   have h2 := Aw L.length
   unfold Cz; rw [List.length_append]; omega
  have hsl : (B9 p.start).length <= 523 := Bg (ks _ _ hS.ro).bound
  have hnl : (AQ p.never).length <= 5000000 := by
   have h1 := EO p.never (kn _ _ hS.ro).bound
   have h2 := Aw p.never.length
   unfold AQ; rw [List.length_append]; omega
  have hgl : (AQ p.goal).length <= 5000000 := by
   have h1 := EO p.goal (kg _ _ hS.ro).bound
   have h2 := Aw p.goal.length
   unfold AQ; rw [List.length_append]; omega
  have HRB := Lib.hid (kr _ _ hS.ro).bound
  have hn1 := Aw r
  have hn2 := Aw (Cz L).length
  have hn3 := Aw p.rules.length
  have hrT : Hid (r < AA) := Lib.hid (by unfold AA; omega)
  have hlT : Hid (p.rules.length < AA) := Lib.hid (by unfold AA; omega)
  have HCK : Hid (∀ (w : World) (D : Nat -> Prop), Cw w -> BR w D (.agg #[.int .i64 (r : Nat), .pointer la, .slice As ns cs, .slice Ar p.rules.length cr, .slice An p.never.length cn, .slice Ag p.goal.length cg]) p -> Calls Tryz.prog 17 #[.agg #[.int .i64 (r : Nat), .pointer la, .slice As ns cs, .slice Ar p.rules.length cr, .slice An p.never.length cn, .slice Ag p.goal.length cg]] w (Ax (fun x _ => x = .int .i64 0) w)) := Lib.hid fun w D h1 h2 => by
   have := schk_any h2 Gi.out h1
   rwa [hc] at this
  rw [hr]
  clear hc hr hL kp kh htg
  obtain ⟨hL2, hhL⟩ : ∃ x, x = Cz L := ⟨_, rfl⟩
  rw [<- hhL] at HPB hhl hn2
  have HH2 := Lib.hid hhL
  clear hhL
  go_enter Tryz.func40, Tryz.ntmps40
  go_wp2_with (first
   | ((with_reducible refine qA 1 ?_); refine AH hS rfl _ _ rfl (.agg #[.int .i64 (r : Nat), .pointer la, .slice As ns cs, .slice Ar p.rules.length cr, .slice An p.never.length cn, .slice Ag p.goal.length cg]) _ rfl rfl ?_; clear hS; intro g1 w_ hS; (try simp only [Act.put, Act.eval, zz, Value.cells] at hS))
   | ((with_reducible refine qA 2 ?_); refine CT hS rfl _ rfl (by kernel_rfl) (Aa (List.replicate 32 0)).toArray (by kernel_rfl) ?_; clear hS; intro g2 w_ hS; (try simp only [Act.put, Act.eval, zz, Value.cells] at hS))
   | ((with_reducible refine qK ?_); refine qL hS Tryz.underlying43 ?_)
   | (go_at_call 17; refine (HCK.out _ _ (HDT.out.ext hS.below) (HKP.out _ _ hS.ro)).mono ?_; rintro r_ w2 ⟨_, rfl, rfl, hb2⟩; replace hS := hS.ext hb2; clear hb2)
   | ((with_reducible refine qB ?_); refine qc ?_ ?_ <;> intro h_ <;> go_prune)
   | ((with_reducible refine qk 39 ?_); first | (refine B7 hS 0 rfl _ _ rfl _ _ rfl _ _ rfl _ (by first | rfl | assumption) Tryz.underlying39 rfl (by kernel_rfl) ?_) | (refine B7 hS 1 rfl _ _ rfl _ _ rfl _ _ rfl _ (by first | rfl | assumption) Tryz.underlying39 rfl (by kernel_rfl) ?_) | (refine B7 hS 2 rfl _ _ rfl _ _ rfl _ _ rfl _ (by first | rfl | assumption) Tryz.underlying39 rfl (by kernel_rfl) ?_) | (refine B7 hS 3 rfl _ _ rfl _ _ rfl _ _ rfl _ (by first | rfl | assumption) Tryz.underlying39 rfl (by kernel_rfl) ?_) | (refine B7 hS 4 rfl _ _ rfl _ _ rfl _ _ rfl _ (by first | rfl | assumption) Tryz.underlying39 rfl (by kernel_rfl) ?_) | (refine B7 hS 5 rfl _ _ rfl _ _ rfl _ _ rfl _ (by first | rfl | assumption) Tryz.underlying39 rfl (by kernel_rfl) ?_))
   | (go_at_call 101; refine (st_wnew hS).mono ?_; clear hS; rintro e w_ ⟨g, rfl, sv, hS⟩)
   | ((with_reducible refine qA 14 ?_); refine BigFrame.wpList_want rfl fun _ hK => BW (vx := .int .i64 (r : Nat)) (v := .int .u64 (r : Nat)) rfl rfl (BK hrT.out) (hK _ _ ?_))
   | ((with_reducible refine qA 29 ?_); refine BigFrame.wpList_want rfl fun _ hK => BW (vx := .int .i64 (p.rules.length : Nat)) (v := .int .u64 (p.rules.length : Nat)) rfl rfl (BK hlT.out) (hK _ _ ?_))
   | (go_at_call 104; refine (hbytes_any (HKH.out _ _ hS.ro) HHL.out.1 HHL.out.2).mono ?_; rw [<- HH2.out]; rintro e w_ ⟨v1, rfl, hs⟩; replace hS := hS.new hs.below (.own v1 5 1 hL2.length (Aa hL2)) (hs.own 0 rfl); clear hs; replace hS := hS.freeze 0 (by decide) rfl)
   | (go_at_call 103; refine (st_wbytes hS hS.ro.2 (by rw [List.nil_append]; omega)).mono ?_; clear hS; rintro e w_ ⟨rfl, sv3, hS⟩)
   | (go_at_call 105; refine (st_wset hS (ks _ _ hS.ro.1) (by rw [List.nil_append, List.length_append, List.length_append]; omega)).mono ?_; clear hS; rintro e w_ ⟨rfl, sv4, hS⟩)
   | (go_at_call 102; first | (refine (FW hS r hrT.out (by simp)).mono ?_; clear hS; rintro e w_ ⟨rfl, sv2, hS⟩) | (refine (FW hS p.rules.length hlT.out (by rw [List.nil_append, List.length_append, List.length_append, List.length_append]; omega)).mono ?_; clear hS; rintro e w_ ⟨rfl, sv5, hS⟩))
   | ((with_reducible refine qK ?_); refine qC hS ?_))
  simp only [List.nil_append] at hS
  obtain ⟨K2, k2, hS2⟩ : ∃ K2 : (Nat -> Prop) -> World -> Prop, (∀ D w, K2 D w -> K D w) /\ St w0 w_ (.box g 198 #[sv5] :: .own sv5 5 1 (Ao r ++ (Ao hL2.length ++ hL2) ++ B9 p.start ++ Ao p.rules.length).length (Aa (Ao r ++ (Ao hL2.length ++ hL2) ++ B9 p.start ++ Ao p.rules.length)) :: .box g2 87 (Aa (List.replicate 32 0)).toArray :: .box g1 43 #[.int .i64 (r : Nat), .pointer la, .slice As ns cs, .slice Ar p.rules.length cr, .slice An p.never.length cn, .slice Ag p.goal.length cg] :: []) K2 := ⟨_, fun _ _ h => h.1, hS⟩
  clear hS
  obtain ⟨B0, hB0⟩ : ∃ x, x = Ao r ++ (Ao hL2.length ++ hL2) ++ B9 p.start ++ Ao p.rules.length := ⟨_, rfl⟩
  have hb0 : B0.length <= 21000000 := by rw [hB0]; simp only [List.length_append]; omega
  rw [<- hB0] at hS2 HPB
  clear hB0
  have hS := hS2
  clear hS2
  have KS2 := Lib.hid hS.stable
  clear hn1 hn2 hn3 hhl hsl
  go_loopw [34] (fun i wr => ∃ (j : Nat) (sv : Value), i = .int .i64 (j : Nat) /\ j <= p.rules.length /\ St w0 wr (.box g 198 #[sv] :: .own sv 5 1 (B0 ++ Bh (p.rules.take j)).length (Aa (B0 ++ Bh (p.rules.take j))) :: .box g2 87 (Aa (List.replicate 32 0)).toArray :: .box g1 43 #[.int .i64 (r : Nat), .pointer la, .slice As ns cs, .slice Ar p.rules.length cr, .slice An p.never.length cn, .slice Ag p.goal.length cg] :: []) K2) (fun i _ => p.rules.length - (intOf i).toNat)
  case atStart => exact ⟨0, sv5, rfl, by omega, by simpa [Bh] using hS⟩
  case round =>
   clear hS
   obtain ⟨j, sv, rfl, hj, hS⟩ := hrel
   by_cases hlj : j < p.rules.length
   ·obtain ⟨b, o, y, m, rfl, _, hb, c0, c1, c2, c3, c4, hy, hm⟩ := (kr _ _ (k2 _ _ hS.ro)).at_ hlj
    obtain ⟨Ay, my, cy, rfl⟩ := hy.shape
    obtain ⟨Am, mm, cm, rfl⟩ := hm.shape
    have HST := Lib.hid (IR hlj)
    obtain ⟨t, ht, ht64⟩ := HTG.out (p.rules.getD j Bd) (by rw [List.getD_eq_getElem?_getD, List.getElem?_eq_getElem hlj]; exact List.getElem_mem hlj)
    have hrl := EY (l := p.rules.take j) fun z hz => HRB.out z (List.mem_of_mem_take hz)
    rw [List.length_take] at hrl
    replace hS := hS.add (D := EA _) (Ah.and Ah) ⟨hy, hm⟩ fun _ h _ => h
    clear hy hm
    generalize p.rules.getD j Bd = z at *
    obtain ⟨zr, zy, zn, zt, zo⟩ := z
    dsimp only at c0 c1 c2 c3 c4 HST ht hS
    subst ht
    have htT : Hid (t < AA) := Lib.hid (by unfold AA; omega)
    have hfl := FD zr
    have hcl : (Ba zy zn).length <= 1046 := by
     have h1 := Bg (N := zy) hS.ro.2.1.bound
     have h2 := Bg (N := zn) hS.ro.2.2.bound
     unfold Ba; rw [List.length_append]; omega
    have hbl : (B0 ++ Bh (p.rules.take j)).length <= 22000000 := by rw [List.length_append]; omega
    obtain ⟨bs, hbs⟩ : ∃ x, x = B0 ++ Bh (p.rules.take j) := ⟨_, rfl⟩
    rw [<- hbs] at hS hbl
    have HE : Hid (B0 ++ Bh (p.rules.take (j + 1)) = bs ++ BB zr ++ Ba zy zn ++ Ao t) := Lib.hid (by rw [HST.out, <- List.append_assoc, <- hbs]; unfold Gy; simp)
    clear HST hbs hrl
    go_wp2_with (first
     | ((with_reducible refine qB ?_); refine qc ?_ ?_ <;> intro h_ <;> go_prune)
     | ((with_reducible refine qA 37 ?_); refine BigFrame.wpList_want rfl fun _ hK => Bb (cs := [.bool zr, .slice Ay my cy, .slice Am mm cm, .int .i64 (t : Nat), .int .i64 zo]) rfl rfl (Jg c0 c1 c2 c3 c4) Tryz.underlying84 rfl (by kernel_rfl) (hK _ _ ?_))
     | ((with_reducible refine qA 5 ?_); refine qa hS #[.bool false, .slice none 0 0, .slice none 0 0, .int .i64 0, .int .i64 0] ?_; clear hS; intro g5 w_ hS)
     | ((with_reducible refine qM ?_); (first | refine qS hS ?_ | refine qT hS ?_); clear hS; intro w_ hS; (try simp only [Act.put, Act.eval, zz, Value.cells] at hS))
     | (go_at_call 106; replace hS := hS.rot3; refine (st_wflag hS zr (by omega)).mono ?_; clear hS; rintro e w_ ⟨rfl, sv6, hS⟩)
     | ((with_reducible refine qA 44 ?_); refine EE hS 2 rfl _ _ rfl _ _ rfl _ _ rfl _ _ rfl rfl Tryz.underlying56 rfl (by kernel_rfl) ?_)
     | (go_at_call 107; refine (st_wput hS hS.ro.2.1 hS.ro.2.2 (by rw [List.length_append]; omega)).mono ?_; clear hS; rintro e w_ ⟨rfl, sv7, hS⟩)
     | ((with_reducible refine qA 49 ?_); refine BigFrame.wpList_want rfl fun _ hK => BW (vx := .int .i64 (t : Nat)) (v := .int .u64 (t : Nat)) rfl rfl (BK htT.out) (hK _ _ ?_))
     | (go_at_call 102; refine (FW hS t htT.out (by rw [List.length_append, List.length_append]; omega)).mono ?_; clear hS; rintro e w_ ⟨rfl, sv8, hS⟩)
     | ((with_reducible refine qK ?_); refine qC hS ?_))
    refine ⟨⟨j + 1, sv8, by go_num, hlj, ?_⟩, by simp [intOf]; omega⟩
    rw [HE.out]
    exact (hS.sub ((List.sublist_cons_self _ _).cons_cons _ |>.cons_cons _)).mono KS2.out fun _ _ h => h.1
   ·obtain rfl : p.rules.length = j := by omega
    rw [List.take_length] at hS
    have hrl := EY HRB.out
    obtain ⟨B1, hB1⟩ : ∃ x, x = B0 ++ Bh p.rules := ⟨_, rfl⟩
    have hb1 : B1.length <= 22000000 := by rw [hB1, List.length_append]; omega
    rw [<- hB1] at hS HPB
    clear hB1 hrl
    have hlen : Hid ((D3 p).length <= 40000000 /\ 0 < (D3 p).length) := Lib.hid (by
     refine ⟨by rw [HPB.out]; simp only [List.length_append]; omega, ?_⟩
     have h := putN_gt0 p.roles.toNat
     unfold D3; simp only [List.length_append]; omega)
    obtain ⟨pb, hpb⟩ : ∃ x, x = D3 p := ⟨_, rfl⟩
    rw [<- hpb] at hlen HPB HPZ HB1
    have HTG2 : Hid (∀ (w : World) (D : Nat -> Prop) (pv p : Value), GM w -> Sl w D 1 pv 1 [p] -> Sl w D 1 p pb.length (Aa pb) -> Calls Tryz.prog 100 #[.string F3, pv] w (Ax (fun x _ => x = .agg (Aa pid).toArray) w)) := Lib.hid fun w D pv p h0 h1 h2 => by
     have := Gx F3 pv p pb w D h0 h1 h2 HB1.out (by decide) (by have := hlen.out; omega)
     rwa [<- HPZ.out] at this
    clear hpb
    go_wp2_with (first
     | ((with_reducible refine qB ?_); refine qc ?_ ?_ <;> intro h_ <;> go_prune)
     | (go_at_call 108; first | (with_reducible show Calls _ _ #[_, .slice An _ _] _ _; refine (st_wlist hS (kn _ _ (k2 _ _ hS.ro)) (by omega) (by omega)).mono ?_; clear hS; rintro e w_ ⟨rfl, sv6, hS⟩) | (refine (st_wlist hS (kg _ _ (k2 _ _ hS.ro)) (by rw [List.length_append]; omega) (by omega)).mono ?_; clear hS; rintro e w_ ⟨rfl, sv7, hS⟩; rw [<- HPB.out] at hS))
     | (go_at_call 109; refine (st_wout hS (by have := hlen.out; omega) hlen.out.2).mono ?_; clear hS; rintro e w_ ⟨v, rfl, hS⟩; replace hS := hS.freeze 0 (by decide) rfl; obtain ⟨A2, c2, rfl, _, _⟩ := Sl.shape hS.ro.2)
     | ((with_reducible show wpList _ _ _ (⟨_, .buildSlice _ 1 _, _, _, _, _⟩ :: _) _ _); refine Df hS rfl _ 22 1 _ rfl Tryz.underlying166 #[.slice A2 pb.length c2] (by kernel_rfl) 1 rfl (by decide) ?_; clear hS; intro g62 w_ hS; replace hS := hS.freeze 0 (by decide) rfl)
     | (go_at_call 100; refine (HTG2.out _ _ _ _ (HTB.out.ext hS.below) hS.ro.2 hS.ro.1.2).mono ?_; rintro r_ w2 ⟨v2, rfl, rfl, hb2⟩; replace hS := hS.ext hb2; clear hb2)
     | ((with_reducible refine qm 87 ?_); refine BV hS 2 rfl _ _ _ rfl g2 (Aa pid).toArray rfl rfl _ _ rfl HI.out HOL.out HON.out ?_; clear hS; intro w_ hS; (try simp only [Act.put, Act.eval, zz, Value.cells] at hS))
     | ((with_reducible refine qK ?_); refine qC hS ?_))
    refine bodyPost_ret (v := .agg (Aa pid).toArray) (by exact results_cell_row rfl _ _ g2 87 _ (0, 0) _ rfl (hS.box 2 rfl) Tryz.underlying87 rfl HI.out) rfl ?_
    exact Ax.mk rfl hS.below
end
section
open Go.RowKit
attribute [local go_sem ↓] Go.wp_at_zero Go.wp_at_succ
set_option maxRecDepth 20000
theorem opw_lenS {P : Program} {o : Oper} {a : Act} {w : World} {K : Act -> World -> Prop} {Q : Exit -> Act -> World -> Prop} {t e : TypeId} {x : Operand} {n c : Nat} {A : Option Addr} (ho : o.op = .call { callee := .builtin .len, args := #[x], argTypes := #[t] }) (hx : a.eval x = .slice A n c) (h : P.underlying t = some (.slice e)) (hk : K (a.put o.dst (.int .i64 (n : Nat))) w) : o.wp P a w K Q := by
 have hr : (Builtin.len_ #[t] o.type #[.slice A n c]).run P w = .ok (.int .i64 (n : Nat)) w := by
  simp [Builtin.len_, run_underlying h]; rfl
 unfold Oper.wp execOp
 simp only [ho, resolve, invoke, builtin, Sem.run_bind, Sem.run_pure, Result.andThen_ok, List.map_toArray, List.map_cons, List.map_nil, hx, hr]
 exact hk
end
section
open Go.RowKit
attribute [local go_sem ↓] Go.wp_at_zero Go.wp_at_succ
set_option maxRecDepth 20000
set_option exponentiation.threshold 5000
theorem perm_at : ∀ (F : List A7) (i : Nat) (f g : A7), F[i]? = some f -> (g :: F.eraseIdx i).Perm (F.set i g)
 | [], i, f, g, h => by simp at h
 | x :: F, 0, f, g, h => List.Perm.refl _
 | x :: F, i + 1, f, g, h => (List.Perm.swap x g _).trans ((perm_at F i f g (by simpa using h)).cons x)
theorem set_sameF : ∀ (F : List A7) (i : Nat) (f : A7), F[i]? = some f -> F.set i f = F
 | [], i, f, h => rfl
 | x :: F, 0, f, h => by simp at h; subst h; rfl
 | x :: F, i + 1, f, h => by rw [List.set_cons_succ, set_sameF F i f (by simpa using h)]
theorem St.front {w0 w : World} {F : List A7} {K : (Nat -> Prop) -> World -> Prop} {i : Nat} {f : A7} (h : St w0 w F K) (hi : F[i]? = some f) : St w0 w (f :: F.eraseIdx i) K := h.perm (by
 have h1 := perm_at F i f f hi
 rwa [set_sameF F i f hi] at h1)
section
variable {P : Program} {ops : Array Oper} {rest : List Oper} {o : Oper} {a : Act} {Q : Exit -> Act -> World -> Prop} {w : World}
theorem Hc (hg : Region.wanted o (yielded ops a.tmps) = true) (t t2 : TypeId) (x y : Operand) (ho : o.op = .binOp .and t x y t2) (X Y : Int) (hx : a.eval x = .int .u8 X) (hy : a.eval y = .int .u8 Y) (h1 : 0 <= X /\ X < 256) (h2 : 0 <= Y /\ Y < 256)
  (hk : ∀ z : Nat, z < 256 -> Hid (z = X.toNat &&& Y.toNat) -> wpList P ops Q rest (a.put o.dst (.int .u8 (z : Nat))) w) : wpList P ops Q (o :: rest) a w := by
 refine BigFrame.wpList_want hg fun _ hK => Az (v := .int .u8 ((X.toNat &&& Y.toNat : Nat) : Int)) ho hx hy rfl ?_ (hK _ _ (hk _ (Nat.lt_of_le_of_lt Nat.and_le_left (by omega)) (Lib.hid rfl)))
 go_simp
 exact u8_and X Y h1.1 h1.2 h2.1 h2.2
theorem st_andnot8 (hg : Region.wanted o (yielded ops a.tmps) = true) (t t2 : TypeId) (x y : Operand) (ho : o.op = .binOp .andNot t x y t2) (X Y : Int) (hx : a.eval x = .int .u8 X) (hy : a.eval y = .int .u8 Y) (h1 : 0 <= X /\ X < 256) (h2 : 0 <= Y /\ Y < 256)
  (hk : ∀ z : Nat, z < 256 -> Hid (z = X.toNat &&& (255 - Y.toNat)) -> wpList P ops Q rest (a.put o.dst (.int .u8 (z : Nat))) w) : wpList P ops Q (o :: rest) a w := by
 refine BigFrame.wpList_want hg fun _ hK => Az (v := .int .u8 ((X.toNat &&& (255 - Y.toNat) : Nat) : Int)) ho hx hy rfl ?_ (hK _ _ (hk _ (Nat.lt_of_le_of_lt Nat.and_le_left (by omega)) (Lib.hid rfl)))
 go_simp
 exact u8_andNot X Y h1.1 h1.2 h2.1 h2.2
end
theorem and_not8 {a b : Nat} (ha : a < 256) : a &&& (b &&& (255 - a)) = 0 := by
 apply Nat.eq_of_testBit_eq
 intro i
 rw [Nat.testBit_and, Nat.testBit_and, Nat.zero_testBit, show 255 - a = 2 ^ 8 - (a + 1) by omega, Nat.testBit_two_pow_sub_succ (by omega)]
 cases a.testBit i <;> cases b.testBit i <;> simp
theorem Kx {a m : Nat} : a &&& m &&& m = a &&& m := by rw [Nat.and_assoc, Nat.and_self]
theorem Iv (y n m : Nat) (hm : m < 256) (w0 : World) :
  Calls Tryz.prog 53 #[.int .i64 (y : Nat), .int .i64 (n : Nat), .int .u8 (m : Nat)] w0 (Ax (fun x _ => ∃ a b : Nat, x = .agg #[.int .u64 (a : Nat), .int .u64 (b : Nat)] /\ a &&& m = a /\ b &&& m = b /\ a &&& b = 0 /\ a < 256 /\ b < 256) w0) := by
 have hS : St w0 w0 [] fun _ _ => True := St.start0
 go_enter Tryz.func53, Tryz.ntmps53
 go_wp2_with (first
  | ((with_reducible refine qA 6 ?_); refine qa hS #[.int .u64 0, .int .u64 0] ?_; clear hS; intro g6 w_ hS)
  | ((with_reducible refine qA 17 ?_); refine Hc rfl _ _ _ _ rfl _ _ rfl rfl (by omega) (by omega) ?_; intro z17 h17 _)
  | ((with_reducible refine qA 19 ?_); refine Hc rfl _ _ _ _ rfl _ _ rfl rfl (by omega) (by omega) ?_; intro z19 h19 e19)
  | ((with_reducible refine qA 28 ?_); refine Hc rfl _ _ _ _ rfl _ _ rfl rfl (by omega) (by omega) ?_; intro z28 h28 _)
  | ((with_reducible refine qA 30 ?_); refine Hc rfl _ _ _ _ rfl _ _ rfl rfl (by omega) (by omega) ?_; intro z30 h30 e30)
  | ((with_reducible refine qA 32 ?_); refine st_andnot8 rfl _ _ _ _ rfl _ _ rfl rfl (by omega) (by omega) ?_; intro z32 h32 e32)
  | ((with_reducible refine qM ?_); (first | refine qS hS ?_ | refine qT hS ?_); clear hS; intro w_ hS; (try simp only [Act.put, Act.eval, zz, Value.cells] at hS)))
 refine DB Tryz.results53 rfl (hS.box 0 rfl) Tryz.underlying50 rfl (by kernel_rfl) rfl ?_
 have e1 := e19.out
 have e2 := e30.out
 have e3 := e32.out
 simp only [Int.toNat_natCast] at e1 e2 e3
 refine Ax.mk ⟨z19, z32, rfl, ?_, ?_, ?_, h19, h32⟩ hS.below
 ·rw [e1, Kx]
 ·rw [e3, e2, Nat.and_assoc, Nat.and_comm (255 - z19), <- Nat.and_assoc, Kx]
 ·rw [e3]; exact and_not8 h19
theorem Sl.byteAt {w : World} {D : Nat -> Prop} {A : Option Addr} {c : Nat} {l : List Nat} (h : Sl w D 1 (.slice A l.length c) l.length (Aa l)) {k : Nat} (hk : k < l.length) : ∃ b o, A = some ⟨b, o, none⟩ /\ w.cell? ⟨b, o + k, none⟩ = some (.int .u8 (l.getD k 0 : Nat)) := by
 obtain ⟨b, o, h1, _, _, h2⟩ := h.byte hk
 exact ⟨b, o, h1, h2 k hk⟩
theorem next_any {w0 w : World} {F : List A7} {K : (Nat -> Prop) -> World -> Prop} {q c at_ : Nat} {A : Option Addr} {l : List Nat} (hl : ∀ x ∈ l, x < 256) (ha : at_ < 1000000) (hS : St w0 w (.box q 113 #[.slice A l.length c, .int .i64 (at_ : Nat)] :: F) K) (kp : ∀ D w, K D w -> Sl w D 1 (.slice A l.length c) l.length (Aa l)) :
  Calls Tryz.prog 51 #[.pointer (some ⟨q, 0, none⟩)] w fun e w' => ∃ b : Nat, b < 256 /\ e = .returned (.int .i64 (b : Nat)) /\ St w0 w' (.box q 113 #[.slice A l.length c, .int .i64 ((at_ + 1 : Nat) : Int)] :: F) K := by
 go_enter Tryz.func51, Tryz.ntmps51
 go_wp2_with (first
  | ((with_reducible refine qK ?_); refine qC hS ?_)
  | ((with_reducible refine qM ?_); (first | refine qS hS ?_ | refine qT hS ?_); clear hS; intro w_ hS; (try simp only [Act.put, Act.eval, zz, Value.cells] at hS)))
 obtain ⟨bo, hbo⟩ : ∃ bo : Bool, decide (((at_ + 1 : Nat) : Int) > (l.length : Nat)) = bo := ⟨_, rfl⟩
 have HBO := Lib.hid hbo
 clear hbo
 refine EB [.q q 0, .q q 0, .q q 1, .n ((at_ + 1 : Nat) : Int), .q q 0, .q q 0, .q q 0, .i (.slice A l.length c), .n (l.length : Nat), .i (.bool bo)] ⟨uM, uN, uF, uC (h := fun w hW hN => (hS.ext hW).shut 0 rfl 1 rfl), uM, uN, uF, uC (h := fun w hW hN => (hS.ext hW).shut 0 rfl 0 rfl), ?_, uB (h := fun w hW hN => run_gtB HBO.out), trivial⟩ ?_
 ·refine uT fun b__ w hW hE K hK => ?_
  have e17 := hE 17
  exact opw_lenS rfl e17 Tryz.underlying22 (hK _ _ rfl (Below.refl _ _))
 ·intro vs wz hW hT
  obtain ⟨e10, e11, e12, e13, e14, e15, e16, e17, e18, e19, -⟩ := hT
  simp only [AL, Act.put, zz, ze]
  replace hS := hS.ext hW
  clear hW e10 e11 e12 e13 e14 e15 e16 e17 e18
  rw [e19]
  clear e19
  generalize vs 10 = s10, vs 11 = s11, vs 12 = s12, vs 13 = s13, vs 14 = s14, vs 15 = s15, vs 16 = s16, vs 17 = s17, vs 18 = s18
  cases bo with
  | true =>
   go_wp2_with fail
   go_ret
   exact ⟨0, by decide, rfl, hS⟩
  | false =>
   have hlt : at_ < l.length := by have := HBO.out; simp at this; omega
   obtain ⟨b, o, rfl, hb⟩ := (kp _ _ hS.ro).byteAt hlt
   have hB : l.getD at_ 0 < 256 := by rw [List.getD_eq_getElem?_getD, List.getElem?_eq_getElem hlt]; exact hl _ (List.getElem_mem hlt)
   have hk2 : ∀ D w, K D w -> w.cell? ⟨b, o + at_, none⟩ = some (.int .u8 (l.getD at_ 0 : Nat)) := fun D w h => by
    obtain ⟨b', o', e, h2⟩ := (kp D w h).byteAt hlt
    injection e with e
    injection e with e1 e2
    subst e1; subst e2
    exact h2
   clear hb
   generalize l.getD at_ 0 = x at *
   go_wp2_with fail
   refine EB [.q q 0, .q q 0, .q q 0, .i (.slice (some ⟨b, o, none⟩) l.length c), .q q 0, .q q 0, .q q 1, .n ((at_ + 1 : Nat) : Int), .n (at_ : Nat), .q b (o + (at_) * 1), .i (.int .u8 (x : Nat)), .n (x : Nat), .n (x : Nat)] ⟨uM, uN, uF, uC (h := fun w hW hN => (hS.ext hW).shut 0 rfl 0 rfl), uM, uN, uF, uC (h := fun w hW hN => (hS.ext hW).shut 0 rfl 1 rfl), uB (h := fun w hW hN => by rw [EF (by omega) (by omega)]; congr 2; omega), uI (h := fun w hW hN => Af (m := at_) Tryz.underlying22 (by kernel_rfl) (by omega) (by omega)), uC (h := fun w hW hN => by rw [Nat.mul_one]; exact hk2 _ _ (hS.ext hW).ro), uE (h := fun w hW hN => by go_simp; exact IntWalk.i64_in _ (by omega)), uA, trivial⟩ ?_
   ·intro vs wz hW hT
    obtain ⟨e20, e21, e22, e23, e24, e25, e26, e27, e28, e29, e30, e31, e2, -⟩ := hT
    simp only [AL, Act.put, zz, ze]
    replace hS := hS.ext hW
    rw [e2]
    clear hW
    go_wp2_with fail
    go_ret
    exact ⟨x, hB, rfl, hS⟩
end
section
open Go.RowKit
attribute [local go_sem ↓] Go.wp_at_zero Go.wp_at_succ
set_option maxRecDepth 20000
set_option exponentiation.threshold 5000
theorem st_and64 {P : Program} {ops : Array Oper} {rest : List Oper} {o : Oper} {a : Act} {Q : Exit -> Act -> World -> Prop} {w : World} (hg : Region.wanted o (yielded ops a.tmps) = true) (t t2 : TypeId) (x y : Operand) (ho : o.op = .binOp .and t x y t2) (X Y : Nat) (hx : a.eval x = .int .u64 (X : Nat)) (hy : a.eval y = .int .u64 (Y : Nat)) (h1 : X < AA) (h2 : Y < AA)
  (hk : wpList P ops Q rest (a.put o.dst (.int .u64 ((X &&& Y : Nat) : Int))) w) : wpList P ops Q (o :: rest) a w :=
 BigFrame.wpList_want hg fun _ hK => Az ho hx hy rfl (run_and64 h1 h2) (hK _ _ hk)
theorem JU {y n s : Nat} (hy : y < AA) (hn : n < AA) (hs : s < AA) (w0 : World) : Calls Tryz.prog 54 #[.agg #[.int .u64 (y : Nat), .int .u64 (n : Nat)], .int .u64 (s : Nat)] w0 (Ax (fun x _ => x = .bool (BZ (y, n) s)) w0) := by
 have hS : St w0 w0 [] fun _ _ => True := St.start0
 have e : BZ (y, n) s = (decide ((s &&& y : Nat) = y) && decide ((s &&& n : Nat) = 0)) := by
  unfold BZ
  rw [Nat.and_comm s y, Nat.and_comm s n]
  generalize y &&& s = a
  generalize n &&& s = b
  by_cases h1 : a = y <;> by_cases h2 : b = 0 <;> simp [h1, h2]
 rw [e]
 clear e
 go_enter Tryz.func54, Tryz.ntmps54
 go_wp2_with (first
  | ((with_reducible refine qA 2 ?_); refine AH hS rfl _ _ rfl (.agg #[.int .u64 (y : Nat), .int .u64 (n : Nat)]) _ rfl rfl ?_; clear hS; intro g2 w_ hS; (try simp only [Act.put, Act.eval, zz, Value.cells] at hS))
  | ((with_reducible refine qK ?_); refine qC hS ?_)
  | ((with_reducible refine qb .and ?_); refine st_and64 rfl _ _ _ _ rfl _ _ rfl rfl (by assumption) (by assumption) ?_)
  | ((with_reducible refine qB ?_); refine qc ?_ ?_ <;> intro h_ <;> go_prune))
 all_goals (go_ret; refine Ax.mk ?_ hS.below; congr 1; simp_all; try omega)
theorem rsome_any {w0 : World} {D : Nat -> Prop} {v : Value} {l : List (Nat × Nat)} {s : Nat} (h : BN w0 D v l) (hsm : Small l) (hs : s < AA) : Calls Tryz.prog 88 #[v, .int .u64 (s : Nat)] w0 (Ax (fun x _ => x = .bool (l.any fun z => BZ z s)) w0) := by
 obtain ⟨A, c, rfl, _, _⟩ := h.shape
 obtain ⟨K, k1, hS⟩ : ∃ K : (Nat -> Prop) -> World -> Prop, (∀ D w, K D w -> Sl w D 2 (.slice A l.length c) l.length (AM l)) /\ St w0 w0 [] K := ⟨_, fun _ _ h => h, St.start (Aj (by decide)) h⟩
 have HSm := Lib.hid hsm
 clear h hsm
 go_enter Tryz.func88, Tryz.ntmps88
 go_wp2_with fail
 go_loopw [9] (fun i wr => ∃ j : Nat, i = .int .i64 (j : Nat) /\ j <= l.length /\ Hid ((l.take j).any (fun z => BZ z s) = false) /\ St w0 wr [] K) (fun i _ => l.length - (intOf i).toNat)
 case atStart => exact ⟨0, rfl, by omega, Lib.hid (by simp), hS⟩
 case round =>
  clear hS
  obtain ⟨j, rfl, hj, HN, hS⟩ := hrel
  by_cases hlj : j < l.length
  ·obtain ⟨f0, f1⟩ := EJ l j hlj
   have hM : l.getD j (0, 0) ∈ l := by rw [List.getD_eq_getElem?_getD, List.getElem?_eq_getElem hlj]; exact List.getElem_mem hlj
   have hz := HSm.out _ hM
   have HT : Hid ((l.take (j + 1)).any (fun z => BZ z s) = BZ (l.getD j (0, 0)) s) := Lib.hid (by rw [DO l j (0, 0) hlj, List.any_append, HN.out]; simp)
   have HB : Hid (BZ (l.getD j (0, 0)) s = true -> l.any (fun z => BZ z s) = true) := Lib.hid fun h => List.any_eq_true.2 ⟨_, hM, h⟩
   clear hM
   generalize l.getD j (0, 0) = z at *
   obtain ⟨y, n⟩ := z
   dsimp only at f0 f1 hz
   have HH := Lib.hid (fun w => JU hz.1 hz.2 hs w)
   cases hb : BZ (y, n) s with
   | true =>
    have e := HB.out hb
    rw [hb] at HH
    clear hb HB HT HN
    go_wp2_with (first | ((with_reducible refine qB ?_); refine qc ?_ ?_ <;> intro h_ <;> go_prune) | ((with_reducible refine qI ?_); refine qj hS Tryz.underlying28 ?_; intro b_ j_ hc0_ hc1_) | ((with_reducible refine qA 6 ?_); refine AU hS rfl _ rfl (by kernel_rfl) ?_; clear hS; intro g6 w_ hS; (try simp only [Act.put, Act.eval, zz, Value.cells] at hS)) | ((with_reducible refine qM ?_); (first | refine qS hS ?_ | refine qT hS ?_); clear hS; intro w_ hS; (try simp only [Act.put, Act.eval, zz, Value.cells] at hS)) | ((with_reducible refine qK ?_); refine qL hS Tryz.underlying50 ?_) | (go_at_call 54; refine (HH.out _).mono ?_; rintro r_ w_ ⟨_, rfl, rfl, hb_⟩; replace hS := hS.ext hb_; clear hb_))
    go_ret
    exact Ax.mk (show Value.bool true = .bool (l.any fun z => BZ z s) by rw [e]) hS.below
   | false =>
    rw [hb] at HH HT
    clear hb HB HN
    go_wp2_with (first | ((with_reducible refine qB ?_); refine qc ?_ ?_ <;> intro h_ <;> go_prune) | ((with_reducible refine qI ?_); refine qj hS Tryz.underlying28 ?_; intro b_ j_ hc0_ hc1_) | ((with_reducible refine qA 6 ?_); refine AU hS rfl _ rfl (by kernel_rfl) ?_; clear hS; intro g6 w_ hS; (try simp only [Act.put, Act.eval, zz, Value.cells] at hS)) | ((with_reducible refine qM ?_); (first | refine qS hS ?_ | refine qT hS ?_); clear hS; intro w_ hS; (try simp only [Act.put, Act.eval, zz, Value.cells] at hS)) | ((with_reducible refine qK ?_); refine qL hS Tryz.underlying50 ?_) | (go_at_call 54; refine (HH.out _).mono ?_; rintro r_ w_ ⟨_, rfl, rfl, hb_⟩; replace hS := hS.ext hb_; clear hb_))
    exact ⟨⟨j + 1, by go_num, hlj, HT, hS.sub (List.nil_sublist _)⟩, by simp [intOf]; omega⟩
  ·obtain rfl : l.length = j := by omega
   have e := HN.out
   rw [List.take_length] at e
   go_wp2_with (first | ((with_reducible refine qB ?_); refine qc ?_ ?_ <;> intro h_ <;> go_prune))
   go_ret
   refine Ax.mk ?_ hS.below
   rfl
theorem RLinkP.some2 {w0 w' : World} {pv : Value} {L : List (Nat × Nat)} {x y : Nat} {e : Ending} (h : RLinkP w0 pv L (x : Nat) (y : Nat) e w') (ht : twoR (x : Nat) (y : Nat)) :
  ((x, y) ∈ L /\ e = .returned (.tuple #[pv, .int .i64 5]) /\ Below w0.heap.size w0 w') \/ ((x, y) ∉ L /\ TC L y x /\ e = .returned (.tuple #[pv, .int .i64 16]) /\ Below w0.heap.size w0 w') \/
   ((x, y) ∉ L /\ ¬ TC L y x /\ ∃ v, e = .returned (.tuple #[v, .int .i64 0]) /\ St w0 w' [.own v 107 2 (L.length + 1) (A6 (ins L (x, y)))] fun _ _ => True) := by
 rcases h with ⟨h, _⟩ | ⟨a, b, h1, h2, _, _, _, h⟩
 ·exact absurd ht h
 ·obtain rfl : x = a := by omega
  obtain rfl : y = b := by omega
  exact h
def InRol (R : Nat) (L : List (Nat × Nat)) : Prop := ∀ z ∈ L, 1 <= z.1 /\ z.1 < z.2 /\ z.2 <= R
theorem rlink_st {w0 w : World} {F : List A7} {K : (Nat -> Prop) -> World -> Prop} {pv : Value} {L : List (Nat × Nat)} {x y R : Nat} (hH : Gi L) (hR : InRol R L) (h1 : 1 <= x) (h2 : x < y) (h3 : y <= R) (h4 : R < 64) (hl : L.length <= 1000) (hS : St w0 w F K) (kp : ∀ D w, K D w -> Sl w D 2 pv L.length (A6 L)) :
  Calls Tryz.prog 52 #[pv, .int .i64 (x : Nat), .int .i64 (y : Nat)] w fun e w' => ∃ (v : Value) (z : Int) (L' : List (Nat × Nat)), e = .returned (.tuple #[v, .int .i64 z]) /\ Gi L' /\ InRol R L' /\ L'.length <= L.length + 1 /\ St w0 w' F fun D w => K D w /\ Sl w D 2 v L'.length (A6 L') := by
 have KS := hS.stable
 refine (rlink_any (kp _ _ hS.ro) hH.inr (by omega) x y).mono ?_
 intro e w' h
 have hsame : ∀ z : Int, e = .returned (.tuple #[pv, .int .i64 z]) -> Below w.heap.size w w' -> ∃ (v : Value) (z : Int) (L' : List (Nat × Nat)), e = .returned (.tuple #[v, .int .i64 z]) /\ Gi L' /\ InRol R L' /\ L'.length <= L.length + 1 /\ St w0 w' F fun D w => K D w /\ Sl w D 2 v L'.length (A6 L') :=
  fun z h hb => ⟨pv, z, L, h, hH, hR, by omega, (hS.ext hb).mono (KS.and (Aj (by decide))) fun D w h => ⟨h, kp D w h⟩⟩
 rcases h.some2 ⟨⟨by omega, by omega⟩, ⟨by omega, by omega⟩, by omega⟩ with ⟨-, a, b⟩ | ⟨-, -, a, b⟩ | ⟨k1, k2, v, a, b⟩
 ·exact hsame _ a b
 ·exact hsame _ a b
 ·refine ⟨v, 0, _, a, hH.ins ⟨h1, by omega⟩ ⟨by omega, by omega⟩ (by omega) k1 k2, fun z hz => ?_, by rw [ins_len]; omega, ?_⟩
  ·rcases (Jv.1 hz) with h | h
   ·subst h; exact ⟨h1, h2, h3⟩
   ·exact hR z h
  ·have hn := (hS.new b.below (.own v 107 2 (L.length + 1) (A6 (ins L (x, y)))) (b.own 0 rfl)).freeze 0 (by decide) rfl
   rw [ins_len]
   exact hn
def AX (l : List B3) : List Value := l.flatMap fun z => [.bool z.revoke, .int .u64 (z.yes : Nat), .int .u64 (z.no : Nat), .int .i64 z.target, .int .i64 z.origin]
theorem JR (a b : List B3) : AX (a ++ b) = AX a ++ AX b := by simp [AX]
theorem rrcells_at (l : List B3) (k : Nat) (z : B3) (h : l[k]? = some z) : (AX l)[k * 5]? = some (.bool z.revoke) /\ (AX l)[k * 5 + 1]? = some (.int .u64 (z.yes : Nat)) /\ (AX l)[k * 5 + 2]? = some (.int .u64 (z.no : Nat)) /\ (AX l)[k * 5 + 3]? = some (.int .i64 z.target) /\ (AX l)[k * 5 + 4]? = some (.int .i64 z.origin) := by
 induction l generalizing k with
 | nil => simp at h
 | cons y r ih =>
  cases k with
  | zero => simp at h; subst h; simp [AX]
  | succ k =>
   have := ih k (by simpa using h)
   rw [show (k + 1) * 5 = k * 5 + 5 by omega]
   simpa [AX] using this
def B5 (w : World) (D : Nat -> Prop) (v : Value) (p : AP) : Prop :=
 ∃ lv rv nv gv L, v = .agg #[.int .i64 p.roles, lv, .int .u64 (p.start : Nat), rv, nv, gv] /\ p.links = some L /\ Sl w D 2 lv L.length (A6 L) /\ Sl w D 5 rv p.rules.length (AX p.rules) /\ BN w D nv p.never /\ BN w D gv p.goal
theorem Er {v : Value} {l : List (Nat × Nat)} : AF fun D w => BN w D v l := Aj (by decide)
theorem Ct {v : Value} {p : AP} : AF fun D w => B5 w D v p := fun D D' w w' h a b c => by
 obtain ⟨lv, rv, nv, gv, L, h1, h2, h3, h4, h5, h6⟩ := h
 exact ⟨lv, rv, nv, gv, L, h1, h2, Aj (by decide) D D' w w' h3 a b c, Aj (by decide) D D' w w' h4 a b c, Er D D' w w' h5 a b c, Er D D' w w' h6 a b c⟩
end
section
open Go.RowKit
attribute [local go_sem ↓] Go.wp_at_zero Go.wp_at_succ
set_option maxRecDepth 20000
set_option exponentiation.threshold 5000
section
variable {P : Program} {ops : Array Oper} {rest : List Oper} {o : Oper} {a : Act} {Q : Exit -> Act -> World -> Prop} {w : World}
theorem EC (hg : Region.wanted o (yielded ops a.tmps) = true) (op : BinOp) (t t2 : TypeId) (x y : Operand) (ho : o.op = .binOp op t x y t2) {vx vy : Value} (hx : a.eval x = vx) (hy : a.eval y = vy) {k : IntKind} (p : Nat -> Prop) {z : Nat} (he : (eqGuard op t x y vx vy).run P w = .ok () w) (hr : (binOp op t vx vy).run P w = .ok (.int k (z : Nat)) w) (hp : p z)
  (hk : ∀ z : Nat, p z -> wpList P ops Q rest (a.put o.dst (.int k (z : Nat))) w) : wpList P ops Q (o :: rest) a w :=
 BigFrame.wpList_want hg fun _ hK => Az ho hx hy he hr (hK _ _ (hk z hp))
theorem Dv (hg : Region.wanted o (yielded ops a.tmps) = true) (t t2 : TypeId) (x y : Operand) (ho : o.op = .binOp .rem t x y t2) {n m : Nat} (hx : a.eval x = .int .i64 (n : Nat)) (hy : a.eval y = .int .i64 (m : Nat)) (hm : 0 < m)
  (hk : ∀ z : Nat, z < m -> wpList P ops Q rest (a.put o.dst (.int .i64 (z : Nat))) w) : wpList P ops Q (o :: rest) a w :=
 EC hg _ t t2 x y ho hx hy (fun z => z < m) (z := n % m) rfl (by rw [EG (by omega) (by omega)]; rfl) (Nat.mod_lt _ hm) hk
theorem Js (hg : Region.wanted o (yielded ops a.tmps) = true) (t t2 : TypeId) (x y : Operand) (ho : o.op = .binOp .add t x y t2) {n m : Nat} (p : Nat -> Prop) (hx : a.eval x = .int .i64 (n : Nat)) (hy : a.eval y = .int .i64 (m : Nat)) (hb : n + m < 9223372036854775808) (hp : p (n + m))
  (hk : ∀ z : Nat, p z -> wpList P ops Q rest (a.put o.dst (.int .i64 (z : Nat))) w) : wpList P ops Q (o :: rest) a w :=
 EC hg _ t t2 x y ho hx hy p (z := n + m) rfl (by rw [CC (by omega) (by omega)]; rfl) hp hk
end
theorem st_someB {P : Program} {ops : Array Oper} {rest : List Oper} {o : Oper} {a : Act} {Q : Exit -> Act -> World -> Prop} {w : World} (hg : Region.wanted o (yielded ops a.tmps) = true) (op : BinOp) (t t2 : TypeId) (x y : Operand) (ho : o.op = .binOp op t x y t2) {vx vy : Value} (hx : a.eval x = vx) (hy : a.eval y = vy) {b : Bool} (he : (eqGuard op t x y vx vy).run P w = .ok () w) (hr : (binOp op t vx vy).run P w = .ok (.bool b) w)
  (hk : ∀ b : Bool, wpList P ops Q rest (a.put o.dst (.bool b)) w) : wpList P ops Q (o :: rest) a w :=
 BigFrame.wpList_want hg fun _ hK => Az ho hx hy he hr (hK _ _ (hk b))
theorem JN {P : Program} {w : World} {g i : Nat} {t ty : TypeId} {cs : Array Value} {u v : Value} (hb : AW w g t cs) (hi : i + 1 < cs.size) (h1 : u.oneCell' = true) (h2 : v.oneCell' = true) (hs : (P.info? ty).map (·.size) = some 2) :
  (Instr.storeAt ty (.pointer (some ⟨g, i, none⟩)) (.agg #[u, v])).run P w = .ok () ((w.setCell ⟨g, i, none⟩ u).setCell ⟨g, i + 1, none⟩ v) := by
 have := run_storeCells_cells (P := P) g i [u, v] 0 w (fun j hj => by have hc := hb.cell (i + j); simp at hj; simp [hc]; omega) (fun j hj => hb.free _) (by simpa using ⟨h1, h2⟩)
 cases hq : P.info? ty with
 | none => simp [hq] at hs
 | some inf =>
  have hs' : inf.size = 2 := by simpa [hq] using hs
  simp only [Nat.add_zero] at this
  simp [Instr.storeAt, Instr.sureAddr, storeVar, sizeOf, typeInfo, hq, Value.cells, hs', this, World.setCells]
theorem st_bstore2 {P : Program} {ops : Array Oper} {rest : List Oper} {o : Oper} {a : Act} {Q : Exit -> Act -> World -> Prop} {w0 w : World} {F : List A7} {K : (Nat -> Prop) -> World -> Prop} (h : St w0 w F K) (i : Nat) (hg : Region.wanted o (yielded ops a.tmps) = true) (ty : TypeId) (x y : Operand) (ho : o.op = .store ty x y) (g j : Nat) (u v : Value) (hx : a.eval x = .pointer (some ⟨g, j, none⟩)) (hy : a.eval y = .agg #[u, v]) {t : TypeId} {cs : Array Value} (hb : F[i]? = some (.box g t cs)) (hi : j + 1 < cs.size)
  (h1 : u.oneCell' = true) (h2 : v.oneCell' = true) (hs : (P.info? ty).map (·.size) = some 2) (hk : ∀ w', St w0 w' (F.set i (.box g t ((cs.setIfInBounds j u).setIfInBounds (j + 1) v))) K -> wpList P ops Q rest (a.put o.dst undef) w') : wpList P ops Q (o :: rest) a w := by
 refine BigFrame.wpList_want hg fun _ hK => ?_
 have hX := h.box i hb
 unfold Oper.wp execOp
 simp only [ho, hx, hy, Sem.run_bind, JN hX hi h1 h2 hs, Result.andThen_ok]
 refine hK _ _ (hk _ (h.upd i hb _ (Bv (Im.trans (BD w g j u) (BD _ g (j + 1) v))) ⟨(h.holds _ (List.mem_of_getElem? hb)).1, (hX.setC u).setC v⟩ fun _ e => .inl e))
theorem ty_rrules : Bn Tryz.prog 27 109 5 40 := ⟨Tryz.underlying27, by kernel_rfl⟩
def ROk (R m : Nat) (z : B3) : Prop := (1 <= z.target /\ z.target <= R) /\ (0 <= z.origin /\ z.origin < 7) /\ z.yes &&& m = z.yes /\ z.no &&& m = z.no /\ z.yes &&& z.no = 0 /\ z.yes < 256 /\ z.no < 256 /\ (z.revoke = true -> z.yes = 0 /\ z.no = 0)
def KOk (m : Nat) (z : Nat × Nat) : Prop := z.1 &&& m = z.1 /\ z.2 &&& m = z.2 /\ z.1 &&& z.2 = 0 /\ z.1 < 256 /\ z.2 < 256
def Gq (R : Nat) : Nat := 2 ^ (R + 1) - 2
theorem run_maskshl {w : World} {R : Nat} (h : R <= 5) : (binOp .shl 5 (.int .u8 2) (.int .u64 (R : Nat))).run Tryz.prog w = .ok (.int .u8 ((2 ^ (R + 1) : Nat) : Int)) w := by
 match R, h with
 | 0, _ => go_simp; rfl
 | 1, _ => go_simp; rfl
 | 2, _ => go_simp; rfl
 | 3, _ => go_simp; rfl
 | 4, _ => go_simp; rfl
 | 5, _ => go_simp; rfl
theorem run_msub {w : World} {R : Nat} (h0 : 2 <= R) (h : R <= 5) : (binOp .sub 5 (.int .u8 ((2 ^ (R + 1) : Nat) : Int)) (.int .u8 2)).run Tryz.prog w = .ok (.int .u8 (Gq R : Nat)) w := by
 match R, h0, h with
 | 2, _, _ => go_simp; rfl
 | 3, _, _ => go_simp; rfl
 | 4, _, _ => go_simp; rfl
 | 5, _, _ => go_simp; rfl
theorem run_shrN {P : Program} {w : World} {t : TypeId} {n k : Nat} (hk : k < 64) : (binOp .shr t (.int .i64 (n : Nat)) (.int .u64 (k : Nat))).run P w = .ok (.int .i64 ((n / 2 ^ k : Nat) : Int)) w := by
 go_simp
theorem CF {w0 w : World} {F : List A7} {K : (Nat -> Prop) -> World -> Prop} {q c at_ : Nat} {A : Option Addr} {l : List Nat} (hl : ∀ x ∈ l, x < 256) (ha : at_ < 1000000) (hS : St w0 w F K) (i : Nat) (hi : F[i]? = some (.box q 113 #[.slice A l.length c, .int .i64 (at_ : Nat)])) (kp : ∀ D w, K D w -> Sl w D 1 (.slice A l.length c) l.length (Aa l)) :
  Calls Tryz.prog 51 #[.pointer (some ⟨q, 0, none⟩)] w fun e w' => ∃ b : Nat, b < 256 /\ e = .returned (.int .i64 (b : Nat)) /\ St w0 w' (F.set i (.box q 113 #[.slice A l.length c, .int .i64 ((at_ + 1 : Nat) : Int)])) K := by
 refine (next_any hl ha (hS.front hi) kp).mono ?_
 rintro e w' ⟨b, h1, h2, h3⟩
 exact ⟨b, h1, h2, h3.perm (perm_at F i _ _ hi).symm⟩
theorem run_shl2 {w : World} {t : TypeId} {R : Nat} (h : R < 5) : (binOp .shl t (.int .i64 2) (.int .u64 (R : Nat))).run Tryz.prog w = .ok (.int .i64 ((2 ^ (R + 1) : Nat) : Int)) w := by
 match R, h with
 | 0, _ => go_simp; rfl
 | 1, _ => go_simp; rfl
 | 2, _ => go_simp; rfl
 | 3, _ => go_simp; rfl
 | 4, _ => go_simp; rfl
theorem i64_or_nat (a b : Nat) (ha : a < 256) (hb : b < 256) : bits .or .i64 (a : Int) (b : Int) = ((a ||| b : Nat) : Int) := by
 have hx : a ||| b < 2 ^ 8 := Nat.or_lt_two_pow (by omega) (by omega)
 show IntKind.i64.wrap ((BitVec.ofInt 64 (a : Int) ||| BitVec.ofInt 64 (b : Int)).toNat : Int) = _
 rw [BitVec.toNat_or, show BitVec.ofInt 64 (a : Int) = BitVec.ofNat 64 a from BitVec.ofInt_natCast .., show BitVec.ofInt 64 (b : Int) = BitVec.ofNat 64 b from BitVec.ofInt_natCast .., BitVec.toNat_ofNat, BitVec.toNat_ofNat, Nat.mod_eq_of_lt (by omega), Nat.mod_eq_of_lt (by omega)]
 exact GP (by omega)
theorem run_orN {w : World} {t : TypeId} {a b : Nat} (ha : a < 256) (hb : b < 256) : (binOp .or t (.int .i64 (a : Nat)) (.int .i64 (b : Nat))).run Tryz.prog w = .ok (.int .i64 ((a ||| b : Nat) : Int)) w := by
 go_simp
 exact i64_or_nat a b ha hb
theorem closM_ltT (L : List (Nat × Nat)) (s : Nat) : closM L s < AA := by rw [C1]; exact G9 L s 64
structure Gu (p : AP) (L : List (Nat × Nat)) (R : Nat) : Prop where
 links : p.links = some L
 roles : p.roles = (R : Int)
 r2 : 2 <= R
 r5 : R <= 5
 hok : Gi L
 inr : InRol R L
 len : L.length <= 25
 start : p.start &&& Gq R = p.start
 rlen : p.rules.length <= 6
 rules : ∀ z ∈ p.rules, ROk R (Gq R) z
 nlen : p.never.length <= 3
 never : ∀ z ∈ p.never, KOk (Gq R) z /\ BZ z (closM L p.start) = false
 glen : p.goal.length <= 3
 gpos : 1 <= p.goal.length
 goal : ∀ z ∈ p.goal, KOk (Gq R) z
theorem Hj (l : List B3) (b : Bool) (y n : Nat) (t o : Int) : AX (l ++ [⟨b, y, n, t, o⟩]) = AX l ++ [.bool b, .int .u64 (y : Nat), .int .u64 (n : Nat), .int .i64 t, .int .i64 o] := by rw [JR]; rfl
theorem IW (l : List (Nat × Nat)) (y n : Nat) : AM (l ++ [(y, n)]) = AM l ++ [.int .u64 (y : Nat), .int .u64 (n : Nat)] := by rw [Dw]; rfl
theorem JC : Bn Tryz.prog 28 50 2 16 := ⟨Tryz.underlying28, by kernel_rfl⟩
theorem Ic {α : Type} {P : α -> Prop} {l : List α} {x : α} (h : ∀ z ∈ l, P z) (hx : P x) : ∀ z ∈ l ++ [x], P z := fun z hz => by
 rcases List.mem_append.1 hz with h1 | h1
 ·exact h z h1
 ·rw [List.mem_singleton.1 h1]; exact hx
set_option maxHeartbeats 4000000 in
theorem IU {w0 w : World} {F : List A7} {K : (Nat -> Prop) -> World -> Prop} {v : Value} {l : List Nat} (hl : ∀ x ∈ l, x < 256) (hS : St w0 w F K) (kp : ∀ D w, K D w -> Sl w D 1 v l.length (Aa l)) :
  Calls Tryz.prog 13 #[v] w fun e w' => ∃ u p L R, e = .returned u /\ Gu p L R /\ St w0 w' F fun D w => K D w /\ B5 w D u p := by
 obtain ⟨A, c, rfl, hc1, hc2⟩ := (kp _ _ hS.ro).shape
 have HL := Lib.hid hl
 have KS := Lib.hid hS.stable
 clear hl
 go_enter Tryz.func13, Tryz.ntmps13
 go_wp2_with (first
  | ((with_reducible refine qA 2 ?_); refine qa hS #[.int .i64 0, .slice none 0 0, .int .u64 0, .slice none 0 0, .slice none 0 0, .slice none 0 0] ?_; clear hS; intro g2 w_ hS)
  | ((with_reducible refine qA 27 ?_); refine Bt rfl _ _ rfl #[.slice A l.length c, .int .i64 0] (by kernel_rfl) ?_; (try simp only [Act.put, List.setIfInBounds_toArray, List.set_cons_zero, List.set_cons_succ]))
  | ((with_reducible refine qA 28 ?_); refine AH hS rfl _ _ rfl (.agg #[.slice A l.length c, .int .i64 0]) _ rfl rfl ?_; clear hS; intro q w_ hS; (try simp only [Act.put, Act.eval, zz, Value.cells] at hS))
  | (go_at_call 51; first
    | (refine (CF (at_ := 0) HL.out (by omega) hS 0 rfl kp).mono ?_; clear hS; rintro e w_ ⟨b, hb, rfl, hS⟩; replace hS : St w0 w_ (.box q 113 #[.slice A l.length c, .int .i64 1] :: .box g2 30 #[.int .i64 0, .slice none 0 0, .int .u64 0, .slice none 0 0, .slice none 0 0, .slice none 0 0] :: F) K := hS)
    | (refine (CF (at_ := 1) HL.out (by omega) hS 1 rfl kp).mono ?_; clear hS; rintro e w_ ⟨lk, hlk, rfl, hS⟩; replace hS : St w0 w_ (.box g4 30 #[.int .i64 (R : Nat), .slice none 0 0, .int .u64 0, .slice none 0 0, .slice none 0 0, .slice none 0 0] :: .box q 113 #[.slice A l.length c, .int .i64 2] :: .box g2 30 #[.int .i64 0, .slice none 0 0, .int .u64 0, .slice none 0 0, .slice none 0 0, .slice none 0 0] :: F) K := hS))
  | ((with_reducible refine qA 31 ?_); refine Dv (m := 4) rfl _ _ _ _ rfl rfl rfl (by decide) ?_; intro r4 hr4)
  | ((with_reducible refine qA 32 ?_); refine Js (n := 2) rfl _ _ _ _ rfl (fun z => 2 <= z /\ z <= 5) rfl rfl (by omega) (by omega) ?_; intro R hR)
  | ((with_reducible refine qA 33 ?_); refine Bt rfl _ _ rfl #[.int .i64 (R : Nat), .slice none 0 0, .int .u64 0, .slice none 0 0, .slice none 0 0, .slice none 0 0] (by kernel_rfl) ?_; (try simp only [Act.put, List.setIfInBounds_toArray, List.set_cons_zero, List.set_cons_succ]))
  | ((with_reducible refine qA 4 ?_); refine qa hS #[.int .i64 0, .slice none 0 0, .int .u64 0, .slice none 0 0, .slice none 0 0, .slice none 0 0] ?_; clear hS; intro g4 w_ hS)
  | ((with_reducible refine qM ?_); (first | refine qS hS ?_ | refine qT hS ?_); clear hS; intro w_ hS; (try simp only [Act.put, Act.eval, zz, Value.cells] at hS))
  | ((with_reducible refine qK ?_); refine qC hS ?_)
  | ((with_reducible refine qA 37 ?_); refine BigFrame.wpList_want rfl fun _ hK => Az (vx := .int .u8 2) (vy := .int .u64 (R : Nat)) rfl rfl rfl rfl (run_maskshl hR.2) (hK _ _ ?_))
  | ((with_reducible refine qA 38 ?_); refine EC (k := .u8) rfl _ _ _ _ _ rfl rfl rfl (fun z => z < 256 /\ Hid (z = Gq R)) (z := Gq R) rfl (run_msub hR.1 hR.2) ⟨by unfold Gq; have := Nat.pow_le_pow_right (n := 2) (by decide) (show R + 1 <= 6 by omega); omega, Lib.hid rfl⟩ ?_; rintro m ⟨hm, HM⟩))
 have h64 : R < 64 := by omega
 replace hS := hS.mono (KS.out.and (Aj (by decide) (size := 2) (v := .slice none 0 0) (n := 0) (xs := A6 []))) fun D w h => ⟨h, Sl.none_⟩
 go_loopw [7, 8, 9] (fun nv av cv wr => ∃ (a n : Nat) (pv : Value) (L : List (Nat × Nat)), av = .int .i64 (a : Nat) /\ nv = .int .i64 (n : Nat) /\ 1 <= a /\ a <= R /\ n <= 5 * (a - 1) /\ L.length <= n /\ Hid (Gi L) /\ Hid (InRol R L) /\ St w0 wr (.box g4 30 #[.int .i64 (R : Nat), pv, .int .u64 0, .slice none 0 0, .slice none 0 0, .slice none 0 0] :: .box q 113 #[.slice A l.length c, .int .i64 2] :: .box g2 30 #[.int .i64 0, .slice none 0 0, .int .u64 0, .slice none 0 0, .slice none 0 0, .slice none 0 0] :: F) fun D w => K D w /\ Sl w D 2 pv L.length (A6 L)) (fun _ av _ _ => R - (intOf av).toNat)
 case atStart => exact ⟨1, 0, _, [], rfl, rfl, by omega, by omega, by omega, by simp, Lib.hid Gi.nil, Lib.hid (fun z hz => by simp at hz), hS⟩
 case round =>
  clear hS
  obtain ⟨a, n, pv, L, rfl, rfl, ha1, haR, hn, hLn, HH, HR, hS⟩ := hrel
  by_cases haR2 : a < R
  ·go_wp2_with (first | ((with_reducible refine qB ?_); refine qc ?_ ?_ <;> intro h_ <;> go_prune) | ((with_reducible refine qK ?_); refine qC hS ?_))
   go_loopw [7, 9] (fun nv cv wr => ∃ (d n : Nat) (pv : Value) (L : List (Nat × Nat)), cv = .int .i64 (d : Nat) /\ nv = .int .i64 (n : Nat) /\ a + 1 <= d /\ d <= R + 1 /\ n + a + 1 <= 5 * (a - 1) + d /\ L.length <= n /\ Hid (Gi L) /\ Hid (InRol R L) /\ St w0 wr (.box g4 30 #[.int .i64 (R : Nat), pv, .int .u64 0, .slice none 0 0, .slice none 0 0, .slice none 0 0] :: .box q 113 #[.slice A l.length c, .int .i64 2] :: .box g2 30 #[.int .i64 0, .slice none 0 0, .int .u64 0, .slice none 0 0, .slice none 0 0, .slice none 0 0] :: F) fun D w => K D w /\ Sl w D 2 pv L.length (A6 L)) (fun _ cv _ => R + 1 - (intOf cv).toNat)
   case atStart => exact ⟨a + 1, n, pv, L, by go_num, rfl, by omega, by omega, by omega, hLn, HH, HR, hS⟩
   case round =>
    clear hS HH HR hLn hn
    obtain ⟨d, n, pv, L, rfl, rfl, hd1, hdR, hn, hLn, HH, HR, hS⟩ := hrel
    by_cases hdR2 : d <= R
    ·go_wp2_with (first
      | ((with_reducible refine qK ?_); refine qC hS ?_)
      | ((with_reducible refine qA 57 ?_); refine Dv (m := 8) rfl _ _ _ _ rfl rfl rfl (by decide) ?_; intro z57 h57)
      | ((with_reducible refine qA 59 ?_); refine EC (k := .i64) rfl _ _ _ _ _ rfl rfl rfl (fun _ => True) rfl (run_shrN (k := z57) (by omega)) trivial ?_; intro z59 _)
      | ((with_reducible refine qA 60 ?_); refine Dv (m := 2) rfl _ _ _ _ rfl rfl rfl (by decide) ?_; intro z60 h60)
      | ((with_reducible refine qA 64 ?_); refine Dv (m := 3) rfl _ _ _ _ rfl rfl rfl (by decide) ?_; intro z64 h64_)
      | ((with_reducible refine qB ?_); refine qc ?_ ?_ <;> intro h_ <;> go_prune)
      | (go_at_call 52; refine (rlink_st HH.out HR.out ha1 (by omega) hdR2 h64 (by omega) hS (fun D w h => h.2)).mono ?_; clear hS; rintro e w_ ⟨v2, z2, L2, rfl, HH2, HR2, hl2, hS⟩; replace HH2 := Lib.hid HH2; replace HR2 := Lib.hid HR2; obtain ⟨A2, c2, rfl, _, _⟩ := hS.ro.2.shape)
      | ((with_reducible refine qM ?_); (first | refine qS hS ?_ | refine qT hS ?_); clear hS; intro w_ hS; (try simp only [Act.put, Act.eval, zz, Value.cells] at hS)))
     all_goals first
      | exact ⟨⟨d + 1, n + 1, _, L2, by go_num, by go_num, by omega, by omega, by omega, by omega, HH2, HR2, hS.mono (KS.out.and (Aj (by decide))) fun D w h => ⟨h.1.1, h.2⟩⟩, by simp [intOf]; omega⟩
      | exact ⟨⟨d + 1, n + 1, pv, L, by go_num, by go_num, by omega, by omega, by omega, by omega, HH, HR, hS⟩, by simp [intOf]; omega⟩
    ·go_wp2_with (first | ((with_reducible refine qB ?_); refine qc ?_ ?_ <;> intro h_ <;> go_prune) | ((with_reducible refine qK ?_); refine qC hS ?_))
     exact ⟨⟨a + 1, n, pv, L, by go_num, rfl, by omega, by omega, by omega, by omega, HH, HR, hS⟩, by simp [intOf]; omega⟩
  ·have hnn : n <= 25 := by omega
   clear ha1 haR hn hc1 hc2
   go_wp2_with (first
    | ((with_reducible refine qB ?_); refine qc ?_ ?_ <;> intro h_ <;> go_prune)
    | ((with_reducible refine qK ?_); refine qC hS ?_)
    | (go_at_call 51; first | (refine (CF (at_ := 2) HL.out (by omega) hS 1 rfl (fun D w h => kp D w h.1)).mono ?_; clear hS; rintro e w_ ⟨b3, hb3, rfl, hS⟩; replace hS : St w0 w_ (.box g4 30 #[.int .i64 (R : Nat), pv, .int .u64 0, .slice none 0 0, .slice none 0 0, .slice none 0 0] :: .box q 113 #[.slice A l.length c, .int .i64 ((2 + 1 : Nat) : Int)] :: .box g2 30 #[.int .i64 0, .slice none 0 0, .int .u64 0, .slice none 0 0, .slice none 0 0, .slice none 0 0] :: F) (fun D w => K D w /\ Sl w D 2 pv L.length (A6 L)) := hS) | (refine (CF (at_ := 2 + 1) HL.out (by omega) hS 1 rfl (fun D w h => kp D w h.1)).mono ?_; clear hS; rintro e w_ ⟨b4, hb4, rfl, hS⟩; replace hS : St w0 w_ (.box g4 30 #[.int .i64 (R : Nat), pv, .int .u64 (s0 : Nat), .slice none 0 0, .slice none 0 0, .slice none 0 0] :: .box q 113 #[.slice A l.length c, .int .i64 ((2 + 1 + 1 : Nat) : Int)] :: .box g2 30 #[.int .i64 0, .slice none 0 0, .int .u64 0, .slice none 0 0, .slice none 0 0, .slice none 0 0] :: F) (fun D w => K D w /\ Sl w D 2 pv L.length (A6 L)) := hS))
    | ((with_reducible refine qA 82 ?_); refine Hc rfl _ _ _ _ rfl _ _ rfl rfl (by omega) (by omega) ?_; intro s0 hs0 es0)
    | ((with_reducible refine qA 87 ?_); refine Dv (m := 7) rfl _ _ _ _ rfl rfl rfl (by decide) ?_; intro RU hRU)
    | ((with_reducible refine qM ?_); (first | refine qS hS ?_ | refine qT hS ?_); clear hS; intro w_ hS; (try simp only [Act.put, Act.eval, zz, Value.cells] at hS)))
   have HS0 : Hid (s0 &&& m = s0) := Lib.hid (by have h := es0.out; simp only [Int.toNat_natCast] at h; rw [h, Kx])
   clear es0 hb3 hb4
   obtain ⟨Ap, cp, rfl, _, _⟩ := hS.ro.2.shape
   obtain ⟨K1, k1, kk1, hS2⟩ : ∃ K1 : (Nat -> Prop) -> World -> Prop, (∀ D w, K1 D w -> K D w) /\ (∀ D w, K1 D w -> Sl w D 2 (.slice Ap L.length cp) L.length (A6 L)) /\ St w0 w_ (.box g4 30 #[.int .i64 (R : Nat), .slice Ap L.length cp, .int .u64 (s0 : Nat), .slice none 0 0, .slice none 0 0, .slice none 0 0] :: .box q 113 #[.slice A l.length c, .int .i64 ((2 + 1 + 1 : Nat) : Int)] :: .box g2 30 #[.int .i64 0, .slice none 0 0, .int .u64 0, .slice none 0 0, .slice none 0 0, .slice none 0 0] :: F) K1 := ⟨_, fun _ _ h => h.1, fun _ _ h => h.2, hS⟩
   clear hS
   have hS := hS2.nil 109 5
   clear hS2
   have KS1 := Lib.hid hS.stable
   go_loopw [11] (fun kv wr => ∃ (k t : Nat) (rv : Value) (rs : List B3), kv = .int .i64 (k : Nat) /\ k <= RU /\ t <= 4 + 4 * k /\ Hid (rs.length = k) /\ Hid (∀ z ∈ rs, ROk R m z) /\ St w0 wr (.own rv 109 5 k (AX rs) :: .box g4 30 #[.int .i64 (R : Nat), .slice Ap L.length cp, .int .u64 (s0 : Nat), rv, .slice none 0 0, .slice none 0 0] :: .box q 113 #[.slice A l.length c, .int .i64 ((t : Nat) : Int)] :: .box g2 30 #[.int .i64 0, .slice none 0 0, .int .u64 0, .slice none 0 0, .slice none 0 0, .slice none 0 0] :: F) K1) (fun kv _ => RU - (intOf kv).toNat)
   case atStart => exact ⟨0, 2 + 1 + 1, _, [], rfl, by omega, by omega, Lib.hid rfl, Lib.hid (fun z hz => by simp at hz), hS⟩
   case round =>
    clear hS
    obtain ⟨k, t, rv, rs, rfl, hk, ht, HRL, HRS, hS⟩ := hrel
    obtain ⟨Ar, cr, rfl, _, _⟩ := Cu (hS.own 0 rfl)
    by_cases hkR : k < RU
    ·have hk7 : k < 7 := by omega
     go_wp2_with (first
      | (go_at_call 51; first | (refine (CF (at_ := t) HL.out (by omega) hS 2 rfl (fun D w h => kp D w (k1 D w h))).mono ?_; clear hS; rintro e w_ ⟨kd, hkd, rfl, hS⟩; simp only [List.set_cons_succ, List.set_cons_zero] at hS) | (refine (CF (at_ := t + 1) HL.out (by omega) hS 2 rfl (fun D w h => kp D w (k1 D w h))).mono ?_; clear hS; rintro e w_ ⟨tg, htg, rfl, hS⟩; simp only [List.set_cons_succ, List.set_cons_zero] at hS) | (refine (CF (at_ := t + 1 + 1) HL.out (by omega) hS 2 rfl (fun D w h => kp D w (k1 D w h))).mono ?_; clear hS; rintro e w_ ⟨cy, hcy, rfl, hS⟩; simp only [List.set_cons_succ, List.set_cons_zero] at hS) | (refine (CF (at_ := t + 1 + 1 + 1) HL.out (by omega) hS 2 rfl (fun D w h => kp D w (k1 D w h))).mono ?_; clear hS; rintro e w_ ⟨cz, hcz, rfl, hS⟩; simp only [List.set_cons_succ, List.set_cons_zero] at hS))
      | ((with_reducible refine qA 102 ?_); refine Dv (m := 4) rfl _ _ _ _ rfl rfl rfl (by decide) ?_; intro z102 h102)
      | ((with_reducible refine qA 103 ?_); refine st_someB rfl _ _ _ _ _ rfl rfl rfl rfl (run_eqB rfl) ?_; intro rvk)
      | ((with_reducible refine qA 107 ?_); refine Dv (m := R) rfl _ _ _ _ rfl rfl rfl (by omega) ?_; intro z107 h107)
      | ((with_reducible refine qA 108 ?_); refine Js (n := 1) rfl _ _ _ _ rfl (fun z => 1 <= z /\ z <= R) rfl rfl (by omega) (by omega) ?_; intro z108 h108)
      | ((with_reducible refine qA 110 ?_); refine Bt rfl _ _ rfl #[.bool rvk, .int .u64 0, .int .u64 0, .int .i64 (z108 : Nat), .int .i64 (k : Nat)] (by kernel_rfl) ?_; (try simp only [Act.put, List.setIfInBounds_toArray, List.set_cons_zero, List.set_cons_succ]))
      | ((with_reducible refine qA 16 ?_); refine qa hS #[.bool false, .int .u64 0, .int .u64 0, .int .i64 0, .int .i64 0] ?_; clear hS; intro g16 w_ hS)
      | ((with_reducible refine qm 109 ?_); refine qS hS ?_; clear hS; intro w_ hS; (try simp only [Act.put, Act.eval, zz, Value.cells] at hS); cases rvk)
      | (go_at_call 53; refine (Iv cy cz m hm _).mono ?_; rintro r_ w_ ⟨_, rfl, ⟨ya, na, rfl, s1, s2, s3, s4, s5⟩, hb_⟩; replace hS := hS.ext hb_; clear hb_)
      | ((with_reducible refine qm 50 ?_); refine st_bstore2 hS 0 rfl _ _ _ rfl _ _ _ _ rfl rfl rfl (by simp) rfl rfl (by kernel_rfl) ?_; clear hS; intro w_ hS; (try simp only [Act.put, Act.eval, zz, Value.cells] at hS))
      | ((with_reducible refine qK ?_); refine qL hS Tryz.underlying109 ?_)
      | ((with_reducible refine qA 122 ?_); first | (refine Ef hS 1 rfl rfl _ _ _ _ rfl rfl ty_rrules (.slice Ar k cr) k (AX rs) (.agg #[.bool false, .int .u64 (ya : Nat), .int .u64 (na : Nat), .int .i64 (z108 : Nat), .int .i64 (k : Nat)]) #[.bool false, .int .u64 (ya : Nat), .int .u64 (na : Nat), .int .i64 (z108 : Nat), .int .i64 (k : Nat)] rfl (by kernel_rfl) rfl rfl rfl rfl (by intro u hu; simp at hu; rcases hu with rfl | rfl | rfl | rfl | rfl <;> rfl) (by omega) (by omega) ?_; clear hS; intro z_ v' w_ hS; (try simp only [Act.put, Act.eval, zz, Value.cells] at hS); obtain ⟨A', c', rfl, _, _⟩ := Cu (hS.own 1 rfl)) | (refine Ef hS 1 rfl rfl _ _ _ _ rfl rfl ty_rrules (.slice Ar k cr) k (AX rs) (.agg #[.bool true, .int .u64 0, .int .u64 0, .int .i64 (z108 : Nat), .int .i64 (k : Nat)]) #[.bool true, .int .u64 0, .int .u64 0, .int .i64 (z108 : Nat), .int .i64 (k : Nat)] rfl (by kernel_rfl) rfl rfl rfl rfl (by intro u hu; simp at hu; rcases hu with rfl | rfl | rfl | rfl <;> rfl) (by omega) (by omega) ?_; clear hS; intro z_ v' w_ hS; (try simp only [Act.put, Act.eval, zz, Value.cells] at hS); obtain ⟨A', c', rfl, _, _⟩ := Cu (hS.own 1 rfl)))
      | ((with_reducible refine qB ?_); refine qc ?_ ?_ <;> intro h_ <;> go_prune)
      | ((with_reducible refine qK ?_); refine qC hS ?_)
      | ((with_reducible refine qM ?_); (first | refine qS hS ?_ | refine qT hS ?_); clear hS; intro w_ hS; (try simp only [Act.put, Act.eval, zz, Value.cells] at hS)))
     ·have e : AX (rs ++ [⟨false, ya, na, (z108 : Nat), (k : Nat)⟩]) = AX rs ++ [.bool false, .int .u64 (ya : Nat), .int .u64 (na : Nat), .int .i64 (z108 : Nat), .int .i64 (k : Nat)] := Hj ..
      refine ⟨⟨k + 1, _, .slice A' (k + 1) c', rs ++ [⟨false, ya, na, (z108 : Nat), (k : Nat)⟩], by go_num, hkR, ?_, Lib.hid (by rw [List.length_append, HRL.out]; rfl), Lib.hid (Ic HRS.out ⟨⟨by simp only; omega, by simp only; omega⟩, ⟨by simp only; omega, by simp only; omega⟩, s1, s2, s3, s4, s5, fun h => by cases h⟩), by rw [e]; exact hS.sub (List.sublist_cons_self _ _)⟩, by simp [intOf]; omega⟩
      omega
     ·have e : AX (rs ++ [⟨true, 0, 0, (z108 : Nat), (k : Nat)⟩]) = AX rs ++ [.bool true, .int .u64 0, .int .u64 0, .int .i64 (z108 : Nat), .int .i64 (k : Nat)] := Hj ..
      refine ⟨⟨k + 1, _, .slice A' (k + 1) c', rs ++ [⟨true, 0, 0, (z108 : Nat), (k : Nat)⟩], by go_num, hkR, ?_, Lib.hid (by rw [List.length_append, HRL.out]; rfl), Lib.hid (Ic HRS.out ⟨⟨by simp only; omega, by simp only; omega⟩, ⟨by simp only; omega, by simp only; omega⟩, Nat.zero_and m, Nat.zero_and m, Nat.zero_and 0, Nat.zero_lt_succ _, Nat.zero_lt_succ _, fun _ => ⟨rfl, rfl⟩⟩), by rw [e]; exact hS.sub (List.sublist_cons_self _ _)⟩, by simp [intOf]; omega⟩
      omega
    ·obtain rfl : RU = k := by omega
     go_wp2_with (first
      | (go_at_call 51; first | (refine (CF (at_ := t) HL.out (by omega) hS 2 rfl (fun D w h => kp D w (k1 D w h))).mono ?_; clear hS; rintro e w_ ⟨bv, hbv, rfl, hS⟩; simp only [List.set_cons_succ, List.set_cons_zero] at hS) | (refine (CF (at_ := t + 1) HL.out (by omega) hS 2 rfl (fun D w h => kp D w (k1 D w h))).mono ?_; clear hS; rintro e w_ ⟨bg, hbg, rfl, hS⟩; simp only [List.set_cons_succ, List.set_cons_zero] at hS))
      | ((with_reducible refine qA 127 ?_); refine Dv (m := 4) rfl _ _ _ _ rfl rfl rfl (by decide) ?_; intro NV hNV)
      | ((with_reducible refine qA 130 ?_); refine Dv (m := 3) rfl _ _ _ _ rfl rfl rfl (by decide) ?_; intro g3 hg3)
      | ((with_reducible refine qA 131 ?_); refine Js (n := 1) rfl _ _ _ _ rfl (fun z => 1 <= z /\ z <= 3) rfl rfl (by omega) (by omega) ?_; intro GO hGO)
      | ((with_reducible refine qB ?_); refine qc ?_ ?_ <;> intro h_ <;> go_prune))
     obtain ⟨K2, j1, k2, kr2, hS2⟩ : ∃ K2 : (Nat -> Prop) -> World -> Prop, (∀ D w, K2 D w -> K D w) /\ (∀ D w, K2 D w -> Sl w D 2 (.slice Ap L.length cp) L.length (A6 L)) /\ (∀ D w, K2 D w -> Sl w D 5 (.slice Ar RU cr) RU (AX rs)) /\ St w0 w_ (.box g4 30 #[.int .i64 (R : Nat), .slice Ap L.length cp, .int .u64 (s0 : Nat), .slice Ar RU cr, .slice none 0 0, .slice none 0 0] :: .box q 113 #[.slice A l.length c, .int .i64 ((t + 1 + 1 : Nat) : Int)] :: .box g2 30 #[.int .i64 0, .slice none 0 0, .int .u64 0, .slice none 0 0, .slice none 0 0, .slice none 0 0] :: F) K2 := ⟨_, fun _ _ h => k1 _ _ h.1, fun _ _ h => kk1 _ _ h.1, fun _ _ h => h.2, hS.freeze 0 (by decide) rfl⟩
     clear hS
     have hS := hS2.nil 50 2
     clear hS2
     have KS2 := Lib.hid hS.stable
     go_loopw [19] (fun jv wr => ∃ (j u : Nat) (nv : Value) (ns : List (Nat × Nat)), jv = .int .i64 (j : Nat) /\ j <= NV /\ u <= 40 + 2 * j /\ ns.length <= j /\ Hid (∀ z ∈ ns, KOk m z /\ BZ z (closM L s0) = false) /\ St w0 wr (.own nv 50 2 ns.length (AM ns) :: .box g4 30 #[.int .i64 (R : Nat), .slice Ap L.length cp, .int .u64 (s0 : Nat), .slice Ar RU cr, nv, .slice none 0 0] :: .box q 113 #[.slice A l.length c, .int .i64 ((u : Nat) : Int)] :: .box g2 30 #[.int .i64 0, .slice none 0 0, .int .u64 0, .slice none 0 0, .slice none 0 0, .slice none 0 0] :: F) K2) (fun jv _ => NV - (intOf jv).toNat)
     case atStart => exact ⟨0, t + 1 + 1, _, [], rfl, by omega, by omega, by simp, Lib.hid (fun z hz => by simp at hz), hS⟩
     case round =>
      clear hS
      obtain ⟨j, u, nv, ns, rfl, hj, hu, hnl, HNS, hS⟩ := hrel
      obtain ⟨An, cn, rfl, _, _⟩ := Cu (hS.own 0 rfl)
      by_cases hjN : j < NV
      ·go_wp2_with (first
        | (go_at_call 51; first | (refine (CF (at_ := u) HL.out (by omega) hS 2 rfl (fun D w h => kp D w (j1 D w h))).mono ?_; clear hS; rintro e w_ ⟨yb, hyb, rfl, hS⟩; simp only [List.set_cons_succ, List.set_cons_zero] at hS) | (refine (CF (at_ := u + 1) HL.out (by omega) hS 2 rfl (fun D w h => kp D w (j1 D w h))).mono ?_; clear hS; rintro e w_ ⟨nb, hnb, rfl, hS⟩; simp only [List.set_cons_succ, List.set_cons_zero] at hS))
        | ((with_reducible refine qA 145 ?_); refine Dv (m := R) rfl _ _ _ _ rfl rfl rfl (by omega) ?_; intro z145 h145)
        | ((with_reducible refine qA 147 ?_); refine EC (k := .i64) rfl _ _ _ _ _ rfl rfl rfl (fun z => z < 256) (z := 2 ^ (z145 + 1)) rfl (run_shl2 (by omega)) (Nat.lt_of_le_of_lt (Nat.pow_le_pow_right (by decide) (show z145 + 1 <= 5 by omega)) (by decide)) ?_; intro z147 h147)
        | ((with_reducible refine qA 148 ?_); refine EC (k := .i64) rfl _ _ _ _ _ rfl rfl rfl (fun _ => True) (z := yb ||| z147) rfl (run_orN hyb h147) trivial ?_; intro z148 _)
        | (go_at_call 53; refine (Iv z148 nb m hm _).mono ?_; rintro r_ w_ ⟨_, rfl, ⟨ya, na, rfl, s1, s2, s3, s4, s5⟩, hb_⟩; replace hS := hS.ext hb_; clear hb_)
        | ((with_reducible refine qA 22 ?_); refine qa hS #[.int .u64 0, .int .u64 0] ?_; clear hS; intro g22 w_ hS)
        | ((with_reducible refine qB ?_); refine qc ?_ ?_ <;> intro h_ <;> go_prune)
        | ((with_reducible refine qK ?_); refine qC hS ?_)
        | ((with_reducible refine qM ?_); (first | refine qS hS ?_ | refine qT hS ?_); clear hS; intro w_ hS; (try simp only [Act.put, Act.eval, zz, Value.cells] at hS)))
       obtain ⟨hld, hHb⟩ : ∃ hld : Bool, hld = BZ (ya, na) (closM L s0) := ⟨_, rfl⟩
       have HB := Lib.hid hHb
       clear hHb
       refine EB [.i (.agg #[.int .u64 (ya : Nat), .int .u64 (na : Nat)]), .q g4 1, .i (.slice Ap L.length cp), .q g4 2, .i (.int .u64 (s0 : Nat)), .i (.int .u64 (closM L s0 : Nat)), .i (.bool hld), .i (.bool (!hld))] ⟨uR (h := fun w hW hN => (hS.ext hW).box 0 rfl), uF, uC (h := fun w hW hN => (hS.ext hW).shut 2 rfl 1 rfl), uF, uC (h := fun w hW hN => (hS.ext hW).shut 2 rfl 2 rfl), ?_, ?_, uU, trivial⟩ ?_
       ·refine uT fun b__ w hW hE K hK => ?_
        have e154 := hE 154
        have e156 := hE 156
        exact AV rfl (by kernel_rfl) (by simp only [List.map_cons, List.map_nil, e154, e156]) (rclos_any (k2 _ _ (hS.ext hW).ro) HH.out.inr (by omega) s0) fun v w' h hb => hK v w' h hb
       ·refine uT fun b__ w hW hE K hK => ?_
        have e152 := hE 152
        have e157 := hE 157
        exact AV rfl (by kernel_rfl) (by simp only [List.map_cons, List.map_nil, e152, e157]) (JU (y := ya) (n := na) (by unfold AA; omega) (by unfold AA; omega) (closM_ltT L s0) _) fun v w' h hb => hK v w' (h.trans (by rw [HB.out])) hb
       ·intro vs wz hW hT
        obtain ⟨e152, e153, e154, e155, e156, e157, e158, e159, -⟩ := hT
        simp only [AL, Act.put, zz, ze]
        replace hS := hS.ext hW
        rw [e159]
        clear hW e152 e153 e154 e155 e156 e157 e158 e159
        cases hld with
        | true =>
         go_wp2_with fail
         exact ⟨⟨j + 1, u + 1 + 1, _, ns, by go_num, hjN, by omega, by omega, HNS, hS.sub (List.sublist_cons_self _ _)⟩, by simp [intOf]; omega⟩
        | false =>
         go_wp2_with (first
          | ((with_reducible refine qK ?_); refine qC hS ?_)
          | ((with_reducible refine qK ?_); refine qL hS Tryz.underlying50 ?_)
          | ((with_reducible refine qA 163 ?_); refine Ef hS 1 rfl rfl _ _ _ _ rfl rfl JC (.slice An ns.length cn) ns.length (AM ns) (.agg #[.int .u64 (ya : Nat), .int .u64 (na : Nat)]) #[.int .u64 (ya : Nat), .int .u64 (na : Nat)] rfl (by kernel_rfl) rfl rfl rfl rfl (by intro u hu; simp at hu; rcases hu with rfl | rfl <;> rfl) (by omega) (by omega) ?_; clear hS; intro z_ v' w_ hS; (try simp only [Act.put, Act.eval, zz, Value.cells] at hS); obtain ⟨A', c', rfl, _, _⟩ := Cu (hS.own 1 rfl))
          | ((with_reducible refine qM ?_); (first | refine qS hS ?_ | refine qT hS ?_); clear hS; intro w_ hS; (try simp only [Act.put, Act.eval, zz, Value.cells] at hS)))
         have e : AM (ns ++ [(ya, na)]) = AM ns ++ [.int .u64 (ya : Nat), .int .u64 (na : Nat)] := IW ..
         exact ⟨⟨j + 1, u + 1 + 1, .slice A' (ns.length + 1) c', ns ++ [(ya, na)], by go_num, hjN, by omega, by simp; omega, Lib.hid (Ic HNS.out ⟨⟨s1, s2, s3, s4, s5⟩, HB.out.symm⟩), by rw [e, List.length_append]; exact hS.sub (List.sublist_cons_self _ _)⟩, by simp [intOf]; omega⟩
      ·obtain rfl : NV = j := by omega
       go_wp2_with (first | ((with_reducible refine qB ?_); refine qc ?_ ?_ <;> intro h_ <;> go_prune))
       obtain ⟨K3, j3, k3, kr3, kn3, hS2⟩ : ∃ K3 : (Nat -> Prop) -> World -> Prop, (∀ D w, K3 D w -> K D w) /\ (∀ D w, K3 D w -> Sl w D 2 (.slice Ap L.length cp) L.length (A6 L)) /\ (∀ D w, K3 D w -> Sl w D 5 (.slice Ar RU cr) RU (AX rs)) /\ (∀ D w, K3 D w -> Sl w D 2 (.slice An ns.length cn) ns.length (AM ns)) /\ St w0 wr (.box g4 30 #[.int .i64 (R : Nat), .slice Ap L.length cp, .int .u64 (s0 : Nat), .slice Ar RU cr, .slice An ns.length cn, .slice none 0 0] :: .box q 113 #[.slice A l.length c, .int .i64 ((u : Nat) : Int)] :: .box g2 30 #[.int .i64 0, .slice none 0 0, .int .u64 0, .slice none 0 0, .slice none 0 0, .slice none 0 0] :: F) K3 := ⟨_, fun _ _ h => j1 _ _ h.1, fun _ _ h => k2 _ _ h.1, fun _ _ h => kr2 _ _ h.1, fun _ _ h => h.2, hS.freeze 0 (by decide) rfl⟩
       clear hS
       have hS := hS2.nil 50 2
       clear hS2
       have KS3 := Lib.hid hS.stable
       go_loopw [23] (fun jv wr => ∃ (j x : Nat) (gv : Value) (gs : List (Nat × Nat)), jv = .int .i64 (j : Nat) /\ j <= GO /\ x <= 50 + 2 * j /\ Hid (gs.length = j) /\ Hid (∀ z ∈ gs, KOk m z) /\ St w0 wr (.own gv 50 2 j (AM gs) :: .box g4 30 #[.int .i64 (R : Nat), .slice Ap L.length cp, .int .u64 (s0 : Nat), .slice Ar RU cr, .slice An ns.length cn, gv] :: .box q 113 #[.slice A l.length c, .int .i64 ((x : Nat) : Int)] :: .box g2 30 #[.int .i64 0, .slice none 0 0, .int .u64 0, .slice none 0 0, .slice none 0 0, .slice none 0 0] :: F) K3) (fun jv _ => GO - (intOf jv).toNat)
       case atStart => exact ⟨0, u, _, [], rfl, by omega, by omega, Lib.hid rfl, Lib.hid (fun z hz => by simp at hz), hS⟩
       case round =>
        clear hS
        obtain ⟨j, x, gv, gs, rfl, hj2, hx, HGL, HGS, hS⟩ := hrel
        obtain ⟨Ag, cg, rfl, _, _⟩ := Cu (hS.own 0 rfl)
        by_cases hjG : j < GO
        ·go_wp2_with (first
          | (go_at_call 51; first | (refine (CF (at_ := x) HL.out (by omega) hS 2 rfl (fun D w h => kp D w (j3 D w h))).mono ?_; clear hS; rintro e w_ ⟨yb, hyb, rfl, hS⟩; simp only [List.set_cons_succ, List.set_cons_zero] at hS) | (refine (CF (at_ := x + 1) HL.out (by omega) hS 2 rfl (fun D w h => kp D w (j3 D w h))).mono ?_; clear hS; rintro e w_ ⟨nb, hnb, rfl, hS⟩; simp only [List.set_cons_succ, List.set_cons_zero] at hS))
          | ((with_reducible refine qB ?_); refine qc ?_ ?_ <;> intro h_ <;> go_prune))
         have h0d := hS.drew
         refine wp_zS [5, 6, 7, 9] [some (.pointer (some ⟨g4, 5, none⟩)), some (.slice Ag j cg), some (.int .i64 (yb : Nat)), some (.int .i64 (nb : Nat)), some (.int .u8 (m : Nat)), none, none, none, some (.pointer (some ⟨g4, 5, none⟩)), none] (fun vs w => match vs with | [] => St w0 w (.own (.slice Ag j cg) 50 2 j (AM gs) :: .box g4 30 #[.int .i64 (R : Nat), .slice Ap L.length cp, .int .u64 (s0 : Nat), .slice Ar RU cr, .slice An ns.length cn, .slice Ag j cg] :: .box q 113 #[.slice A l.length c, .int .i64 ((x + 1 + 1 : Nat) : Int)] :: .box g2 30 #[.int .i64 0, .slice none 0 0, .int .u64 0, .slice none 0 0, .slice none 0 0, .slice none 0 0] :: F) K3 | [z] => ∃ a b : Nat, z = .agg #[.int .u64 (a : Nat), .int .u64 (b : Nat)] /\ KOk m (a, b) /\ St w0 w (.own (.slice Ag j cg) 50 2 j (AM gs) :: .box g4 30 #[.int .i64 (R : Nat), .slice Ap L.length cp, .int .u64 (s0 : Nat), .slice Ar RU cr, .slice An ns.length cn, .slice Ag j cg] :: .box q 113 #[.slice A l.length c, .int .i64 ((x + 1 + 1 : Nat) : Int)] :: .box g2 30 #[.int .i64 0, .slice none 0 0, .int .u64 0, .slice none 0 0, .slice none 0 0, .slice none 0 0] :: F) K3 | [_, z] => ∃ a b : Nat, KOk m (a, b) /\ St w0 w (.own (.slice Ag j cg) 50 2 j (AM gs) :: .box g4 30 #[.int .i64 (R : Nat), .slice Ap L.length cp, .int .u64 (s0 : Nat), .slice Ar RU cr, .slice An ns.length cn, .slice Ag j cg] :: .box q 113 #[.slice A l.length c, .int .i64 ((x + 1 + 1 : Nat) : Int)] :: .box g2 30 #[.int .i64 0, .slice none 0 0, .int .u64 0, .slice none 0 0, .slice none 0 0, .slice none 0 0] :: F) (fun D w => K3 D w /\ Sl w D 2 z 1 [.int .u64 (a : Nat), .int .u64 (b : Nat)]) | [_, _, p'] => ∃ a b : Nat, KOk m (a, b) /\ St w0 w (.own p' 50 2 (j + 1) (AM gs ++ [.int .u64 (a : Nat), .int .u64 (b : Nat)]) :: .box g4 30 #[.int .i64 (R : Nat), .slice Ap L.length cp, .int .u64 (s0 : Nat), .slice Ar RU cr, .slice An ns.length cn, .slice Ag j cg] :: .box q 113 #[.slice A l.length c, .int .i64 ((x + 1 + 1 : Nat) : Int)] :: .box g2 30 #[.int .i64 0, .slice none 0 0, .int .u64 0, .slice none 0 0, .slice none 0 0, .slice none 0 0] :: F) K3 | [_, _, p', _] => ∃ a b : Nat, KOk m (a, b) /\ St w0 w (.own p' 50 2 (j + 1) (AM gs ++ [.int .u64 (a : Nat), .int .u64 (b : Nat)]) :: .box g4 30 #[.int .i64 (R : Nat), .slice Ap L.length cp, .int .u64 (s0 : Nat), .slice Ar RU cr, .slice An ns.length cn, p'] :: .box q 113 #[.slice A l.length c, .int .i64 ((x + 1 + 1 : Nat) : Int)] :: .box g2 30 #[.int .i64 0, .slice none 0 0, .int .u64 0, .slice none 0 0, .slice none 0 0, .slice none 0 0] :: F) K3 | _ => False) ?_ ⟨vF, ?_, vM, vM, vM, ?_, ?_, ?_, vF, ?_, trivial⟩ ?_
         ·first | assumption | (dsimp only; assumption)
         ·refine vR 0 2 fun b__ w vs hS h1 h2 hE K hK => ?_
          rcases vs with _ | ⟨x0, _ | ⟨x1, _ | ⟨x2, vs⟩⟩⟩ <;> first | (exfalso; first | exact hS | (revert h1 h2; simp <;> omega); done) | ((have e175 := hE 175); (first | exact Ad rfl e175 (by kernel_rfl) (hS.shut 1 rfl 5 rfl) (hK _ rfl) | (obtain ⟨_, _, _, hS⟩ := hS; exact Ad rfl e175 (by kernel_rfl) (hS.shut 1 rfl 5 rfl) (hK _ rfl)) | (obtain ⟨_, _, _, _, hS⟩ := hS; exact Ad rfl e175 (by kernel_rfl) (hS.shut 1 rfl 5 rfl) (hK _ rfl))))
         ·refine vX 0 fun b__ w vs hS hl hE K hK => ?_
          obtain rfl := Jn hl
          have e177 := hE 177
          have e178 := hE 178
          have e179 := hE 179
          exact Bz rfl (by kernel_rfl) (by simp only [List.map_cons, List.map_nil, e177, e178, e179]) (Iv yb nb m hm _) fun e w' ⟨z, he, ⟨a, b, hz, h2, h3, h4, h5, h6⟩, hb_⟩ => ⟨z, he, hK z w' ⟨a, b, hz, ⟨h2, h3, h4, h5, h6⟩, hS.ext hb_⟩⟩
         ·refine vX 1 fun b__ w vs hS hl hE K hK => ?_
          obtain ⟨x0, rfl⟩ := GX hl
          have e180 := hE 180
          obtain ⟨a, b, rfl, hk1, hS⟩ := hS
          refine CX (ps := [(0, .agg #[.int .u64 (a : Nat), .int .u64 (b : Nat)])]) (cells := #[.int .u64 (a : Nat), .int .u64 (b : Nat)]) rfl Tryz.underlying28 (by simp [e180]) (by kernel_rfl) ?_
          intro w' hbx hbel
          exact hK _ w' ⟨a, b, hk1, hS.ret hbel (Aj (by decide)) (⟨by simp, _, 1, rfl, by omega, by unfold maxLen; omega, fun _ => ⟨w.heap.size, 0, rfl, Nat.le_refl _, hbx.lt, fun j x hj => by rw [Nat.zero_add]; exact (hbx.cell j).trans (by simpa using hj)⟩⟩ : Sl w' (w.heap.size <= ·) 2 (.slice (some ⟨w.heap.size, 0, none⟩) 1 1) 1 [.int .u64 (a : Nat), .int .u64 (b : Nat)])⟩
         ·refine vX 2 fun b__ w vs hS hl hE K hK => ?_
          obtain ⟨x0, x1, rfl⟩ := GW hl
          have e176 := hE 176
          have e181 := hE 181
          obtain ⟨a, b, hk1, h3⟩ := hS
          refine Ei rfl JC e176 (h3.own 0 rfl) e181 h3.ro.2 (by intro u hu; simp at hu; rcases hu with rfl | rfl <;> rfl) (by omega) (by omega) h3.size ?_
          intro v' w' ho hg hat
          exact hK v' w' ⟨a, b, hk1, (h3.upd 0 rfl (.own v' 50 2 (j + 1) (AM gs ++ [Value.int .u64 (a : Nat), Value.int .u64 (b : Nat)])) hg ho hat).mono KS3.out fun D w h => h.1⟩
         ·refine vX 3 fun b__ w vs hS hl hE K hK => ?_
          obtain ⟨x0, x1, x2, rfl⟩ := GV hl
          have e183 := hE 183
          have e182 := hE 182
          obtain ⟨a, b, hk1, h3⟩ := hS
          refine E7 rfl e183 e182 (h3.box 1 rfl) (by simp) (IB (h3.own 0 rfl)) (own_one (h3.own 0 rfl)) (by kernel_rfl) ?_
          intro w' hbx hup
          exact hK _ w' ⟨a, b, hk1, h3.upd 1 rfl (.box g4 30 #[.int .i64 (R : Nat), .slice Ap L.length cp, .int .u64 (s0 : Nat), .slice Ar RU cr, .slice An ns.length cn, x2]) (Bv hup) ⟨(h3.holds _ (List.mem_of_getElem? (i := 1) rfl)).1, hbx⟩ fun _ e => .inl e⟩
         ·intro us wz vs hS hl hT
          obtain ⟨x0, x1, x2, x3, rfl⟩ := Jm hl
          obtain ⟨e175, e176, e177, e178, e179, e180, e181, e182, e183, -⟩ := hT
          clear hl
          simp only [AL, Act.put, zz, ze]
          obtain ⟨a, b, hk1, hS⟩ := hS
          clear h0d
          go_wp2_with fail
          have e : AM (gs ++ [(a, b)]) = AM gs ++ [.int .u64 (a : Nat), .int .u64 (b : Nat)] := IW ..
          exact ⟨⟨j + 1, x + 1 + 1, _, gs ++ [(a, b)], by go_num, hjG, by omega, Lib.hid (by rw [List.length_append, HGL.out]; rfl), Lib.hid (Ic HGS.out hk1), by rw [e]; exact hS⟩, by simp [intOf]; omega⟩
        ·obtain rfl : GO = j := by omega
         go_wp2_with (first
          | ((with_reducible refine qB ?_); refine qc ?_ ?_ <;> intro h_ <;> go_prune)
          | ((with_reducible refine qK ?_); refine qL hS Tryz.underlying30 ?_)
          | ((with_reducible refine qM ?_); (first | refine qS hS ?_ | refine qT hS ?_); clear hS; intro w_ hS; (try simp only [Act.put, Act.eval, zz, Value.cells] at hS)))
         have HM : Gu ⟨R, some L, s0, rs, ns, gs⟩ L R := ⟨rfl, rfl, hR.1, hR.2, HH.out, HR.out, by omega, by rw [<- HM.out]; exact HS0.out, by show rs.length <= 6; rw [HRL.out]; omega, by rw [<- HM.out]; exact HRS.out, by show ns.length <= 3; omega, by rw [<- HM.out]; exact HNS.out, by show gs.length <= 3; rw [HGL.out]; omega, by show 1 <= gs.length; rw [HGL.out]; omega, by rw [<- HM.out]; exact HGS.out⟩
         have hS1 := hS.freeze 0 (by decide) rfl
         refine DB Tryz.results13 rfl (hS.box 3 rfl) Tryz.underlying30 rfl (by kernel_rfl) rfl ?_
         refine ⟨_, rfl, _, ⟨L, R, HM⟩, (hS1.sub (F' := F) (((List.sublist_cons_self _ _).trans (List.sublist_cons_self _ _)).trans (List.sublist_cons_self _ _))).mono (KS.out.and Ct) fun D w h => ⟨j3 _ _ h.1, ?_⟩⟩
         refine ⟨_, _, _, _, L, rfl, rfl, k3 _ _ h.1, ?_, kn3 _ _ h.1, ?_⟩
         ·show Sl w D 5 _ rs.length _; rw [HRL.out]; exact kr3 _ _ h.1
         ·show Sl w D 2 _ gs.length _; rw [HGL.out]; exact h.2
end
section
open Go.RowKit
structure GK where
 b : Option (Nat × Option (Array Value))
 K : (Nat -> Prop) -> World -> Prop
def GK.F (ty : TypeId) (zs : Array Value) (s : GK) : List A7 := match s.b with
 | none => []
 | some (g, o) => [.box g ty (o.getD zs)]
def GJ (w0 : World) (F : List A7) (ty : TypeId) (zs : Array Value) (s : World × GK) : Prop := St w0 s.1 (s.2.F ty zs ++ F) s.2.K
def GR (w0 : World) (F : List A7) (ty : TypeId) (zs : Array Value) (s s' : World × GK) : Prop :=
 (GJ w0 F ty zs s -> GJ w0 F ty zs s') /\ (∀ D w, s'.2.K D w -> s.2.K D w) /\ (∀ g, s.2.b = some (g, none) -> ∃ o, s'.2.b = some (g, o)) /\ (∀ g cs, s.2.b = some (g, some cs) -> s'.2.b = some (g, some cs))
theorem GR.refl {w0 : World} {F : List A7} {ty : TypeId} {zs : Array Value} : ∀ s, GR w0 F ty zs s s := fun _ => ⟨id, fun _ _ h => h, fun _ h => ⟨_, h⟩, fun _ _ h => h⟩
theorem GR.var {w0 : World} {F : List A7} {ty : TypeId} {zs : Array Value} {s s' : World × GK} (h : GR w0 F ty zs s s') {v : Value} (k : ∃ g o, v = .pointer (some ⟨g, 0, none⟩) /\ s.2.b = some (g, o)) : ∃ g o, v = .pointer (some ⟨g, 0, none⟩) /\ s'.2.b = some (g, o) := by
 obtain ⟨g, o, e, k⟩ := k
 cases o with
 | none => obtain ⟨o, k⟩ := h.2.2.1 g k; exact ⟨g, o, e, k⟩
 | some cs => exact ⟨g, _, e, h.2.2.2 g cs k⟩
theorem GR.trans {w0 : World} {F : List A7} {ty : TypeId} {zs : Array Value} : ∀ a b c, GR w0 F ty zs a b -> GR w0 F ty zs b c -> GR w0 F ty zs a c := fun a b c h k =>
 ⟨fun j => k.1 (h.1 j), fun D w j => h.2.1 D w (k.2.1 D w j), fun g j => by
  obtain ⟨o, j2⟩ := h.2.2.1 g j
  obtain ⟨g', o', e, j3⟩ := k.var ⟨g, o, rfl, j2⟩
  injection e with e; injection e with e; injection e with e; subst e
  exact ⟨o', j3⟩, fun g cs j => k.2.2.2 g cs (h.2.2.2 g cs j)⟩
def GN (ia is : Nat) (i : Nat) (s : World × GK) : Prop := (i = ia -> s.2.b = none) /\ (i = is -> ∀ g cs, s.2.b ≠ some (g, some cs))
theorem GN.start {ia is : Nat} {w : World} {K : (Nat -> Prop) -> World -> Prop} (i : Nat) : GN ia is i (w, ⟨none, K⟩) := ⟨fun _ => rfl, fun _ _ _ h => by cases h⟩
theorem GK.more {w0 : World} {F : List A7} {ty : TypeId} {zs : Array Value} {w : World × GK} {w' : World} {K' : (Nat -> Prop) -> World -> Prop} {ia is i : Nat} (h : St w0 w' (w.2.F ty zs ++ F) K') (hk : ∀ D w1, K' D w1 -> w.2.K D w1) :
  GR w0 F ty zs w (w', { w.2 with K := K' }) /\ ∀ j, j ≠ i -> GN ia is j w -> GN ia is j (w', { w.2 with K := K' }) := ⟨⟨fun _ => h, hk, fun _ h => ⟨_, h⟩, fun _ _ h => h⟩, fun _ _ h => h⟩
theorem GK.made {w0 : World} {F : List A7} {ty : TypeId} {zs : Array Value} {w : World × GK} {w' : World} {g ia is : Nat} (hn : w.2.b = none) (h : St w0 w' (.box g ty zs :: F) w.2.K) :
  GR w0 F ty zs w (w', { w.2 with b := some (g, none) }) /\ ∀ j, j ≠ ia -> GN ia is j w -> GN ia is j (w', { w.2 with b := some (g, none) }) :=
 ⟨⟨fun _ => h, fun _ _ h => h, fun g h => (by rw [hn] at h; cases h), fun g cs h => (by rw [hn] at h; cases h)⟩, fun j hj _ => ⟨fun e => absurd e hj, fun _ g cs e => by cases e⟩⟩
theorem GK.put {w0 : World} {F : List A7} {ty : TypeId} {zs : Array Value} {w : World × GK} {w' : World} {g ia is : Nat} {cs : Array Value} (hn : w.2.b = some (g, none)) (h : St w0 w' (.box g ty cs :: F) w.2.K) :
  GR w0 F ty zs w (w', { w.2 with b := some (g, some cs) }) /\ ∀ j, j ≠ is -> GN ia is j w -> GN ia is j (w', { w.2 with b := some (g, some cs) }) :=
 ⟨⟨fun _ => h, fun _ _ h => h, fun g' h => (by rw [hn] at h; injection h with h; injection h with h1 h2; subst h1; exact ⟨_, rfl⟩), fun g cs h => (by rw [hn] at h; cases h)⟩, fun j hj k => ⟨fun e => absurd (k.1 e) (by rw [hn]; exact nofun), fun e => absurd e hj⟩⟩
section
variable {P : Program} {o : Oper} {a : Act} {w : World × GK} {w0 : World} {F : List A7} {ty : TypeId} {zs : Array Value} {K : Act -> World -> Prop} {Q : Exit -> Act -> World -> Prop}
theorem GJ.none (hJ : GJ w0 F ty zs w) (hn : w.2.b = none) : St w0 w.1 F w.2.K := by
 unfold GJ GK.F at hJ; rw [hn] at hJ; exact hJ
theorem GJ.some {g : Nat} {x : Option (Array Value)} (hJ : GJ w0 F ty zs w) (hn : w.2.b = some (g, x)) : St w0 w.1 (.box g ty (x.getD zs) :: F) w.2.K := by
 unfold GJ GK.F at hJ; rw [hn] at hJ; exact hJ
theorem GJ.cell (hJ : GJ w0 F ty zs w) {g : Nat} {t : TypeId} {cs : Array Value} (i : Nat) (hi : F[i]? = Option.some (A7.box g t cs)) (j : Nat) {x : Value} (hx : cs[j]? = Option.some x) : w.1.cell? ⟨g, j, Option.none⟩ = Option.some x :=
 ((hJ.holds (.box g t cs) (List.mem_append_right _ (List.mem_of_getElem? hi))).2.cell j).trans hx
theorem gk_alloc (ho : o.op = .alloc ty) (hz : ((P.info? ty).bind (·.zero)).isSome = true) (hzs : zeroCells P ty = zs) (hJ : GJ w0 F ty zs w) (hn : w.2.b = Option.none)
  (hK : ∀ g w', St w0 w' (.box g ty zs :: F) w.2.K -> K (a.put o.dst (.pointer (some ⟨g, 0, Option.none⟩))) w') : o.wp P a w.1 K Q :=
 opw_alloc ho hz fun w' hb hbel => hK _ w' ((hJ.none hn).new hbel _ ⟨Nat.le_refl _, hzs ▸ hb⟩)
theorem gk_store {x y : Operand} {g : Nat} {cs : Array Value} (ho : o.op = .store ty x y) (hx : a.eval x = .pointer (some ⟨g, 0, Option.none⟩)) (hy : a.eval y = .agg cs) (hJ : GJ w0 F ty zs w) (hn : w.2.b = Option.some (g, Option.none)) (hi : (P.info? ty).map (·.size) = Option.some cs.size)
  (hold : zs.size = cs.size) (h1 : cs.all (·.oneCell') = true) (hK : ∀ w', St w0 w' (.box g ty cs :: F) w.2.K -> K (a.put o.dst undef) w') : o.wp P a w.1 K Q := by
 have hS := hJ.some hn
 exact CW ho hx hy (hS.box 0 rfl) hi hold h1 fun w' hb hU => hK w' (hS.upd 0 rfl (.box g ty cs) (Bv hU) ⟨(hS.holds _ (List.mem_cons_self ..)).1, hb⟩ fun _ e => .inl e)
end
def SR (w0 : World) (FX : Bool × Bool -> List A7) (K : (Nat -> Prop) -> World -> Prop) (s s' : World × (Bool × Bool)) : Prop :=
 (St w0 s.1 (FX s.2) K -> St w0 s'.1 (FX s'.2) K) /\ (s.2.1 = true -> s'.2.1 = true) /\ (s.2.2 = true -> s'.2.2 = true)
theorem SR.refl {w0 : World} {FX : Bool × Bool -> List A7} {K : (Nat -> Prop) -> World -> Prop} : ∀ s, SR w0 FX K s s := fun _ => ⟨id, id, id⟩
theorem SR.trans {w0 : World} {FX : Bool × Bool -> List A7} {K : (Nat -> Prop) -> World -> Prop} : ∀ a b c, SR w0 FX K a b -> SR w0 FX K b c -> SR w0 FX K a c := fun _ _ _ h k => ⟨fun j => k.1 (h.1 j), fun j => k.2.1 (h.2.1 j), fun j => k.2.2 (h.2.2 j)⟩
end
section
open Go.RowKit
attribute [local go_sem ↓] Go.wp_at_zero Go.wp_at_succ
set_option maxRecDepth 20000
set_option exponentiation.threshold 5000
theorem LinkP.next {w0 w : World} {F : List A7} {K : (Nat -> Prop) -> World -> Prop} {L M : List (Nat × Nat)} {x : Nat × Nat} {r : Value} {z : Int} (h : LinkP w0 F K L (x.1 : Nat) (x.2 : Nat) r z w) {j : Nat} (hx : M[j]? = some x) (hL : ∀ u, u ∈ L ↔ u ∈ M.take j) (hN : M.Nodup) (hR : ∀ u ∈ M, (1 <= u.1 /\ u.1 < 64) /\ 1 <= u.2 /\ u.2 < 64) (hA : Eb M) :
  z = 0 /\ ∃ L', Gi L' /\ (∀ u, u ∈ L' ↔ u ∈ M.take (j + 1)) /\ St w0 w F fun D w => K D w /\ Il w D r L' := by
 have hm := List.mem_of_getElem? hx
 have h1 := hR x hm
 have hne := hA.ne hm
 have htk : ∀ u, u ∈ M.take (j + 1) ↔ u ∈ L ++ [x] := fun u => by
  rw [List.take_add_one, hx, List.mem_append, List.mem_append, hL]; simp
 rcases h with ⟨h, _⟩ | ⟨a, b, ha, hb, _, _, _, h⟩
 ·exact absurd ⟨⟨by omega, by omega⟩, ⟨by omega, by omega⟩, by omega⟩ h
 ·obtain rfl : x = (a, b) := Prod.ext (by show x.1 = a; omega) (by show x.2 = b; omega)
  rcases h with ⟨h, _⟩ | ⟨_, h, _⟩ | ⟨_, hz, L', h3, h4, h5⟩
  ·exfalso
   obtain ⟨i, hi, e⟩ := List.getElem_of_mem ((hL _).1 h)
   rw [List.length_take] at hi
   obtain ⟨hj, ej⟩ := List.getElem?_eq_some_iff.1 hx
   rw [List.getElem_take] at e
   exact List.pairwise_iff_getElem.1 hN i j (by omega) hj (by omega) (e.trans ej.symm)
  ·exact absurd (hA.sub fun u hu => List.mem_of_mem_take ((htk u).2 hu)) h
  ·exact ⟨hz, L', h3, fun u => (h4 u).trans (htk u).symm, h5⟩
end
section
open Go.RowKit
attribute [local go_sem ↓] Go.wp_at_zero Go.wp_at_succ
set_option maxRecDepth 20000
set_option exponentiation.threshold 5000
theorem nodup_le : ∀ {T S : List (Nat × Nat)}, T.Nodup -> (∀ y ∈ T, y ∈ S) -> T.length <= S.length
 | [], _, _, _ => by simp
 | t :: T, S, hT, hs => by
  have hT := List.nodup_cons.1 hT
  have ht := hs t (List.mem_cons_self ..)
  have := nodup_le (T := T) (S := S.erase t) hT.2 fun y hy => (List.mem_erase_of_ne (fun e => hT.1 (by rw [<- e]; exact hy))).2 (hs y (List.mem_cons_of_mem _ hy))
  rw [List.length_erase_of_mem ht] at this
  have := List.length_pos_of_mem ht
  rw [List.length_cons]
  omega
def Ij (M : List (Nat × Nat)) (j : Nat) (L : List (Nat × Nat)) : Prop := Gi L /\ ∀ u, u ∈ L ↔ u ∈ M.take j
theorem Ij.len {M L : List (Nat × Nat)} {j : Nat} (h : Ij M j L) : L.length <= M.length := nodup_le h.1.asc.nodup fun y hy => List.mem_of_mem_take ((h.2 y).1 hy)
theorem Ij.full {M L : List (Nat × Nat)} (h : Ij M M.length L) (hM : Asc M) : L = M := Asc.uniq h.1.asc hM fun u => by rw [h.2, List.take_length]
end
section
open Go.RowKit
attribute [local go_sem ↓] Go.wp_at_zero Go.wp_at_succ
set_option maxRecDepth 20000
set_option exponentiation.threshold 5000
structure Fits (p : AP) : Prop where
 start : p.start < AA
 rules : ∀ z ∈ p.rules, z.yes < AA /\ z.no < AA
 rlen : p.rules.length <= 1000
 never : Small p.never
 nlen : p.never.length <= 1000
 goal : Small p.goal
 glen : p.goal.length <= 1000
theorem Ck {w : World} {D : Nat -> Prop} {v : Value} {l : List (Nat × Nat)} (h : Ab w D v l) : ∃ A c, v = .slice A l.length c := by
 obtain ⟨xs, h1, -⟩ := h
 obtain ⟨A, c, e, _, _⟩ := h1.shape
 exact ⟨A, c, e⟩
theorem JV {P : Program} {fn : Func} {p t2 : Tmp} {ty : TypeId} {R : Ending -> World -> Prop} {a : Act} {w : World} {g : Nat} {t : TypeId} {cs : Array Value} {d : TypeDesc} {v : Value} (h : fn.results = #[.cell p ty, .tmp t2]) (hp : a.eval (.tmp p) = .pointer (some ⟨g, 0, none⟩)) (hb : AW w g t cs)
  (hu : P.underlying ty = some d) (hd : (match d with | .struct _ | .array _ _ => true | _ => false) = true) (hi : (P.info? ty).map (·.size) = some cs.size) (hv : a.eval (.tmp t2) = v) (hdf : a.defers = []) (hR : R (.returned (.tuple #[.agg cs, v])) w) : bodyPost P fn R .ret a w := by
 have hr : (results fn a.tmps).run P w = .ok (.tuple #[.agg cs, v]) w := by
  have hp' : a.tmps[p]?.getD undef = .pointer (some ⟨g, 0, none⟩) := by simpa [Act.eval] using hp
  have hv' : a.tmps[t2]?.getD undef = v := by simpa [Act.eval] using hv
  simp [results, h, hp', hv', asAddr, run_loadVar_row w g t ty cs (0, 0) d hb hu hd hi]
 exact bodyPost_ret hr hdf hR
theorem G8 {w : World} {D : Nat -> Prop} {a b : Value} {z : Nat × Nat} (h : Bi w D (.agg #[a, b]) z) : A5 w D (.agg #[a]) z.1 /\ A5 w D (.agg #[b]) z.2 := by
 obtain ⟨_, _, he, h1, h2⟩ := h
 injection he with he; injection he with he; injection he with e1 he; injection he with e2 _
 subst e1 e2
 exact ⟨h1, h2⟩
theorem rr_at {w : World} {D : Nat -> Prop} {l : List B3} {A : Option Addr} {c : Nat} (h : Sl w D 5 (.slice A l.length c) l.length (AX l)) {k : Nat} (hk : k < l.length) :
  ∃ b o, A = some ⟨b, o, none⟩ /\ w.cell? ⟨b, o + k * 5, none⟩ = some (.bool (l.getD k Bd).revoke) /\ w.cell? ⟨b, o + k * 5 + 1, none⟩ = some (.int .u64 ((l.getD k Bd).yes : Nat)) /\ w.cell? ⟨b, o + k * 5 + 2, none⟩ = some (.int .u64 ((l.getD k Bd).no : Nat)) /\ w.cell? ⟨b, o + k * 5 + 3, none⟩ = some (.int .i64 (l.getD k Bd).target) /\ w.cell? ⟨b, o + k * 5 + 4, none⟩ = some (.int .i64 (l.getD k Bd).origin) := by
 obtain ⟨_, A', c', e, h1, h2, h3⟩ := h
 injection e with e1 e2 e3
 subst e1
 obtain ⟨b, o, h4, _, _, h5⟩ := h3 (by omega)
 obtain ⟨q0, q1, q2, q3, q4⟩ := rrcells_at l k _ (C3 Bd hk)
 exact ⟨b, o, h4, h5 _ _ q0, by rw [Nat.add_assoc]; exact h5 _ _ q1, by rw [Nat.add_assoc]; exact h5 _ _ q2, by rw [Nat.add_assoc]; exact h5 _ _ q3, by rw [Nat.add_assoc]; exact h5 _ _ q4⟩
set_option maxHeartbeats 4000000 in
theorem lproblem_any {w0 w : World} {F : List A7} {K : (Nat -> Prop) -> World -> Prop} {v : Value} {p : AP} {L : List (Nat × Nat)} (hl : p.links = some L) (hH : Gi L) (hlen : L.length <= 1000) (hB : Fits p) (hS : St w0 w F K) (kp : ∀ D w, K D w -> B5 w D v p) (kt : ∀ D w, K D w -> Cw w /\ D 0) :
  Calls Tryz.prog 16 #[v] w fun e w' => ∃ u, e = .returned (.tuple #[u, .bool true]) /\ St w0 w' F fun D w => K D w /\ BR w D u p := by
 obtain ⟨pr, lk, ps, rl, nl, gl⟩ := p
 dsimp only at hl
 subst hl
 obtain ⟨lv, rv, nv, gv, L', rfl, hl', h1, h2, h3, h4⟩ := kp _ _ hS.ro
 dsimp only at hl' h1 h2 h3 h4
 obtain rfl : L = L' := by injection hl'
 clear hl'
 obtain ⟨Al, cl, rfl, _, _⟩ := h1.shape
 obtain ⟨Ar, cr, rfl, _, _⟩ := h2.shape
 obtain ⟨An, cn, rfl, _, _⟩ := Sl.shape (h3 : Sl _ _ _ _ _ _)
 obtain ⟨Ag, cg, rfl, _, _⟩ := Sl.shape (h4 : Sl _ _ _ _ _ _)
 clear h1 h2 h3 h4
 have KSt := Lib.hid hS.stable
 have k1 : ∀ D w, K D w -> Sl w D 2 (.slice Al L.length cl) L.length (A6 L) := fun D w h => by
  obtain ⟨_, _, _, _, L', e, e2, h1, _, _, _⟩ := kp D w h
  injection e2 with e2; subst e2
  injection e with e; injection e with e; injection e with _ e; injection e with e1 _; subst e1; exact h1
 have k2 : ∀ D w, K D w -> Sl w D 5 (.slice Ar rl.length cr) rl.length (AX rl) := fun D w h => by
  obtain ⟨_, _, _, _, L', e, e2, _, h1, _, _⟩ := kp D w h
  injection e with e; injection e with e; injection e with _ e; injection e with _ e; injection e with _ e; injection e with e1 _; subst e1; exact h1
 have k3 : ∀ D w, K D w -> BN w D (.slice An nl.length cn) nl := fun D w h => by
  obtain ⟨_, _, _, _, L', e, e2, _, _, h1, _⟩ := kp D w h
  injection e with e; injection e with e; injection e with _ e; injection e with _ e; injection e with _ e; injection e with _ e; injection e with e1 _; subst e1; exact h1
 have k4 : ∀ D w, K D w -> BN w D (.slice Ag gl.length cg) gl := fun D w h => by
  obtain ⟨_, _, _, _, L', e, e2, _, _, _, h1⟩ := kp D w h
  injection e with e; injection e with e; injection e with _ e; injection e with _ e; injection e with _ e; injection e with _ e; injection e with _ e; injection e with e1 _; subst e1; exact h1
 have HF := Lib.hid hB
 have HH := Lib.hid hH
 have hrl1 := HF.out.rlen
 clear hB hH kp
 dsimp only at hrl1
 go_enter Tryz.func16, Tryz.ntmps16
 go_wp2_with (first
  | ((with_reducible refine qA 1 ?_); refine AH hS rfl _ _ rfl (.agg #[.int .i64 pr, .slice Al L.length cl, .int .u64 (ps : Nat), .slice Ar rl.length cr, .slice An nl.length cn, .slice Ag gl.length cg]) _ rfl rfl ?_; clear hS; intro g1 w_ hS; (try simp only [Act.put, Act.eval, zz, Value.cells] at hS))
  | ((with_reducible refine qA 2 ?_); refine qa hS #[.int .i64 0, .pointer none, .slice none 0 0, .slice none 0 0, .slice none 0 0, .slice none 0 0] ?_; clear hS; intro g2 w_ hS))
 have hJ0 : GJ w0 (.box g2 43 #[.int .i64 0, .pointer none, .slice none 0 0, .slice none 0 0, .slice none 0 0, .slice none 0 0] :: .box g1 30 #[.int .i64 pr, .slice Al L.length cl, .int .u64 (ps : Nat), .slice Ar rl.length cr, .slice An nl.length cn, .slice Ag gl.length cg] :: F) 43 #[.int .i64 0, .pointer none, .slice none 0 0, .slice none 0 0, .slice none 0 0, .slice none 0 0] (w_.drew, ⟨none, K⟩) := hS.drew
 have hRr := @GR.refl w0 (.box g2 43 #[.int .i64 0, .pointer none, .slice none 0 0, .slice none 0 0, .slice none 0 0, .slice none 0 0] :: .box g1 30 #[.int .i64 pr, .slice Al L.length cl, .int .u64 (ps : Nat), .slice Ar rl.length cr, .slice An nl.length cn, .slice Ag gl.length cg] :: F) 43 #[.int .i64 0, .pointer none, .slice none 0 0, .slice none 0 0, .slice none 0 0, .slice none 0 0]
 have hRt := @GR.trans w0 (.box g2 43 #[.int .i64 0, .pointer none, .slice none 0 0, .slice none 0 0, .slice none 0 0, .slice none 0 0] :: .box g1 30 #[.int .i64 pr, .slice Al L.length cl, .int .u64 (ps : Nat), .slice Ar rl.length cr, .slice An nl.length cn, .slice Ag gl.length cg] :: F) 43 #[.int .i64 0, .pointer none, .slice none 0 0, .slice none 0 0, .slice none 0 0, .slice none 0 0]
 have hN0 := @GN.start 13 14 w_.drew K
 clear hS
 refine Ed (GR w0 (.box g2 43 #[.int .i64 0, .pointer none, .slice none 0 0, .slice none 0 0, .slice none 0 0, .slice none 0 0] :: .box g1 30 #[.int .i64 pr, .slice Al L.length cl, .int .u64 (ps : Nat), .slice Ar rl.length cr, .slice An nl.length cn, .slice Ag gl.length cg] :: F) 43 #[.int .i64 0, .pointer none, .slice none 0 0, .slice none 0 0, .slice none 0 0, .slice none 0 0]) (GN 13 14) (⟨none, K⟩) hRr hRt [.q g1 0, .n pr, .s (fun v w => ∃ q, v = .pointer (some ⟨q, 0, none⟩) /\ ∀ D w1, w.2.K D w1 -> Il w1 D (.pointer (some ⟨q, 0, none⟩)) []) fun v w w' h hb => by obtain ⟨q, e, h⟩ := h; exact ⟨q, e, fun D w1 h1 => h D w1 (hb.2.1 D w1 h1)⟩, .q g1 2, .i (.int .u64 (ps : Nat)), .s (fun v w => ∃ u, v = .agg #[u] /\ u.oneCell' = true /\ ∀ D w1, w.2.K D w1 -> A5 w1 D (.agg #[u]) ps) fun v w w' h hb => by obtain ⟨u, e, e2, h⟩ := h; exact ⟨u, e, e2, fun D w1 h1 => h D w1 (hb.2.1 D w1 h1)⟩, .q g1 4, .i (.slice An nl.length cn), .s (fun v w => (∃ A c, v = .slice A nl.length c) /\ ∀ D w1, w.2.K D w1 -> Ab w1 D v nl) fun v w w' h hb => ⟨h.1, fun D w1 h1 => h.2 D w1 (hb.2.1 D w1 h1)⟩, .q g1 5, .i (.slice Ag gl.length cg), .s (fun v w => (∃ A c, v = .slice A gl.length c) /\ ∀ D w1, w.2.K D w1 -> Ab w1 D v gl) fun v w w' h hb => ⟨h.1, fun D w1 h1 => h.2 D w1 (hb.2.1 D w1 h1)⟩, .s (fun v w => ∃ q u A c B d, v = .agg #[.int .i64 pr, .pointer (some ⟨q, 0, none⟩), u, .slice none 0 0, .slice A nl.length c, .slice B gl.length d] /\ u.oneCell' = true /\ ∀ D w1, w.2.K D w1 -> Il w1 D (.pointer (some ⟨q, 0, none⟩)) [] /\ A5 w1 D (.agg #[u]) ps /\ Ab w1 D (.slice A nl.length c) nl /\ Ab w1 D (.slice B gl.length d) gl) fun v w w' h hb => by obtain ⟨q, u, A, c, B, d, e, e2, h⟩ := h; exact ⟨q, u, A, c, B, d, e, e2, fun D w1 h1 => h D w1 (hb.2.1 D w1 h1)⟩, .s (fun v w => ∃ g o, v = .pointer (some ⟨g, 0, none⟩) /\ w.2.b = some (g, o)) fun v w w' h hb => hb.var h, .s (fun v w => ∃ g q u A c B d, w.2.b = some (g, some #[.int .i64 pr, .pointer (some ⟨q, 0, none⟩), u, .slice none 0 0, .slice A nl.length c, .slice B gl.length d]) /\ ∀ D w1, w.2.K D w1 -> Il w1 D (.pointer (some ⟨q, 0, none⟩)) [] /\ A5 w1 D (.agg #[u]) ps /\ Ab w1 D (.slice A nl.length c) nl /\ Ab w1 D (.slice B gl.length d) gl) fun v w w' h hb => by obtain ⟨g, q, u, A, c, B, d, e, h⟩ := h; exact ⟨g, q, u, A, c, B, d, hb.2.2.2 _ _ e, fun D w1 h1 => h D w1 (hb.2.1 D w1 h1)⟩] ?_ ⟨uF, uC (h := fun w hW hN => (hW.1 hJ0).cell 1 rfl 0 rfl), ?_, uF, uC (h := fun w hW hN => (hW.1 hJ0).cell 1 rfl 2 rfl), ?_, uF, uC (h := fun w hW hN => (hW.1 hJ0).cell 1 rfl 4 rfl), ?_, uF, uC (h := fun w hW hN => (hW.1 hJ0).cell 1 rfl 5 rfl), ?_, ?_, ?_, ?_, trivial⟩ ?_
 ·first | assumption | (intro i; (try dsimp only); split <;> first | trivial | assumption | (left; assumption))
 ·refine uG fun b__ w hW hN hE K hK => ?_
  refine Bz rfl (by kernel_rfl) (by simp only [List.map_nil]) (hnew_any (hW.1 hJ0) fun D w1 h => kt D w1 (hW.2.1 D w1 h)) fun e w' ⟨p, he, hs⟩ => ⟨p, he, ?_⟩
  obtain ⟨q, o, rfl, -⟩ := id hs.ro.2
  exact hK _ (w', { w.2 with K := _ }) ⟨q, rfl, fun D w1 h => h.2⟩ (GK.more hs fun D w1 h => h.1)
 ·refine uG fun b__ w hW hN hE K hK => ?_
  have e15 := hE 15
  refine Bz rfl (by kernel_rfl) (by simp only [List.map_cons, List.map_nil, e15]) (I1 ps HF.out.start w.1) fun e w' ⟨x, he, hx, hb⟩ => ⟨x, he, ?_⟩
  obtain ⟨u, rfl, h1⟩ := FY hx
  exact hK _ (w', { w.2 with K := _ }) ⟨u, rfl, h1, fun D w1 h => h.2⟩ (GK.more ((hW.1 hJ0).ret hb Ah hx) fun D w1 h => h.1)
 ·refine uG fun b__ w hW hN hE K hK => ?_
  have e18 := hE 18
  refine Bz rfl (by kernel_rfl) (by simp only [List.map_cons, List.map_nil, e18]) (Ej _ nl w.1 _ (k3 _ _ (hW.2.1 _ _ (hW.1 hJ0).ro)) HF.out.never (by have := HF.out.nlen; dsimp only at this; omega)) fun e w' ⟨x, he, hx, hb⟩ => ⟨x, he, ?_⟩
  exact hK _ (w', { w.2 with K := _ }) ⟨Ck hx, fun D w1 h => h.2⟩ (GK.more ((hW.1 hJ0).ret hb AY hx) fun D w1 h => h.1)
 ·refine uG fun b__ w hW hN hE K hK => ?_
  have e21 := hE 21
  refine Bz rfl (by kernel_rfl) (by simp only [List.map_cons, List.map_nil, e21]) (Ej _ gl w.1 _ (k4 _ _ (hW.2.1 _ _ (hW.1 hJ0).ro)) HF.out.goal (by have := HF.out.glen; dsimp only at this; omega)) fun e w' ⟨x, he, hx, hb⟩ => ⟨x, he, ?_⟩
  exact hK _ (w', { w.2 with K := _ }) ⟨Ck hx, fun D w1 h => h.2⟩ (GK.more ((hW.1 hJ0).ret hb AY hx) fun D w1 h => h.1)
 ·refine uG fun b__ w hW hN hE K hK => ?_
  have e12 := hE 12
  have e13 := hE 13
  have e16 := hE 16
  have e19 := hE 19
  have e22 := hE 22
  obtain ⟨q, hq, h1⟩ := e13
  obtain ⟨u, hu, hu1, h2⟩ := e16
  obtain ⟨⟨A, c, ha⟩, h3⟩ := e19
  obtain ⟨⟨B, d, hbb⟩, h4⟩ := e22
  rw [ha] at h3
  rw [hbb] at h4
  exact Ch rfl (ps := [(0, .int .i64 pr), (1, .pointer (some ⟨q, 0, none⟩)), (2, .agg #[u]), (4, .slice A nl.length c), (5, .slice B gl.length d)]) (cells := #[.int .i64 pr, .pointer (some ⟨q, 0, none⟩), u, .slice none 0 0, .slice A nl.length c, .slice B gl.length d]) (by simp [e12, hq, hu, ha, hbb]) (by kernel_rfl) (hK _ _ ⟨q, u, A, c, B, d, rfl, hu1, fun D w1 h => ⟨h1 D w1 h, h2 D w1 h, h3 D w1 h, h4 D w1 h⟩⟩ ⟨hRr _, fun _ _ h => h⟩)
 ·refine uG fun b__ w hW hN hE K hK => ?_
  exact gk_alloc rfl (by kernel_rfl) (by kernel_rfl) (hW.1 hJ0) (hN.1 rfl) fun g w' hs => hK _ (w', { w.2 with b := some (g, none) }) ⟨g, none, rfl, rfl⟩ (GK.made (hN.1 rfl) hs)
 ·refine uG fun b__ w hW hN hE K hK => ?_
  have e4 := hE 4
  have e23 := hE 23
  obtain ⟨g, o, hg, hgb⟩ := e4
  obtain ⟨q, u, A, c, B, d, hv, hu1, h1⟩ := e23
  obtain rfl : o = none := (by cases o with | none => rfl | some cs => exact absurd hgb (hN.2 rfl g cs))
  exact gk_store rfl hg hv (hW.1 hJ0) hgb (by kernel_rfl) rfl (by simpa [Value.oneCell'] using hu1) fun w' hs => hK undef (w', { w.2 with b := some (g, some #[.int .i64 pr, .pointer (some ⟨q, 0, none⟩), u, .slice none 0 0, .slice A nl.length c, .slice B gl.length d]) }) ⟨g, q, u, A, c, B, d, rfl, h1⟩ (GK.put hgb hs)
 ·intro vs wz hW hT
  obtain ⟨e11, e12, e13, e14, e15, e16, e17, e18, e19, e20, e21, e22, e23, e4, z14, -⟩ := hT
  have bx : (fun _ : Nat => True) 0 := trivial
  simp only [AL, Act.put, zz, ze]
  obtain ⟨_, g4, q, u, A4, c4, B4, d4, hb4, hK4⟩ := z14
  obtain ⟨g, o, hg, hgb⟩ := e4
  obtain rfl : g = g4 := by rw [hb4] at hgb; injection hgb with h; injection h with h _; exact h.symm
  have hS : St w0 wz.1 (.box g 43 #[.int .i64 pr, .pointer (some ⟨q, 0, none⟩), u, .slice none 0 0, .slice A4 nl.length c4, .slice B4 gl.length d4] :: .box g2 43 #[.int .i64 0, .pointer none, .slice none 0 0, .slice none 0 0, .slice none 0 0, .slice none 0 0] :: .box g1 30 #[.int .i64 pr, .slice Al L.length cl, .int .u64 (ps : Nat), .slice Ar rl.length cr, .slice An nl.length cn, .slice Ag gl.length cg] :: F) wz.2.K := (hW.1 hJ0).some hb4
  obtain ⟨K4, wf, k0, kq, kc, hwf, hS2⟩ : ∃ (K4 : (Nat -> Prop) -> World -> Prop) (wf : World), (∀ D w, K4 D w -> K D w) /\ (∀ D w1, K4 D w1 -> Il w1 D (.pointer (some ⟨q, 0, none⟩)) []) /\ Hid (∀ D w1, K4 D w1 -> A5 w1 D (.agg #[u]) ps /\ Ab w1 D (.slice A4 nl.length c4) nl /\ Ab w1 D (.slice B4 gl.length d4) gl) /\ wz.1 = wf /\ St w0 wf (.box g 43 #[.int .i64 pr, .pointer (some ⟨q, 0, none⟩), u, .slice none 0 0, .slice A4 nl.length c4, .slice B4 gl.length d4] :: .box g2 43 #[.int .i64 0, .pointer none, .slice none 0 0, .slice none 0 0, .slice none 0 0, .slice none 0 0] :: .box g1 30 #[.int .i64 pr, .slice Al L.length cl, .int .u64 (ps : Nat), .slice Ar rl.length cr, .slice An nl.length cn, .slice Ag gl.length cg] :: F) K4 := ⟨_, _, hW.2.1, fun D w1 h => (hK4 D w1 h).1, Lib.hid fun D w1 h => (hK4 D w1 h).2, rfl, hS⟩
  rw [hwf]
  simp only [show vs (4 : Nat) = _ from hg]
  clear hS hW hJ0 hRr hRt hN0 e11 e12 e13 e14 e15 e16 e17 e18 e19 e20 e21 e22 e23 hb4 hgb hK4 hg hwf
  have hS := hS2
  clear hS2
  generalize vs 11 = s11, vs 12 = s12, vs 13 = s13, vs 14 = s14, vs 15 = s15, vs 16 = s16, vs 17 = s17, vs 18 = s18, vs 19 = s19, vs 20 = s20, vs 21 = s21, vs 22 = s22, vs 23 = s23
  obtain ⟨Au, cu, lu, hvu, -⟩ := (kc.out _ _ hS.ro).1.parts
  obtain rfl : u = .slice Au lu.length cu := by injection hvu with hvu; simpa using hvu
  clear hvu
  generalize lu.length = nu at *
  have KS4 := Lib.hid hS.stable
  go_wp2_with (first | ((with_reducible refine qK ?_); refine qC hS ?_))
  have HNX : Hid (∀ (j : Nat) (x : Nat × Nat) (L' : List (Nat × Nat)), L[j]? = some x -> Ij L j L' -> ∀ (F : List A7) (K : (Nat -> Prop) -> World -> Prop) (w : World) (r : Value) (z : Int), LinkP w0 F K L' (x.1 : Nat) (x.2 : Nat) r z w -> z = 0 /\ ∃ L'', Ij L (j + 1) L'' /\ St w0 w F fun D w => K D w /\ Il w D r L'') := Lib.hid fun j x L' hx hP F K w r z h => by
   obtain ⟨h1, L'', h2, h3, h4⟩ := h.next hx hP.2 HH.out.asc.nodup HH.out.role HH.out.acyc
   exact ⟨h1, L'', ⟨h2, h3⟩, h4⟩
  have HLF : Hid (∀ L', Ij L L.length L' -> L' = L) := Lib.hid fun L' h => h.full HH.out.asc
  have hP0 : Ij L 0 [] := ⟨Gi.nil, by simp⟩
  have k1' : ∀ D w, K4 D w -> Sl w D 2 (.slice Al L.length cl) L.length (A6 L) := fun D w h => k1 D w (k0 D w h)
  go_loopw [27] (fun i wr => ∃ (j q' : Nat) (L' : List (Nat × Nat)), i = .int .i64 (j : Nat) /\ j <= L.length /\ Hid (Ij L j L') /\ St w0 wr (.box g 43 #[.int .i64 pr, .pointer (some ⟨q', 0, none⟩), .slice Au nu cu, .slice none 0 0, .slice A4 nl.length c4, .slice B4 gl.length d4] :: .box g2 43 #[.int .i64 0, .pointer none, .slice none 0 0, .slice none 0 0, .slice none 0 0, .slice none 0 0] :: .box g1 30 #[.int .i64 pr, .slice Al L.length cl, .int .u64 (ps : Nat), .slice Ar rl.length cr, .slice An nl.length cn, .slice Ag gl.length cg] :: F) fun D w => K4 D w /\ Il w D (.pointer (some ⟨q', 0, none⟩)) L') (fun i _ => L.length - (intOf i).toNat)
  case atStart => exact ⟨0, q, [], rfl, by omega, Lib.hid hP0, hS.mono (KS4.out.and CJ) fun D w h => ⟨h, kq D w h⟩⟩
  case round =>
   clear hS hP0
   obtain ⟨j, q', L', rfl, hj, HP, hS⟩ := hrel
   by_cases hlj : j < L.length
   ·obtain ⟨f1, f2⟩ := Bf L j hlj
    have HNY := Lib.hid (HNX.out j _ L' (C3 (0, 0) hlj) HP.out)
    have HLL : Hid (L'.length <= 900000) := Lib.hid (by have := HP.out.len; omega)
    generalize L.getD j (0, 0) = z at *
    obtain ⟨za, zb⟩ := z
    dsimp only at f1 f2 HNY
    have kp2 : ∀ D w, (K4 D w /\ Il w D (.pointer (some ⟨q', 0, none⟩)) L') -> Sl w D 2 (.slice Al L.length cl) L.length (A6 L) := fun D w h => k1' D w h.1
    go_wp2_with (first
     | ((with_reducible refine qB ?_); refine qc ?_ ?_ <;> intro h_ <;> go_prune)
     | ((with_reducible refine qI ?_); refine qj hS Tryz.underlying25 ?_; intro b_ j_ hc0_ hc1_)
     | ((with_reducible refine qA 6 ?_); refine AU hS rfl _ rfl (by kernel_rfl) ?_; clear hS; intro g6 w_ hS; (try simp only [Act.put, Act.eval, zz, Value.cells] at hS))
     | (go_at_call 60; refine (hlink_any (.pointer (some ⟨q', 0, none⟩)) L' (za : Nat) (zb : Nat) HP.out.1 HLL.out hS (fun D w h => h.2) (fun D w h => kt D w (k0 D w h.1))).mono ?_; clear hS; rintro e w_ ⟨r, z, rfl, hP⟩; obtain ⟨rfl, L'', hP2, hS⟩ := HNY.out _ _ _ _ _ hP; replace hP2 := Lib.hid hP2; clear hP; obtain ⟨q2, _, rfl, -⟩ := id hS.ro.2)
     | ((with_reducible refine qM ?_); (first | refine qS hS ?_ | refine qT hS ?_); clear hS; intro w_ hS; (try simp only [Act.put, Act.eval, zz, Value.cells] at hS))
     | ((with_reducible refine qK ?_); refine qC hS ?_))
    exact ⟨⟨j + 1, q2, L'', by go_num, hlj, hP2, (hS.sub (List.sublist_cons_self _ _)).mono (KS4.out.and CJ) fun D w h => ⟨h.1.1, h.2⟩⟩, by simp [intOf]; omega⟩
   ·obtain rfl : L.length = j := by omega
    rw [HLF.out _ HP.out] at hS
    clear HP HNX HLF
    go_wp2_with (first | ((with_reducible refine qB ?_); refine qc ?_ ?_ <;> intro h_ <;> go_prune) | ((with_reducible refine qK ?_); refine qC hS ?_))
    obtain ⟨K5, k5, kh, hS2⟩ : ∃ K5 : (Nat -> Prop) -> World -> Prop, (∀ D w, K5 D w -> K4 D w) /\ Hid (∀ D w, K5 D w -> Il w D (.pointer (some ⟨q', 0, none⟩)) L) /\ St w0 wr (.box g 43 #[.int .i64 pr, .pointer (some ⟨q', 0, none⟩), .slice Au nu cu, .slice none 0 0, .slice A4 nl.length c4, .slice B4 gl.length d4] :: .box g2 43 #[.int .i64 0, .pointer none, .slice none 0 0, .slice none 0 0, .slice none 0 0, .slice none 0 0] :: .box g1 30 #[.int .i64 pr, .slice Al L.length cl, .int .u64 (ps : Nat), .slice Ar rl.length cr, .slice An nl.length cn, .slice Ag gl.length cg] :: F) K5 := ⟨_, fun _ _ h => h.1, Lib.hid fun _ _ h => h.2, hS⟩
    clear hS
    have hS := hS2.nil 84 5
    clear hS2
    have KS5 := Lib.hid hS.stable
    have kr : ∀ D w, K5 D w -> Sl w D 5 (.slice Ar rl.length cr) rl.length (AX rl) := fun D w h => k2 D w (k0 D w (k5 D w h))
    go_loopw [50] (fun i wr => ∃ (j : Nat) (rv : Value) (xs : List Value), i = .int .i64 (j : Nat) /\ j <= rl.length /\ St w0 wr (.own rv 84 5 j xs :: .box g 43 #[.int .i64 pr, .pointer (some ⟨q', 0, none⟩), .slice Au nu cu, rv, .slice A4 nl.length c4, .slice B4 gl.length d4] :: .box g2 43 #[.int .i64 0, .pointer none, .slice none 0 0, .slice none 0 0, .slice none 0 0, .slice none 0 0] :: .box g1 30 #[.int .i64 pr, .slice Al L.length cl, .int .u64 (ps : Nat), .slice Ar rl.length cr, .slice An nl.length cn, .slice Ag gl.length cg] :: F) fun D w => K5 D w /\ AB w D xs (rl.take j)) (fun i _ => rl.length - (intOf i).toNat)
    case atStart => exact ⟨0, _, [], rfl, by omega, hS.mono (KS5.out.and BT) fun D w h => ⟨h, fun i z hi => by simp at hi⟩⟩
    case round =>
     clear hS
     obtain ⟨j, rv, xs, rfl, hj2, hS⟩ := hrel
     obtain ⟨Arv, crv, rfl, _, _⟩ := Cu (hS.own 0 rfl)
     by_cases hlj : j < rl.length
     ·obtain ⟨bk, o, rfl, c0, c1, c2, c3, c4'⟩ := rr_at (kr _ _ hS.ro.1) hlj
      have HT : Hid (rl.take (j + 1) = rl.take j ++ [rl.getD j Bd]) := Lib.hid (DO rl j Bd hlj)
      have HZ : Hid ((rl.getD j Bd).yes < AA /\ (rl.getD j Bd).no < AA) := Lib.hid (HF.out.rules _ (by rw [List.getD_eq_getElem?_getD, List.getElem?_eq_getElem hlj]; exact List.getElem_mem hlj))
      have HLT : Hid ((rl.take j).length = j) := Lib.hid (by rw [List.length_take]; omega)
      generalize rl.getD j Bd = z at *
      obtain ⟨zr, zy, zn, zt, zo⟩ := z
      dsimp only at c0 c1 c2 c3 c4' HZ
      go_wp2_with (first
       | ((with_reducible refine qB ?_); refine qc ?_ ?_ <;> intro h_ <;> go_prune)
       | ((with_reducible refine qA 53 ?_); refine BigFrame.wpList_want rfl fun _ hK => Bb (cs := [.bool zr, .int .u64 (zy : Nat), .int .u64 (zn : Nat), .int .i64 zt, .int .i64 zo]) rfl rfl (Jg c0 c1 c2 c3 c4') Tryz.underlying109 rfl (by kernel_rfl) (hK _ _ ?_))
       | ((with_reducible refine qA 10 ?_); refine qa hS #[.bool false, .int .u64 0, .int .u64 0, .int .i64 0, .int .i64 0] ?_; clear hS; intro g10 w_ hS)
       | ((with_reducible refine qM ?_); (first | refine qS hS ?_ | refine qT hS ?_); clear hS; intro w_ hS; (try simp only [Act.put, Act.eval, zz, Value.cells] at hS)))
      obtain ⟨K6, k6, hS2⟩ : ∃ K6 : (Nat -> Prop) -> World -> Prop, Hid (∀ D w, K6 D w -> K5 D w /\ AB w D xs (rl.take j)) /\ St w0 w_ (.box g10 109 #[.bool zr, .int .u64 (zy : Nat), .int .u64 (zn : Nat), .int .i64 zt, .int .i64 zo] :: .own (.slice Arv j crv) 84 5 j xs :: .box g 43 #[.int .i64 pr, .pointer (some ⟨q', 0, none⟩), .slice Au nu cu, .slice Arv j crv, .slice A4 nl.length c4, .slice B4 gl.length d4] :: .box g2 43 #[.int .i64 0, .pointer none, .slice none 0 0, .slice none 0 0, .slice none 0 0, .slice none 0 0] :: .box g1 30 #[.int .i64 pr, .slice Al L.length cl, .int .u64 (ps : Nat), .slice (some ⟨bk, o, none⟩) rl.length cr, .slice An nl.length cn, .slice Ag gl.length cg] :: F) K6 := ⟨_, Lib.hid fun _ _ h => h, hS⟩
      clear hS
      have hS := hS2
      clear hS2
      have KS6 := Lib.hid hS.stable
      have h0d := hS.drew
      refine wp_zS [6, 11, 12, 13, 15] [some (.pointer (some ⟨g, 3, none⟩)), some (.slice Arv j crv), some (.pointer (some ⟨g10, 0, none⟩)), some (.bool zr), some (.pointer (some ⟨g10, 1, none⟩)), some (.agg #[.int .u64 (zy : Nat), .int .u64 (zn : Nat)]), none, some (.pointer (some ⟨g10, 3, none⟩)), some (.int .i64 zt), some (.pointer (some ⟨g10, 4, none⟩)), some (.int .i64 zo), none, none, none, some (.pointer (some ⟨g, 3, none⟩)), none] (fun vs w => match vs with | [] => St w0 w (.box g10 109 #[.bool zr, .int .u64 (zy : Nat), .int .u64 (zn : Nat), .int .i64 zt, .int .i64 zo] :: .own (.slice Arv j crv) 84 5 j xs :: .box g 43 #[.int .i64 pr, .pointer (some ⟨q', 0, none⟩), .slice Au nu cu, .slice Arv j crv, .slice A4 nl.length c4, .slice B4 gl.length d4] :: .box g2 43 #[.int .i64 0, .pointer none, .slice none 0 0, .slice none 0 0, .slice none 0 0, .slice none 0 0] :: .box g1 30 #[.int .i64 pr, .slice Al L.length cl, .int .u64 (ps : Nat), .slice (some ⟨bk, o, none⟩) rl.length cr, .slice An nl.length cn, .slice Ag gl.length cg] :: F) K6 | [z] => ∃ a b : Value, z = .agg #[a, b] /\ St w0 w (.box g10 109 #[.bool zr, .int .u64 (zy : Nat), .int .u64 (zn : Nat), .int .i64 zt, .int .i64 zo] :: .own (.slice Arv j crv) 84 5 j xs :: .box g 43 #[.int .i64 pr, .pointer (some ⟨q', 0, none⟩), .slice Au nu cu, .slice Arv j crv, .slice A4 nl.length c4, .slice B4 gl.length d4] :: .box g2 43 #[.int .i64 0, .pointer none, .slice none 0 0, .slice none 0 0, .slice none 0 0, .slice none 0 0] :: .box g1 30 #[.int .i64 pr, .slice Al L.length cl, .int .u64 (ps : Nat), .slice (some ⟨bk, o, none⟩) rl.length cr, .slice An nl.length cn, .slice Ag gl.length cg] :: F) (fun D w => K6 D w /\ Bi w D (.agg #[a, b]) (zy, zn)) | [_, z] => ∃ a b : Value, z = .agg #[.bool zr, a, b, .int .i64 zt, .int .i64 zo] /\ St w0 w (.box g10 109 #[.bool zr, .int .u64 (zy : Nat), .int .u64 (zn : Nat), .int .i64 zt, .int .i64 zo] :: .own (.slice Arv j crv) 84 5 j xs :: .box g 43 #[.int .i64 pr, .pointer (some ⟨q', 0, none⟩), .slice Au nu cu, .slice Arv j crv, .slice A4 nl.length c4, .slice B4 gl.length d4] :: .box g2 43 #[.int .i64 0, .pointer none, .slice none 0 0, .slice none 0 0, .slice none 0 0, .slice none 0 0] :: .box g1 30 #[.int .i64 pr, .slice Al L.length cl, .int .u64 (ps : Nat), .slice (some ⟨bk, o, none⟩) rl.length cr, .slice An nl.length cn, .slice Ag gl.length cg] :: F) (fun D w => K6 D w /\ Bi w D (.agg #[a, b]) (zy, zn)) | [_, _, z] => ∃ a b : Value, St w0 w (.box g10 109 #[.bool zr, .int .u64 (zy : Nat), .int .u64 (zn : Nat), .int .i64 zt, .int .i64 zo] :: .own (.slice Arv j crv) 84 5 j xs :: .box g 43 #[.int .i64 pr, .pointer (some ⟨q', 0, none⟩), .slice Au nu cu, .slice Arv j crv, .slice A4 nl.length c4, .slice B4 gl.length d4] :: .box g2 43 #[.int .i64 0, .pointer none, .slice none 0 0, .slice none 0 0, .slice none 0 0, .slice none 0 0] :: .box g1 30 #[.int .i64 pr, .slice Al L.length cl, .int .u64 (ps : Nat), .slice (some ⟨bk, o, none⟩) rl.length cr, .slice An nl.length cn, .slice Ag gl.length cg] :: F) (fun D w => (K6 D w /\ Bi w D (.agg #[a, b]) (zy, zn)) /\ Sl w D 5 z 1 [.bool zr, a, b, .int .i64 zt, .int .i64 zo]) | [_, _, _, p'] => ∃ a b : Value, St w0 w (.box g10 109 #[.bool zr, .int .u64 (zy : Nat), .int .u64 (zn : Nat), .int .i64 zt, .int .i64 zo] :: .own p' 84 5 (j + 1) (xs ++ [.bool zr, a, b, .int .i64 zt, .int .i64 zo]) :: .box g 43 #[.int .i64 pr, .pointer (some ⟨q', 0, none⟩), .slice Au nu cu, .slice Arv j crv, .slice A4 nl.length c4, .slice B4 gl.length d4] :: .box g2 43 #[.int .i64 0, .pointer none, .slice none 0 0, .slice none 0 0, .slice none 0 0, .slice none 0 0] :: .box g1 30 #[.int .i64 pr, .slice Al L.length cl, .int .u64 (ps : Nat), .slice (some ⟨bk, o, none⟩) rl.length cr, .slice An nl.length cn, .slice Ag gl.length cg] :: F) (fun D w => K6 D w /\ Bi w D (.agg #[a, b]) (zy, zn)) | [_, _, _, p', _] => ∃ a b : Value, St w0 w (.box g10 109 #[.bool zr, .int .u64 (zy : Nat), .int .u64 (zn : Nat), .int .i64 zt, .int .i64 zo] :: .own p' 84 5 (j + 1) (xs ++ [.bool zr, a, b, .int .i64 zt, .int .i64 zo]) :: .box g 43 #[.int .i64 pr, .pointer (some ⟨q', 0, none⟩), .slice Au nu cu, p', .slice A4 nl.length c4, .slice B4 gl.length d4] :: .box g2 43 #[.int .i64 0, .pointer none, .slice none 0 0, .slice none 0 0, .slice none 0 0, .slice none 0 0] :: .box g1 30 #[.int .i64 pr, .slice Al L.length cl, .int .u64 (ps : Nat), .slice (some ⟨bk, o, none⟩) rl.length cr, .slice An nl.length cn, .slice Ag gl.length cg] :: F) (fun D w => K6 D w /\ Bi w D (.agg #[a, b]) (zy, zn)) | _ => False) ?_ ⟨vF, ?_, vF, ?_, vF, ?_, ?_, vF, ?_, vF, ?_, ?_, ?_, ?_, vF, ?_, trivial⟩ ?_
      ·first | assumption | (dsimp only; assumption)
      ·refine vR 0 3 fun b__ w vs hS h1 h2 hE K hK => ?_
       rcases vs with _ | ⟨x0, _ | ⟨x1, _ | ⟨x2, _ | ⟨x3, vs⟩⟩⟩⟩ <;> first | (exfalso; first | exact hS | (revert h1 h2; simp <;> omega); done) | ((have e54 := hE 54); (first | exact Ad rfl e54 (by kernel_rfl) (hS.shut 2 rfl 3 rfl) (hK _ rfl) | (obtain ⟨_, _, hS⟩ := hS; exact Ad rfl e54 (by kernel_rfl) (hS.shut 2 rfl 3 rfl) (hK _ rfl)) | (obtain ⟨_, _, _, hS⟩ := hS; exact Ad rfl e54 (by kernel_rfl) (hS.shut 2 rfl 3 rfl) (hK _ rfl))))
      ·refine vR 0 1 fun b__ w vs hS h1 h2 hE K hK => ?_
       rcases vs with _ | ⟨x0, _ | ⟨x1, vs⟩⟩ <;> first | (exfalso; first | exact hS | (revert h1 h2; simp <;> omega); done) | ((have e56 := hE 56); (first | exact Ad rfl e56 (by kernel_rfl) (hS.shut 0 rfl 0 rfl) (hK _ rfl) | (obtain ⟨_, _, _, hS⟩ := hS; exact Ad rfl e56 (by kernel_rfl) (hS.shut 0 rfl 0 rfl) (hK _ rfl))))
      ·refine vR 0 0 fun b__ w vs hS h1 h2 hE K hK => ?_
       rcases vs with _ | ⟨x0, vs⟩ <;> first | (exfalso; first | exact hS | (revert h1 h2; simp <;> omega); done) | ((have e58 := hE 58); (exact Bb (cs := [.int .u64 (zy : Nat), .int .u64 (zn : Nat)]) rfl e58 (rng2 (hS.shut 0 rfl 1 rfl) (hS.shut 0 rfl 2 rfl)) Tryz.underlying50 rfl (by kernel_rfl) (hK _ rfl)))
      ·refine vX 0 fun b__ w vs hS hl hE K hK => ?_
       obtain rfl := Jn hl
       have e59 := hE 59
       refine Bz rfl (by kernel_rfl) (by simp only [List.map_cons, List.map_nil, e59]) (ID zy zn HZ.out.1 HZ.out.2 _) fun e w' ⟨z, he, hx, hb_⟩ => ⟨z, he, ?_⟩
       obtain ⟨a, b, rfl, -, -⟩ := id hx
       exact hK _ w' ⟨a, b, rfl, hS.ret hb_ CL hx⟩
      ·refine vR 0 1 fun b__ w vs hS h1 h2 hE K hK => ?_
       rcases vs with _ | ⟨x0, _ | ⟨x1, vs⟩⟩ <;> first | (exfalso; first | exact hS | (revert h1 h2; simp <;> omega); done) | ((have e61 := hE 61); (first | exact Ad rfl e61 (by kernel_rfl) (hS.shut 0 rfl 3 rfl) (hK _ rfl) | (obtain ⟨_, _, _, hS⟩ := hS; exact Ad rfl e61 (by kernel_rfl) (hS.shut 0 rfl 3 rfl) (hK _ rfl))))
      ·refine vR 0 1 fun b__ w vs hS h1 h2 hE K hK => ?_
       rcases vs with _ | ⟨x0, _ | ⟨x1, vs⟩⟩ <;> first | (exfalso; first | exact hS | (revert h1 h2; simp <;> omega); done) | ((have e63 := hE 63); (first | exact Ad rfl e63 (by kernel_rfl) (hS.shut 0 rfl 4 rfl) (hK _ rfl) | (obtain ⟨_, _, _, hS⟩ := hS; exact Ad rfl e63 (by kernel_rfl) (hS.shut 0 rfl 4 rfl) (hK _ rfl))))
      ·refine vX 1 fun b__ w vs hS hl hE K hK => ?_
       obtain ⟨x0, rfl⟩ := GX hl
       have e57 := hE 57
       have e60 := hE 60
       have e62 := hE 62
       have e64 := hE 64
       obtain ⟨a, b, rfl, hS⟩ := hS
       exact Ch rfl (ps := [(0, .bool zr), (1, .agg #[a, b]), (2, .int .i64 zt), (3, .int .i64 zo)]) (cells := #[.bool zr, a, b, .int .i64 zt, .int .i64 zo]) (by simp [e57, e60, e62, e64]) (by kernel_rfl) (hK _ _ ⟨a, b, rfl, hS⟩)
      ·refine vX 2 fun b__ w vs hS hl hE K hK => ?_
       obtain ⟨x0, x1, rfl⟩ := GW hl
       have e65 := hE 65
       obtain ⟨a, b, rfl, hS⟩ := hS
       refine CX (ps := [(0, .agg #[.bool zr, a, b, .int .i64 zt, .int .i64 zo])]) (cells := #[.bool zr, a, b, .int .i64 zt, .int .i64 zo]) rfl Tryz.underlying40 (by simp [e65]) (by kernel_rfl) ?_
       intro w' hbx hbel
       exact hK _ w' ⟨a, b, hS.ret hbel (Aj (by decide)) (⟨by simp, _, 1, rfl, by omega, by unfold maxLen; omega, fun _ => ⟨w.heap.size, 0, rfl, Nat.le_refl _, hbx.lt, fun j x hj => by rw [Nat.zero_add]; exact (hbx.cell j).trans (by simpa using hj)⟩⟩ : Sl w' (w.heap.size <= ·) 5 (.slice (some ⟨w.heap.size, 0, none⟩) 1 1) 1 [.bool zr, a, b, .int .i64 zt, .int .i64 zo])⟩
      ·refine vX 3 fun b__ w vs hS hl hE K hK => ?_
       obtain ⟨x0, x1, x2, rfl⟩ := GV hl
       have e55 := hE 55
       have e66 := hE 66
       obtain ⟨a, b, h3⟩ := hS
       refine Ei rfl ty_rules e55 (h3.own 1 rfl) e66 h3.ro.2 (by obtain ⟨_, _, he, hy, hn⟩ := h3.ro.1.2; injection he with he; injection he with he; injection he with e1 he; injection he with e2 he; subst e1 e2; obtain ⟨A8, m8, c8, rfl⟩ := hy.shape; obtain ⟨B8, k8, d8, rfl⟩ := hn.shape; intro u hu; simp at hu; rcases hu with rfl | rfl | rfl | rfl | rfl <;> rfl) (by omega) (by omega) h3.size ?_
       intro v' w' ho hg hat
       exact hK v' w' ⟨a, b, (h3.upd 1 rfl (.own v' 84 5 (j + 1) (xs ++ [.bool zr, a, b, .int .i64 zt, .int .i64 zo])) hg ho hat).mono (KS6.out.and CL) fun D w h => h.1⟩
      ·refine vX 4 fun b__ w vs hS hl hE K hK => ?_
       obtain ⟨x0, x1, x2, x3, rfl⟩ := Jm hl
       have e68 := hE 68
       have e67 := hE 67
       obtain ⟨a, b, h3⟩ := hS
       refine E7 rfl e68 e67 (h3.box 2 rfl) (by simp) (IB (h3.own 1 rfl)) (own_one (h3.own 1 rfl)) (by kernel_rfl) ?_
       intro w' hbx hup
       exact hK _ w' ⟨a, b, h3.upd 2 rfl (.box g 43 #[.int .i64 pr, .pointer (some ⟨q', 0, none⟩), .slice Au nu cu, x3, .slice A4 nl.length c4, .slice B4 gl.length d4]) (Bv hup) ⟨(h3.holds _ (List.mem_of_getElem? (i := 2) rfl)).1, hbx⟩ fun _ e => .inl e⟩
      ·intro us wz vs hS hl hT
       obtain ⟨x0, x1, x2, x3, x4, rfl⟩ := vs_len5 hl
       obtain ⟨e54, e55, e56, e57, e58, e59, e60, e61, e62, e63, e64, e65, e66, e67, e68, -⟩ := hT
       clear hl
       simp only [AL, Act.put, zz, ze]
       obtain ⟨a, b, hS⟩ := hS
       clear h0d
       go_wp2_with fail
       have hxl := HLT.out
       refine ⟨⟨j + 1, _, xs ++ [.bool zr, a, b, .int .i64 zt, .int .i64 zo], by go_num, hlj, (hS.sub (List.sublist_cons_self _ _)).mono (KS5.out.and BT) fun D w h => ⟨(k6.out _ _ h.1).1, ?_⟩⟩, by simp [intOf]; omega⟩
       rw [HT.out]
       have hz := (hS.own 1 rfl).1
       exact AB.append (by simp at hz; omega) (k6.out _ _ h.1).2 (AB.single (z := ⟨zr, zy, zn, zt, zo⟩) (G8 h.2).1 (G8 h.2).2)
     ·obtain rfl : rl.length = j := by omega
      rw [List.take_length] at hS
      go_wp2_with (first | ((with_reducible refine qB ?_); refine qc ?_ ?_ <;> intro h_ <;> go_prune))
      obtain ⟨K7, k7, ks7, hS2⟩ : ∃ K7 : (Nat -> Prop) -> World -> Prop, Hid (∀ D w, K7 D w -> (K5 D w /\ AB w D xs rl) /\ Sl w D 5 (.slice Arv rl.length crv) rl.length xs) /\ AF K7 /\ St w0 wr (.box g 43 #[.int .i64 pr, .pointer (some ⟨q', 0, none⟩), .slice Au nu cu, .slice Arv rl.length crv, .slice A4 nl.length c4, .slice B4 gl.length d4] :: .box g2 43 #[.int .i64 0, .pointer none, .slice none 0 0, .slice none 0 0, .slice none 0 0, .slice none 0 0] :: .box g1 30 #[.int .i64 pr, .slice Al L.length cl, .int .u64 (ps : Nat), .slice Ar rl.length cr, .slice An nl.length cn, .slice Ag gl.length cg] :: F) K7 := ⟨_, Lib.hid fun _ _ h => h, (hS.freeze 0 (by decide) rfl).stable, hS.freeze 0 (by decide) rfl⟩
      clear hS
      have hS := hS2
      clear hS2
      have hJ0 : St w0 wr.drew (.box g 43 #[.int .i64 pr, .pointer (some ⟨q', 0, none⟩), .slice Au nu cu, .slice Arv rl.length crv, .slice A4 nl.length c4, .slice B4 gl.length d4] :: .box g2 43 (cond (false, false).1 #[.int .i64 pr, .pointer (some ⟨q', 0, none⟩), .slice Au nu cu, .slice Arv rl.length crv, .slice A4 nl.length c4, .slice B4 gl.length d4] #[.int .i64 0, .pointer none, .slice none 0 0, .slice none 0 0, .slice none 0 0, .slice none 0 0]) :: .box g1 30 #[.int .i64 pr, .slice Al L.length cl, .int .u64 (ps : Nat), .slice Ar rl.length cr, .slice An nl.length cn, .slice Ag gl.length cg] :: F) K7 := hS.drew
      have hRr := @SR.refl w0 (fun s => .box g 43 #[.int .i64 pr, .pointer (some ⟨q', 0, none⟩), .slice Au nu cu, .slice Arv rl.length crv, .slice A4 nl.length c4, .slice B4 gl.length d4] :: .box g2 43 (cond s.1 #[.int .i64 pr, .pointer (some ⟨q', 0, none⟩), .slice Au nu cu, .slice Arv rl.length crv, .slice A4 nl.length c4, .slice B4 gl.length d4] #[.int .i64 0, .pointer none, .slice none 0 0, .slice none 0 0, .slice none 0 0, .slice none 0 0]) :: .box g1 30 #[.int .i64 pr, .slice Al L.length cl, .int .u64 (ps : Nat), .slice Ar rl.length cr, .slice An nl.length cn, .slice Ag gl.length cg] :: F) K7
      have hRt := @SR.trans w0 (fun s => .box g 43 #[.int .i64 pr, .pointer (some ⟨q', 0, none⟩), .slice Au nu cu, .slice Arv rl.length crv, .slice A4 nl.length c4, .slice B4 gl.length d4] :: .box g2 43 (cond s.1 #[.int .i64 pr, .pointer (some ⟨q', 0, none⟩), .slice Au nu cu, .slice Arv rl.length crv, .slice A4 nl.length c4, .slice B4 gl.length d4] #[.int .i64 0, .pointer none, .slice none 0 0, .slice none 0 0, .slice none 0 0, .slice none 0 0]) :: .box g1 30 #[.int .i64 pr, .slice Al L.length cl, .int .u64 (ps : Nat), .slice Ar rl.length cr, .slice An nl.length cn, .slice Ag gl.length cg] :: F) K7
      have hN0 : ∀ _ : Nat, True := fun _ => trivial
      clear hS
      refine Ed (SR w0 (fun s => .box g 43 #[.int .i64 pr, .pointer (some ⟨q', 0, none⟩), .slice Au nu cu, .slice Arv rl.length crv, .slice A4 nl.length c4, .slice B4 gl.length d4] :: .box g2 43 (cond s.1 #[.int .i64 pr, .pointer (some ⟨q', 0, none⟩), .slice Au nu cu, .slice Arv rl.length crv, .slice A4 nl.length c4, .slice B4 gl.length d4] #[.int .i64 0, .pointer none, .slice none 0 0, .slice none 0 0, .slice none 0 0, .slice none 0 0]) :: .box g1 30 #[.int .i64 pr, .slice Al L.length cl, .int .u64 (ps : Nat), .slice Ar rl.length cr, .slice An nl.length cn, .slice Ag gl.length cg] :: F) K7) (fun _ _ => True) ((false, false)) hRr hRt [.i (.agg #[.int .i64 pr, .pointer (some ⟨q', 0, none⟩), .slice Au nu cu, .slice Arv rl.length crv, .slice A4 nl.length c4, .slice B4 gl.length d4]), .q g 1, .q q' 0, .b true, .s (fun v w => w.2.1 = true) fun v w w' h hb => hb.2.1 h, .b true] ?_ ⟨uR (h := fun w hW hN => (hW.1 hJ0).box 0 rfl), uF, uC (h := fun w hW hN => (hW.1 hJ0).shut 0 rfl 1 rfl), uB (h := fun w hW hN => JP _ _), ?_, uA, trivial⟩ ?_
      ·first | assumption | (intro i; (try dsimp only); split <;> first | trivial | assumption | (left; assumption))
      ·refine uG fun b__ w hW hN hE K hK => ?_
       have e2 : b__.eval (.tmp 2) = .pointer (some ⟨g2, 0, none⟩) := hE 2
       have e70 := hE 70
       have hS := hW.1 hJ0
       exact CW rfl e2 e70 (hS.box 1 rfl) (by kernel_rfl) (by cases w.2.1 <;> rfl) (by simp [Value.oneCell']) fun w4 h1 hU => hK undef (w4, (true, w.2.2)) rfl ⟨⟨fun _ => hS.upd 1 rfl (.box g2 43 #[.int .i64 pr, .pointer (some ⟨q', 0, none⟩), .slice Au nu cu, .slice Arv rl.length crv, .slice A4 nl.length c4, .slice B4 gl.length d4]) (Bv hU) ⟨(hS.holds _ (List.mem_of_getElem? (i := 1) rfl)).1, h1⟩ fun _ e => .inl e, fun _ => rfl, id⟩, fun _ _ h => h⟩
      ·intro vs wz hW hT
       obtain ⟨e70, e71, e72, e73, z4, e3, -⟩ := hT
       have bx : (fun _ : Nat => True) 0 := trivial
       simp only [AL, Act.put, zz, ze]
       obtain ⟨_, hst⟩ := z4
       have hS : St w0 wz.1 (.box g 43 #[.int .i64 pr, .pointer (some ⟨q', 0, none⟩), .slice Au nu cu, .slice Arv rl.length crv, .slice A4 nl.length c4, .slice B4 gl.length d4] :: .box g2 43 (cond wz.2.1 #[.int .i64 pr, .pointer (some ⟨q', 0, none⟩), .slice Au nu cu, .slice Arv rl.length crv, .slice A4 nl.length c4, .slice B4 gl.length d4] #[.int .i64 0, .pointer none, .slice none 0 0, .slice none 0 0, .slice none 0 0, .slice none 0 0]) :: .box g1 30 #[.int .i64 pr, .slice Al L.length cl, .int .u64 (ps : Nat), .slice Ar rl.length cr, .slice An nl.length cn, .slice Ag gl.length cg] :: F) K7 := hW.1 hJ0
       rw [show wz.2.1 = true from hst] at hS
       dsimp only [cond] at hS
       clear hW hJ0 hRr hRt hN0 hst
       generalize wz.1 = wf at *
       simp only [show vs (3 : Nat) = _ from e3]
       go_wp2_with fail
       refine JV Tryz.results16 rfl (hS.box 1 rfl) Tryz.underlying43 rfl (by kernel_rfl) rfl rfl ?_
       refine ⟨_, rfl, (hS.sub (F' := F) (((List.sublist_cons_self _ _).trans (List.sublist_cons_self _ _)).trans (List.sublist_cons_self _ _))).mono (KSt.out.and Fy) fun D w h => ?_⟩
       have h := k7.out _ _ h
       have h2 := kc.out _ _ (k5 _ _ h.1.1)
       exact ⟨k0 _ _ (k5 _ _ h.1.1), _, _, _, _, _, rfl, kh.out _ _ h.1.1, h2.1, ⟨_, h.2, h.1.2⟩, h2.2.1, h2.2.2⟩
theorem Gu.fits {p : AP} {L : List (Nat × Nat)} {R : Nat} (h : Gu p L R) : Fits p := by
 have hm : Gq R < AA := by
  have : 2 ^ (R + 1) <= 2 ^ 6 := Nat.pow_le_pow_right (by decide) (by have := h.r5; omega)
  unfold Gq AA; omega
 refine ⟨?_, fun z hz => ?_, by have := h.rlen; omega, fun z hz => ?_, by have := h.nlen; omega, fun z hz => ?_, by have := h.glen; omega⟩
 ·rw [<- h.start]; exact Nat.lt_of_le_of_lt Nat.and_le_right hm
 ·have := (h.rules z hz).2.2.2.2.2
  unfold AA; omega
 ·have := (h.never z hz).1.2.2.2
  unfold AA; omega
 ·have := (h.goal z hz).2.2.2
  unfold AA; omega
theorem Gu.ok {p : AP} {L : List (Nat × Nat)} {R : Nat} (h : Gu p L R) : p.Ok :=
 ⟨by have := h.rlen; omega, by have := h.nlen; omega, by have := h.glen; omega, fun L' e => by rw [h.links] at e; injection e with e; subst e; exact ⟨h.hok, by have := h.len; omega⟩⟩
end
section
open Go.RowKit
attribute [local go_sem ↓] Go.wp_at_zero Go.wp_at_succ
set_option maxRecDepth 20000
set_option exponentiation.threshold 5000
theorem isH_ptr {w : World} {D : Nat -> Prop} {v : Value} {o : Option (List (Nat × Nat))} (h : IsHo w D v o) : ∃ p, v = .pointer p := by
 cases o with
 | none => exact ⟨_, h⟩
 | some L => obtain ⟨q, o, h, _⟩ := h; exact ⟨_, h⟩
theorem BR.cells {w : World} {D : Nat -> Prop} {v : Value} {p : AP} (h : BR w D v p) : ∃ cs, v = .agg cs /\ cs.size = 6 /\ cs.all (·.oneCell') = true := by
 obtain ⟨lp, s, rv, nv, gv, rfl, h1, h2, h3, h4, h5⟩ := h
 obtain ⟨_, rfl⟩ := isH_ptr h1
 obtain ⟨_, _, _, rfl⟩ := h2.shape
 obtain ⟨_, _, rfl, _, _⟩ := h3.shape
 obtain ⟨_, _, rfl⟩ := Ck h4
 obtain ⟨_, _, rfl⟩ := Ck h5
 exact ⟨_, rfl, rfl, by simp [Value.oneCell']⟩
theorem B5.cells {w : World} {D : Nat -> Prop} {v : Value} {p : AP} (h : B5 w D v p) : ∃ cs, v = .agg cs /\ cs.size = 6 /\ cs.all (·.oneCell') = true := by
 obtain ⟨lv, rv, nv, gv, L, rfl, _, h1, h2, h3, h4⟩ := h
 obtain ⟨_, _, rfl, _, _⟩ := h1.shape
 obtain ⟨_, _, rfl, _, _⟩ := h2.shape
 obtain ⟨_, _, rfl, _, _⟩ := Sl.shape (h3 : Sl _ _ _ _ _ _)
 obtain ⟨_, _, rfl, _, _⟩ := Sl.shape (h4 : Sl _ _ _ _ _ _)
 exact ⟨_, rfl, rfl, by simp [Value.oneCell']⟩
theorem ret_cct {P : Program} {fn : Func} {p p2 t3 : Tmp} {ty ty2 : TypeId} {R : Ending -> World -> Prop} {a : Act} {w : World} {g g2 : Nat} {t t2 : TypeId} {cs cs2 : Array Value} {d d2 : TypeDesc} {v : Value} (h : fn.results = #[.cell p ty, .cell p2 ty2, .tmp t3]) (hp : a.eval (.tmp p) = .pointer (some ⟨g, 0, none⟩)) (hb : AW w g t cs)
  (hu : P.underlying ty = some d) (hd : (match d with | .struct _ | .array _ _ => true | _ => false) = true) (hi : (P.info? ty).map (·.size) = some cs.size)
  (hp2 : a.eval (.tmp p2) = .pointer (some ⟨g2, 0, none⟩)) (hb2 : AW w g2 t2 cs2) (hu2 : P.underlying ty2 = some d2) (hd2 : (match d2 with | .struct _ | .array _ _ => true | _ => false) = true) (hi2 : (P.info? ty2).map (·.size) = some cs2.size)
  (hv : a.eval (.tmp t3) = v) (hdf : a.defers = []) (hR : R (.returned (.tuple #[.agg cs, .agg cs2, v])) w) : bodyPost P fn R .ret a w := by
 have hr : (results fn a.tmps).run P w = .ok (.tuple #[.agg cs, .agg cs2, v]) w := by
  have hp' : a.tmps[p]?.getD undef = .pointer (some ⟨g, 0, none⟩) := by simpa [Act.eval] using hp
  have hp2' : a.tmps[p2]?.getD undef = .pointer (some ⟨g2, 0, none⟩) := by simpa [Act.eval] using hp2
  have hv' : a.tmps[t3]?.getD undef = v := by simpa [Act.eval] using hv
  simp [results, h, hp', hp2', hv', asAddr, run_loadVar_row w g t ty cs (0, 0) d hb hu hd hi, run_loadVar_row w g2 t2 ty2 cs2 (0, 0) d2 hb2 hu2 hd2 hi2]
 exact bodyPost_ret hr hdf hR
set_option maxHeartbeats 1000000 in
theorem lmake31_any {w0 w : World} {F : List A7} {K : (Nat -> Prop) -> World -> Prop} {v : Value} {l : List Nat} (hl : ∀ x ∈ l, x < 256) (hS : St w0 w F K) (kp : ∀ D w, K D w -> Sl w D 1 v l.length (Aa l)) (kt : ∀ D w, K D w -> Cw w /\ D 0) :
  Calls Tryz.prog 18 #[v] w fun e w' => ∃ x u, e = .returned (.tuple #[x, u, .bool true]) /\ ∃ p, (∃ L R, Gu p L R) /\ St w0 w' F fun D w => K D w /\ BR w D x p /\ B5 w D u p := by
 have HL := Lib.hid hl
 have KS := Lib.hid hS.stable
 go_enter Tryz.func18, Tryz.ntmps18
 go_wp2_with (first
  | ((with_reducible refine qA 2 ?_); refine qa hS #[.int .i64 0, .pointer none, .slice none 0 0, .slice none 0 0, .slice none 0 0, .slice none 0 0] ?_; clear hS; intro g2 w_ hS)
  | ((with_reducible refine qA 3 ?_); refine qa hS #[.int .i64 0, .slice none 0 0, .int .u64 0, .slice none 0 0, .slice none 0 0, .slice none 0 0] ?_; clear hS; intro g3 w_ hS)
  | ((with_reducible refine qA 5 ?_); refine qa hS #[.int .i64 0, .slice none 0 0, .int .u64 0, .slice none 0 0, .slice none 0 0, .slice none 0 0] ?_; clear hS; intro g5 w_ hS)
  | ((with_reducible refine qA 6 ?_); refine qa hS #[.int .i64 0, .pointer none, .slice none 0 0, .slice none 0 0, .slice none 0 0, .slice none 0 0] ?_; clear hS; intro g6 w_ hS)
  | (go_at_call 13; refine (IU HL.out hS kp).mono ?_; clear hS; rintro e w_ ⟨u, p, L, R, rfl, hM, hS⟩; replace hM := Lib.hid hM; obtain ⟨us, rfl, hu6, hu1⟩ := hS.ro.2.cells; replace hu6 := Lib.hid hu6)
  | (go_at_call 16; refine (lproblem_any hM.out.links hM.out.hok (by have := hM.out.len; omega) hM.out.fits hS (fun D w h => h.2) (fun D w h => kt D w h.1)).mono ?_; clear hS; rintro e w_ ⟨x, rfl, hS⟩; obtain ⟨xs, rfl, hx6, hx1⟩ := hS.ro.2.cells; replace hx6 := Lib.hid hx6)
  | ((with_reducible refine qm 30 ?_); refine BV hS 0 rfl _ _ _ rfl _ _ rfl rfl _ _ rfl (by rw [hu6.out]; kernel_rfl) (by rw [hu6.out]; rfl) hu1 ?_; clear hS; intro w_ hS; (try simp only [Act.put, Act.eval, zz, Value.cells] at hS))
  | ((with_reducible refine qm 43 ?_); refine BV hS 0 rfl _ _ _ rfl _ _ rfl rfl _ _ rfl (by rw [hx6.out]; kernel_rfl) (by rw [hx6.out]; rfl) hx1 ?_; clear hS; intro w_ hS; (try simp only [Act.put, Act.eval, zz, Value.cells] at hS))
  | ((with_reducible refine qA 11 ?_); refine BigFrame.wpList_want rfl fun _ hK => C2 rfl rfl (hS.box 0 rfl) Tryz.underlying30 rfl (by rw [hu6.out]; kernel_rfl) (hK _ _ ?_)))
 obtain ⟨K7, k7, hJ0⟩ : ∃ K7 : (Nat -> Prop) -> World -> Prop, Hid (∀ D w, K7 D w -> (K D w /\ B5 w D (.agg us) p) /\ BR w D (.agg xs) p) /\ St w0 w_.drew (.box g6 43 xs :: .box g5 30 us :: .box g3 30 (cond (false, false).2 us #[.int .i64 0, .slice none 0 0, .int .u64 0, .slice none 0 0, .slice none 0 0, .slice none 0 0]) :: .box g2 43 (cond (false, false).1 xs #[.int .i64 0, .pointer none, .slice none 0 0, .slice none 0 0, .slice none 0 0, .slice none 0 0]) :: F) K7 := ⟨_, Lib.hid fun _ _ h => h, hS.drew⟩
 have hRr := @SR.refl w0 (fun s => .box g6 43 xs :: .box g5 30 us :: .box g3 30 (cond s.2 us #[.int .i64 0, .slice none 0 0, .int .u64 0, .slice none 0 0, .slice none 0 0, .slice none 0 0]) :: .box g2 43 (cond s.1 xs #[.int .i64 0, .pointer none, .slice none 0 0, .slice none 0 0, .slice none 0 0, .slice none 0 0]) :: F) K7
 have hRt := @SR.trans w0 (fun s => .box g6 43 xs :: .box g5 30 us :: .box g3 30 (cond s.2 us #[.int .i64 0, .slice none 0 0, .int .u64 0, .slice none 0 0, .slice none 0 0, .slice none 0 0]) :: .box g2 43 (cond s.1 xs #[.int .i64 0, .pointer none, .slice none 0 0, .slice none 0 0, .slice none 0 0, .slice none 0 0]) :: F) K7
 have hN0 : ∀ _ : Nat, True := fun _ => trivial
 clear hS
 refine Ed (SR w0 (fun s => .box g6 43 xs :: .box g5 30 us :: .box g3 30 (cond s.2 us #[.int .i64 0, .slice none 0 0, .int .u64 0, .slice none 0 0, .slice none 0 0, .slice none 0 0]) :: .box g2 43 (cond s.1 xs #[.int .i64 0, .pointer none, .slice none 0 0, .slice none 0 0, .slice none 0 0, .slice none 0 0]) :: F) K7) (fun _ _ => True) ((false, false)) hRr hRt [.i (.agg xs), .i (.agg us), .b true, .s (fun v w => w.2.1 = true) fun v w w' h hb => hb.2.1 h, .s (fun v w => w.2.2 = true) fun v w w' h hb => hb.2.2 h, .b true] ?_ ⟨?_, ?_, uM, ?_, ?_, uA, trivial⟩ ?_
 ·first | assumption | (intro i; (try dsimp only); split <;> first | trivial | assumption | (left; assumption))
 ·refine uG fun b__ w hW hN hE K hK => ?_
  have e6 : b__.eval (.tmp 6) = .pointer (some ⟨g6, 0, none⟩) := hE 6
  exact C2 rfl e6 ((hW.1 hJ0).box 0 rfl) Tryz.underlying43 rfl (by rw [hx6.out]; kernel_rfl) (hK _ _ rfl ⟨hRr _, fun _ _ h => h⟩)
 ·refine uG fun b__ w hW hN hE K hK => ?_
  have e5 : b__.eval (.tmp 5) = .pointer (some ⟨g5, 0, none⟩) := hE 5
  exact C2 rfl e5 ((hW.1 hJ0).box 1 rfl) Tryz.underlying30 rfl (by rw [hu6.out]; kernel_rfl) (hK _ _ rfl ⟨hRr _, fun _ _ h => h⟩)
 ·refine uG fun b__ w hW hN hE K hK => ?_
  have e2 : b__.eval (.tmp 2) = .pointer (some ⟨g2, 0, none⟩) := hE 2
  have e15 := hE 15
  have hS := hW.1 hJ0
  exact CW rfl e2 e15 (hS.box 3 rfl) (by rw [hx6.out]; kernel_rfl) (by cases w.2.1; exact hx6.out.symm; rfl) hx1 fun w4 h1 hU => hK undef (w4, (true, w.2.2)) rfl ⟨⟨fun _ => hS.upd 3 rfl (.box g2 43 xs) (Bv hU) ⟨(hS.holds _ (List.mem_of_getElem? (i := 3) rfl)).1, h1⟩ fun _ e => .inl e, fun _ => rfl, id⟩, fun _ _ h => h⟩
 ·refine uG fun b__ w hW hN hE K hK => ?_
  have e3 : b__.eval (.tmp 3) = .pointer (some ⟨g3, 0, none⟩) := hE 3
  have e16 := hE 16
  have hS := hW.1 hJ0
  exact CW rfl e3 e16 (hS.box 2 rfl) (by rw [hu6.out]; kernel_rfl) (by cases w.2.2; exact hu6.out.symm; rfl) hu1 fun w4 h1 hU => hK undef (w4, (w.2.1, true)) rfl ⟨⟨fun _ => hS.upd 2 rfl (.box g3 30 us) (Bv hU) ⟨(hS.holds _ (List.mem_of_getElem? (i := 2) rfl)).1, h1⟩ fun _ e => .inl e, id, fun _ => rfl⟩, fun _ _ h => h⟩
 ·intro vs wz hW hT
  obtain ⟨e15, e16, e17, z3, z4, e4, -⟩ := hT
  have bx : (fun _ : Nat => True) 0 := trivial
  simp only [AL, Act.put, zz, ze]
  obtain ⟨_, hst⟩ := z3
  obtain ⟨_, hst2⟩ := z4
  have hS : St w0 wz.1 (.box g6 43 xs :: .box g5 30 us :: .box g3 30 (cond wz.2.2 us #[.int .i64 0, .slice none 0 0, .int .u64 0, .slice none 0 0, .slice none 0 0, .slice none 0 0]) :: .box g2 43 (cond wz.2.1 xs #[.int .i64 0, .pointer none, .slice none 0 0, .slice none 0 0, .slice none 0 0, .slice none 0 0]) :: F) K7 := hW.1 hJ0
  rw [show wz.2.1 = true from hst, show wz.2.2 = true from hst2] at hS
  dsimp only [cond] at hS
  clear hW hJ0 hRr hRt hN0 hst hst2
  generalize wz.1 = wf at *
  simp only [show vs (4 : Nat) = _ from e4]
  go_wp2_with fail
  refine ret_cct Tryz.results18 rfl (hS.box 3 rfl) Tryz.underlying43 rfl (by rw [hx6.out]; kernel_rfl) rfl (hS.box 2 rfl) Tryz.underlying30 rfl (by rw [hu6.out]; kernel_rfl) rfl rfl ?_
  exact ⟨_, _, rfl, p, ⟨L, R, hM.out⟩, (hS.sub (F' := F) ((((List.sublist_cons_self _ _).trans (List.sublist_cons_self _ _)).trans (List.sublist_cons_self _ _)).trans (List.sublist_cons_self _ _))).mono (KS.out.and (Fy.and Ct)) fun D w h => ⟨(k7.out _ _ h).1.1, (k7.out _ _ h).2, (k7.out _ _ h).1.2⟩⟩
end
section
open Go.RowKit
attribute [local go_sem ↓] Go.wp_at_zero Go.wp_at_succ
set_option maxRecDepth 20000
theorem Jq : Bn Tryz.prog 37 26 1 8 := ⟨Tryz.underlying37, by kernel_rfl⟩
theorem shl8 {x : Nat} (hx : x < 256) (r : Nat) (h : r < 8) : IntKind.u64.wrap ((x : Int) * 2 ^ (8 * r)) = ((x * 2 ^ (8 * r) : Nat) : Int) /\ x * 2 ^ (8 * r) < AA := by
 have hp : (2 : Nat) ^ (8 * r) <= 2 ^ 56 := Nat.pow_le_pow_right (by decide) (by omega)
 have hy : x * 2 ^ (8 * r) < AA := by
  have : x * 2 ^ (8 * r) <= 255 * 2 ^ 56 := Nat.mul_le_mul (by omega) hp
  unfold AA; omega
 refine ⟨?_, hy⟩
 have e : ((x : Int) * 2 ^ (8 * r)) = ((x * 2 ^ (8 * r) : Nat) : Int) := by push_cast; rfl
 rw [e]
 exact Cn hy
theorem St.put64 {w0 w : World} {F : List A7} {K : (Nat -> Prop) -> World -> Prop} (h : St w0 w F K) (i : Nat) {g n cap : Nat} {e : TypeId} {L : List Nat} (hi : F[i]? = some (.own (.slice (some ⟨g, 0, none⟩) n cap) e 1 n (Ai L))) (k z : Nat) :
  St w0 (w.setCell ⟨g, k, none⟩ (.int .u64 (z : Nat))).drew (F.set i (.own (.slice (some ⟨g, 0, none⟩) n cap) e 1 n (Ai (L.set k z)))) K :=
 (h.upd i hi (.own (.slice (some ⟨g, 0, none⟩) n cap) e 1 n (Ai (L.set k z))) ((h.own i hi).stored k (.int .u64 (z : Nat))).2 (Ju (h.own i hi) (Below.refl _ _)) fun _ e => .inl e).drew
end
section
open Go.RowKit
attribute [local go_sem ↓] Go.wp_at_zero Go.wp_at_succ
set_option maxRecDepth 20000
end
section
open Go.RowKit
set_option maxRecDepth 20000
end
end Go.Proofs.YtchjigffejhmfaaGreatDoor
