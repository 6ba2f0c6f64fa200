/-
  What the statement needs, part 3.
-/
import Derived.Deep.Cut
import Derived.Deep.CutBlock
import Derived.Deep.MidRow
import Derived.Laws.CopyRow
import Derived.Laws.CopyOwn
import Derived.Laws.IdiomStrings
import Derived.Test.YtchjigffejhmfaaGreatDoorShelf
import Derived.Test.YtchjigffejhmfaaGreatDoorScc2
namespace Go.Proofs.YtchjigffejhmfaaGreatDoor
section
open Go.RowKit
attribute [local go_sem ↓] Go.wp_at_zero Go.wp_at_succ
set_option maxRecDepth 20000
set_option exponentiation.threshold 5000
theorem clip_any (A : Option Addr) (n c : Nat) (hc : n <= c) (hm : c <= 9223372036854775807) (w : World) : Calls Tryz.prog 180 #[.slice A n c] w fun e w' => e = .returned (.slice A n n) /\ w' = w := by
 go_enter Tryz.func180, Tryz.ntmps180
 go_wp2_with fail
 go_ret
 exact ⟨rfl, rfl⟩
theorem own_cap {w : World} {base g size n cap : Nat} {e : TypeId} {xs : List Value} (h : w.ownsRow base e size (.slice (some ⟨g, 0, none⟩) n cap) n xs) : n <= cap /\ cap <= 9223372036854775807 := by
 obtain ⟨A, c, he, h1, h2⟩ := B7 h
 injection he with _ _ he
 subst he
 exact ⟨h1, h2⟩
theorem sl_clip {w : World} {D : Nat -> Prop} {size n c : Nat} {A : Option Addr} {xs : List Value} (h : Sl w D size (.slice A n c) n xs) : Sl w D size (.slice A n n) n xs := by
 obtain ⟨h1, A2, c2, h2, h3, h4, h5⟩ := h
 injection h2 with h2 h6 h7
 subst h2
 exact ⟨h1, A, n, rfl, Nat.le_refl _, Nat.le_trans h3 h4, h5⟩
def C9 (w : World) (D : Nat -> Prop) (g : Nat) (cs : Array Value) : Prop := D g /\ g < w.heap.size /\ 0 < cs.size /\ ∀ j x, cs[j]? = some x -> w.cell? ⟨g, j, none⟩ = some x
theorem AZ {g : Nat} {cs : Array Value} : AC fun D w => C9 w D g cs := fun D D' w w' h a b c => by
 obtain ⟨h1, h2, h3, h4⟩ := h
 have h5 : cs[0]? = some (cs[0]'h3) := Array.getElem?_eq_getElem h3
 exact ⟨c g h1 h2 (F5 (h4 0 _ h5)), Nat.lt_of_lt_of_le h2 a, h3, fun j x hj => b _ x h1 h2 (h4 j x hj)⟩
theorem C9.cell {w : World} {D : Nat -> Prop} {g : Nat} {cs : Array Value} (h : C9 w D g cs) (j : Nat) {x : Value} (hx : cs[j]? = some x) : w.cell? ⟨g, j, none⟩ = some x := h.2.2.2 j x hx
theorem St.sealB {w0 w : World} {F : List Ac} {K : (Nat -> Prop) -> World -> Prop} (h : St w0 w F K) (i : Nat) {g : Nat} {t : TypeId} {cs : Array Value} (h0 : 0 < cs.size) (hi : F[i]? = some (.box g t cs)) : St w0 w (F.eraseIdx i) fun D w => K D w /\ C9 w D g cs := by
 have hlt := (List.getElem?_eq_some_iff.1 hi).1
 have hfF : Ac.box g t cs ∈ F := List.mem_of_getElem? hi
 have hbx := h.box i hi
 refine (h.sub (List.eraseIdx_sublist _ _)).add (D := fun b => b = g) AZ ⟨rfl, hbx.lt, h0, fun j x hj => (hbx.cell j).trans hj⟩ fun b hb _ f hf e => ?_
 obtain ⟨j, hj⟩ := List.mem_iff_getElem?.1 hf
 rw [List.getElem?_eraseIdx] at hj
 have e1 : F[i] = Ac.box g t cs := (List.getElem?_eq_some_iff.1 hi).2
 have hb' : some b = some g := by rw [hb]
 split at hj
 ·have := List.pairwise_iff_getElem.1 h.apart j i (by omega) hlt (by omega) b (by rw [(List.getElem?_eq_some_iff.1 hj).2]; exact e)
  rw [e1] at this; exact this hb'.symm
 ·have hjl := (List.getElem?_eq_some_iff.1 hj).1
  have := List.pairwise_iff_getElem.1 h.apart i (j + 1) hlt hjl (by omega) b (by rw [e1]; exact hb'.symm)
  rw [(List.getElem?_eq_some_iff.1 hj).2] at this; exact this e
theorem set_same {α : Type} {l : List α} {i : Nat} {x : α} (h : l[i]? = some x) : l.set i x = l := by
 obtain ⟨h1, h2⟩ := List.getElem?_eq_some_iff.1 h
 subst h2
 exact List.set_getElem_self h1
theorem st_appf {P : Program} {ops : Array Oper} {rest : List Oper} {o : Oper} {a : Act} {Q : Exit -> Act -> World -> Prop} {w0 w : World} {F : List Ac} {K : (Nat -> Prop) -> World -> Prop} (h : St w0 w F K) (i : Nat) (hg : o.guard = none) (s x : Operand) (t : TypeId) (ho : o.op = .call { callee := .builtin .append, args := #[s, x], argTypes := #[t, t] }) {e : TypeId} {size bytes : Nat} (hT : Bd P t e size bytes)
  (g : Nat) (hs : a.eval s = .slice (some ⟨g, 0, none⟩) 0 0) (hb : F[i]? = some (.own (.slice (some ⟨g, 0, none⟩) 0 0) e size 0 [])) (D : Nat -> Prop) (y : Value) (m : Nat) (news : List Value) (hx : a.eval x = y) (hr : Sl w D size y m news)
  (h1 : ∀ u ∈ news, u.oneCell' = true) (hm : m <= 1000000000000) (hbytes : m * bytes <= 140737488355328)
  (hk : ∀ g' c w', St w0 w' (F.set i (.own (.slice (some ⟨g', 0, none⟩) m c) e size m news)) K -> wpList P ops Q rest (a.put o.dst (.slice (some ⟨g', 0, none⟩) m c)) w') : wpList P ops Q (o :: rest) a w := by
 rcases Nat.eq_zero_or_pos m with h0 | h0
 ·subst h0
  obtain ⟨j, z, hi, hz, h2, h3, h4, h5⟩ := hT.get
  obtain ⟨hl, A, c, rfl, _, _, hc⟩ := hr
  have hn : news = [] := List.eq_nil_of_length_eq_zero (by simpa using hl)
  subst hn
  have hrun : (Builtin.append_ #[t, t] o.type #[.slice (some ⟨g, 0, none⟩) 0 0, .slice A 0 c]).run P w = .ok (.slice (some ⟨g, 0, none⟩) 0 0) w := by
   cases A with
   | none => simp [Builtin.append_, run_underlying hT.under, sizeOf, typeInfo, hi, Builtin.lenOf, Builtin.firstCells, storeCells]
   | some ad => simp [Builtin.append_, run_underlying hT.under, sizeOf, typeInfo, hi, Builtin.lenOf, Builtin.firstCells, storeCells, loadCells, loadCellsFrom]
  refine wpList_plain hg fun _ hK => ?_
  unfold Oper.wp execOp
  simp only [ho, resolve, invoke, builtin, Sem.run_bind, Sem.run_pure, Result.andThen_ok, List.map_toArray, List.map_cons, List.map_nil, hs, hx, hrun]
  refine hK _ _ (hk g 0 w ?_)
  rw [set_same hb]
  exact h
 ·refine st_app h i hg s x t ho hT _ 0 [] hs hb D y m news hx hr h1 (by unfold maxLen; omega) (by rw [Nat.zero_add]; exact hbytes) fun v' w' hS => ?_
  rw [Nat.zero_add, List.nil_append] at hS
  have hlt := (List.getElem?_eq_some_iff.1 hb).1
  obtain ⟨g', c', rfl, _, _⟩ := Ei (hS.own i (by rw [List.getElem?_set_self hlt])) h0
  exact hk _ _ _ hS
def OrdX (q : Nat) (gp : Nat) (av bv sv : Value) (xa xb : List Value) (n : Nat) (L : List (Nat × Nat)) (D : Nat -> Prop) (w : World) : Prop :=
 C9 w D q #[.int .i64 (n : Nat), .slice (some ⟨gp, 0, none⟩) L.length L.length, av, bv, sv] /\ Sl w D 2 (.slice (some ⟨gp, 0, none⟩) L.length L.length) L.length (Ad L) /\ (Sl w D 1 av n xa /\ C1 xa n (aboveM n L) D w) /\ (Sl w D 1 bv n xb /\ C1 xb n (belowM n L) D w)
theorem DB {q gp : Nat} {av bv sv : Value} {xa xb : List Value} {n : Nat} {L : List (Nat × Nat)} : AC (OrdX q gp av bv sv xa xb n L) := fun D D' w w' h a b c => by
 obtain ⟨h2, h3, ⟨h4, h5⟩, h6, h7⟩ := h
 exact ⟨AZ D D' w w' h2 a b c, Av (by decide) D D' w w' h3 a b c, ⟨Av (by decide) D D' w w' h4 a b c, Bf D D' w w' h5 a b c⟩, Av (by decide) D D' w w' h6 a b c, Bf D D' w w' h7 a b c⟩
def Fh (w : World) (D : Nat -> Prop) (p : Value) (n : Nat) (L : List (Nat × Nat)) : Prop :=
 ∃ (q gp : Nat) (av bv sv : Value) (xa xb : List Value), p = .pointer (some ⟨q, 0, none⟩) /\ OrdX q gp av bv sv xa xb n L D w
theorem OrdX.ord {q gp : Nat} {av bv sv : Value} {xa xb : List Value} {n : Nat} {L : List (Nat × Nat)} {D : Nat -> Prop} {w : World} (h : OrdX q gp av bv sv xa xb n L D w) : Fh w D (.pointer (some ⟨q, 0, none⟩)) n L := ⟨q, gp, av, bv, sv, xa, xb, rfl, h⟩
theorem Ck {p : Value} {n : Nat} {L : List (Nat × Nat)} : AC fun D w => Fh w D p n L := fun D D' w w' h a b c => by
 obtain ⟨q, gp, av, bv, sv, xa, xb, h1, h2⟩ := h
 exact ⟨q, gp, av, bv, sv, xa, xb, h1, DB D D' w w' h2 a b c⟩
theorem Ew.le {n m : Nat} {L : List (Nat × Nat)} (h : Ew n L) (hn : n <= m) : Ew m L := fun x hx => ⟨Nat.lt_of_lt_of_le (h x hx).1 hn, Nat.lt_of_lt_of_le (h x hx).2 hn⟩
theorem Bt (L : List (Nat × Nat)) : ∀ u ∈ Ad L, u.oneCell' = true := fun u hu => by
 simp only [Ad, List.mem_flatMap, List.mem_cons, List.not_mem_nil, or_false] at hu
 obtain ⟨x, _, rfl | rfl⟩ := hu <;> rfl
theorem cmp_mem {L0 M C : List (Nat × Nat)} (hp : M.Perm L0) (hC : Cmp M C L0.length) (x : Nat × Nat) : x ∈ C ↔ x ∈ L0 := by
 rw [hC.2, List.take_of_length_le (Nat.le_of_eq hp.length_eq), hp.mem_iff]
theorem inr_of {n : Nat} {L0 M C : List (Nat × Nat)} (h : Ew n L0) (hp : M.Perm L0) (hC : Cmp M C L0.length) : Ew n C := fun x hx => h x ((cmp_mem hp hC x).1 hx)
theorem acyc_mem {L M : List (Nat × Nat)} (h : ∀ x, x ∈ L ↔ x ∈ M) : Dt L ↔ Dt M := ⟨fun k => k.sub fun x hx => (h x).2 hx, fun k => k.sub fun x hx => (h x).1 hx⟩
theorem onew_any {w0 w : World} {F : List Ac} {K : (Nat -> Prop) -> World -> Prop} (n : Nat) (L0 : List (Nat × Nat)) (pv : Value) (hn : n <= 256) (hL : Ew n L0) (hl : L0.length <= 1000000) (hS : St w0 w F K)
  (kp : ∀ D w, K D w -> Sl w D 2 pv L0.length (Ad L0)) (kt : ∀ D w, K D w -> Bl w /\ D 0) :
  Calls Tryz.prog 130 #[.int .i64 (n : Nat), pv] w fun e w' =>
   (¬ Dt L0 /\ e = .returned (.tuple #[.pointer none, .int .i64 16]) /\ St w0 w' F K) \/
   ∃ (p : Value) (L : List (Nat × Nat)), e = .returned (.tuple #[p, .int .i64 0]) /\ Asc L /\ (∀ x, x ∈ L ↔ x ∈ L0) /\ Dt L /\ St w0 w' F fun D w => K D w /\ Fh w D p n L := by
 obtain ⟨A, c, rfl, _, _⟩ := (kp _ _ hS.ro).shape
 have HL := Lib.hid hL
 clear hL
 go_enter Tryz.func130, Tryz.ntmps130
 go_wp2_with (first | ((with_reducible refine qB ?_); refine qc ?_ ?_ <;> intro h_ <;> go_prune))
 go_loopw [18] (fun i wr => ∃ j : Nat, j <= L0.length /\ i = .int .i64 j /\ St w0 wr F K) (fun i _ => L0.length - (intOf i).toNat)
 case atStart => exact ⟨0, by omega, rfl, hS⟩
 case round =>
  clear hS
  obtain ⟨j, hj, rfl, hS⟩ := hrel
  by_cases hlj : j < L0.length
  ·obtain ⟨f1, f2⟩ := Bj L0 j hlj
   have hm := HL.out (L0.getD j (0, 0)) (by rw [List.getD_eq_getElem?_getD, List.getElem?_eq_getElem hlj]; exact List.getElem_mem hlj)
   generalize L0.getD j (0, 0) = x at *
   obtain ⟨xa, xb⟩ := x
   dsimp only at f1 f2 hm
   obtain ⟨ha, hxb⟩ := hm
   go_wp2_with (first
    | ((with_reducible refine qB ?_); refine qc ?_ ?_ <;> intro h_ <;> go_prune)
    | ((with_reducible refine qI ?_); refine qj hS Tryz.underlying25 ?_; intro b_ j_ hc0_ hc1_)
    | ((with_reducible refine qA 7 ?_); refine AO hS rfl _ rfl (by kernel_rfl) ?_; clear hS; intro g4 w_ hS; (try simp only [Act.put, Act.eval, zz, Value.cells] at hS))
    | ((with_reducible refine qM ?_); (first | refine qS hS ?_ | refine qT hS ?_); clear hS; intro w_ hS; (try simp only [Act.put, Act.eval, zz, Value.cells] at hS))
    | ((with_reducible refine qK ?_); refine qC hS ?_))
   exact ⟨⟨j + 1, hlj, by go_num, hS.sub (List.sublist_cons_self _ _)⟩, by simp [intOf]; omega⟩
  ·obtain rfl : j = L0.length := by omega
   obtain ⟨DD, hDD, hK0⟩ := hS.dom
   have KS := hS.stable
   go_wp2_with (first
    | ((with_reducible refine qB ?_); refine qc ?_ ?_ <;> intro h_ <;> go_prune)
    | ((with_reducible show wpList _ _ _ (⟨_, .buildSlice _ 0 _, _, _, _, _⟩ :: _) _ _); refine I8 hS rfl _ _ rfl Tryz.underlying25 (by kernel_rfl) 2 ?_; clear hS; intro ge w_ hS)
    | ((with_reducible refine qA 40 ?_); refine st_appf hS 0 rfl _ _ _ rfl C7 _ rfl rfl _ _ _ _ rfl (kp _ _ hS.ro) (Bt L0) (by omega) (by omega) ?_; clear hS; intro g cap w_ hS)
    | (go_at_call 178; refine (sortp_any 0 g L0.length cap L0 (HL.out.le hn) rfl (by omega) hS rfl).mono ?_; rintro e w_ ⟨M, rfl, hMp, hMs, hS⟩; replace hMp := Lib.hid hMp; replace hMs := Lib.hid hMs)
    | (go_at_call 181; refine (compactp_any g L0.length cap M hMp.out.length_eq hl hMs.out hS).mono ?_; rintro e w_ ⟨C, rfl, hC, hCl, hS⟩; obtain ⟨hc2, hm2⟩ := own_cap (hS.own 0 rfl); replace hC := Lib.hid hC; replace hS := hS.freeze 0 (by decide) rfl)
    | (go_at_call 180; refine (clip_any (some ⟨g, 0, none⟩) C.length cap hc2 hm2 _).mono ?_; rintro e w_ ⟨rfl, rfl⟩)
    | ((with_reducible refine qA 48 ?_); refine Aw hS rfl _ _ rfl (.agg #[.int .i64 (n : Nat), .slice (some ⟨g, 0, none⟩) C.length C.length, .slice none 0 0, .slice none 0 0, .slice none 0 0]) _ rfl rfl ?_; clear hS; intro q w_ hS; (try simp only [Act.put, Act.eval, zz, Value.cells] at hS))
    | (go_at_call 182; refine (osort_any q n C (.slice (some ⟨g, 0, none⟩) C.length C.length) hn (inr_of HL.out hMp.out hC.out) (by omega) hS (fun D w h => sl_clip h.2)).mono ?_; rintro e w_ ⟨b, S, sv, rfl, hb1, hb2, hS⟩; cases b <;> (replace hb1 := Lib.hid hb1; replace hb2 := Lib.hid hb2))
    | (go_at_call 183; refine (orelate_any q n C S (.slice (some ⟨g, 0, none⟩) C.length C.length) sv hn (inr_of HL.out hMp.out hC.out) (by omega) (hb1.out (by simp)).2.1 (hb1.out (by simp)).2.2.1 (hb1.out (by simp)).2.2.2 hS (fun D w h => sl_clip h.2) (fun D w h => kt D w h.1)).mono ?_; rintro e w_ ⟨av, bv, xa, xb, rfl, hS⟩))
   ·go_ret2
    refine .inl ⟨fun h => hb2.out (by simp) ((acyc_mem (cmp_mem hMp.out hC.out)).2 h), rfl, ?_⟩
    exact (hS.sub (.cons _ (.cons _ (List.Sublist.refl _)))).mono KS fun D w h => h.1
   ·go_ret2
    refine .inr ⟨_, C, rfl, hC.out.1, cmp_mem hMp.out hC.out, (hb1.out (by simp)).1, ?_⟩
    have hS1 := hS.sealB 0 (by simp) rfl
    exact hS1.mono (KS.and Ck) fun D w h => ⟨h.1.1.1, q, _, av, bv, sv, xa, xb, rfl, h.2, sl_clip h.1.1.2, h.1.2.1, h.1.2.2⟩
end
section
open Go.RowKit
attribute [local go_sem ↓] Go.wp_at_zero Go.wp_at_succ
set_option maxRecDepth 20000
set_option exponentiation.threshold 5000
theorem G1 {w0 : World} {D : Nat -> Prop} {p : Value} {n : Nat} {L : List (Nat × Nat)} (h : Fh w0 D p n L) (a : Int) : Calls Tryz.prog 184 #[p, .int .i64 a] w0 (AF (fun x _ => x = .bool (decide (0 <= a /\ a < n))) w0) := by
 obtain ⟨q, gp, av, bv, sv, xa, xb, rfl, hb, _⟩ := h
 obtain ⟨K, k0, hS⟩ : ∃ K : (Nat -> Prop) -> World -> Prop, (∀ D w, K D w -> w.cell? ⟨q, 0, none⟩ = some (.int .i64 (n : Nat))) /\ St w0 w0 [] K := ⟨_, fun _ _ h => C9.cell h 0 rfl, St.start AZ hb⟩
 clear hb
 by_cases h1 : 0 <= a
 ·by_cases h2 : a < n
  ·have HR := Lib.hid (show decide (0 <= a /\ a < (n : Int)) = true by simp [h1, h2])
   generalize decide (0 <= a /\ a < (n : Int)) = R at *
   go_enter Tryz.func184, Tryz.ntmps184
   go_wp2_with (first | ((with_reducible refine qB ?_); refine qc ?_ ?_ <;> intro h_ <;> go_prune) | ((with_reducible refine qK ?_); refine CO hS rfl _ _ rfl _ rfl _ k0 (by kernel_rfl) ?_))
   go_ret
   exact AF.mk (congrArg Value.bool HR.out.symm) hS.below
  ·have HR := Lib.hid (show decide (0 <= a /\ a < (n : Int)) = false by simp [h2])
   generalize decide (0 <= a /\ a < (n : Int)) = R at *
   go_enter Tryz.func184, Tryz.ntmps184
   go_wp2_with (first | ((with_reducible refine qB ?_); refine qc ?_ ?_ <;> intro h_ <;> go_prune) | ((with_reducible refine qK ?_); refine CO hS rfl _ _ rfl _ rfl _ k0 (by kernel_rfl) ?_))
   go_ret
   exact AF.mk (congrArg Value.bool HR.out.symm) hS.below
 ·have HR := Lib.hid (show decide (0 <= a /\ a < (n : Int)) = false by simp [h1])
  generalize decide (0 <= a /\ a < (n : Int)) = R at *
  go_enter Tryz.func184, Tryz.ntmps184
  go_wp2_with (first | ((with_reducible refine qB ?_); refine qc ?_ ?_ <;> intro h_ <;> go_prune) | ((with_reducible refine qK ?_); refine CO hS rfl _ _ rfl _ rfl _ k0 (by kernel_rfl) ?_))
  go_ret
  exact AF.mk (congrArg Value.bool HR.out.symm) hS.below
theorem pclone_any {w0 : World} {D : Nat -> Prop} {pv : Value} {L : List (Nat × Nat)} (h : Sl w0 D 2 pv L.length (Ad L)) (hl : L.length <= 1000000) : Calls Tryz.prog 195 #[pv] w0 fun e w' => ∃ v, e = .returned v /\ St w0 w' [.own v 107 2 L.length (Ad L)] fun _ _ => True := by
 obtain ⟨A, c, rfl, hc1, hc2⟩ := h.shape
 obtain ⟨K, kp, hS⟩ : ∃ K : (Nat -> Prop) -> World -> Prop, (∀ D w, K D w -> Sl w D 2 (.slice A L.length c) L.length (Ad L)) /\ St w0 w0 [] K := ⟨_, fun _ _ h => h, St.start (Av (by decide)) h⟩
 clear h
 cases A with
 | none =>
  have h0 : L.length = 0 := by
   obtain ⟨_, A, c2, h2, _, _, h5⟩ := kp _ _ hS.ro
   rcases Nat.eq_zero_or_pos L.length with h | h
   ·exact h
   ·obtain ⟨b, o, h6, _⟩ := h5 h
    injection h2 with h2; rw [<- h2] at h6; cases h6
  have hL : L = [] := List.length_eq_zero_iff.1 h0
  subst hL
  go_enter Tryz.func195, Tryz.ntmps195
  go_wp2_with (first
   | ((with_reducible refine qB ?_); refine qc ?_ ?_ <;> intro h_ <;> go_prune)
   | ((with_reducible refine qA 4 ?_); refine BigFrame.wpList_want rfl fun _ hK => AE (vx := .slice none _ c) (vy := .slice none 0 0) (v := .bool true) rfl rfl rfl rfl (Lib.run_eql_slice_nil _ _ _ _ _ _ _ _ Tryz.underlying25) (hK _ _ ?_)))
  go_ret
  exact ⟨_, rfl, ((hS.nil 107 2)).mono (AC.pure True) fun _ _ _ => trivial⟩
 | some ad =>
  go_enter Tryz.func195, Tryz.ntmps195
  go_wp2_with (first
   | ((with_reducible refine qA 4 ?_); refine BigFrame.wpList_want rfl fun _ hK => AE (vx := .slice (some ad) L.length c) (vy := .slice none 0 0) (v := .bool false) rfl rfl rfl rfl (Lib.run_eql_slice_nil _ _ _ _ _ _ _ _ Tryz.underlying25) (hK _ _ ?_))
   | ((with_reducible show wpList _ _ _ (⟨_, .buildSlice _ 0 _, _, _, _, _⟩ :: _) _ _); refine I8 hS rfl _ _ rfl Tryz.underlying25 (by kernel_rfl) 2 ?_; clear hS; intro ge w_ hS)
   | ((with_reducible refine qA 7 ?_); refine st_appf hS 0 rfl _ _ _ rfl C7 _ rfl rfl _ _ _ _ rfl (kp _ _ hS.ro) (Bt L) (by omega) (by omega) ?_; clear hS; intro g cap w_ hS))
  go_ret
  exact ⟨_, rfl, hS.mono (AC.pure True) fun _ _ _ => trivial⟩
theorem Ix {w0 : World} {D : Nat -> Prop} {p : Value} {n : Nat} {L : List (Nat × Nat)} (h : Fh w0 D p n L) (hl : L.length <= 1000000) : Calls Tryz.prog 153 #[p] w0 fun e w' => ∃ v, e = .returned v /\ St w0 w' [.own v 107 2 L.length (Ad L)] fun _ _ => True := by
 obtain ⟨q, gp, av, bv, sv, xa, xb, rfl, hb, hp, _⟩ := h
 have k0 := Lib.hid (hb.cell 1 (x := .slice (some ⟨gp, 0, none⟩) L.length L.length) rfl)
 have HC := Lib.hid (pclone_any hp hl)
 clear hb hp
 go_enter Tryz.func153, Tryz.ntmps153
 go_wp2_with (first
  | ((with_reducible refine qB ?_); refine qc ?_ ?_ <;> intro h_ <;> go_prune)
  | ((with_reducible refine qK ?_); refine BigFrame.wpList_want rfl fun _ hK => Az rfl rfl (by kernel_rfl) k0.out (hK _ _ ?_))
  | (go_at_call 195; refine HC.out.mono ?_; rintro e w_ ⟨v, rfl, hS⟩))
 go_ret
 exact ⟨v, rfl, hS⟩
theorem rng1 {w : World} {g i : Nat} {u : Value} (h : w.cell? ⟨g, i + 0, none⟩ = some u) : w.rangeAt g i [u] := fun j v hj => by
 match j, hj with
 | 0, hj => simp at hj; subst hj; exact h
 | j + 1, hj => simp at hj
theorem oabove_any {w0 : World} {D : Nat -> Prop} {p : Value} {n : Nat} {L : List (Nat × Nat)} (h : Fh w0 D p n L) (hL : Ew n L) (a : Int) : Calls Tryz.prog 144 #[p, .int .i64 a] w0 (AF (fun x w => ∃ N, Aa w D x N /\ ∀ i : Nat, N.testBit i = true ↔ ∃ b : Nat, a = (b : Int) /\ TC L i b) w0) := by
 obtain ⟨q, gp, av, bv, sv, xa, xb, rfl, h⟩ := h
 have HA := Lib.hid h.2.2.1.2
 obtain ⟨A, c, rfl, _, _⟩ := h.2.2.1.1.shape
 obtain ⟨K, ko, hS⟩ : ∃ K : (Nat -> Prop) -> World -> Prop, (∀ D w, K D w -> OrdX q gp (.slice A n c) bv sv xa xb n L D w) /\ St w0 w0 [] K := ⟨_, fun _ _ h => h, St.start DB h⟩
 clear h
 by_cases hin : 0 <= a /\ a < (n : Int)
 ·obtain ⟨k, rfl⟩ : ∃ k : Nat, a = (k : Int) := ⟨a.toNat, by omega⟩
  have hk : k < n := by omega
  obtain ⟨u, hu1, hu2⟩ := HA.out k hk
  obtain ⟨A3, c3, l3, he, _⟩ := hu2.parts
  obtain rfl : u = .slice A3 l3.length c3 := by injection he with he; simpa using he
  clear he
  have HU := Lib.hid hu2
  have HD := Lib.hid (decide_eq_true hin)
  clear hu2 hin
  go_enter Tryz.func144, Tryz.ntmps144
  go_wp2_with (first
   | ((with_reducible refine qA 4 ?_); refine AO hS rfl _ rfl (by kernel_rfl) ?_; clear hS; intro g w_ hS; (try simp only [Act.put, Act.eval, zz, Value.cells] at hS))
   | (go_at_call 184; refine (G1 (ko _ _ hS.ro).ord _).mono ?_; rw [HD.out]; rintro r_ w_ ⟨_, rfl, rfl, hb_⟩; replace hS := hS.ext hb_; clear hb_)
   | ((with_reducible refine qA 13 ?_); refine CO hS rfl _ _ rfl _ rfl _ (fun D w h => (ko D w h).1.cell 2 rfl) (by kernel_rfl) ?_)
   | ((with_reducible refine qA 15 ?_); refine FG rfl _ _ _ rfl _ rfl rfl (ko _ _ hS.ro).2.2.1.1 Tryz.underlying220 (by kernel_rfl) hk ?_; intro b_ j_ _ _ hc_)
   | ((with_reducible refine qA 16 ?_); refine BigFrame.wpList_want rfl fun _ hK => AU (cs := [.slice A3 l3.length c3]) rfl rfl (rng1 (hc_ 0 _ (by simpa using hu1))) Tryz.underlying39 rfl (by kernel_rfl) (hK _ _ ?_))
   | ((with_reducible refine qM ?_); (first | refine qS hS ?_ | refine qT hS ?_); clear hS; intro w_ hS; (try simp only [Act.put, Act.eval, zz, Value.cells] at hS)))
  refine Ba Tryz.results144 rfl (hS.box 0 rfl) Tryz.underlying39 rfl (by kernel_rfl) rfl ?_
  refine AF.mk ⟨_, HU.out.ext hS.below, fun i => (EB hL).trans ⟨fun h => ⟨k, rfl, h⟩, fun ⟨b, e, h⟩ => ?_⟩⟩ hS.below
  obtain rfl : k = b := by omega
  exact h
 ·have HD := Lib.hid (decide_eq_false hin)
  go_enter Tryz.func144, Tryz.ntmps144
  go_wp2_with (first
   | ((with_reducible refine qA 4 ?_); refine AO hS rfl _ rfl (by kernel_rfl) ?_; clear hS; intro g w_ hS; (try simp only [Act.put, Act.eval, zz, Value.cells] at hS))
   | (go_at_call 184; refine (G1 (ko _ _ hS.ro).ord _).mono ?_; rw [HD.out]; rintro r_ w_ ⟨_, rfl, rfl, hb_⟩; replace hS := hS.ext hb_; clear hb_)
   | ((with_reducible show wpList _ _ _ (⟨_, .build _ _, _, _, _, _⟩ :: _) _ _); refine Ax rfl _ _ rfl #[.slice none 0 0] (by kernel_rfl) ?_)
   | ((with_reducible refine qM ?_); (first | refine qS hS ?_ | refine qT hS ?_); clear hS; intro w_ hS; (try simp only [Act.put, Act.eval, zz, Value.cells] at hS)))
  refine Ba Tryz.results144 rfl (hS.box 0 rfl) Tryz.underlying39 rfl (by kernel_rfl) rfl ?_
  refine AF.mk ⟨0, Aa.empty, fun i => ⟨fun h => by simp at h, fun ⟨b, e, h⟩ => ?_⟩⟩ hS.below
  have := (h.lt hL).2
  omega
theorem obelow_any {w0 : World} {D : Nat -> Prop} {p : Value} {n : Nat} {L : List (Nat × Nat)} (h : Fh w0 D p n L) (hL : Ew n L) (a : Int) : Calls Tryz.prog 152 #[p, .int .i64 a] w0 (AF (fun x w => ∃ N, Aa w D x N /\ ∀ i : Nat, N.testBit i = true ↔ ∃ b : Nat, a = (b : Int) /\ TC L b i) w0) := by
 obtain ⟨q, gp, av, bv, sv, xa, xb, rfl, h⟩ := h
 have HA := Lib.hid h.2.2.2.2
 obtain ⟨A, c, rfl, _, _⟩ := h.2.2.2.1.shape
 obtain ⟨K, ko, hS⟩ : ∃ K : (Nat -> Prop) -> World -> Prop, (∀ D w, K D w -> OrdX q gp av (.slice A n c) sv xa xb n L D w) /\ St w0 w0 [] K := ⟨_, fun _ _ h => h, St.start DB h⟩
 clear h
 by_cases hin : 0 <= a /\ a < (n : Int)
 ·obtain ⟨k, rfl⟩ : ∃ k : Nat, a = (k : Int) := ⟨a.toNat, by omega⟩
  have hk : k < n := by omega
  obtain ⟨u, hu1, hu2⟩ := HA.out k hk
  obtain ⟨A3, c3, l3, he, _⟩ := hu2.parts
  obtain rfl : u = .slice A3 l3.length c3 := by injection he with he; simpa using he
  clear he
  have HU := Lib.hid hu2
  have HD := Lib.hid (decide_eq_true hin)
  clear hu2 hin
  go_enter Tryz.func152, Tryz.ntmps152
  go_wp2_with (first
   | ((with_reducible refine qA 4 ?_); refine AO hS rfl _ rfl (by kernel_rfl) ?_; clear hS; intro g w_ hS; (try simp only [Act.put, Act.eval, zz, Value.cells] at hS))
   | (go_at_call 184; refine (G1 (ko _ _ hS.ro).ord _).mono ?_; rw [HD.out]; rintro r_ w_ ⟨_, rfl, rfl, hb_⟩; replace hS := hS.ext hb_; clear hb_)
   | ((with_reducible refine qA 13 ?_); refine CO hS rfl _ _ rfl _ rfl _ (fun D w h => (ko D w h).1.cell 3 rfl) (by kernel_rfl) ?_)
   | ((with_reducible refine qA 15 ?_); refine FG rfl _ _ _ rfl _ rfl rfl (ko _ _ hS.ro).2.2.2.1 Tryz.underlying220 (by kernel_rfl) hk ?_; intro b_ j_ _ _ hc_)
   | ((with_reducible refine qA 16 ?_); refine BigFrame.wpList_want rfl fun _ hK => AU (cs := [.slice A3 l3.length c3]) rfl rfl (rng1 (hc_ 0 _ (by simpa using hu1))) Tryz.underlying39 rfl (by kernel_rfl) (hK _ _ ?_))
   | ((with_reducible refine qM ?_); (first | refine qS hS ?_ | refine qT hS ?_); clear hS; intro w_ hS; (try simp only [Act.put, Act.eval, zz, Value.cells] at hS)))
  refine Ba Tryz.results152 rfl (hS.box 0 rfl) Tryz.underlying39 rfl (by kernel_rfl) rfl ?_
  refine AF.mk ⟨_, HU.out.ext hS.below, fun i => (tb_below hL).trans ⟨fun h => ⟨k, rfl, h⟩, fun ⟨b, e, h⟩ => ?_⟩⟩ hS.below
  obtain rfl : k = b := by omega
  exact h
 ·have HD := Lib.hid (decide_eq_false hin)
  go_enter Tryz.func152, Tryz.ntmps152
  go_wp2_with (first
   | ((with_reducible refine qA 4 ?_); refine AO hS rfl _ rfl (by kernel_rfl) ?_; clear hS; intro g w_ hS; (try simp only [Act.put, Act.eval, zz, Value.cells] at hS))
   | (go_at_call 184; refine (G1 (ko _ _ hS.ro).ord _).mono ?_; rw [HD.out]; rintro r_ w_ ⟨_, rfl, rfl, hb_⟩; replace hS := hS.ext hb_; clear hb_)
   | ((with_reducible show wpList _ _ _ (⟨_, .build _ _, _, _, _, _⟩ :: _) _ _); refine Ax rfl _ _ rfl #[.slice none 0 0] (by kernel_rfl) ?_)
   | ((with_reducible refine qM ?_); (first | refine qS hS ?_ | refine qT hS ?_); clear hS; intro w_ hS; (try simp only [Act.put, Act.eval, zz, Value.cells] at hS)))
  refine Ba Tryz.results152 rfl (hS.box 0 rfl) Tryz.underlying39 rfl (by kernel_rfl) rfl ?_
  refine AF.mk ⟨0, Aa.empty, fun i => ⟨fun h => by simp at h, fun ⟨b, e, h⟩ => ?_⟩⟩ hS.below
  have := (h.lt hL).1
  omega
def encP (x : Nat × Nat) : List Value := [.int .i64 (x.1 : Nat), .int .i64 (x.2 : Nat)]
theorem eqlP : EqlAt Tryz.prog 107 (fun x => .agg (encP x).toArray) (fun x y : Nat × Nat => decide (x = y)) := ⟨fun x y w => G9 w x y, GuardAt.agg _ (by kernel_rfl)⟩
theorem cellsP {w : World} {D : Nat -> Prop} {g c : Nat} {L : List (Nat × Nat)} (h : Sl w D 2 (.slice (some ⟨g, 0, none⟩) L.length c) L.length (Ad L)) : ∀ j, j < L.length -> ∀ i v, (encP L[j]!)[i]? = some v -> w.cell? ⟨g, 0 + j * 2 + i, none⟩ = some v := fun j hj i v hv => by
 obtain ⟨_, A, c2, h2, _, _, h5⟩ := h
 injection h2 with h2
 obtain ⟨b, o, h6, _, _, h8⟩ := h5 (by omega)
 rw [<- h2] at h6
 injection h6 with h6; injection h6 with h6 h7
 subst h6; subst h7
 have h3 := Bj L j hj
 have h4 : L.getD j (0, 0) = L[j]! := by rw [getElem!_pos L j hj, List.getD_eq_getElem?_getD, List.getElem?_eq_getElem hj]; rfl
 rw [h4] at h3
 rw [Nat.add_assoc]
 generalize L[j]! = y at *
 match i, hv with
 | 0, hv => simp [encP] at hv; subst hv; exact h8 _ _ h3.1
 | 1, hv => simp [encP] at hv; subst hv; exact h8 _ _ h3.2
 | i + 2, hv => simp [encP] at hv
theorem pcontains_any {w : World} {D : Nat -> Prop} {g c : Nat} {L : List (Nat × Nat)} (hl : L.length <= 1000000) (h : Sl w D 2 (.slice (some ⟨g, 0, none⟩) L.length c) L.length (Ad L)) (x : Nat × Nat) :
  Calls Tryz.prog 185 #[.slice (some ⟨g, 0, none⟩) L.length c, .agg #[.int .i64 (x.1 : Nat), .int .i64 (x.2 : Nat)]] w (AF (fun r _ => r = .bool (decide (x ∈ L))) w) := by
 have := AnyQ.slices_Contains Tryz.containsPairs 2 Tryz.isAgg107 Tryz.sizeOf107 encP (fun _ => rfl) _ eqlP g 0 L.length c L x w (Nat.le_refl _) (by omega) (cellsP h)
 refine this.mono ?_
 rintro e w' ⟨rfl, hb⟩
 refine AF.mk ?_ hb
 rw [List.take_length]
 congr 1
 rw [Bool.eq_iff_iff, List.any_eq_true, decide_eq_true_eq]
 exact ⟨fun ⟨y, h1, h2⟩ => by rw [decide_eq_true_eq] at h2; rw [h2]; exact h1, fun h => ⟨x, h, by simp⟩⟩
end
section
open Go.RowKit
attribute [local go_sem ↓] Go.wp_at_zero Go.wp_at_succ
set_option maxRecDepth 20000
structure AG where
 r : List Value
 b : List (Nat × Value)
def Fj (g : AG) (s : Nat) (v : Value) : Prop := ∃ pre post, g.r = pre ++ v :: post /\ post.length = s
structure AD where
 e : TypeId
 size : Nat
 top : Nat
 cnt : Nat -> Nat
 cont : Nat -> List Value
 src : Nat -> Value -> Ac
def AG.main (d : AD) (g : AG) : List Ac := match g.r with
 | [] => []
 | v :: r => [.own v d.e d.size (d.cnt r.length) (d.cont r.length)]
def AG.F (d : AD) (g : AG) : List Ac := (g.b.map fun x => d.src x.1 x.2) ++ g.main d
def AJ (w0 : World) (F : List Ac) (K : (Nat -> Prop) -> World -> Prop) (d : AD) (p : World × AG) : Prop := St w0 p.1 (p.2.F d ++ F) K /\ p.2.r.length <= d.top
def AR (w0 : World) (F : List Ac) (K : (Nat -> Prop) -> World -> Prop) (d : AD) (p p' : World × AG) : Prop := (AJ w0 F K d p -> AJ w0 F K d p') /\ (∃ s, p'.2.r = s ++ p.2.r) /\ ∀ x, x ∈ p.2.b -> x ∈ p'.2.b
def Fg (kd : List (Nat × (Bool × Nat))) (i : Nat) : Option (Bool × Nat) := (kd.find? fun x => x.1 == i).map (·.2)
def AN (kd : List (Nat × (Bool × Nat))) (i : Nat) (p : World × AG) : Prop := match Fg kd i with
 | some (true, s) => p.2.r.length <= s
 | some (false, j) => ∀ v, (j, v) ∉ p.2.b
 | none => True
theorem akind_inj {kd : List (Nat × (Bool × Nat))} (h : (kd.map (·.2)).Nodup) {i j : Nat} {x : Bool × Nat} (hi : Fg kd i = some x) (hj : Fg kd j = some x) : i = j := by
 unfold Fg at hi hj
 obtain ⟨y, hy, rfl⟩ := Option.map_eq_some_iff.1 hi
 obtain ⟨z, hz, he⟩ := Option.map_eq_some_iff.1 hj
 have e1 : y.1 = i := by simpa using List.find?_some hy
 have e2 : z.1 = j := by simpa using List.find?_some hz
 have m1 := List.mem_of_find?_eq_some hy
 have m2 := List.mem_of_find?_eq_some hz
 obtain ⟨a, ha, ea⟩ := List.getElem_of_mem m1
 obtain ⟨b, hb, eb⟩ := List.getElem_of_mem m2
 have hp := List.pairwise_iff_getElem.1 h
 have Dq : a = b := by
  rcases Nat.lt_trichotomy a b with q | q | q
  ·have := hp a b (by simpa using ha) (by simpa using hb) q
   simp [ea, eb, he] at this
  ·exact q
  ·have := hp b a (by simpa using hb) (by simpa using ha) q
   simp [ea, eb, he] at this
 subst Dq
 rw [ea] at eb
 rw [<- e1, <- e2, eb]
theorem J2 (kd : List (Nat × (Bool × Nat))) (w : World) (i : Nat) : AN kd i (w, ⟨[], []⟩) := by
 unfold AN
 split
 ·exact Nat.zero_le _
 ·simp
 ·trivial
theorem Fj.mono {g g' : AG} {s : Nat} {v : Value} (h : Fj g s v) (k : ∃ t, g'.r = t ++ g.r) : Fj g' s v := by
 obtain ⟨pre, post, h1, h2⟩ := h
 obtain ⟨t, k⟩ := k
 exact ⟨t ++ pre, post, by rw [k, h1, List.append_assoc], h2⟩
theorem Fj.head {g : AG} {s : Nat} {v : Value} (h : Fj g s v) (hl : g.r.length <= s + 1) : ∃ post, g.r = v :: post /\ post.length = s := by
 obtain ⟨pre, post, h1, h2⟩ := h
 rw [h1, List.length_append, List.length_cons] at hl
 have : pre = [] := List.eq_nil_of_length_eq_zero (by omega)
 subst this
 exact ⟨post, h1, h2⟩
theorem St.permC {w0 w : World} {F F' : List Ac} {K : (Nat -> Prop) -> World -> Prop} (h : St w0 w F K) (hp : F.Perm F') : St w0 w F' K := by
 refine ⟨h.below, fun f hf => h.holds f (hp.mem_iff.2 hf), hp.pairwise h.apart fun {a b} q k hk e => q k e hk, h.stable, h.stable _ _ _ _ h.ro (Nat.le_refl _) (fun _ _ _ _ h => h) fun k h1 _ _ f hf => h1 f (hp.mem_iff.2 hf)⟩
section
variable {w0 : World} {F : List Ac} {K : (Nat -> Prop) -> World -> Prop} {d : AD} {p p' : World × AG} {kd : List (Nat × (Bool × Nat))} {i : Nat}
theorem AR.refl (p : World × AG) : AR w0 F K d p p := ⟨id, ⟨[], rfl⟩, fun _ h => h⟩
theorem AR.trans (a b c : World × AG) (h : AR w0 F K d a b) (k : AR w0 F K d b c) : AR w0 F K d a c := by
 obtain ⟨s, hs⟩ := h.2.1
 obtain ⟨t, ht⟩ := k.2.1
 exact ⟨fun y => k.1 (h.1 y), ⟨t ++ s, by rw [ht, hs, List.append_assoc]⟩, fun x hx => k.2.2 x (h.2.2 x hx)⟩
theorem AR.src (hnd : (kd.map (·.2)).Nodup) {j : Nat} (hki : Fg kd i = some (false, j)) {w' : World} {v : Value} (hb : Below p.1.heap.size p.1 w') (hf : (d.src j v).holds p.1.heap.size w') : AR w0 F K d p (w', ⟨p.2.r, (j, v) :: p.2.b⟩) /\ ∀ t, t ≠ i -> AN kd t p -> AN kd t (w', ⟨p.2.r, (j, v) :: p.2.b⟩) := by
 refine ⟨⟨fun h => ⟨h.1.new hb _ hf, h.2⟩, ⟨[], rfl⟩, fun _ h => List.mem_cons_of_mem _ h⟩, fun t ht h => ?_⟩
 unfold AN at *
 split
 ·rename_i s hs
  rw [hs] at h
  exact h
 ·rename_i q hq
  rw [hq] at h
  intro v' hv'
  rcases List.mem_cons.1 hv' with e | e
  ·injection e with e _
   subst e
   exact ht (akind_inj hnd hq hki)
  ·exact h v' e
 ·trivial
theorem AR.main (hnd : (kd.map (·.2)).Nodup) {s : Nat} (hki : Fg kd i = some (true, s)) {w' : World} {v : Value} (hl : p.2.r.length = s) (hJ : AJ w0 F K d p -> AJ w0 F K d (w', ⟨v :: p.2.r, p.2.b⟩)) : AR w0 F K d p (w', ⟨v :: p.2.r, p.2.b⟩) /\ ∀ t, t ≠ i -> AN kd t p -> AN kd t (w', ⟨v :: p.2.r, p.2.b⟩) := by
 refine ⟨⟨hJ, ⟨[v], rfl⟩, fun _ h => h⟩, fun t ht h => ?_⟩
 unfold AN at *
 split
 ·rename_i q hq
  rw [hq] at h
  have : q ≠ s := fun e => ht (akind_inj hnd (e ▸ hq) hki)
  show p.2.r.length + 1 <= q
  have : p.2.r.length <= q := h
  omega
 ·rename_i q hq
  rw [hq] at h
  exact h
 ·trivial
theorem AJ.start {w' : World} {v : Value} (h : AJ w0 F K d p) (h0 : p.2.r = []) (hb : Below p.1.heap.size p.1 w') (hf : (Ac.own v d.e d.size (d.cnt 0) (d.cont 0)).holds p.1.heap.size w') (ht : 0 < d.top) : AJ w0 F K d (w', ⟨v :: p.2.r, p.2.b⟩) := by
 obtain ⟨w, r, b⟩ := p
 dsimp only at h0
 subst h0
 refine ⟨(h.1.new hb _ hf).permC ?_, ht⟩
 simp only [AG.F, AG.main, List.append_nil, List.append_assoc]
 exact List.perm_middle.symm
theorem AJ.row {v : Value} {post : List Value} (h : AJ w0 F K d p) (hr : p.2.r = v :: post) : p.1.ownsRow w0.heap.size d.e d.size v (d.cnt post.length) (d.cont post.length) /\ w0.heap.size <= p.1.heap.size := by
 obtain ⟨w, r, b⟩ := p
 dsimp only at hr
 subst hr
 exact ⟨h.1.holds (.own v d.e d.size (d.cnt post.length) (d.cont post.length)) (by simp [AG.F, AG.main]), h.1.size⟩
theorem AJ.next {w' : World} {v u : Value} {post : List Value} (h : AJ w0 F K d p) (hr : p.2.r = v :: post) (ho : w'.ownsRow w0.heap.size d.e d.size u (d.cnt (post.length + 1)) (d.cont (post.length + 1))) (hg : p.1.grownBy w' v.ownBlock) (hb : ∀ k, u.ownBlock = some k -> v.ownBlock = some k \/ p.1.heap.size <= k) (ht : post.length + 1 < d.top) : AJ w0 F K d (w', ⟨u :: p.2.r, p.2.b⟩) := by
 obtain ⟨w, r, b⟩ := p
 dsimp only at hr
 subst hr
 refine ⟨?_, by simp; omega⟩
 have h1 := h.1
 simp only [AG.F, AG.main, List.append_assoc] at h1
 have h2 := h1.upd b.length (f := .own v d.e d.size (d.cnt post.length) (d.cont post.length)) (by simp) (.own u d.e d.size (d.cnt (post.length + 1)) (d.cont (post.length + 1))) hg ho hb
 rw [show ((b.map fun x => d.src x.1 x.2) ++ ([Ac.own v d.e d.size (d.cnt post.length) (d.cont post.length)] ++ F)).set b.length (.own u d.e d.size (d.cnt (post.length + 1)) (d.cont (post.length + 1))) = (b.map fun x => d.src x.1 x.2) ++ ([Ac.own u d.e d.size (d.cnt (post.length + 1)) (d.cont (post.length + 1))] ++ F) from by
  rw [List.set_append_right _ _ (by simp)]; simp] at h2
 simpa [AG.F, AG.main, List.append_assoc] using h2
theorem AJ.side {j : Nat} {v : Value} (h : AJ w0 F K d p) (hm : (j, v) ∈ p.2.b) : (d.src j v).holds w0.heap.size p.1 :=
 h.1.holds _ (List.mem_append_left _ (List.mem_append_left _ (List.mem_map.2 ⟨_, hm, rfl⟩)))
theorem AJ.last {v : Value} {s : Nat} (h : AJ w0 F K d p) (hs : Fj p.2 s v) (ht : d.top = s + 1) : St w0 p.1 (.own v d.e d.size (d.cnt s) (d.cont s) :: F) K := by
 obtain ⟨post, h1, h2⟩ := hs.head (by have := h.2; omega)
 obtain ⟨w, r, b⟩ := p
 dsimp only at h1
 subst h1
 subst h2
 have h3 := h.1
 simp only [AG.F, AG.main, List.append_assoc] at h3
 exact h3.sub (List.sublist_append_right _ _)
variable {P : Program} {o : Oper} {a : Act} {Kt : Act -> World -> Prop} {Q : Exit -> Act -> World -> Prop}
theorem EM (hnd : (kd.map (·.2)).Nodup) (hki : Fg kd i = some (true, 0)) {t : TypeId} (ho : o.op = .buildSlice t 0 #[]) (ht : P.underlying t = some (.slice d.e)) (hb : BO P d.e 0 [] = some #[]) (hN : AN kd i p) (h0 : d.cnt 0 = 0) (h1 : d.cont 0 = []) (hlt : 0 < d.top)
  (hK : ∀ v w', Fj w'.2 0 v -> AR w0 F K d p w' /\ (∀ j, j ≠ i -> AN kd j p -> AN kd j w') -> Kt (a.put o.dst v) w'.1) : o.wp P a p.1 Kt Q := by
 have hl : p.2.r.length <= 0 := by unfold AN at hN; rw [hki] at hN; exact hN
 have hr : p.2.r = [] := List.eq_nil_of_length_eq_zero (by omega)
 refine AX (ps := []) (cells := #[]) ho ht (by simp) hb fun w' hx hB => ?_
 refine hK _ (w', ⟨_ :: p.2.r, p.2.b⟩) ⟨[], p.2.r, rfl, by rw [hr]; rfl⟩ (AR.main hnd hki (by omega) fun hJ => hJ.start hr hB ?_ hlt)
 rw [h0, h1]
 exact ⟨by simp, .inr ⟨p.1.heap.size, 0, #[], rfl, Nat.le_refl _, hx, Nat.le_refl _, by simp [maxLen], by simp, by simp⟩⟩
theorem Fq (hnd : (kd.map (·.2)).Nodup) {j : Nat} (hki : Fg kd i = some (false, j)) {t e : TypeId} {len : Nat} {parts : Array (Nat × Operand)} (ho : o.op = .buildSlice t len parts) (ht : P.underlying t = some (.slice e)) {ps : List (Nat × Value)} {cells : Array Value} (hp : (parts.map fun (i, x) => (i, a.eval x)).toList = ps) (hb : BO P e len ps = some cells) {size : Nat} (hsrc : ∀ v, d.src j v = .own v e size len cells.toList) (hs : cells.size = len * size) (hm : len <= 1000000000000)
  (hK : ∀ v w', (j, v) ∈ w'.2.b -> AR w0 F K d p w' /\ (∀ j, j ≠ i -> AN kd j p -> AN kd j w') -> Kt (a.put o.dst v) w'.1) : o.wp P a p.1 Kt Q := by
 refine AX (ps := ps) (cells := cells) ho ht hp hb fun w' hx hB => ?_
 refine hK _ (w', ⟨p.2.r, (j, _) :: p.2.b⟩) (List.mem_cons_self ..) (AR.src hnd hki hB ?_)
 rw [hsrc]
 exact ⟨by simpa using hs, .inr ⟨p.1.heap.size, len, cells, rfl, Nat.le_refl _, hx, Nat.le_refl _, by unfold maxLen; omega, hs, by rw [<- hs, show cells.size = cells.toList.length by simp, List.take_length]⟩⟩
theorem BB (hnd : (kd.map (·.2)).Nodup) {s : Nat} (hki : Fg kd i = some (true, s + 1)) {s1 x1 : Operand} {t : TypeId} {bytes m : Nat} {news : List Value} {D : Nat -> Prop} (ho : o.op = .call { callee := .builtin .append, args := #[s1, x1], argTypes := #[t, t] }) (hT : Bd P t d.e d.size bytes) (hN : AN kd i p) (hs : Fj p.2 s (a.eval s1)) (hJ : AJ w0 F K d p)
  (hr : Sl p.1 D d.size (a.eval x1) m news) (h1 : ∀ u ∈ news, u.oneCell' = true) (hc : d.cont (s + 1) = d.cont s ++ news) (hcn : d.cnt (s + 1) = d.cnt s + m) (hb : d.cnt s + m <= 1000000000000) (hby : (d.cnt s + m) * bytes <= 140737488355328) (hlt : s + 1 < d.top)
  (hK : ∀ v w', Fj w'.2 (s + 1) v -> AR w0 F K d p w' /\ (∀ j, j ≠ i -> AN kd j p -> AN kd j w') -> Kt (a.put o.dst v) w'.1) : o.wp P a p.1 Kt Q := by
 have hl : p.2.r.length <= s + 1 := by unfold AN at hN; rw [hki] at hN; exact hN
 obtain ⟨post, e1, e2⟩ := hs.head hl
 obtain ⟨hown, hsz⟩ := hJ.row e1
 rw [e2] at hown
 refine CF ho hT rfl hown rfl hr h1 hb hby hsz fun v' w' a1 a2 a3 => ?_
 refine hK v' (w', ⟨v' :: p.2.r, p.2.b⟩) ⟨[], p.2.r, rfl, by rw [e1, List.length_cons, e2]⟩ (AR.main hnd hki (by rw [e1, List.length_cons, e2]) fun hJ => hJ.next e1 ?_ a2 a3 (by omega))
 rw [e2, hc, hcn]
 exact a1
end
section
variable {P : Program} {o : Oper} {a : Act} {w : World} {Kt : Act -> World -> Prop} {Q : Exit -> Act -> World -> Prop}
theorem opw_slh {t e : TypeId} {x h : Operand} {A : Option Addr} {n c k : Nat} (ho : o.op = .slice t x none (some h) none) (ht : P.underlying t = some (.slice e)) (hi : ∃ size, (P.info? e).map (·.size) = some size) (hx : a.eval x = .slice A n c) (hh : a.eval h = .int .i64 (k : Nat)) (hk : k <= c)
  (hK : Kt (a.put o.dst (.slice A k c)) w) : o.wp P a w Kt Q := by
 obtain ⟨size, hi⟩ := hi
 refine Cx (v := .slice A k c) ?_ hK
 cases hz : P.info? e with
 | none => rw [hz] at hi; cases hi
 | some z =>
  have hke : ((k : Nat) : Int) <= c := by omega
  have : A.map (·.add (0 * z.size)) = A := by cases A <;> simp [Addr.add]
  simp [execOp, ho, hx, hh, Instr.sliceAt, Instr.slice, run_underlying ht, Instr.sliceBounds, run_sliceBound, sizeOf, typeInfo, hz, hke, Addr.add]
theorem opw_sll {t e : TypeId} {x h : Operand} {A : Option Addr} {n c k size : Nat} (ho : o.op = .slice t x (some h) none none) (ht : P.underlying t = some (.slice e)) (hi : (P.info? e).map (·.size) = some size) (hx : a.eval x = .slice A n c) (hh : a.eval h = .int .i64 (k : Nat)) (hk : k <= n) (hn : n <= c)
  (hK : Kt (a.put o.dst (sliced A k n c size)) w) : o.wp P a w Kt Q := by
 refine Cx (v := sliced A k n c size) ?_ hK
 cases hz : P.info? e with
 | none => rw [hz] at hi; cases hi
 | some z =>
  have hs : z.size = size := by simpa [hz] using hi
  have hke : ((k : Nat) : Int) <= n := by omega
  simp [execOp, ho, hx, hh, Instr.sliceAt, Instr.slice, run_underlying ht, Instr.sliceBounds, run_sliceBound, sizeOf, typeInfo, hz, hke, sliced, hs, hn]
end
section
variable {P : Program} {w : World} {t : TypeId} {k : IntKind} {m n : Int} {b : Bool}
theorem EV (h : decide (m = n) = b) : (binOp .eql t (.int k m) (.int k n)).run P w = .ok (.bool b) w := by
 rw [binOp_eql, <- h]; simp [BEq.beq]
theorem run_gtB (h : decide (m > n) = b) : (binOp .gtr t (.int k m) (.int k n)).run P w = .ok (.bool b) w := by
 rw [binOp_gtr, <- h]; simp
end
theorem Ia {w : World} {D : Nat -> Prop} {size n c k : Nat} {A : Option Addr} {xs : List Value} (h : Sl w D size (.slice A n c) n xs) (hk : k <= n) : Sl w D size (.slice A k c) k (xs.take (k * size)) := by
 obtain ⟨h1, A2, c2, h2, h3, h4, h5⟩ := h
 injection h2 with h2 h6 h7
 subst h2 h7
 have hle : k * size <= n * size := Nat.mul_le_mul_right _ hk
 refine ⟨by rw [List.length_take]; omega, A, c, rfl, by omega, h4, fun hp => ?_⟩
 obtain ⟨b, o, q1, q2, q3, q4⟩ := h5 (by omega)
 refine ⟨b, o, q1, q2, q3, fun j x hj => q4 j x ?_⟩
 rw [List.getElem?_take] at hj
 split at hj
 ·exact hj
 ·cases hj
theorem Ib {w : World} {D : Nat -> Prop} {size n c k : Nat} {A : Option Addr} {xs : List Value} (h : Sl w D size (.slice A n c) n xs) (hk : k <= n) : Sl w D size (sliced A k n c size) (n - k) (xs.drop (k * size)) := by
 obtain ⟨h1, A2, c2, h2, h3, h4, h5⟩ := h
 injection h2 with h2 h6 h7
 subst h2 h7
 have hle : k * size <= n * size := Nat.mul_le_mul_right _ hk
 refine ⟨by rw [List.length_drop, h1, Nat.sub_mul], _, c - k, rfl, by omega, by omega, fun hp => ?_⟩
 obtain ⟨b, o, rfl, q2, q3, q4⟩ := h5 (by omega)
 rw [if_neg (by omega)]
 refine ⟨b, o + k * size, ?_, q2, q3, fun j x hj => ?_⟩
 ·simp only [Option.map_some, Addr.add]
  split
  ·rename_i h0; rw [h0]; rfl
  ·rfl
 ·rw [List.getElem?_drop] at hj
  have := q4 _ x hj
  rw [<- Nat.add_assoc] at this
  exact this
end
section
open Go.RowKit
attribute [local go_sem ↓] Go.wp_at_zero Go.wp_at_succ
set_option maxRecDepth 20000
set_option exponentiation.threshold 5000
structure WG where
 a : Option Value
 b : Option Value
 c : Option Value
 d : Option Value
 e : Bool
def ownP (L : List (Nat × Nat)) : Option Value -> List Ac
 | some v => [.own v 107 2 L.length (Ad L)]
 | none => []
def WG.F (L : List (Nat × Nat)) (x : Nat × Nat) (g : WG) : List Ac := match g.c with
 | some v => [.own v 107 2 (L.length + 1) (Ad (L ++ [x]))]
 | none => ownP L g.a ++ ownP [x] g.b
def NewP (w0 : World) (F : List Ac) (K : (Nat -> Prop) -> World -> Prop) (n : Nat) (M : List (Nat × Nat)) (r : Value) (w : World) : Prop :=
 (¬ Dt M /\ r = .tuple #[.pointer none, .int .i64 16] /\ St w0 w F K) \/
 ∃ (p : Value) (L : List (Nat × Nat)), r = .tuple #[p, .int .i64 0] /\ Asc L /\ (∀ x, x ∈ L ↔ x ∈ M) /\ Dt L /\ St w0 w F fun D w => K D w /\ Fh w D p n L
theorem NewP.shape {w0 w : World} {F : List Ac} {K : (Nat -> Prop) -> World -> Prop} {n : Nat} {M : List (Nat × Nat)} {r : Value} (h : NewP w0 F K n M r w) : ∃ (p : Value) (e : Int), r = .tuple #[p, .int .i64 e] := by
 rcases h with ⟨_, rfl, _⟩ | ⟨p, L, rfl, _⟩ <;> exact ⟨_, _, rfl⟩
theorem NewP.mono {w0 w : World} {F : List Ac} {K K' : (Nat -> Prop) -> World -> Prop} {n : Nat} {M : List (Nat × Nat)} {r : Value} (h : NewP w0 F K n M r w) (hs : AC K') (hk : ∀ D w, K D w -> K' D w) : NewP w0 F K' n M r w := by
 rcases h with ⟨h1, h2, h3⟩ | ⟨p, L, h1, h2, h3, h4, h5⟩
 ·exact .inl ⟨h1, h2, h3.mono hs hk⟩
 ·exact .inr ⟨p, L, h1, h2, h3, h4, h5.mono (hs.and Ck) fun D w h => ⟨hk D w h.1, h.2⟩⟩
theorem onew_own {w0 w : World} {F : List Ac} {K : (Nat -> Prop) -> World -> Prop} (n : Nat) (L0 : List (Nat × Nat)) (pv : Value) (hn : n <= 256) (hL : Ew n L0) (hl : L0.length <= 1000000) (hS : St w0 w (.own pv 107 2 L0.length (Ad L0) :: F) K)
  (kt : ∀ D w, K D w -> Bl w /\ D 0) :
  Calls Tryz.prog 130 #[.int .i64 (n : Nat), pv] w fun e w' => ∃ v, e = .returned v /\ NewP w0 F K n L0 v w' := by
 have KS := hS.stable
 refine (onew_any n L0 pv hn hL hl (hS.freeze 0 (by decide) rfl) (fun D w h => h.2) fun D w h => kt D w h.1).mono ?_
 rintro e w' (⟨h1, rfl, h2⟩ | ⟨p, L, rfl, h1, h2, h3, h4⟩)
 ·exact ⟨_, rfl, .inl ⟨h1, rfl, h2.mono KS fun _ _ h => h.1⟩⟩
 ·exact ⟨_, rfl, .inr ⟨p, L, rfl, h1, h2, h3, h4.mono (KS.and Ck) fun _ _ h => ⟨h.1.1, h.2⟩⟩⟩
section
variable {w0 : World} {F : List Ac} {K : (Nat -> Prop) -> World -> Prop} {n : Nat} {L : List (Nat × Nat)} {x : Nat × Nat} {p p' : World × WG}
def WJ (w0 : World) (F : List Ac) (K : (Nat -> Prop) -> World -> Prop) (n : Nat) (L : List (Nat × Nat)) (x : Nat × Nat) (p : World × WG) : Prop := match p.2.d with
 | none => St w0 p.1 (p.2.F L x ++ F) K
 | some r => NewP w0 F K n (L ++ [x]) r p.1
def WR (w0 : World) (F : List Ac) (K : (Nat -> Prop) -> World -> Prop) (n : Nat) (L : List (Nat × Nat)) (x : Nat × Nat) (p p' : World × WG) : Prop :=
 (WJ w0 F K n L x p -> WJ w0 F K n L x p') /\ (∀ v, p.2.a = some v -> p'.2.a = some v) /\ (∀ v, p.2.b = some v -> p'.2.b = some v) /\ (∀ v, p.2.c = some v -> p'.2.c = some v) /\ (∀ v, p.2.d = some v -> p'.2.d = some v) /\ (p.2.e = true -> p'.2.e = true)
theorem WR.refl (p : World × WG) : WR w0 F K n L x p p := ⟨id, fun _ h => h, fun _ h => h, fun _ h => h, fun _ h => h, id⟩
theorem WR.trans (a b c : World × WG) (h : WR w0 F K n L x a b) (k : WR w0 F K n L x b c) : WR w0 F K n L x a c :=
 ⟨fun y => k.1 (h.1 y), fun g y => k.2.1 g (h.2.1 g y), fun g y => k.2.2.1 g (h.2.2.1 g y), fun g y => k.2.2.2.1 g (h.2.2.2.1 g y), fun g y => k.2.2.2.2.1 g (h.2.2.2.2.1 g y), fun y => k.2.2.2.2.2 (h.2.2.2.2.2 y)⟩
theorem WJ.st (h : WJ w0 F K n L x p) (hd : p.2.d = none) : St w0 p.1 (p.2.F L x ++ F) K := by unfold WJ at h; rw [hd] at h; exact h
theorem WJ.mk {w : World} {g : WG} (hd : g.d = none) (h : St w0 w (g.F L x ++ F) K) : WJ w0 F K n L x (w, g) := by unfold WJ; dsimp only; rw [hd]; exact h
theorem WJ.mkA {w' : World} {v : Value} (h : WJ w0 F K n L x p) (hn : p.2.a = none /\ p.2.c = none /\ p.2.d = none) (hs : St p.1 w' [.own v 107 2 L.length (Ad L)] fun _ _ => True) : WJ w0 F K n L x (w', { p.2 with a := some v }) := by
 obtain ⟨w, a, b, c, d, e⟩ := p
 obtain ⟨rfl, rfl, rfl⟩ := hn
 exact WJ.mk rfl (St.new (h.st rfl) hs.below (.own v 107 2 L.length (Ad L)) (hs.own 0 rfl))
theorem WJ.mkB {w' : World} (h : WJ w0 F K n L x p) (hn : p.2.b = none /\ p.2.c = none /\ p.2.d = none) (hb : Below p.1.heap.size p.1 w') (hx : BS w' p.1.heap.size 107 #[.int .i64 (x.1 : Nat), .int .i64 (x.2 : Nat)]) : WJ w0 F K n L x (w', { p.2 with b := some (.slice (some ⟨p.1.heap.size, 0, none⟩) 1 1) }) := by
 obtain ⟨w, a, b, c, d, e⟩ := p
 obtain ⟨rfl, rfl, rfl⟩ := hn
 have h1 := St.new (h.st rfl) hb (.own (.slice (some ⟨w.heap.size, 0, none⟩) 1 1) 107 2 [x].length (Ad [x])) ⟨rfl, .inr ⟨w.heap.size, 1, _, rfl, Nat.le_refl _, hx, Nat.le_refl _, by simp [maxLen], rfl, rfl⟩⟩
 refine WJ.mk rfl ?_
 cases a with
 | none => exact h1
 | some v => exact h1.swap
theorem WJ.mkC {w' : World} {u v l : Value} (h : WJ w0 F K n L x p) (hn : p.2.c = none /\ p.2.d = none) (ha : p.2.a = some v) (hb : p.2.b = some l) (h1 : w'.ownsRow w0.heap.size 107 2 u (L.length + 1) (Ad L ++ Ad [x])) (h2 : p.1.grownBy w' v.ownBlock) (h3 : ∀ k, u.ownBlock = some k -> v.ownBlock = some k \/ p.1.heap.size <= k) : WJ w0 F K n L x (w', { p.2 with c := some u }) := by
 obtain ⟨w, a, b, c, d, e⟩ := p
 obtain ⟨rfl, rfl⟩ := hn
 dsimp only at ha hb
 subst ha hb
 refine WJ.mk rfl ?_
 rw [<- CI] at h1
 exact ((h.st rfl).upd 0 rfl (.own u 107 2 (L.length + 1) (Ad (L ++ [x]))) h2 h1 h3).sub (.cons_cons _ (.cons _ (List.Sublist.refl _)))
theorem WJ.own (h : WJ w0 F K n L x p) (hn : p.2.c = none /\ p.2.d = none) {v l : Value} (ha : p.2.a = some v) (hb : p.2.b = some l) : p.1.ownsRow w0.heap.size 107 2 v L.length (Ad L) /\ p.1.ownsRow w0.heap.size 107 2 l 1 (Ad [x]) /\ w0.heap.size <= p.1.heap.size := by
 obtain ⟨w, a, b, c, d, e⟩ := p
 obtain ⟨rfl, rfl⟩ := hn
 dsimp only at ha hb
 subst ha hb
 exact ⟨(h.st rfl).own 0 rfl, (h.st rfl).own 1 rfl, (h.st rfl).size⟩
theorem WJ.last (h : WJ w0 F K n L x p) (hd : p.2.d = none) {v : Value} (hc : p.2.c = some v) : St w0 p.1 (.own v 107 2 (L ++ [x]).length (Ad (L ++ [x])) :: F) K := by
 obtain ⟨w, a, b, c, d, e⟩ := p
 dsimp only at hd hc
 subst hd hc
 have := h.st rfl
 rw [List.length_append]
 exact this
end
theorem owith_any {w0 w : World} {F : List Ac} {K : (Nat -> Prop) -> World -> Prop} (p : Value) (n : Nat) (L : List (Nat × Nat)) (a b : Nat) (hn : n <= 256) (hL : Ew n L) (hl : L.length <= 900000) (ha : a < n) (hb : b < n) (hS : St w0 w F K)
  (ko : ∀ D w, K D w -> Fh w D p n L) (kt : ∀ D w, K D w -> Bl w /\ D 0) :
  Calls Tryz.prog 132 #[p, .int .i64 (a : Nat), .int .i64 (b : Nat)] w fun e w' =>
   ((a, b) ∈ L /\ e = .returned (.tuple #[.pointer none, .int .i64 5]) /\ St w0 w' F K) \/ (a, b) ∉ L /\ ∃ v, e = .returned v /\ NewP w0 F K n (L ++ [(a, b)]) v w' := by
 have KS := hS.stable
 obtain ⟨q, gp, av, bv, sv, xa, xb, rfl, hX⟩ := ko _ _ hS.ro
 have hS := hS.add DB hX fun b h _ => h
 clear hX
 have HIN := Lib.hid (fun (c : Int) (w : World) (hc : 0 <= c /\ c < (n : Int)) (h : OrdX q gp av bv sv xa xb n L (DW F) w) => show Calls Tryz.prog 184 #[.pointer (some ⟨q, 0, none⟩), .int .i64 c] w (AF (fun x _ => x = .bool true) w) from by rw [<- decide_eq_true hc]; exact G1 h.ord _)
 have HCN := Lib.hid (fun (w : World) (h : OrdX q gp av bv sv xa xb n L (DW F) w) => show Calls Tryz.prog 185 #[.slice (some ⟨gp, 0, none⟩) L.length L.length, .agg #[.int .i64 (a : Nat), .int .i64 (b : Nat)]] w (AF (fun r _ => r = .bool (decide ((a, b) ∈ L))) w) from pcontains_any (by omega) h.2.1 (a, b))
 have HL := Lib.hid hL
 clear hL
 go_enter Tryz.func132, Tryz.ntmps132
 go_wp2_with (first
  | ((with_reducible refine qB ?_); refine qc ?_ ?_ <;> intro h_ <;> go_prune)
  | (go_at_call 184; refine (HIN.out _ _ (by omega) hS.ro.2).mono ?_; rintro r_ w_ ⟨_, rfl, rfl, hb_⟩; replace hS := hS.ext hb_; clear hb_)
  | ((with_reducible refine qA 23 ?_); refine CO hS rfl _ _ rfl _ rfl _ (fun D w h => h.2.1.cell 1 rfl) (by kernel_rfl) ?_)
  | (go_at_call 185; refine (HCN.out _ hS.ro.2).mono ?_; rintro r_ w_ ⟨_, rfl, rfl, hb_⟩; replace hS := hS.ext hb_; clear hb_; by_cases hx : (a, b) ∈ L <;> (first | rw [decide_eq_true hx] | rw [decide_eq_false hx])))
 ·go_ret2
  exact .inl ⟨hx, rfl, hS.mono KS fun _ _ h => h.1⟩
 ·obtain ⟨KX, k1, k2, hS⟩ : ∃ KX : (Nat -> Prop) -> World -> Prop, (∀ D w, KX D w -> K D w) /\ (∀ D w, KX D w -> OrdX q gp av bv sv xa xb n L D w) /\ St w0 w_ F KX := ⟨_, fun _ _ h => h.1, fun _ _ h => h.2, hS⟩
  have hJ0 : WJ w0 F KX n L (a, b) (w_.drew, ⟨none, none, none, none, false⟩) := WJ.mk rfl hS.drew
  have hRr := @WR.refl w0 F KX n L (a, b)
  have hRt := @WR.trans w0 F KX n L (a, b)
  have hLx : Hid (Ew n (L ++ [(a, b)])) := Lib.hid fun y hy => by
   rcases List.mem_append.1 hy with h | h
   ·exact HL.out y h
   ·rw [List.mem_singleton] at h; subst h; exact ⟨ha, hb⟩
  replace ha := Lib.hid ha
  replace hb := Lib.hid hb
  clear HIN HCN
  refine Ex (WR w0 F KX n L (a, b)) (fun i p => match i with | 3 => p.2.e = false /\ p.2.d = none | 5 => p.2.a = none /\ p.2.c = none /\ p.2.d = none | 9 => p.2.b = none /\ p.2.c = none /\ p.2.d = none | 10 => p.2.c = none /\ p.2.d = none | 11 => p.2.d = none | _ => True) (⟨none, none, none, none, false⟩) hRr hRt [.q q 0, .q q 0, .q q 0, .s (fun v w => w.2.e = true /\ v = .int .i64 ((n : Nat) : Int)) fun v w w' h hb => ⟨hb.2.2.2.2.2 h.1, h.2⟩, .q q 0, .s (fun v w => w.2.a = some v) fun v w w' h hb => hb.2.1 _ h, .n ((a : Nat) : Int), .n ((b : Nat) : Int), .i (.agg #[.int .i64 ((a : Nat) : Int), .int .i64 ((b : Nat) : Int)]), .s (fun v w => w.2.b = some v) fun v w w' h hb => hb.2.2.1 _ h, .s (fun v w => w.2.c = some v) fun v w w' h hb => hb.2.2.2.1 _ h, .s (fun v w => w.2.d = some v /\ ∃ (p : Value) (e : Int), v = .tuple #[p, .int .i64 e]) fun v w w' h hb => ⟨hb.2.2.2.2.1 _ h.1, h.2⟩, .s (fun v w => ∃ (p : Value) (e : Int), w.2.d = some (.tuple #[p, .int .i64 e]) /\ v = p) fun v w w' h hb => by obtain ⟨p, e, h1, h2⟩ := h; exact ⟨p, e, hb.2.2.2.2.1 _ h1, h2⟩, .s (fun v w => ∃ (p : Value) (e : Int), w.2.d = some (.tuple #[p, .int .i64 e]) /\ v = .int .i64 e) fun v w w' h hb => by obtain ⟨p, e, h1, h2⟩ := h; exact ⟨p, e, hb.2.2.2.2.1 _ h1, h2⟩, .s (fun v w => ∃ (p : Value) (e : Int), w.2.d = some (.tuple #[p, .int .i64 e]) /\ v = p) fun v w w' h hb => by obtain ⟨p, e, h1, h2⟩ := h; exact ⟨p, e, hb.2.2.2.2.1 _ h1, h2⟩, .s (fun v w => ∃ (p : Value) (e : Int), w.2.d = some (.tuple #[p, .int .i64 e]) /\ v = .int .i64 e) fun v w w' h hb => by obtain ⟨p, e, h1, h2⟩ := h; exact ⟨p, e, hb.2.2.2.2.1 _ h1, h2⟩] ?_ ⟨uM, uN, uF, ?_, uM, ?_, uM, uM, ?_, ?_, ?_, ?_, ?_, ?_, uA, uA, trivial⟩ ?_
  ·first | assumption | (intro i; (try dsimp only); split <;> first | trivial | assumption | (left; assumption))
  ·refine uG fun b__ w hW hN hE K hK => ?_
   have e30 := hE 30
   exact Az rfl e30 (by kernel_rfl) ((k2 _ _ ((hW.1 hJ0).st hN.2).ro).1.cell 0 rfl) (hK (.int .i64 (n : Nat)) (w.1, { w.2 with e := true }) ⟨rfl, rfl⟩ ⟨⟨fun hj => hj, (fun _ h => h), (fun _ h => h), (fun _ h => h), (fun _ h => h), (fun _ => rfl)⟩, fun j hj hn => by split <;> first | exact absurd rfl hj | exact hn | trivial⟩)
  ·refine uG fun b__ w hW hN hE K hK => ?_
   have e32 := hE 32
   exact Br rfl (by kernel_rfl) (by simp only [List.map_cons, List.map_nil, e32]) (Ix (k2 _ _ ((hW.1 hJ0).st hN.2.2).ro).ord (by omega)) fun e w' ⟨v, he, hs⟩ => ⟨v, he, hK v (w', { w.2 with a := some v }) rfl ⟨⟨fun hj => hj.mkA hN hs, (fun g h => by rw [hN.1] at h; cases h), (fun _ h => h), (fun _ h => h), (fun _ h => h), id⟩, fun j hj hn => by split <;> first | exact absurd rfl hj | exact hn | trivial⟩⟩
  ·refine uG fun b__ w hW hN hE K hK => ?_
   have e34 := hE 34
   have e35 := hE 35
   exact B9 rfl (ps := [(0, .int .i64 ((a : Nat) : Int)), (1, .int .i64 ((b : Nat) : Int))]) (cells := #[.int .i64 ((a : Nat) : Int), .int .i64 ((b : Nat) : Int)]) (by simp [e34, e35]) (by kernel_rfl) (hK _ _ rfl ⟨hRr _, fun _ _ h => h⟩)
  ·refine uG fun b__ w hW hN hE K hK => ?_
   have e36 := hE 36
   exact AX rfl Tryz.underlying25 (ps := [(0, .agg #[.int .i64 ((a : Nat) : Int), .int .i64 ((b : Nat) : Int)])]) (cells := #[.int .i64 ((a : Nat) : Int), .int .i64 ((b : Nat) : Int)]) (by simp [e36]) (by kernel_rfl) fun w' hbx hbel => hK _ (w', { w.2 with b := some (.slice (some ⟨w.1.heap.size, 0, none⟩) 1 1) }) rfl ⟨⟨fun hj => hj.mkB hN hbel hbx, (fun _ h => h), (fun g h => by rw [hN.1] at h; cases h), (fun _ h => h), (fun _ h => h), id⟩, fun j hj hn => by split <;> first | exact absurd rfl hj | exact hn | trivial⟩
  ·refine uG fun b__ w hW hN hE K hK => ?_
   have e33 := hE 33
   have e37 := hE 37
   obtain ⟨o1, o2, o3⟩ := (hW.1 hJ0).own hN e33 e37
   exact CF (n := L.length) (m := 1) rfl C7 rfl o1 rfl (Sl.of_own o2) (Bt _) (by omega) (by omega) o3 fun v' w' a1 a2 a3 => hK v' (w', { w.2 with c := some v' }) rfl ⟨⟨fun hj => hj.mkC hN e33 e37 a1 a2 a3, (fun _ h => h), (fun _ h => h), (fun g h => by rw [hN.1] at h; cases h), (fun _ h => h), id⟩, fun j hj hn => by split <;> first | exact absurd rfl hj | exact hn | exact absurd (hn.1.symm.trans e33) nofun | exact absurd (hn.1.symm.trans e37) nofun | trivial⟩
  ·refine uG fun b__ w hW hN hE K hK => ?_
   have e31 := hE 31
   have e38 := hE 38
   refine Br rfl (by kernel_rfl) (by simp only [List.map_cons, List.map_nil, e31.2]) (onew_own n (L ++ [(a, b)]) _ hn hLx.out (by simp; omega) ((hW.1 hJ0).last hN e38) (fun D w h => kt D w (k1 D w h))) fun e w' h => ?_
   obtain ⟨v, he, hP⟩ := h
   exact ⟨v, he, hK v (w', { w.2 with d := some v }) ⟨rfl, hP.shape⟩ ⟨⟨fun _ => hP, (fun _ h => h), (fun _ h => h), (fun _ h => h), (fun g h => by rw [hN] at h; cases h), id⟩, fun j hj hn => by split <;> first | exact absurd rfl hj | exact hn | exact absurd (hn.1.symm.trans e31.1) nofun | exact absurd (hn.2.1.symm.trans e38) nofun | exact absurd (hn.1.symm.trans e38) nofun | trivial⟩⟩
  ·refine uG fun b__ w hW hN hE K hK => ?_
   have e39 := hE 39
   obtain ⟨hd, p, e, hv⟩ := e39
   rw [hv] at hd
   exact CM rfl hv rfl (hK _ _ ⟨p, e, hd, rfl⟩ ⟨hRr _, fun _ _ h => h⟩)
  ·refine uG fun b__ w hW hN hE K hK => ?_
   have e39 := hE 39
   obtain ⟨hd, p, e, hv⟩ := e39
   rw [hv] at hd
   exact CM rfl hv rfl (hK _ _ ⟨p, e, hd, rfl⟩ ⟨hRr _, fun _ _ h => h⟩)
  ·intro vs wz hW hT
   obtain ⟨e28, e29, e30, e31, e32, e33, e34, e35, e36, e37, e38, e39, e40, e41, e6, e7, -⟩ := hT
   have bx : (fun _ : Nat => True) 0 := trivial
   simp only [Ak, Act.put, zz, ze]
   obtain ⟨r1, z1, hd1, e6⟩ := e6
   obtain ⟨r2, z2, hd2, e7⟩ := e7
   rw [hd1] at hd2
   obtain ⟨rfl, rfl⟩ : r1 = r2 /\ z1 = z2 := by simpa using hd2
   have hJ := hW.1 hJ0
   unfold WJ at hJ
   rw [hd1] at hJ
   have hP := hJ.mono KS k1
   rw [e6, e7]
   generalize wz.1 = wf at *
   clear hJ hJ0 hRr hRt hW hd1 hd2 e6 e7
   go_wp2_with fail
   go_ret2
   exact ⟨_, rfl, hP⟩
end
section
open Go.RowKit
attribute [local go_sem ↓] Go.wp_at_zero Go.wp_at_succ
set_option maxRecDepth 20000
set_option exponentiation.threshold 5000
structure DG where
 a : Option Value
 c : Option Value
 d : Option Value
 e : Bool
section
variable {w0 : World} {F : List Ac} {K : (Nat -> Prop) -> World -> Prop} {n : Nat} {L M : List (Nat × Nat)} {p p' : World × DG}
def DJ (w0 : World) (F : List Ac) (K : (Nat -> Prop) -> World -> Prop) (n : Nat) (L M : List (Nat × Nat)) (p : World × DG) : Prop := match p.2.d with
 | none => St w0 p.1 ((match p.2.c with | some v => [.own v 107 2 M.length (Ad M)] | none => ownP L p.2.a) ++ F) K
 | some r => NewP w0 F K n M r p.1
theorem DJ.st (h : DJ w0 F K n L M p) (hd : p.2.d = none) : St w0 p.1 ((match p.2.c with | some v => [.own v 107 2 M.length (Ad M)] | none => ownP L p.2.a) ++ F) K := by unfold DJ at h; rw [hd] at h; exact h
end
end
section
open Go.RowKit
attribute [local go_sem ↓] Go.wp_at_zero Go.wp_at_succ
set_option maxRecDepth 20000
set_option exponentiation.threshold 5000
theorem D6 (r : Int) (w : World) : Calls Tryz.prog 131 #[.int .i64 r] w (AF (fun x _ => x = .bool (decide (1 <= r /\ r <= 63))) w) := by
 by_cases h1 : 1 <= r
 ·by_cases h2 : r <= 63
  ·have HR := Lib.hid (show decide (1 <= r /\ r <= 63) = true by simp [h1, h2])
   generalize decide (1 <= r /\ r <= 63) = R at *
   go_enter Tryz.func131, Tryz.ntmps131
   go_wp2_with (first | ((with_reducible refine qB ?_); refine qc ?_ ?_ <;> intro h_ <;> go_prune))
   go_ret
   exact AF.mk (congrArg Value.bool HR.out.symm) (Below.refl _ _)
  ·have HR := Lib.hid (show decide (1 <= r /\ r <= 63) = false by simp [h2])
   generalize decide (1 <= r /\ r <= 63) = R at *
   go_enter Tryz.func131, Tryz.ntmps131
   go_wp2_with (first | ((with_reducible refine qB ?_); refine qc ?_ ?_ <;> intro h_ <;> go_prune))
   go_ret
   exact AF.mk (congrArg Value.bool HR.out.symm) (Below.refl _ _)
 ·have HR := Lib.hid (show decide (1 <= r /\ r <= 63) = false by simp [h1])
  generalize decide (1 <= r /\ r <= 63) = R at *
  go_enter Tryz.func131, Tryz.ntmps131
  go_wp2_with (first | ((with_reducible refine qB ?_); refine qc ?_ ?_ <;> intro h_ <;> go_prune))
  go_ret
  exact AF.mk (congrArg Value.bool HR.out.symm) (Below.refl _ _)
def EP (q : Nat) (o : Value) (L : List (Nat × Nat)) (D : Nat -> Prop) (w : World) : Prop := C9 w D q #[o] /\ Fh w D o 64 L
theorem Ct {q : Nat} {o : Value} {L : List (Nat × Nat)} : AC (EP q o L) := AZ.and Ck
def IsH (w : World) (D : Nat -> Prop) (p : Value) (L : List (Nat × Nat)) : Prop := ∃ (q : Nat) (o : Value), p = .pointer (some ⟨q, 0, none⟩) /\ EP q o L D w
theorem Dl {p : Value} {L : List (Nat × Nat)} : AC fun D w => IsH w D p L := fun D D' w w' h a b c => by
 obtain ⟨q, o, h1, h2⟩ := h
 exact ⟨q, o, h1, Ct D D' w w' h2 a b c⟩
structure Gm (L : List (Nat × Nat)) : Prop where
 asc : Asc L
 role : ∀ x ∈ L, (1 <= x.1 /\ x.1 < 64) /\ 1 <= x.2 /\ x.2 < 64
 acyc : Dt L
theorem Gm.inr {L : List (Nat × Nat)} (h : Gm L) : Ew 64 L := fun x hx => ⟨(h.role x hx).1.2, (h.role x hx).2.2⟩
theorem Gm.nil : Gm [] := ⟨.nil, by simp, fun a h => by obtain ⟨y, h, _⟩ := h.first; simp at h⟩
theorem hnew_any {w0 w : World} {F : List Ac} {K : (Nat -> Prop) -> World -> Prop} (hS : St w0 w F K) (kt : ∀ D w, K D w -> Bl w /\ D 0) :
  Calls Tryz.prog 59 #[] w fun e w' => ∃ p, e = .returned p /\ St w0 w' F fun D w => K D w /\ IsH w D p [] := by
 have KS := hS.stable
 have HN := Lib.hid (onew_any 64 [] (.slice none 0 0) (by omega) (by intro x hx; simp at hx) (by simp) hS (fun D w _ => ⟨rfl, none, 0, rfl, by simp, by simp, fun h => by simp at h⟩) kt)
 clear hS
 go_enter Tryz.func59, Tryz.ntmps59
 go_wp2_with (first
  | (go_at_call 130; refine HN.out.mono ?_; rintro e w_ (⟨h1, -, -⟩ | ⟨p, L, rfl, hA, hm, hc, hS⟩); · exact absurd Gm.nil.acyc h1
     obtain rfl : L = [] := by
       cases L with
       | nil => rfl
       | cons x r => exact absurd ((hm x).1 (by simp)) (by simp)
     clear hA hm hc
     obtain ⟨qo, _, _, _, _, _, _, rfl, -⟩ := hS.ro.2)
  | ((with_reducible refine qA 9 ?_); refine Aw hS rfl _ _ rfl (.agg #[.pointer (some ⟨qo, 0, none⟩)]) _ rfl rfl ?_; clear hS; intro q w_ hS; (try simp only [Act.put, Act.eval, zz, Value.cells] at hS)))
 go_ret
 exact ⟨_, rfl, (hS.sealB 0 (by simp) rfl).mono (KS.and Dl) fun D w h => ⟨h.1.1, q, _, rfl, h.2, h.1.2⟩⟩
theorem hlinks_any {w0 : World} {D : Nat -> Prop} {p : Value} {L : List (Nat × Nat)} (h : IsH w0 D p L) (hl : L.length <= 1000000) : Calls Tryz.prog 96 #[p] w0 fun e w' => ∃ v, e = .returned v /\ St w0 w' [.own v 107 2 L.length (Ad L)] fun _ _ => True := by
 obtain ⟨q, o, rfl, hb, ho⟩ := h
 have k0 := Lib.hid (hb.cell 0 (x := o) rfl)
 have HC := Lib.hid (Ix ho hl)
 clear hb ho
 go_enter Tryz.func96, Tryz.ntmps96
 go_wp2_with (first
  | ((with_reducible refine qB ?_); refine qc ?_ ?_ <;> intro h_ <;> go_prune)
  | ((with_reducible refine qK ?_); refine BigFrame.wpList_want rfl fun _ hK => Az rfl rfl (by kernel_rfl) k0.out (hK _ _ ?_))
  | (go_at_call 153; refine HC.out.mono ?_; rintro e w_ ⟨v, rfl, hS⟩))
 go_ret
 exact ⟨v, rfl, hS⟩
def LinkP (w0 : World) (F : List Ac) (K : (Nat -> Prop) -> World -> Prop) (L : List (Nat × Nat)) (a b : Int) (r : Value) (z : Int) (w : World) : Prop :=
 (¬ ((1 <= a /\ a <= 63) /\ (1 <= b /\ b <= 63) /\ a ≠ b) /\ r = .pointer none /\ z = 1 /\ St w0 w F K) \/
 ∃ x y : Nat, a = (x : Int) /\ b = (y : Int) /\ (1 <= x /\ x < 64) /\ (1 <= y /\ y < 64) /\ x ≠ y /\
  (((x, y) ∈ L /\ r = .pointer none /\ z = 5 /\ St w0 w F K) \/ ((x, y) ∉ L /\ ¬ Dt (L ++ [(x, y)]) /\ r = .pointer none /\ z = 16 /\ St w0 w F K) \/
   ((x, y) ∉ L /\ z = 0 /\ ∃ L' : List (Nat × Nat), Gm L' /\ (∀ u, u ∈ L' ↔ u ∈ L ++ [(x, y)]) /\ St w0 w F fun D w => K D w /\ IsH w D r L'))
theorem hlink_any {w0 w : World} {F : List Ac} {K : (Nat -> Prop) -> World -> Prop} (p : Value) (L : List (Nat × Nat)) (a b : Int) (hH : Gm L) (hl : L.length <= 900000) (hS : St w0 w F K)
  (ko : ∀ D w, K D w -> IsH w D p L) (kt : ∀ D w, K D w -> Bl w /\ D 0) :
  Calls Tryz.prog 60 #[p, .int .i64 a, .int .i64 b] w fun e w' => ∃ (r : Value) (z : Int), e = .returned (.tuple #[r, .int .i64 z]) /\ LinkP w0 F K L a b r z w' := by
 have KS := hS.stable
 obtain ⟨q, o, rfl, hX⟩ := ko _ _ hS.ro
 have hS := hS.add Ct hX fun b h _ => h
 clear hX
 have HH := Lib.hid hH
 clear hH
 by_cases hra : 1 <= a /\ a <= 63
 ·have HRA := Lib.hid (decide_eq_true hra)
  by_cases hrb : 1 <= b /\ b <= 63
  ·have HRB := Lib.hid (decide_eq_true hrb)
   by_cases hab : a = b
   ·subst hab
    have HNO : Hid (¬ ((1 <= a /\ a <= 63) /\ (1 <= a /\ a <= 63) /\ a ≠ a)) := Lib.hid fun h => h.2.2 rfl
    clear hra hrb
    go_enter Tryz.func60, Tryz.ntmps60
    go_wp2_with (first
     | ((with_reducible refine qB ?_); refine qc ?_ ?_ <;> intro h_ <;> go_prune)
     | (go_at_call 131; refine (D6 _ _).mono ?_; (first | rw [HRA.out] | rw [HRB.out]); rintro r_ w_ ⟨_, rfl, rfl, hb_⟩; replace hS := hS.ext hb_; clear hb_))
    go_ret2
    exact ⟨_, _, rfl, .inl ⟨HNO.out, rfl, rfl, hS.mono KS fun _ _ h => h.1⟩⟩
   ·obtain ⟨x, rfl⟩ : ∃ x : Nat, a = (x : Int) := ⟨a.toNat, by omega⟩
    obtain ⟨y, rfl⟩ : ∃ y : Nat, b = (y : Int) := ⟨b.toNat, by omega⟩
    have hx1 : Hid (1 <= x /\ x < 64) := Lib.hid (by omega)
    have hy1 : Hid (1 <= y /\ y < 64) := Lib.hid (by omega)
    have hxy : Hid (x ≠ y) := Lib.hid (by omega)
    clear hra hrb
    have HW := Lib.hid (fun (w : World) (h : St w0 w F fun D w => K D w /\ EP q o L D w) => owith_any o 64 L x y (by omega) HH.out.inr hl hx1.out.2 hy1.out.2 h (fun D w h => h.2.2) (fun D w h => kt D w h.1))
    go_enter Tryz.func60, Tryz.ntmps60
    go_wp2_with (first
     | ((with_reducible refine qB ?_); refine qc ?_ ?_ <;> intro h_ <;> go_prune)
     | (go_at_call 131; refine (D6 _ _).mono ?_; (first | rw [HRA.out] | rw [HRB.out]); rintro r_ w_ ⟨_, rfl, rfl, hb_⟩; replace hS := hS.ext hb_; clear hb_)
     | ((with_reducible refine qK ?_); refine CO hS rfl _ _ rfl _ rfl _ (fun D w h => h.2.1.cell 0 rfl) (by kernel_rfl) ?_)
     | (go_at_call 132; refine (HW.out _ hS).mono ?_; rintro e w_ (⟨hm, rfl, hS⟩ | ⟨hm, v, rfl, (⟨hc, rfl, hS⟩ | ⟨pp, L', rfl, hA, hmm, hc, hS⟩)⟩) <;> (try obtain ⟨qo, _, _, _, _, _, _, rfl, -⟩ := hS.ro.2))
     | ((with_reducible refine qA 42 ?_); refine Aw hS rfl _ _ rfl (.agg #[.pointer (some ⟨qo, 0, none⟩)]) _ rfl rfl ?_; clear hS; intro g w_ hS; (try simp only [Act.put, Act.eval, zz, Value.cells] at hS)))
    ·go_ret2
     exact ⟨_, _, rfl, .inr ⟨x, y, rfl, rfl, hx1.out, hy1.out, hxy.out, .inl ⟨hm, rfl, rfl, hS.mono KS fun _ _ h => h.1⟩⟩⟩
    ·go_ret2
     exact ⟨_, _, rfl, .inr ⟨x, y, rfl, rfl, hx1.out, hy1.out, hxy.out, .inr (.inl ⟨hm, hc, rfl, rfl, hS.mono KS fun _ _ h => h.1⟩)⟩⟩
    ·go_ret2
     refine ⟨_, _, rfl, .inr ⟨x, y, rfl, rfl, hx1.out, hy1.out, hxy.out, .inr (.inr ⟨hm, rfl, L', ⟨hA, fun u hu => ?_, hc⟩, hmm, (hS.sealB 0 (by simp) rfl).mono (KS.and Dl) fun D w h => ⟨h.1.1.1, g, _, rfl, h.2, h.1.2⟩⟩)⟩⟩
     rcases List.mem_append.1 ((hmm u).1 hu) with h | h
     ·exact HH.out.role u h
     ·rw [List.mem_singleton] at h; subst h; exact ⟨hx1.out, hy1.out⟩
  ·have HRB := Lib.hid (decide_eq_false hrb)
   have HNO : Hid (¬ ((1 <= a /\ a <= 63) /\ (1 <= b /\ b <= 63) /\ a ≠ b)) := Lib.hid fun h => hrb h.2.1
   clear hra hrb
   go_enter Tryz.func60, Tryz.ntmps60
   go_wp2_with (first
    | ((with_reducible refine qB ?_); refine qc ?_ ?_ <;> intro h_ <;> go_prune)
    | (go_at_call 131; refine (D6 _ _).mono ?_; (first | rw [HRA.out] | rw [HRB.out]); rintro r_ w_ ⟨_, rfl, rfl, hb_⟩; replace hS := hS.ext hb_; clear hb_))
   go_ret2
   exact ⟨_, _, rfl, .inl ⟨HNO.out, rfl, rfl, hS.mono KS fun _ _ h => h.1⟩⟩
 ·have HRA := Lib.hid (decide_eq_false hra)
  have HRB := HRA
  have HNO : Hid (¬ ((1 <= a /\ a <= 63) /\ (1 <= b /\ b <= 63) /\ a ≠ b)) := Lib.hid fun h => hra h.1
  clear hra
  go_enter Tryz.func60, Tryz.ntmps60
  go_wp2_with (first
   | ((with_reducible refine qB ?_); refine qc ?_ ?_ <;> intro h_ <;> go_prune)
   | (go_at_call 131; refine (D6 _ _).mono ?_; (first | rw [HRA.out] | rw [HRB.out]); rintro r_ w_ ⟨_, rfl, rfl, hb_⟩; replace hS := hS.ext hb_; clear hb_))
  go_ret2
  exact ⟨_, _, rfl, .inl ⟨HNO.out, rfl, rfl, hS.mono KS fun _ _ h => h.1⟩⟩
end
section
open Go.RowKit
attribute [local go_sem ↓] Go.wp_at_zero Go.wp_at_succ
set_option maxRecDepth 20000
set_option exponentiation.threshold 5000
noncomputable def senM (L : List (Nat × Nat)) (r : Nat) : Nat := aboveM 64 L r ||| 2 ^ r
theorem tb_sen {L : List (Nat × Nat)} (hL : Ew 64 L) {r j : Nat} : (senM L r).testBit j = true ↔ j = r \/ TC L j r := by
 unfold senM
 rw [Dz, EB hL, C2, Or.comm]
theorem withN_nat {N r : Nat} (h : r < 64) : C6 N (r : Int) = N ||| 2 ^ r := by
 unfold C6
 rw [if_pos (by omega), Int.toNat_natCast]
theorem free1 {w0 w : World} {g z : Nat} {t : TypeId} {cs : Array Value} {K : (Nat -> Prop) -> World -> Prop} (h : St w0 w [.box g t cs] K) (hz : z < w0.heap.size) : DW [.box g t cs] z := fun f hf e => by
 rw [List.mem_singleton] at hf
 subst hf
 have := Ac.ge (h.holds _ (List.mem_singleton.2 rfl)) e
 omega
theorem C3 {r : (Nat -> Prop) -> World -> Prop} (hr : AC r) (E : Nat -> Prop) : AC fun D w => r (fun z => D z /\ E z) w := fun D D' w w' h a b c =>
 hr _ _ w w' h a (fun p x hp => b p x hp.1) fun z hz h1 h2 => ⟨c z hz.1 h1 h2, hz.2⟩
theorem hjun_any {w0 : World} {D : Nat -> Prop} {p : Value} {L : List (Nat × Nat)} (h : IsH w0 D p L) (hH : Gm L) (r : Int) : Calls Tryz.prog 87 #[p, .int .i64 r] w0 (AF (fun x w => Aa w (fun z => D z \/ w0.heap.size <= z) x (if 1 <= r /\ r <= 63 then junM L r.toNat else 0)) w0) := by
 obtain ⟨q, o, rfl, hb, ho⟩ := h
 have HO := Lib.hid (Ck D (fun z => D z /\ z < w0.heap.size) w0 w0 ho (Nat.le_refl _) (fun _ _ _ _ h => h) fun b h1 h2 _ => ⟨h1, h2⟩)
 obtain ⟨K, k0, hS⟩ : ∃ K : (Nat -> Prop) -> World -> Prop, (∀ D w, K D w -> w.cell? ⟨q, 0, none⟩ = some o) /\ St w0 w0 [] K := ⟨_, fun _ _ h => C9.cell h 0 rfl, St.start AZ hb⟩
 have HH := Lib.hid hH
 clear hb hH ho
 by_cases hr : 1 <= r /\ r <= 63
 ·obtain ⟨k, rfl⟩ : ∃ k : Nat, r = (k : Int) := ⟨r.toNat, by omega⟩
  have HR := Lib.hid (decide_eq_true hr)
  have HM := Lib.hid (fun (N : Nat) (h : ∀ i : Nat, N.testBit i = true ↔ ∃ b : Nat, (k : Int) = (b : Int) /\ TC L b i) => show C6 N (k : Int) = junM L k from by
   rw [withN_nat (by omega)]
   refine Bi fun i => ?_
   rw [Dz, C2, h, Ed HH.out.inr (by omega)]
   constructor
   ·rintro (⟨b, e, h⟩ | h)
    ·obtain rfl : k = b := by omega
     exact .inr h
    ·exact .inl h
   ·rintro (h | h)
    ·exact .inr h
    ·exact .inl ⟨k, rfl, h⟩)
  rw [if_pos hr, Int.toNat_natCast]
  clear hr
  go_enter Tryz.func87, Tryz.ntmps87
  go_wp2_with (first
   | ((with_reducible refine qB ?_); refine qc ?_ ?_ <;> intro h_ <;> go_prune)
   | ((with_reducible refine qA 4 ?_); refine AO hS rfl _ rfl (by kernel_rfl) ?_; clear hS; intro g w_ hS; (try simp only [Act.put, Act.eval, zz, Value.cells] at hS))
   | (go_at_call 131; refine (D6 _ _).mono ?_; rw [HR.out]; rintro r_ w_ ⟨_, rfl, rfl, hb_⟩; replace hS := hS.ext hb_; clear hb_)
   | ((with_reducible refine qA 16 ?_); refine CO hS rfl _ _ rfl _ rfl _ k0 (by kernel_rfl) ?_)
   | (go_at_call 152; refine (obelow_any (Ck _ _ _ _ HO.out hS.size (fun _ _ _ hp hc => (hS.below.cell hp).trans hc) fun _ h _ _ => h) HH.out.inr _).mono ?_; rintro r_ w_ ⟨_, rfl, ⟨N, hN, hs⟩, hb_⟩; replace hs := Lib.hid hs; replace hS := hS.ext hb_; clear hb_)
   | (go_at_call 75; refine (Di _ N _ _ _ hN).mono ?_; rintro r_ w1 ⟨_, rfl, hM, hb_⟩; rw [HM.out N hs.out] at hM; obtain ⟨A3, c3, l3, rfl, -⟩ := hM.parts; replace hS := hS.ret2 hb_ (C3 Ab fun z => D z \/ w0.heap.size <= z) (hM.imp fun z hz _ => ⟨hz.imp (fun hz => free1 hS hz.2) id, hz.elim (fun hz => .inl hz.1) fun hz => .inr (Nat.le_trans hS.size hz)⟩); clear hb_)
   | ((with_reducible refine qM ?_); (first | refine qS hS ?_ | refine qT hS ?_); clear hS; intro w_ hS; (try simp only [Act.put, Act.eval, zz, Value.cells] at hS)))
  refine Ba Tryz.results87 rfl (hS.box 0 rfl) Tryz.underlying39 rfl (by kernel_rfl) rfl ?_
  exact AF.mk (hS.ro.2.imp fun z hz _ => hz.2) hS.below
 ·have HR := Lib.hid (decide_eq_false hr)
  rw [if_neg hr]
  clear hr
  go_enter Tryz.func87, Tryz.ntmps87
  go_wp2_with (first
   | ((with_reducible refine qB ?_); refine qc ?_ ?_ <;> intro h_ <;> go_prune)
   | ((with_reducible refine qA 4 ?_); refine AO hS rfl _ rfl (by kernel_rfl) ?_; clear hS; intro g w_ hS; (try simp only [Act.put, Act.eval, zz, Value.cells] at hS))
   | (go_at_call 131; refine (D6 _ _).mono ?_; rw [HR.out]; rintro r_ w_ ⟨_, rfl, rfl, hb_⟩; replace hS := hS.ext hb_; clear hb_)
   | ((with_reducible show wpList _ _ _ (⟨_, .build _ _, _, _, _, _⟩ :: _) _ _); refine Ax rfl _ _ rfl #[.slice none 0 0] (by kernel_rfl) ?_)
   | ((with_reducible refine qM ?_); (first | refine qS hS ?_ | refine qT hS ?_); clear hS; intro w_ hS; (try simp only [Act.put, Act.eval, zz, Value.cells] at hS)))
  refine Ba Tryz.results87 rfl (hS.box 0 rfl) Tryz.underlying39 rfl (by kernel_rfl) rfl ?_
  exact AF.mk Aa.empty hS.below
theorem hsen_any {w0 : World} {D : Nat -> Prop} {p : Value} {L : List (Nat × Nat)} (h : IsH w0 D p L) (hH : Gm L) (r : Int) : Calls Tryz.prog 73 #[p, .int .i64 r] w0 (AF (fun x w => Aa w (fun z => D z \/ w0.heap.size <= z) x (if 1 <= r /\ r <= 63 then senM L r.toNat else 0)) w0) := by
 obtain ⟨q, o, rfl, hb, ho⟩ := h
 have HO := Lib.hid (Ck D (fun z => D z /\ z < w0.heap.size) w0 w0 ho (Nat.le_refl _) (fun _ _ _ _ h => h) fun b h1 h2 _ => ⟨h1, h2⟩)
 obtain ⟨K, k0, hS⟩ : ∃ K : (Nat -> Prop) -> World -> Prop, (∀ D w, K D w -> w.cell? ⟨q, 0, none⟩ = some o) /\ St w0 w0 [] K := ⟨_, fun _ _ h => C9.cell h 0 rfl, St.start AZ hb⟩
 have HH := Lib.hid hH
 clear hb hH ho
 by_cases hr : 1 <= r /\ r <= 63
 ·obtain ⟨k, rfl⟩ : ∃ k : Nat, r = (k : Int) := ⟨r.toNat, by omega⟩
  have HR := Lib.hid (decide_eq_true hr)
  have HM := Lib.hid (fun (N : Nat) (h : ∀ i : Nat, N.testBit i = true ↔ ∃ b : Nat, (k : Int) = (b : Int) /\ TC L i b) => show C6 N (k : Int) = senM L k from by
   rw [withN_nat (by omega)]
   refine Bi fun i => ?_
   rw [Dz, C2, h, tb_sen HH.out.inr]
   constructor
   ·rintro (⟨b, e, h⟩ | h)
    ·obtain rfl : k = b := by omega
     exact .inr h
    ·exact .inl h
   ·rintro (h | h)
    ·exact .inr h
    ·exact .inl ⟨k, rfl, h⟩)
  rw [if_pos hr, Int.toNat_natCast]
  clear hr
  go_enter Tryz.func73, Tryz.ntmps73
  go_wp2_with (first
   | ((with_reducible refine qB ?_); refine qc ?_ ?_ <;> intro h_ <;> go_prune)
   | ((with_reducible refine qA 4 ?_); refine AO hS rfl _ rfl (by kernel_rfl) ?_; clear hS; intro g w_ hS; (try simp only [Act.put, Act.eval, zz, Value.cells] at hS))
   | (go_at_call 131; refine (D6 _ _).mono ?_; rw [HR.out]; rintro r_ w_ ⟨_, rfl, rfl, hb_⟩; replace hS := hS.ext hb_; clear hb_)
   | ((with_reducible refine qA 16 ?_); refine CO hS rfl _ _ rfl _ rfl _ k0 (by kernel_rfl) ?_)
   | (go_at_call 144; refine (oabove_any (Ck _ _ _ _ HO.out hS.size (fun _ _ _ hp hc => (hS.below.cell hp).trans hc) fun _ h _ _ => h) HH.out.inr _).mono ?_; rintro r_ w_ ⟨_, rfl, ⟨N, hN, hs⟩, hb_⟩; replace hs := Lib.hid hs; replace hS := hS.ext hb_; clear hb_)
   | (go_at_call 75; refine (Di _ N _ _ _ hN).mono ?_; rintro r_ w1 ⟨_, rfl, hM, hb_⟩; rw [HM.out N hs.out] at hM; obtain ⟨A3, c3, l3, rfl, -⟩ := hM.parts; replace hS := hS.ret2 hb_ (C3 Ab fun z => D z \/ w0.heap.size <= z) (hM.imp fun z hz _ => ⟨hz.imp (fun hz => free1 hS hz.2) id, hz.elim (fun hz => .inl hz.1) fun hz => .inr (Nat.le_trans hS.size hz)⟩); clear hb_)
   | ((with_reducible refine qM ?_); (first | refine qS hS ?_ | refine qT hS ?_); clear hS; intro w_ hS; (try simp only [Act.put, Act.eval, zz, Value.cells] at hS)))
  refine Ba Tryz.results73 rfl (hS.box 0 rfl) Tryz.underlying39 rfl (by kernel_rfl) rfl ?_
  exact AF.mk (hS.ro.2.imp fun z hz _ => hz.2) hS.below
 ·have HR := Lib.hid (decide_eq_false hr)
  rw [if_neg hr]
  clear hr
  go_enter Tryz.func73, Tryz.ntmps73
  go_wp2_with (first
   | ((with_reducible refine qB ?_); refine qc ?_ ?_ <;> intro h_ <;> go_prune)
   | ((with_reducible refine qA 4 ?_); refine AO hS rfl _ rfl (by kernel_rfl) ?_; clear hS; intro g w_ hS; (try simp only [Act.put, Act.eval, zz, Value.cells] at hS))
   | (go_at_call 131; refine (D6 _ _).mono ?_; rw [HR.out]; rintro r_ w_ ⟨_, rfl, rfl, hb_⟩; replace hS := hS.ext hb_; clear hb_)
   | ((with_reducible show wpList _ _ _ (⟨_, .build _ _, _, _, _, _⟩ :: _) _ _); refine Ax rfl _ _ rfl #[.slice none 0 0] (by kernel_rfl) ?_)
   | ((with_reducible refine qM ?_); (first | refine qS hS ?_ | refine qT hS ?_); clear hS; intro w_ hS; (try simp only [Act.put, Act.eval, zz, Value.cells] at hS)))
  refine Ba Tryz.results73 rfl (hS.box 0 rfl) Tryz.underlying39 rfl (by kernel_rfl) rfl ?_
  exact AF.mk Aa.empty hS.below
end
section
open Go.RowKit
set_option maxRecDepth 20000
def ON (k : Nat) (i : Nat) (p : World × Option Value) : Prop := i = k -> p.2 = none
section
variable {C : World -> Prop} {S : Value -> World -> Prop} {p p' : World × Option Value} {k : Nat}
end
end
section
open Go.RowKit
attribute [local go_sem ↓] Go.wp_at_zero Go.wp_at_succ
set_option maxRecDepth 20000
set_option exponentiation.threshold 5000
theorem Ca (r : Int) (w : World) : Calls Tryz.prog 126 #[.int .i64 r] w (AF (fun x _ => x = .bool (decide (1 <= r /\ r <= 63))) w) := by
 by_cases h1 : 1 <= r
 ·by_cases h2 : r <= 63
  ·have HR := Lib.hid (show decide (1 <= r /\ r <= 63) = true by simp [h1, h2])
   generalize decide (1 <= r /\ r <= 63) = R at *
   go_enter Tryz.func126, Tryz.ntmps126
   go_wp2_with (first | ((with_reducible refine qB ?_); refine qc ?_ ?_ <;> intro h_ <;> go_prune))
   go_ret
   exact AF.mk (congrArg Value.bool HR.out.symm) (Below.refl _ _)
  ·have HR := Lib.hid (show decide (1 <= r /\ r <= 63) = false by simp [h2])
   generalize decide (1 <= r /\ r <= 63) = R at *
   go_enter Tryz.func126, Tryz.ntmps126
   go_wp2_with (first | ((with_reducible refine qB ?_); refine qc ?_ ?_ <;> intro h_ <;> go_prune))
   go_ret
   exact AF.mk (congrArg Value.bool HR.out.symm) (Below.refl _ _)
 ·have HR := Lib.hid (show decide (1 <= r /\ r <= 63) = false by simp [h1])
  generalize decide (1 <= r /\ r <= 63) = R at *
  go_enter Tryz.func126, Tryz.ntmps126
  go_wp2_with (first | ((with_reducible refine qB ?_); refine qc ?_ ?_ <;> intro h_ <;> go_prune))
  go_ret
  exact AF.mk (congrArg Value.bool HR.out.symm) (Below.refl _ _)
theorem rhas_any {w0 : World} {D : Nat -> Prop} {pv : Value} {L : List (Nat × Nat)} (h : Sl w0 D 2 pv L.length (Ad L)) (hl : L.length <= 1000000) (a b : Int) :
  Calls Tryz.prog 127 #[pv, .int .i64 a, .int .i64 b] w0 (AF (fun x _ => ∃ c : Bool, x = .bool c /\ (c = true ↔ ∃ x ∈ L, a = (x.1 : Int) /\ b = (x.2 : Int))) w0) := by
 obtain ⟨A, c, rfl, _, _⟩ := h.shape
 obtain ⟨K, kp, hS⟩ : ∃ K : (Nat -> Prop) -> World -> Prop, (∀ D w, K D w -> Sl w D 2 (.slice A L.length c) L.length (Ad L)) /\ St w0 w0 [] K := ⟨_, fun _ _ h => h, St.start (Av (by decide)) h⟩
 clear h
 go_enter Tryz.func127, Tryz.ntmps127
 go_wp2_with (first | ((with_reducible refine qB ?_); refine qc ?_ ?_ <;> intro h_ <;> go_prune))
 go_loopw [11] (fun i wr => ∃ j : Nat, j <= L.length /\ i = .int .i64 j /\ Hid (∀ t, t < j -> ¬ (a = ((L.getD t (0, 0)).1 : Int) /\ b = ((L.getD t (0, 0)).2 : Int))) /\ St w0 wr [] K) (fun i _ => L.length - (intOf i).toNat)
 case atStart => exact ⟨0, by omega, rfl, Lib.hid (fun t h => absurd h (by omega)), hS⟩
 case round =>
  clear hS
  obtain ⟨j, hj, rfl, HJ, hS⟩ := hrel
  by_cases hlj : j < L.length
  ·obtain ⟨f1, f2⟩ := Bj L j hlj
   have hm : Hid (L.getD j (0, 0) ∈ L) := Lib.hid (by rw [List.getD_eq_getElem?_getD, List.getElem?_eq_getElem hlj]; exact List.getElem_mem hlj)
   have HJ2 : Hid (¬ (a = ((L.getD j (0, 0)).1 : Int) /\ b = ((L.getD j (0, 0)).2 : Int)) -> ∀ t, t < j + 1 -> ¬ (a = ((L.getD t (0, 0)).1 : Int) /\ b = ((L.getD t (0, 0)).2 : Int))) := Lib.hid fun h t ht => if e : t = j then e ▸ h else HJ.out t (by omega)
   generalize L.getD j (0, 0) = x at *
   obtain ⟨xa, xb⟩ := x
   dsimp only at f1 f2 HJ2
   by_cases hx : a = (xa : Int)
   ·by_cases hy : b = (xb : Int)
    ·subst hx hy
     go_wp2_with (first
      | ((with_reducible refine qB ?_); refine qc ?_ ?_ <;> intro h_ <;> go_prune)
      | ((with_reducible refine qI ?_); refine qj hS Tryz.underlying25 ?_; intro b_ j_ hc0_ hc1_)
      | ((with_reducible refine qA 8 ?_); refine AO hS rfl _ rfl (by kernel_rfl) ?_; clear hS; intro g4 w_ hS; (try simp only [Act.put, Act.eval, zz, Value.cells] at hS))
      | ((with_reducible refine qM ?_); (first | refine qS hS ?_ | refine qT hS ?_); clear hS; intro w_ hS; (try simp only [Act.put, Act.eval, zz, Value.cells] at hS))
      | ((with_reducible refine qK ?_); refine qC hS ?_))
     go_ret
     exact AF.mk (v := .bool true) (by first | exact ⟨true, rfl, fun _ => ⟨_, hm.out, rfl, rfl⟩, fun _ => rfl⟩ | exact .inr ⟨rfl, _, _, hm.out, rfl, rfl⟩) hS.below
    ·have HJ3 := Lib.hid (HJ2.out fun h => hy h.2)
     subst hx
     clear HJ2
     have hy' : ¬ ((xb : Nat) : Int) = b := fun e => hy e.symm
     go_wp2_with (first
      | ((with_reducible refine qB ?_); refine qc ?_ ?_ <;> intro h_ <;> go_prune)
      | ((with_reducible refine qI ?_); refine qj hS Tryz.underlying25 ?_; intro b_ j_ hc0_ hc1_)
      | ((with_reducible refine qA 8 ?_); refine AO hS rfl _ rfl (by kernel_rfl) ?_; clear hS; intro g4 w_ hS; (try simp only [Act.put, Act.eval, zz, Value.cells] at hS))
      | ((with_reducible refine qM ?_); (first | refine qS hS ?_ | refine qT hS ?_); clear hS; intro w_ hS; (try simp only [Act.put, Act.eval, zz, Value.cells] at hS))
      | ((with_reducible refine qK ?_); refine qC hS ?_))
     exact ⟨⟨j + 1, hlj, by go_num, HJ3, hS.sub (List.sublist_cons_self _ _)⟩, by simp [intOf]; omega⟩
   ·have HJ3 := Lib.hid (HJ2.out fun h => hx h.1)
    clear HJ2
    have hx' : ¬ ((xa : Nat) : Int) = a := fun e => hx e.symm
    go_wp2_with (first
     | ((with_reducible refine qB ?_); refine qc ?_ ?_ <;> intro h_ <;> go_prune)
     | ((with_reducible refine qI ?_); refine qj hS Tryz.underlying25 ?_; intro b_ j_ hc0_ hc1_)
     | ((with_reducible refine qA 8 ?_); refine AO hS rfl _ rfl (by kernel_rfl) ?_; clear hS; intro g4 w_ hS; (try simp only [Act.put, Act.eval, zz, Value.cells] at hS))
     | ((with_reducible refine qM ?_); (first | refine qS hS ?_ | refine qT hS ?_); clear hS; intro w_ hS; (try simp only [Act.put, Act.eval, zz, Value.cells] at hS))
     | ((with_reducible refine qK ?_); refine qC hS ?_))
    exact ⟨⟨j + 1, hlj, by go_num, HJ3, hS.sub (List.sublist_cons_self _ _)⟩, by simp [intOf]; omega⟩
  ·obtain rfl : j = L.length := by omega
   have HN : Hid (¬ ∃ x ∈ L, a = (x.1 : Int) /\ b = (x.2 : Int)) := Lib.hid fun ⟨x, hx, h⟩ => by
    obtain ⟨k, hk, e⟩ := List.getElem_of_mem hx
    refine HJ.out k hk ?_
    rw [List.getD_eq_getElem?_getD, List.getElem?_eq_getElem hk, Option.getD_some, e]
    exact h
   go_wp2_with (first | ((with_reducible refine qB ?_); refine qc ?_ ?_ <;> intro h_ <;> go_prune))
   go_ret
   exact AF.mk (v := .bool false) (by first | exact ⟨false, rfl, fun h => by simp at h, fun h => absurd h HN.out⟩ | exact .inl ⟨rfl, by simpa using HN.out⟩) hS.below
end
section
open Go.RowKit
attribute [local go_sem ↓] Go.wp_at_zero Go.wp_at_succ
set_option maxRecDepth 20000
def shrN (s r : Nat) : Nat := s / 2 ^ r
def rem2 (m : Nat) : Nat := m % 2
theorem bit_of {s r : Nat} : rem2 (shrN s r) = if s.testBit r then 1 else 0 := by
 unfold rem2 shrN
 rw [Nat.testBit_eq_decide_div_mod_eq]
 by_cases h : s / 2 ^ r % 2 = 1
 ·simp [h]
 ·have : s / 2 ^ r % 2 = 0 := by omega
  simp [this]
theorem pow_lt_64 {r : Nat} (h : r < 64) : 2 ^ r < AM := by rw [Cq]; exact Nat.pow_lt_pow_right (by decide) h
section
variable {P : Program} {ops : Array Oper} {rest : List Oper} {o : Oper} {a : Act} {w : World} {Q : Exit -> Act -> World -> Prop}
theorem FE (hg : Region.wanted o (yielded ops a.tmps) = true) (t t2 : TypeId) (x y : Operand) (ho : o.op = .binOp .shr t x y t2) (s r : Nat) (hx : a.eval x = .int .u64 (s : Nat)) (hy : a.eval y = .int .i64 (r : Nat)) (hr : r <= 64)
  (hk : wpList P ops Q rest (a.put o.dst (.int .u64 (shrN s r : Nat))) w) : wpList P ops Q (o :: rest) a w := by
 refine BigFrame.wpList_want hg fun _ hK => AE (v := .int .u64 (shrN s r : Nat)) ho hx hy (by simp [eqGuard]) ?_ (hK _ _ hk)
 rw [binOp_shr, shift_shr _ _ _ _ (by omega) (by show (r : Int) <= 64; omega)]
 simp [shrN]
theorem FF (hg : Region.wanted o (yielded ops a.tmps) = true) (t t2 : TypeId) (x y : Operand) (ho : o.op = .binOp .rem t x y t2) (m : Nat) (hx : a.eval x = .int .u64 (m : Nat)) (hy : a.eval y = .int .u64 2)
  (hk : wpList P ops Q rest (a.put o.dst (.int .u64 (rem2 m : Nat))) w) : wpList P ops Q (o :: rest) a w := by
 refine BigFrame.wpList_want hg fun _ hK => AE (v := .int .u64 (rem2 m : Nat)) ho hx hy (by simp [eqGuard]) ?_ (hK _ _ hk)
 go_simp
 exact tmod_nat m 2
theorem EC (hg : Region.wanted o (yielded ops a.tmps) = true) (t t2 : TypeId) (x y : Operand) (ho : o.op = .binOp .eql t x y t2) (s r : Nat) (hx : a.eval x = .int .u64 (rem2 (shrN s r) : Nat)) (hy : a.eval y = .int .u64 1) {b : Bool} (hb : s.testBit r = b)
  (hk : wpList P ops Q rest (a.put o.dst (.bool b)) w) : wpList P ops Q (o :: rest) a w := by
 refine BigFrame.wpList_want hg fun _ hK => AE (v := .bool b) ho hx hy (by simp [eqGuard]) ?_ (hK _ _ hk)
 rw [binOp_eql, bit_of, hb]
 cases b <;> simp
theorem st_shl1 (hg : Region.wanted o (yielded ops a.tmps) = true) (t t2 : TypeId) (x y : Operand) (ho : o.op = .binOp .shl t x y t2) (r : Nat) (hx : a.eval x = .int .u64 1) (hy : a.eval y = .int .i64 (r : Nat)) (hr : r < 64)
  (hk : wpList P ops Q rest (a.put o.dst (.int .u64 (2 ^ r : Nat))) w) : wpList P ops Q (o :: rest) a w := by
 have h := Ik (P := P) (w := w) (t := t) (r := r) (e := (r : Nat)) (by rw [Nat.mod_eq_of_lt hr])
 rw [Nat.mod_eq_of_lt hr] at h
 exact BigFrame.wpList_want hg fun _ hK => AE (v := .int .u64 (2 ^ r : Nat)) ho hx hy (by simp [eqGuard]) h (hK _ _ hk)
theorem st_orN (hg : Region.wanted o (yielded ops a.tmps) = true) (t t2 : TypeId) (x y : Operand) (ho : o.op = .binOp .or t x y t2) (m n : Nat) (hx : a.eval x = .int .u64 (m : Nat)) (hy : a.eval y = .int .u64 (n : Nat)) (hm : m < AM) (hn : n < AM)
  (hk : wpList P ops Q rest (a.put o.dst (.int .u64 (m ||| n : Nat))) w) : wpList P ops Q (o :: rest) a w :=
 BigFrame.wpList_want hg fun _ hK => AE (v := .int .u64 (m ||| n : Nat)) ho hx hy (by simp [eqGuard]) (GC hm hn) (hK _ _ hk)
end
end
section
open Go.RowKit
attribute [local go_sem ↓] Go.wp_at_zero Go.wp_at_succ
set_option maxRecDepth 20000
set_option exponentiation.threshold 5000
def H9 (L : List (Nat × Nat)) (r s : Int) : Prop := ∃ i j : Nat, r = (i : Int) /\ s = (j : Int) /\ (1 <= i /\ i < 64) /\ (1 <= j /\ j < 64) /\ (i = j \/ TC L i j)
noncomputable def junR (L : List (Nat × Nat)) (r : Int) : Nat := if 1 <= r /\ r <= 63 then junM L r.toNat else 0
theorem rjun_any {w0 : World} {D : Nat -> Prop} {pv : Value} {L : List (Nat × Nat)} (h : Sl w0 D 2 pv L.length (Ad L)) (hL : Ew 64 L) (hl : L.length <= 1000000) (r : Int) :
  Calls Tryz.prog 128 #[pv, .int .i64 r] w0 (AF (fun x _ => x = .int .u64 (junR L r : Nat)) w0) := by
 obtain ⟨A, c, rfl, _, _⟩ := h.shape
 obtain ⟨K, kp, hS⟩ : ∃ K : (Nat -> Prop) -> World -> Prop, (∀ D w, K D w -> Sl w D 2 (.slice A L.length c) L.length (Ad L)) /\ St w0 w0 [] K := ⟨_, fun _ _ h => h, St.start (Av (by decide)) h⟩
 clear h
 by_cases hr : 1 <= r /\ r <= 63
 ·obtain ⟨k, rfl⟩ : ∃ k : Nat, r = (k : Int) := ⟨r.toNat, by omega⟩
  have HR := Lib.hid (decide_eq_true hr)
  have hk : k < 64 := by omega
  have HJ := Lib.hid (show junR L (k : Int) = junM L k by rw [junR, if_pos hr, Int.toNat_natCast])
  have HL := Lib.hid hL
  have H0 : Hid (EO L k (2 ^ k) /\ 2 ^ k < 2 ^ 64) := Lib.hid ⟨EO.start L k, Nat.pow_lt_pow_right (by decide) hk⟩
  clear hr hL
  go_enter Tryz.func128, Tryz.ntmps128
  go_wp2_with (first
   | (go_at_call 126; refine (Ca _ _).mono ?_; rw [HR.out]; rintro r_ w_ ⟨_, rfl, rfl, hb_⟩; replace hS := hS.ext hb_; clear hb_)
   | ((with_reducible refine qb .shl ?_); refine st_shl1 rfl _ _ _ _ rfl _ rfl rfl hk ?_))
  go_loopw [5] (fun v wr => ∃ s : Nat, v = .int .u64 (s : Nat) /\ Hid (EO L k s /\ s < 2 ^ 64) /\ St w0 wr [] K) (fun v _ => outN (intOf v).toNat)
  case atStart => exact ⟨_, rfl, H0, hS⟩
  case round =>
   clear hS H0
   obtain ⟨s, rfl, HS, hS⟩ := hrel
   go_wp2_with (first | ((with_reducible refine qB ?_); refine qc ?_ ?_ <;> intro h_ <;> go_prune))
   go_loopw [6, 17] (fun m i wr => ∃ j : Nat, j <= L.length /\ i = .int .i64 (j : Nat) /\ m = .int .u64 (jTo L s j : Nat) /\ St w0 wr [] K) (fun _ i _ => L.length - (intOf i).toNat)
   case atStart => exact ⟨0, by omega, rfl, by simp [jTo], hS⟩
   case round =>
    clear hS
    obtain ⟨j, hj, rfl, rfl, hS⟩ := hrel
    by_cases hlj : j < L.length
    ·obtain ⟨f1, f2⟩ := Bj L j hlj
     have HG := Lib.hid (C4 (0, 0) hlj)
     have hm := HL.out (L.getD j (0, 0)) (by rw [List.getD_eq_getElem?_getD, List.getElem?_eq_getElem hlj]; exact List.getElem_mem hlj)
     have HSt := Lib.hid (jTo_step (s := s) HG.out)
     have hM : jTo L s j < AM := by rw [Cq]; exact jTo_lt HL.out HS.out.2
     generalize L.getD j (0, 0) = x at *
     generalize jTo L s j = M at *
     obtain ⟨xa, xb⟩ := x
     dsimp only at f1 f2 hm HSt
     obtain ⟨hxa, hxb⟩ := hm
     cases hbit : s.testBit xa
     ·rw [hbit] at HSt
      have HE := Lib.hid (HSt.out.trans (if_neg (by simp)))
      go_wp2_with (first
       | ((with_reducible refine qb .shr ?_); refine FE rfl _ _ _ _ rfl _ _ rfl rfl (by omega) ?_)
       | ((with_reducible refine qb .rem ?_); refine FF rfl _ _ _ _ rfl _ rfl rfl ?_)
       | ((with_reducible refine qA 26 ?_); refine EC rfl _ _ _ _ rfl _ _ rfl rfl hbit ?_)
       | ((with_reducible refine qB ?_); refine qc ?_ ?_ <;> intro h_ <;> go_prune)
       | ((with_reducible refine qI ?_); refine qj hS Tryz.underlying25 ?_; intro b_ j_ hc0_ hc1_)
       | ((with_reducible refine qA 8 ?_); refine AO hS rfl _ rfl (by kernel_rfl) ?_; clear hS; intro g4 w_ hS; (try simp only [Act.put, Act.eval, zz, Value.cells] at hS))
       | ((with_reducible refine qM ?_); (first | refine qS hS ?_ | refine qT hS ?_); clear hS; intro w_ hS; (try simp only [Act.put, Act.eval, zz, Value.cells] at hS))
       | ((with_reducible refine qK ?_); refine qC hS ?_))
      exact ⟨⟨j + 1, hlj, by go_num, by rw [HE.out], hS.sub (List.sublist_cons_self _ _)⟩, by simp [intOf]; omega⟩
     ·rw [hbit] at HSt
      have HE := Lib.hid (HSt.out.trans (if_pos rfl))
      go_wp2_with (first
       | ((with_reducible refine qb .shr ?_); refine FE rfl _ _ _ _ rfl _ _ rfl rfl (by omega) ?_)
       | ((with_reducible refine qb .rem ?_); refine FF rfl _ _ _ _ rfl _ rfl rfl ?_)
       | ((with_reducible refine qb .shl ?_); refine st_shl1 rfl _ _ _ _ rfl _ rfl rfl hxb ?_)
       | ((with_reducible refine qb .or ?_); refine st_orN rfl _ _ _ _ rfl _ _ rfl rfl hM (pow_lt_64 hxb) ?_)
       | ((with_reducible refine qA 26 ?_); refine EC rfl _ _ _ _ rfl _ _ rfl rfl hbit ?_)
       | ((with_reducible refine qB ?_); refine qc ?_ ?_ <;> intro h_ <;> go_prune)
       | ((with_reducible refine qI ?_); refine qj hS Tryz.underlying25 ?_; intro b_ j_ hc0_ hc1_)
       | ((with_reducible refine qA 8 ?_); refine AO hS rfl _ rfl (by kernel_rfl) ?_; clear hS; intro g4 w_ hS; (try simp only [Act.put, Act.eval, zz, Value.cells] at hS))
       | ((with_reducible refine qM ?_); (first | refine qS hS ?_ | refine qT hS ?_); clear hS; intro w_ hS; (try simp only [Act.put, Act.eval, zz, Value.cells] at hS))
       | ((with_reducible refine qK ?_); refine qC hS ?_))
      exact ⟨⟨j + 1, hlj, by go_num, by rw [HE.out], hS.sub (List.sublist_cons_self _ _)⟩, by simp [intOf]; omega⟩
    ·obtain rfl : j = L.length := by omega
     have HM : Hid (jTo L s L.length < 2 ^ 64 /\ EO L k (jTo L s L.length) /\ (∀ i, s.testBit i = true -> (jTo L s L.length).testBit i = true)) := Lib.hid ⟨jTo_lt HL.out HS.out.2, HS.out.1.next, fun i hi => (I6 (Nat.le_refl _)).2 (.inl hi)⟩
     by_cases he : jTo L s L.length = s
     ·have HF := Lib.hid (HS.out.1.stop HL.out hk he)
      rw [he]
      go_wp2_with (first | ((with_reducible refine qB ?_); refine qc ?_ ?_ <;> intro h_ <;> go_prune))
      go_ret
      exact AF.mk (by rw [HJ.out, <- HF.out]; rfl) hS.below
     ·have HO := Lib.hid (outN_lt HS.out.2 HM.out.1 HM.out.2.2 he)
      generalize jTo L s L.length = M at *
      have he2 : ¬ (M : Int) = (s : Int) := by omega
      go_wp2_with (first | ((with_reducible refine qB ?_); refine qc ?_ ?_ <;> intro h_ <;> go_prune))
      exact ⟨⟨M, rfl, Lib.hid ⟨HM.out.2.1, HM.out.1⟩, hS⟩, by simpa [intOf] using HO.out⟩
 ·have HR := Lib.hid (decide_eq_false hr)
  have HJ := Lib.hid (show junR L r = 0 by rw [junR, if_neg hr])
  rw [HJ.out]
  clear hr
  go_enter Tryz.func128, Tryz.ntmps128
  go_wp2_with (first
   | (go_at_call 126; refine (Ca _ _).mono ?_; rw [HR.out]; rintro r_ w_ ⟨_, rfl, rfl, hb_⟩; replace hS := hS.ext hb_; clear hb_))
  go_ret
  exact AF.mk rfl hS.below
theorem impl_junR {L : List (Nat × Nat)} (hL : Ew 64 L) (r s : Int) : (1 <= s /\ s <= 63) /\ (junR L r).testBit s.toNat = true ↔ H9 L r s := by
 unfold junR H9
 constructor
 ·rintro ⟨h1, h2⟩
  by_cases hr : 1 <= r /\ r <= 63
  ·rw [if_pos hr, Ed hL (by omega)] at h2
   exact ⟨r.toNat, s.toNat, by omega, by omega, by omega, by omega, h2.imp (fun h => h.symm) id⟩
  ·rw [if_neg hr, Nat.zero_testBit] at h2; cases h2
 ·rintro ⟨i, j, rfl, rfl, h1, h2, h3⟩
  refine ⟨by omega, ?_⟩
  rw [if_pos (by omega), Int.toNat_natCast, Int.toNat_natCast, Ed hL (by omega)]
  exact h3.imp (fun h => h.symm) id
theorem rimpl_any {w0 : World} {D : Nat -> Prop} {pv : Value} {L : List (Nat × Nat)} (h : Sl w0 D 2 pv L.length (Ad L)) (hL : Ew 64 L) (hl : L.length <= 1000000) (r s : Int) :
  Calls Tryz.prog 83 #[pv, .int .i64 r, .int .i64 s] w0 (AF (fun x _ => ∃ c : Bool, x = .bool c /\ (c = true ↔ H9 L r s)) w0) := by
 have HJ := Lib.hid (fun w (hb : Below w0.heap.size w0 w) => rjun_any (h.ext hb) hL hl r)
 have HI := Lib.hid (impl_junR hL r s)
 by_cases hs : 1 <= s /\ s <= 63
 ·obtain ⟨k, rfl⟩ : ∃ k : Nat, s = (k : Int) := ⟨s.toNat, by omega⟩
  have HR := Lib.hid (decide_eq_true hs)
  have hk : k < 64 := by omega
  rw [Int.toNat_natCast] at HI
  have HI2 : Hid ((junR L r).testBit k = true ↔ H9 L r k) := Lib.hid ⟨fun h => HI.out.1 ⟨hs, h⟩, fun h => (HI.out.2 h).2⟩
  clear hs HI
  obtain ⟨b, hb0⟩ : ∃ b, (junR L r).testBit k = b := ⟨_, rfl⟩
  have hb := Lib.hid hb0
  rw [hb0] at HI2
  generalize junR L r = J at *
  clear hb0
  go_enter Tryz.func83, Tryz.ntmps83
  go_wp2_with (first
   | (go_at_call 126; refine (Ca _ _).mono ?_; rw [HR.out]; rintro r_ w_ ⟨_, rfl, rfl, hb_⟩)
   | (go_at_call 128; refine (HJ.out _ hb_).mono ?_; rintro r_ w2 ⟨_, rfl, rfl, hb2⟩)
   | ((with_reducible refine qb .shr ?_); refine FE rfl _ _ _ _ rfl _ _ rfl rfl (by omega) ?_)
   | ((with_reducible refine qb .rem ?_); refine FF rfl _ _ _ _ rfl _ rfl rfl ?_)
   | ((with_reducible refine qA 16 ?_); refine EC rfl _ _ _ _ rfl _ _ rfl rfl hb.out ?_))
  go_ret
  exact AF.mk ⟨b, rfl, HI2.out⟩ (BP hb_ hb2)
 ·have HR := Lib.hid (decide_eq_false hs)
  have HI2 : Hid (¬ H9 L r s) := Lib.hid fun h => hs (HI.out.2 h).1
  clear hs HI
  go_enter Tryz.func83, Tryz.ntmps83
  go_wp2_with (first
   | (go_at_call 126; refine (Ca _ _).mono ?_; rw [HR.out]; rintro r_ w_ ⟨_, rfl, rfl, hb_⟩))
  go_ret
  exact AF.mk ⟨false, rfl, fun h => by simp at h, fun h => absurd h HI2.out⟩ hb_
noncomputable def closTo (L : List (Nat × Nat)) (s k : Nat) : Nat := (List.range k).foldl (fun m r => if 1 <= r /\ s.testBit r then m ||| junM L r else m) 0
theorem DM (L : List (Nat × Nat)) (s k : Nat) : closTo L s (k + 1) = if 1 <= k /\ s.testBit k then closTo L s k ||| junM L k else closTo L s k := by
 unfold closTo; rw [List.range_succ, List.foldl_append]; rfl
theorem De {L : List (Nat × Nat)} {s i : Nat} : ∀ {k : Nat}, (closTo L s k).testBit i = true ↔ ∃ r, r < k /\ 1 <= r /\ s.testBit r = true /\ (junM L r).testBit i = true
 | 0 => by simp [closTo]
 | k + 1 => by
  rw [DM]
  split
  ·rename_i h
   rw [Dz, De]
   constructor
   ·rintro (⟨r, h1, h2⟩ | h1)
    ·exact ⟨r, by omega, h2⟩
    ·exact ⟨k, by omega, h.1, h.2, h1⟩
   ·rintro ⟨r, h1, h2, h3, h4⟩
    rcases Nat.lt_or_ge r k with h5 | h5
    ·exact .inl ⟨r, h5, h2, h3, h4⟩
    ·obtain rfl : r = k := by omega
     exact .inr h4
  ·rename_i h
   rw [De]
   constructor
   ·rintro ⟨r, h1, h2⟩
    exact ⟨r, by omega, h2⟩
   ·rintro ⟨r, h1, h2, h3, h4⟩
    rcases Nat.lt_or_ge r k with h5 | h5
    ·exact ⟨r, h5, h2, h3, h4⟩
    ·obtain rfl : r = k := by omega
     exact absurd ⟨h2, h3⟩ h
theorem junM_lt (L : List (Nat × Nat)) (r : Nat) : junM L r < 2 ^ 64 := by
 apply Nat.lt_pow_two_of_testBit
 intro i hi
 cases e : (junM L r).testBit i with
 | false => rfl
 | true => rw [junM, BT] at e; omega
theorem F4 (L : List (Nat × Nat)) (s : Nat) : ∀ k, closTo L s k < 2 ^ 64
 | 0 => by simp [closTo]
 | k + 1 => by
  rw [DM]
  split
  ·exact Nat.or_lt_two_pow (F4 L s k) (junM_lt L k)
  ·exact F4 L s k
noncomputable def closM (L : List (Nat × Nat)) (s : Nat) : Nat := closTo L s 64
theorem rclos_any {w0 : World} {D : Nat -> Prop} {pv : Value} {L : List (Nat × Nat)} (h : Sl w0 D 2 pv L.length (Ad L)) (hL : Ew 64 L) (hl : L.length <= 1000000) (s : Nat) :
  Calls Tryz.prog 55 #[pv, .int .u64 (s : Nat)] w0 (AF (fun x _ => x = .int .u64 (closM L s : Nat)) w0) := by
 obtain ⟨A, c, rfl, _, _⟩ := h.shape
 have HJ := Lib.hid (fun w (hb : Below w0.heap.size w0 w) (r : Int) => rjun_any (h.ext hb) hL hl r)
 have hB := Below.refl w0.heap.size w0
 clear h
 go_enter Tryz.func55, Tryz.ntmps55
 go_wp2_with fail
 go_loopw [5, 6] (fun m i wr => ∃ k : Nat, 1 <= k /\ k <= 64 /\ i = .int .i64 (k : Nat) /\ m = .int .u64 (closTo L s k : Nat) /\ Below w0.heap.size w0 wr) (fun _ i _ => 64 - (intOf i).toNat)
 case atStart => exact ⟨1, by omega, by omega, rfl, by rw [DM]; simp [closTo], hB⟩
 case round =>
  clear hB
  obtain ⟨k, hk1, hk2, rfl, rfl, hB⟩ := hrel
  have hM : closTo L s k < AM := by rw [Cq]; exact F4 L s k
  by_cases hk : k < 64
  ·have HSt := Lib.hid (DM L s k)
   have hJ2 : junM L k < AM := by rw [Cq]; exact junM_lt L k
   have HJ3 := Lib.hid (show junR L (k : Int) = junM L k by rw [junR, if_pos (by omega), Int.toNat_natCast])
   generalize closTo L s k = M at *
   generalize junM L k = J at *
   cases hbit : s.testBit k
   ·rw [hbit] at HSt
    have HE := Lib.hid (HSt.out.trans (if_neg (by simp)))
    go_wp2_with (first
     | ((with_reducible refine qb .shr ?_); refine FE rfl _ _ _ _ rfl _ _ rfl rfl (by omega) ?_)
     | ((with_reducible refine qb .rem ?_); refine FF rfl _ _ _ _ rfl _ rfl rfl ?_)
     | ((with_reducible refine qA 15 ?_); refine EC rfl _ _ _ _ rfl _ _ rfl rfl hbit ?_)
     | ((with_reducible refine qB ?_); refine qc ?_ ?_ <;> intro h_ <;> go_prune))
    exact ⟨⟨k + 1, by omega, by omega, by go_num, by rw [HE.out], hB⟩, by simp [intOf]; omega⟩
   ·rw [hbit] at HSt
    have HE := Lib.hid (HSt.out.trans (if_pos ⟨hk1, rfl⟩))
    go_wp2_with (first
     | ((with_reducible refine qb .shr ?_); refine FE rfl _ _ _ _ rfl _ _ rfl rfl (by omega) ?_)
     | ((with_reducible refine qb .rem ?_); refine FF rfl _ _ _ _ rfl _ rfl rfl ?_)
     | ((with_reducible refine qb .or ?_); refine st_orN rfl _ _ _ _ rfl _ _ rfl rfl hM hJ2 ?_)
     | ((with_reducible refine qA 15 ?_); refine EC rfl _ _ _ _ rfl _ _ rfl rfl hbit ?_)
     | (go_at_call 128; refine (HJ.out _ hB _).mono ?_; rw [HJ3.out]; rintro r_ w2 ⟨_, rfl, rfl, hb2⟩)
     | ((with_reducible refine qB ?_); refine qc ?_ ?_ <;> intro h_ <;> go_prune))
    exact ⟨⟨k + 1, by omega, by omega, by go_num, by rw [HE.out], BP hB hb2⟩, by simp [intOf]; omega⟩
  ·obtain rfl : k = 64 := by omega
   go_wp2_with (first | ((with_reducible refine qB ?_); refine qc ?_ ?_ <;> intro h_ <;> go_prune))
   go_ret
   exact AF.mk rfl hB
end
section
open Go.RowKit
attribute [local go_sem ↓] Go.wp_at_zero Go.wp_at_succ
set_option maxRecDepth 20000
set_option exponentiation.threshold 5000
def twoR (a b : Int) : Prop := (1 <= a /\ a <= 63) /\ (1 <= b /\ b <= 63) /\ a ≠ b
def RLinkP (w0 : World) (pv : Value) (L : List (Nat × Nat)) (a b : Int) (e : Ending) (w' : World) : Prop :=
 (¬ twoR a b /\ e = .returned (.tuple #[pv, .int .i64 1]) /\ Below w0.heap.size w0 w') \/
 ∃ x y : Nat, a = (x : Int) /\ b = (y : Int) /\ (1 <= x /\ x < 64) /\ (1 <= y /\ y < 64) /\ x ≠ y /\
  (((x, y) ∈ L /\ e = .returned (.tuple #[pv, .int .i64 5]) /\ Below w0.heap.size w0 w') \/
   ((x, y) ∉ L /\ TC L y x /\ e = .returned (.tuple #[pv, .int .i64 16]) /\ Below w0.heap.size w0 w') \/
   ((x, y) ∉ L /\ ¬ TC L y x /\ ∃ v, e = .returned (.tuple #[v, .int .i64 0]) /\ St w0 w' [.own v 107 2 (L.length + 1) (Ad (ins L (x, y)))] fun _ _ => True))
theorem ins_at {L : List (Nat × Nat)} {y : Nat × Nat} {i : Nat} (h : i <= CR L y) {x : Nat × Nat} (hx : L[i]? = some x) : (GX x y -> i + 1 <= CR L y) /\ (¬ GX x y -> i = CR L y) := by
 constructor
 ·intro hp
  rcases Nat.lt_or_ge i (CR L y) with h1 | h1
  ·exact h1
  ·obtain rfl : i = CR L y := by omega
   exact absurd hp (insAt_stop hx)
 ·intro hp
  rcases Nat.lt_or_ge i (CR L y) with h1 | h1
  ·obtain ⟨z, h2, h3⟩ := insAt_lt h1
   rw [hx] at h2
   cases h2
   exact absurd h3 hp
  ·omega
theorem EE (L : List (Nat × Nat)) : ∀ k, (Ad L).drop (k * 2) = Ad (L.drop k) := by
 induction L with
 | nil => intro k; simp [Ad]
 | cons x L ih =>
  intro k
  cases k with
  | zero => simp [Ad]
  | succ k => rw [show (k + 1) * 2 = k * 2 + 1 + 1 by omega, DI]; simp [ih]
def Bu (L : List (Nat × Nat)) (z : Nat × Nat) (i : Nat) : AD := ⟨107, 2, 4, fun s => match s with | 0 => 0 | 1 => 0 + i | 2 => 0 + i + 1 | _ => 0 + i + 1 + (L.length - i), fun s => match s with | 0 => [] | 1 => [] ++ (Ad L).take (i * 2) | 2 => [] ++ (Ad L).take (i * 2) ++ Ad [z] | _ => [] ++ (Ad L).take (i * 2) ++ Ad [z] ++ (Ad L).drop (i * 2), fun _ v => .own v 107 2 1 (Ad [z])⟩
def CC : List (Nat × (Bool × Nat)) := [(0, (true, 0)), (4, (true, 1)), (8, (false, 0)), (9, (true, 2)), (13, (true, 3))]
set_option maxHeartbeats 2000000 in
theorem rlink_any {w0 : World} {D : Nat -> Prop} {pv : Value} {L : List (Nat × Nat)} (h : Sl w0 D 2 pv L.length (Ad L)) (hL : Ew 64 L) (hl : L.length <= 1000000) (a b : Int) :
  Calls Tryz.prog 52 #[pv, .int .i64 a, .int .i64 b] w0 (RLinkP w0 pv L a b) := by
 obtain ⟨A, c, rfl, hc1, _⟩ := h.shape
 obtain ⟨K, kp, hS⟩ : ∃ K : (Nat -> Prop) -> World -> Prop, (∀ D w, K D w -> Sl w D 2 (.slice A L.length c) L.length (Ad L)) /\ St w0 w0 [] K := ⟨_, fun _ _ h => h, St.start (Av (by decide)) h⟩
 clear h
 have HH := Lib.hid (fun (w : World) (D : Nat -> Prop) (h : Sl w D 2 (.slice A L.length c) L.length (Ad L)) => rhas_any h hl a b)
 have HI := Lib.hid (fun (w : World) (D : Nat -> Prop) (h : Sl w D 2 (.slice A L.length c) L.length (Ad L)) => rimpl_any h hL hl b a)
 by_cases hra : 1 <= a /\ a <= 63
 ·have HRA := Lib.hid (decide_eq_true hra)
  by_cases hrb : 1 <= b /\ b <= 63
  ·have HRB := Lib.hid (decide_eq_true hrb)
   by_cases hab : a = b
   ·subst hab
    have HNO : Hid (¬ twoR a a) := Lib.hid fun h => h.2.2 rfl
    clear hra hrb
    go_enter Tryz.func52, Tryz.ntmps52
    go_wp2_with (first
     | ((with_reducible refine qB ?_); refine qc ?_ ?_ <;> intro h_ <;> go_prune)
     | (go_at_call 126; refine (Ca _ _).mono ?_; (first | rw [HRA.out] | rw [HRB.out]); rintro r_ w_ ⟨_, rfl, rfl, hb_⟩; replace hS := hS.ext hb_; clear hb_))
    go_ret2
    exact .inl ⟨HNO.out, rfl, hS.below⟩
   ·obtain ⟨x, rfl⟩ : ∃ x : Nat, a = (x : Int) := ⟨a.toNat, by omega⟩
    obtain ⟨y, rfl⟩ : ∃ y : Nat, b = (y : Int) := ⟨b.toNat, by omega⟩
    have hx1 : Hid (1 <= x /\ x < 64) := Lib.hid (by omega)
    have hy1 : Hid (1 <= y /\ y < 64) := Lib.hid (by omega)
    have hxy : Hid (x ≠ y) := Lib.hid (by omega)
    have HC1 : Hid (∀ c : Bool, (c = true ↔ ∃ z ∈ L, (x : Int) = (z.1 : Int) /\ (y : Int) = (z.2 : Int)) -> c = decide ((x, y) ∈ L)) := Lib.hid fun c hc => by
     rw [Bool.eq_iff_iff, hc, decide_eq_true_iff]
     constructor
     ·rintro ⟨⟨za, zb⟩, h1, h2, h3⟩
      dsimp only at h2 h3
      obtain rfl : x = za := by omega
      obtain rfl : y = zb := by omega
      exact h1
     ·intro h; exact ⟨_, h, rfl, rfl⟩
    have HC2 : Hid (∀ c : Bool, (c = true ↔ H9 L (y : Nat) (x : Nat)) -> (c = true ↔ TC L y x)) := Lib.hid fun c hc => hc.trans ⟨fun ⟨i, j, h1, h2, _, _, h3⟩ => by
      obtain rfl : y = i := by omega
      obtain rfl : x = j := by omega
      exact h3.resolve_left fun e => hxy.out e.symm, fun h => ⟨y, x, rfl, rfl, hy1.out, hx1.out, .inr h⟩⟩
    clear hra hrb
    by_cases hm : (x, y) ∈ L
    ·go_enter Tryz.func52, Tryz.ntmps52
     go_wp2_with (first
      | ((with_reducible refine qB ?_); refine qc ?_ ?_ <;> intro h_ <;> go_prune)
      | (go_at_call 126; refine (Ca _ _).mono ?_; (first | rw [HRA.out] | rw [HRB.out]); rintro r_ w_ ⟨_, rfl, rfl, hb_⟩; replace hS := hS.ext hb_; clear hb_)
      | (go_at_call 127; refine (HH.out _ _ (kp _ _ hS.ro)).mono ?_; rintro r_ w_ ⟨_, rfl, ⟨c, rfl, hc⟩, hb_⟩; replace hc := HC1.out c hc; rw [decide_eq_true hm] at hc; subst hc; replace hS := hS.ext hb_; clear hb_))
     go_ret2
     exact .inr ⟨x, y, rfl, rfl, hx1.out, hy1.out, hxy.out, .inl ⟨hm, rfl, hS.below⟩⟩
    ·by_cases ht : TC L y x
     ·have HT := Lib.hid ht
      have HC3 : Hid (∀ c : Bool, (c = true ↔ H9 L (y : Nat) (x : Nat)) -> c = true) := Lib.hid fun c hc => (HC2.out c hc).2 ht
      clear ht
      go_enter Tryz.func52, Tryz.ntmps52
      go_wp2_with (first
       | ((with_reducible refine qB ?_); refine qc ?_ ?_ <;> intro h_ <;> go_prune)
       | (go_at_call 126; refine (Ca _ _).mono ?_; (first | rw [HRA.out] | rw [HRB.out]); rintro r_ w_ ⟨_, rfl, rfl, hb_⟩; replace hS := hS.ext hb_; clear hb_)
       | (go_at_call 127; refine (HH.out _ _ (kp _ _ hS.ro)).mono ?_; rintro r_ w_ ⟨_, rfl, ⟨c, rfl, hc⟩, hb_⟩; replace hc := HC1.out c hc; rw [decide_eq_false hm] at hc; subst hc; replace hS := hS.ext hb_; clear hb_)
       | (go_at_call 83; refine (HI.out _ _ (kp _ _ hS.ro)).mono ?_; rintro r_ w_ ⟨_, rfl, ⟨c, rfl, hc⟩, hb_⟩; obtain rfl := HC3.out c hc; clear hc; replace hS := hS.ext hb_; clear hb_))
      go_ret2
      exact .inr ⟨x, y, rfl, rfl, hx1.out, hy1.out, hxy.out, .inr (.inl ⟨hm, HT.out, rfl, hS.below⟩)⟩
     ·have HT := Lib.hid ht
      have HC3 : Hid (∀ c : Bool, (c = true ↔ H9 L (y : Nat) (x : Nat)) -> c = false) := Lib.hid fun c hc => by
       cases c with
       | true => exact absurd ((HC2.out true hc).1 rfl) ht
       | false => rfl
      clear ht
      go_enter Tryz.func52, Tryz.ntmps52
      go_wp2_with (first
       | ((with_reducible refine qB ?_); refine qc ?_ ?_ <;> intro h_ <;> go_prune)
       | (go_at_call 126; refine (Ca _ _).mono ?_; (first | rw [HRA.out] | rw [HRB.out]); rintro r_ w_ ⟨_, rfl, rfl, hb_⟩; replace hS := hS.ext hb_; clear hb_)
       | (go_at_call 127; refine (HH.out _ _ (kp _ _ hS.ro)).mono ?_; rintro r_ w_ ⟨_, rfl, ⟨c, rfl, hc⟩, hb_⟩; replace hc := HC1.out c hc; rw [decide_eq_false hm] at hc; subst hc; replace hS := hS.ext hb_; clear hb_)
       | (go_at_call 83; refine (HI.out _ _ (kp _ _ hS.ro)).mono ?_; rintro r_ w_ ⟨_, rfl, ⟨c, rfl, hc⟩, hb_⟩; obtain rfl := HC3.out c hc; clear hc; replace hS := hS.ext hb_; clear hb_))
      go_loopw [8] (fun v wr => ∃ i : Nat, v = .int .i64 (i : Nat) /\ i <= L.length /\ Hid (i <= CR L (x, y)) /\ St w0 wr [] K) (fun v _ => L.length - (intOf v).toNat)
      case atStart => exact ⟨0, rfl, by omega, Lib.hid (Nat.zero_le _), hS⟩
      case round =>
       clear hS HH HI
       obtain ⟨i, rfl, hil, HIA, hS⟩ := hrel
       by_cases hlt : i < L.length
       ·obtain ⟨f1, f2⟩ := Bj L i hlt
        have HST := Lib.hid (ins_at HIA.out (C4 (0, 0) hlt))
        generalize L.getD i (0, 0) = z at *
        obtain ⟨za, zb⟩ := z
        dsimp only at f1 f2
        rcases Nat.lt_trichotomy za x with h1 | h1 | h1
        ·have HN := Lib.hid (HST.out.1 (.inl h1))
         clear HST
         go_wp2_with (first
          | ((with_reducible refine qB ?_); refine qc ?_ ?_ <;> intro h_ <;> go_prune)
          | ((with_reducible refine qI ?_); refine qj hS Tryz.underlying25 ?_; intro b_ j_ hc0_ hc1_)
          | ((with_reducible refine qK ?_); first | refine BigFrame.wpList_want rfl fun _ hK => Az rfl rfl (by kernel_rfl) hc0_ (hK _ _ ?_) | refine BigFrame.wpList_want rfl fun _ hK => Az rfl rfl (by kernel_rfl) hc1_ (hK _ _ ?_)))
         exact ⟨⟨i + 1, by go_num, hlt, HN, hS⟩, by simp [intOf]; omega⟩
        ·by_cases h2 : zb < y
         ·have HN := Lib.hid (HST.out.1 (.inr ⟨h1, h2⟩))
          clear HST
          go_wp2_with (first
           | ((with_reducible refine qB ?_); refine qc ?_ ?_ <;> intro h_ <;> go_prune)
           | ((with_reducible refine qI ?_); refine qj hS Tryz.underlying25 ?_; intro b_ j_ hc0_ hc1_)
           | ((with_reducible refine qK ?_); first | refine BigFrame.wpList_want rfl fun _ hK => Az rfl rfl (by kernel_rfl) hc0_ (hK _ _ ?_) | refine BigFrame.wpList_want rfl fun _ hK => Az rfl rfl (by kernel_rfl) hc1_ (hK _ _ ?_)))
          exact ⟨⟨i + 1, by go_num, hlt, HN, hS⟩, by simp [intOf]; omega⟩
         ·have HE := Lib.hid (HST.out.2 (by rintro (h | h) <;> dsimp only at h <;> omega))
          clear HST
          go_wp2_with (first
           | ((with_reducible refine qB ?_); refine qc ?_ ?_ <;> intro h_ <;> go_prune)
           | ((with_reducible refine qI ?_); refine qj hS Tryz.underlying25 ?_; intro b_ j_ hc0_ hc1_)
           | ((with_reducible refine qK ?_); first | refine BigFrame.wpList_want rfl fun _ hK => Az rfl rfl (by kernel_rfl) hc0_ (hK _ _ ?_) | refine BigFrame.wpList_want rfl fun _ hK => Az rfl rfl (by kernel_rfl) hc1_ (hK _ _ ?_)))
          have hic : i <= c := by omega
          have hJ0 : AJ w0 [] K (Bu L (x, y) i) (wr.drew, ⟨[], []⟩) := ⟨hS.drew, Nat.zero_le _⟩
          have hN0 := J2 CC wr.drew
          have hRr := @AR.refl w0 [] K (Bu L (x, y) i)
          have hRt := @AR.trans w0 [] K (Bu L (x, y) i)
          refine Ex (AR w0 [] K (Bu L (x, y) i)) (AN CC) (⟨[], []⟩) hRr hRt [.s (fun v w => Fj w.2 0 v) fun v w w' h hb => h.mono hb.2.1, .i (.slice A L.length c), .n ((i : Nat) : Int), .i (.slice A i c), .s (fun v w => Fj w.2 1 v) fun v w w' h hb => h.mono hb.2.1, .n ((x : Nat) : Int), .n ((y : Nat) : Int), .i (.agg #[.int .i64 ((x : Nat) : Int), .int .i64 ((y : Nat) : Int)]), .s (fun v w => (0, v) ∈ w.2.b) fun v w w' h hb => hb.2.2 _ h, .s (fun v w => Fj w.2 2 v) fun v w w' h hb => h.mono hb.2.1, .i (.slice A L.length c), .n ((i : Nat) : Int), .i (sliced A i L.length c 2), .s (fun v w => Fj w.2 3 v) fun v w w' h hb => h.mono hb.2.1, .s (fun v w => Fj w.2 3 v) fun v w w' h hb => h.mono hb.2.1, .n 0] ?_ ⟨?_, uM, uM, ?_, ?_, uM, uM, ?_, ?_, ?_, uM, uM, ?_, ?_, uA, uA, trivial⟩ ?_
          ·first | assumption | (intro i; (try dsimp only); split <;> first | trivial | assumption | (left; assumption))
          ·refine uG fun b__ w hW hN hE K hK => ?_
           exact EM (kd := CC) (by decide) rfl rfl Tryz.underlying25 (by kernel_rfl) hN rfl rfl (show 0 < 4 by decide) hK
          ·refine uG fun b__ w hW hN hE K hK => ?_
           have e67 := hE 67
           have e68 := hE 68
           exact opw_slh rfl Tryz.underlying25 ⟨2, by kernel_rfl⟩ e67 e68 hic (hK _ _ rfl ⟨hRr _, fun _ _ h => h⟩)
          ·refine uG fun b__ w hW hN hE K hK => ?_
           have e66 := hE 66
           have e69 := hE 69
           exact BB (kd := CC) (by decide) rfl rfl C7 hN e66 (hW.1 hJ0) (by rw [e69]; exact Ia (kp _ _ (hW.1 hJ0).1.ro) hil) (fun u hu => Bt L u (List.mem_of_mem_take hu)) rfl rfl (by simp [Bu]; omega) (by simp [Bu]; omega) (show 0 + 1 < 4 by decide) hK
          ·refine uG fun b__ w hW hN hE K hK => ?_
           have e71 := hE 71
           have e72 := hE 72
           exact B9 rfl (ps := [(0, .int .i64 ((x : Nat) : Int)), (1, .int .i64 ((y : Nat) : Int))]) (cells := #[.int .i64 ((x : Nat) : Int), .int .i64 ((y : Nat) : Int)]) (by simp [e71, e72]) (by kernel_rfl) (hK _ _ rfl ⟨hRr _, fun _ _ h => h⟩)
          ·refine uG fun b__ w hW hN hE K hK => ?_
           have e73 := hE 73
           exact Fq (kd := CC) (by decide) rfl rfl Tryz.underlying25 (ps := [(0, .agg #[.int .i64 ((x : Nat) : Int), .int .i64 ((y : Nat) : Int)])]) (cells := #[.int .i64 ((x : Nat) : Int), .int .i64 ((y : Nat) : Int)]) (by simp [e73]) (by kernel_rfl) (fun _ => rfl) rfl (by decide) hK
          ·refine uG fun b__ w hW hN hE K hK => ?_
           have e70 := hE 70
           have e74 := hE 74
           exact BB (kd := CC) (by decide) rfl rfl C7 hN e70 (hW.1 hJ0) (Sl.of_own ((hW.1 hJ0).side e74)) (Bt [(x, y)]) rfl rfl (by simp [Bu]; omega) (by simp [Bu]; omega) (show 1 + 1 < 4 by decide) hK
          ·refine uG fun b__ w hW hN hE K hK => ?_
           have e76 := hE 76
           have e77 := hE 77
           exact opw_sll rfl Tryz.underlying25 (by kernel_rfl) e76 e77 hil hc1 (hK _ _ rfl ⟨hRr _, fun _ _ h => h⟩)
          ·refine uG fun b__ w hW hN hE K hK => ?_
           have e75 := hE 75
           have e78 := hE 78
           exact BB (kd := CC) (by decide) rfl rfl C7 hN e75 (hW.1 hJ0) (by rw [e78]; exact Ib (kp _ _ (hW.1 hJ0).1.ro) hil) (fun u hu => Bt L u (List.mem_of_mem_drop hu)) rfl rfl (by simp [Bu]; omega) (by simp [Bu]; omega) (show 2 + 1 < 4 by decide) hK
          ·intro vs wz hW hT
           obtain ⟨e66, e67, e68, e69, e70, e71, e72, e73, e74, e75, e76, e77, e78, e79, e6, e7, -⟩ := hT
           have bx : (fun _ : Nat => True) 0 := trivial
           simp only [Ak, Act.put, zz, ze]
           have hJ := (hW.1 hJ0).last e6 rfl
           replace hJ : St w0 wz.1 [.own (vs 6) 107 2 (L.length + 1) (Ad (ins L (x, y)))] fun _ _ => True := by
            have e1 : 0 + i + 1 + (L.length - i) = L.length + 1 := by omega
            have e2 : [] ++ (Ad L).take (i * 2) ++ Ad [(x, y)] ++ (Ad L).drop (i * 2) = Ad (ins L (x, y)) := by
             rw [List.nil_append, DH, EE, <- CI, <- CI, ins, <- HE.out, List.append_assoc]; rfl
            simp only [Bu] at hJ
            rw [e1, e2] at hJ
            exact hJ.mono (AC.pure True) fun _ _ _ => trivial
           rw [e7]
           generalize vs 6 = v6 at *
           generalize wz.1 = wf at *
           clear hW hJ0 hRr hRt e6 e7
           go_wp2_with fail
           all_goals
            go_ret2
            exact .inr ⟨x, y, rfl, rfl, hx1.out, hy1.out, hxy.out, .inr (.inr ⟨hm, HT.out, _, rfl, hJ⟩)⟩
        ·have HE := Lib.hid (HST.out.2 (by rintro (h | h) <;> dsimp only at h <;> omega))
         clear HST
         go_wp2_with (first
          | ((with_reducible refine qB ?_); refine qc ?_ ?_ <;> intro h_ <;> go_prune)
          | ((with_reducible refine qI ?_); refine qj hS Tryz.underlying25 ?_; intro b_ j_ hc0_ hc1_)
          | ((with_reducible refine qK ?_); first | refine BigFrame.wpList_want rfl fun _ hK => Az rfl rfl (by kernel_rfl) hc0_ (hK _ _ ?_) | refine BigFrame.wpList_want rfl fun _ hK => Az rfl rfl (by kernel_rfl) hc1_ (hK _ _ ?_)))
         have hic : i <= c := by omega
         have hJ0 : AJ w0 [] K (Bu L (x, y) i) (wr.drew, ⟨[], []⟩) := ⟨hS.drew, Nat.zero_le _⟩
         have hN0 := J2 CC wr.drew
         have hRr := @AR.refl w0 [] K (Bu L (x, y) i)
         have hRt := @AR.trans w0 [] K (Bu L (x, y) i)
         refine Ex (AR w0 [] K (Bu L (x, y) i)) (AN CC) (⟨[], []⟩) hRr hRt [.s (fun v w => Fj w.2 0 v) fun v w w' h hb => h.mono hb.2.1, .i (.slice A L.length c), .n ((i : Nat) : Int), .i (.slice A i c), .s (fun v w => Fj w.2 1 v) fun v w w' h hb => h.mono hb.2.1, .n ((x : Nat) : Int), .n ((y : Nat) : Int), .i (.agg #[.int .i64 ((x : Nat) : Int), .int .i64 ((y : Nat) : Int)]), .s (fun v w => (0, v) ∈ w.2.b) fun v w w' h hb => hb.2.2 _ h, .s (fun v w => Fj w.2 2 v) fun v w w' h hb => h.mono hb.2.1, .i (.slice A L.length c), .n ((i : Nat) : Int), .i (sliced A i L.length c 2), .s (fun v w => Fj w.2 3 v) fun v w w' h hb => h.mono hb.2.1, .s (fun v w => Fj w.2 3 v) fun v w w' h hb => h.mono hb.2.1, .n 0] ?_ ⟨?_, uM, uM, ?_, ?_, uM, uM, ?_, ?_, ?_, uM, uM, ?_, ?_, uA, uA, trivial⟩ ?_
         ·first | assumption | (intro i; (try dsimp only); split <;> first | trivial | assumption | (left; assumption))
         ·refine uG fun b__ w hW hN hE K hK => ?_
          exact EM (kd := CC) (by decide) rfl rfl Tryz.underlying25 (by kernel_rfl) hN rfl rfl (show 0 < 4 by decide) hK
         ·refine uG fun b__ w hW hN hE K hK => ?_
          have e67 := hE 67
          have e68 := hE 68
          exact opw_slh rfl Tryz.underlying25 ⟨2, by kernel_rfl⟩ e67 e68 hic (hK _ _ rfl ⟨hRr _, fun _ _ h => h⟩)
         ·refine uG fun b__ w hW hN hE K hK => ?_
          have e66 := hE 66
          have e69 := hE 69
          exact BB (kd := CC) (by decide) rfl rfl C7 hN e66 (hW.1 hJ0) (by rw [e69]; exact Ia (kp _ _ (hW.1 hJ0).1.ro) hil) (fun u hu => Bt L u (List.mem_of_mem_take hu)) rfl rfl (by simp [Bu]; omega) (by simp [Bu]; omega) (show 0 + 1 < 4 by decide) hK
         ·refine uG fun b__ w hW hN hE K hK => ?_
          have e71 := hE 71
          have e72 := hE 72
          exact B9 rfl (ps := [(0, .int .i64 ((x : Nat) : Int)), (1, .int .i64 ((y : Nat) : Int))]) (cells := #[.int .i64 ((x : Nat) : Int), .int .i64 ((y : Nat) : Int)]) (by simp [e71, e72]) (by kernel_rfl) (hK _ _ rfl ⟨hRr _, fun _ _ h => h⟩)
         ·refine uG fun b__ w hW hN hE K hK => ?_
          have e73 := hE 73
          exact Fq (kd := CC) (by decide) rfl rfl Tryz.underlying25 (ps := [(0, .agg #[.int .i64 ((x : Nat) : Int), .int .i64 ((y : Nat) : Int)])]) (cells := #[.int .i64 ((x : Nat) : Int), .int .i64 ((y : Nat) : Int)]) (by simp [e73]) (by kernel_rfl) (fun _ => rfl) rfl (by decide) hK
         ·refine uG fun b__ w hW hN hE K hK => ?_
          have e70 := hE 70
          have e74 := hE 74
          exact BB (kd := CC) (by decide) rfl rfl C7 hN e70 (hW.1 hJ0) (Sl.of_own ((hW.1 hJ0).side e74)) (Bt [(x, y)]) rfl rfl (by simp [Bu]; omega) (by simp [Bu]; omega) (show 1 + 1 < 4 by decide) hK
         ·refine uG fun b__ w hW hN hE K hK => ?_
          have e76 := hE 76
          have e77 := hE 77
          exact opw_sll rfl Tryz.underlying25 (by kernel_rfl) e76 e77 hil hc1 (hK _ _ rfl ⟨hRr _, fun _ _ h => h⟩)
         ·refine uG fun b__ w hW hN hE K hK => ?_
          have e75 := hE 75
          have e78 := hE 78
          exact BB (kd := CC) (by decide) rfl rfl C7 hN e75 (hW.1 hJ0) (by rw [e78]; exact Ib (kp _ _ (hW.1 hJ0).1.ro) hil) (fun u hu => Bt L u (List.mem_of_mem_drop hu)) rfl rfl (by simp [Bu]; omega) (by simp [Bu]; omega) (show 2 + 1 < 4 by decide) hK
         ·intro vs wz hW hT
          obtain ⟨e66, e67, e68, e69, e70, e71, e72, e73, e74, e75, e76, e77, e78, e79, e6, e7, -⟩ := hT
          have bx : (fun _ : Nat => True) 0 := trivial
          simp only [Ak, Act.put, zz, ze]
          have hJ := (hW.1 hJ0).last e6 rfl
          replace hJ : St w0 wz.1 [.own (vs 6) 107 2 (L.length + 1) (Ad (ins L (x, y)))] fun _ _ => True := by
           have e1 : 0 + i + 1 + (L.length - i) = L.length + 1 := by omega
           have e2 : [] ++ (Ad L).take (i * 2) ++ Ad [(x, y)] ++ (Ad L).drop (i * 2) = Ad (ins L (x, y)) := by
            rw [List.nil_append, DH, EE, <- CI, <- CI, ins, <- HE.out, List.append_assoc]; rfl
           simp only [Bu] at hJ
           rw [e1, e2] at hJ
           exact hJ.mono (AC.pure True) fun _ _ _ => trivial
          rw [e7]
          generalize vs 6 = v6 at *
          generalize wz.1 = wf at *
          clear hW hJ0 hRr hRt e6 e7
          go_wp2_with fail
          all_goals
           go_ret2
           exact .inr ⟨x, y, rfl, rfl, hx1.out, hy1.out, hxy.out, .inr (.inr ⟨hm, HT.out, _, rfl, hJ⟩)⟩
       ·have HE : Hid (i = CR L (x, y)) := Lib.hid (Nat.le_antisymm HIA.out (by have := insAt_le L (x, y); omega))
        go_wp2_with (first | ((with_reducible refine qB ?_); refine qc ?_ ?_ <;> intro h_ <;> go_prune))
        have hic : i <= c := by omega
        have hJ0 : AJ w0 [] K (Bu L (x, y) i) (wr.drew, ⟨[], []⟩) := ⟨hS.drew, Nat.zero_le _⟩
        have hN0 := J2 CC wr.drew
        have hRr := @AR.refl w0 [] K (Bu L (x, y) i)
        have hRt := @AR.trans w0 [] K (Bu L (x, y) i)
        refine Ex (AR w0 [] K (Bu L (x, y) i)) (AN CC) (⟨[], []⟩) hRr hRt [.s (fun v w => Fj w.2 0 v) fun v w w' h hb => h.mono hb.2.1, .i (.slice A L.length c), .n ((i : Nat) : Int), .i (.slice A i c), .s (fun v w => Fj w.2 1 v) fun v w w' h hb => h.mono hb.2.1, .n ((x : Nat) : Int), .n ((y : Nat) : Int), .i (.agg #[.int .i64 ((x : Nat) : Int), .int .i64 ((y : Nat) : Int)]), .s (fun v w => (0, v) ∈ w.2.b) fun v w w' h hb => hb.2.2 _ h, .s (fun v w => Fj w.2 2 v) fun v w w' h hb => h.mono hb.2.1, .i (.slice A L.length c), .n ((i : Nat) : Int), .i (sliced A i L.length c 2), .s (fun v w => Fj w.2 3 v) fun v w w' h hb => h.mono hb.2.1, .s (fun v w => Fj w.2 3 v) fun v w w' h hb => h.mono hb.2.1, .n 0] ?_ ⟨?_, uM, uM, ?_, ?_, uM, uM, ?_, ?_, ?_, uM, uM, ?_, ?_, uA, uA, trivial⟩ ?_
        ·first | assumption | (intro i; (try dsimp only); split <;> first | trivial | assumption | (left; assumption))
        ·refine uG fun b__ w hW hN hE K hK => ?_
         exact EM (kd := CC) (by decide) rfl rfl Tryz.underlying25 (by kernel_rfl) hN rfl rfl (show 0 < 4 by decide) hK
        ·refine uG fun b__ w hW hN hE K hK => ?_
         have e67 := hE 67
         have e68 := hE 68
         exact opw_slh rfl Tryz.underlying25 ⟨2, by kernel_rfl⟩ e67 e68 hic (hK _ _ rfl ⟨hRr _, fun _ _ h => h⟩)
        ·refine uG fun b__ w hW hN hE K hK => ?_
         have e66 := hE 66
         have e69 := hE 69
         exact BB (kd := CC) (by decide) rfl rfl C7 hN e66 (hW.1 hJ0) (by rw [e69]; exact Ia (kp _ _ (hW.1 hJ0).1.ro) hil) (fun u hu => Bt L u (List.mem_of_mem_take hu)) rfl rfl (by simp [Bu]; omega) (by simp [Bu]; omega) (show 0 + 1 < 4 by decide) hK
        ·refine uG fun b__ w hW hN hE K hK => ?_
         have e71 := hE 71
         have e72 := hE 72
         exact B9 rfl (ps := [(0, .int .i64 ((x : Nat) : Int)), (1, .int .i64 ((y : Nat) : Int))]) (cells := #[.int .i64 ((x : Nat) : Int), .int .i64 ((y : Nat) : Int)]) (by simp [e71, e72]) (by kernel_rfl) (hK _ _ rfl ⟨hRr _, fun _ _ h => h⟩)
        ·refine uG fun b__ w hW hN hE K hK => ?_
         have e73 := hE 73
         exact Fq (kd := CC) (by decide) rfl rfl Tryz.underlying25 (ps := [(0, .agg #[.int .i64 ((x : Nat) : Int), .int .i64 ((y : Nat) : Int)])]) (cells := #[.int .i64 ((x : Nat) : Int), .int .i64 ((y : Nat) : Int)]) (by simp [e73]) (by kernel_rfl) (fun _ => rfl) rfl (by decide) hK
        ·refine uG fun b__ w hW hN hE K hK => ?_
         have e70 := hE 70
         have e74 := hE 74
         exact BB (kd := CC) (by decide) rfl rfl C7 hN e70 (hW.1 hJ0) (Sl.of_own ((hW.1 hJ0).side e74)) (Bt [(x, y)]) rfl rfl (by simp [Bu]; omega) (by simp [Bu]; omega) (show 1 + 1 < 4 by decide) hK
        ·refine uG fun b__ w hW hN hE K hK => ?_
         have e76 := hE 76
         have e77 := hE 77
         exact opw_sll rfl Tryz.underlying25 (by kernel_rfl) e76 e77 hil hc1 (hK _ _ rfl ⟨hRr _, fun _ _ h => h⟩)
        ·refine uG fun b__ w hW hN hE K hK => ?_
         have e75 := hE 75
         have e78 := hE 78
         exact BB (kd := CC) (by decide) rfl rfl C7 hN e75 (hW.1 hJ0) (by rw [e78]; exact Ib (kp _ _ (hW.1 hJ0).1.ro) hil) (fun u hu => Bt L u (List.mem_of_mem_drop hu)) rfl rfl (by simp [Bu]; omega) (by simp [Bu]; omega) (show 2 + 1 < 4 by decide) hK
        ·intro vs wz hW hT
         obtain ⟨e66, e67, e68, e69, e70, e71, e72, e73, e74, e75, e76, e77, e78, e79, e6, e7, -⟩ := hT
         have bx : (fun _ : Nat => True) 0 := trivial
         simp only [Ak, Act.put, zz, ze]
         have hJ := (hW.1 hJ0).last e6 rfl
         replace hJ : St w0 wz.1 [.own (vs 6) 107 2 (L.length + 1) (Ad (ins L (x, y)))] fun _ _ => True := by
          have e1 : 0 + i + 1 + (L.length - i) = L.length + 1 := by omega
          have e2 : [] ++ (Ad L).take (i * 2) ++ Ad [(x, y)] ++ (Ad L).drop (i * 2) = Ad (ins L (x, y)) := by
           rw [List.nil_append, DH, EE, <- CI, <- CI, ins, <- HE.out, List.append_assoc]; rfl
          simp only [Bu] at hJ
          rw [e1, e2] at hJ
          exact hJ.mono (AC.pure True) fun _ _ _ => trivial
         rw [e7]
         generalize vs 6 = v6 at *
         generalize wz.1 = wf at *
         clear hW hJ0 hRr hRt e6 e7
         go_wp2_with fail
         all_goals
          go_ret2
          exact .inr ⟨x, y, rfl, rfl, hx1.out, hy1.out, hxy.out, .inr (.inr ⟨hm, HT.out, _, rfl, hJ⟩)⟩
  ·have HRB := Lib.hid (decide_eq_false hrb)
   have HNO : Hid (¬ twoR a b) := Lib.hid fun h => hrb h.2.1
   go_enter Tryz.func52, Tryz.ntmps52
   go_wp2_with (first
    | ((with_reducible refine qB ?_); refine qc ?_ ?_ <;> intro h_ <;> go_prune)
    | (go_at_call 126; refine (Ca _ _).mono ?_; (first | rw [HRA.out] | rw [HRB.out]); rintro r_ w_ ⟨_, rfl, rfl, hb_⟩; replace hS := hS.ext hb_; clear hb_))
   go_ret2
   exact .inl ⟨HNO.out, rfl, hS.below⟩
 ·have HRA := Lib.hid (decide_eq_false hra)
  have HRB := HRA
  have HNO : Hid (¬ twoR a b) := Lib.hid fun h => hra h.1
  go_enter Tryz.func52, Tryz.ntmps52
  go_wp2_with (first
   | ((with_reducible refine qB ?_); refine qc ?_ ?_ <;> intro h_ <;> go_prune)
   | (go_at_call 126; refine (Ca _ _).mono ?_; (first | rw [HRA.out] | rw [HRB.out]); rintro r_ w_ ⟨_, rfl, rfl, hb_⟩; replace hS := hS.ext hb_; clear hb_))
  go_ret2
  exact .inl ⟨HNO.out, rfl, hS.below⟩
end
section
open Go.RowKit
attribute [local go_sem ↓] Go.wp_at_zero Go.wp_at_succ
set_option maxRecDepth 20000
set_option exponentiation.threshold 5000
noncomputable def closPre (L : List (Nat × Nat)) (pre : List Int) : Nat := pre.foldl (fun m x => m ||| junR L x) 0
theorem closPre_snoc (L : List (Nat × Nat)) (pre : List Int) (x : Int) : closPre L (pre ++ [x]) = closPre L pre ||| junR L x := by
 unfold closPre; rw [List.foldl_append]; rfl
theorem tb_foldor (f : Int -> Nat) (i : Nat) : ∀ (l : List Int) (m : Nat), (l.foldl (fun m x => m ||| f x) m).testBit i = true ↔ m.testBit i = true \/ ∃ x ∈ l, (f x).testBit i = true
 | [], m => by simp
 | x :: l, m => by
  rw [List.foldl_cons, tb_foldor f i l, Dz]
  constructor
  ·rintro ((h | h) | ⟨y, h1, h2⟩)
   ·exact .inl h
   ·exact .inr ⟨x, List.mem_cons_self .., h⟩
   ·exact .inr ⟨y, List.mem_cons_of_mem _ h1, h2⟩
  ·rintro (h | ⟨y, h1, h2⟩)
   ·exact .inl (.inl h)
   ·rcases List.mem_cons.1 h1 with rfl | h1
    ·exact .inl (.inr h2)
    ·exact .inr ⟨y, h1, h2⟩
theorem closPre_full {L : List (Nat × Nat)} {ws : List Nat} (hw : AW ws) : closPre L (AV ws) = closM L (val ws) := Bi fun i => by
 unfold closPre closM
 rw [tb_foldor, De, Nat.zero_testBit]
 constructor
 ·rintro (h | ⟨x, h1, h2⟩)
  ·cases h
  ·obtain ⟨k, rfl⟩ := memL_nat h1
   have h3 := (G2 hw).1 h1
   unfold junR at h2
   split at h2
   ·rename_i h4
    exact ⟨k, by omega, by omega, h3, by simpa using h2⟩
   ·rw [Nat.zero_testBit] at h2; cases h2
 ·rintro ⟨r, h1, h2, h3, h4⟩
  refine .inr ⟨(r : Int), (G2 hw).2 h3, ?_⟩
  rw [junR, if_pos (by omega), Int.toNat_natCast]
  exact h4
set_option maxHeartbeats 2000000 in
theorem GL {w0 : World} {D E : Nat -> Prop} {p v : Value} {L : List (Nat × Nat)} {N : Nat} (h : IsH w0 D p L) (hT : Bl w0) (hH : Gm L) (hv : Aa w0 E v N) : Calls Tryz.prog 26 #[p, v] w0 (AF (fun x w' => Aa w' (w0.heap.size <= ·) x (closM L N)) w0) := by
 obtain ⟨q, o, rfl, hX⟩ := h
 obtain ⟨A, c, l, rfl, hl, rfl, _, _, hs⟩ := hv.parts
 obtain ⟨K, k1, ko, kt, hS⟩ : ∃ K : (Nat -> Prop) -> World -> Prop, (∀ D w, K D w -> Aa w D (.agg #[.slice A l.length c]) (val l)) /\ (∀ D w, K D w -> EP q o L D w) /\ (∀ D w, K D w -> Bl w /\ D 0) /\ St w0 w0 [] K :=
  ⟨fun D w => (Aa w D (.agg #[.slice A l.length c]) (val l) /\ EP q o L D w) /\ Bl w /\ D 0, fun _ _ h => h.1.1, fun _ _ h => h.1.2, fun _ _ h => h.2, St.start (D := fun _ => True) ((Ab.and Ct).and C0) ⟨⟨hv.imp fun _ _ _ => trivial, Ct D _ w0 w0 hX (Nat.le_refl _) (fun _ _ _ _ h => h) fun _ _ _ _ => trivial⟩, hT, trivial⟩⟩
 have HH := Lib.hid hH
 clear hs hv hT hX hH
 refine (callsIn_wide (n := 6)).1 (callsIn_of_wp_marks Tryz.func26 rfl trivial ?_ rfl)
 simp only [Tryz.ntmps26, List.size_toArray, List.length_cons, List.length_nil, Nat.reduceAdd, Nat.reduceSub, Array.replicate_succ, Array.replicate_zero, List.push_toArray, List.append_toArray, List.nil_append, List.cons_append]
 refine wpIn_wide.2 ?_
 go_wp2_with (first
  | ((with_reducible refine qA 2 ?_); refine Aw hS rfl _ _ rfl (.pointer (some ⟨q, 0, none⟩)) _ rfl rfl ?_; clear hS; intro g2 w_ hS; (try simp only [Act.put, Act.eval, zz, Value.cells] at hS))
  | ((with_reducible refine qA 3 ?_); refine Aw hS rfl _ _ rfl (.agg #[.slice A l.length c]) _ rfl rfl ?_; clear hS; intro g3 w_ hS; (try simp only [Act.put, Act.eval, zz, Value.cells] at hS))
  | ((with_reducible refine qA 4 ?_); refine qa hS #[.slice none 0 0] ?_; clear hS; intro g4 w_ hS)
  | ((with_reducible refine qA 5 ?_); refine qa hS #[.slice none 0 0] ?_; clear hS; intro g5 w_ hS)
  | ((with_reducible refine qK ?_); refine qL hS Tryz.underlying39 ?_))
 refine (E6 _ _ _ _ (k1 _ _ hS.ro)).mono ?_
 rintro e w3 ⟨_, rfl, ⟨Bs, A', cap, ws, rfl, e1, hcn, hvN, hsl, hBs, hX⟩, hb3⟩
 obtain rfl := Gb hcn hl hvN
 obtain ⟨rfl, rfl⟩ : A = A' /\ c = cap := by simpa using e1
 clear e1 hvN
 obtain ⟨hT, hT0⟩ := kt _ _ hS.ro
 replace hS := hS.good hb3 hsl hT hT0 hBs hX
 obtain ⟨KK, ko, kG, KKS, hS⟩ : ∃ KK : (Nat -> Prop) -> World -> Prop, (∀ D w, KK D w -> EP q o L D w) /\ (∀ D w, KK D w -> CV Bs A c ws w) /\ AC KK /\ St w0 w3 [.box g5 39 #[.slice none 0 0], .box g4 39 #[.slice none 0 0], .box g3 39 #[.slice A ws.length c], .box g2 36 #[.pointer (some ⟨q, 0, none⟩)]] KK := ⟨_, fun D w h => ko D w h.1, fun D w h => h.2.1, hS.stable, hS⟩
 have HCN := Lib.hid hcn
 have HCF := Lib.hid (closPre_full (L := L) hcn.1)
 clear hsl hX hT hT0 hb3 kt k1 hcn hl
 go_wp2_with fail
 have hsz := hS.size
 refine (wpIn_wide (n := 6)).1 ?_
 refine Ey fun act hact => ?_
 refine Fm hS HCN.out.1 HCN.out.2.2 kG (by rw [hact]; rfl) rfl
  (fun pre F' K' => ∃ u, F' = [.box g5 39 #[u], .box g4 39 #[.slice none 0 0], .box g3 39 #[.slice A ws.length c], .box g2 36 #[.pointer (some ⟨q, 0, none⟩)]] /\ AC K' /\ ∀ D w, K' D w -> KK D w /\ Aa w (fun z => D z /\ w0.heap.size <= z) (.agg #[u]) (closPre L pre))
  (fun _ _ _ _ => False) (fun s F K' h D w hk => by obtain ⟨_, _, _, h4⟩ := h; exact (h4 D w hk).1) ?hr (fun _ _ _ _ h => h.elim) ⟨_, rfl, KKS, fun D w h => ⟨h, Aa.empty⟩⟩
  (fun x => { tmps := (act.tmps.setIfInBounds 9 (.int .i64 x)).setIfInBounds 6 (.int .i64 x), defers := [] }) ?assign ?body ?done (fun _ _ _ _ _ _ _ _ h _ _ => h.elim)
 case hr =>
  rintro s F K' ⟨u, rfl, _⟩ f hf
  simp only [List.mem_cons, List.not_mem_nil, or_false] at hf
  rcases hf with rfl | rfl | rfl | rfl <;> exact .inl rfl
 case assign =>
  intro l x W K hK
  subst hact
  rw [Ft]
  refine wpIn_region_lit ?_
  refine Cd (by intro _ _ h; exact h) _ _ _ (by rfl) _ _ ?_
  refine wpList_plain rfl fun _ hK' => Cn (v := .int .i64 x) rfl (by rfl) (hK' _ _ ?_)
  exact wpList_nil hK
 case body =>
  rintro l pre x hx W F' Xo K' ⟨ub, rfl, hKs, hk'⟩ hS hlt
  subst hact
  have HW := Lib.hid (closPre_snoc L pre x)
  generalize closPre L pre = N0 at *
  have HKP := Lib.hid hk'
  have hWs : W.heap.size <= W.heap.size := Nat.le_refl _
  clear hx hk'
  simp only [Act.put, List.setIfInBounds_toArray, List.set_cons_zero, List.set_cons_succ]
  refine wpIn_block ?_
  refine Ci (by kernel_rfl) (by intro _ _ h; exact h) (by rfl) ?_
  refine IV 5 [] [.i (.agg #[ub]), .q q 0, .n x, .s (fun v w => Aa w (fun _ => True) v (junR L x)) fun v w w' h hb => h.ext hb, .s (fun v w => ∃ u, v = .agg #[u] /\ u.oneCell' = true /\ Aa w (fun z => W.heap.size <= z) (.agg #[u]) (N0 ||| junR L x)) fun v w w' h hb => ⟨_, h.choose_spec.1, h.choose_spec.2.1, h.choose_spec.2.2.ext hb⟩, .t] ⟨uR (h := fun w hW hN => (hS.ext hW).box 0 rfl), uC (h := fun w hW hN => ((hS.ext hW).box 3 rfl).cell 0), uM, ?_, ?_, trivial⟩ ?_
  ·refine uT fun b__ w hW hE K hK => ?_
   have e11 := hE 11
   have e12 := hE 12
   refine Ai rfl (by kernel_rfl) (by simp only [List.map_cons, List.map_nil, e11, e12]) (hjun_any (w0 := w) ⟨q, o, rfl, ko _ _ (HKP.out _ _ (hS.ext hW).ro.1).1⟩ HH.out x) fun v w' h hb => ?_
   exact hK v w' (h.imp fun _ _ _ => trivial) hb
  ·refine uT fun b__ w hW hE K hK => ?_
   have e10 := hE 10
   have e13 := hE 13
   refine Ai rfl (by kernel_rfl) (by simp only [List.map_cons, List.map_nil, e10]) (Iw (.agg #[ub]) _ N0 _ w _ _ (HKP.out _ _ (hS.ext hW).ro.1).2 e13) fun v w' h hb => ?_
   obtain ⟨u, rfl, h1⟩ := EU h
   exact hK _ w' ⟨u, rfl, h1, h.imp fun z hz _ => Nat.le_trans hW.size hz⟩ hb
  ·intro vs wz hW hT
   obtain ⟨e10, e11, e12, e13, e14, -⟩ := hT
   have bx : (fun _ : Nat => True) 0 := trivial
   simp only [Ak, Act.put, zz, ze]
   (intro o_ ho_; simp only [List.getElem?_toArray, List.getElem?_cons_succ, List.getElem?_cons_zero, Option.some.injEq] at ho_; subst ho_)
   obtain ⟨un, e14, hu1, hun⟩ := e14
   have hsW := hS.size
   have hS1 := hS.ret hW (C3 (Ab (v := .agg #[un]) (N := N0 ||| junR L x)) fun z => w0.heap.size <= z) (hun.imp fun z hz _ => ⟨hz, Nat.le_trans hsW hz⟩)
   refine Dg rfl rfl e14 (hS1.box 0 rfl) (by kernel_rfl) rfl (by simpa using hu1) fun w4 h1 hU => ?_
   have hS2 := (hS1.upd 0 rfl (.box g5 39 #[un]) (Bh hU) ⟨(hS1.holds (.box g5 39 #[ub]) (by simp)).1, h1⟩ fun _ e => .inl e)
   refine ⟨_, _, ⟨un, rfl, hS2.stable, fun D w h => ⟨(HKP.out D w h.1.1).1, by rw [HW.out]; exact h.2⟩⟩, by rw [hU.size]; exact hW.size, hS2⟩
 case done =>
  rintro D W F' K' hD ⟨u, rfl, hKs, hk'⟩ hS hK
  subst hact
  obtain ⟨A3, c3, l3, he, -⟩ := ((hk' _ _ hS.ro).2).parts
  obtain rfl : u = .slice A3 l3.length c3 := by injection he with he; simpa using he
  clear he
  have hM := hS.mark hsz hD (by
   intro f hf
   simp only [List.mem_cons, List.not_mem_nil, or_false] at hf
   rcases hf with rfl | rfl | rfl | rfl <;> exact .inl rfl) hK rfl
  have HKP := Lib.hid hk'
  clear hk' hS hK
  have hS := hM
  clear hM
  simp only [List.cons_append, List.nil_append] at hS
  go_wp2_with (first
   | ((with_reducible refine qK ?_); refine qL hS Tryz.underlying39 ?_)
   | ((with_reducible refine qM ?_); (first | refine qS hS ?_ | refine qT hS ?_); clear hS; intro w_ hS; (try simp only [Act.put, Act.eval, zz, Value.cells] at hS)))
  refine CQ (F := [.box g5 39 #[.slice A3 l3.length c3], .box g4 39 #[.slice A3 l3.length c3], .box g3 39 #[.slice A ws.length c], .box g2 36 #[.pointer (some ⟨q, 0, none⟩)]]) ?_ [D] _ hS
  intro w' h
  refine ⟨_, results_cell_row rfl _ _ g4 39 _ (0, 0) _ rfl (h.box 1 rfl) Tryz.underlying39 rfl (by kernel_rfl), ?_⟩
  exact AF.mk (by rw [<- HCF.out]; exact (HKP.out _ _ h.ro).2.imp fun z hz _ => hz.2) h.below
end
section
open Go.RowKit
attribute [local go_sem ↓] Go.wp_at_zero Go.wp_at_succ
set_option maxRecDepth 20000
def AB (l : List (Nat × Nat)) : List Value := l.flatMap fun z => [.int .u64 (z.1 : Nat), .int .u64 (z.2 : Nat)]
theorem E8 (l : List (Nat × Nat)) (k : Nat) (h : k < l.length) : (AB l)[k * 2]? = some (.int .u64 ((l.getD k (0, 0)).1 : Nat)) /\ (AB l)[k * 2 + 1]? = some (.int .u64 ((l.getD k (0, 0)).2 : Nat)) := by
 induction l generalizing k with
 | nil => simp at h
 | cons z r ih =>
  cases k with
  | zero => simp [AB]
  | succ k =>
   have := ih k (by simpa using h)
   rw [show (k + 1) * 2 = k * 2 + 2 by omega]
   simpa [AB] using this
theorem Iq (l : List (Nat × Nat)) : ∀ u ∈ AB l, u.oneCell' = true := by
 intro u hu; simp [AB] at hu; obtain ⟨a, b, _, h⟩ := hu; rcases h with rfl | rfl <;> rfl
theorem D4 (a b : List (Nat × Nat)) : AB (a ++ b) = AB a ++ AB b := by simp [AB]
def Bq (w : World) (D : Nat -> Prop) (v : Value) (l : List (Nat × Nat)) : Prop := Sl w D 2 v l.length (AB l)
theorem Bq.keep {w w' : World} {D : Nat -> Prop} {v : Value} {l : List (Nat × Nat)} (h : Bq w D v l) (hsz : w.heap.size <= w'.heap.size) (hk : ∀ p : Addr, D p.block -> p.block < w.heap.size -> w'.cell? p = w.cell? p) : Bq w' D v l := Sl.keep h hsz hk
theorem Bq.ext {w w' : World} {D : Nat -> Prop} {v : Value} {l : List (Nat × Nat)} (h : Bq w D v l) (hb : Below w.heap.size w w') : Bq w' D v l := h.keep hb.size fun _ _ hp => hb.cell hp
theorem Bq.shape {w : World} {D : Nat -> Prop} {v : Value} {l : List (Nat × Nat)} (h : Bq w D v l) : ∃ A c, v = .slice A l.length c /\ l.length <= c /\ c <= 9223372036854775807 := Sl.shape h
theorem Bq.at_ {w : World} {D : Nat -> Prop} {A : Option Addr} {c : Nat} {l : List (Nat × Nat)} (h : Bq w D (.slice A l.length c) l) {k : Nat} (hk : k < l.length) :
  ∃ b o, A = some ⟨b, o, none⟩ /\ D b /\ b < w.heap.size /\ w.cell? ⟨b, o + k * 2, none⟩ = some (.int .u64 ((l.getD k (0, 0)).1 : Nat)) /\ w.cell? ⟨b, o + k * 2 + 1, none⟩ = some (.int .u64 ((l.getD k (0, 0)).2 : Nat)) := by
 obtain ⟨_, A', c', h1, _, _, h2⟩ := h
 obtain ⟨b, o, h3, h4, h6, h5⟩ := h2 (by omega)
 injection h1 with h1
 obtain ⟨g1, g2⟩ := E8 l k hk
 exact ⟨b, o, h1.trans h3, h4, h6, h5 _ _ g1, by have := h5 _ _ g2; rw [<- Nat.add_assoc] at this; exact this⟩
def Ah (w : World) (D : Nat -> Prop) (xs : List Value) (l : List (Nat × Nat)) : Prop :=
 ∀ i y n, l[i]? = some (y, n) -> ∃ a b, xs[i * 2]? = some a /\ xs[i * 2 + 1]? = some b /\ Aa w D (.agg #[a]) y /\ Aa w D (.agg #[b]) n
theorem Ah.keep {w w' : World} {D : Nat -> Prop} {xs : List Value} {l : List (Nat × Nat)} (h : Ah w D xs l) (hsz : w.heap.size <= w'.heap.size) (hk : ∀ p : Addr, D p.block -> p.block < w.heap.size -> w'.cell? p = w.cell? p) : Ah w' D xs l := fun i y n hi => by
 obtain ⟨a, b, h1, h2, h3, h4⟩ := h i y n hi
 exact ⟨a, b, h1, h2, h3.keep hsz hk, h4.keep hsz hk⟩
theorem Ah.imp {w : World} {D D' : Nat -> Prop} {xs : List Value} {l : List (Nat × Nat)} (h : Ah w D xs l) (hD : ∀ b, D b -> b < w.heap.size -> D' b) : Ah w D' xs l := fun i y n hi => by
 obtain ⟨a, b, h1, h2, h3, h4⟩ := h i y n hi
 exact ⟨a, b, h1, h2, h3.imp hD, h4.imp hD⟩
theorem Ah.ext {w w' : World} {D : Nat -> Prop} {xs : List Value} {l : List (Nat × Nat)} (h : Ah w D xs l) (hb : Below w.heap.size w w') : Ah w' D xs l := h.keep hb.size fun _ _ hp => hb.cell hp
theorem Ah.app {w w' : World} {base : Nat} {v0 v1 : Value} {xs : List Value} {l : List (Nat × Nat)} (h : Ah w (Fn base v0) xs l) (hg : w.grownBy w' v0.ownBlock) (hat : ∀ k, v1.ownBlock = some k -> v0.ownBlock = some k \/ w.heap.size <= k) : Ah w' (Fn base v1) xs l :=
 ((h.imp (D' := fun b => (base <= b /\ v0.ownBlock ≠ some b) /\ b < w.heap.size) fun _ h1 h2 => ⟨h1, h2⟩).keep hg.size fun _ h1 h2 => IG hg h2 h1.1.2).imp fun b h1 _ => ⟨h1.1.1, fun e => by
  rcases hat b e with h | h
  ·exact h1.1.2 h
  ·have := h1.2; omega⟩
theorem Ah.nil {w : World} {D : Nat -> Prop} : Ah w D [] [] := fun i y n h => by simp at h
theorem Ah.push {w : World} {D : Nat -> Prop} {xs : List Value} {l : List (Nat × Nat)} {a b : Value} {y n : Nat} (h : Ah w D xs l) (hl : xs.length = l.length * 2) (ha : Aa w D (.agg #[a]) y) (hb : Aa w D (.agg #[b]) n) : Ah w D (xs ++ [a, b]) (l ++ [(y, n)]) := fun i y' n' hi => by
 rcases Nat.lt_or_ge i l.length with hlt | hge
 ·rw [List.getElem?_append_left hlt] at hi
  obtain ⟨a', b', h1, h2, h3, h4⟩ := h i y' n' hi
  exact ⟨a', b', by rw [List.getElem?_append_left (by omega)]; exact h1, by rw [List.getElem?_append_left (by omega)]; exact h2, h3, h4⟩
 ·have hi2 : i = l.length := by
   have := (List.getElem?_eq_some_iff.1 hi).1
   simp at this; omega
  subst hi2
  simp at hi
  obtain ⟨rfl, rfl⟩ := hi
  exact ⟨a, b, by rw [List.getElem?_append_right (by omega), hl]; simp, by rw [List.getElem?_append_right (by omega), show l.length * 2 + 1 - xs.length = 1 by omega]; rfl, ha, hb⟩
theorem Ah.cubes {w : World} {base : Nat} {v : Value} {xs : List Value} {l : List (Nat × Nat)} {e : TypeId} {D : Nat -> Prop} (h : Ah w D xs l) (ho : w.ownsRow base e 2 v l.length xs) (hD : ∀ b, base <= b -> D b) : Aj w D v l := ⟨xs, (Sl.of_own ho).imp fun b h1 _ => hD b h1, h⟩
theorem Dj : Bd Tryz.prog 41 56 2 48 := ⟨Tryz.underlying41, by kernel_rfl⟩
theorem Gv {α : Type} (l : List α) (k : Nat) (d : α) (h : k < l.length) : l.take (k + 1) = l.take k ++ [l.getD k d] := by
 rw [List.take_succ_eq_append_getElem h, List.getD_eq_getElem?_getD, List.getElem?_eq_getElem h]; rfl
def Small (l : List (Nat × Nat)) : Prop := ∀ z ∈ l, z.1 < AM /\ z.2 < AM
theorem Small.at_ {l : List (Nat × Nat)} (h : Small l) (k : Nat) (hk : k < l.length) : (l.getD k (0, 0)).1 < AM /\ (l.getD k (0, 0)).2 < AM := h _ (by rw [List.getD_eq_getElem?_getD, List.getElem?_eq_getElem hk]; exact List.getElem_mem hk)
theorem H7 (v : Value) (l : List (Nat × Nat)) (w : World) (D : Nat -> Prop) (hv : Bq w D v l) (hl : Small l) (hn : l.length <= 1000000) :
  Calls Tryz.prog 43 #[v] w (AF (fun x w' => Aj w' (w.heap.size <= ·) x l) w) := by
 obtain ⟨A, c, rfl, _, _⟩ := hv.shape
 have HL := Lib.hid hl
 clear hl
 go_enter Tryz.func43, Tryz.ntmps43
 go_wp2
 go_loopw [3, 8] (fun u i wr => ∃ k : Nat, k <= l.length /\ i = .int .i64 k /\ Below w.heap.size w wr /\ ∃ xs, wr.ownsRow w.heap.size 56 2 u k xs /\ Ah wr (Fn w.heap.size u) xs (l.take k) /\ ∀ b, u.ownBlock = some b -> w.heap.size <= b) (fun _ i _ => l.length - (intOf i).toNat)
 case atStart => exact ⟨0, by omega, rfl, Below.refl _ _, [], World.ownsRow_nil _ _ _ _, Ah.nil, by simp [Value.ownBlock]⟩
 case round =>
  obtain ⟨k, hk, rfl, hB, xs, hown, hC, hge⟩ := hrel
  have HO := Lib.hid hown
  have HG := Lib.hid hge
  clear hown hge
  by_cases hlt : k < l.length
  ·obtain ⟨b, o, rfl, _, hb, hc0, hc1⟩ := (hv.ext hB).at_ hlt
   have hs := HL.out.at_ k hlt
   have HT := Lib.hid (Gv l k (0, 0) hlt)
   have hsz := hB.size
   generalize (l.getD k (0, 0)) = z at *
   obtain ⟨y, n⟩ := z
   go_wp2_with fail
   refine (F3 y n hs.1 hs.2 _).mono ?_
   rintro e w2 ⟨v2, rfl, ⟨a2, b2, rfl, ha, hb⟩, hb2⟩
   obtain ⟨A2, m2, c2, rfl⟩ := ha.shape
   obtain ⟨A3, m3, c3, rfl⟩ := hb.shape
   replace hb2 := bel_al hb2
   have hC2 := hC.ext hb2
   have HO2 := Lib.hid (own_ext HO.out hb2)
   have hB2 := BP hB hb2
   have hsz2 := hB2.size
   have hs2 := hb2.size
   have ha2 := ha.imp (D' := Fn w.heap.size u3) fun b h1 _ => ⟨by simp at h1; omega, fun e => by have := (own_lt HO.out b e); simp at h1; omega⟩
   have hb3 := hb.imp (D' := Fn w.heap.size u3) fun b h1 _ => ⟨by simp at h1; omega, fun e => by have := (own_lt HO.out b e); simp at h1; omega⟩
   clear hb2 hC ha hb hB
   go_wp2_with ((with_reducible refine qA 15 ?_); refine Dh rfl rfl _ _ _ _ rfl rfl Dj w.heap.size _ k xs (.agg #[.slice A2 m2 c2, .slice A3 m3 c3]) #[.slice A2 m2 c2, .slice A3 m3 c3] rfl (by kernel_rfl) rfl rfl rfl HO2.out (by intro u hu; simp at hu; rcases hu with rfl | rfl <;> rfl) (by omega) (by omega) hsz2 ?_; intro v' w3 ho hg hat; have HO3 := Lib.hid ho; have HG3 := Lib.hid hg; have HA := Lib.hid hat; clear ho hg hat)
   refine ⟨⟨k + 1, hlt, by go_num, Ha HG3.out hB2 hsz2 HG.out, _, HO3.out, ?_, fun b h => by rcases HA.out b h with h | h; exact HG.out b h; omega⟩, by simp [intOf]; omega⟩
   rw [HT.out]
   exact (hC2.app HG3.out HA.out).push (by rw [HO2.out.1]; simp; omega) (ha2.app HG3.out HA.out) (hb3.app HG3.out HA.out)
  ·obtain rfl : k = l.length := by omega
   rw [List.take_length] at hC
   go_wp2_with fail
   go_ret
   exact AF.mk ((hC.imp fun b h1 _ => h1.1).cubes HO.out fun b h => h) hB
end
section
open Go.RowKit
attribute [local go_sem ↓] Go.wp_at_zero Go.wp_at_succ
set_option maxRecDepth 20000
def cc (prob : List Nat) (r : Bool) (pv qv : Value) : Array Value := (u8s prob ++ [.bool r, pv, qv]).toArray
theorem cc_size (prob : List Nat) (r : Bool) (pv qv : Value) (h : prob.length = 32) : (cc prob r pv qv).size = 35 := by simp [cc, u8s, h]
theorem cc_at (prob : List Nat) (r : Bool) (pv qv : Value) (h : prob.length = 32) : (cc prob r pv qv)[32]? = some (.bool r) /\ (cc prob r pv qv)[33]? = some pv /\ (cc prob r pv qv)[34]? = some qv := by
 refine ⟨?_, ?_, ?_⟩ <;> simp [cc, u8s, h, List.getElem?_append]
theorem Iv {w : World} {base : Nat} {e : TypeId} {size n : Nat} {v : Value} {xs : List Value} (h : w.ownsRow base e size v n xs) : ∃ A c, v = .slice A n c := by
 rcases h.2 with ⟨rfl, rfl⟩ | ⟨g, cap, cur, rfl, _⟩
 ·exact ⟨_, _, rfl⟩
 ·exact ⟨_, _, rfl⟩
theorem GF {w : World} {base : Nat} {e : TypeId} {size n : Nat} {v : Value} {xs : List Value} (h : w.ownsRow base e size v n xs) : v.cells = #[v] := by obtain ⟨A, c, rfl⟩ := Iv h; rfl
theorem own_one {w : World} {base : Nat} {e : TypeId} {size n : Nat} {v : Value} {xs : List Value} (h : w.ownsRow base e size v n xs) : v.oneCell' = true := by obtain ⟨A, c, rfl⟩ := Iv h; rfl
section
variable {w wr w1 w2 : World} {C : Nat} {par z : Array Value} {P : List Nat} {r : Bool} {plan plan' : List Int} {cubes cubes' : List (Nat × Nat)} {pv qv v : Value}
end
end
section
open Go.RowKit
attribute [local go_sem ↓] Go.wp_at_zero Go.wp_at_succ
theorem IO (y n : Value) (Y N : Nat) (w : World) (D E : Nat -> Prop) (hy : Aa w D (.agg #[y]) Y) (hn : Aa w E (.agg #[n]) N) :
  Calls Tryz.prog 66 #[.agg #[y, n]] w (AF (fun u _ => u = .bool (Y &&& N != 0)) w) := by
 obtain ⟨A, l, c, rfl⟩ := hy.shape
 obtain ⟨A', l', c', rfl⟩ := hn.shape
 go_enter Tryz.func66, Tryz.ntmps66
 go_wp2_with (go_at_call 86; refine (meets_any _ _ Y N _ D E (hy.alloc _) (hn.alloc _)).mono ?_; rintro e w' ⟨_, rfl, rfl, hb⟩)
 go_ret
 exact AF.mk rfl (((Below.refl _ _).alloc (Nat.le_refl _) _).trans (hb.mono (by simp)))
end
section
open Go.RowKit
attribute [local go_sem ↓] Go.wp_at_zero Go.wp_at_succ
set_option maxRecDepth 20000
def roles : Nat := del (2 ^ 64 - 1) 0
end
section
open Go.RowKit
attribute [local go_sem ↓] Go.wp_at_zero Go.wp_at_succ
set_option maxRecDepth 20000
end
section
open Go.RowKit
attribute [local go_sem ↓] Go.wp_at_zero Go.wp_at_succ
set_option maxRecDepth 20000
end
section
open Go.RowKit
attribute [local go_sem ↓] Go.wp_at_zero Go.wp_at_succ
set_option maxRecDepth 20000
end
section
open Go.RowKit
attribute [local go_sem ↓] Go.wp_at_zero Go.wp_at_succ
set_option maxRecDepth 20000
def lew (l : List Nat) (i : Nat) : Nat -> Nat
 | 0 => 0
 | n + 1 => (lew l i n * 256) % AM ||| l.getD (8 * i + (7 - n)) 0
theorem Fi.getD {l : List Nat} (h : Fi l) (k : Nat) : l.getD k 0 < 256 := by
 rcases Nat.lt_or_ge k l.length with h1 | h1
 ·rw [List.getD_eq_getElem?_getD, List.getElem?_eq_getElem h1]; exact h _ (List.getElem_mem h1)
 ·rw [List.getD_eq_getElem?_getD, List.getElem?_eq_none h1]; simp
def absW (a l : List Nat) (i : Nat) : Nat := a.getD i 0 ^^^ lew l i 8
def absorbK (a l : List Nat) : List Nat := perm (mixTo (absW a l) a 17)
end
section
open Go.RowKit
attribute [local go_sem ↓] Go.wp_at_zero Go.wp_at_succ
set_option maxRecDepth 20000
section
variable {w : World} {h : Nat} {t : TypeId} {st blk : List Nat} {u tot : Nat}
end
def blkOf (l : List Nat) (j : Nat) : List Nat := (l.drop (136 * j)).take 136
def stB (st l : List Nat) : Nat -> List Nat
 | 0 => st
 | j + 1 => absorbK (stB st l j) (blkOf l j)
theorem Fi.take {l : List Nat} (h : Fi l) (k : Nat) : Fi (l.take k) := fun x hx => h x (List.mem_of_mem_take hx)
theorem Fi.drop {l : List Nat} (h : Fi l) (k : Nat) : Fi (l.drop k) := fun x hx => h x (List.mem_of_mem_drop hx)
end
section
open Go.RowKit
attribute [local go_sem ↓] Go.wp_at_zero Go.wp_at_succ
set_option maxRecDepth 20000
section
variable {w : World} {b : Nat} {t : TypeId} {l : List Nat}
end
end
section
open Go.RowKit
attribute [local go_sem ↓] Go.wp_at_zero Go.wp_at_succ
set_option maxRecDepth 20000
end
section
open Go.RowKit
attribute [local go_sem ↓] Go.wp_at_zero Go.wp_at_succ
set_option maxRecDepth 20000
end
section
open Go.RowKit
attribute [local go_sem ↓] Go.wp_at_zero Go.wp_at_succ
set_option maxRecDepth 20000
theorem I9 (u v : Value) (l m : List Int) (w : World) (D E : Nat -> Prop) (hu : Sl w D 1 u l.length (Be l)) (hv : Sl w E 1 v m.length (Be m)) :
  Calls Tryz.prog 79 #[u, v] w (AF (fun x _ => x = .bool (l == m)) w) := by
 obtain ⟨A, c, rfl, h1, h2⟩ := hu.shape
 obtain ⟨A', c', rfl, h3, h4⟩ := hv.shape
 by_cases hlen : l.length = m.length
 ·rcases Nat.eq_zero_or_pos l.length with h0 | h0
  ·obtain rfl : l = [] := List.eq_nil_of_length_eq_zero h0
   obtain rfl : m = [] := List.eq_nil_of_length_eq_zero (by simpa using hlen.symm)
   refine (Tryz.slices_Equal_int_empty A A' c 0 c' w (by omega)).mono ?_
   rintro e w' ⟨rfl, rfl⟩
   exact AF.mk rfl (Below.refl _ _)
  ·obtain ⟨b, o, rfl, _, _, hc⟩ := hu.int (k := 0) h0
   obtain ⟨b', o', rfl, _, _, hc'⟩ := hv.int (k := 0) (by omega)
   refine (Tryz.slices_Equal_int b o l.length c b' o' m.length c' l m w (Nat.le_refl _) (Nat.le_refl _) (by omega) (by omega) hc hc').mono ?_
   rintro e w' ⟨rfl, q, rfl⟩
   rw [List.take_length, List.take_length]
   exact AF.mk rfl (F7 (Below.refl _ _) _)
 ·refine (Tryz.slices_Equal_int_lens A A' l.length c m.length c' w hlen).mono ?_
  rintro e w' ⟨rfl, rfl⟩
  refine AF.mk ?_ (Below.refl _ _)
  have : (l == m) = false := by rw [beq_eq_false_iff_ne]; rintro rfl; exact hlen rfl
  rw [this]
theorem CU (u v : Value) (z t : Nat × Nat) (w : World) (D E : Nat -> Prop) (hu : AH w D u z) (hv : AH w E v t) :
  Calls Tryz.prog 91 #[u, v] w (AF (fun x _ => x = .bool (z == t)) w) := by
 obtain ⟨a, b, rfl, ha, hb⟩ := hu
 obtain ⟨a', b', rfl, ha', hb'⟩ := hv
 obtain ⟨y, n⟩ := z
 obtain ⟨y', n'⟩ := t
 dsimp only at ha hb ha' hb'
 obtain ⟨A, m, c, rfl⟩ := ha.shape
 obtain ⟨B, k, d, rfl⟩ := hb.shape
 obtain ⟨A', m', c', rfl⟩ := ha'.shape
 obtain ⟨B', k', d', rfl⟩ := hb'.shape
 have hX := (BS.new w 56 #[.slice A m c, .slice B k d]).alloc (.cells #[.slice A' m' c', .slice B' k' d'] 56)
 have hY := BS.new (w.alloc (.cells #[.slice A m c, .slice B k d] 56)) 56 #[.slice A' m' c', .slice B' k' d']
 have hB := ((Below.refl w.heap.size w).alloc (Nat.le_refl _) (.cells #[.slice A m c, .slice B k d] 56)).alloc (by simp) (.cells #[.slice A' m' c', .slice B' k' d'] 56)
 rw [World.size_alloc] at hY
 have HR := Lib.hid (show ((y, n) == (y', n')) = (y == y' && n == n') from rfl)
 go_enter Tryz.func91, Tryz.ntmps91
 go_wp2_with fail
 change Calls _ _ _ ((w.alloc (.cells #[.slice A m c, .slice B k d] 56)).alloc (.cells #[.slice A' m' c', .slice B' k' d'] 56)) _
 generalize ((w.alloc (.cells #[.slice A m c, .slice B k d] 56)).alloc (.cells #[.slice A' m' c', .slice B' k' d'] 56)) = W at *
 refine (GP _ _ y y' W D E (ha.ext hB) (ha'.ext hB)).mono ?_
 rintro e w1 ⟨_, rfl, rfl, hb1⟩
 have x1 := (hX.ext hb1).cell 1
 have y1 := (hY.ext hb1).cell 1
 simp at x1 y1
 have hB1 := BP hB hb1
 generalize (y == y') = q at *
 cases q
 ·go_wp2_with fail
  go_ret
  exact AF.mk (by rw [HR.out]; rfl) hB1
 ·go_wp2_with fail
  refine (GP _ _ n n' w1 D E (hb.ext hB1) (hb'.ext hB1)).mono ?_
  rintro e w2 ⟨_, rfl, rfl, hb2⟩
  go_wp2_with fail
  go_ret
  exact AF.mk (v := .bool (n == n')) (by rw [HR.out]; rfl) (BP hB1 hb2)
end
section
open Go.RowKit
attribute [local go_sem ↓] Go.wp_at_zero Go.wp_at_succ
set_option maxRecDepth 20000
theorem IsCert.cc {w : World} {D : Nat -> Prop} {v : Value} {c : CertD} (h : IsCert w D v c) : ∃ pv qv, v = .agg (cc c.prob c.reach pv qv) /\ c.prob.length = 32 /\ Fi c.prob /\ Sl w D 1 pv c.plan.length (Be c.plan) /\ Aj w D qv c.cubes := by
 obtain ⟨cs, pv, qv, h1, h2, h3, h4, h5, h6, h7, h8, h9, h10⟩ := h
 refine ⟨pv, qv, ?_, h3, h4, h9, h10⟩
 rw [h1]
 congr 1
 have ha := cc_at c.prob c.reach pv qv h3
 apply Array.ext_getElem?
 intro i
 rcases Nat.lt_or_ge i 32 with hi | hi
 ·rw [h5 i hi]
  simp only [Go.Proofs.YtchjigffejhmfaaGreatDoor.cc, List.getElem?_toArray]
  rw [List.getElem?_append_left (by simp [u8s]; omega)]
  exact (u8s_at _ _ (by omega)).symm
 ·rcases Nat.lt_or_ge i 35 with hi2 | hi2
  ·have : i = 32 \/ i = 33 \/ i = 34 := by omega
   rcases this with rfl | rfl | rfl
   ·rw [h6, ha.1]
   ·rw [h7, ha.2.1]
   ·rw [h8, ha.2.2]
  ·rw [Array.getElem?_eq_none (by omega), Array.getElem?_eq_none (by rw [cc_size _ _ _ _ h3]; omega)]
end
section
open Go.RowKit
attribute [local go_sem ↓] Go.wp_at_zero Go.wp_at_succ
set_option maxRecDepth 20000
theorem rempty_any (y n : Nat) (w0 : World) (hy : y < AM) (hn : n < AM) :
  Calls Tryz.prog 58 #[.agg #[.int .u64 (y : Nat), .int .u64 (n : Nat)]] w0 (AF (fun x _ => x = .bool (y &&& n != 0)) w0) := by
 have h0 := IY hy hn
 have hS := St.start0 (w := w0)
 go_enter Tryz.func58, Tryz.ntmps58
 go_wp2_with (first | ((with_reducible refine qA 1 ?_); refine Aw hS rfl _ _ rfl _ _ rfl rfl ?_; clear hS; intro g w_ hS; (try simp only [Act.put, Act.eval, zz, Value.cells] at hS)) | ((with_reducible refine qK ?_); refine qC hS ?_) | ((with_reducible refine qB ?_); refine qc ?_ ?_ <;> intro h_ <;> go_prune))
 ·go_ret
  exact AF.mk (by simp; omega) hS.below
 ·go_ret
  exact AF.mk (by simp; omega) hS.below
end
section
open Go.RowKit
attribute [local go_sem ↓] Go.wp_at_zero Go.wp_at_succ
set_option maxRecDepth 20000
theorem Fo (v : Value) (N : Nat) (hN : N < AM) (D : Nat -> Prop) (w0 : World) (hv : Aa w0 D v N) (hT : Bl w0) :
  Calls Tryz.prog 80 #[v] w0 (AF (fun x w' => Sl w' (w0.heap.size <= ·) 1 x (Ae (AL N)).length (Be (Ae (AL N)))) w0) := by
 refine (slist_any v N D w0 hv hT).mono ?_
 rintro e w' ⟨x, rfl, ⟨ws, hc, hv, hs⟩, hb⟩
 rw [G4 hc (by omega), hv] at hs
 exact AF.mk hs hb
theorem H5 {a b : Nat} (ha : a < AM) (hb : b < AM) : (Ae (AL a) == Ae (AL b)) = (a == b) := by
 rw [Bool.eq_iff_iff, beq_iff_eq, beq_iff_eq]
 constructor
 ·intro h
  have := congrArg ofN h
  rwa [EF ha, EF hb] at this
 ·rintro rfl; rfl
theorem El (N : Nat) (w : World) :
  Calls Tryz.prog 81 #[.int .u64 N] w (AF (fun x w' => Sl w' (w.heap.size <= ·) 1 x (Ae (AL N)).length (Be (Ae (AL N)))) w) := by
 have h : (Ae (AL N)).length = (AL N).length := by simp [Ae]
 rw [h]; exact H6 N w
theorem BW {P : Program} {o : Oper} {a : Act} {w : World} {K : Act -> World -> Prop} {Q : Exit -> Act -> World -> Prop} {t : TypeId} {x : Operand} {g j : Nat} {ty : TypeId} {cs : Array Value} {x' : Value} {d : TypeDesc} (ho : o.op = .load t x) (hx : a.eval x = .pointer (some ⟨g, j, none⟩)) (hb : BS w g ty cs) (hx' : cs[j]? = some x')
  (hu : P.underlying t = some d) (hd : d.isRow = true) (hi : (P.info? t).map (·.size) = some 1) (hk : K (a.put o.dst (.agg #[x'])) w) : o.wp P a w K Q :=
 AU (cs := [x']) ho hx (fun i v hi => by
  cases i with
  | zero => simp at hi; subst hi; rw [Nat.add_zero, hb.cell]; exact hx'
  | succ i => simp at hi) hu hd hi hk
theorem same1_any (u : Value) (y n y' n' : Nat) (hy : y < AM) (hn : n < AM) (hy' : y' < AM) (hn' : n' < AM) (D : Nat -> Prop) (w0 : World) (hu : AH w0 D u (y, n)) (hT : Bl w0) :
  Calls Tryz.prog 78 #[u, .agg #[.int .u64 y', .int .u64 n']] w0 (AF (fun x _ => x = .bool ((y, n) == (y', n'))) w0) := by
 obtain ⟨a, b, rfl, ha, hb⟩ := hu
 dsimp only at ha hb
 obtain ⟨A, m, c, rfl⟩ := ha.shape
 obtain ⟨B, k, d, rfl⟩ := hb.shape
 obtain ⟨K, k1, k2, k3, hS⟩ : ∃ K : (Nat -> Prop) -> World -> Prop, (∀ D w, K D w -> Aa w D (.agg #[.slice A m c]) y) /\ (∀ D w, K D w -> Aa w D (.agg #[.slice B k d]) n) /\ (∀ D w, K D w -> Bl w /\ D 0) /\ St w0 w0 [] K :=
  ⟨fun D w => Aa w D (.agg #[.slice A m c]) y /\ Aa w D (.agg #[.slice B k d]) n /\ Bl w /\ D 0, fun _ _ h => h.1, fun _ _ h => h.2.1, fun _ _ h => h.2.2, St.start (D := fun _ => True) (Ab.and (Ab.and C0)) ⟨ha.imp fun _ _ _ => trivial, hb.imp fun _ _ _ => trivial, hT, trivial⟩⟩
 have e0 : ((y, n) == (y', n')) = ((y == y') && (n == n')) := rfl
 rw [e0]
 have Q1 := Lib.hid (H5 hy hy')
 have Q2 := Lib.hid (H5 hn hn')
 generalize (n == n') = q2 at *
 clear ha hb hT
 go_enter Tryz.func78, Tryz.ntmps78
 go_wp2_with (first | ((with_reducible refine qA 2 ?_); refine Aw hS rfl _ _ rfl (.agg #[.slice A m c, .slice B k d]) _ rfl rfl ?_; clear hS; intro g2 w_ hS; (try simp only [Act.put, Act.eval, zz, Value.cells] at hS)) | ((with_reducible refine qA 3 ?_); refine Aw hS rfl _ _ rfl (.agg #[.int .u64 y', .int .u64 n']) _ rfl rfl ?_; clear hS; intro g3 w_ hS; (try simp only [Act.put, Act.eval, zz, Value.cells] at hS)))
 cases hq1 : (y == y')
 ·
  refine C5 [.q g2 0, .i (.agg #[.slice A m c]), .s (fun v w => Sl w (fun _ => True) 1 v (Ae (AL y)).length (Be (Ae (AL y)))) fun v w w' h hb => Sl.ext h hb, .q g3 0, .i (.int .u64 y'), .s (fun v w => Sl w (fun _ => True) 1 v (Ae (AL y')).length (Be (Ae (AL y')))) fun v w w' h hb => Sl.ext h hb, .b false, .b false, .t, .t, .t, .t, .t, .t, .t, .b false, .b false] ⟨uF, ?_, ?_, uF, uC (h := fun w hW hN => (hS.ext hW).shut 0 rfl 0 rfl), ?_, ?_, uM, uW, uW, uW, uW, uW, uW, uW, uP, uA, trivial⟩ ?_
  ·refine uT fun b__ w hW hE K hK => ?_
   have e5 := hE 5
   exact BW rfl e5 ((hS.ext hW).box 1 rfl) rfl Tryz.underlying39 (by kernel_rfl) (by kernel_rfl) (hK _ _ rfl (Below.refl _ _))
  ·refine uT fun b__ w hW hE K hK => ?_
   have e6 := hE 6
   exact Ai rfl (by kernel_rfl) (by simp [e6]) (Fo _ y hy _ w (k1 _ _ (hS.ext hW).ro) (k3 _ _ (hS.ext hW).ro).1) fun v w' h hb => hK v w' (h.imp fun _ _ _ => trivial) hb
  ·refine uT fun b__ w hW hE K hK => ?_
   have e9 := hE 9
   exact Ai rfl (by kernel_rfl) (by simp [e9]) (El y' w) fun v w' h hb => hK v w' (h.imp fun _ _ _ => trivial) hb
  ·refine uT fun b__ w hW hE K hK => ?_
   have e7 := hE 7
   have e10 := hE 10
   exact Ai rfl (by kernel_rfl) rfl (I9 _ _ _ _ w _ _ e7 e10) fun v w' h hb => hK v w' (h.trans (by rw [Q1.out, hq1])) hb
  ·intro vs wz hW hT
   obtain ⟨e5, e6, e7, e8, e9, e10, e11, e12, e20, e4, -⟩ := hT
   have bx : (fun _ : Nat => True) 0 := trivial
   simp only [Ak, Act.put, zz, ze]
   go_wp2_with fail
   go_ret
   exact AF.mk rfl (BP hS.below hW)
 ·
  refine C5 [.q g2 0, .i (.agg #[.slice A m c]), .s (fun v w => Sl w (fun _ => True) 1 v (Ae (AL y)).length (Be (Ae (AL y)))) fun v w w' h hb => Sl.ext h hb, .q g3 0, .i (.int .u64 y'), .s (fun v w => Sl w (fun _ => True) 1 v (Ae (AL y')).length (Be (Ae (AL y')))) fun v w w' h hb => Sl.ext h hb, .b true, .b true, .q g2 1, .i (.agg #[.slice B k d]), .s (fun v w => Sl w (fun _ => True) 1 v (Ae (AL n)).length (Be (Ae (AL n)))) fun v w w' h hb => Sl.ext h hb, .q g3 1, .i (.int .u64 n'), .s (fun v w => Sl w (fun _ => True) 1 v (Ae (AL n')).length (Be (Ae (AL n')))) fun v w w' h hb => Sl.ext h hb, .i (.bool q2), .i (.bool q2), .i (.bool q2)] ⟨uF, ?_, ?_, uF, uC (h := fun w hW hN => (hS.ext hW).shut 0 rfl 0 rfl), ?_, ?_, uM, uF, ?_, ?_, uF, uC (h := fun w hW hN => (hS.ext hW).shut 0 rfl 1 rfl), ?_, ?_, uP, uA, trivial⟩ ?_
  ·refine uT fun b__ w hW hE K hK => ?_
   have e5 := hE 5
   exact BW rfl e5 ((hS.ext hW).box 1 rfl) rfl Tryz.underlying39 (by kernel_rfl) (by kernel_rfl) (hK _ _ rfl (Below.refl _ _))
  ·refine uT fun b__ w hW hE K hK => ?_
   have e6 := hE 6
   exact Ai rfl (by kernel_rfl) (by simp [e6]) (Fo _ y hy _ w (k1 _ _ (hS.ext hW).ro) (k3 _ _ (hS.ext hW).ro).1) fun v w' h hb => hK v w' (h.imp fun _ _ _ => trivial) hb
  ·refine uT fun b__ w hW hE K hK => ?_
   have e9 := hE 9
   exact Ai rfl (by kernel_rfl) (by simp [e9]) (El y' w) fun v w' h hb => hK v w' (h.imp fun _ _ _ => trivial) hb
  ·refine uT fun b__ w hW hE K hK => ?_
   have e7 := hE 7
   have e10 := hE 10
   exact Ai rfl (by kernel_rfl) rfl (I9 _ _ _ _ w _ _ e7 e10) fun v w' h hb => hK v w' (h.trans (by rw [Q1.out, hq1])) hb
  ·refine uT fun b__ w hW hE K hK => ?_
   have e13 := hE 13
   exact BW rfl e13 ((hS.ext hW).box 1 rfl) rfl Tryz.underlying39 (by kernel_rfl) (by kernel_rfl) (hK _ _ rfl (Below.refl _ _))
  ·refine uT fun b__ w hW hE K hK => ?_
   have e14 := hE 14
   exact Ai rfl (by kernel_rfl) (by simp [e14]) (Fo _ n hn _ w (k2 _ _ (hS.ext hW).ro) (k3 _ _ (hS.ext hW).ro).1) fun v w' h hb => hK v w' (h.imp fun _ _ _ => trivial) hb
  ·refine uT fun b__ w hW hE K hK => ?_
   have e17 := hE 17
   exact Ai rfl (by kernel_rfl) (by simp [e17]) (El n' w) fun v w' h hb => hK v w' (h.imp fun _ _ _ => trivial) hb
  ·refine uT fun b__ w hW hE K hK => ?_
   have e15 := hE 15
   have e18 := hE 18
   exact Ai rfl (by kernel_rfl) rfl (I9 _ _ _ _ w _ _ e15 e18) fun v w' h hb => hK v w' (h.trans (by rw [Q2.out])) hb
  ·intro vs wz hW hT
   obtain ⟨e5, e6, e7, e8, e9, e10, e11, e12, e13, e14, e15, e16, e17, e18, e19, e20, e4, -⟩ := hT
   have bx : (fun _ : Nat => True) 0 := trivial
   simp only [Ak, Act.put, zz, ze]
   go_wp2_with fail
   go_ret
   exact AF.mk rfl (BP hS.below hW)
theorem CL {v : Value} {z : Nat × Nat} : AC fun D w => AH w D v z := fun D D' w w' h a b c => by
 obtain ⟨x, y, h1, h2, h3⟩ := h
 exact ⟨x, y, h1, Ab D D' w w' h2 a b c, Ab D D' w w' h3 a b c⟩
theorem drop_beq {l t : List (Nat × Nat)} {k : Nat} (h : k < l.length) (h' : k < t.length) : (l.drop k == t.drop k) = (l.getD k (0, 0) == t.getD k (0, 0) && (l.drop (k + 1) == t.drop (k + 1))) := by
 rw [List.drop_eq_getElem_cons h, List.drop_eq_getElem_cons h']
 simp only [List.getD_eq_getElem?_getD, List.getElem?_eq_getElem h, List.getElem?_eq_getElem h', Option.getD_some]
 rfl
theorem eqrcubes_any (u v : Value) (l t : List (Nat × Nat)) (w0 : World) (D E : Nat -> Prop) (hu : Aj w0 D u l) (hv : Bq w0 E v t) (hl : Small l) (ht : Small t) (hT : Bl w0) :
  Calls Tryz.prog 77 #[u, v, .func (.func 78) #[] #[]] w0 (AF (fun x _ => x = .bool (l == t)) w0) := by
 obtain ⟨A, c, rfl, _, _⟩ := hu.shape
 obtain ⟨A', c', rfl, _, _⟩ := hv.shape
 obtain ⟨K, k1, k2, k3, hS⟩ : ∃ K : (Nat -> Prop) -> World -> Prop, (∀ D w, K D w -> Aj w D (.slice A l.length c) l) /\ (∀ D w, K D w -> Sl w D 2 (.slice A' t.length c') t.length (AB t)) /\ (∀ D w, K D w -> Bl w /\ D 0) /\ St w0 w0 [] K :=
  ⟨fun D w => Aj w D (.slice A l.length c) l /\ Sl w D 2 (.slice A' t.length c') t.length (AB t) /\ Bl w /\ D 0, fun _ _ h => h.1, fun _ _ h => h.2.1, fun _ _ h => h.2.2, St.start (D := fun _ => True) (AY.and (AC.and Av C0)) ⟨hu.imp fun _ _ _ => trivial, Sl.imp hv fun _ _ _ => trivial, hT, trivial⟩⟩
 have hSt0 := Lib.hid hS.stable
 have HL := Lib.hid hl
 have HT := Lib.hid ht
 clear hu hv hT hl ht
 go_enter Tryz.func77, Tryz.ntmps77
 by_cases hlen : l.length = t.length
 ·have HLen := Lib.hid hlen
  have hle : l.length <= t.length := by omega
  have hge : t.length <= l.length := by omega
  have hR : Hid ((l == t) = (l.drop 0 == t.drop 0)) := Lib.hid rfl
  generalize (l == t) = RES at *
  clear hlen
  go_wp2_with (first | ((with_reducible refine qB ?_); refine qc ?_ ?_ <;> intro h_ <;> go_prune))
  go_loopw [17] (fun i wr => ∃ k : Nat, ∃ F, k <= l.length /\ i = .int .i64 k /\ St w0 wr F K /\ Hid (RES = (l.drop k == t.drop k))) (fun i _ => l.length - (intOf i).toNat)
  case atStart => exact ⟨0, _, by omega, rfl, hS, hR⟩
  case round =>
   obtain ⟨k, F, hk, rfl, hS, hR⟩ := hrel
   by_cases hlt : k < l.length
   ·obtain ⟨b, o, y, n, rfl, _, hb, c0, c1, hy, hn⟩ := (k1 _ _ hS.ro).at_ hlt
    obtain ⟨Ay, my, cy, rfl⟩ := hy.shape
    obtain ⟨An, mn, cn, rfl⟩ := hn.shape
    obtain ⟨f1, f2⟩ := E8 t k (by omega)
    have hlt' : k < t.length := by omega
    have hz := HT.out.at_ k hlt'
    have hz2 := HL.out.at_ k hlt
    have HD := Lib.hid (drop_beq hlt hlt')
    replace hS := hS.add (D := DW F) (CL (v := .agg #[.slice Ay my cy, .slice An mn cn]) (z := l.getD k (0, 0))) ⟨_, _, rfl, hy, hn⟩ fun _ h _ => h
    clear hy hn
    generalize l.getD k (0, 0) = z1 at *
    generalize t.getD k (0, 0) = z2 at *
    obtain ⟨y1, n1⟩ := z1
    obtain ⟨y2, n2⟩ := z2
    dsimp only at f1 f2 hz hz2
    obtain ⟨K', kk, kc, k2', k3', hS'⟩ : ∃ K' : (Nat -> Prop) -> World -> Prop, (∀ D w, K' D w -> K D w) /\ (∀ D w, K' D w -> AH w D (.agg #[.slice Ay my cy, .slice An mn cn]) (y1, n1)) /\ (∀ D w, K' D w -> Sl w D 2 (.slice A' t.length c') t.length (AB t)) /\ (∀ D w, K' D w -> Bl w /\ D 0) /\ St w0 wr F K' :=
     ⟨_, fun _ _ h => h.1, fun _ _ h => h.2, fun _ _ h => k2 _ _ h.1, fun _ _ h => k3 _ _ h.1, hS⟩
    clear hS
    have hS := hS'
    clear hS'
    go_wp2_with (first
     | ((with_reducible refine qA 8 ?_); refine qa hS #[.slice none 0 0, .slice none 0 0] ?_; clear hS; intro g8 w_ hS)
     | ((with_reducible refine qA 9 ?_); refine qa hS #[.int .u64 0, .int .u64 0] ?_; clear hS; intro g9 w_ hS)
     | ((with_reducible refine qM ?_); (first | refine qS hS ?_ | refine qT hS ?_); clear hS; intro w_ hS; (try simp only [Act.put, Act.eval, zz, Value.cells] at hS))
     | ((with_reducible refine qB ?_); refine qc ?_ ?_ <;> intro h_ <;> go_prune)
     | ((with_reducible refine qK ?_); refine qL hS Tryz.underlying56 ?_)
     | ((with_reducible refine qK ?_); refine qL hS Tryz.underlying50 ?_)
     | ((with_reducible refine qI ?_); refine qj hS Tryz.underlying28 ?_; intro b_ j_ hc0_ hc1_))
    refine (same1_any _ y1 n1 y2 n2 hz2.1 hz2.2 hz.1 hz.2 _ _ (kc _ _ hS.ro) (k3' _ _ hS.ro).1).mono ?_
    rintro e w2 ⟨_, rfl, rfl, hb2⟩
    replace hS := (hS.ext hb2).mono hSt0.out kk
    generalize ((y1, n1) == (y2, n2)) = q at *
    cases q
    ·go_wp2_with fail
     have hE : RES = false := by rw [hR.out, HD.out]; rfl
     subst hE
     go_ret
     exact AF.mk rfl hS.below
    ·go_wp2_with fail
     exact ⟨⟨k + 1, _, hlt, by go_num, hS, Lib.hid (by rw [hR.out, HD.out]; rfl)⟩, by simp [intOf]; omega⟩
   ·obtain rfl : k = l.length := by omega
    have hE : RES = true := by rw [hR.out, List.drop_length, HLen.out, List.drop_length]; rfl
    go_wp2_with (first | ((with_reducible refine qB ?_); refine qc ?_ ?_ <;> intro h_ <;> go_prune))
    subst hE
    go_ret
    exact AF.mk rfl hS.below
 ·have hd : (l == t) = false := by rw [beq_eq_false_iff_ne]; rintro rfl; exact hlen rfl
  go_wp2_with (first | ((with_reducible refine qB ?_); refine qc ?_ ?_ <;> intro h_ <;> go_prune))
  rw [hd]
  go_ret
  exact AF.mk rfl hS.below
theorem lsame_any (u v : Value) (l t : List (Nat × Nat)) (w0 : World) (D E : Nat -> Prop) (hu : Aj w0 D u l) (hv : Bq w0 E v t) (hl : Small l) (ht : Small t) (hT : Bl w0) :
  Calls Tryz.prog 21 #[u, v] w0 (AF (fun x _ => x = .bool (l == t)) w0) := by
 have HC := Lib.hid (eqrcubes_any u v l t w0 D E hu hv hl ht hT)
 clear hu hv
 go_enter Tryz.func21, Tryz.ntmps21
 go_wp2_with fail
 refine HC.out.mono ?_
 rintro e w2 ⟨_, rfl, rfl, hb2⟩
 go_wp2_with fail
 go_ret
 exact AF.mk rfl hb2
end
section
open Go.RowKit
attribute [local go_sem ↓] Go.wp_at_zero Go.wp_at_succ
set_option maxRecDepth 20000
set_option exponentiation.threshold 5000
section
variable {P : Program} {ops : Array Oper} {rest : List Oper} {o : Oper} {a : Act} {w : World} {Q : Exit -> Act -> World -> Prop}
end
theorem Gm.ins {L : List (Nat × Nat)} (h : Gm L) {x y : Nat} (hx : 1 <= x /\ x < 64) (hy : 1 <= y /\ y < 64) (hne : x ≠ y) (hm : (x, y) ∉ L) (ht : ¬ TC L y x) : Gm (ins L (x, y)) := by
 refine ⟨ins_asc h.asc hm, fun z hz => ?_, (acyc_ins h.acyc fun z => Hx).2 ?_⟩
 ·rcases Hx.1 hz with rfl | hz
  ·exact ⟨hx, hy⟩
  ·exact h.role z hz
 ·rintro (e | e)
  ·exact hne e.symm
  ·exact ht e
theorem D3 {w : World} {D : Nat -> Prop} {size n c b o j : Nat} {xs : List Value} {x : Value} (h : Sl w D size (.slice (some ⟨b, o, none⟩) n c) n xs) (hj : xs[j]? = some x) : w.cell? ⟨b, o + j, none⟩ = some x := by
 obtain ⟨h1, A, c2, h2, _, _, h5⟩ := h
 have hlt := (List.getElem?_eq_some_iff.1 hj).1
 have hn : 0 < n := by
  rcases Nat.eq_zero_or_pos n with h0 | h0
  ·subst h0; simp at h1; subst h1; simp at hlt
  ·exact h0
 obtain ⟨b2, o2, h6, _, _, h8⟩ := h5 hn
 injection h2 with h2
 rw [h6] at h2
 injection h2 with h2
 injection h2 with h9 h10
 rw [h9, h10]
 exact h8 j x hj
end
section
open Go.RowKit
attribute [local go_sem ↓] Go.wp_at_zero Go.wp_at_succ
set_option maxRecDepth 20000
set_option exponentiation.threshold 5000
theorem run_and64 {P : Program} {w : World} {t : TypeId} {x y : Nat} (hx : x < AM) (hy : y < AM) : (binOp .and t (.int .u64 (x : Nat)) (.int .u64 (y : Nat))).run P w = .ok (.int .u64 ((x &&& y : Nat) : Int)) w := by
 go_simp; rw [IY hx hy]
theorem and_words {a b : List Nat} (ha : AW a) (hb : AW b) {n : Nat} (hn : a.length <= n \/ b.length <= n) : AW ((List.range n).map fun j => wd (val a) j &&& wd (val b) j) /\ val ((List.range n).map fun j => wd (val a) j &&& wd (val b) j) = val a &&& val b := by
 have h1 : AW ((List.range n).map fun j => wd (val a) j &&& wd (val b) j) := fun x hx => by
  obtain ⟨j, _, rfl⟩ := List.mem_map.1 hx
  exact Nat.lt_of_le_of_lt Nat.and_le_left (Er _ _)
 refine ⟨h1, FB h1 fun k => ?_⟩
 rw [wd_and, List.getD_eq_getElem?_getD, List.getElem?_map]
 rcases Nat.lt_or_ge k n with hk | hk
 ·rw [List.getElem?_range hk]; rfl
 ·rw [List.getElem?_eq_none (by simpa using hk)]
  rcases hn with hn | hn
  ·rw [I1 ha (by omega), Nat.zero_and]; rfl
  ·rw [I1 hb (by omega), Nat.and_zero]; rfl
theorem Sl.only {w : World} {D : Nat -> Prop} {size n c g o : Nat} {xs : List Value} (h : Sl w D size (.slice (some ⟨g, o, none⟩) n c) n xs) : Sl w (fun z => D z /\ z = g) size (.slice (some ⟨g, o, none⟩) n c) n xs := by
 obtain ⟨h1, A, c', e, h3, h4, h5⟩ := h
 injection e with e1 e2 e3
 subst e1 e3
 refine ⟨h1, _, _, rfl, h3, h4, fun hp => ?_⟩
 obtain ⟨b, o', q1, q2, q3, q4⟩ := h5 hp
 injection q1 with q1
 injection q1 with q1 q5 _
 subst q1 q5
 exact ⟨_, _, rfl, ⟨q2, rfl⟩, q3, q4⟩
set_option maxHeartbeats 2000000 in
theorem and_any {w0 : World} {D E : Nat -> Prop} {v u : Value} {M N : Nat} (hv : Aa w0 D v M) (hu : Aa w0 E u N) :
  Calls Tryz.prog 74 #[v, u] w0 (AF (fun x w' => Aa w' (w0.heap.size <= ·) x (M &&& N)) w0) := by
 obtain ⟨A, ca, a, rfl, ha, rfl, ha1, ha2, hsa⟩ := hv.parts
 obtain ⟨B, cb, b, rfl, hb, rfl, hb1, hb2, hsb⟩ := hu.parts
 obtain ⟨K, k1, k2, hS⟩ : ∃ K : (Nat -> Prop) -> World -> Prop, (∀ D w, K D w -> Sl w D 1 (.slice A a.length ca) a.length (Bo a)) /\ (∀ D w, K D w -> Sl w D 1 (.slice B b.length cb) b.length (Bo b)) /\ St w0 w0 [] K := ⟨_, fun _ _ h => h.1, fun _ _ h => h.2, St.start (D := fun _ => True) ((Av (by decide)).and (Av (by decide))) ⟨hsa.imp fun _ _ _ => trivial, hsb.imp fun _ _ _ => trivial⟩⟩
 have hla := ha.2.2
 have hlb := hb.2.2
 obtain ⟨n, hn⟩ : ∃ n, n = min a.length b.length := ⟨_, rfl⟩
 have HW := Lib.hid (and_words ha.1 hb.1 (n := n) (by omega))
 have HA := Lib.hid ha.1
 have HB := Lib.hid hb.1
 have hna : n <= a.length := by omega
 have hnb : n <= b.length := by omega
 have hnm : min (a.length : Int) (b.length : Int) = (n : Int) := by omega
 clear hsa hsb hv hu ha hb hn
 go_enter Tryz.func74, Tryz.ntmps74
 go_wp2_with (first
  | ((with_reducible refine qA 2 ?_); refine Aw hS rfl _ _ rfl (.agg #[.slice A a.length ca]) _ rfl rfl ?_; clear hS; intro g2 w_ hS; (try simp only [Act.put, Act.eval, zz, Value.cells] at hS))
  | ((with_reducible refine qA 3 ?_); refine Aw hS rfl _ _ rfl (.agg #[.slice B b.length cb]) _ rfl rfl ?_; clear hS; intro g3 w_ hS; (try simp only [Act.put, Act.eval, zz, Value.cells] at hS))
  | ((with_reducible refine qA 4 ?_); refine qa hS #[.slice none 0 0] ?_; clear hS; intro g4 w_ hS)
  | ((with_reducible refine qK ?_); refine qC hS ?_)
  | ((with_reducible show wpList _ _ _ (⟨_, .makeSlice _ _ _, _, _, _, _⟩ :: _) _ _); refine st_mk hS rfl _ _ _ rfl I2 .i64 .i64 n #[.int .u64 0] rfl rfl (by kernel_rfl) (by omega) (by omega) ?_; clear hS; intro g5 w_ hS))
 rw [mk_u64s] at hS
 obtain ⟨f, hf⟩ : ∃ f : Nat -> Nat, f = fun j => wd (val a) j &&& wd (val b) j := ⟨_, rfl⟩
 rw [<- hf] at HW
 replace hf := Lib.hid hf
 rw [<- EI f] at hS
 go_loopw [17] (fun i wr => ∃ k : Nat, i = .int .i64 (k : Nat) /\ k <= n /\ St w0 wr [.own (.slice (some ⟨g5, 0, none⟩) n n) 26 1 n (Bo (BF f k n)), .box g4 39 #[.slice none 0 0], .box g3 39 #[.slice B b.length cb], .box g2 39 #[.slice A a.length ca]] K) (fun i _ => n - (intOf i).toNat)
 case atStart => exact ⟨0, rfl, by omega, hS⟩
 case round =>
  clear hS
  obtain ⟨k, rfl, hk, hS⟩ := hrel
  by_cases hkn : k < n
  ·obtain ⟨b1, o1, rfl⟩ : ∃ b o, A = some ⟨b, o, none⟩ := by
    obtain ⟨_, A2, c2, e2, _, _, h5⟩ := k1 _ _ hS.ro
    obtain ⟨b, o, h6, _⟩ := h5 (by omega)
    injection e2 with e2
    exact ⟨b, o, e2.trans h6⟩
   obtain ⟨b2, o2, rfl⟩ : ∃ b o, B = some ⟨b, o, none⟩ := by
    obtain ⟨_, A2, c2, e2, _, _, h5⟩ := k2 _ _ hS.ro
    obtain ⟨b, o, h6, _⟩ := h5 (by omega)
    injection e2 with e2
    exact ⟨b, o, e2.trans h6⟩
   have HX := Lib.hid (Cr a k (by omega))
   have HY := Lib.hid (Cr b k (by omega))
   have hx : a.getD k 0 < AM := HA.out.getD k
   have hy : b.getD k 0 < AM := HB.out.getD k
   have HF := Lib.hid (show (Bo (BF f k n)).set k (.int .u64 ((a.getD k 0 &&& b.getD k 0 : Nat) : Int)) = Bo (BF f (k + 1) n) by
    rw [<- II, show f k = a.getD k 0 &&& b.getD k 0 by rw [hf.out]; show wd (val a) k &&& wd (val b) k = _; rw [BD HA.out, BD HB.out], FC])
   generalize a.getD k 0 = x at *
   generalize b.getD k 0 = y at *
   go_wp2_with (first | ((with_reducible refine qB ?_); refine qc ?_ ?_ <;> intro h_ <;> go_prune))
   refine Fa 14 [] [.i (.slice (some ⟨g5, 0, none⟩) n n), .n ((k : Nat) : Int), .q g2 0, .i (.slice (some ⟨b1, o1, none⟩) a.length ca), .n ((k : Nat) : Int), .q b1 (o1 + (k) * 1), .i (.int .u64 ((x : Nat) : Int)), .q g3 0, .i (.slice (some ⟨b2, o2, none⟩) b.length cb), .n ((k : Nat) : Int), .q b2 (o2 + (k) * 1), .i (.int .u64 ((y : Nat) : Int)), .i (.int .u64 ((x &&& y : Nat) : Int)), .q g5 (0 + (k) * 1), .t] ⟨uM, uM, uF, uC (h := fun w hW hN => ((hS.ext hW).box 3 rfl).cell 0), uM, uI (h := fun w hW hN => Af (m := k) Tryz.underlying37 (by kernel_rfl) (by omega) (by omega)), uC (h := fun w hW hN => by rw [Nat.mul_one]; exact D3 (k1 _ _ (hS.ext hW).ro) HX.out), uF, uC (h := fun w hW hN => ((hS.ext hW).box 2 rfl).cell 0), uM, uI (h := fun w hW hN => Af (m := k) Tryz.underlying37 (by kernel_rfl) (by omega) (by omega)), uC (h := fun w hW hN => by rw [Nat.mul_one]; exact D3 (k2 _ _ (hS.ext hW).ro) HY.out), uB (h := fun w hW hN => run_and64 hx hy), uI (h := fun w hW hN => Af (m := k) Tryz.underlying37 (by kernel_rfl) (by omega) (by omega)), trivial⟩ ?_
   ·intro vs wz hW hT
    obtain ⟨e20, e21, e22, e23, e24, e25, e26, e27, e28, e29, e30, e31, e32, e33, -⟩ := hT
    simp only [Ak, Act.put, zz, ze]
    (intro o_ ho_; simp only [List.getElem?_toArray, List.getElem?_cons_succ, List.getElem?_cons_zero, Option.some.injEq] at ho_; subst ho_)
    refine Ej rfl (g := g5) (i := k) (e33.trans (by rw [Nat.zero_add, Nat.mul_one])) e32 ((hS.ext hW).own 0 rfl) (by omega) rfl rfl (by kernel_rfl) fun w4 h1 hU => ?_
    replace hS := (hS.ext hW).upd 0 rfl (.own (.slice (some ⟨g5, 0, none⟩) n n) 26 1 n (Bo (BF f (k + 1) n))) (by simpa [Ac.blk, Value.ownBlock] using Bh hU) (by rw [<- HF.out]; exact h1) fun _ e => .inl e
    simp only [Cz]
    simp only [Act.put, List.setIfInBounds_toArray, List.set_cons_zero, List.set_cons_succ]
    clear e32 e33 h1 hU hW
    go_wp2_with fail
    exact ⟨⟨k + 1, by go_num, hkn, hS⟩, by simp [intOf]; omega⟩
  ·obtain rfl : k = n := by omega
   rw [EJ, hf.out] at hS
   rw [hf.out] at HW
   generalize hl : (List.range k).map (fun j => wd (val a) j &&& wd (val b) j) = l at hS HW
   obtain rfl : l.length = k := by rw [<- hl]; simp
   clear hl
   have hs0 := ((hS.own 0 rfl).lt _ rfl).1
   have hS1 := hS.freeze 0 (by decide) rfl
   clear hS
   have hS := hS1
   clear hS1
   go_wp2_with (first
    | ((with_reducible refine qB ?_); refine qc ?_ ?_ <;> intro h_ <;> go_prune)
    | (go_at_call 125; refine (I5 _ l _ _ HW.out.1 (by omega) (hS.ro.2.only)).mono ?_; rintro r_ w_ ⟨_, rfl, hM, hb_⟩; obtain ⟨A3, c3, l3, rfl, -⟩ := hM.parts; replace hS := hS.ret2 hb_ (C3 Ab (w0.heap.size <= ·)) (hM.imp fun z hz _ => ⟨.inl hz.1, by rw [hz.2]; exact hs0⟩); clear hb_ hM)
    | ((with_reducible refine qM ?_); (first | refine qS hS ?_ | refine qT hS ?_); clear hS; intro w_ hS; (try simp only [Act.put, Act.eval, zz, Value.cells] at hS)))
   refine Ba Tryz.results74 rfl (hS.box 0 rfl) Tryz.underlying39 rfl (by kernel_rfl) rfl ?_
   exact AF.mk (by rw [<- HW.out.2]; exact hS.ro.2.imp fun z hz _ => hz.2) hS.below
end
section
open Go.RowKit
attribute [local go_sem ↓] Go.wp_at_zero Go.wp_at_succ
set_option maxRecDepth 20000
set_option exponentiation.threshold 5000
section
variable {P : Program} {ops : Array Oper} {rest : List Oper} {o : Oper} {a : Act} {w0 w : World} {F : List Ac} {K : (Nat -> Prop) -> World -> Prop} {Kt : Act -> World -> Prop} {Q : Exit -> Act -> World -> Prop}
theorem Cc {x : Operand} {f : FuncId} {first caps : Array Value} {xs : Array Operand} {ts : Array TypeId} {vs : List Value} {R : Ending -> World -> Prop} (ho : o.op = .call { callee := .value x, args := xs, argTypes := ts }) (hx : a.eval x = .func (.func f) first caps) (hc : BK P f = true) (hv : first.toList ++ xs.toList.map a.eval ++ caps.toList = vs)
  (h : Calls P f vs.toArray w R) (hk : ∀ e w', R e w' -> ∃ v, e = .returned v /\ Kt (a.put o.dst v) w') : o.wp P a w Kt Q := by
 have he : execOp a.eval o = callFunc f vs.toArray := by
  cases o with
  | mk dst op ty pos after guard =>
   simp only at ho
   subst ho
   have e1 : vs.toArray = first ++ xs.map a.eval ++ caps := by rw [<- hv]; simp
   rw [e1]
   simp [execOp, resolve, hx, Deferred.ofValue, invoke]
 unfold Oper.wp
 rw [he, FM f vs.toArray hc]
 refine h.mono fun e w' hR => ?_
 obtain ⟨v, rfl, hk⟩ := hk e w' hR
 exact hk
theorem AA (h : St w0 w F K) (i : Nat) (hg : Region.wanted o (yielded ops a.tmps) = true) (x : Operand) (ty : TypeId) (ho : o.op = .load ty x) (g j : Nat) (hx : a.eval x = .pointer (some ⟨g, j, none⟩)) (t : TypeId) (cs : Array Value) (hb : F[i]? = some (.box g t cs)) (v : Value) (hv : cs[j]? = some v)
  {d : TypeDesc} (hu : P.underlying ty = some d) (hd : d.isRow = true) (hi : (P.info? ty).map (·.size) = some 1) (hk : wpList P ops Q rest (a.put o.dst (.agg #[v])) w) : wpList P ops Q (o :: rest) a w :=
 BigFrame.wpList_want hg fun _ hK => BW ho hx (h.box i hb) hv hu hd hi (hK _ _ hk)
theorem BU (h : St w0 w F K) (i : Nat) (hg : Region.wanted o (yielded ops a.tmps) = true) (x : Operand) (ty : TypeId) (ho : o.op = .load ty x) (g j : Nat) (hx : a.eval x = .pointer (some ⟨g, j, none⟩)) (t : TypeId) (cs : Array Value) (hb : F[i]? = some (.box g t cs)) (v u : Value) (hv : cs[j]? = some v) (hv2 : cs[j + 1]? = some u)
  {d : TypeDesc} (hu : P.underlying ty = some d) (hd : d.isRow = true) (hi : (P.info? ty).map (·.size) = some 2) (hk : wpList P ops Q rest (a.put o.dst (.agg #[v, u])) w) : wpList P ops Q (o :: rest) a w :=
 BigFrame.wpList_want hg fun _ hK => AU (cs := [v, u]) ho hx (fun k z hz => by
  have hbx := h.box i hb
  match k, hz with
  | 0, hz => obtain rfl := Option.some.inj (show some _ = some z from hz); rw [Nat.add_zero, hbx.cell]; exact hv
  | 1, hz => obtain rfl := Option.some.inj (show some _ = some z from hz); rw [hbx.cell]; exact hv2
  | k + 2, hz => simp at hz) hu hd hi (hK _ _ hk)
end
theorem rng2 {w : World} {g i : Nat} {a b : Value} (h0 : w.cell? ⟨g, i, none⟩ = some a) (h1 : w.cell? ⟨g, i + 1, none⟩ = some b) : w.rangeAt g i [a, b] := fun j v hj => by
 match j, hj with
 | 0, hj => obtain rfl := Option.some.inj (show some _ = some v from hj); exact h0
 | 1, hj => obtain rfl := Option.some.inj (show some _ = some v from hj); exact h1
 | j + 2, hj => simp at hj
theorem run_geB {P : Program} {w : World} {t : TypeId} {k : IntKind} {m n : Int} {b : Bool} (h : decide (m ≥ n) = b) : (binOp .geq t (.int k m) (.int k n)).run P w = .ok (.bool b) w := by
 rw [binOp_geq, <- h]; simp
def Bg (z : Nat × Nat) (N : Nat) : Bool := (z.1 &&& N == z.1) && !(z.2 &&& N != 0)
theorem GI {w0 : World} {D E : Nat -> Prop} {u v : Value} {z : Nat × Nat} {N : Nat} (hu : AH w0 D u z) (hv : Aa w0 E v N) : Calls Tryz.prog 25 #[u, v] w0 (AF (fun x _ => x = .bool (Bg z N)) w0) := by
 obtain ⟨a, b, rfl, ha, hb⟩ := hu
 obtain ⟨y, n⟩ := z
 dsimp only at ha hb
 obtain ⟨A, m, c, rfl⟩ := ha.shape
 obtain ⟨B, k, d, rfl⟩ := hb.shape
 obtain ⟨C, e, lw, rfl, -⟩ := hv.parts
 obtain ⟨l, hl⟩ : ∃ l, l = lw.length := ⟨_, rfl⟩
 rw [<- hl] at hv ⊢
 clear hl
 obtain ⟨K, ka, kb, kc, hS⟩ : ∃ K : (Nat -> Prop) -> World -> Prop, (∀ D w, K D w -> Aa w D (.agg #[.slice A m c]) y) /\ (∀ D w, K D w -> Aa w D (.agg #[.slice B k d]) n) /\ (∀ D w, K D w -> Aa w D (.agg #[.slice C l e]) N) /\ St w0 w0 [] K :=
  ⟨fun D w => (Aa w D (.agg #[.slice A m c]) y /\ Aa w D (.agg #[.slice B k d]) n) /\ Aa w D (.agg #[.slice C l e]) N, fun _ _ h => h.1.1, fun _ _ h => h.1.2, fun _ _ h => h.2, St.start (D := fun _ => True) ((Ab.and Ab).and Ab) ⟨⟨ha.imp fun _ _ _ => trivial, hb.imp fun _ _ _ => trivial⟩, hv.imp fun _ _ _ => trivial⟩⟩
 clear ha hb hv
 have HR := Lib.hid (show Bg (y, n) N = ((y &&& N == y) && !(n &&& N != 0)) from rfl)
 generalize Bg (y, n) N = R at *
 obtain ⟨b1, hb1⟩ : ∃ b1, b1 = (y &&& N == y) := ⟨_, rfl⟩
 have HB1 := Lib.hid hb1
 rw [<- hb1] at HR
 clear hb1
 go_enter Tryz.func25, Tryz.ntmps25
 cases b1
 all_goals
  go_wp2_with (first
   | ((with_reducible refine qA 2 ?_); refine Aw hS rfl _ _ rfl (.agg #[.slice A m c, .slice B k d]) _ rfl rfl ?_; clear hS; intro g2 w_ hS; (try simp only [Act.put, Act.eval, zz, Value.cells] at hS))
   | ((with_reducible refine qA 3 ?_); refine Aw hS rfl _ _ rfl (.agg #[.slice C l e]) _ rfl rfl ?_; clear hS; intro g3 w_ hS; (try simp only [Act.put, Act.eval, zz, Value.cells] at hS))
   | ((with_reducible refine qk 39 ?_); first | (refine AA hS 0 rfl _ _ rfl _ _ rfl _ _ rfl _ (by first | rfl | assumption) Tryz.underlying39 rfl (by kernel_rfl) ?_) | (refine AA hS 1 rfl _ _ rfl _ _ rfl _ _ rfl _ (by first | rfl | assumption) Tryz.underlying39 rfl (by kernel_rfl) ?_) | (refine AA hS 2 rfl _ _ rfl _ _ rfl _ _ rfl _ (by first | rfl | assumption) Tryz.underlying39 rfl (by kernel_rfl) ?_) | (refine AA hS 3 rfl _ _ rfl _ _ rfl _ _ rfl _ (by first | rfl | assumption) Tryz.underlying39 rfl (by kernel_rfl) ?_) | (refine AA hS 4 rfl _ _ rfl _ _ rfl _ _ rfl _ (by first | rfl | assumption) Tryz.underlying39 rfl (by kernel_rfl) ?_) | (refine AA hS 5 rfl _ _ rfl _ _ rfl _ _ rfl _ (by first | rfl | assumption) Tryz.underlying39 rfl (by kernel_rfl) ?_))
   | (go_at_call 71; refine (CW _ _ y N _ _ _ (ka _ _ hS.ro) (kc _ _ hS.ro)).mono ?_; rintro r_ w_ ⟨_, rfl, rfl, hb_⟩; rw [<- HB1.out]; replace hS := hS.ext hb_; clear hb_)
   | (go_at_call 86; refine (meets_any _ _ n N _ _ _ (kb _ _ hS.ro) (kc _ _ hS.ro)).mono ?_; rintro r_ w_ ⟨_, rfl, rfl, hb_⟩; replace hS := hS.ext hb_; clear hb_))
  go_ret
  exact AF.mk (by rw [HR.out]; rfl) hS.below
theorem idxc_any {w0 w : World} {F : List Ac} {K : (Nat -> Prop) -> World -> Prop} (v : Value) (l : List (Nat × Nat)) (f : FuncId) (first caps : Array Value) (q : Nat × Nat -> Bool) (hcg : BK Tryz.prog f = true) (hS : St w0 w F K) (kl : ∀ D w, K D w -> Aj w D v l)
  (hq : ∀ (x : Value) (z : Nat × Nat) (w : World), z ∈ l -> (∃ F', St w0 w (F' ++ F) fun D w => K D w /\ AH w D x z) -> Calls Tryz.prog f (first.toList ++ [x] ++ caps.toList).toArray w (AF (fun r _ => r = .bool (q z)) w)) :
  Calls Tryz.prog 138 #[v, .func (.func f) first caps] w fun e w' => ∃ k : Int, e = .returned (.int .i64 k) /\ decide (0 <= k) = l.any q /\ St w0 w' F K := by
 obtain ⟨A, c, rfl, _, hc2⟩ := (kl _ _ hS.ro).shape
 have KS := Lib.hid hS.stable
 have HQ := Lib.hid hq
 clear hq
 have HCG := Lib.hid hcg
 clear hcg
 go_enter Tryz.func138, Tryz.ntmps138
 go_wp2_with (first | ((with_reducible refine qB ?_); refine qc ?_ ?_ <;> intro h_ <;> go_prune))
 go_loopw [8] (fun i wr => ∃ k : Nat, k <= l.length /\ i = .int .i64 (k : Nat) /\ St w0 wr F K /\ Hid (∀ z ∈ l.take k, q z = false)) (fun i _ => l.length - (intOf i).toNat)
 case atStart => exact ⟨0, by omega, rfl, hS, Lib.hid (by simp)⟩
 case round =>
  clear hS
  obtain ⟨k, hk, rfl, hS, HZ⟩ := hrel
  by_cases hlt : k < l.length
  ·obtain ⟨b, o, y, n, rfl, _, hb, c0, c1, hy, hn⟩ := (kl _ _ hS.ro).at_ hlt
   obtain ⟨Ay, my, cy, rfl⟩ := hy.shape
   obtain ⟨An, mn, cn, rfl⟩ := hn.shape
   have HM : Hid (l.getD k (0, 0) ∈ l) := Lib.hid (by rw [List.getD_eq_getElem?_getD, List.getElem?_eq_getElem hlt]; exact List.getElem_mem hlt)
   have HZ2 : Hid (q (l.getD k (0, 0)) = false -> ∀ z ∈ l.take (k + 1), q z = false) := Lib.hid fun h z hz => by
    rw [List.take_add_one, List.mem_append] at hz
    rcases hz with hz | hz
    ·exact HZ.out z hz
    ·rw [List.getElem?_eq_getElem hlt] at hz
     rw [List.getD_eq_getElem?_getD, List.getElem?_eq_getElem hlt] at h
     have : z = l[k] := by simpa using hz
     rw [this]; exact h
   have HY : Hid (q (l.getD k (0, 0)) = true -> true = l.any q) := Lib.hid fun h => (List.any_eq_true.2 ⟨_, HM.out, h⟩).symm
   replace hS := hS.add (D := DW F) (CL (v := .agg #[.slice Ay my cy, .slice An mn cn]) (z := l.getD k (0, 0))) ⟨_, _, rfl, hy, hn⟩ fun _ h _ => h
   clear hy hn
   generalize l.getD k (0, 0) = z at *
   have HK := Lib.hid (HQ.out (.agg #[.slice Ay my cy, .slice An mn cn]) z wr HM.out ⟨[], hS⟩)
   obtain ⟨args, hargs⟩ : ∃ args, args = first.toList ++ [Value.agg #[.slice Ay my cy, .slice An mn cn]] ++ caps.toList := ⟨_, rfl⟩
   rw [<- hargs] at HK
   have HARG := Lib.hid hargs
   clear hargs
   go_wp2_with (first
    | ((with_reducible refine qA 15 ?_); refine BigFrame.wpList_want rfl fun _ hK => AU (cs := [.slice Ay my cy, .slice An mn cn]) rfl rfl (rng2 c0 c1) Tryz.underlying56 rfl (by kernel_rfl) (hK _ _ ?_))
    | ((with_reducible refine qA 16 ?_); refine BigFrame.wpList_want rfl fun _ hK => Cc (vs := args) rfl rfl HCG.out (by simp [Act.eval, Act.put, HARG.out]) HK.out fun e w' ⟨u_, he_, hu_, hb_⟩ => ⟨u_, he_, hK _ _ ?_⟩))
   ·go_ret
    exact ⟨_, rfl, (decide_eq_true (by omega)).trans (HY.out (by assumption)), (hS.ext hb_).mono KS.out fun _ _ h => h.1⟩
   ·exact ⟨⟨k + 1, hlt, by go_num, (hS.ext hb_).mono KS.out fun _ _ h => h.1, Lib.hid (HZ2.out (by assumption))⟩, by simp [intOf]; omega⟩
  ·obtain rfl : k = l.length := by omega
   have HN : Hid (false = l.any q) := Lib.hid (by
    have h := HZ.out
    rw [List.take_length] at h
    exact (List.any_eq_false.2 fun z hz => by rw [h z hz]; simp).symm)
   go_wp2_with (first | ((with_reducible refine qB ?_); refine qc ?_ ?_ <;> intro h_ <;> go_prune))
   go_ret
   exact ⟨_, rfl, (decide_eq_false (by omega)).trans HN.out, hS⟩
theorem IU {w0 w : World} {F : List Ac} {K : (Nat -> Prop) -> World -> Prop} (v : Value) (l : List (Nat × Nat)) (f : FuncId) (first caps : Array Value) (q : Nat × Nat -> Bool) (hcg : BK Tryz.prog f = true) (hS : St w0 w F K) (kl : ∀ D w, K D w -> Aj w D v l)
  (hq : ∀ (x : Value) (z : Nat × Nat) (w : World), z ∈ l -> (∃ F', St w0 w (F' ++ F) fun D w => K D w /\ AH w D x z) -> Calls Tryz.prog f (first.toList ++ [x] ++ caps.toList).toArray w (AF (fun r _ => r = .bool (q z)) w)) :
  Calls Tryz.prog 64 #[v, .func (.func f) first caps] w fun e w' => e = .returned (.bool (l.any q)) /\ St w0 w' F K := by
 have HI := Lib.hid (idxc_any v l f first caps q hcg hS kl hq)
 clear hcg hS kl hq
 go_enter Tryz.func64, Tryz.ntmps64
 go_wp2_with fail
 refine HI.out.mono ?_
 rintro e w1 ⟨k, rfl, hk, hS⟩
 have HK := Lib.hid hk
 clear hk
 go_wp2_with (first | ((with_reducible refine qA 8 ?_); refine BigFrame.wpList_want rfl fun _ hK => AE (vx := .int .i64 k) (vy := .int .i64 0) (v := .bool (l.any q)) rfl rfl rfl rfl (run_geB ((decide_eq_decide.2 (by omega)).trans HK.out)) (hK _ _ ?_)))
 go_ret
 exact ⟨rfl, hS⟩
end
section
open Go.RowKit
set_option exponentiation.threshold 5000
def Dw (z : Nat × Nat) : Nat := Dq z.1 * 64 + Dq z.2
def Sm (z : Nat × Nat) : Prop := z.1 < 64 /\ z.2 < 64
theorem Fp : ∀ a, a < 64 -> Dq a < 64 := by decide +kernel
theorem Hy {a b : Nat × Nat} (ha : Sm a) (hb : Sm b) : cmpC a b < 0 ↔ Dw a < Dw b := by
 have h1 := key_dec a.1 ha.1 b.1 hb.1
 have h2 := key_dec a.2 ha.2 b.2 hb.2
 have h3 := cmp_zero a.1 ha.1 b.1 hb.1
 rw [decide_eq_decide] at h1 h2 h3
 have k1 := Fp a.1 ha.1
 have k2 := Fp b.1 hb.1
 have k3 := Fp a.2 ha.2
 have k4 := Fp b.2 hb.2
 unfold cmpC Dw
 by_cases h : Du a.1 b.1 = 0
 ·rw [if_pos h, h2, h3.1 h]; omega
 ·rw [if_neg h, h1]
  have : Dq a.1 ≠ Dq b.1 := fun e => h (h3.2 (key_inj a.1 ha.1 b.1 hb.1 e))
  omega
theorem ckey_inj {a b : Nat × Nat} (ha : Sm a) (hb : Sm b) (h : Dw a = Dw b) : a = b := by
 have k3 := Fp a.2 ha.2
 have k4 := Fp b.2 hb.2
 unfold Dw at h
 exact Prod.ext (key_inj _ ha.1 _ hb.1 (by omega)) (key_inj _ ha.2 _ hb.2 (by omega))
theorem swoC {val : Nat -> Nat × Nat} (hv : ∀ x, Sm (val x)) : Sort.SWO (ltOf fun x y => cmpC (val x) (val y)) where
 irrefl x := by unfold ltOf; rw [decide_eq_false_iff_not, Hy (hv x) (hv x)]; omega
 trans x y z h1 h2 := by unfold ltOf at *; rw [decide_eq_true_eq, Hy (hv _) (hv _)] at *; omega
 ntrans x y z h1 h2 := by unfold ltOf at *; rw [decide_eq_false_iff_not, Hy (hv _) (hv _)] at *; omega
def AQ (enc : Nat -> Value × Value) (M : List Nat) : List Value := M.flatMap fun x => [(enc x).1, (enc x).2]
theorem IL (enc : Nat -> Value × Value) (M : List Nat) : (AQ enc M).length = M.length * 2 := by
 induction M with
 | nil => rfl
 | cons x M ih => simp [AQ] at *; omega
theorem Ec (enc : Nat -> Value × Value) : ∀ (M : List Nat) (k : Nat), k < M.length -> (AQ enc M)[k * 2]? = some (enc (M.getD k 0)).1 /\ (AQ enc M)[k * 2 + 1]? = some (enc (M.getD k 0)).2
 | [], k, h => by simp at h
 | x :: M, 0, _ => ⟨rfl, rfl⟩
 | x :: M, k + 1, h => by
  have := Ec enc M k (by simpa using h)
  rw [show (k + 1) * 2 = k * 2 + 1 + 1 by omega]
  simpa [AQ] using this
def encL (enc : Nat -> Value × Value) (x : Nat) : List Value := [(enc x).1, (enc x).2]
theorem Hc (enc : Nat -> Value × Value) (d : Array Nat) : (Sort.flatK (encL enc) 2 d).toList = AQ enc d.toList := by
 refine List.ext_getElem? fun t => ?_
 by_cases ht : t < d.size * 2
 ·have h1 : t / 2 < d.size := by omega
  have h2 := Ec enc d.toList (t / 2) (by simpa using h1)
  have h3 : d.toList.getD (t / 2) 0 = d[t / 2]! := by
   simp [List.getD_eq_getElem?_getD, h1]
  rw [h3] at h2
  have h4 : (Sort.flatK (encL enc) 2 d).toList[t]? = some ((Sort.flatK (encL enc) 2 d)[t]!) := by
   rw [getElem!_pos _ t (by simpa using ht)]; simp [ht]
  rw [h4, Sort.get_flatK _ _ _ _ ht]
  rcases Nat.mod_two_eq_zero_or_one t with h5 | h5
  ·rw [h5]; rw [show t / 2 * 2 = t by omega] at h2; rw [h2.1]; rfl
  ·rw [h5]; rw [show t / 2 * 2 + 1 = t by omega] at h2; rw [h2.2]; rfl
 ·rw [List.getElem?_eq_none (by simp; omega), List.getElem?_eq_none (by rw [IL]; simp; omega)]
def SortQ (w0 : World) (F : List Ac) (K : (Nat -> Prop) -> World -> Prop) (i g n cap : Nat) (enc : Nat -> Value × Value) (val : Nat -> Nat × Nat) (e : Ending) (w' : World) : Prop :=
 ∃ M : List Nat, e = .returned (.tuple #[]) /\ M.Perm (List.range n) /\ M.Pairwise (fun x y => Dw (val x) <= Dw (val y)) /\ St w0 w' (F.set i (.own (.slice (some ⟨g, 0, none⟩) n cap) 56 2 n (AQ enc M))) K
theorem sortc_any {w0 w : World} {F : List Ac} {K : (Nat -> Prop) -> World -> Prop} (i g n cap : Nat) (enc : Nat -> Value × Value) (val : Nat -> Nat × Nat) (hv : ∀ x, Sm (val x)) (hn : n <= 1000000) (hS : St w0 w F K) (hi : F[i]? = some (.own (.slice (some ⟨g, 0, none⟩) n cap) 56 2 n (AQ enc (List.range n))))
  (ke : ∀ D w, K D w -> ∀ x, AH w D (.agg #[(enc x).1, (enc x).2]) (val x)) (kt : ∀ D w, K D w -> Bl w) :
  Calls Tryz.prog 145 #[.slice (some ⟨g, 0, none⟩) n cap, .func (.func 146) #[] #[]] w (SortQ w0 F K i g n cap enc val) := by
 have hone : ∀ x, ∀ v ∈ encL enc x, v.oneCell' = true := fun x v hvx => by
  obtain ⟨a, b, he, ha, hb⟩ := ke _ _ hS.ro x
  injection he with he
  injection he with he
  injection he with e1 he
  injection he with e2 _
  obtain ⟨A, m, c, e3⟩ := ha.shape
  obtain ⟨B, k, d, e4⟩ := hb.shape
  unfold encL at hvx
  rw [e1, e2, e3, e4] at hvx
  simp at hvx
  rcases hvx with rfl | rfl <;> rfl
 have eg : ∀ args w, (callFunc 146 args).run Tryz.prog w = .ok (.enter 146 args) w := enters_of Tryz.func146 (by kernel_rfl) rfl
 refine (sortg_any Tryz.sortCubes 2 Tryz.isAgg56 Tryz.sizeOf56 (encL enc) (fun _ => rfl) hone (fun x y => cmpC (val x) (val y)) (swoC hv) 146 eg i g n cap 56 _ hS hi (by rw [Hc]; simp) (by omega) fun w1 F1 h1 x y => ?_).mono ?_
 ·obtain ⟨a, b, he, ha, hb⟩ := ke _ _ h1.ro x
  obtain ⟨c, d, he2, hc, hd⟩ := ke _ _ h1.ro y
  have e1 : (encL enc x).toArray = #[a, b] := by injection he
  have e2 : (encL enc y).toArray = #[c, d] := by injection he2
  rw [e1, e2]
  have h64 : ∀ m, m < 64 -> m < AM := fun m h => by unfold AM; omega
  exact cubecmp_gr ha hb hc hd (h64 _ (hv x).1) (h64 _ (hv x).2) (h64 _ (hv y).1) (h64 _ (hv y).2) (kt _ _ h1.ro)
 ·rintro r w' ⟨M, rfl, hp, hs, hS2⟩
  rw [Hc] at hS2
  exact ⟨M, rfl, hp, hs.imp fun h => by rw [Hy (hv _) (hv _)] at h; omega, hS2⟩
end
section
open Go.RowKit
set_option exponentiation.threshold 5000
def clt (x y : Nat × Nat) : Prop := Dw x < Dw y
def cle (x y : Nat × Nat) : Prop := Dw x <= Dw y
def Hs (M C : List (Nat × Nat)) (j : Nat) : Prop := C.Pairwise clt /\ ∀ x, x ∈ C ↔ x ∈ M.take j
theorem Hs.one {M : List (Nat × Nat)} (h : 0 < M.length) : Hs M (M.take 1) 1 := by
 refine ⟨?_, fun x => Iff.rfl⟩
 rw [show M.take 1 = M.take 0 ++ [M.getD 0 (0, 0)] from Dd h]
 simp
theorem Hs.same {M C : List (Nat × Nat)} {j : Nat} (h : Hs M C j) (h0 : 0 < j) (hj : j < M.length) (he : M.getD j (0, 0) = M.getD (j - 1) (0, 0)) : Hs M C (j + 1) := by
 refine ⟨h.1, fun x => ?_⟩
 rw [Dd hj, List.mem_append, h.2, List.mem_singleton]
 constructor
 ·exact .inl
 ·rintro (h1 | rfl)
  ·exact h1
  ·rw [he]; exact mem_takeD h0 (by omega)
theorem Hs.step {M C : List (Nat × Nat)} {j : Nat} (hs : ∀ x ∈ M, Sm x) (hM : M.Pairwise cle) (h : Hs M C j) (h0 : 0 < j) (hj : j < M.length) (he : M.getD j (0, 0) ≠ M.getD (j - 1) (0, 0)) : Hs M (C ++ [M.getD j (0, 0)]) (j + 1) := by
 have hp : ∀ a b, a < b -> b < M.length -> Dw (M.getD a (0, 0)) <= Dw (M.getD b (0, 0)) := fun a b hab hb => by
  have := List.pairwise_iff_getElem.1 hM a b (by omega) hb hab
  rw [List.getD_eq_getElem?_getD, List.getD_eq_getElem?_getD, List.getElem?_eq_getElem hb, List.getElem?_eq_getElem (by omega)]
  exact this
 have hm : ∀ a, a < M.length -> Sm (M.getD a (0, 0)) := fun a ha => hs _ (by rw [List.getD_eq_getElem?_getD, List.getElem?_eq_getElem ha]; exact List.getElem_mem ha)
 refine ⟨?_, fun x => by rw [Dd hj, List.mem_append, List.mem_append, h.2]⟩
 refine List.pairwise_append.2 ⟨h.1, by simp, fun x hx y hy => ?_⟩
 rw [List.mem_singleton] at hy
 subst hy
 obtain ⟨i, hi⟩ := List.mem_iff_getElem?.1 ((h.2 x).1 hx)
 have hij : i < j := by
  have := (List.getElem?_eq_some_iff.1 hi).1
  rw [List.length_take] at this; omega
 have hx2 : x = M.getD i (0, 0) := by
  rw [List.getElem?_take_of_lt hij] at hi
  rw [List.getD_eq_getElem?_getD, hi]; rfl
 have h5 := hp (j - 1) j (by omega) hj
 have h6 : Dw (M.getD (j - 1) (0, 0)) ≠ Dw (M.getD j (0, 0)) := fun e => he (ckey_inj (hm _ hj) (hm _ (by omega)) e.symm)
 unfold clt
 rw [hx2]
 by_cases hi2 : i = j - 1
 ·subst hi2; omega
 ·have h7 := hp i (j - 1) (by omega) (by omega)
  omega
theorem IK (enc : Nat -> Value × Value) : ∀ (L : List Nat) (k x : Nat), ((AQ enc L).set (k * 2) (enc x).1).set (k * 2 + 1) (enc x).2 = AQ enc (L.set k x)
 | [], k, x => by simp [AQ]
 | y :: L, 0, x => by simp [AQ]
 | y :: L, k + 1, x => by
  have := IK enc L k x
  rw [show (k + 1) * 2 = k * 2 + 1 + 1 by omega]
  simpa [AQ] using this
theorem Hd (enc : Nat -> Value × Value) : ∀ (L : List Nat) (k : Nat), (AQ enc L).take (k * 2) = AQ enc (L.take k)
 | [], k => by simp [AQ]
 | y :: L, 0 => by simp [AQ]
 | y :: L, k + 1 => by
  have := Hd enc L k
  rw [show (k + 1) * 2 = k * 2 + 1 + 1 by omega]
  simpa [AQ] using this
theorem BV {w : World} {base g n cap k : Nat} {e : TypeId} {enc : Nat -> Value × Value} {R : List Nat} (h : w.ownsRow base e 2 (.slice (some ⟨g, 0, none⟩) n cap) n (AQ enc R)) (hk : k < R.length) : w.rangeAt g (k * 2) [(enc (R.getD k 0)).1, (enc (R.getD k 0)).2] := by
 have h2 := Ec enc R k hk
 intro j v hj
 match j, hj with
 | 0, hj => simp at hj; subst hj; exact BJ h _ _ h2.1
 | 1, hj => simp at hj; subst hj; exact BJ h _ _ h2.2
 | j + 2, hj => simp at hj
theorem Eb (val : Nat -> Nat × Nat) {R : List Nat} {k : Nat} (hk : k < R.length) : (R.map val).getD k (0, 0) = val (R.getD k 0) := by
 rw [List.getD_eq_getElem?_getD, List.getElem?_map, List.getElem?_eq_getElem hk, List.getD_eq_getElem?_getD, List.getElem?_eq_getElem hk]; rfl
theorem pt_getN {M : List Nat} {j : Nat} (hj : j < M.length) : M.take (j + 1) = M.take j ++ [M.getD j 0] := by
 rw [List.take_succ_eq_append_getElem hj, List.getD_eq_getElem?_getD, List.getElem?_eq_getElem hj]; rfl
end
section
open Go.RowKit
attribute [local go_sem ↓] Go.wp_at_zero Go.wp_at_succ
set_option maxRecDepth 20000
set_option exponentiation.threshold 5000
def CmN (val : Nat -> Nat × Nat) (M C : List Nat) (j : Nat) : Prop := Hs (M.map val) (C.map val) j
theorem CmN.one {val : Nat -> Nat × Nat} {M : List Nat} (h : 0 < M.length) : CmN val M (M.take 1) 1 := by
 have := Hs.one (M := M.map val) (by simpa using h)
 unfold CmN
 rw [List.map_take]; exact this
theorem CmN.same {val : Nat -> Nat × Nat} {M C : List Nat} {j : Nat} (h : CmN val M C j) (h0 : 0 < j) (hj : j < M.length) (he : val (M.getD j 0) = val (M.getD (j - 1) 0)) : CmN val M C (j + 1) :=
 Hs.same h h0 (by simpa using hj) (by rw [Eb val hj, Eb val (by omega)]; exact he)
theorem CmN.step {val : Nat -> Nat × Nat} {M C : List Nat} {j : Nat} (hv : ∀ x, Sm (val x)) (hM : (M.map val).Pairwise cle) (h : CmN val M C j) (h0 : 0 < j) (hj : j < M.length) (he : val (M.getD j 0) ≠ val (M.getD (j - 1) 0)) : CmN val M (C ++ [M.getD j 0]) (j + 1) := by
 have := Hs.step (fun x hx => by obtain ⟨a, _, rfl⟩ := List.mem_map.1 hx; exact hv a) hM h h0 (by simpa using hj) (by rw [Eb val hj, Eb val (by omega)]; exact he)
 unfold CmN
 rw [List.map_append, List.map_cons, List.map_nil, <- Eb val hj]
 exact this
def CompQ (w0 : World) (F0 : List Ac) (K : (Nat -> Prop) -> World -> Prop) (g n cap : Nat) (enc : Nat -> Value × Value) (val : Nat -> Nat × Nat) (M : List Nat) (e : Ending) (w' : World) : Prop :=
 ∃ C : List Nat, e = .returned (.slice (some ⟨g, 0, none⟩) C.length cap) /\ CmN val M C n /\ C.length <= n /\ St w0 w' (.own (.slice (some ⟨g, 0, none⟩) C.length cap) 56 2 C.length (AQ enc C) :: F0) K
theorem compactc_any {w0 w : World} {F0 : List Ac} {K : (Nat -> Prop) -> World -> Prop} (g n cap : Nat) (enc : Nat -> Value × Value) (val : Nat -> Nat × Nat) (M : List Nat) (hl : M.length = n) (hn : n <= 1000000) (hv : ∀ x, Sm (val x)) (hM : (M.map val).Pairwise cle) (hS : St w0 w (.own (.slice (some ⟨g, 0, none⟩) n cap) 56 2 n (AQ enc M) :: F0) K)
  (ke : ∀ D w, K D w -> ∀ x, AH w D (.agg #[(enc x).1, (enc x).2]) (val x)) :
  Calls Tryz.prog 147 #[.slice (some ⟨g, 0, none⟩) n cap, .func (.func 91) #[] #[]] w (CompQ w0 F0 K g n cap enc val M) := by
 have HM := Lib.hid hM
 clear hM
 have HV := Lib.hid hv
 clear hv
 have KE := Lib.hid ke
 clear ke
 have H1C : Hid (∀ x, (enc x).1.oneCell' = true /\ (enc x).2.oneCell' = true) := Lib.hid fun x => by
  obtain ⟨a, b, he, ha, hb⟩ := KE.out _ _ hS.ro x
  injection he with he
  injection he with he
  injection he with e1 he
  injection he with e2 _
  obtain ⟨A, m, c, e3⟩ := ha.shape
  obtain ⟨B, k, d, e4⟩ := hb.shape
  rw [e1, e2, e3, e4]
  exact ⟨rfl, rfl⟩
 obtain ⟨hc1, hc2⟩ : n <= cap /\ cap <= 9223372036854775807 := by
  obtain ⟨A, c, he, h1, h2⟩ := B7 (hS.own 0 rfl)
  injection he with _ _ he
  subst he
  exact ⟨h1, h2⟩
 by_cases hn2 : n < 2
 ·have H1 : Hid (CmN val M M n) := Lib.hid ⟨by
   match M, hl with
   | [], _ => exact List.Pairwise.nil
   | [x], _ => simp
   | x :: y :: r, h => simp at h; omega, fun x => by rw [<- hl, show M.length = (M.map val).length by simp, List.take_length]⟩
  go_enter Tryz.func147, Tryz.ntmps147
  go_wp2_with (first | ((with_reducible refine qB ?_); refine qc ?_ ?_ <;> intro h_ <;> go_prune))
  go_ret
  subst hl
  exact ⟨M, rfl, H1.out, Nat.le_refl _, hS⟩
 ·have H1 := Lib.hid (CmN.one (val := val) (M := M) (by omega))
  go_enter Tryz.func147, Tryz.ntmps147
  go_wp2_with (first | ((with_reducible refine qB ?_); refine qc ?_ ?_ <;> intro h_ <;> go_prune))
  go_loopw [5] (fun i wr => ∃ j : Nat, 1 <= j /\ j <= n /\ i = .int .i64 j /\ Hid (CmN val M (M.take j) j) /\ St w0 wr (.own (.slice (some ⟨g, 0, none⟩) n cap) 56 2 n (AQ enc M) :: F0) K) (fun i _ => n - (intOf i).toNat)
  case atStart => exact ⟨1, by omega, by omega, rfl, H1, hS⟩
  case round =>
   clear hS H1
   obtain ⟨j, hj1, hj, rfl, HC, hS⟩ := hrel
   by_cases hlj : j < n
   ·obtain ⟨p, hp⟩ : ∃ p, p = M.getD j 0 := ⟨_, rfl⟩
    obtain ⟨q, hq⟩ : ∃ q, q = M.getD (j - 1) 0 := ⟨_, rfl⟩
    have HP := Lib.hid hp
    have HQ := Lib.hid hq
    obtain ⟨B, hB⟩ : ∃ B, Hid (B = (val p == val q)) := ⟨_, Lib.hid rfl⟩
    have HX : Hid (B = true -> val (M.getD j 0) = val (M.getD (j - 1) 0)) := Lib.hid fun h => by rw [<- hp, <- hq]; simpa [hB.out] using h
    have HY : Hid (B = false -> val (M.getD j 0) ≠ val (M.getD (j - 1) 0)) := Lib.hid fun h => by rw [<- hp, <- hq]; simpa [hB.out] using h
    clear hp hq
    by_cases hx : B = true
    ·have HC2 := Lib.hid (HC.out.same hj1 (by omega) (HX.out hx))
     clear HX HY
     go_wp2_with (first | ((with_reducible refine qB ?_); refine qc ?_ ?_ <;> intro h_ <;> go_prune))
     refine C5 [.i (.func (.func 91) #[] #[]), .i (.slice (some ⟨g, 0, none⟩) n cap), .n ((j : Nat) : Int), .q g (0 + (j) * 2), .i (.agg #[(enc p).1, (enc p).2]), .i (.slice (some ⟨g, 0, none⟩) n cap), .n ((j : Nat) : Int), .n (((j : Nat) : Int) - (1 : Int)), .q g (0 + (j - 1) * 2), .i (.agg #[(enc q).1, (enc q).2]), .i (.bool B)] ⟨uM, uM, uM, uI (h := fun w hW hN => Af (m := j) Tryz.underlying41 (by kernel_rfl) (by omega) (by omega)), uD (h := fun w hW hN => by rw [Nat.zero_add, HP.out]; exact BV ((hS.ext hW).own 0 rfl) (by omega)), uM, uM, uB (h := fun w hW hN => Cu (by omega) (by omega)), uI (h := fun w hW hN => Af (m := j - 1) Tryz.underlying41 (by kernel_rfl) (by omega) (by omega)), uD (h := fun w hW hN => by rw [Nat.zero_add, HQ.out]; exact BV ((hS.ext hW).own 0 rfl) (by omega)), ?_, trivial⟩ ?_
     ·refine uT fun b__ w hW hE K hK => ?_
      have e18 := hE 18
      have e22 := hE 22
      have e27 := hE 27
      refine Cc (f := 91) (first := #[]) (caps := #[]) (vs := [.agg #[(enc p).1, (enc p).2], .agg #[(enc q).1, (enc q).2]]) rfl e18 (by kernel_rfl) (by simp [e22, e27]) (CU _ _ (val p) (val q) _ _ _ (KE.out _ _ (hS.ext hW).ro p) (KE.out _ _ (hS.ext hW).ro q)) fun e w' ⟨x_, he_, hx_, hb_⟩ => ⟨x_, he_, ?_⟩
      exact hK _ _ (hx_.trans (by rw [hB.out])) hb_
     ·intro vs wz hW hT
      obtain ⟨e18, e19, e20, e21, e22, e23, e24, e25, e26, e27, e28, -⟩ := hT
      simp only [Ak, Act.put, zz, ze]
      replace hS := hS.ext hW
      rw [e28, hx]
      clear hW e28 hB hx e18 e19 e20 e21 e22 e23 e24 e25 e26 e27 HP HQ
      go_wp2_with (first | ((with_reducible refine qB ?_); refine qc ?_ ?_ <;> intro h_ <;> go_prune))
      have hCl : (M.take j).length = j := by rw [List.length_take]; omega
      go_loopw [5, 7] (fun i kv wr => ∃ (k : Nat) (R C : List Nat), 1 <= k /\ k <= n - j /\ i = .int .i64 (C.length : Nat) /\ kv = .int .i64 (k : Nat) /\ C.length <= j + k - 1 /\ R.length = n /\ Hid (CmN val M C (j + k) /\ R.take C.length = C /\ ∀ t, j + k - 1 <= t -> R.getD t 0 = M.getD t 0) /\ St w0 wr (.own (.slice (some ⟨g, 0, none⟩) n cap) 56 2 n (AQ enc R) :: F0) K) (fun _ kv _ => n - j - (intOf kv).toNat)
      case atStart => exact ⟨1, M, M.take j, by omega, by omega, by rw [hCl], rfl, by omega, hl, Lib.hid ⟨HC2.out, by rw [hCl], fun _ _ => rfl⟩, hS⟩
      case round =>
       clear hS HC2 hCl
       obtain ⟨k, R, C, hk1, hk, rfl, rfl, hCl, hR, HI, hS⟩ := hrel
       by_cases hkj : k < n - j
       ·have HE1 := Lib.hid (HI.out.2.2 (j + k) (by omega))
        have HE2 := Lib.hid (HI.out.2.2 (j + k - 1) (by omega))
        obtain ⟨p, hp⟩ : ∃ p, p = R.getD (j + k) 0 := ⟨_, rfl⟩
        obtain ⟨q, hq⟩ : ∃ q, q = R.getD (j + k - 1) 0 := ⟨_, rfl⟩
        have HP := Lib.hid hp
        have HQ := Lib.hid hq
        obtain ⟨B, hB⟩ : ∃ B, Hid (B = (val p == val q)) := ⟨_, Lib.hid rfl⟩
        have HX : Hid (B = true -> val (M.getD (j + k) 0) = val (M.getD (j + k - 1) 0)) := Lib.hid fun h => by rw [<- HE1.out, <- HE2.out, <- hp, <- hq]; simpa [hB.out] using h
        have HY : Hid (B = false -> val (M.getD (j + k) 0) ≠ val (M.getD (j + k - 1) 0)) := Lib.hid fun h => by rw [<- HE1.out, <- HE2.out, <- hp, <- hq]; simpa [hB.out] using h
        have HPM := Lib.hid (hp.trans HE1.out)
        clear hp hq
        by_cases hx : B = true
        ·have HI2 := Lib.hid (show CmN val M C (j + (k + 1)) /\ R.take C.length = C /\ ∀ t, j + (k + 1) - 1 <= t -> R.getD t 0 = M.getD t 0 from ⟨HI.out.1.same (by omega) (by omega) (HX.out hx), HI.out.2.1, fun t ht => HI.out.2.2 t (by omega)⟩)
         clear HI HE1 HE2 HX HY HPM
         go_wp2_with (first | ((with_reducible refine qB ?_); refine qc ?_ ?_ <;> intro h_ <;> go_prune))
         refine C5 [.i (.func (.func 91) #[] #[]), .i (.slice (some ⟨g, j * 2, none⟩) (n - j) (cap - j)), .n ((k : Nat) : Int), .q g (j * 2 + (k) * 2), .i (.agg #[(enc p).1, (enc p).2]), .i (.slice (some ⟨g, j * 2, none⟩) (n - j) (cap - j)), .n ((k : Nat) : Int), .n (((k : Nat) : Int) - (1 : Int)), .q g (j * 2 + (k - 1) * 2), .i (.agg #[(enc q).1, (enc q).2]), .i (.bool B), .i (.bool (!B))] ⟨uM, uM, uM, uI (h := fun w hW hN => Af (m := k) Tryz.underlying41 (by kernel_rfl) (by omega) (by omega)), uD (h := fun w hW hN => by rw [<- Nat.add_mul, HP.out]; exact BV ((hS.ext hW).own 0 rfl) (by omega)), uM, uM, uB (h := fun w hW hN => Cu (by omega) (by omega)), uI (h := fun w hW hN => Af (m := k - 1) Tryz.underlying41 (by kernel_rfl) (by omega) (by omega)), uD (h := fun w hW hN => by rw [<- Nat.add_mul, HQ.out, show j + (k - 1) = j + k - 1 by omega]; exact BV ((hS.ext hW).own 0 rfl) (by omega)), ?_, uU, trivial⟩ ?_
         ·refine uT fun b__ w hW hE K hK => ?_
          have e38 := hE 38
          have e42 := hE 42
          have e47 := hE 47
          refine Cc (f := 91) (first := #[]) (caps := #[]) (vs := [.agg #[(enc p).1, (enc p).2], .agg #[(enc q).1, (enc q).2]]) rfl e38 (by kernel_rfl) (by simp [e42, e47]) (CU _ _ (val p) (val q) _ _ _ (KE.out _ _ (hS.ext hW).ro p) (KE.out _ _ (hS.ext hW).ro q)) fun e w' ⟨x_, he_, hx_, hb_⟩ => ⟨x_, he_, ?_⟩
          exact hK _ _ (hx_.trans (by rw [hB.out])) hb_
         ·intro vs wz hW hT
          obtain ⟨e38, e39, e40, e41, e42, e43, e44, e45, e46, e47, e48, e49, -⟩ := hT
          simp only [Ak, Act.put, zz, ze]
          replace hS := hS.ext hW
          rw [e49, hx]
          clear hW e49 hB hx e38 e39 e40 e41 e42 e43 e44 e45 e46 e47 e48 HP HQ
          go_wp2_with (first | ((with_reducible refine qB ?_); refine qc ?_ ?_ <;> intro h_ <;> go_prune))
          exact ⟨⟨k + 1, R, C, by omega, by omega, rfl, by go_num, by omega, hR, HI2, hS⟩, by simp [intOf]; omega⟩
        ·replace hx : B = false := by simpa using hx
         have HI2 := Lib.hid (show CmN val M (C ++ [p]) (j + (k + 1)) /\ (R.set C.length p).take (C.length + 1) = C ++ [p] /\ ∀ t, j + (k + 1) - 1 <= t -> (R.set C.length p).getD t 0 = M.getD t 0 from by
          refine ⟨?_, ?_, fun t ht => ?_⟩
          ·rw [HPM.out]; exact HI.out.1.step HV.out HM.out (by omega) (by omega) (HY.out hx)
          ·rw [pt_getN (by rw [List.length_set]; omega), List.take_set_of_le (Nat.le_refl _), HI.out.2.1]
           simp [List.getD_eq_getElem?_getD, show C.length < R.length by omega]
          ·rw [<- HI.out.2.2 t (by omega), List.getD_eq_getElem?_getD, List.getElem?_set_ne (by omega), List.getD_eq_getElem?_getD])
         clear HI HE1 HE2 HX HY HPM
         go_wp2_with (first | ((with_reducible refine qB ?_); refine qc ?_ ?_ <;> intro h_ <;> go_prune))
         refine C5 [.i (.func (.func 91) #[] #[]), .i (.slice (some ⟨g, j * 2, none⟩) (n - j) (cap - j)), .n ((k : Nat) : Int), .q g (j * 2 + (k) * 2), .i (.agg #[(enc p).1, (enc p).2]), .i (.slice (some ⟨g, j * 2, none⟩) (n - j) (cap - j)), .n ((k : Nat) : Int), .n (((k : Nat) : Int) - (1 : Int)), .q g (j * 2 + (k - 1) * 2), .i (.agg #[(enc q).1, (enc q).2]), .i (.bool B), .i (.bool (!B))] ⟨uM, uM, uM, uI (h := fun w hW hN => Af (m := k) Tryz.underlying41 (by kernel_rfl) (by omega) (by omega)), uD (h := fun w hW hN => by rw [<- Nat.add_mul, HP.out]; exact BV ((hS.ext hW).own 0 rfl) (by omega)), uM, uM, uB (h := fun w hW hN => Cu (by omega) (by omega)), uI (h := fun w hW hN => Af (m := k - 1) Tryz.underlying41 (by kernel_rfl) (by omega) (by omega)), uD (h := fun w hW hN => by rw [<- Nat.add_mul, HQ.out, show j + (k - 1) = j + k - 1 by omega]; exact BV ((hS.ext hW).own 0 rfl) (by omega)), ?_, uU, trivial⟩ ?_
         ·refine uT fun b__ w hW hE K hK => ?_
          have e38 := hE 38
          have e42 := hE 42
          have e47 := hE 47
          refine Cc (f := 91) (first := #[]) (caps := #[]) (vs := [.agg #[(enc p).1, (enc p).2], .agg #[(enc q).1, (enc q).2]]) rfl e38 (by kernel_rfl) (by simp [e42, e47]) (CU _ _ (val p) (val q) _ _ _ (KE.out _ _ (hS.ext hW).ro p) (KE.out _ _ (hS.ext hW).ro q)) fun e w' ⟨x_, he_, hx_, hb_⟩ => ⟨x_, he_, ?_⟩
          exact hK _ _ (hx_.trans (by rw [hB.out])) hb_
         ·intro vs wz hW hT
          obtain ⟨e38, e39, e40, e41, e42, e43, e44, e45, e46, e47, e48, e49, -⟩ := hT
          simp only [Ak, Act.put, zz, ze]
          replace hS := hS.ext hW
          rw [e49, hx]
          clear hW e49 hB hx e38 e39 e40 e41 e42 e43 e44 e45 e46 e47 e48 HQ
          go_wp2_with (first
           | ((with_reducible refine qB ?_); refine qc ?_ ?_ <;> intro h_ <;> go_prune)
           | ((with_reducible refine qA 55 ?_); refine BigFrame.wpList_want rfl fun _ hK => AU (cs := [(enc p).1, (enc p).2]) rfl rfl (by rw [<- Nat.add_mul, HP.out]; exact BV (hS.own 0 rfl) (by omega)) Tryz.underlying56 rfl (by kernel_rfl) (hK _ _ ?_))
           | ((with_reducible refine qM ?_); refine BigFrame.wpList_want rfl fun _ hK => GY (i := C.length * 2) rfl rfl rfl (hS.own 0 rfl) (by omega) (H1C.out p).1 (H1C.out p).2 (by kernel_rfl) fun w3 hX hU => hK _ _ ?_; replace hS := hS.upd 0 rfl (.own (.slice (some ⟨g, 0, none⟩) n cap) 56 2 n _) (Bh hU) hX (fun _ e => .inl e)))
          rw [IK] at hS
          exact ⟨⟨k + 1, R.set C.length p, C ++ [p], by omega, by omega, by simp, by go_num, by simp; omega, by simp [hR], by rw [List.length_append, List.length_singleton]; exact HI2, hS⟩, by simp [intOf]; omega⟩
       ·obtain rfl : k = n - j := by omega
        have HC := Lib.hid (show CmN val M C n from by have := HI.out.1; rwa [show j + (n - j) = n by omega] at this)
        have HT := Lib.hid HI.out.2.1
        obtain ⟨w2, ys, hrun, hX, hys, hG⟩ := Fd (ty := 0) (c := cap - C.length) (hS.own 0 rfl) Tryz.underlying41 (Tryz.zeroValue56 wr) rfl (by simp [Value.oneCell']) (show C.length + (n - C.length) = n by omega)
        replace hS := hS.upd 0 rfl (.own (.slice (some ⟨g, 0, none⟩) C.length cap) 56 2 C.length (AQ enc C)) hG (by
         have := own_short hX (show C.length <= n by omega)
         rwa [hys, Hd, HT.out] at this) (fun _ e => .inl e)
        clear hX hG hys HI
        go_wp2_with (first | ((with_reducible refine qB ?_); refine qc ?_ ?_ <;> intro h_ <;> go_prune) | ((with_reducible show wpList _ _ _ (⟨_, .call _, _, _, _, _⟩ :: _) _ _); refine BigFrame.wpList_want rfl fun _ hK => opw_clear (w' := w2) rfl rfl hrun (hK _ _ ?_)))
        go_ret
        exact ⟨C, rfl, HC.out, by omega, hS⟩
    ·replace hx : B = false := by simpa using hx
     have HC2 := Lib.hid (HC.out.step HV.out HM.out hj1 (by omega) (HY.out hx))
     rw [<- pt_getN (by omega)] at HC2
     clear HX HY
     go_wp2_with (first | ((with_reducible refine qB ?_); refine qc ?_ ?_ <;> intro h_ <;> go_prune))
     refine C5 [.i (.func (.func 91) #[] #[]), .i (.slice (some ⟨g, 0, none⟩) n cap), .n ((j : Nat) : Int), .q g (0 + (j) * 2), .i (.agg #[(enc p).1, (enc p).2]), .i (.slice (some ⟨g, 0, none⟩) n cap), .n ((j : Nat) : Int), .n (((j : Nat) : Int) - (1 : Int)), .q g (0 + (j - 1) * 2), .i (.agg #[(enc q).1, (enc q).2]), .i (.bool B)] ⟨uM, uM, uM, uI (h := fun w hW hN => Af (m := j) Tryz.underlying41 (by kernel_rfl) (by omega) (by omega)), uD (h := fun w hW hN => by rw [Nat.zero_add, HP.out]; exact BV ((hS.ext hW).own 0 rfl) (by omega)), uM, uM, uB (h := fun w hW hN => Cu (by omega) (by omega)), uI (h := fun w hW hN => Af (m := j - 1) Tryz.underlying41 (by kernel_rfl) (by omega) (by omega)), uD (h := fun w hW hN => by rw [Nat.zero_add, HQ.out]; exact BV ((hS.ext hW).own 0 rfl) (by omega)), ?_, trivial⟩ ?_
     ·refine uT fun b__ w hW hE K hK => ?_
      have e18 := hE 18
      have e22 := hE 22
      have e27 := hE 27
      refine Cc (f := 91) (first := #[]) (caps := #[]) (vs := [.agg #[(enc p).1, (enc p).2], .agg #[(enc q).1, (enc q).2]]) rfl e18 (by kernel_rfl) (by simp [e22, e27]) (CU _ _ (val p) (val q) _ _ _ (KE.out _ _ (hS.ext hW).ro p) (KE.out _ _ (hS.ext hW).ro q)) fun e w' ⟨x_, he_, hx_, hb_⟩ => ⟨x_, he_, ?_⟩
      exact hK _ _ (hx_.trans (by rw [hB.out])) hb_
     ·intro vs wz hW hT
      obtain ⟨e18, e19, e20, e21, e22, e23, e24, e25, e26, e27, e28, -⟩ := hT
      simp only [Ak, Act.put, zz, ze]
      replace hS := hS.ext hW
      rw [e28, hx]
      clear hW e28 hB hx e18 e19 e20 e21 e22 e23 e24 e25 e26 e27 HP HQ
      go_wp2_with (first | ((with_reducible refine qB ?_); refine qc ?_ ?_ <;> intro h_ <;> go_prune))
      exact ⟨⟨j + 1, by omega, hlj, by go_num, HC2, hS⟩, by simp [intOf]; omega⟩
   ·obtain rfl : j = n := by omega
    go_wp2_with (first | ((with_reducible refine qB ?_); refine qc ?_ ?_ <;> intro h_ <;> go_prune))
    go_ret
    have hM : M.take j = M := by rw [<- hl, List.take_length]
    rw [hM] at HC
    subst hl
    exact ⟨M, rfl, HC.out, Nat.le_refl _, hS⟩
end
section
open Go.RowKit
attribute [local go_sem ↓] Go.wp_at_zero Go.wp_at_succ
set_option maxRecDepth 20000
set_option exponentiation.threshold 5000
theorem some1_any {w : World} {D E : Nat -> Prop} {x sv : Value} {z : Nat × Nat} {N g : Nat} (hx : AH w D x z) (hb : C9 w E g #[sv]) (hs : Aa w E (.agg #[sv]) N) : Calls Tryz.prog 85 #[x, .pointer (some ⟨g, 0, none⟩)] w (AF (fun r _ => r = .bool (Bg z N)) w) := by
 obtain ⟨a, b, rfl, ha, hb1⟩ := hx
 obtain ⟨A, m, c, rfl⟩ := ha.shape
 obtain ⟨B, k, d, rfl⟩ := hb1.shape
 obtain ⟨C, l, e, rfl⟩ := hs.shape
 obtain ⟨K, ka, kb, kc, hS⟩ : ∃ K : (Nat -> Prop) -> World -> Prop, (∀ D w, K D w -> AH w D (.agg #[.slice A m c, .slice B k d]) z) /\ (∀ D w, K D w -> C9 w D g #[.slice C l e]) /\ (∀ D w, K D w -> Aa w D (.agg #[.slice C l e]) N) /\ St w w [] K :=
  ⟨fun D w => (AH w D (.agg #[.slice A m c, .slice B k d]) z /\ C9 w D g #[.slice C l e]) /\ Aa w D (.agg #[.slice C l e]) N, fun _ _ h => h.1.1, fun _ _ h => h.1.2, fun _ _ h => h.2, St.start (D := fun _ => True) ((CL.and AZ).and Ab) ⟨⟨⟨_, _, rfl, ha.imp fun _ _ _ => trivial, hb1.imp fun _ _ _ => trivial⟩, AZ E _ w w hb (Nat.le_refl _) (fun _ _ _ _ h => h) fun _ _ _ _ => trivial⟩, hs.imp fun _ _ _ => trivial⟩⟩
 clear ha hb1 hb hs
 go_enter Tryz.func85, Tryz.ntmps85
 go_wp2_with (first
  | ((with_reducible refine qA 2 ?_); refine Aw hS rfl _ _ rfl (.agg #[.slice A m c, .slice B k d]) _ rfl rfl ?_; clear hS; intro g2 w_ hS; (try simp only [Act.put, Act.eval, zz, Value.cells] at hS))
  | ((with_reducible refine qK ?_); refine qL hS Tryz.underlying56 ?_)
  | ((with_reducible refine qk 39 ?_); refine BigFrame.wpList_want rfl fun _ hK => AU (cs := [.slice C l e]) rfl rfl (rng1 ((kb _ _ hS.ro).cell 0 rfl)) Tryz.underlying39 rfl (by kernel_rfl) (hK _ _ ?_))
  | (go_at_call 25; refine (GI (ka _ _ hS.ro) (kc _ _ hS.ro)).mono ?_; rintro r_ w_ ⟨_, rfl, rfl, hb_⟩; replace hS := hS.ext hb_; clear hb_))
 go_ret
 exact AF.mk rfl hS.below
theorem some_any {w0 : World} {D E : Nat -> Prop} {v u : Value} {l : List (Nat × Nat)} {N : Nat} (hv : Aj w0 D v l) (hu : Aa w0 E u N) : Calls Tryz.prog 23 #[v, u] w0 (AF (fun r _ => r = .bool (l.any fun z => Bg z N)) w0) := by
 obtain ⟨A, c, rfl, _, _⟩ := hv.shape
 obtain ⟨C, e, lw, rfl, -⟩ := hu.parts
 obtain ⟨n, hn⟩ : ∃ n, n = lw.length := ⟨_, rfl⟩
 rw [<- hn] at hu ⊢
 clear hn
 obtain ⟨K, kl, ks, hS⟩ : ∃ K : (Nat -> Prop) -> World -> Prop, (∀ D w, K D w -> Aj w D (.slice A l.length c) l) /\ (∀ D w, K D w -> Aa w D (.agg #[.slice C n e]) N) /\ St w0 w0 [] K :=
  ⟨fun D w => Aj w D (.slice A l.length c) l /\ Aa w D (.agg #[.slice C n e]) N, fun _ _ h => h.1, fun _ _ h => h.2, St.start (D := fun _ => True) (AY.and Ab) ⟨hv.imp fun _ _ _ => trivial, hu.imp fun _ _ _ => trivial⟩⟩
 clear hv hu
 go_enter Tryz.func23, Tryz.ntmps23
 go_wp2_with (first
  | (((with_reducible refine qA 3 ?_); refine Aw hS rfl _ _ rfl (.agg #[.slice C n e]) _ rfl rfl ?_; clear hS; intro g3 w_ hS; (try simp only [Act.put, Act.eval, zz, Value.cells] at hS)); replace hS := hS.sealB 0 (by simp) rfl)
  | (go_at_call 64; refine (IU _ l 85 #[] #[.pointer (some ⟨g3, 0, none⟩)] (fun z => Bg z N) (by kernel_rfl) hS (fun D w h => kl D w h.1) fun x z w _ ⟨F', h⟩ => some1_any h.ro.2 h.ro.1.2 (ks _ _ h.ro.1.1)).mono ?_; clear hS; rintro e_ w_ ⟨rfl, hS⟩))
 go_ret
 exact AF.mk rfl hS.below
structure Bk where
 revoke : Bool
 yes : Nat
 no : Nat
 target : Int
 origin : Int
def Bb : Bk := ⟨false, 0, 0, 0, 0⟩
def Fr (w : World) (D : Nat -> Prop) (v : Value) (z : Bk) : Prop := ∃ a b, v = .agg #[.bool z.revoke, a, b, .int .i64 z.target, .int .i64 z.origin] /\ Aa w D (.agg #[a]) z.yes /\ Aa w D (.agg #[b]) z.no
theorem GV {v : Value} {z : Bk} : AC fun D w => Fr w D v z := fun D D' w w' h a b c => by
 obtain ⟨x, y, h1, h2, h3⟩ := h
 exact ⟨x, y, h1, Ab D D' w w' h2 a b c, Ab D D' w w' h3 a b c⟩
def BC (w : World) (D : Nat -> Prop) (xs : List Value) (l : List Bk) : Prop :=
 ∀ i z, l[i]? = some z -> ∃ a b, xs[i * 5]? = some (.bool z.revoke) /\ xs[i * 5 + 1]? = some a /\ xs[i * 5 + 2]? = some b /\ xs[i * 5 + 3]? = some (.int .i64 z.target) /\ xs[i * 5 + 4]? = some (.int .i64 z.origin) /\ Aa w D (.agg #[a]) z.yes /\ Aa w D (.agg #[b]) z.no
theorem DR {xs : List Value} {l : List Bk} : AC fun D w => BC w D xs l := fun D D' w w' h a b c i z hi => by
 obtain ⟨x, y, h1, h2, h3, h4, h5, h6, h7⟩ := h i z hi
 exact ⟨x, y, h1, h2, h3, h4, h5, Ab D D' w w' h6 a b c, Ab D D' w w' h7 a b c⟩
def BL (w : World) (D : Nat -> Prop) (v : Value) (l : List Bk) : Prop := ∃ xs : List Value, Sl w D 5 v l.length xs /\ BC w D xs l
theorem Bx {v : Value} {l : List Bk} : AC fun D w => BL w D v l := fun D D' w w' h a b c => by
 obtain ⟨xs, h1, h2⟩ := h
 exact ⟨xs, Av (by decide) D D' w w' h1 a b c, DR D D' w w' h2 a b c⟩
theorem BL.shape {w : World} {D : Nat -> Prop} {v : Value} {l : List Bk} (h : BL w D v l) : ∃ A c, v = .slice A l.length c /\ l.length <= c /\ c <= 9223372036854775807 := by
 obtain ⟨xs, h, _⟩ := h
 exact h.shape
theorem BL.at_ {w : World} {D : Nat -> Prop} {l : List Bk} {A : Option Addr} {n c : Nat} (h : BL w D (.slice A n c) l) {k : Nat} (hk : k < l.length) :
  ∃ b o y m, A = some ⟨b, o, none⟩ /\ D b /\ b < w.heap.size /\ w.cell? ⟨b, o + k * 5, none⟩ = some (.bool (l.getD k Bb).revoke) /\ w.cell? ⟨b, o + k * 5 + 1, none⟩ = some y /\ w.cell? ⟨b, o + k * 5 + 2, none⟩ = some m /\ w.cell? ⟨b, o + k * 5 + 3, none⟩ = some (.int .i64 (l.getD k Bb).target) /\ w.cell? ⟨b, o + k * 5 + 4, none⟩ = some (.int .i64 (l.getD k Bb).origin) /\ Aa w D (.agg #[y]) (l.getD k Bb).yes /\ Aa w D (.agg #[m]) (l.getD k Bb).no := by
 obtain ⟨xs, ⟨hl, A', c', h1, _, _, h2⟩, h3⟩ := h
 injection h1 with h1
 subst h1
 obtain ⟨b, o, rfl, hD, hb, hc⟩ := h2 (by omega)
 have e : l[k]? = some (l.getD k Bb) := by rw [List.getD_eq_getElem?_getD, List.getElem?_eq_getElem hk]; rfl
 obtain ⟨y, m, q0, q1, q2, q3, q4, q5, q6⟩ := h3 k _ e
 exact ⟨b, o, y, m, rfl, hD, hb, hc _ _ q0, hc _ _ q1, hc _ _ q2, hc _ _ q3, hc _ _ q4, q5, q6⟩
theorem Ho {w : World} {g i : Nat} {a b c d e : Value} (h0 : w.cell? ⟨g, i, none⟩ = some a) (h1 : w.cell? ⟨g, i + 1, none⟩ = some b) (h2 : w.cell? ⟨g, i + 2, none⟩ = some c) (h3 : w.cell? ⟨g, i + 3, none⟩ = some d) (h4 : w.cell? ⟨g, i + 4, none⟩ = some e) : w.rangeAt g i [a, b, c, d, e] := fun j v hj => by
 match j, hj with
 | 0, hj => obtain rfl := Option.some.inj (show some _ = some v from hj); exact h0
 | 1, hj => obtain rfl := Option.some.inj (show some _ = some v from hj); exact h1
 | 2, hj => obtain rfl := Option.some.inj (show some _ = some v from hj); exact h2
 | 3, hj => obtain rfl := Option.some.inj (show some _ = some v from hj); exact h3
 | 4, hj => obtain rfl := Option.some.inj (show some _ = some v from hj); exact h4
 | j + 5, hj => simp at hj
theorem idxr_any {w0 w : World} {F : List Ac} {K : (Nat -> Prop) -> World -> Prop} (v : Value) (l : List (Bk)) (f : FuncId) (first caps : Array Value) (q : Bk -> Bool) (hcg : BK Tryz.prog f = true) (hS : St w0 w F K) (kl : ∀ D w, K D w -> BL w D v l)
  (hq : ∀ (x : Value) (z : Bk) (w : World), z ∈ l -> (∃ F', St w0 w (F' ++ F) fun D w => K D w /\ Fr w D x z) -> Calls Tryz.prog f (first.toList ++ [x] ++ caps.toList).toArray w (AF (fun r _ => r = .bool (q z)) w)) :
  Calls Tryz.prog 189 #[v, .func (.func f) first caps] w fun e w' => ∃ k : Int, e = .returned (.int .i64 k) /\ decide (0 <= k) = l.any q /\ St w0 w' F K := by
 obtain ⟨A, c, rfl, _, hc2⟩ := (kl _ _ hS.ro).shape
 have KS := Lib.hid hS.stable
 have HQ := Lib.hid hq
 clear hq
 have HCG := Lib.hid hcg
 clear hcg
 go_enter Tryz.func189, Tryz.ntmps189
 go_wp2_with (first | ((with_reducible refine qB ?_); refine qc ?_ ?_ <;> intro h_ <;> go_prune))
 go_loopw [8] (fun i wr => ∃ k : Nat, k <= l.length /\ i = .int .i64 (k : Nat) /\ St w0 wr F K /\ Hid (∀ z ∈ l.take k, q z = false)) (fun i _ => l.length - (intOf i).toNat)
 case atStart => exact ⟨0, by omega, rfl, hS, Lib.hid (by simp)⟩
 case round =>
  clear hS
  obtain ⟨k, hk, rfl, hS, HZ⟩ := hrel
  by_cases hlt : k < l.length
  ·obtain ⟨b, o, y, n, rfl, _, hb, c0, c1, c2, c3, c4, hy, hn⟩ := (kl _ _ hS.ro).at_ hlt
   obtain ⟨Ay, my, cy, rfl⟩ := hy.shape
   obtain ⟨An, mn, cn, rfl⟩ := hn.shape
   have HM : Hid (l.getD k Bb ∈ l) := Lib.hid (by rw [List.getD_eq_getElem?_getD, List.getElem?_eq_getElem hlt]; exact List.getElem_mem hlt)
   have HZ2 : Hid (q (l.getD k Bb) = false -> ∀ z ∈ l.take (k + 1), q z = false) := Lib.hid fun h z hz => by
    rw [List.take_add_one, List.mem_append] at hz
    rcases hz with hz | hz
    ·exact HZ.out z hz
    ·rw [List.getElem?_eq_getElem hlt] at hz
     rw [List.getD_eq_getElem?_getD, List.getElem?_eq_getElem hlt] at h
     have : z = l[k] := by simpa using hz
     rw [this]; exact h
   have HY : Hid (q (l.getD k Bb) = true -> true = l.any q) := Lib.hid fun h => (List.any_eq_true.2 ⟨_, HM.out, h⟩).symm
   replace hS := hS.add (D := DW F) (GV (v := .agg #[.bool (l.getD k Bb).revoke, .slice Ay my cy, .slice An mn cn, .int .i64 (l.getD k Bb).target, .int .i64 (l.getD k Bb).origin]) (z := l.getD k Bb)) ⟨_, _, rfl, hy, hn⟩ fun _ h _ => h
   clear hy hn
   generalize l.getD k Bb = z at *
   have HK := Lib.hid (HQ.out (.agg #[.bool z.revoke, .slice Ay my cy, .slice An mn cn, .int .i64 z.target, .int .i64 z.origin]) z wr HM.out ⟨[], hS⟩)
   obtain ⟨args, hargs⟩ : ∃ args, args = first.toList ++ [Value.agg #[.bool z.revoke, .slice Ay my cy, .slice An mn cn, .int .i64 z.target, .int .i64 z.origin]] ++ caps.toList := ⟨_, rfl⟩
   rw [<- hargs] at HK
   have HARG := Lib.hid hargs
   clear hargs
   go_wp2_with (first
    | ((with_reducible refine qA 15 ?_); refine BigFrame.wpList_want rfl fun _ hK => AU (cs := [.bool z.revoke, .slice Ay my cy, .slice An mn cn, .int .i64 z.target, .int .i64 z.origin]) rfl rfl (Ho c0 c1 c2 c3 c4) Tryz.underlying84 rfl (by kernel_rfl) (hK _ _ ?_))
    | ((with_reducible refine qA 16 ?_); refine BigFrame.wpList_want rfl fun _ hK => Cc (vs := args) rfl rfl HCG.out (by simp [Act.eval, Act.put, HARG.out]) HK.out fun e w' ⟨u_, he_, hu_, hb_⟩ => ⟨u_, he_, hK _ _ ?_⟩))
   ·go_ret
    exact ⟨_, rfl, (decide_eq_true (by omega)).trans (HY.out (by assumption)), (hS.ext hb_).mono KS.out fun _ _ h => h.1⟩
   ·exact ⟨⟨k + 1, hlt, by go_num, (hS.ext hb_).mono KS.out fun _ _ h => h.1, Lib.hid (HZ2.out (by assumption))⟩, by simp [intOf]; omega⟩
  ·obtain rfl : k = l.length := by omega
   have HN : Hid (false = l.any q) := Lib.hid (by
    have h := HZ.out
    rw [List.take_length] at h
    exact (List.any_eq_false.2 fun z hz => by rw [h z hz]; simp).symm)
   go_wp2_with (first | ((with_reducible refine qB ?_); refine qc ?_ ?_ <;> intro h_ <;> go_prune))
   go_ret
   exact ⟨_, rfl, (decide_eq_false (by omega)).trans HN.out, hS⟩
theorem anyr_any {w0 w : World} {F : List Ac} {K : (Nat -> Prop) -> World -> Prop} (v : Value) (l : List (Bk)) (f : FuncId) (first caps : Array Value) (q : Bk -> Bool) (hcg : BK Tryz.prog f = true) (hS : St w0 w F K) (kl : ∀ D w, K D w -> BL w D v l)
  (hq : ∀ (x : Value) (z : Bk) (w : World), z ∈ l -> (∃ F', St w0 w (F' ++ F) fun D w => K D w /\ Fr w D x z) -> Calls Tryz.prog f (first.toList ++ [x] ++ caps.toList).toArray w (AF (fun r _ => r = .bool (q z)) w)) :
  Calls Tryz.prog 139 #[v, .func (.func f) first caps] w fun e w' => e = .returned (.bool (l.any q)) /\ St w0 w' F K := by
 have HI := Lib.hid (idxr_any v l f first caps q hcg hS kl hq)
 clear hcg hS kl hq
 go_enter Tryz.func139, Tryz.ntmps139
 go_wp2_with fail
 refine HI.out.mono ?_
 rintro e w1 ⟨k, rfl, hk, hS⟩
 have HK := Lib.hid hk
 clear hk
 go_wp2_with (first | ((with_reducible refine qA 8 ?_); refine BigFrame.wpList_want rfl fun _ hK => AE (vx := .int .i64 k) (vy := .int .i64 0) (v := .bool (l.any q)) rfl rfl rfl rfl (run_geB ((decide_eq_decide.2 (by omega)).trans HK.out)) (hK _ _ ?_)))
 go_ret
 exact ⟨rfl, hS⟩
theorem idxp_any {w0 w : World} {F : List Ac} {K : (Nat -> Prop) -> World -> Prop} (v : Value) (l : List (Nat × Nat)) (f : FuncId) (first caps : Array Value) (q : Nat × Nat -> Bool) (hcg : BK Tryz.prog f = true) (hS : St w0 w F K) (kl : ∀ D w, K D w -> Sl w D 2 v l.length (Ad l))
  (hq : ∀ (x : Value) (z : Nat × Nat) (w : World), z ∈ l -> St w0 w F K -> x = .agg #[.int .i64 (z.1 : Nat), .int .i64 (z.2 : Nat)] -> Calls Tryz.prog f (first.toList ++ [x] ++ caps.toList).toArray w (AF (fun r _ => r = .bool (q z)) w)) :
  Calls Tryz.prog 209 #[v, .func (.func f) first caps] w fun e w' => ∃ k : Int, e = .returned (.int .i64 k) /\ decide (0 <= k) = l.any q /\ St w0 w' F K := by
 obtain ⟨A, c, rfl, _, hc2⟩ := (kl _ _ hS.ro).shape
 have KS := Lib.hid hS.stable
 have HQ := Lib.hid hq
 clear hq
 have HCG := Lib.hid hcg
 clear hcg
 go_enter Tryz.func209, Tryz.ntmps209
 go_wp2_with (first | ((with_reducible refine qB ?_); refine qc ?_ ?_ <;> intro h_ <;> go_prune))
 go_loopw [8] (fun i wr => ∃ k : Nat, k <= l.length /\ i = .int .i64 (k : Nat) /\ St w0 wr F K /\ Hid (∀ z ∈ l.take k, q z = false)) (fun i _ => l.length - (intOf i).toNat)
 case atStart => exact ⟨0, by omega, rfl, hS, Lib.hid (by simp)⟩
 case round =>
  clear hS
  obtain ⟨k, hk, rfl, hS, HZ⟩ := hrel
  by_cases hlt : k < l.length
  ·obtain ⟨f1, f2⟩ := Bj l k hlt
   obtain ⟨b, o, rfl, c0, c1⟩ : ∃ b o, A = some ⟨b, o, none⟩ /\ wr.cell? ⟨b, o + k * 2, none⟩ = some (.int .i64 ((l.getD k (0, 0)).1 : Nat)) /\ wr.cell? ⟨b, o + k * 2 + 1, none⟩ = some (.int .i64 ((l.getD k (0, 0)).2 : Nat)) := by
    obtain ⟨_, A2, c2, e2, _, _, h5⟩ := kl _ _ hS.ro
    obtain ⟨b, o, h6, _, _, h7⟩ := h5 (by omega)
    injection e2 with e2
    exact ⟨b, o, e2.trans h6, h7 _ _ f1, h7 _ _ f2⟩
   clear f1 f2
   have HM : Hid (l.getD k (0, 0) ∈ l) := Lib.hid (by rw [List.getD_eq_getElem?_getD, List.getElem?_eq_getElem hlt]; exact List.getElem_mem hlt)
   have HZ2 : Hid (q (l.getD k (0, 0)) = false -> ∀ z ∈ l.take (k + 1), q z = false) := Lib.hid fun h z hz => by
    rw [List.take_add_one, List.mem_append] at hz
    rcases hz with hz | hz
    ·exact HZ.out z hz
    ·rw [List.getElem?_eq_getElem hlt] at hz
     rw [List.getD_eq_getElem?_getD, List.getElem?_eq_getElem hlt] at h
     have : z = l[k] := by simpa using hz
     rw [this]; exact h
   have HY : Hid (q (l.getD k (0, 0)) = true -> true = l.any q) := Lib.hid fun h => (List.any_eq_true.2 ⟨_, HM.out, h⟩).symm
   generalize l.getD k (0, 0) = z at *
   have HK := Lib.hid (HQ.out (.agg #[.int .i64 (z.1 : Nat), .int .i64 (z.2 : Nat)]) z wr HM.out hS rfl)
   obtain ⟨args, hargs⟩ : ∃ args, args = first.toList ++ [Value.agg #[.int .i64 (z.1 : Nat), .int .i64 (z.2 : Nat)]] ++ caps.toList := ⟨_, rfl⟩
   rw [<- hargs] at HK
   have HARG := Lib.hid hargs
   clear hargs
   go_wp2_with (first
    | ((with_reducible refine qA 15 ?_); refine BigFrame.wpList_want rfl fun _ hK => AU (cs := [.int .i64 (z.1 : Nat), .int .i64 (z.2 : Nat)]) rfl rfl (rng2 c0 c1) Tryz.underlying107 rfl (by kernel_rfl) (hK _ _ ?_))
    | ((with_reducible refine qA 16 ?_); refine BigFrame.wpList_want rfl fun _ hK => Cc (vs := args) rfl rfl HCG.out (by simp [Act.eval, Act.put, HARG.out]) HK.out fun e w' ⟨u_, he_, hu_, hb_⟩ => ⟨u_, he_, hK _ _ ?_⟩))
   ·go_ret
    exact ⟨_, rfl, (decide_eq_true (by omega)).trans (HY.out (by assumption)), hS.ext hb_⟩
   ·exact ⟨⟨k + 1, hlt, by go_num, hS.ext hb_, Lib.hid (HZ2.out (by assumption))⟩, by simp [intOf]; omega⟩
  ·obtain rfl : k = l.length := by omega
   have HN : Hid (false = l.any q) := Lib.hid (by
    have h := HZ.out
    rw [List.take_length] at h
    exact (List.any_eq_false.2 fun z hz => by rw [h z hz]; simp).symm)
   go_wp2_with (first | ((with_reducible refine qB ?_); refine qc ?_ ?_ <;> intro h_ <;> go_prune))
   go_ret
   exact ⟨_, rfl, (decide_eq_false (by omega)).trans HN.out, hS⟩
theorem anyp_any {w0 w : World} {F : List Ac} {K : (Nat -> Prop) -> World -> Prop} (v : Value) (l : List (Nat × Nat)) (f : FuncId) (first caps : Array Value) (q : Nat × Nat -> Bool) (hcg : BK Tryz.prog f = true) (hS : St w0 w F K) (kl : ∀ D w, K D w -> Sl w D 2 v l.length (Ad l))
  (hq : ∀ (x : Value) (z : Nat × Nat) (w : World), z ∈ l -> St w0 w F K -> x = .agg #[.int .i64 (z.1 : Nat), .int .i64 (z.2 : Nat)] -> Calls Tryz.prog f (first.toList ++ [x] ++ caps.toList).toArray w (AF (fun r _ => r = .bool (q z)) w)) :
  Calls Tryz.prog 186 #[v, .func (.func f) first caps] w fun e w' => e = .returned (.bool (l.any q)) /\ St w0 w' F K := by
 have HI := Lib.hid (idxp_any v l f first caps q hcg hS kl hq)
 clear hcg hS kl hq
 go_enter Tryz.func186, Tryz.ntmps186
 go_wp2_with fail
 refine HI.out.mono ?_
 rintro e w1 ⟨k, rfl, hk, hS⟩
 have HK := Lib.hid hk
 clear hk
 go_wp2_with (first | ((with_reducible refine qA 8 ?_); refine BigFrame.wpList_want rfl fun _ hK => AE (vx := .int .i64 k) (vy := .int .i64 0) (v := .bool (l.any q)) rfl rfl rfl rfl (run_geB ((decide_eq_decide.2 (by omega)).trans HK.out)) (hK _ _ ?_)))
 go_ret
 exact ⟨rfl, hS⟩
end
section
open Go.RowKit
attribute [local go_sem ↓] Go.wp_at_zero Go.wp_at_succ
set_option maxRecDepth 20000
set_option exponentiation.threshold 5000
theorem all1c_any {w0 w : World} {F : List Ac} {K : (Nat -> Prop) -> World -> Prop} {x : Value} {z : Nat × Nat} {g : Nat} {f : FuncId} {first caps : Array Value} {b : Bool} (hcg : BK Tryz.prog f = true) (hS : St w0 w F K) (kb : ∀ D w, K D w -> C9 w D g #[.func (.func f) first caps]) (kx : ∀ D w, K D w -> AH w D x z)
  (hq : ∀ w, (∃ F', St w0 w (F' ++ F) K) -> Calls Tryz.prog f (first.toList ++ [x] ++ caps.toList).toArray w (AF (fun r _ => r = .bool b) w)) :
  Calls Tryz.prog 188 #[x, .pointer (some ⟨g, 0, none⟩)] w (AF (fun r _ => r = .bool (!b)) w) := by
 obtain ⟨a0, b0, rfl, ha, hb⟩ := kx _ _ hS.ro
 obtain ⟨A, m, c, rfl⟩ := ha.shape
 obtain ⟨B, k, d, rfl⟩ := hb.shape
 obtain ⟨args, hargs⟩ : ∃ args, args = first.toList ++ [Value.agg #[.slice A m c, .slice B k d]] ++ caps.toList := ⟨_, rfl⟩
 rw [<- hargs] at hq
 have HARG := Lib.hid hargs
 have HQ := Lib.hid hq
 have HCG := Lib.hid hcg
 have HB := Lib.hid hS.below
 have hW := Below.refl w.heap.size w
 clear ha hb hargs hq hcg kx
 go_enter Tryz.func188, Tryz.ntmps188
 go_wp2_with (first
  | ((with_reducible refine qA 2 ?_); refine CA rfl _ _ rfl (.agg #[.slice A m c, .slice B k d]) _ rfl rfl ?_; intro w_ hX hb_; replace hS := hS.new hb_ (.box _ _ _) ⟨Nat.le_refl _, hX⟩; replace hW := BP hW hb_; clear hX hb_; (try simp only [Act.put, Act.eval, zz, Value.cells] at hS))
  | ((with_reducible refine qK ?_); refine qL hS Tryz.underlying56 ?_)
  | ((with_reducible refine qA 4 ?_); refine BigFrame.wpList_want rfl fun _ hK => Az rfl rfl (by kernel_rfl) ((kb _ _ hS.ro).cell 0 rfl) (hK _ _ ?_))
  | ((with_reducible refine qA 6 ?_); refine BigFrame.wpList_want rfl fun _ hK => Cc (vs := args) rfl rfl HCG.out (by simp [Act.eval, Act.put, HARG.out]) (HQ.out _ ⟨[_], hS⟩) fun e w' ⟨u_, he_, hu_, hb_⟩ => ⟨u_, he_, hK _ _ ?_⟩))
 go_ret
 exact AF.mk rfl (BP hW hb_)
theorem allc_any {w0 w : World} {F : List Ac} {K : (Nat -> Prop) -> World -> Prop} (v : Value) (l : List (Nat × Nat)) (f : FuncId) (first caps : Array Value) (q : Nat × Nat -> Bool) (hcg : BK Tryz.prog f = true) (hS : St w0 w F K) (kl : ∀ D w, K D w -> Aj w D v l)
  (hq : ∀ (x : Value) (z : Nat × Nat) (w : World), z ∈ l -> (∃ F', St w0 w (F' ++ F) fun D w => K D w /\ AH w D x z) -> Calls Tryz.prog f (first.toList ++ [x] ++ caps.toList).toArray w (AF (fun r _ => r = .bool (q z)) w)) :
  Calls Tryz.prog 136 #[v, .func (.func f) first caps] w fun e w' => e = .returned (.bool (l.all q)) /\ St w0 w' F K := by
 have KS := Lib.hid hS.stable
 have HQ := Lib.hid hq
 have HR : Hid ((!l.any fun z => !q z) = l.all q) := Lib.hid (by rw [List.all_eq_not_any_not])
 obtain ⟨R, hR⟩ : ∃ R, R = l.any fun z => !q z := ⟨_, rfl⟩
 rw [<- hR] at HR
 have HRR := Lib.hid hR
 clear hq hR
 go_enter Tryz.func136, Tryz.ntmps136
 go_wp2_with (first
  | (((with_reducible refine qA 3 ?_); refine Aw hS rfl _ _ rfl (.func (.func f) first caps) _ rfl rfl ?_; clear hS; intro g3 w_ hS; (try simp only [Act.put, Act.eval, zz, Value.cells] at hS)); replace hS := hS.sealB 0 (by simp) rfl)
  | (go_at_call 64; refine (IU v l 188 #[] #[.pointer (some ⟨g3, 0, none⟩)] (fun z => !q z) (by kernel_rfl) hS (fun D w h => kl D w h.1) fun x z w hz ⟨F1, h⟩ => all1c_any hcg h (fun D w h => h.1.2) (fun D w h => h.2) fun w' ⟨F2, h'⟩ => HQ.out x z w' hz ⟨F2 ++ F1, (by rw [List.append_assoc]; exact h'.mono (KS.out.and CL) fun D w h => ⟨h.1.1, h.2⟩)⟩).mono ?_; clear hS; rintro e_ w_ ⟨rfl, hS⟩; rw [<- HRR.out]))
 go_ret
 exact ⟨by rw [HR.out]; rfl, hS.mono KS.out fun _ _ h => h.1⟩
theorem all1r_any {w0 w : World} {F : List Ac} {K : (Nat -> Prop) -> World -> Prop} {x : Value} {z : Bk} {g : Nat} {f : FuncId} {first caps : Array Value} {b : Bool} (hcg : BK Tryz.prog f = true) (hS : St w0 w F K) (kb : ∀ D w, K D w -> C9 w D g #[.func (.func f) first caps]) (kx : ∀ D w, K D w -> Fr w D x z)
  (hq : ∀ w, (∃ F', St w0 w (F' ++ F) K) -> Calls Tryz.prog f (first.toList ++ [x] ++ caps.toList).toArray w (AF (fun r _ => r = .bool b) w)) :
  Calls Tryz.prog 140 #[x, .pointer (some ⟨g, 0, none⟩)] w (AF (fun r _ => r = .bool (!b)) w) := by
 obtain ⟨a0, b0, rfl, ha, hb⟩ := kx _ _ hS.ro
 obtain ⟨A, m, c, rfl⟩ := ha.shape
 obtain ⟨B, k, d, rfl⟩ := hb.shape
 obtain ⟨args, hargs⟩ : ∃ args, args = first.toList ++ [Value.agg #[.bool z.revoke, .slice A m c, .slice B k d, .int .i64 z.target, .int .i64 z.origin]] ++ caps.toList := ⟨_, rfl⟩
 rw [<- hargs] at hq
 have HARG := Lib.hid hargs
 have HQ := Lib.hid hq
 have HCG := Lib.hid hcg
 have HB := Lib.hid hS.below
 have hW := Below.refl w.heap.size w
 clear ha hb hargs hq hcg kx
 go_enter Tryz.func140, Tryz.ntmps140
 go_wp2_with (first
  | ((with_reducible refine qA 2 ?_); refine CA rfl _ _ rfl (.agg #[.bool z.revoke, .slice A m c, .slice B k d, .int .i64 z.target, .int .i64 z.origin]) _ rfl rfl ?_; intro w_ hX hb_; replace hS := hS.new hb_ (.box _ _ _) ⟨Nat.le_refl _, hX⟩; replace hW := BP hW hb_; clear hX hb_; (try simp only [Act.put, Act.eval, zz, Value.cells] at hS))
  | ((with_reducible refine qK ?_); refine qL hS Tryz.underlying84 ?_)
  | ((with_reducible refine qA 4 ?_); refine BigFrame.wpList_want rfl fun _ hK => Az rfl rfl (by kernel_rfl) ((kb _ _ hS.ro).cell 0 rfl) (hK _ _ ?_))
  | ((with_reducible refine qA 6 ?_); refine BigFrame.wpList_want rfl fun _ hK => Cc (vs := args) rfl rfl HCG.out (by simp [Act.eval, Act.put, HARG.out]) (HQ.out _ ⟨[_], hS⟩) fun e w' ⟨u_, he_, hu_, hb_⟩ => ⟨u_, he_, hK _ _ ?_⟩))
 go_ret
 exact AF.mk rfl (BP hW hb_)
theorem allr_any {w0 w : World} {F : List Ac} {K : (Nat -> Prop) -> World -> Prop} (v : Value) (l : List Bk) (f : FuncId) (first caps : Array Value) (q : Bk -> Bool) (hcg : BK Tryz.prog f = true) (hS : St w0 w F K) (kl : ∀ D w, K D w -> BL w D v l)
  (hq : ∀ (x : Value) (z : Bk) (w : World), z ∈ l -> (∃ F', St w0 w (F' ++ F) fun D w => K D w /\ Fr w D x z) -> Calls Tryz.prog f (first.toList ++ [x] ++ caps.toList).toArray w (AF (fun r _ => r = .bool (q z)) w)) :
  Calls Tryz.prog 67 #[v, .func (.func f) first caps] w fun e w' => e = .returned (.bool (l.all q)) /\ St w0 w' F K := by
 have KS := Lib.hid hS.stable
 have HQ := Lib.hid hq
 have HR : Hid ((!l.any fun z => !q z) = l.all q) := Lib.hid (by rw [List.all_eq_not_any_not])
 obtain ⟨R, hR⟩ : ∃ R, R = l.any fun z => !q z := ⟨_, rfl⟩
 rw [<- hR] at HR
 have HRR := Lib.hid hR
 clear hq hR
 go_enter Tryz.func67, Tryz.ntmps67
 go_wp2_with (first
  | (((with_reducible refine qA 3 ?_); refine Aw hS rfl _ _ rfl (.func (.func f) first caps) _ rfl rfl ?_; clear hS; intro g3 w_ hS; (try simp only [Act.put, Act.eval, zz, Value.cells] at hS)); replace hS := hS.sealB 0 (by simp) rfl)
  | (go_at_call 139; refine (anyr_any v l 140 #[] #[.pointer (some ⟨g3, 0, none⟩)] (fun z => !q z) (by kernel_rfl) hS (fun D w h => kl D w h.1) fun x z w hz ⟨F1, h⟩ => all1r_any hcg h (fun D w h => h.1.2) (fun D w h => h.2) fun w' ⟨F2, h'⟩ => HQ.out x z w' hz ⟨F2 ++ F1, (by rw [List.append_assoc]; exact h'.mono (KS.out.and GV) fun D w h => ⟨h.1.1, h.2⟩)⟩).mono ?_; clear hS; rintro e_ w_ ⟨rfl, hS⟩; rw [<- HRR.out]))
 go_ret
 exact ⟨by rw [HR.out]; rfl, hS.mono KS.out fun _ _ h => h.1⟩
theorem all1p_any {w0 w : World} {F : List Ac} {K : (Nat -> Prop) -> World -> Prop} {x : Value} {z : Nat × Nat} {g : Nat} {f : FuncId} {first caps : Array Value} {b : Bool} (hcg : BK Tryz.prog f = true) (hS : St w0 w F K) (kb : ∀ D w, K D w -> C9 w D g #[.func (.func f) first caps]) (kx : x = .agg #[.int .i64 (z.1 : Nat), .int .i64 (z.2 : Nat)])
  (hq : ∀ w, (∃ F', St w0 w (F' ++ F) K) -> Calls Tryz.prog f (first.toList ++ [x] ++ caps.toList).toArray w (AF (fun r _ => r = .bool b) w)) :
  Calls Tryz.prog 187 #[x, .pointer (some ⟨g, 0, none⟩)] w (AF (fun r _ => r = .bool (!b)) w) := by
 subst kx
 obtain ⟨args, hargs⟩ : ∃ args, args = first.toList ++ [Value.agg #[.int .i64 (z.1 : Nat), .int .i64 (z.2 : Nat)]] ++ caps.toList := ⟨_, rfl⟩
 rw [<- hargs] at hq
 have HARG := Lib.hid hargs
 have HQ := Lib.hid hq
 have HCG := Lib.hid hcg
 have HB := Lib.hid hS.below
 have hW := Below.refl w.heap.size w
 clear hargs hq hcg
 go_enter Tryz.func187, Tryz.ntmps187
 go_wp2_with (first
  | ((with_reducible refine qA 2 ?_); refine CA rfl _ _ rfl (.agg #[.int .i64 (z.1 : Nat), .int .i64 (z.2 : Nat)]) _ rfl rfl ?_; intro w_ hX hb_; replace hS := hS.new hb_ (.box _ _ _) ⟨Nat.le_refl _, hX⟩; replace hW := BP hW hb_; clear hX hb_; (try simp only [Act.put, Act.eval, zz, Value.cells] at hS))
  | ((with_reducible refine qK ?_); refine qL hS Tryz.underlying107 ?_)
  | ((with_reducible refine qA 4 ?_); refine BigFrame.wpList_want rfl fun _ hK => Az rfl rfl (by kernel_rfl) ((kb _ _ hS.ro).cell 0 rfl) (hK _ _ ?_))
  | ((with_reducible refine qA 6 ?_); refine BigFrame.wpList_want rfl fun _ hK => Cc (vs := args) rfl rfl HCG.out (by simp [Act.eval, Act.put, HARG.out]) (HQ.out _ ⟨[_], hS⟩) fun e w' ⟨u_, he_, hu_, hb_⟩ => ⟨u_, he_, hK _ _ ?_⟩))
 go_ret
 exact AF.mk rfl (BP hW hb_)
theorem allp_any {w0 w : World} {F : List Ac} {K : (Nat -> Prop) -> World -> Prop} (v : Value) (l : List (Nat × Nat)) (f : FuncId) (first caps : Array Value) (q : Nat × Nat -> Bool) (hcg : BK Tryz.prog f = true) (hS : St w0 w F K) (kl : ∀ D w, K D w -> Sl w D 2 v l.length (Ad l))
  (hq : ∀ (x : Value) (z : Nat × Nat) (w : World), z ∈ l -> (∃ F', St w0 w (F' ++ F) K) -> x = .agg #[.int .i64 (z.1 : Nat), .int .i64 (z.2 : Nat)] -> Calls Tryz.prog f (first.toList ++ [x] ++ caps.toList).toArray w (AF (fun r _ => r = .bool (q z)) w)) :
  Calls Tryz.prog 133 #[v, .func (.func f) first caps] w fun e w' => e = .returned (.bool (l.all q)) /\ St w0 w' F K := by
 have KS := Lib.hid hS.stable
 have HQ := Lib.hid hq
 have HR : Hid ((!l.any fun z => !q z) = l.all q) := Lib.hid (by rw [List.all_eq_not_any_not])
 obtain ⟨R, hR⟩ : ∃ R, R = l.any fun z => !q z := ⟨_, rfl⟩
 rw [<- hR] at HR
 have HRR := Lib.hid hR
 clear hq hR
 go_enter Tryz.func133, Tryz.ntmps133
 go_wp2_with (first
  | (((with_reducible refine qA 3 ?_); refine Aw hS rfl _ _ rfl (.func (.func f) first caps) _ rfl rfl ?_; clear hS; intro g3 w_ hS; (try simp only [Act.put, Act.eval, zz, Value.cells] at hS)); replace hS := hS.sealB 0 (by simp) rfl)
  | (go_at_call 186; refine (anyp_any v l 187 #[] #[.pointer (some ⟨g3, 0, none⟩)] (fun z => !q z) (by kernel_rfl) hS (fun D w h => kl D w h.1) fun x z w hz h hx => all1p_any hcg h (fun D w h => h.2) hx fun w' ⟨F2, h'⟩ => HQ.out x z w' hz ⟨F2, h'.mono KS.out fun D w h => h.1⟩ hx).mono ?_; clear hS; rintro e_ w_ ⟨rfl, hS⟩; rw [<- HRR.out]))
 go_ret
 exact ⟨by rw [HR.out]; rfl, hS.mono KS.out fun _ _ h => h.1⟩
end
section
open Go.RowKit
attribute [local go_sem ↓] Go.wp_at_zero Go.wp_at_succ
set_option maxRecDepth 20000
set_option exponentiation.threshold 5000
structure AK where
 roles : Int
 links : Option (List (Nat × Nat))
 start : Nat
 rules : List Bk
 never : List (Nat × Nat)
 goal : List (Nat × Nat)
def IsHo (w : World) (D : Nat -> Prop) (v : Value) : Option (List (Nat × Nat)) -> Prop
 | none => v = .pointer none
 | some L => IsH w D v L
theorem CK {v : Value} {o : Option (List (Nat × Nat))} : AC fun D w => IsHo w D v o := by
 cases o with
 | none => exact fun _ _ _ _ h _ _ _ => h
 | some L => exact Dl
def BQ (w : World) (D : Nat -> Prop) (v : Value) (p : AK) : Prop :=
 ∃ lp s rv nv gv, v = .agg #[.int .i64 p.roles, lp, s, rv, nv, gv] /\ IsHo w D lp p.links /\ Aa w D (.agg #[s]) p.start /\ BL w D rv p.rules /\ Aj w D nv p.never /\ Aj w D gv p.goal
theorem stable_prob {v : Value} {p : AK} : AC fun D w => BQ w D v p := fun D D' w w' h a b c => by
 obtain ⟨lp, s, rv, nv, gv, h1, h2, h3, h4, h5, h6⟩ := h
 exact ⟨lp, s, rv, nv, gv, h1, CK D D' w w' h2 a b c, Ab D D' w w' h3 a b c, Bx D D' w w' h4 a b c, AY D D' w w' h5 a b c, AY D D' w w' h6 a b c⟩
structure AK.Ok (p : AK) : Prop where
 rules : p.rules.length <= 100000
 never : p.never.length <= 100000
 goal : p.goal.length <= 100000
 links : ∀ L, p.links = some L -> Gm L /\ L.length <= 900000
def AK.cubes (p : AK) : List (Nat × Nat) := (p.rules.map fun r => (r.yes, r.no)) ++ p.never ++ p.goal
theorem Ah.append {w : World} {D : Nat -> Prop} {xs ys : List Value} {l m : List (Nat × Nat)} (hx : xs.length = l.length * 2) (h : Ah w D xs l) (k : Ah w D ys m) : Ah w D (xs ++ ys) (l ++ m) := fun i y n hi => by
 rcases Nat.lt_or_ge i l.length with h1 | h1
 ·rw [List.getElem?_append_left h1] at hi
  obtain ⟨a, b, q1, q2, q3, q4⟩ := h i y n hi
  exact ⟨a, b, by rw [List.getElem?_append_left (by omega)]; exact q1, by rw [List.getElem?_append_left (by omega)]; exact q2, q3, q4⟩
 ·rw [List.getElem?_append_right h1] at hi
  obtain ⟨a, b, q1, q2, q3, q4⟩ := k _ y n hi
  refine ⟨a, b, ?_, ?_, q3, q4⟩
  ·rw [List.getElem?_append_right (by omega), <- q1]; congr 1; omega
  ·rw [List.getElem?_append_right (by omega), <- q2]; congr 1; omega
theorem Ah.one {w : World} {D : Nat -> Prop} {xs : List Value} {l : List (Nat × Nat)} (hl : xs.length = l.length * 2) (h : Ah w D xs l) : ∀ u ∈ xs, u.oneCell' = true := fun u hu => by
 obtain ⟨i, hi, rfl⟩ := List.getElem_of_mem hu
 have hk : i / 2 < l.length := by omega
 obtain ⟨a, b, q1, q2, q3, q4⟩ := h (i / 2) l[i / 2].1 l[i / 2].2 (by rw [List.getElem?_eq_getElem hk])
 obtain ⟨A, m, c, e3⟩ := q3.shape
 obtain ⟨B, k, d, e4⟩ := q4.shape
 rcases Nat.mod_two_eq_zero_or_one i with e | e
 ·have : i = i / 2 * 2 := by omega
  rw [<- this, List.getElem?_eq_getElem hi] at q1
  injection q1 with q1
  rw [q1, e3]; rfl
 ·have : i = i / 2 * 2 + 1 := by omega
  rw [<- this, List.getElem?_eq_getElem hi] at q2
  injection q2 with q2
  rw [q2, e4]; rfl
theorem ET {xs : List Value} {l : List (Nat × Nat)} : AC fun D w => Ah w D xs l := fun D D' w w' h a b c i y n hi => by
 obtain ⟨x, z, h1, h2, h3, h4⟩ := h i y n hi
 exact ⟨x, z, h1, h2, Ab D D' w w' h3 a b c, Ab D D' w w' h4 a b c⟩
def cbD (xs xn xg : List Value) (n m k : Nat) : AD := ⟨56, 2, 3, fun s => match s with | 0 => n | 1 => n + m | _ => n + m + k, fun s => match s with | 0 => xs | 1 => xs ++ xn | _ => xs ++ xn ++ xg, fun _ v => .own v 56 2 0 []⟩
def cbK : List (Nat × (Bool × Nat)) := [(3, (true, 1)), (6, (true, 2))]
theorem AN_one1 {kd : List (Nat × (Bool × Nat))} (hk : ∀ x ∈ kd, x.2.1 = true -> 1 <= x.2.2) (w : World) (v : Value) (i : Nat) : AN kd i (w, ⟨[v], []⟩) := by
 unfold AN
 split
 ·rename_i s hs
  unfold Fg at hs
  obtain ⟨y, hy, e⟩ := Option.map_eq_some_iff.1 hs
  have := hk y (List.mem_of_find?_eq_some hy) (by rw [e])
  rw [e] at this
  exact this
 ·simp
 ·trivial
set_option maxHeartbeats 1000000 in
theorem Is {w0 w : World} {F : List Ac} {K : (Nat -> Prop) -> World -> Prop} {v : Value} {p : AK} (hP : p.Ok) (hS : St w0 w F K) (kp : ∀ D w, K D w -> BQ w D v p) :
  Calls Tryz.prog 65 #[v] w fun e w' => ∃ u, e = .returned u /\ St w0 w' F fun D w => K D w /\ Aj w D u p.cubes := by
 obtain ⟨R, lk, st, rl, nl, gl⟩ := p
 obtain ⟨lp, s, rv, nv, gv, rfl, -, -, hr, hn, hg⟩ := kp _ _ hS.ro
 dsimp only at hr hn hg
 obtain ⟨hP1, hP2, hP3, -⟩ := hP
 dsimp only at hP1 hP2 hP3
 have KS := Lib.hid hS.stable
 obtain ⟨Ar, cr, rfl, _, _⟩ := hr.shape
 obtain ⟨An, cn, rfl, _, _⟩ := hn.shape
 obtain ⟨Ag, cg, rfl, _, _⟩ := hg.shape
 obtain ⟨xn, hn1, hn2⟩ := hn
 obtain ⟨xg, hg1, hg2⟩ := hg
 obtain ⟨K1, k0, kr, kn, kg, kn2, kg2, hS2⟩ : ∃ K1 : (Nat -> Prop) -> World -> Prop, (∀ D w, K1 D w -> K D w) /\ (∀ D w, K1 D w -> BL w D (.slice Ar rl.length cr) rl) /\ (∀ D w, K1 D w -> Sl w D 2 (.slice An nl.length cn) nl.length xn) /\ (∀ D w, K1 D w -> Sl w D 2 (.slice Ag gl.length cg) gl.length xg) /\ (∀ D w, K1 D w -> Ah w D xn nl) /\ (∀ D w, K1 D w -> Ah w D xg gl) /\ St w0 w F K1 :=
  ⟨_, fun _ _ h => h.1, fun _ _ h => h.2.1, fun _ _ h => h.2.2.1.1, fun _ _ h => h.2.2.2.1, fun _ _ h => h.2.2.1.2, fun _ _ h => h.2.2.2.2, hS.add (D := DW F) (Bx.and (((Av (by decide)).and ET).and ((Av (by decide)).and ET))) ⟨hr, ⟨hn1, hn2⟩, hg1, hg2⟩ fun _ h _ => h⟩
 clear hS hr hn1 hn2 hg1 hg2 kp
 have hS := hS2
 clear hS2
 have KS1 := Lib.hid hS.stable
 go_enter Tryz.func65, Tryz.ntmps65
 go_wp2_with (first
  | ((with_reducible refine qA 1 ?_); refine Aw hS rfl _ _ rfl (.agg #[.int .i64 R, lp, s, .slice Ar rl.length cr, .slice An nl.length cn, .slice Ag gl.length cg]) _ rfl rfl ?_; clear hS; intro g1 w_ hS; (try simp only [Act.put, Act.eval, zz, Value.cells] at hS))
  | ((with_reducible refine qK ?_); refine qC hS ?_))
 obtain ⟨CS, hCS⟩ : ∃ CS : List (Nat × Nat), CS = rl.map fun r => (r.yes, r.no) := ⟨_, rfl⟩
 have HCS := Lib.hid hCS
 have hlC : CS.length = rl.length := by rw [hCS]; simp
 have HLC := Lib.hid hlC
 clear hCS hlC
 replace hS := hS.nil 56 2
 go_loopw [3, 9] (fun ov i wr => ∃ (j : Nat) (sv : Value) (xs : List Value), i = .int .i64 (j : Nat) /\ sv = ov /\ j <= rl.length /\ St w0 wr (.own sv 56 2 j xs :: .box g1 43 #[.int .i64 R, lp, s, .slice Ar rl.length cr, .slice An nl.length cn, .slice Ag gl.length cg] :: F) fun D w => K1 D w /\ Ah w D xs (CS.take j)) (fun _ i _ => rl.length - (intOf i).toNat)
 case atStart => exact ⟨0, _, [], rfl, rfl, by omega, hS.mono (KS1.out.and ET) fun D w h => ⟨h, Ah.nil⟩⟩
 case round =>
  clear hS
  obtain ⟨j, sv, xs, rfl, rfl, hj, hS⟩ := hrel
  by_cases hlj : j < rl.length
  ·obtain ⟨b, o, y, n, rfl, _, hb, c0, c1, c2, c3, c4, hy, hn⟩ := (kr _ _ hS.ro.1).at_ hlj
   obtain ⟨Ay, my, cy, rfl⟩ := hy.shape
   obtain ⟨Am, mn, cm, rfl⟩ := hn.shape
   have HT : Hid (CS.take (j + 1) = CS.take j ++ [((rl.getD j Bb).yes, (rl.getD j Bb).no)]) := Lib.hid (by
    rw [HCS.out, List.take_add_one, List.getElem?_map, List.getElem?_eq_getElem hlj, List.getD_eq_getElem?_getD, List.getElem?_eq_getElem hlj]; rfl)
   have HLT : Hid ((CS.take j).length = j) := Lib.hid (by rw [List.length_take, HLC.out]; omega)
   replace hS := hS.add (D := DW (.own sv 56 2 j xs :: .box g1 43 #[.int .i64 R, lp, s, .slice (some ⟨b, o, none⟩) rl.length cr, .slice An nl.length cn, .slice Ag gl.length cg] :: F)) (Ab.and Ab) ⟨hy, hn⟩ fun _ h _ => h
   clear hy hn
   generalize rl.getD j Bb = z at *
   have hj1 : j <= 100000 := by omega
   go_wp2_with (first
    | ((with_reducible refine qB ?_); refine qc ?_ ?_ <;> intro h_ <;> go_prune)
    | ((with_reducible refine qA 12 ?_); refine BigFrame.wpList_want rfl fun _ hK => AU (cs := [.bool z.revoke, .slice Ay my cy, .slice Am mn cm, .int .i64 z.target, .int .i64 z.origin]) rfl rfl (Ho c0 c1 c2 c3 c4) Tryz.underlying84 rfl (by kernel_rfl) (hK _ _ ?_))
    | ((with_reducible refine qA 5 ?_); refine qa hS #[.bool false, .slice none 0 0, .slice none 0 0, .int .i64 0, .int .i64 0] ?_; clear hS; intro g5 w_ hS)
    | ((with_reducible refine qM ?_); (first | refine qS hS ?_ | refine qT hS ?_); clear hS; intro w_ hS; (try simp only [Act.put, Act.eval, zz, Value.cells] at hS))
    | ((with_reducible refine qk 56 ?_); refine BU hS 0 rfl _ _ rfl _ _ rfl _ _ rfl _ _ rfl rfl Tryz.underlying56 rfl (by kernel_rfl) ?_)
    | ((with_reducible show wpList _ _ _ (⟨_, .buildSlice _ 1 _, _, _, _, _⟩ :: _) _ _); refine DC hS 1 rfl rfl _ _ _ _ rfl rfl Dj _ _ _ (.agg #[.slice Ay my cy, .slice Am mn cm]) #[.slice Ay my cy, .slice Am mn cm] rfl (by kernel_rfl) rfl rfl rfl rfl (by intro u hu; simp at hu; first | (subst hu; rfl) | (rcases hu with rfl | rfl <;> rfl)) (by omega) (by omega) ?_; clear hS; intro z_ v_ w_ hS; (try simp only [Act.put, Act.eval, zz, Value.cells] at hS)))
   have hcl := (hS.own 1 rfl).1
   refine ⟨⟨j + 1, _, xs ++ [.slice Ay my cy, .slice Am mn cm], by go_num, rfl, hlj, ?_⟩, by simp [intOf]; omega⟩
   rw [HT.out]
   exact (hS.sub (F' := _ :: _ :: F) (List.sublist_cons_self _ _)).mono (KS1.out.and ET) fun D w h => ⟨h.1.1, h.1.2.push (by rw [HLT.out]; simp at hcl; omega) h.2.1 h.2.2⟩
  ·obtain rfl : rl.length = j := by omega
   have hCT : CS.take rl.length = CS := by rw [<- HLC.out, List.take_length]
   rw [hCT] at hS
   clear hCT
   go_wp2_with (first | ((with_reducible refine qB ?_); refine qc ?_ ?_ <;> intro h_ <;> go_prune))
   have hxl := (hS.own 0 rfl).1
   have hA0 : Fj ⟨[sv], []⟩ 0 sv := ⟨[], [], rfl, rfl⟩
   have hJ0 : AJ w0 (.box g1 43 #[.int .i64 R, lp, s, .slice Ar rl.length cr, .slice An nl.length cn, .slice Ag gl.length cg] :: F) (fun D w => K1 D w /\ Ah w D xs CS) (cbD xs xn xg rl.length nl.length gl.length) (wr.drew, ⟨[sv], []⟩) := ⟨hS.drew, show 1 <= 3 by decide⟩
   have hN0 := AN_one1 (kd := cbK) (by decide) wr.drew sv
   have hRr := @AR.refl w0 (.box g1 43 #[.int .i64 R, lp, s, .slice Ar rl.length cr, .slice An nl.length cn, .slice Ag gl.length cg] :: F) (fun D w => K1 D w /\ Ah w D xs CS) (cbD xs xn xg rl.length nl.length gl.length)
   have hRt := @AR.trans w0 (.box g1 43 #[.int .i64 R, lp, s, .slice Ar rl.length cr, .slice An nl.length cn, .slice Ag gl.length cg] :: F) (fun D w => K1 D w /\ Ah w D xs CS) (cbD xs xn xg rl.length nl.length gl.length)
   have ON : Hid (∀ u ∈ xn, u.oneCell' = true) := Lib.hid ((kn2 _ _ hS.ro.1).one (kn _ _ hS.ro.1).1)
   have OG : Hid (∀ u ∈ xg, u.oneCell' = true) := Lib.hid ((kg2 _ _ hS.ro.1).one (kg _ _ hS.ro.1).1)
   have hb0 : Hid (rl.length + nl.length <= 1000000000000 /\ (rl.length + nl.length) * 48 <= 140737488355328 /\ rl.length + nl.length + gl.length <= 1000000000000 /\ (rl.length + nl.length + gl.length) * 48 <= 140737488355328) := Lib.hid (by omega)
   clear hS
   refine Ex (AR w0 (.box g1 43 #[.int .i64 R, lp, s, .slice Ar rl.length cr, .slice An nl.length cn, .slice Ag gl.length cg] :: F) (fun D w => K1 D w /\ Ah w D xs CS) (cbD xs xn xg rl.length nl.length gl.length)) (AN cbK) (⟨[sv], []⟩) hRr hRt [.i sv, .q g1 4, .i (.slice An nl.length cn), .s (fun v w => Fj w.2 1 v) fun v w w' h hb => h.mono hb.2.1, .q g1 5, .i (.slice Ag gl.length cg), .s (fun v w => Fj w.2 2 v) fun v w w' h hb => h.mono hb.2.1, .s (fun v w => Fj w.2 2 v) fun v w w' h hb => h.mono hb.2.1] ?_ ⟨uM, uF, uC (h := fun w hW hN => ((hW.1 hJ0).1.holds (.box g1 43 #[.int .i64 R, lp, s, .slice Ar rl.length cr, .slice An nl.length cn, .slice Ag gl.length cg]) (List.mem_append_right _ (List.mem_cons_self ..))).2.cell 4), ?_, uF, uC (h := fun w hW hN => ((hW.1 hJ0).1.holds (.box g1 43 #[.int .i64 R, lp, s, .slice Ar rl.length cr, .slice An nl.length cn, .slice Ag gl.length cg]) (List.mem_append_right _ (List.mem_cons_self ..))).2.cell 5), ?_, uA, trivial⟩ ?_
   ·first | assumption | (intro i; (try dsimp only); split <;> first | trivial | assumption | (left; assumption))
   ·refine uG fun b__ w hW hN hE K hK => ?_
    have e19 := hE 19
    have e21 := hE 21
    exact BB (kd := cbK) (by decide) rfl rfl Dj hN (by rw [e19]; exact hA0.mono hW.2.1) (hW.1 hJ0) (by rw [e21]; exact kn _ _ (hW.1 hJ0).1.ro.1) ON.out rfl rfl (by exact hb0.out.1) (by exact hb0.out.2.1) (show 0 + 1 < 3 by decide) hK
   ·refine uG fun b__ w hW hN hE K hK => ?_
    have e22 := hE 22
    have e24 := hE 24
    exact BB (kd := cbK) (by decide) rfl rfl Dj hN e22 (hW.1 hJ0) (by rw [e24]; exact kg _ _ (hW.1 hJ0).1.ro.1) OG.out rfl rfl (by exact hb0.out.2.2.1) (by exact hb0.out.2.2.2) (show 1 + 1 < 3 by decide) hK
   ·intro vs wz hW hT
    obtain ⟨e19, e20, e21, e22, e23, e24, e25, e2, -⟩ := hT
    have bx : (fun _ : Nat => True) 0 := trivial
    simp only [Ak, Act.put, zz, ze]
    have hJ := (hW.1 hJ0).last e2 rfl
    simp only [cbD] at hJ
    have hS := (hJ.freeze 0 (by decide) rfl).sub (F' := F) (List.sublist_cons_self _ _)
    generalize vs 2 = v2 at *
    generalize wz.1 = wf at *
    clear hW hJ0 hRr hRt hN0 hA0 hJ e2
    go_wp2_with fail
    go_ret
    have e : (AK.cubes ⟨R, lk, st, rl, nl, gl⟩) = CS ++ nl ++ gl := by rw [HCS.out]; rfl
    have el : (CS ++ nl ++ gl).length = rl.length + nl.length + gl.length := by rw [List.length_append, List.length_append, HLC.out]
    refine ⟨_, rfl, hS.mono (KS.out.and AY) fun D w h => ⟨k0 _ _ h.1.1, ?_⟩⟩
    rw [e]
    refine ⟨_, by rw [el]; exact h.2, Ah.append ?_ (Ah.append ?_ h.1.2 (kn2 _ _ h.1.1)) (kg2 _ _ h.1.1)⟩
    ·have := (kn _ _ h.1.1).1
     rw [List.length_append, List.length_append, HLC.out]; omega
    ·rw [HLC.out]; exact hxl
end
section
open Go.RowKit
attribute [local go_sem ↓] Go.wp_at_zero Go.wp_at_succ
set_option maxRecDepth 20000
set_option exponentiation.threshold 5000
theorem run_pnil (q : Addr) (w : World) : (binOp .neq 36 (.pointer (some q)) (.pointer none)).run Tryz.prog w = .ok (.bool true) w := rfl
theorem run_nnil (w : World) : (binOp .neq 36 (.pointer none) (.pointer none)).run Tryz.prog w = .ok (.bool false) w := rfl
noncomputable def goodB (p : AK) (N : Nat) : Bool := match p.links with
 | none => false
 | some L => !(p.never.any fun z => Bg z (closM L N))
set_option maxHeartbeats 1000000 in
theorem IH {w0 : World} {D E : Nat -> Prop} {v u : Value} {p : AK} {N : Nat} (hp : BQ w0 D v p) (hP : p.Ok) (hT : Bl w0) (hu : Aa w0 E u N) : Calls Tryz.prog 27 #[v, u] w0 (AF (fun r _ => r = .bool (goodB p N)) w0) := by
 obtain ⟨R, lk, st, rl, nl, gl⟩ := p
 obtain ⟨lp, s, rv, nv, gv, rfl, h1, h2, h3, h4, h5⟩ := hp
 dsimp only at h1 h2 h3 h4 h5
 obtain ⟨Cs, ns, cs, rfl⟩ := h2.shape
 obtain ⟨Ar, cr, rfl, _, _⟩ := h3.shape
 obtain ⟨An, cn, rfl, _, _⟩ := h4.shape
 obtain ⟨Ag, cg, rfl, _, _⟩ := h5.shape
 obtain ⟨C, e, lw, rfl, -⟩ := hu.parts
 obtain ⟨n, hn⟩ : ∃ n, n = lw.length := ⟨_, rfl⟩
 rw [<- hn] at hu ⊢
 clear hn
 obtain ⟨K, kh, ks, kr, kn, kg, kt, ku, hS⟩ : ∃ K : (Nat -> Prop) -> World -> Prop, (∀ D w, K D w -> IsHo w D lp lk) /\ (∀ D w, K D w -> Aa w D (.agg #[.slice Cs ns cs]) st) /\ (∀ D w, K D w -> BL w D (.slice Ar rl.length cr) rl) /\ (∀ D w, K D w -> Aj w D (.slice An nl.length cn) nl) /\ (∀ D w, K D w -> Aj w D (.slice Ag gl.length cg) gl) /\ (∀ D w, K D w -> Bl w) /\ (∀ D w, K D w -> Aa w D (.agg #[.slice C n e]) N) /\ St w0 w0 [] K :=
  ⟨fun D w => ((IsHo w D lp lk /\ Aa w D (.agg #[.slice Cs ns cs]) st) /\ BL w D (.slice Ar rl.length cr) rl /\ Aj w D (.slice An nl.length cn) nl /\ Aj w D (.slice Ag gl.length cg) gl) /\ (Bl w /\ D 0) /\ Aa w D (.agg #[.slice C n e]) N, fun _ _ h => h.1.1.1, fun _ _ h => h.1.1.2, fun _ _ h => h.1.2.1, fun _ _ h => h.1.2.2.1, fun _ _ h => h.1.2.2.2, fun _ _ h => h.2.1.1, fun _ _ h => h.2.2,
   St.start (D := fun _ => True) (((CK.and Ab).and (Bx.and (AY.and AY))).and (C0.and Ab)) ⟨⟨⟨CK D _ w0 w0 h1 (Nat.le_refl _) (fun _ _ _ _ h => h) fun _ _ _ _ => trivial, h2.imp fun _ _ _ => trivial⟩, Bx D _ w0 w0 h3 (Nat.le_refl _) (fun _ _ _ _ h => h) fun _ _ _ _ => trivial, h4.imp fun _ _ _ => trivial, h5.imp fun _ _ _ => trivial⟩, ⟨hT, trivial⟩, hu.imp fun _ _ _ => trivial⟩⟩
 clear h1 h2 h3 h4 h5 hu hT
 have HL := Lib.hid hP.links
 clear hP
 cases lk with
 | none =>
  obtain rfl := kh _ _ hS.ro
  go_enter Tryz.func27, Tryz.ntmps27
  go_wp2_with (first
   | ((with_reducible refine qA 2 ?_); refine Aw hS rfl _ _ rfl (.agg #[.int .i64 R, .pointer none, .slice Cs ns cs, .slice Ar rl.length cr, .slice An nl.length cn, .slice Ag gl.length cg]) _ rfl rfl ?_; clear hS; intro g2 w_ hS; (try simp only [Act.put, Act.eval, zz, Value.cells] at hS))
   | ((with_reducible refine qA 3 ?_); refine Aw hS rfl _ _ rfl (.agg #[.slice C n e]) _ rfl rfl ?_; clear hS; intro g3 w_ hS; (try simp only [Act.put, Act.eval, zz, Value.cells] at hS)))
  refine C5 [.q g2 1, .i (.pointer none), .b false, .b false, .t, .t, .t, .t, .t, .t, .t, .t, .b false, .b false] ⟨uF, uC (h := fun w hW hN => (hS.ext hW).shut 1 rfl 1 rfl), uB (h := fun w hW hN => run_nnil _), uM, uW, uW, uW, uW, uW, uW, uW, uW, uP, uA, trivial⟩ ?_
  ·intro vs wz hW hT
   obtain ⟨e5, e6, e7, e8, e17, e4, -⟩ := hT
   simp only [Ak, Act.put, zz, ze]
   rw [e4]
   go_wp2_with fail
   go_ret
   exact AF.mk rfl (BP hS.below hW)
 | some L =>
  have hH := Lib.hid (HL.out L rfl).1
  obtain ⟨q, o, rfl, -⟩ := id (kh _ _ hS.ro)
  obtain ⟨b, hb⟩ : ∃ b, b = nl.any fun z => Bg z (closM L N) := ⟨_, rfl⟩
  have HB := Lib.hid hb
  have HR : Hid (goodB ⟨R, some L, st, rl, nl, gl⟩ N = !b) := Lib.hid (by rw [hb]; rfl)
  clear hb HL
  go_enter Tryz.func27, Tryz.ntmps27
  go_wp2_with (first
   | ((with_reducible refine qA 2 ?_); refine Aw hS rfl _ _ rfl (.agg #[.int .i64 R, .pointer (some ⟨q, 0, none⟩), .slice Cs ns cs, .slice Ar rl.length cr, .slice An nl.length cn, .slice Ag gl.length cg]) _ rfl rfl ?_; clear hS; intro g2 w_ hS; (try simp only [Act.put, Act.eval, zz, Value.cells] at hS))
   | ((with_reducible refine qA 3 ?_); refine Aw hS rfl _ _ rfl (.agg #[.slice C n e]) _ rfl rfl ?_; clear hS; intro g3 w_ hS; (try simp only [Act.put, Act.eval, zz, Value.cells] at hS)))
  refine C5 [.q g2 1, .q q 0, .b true, .b true, .q g2 4, .i (.slice An nl.length cn), .q g2 1, .q q 0, .i (.agg #[.slice C n e]), .s (fun v w => Aa w (fun _ => True) v (closM L N)) fun v w w' h hb => h.ext hb, .i (.bool b), .i (.bool (!b)), .i (.bool (!b)), .i (.bool (!b))] ⟨uF, uC (h := fun w hW hN => (hS.ext hW).shut 1 rfl 1 rfl), uB (h := fun w hW hN => run_pnil _ _), uM, uF, uC (h := fun w hW hN => (hS.ext hW).shut 1 rfl 4 rfl), uF, uC (h := fun w hW hN => (hS.ext hW).shut 1 rfl 1 rfl), uR (h := fun w hW hN => (hS.ext hW).box 0 rfl), ?_, ?_, uU, uP, uA, trivial⟩ ?_
  ·refine uT fun b__ w hW hE K hK => ?_
   have e12 := hE 12
   have e13 := hE 13
   exact Ai rfl (by kernel_rfl) (by simp only [List.map_cons, List.map_nil, e12, e13]) (GL (kh _ _ (hS.ext hW).ro) (kt _ _ (hS.ext hW).ro) hH.out (ku _ _ (hS.ext hW).ro)) fun v w' h hb => hK v w' (h.imp fun _ _ _ => trivial) hb
  ·refine uT fun b__ w hW hE K hK => ?_
   have e10 := hE 10
   have e14 := hE 14
   exact Ai rfl (by kernel_rfl) (by simp only [List.map_cons, List.map_nil, e10]) (some_any (kn _ _ (hS.ext hW).ro) e14) fun v w' h hb => hK v w' (h.trans (by rw [HB.out])) hb
  ·intro vs wz hW hT
   obtain ⟨e5, e6, e7, e8, e9, e10, e11, e12, e13, e14, e15, e16, e17, e4, -⟩ := hT
   have bx : (fun _ : Nat => True) 0 := trivial
   simp only [Ak, Act.put, zz, ze]
   rw [e4]
   go_wp2_with fail
   go_ret
   exact AF.mk (by rw [HR.out]; rfl) (BP hS.below hW)
end
end Go.Proofs.YtchjigffejhmfaaGreatDoor
