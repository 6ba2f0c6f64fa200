/-
  What certificate.Read computes: readC. (Begun: not built.)
-/
import Derived.Test.YtenpkgdnlogfiaaGreatDoorSt3
import Derived.Test.YtenpkgdnlogfiaaGreatDoorRp1
import Derived.Test.YtenpkgdnlogfiaaGreatDoorEnc2
import Derived.Test.YtenpkgdnlogfiaaGreatDoorTyp5
import Derived.Laws.CopyRow
namespace Go.Proofs.YtenpkgdnlogfiaaGreatDoor
open Go.RowKit
attribute [local go_sem ↓] Go.wp_at_zero Go.wp_at_succ
set_option maxRecDepth 20000

theorem opw_copyb {P : Program} {o : Oper} {a : Act} {w : World} {K : Act → World → Prop} {Q : Exit → Act → World → Prop} {x y : Operand} {dT sT elem t : TypeId} {g m n : Nat} {cs : Array Value} {v : Value} {xs : List Value} {D : Nat → Prop}
    (ho : o.op = .call { callee := .builtin .copy, args := #[x, y], argTypes := #[dT, sT] }) (hu : P.underlying dT = some (.slice elem)) (hsz : (P.info? elem).map (·.size) = some 1)
    (hd : a.eval x = .slice (some ⟨g, 0, none⟩) m m) (hs : a.eval y = v) (hb : Box w g t cs) (hm : m ≤ cs.size) (hv : Sl w D 1 v n xs) (hn : n ≤ m) (h1 : ∀ u ∈ xs, u.oneCell' = true)
    (hk : ∀ w', Box w' g t (xs ++ cs.toList.drop n).toArray → Upd g w w' → K (a.put o.dst (.int .i64 n)) w') : o.wp P a w K Q := by
  obtain ⟨hl, A, c, rfl, _, _, hc⟩ := hv
  have hl' : xs.length = n := by omega
  rcases Nat.eq_zero_or_pos n with h0 | h0
  · subst h0
    obtain rfl := List.eq_nil_of_length_eq_zero hl'
    have hrun := run_copy_none (P := P) w dT sT o.type elem (some ⟨g, 0, none⟩) A m m 0 c hu hsz (by simp)
    unfold Oper.wp
    simp [execOp, ho, resolve, invoke, builtin, hd, hs, hrun, Result.andThen]
    exact hk w (by simpa using hb) ⟨rfl, rfl, rfl, rfl, fun _ _ => rfl⟩
  · obtain ⟨b, j, rfl, _, _, hc⟩ := hc h0
    have hrun := run_copy_row (P := P) w dT sT o.type elem g 0 m m ⟨b, j, none⟩ n c cs t xs hu hsz hb (by rw [hl']; exact (Nat.min_eq_left hn).symm) (fun i u hi => by rw [Addr.add_mid]; exact hc i u hi) (by omega) h1
    unfold Oper.wp
    simp [execOp, ho, resolve, invoke, builtin, hd, hs, hrun, Result.andThen]
    have e : goInt xs.length = .int .i64 n := by rw [hl']; rfl
    rw [e]
    refine hk _ ?_ ⟨rfl, rfl, rfl, by simp, fun k hk => setRow_other _ _ _ _ hk⟩
    have := setRow_heap w g cs (xs ++ cs.toList.drop n).toArray t (0, 0) hb
    simpa [hl', Box] using this

theorem opw_slarr {P : Program} {o : Oper} {a : Act} {w : World} {K : Act → World → Prop} {Q : Exit → Act → World → Prop} {t e : TypeId} {x : Operand} {n s : Nat} {p : Addr} (ho : o.op = .slice t x none none none) (hx : a.eval x = .pointer (some p)) (ht : P.underlying t = some (.array n e)) (hs : (P.info? e).map (·.size) = some s) (hn : 0 < n) (hk : K (a.put o.dst (.slice (some p) n n)) w) : o.wp P a w K Q := by
  refine opw_val (v := .slice (some p) n n) ?_ hk
  cases hi : P.info? e with
  | none => simp [hi] at hs
  | some inf =>
    simp [execOp, ho, hx, Instr.sliceAt, Instr.sureAddr, run_underlying ht, Instr.sliceBounds, sizeOf, typeInfo, hi, Addr.add]
theorem cc_set32 (prob : List Nat) (r b : Bool) (pv qv : Value) (h : prob.length = 32) : (cc prob r pv qv).setIfInBounds 32 (.bool b) = cc prob b pv qv := by
  simp [cc, u8s, h, List.set_append]
theorem cc_fill (r : List Nat) (n : Nat) (h : r.length ≤ n) (b : Bool) (pv qv : Value) : (u8s r ++ (cc (List.replicate n 0) b pv qv).toList.drop r.length).toArray = cc (r ++ List.replicate (n - r.length) 0) b pv qv := by
  have e : ((u8s (List.replicate n 0)).drop r.length) = u8s (List.replicate (n - r.length) 0) := by simp [u8s]
  unfold cc
  rw [List.drop_append_of_le_length (by simp [u8s]; exact h), e, u8s_append, List.append_assoc]
theorem stable_cells {xs : List Value} {l : List (Nat × Nat)} : Stable fun D w => CubeCells w D xs l := fun D D' w w' h a b c i y n hi => by
  obtain ⟨u, v, h1, h2, h3, h4⟩ := h i y n hi
  exact ⟨u, v, h1, h2, stable_set D D' w w' h3 a b c, stable_set D D' w w' h4 a b c⟩
theorem readSet_len {most : Nat} {l : List Nat} {e : Int} : (readSet most l e).2.1.length ≤ l.length := by
  have hbb : (readBytes 512 l 0).2.1.length ≤ l.length := by
    unfold readBytes; rw [if_pos rfl]; split
    · exact Nat.le_refl _
    · split
      · exact Nat.le_refl _
      · split
        · exact Nat.le_refl _
        · simp only [List.length_drop]; omega
  unfold readSet
  split
  · split
    · exact hbb
    · split
      · exact Nat.le_refl _
      · split
        · exact Nat.le_refl _
        · exact hbb
  · exact Nat.le_refl _
theorem IsCert.of_cc {w : World} {D : Nat → Prop} {prob : List Nat} {reach : Bool} {pv qv : Value} {plan : List Int} {cubes : List (Nat × Nat)} (h32 : prob.length = 32) (hb : Bytes prob) (hp : Sl w D 1 pv plan.length (ints plan)) (hq : IsCubes w D qv cubes) : IsCert w D (.agg (Go.Proofs.YtenpkgdnlogfiaaGreatDoor.cc prob reach pv qv)) ⟨prob, reach, plan, cubes⟩ := by
  refine ⟨_, pv, qv, rfl, cc_size _ _ _ _ h32, h32, hb, fun i hi => ?_, (cc_at _ _ _ _ h32).1, (cc_at _ _ _ _ h32).2.1, (cc_at _ _ _ _ h32).2.2, hp, hq⟩
  simp only [Go.Proofs.YtenpkgdnlogfiaaGreatDoor.cc, List.getElem?_toArray]
  rw [List.getElem?_append_left (by simp [u8s]; omega)]
  exact u8s_at _ _ (by omega)
theorem Bytes.rep (n : Nat) : Bytes (List.replicate n 0) := fun x hx => by rw [(List.mem_replicate.1 hx).2]; decide
theorem readRaw_bytes {n : Nat} {l : List Nat} (hb : Bytes l) : Bytes (readRaw n l 0).1 := by
  unfold readRaw; rw [if_pos rfl]; split
  · exact fun x hx => by simp at hx
  · exact fun x hx => hb x (List.mem_of_mem_take hx)
theorem st_alloczb {P : Program} {ops : Array Oper} {rest : List Oper} {o : Oper} {a : Act} {w0 w : World} {F : List Fact} {K : (Nat → Prop) → World → Prop} {Q : Exit → Act → World → Prop} (h : St w0 w F K) (hg : o.guard = none) (t : TypeId) (ho : o.op = .alloc t) (hz : ((P.info? t).bind (·.zero)).isSome = true) (zs : Array Value) (hzs : zeroCells P t = zs)
    (hk : ∀ g w', St w0 w' (.box g t zs :: F) K → Below w.heap.size w w' → wpList P ops Q rest (a.put o.dst (.pointer (some ⟨g, 0, none⟩))) w') : wpList P ops Q (o :: rest) a w :=
  wpList_alloc_op hg t ho hz fun w' hX hb => hk _ w' (hzs ▸ h.new hb _ ⟨Nat.le_refl _, hX⟩) hb
set_option maxHeartbeats 4000000 in
theorem cread_any {w0 w : World} {F0 : List Fact} {K : (Nat → Prop) → World → Prop} (p : Value) (ps : List Nat) (hb : Bytes ps) (hl : ps.length ≤ 1000000) (hS : St w0 w F0 K) {D : Nat → Prop} (hp : Sl w D 1 p ps.length (u8s ps)) :
    Calls Tryz.prog 12 #[p] w fun x w' => ∃ v, x = .returned (.tuple #[v, .int .i64 (readC ps).2]) ∧ St w0 w' F0 fun D w => K D w ∧ IsCert w D v (readC ps).1 := by
  obtain ⟨A, c, rfl, _, _⟩ := hp.shape
  have HP0 := Lib.hid hp
  clear hp
  obtain ⟨Z, hZ⟩ : ∃ Z, Z = cc (List.replicate 32 0) false (.slice none 0 0) (.slice none 0 0) := ⟨_, rfl⟩
  have HZ := Lib.hid (show zeroCells Tryz.prog 35 = Z by rw [hZ]; kernel_rfl)
  have HZZ := Lib.hid hZ
  clear hZ
  go_enter Tryz.func12, Tryz.ntmps12
  go_wp2_with (first
    | ((with_reducible show wpList _ _ _ (⟨some 2, _, _, _, _, _⟩ :: _) _ _); refine st_alloczb hS rfl _ rfl (by kernel_rfl) Z HZ.out ?_; clear hS; intro g2 w_ hS hb_; replace HP0 := Lib.hid (HP0.out.ext hb_); clear hb_; (try simp only [Act.put, Act.eval, List.set_cons_zero, List.set_cons_succ, List.setIfInBounds_toArray, Array.getD_eq_getD_getElem?, List.getElem?_toArray, List.getElem?_cons_succ, List.getElem?_cons_zero, Option.getD_some, Value.cells] at hS))
    | (go_at_call 31; refine (rnew_any _ ps (by omega) hS HP0.out).mono ?_; rintro r_ w1 ⟨q, rfl, hR⟩; clear hS; obtain ⟨hKs, A1, c1, m1, m2, hS⟩ := hR)
    | ((with_reducible show wpList _ _ _ (⟨some 5, _, _, _, _, _⟩ :: _) _ _); refine st_allocz hS rfl _ rfl (by kernel_rfl) Z HZ.out ?_; clear hS; intro g5 w_ hS; (try simp only [Act.put, Act.eval, List.set_cons_zero, List.set_cons_succ, List.setIfInBounds_toArray, Array.getD_eq_getD_getElem?, List.getElem?_toArray, List.getElem?_cons_succ, List.getElem?_cons_zero, Option.getD_some, Value.cells] at hS)))
  have HKs := Lib.hid hKs
  clear hKs
  obtain ⟨⟨r, l1, e1⟩, hRW⟩ : ∃ V, V = readRaw 32 ps 0 := ⟨_, rfl⟩
  have hr32 : r.length ≤ 32 := by have := readRaw_le ps; rw [← hRW] at this; exact this
  have HRaw := Lib.hid (show ∀ w, Rd w0 w (.box g5 35 Z :: .box g2 35 Z :: F0) K q ps 0 → _ from fun w h => by
    have := rraw_any 32 (by omega) h
    rw [← hRW] at this; exact this)
  obtain ⟨Z1, hZ1⟩ : ∃ Z1, Z1 = cc (r ++ List.replicate (32 - r.length) 0) false (.slice none 0 0) (.slice none 0 0) := ⟨_, rfl⟩
  have HZ1 := Lib.hid (show (u8s r ++ Z.toList.drop r.length).toArray = Z1 by
    rw [hZ1, HZZ.out]; exact cc_fill r 32 hr32 _ _ _)
  have HZs := Lib.hid (show 32 ≤ Z.size by rw [HZZ.out, cc_size _ _ _ _ (by simp)]; decide)
  have h0d : Rd w0 w_.drew (.box g5 35 Z :: .box g2 35 Z :: F0) K q ps 0 := ⟨HKs.out, A1, c1, m1, m2, hS.swap.drew⟩
  have hrb : Bytes (r ++ List.replicate (32 - r.length) 0) := by
    have h1 : Bytes r := by have := readRaw_bytes (n := 32) hb; rw [← hRW] at this; exact this
    intro x hx
    rcases List.mem_append.1 hx with h | h
    · exact h1 x h
    · exact Bytes.rep _ x h
  have HRB := Lib.hid hrb
  clear hrb
  have HRW := Lib.hid hRW
  have hp32 : (r ++ List.replicate (32 - r.length) 0).length = 32 := by simp; omega
  have HP32 := Lib.hid hp32
  have HZ1c := Lib.hid hZ1
  clear hRW hZ1 hp32
  refine wp_region_seq [3, 4] (fun i v => match i with
    | 0 => v = .pointer (some ⟨g5, 0, none⟩)
    | 1 => v = .slice (some ⟨g5, 0, none⟩) 32 32
    | 2 => v = .pointer (some ⟨q, 0, none⟩)
    | 3 => True
    | 4 => True
    | _ => True) (fun vs w => match vs with | [] => Rd w0 w (.box g5 35 Z :: .box g2 35 Z :: F0) K q ps 0 | [v] => Rd w0 w (.box g5 35 Z :: .box g2 35 Z :: F0) (fun D w => K D w ∧ Sl w D 1 v r.length (u8s r)) q l1 e1 | [_, _] => Rd w0 w (.box g5 35 Z1 :: .box g2 35 Z :: F0) K q l1 e1 | _ => False) (by kernel_rfl) (by kernel_rfl) (by decide) (by kernel_rfl) (by kernel_rfl) ?start ⟨?r0, ?r1, ?r2, ?r3, ?r4, trivial⟩ ?post
  case start => first | assumption | (dsimp only; assumption)
  case r0 =>
    refine qread rfl fun b w vs hS hcov hold hpre heff => ?_
    refine ⟨fun hwant K hK => ?_, fun hwant => ?_⟩
    · clear hwant
      have e5 : b.eval (.tmp 5) = .pointer (some ⟨g5, 0, none⟩) := (hold 5 (by kernel_rfl)).trans rfl
      exact opw_faddr rfl e5 (by kernel_rfl) (hK _ rfl)
    · rw [want_none rfl] at hwant; cases hwant
  case r1 =>
    refine qread rfl fun b w vs hS hcov hold hpre heff => ?_
    have hl1 : vs.length ≤ 1 := hcov 1 4 _ rfl rfl (by kernel_rfl)
    refine ⟨fun hwant K hK => ?_, fun hwant => ?_⟩
    · clear hwant
      have hl0 : 0 ≤ vs.length ∧ vs.length ≤ 1 := ⟨by omega, by omega⟩
      rcases (by omega : vs.length = 0 ∨ vs.length = 1) with hl | hl
      · obtain rfl := vs_len0 hl
        have e11 : b.eval (.tmp 11) = .pointer (some ⟨g5, 0, none⟩) := hpre ⟨0, _⟩ (Array.mem_of_getElem? (i := 0) rfl) rfl _ _ rfl rfl rfl
        exact opw_slarr (s := 1) rfl e11 Tryz.underlying32 (by kernel_rfl) (by decide) (hK _ rfl)
      · obtain ⟨x0, rfl⟩ := vs_len1 hl
        have e11 : b.eval (.tmp 11) = .pointer (some ⟨g5, 0, none⟩) := hpre ⟨0, _⟩ (Array.mem_of_getElem? (i := 0) rfl) rfl _ _ rfl rfl rfl
        exact opw_slarr (s := 1) rfl e11 Tryz.underlying32 (by kernel_rfl) (by decide) (hK _ rfl)
    · rw [want_none rfl] at hwant; cases hwant
  case r2 =>
    refine qread rfl fun b w vs hS hcov hold hpre heff => ?_
    refine ⟨fun hwant K hK => ?_, fun hwant => ?_⟩
    · clear hwant
      have e4 : b.eval (.tmp 4) = .pointer (some ⟨q, 0, none⟩) := (hold 4 (by kernel_rfl)).trans rfl
      exact opw_move rfl e4 (hK _ rfl)
    · rw [want_none rfl] at hwant; cases hwant
  case r3 =>
    refine qturn 0 rfl (by decide) fun b w vs hS hl hold hpre heff => ?_
    obtain rfl := vs_len0 hl
    refine ⟨fun hwant K hK => ?_, fun hwant => ?_⟩
    · clear hwant
      have e13 : b.eval (.tmp 13) = .pointer (some ⟨q, 0, none⟩) := hpre ⟨2, _⟩ (Array.mem_of_getElem? (i := 0) rfl) rfl _ _ rfl rfl rfl
      exact opw_callw rfl (by kernel_rfl) (by simp only [List.map_cons, List.map_nil, e13]; rfl) (HRaw.out w hS) fun e w' ⟨v, he, h⟩ => ⟨v, he, hK v w' h⟩
    · rw [want_none rfl] at hwant; cases hwant
  case r4 =>
    refine qturn 1 rfl (by decide) fun b w vs hS hl hold hpre heff => ?_
    obtain ⟨x0, rfl⟩ := vs_len1 hl
    refine ⟨fun hwant K hK => ?_, fun hwant => ?_⟩
    · clear hwant
      have e12 : b.eval (.tmp 12) = .slice (some ⟨g5, 0, none⟩) 32 32 := hpre ⟨1, _⟩ (Array.mem_of_getElem? (i := 0) rfl) rfl _ _ rfl rfl rfl
      have e14 : b.eval (.tmp 14) = x0 := (heff ⟨3, _⟩ (Array.mem_of_getElem? (i := 1) rfl) rfl 0 _ _ rfl rfl rfl).2
      obtain ⟨hk1, A3, c3, n1, n2, h3⟩ := hS
      refine opw_copyb rfl Tryz.underlying37 (by kernel_rfl) e12 e14 (h3.box 1 rfl) HZs.out h3.ro.1.2 hr32 (u8s_one _) ?_
      intro w' hbx hup
      rw [HZ1.out] at hbx
      exact hK _ _ ⟨HKs.out, A3, c3, n1, n2, (h3.upd 1 rfl (.box g5 35 Z1) (upd_gb hup) ⟨(h3.holds _ (List.mem_of_getElem? (i := 1) rfl)).1, hbx⟩ fun _ e => .inl e).mono (HKs.out.and stable_sl) fun D w h => ⟨h.1.1, h.2⟩⟩
    · rw [want_none rfl] at hwant; cases hwant
  case post =>
    intro b wz vs hS hl hdf hsz hold hT hE
    obtain ⟨x0, x1, rfl⟩ := vs_len2 hl
    have e11 : b.eval (.tmp 11) = .pointer (some ⟨g5, 0, none⟩) := hT 0 _ 11 rfl rfl rfl
    have e12 : b.eval (.tmp 12) = .slice (some ⟨g5, 0, none⟩) 32 32 := hT 1 _ 12 rfl rfl rfl
    have e13 : b.eval (.tmp 13) = .pointer (some ⟨q, 0, none⟩) := hT 2 _ 13 rfl rfl rfl
    have e14 : b.eval (.tmp 14) = x0 := hE 0 3 _ 14 rfl rfl rfl
    have e15 : b.eval (.tmp 15) = x1 := hE 1 4 _ 15 rfl rfl rfl
    obtain ⟨us, hus, hb⟩ := frame_of hdf hsz hold
    replace e11 : us 11 = .pointer (some ⟨g5, 0, none⟩) := (hus 11).symm.trans e11
    replace e12 : us 12 = .slice (some ⟨g5, 0, none⟩) 32 32 := (hus 12).symm.trans e12
    replace e13 : us 13 = .pointer (some ⟨q, 0, none⟩) := (hus 13).symm.trans e13
    replace e14 : us 14 = x0 := (hus 14).symm.trans e14
    replace e15 : us 15 = x1 := (hus 15).symm.trans e15
    subst hb
    clear hus hold hT hE hdf hsz hl
    simp only [setAll, Act.put, List.setIfInBounds_toArray, List.set_cons_zero, List.set_cons_succ, List.getElem_toArray, List.getElem_cons_succ, List.getElem_cons_zero]
    have hl1 : l1.length ≤ ps.length ∧ Bytes l1 := by
      have e : l1 = (readRaw 32 ps 0).2.1 := by rw [← HRW.out]
      rw [e]; unfold readRaw; rw [if_pos rfl]; split
      · exact ⟨Nat.le_refl _, hb⟩
      · exact ⟨by simp, fun x hx => hb x (List.mem_of_mem_drop hx)⟩
    obtain ⟨hl1, hb1⟩ := hl1
    clear h0d HRaw
    go_wp2_with fail
    refine (rflag_any (by omega) hb1 hS).mono ?_
    rintro r_ w4 ⟨rfl, hR⟩
    clear hS
    obtain ⟨⟨fl, l2, e2⟩, hF⟩ : ∃ V, V = readFlag l1 e1 := ⟨_, rfl⟩
    rw [← hF] at hR ⊢
    have HF := Lib.hid hF
    dsimp only at hR ⊢
    obtain ⟨-, A4, c4, n1, n2, hS⟩ := hR
    have hl2 : l2.length ≤ l1.length ∧ Bytes l2 := by
      have e : l2 = (readFlag l1 e1).2.1 := by rw [← HF.out]
      rw [e]; unfold readFlag; split
      · cases l1 with
        | nil => exact ⟨Nat.le_refl _, hb1⟩
        | cons y r' =>
          dsimp only; split
          · exact ⟨Nat.le_refl _, hb1⟩
          · exact ⟨by simp, fun x hx => hb1 x (by simp [hx])⟩
      · exact ⟨Nat.le_refl _, hb1⟩
    obtain ⟨hl2, hb2⟩ := hl2
    clear hF
    obtain ⟨Z2, hZ2⟩ : ∃ Z2, Z2 = cc (r ++ List.replicate (32 - r.length) 0) fl (.slice none 0 0) (.slice none 0 0) := ⟨_, rfl⟩
    have HZ2 := Lib.hid (show Z1.setIfInBounds 32 (.bool fl) = Z2 by rw [hZ2, HZ1c.out]; exact cc_set32 _ _ _ _ _ HP32.out)
    have HZ1s := Lib.hid (show 32 < Z1.size by rw [HZ1c.out, cc_size _ _ _ _ HP32.out]; decide)
    have HZ2c := Lib.hid hZ2
    clear hZ2
    go_wp2_with (first
      | ((with_reducible show wpList _ _ _ (⟨none, .store 4 _ _, _, _, _, _⟩ :: _) _ _); refine st_cstore hS 1 rfl _ _ _ rfl g5 32 (.bool fl) rfl rfl rfl HZ1s.out rfl rfl (by kernel_rfl) ?_; clear hS; intro w_ hS; (try simp only [Act.put, Act.eval, List.set_cons_zero, List.set_cons_succ, List.setIfInBounds_toArray, Array.getD_eq_getD_getElem?, List.getElem?_toArray, List.getElem?_cons_succ, List.getElem?_cons_zero, Option.getD_some, Value.cells] at hS); rw [HZ2.out] at hS))
    have hR : Rd w0 w_ (.box g5 35 Z2 :: .box g2 35 Z :: F0) K q l2 e2 := ⟨HKs.out, A4, c4, n1, n2, hS⟩
    clear hS
    refine (rcount_any 10000 (by decide) (by omega) hb2 hR).mono ?_
    rintro r_ w5 ⟨rfl, hR⟩
    obtain ⟨⟨N0, l3, e3⟩, hN⟩ : ∃ V, V = readCount 10000 l2 e2 := ⟨_, rfl⟩
    rw [← hN] at hR ⊢
    have hn0 : N0 ≤ 10000 := by have := readCount_le 10000 l2 e2; rw [← hN] at this; exact this
    have hl3 : l3.length ≤ l2.length ∧ Bytes l3 := by
      have e : l3 = (readCount 10000 l2 e2).2.1 := by rw [← hN]
      rw [e]; unfold readCount; split
      · split
        · exact ⟨Nat.le_refl _, hb2⟩
        · split
          · exact ⟨Nat.le_refl _, hb2⟩
          · exact ⟨by simp, fun x hx => hb2 x (List.mem_of_mem_drop hx)⟩
      · exact ⟨Nat.le_refl _, hb2⟩
    obtain ⟨hl3, hb3⟩ := hl3
    have HN := Lib.hid hN
    clear hN
    dsimp only at hR ⊢
    have hl9 : l3.length ≤ 1000000 := by omega
    clear hl3 hl2 hl1
    obtain ⟨⟨PL, PR⟩, hP⟩ : ∃ V, V = readNums N0 l3 e3 := ⟨_, rfl⟩
    have HP := Lib.hid hP
    go_wp2_with fail
    obtain ⟨-, A5, c5, n3, n4, hS⟩ := hR
    have hR : Rd w0 w5 (.own (.slice none 0 0) 3 1 0 [] :: .box g5 35 Z2 :: .box g2 35 Z :: F0) K q l3 e3 := ⟨HKs.out, A5, c5, n3, n4, (hS.nil 3 1).swap⟩
    clear hS
    rw [HZ2c.out] at hR
    go_loopw [6] (fun i wr => ∃ (m : Nat) (acc : List Int) (l : List Nat) (e : Int) (pv : Value), i = .int .i64 m ∧ acc.length + m = N0 ∧ acc ++ (readNums m l e).1 = PL ∧ (readNums m l e).2 = PR ∧ Bytes l ∧ l.length ≤ 1000000 ∧ Rd w0 wr (.own pv 3 1 acc.length (ints acc) :: .box g5 35 (cc (r ++ List.replicate (32 - r.length) 0) fl pv (.slice none 0 0)) :: .box g2 35 Z :: F0) K q l e) (fun i _ => (intOf i).toNat)
    case atStart => exact ⟨N0, [], l3, e3, .slice none 0 0, rfl, by simp, by rw [← hP]; rfl, by rw [← hP], hb3, hl9, hR⟩
    case round =>
      clear hR
      obtain ⟨m, acc, l, e, pv, rfl, hm, ha, hp, hbl, hll, hR⟩ := hrel
      have HA := Lib.hid ha
      have HPP := Lib.hid hp
      clear ha hp
      obtain ⟨CP, hCP⟩ : ∃ C, C = cc (r ++ List.replicate (32 - r.length) 0) fl pv (.slice none 0 0) := ⟨_, rfl⟩
      rw [← hCP] at hR
      have HCP := Lib.hid hCP
      clear hCP
      by_cases hm0 : 0 < m
      · go_wp2_with fail
        obtain ⟨X, hX⟩ : ∃ X : List Fact, X = (.own pv 3 1 acc.length (ints acc) :: .box g5 35 CP :: .box g2 35 Z :: F0) := ⟨_, rfl⟩
        rw [← hX] at hR
        obtain ⟨⟨z, l', e'⟩, hU⟩ : ∃ V, V = readUint 63 l e := ⟨_, rfl⟩
        have HNum := Lib.hid (show ∀ w, Rd w0 w X K q l e → _ from fun w h => by
          have := rnumberm_any 63 (by decide) (by omega) hbl h
          rw [← hU] at this; exact this)
        have hbx : ∀ (K' : (Nat → Prop) → World → Prop) (l : List Nat) (e : Int) (w : World), Rd w0 w X K' q l e → w.cell? ⟨g5, 33, none⟩ = some pv := fun K' l e w h => by
          rw [hX] at h
          obtain ⟨-, _, _, -, -, hS⟩ := h
          rw [(hS.box 2 rfl).cell, HCP.out]; exact (cc_at _ _ _ _ HP32.out).2.1
        have HBX := Lib.hid hbx
        have HCPs := Lib.hid (show 33 < CP.size by rw [HCP.out, cc_size _ _ _ _ HP32.out]; decide)
        have h0d : Rd w0 wr.drew X K q l e := by
          obtain ⟨h1, A6, c6, h2, h3, hS⟩ := hR
          exact ⟨h1, A6, c6, h2, h3, hS.drew⟩
        have HU := Lib.hid hU
        clear hbx hU
        refine wp_region_seq [3, 4, 5, 7] (fun i v => match i with
          | 0 => v = .pointer (some ⟨g5, 33, none⟩)
          | 1 => v = pv
          | 2 => v = .pointer (some ⟨q, 0, none⟩)
          | 3 => True
          | 4 => True
          | 5 => True
          | 6 => v = .pointer (some ⟨g5, 33, none⟩)
          | 7 => True
          | _ => True) (fun vs w => match vs with | [] => Rd w0 w X K q l e | [v] => v = .int .i64 z ∧ Rd w0 w X K q l' e' | [_, u] => Rd w0 w X (fun D w => K D w ∧ Sl w D 1 u 1 [.int .i64 z]) q l' e' | [_, _, p'] => Rd w0 w (.own p' 3 1 (acc.length + 1) (ints acc ++ [.int .i64 z]) :: .box g5 35 CP :: .box g2 35 Z :: F0) K q l' e' | [_, _, p', _] => Rd w0 w (.own p' 3 1 (acc.length + 1) (ints acc ++ [.int .i64 z]) :: .box g5 35 (CP.setIfInBounds 33 p') :: .box g2 35 Z :: F0) K q l' e' | _ => False) (by kernel_rfl) (by kernel_rfl) (by decide) (by kernel_rfl) (by kernel_rfl) ?start ⟨?r0, ?r1, ?r2, ?r3, ?r4, ?r5, ?r6, ?r7, trivial⟩ ?post
        case start => first | assumption | (dsimp only; assumption)
        case r0 =>
          refine qread rfl fun b w vs hS hcov hold hpre heff => ?_
          refine ⟨fun hwant K hK => ?_, fun hwant => ?_⟩
          · clear hwant
            have e5 : b.eval (.tmp 5) = .pointer (some ⟨g5, 0, none⟩) := (hold 5 (by kernel_rfl)).trans rfl
            exact opw_faddr rfl e5 (by kernel_rfl) (hK _ rfl)
          · rw [want_none rfl] at hwant; cases hwant
        case r1 =>
          refine qread rfl fun b w vs hS hcov hold hpre heff => ?_
          have hl1 : vs.length ≤ 2 := hcov 2 5 _ rfl rfl (by kernel_rfl)
          refine ⟨fun hwant K hK => ?_, fun hwant => ?_⟩
          · clear hwant
            have hl0 : 0 ≤ vs.length ∧ vs.length ≤ 2 := ⟨by omega, by omega⟩
            rcases (by omega : vs.length = 0 ∨ vs.length = 1 ∨ vs.length = 2) with hl | hl | hl
            · obtain rfl := vs_len0 hl
              have e25 : b.eval (.tmp 25) = .pointer (some ⟨g5, 33, none⟩) := hpre ⟨0, _⟩ (Array.mem_of_getElem? (i := 0) rfl) rfl _ _ rfl rfl rfl
              first | exact opw_cell rfl e25 (by kernel_rfl) (HBX.out _ _ _ _ hS) (hK _ rfl) | exact opw_cell rfl e25 (by kernel_rfl) (HBX.out _ _ _ _ hS.2) (hK _ rfl)
            · obtain ⟨x0, rfl⟩ := vs_len1 hl
              have e25 : b.eval (.tmp 25) = .pointer (some ⟨g5, 33, none⟩) := hpre ⟨0, _⟩ (Array.mem_of_getElem? (i := 0) rfl) rfl _ _ rfl rfl rfl
              first | exact opw_cell rfl e25 (by kernel_rfl) (HBX.out _ _ _ _ hS) (hK _ rfl) | exact opw_cell rfl e25 (by kernel_rfl) (HBX.out _ _ _ _ hS.2) (hK _ rfl)
            · obtain ⟨x0, x1, rfl⟩ := vs_len2 hl
              have e25 : b.eval (.tmp 25) = .pointer (some ⟨g5, 33, none⟩) := hpre ⟨0, _⟩ (Array.mem_of_getElem? (i := 0) rfl) rfl _ _ rfl rfl rfl
              first | exact opw_cell rfl e25 (by kernel_rfl) (HBX.out _ _ _ _ hS) (hK _ rfl) | exact opw_cell rfl e25 (by kernel_rfl) (HBX.out _ _ _ _ hS.2) (hK _ rfl)
          · rw [want_none rfl] at hwant; cases hwant
        case r2 =>
          refine qread rfl fun b w vs hS hcov hold hpre heff => ?_
          refine ⟨fun hwant K hK => ?_, fun hwant => ?_⟩
          · clear hwant
            have e4 : b.eval (.tmp 4) = .pointer (some ⟨q, 0, none⟩) := (hold 4 (by kernel_rfl)).trans rfl
            exact opw_move rfl e4 (hK _ rfl)
          · rw [want_none rfl] at hwant; cases hwant
        case r3 =>
          refine qturn 0 rfl (by decide) fun b w vs hS hl hold hpre heff => ?_
          obtain rfl := vs_len0 hl
          refine ⟨fun hwant K hK => ?_, fun hwant => ?_⟩
          · clear hwant
            have e27 : b.eval (.tmp 27) = .pointer (some ⟨q, 0, none⟩) := hpre ⟨2, _⟩ (Array.mem_of_getElem? (i := 0) rfl) rfl _ _ rfl rfl rfl
            exact opw_callw rfl (by kernel_rfl) (by simp only [List.map_cons, List.map_nil, e27]; rfl) (HNum.out w hS) fun e w' ⟨he, h⟩ => ⟨_, he, hK _ w' ⟨rfl, h⟩⟩
          · rw [want_none rfl] at hwant; cases hwant
        case r4 =>
          refine qturn 1 rfl (by decide) fun b w vs hS hl hold hpre heff => ?_
          obtain ⟨x0, rfl⟩ := vs_len1 hl
          refine ⟨fun hwant K hK => ?_, fun hwant => ?_⟩
          · clear hwant
            have e28 : b.eval (.tmp 28) = x0 := (heff ⟨3, _⟩ (Array.mem_of_getElem? (i := 0) rfl) rfl 0 _ _ rfl rfl rfl).2
            obtain ⟨rfl, hk1, A7, c7, o1, o2, h3⟩ := hS
            refine opw_slice (ps := [(0, .int .i64 z)]) (cells := #[.int .i64 z]) rfl Tryz.underlying22 (by simp [e28]) (by kernel_rfl) ?_
            intro w' hbx hbel
            exact hK _ w' ⟨HKs.out.and stable_sl, A7, c7, o1, o2, (h3.ret hbel stable_sl (⟨by simp, _, 1, rfl, by omega, by unfold maxLen; omega, fun _ => ⟨w.heap.size, 0, rfl, Nat.le_refl _, hbx.lt, fun j x hj => by rw [Nat.zero_add]; exact (hbx.cell j).trans (by simpa using hj)⟩⟩ : Sl w' (w.heap.size ≤ ·) 1 (.slice (some ⟨w.heap.size, 0, none⟩) 1 1) 1 [.int .i64 z])).mono ((HKs.out.and stable_sl).and stable_sl) fun D w h => ⟨⟨h.1.1, h.2⟩, h.1.2⟩⟩
          · rw [want_none rfl] at hwant; cases hwant
        case r5 =>
          refine qturn 2 rfl (by decide) fun b w vs hS hl hold hpre heff => ?_
          obtain ⟨x0, x1, rfl⟩ := vs_len2 hl
          refine ⟨fun hwant K hK => ?_, fun hwant => ?_⟩
          · clear hwant
            have e26 : b.eval (.tmp 26) = pv := hpre ⟨1, _⟩ (Array.mem_of_getElem? (i := 0) rfl) rfl _ _ rfl rfl rfl
            have e29 : b.eval (.tmp 29) = x1 := (heff ⟨4, _⟩ (Array.mem_of_getElem? (i := 1) rfl) rfl 1 _ _ rfl rfl rfl).2
            obtain ⟨hk1, A7, c7, o1, o2, h3⟩ := hS
            rw [hX] at h3
            refine opw_app rfl ty_ints e26 (h3.own 1 rfl) e29 h3.ro.1.2 (by intro u hu; simp at hu; subst hu; rfl) (by omega) (by omega) h3.size ?_
            intro v' w' ho hg hat
            exact hK v' w' ⟨HKs.out, A7, c7, o1, o2, (h3.upd 1 rfl (.own v' 3 1 (acc.length + 1) (ints acc ++ [Value.int .i64 (z : Nat)])) hg ho hat).mono (HKs.out.and stable_sl) fun D w h => ⟨h.1.1, h.2⟩⟩
          · rw [want_none rfl] at hwant; cases hwant
        case r6 =>
          refine qread rfl fun b w vs hS hcov hold hpre heff => ?_
          refine ⟨fun hwant K hK => ?_, fun hwant => ?_⟩
          · clear hwant
            have e5 : b.eval (.tmp 5) = .pointer (some ⟨g5, 0, none⟩) := (hold 5 (by kernel_rfl)).trans rfl
            exact opw_faddr rfl e5 (by kernel_rfl) (hK _ rfl)
          · rw [want_none rfl] at hwant; cases hwant
        case r7 =>
          refine qturn 3 rfl (by decide) fun b w vs hS hl hold hpre heff => ?_
          obtain ⟨x0, x1, x2, rfl⟩ := vs_len3 hl
          refine ⟨fun hwant K hK => ?_, fun hwant => ?_⟩
          · clear hwant
            have e31 : b.eval (.tmp 31) = .pointer (some ⟨g5, 33, none⟩) := hpre ⟨6, _⟩ (Array.mem_of_getElem? (i := 0) rfl) rfl _ _ rfl rfl rfl
            have e30 : b.eval (.tmp 30) = x2 := (heff ⟨5, _⟩ (Array.mem_of_getElem? (i := 1) rfl) rfl 2 _ _ rfl rfl rfl).2
            obtain ⟨hk1, A7, c7, o1, o2, h3⟩ := hS
            refine opw_cstore rfl e31 e30 (h3.box 2 rfl) HCPs.out (own_cells (h3.own 1 rfl)) (own_one (h3.own 1 rfl)) (by kernel_rfl) ?_
            intro w' hbx hup
            exact hK _ w' ⟨HKs.out, A7, c7, o1, o2, h3.upd 2 rfl (.box g5 35 (CP.setIfInBounds 33 x2)) (upd_gb hup) ⟨(h3.holds _ (List.mem_of_getElem? (i := 2) rfl)).1, hbx⟩ fun _ e => .inl e⟩
          · rw [want_none rfl] at hwant; cases hwant
        case post =>
          intro b wz vs hS hl hdf hsz hold hT hE
          obtain ⟨x0, x1, x2, x3, rfl⟩ := vs_len4 hl
          have e25 : b.eval (.tmp 25) = .pointer (some ⟨g5, 33, none⟩) := hT 0 _ 25 rfl rfl rfl
          have e26 : b.eval (.tmp 26) = pv := hT 1 _ 26 rfl rfl rfl
          have e27 : b.eval (.tmp 27) = .pointer (some ⟨q, 0, none⟩) := hT 2 _ 27 rfl rfl rfl
          have e28 : b.eval (.tmp 28) = x0 := hE 0 3 _ 28 rfl rfl rfl
          have e29 : b.eval (.tmp 29) = x1 := hE 1 4 _ 29 rfl rfl rfl
          have e30 : b.eval (.tmp 30) = x2 := hE 2 5 _ 30 rfl rfl rfl
          have e31 : b.eval (.tmp 31) = .pointer (some ⟨g5, 33, none⟩) := hT 6 _ 31 rfl rfl rfl
          obtain ⟨us, hus, hb⟩ := frame_of hdf hsz hold
          replace e25 : us 25 = .pointer (some ⟨g5, 33, none⟩) := (hus 25).symm.trans e25
          replace e26 : us 26 = pv := (hus 26).symm.trans e26
          replace e27 : us 27 = .pointer (some ⟨q, 0, none⟩) := (hus 27).symm.trans e27
          replace e28 : us 28 = x0 := (hus 28).symm.trans e28
          replace e29 : us 29 = x1 := (hus 29).symm.trans e29
          replace e30 : us 30 = x2 := (hus 30).symm.trans e30
          replace e31 : us 31 = .pointer (some ⟨g5, 33, none⟩) := (hus 31).symm.trans e31
          subst hb
          clear hus hold hT hE hdf hsz hl
          simp only [setAll, Act.put, List.setIfInBounds_toArray, List.set_cons_zero, List.set_cons_succ, List.getElem_toArray, List.getElem_cons_succ, List.getElem_cons_zero]
          have hlb : l'.length ≤ l.length ∧ Bytes l' := by
            have e9 : l' = (readUint 63 l e).2.1 := by rw [← HU.out]
            rw [e9]; unfold readUint; split
            · split
              · exact ⟨Nat.le_refl _, hbl⟩
              · split
                · exact ⟨Nat.le_refl _, hbl⟩
                · exact ⟨by simp, fun x hx => hbl x (List.mem_of_mem_drop hx)⟩
            · exact ⟨Nat.le_refl _, hbl⟩
          have hCP2 : CP.setIfInBounds 33 x2 = cc (r ++ List.replicate (32 - r.length) 0) fl x2 (.slice none 0 0) := by rw [HCP.out]; exact cc_set33 _ _ _ _ _ HP32.out
          have hR9 : Rd w0 wz (.own x2 3 1 (acc.length + 1) (ints acc ++ [Value.int .i64 (z : Nat)]) :: .box g5 35 (CP.setIfInBounds 33 x2) :: .box g2 35 Z :: F0) K q l' e' := hS
          rw [hCP2] at hR9
          have HR9 := Lib.hid hR9
          have HLB := Lib.hid hlb
          clear hR9 hCP2 hlb hS h0d
          go_wp2_with fail
          obtain ⟨m', rfl⟩ : ∃ m', m = m' + 1 := ⟨m - 1, by omega⟩
          have hrn : readNums (m' + 1) l e = ((z : Int) :: (readNums m' l' e').1, (readNums m' l' e').2) := by rw [readNums, ← HU.out]
          have ha := HA.out
          have hp := HPP.out
          rw [hrn] at ha hp
          refine ⟨⟨m', acc ++ [(z : Int)], l', e', x2, by go_num, by simp; omega, by rw [List.append_assoc]; exact ha, hp, HLB.out.2, by have := HLB.out.1; omega, ?_⟩, by simp [intOf]⟩
          have h := HR9.out
          simpa [ints] using h
      · obtain rfl : m = 0 := by omega
        go_wp2_with fail
        simp only [Int.natCast_zero]
        obtain ⟨-, A6, c6, a1, a2, hS⟩ := hR
        replace hS := hS.freeze 1 (by decide) rfl
        have hacc : acc = PL := by have := HA.out; simpa [readNums] using this
        have hlr : (l, e) = PR := HPP.out
        have HPL := Lib.hid hacc
        have HPR := Lib.hid hlr
        clear hacc hlr HA HPP
        have hR1 : Rd w0 wr (.box g5 35 CP :: .box g2 35 Z :: F0) (fun D w => K D w ∧ Sl w D 1 pv acc.length (ints acc)) q l e := ⟨HKs.out.and stable_sl, A6, c6, a1, a2, hS.mono ((HKs.out.and stable_sl).and stable_sl) fun D w h => ⟨⟨h.1.1, h.2⟩, h.1.2⟩⟩
        clear hS
        refine (rcount_any 2000 (by decide) (by omega) hbl hR1).mono ?_
        rintro r_ w6 ⟨rfl, hR2⟩
        obtain ⟨⟨M0, l4, e4⟩, hM⟩ : ∃ V, V = readCount 2000 l e := ⟨_, rfl⟩
        rw [← hM] at hR2 ⊢
        have hm0 : M0 ≤ 2000 := by have := readCount_le 2000 l e; rw [← hM] at this; exact this
        have hl4 : l4.length ≤ l.length ∧ Bytes l4 := by
          have e9 : l4 = (readCount 2000 l e).2.1 := by rw [← hM]
          rw [e9]; unfold readCount; split
          · split
            · exact ⟨Nat.le_refl _, hbl⟩
            · split
              · exact ⟨Nat.le_refl _, hbl⟩
              · exact ⟨by simp, fun x hx => hbl x (List.mem_of_mem_drop hx)⟩
          · exact ⟨Nat.le_refl _, hbl⟩
        obtain ⟨hl4, hb4⟩ := hl4
        have HM := Lib.hid hM
        clear hM hR1
        dsimp only at hR2 ⊢
        have hl9 : l4.length ≤ 1000000 := by omega
        clear hl4 hll hbl
        obtain ⟨⟨QL, QR⟩, hQ⟩ : ∃ V, V = readCubes M0 l4 e4 := ⟨_, rfl⟩
        have HQ := Lib.hid hQ
        go_wp2_with fail
        obtain ⟨-, A7, c7, o3, o4, hS⟩ := hR2
        obtain ⟨K1, hK1, hKs1, hK1k, hK1p⟩ : ∃ K1 : (Nat → Prop) → World → Prop, K1 = (fun D w => K D w ∧ Sl w D 1 pv acc.length (ints acc)) ∧ Stable K1 ∧ (∀ D w, K1 D w → K D w) ∧ (∀ D w, K1 D w → Sl w D 1 pv acc.length (ints acc)) := ⟨_, rfl, HKs.out.and stable_sl, fun _ _ h => h.1, fun _ _ h => h.2⟩
        rw [← hK1] at hS
        have HKs1 := Lib.hid hKs1
        have HK1p := Lib.hid hK1p
        have HK1k := Lib.hid hK1k
        clear hK1 hKs1 hK1k hK1p
        have hR : Rd w0 w6 (.own (.slice none 0 0) 54 2 0 [] :: .box g5 35 CP :: .box g2 35 Z :: F0) (fun D w => K1 D w ∧ CubeCells w D [] []) q l4 e4 := ⟨HKs1.out.and stable_cells, A7, c7, o3, o4, (hS.nil 54 2).swap.mono ((HKs1.out.and stable_cells).and stable_sl) fun D w h => ⟨⟨h.1, CubeCells.nil⟩, h.2⟩⟩
        clear hS
        rw [HCP.out] at hR
        go_loopw [7] (fun i wr => ∃ (m : Nat) (acc2 : List (Nat × Nat)) (xs : List Value) (l : List Nat) (e : Int) (qv : Value), i = .int .i64 m ∧ acc2.length + m = M0 ∧ acc2 ++ (readCubes m l e).1 = QL ∧ (readCubes m l e).2 = QR ∧ Bytes l ∧ l.length ≤ 1000000 ∧ Rd w0 wr (.own qv 54 2 acc2.length xs :: .box g5 35 (cc (r ++ List.replicate (32 - r.length) 0) fl pv qv) :: .box g2 35 Z :: F0) (fun D w => K1 D w ∧ CubeCells w D xs acc2) q l e) (fun i _ => (intOf i).toNat)
        case atStart => exact ⟨M0, [], [], l4, e4, .slice none 0 0, rfl, by simp, by rw [← hQ]; rfl, by rw [← hQ], hb4, hl9, hR⟩
        case round =>
          clear hR
          obtain ⟨m, acc2, xs, l, e, qv, rfl, hm, ha, hp, hbl, hll, hR⟩ := hrel
          have HA := Lib.hid ha
          have HPP := Lib.hid hp
          clear ha hp
          obtain ⟨CQ, hCQ⟩ : ∃ C, C = cc (r ++ List.replicate (32 - r.length) 0) fl pv qv := ⟨_, rfl⟩
          rw [← hCQ] at hR
          have HCQ := Lib.hid hCQ
          clear hCQ
          by_cases hm0 : 0 < m
          · obtain ⟨⟨Y, l1', e1'⟩, hU⟩ : ∃ V, V = readSet 63 l e := ⟨_, rfl⟩
            obtain ⟨⟨N, l2', e2'⟩, hU2⟩ : ∃ V, V = readSet 63 l1' e1' := ⟨_, rfl⟩
            have hlb1 : l1'.length ≤ l.length ∧ Bytes l1' := by
              have e9 : l1' = (readSet 63 l e).2.1 := by rw [← hU]
              rw [e9]; exact ⟨readSet_len, readSet_bytes hbl⟩
            have hlb2 : l2'.length ≤ l1'.length ∧ Bytes l2' := by
              have e9 : l2' = (readSet 63 l1' e1').2.1 := by rw [← hU2]
              rw [e9]; exact ⟨readSet_len, readSet_bytes hlb1.2⟩
            have hrn : readCubes m l e = ((Y, N) :: (readCubes (m - 1) l2' e2').1, (readCubes (m - 1) l2' e2').2) := by
              obtain ⟨m', rfl⟩ : ∃ m', m = m' + 1 := ⟨m - 1, by omega⟩
              rw [readCubes, readCube, ← hU]; dsimp only; rw [← hU2]; rfl
            have ha := HA.out
            have hp := HPP.out
            rw [hrn] at ha hp
            have HA := Lib.hid ha
            have HPP := Lib.hid hp
            have hq34 : CQ[34]? = some qv := by rw [HCQ.out]; exact (cc_at _ _ _ _ HP32.out).2.2
            have hCQs : 34 < CQ.size := by rw [HCQ.out, cc_size _ _ _ _ HP32.out]; decide
            have HCQs := Lib.hid hCQs
            have HQ34 := Lib.hid hq34
            clear ha hp hrn hq34 hCQs
            have HSet1 := Lib.hid (rset_any 63 (by decide) (by omega) hbl hR)
            rw [← hU] at HSet1
            have HSet2 := Lib.hid fun (w : World) (X' : List Fact) (K' : (Nat → Prop) → World → Prop) (h : Rd w0 w X' K' q l1' e1') => rset_any 63 (by decide) (by omega) hlb1.2 h
            rw [← hU2] at HSet2
            have hll2 : l2'.length ≤ 1000000 := by omega
            have HLB := Lib.hid hlb2.2
            clear hU hU2 hlb1 hlb2 hR
            go_wp2_with fail
            refine HSet1.out.mono ?_
            rintro r_ w7 ⟨v1, rfl, hR2⟩
            clear HSet1
            dsimp only at hR2 ⊢
            obtain ⟨-, A8, c8, n5, n6, hS⟩ := hR2
            obtain ⟨A1, c1, k1, rfl, -⟩ := hS.ro.1.2.parts
            go_wp2_with (first
              | ((with_reducible show wpList _ _ _ (⟨_, .build _ _, _, _, _, _⟩ :: _) _ _); refine wpList_build_of rfl _ _ rfl #[.slice A1 k1.length c1, .slice none 0 0] (by kernel_rfl) ?_)
              | ((with_reducible show wpList _ _ _ (⟨some 8, _, _, _, _, _⟩ :: _) _ _); refine st_allocz hS rfl _ rfl (by kernel_rfl) #[.slice none 0 0, .slice none 0 0] (by kernel_rfl) ?_; clear hS; intro g8 w_ hS; (try simp only [Act.put, Act.eval, List.set_cons_zero, List.set_cons_succ, List.setIfInBounds_toArray, Array.getD_eq_getD_getElem?, List.getElem?_toArray, List.getElem?_cons_succ, List.getElem?_cons_zero, Option.getD_some, Value.cells] at hS))
              | ((with_reducible show wpList _ _ _ (⟨_, .store _ _ _, _, _, _, _⟩ :: _) _ _); first | (refine st_store hS 0 rfl _ _ _ rfl _ _ rfl rfl _ _ rfl (by kernel_rfl) (by kernel_rfl) (by kernel_rfl) ?_; clear hS; intro w_ hS; (try simp only [Act.put, Act.eval, List.set_cons_zero, List.set_cons_succ, List.setIfInBounds_toArray, Array.getD_eq_getD_getElem?, List.getElem?_toArray, List.getElem?_cons_succ, List.getElem?_cons_zero, Option.getD_some, Value.cells] at hS)) | (refine st_store hS 1 rfl _ _ _ rfl _ _ rfl rfl _ _ rfl (by kernel_rfl) (by kernel_rfl) (by kernel_rfl) ?_; clear hS; intro w_ hS; (try simp only [Act.put, Act.eval, List.set_cons_zero, List.set_cons_succ, List.setIfInBounds_toArray, Array.getD_eq_getD_getElem?, List.getElem?_toArray, List.getElem?_cons_succ, List.getElem?_cons_zero, Option.getD_some, Value.cells] at hS)) | (refine st_store hS 2 rfl _ _ _ rfl _ _ rfl rfl _ _ rfl (by kernel_rfl) (by kernel_rfl) (by kernel_rfl) ?_; clear hS; intro w_ hS; (try simp only [Act.put, Act.eval, List.set_cons_zero, List.set_cons_succ, List.setIfInBounds_toArray, Array.getD_eq_getD_getElem?, List.getElem?_toArray, List.getElem?_cons_succ, List.getElem?_cons_zero, Option.getD_some, Value.cells] at hS)) | (refine st_store hS 3 rfl _ _ _ rfl _ _ rfl rfl _ _ rfl (by kernel_rfl) (by kernel_rfl) (by kernel_rfl) ?_; clear hS; intro w_ hS; (try simp only [Act.put, Act.eval, List.set_cons_zero, List.set_cons_succ, List.setIfInBounds_toArray, Array.getD_eq_getD_getElem?, List.getElem?_toArray, List.getElem?_cons_succ, List.getElem?_cons_zero, Option.getD_some, Value.cells] at hS)) | (refine st_cstore hS 0 rfl _ _ _ rfl _ _ _ rfl rfl rfl (by first | (simp; done) | (simp; omega) | exact of_decide_eq_true (by kernel_rfl)) rfl (by first | rfl | assumption) (by kernel_rfl) ?_; clear hS; intro w_ hS; (try simp only [Act.put, Act.eval, List.set_cons_zero, List.set_cons_succ, List.setIfInBounds_toArray, Array.getD_eq_getD_getElem?, List.getElem?_toArray, List.getElem?_cons_succ, List.getElem?_cons_zero, Option.getD_some, Value.cells] at hS)) | (refine st_cstore hS 1 rfl _ _ _ rfl _ _ _ rfl rfl rfl (by first | (simp; done) | (simp; omega) | exact of_decide_eq_true (by kernel_rfl)) rfl (by first | rfl | assumption) (by kernel_rfl) ?_; clear hS; intro w_ hS; (try simp only [Act.put, Act.eval, List.set_cons_zero, List.set_cons_succ, List.setIfInBounds_toArray, Array.getD_eq_getD_getElem?, List.getElem?_toArray, List.getElem?_cons_succ, List.getElem?_cons_zero, Option.getD_some, Value.cells] at hS)) | (refine st_cstore hS 2 rfl _ _ _ rfl _ _ _ rfl rfl rfl (by first | (simp; done) | (simp; omega) | exact of_decide_eq_true (by kernel_rfl)) rfl (by first | rfl | assumption) (by kernel_rfl) ?_; clear hS; intro w_ hS; (try simp only [Act.put, Act.eval, List.set_cons_zero, List.set_cons_succ, List.setIfInBounds_toArray, Array.getD_eq_getD_getElem?, List.getElem?_toArray, List.getElem?_cons_succ, List.getElem?_cons_zero, Option.getD_some, Value.cells] at hS)) | (refine st_cstore hS 3 rfl _ _ _ rfl _ _ _ rfl rfl rfl (by first | (simp; done) | (simp; omega) | exact of_decide_eq_true (by kernel_rfl)) rfl (by first | rfl | assumption) (by kernel_rfl) ?_; clear hS; intro w_ hS; (try simp only [Act.put, Act.eval, List.set_cons_zero, List.set_cons_succ, List.setIfInBounds_toArray, Array.getD_eq_getD_getElem?, List.getElem?_toArray, List.getElem?_cons_succ, List.getElem?_cons_zero, Option.getD_some, Value.cells] at hS))))
            have hR3 : Rd w0 w_ (.box g8 54 #[.slice A1 k1.length c1, .slice none 0 0] :: .own qv 54 2 acc2.length xs :: .box g5 35 CQ :: .box g2 35 Z :: F0) (fun D w => (K1 D w ∧ CubeCells w D xs acc2) ∧ IsSet w D (.agg #[.slice A1 k1.length c1]) Y) q l1' e1' :=
              ⟨(HKs1.out.and stable_cells).and stable_set, A8, c8, n5, n6, hS.swap⟩
            clear hS
            refine (HSet2.out _ _ _ hR3).mono ?_
            clear hR3 HSet2
            rintro r_ w8 ⟨v2, rfl, hR4⟩
            dsimp only at hR4 ⊢
            obtain ⟨-, A9, c9, o5, o6, hS⟩ := hR4
            obtain ⟨A2, c2, k2, rfl, -⟩ := hS.ro.1.2.parts
            go_wp2_with (first
              | ((with_reducible show wpList _ _ _ (⟨none, .store 51 _ _, _, _, _, _⟩ :: _) _ _); refine st_gstore hS 1 rfl _ _ _ rfl g8 1 _ rfl rfl rfl (by simp) rfl (by kernel_rfl) ?_; clear hS; intro w_ hS; (try simp only [Act.put, Act.eval, List.set_cons_zero, List.set_cons_succ, List.setIfInBounds_toArray, Array.getD_eq_getD_getElem?, List.getElem?_toArray, List.getElem?_cons_succ, List.getElem?_cons_zero, Option.getD_some, Value.cells] at hS))
              | ((with_reducible show wpList _ _ _ (⟨_, .load 33 _, _, _, _, _⟩ :: _) _ _); refine st_cell hS 3 rfl _ _ rfl g5 34 rfl _ CQ rfl (by decide +kernel) qv HQ34.out ?_)
              | ((with_reducible show wpList _ _ _ (⟨_, .load _ _, _, _, _, _⟩ :: _) _ _); first | refine st_load hS 0 rfl _ _ rfl _ rfl _ _ rfl _ Tryz.underlying54 rfl (by kernel_rfl) ?_ | refine st_load hS 1 rfl _ _ rfl _ rfl _ _ rfl _ Tryz.underlying54 rfl (by kernel_rfl) ?_ | refine st_load hS 2 rfl _ _ rfl _ rfl _ _ rfl _ Tryz.underlying54 rfl (by kernel_rfl) ?_ | refine st_load hS 3 rfl _ _ rfl _ rfl _ _ rfl _ Tryz.underlying54 rfl (by kernel_rfl) ?_)
              | ((with_reducible show wpList _ _ _ (⟨some 47, _, _, _, _, _⟩ :: _) _ _); refine st_push hS 2 rfl rfl _ _ _ _ rfl rfl ty_cubes qv acc2.length xs (.agg #[.slice A1 k1.length c1, .slice A2 k2.length c2]) #[.slice A1 k1.length c1, .slice A2 k2.length c2] rfl (by kernel_rfl) rfl rfl rfl rfl (by intro u hu; simp at hu; rcases hu with rfl | rfl <;> rfl) (by omega) (by omega) ?_; clear hS; intro z_ v' w_ hS; (try simp only [Act.put, Act.eval, List.set_cons_zero, List.set_cons_succ, List.setIfInBounds_toArray, Array.getD_eq_getD_getElem?, List.getElem?_toArray, List.getElem?_cons_succ, List.getElem?_cons_zero, Option.getD_some, Value.cells] at hS); obtain ⟨A7', c7', rfl, _, _⟩ := own_shp (hS.own 2 rfl))
              | ((with_reducible show wpList _ _ _ (⟨none, .store 33 _ _, _, _, _, _⟩ :: _) _ _); refine st_cstore hS 3 rfl _ _ _ rfl g5 34 _ rfl rfl rfl HCQs.out rfl rfl (by kernel_rfl) ?_; clear hS; intro w_ hS; (try simp only [Act.put, Act.eval, List.set_cons_zero, List.set_cons_succ, List.setIfInBounds_toArray, Array.getD_eq_getD_getElem?, List.getElem?_toArray, List.getElem?_cons_succ, List.getElem?_cons_zero, Option.getD_some, Value.cells] at hS)))
            obtain ⟨m', rfl⟩ : ∃ m', m = m' + 1 := ⟨m - 1, by omega⟩
            rw [HCQ.out, cc_set34 _ _ _ _ _ HP32.out] at hS
            have hcl := (hS.own 2 rfl).1
            refine ⟨⟨m', acc2 ++ [(Y, N)], xs ++ [.slice A1 k1.length c1, .slice A2 k2.length c2], l2', e2', .slice A7' (acc2.length + 1) c7', by go_num, by simp; omega, by rw [List.append_assoc]; exact HA.out, HPP.out, HLB.out, hll2, ?_⟩, by simp [intOf]⟩
            have h := hS.sub (F' := _ :: _ :: _ :: _ :: F0) (.cons_cons _ (.cons _ (.refl _)))
            refine ⟨HKs1.out.and stable_cells, A9, c9, o5, o6, ?_⟩
            rw [show (acc2 ++ [(Y, N)]).length = acc2.length + 1 by simp]
            exact h.mono ((HKs1.out.and stable_cells).and stable_sl) fun D w h => ⟨⟨h.1.1.1.1, h.1.1.1.2.push (by simp at hcl; omega) h.1.1.2 h.1.2⟩, h.2⟩
          · obtain rfl : m = 0 := by omega
            go_wp2_with fail
            obtain ⟨-, A8, c8, n5, n6, hS⟩ := hR
            replace hS := hS.freeze 1 (by decide) rfl
            have hacc : acc2 = QL := by have := HA.out; simpa [readCubes] using this
            have hlr : (l, e) = QR := HPP.out
            have hR1 : Rd w0 wr (.box g5 35 CQ :: .box g2 35 Z :: F0) (fun D w => K1 D w ∧ IsCubes w D qv acc2) q l e := ⟨HKs1.out.and stable_cubes, A8, c8, n5, n6, hS.mono ((HKs1.out.and stable_cubes).and stable_sl) fun D w h => ⟨⟨h.1.1.1, ⟨xs, h.2, h.1.1.2⟩⟩, h.1.2⟩⟩
            clear hS
            have hC : parseC ps = (⟨r ++ List.replicate (32 - r.length) 0, fl, acc, acc2⟩, l, e) := by
              unfold parseC
              dsimp only
              rw [← HRW.out]; dsimp only
              rw [← HF.out]; dsimp only
              rw [← HN.out]; dsimp only
              rw [← HP.out]; dsimp only
              rw [HPL.out, ← HPR.out]; dsimp only
              rw [← HM.out]; dsimp only
              rw [← HQ.out]; dsimp only
              rw [hacc, ← hlr]
            have HC := Lib.hid hC
            clear hC hacc hlr
            refine (rend_any hR1).mono ?_
            rintro r_ w_ ⟨rfl, rfl⟩
            obtain ⟨-, A10, c10, -, -, hS⟩ := hR1
            have hce : ∀ D w, (K1 D w ∧ IsCubes w D qv acc2) → IsCert w D (.agg CQ) ⟨r ++ List.replicate (32 - r.length) 0, fl, acc, acc2⟩ := fun D w h => by
              rw [HCQ.out]; exact IsCert.of_cc HP32.out HRB.out (HK1p.out _ _ h.1) h.2
            have HCE := Lib.hid hce
            have hCQ1 : CQ.all (·.oneCell') = true := by
              obtain ⟨_, _, e1, _, _⟩ := (HK1p.out _ _ hS.ro.1.1).shape
              obtain ⟨_, _, e2, _, _⟩ := hS.ro.1.2.shape
              rw [HCQ.out, e1, e2]; exact cc_one _ _ _ _ _ _ _ _
            have hZ1 : Z.all (·.oneCell') = true := by rw [HZZ.out]; exact cc_one _ _ _ _ _ _ _ _
            have hZi : (Tryz.prog.info? 35).map (·.size) = some Z.size := by rw [HZZ.out, cc_size _ _ _ _ (by simp)]; kernel_rfl
            have hCQi : (Tryz.prog.info? 35).map (·.size) = some CQ.size := by rw [HCQ.out, cc_size _ _ _ _ HP32.out]; kernel_rfl
            have hQZ : Z.size = CQ.size := by rw [HCQ.out, cc_size _ _ _ _ HP32.out, HZZ.out, cc_size _ _ _ _ (by simp)]
            have HCQ1 := Lib.hid hCQ1
            have HZ1' := Lib.hid hZ1
            have HZi := Lib.hid hZi
            have HCQi := Lib.hid hCQi
            have HQZ := Lib.hid hQZ
            clear hce hCQ1 hZ1 hZi hCQi hQZ
            obtain ⟨CT, hCT⟩ : ∃ C : CertD, C = ⟨r ++ List.replicate (32 - r.length) 0, fl, acc, acc2⟩ := ⟨_, rfl⟩
            rw [← hCT] at HCE HC
            have hRC : readC ps = if endE l e = 0 ∧ checkC CT = 0 then (CT, 0) else (⟨List.replicate 32 0, false, [], []⟩, 6) := by
              unfold readC; rw [HC.out]
            have HRC := Lib.hid hRC
            clear hRC hCT HC
            generalize endE l e = E0 at *
            obtain ⟨CK, hCK⟩ : ∃ x, x = checkC CT := ⟨_, rfl⟩
            rw [← hCK] at HRC
            have HCK := Lib.hid hCK
            clear hCK
            go_wp2_with (first
              | ((with_reducible show wpList _ _ _ (⟨_, .binOp _ _ _ _ _, _, _, _, _⟩ :: _) _ _); (first | ((with_reducible show wpList _ _ _ (⟨_, .binOp .lss _ _ _ _, _, _, _, _⟩ :: _) _ _); refine st_lss rfl _ _ _ _ rfl _ _ _ rfl rfl (fun h_ => ?_) (fun h_ => ?_)) | ((with_reducible show wpList _ _ _ (⟨_, .binOp .leq _ _ _ _, _, _, _, _⟩ :: _) _ _); refine st_leq rfl _ _ _ _ rfl _ _ _ rfl rfl (fun h_ => ?_) (fun h_ => ?_)) | ((with_reducible show wpList _ _ _ (⟨_, .binOp .gtr _ _ _ _, _, _, _, _⟩ :: _) _ _); refine st_gtr rfl _ _ _ _ rfl _ _ _ rfl rfl (fun h_ => ?_) (fun h_ => ?_)) | ((with_reducible show wpList _ _ _ (⟨_, .binOp .geq _ _ _ _, _, _, _, _⟩ :: _) _ _); refine st_geq rfl _ _ _ _ rfl _ _ _ rfl rfl (fun h_ => ?_) (fun h_ => ?_)) | ((with_reducible show wpList _ _ _ (⟨_, .binOp .eql _ _ _ _, _, _, _, _⟩ :: _) _ _); refine st_eql rfl _ _ _ _ rfl _ _ _ rfl rfl (fun h_ => ?_) (fun h_ => ?_)) | ((with_reducible show wpList _ _ _ (⟨_, .binOp .neq _ _ _ _, _, _, _, _⟩ :: _) _ _); refine st_neq rfl _ _ _ _ rfl _ _ _ rfl rfl (fun h_ => ?_) (fun h_ => ?_))) <;> go_prune)
              | ((with_reducible show wpList _ _ _ (⟨_, .build _ _, _, _, _, _⟩ :: _) _ _); refine wpList_build_of rfl _ _ rfl (zeroCells Tryz.prog 35) (by kernel_rfl) ?_; rw [HZ.out])
              | ((with_reducible show wpList _ _ _ (⟨none, .store 35 _ _, _, _, _, _⟩ :: _) _ _); first
                | (refine st_store hS 2 rfl _ _ _ rfl g2 Z rfl rfl _ Z rfl HZi.out rfl HZ1'.out ?_; clear hS; intro w_ hS; (try simp only [Act.put, Act.eval, List.set_cons_zero, List.set_cons_succ, List.setIfInBounds_toArray, Array.getD_eq_getD_getElem?, List.getElem?_toArray, List.getElem?_cons_succ, List.getElem?_cons_zero, Option.getD_some, Value.cells] at hS))
                | (refine st_store hS 2 rfl _ _ _ rfl g2 CQ rfl rfl _ Z rfl HCQi.out HQZ.out HCQ1.out ?_; clear hS; intro w_ hS; (try simp only [Act.put, Act.eval, List.set_cons_zero, List.set_cons_succ, List.setIfInBounds_toArray, Array.getD_eq_getD_getElem?, List.getElem?_toArray, List.getElem?_cons_succ, List.getElem?_cons_zero, Option.getD_some, Value.cells] at hS)))
              | ((with_reducible show wpList _ _ _ (⟨_, .load 35 _, _, _, _, _⟩ :: _) _ _); refine st_loadw hS 1 rfl _ _ rfl g5 rfl _ CQ rfl _ Tryz.underlying35 rfl HCQi.out ?_)
              | (go_at_call 19; refine (check_any _ CT _ _ (HCE.out _ _ hS.ro.1)).mono ?_; rw [← HCK.out]; rintro r_ w_ ⟨_, rfl, rfl, hb_⟩; replace hS := hS.ext hb_; clear hb_))
            all_goals
              refine ret2_cell Tryz.results12 rfl (hS.box 2 rfl) Tryz.underlying35 rfl (by first | exact HZi.out | exact HCQi.out) rfl rfl ?_
              first
              | (have hE : readC ps = (CT, 0) := by rw [HRC.out]; exact if_pos ⟨by omega, by omega⟩
                 rw [hE]
                 exact ⟨_, rfl, (hS.sub (F' := F0) (.cons _ (.cons _ (.cons _ (.refl _))))).mono (HKs.out.and stable_cert) fun D w h => ⟨HK1k.out _ _ h.1.1, HCE.out _ _ h.1⟩⟩)
              | (have hE : readC ps = (⟨List.replicate 32 0, false, [], []⟩, 6) := by rw [HRC.out]; exact if_neg (by omega)
                 rw [hE, HZZ.out]
                 exact ⟨_, rfl, (hS.sub (F' := F0) (.cons _ (.cons _ (.cons _ (.refl _))))).mono (HKs.out.and stable_cert) fun D w h => ⟨HK1k.out _ _ h.1.1, IsCert.of_cc (by simp) (Bytes.rep _) Sl.none_ IsCubes.nil⟩⟩)
end Go.Proofs.YtenpkgdnlogfiaaGreatDoor
