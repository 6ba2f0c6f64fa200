/-
  The reference's tagged digest and identifier (arbacref03, arbacref36); CertificateBytes.
-/
import Derived.Test.YtenpkgdnlogfiaaGreatDoorP05
import Derived.Test.YtenpkgdnlogfiaaGreatDoorCert5
namespace Go.Proofs.YtenpkgdnlogfiaaGreatDoor
open Go.RowKit
attribute [local go_sem ↓] Go.wp_at_zero Go.wp_at_succ
set_option maxRecDepth 20000
set_option exponentiation.threshold 5000

theorem run_conv_sb (w : World) (s : ByteArray) (hs : s.size ≤ 1000000) : ∃ v w', (convert 9 37 (.string s)).run Tryz.prog w = .ok v w' ∧ Sl w' (w.heap.size ≤ ·) 1 v (sb s).length (u8s (sb s)) ∧ Below w.heap.size w w' := by
  have hcv := run_bytes_of_string (P := Tryz.prog) w 9 37 5 s Tryz.underlying9 Tryz.underlying37 Tryz.underlying5
  have hg1 := grownCap_ge w s.size 0 5
  have hg2 := grownCap_le_maxLen w s.size 0 5 (by unfold maxLen; omega)
  generalize grownCap w s.size 0 5 = cap at *
  have hcell : ∀ j, j < s.size → (bytesRow s cap)[j]? = some (.int .u8 ((sb s).getD j 0 : Nat)) := fun j hj => by
    rw [bytesRow_at s cap j hj, sb, List.getD_eq_getElem?_getD, List.getElem?_map, List.getElem?_eq_getElem (by simpa using hj)]
    rfl
  generalize bytesRow s cap = C at *
  refine ⟨_, _, hcv, ?_, (Below.refl _ _).drew.alloc (Nat.le_refl _) _⟩
  rw [sb_len]
  refine ⟨by simp [u8s, sb_len], _, _, rfl, hg1, hg2, fun _ => ⟨w.heap.size, 0, rfl, Nat.le_refl _, by simp, fun j x hj => ?_⟩⟩
  have hj' : j < s.size := by
    rcases Nat.lt_or_ge j s.size with h | h
    · exact h
    · rw [List.getElem?_eq_none (by rw [u8s_length, sb_len]; exact h)] at hj; cases hj
  rw [Nat.zero_add]
  refine (cell_of_row _ w.heap.size j C 5 _ (heap_alloc_new w.drew _)).trans ((hcell j hj').trans ?_)
  rw [← hj]
  exact (u8s_at _ _ (by rw [sb_len]; exact hj')).symm
theorem opw_convw {P : Program} {o : Oper} {a : Act} {w w' : World} {K : Act → World → Prop} {Q : Exit → Act → World → Prop} {s d : TypeId} {x : Operand} {vx v : Value} (ho : o.op = .convert s d x) (hx : a.eval x = vx) (hr : (convert s d vx).run P w = .ok v w') (hk : K (a.put o.dst v) w') : o.wp P a w K Q := by
  unfold Oper.wp execOp
  simp only [ho, hx, Sem.run_bind, hr, Result.andThen_ok]
  exact hk
theorem st_sconv {ops : Array Oper} {rest : List Oper} {o : Oper} {a : Act} {w0 w : World} {F : List Fact} {K : (Nat → Prop) → World → Prop} {Q : Exit → Act → World → Prop} (h : St w0 w F K) (hg : o.guard = none) (x : Operand) (ho : o.op = .convert 9 37 x) (s : ByteArray) (hx : a.eval x = .string s) (hs : s.size ≤ 1000000)
    (hk : ∀ v w', St w0 w' F (fun D w => K D w ∧ Sl w D 1 v (sb s).length (u8s (sb s))) → wpList Tryz.prog ops Q rest (a.put o.dst v) w') : wpList Tryz.prog ops Q (o :: rest) a w := by
  obtain ⟨v, w', h1, h2, h3⟩ := run_conv_sb w s hs
  exact wpList_plain hg fun _ hK => opw_convw ho hx h1 (hK _ _ (hk v w' (h.ret h3 (stable_sl (by decide)) h2)))

set_option maxHeartbeats 1000000 in
theorem rtagged_any (s : ByteArray) (hs : s.size ≤ 1000000) (pv p : Value) (l : List Nat) (hb : Bytes l) (hl : l.length ≤ 10000000) (w0 : World) (D : Nat → Prop) (hpv : Sl w0 D 1 pv 1 [p]) (hp : Sl w0 D 1 p l.length (u8s l)) :
    Calls Tryz.prog 29 #[.string s, pv] w0 (Ret (fun x _ => x = .agg (u8s (sha3 (tagB s l))).toArray) w0) := by
  obtain ⟨A, c, rfl, _, _⟩ := hpv.shape
  obtain ⟨K, hk1, hk2, hS⟩ : ∃ K : (Nat → Prop) → World → Prop, (∀ D w, K D w → Sl w D 1 (.slice A 1 c) 1 [p]) ∧ (∀ D w, K D w → Sl w D 1 p l.length (u8s l)) ∧ St w0 w0 [] K := ⟨_, fun _ _ h => h.1, fun _ _ h => h.2, St.start ((stable_sl (by decide)).and (stable_sl (by decide))) (D := D) ⟨hpv, hp⟩⟩
  clear hp hpv
  have HK2 := Lib.hid hk2
  have hsl := Lib.hid (sb_len s)
  have hsl1 : (sb s).length ≤ 1000000 := by rw [hsl.out]; exact hs
  obtain ⟨T, hT, hTB⟩ : ∃ T, T = sb s ∧ Bytes T := ⟨_, rfl, sb_bytes s⟩
  have HTA := Lib.hid (show tagB s l = (putN T.length ++ T) ++ (putN l.length ++ l) by rw [hT]; rfl)
  have HR : ∀ (w : World) (D : Nat → Prop) (x : Value) , Sl w D 1 x (sb s).length (u8s (sb s)) → Calls Tryz.prog 59 #[x] w (Ret (fun x w' => OwnU w' w.heap.size x (putN T.length ++ T)) w) := fun w D x h => by
    rw [hT]; exact rputb_any x (sb s) (by omega) w D h
  have HRS := Lib.hid HR
  have hn1 := putN_len T.length
  have hn2 := putN_len l.length
  have hTl : T.length ≤ 1000000 := by rw [hT]; exact hsl1
  have HTB := Lib.hid hTB
  clear HR hT hTB hsl1
  have hS0 := hS.stable
  have HB3 := Lib.hid ((((putN_byte T.length).append HTB.out).append ((putN_byte l.length).append hb)))
  go_enter Tryz.func29, Tryz.ntmps29
  go_wp2_with (first
    | ((with_reducible show wpList _ _ _ (⟨some 4, _, _, _, _, _⟩ :: _) _ _); refine st_allocz hS rfl _ rfl (by kernel_rfl) (u8s (List.replicate 32 0)).toArray (by kernel_rfl) ?_; clear hS; intro g4 w_ hS; (try simp only [Act.put, Act.eval, List.set_cons_zero, List.set_cons_succ, List.setIfInBounds_toArray, Array.getD_eq_getD_getElem?, List.getElem?_toArray, List.getElem?_cons_succ, List.getElem?_cons_zero, Option.getD_some, Value.cells] at hS))
    | ((with_reducible show wpList _ _ _ (⟨some 9, _, _, _, _, _⟩ :: _) _ _); refine st_sconv hS rfl _ rfl s rfl hs ?_; clear hS; intro vs_ w_ hS; (try simp only [Act.put, Act.eval, List.set_cons_zero, List.set_cons_succ, List.setIfInBounds_toArray, Array.getD_eq_getD_getElem?, List.getElem?_toArray, List.getElem?_cons_succ, List.getElem?_cons_zero, Option.getD_some, Value.cells] at hS))
    | (go_at_call 59; refine (HRS.out _ _ _ hS.ro.2).mono ?_; rintro r_ w1 ⟨v1, rfl, h1, hb1⟩; replace hS := hS.owned hb1 h1; clear h1 hb1))
  replace hS := hS.mono (K' := K) hS0 fun _ _ h => h.1
  go_loopw [5, 13] (fun o i wr => ∃ (k : Nat) (ov : Value) (bs : List Nat), k ≤ 1 ∧ i = .int .i64 k ∧ o = ov ∧ Hid (bs = (putN T.length ++ T) ++ (if k = 0 then [] else putN l.length ++ l)) ∧ bs.length ≤ 2000000 + k * 11000000 ∧ St w0 wr [.own ov 5 1 bs.length (u8s bs), .box g4 27 (u8s (List.replicate 32 0)).toArray] K) (fun _ i _ => 1 - (intOf i).toNat)
  case atStart => exact ⟨0, v1, _, by omega, rfl, rfl, Lib.hid (by simp), by rw [List.length_append]; omega, hS⟩
  case round =>
    clear hS
    obtain ⟨k, ov, bs, hk, rfl, rfl, HBS, hbl, hS⟩ := hrel
    by_cases hlt : k < 1
    · obtain rfl : k = 0 := by omega
      have f1 : [p][0]? = some p := rfl
      go_wp2_with (first
        | ((with_reducible show wpList _ _ _ (⟨_, .binOp _ _ _ _ _, _, _, _, _⟩ :: _) _ _); (first | ((with_reducible show wpList _ _ _ (⟨_, .binOp .lss _ _ _ _, _, _, _, _⟩ :: _) _ _); refine st_lss rfl _ _ _ _ rfl _ _ _ rfl rfl (fun h_ => ?_) (fun h_ => ?_)) | ((with_reducible show wpList _ _ _ (⟨_, .binOp .leq _ _ _ _, _, _, _, _⟩ :: _) _ _); refine st_leq rfl _ _ _ _ rfl _ _ _ rfl rfl (fun h_ => ?_) (fun h_ => ?_)) | ((with_reducible show wpList _ _ _ (⟨_, .binOp .gtr _ _ _ _, _, _, _, _⟩ :: _) _ _); refine st_gtr rfl _ _ _ _ rfl _ _ _ rfl rfl (fun h_ => ?_) (fun h_ => ?_)) | ((with_reducible show wpList _ _ _ (⟨_, .binOp .geq _ _ _ _, _, _, _, _⟩ :: _) _ _); refine st_geq rfl _ _ _ _ rfl _ _ _ rfl rfl (fun h_ => ?_) (fun h_ => ?_)) | ((with_reducible show wpList _ _ _ (⟨_, .binOp .eql _ _ _ _, _, _, _, _⟩ :: _) _ _); refine st_eql rfl _ _ _ _ rfl _ _ _ rfl rfl (fun h_ => ?_) (fun h_ => ?_)) | ((with_reducible show wpList _ _ _ (⟨_, .binOp .neq _ _ _ _, _, _, _, _⟩ :: _) _ _); refine st_neq rfl _ _ _ _ rfl _ _ _ rfl rfl (fun h_ => ?_) (fun h_ => ?_))) <;> go_prune)
        | ((with_reducible show wpList _ _ _ (⟨_, .indexAddr _ _ _, _, _, _, _⟩ :: _) _ _); refine st_iaddr1 hS rfl _ _ _ rfl _ rfl rfl (by assumption) Tryz.underlying74 (by kernel_rfl) (by first | assumption | omega) _ (by assumption) ?_; intro p_ hc_)
        | (go_at_call 59; refine (rputb_any p l (by omega) _ _ (HK2.out _ _ hS.ro)).mono ?_; rintro r_ w2 ⟨v2, rfl, h2, hb2⟩; replace hS := hS.owned hb2 h2; clear h2 hb2)
        | ((with_reducible show wpList _ _ _ (⟨some 20, _, _, _, _, _⟩ :: _) _ _); refine st_app hS 1 rfl _ _ _ rfl ty_u8s _ _ _ rfl rfl _ _ _ _ rfl (Sl.of_own (hS.own 0 rfl)) (u8s_one _) (by rw [List.length_append]; unfold maxLen; omega) (by rw [List.length_append]; omega) ?_; clear hS; intro v_ w_ hS; (try simp only [Act.put, Act.eval, List.set_cons_zero, List.set_cons_succ, List.setIfInBounds_toArray, Array.getD_eq_getD_getElem?, List.getElem?_toArray, List.getElem?_cons_succ, List.getElem?_cons_zero, Option.getD_some, Value.cells] at hS)))
      replace hS := hS.sub (F' := [_, _]) (.cons _ (.refl _))
      refine ⟨⟨1, v_, bs ++ (putN l.length ++ l), Nat.le_refl _, rfl, rfl, Lib.hid (by rw [HBS.out]; simp), by rw [List.length_append, List.length_append]; omega, ?_⟩, by simp [intOf]⟩
      rw [show (bs ++ (putN l.length ++ l)).length = bs.length + (putN l.length ++ l).length from List.length_append, u8s_append bs]; exact hS
    · obtain rfl : k = 1 := by omega
      obtain ⟨L, hL, hLL, hLb⟩ : ∃ L, L = tagB s l ∧ bs = L ∧ Bytes L := ⟨_, rfl, by rw [HBS.out, HTA.out]; simp, by rw [HTA.out]; exact HB3.out⟩
      subst hLL
      have HL := Lib.hid hL
      have HLb := Lib.hid hLb
      have hSL : (sha3 bs).length = 32 := by simp [sha3, sumK]
      have HS3 := Lib.hid (fun (w : World) (D : Nat → Prop) (p : Value) (h : Sl w D 1 p bs.length (u8s bs)) => sum03_any p bs HLb.out (by omega) w D h)
      obtain ⟨R, hR⟩ : ∃ R, R = sha3 bs := ⟨_, rfl⟩
      rw [← hR] at HS3 hSL
      have HR := Lib.hid hR
      have hi32 : (Tryz.prog.info? 27).map (·.size) = some (u8s R).toArray.size := by rw [List.size_toArray, u8s_length, hSL]; kernel_rfl
      have HON := Lib.hid (show (u8s R).toArray.all (·.oneCell') = true from all_oneCell_toArray (u8s_one _))
      have HI := Lib.hid hi32
      have HOL := Lib.hid (show (u8s (List.replicate 32 0)).toArray.size = (u8s R).toArray.size by simp [u8s_length, hSL])
      clear hL hR hSL hi32 hLb
      go_wp2_with (first
        | ((with_reducible show wpList _ _ _ (⟨_, .binOp _ _ _ _ _, _, _, _, _⟩ :: _) _ _); (first | ((with_reducible show wpList _ _ _ (⟨_, .binOp .lss _ _ _ _, _, _, _, _⟩ :: _) _ _); refine st_lss rfl _ _ _ _ rfl _ _ _ rfl rfl (fun h_ => ?_) (fun h_ => ?_)) | ((with_reducible show wpList _ _ _ (⟨_, .binOp .leq _ _ _ _, _, _, _, _⟩ :: _) _ _); refine st_leq rfl _ _ _ _ rfl _ _ _ rfl rfl (fun h_ => ?_) (fun h_ => ?_)) | ((with_reducible show wpList _ _ _ (⟨_, .binOp .gtr _ _ _ _, _, _, _, _⟩ :: _) _ _); refine st_gtr rfl _ _ _ _ rfl _ _ _ rfl rfl (fun h_ => ?_) (fun h_ => ?_)) | ((with_reducible show wpList _ _ _ (⟨_, .binOp .geq _ _ _ _, _, _, _, _⟩ :: _) _ _); refine st_geq rfl _ _ _ _ rfl _ _ _ rfl rfl (fun h_ => ?_) (fun h_ => ?_)) | ((with_reducible show wpList _ _ _ (⟨_, .binOp .eql _ _ _ _, _, _, _, _⟩ :: _) _ _); refine st_eql rfl _ _ _ _ rfl _ _ _ rfl rfl (fun h_ => ?_) (fun h_ => ?_)) | ((with_reducible show wpList _ _ _ (⟨_, .binOp .neq _ _ _ _, _, _, _, _⟩ :: _) _ _); refine st_neq rfl _ _ _ _ rfl _ _ _ rfl rfl (fun h_ => ?_) (fun h_ => ?_))) <;> go_prune)
        | (go_at_call 60; refine (HS3.out _ _ _ (Sl.of_own (hS.own 0 rfl))).mono ?_; rintro r_ w2 ⟨v2, rfl, rfl, hb2⟩; replace hS := hS.ext hb2; clear hb2)
        | ((with_reducible show wpList _ _ _ (⟨_, .store 27 _ _, _, _, _, _⟩ :: _) _ _); refine st_store hS 1 rfl _ _ _ rfl g4 (u8s R).toArray rfl rfl _ _ rfl HI.out HOL.out HON.out ?_; clear hS; intro w_ hS; (try simp only [Act.put, Act.eval, List.set_cons_zero, List.set_cons_succ, List.setIfInBounds_toArray, Array.getD_eq_getD_getElem?, List.getElem?_toArray, List.getElem?_cons_succ, List.getElem?_cons_zero, Option.getD_some, Value.cells] at hS)))
      refine bodyPost_ret (v := .agg (u8s R).toArray) (by exact results_cell_row rfl _ _ g4 27 _ (0, 0) _ rfl (hS.box 1 rfl) Tryz.underlying27 rfl HI.out) rfl ?_
      exact Ret.mk (by rw [← HL.out, HR.out]) hS.below

theorem bytesC_len2 {c : CertD} (hs : Small c.cubes) (hp : c.prob.length = 32) : (bytesC c).length ≤ 4000000 :=
  bytesC_len (fun z hz => ⟨(small_set (hs z hz).1).1, (small_set (hs z hz).2).1⟩) hp
set_option maxHeartbeats 2000000 in
theorem rid_any (v : Value) (c : CertD) (w0 : World) (D : Nat → Prop) (hv : IsRCert w0 D v c) (hs : Small c.cubes) :
    Calls Tryz.prog 10 #[v] w0 (Ret (fun x _ => x = .agg (u8s (idC c)).toArray) w0) := by
  have HCk := Lib.hid (fun (w : World) (D' : Nat → Prop) (v : Value) (h : IsRCert w D' v c) => rcheck_any v c w D' h hs)
  have HBy := Lib.hid (fun (w : World) (D' : Nat → Prop) (v : Value) (h : IsRCert w D' v c) => rbytes36_any v c w D' h hs)
  obtain ⟨cs, rfl, hsz, hone⟩ := IsRCert.row hv
  have HL32 := Lib.hid (idC_len c)
  have HID := Lib.hid (show idC c = if checkC c = 0 then sha3 (tagB certTag (bytesC c)) else List.replicate 32 0 from rfl)
  obtain ⟨pv, qv, e, h32, hpb, hp, hq⟩ := id hv
  have hbl := bytesC_len2 hs h32
  have HBb := Lib.hid (bytesC_bytes (c := c) hpb)
  have HSz := Lib.hid (show (Tryz.prog.info? 30).map (·.size) = some cs.size by rw [hsz]; kernel_rfl)
  obtain ⟨K, hkc, hS⟩ : ∃ K : (Nat → Prop) → World → Prop, (∀ D w, K D w → IsRCert w D (.agg cs) c) ∧ St w0 w0 [] K := ⟨_, fun _ _ h => h, St.start stable_rcertE hv⟩
  have HK := Lib.hid hkc
  clear hv e hp hq hkc hsz h32 hpb
  generalize bytesC c = bs at *
  generalize checkC c = CK at *
  by_cases h0 : CK = 0
  · subst h0
    rw [if_pos rfl] at HID
    obtain ⟨R, hR⟩ : ∃ R, R = idC c := ⟨_, rfl⟩
    rw [← hR] at HL32 HID ⊢
    have HTg := Lib.hid (fun (w : World) (D : Nat → Prop) (pv p : Value) (h1 : Sl w D 1 pv 1 [p]) (h2 : Sl w D 1 p bs.length (u8s bs)) => by
      have := rtagged_any certTag (by decide) pv p bs HBb.out (by omega) w D h1 h2
      rw [← HID.out] at this; exact this)
    have hi32 : (Tryz.prog.info? 27).map (·.size) = some (u8s R).toArray.size := by rw [List.size_toArray, u8s_length, HL32.out]; kernel_rfl
    have HON := Lib.hid (show (u8s R).toArray.all (·.oneCell') = true from all_oneCell_toArray (u8s_one _))
    have HI := Lib.hid hi32
    have HOL := Lib.hid (show (u8s (List.replicate 32 0)).toArray.size = (u8s R).toArray.size by simp [u8s_length, HL32.out])
    clear hR hi32
    go_enter Tryz.func10, Tryz.ntmps10
    go_wp2_with (first
      | ((with_reducible show wpList _ _ _ (⟨some 1, _, _, _, _, _⟩ :: _) _ _); refine st_box hS rfl _ _ rfl (.agg cs) _ rfl rfl ?_; clear hS; intro g1 w_ hS; (try simp only [Act.put, Act.eval, List.set_cons_zero, List.set_cons_succ, List.setIfInBounds_toArray, Array.getD_eq_getD_getElem?, List.getElem?_toArray, List.getElem?_cons_succ, List.getElem?_cons_zero, Option.getD_some, Value.cells] at hS))
      | ((with_reducible show wpList _ _ _ (⟨some 2, _, _, _, _, _⟩ :: _) _ _); refine st_allocz hS rfl _ rfl (by kernel_rfl) (u8s (List.replicate 32 0)).toArray (by kernel_rfl) ?_; clear hS; intro g2 w_ hS; (try simp only [Act.put, Act.eval, List.set_cons_zero, List.set_cons_succ, List.setIfInBounds_toArray, Array.getD_eq_getD_getElem?, List.getElem?_toArray, List.getElem?_cons_succ, List.getElem?_cons_zero, Option.getD_some, Value.cells] at hS))
      | ((with_reducible show wpList _ _ _ (⟨_, .load 30 _, _, _, _, _⟩ :: _) _ _); refine st_load hS 1 rfl _ _ rfl g1 rfl _ cs rfl _ Tryz.underlying30 rfl HSz.out ?_)
      | (go_at_call 11; refine (HCk.out _ _ _ (HK.out _ _ hS.ro)).mono ?_; rintro r_ w2 ⟨_, rfl, rfl, hb2⟩; replace hS := hS.ext hb2; clear hb2)
      | ((with_reducible show wpList _ _ _ (⟨_, .binOp _ _ _ _ _, _, _, _, _⟩ :: _) _ _); (first | ((with_reducible show wpList _ _ _ (⟨_, .binOp .lss _ _ _ _, _, _, _, _⟩ :: _) _ _); refine st_lss rfl _ _ _ _ rfl _ _ _ rfl rfl (fun h_ => ?_) (fun h_ => ?_)) | ((with_reducible show wpList _ _ _ (⟨_, .binOp .leq _ _ _ _, _, _, _, _⟩ :: _) _ _); refine st_leq rfl _ _ _ _ rfl _ _ _ rfl rfl (fun h_ => ?_) (fun h_ => ?_)) | ((with_reducible show wpList _ _ _ (⟨_, .binOp .gtr _ _ _ _, _, _, _, _⟩ :: _) _ _); refine st_gtr rfl _ _ _ _ rfl _ _ _ rfl rfl (fun h_ => ?_) (fun h_ => ?_)) | ((with_reducible show wpList _ _ _ (⟨_, .binOp .geq _ _ _ _, _, _, _, _⟩ :: _) _ _); refine st_geq rfl _ _ _ _ rfl _ _ _ rfl rfl (fun h_ => ?_) (fun h_ => ?_)) | ((with_reducible show wpList _ _ _ (⟨_, .binOp .eql _ _ _ _, _, _, _, _⟩ :: _) _ _); refine st_eql rfl _ _ _ _ rfl _ _ _ rfl rfl (fun h_ => ?_) (fun h_ => ?_)) | ((with_reducible show wpList _ _ _ (⟨_, .binOp .neq _ _ _ _, _, _, _, _⟩ :: _) _ _); refine st_neq rfl _ _ _ _ rfl _ _ _ rfl rfl (fun h_ => ?_) (fun h_ => ?_))) <;> go_prune)
      | (go_at_call 8; refine (HBy.out _ _ _ (HK.out _ _ hS.ro)).mono ?_; rintro r_ w2 ⟨v2, rfl, h2, hb2⟩; replace hS := (hS.owned hb2 h2).freeze 0 (by decide) rfl; obtain ⟨A2, c2, rfl, _, _⟩ := Sl.shape hS.ro.2; clear h2 hb2)
      | ((with_reducible show wpList _ _ _ (⟨_, .buildSlice _ 1 _, _, _, _, _⟩ :: _) _ _); refine st_litown hS rfl _ 37 1 _ rfl Tryz.underlying74 #[.slice A2 bs.length c2] (by kernel_rfl) 1 rfl (by decide) ?_; clear hS; intro g w_ hS; replace hS := hS.freeze 0 (by decide) rfl)
      | (go_at_call 29; refine (HTg.out _ _ _ _ hS.ro.2 hS.ro.1.2).mono ?_; rintro r_ w2 ⟨v2, rfl, rfl, hb2⟩; replace hS := hS.ext hb2; clear hb2)
      | ((with_reducible show wpList _ _ _ (⟨_, .store 27 _ _, _, _, _, _⟩ :: _) _ _); refine st_store hS 0 rfl _ _ _ rfl g2 (u8s R).toArray rfl rfl _ _ rfl HI.out HOL.out HON.out ?_; clear hS; intro w_ hS; (try simp only [Act.put, Act.eval, List.set_cons_zero, List.set_cons_succ, List.setIfInBounds_toArray, Array.getD_eq_getD_getElem?, List.getElem?_toArray, List.getElem?_cons_succ, List.getElem?_cons_zero, Option.getD_some, Value.cells] at hS)))
    refine bodyPost_ret (v := .agg (u8s R).toArray) (by exact results_cell_row rfl _ _ g2 27 _ (0, 0) _ rfl (hS.box 0 rfl) Tryz.underlying27 rfl HI.out) rfl ?_
    exact Ret.mk rfl hS.below
  · rw [if_neg h0] at HID
    rw [HID.out]
    have hi32 : (Tryz.prog.info? 27).map (·.size) = some (u8s (List.replicate 32 0)).toArray.size := by kernel_rfl
    go_enter Tryz.func10, Tryz.ntmps10
    go_wp2_with (first
      | ((with_reducible show wpList _ _ _ (⟨some 1, _, _, _, _, _⟩ :: _) _ _); refine st_box hS rfl _ _ rfl (.agg cs) _ rfl rfl ?_; clear hS; intro g1 w_ hS; (try simp only [Act.put, Act.eval, List.set_cons_zero, List.set_cons_succ, List.setIfInBounds_toArray, Array.getD_eq_getD_getElem?, List.getElem?_toArray, List.getElem?_cons_succ, List.getElem?_cons_zero, Option.getD_some, Value.cells] at hS))
      | ((with_reducible show wpList _ _ _ (⟨some 2, _, _, _, _, _⟩ :: _) _ _); refine st_allocz hS rfl _ rfl (by kernel_rfl) (u8s (List.replicate 32 0)).toArray (by kernel_rfl) ?_; clear hS; intro g2 w_ hS; (try simp only [Act.put, Act.eval, List.set_cons_zero, List.set_cons_succ, List.setIfInBounds_toArray, Array.getD_eq_getD_getElem?, List.getElem?_toArray, List.getElem?_cons_succ, List.getElem?_cons_zero, Option.getD_some, Value.cells] at hS))
      | ((with_reducible show wpList _ _ _ (⟨_, .load 30 _, _, _, _, _⟩ :: _) _ _); refine st_load hS 1 rfl _ _ rfl g1 rfl _ cs rfl _ Tryz.underlying30 rfl HSz.out ?_)
      | (go_at_call 11; refine (HCk.out _ _ _ (HK.out _ _ hS.ro)).mono ?_; rintro r_ w2 ⟨_, rfl, rfl, hb2⟩; replace hS := hS.ext hb2; clear hb2)
      | ((with_reducible show wpList _ _ _ (⟨_, .binOp _ _ _ _ _, _, _, _, _⟩ :: _) _ _); (first | ((with_reducible show wpList _ _ _ (⟨_, .binOp .lss _ _ _ _, _, _, _, _⟩ :: _) _ _); refine st_lss rfl _ _ _ _ rfl _ _ _ rfl rfl (fun h_ => ?_) (fun h_ => ?_)) | ((with_reducible show wpList _ _ _ (⟨_, .binOp .leq _ _ _ _, _, _, _, _⟩ :: _) _ _); refine st_leq rfl _ _ _ _ rfl _ _ _ rfl rfl (fun h_ => ?_) (fun h_ => ?_)) | ((with_reducible show wpList _ _ _ (⟨_, .binOp .gtr _ _ _ _, _, _, _, _⟩ :: _) _ _); refine st_gtr rfl _ _ _ _ rfl _ _ _ rfl rfl (fun h_ => ?_) (fun h_ => ?_)) | ((with_reducible show wpList _ _ _ (⟨_, .binOp .geq _ _ _ _, _, _, _, _⟩ :: _) _ _); refine st_geq rfl _ _ _ _ rfl _ _ _ rfl rfl (fun h_ => ?_) (fun h_ => ?_)) | ((with_reducible show wpList _ _ _ (⟨_, .binOp .eql _ _ _ _, _, _, _, _⟩ :: _) _ _); refine st_eql rfl _ _ _ _ rfl _ _ _ rfl rfl (fun h_ => ?_) (fun h_ => ?_)) | ((with_reducible show wpList _ _ _ (⟨_, .binOp .neq _ _ _ _, _, _, _, _⟩ :: _) _ _); refine st_neq rfl _ _ _ _ rfl _ _ _ rfl rfl (fun h_ => ?_) (fun h_ => ?_))) <;> go_prune)
      | ((with_reducible show wpList _ _ _ (⟨_, .store 27 _ _, _, _, _, _⟩ :: _) _ _); refine st_store hS 0 rfl _ _ _ rfl g2 (u8s (List.replicate 32 0)).toArray rfl rfl _ _ rfl hi32 rfl (by kernel_rfl) ?_; clear hS; intro w_ hS; (try simp only [Act.put, Act.eval, List.set_cons_zero, List.set_cons_succ, List.setIfInBounds_toArray, Array.getD_eq_getD_getElem?, List.getElem?_toArray, List.getElem?_cons_succ, List.getElem?_cons_zero, Option.getD_some, Value.cells] at hS)))
    refine bodyPost_ret (v := .agg (u8s (List.replicate 32 0)).toArray) (by exact results_cell_row rfl _ _ g2 27 _ (0, 0) _ rfl (hS.box 0 rfl) Tryz.underlying27 rfl hi32) rfl ?_
    exact Ret.mk rfl hS.below
theorem putSet_len64 {N : Nat} (h : N < T64) : (putSet N).length ≤ 19 := by
  have h1 : (setBytes N).length ≤ 8 := by
    by_cases h0 : N = 0
    · subst h0; simp [setBytes]
    · have := (small_set h).2 h0
      rw [setBytes_byB h0]; simp [byB]; omega
  have := putN_len (setBytes N).length
  simp only [putSet, List.length_append]; omega
theorem flat_len64 (l : List (Nat × Nat)) (h : Small l) : (l.flatMap fun z => putCube z.1 z.2).length ≤ 38 * l.length := by
  induction l with
  | nil => simp
  | cons z r ih =>
    have h1 := h z (by simp)
    have h2 := putSet_len64 h1.1
    have h3 := putSet_len64 h1.2
    have h4 := ih fun y hy => h y (by simp [hy])
    have h5 : (putCube z.1 z.2).length ≤ 38 := by simp only [putCube, List.length_append]; omega
    simp only [List.flatMap_cons, List.length_append, List.length_cons]
    omega
theorem bytesC_len64 {c : CertD} (hs : Small c.cubes) (hp : c.prob.length = 32) : (bytesC c).length ≤ 1000000 := by
  unfold bytesC
  split
  · rename_i hc
    have h0 := plan_ok hc
    have h1 := flat_len64 c.cubes hs
    have h2 := putN_len c.cubes.length
    have h3 := putN_len c.plan.length
    have h4 := plan_len c.plan
    have h5 : (putFlag c.reach).length = 1 := by unfold putFlag; split <;> rfl
    simp only [putCubes, List.length_append]
    omega
  · simp
theorem str_neq {a b : ByteArray} (h : (a.toList == b.toList) = true) (w : World) : (binOp .neq 9 (.string a) (.string b)).run Tryz.prog w = .ok (.bool false) w := by
  have h2 : (a.toList != b.toList) = false := by rw [bne, h]; rfl
  go_simp
theorem fit_of {x : RawCert} (hx : x.ok) (h : checkC (makeC x) = 0) : Fit (makeC x) := by
  obtain ⟨h1, h2, h3⟩ := plan_ok h
  exact ⟨h, (makeC_prob hx).1, (makeC_prob hx).2, ⟨h1, fun k hk => by have := h3 k hk; omega⟩, h2, makeC_small hx⟩
theorem readC_back {c : CertD} (h : Fit c) : readC (bytesC c) = (c, 0) := by
  have := h.parse []
  rw [List.append_nil] at this
  rw [readC, this, if_pos ⟨rfl, h.1⟩]

set_option maxHeartbeats 4000000 in
theorem certbytes_any (u : Value) (x : RawCert) (hx : x.ok) (w0 : World) (hT : Tab w0) (hDT : DTab w0) (D : Nat → Prop) (hu : IsRaw w0 D u x) :
    Calls Tryz.prog 3 #[u] w0 (Ret (fun r _ => r = .bool true) w0) := by
  obtain ⟨pv, qv, rfl, hp, hq⟩ := id hu
  have hS := St.start0 (w := w0)
  obtain ⟨c, hc⟩ : ∃ c, c = makeC x := ⟨_, rfl⟩
  have HSc := Lib.hid (show Small c.cubes ∧ c.plan.length ≤ 1000000 ∧ c.cubes.length ≤ 1000000 by rw [hc]; exact ⟨makeC_small hx, makeC_len x⟩)
  have HCx : ∀ (v : Value) (wa w' : World), (∃ pv qv, v = .agg (cc (makeC x).prob (makeC x).reach pv qv) ∧ Sl w' (wa.heap.size ≤ ·) 1 pv (makeC x).plan.length (ints (makeC x).plan) ∧ RCubes w' (wa.heap.size ≤ ·) qv (makeC x).cubes) → IsRCert w' (fun b => wa.heap.size ≤ b ∧ b < w'.heap.size) v c := fun v wa w' h => by rw [hc]; exact rc_of hx h
  have hPr : c.prob.length = 32 ∧ Bytes c.prob := by rw [hc]; exact makeC_prob hx
  have HFit := Lib.hid (show checkC c = 0 → Fit c by rw [hc]; exact fit_of hx)
  obtain ⟨bs, hbs⟩ : ∃ bs, bs = bytesC c := ⟨_, rfl⟩
  have HBb := Lib.hid (show Bytes bs by rw [hbs]; exact bytesC_bytes hPr.2)
  have hbl : bs.length ≤ 1000000 := by rw [hbs]; exact bytesC_len64 HSc.out.1 hPr.1
  have HBS := Lib.hid hbs
  have HCB := Lib.hid (fun (w : World) (D : Nat → Prop) (v : Value) (h : IsCert w D v c) => by have := cbytes_any v c w D h; rw [← hbs] at this; exact this)
  have HRB := Lib.hid (fun (w : World) (D : Nat → Prop) (v : Value) (h : IsRCert w D v c) => by have := rbytes36_any v c w D h HSc.out.1; rw [← hbs] at this; exact this)
  have HCI := Lib.hid (fun (w : World) (D : Nat → Prop) (v : Value) (hT : Tab w) (h : IsCert w D v c) => cid_any v c w D hT h)
  have HRI := Lib.hid (fun (w : World) (D : Nat → Prop) (v : Value) (h : IsRCert w D v c) => rid_any v c w D h HSc.out.1)
  have HIL := Lib.hid (idC_len c)
  generalize idC c = ID at *
  have HU := Lib.hid hu
  have HT := Lib.hid hT
  have HDT := Lib.hid hDT
  have HX := Lib.hid hx
  replace HCx := Lib.hid HCx
  clear hc hu hT hDT hx hbs hPr hp hq
  go_enter Tryz.func3, Tryz.ntmps3
  go_wp2_with (first
    | ((with_reducible show wpList _ _ _ (⟨some 1, _, _, _, _, _⟩ :: _) _ _); refine st_box hS rfl _ _ rfl (.agg #[.int .u8 (x.prob : Nat), .int .u8 (x.odd : Nat), .bool x.reach, pv, qv]) _ rfl rfl ?_; clear hS; intro g1 w_ hS; (try simp only [Act.put, Act.eval, List.set_cons_zero, List.set_cons_succ, List.setIfInBounds_toArray, Array.getD_eq_getD_getElem?, List.getElem?_toArray, List.getElem?_cons_succ, List.getElem?_cons_zero, Option.getD_some, Value.cells] at hS))
    | ((with_reducible show wpList _ _ _ (⟨_, .load _ _, _, _, _, _⟩ :: _) _ _); first | refine st_load hS 0 rfl _ _ rfl _ rfl _ _ rfl _ Tryz.underlying25 rfl (by kernel_rfl) ?_ | refine st_load hS 1 rfl _ _ rfl _ rfl _ _ rfl _ Tryz.underlying25 rfl (by kernel_rfl) ?_ | refine st_load hS 2 rfl _ _ rfl _ rfl _ _ rfl _ Tryz.underlying25 rfl (by kernel_rfl) ?_ | refine st_load hS 3 rfl _ _ rfl _ rfl _ _ rfl _ Tryz.underlying25 rfl (by kernel_rfl) ?_)
    | (go_at_call 4; refine (awake_any _ (HT.out.ext hS.below)).mono ?_; rintro e w3 ⟨_, rfl, rfl, hb3⟩; replace hS := hS.ext hb3; clear hb3)
    | (go_at_call 5; refine (rmake_any _ x HX.out _ D (IsRaw.ext HU.out hS.below)).mono ?_; rintro e w4 ⟨v4, rfl, h4, hb4⟩; replace h4 := HCx.out _ _ _ h4; obtain ⟨A, rfl, sA, oA⟩ := IsRCert.row h4; have SA := Lib.hid sA; have OA := Lib.hid oA; replace hS := hS.ret hb4 stable_rcertE (h4.imp fun b h _ => h.1); clear h4 hb4 sA oA)
    | ((with_reducible show wpList _ _ _ (⟨some 3, _, _, _, _, _⟩ :: _) _ _); refine st_alloc hS rfl _ rfl (by kernel_rfl) ?_; clear hS; intro g3 w_ hS)
    | ((with_reducible show wpList _ _ _ (⟨_, .store 30 _ _, _, _, _, _⟩ :: _) _ _); refine st_store hS 0 rfl _ _ _ rfl g3 A rfl rfl _ _ rfl (by rw [SA.out]; kernel_rfl) (by rw [SA.out]; kernel_rfl) OA.out ?_; clear hS; intro w_ hS; simp only [List.set_cons_zero] at hS)
    | ((with_reducible show wpList _ _ _ (⟨some 12, _, _, _, _, _⟩ :: _) _ _); refine st_load hS 0 rfl _ _ rfl g3 rfl _ A rfl _ Tryz.underlying30 rfl (by rw [SA.out]; kernel_rfl) ?_)
    | (go_at_call 6; refine (lcert_any (.agg A) c _ _ hS.ro.2 HSc.out.1 HSc.out.2.1 HSc.out.2.2).mono ?_; rintro e w5 ⟨v5, rfl, h5, hb5⟩; obtain ⟨B, rfl, sB, oB⟩ := IsCert.row h5; have SB := Lib.hid sB; have OB := Lib.hid oB; replace hS := hS.ret hb5 stable_cert h5; clear h5 hb5 sB oB)
    | ((with_reducible show wpList _ _ _ (⟨some 4, _, _, _, _, _⟩ :: _) _ _); refine st_alloc hS rfl _ rfl (by kernel_rfl) ?_; clear hS; intro g4 w_ hS)
    | ((with_reducible show wpList _ _ _ (⟨_, .store 35 _ _, _, _, _, _⟩ :: _) _ _); refine st_store hS 0 rfl _ _ _ rfl g4 B rfl rfl _ _ rfl (by rw [SB.out]; kernel_rfl) (by rw [SB.out]; kernel_rfl) OB.out ?_; clear hS; intro w_ hS; simp only [List.set_cons_zero] at hS)
    | ((with_reducible show wpList _ _ _ (⟨some 14, _, _, _, _, _⟩ :: _) _ _); refine st_load hS 0 rfl _ _ rfl g4 rfl _ B rfl _ Tryz.underlying35 rfl (by rw [SB.out]; kernel_rfl) ?_)
    | (go_at_call 7; refine (HCB.out _ _ _ hS.ro.2).mono ?_; rintro e w6 ⟨v6, rfl, h6, hb6⟩; replace hS := hS.ret hb6 (stable_sl (by decide)) h6; obtain ⟨A6, c6, rfl, _, _⟩ := h6.shape; clear h6 hb6)
    | ((with_reducible show wpList _ _ _ (⟨_, .binOp _ _ _ _ _, _, _, _, _⟩ :: _) _ _); (first | ((with_reducible show wpList _ _ _ (⟨_, .binOp .lss _ _ _ _, _, _, _, _⟩ :: _) _ _); refine st_lss rfl _ _ _ _ rfl _ _ _ rfl rfl (fun h_ => ?_) (fun h_ => ?_)) | ((with_reducible show wpList _ _ _ (⟨_, .binOp .leq _ _ _ _, _, _, _, _⟩ :: _) _ _); refine st_leq rfl _ _ _ _ rfl _ _ _ rfl rfl (fun h_ => ?_) (fun h_ => ?_)) | ((with_reducible show wpList _ _ _ (⟨_, .binOp .gtr _ _ _ _, _, _, _, _⟩ :: _) _ _); refine st_gtr rfl _ _ _ _ rfl _ _ _ rfl rfl (fun h_ => ?_) (fun h_ => ?_)) | ((with_reducible show wpList _ _ _ (⟨_, .binOp .geq _ _ _ _, _, _, _, _⟩ :: _) _ _); refine st_geq rfl _ _ _ _ rfl _ _ _ rfl rfl (fun h_ => ?_) (fun h_ => ?_)) | ((with_reducible show wpList _ _ _ (⟨_, .binOp .eql _ _ _ _, _, _, _, _⟩ :: _) _ _); refine st_eql rfl _ _ _ _ rfl _ _ _ rfl rfl (fun h_ => ?_) (fun h_ => ?_)) | ((with_reducible show wpList _ _ _ (⟨_, .binOp .neq _ _ _ _, _, _, _, _⟩ :: _) _ _); refine st_neq rfl _ _ _ _ rfl _ _ _ rfl rfl (fun h_ => ?_) (fun h_ => ?_))) <;> go_prune))
  have HCV := Lib.hid (fun (w : World) (D : Nat → Prop) (v : Value) (h : Sl w D 1 v bs.length (u8s bs)) => conv_sl h HBb.out)
  have hse : ((strOf bs).toList == (strOf bs).toList) = true := by simp
  generalize strOf bs = sP at *
  have HSE := Lib.hid hse
  clear hse
  have KS := hS.stable
  refine wp_region_typed (fun i v w => match i with
    | 0 => v = .slice A6 bs.length c6
    | 1 => v = .string sP
    | 2 => v = .agg A
    | 3 => Sl w (fun _ => True) 1 v bs.length (u8s bs)
    | 4 => v = .string sP
    | 5 => v = .bool false
    | 6 => v = .bool false
    | 7 => v = .agg B
    | 8 => v = .agg (u8s ID).toArray
    | 9 => v = .agg A
    | 10 => v = .agg (u8s ID).toArray
    | 11 => v = .bool false
    | 12 => v = .bool false
    | _ => True) (by kernel_rfl) (by kernel_rfl) ?mono ⟨?r0, ?r1, ?r2, ?r3, ?r4, ?r5, ?r6, ?r7, ?r8, ?r9, ?r10, ?r11, ?r12, trivial⟩ ?post
  case mono =>
    intro i v w w' h hb
    match i, h with
    | 0, h => exact h
    | 1, h => exact h
    | 2, h => exact h
    | 3, h => exact h.ext hb
    | 4, h => exact h
    | 5, h => exact h
    | 6, h => exact h
    | 7, h => exact h
    | 8, h => exact h
    | 9, h => exact h
    | 10, h => exact h
    | 11, h => exact h
    | 12, h => exact h
    | _ + 13, h => trivial
  case r0 =>
    refine trule fun b w hW hold hpre => ⟨fun hwant K hK => ?_, fun hwant => ?_⟩
    · clear hwant
      have e5 : b.eval (.tmp 5) = .slice A6 bs.length c6 := (hold 5 (by kernel_rfl)).trans rfl
      exact opw_move rfl e5 (hK _ _ rfl (Below.refl _ _))
    · rw [want_none rfl] at hwant; cases hwant
  case r1 =>
    refine trule fun b w hW hold hpre => ⟨fun hwant K hK => ?_, fun hwant => ?_⟩
    · clear hwant
      have e16 : b.eval (.tmp 16) = .slice A6 bs.length c6 := hpre ⟨0, _⟩ (Array.mem_of_getElem? (i := 0) rfl) rfl _ _ rfl rfl
      exact opw_conv rfl e16 (HCV.out w _ _ (hS.ext (undrew hW)).ro.2) (hK _ _ rfl (Below.refl _ _))
    · rw [want_none rfl] at hwant; cases hwant
  case r2 =>
    refine trule fun b w hW hold hpre => ⟨fun hwant K hK => ?_, fun hwant => ?_⟩
    · clear hwant
      have e3 : b.eval (.tmp 3) = .pointer (some ⟨g3, 0, none⟩) := (hold 3 (by kernel_rfl)).trans rfl
      exact opw_row rfl e3 ((hS.ext (undrew hW)).box 1 rfl) Tryz.underlying30 rfl (by rw [SA.out]; kernel_rfl) (hK _ _ rfl (Below.refl _ _))
    · rw [want_none rfl] at hwant; cases hwant
  case r3 =>
    refine trule fun b w hW hold hpre => ⟨fun hwant K hK => ?_, fun hwant => ?_⟩
    · clear hwant
      have e18 : b.eval (.tmp 18) = .agg A := hpre ⟨2, _⟩ (Array.mem_of_getElem? (i := 0) rfl) rfl _ _ rfl rfl
      exact opw_call rfl (by kernel_rfl) (by simp [e18]) (HRB.out w _ _ (hS.ext (undrew hW)).ro.1.1.2) fun v w' h hb => hK v w' ((OwnU.sl h).imp fun _ _ _ => trivial) hb
    · rw [want_none rfl] at hwant; cases hwant
  case r4 =>
    refine trule fun b w hW hold hpre => ⟨fun hwant K hK => ?_, fun hwant => ?_⟩
    · clear hwant
      have e19 : (fun (v : Value) (w : World) => Sl w (fun _ => True) 1 v bs.length (u8s bs)) (b.eval (.tmp 19)) w := hpre ⟨3, _⟩ (Array.mem_of_getElem? (i := 0) rfl) rfl _ _ rfl rfl
      exact opw_conv rfl rfl (HCV.out w _ _ e19) (hK _ _ rfl (Below.refl _ _))
    · rw [want_none rfl] at hwant; cases hwant
  case r5 =>
    refine trule fun b w hW hold hpre => ⟨fun hwant K hK => ?_, fun hwant => ?_⟩
    · clear hwant
      have e17 : b.eval (.tmp 17) = .string sP := hpre ⟨1, _⟩ (Array.mem_of_getElem? (i := 0) rfl) rfl _ _ rfl rfl
      have e20 : b.eval (.tmp 20) = .string sP := hpre ⟨4, _⟩ (Array.mem_of_getElem? (i := 1) rfl) rfl _ _ rfl rfl
      exact opw_bin rfl e17 e20 rfl (str_neq HSE.out w) (hK _ _ rfl (Below.refl _ _))
    · rw [want_none rfl] at hwant; cases hwant
  case r6 =>
    refine trule fun b w hW hold hpre => ⟨fun hwant K hK => ?_, fun hwant => ?_⟩
    · clear hwant
      have e21 : b.eval (.tmp 21) = .bool false := hpre ⟨5, _⟩ (Array.mem_of_getElem? (i := 0) rfl) rfl _ _ rfl rfl
      exact opw_move rfl e21 (hK _ _ rfl (Below.refl _ _))
    · rw [want_none rfl] at hwant; cases hwant
  case r7 =>
    refine trule fun b w hW hold hpre => ⟨fun hwant K hK => ?_, fun hwant => ?_⟩
    · clear hwant
      have e4 : b.eval (.tmp 4) = .pointer (some ⟨g4, 0, none⟩) := (hold 4 (by kernel_rfl)).trans rfl
      exact opw_row rfl e4 ((hS.ext (undrew hW)).box 0 rfl) Tryz.underlying35 rfl (by rw [SB.out]; kernel_rfl) (hK _ _ rfl (Below.refl _ _))
    · rw [want_some rfl rfl rfl (show b.eval (.tmp 22) = .bool false from (hpre ⟨6, _⟩ (Array.mem_of_getElem? (i := 0) rfl) rfl _ _ rfl rfl))] at hwant; cases hwant
  case r8 =>
    refine trule fun b w hW hold hpre => ⟨fun hwant K hK => ?_, fun hwant => ?_⟩
    · clear hwant
      have e23 : b.eval (.tmp 23) = .agg B := hpre ⟨7, _⟩ (Array.mem_of_getElem? (i := 0) rfl) rfl _ _ rfl rfl
      exact opw_call rfl (by kernel_rfl) (by simp [e23]) (HCI.out w _ _ (HT.out.ext (bel_tr hS.below (undrew hW))) (hS.ext (undrew hW)).ro.1.2) fun v w' h hb => hK v w' h hb
    · rw [want_some rfl rfl rfl (show b.eval (.tmp 22) = .bool false from (hpre ⟨6, _⟩ (Array.mem_of_getElem? (i := 1) rfl) rfl _ _ rfl rfl))] at hwant; cases hwant
  case r9 =>
    refine trule fun b w hW hold hpre => ⟨fun hwant K hK => ?_, fun hwant => ?_⟩
    · clear hwant
      have e3 : b.eval (.tmp 3) = .pointer (some ⟨g3, 0, none⟩) := (hold 3 (by kernel_rfl)).trans rfl
      exact opw_row rfl e3 ((hS.ext (undrew hW)).box 1 rfl) Tryz.underlying30 rfl (by rw [SA.out]; kernel_rfl) (hK _ _ rfl (Below.refl _ _))
    · rw [want_some rfl rfl rfl (show b.eval (.tmp 22) = .bool false from (hpre ⟨6, _⟩ (Array.mem_of_getElem? (i := 0) rfl) rfl _ _ rfl rfl))] at hwant; cases hwant
  case r10 =>
    refine trule fun b w hW hold hpre => ⟨fun hwant K hK => ?_, fun hwant => ?_⟩
    · clear hwant
      have e25 : b.eval (.tmp 25) = .agg A := hpre ⟨9, _⟩ (Array.mem_of_getElem? (i := 0) rfl) rfl _ _ rfl rfl
      exact opw_call rfl (by kernel_rfl) (by simp [e25]) (HRI.out w _ _ (hS.ext (undrew hW)).ro.1.1.2) fun v w' h hb => hK v w' h hb
    · rw [want_some rfl rfl rfl (show b.eval (.tmp 22) = .bool false from (hpre ⟨6, _⟩ (Array.mem_of_getElem? (i := 2) rfl) rfl _ _ rfl rfl))] at hwant; cases hwant
  case r11 =>
    refine trule fun b w hW hold hpre => ⟨fun hwant K hK => ?_, fun hwant => ?_⟩
    · clear hwant
      have e24 : b.eval (.tmp 24) = .agg (u8s ID).toArray := hpre ⟨8, _⟩ (Array.mem_of_getElem? (i := 0) rfl) rfl _ _ rfl rfl
      have e26 : b.eval (.tmp 26) = .agg (u8s ID).toArray := hpre ⟨10, _⟩ (Array.mem_of_getElem? (i := 1) rfl) rfl _ _ rfl rfl
      exact opw_bin rfl e24 e26 rfl (by have := neq_id w ID ID HIL.out HIL.out; simpa using this) (hK _ _ rfl (Below.refl _ _))
    · rw [want_some rfl rfl rfl (show b.eval (.tmp 22) = .bool false from (hpre ⟨6, _⟩ (Array.mem_of_getElem? (i := 2) rfl) rfl _ _ rfl rfl))] at hwant; cases hwant
  case r12 =>
    refine trule fun b w hW hold hpre => ⟨fun hwant K hK => ?_, fun hwant => ?_⟩
    · clear hwant
      have e22 : b.eval (.tmp 22) = .bool false := hpre ⟨6, _⟩ (Array.mem_of_getElem? (i := 0) rfl) rfl _ _ rfl rfl
      have e27 : b.eval (.tmp 27) = .bool false := hpre ⟨11, _⟩ (Array.mem_of_getElem? (i := 1) rfl) rfl _ _ rfl rfl
      exact opw_pick rfl e22 e27 (hK _ _ rfl (Below.refl _ _))
    · rw [want_none rfl] at hwant; cases hwant
  case post =>
    intro b wz hW hdf hsz hold hT
    have e16 : b.eval (.tmp 16) = .slice A6 bs.length c6 := hT 0 _ 16 rfl rfl
    have e17 : b.eval (.tmp 17) = .string sP := hT 1 _ 17 rfl rfl
    have e18 : b.eval (.tmp 18) = .agg A := hT 2 _ 18 rfl rfl
    have e19 : (fun (v : Value) (w : World) => Sl w (fun _ => True) 1 v bs.length (u8s bs)) (b.eval (.tmp 19)) wz := hT 3 _ 19 rfl rfl
    have e20 : b.eval (.tmp 20) = .string sP := hT 4 _ 20 rfl rfl
    have e21 : b.eval (.tmp 21) = .bool false := hT 5 _ 21 rfl rfl
    have e22 : b.eval (.tmp 22) = .bool false := hT 6 _ 22 rfl rfl
    have e23 : b.eval (.tmp 23) = .agg B := hT 7 _ 23 rfl rfl
    have e24 : b.eval (.tmp 24) = .agg (u8s ID).toArray := hT 8 _ 24 rfl rfl
    have e25 : b.eval (.tmp 25) = .agg A := hT 9 _ 25 rfl rfl
    have e26 : b.eval (.tmp 26) = .agg (u8s ID).toArray := hT 10 _ 26 rfl rfl
    have e27 : b.eval (.tmp 27) = .bool false := hT 11 _ 27 rfl rfl
    have e28 : b.eval (.tmp 28) = .bool false := hT 12 _ 28 rfl rfl
    obtain ⟨vs, hvs, hb⟩ := frame_of hdf hsz hold
    replace e16 : vs 16 = .slice A6 bs.length c6 := (hvs 16).symm.trans e16
    replace e17 : vs 17 = .string sP := (hvs 17).symm.trans e17
    replace e18 : vs 18 = .agg A := (hvs 18).symm.trans e18
    replace e19 := (hvs 19) ▸ e19
    replace e20 : vs 20 = .string sP := (hvs 20).symm.trans e20
    replace e21 : vs 21 = .bool false := (hvs 21).symm.trans e21
    replace e22 : vs 22 = .bool false := (hvs 22).symm.trans e22
    replace e23 : vs 23 = .agg B := (hvs 23).symm.trans e23
    replace e24 : vs 24 = .agg (u8s ID).toArray := (hvs 24).symm.trans e24
    replace e25 : vs 25 = .agg A := (hvs 25).symm.trans e25
    replace e26 : vs 26 = .agg (u8s ID).toArray := (hvs 26).symm.trans e26
    replace e27 : vs 27 = .bool false := (hvs 27).symm.trans e27
    replace e28 : vs 28 = .bool false := (hvs 28).symm.trans e28
    subst hb
    clear hvs hold hT hdf hsz
    simp only [setAll, Act.put, List.setIfInBounds_toArray, List.set_cons_zero, List.set_cons_succ, List.getElem_toArray, List.getElem_cons_succ, List.getElem_cons_zero]
    replace hS := hS.ext hW
    clear hW
    have HCK := Lib.hid (fun (w : World) (D : Nat → Prop) (v : Value) (h : IsRCert w D v c) => rcheck_any v c w D h HSc.out.1)
    have HB0 := Lib.hid (show ¬ checkC c = 0 → bs.length = 0 from fun h => by rw [HBS.out, bytesC, if_neg h]; rfl)
    obtain ⟨CK, hCK⟩ : ∃ CK, CK = checkC c := ⟨_, rfl⟩
    rw [← hCK] at HCK HFit HB0
    clear hCK
    by_cases h0 : CK = 0
    · subst h0
      have hRB := readC_back (HFit.out rfl)
      rw [← HBS.out] at hRB
      have HRBK := Lib.hid hRB
      clear hRB
      go_wp2_with (first
        | ((with_reducible show wpList _ _ _ (⟨some 29, _, _, _, _, _⟩ :: _) _ _); refine st_load hS 1 rfl _ _ rfl g3 rfl _ A rfl _ Tryz.underlying30 rfl (by rw [SA.out]; kernel_rfl) ?_)
        | (go_at_call 11; refine (HCK.out _ _ _ hS.ro.1.1.2).mono ?_; rintro e w7 ⟨_, rfl, rfl, hb7⟩; replace hS := hS.ext hb7; clear hb7)
        | ((with_reducible show wpList _ _ _ (⟨_, .binOp _ _ _ _ _, _, _, _, _⟩ :: _) _ _); (first | ((with_reducible show wpList _ _ _ (⟨_, .binOp .lss _ _ _ _, _, _, _, _⟩ :: _) _ _); refine st_lss rfl _ _ _ _ rfl _ _ _ rfl rfl (fun h_ => ?_) (fun h_ => ?_)) | ((with_reducible show wpList _ _ _ (⟨_, .binOp .leq _ _ _ _, _, _, _, _⟩ :: _) _ _); refine st_leq rfl _ _ _ _ rfl _ _ _ rfl rfl (fun h_ => ?_) (fun h_ => ?_)) | ((with_reducible show wpList _ _ _ (⟨_, .binOp .gtr _ _ _ _, _, _, _, _⟩ :: _) _ _); refine st_gtr rfl _ _ _ _ rfl _ _ _ rfl rfl (fun h_ => ?_) (fun h_ => ?_)) | ((with_reducible show wpList _ _ _ (⟨_, .binOp .geq _ _ _ _, _, _, _, _⟩ :: _) _ _); refine st_geq rfl _ _ _ _ rfl _ _ _ rfl rfl (fun h_ => ?_) (fun h_ => ?_)) | ((with_reducible show wpList _ _ _ (⟨_, .binOp .eql _ _ _ _, _, _, _, _⟩ :: _) _ _); refine st_eql rfl _ _ _ _ rfl _ _ _ rfl rfl (fun h_ => ?_) (fun h_ => ?_)) | ((with_reducible show wpList _ _ _ (⟨_, .binOp .neq _ _ _ _, _, _, _, _⟩ :: _) _ _); refine st_neq rfl _ _ _ _ rfl _ _ _ rfl rfl (fun h_ => ?_) (fun h_ => ?_))) <;> go_prune)
        | (go_at_call 12; refine (cread_any _ bs HBb.out (by omega) hS hS.ro.2).mono ?_; rintro e w8 ⟨v8, rfl, hS8⟩; rw [HRBK.out] at hS8 ⊢; clear hS; obtain ⟨C, rfl, sC, oC⟩ := IsCert.row hS8.ro.2; have SC := Lib.hid sC; have OC := Lib.hid oC; have hS := hS8; clear hS8 sC oC)
        | ((with_reducible show wpList _ _ _ (⟨some 6, _, _, _, _, _⟩ :: _) _ _); refine st_alloc hS rfl _ rfl (by kernel_rfl) ?_; clear hS; intro g6 w_ hS)
        | ((with_reducible show wpList _ _ _ (⟨_, .store 35 _ _, _, _, _, _⟩ :: _) _ _); refine st_store hS 0 rfl _ _ _ rfl g6 C rfl rfl _ _ rfl (by rw [SC.out]; kernel_rfl) (by rw [SC.out]; kernel_rfl) OC.out ?_; clear hS; intro w_ hS; simp only [List.set_cons_zero] at hS)
        | ((with_reducible show wpList _ _ _ (⟨some 43, _, _, _, _, _⟩ :: _) _ _); refine st_loadw hS 0 rfl _ _ rfl g6 rfl _ C rfl _ Tryz.underlying35 rfl (by rw [SC.out]; kernel_rfl) ?_)
        | ((with_reducible show wpList _ _ _ (⟨some 44, _, _, _, _, _⟩ :: _) _ _); refine st_loadw hS 2 rfl _ _ rfl g3 rfl _ A rfl _ Tryz.underlying30 rfl (by rw [SA.out]; kernel_rfl) ?_)
        | ((with_reducible show wpList _ _ _ (⟨some 48, _, _, _, _, _⟩ :: _) _ _); refine st_loadw hS 1 rfl _ _ rfl g4 rfl _ B rfl _ Tryz.underlying35 rfl (by rw [SB.out]; kernel_rfl) ?_)
        | ((with_reducible show wpList _ _ _ (⟨some 49, _, _, _, _, _⟩ :: _) _ _); refine st_loadw hS 0 rfl _ _ rfl g6 rfl _ C rfl _ Tryz.underlying35 rfl (by rw [SC.out]; kernel_rfl) ?_)
        | (go_at_call 13; refine (csame_any (.agg C) (.agg A) c c _ _ _ hS.ro.2 hS.ro.1.1.1.2 HSc.out.1 HSc.out.1 (HDT.out.ext hS.below)).mono ?_; rw [eqC_refl]; rintro r_ w10 ⟨_, rfl, rfl, hb10⟩; replace hS := hS.ext hb10; clear hb10)
        | (go_at_call 14; refine (certeq_any (.agg B) (.agg C) c c _ _ _ hS.ro.1.1.2 hS.ro.2).mono ?_; rw [eqC_refl]; rintro r_ w11 ⟨_, rfl, rfl, hb11⟩; replace hS := hS.ext hb11; clear hb11))
      go_ret
      exact Ret.mk (by simp) hS.below
    · have hb0 : bs.length ≤ 0 := Nat.le_of_eq (HB0.out h0)
      go_wp2_with (first
        | ((with_reducible show wpList _ _ _ (⟨some 29, _, _, _, _, _⟩ :: _) _ _); refine st_load hS 1 rfl _ _ rfl g3 rfl _ A rfl _ Tryz.underlying30 rfl (by rw [SA.out]; kernel_rfl) ?_)
        | (go_at_call 11; refine (HCK.out _ _ _ hS.ro.1.1.2).mono ?_; rintro e w7 ⟨_, rfl, rfl, hb7⟩; replace hS := hS.ext hb7; clear hb7)
        | ((with_reducible show wpList _ _ _ (⟨_, .binOp _ _ _ _ _, _, _, _, _⟩ :: _) _ _); (first | ((with_reducible show wpList _ _ _ (⟨_, .binOp .lss _ _ _ _, _, _, _, _⟩ :: _) _ _); refine st_lss rfl _ _ _ _ rfl _ _ _ rfl rfl (fun h_ => ?_) (fun h_ => ?_)) | ((with_reducible show wpList _ _ _ (⟨_, .binOp .leq _ _ _ _, _, _, _, _⟩ :: _) _ _); refine st_leq rfl _ _ _ _ rfl _ _ _ rfl rfl (fun h_ => ?_) (fun h_ => ?_)) | ((with_reducible show wpList _ _ _ (⟨_, .binOp .gtr _ _ _ _, _, _, _, _⟩ :: _) _ _); refine st_gtr rfl _ _ _ _ rfl _ _ _ rfl rfl (fun h_ => ?_) (fun h_ => ?_)) | ((with_reducible show wpList _ _ _ (⟨_, .binOp .geq _ _ _ _, _, _, _, _⟩ :: _) _ _); refine st_geq rfl _ _ _ _ rfl _ _ _ rfl rfl (fun h_ => ?_) (fun h_ => ?_)) | ((with_reducible show wpList _ _ _ (⟨_, .binOp .eql _ _ _ _, _, _, _, _⟩ :: _) _ _); refine st_eql rfl _ _ _ _ rfl _ _ _ rfl rfl (fun h_ => ?_) (fun h_ => ?_)) | ((with_reducible show wpList _ _ _ (⟨_, .binOp .neq _ _ _ _, _, _, _, _⟩ :: _) _ _); refine st_neq rfl _ _ _ _ rfl _ _ _ rfl rfl (fun h_ => ?_) (fun h_ => ?_))) <;> go_prune))
      go_ret
      exact Ret.mk rfl hS.below
end Go.Proofs.YtenpkgdnlogfiaaGreatDoor
