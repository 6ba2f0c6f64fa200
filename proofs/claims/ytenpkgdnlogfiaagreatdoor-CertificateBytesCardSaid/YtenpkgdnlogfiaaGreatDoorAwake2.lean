/-
  Chapter 36's awake: its walk.
-/
import Derived.Test.YtenpkgdnlogfiaaGreatDoorAwake1
import Derived.Test.YtenpkgdnlogfiaaGreatDoorCert5
import Derived.Test.YtenpkgdnlogfiaaGreatDoorTyp
import Derived.Test.YtenpkgdnlogfiaaGreatDoorEq
namespace Go.Proofs.YtenpkgdnlogfiaaGreatDoor
open Go.RowKit
attribute [local go_sem ↓] Go.wp_at_zero Go.wp_at_succ
set_option maxRecDepth 20000

/-- the cells of a certificate with the zero identifier -/
def certCells (r : Bool) (pv qv : Value) : Array Value := (u8s (List.replicate 32 0) ++ [.bool r, pv, qv]).toArray
theorem cert_one (r : Bool) (A A' : Option Addr) (n c n' c' : Nat) : (certCells r (.slice A n c) (.slice A' n' c')).all (·.oneCell') = true := by
  refine all_oneCell_toArray fun v hv => ?_
  rcases List.mem_append.1 hv with h | h
  · exact u8s_one _ v h
  · simp at h; rcases h with rfl | rfl | rfl <;> rfl
theorem cert_size (r : Bool) (pv qv : Value) : (certCells r pv qv).size = 35 := by simp [certCells, u8s]
theorem cert_info (r : Bool) (pv qv : Value) : (Tryz.prog.info? 35).map (·.size) = some (certCells r pv qv).size := by
  rw [cert_size]; kernel_rfl

theorem IsCubes.none_ {w : World} {D : Nat → Prop} : IsCubes w D (.slice none 0 0) [] := ⟨[], Sl.none_, fun i y n h => by simp at h⟩
theorem IsCubes.one {w : World} {b : Nat} {t : TypeId} {y n : Value} {Y N : Nat} {D E : Nat → Prop} (h : Box w b t #[y, n]) (hy : IsSet w D (.agg #[y]) Y) (hn : IsSet w E (.agg #[n]) N) : IsCubes w (fun _ => True) (.slice (some ⟨b, 0, none⟩) 1 1) [(Y, N)] :=
  ⟨[y, n], (Sl.of_box (n := 1) (size := 2) h rfl (by omega)).imp fun _ _ _ => trivial, fun i a c hi => by
    match i, hi with
    | 0, hi => simp at hi; obtain ⟨rfl, rfl⟩ := hi; exact ⟨y, n, rfl, rfl, hy.imp fun _ _ _ => trivial, hn.imp fun _ _ _ => trivial⟩⟩
theorem str_eql {a b : ByteArray} (h : (a.toList == b.toList) = true) (w : World) : (binOp .eql 9 (.string a) (.string b)).run Tryz.prog w = .ok (.bool true) w := by
  go_simp
set_option maxHeartbeats 4000000 in
theorem awake_any (w : World) (hT : Tab w) :
    Calls Tryz.prog 4 #[] w (Ret (fun x _ => x = .bool true) w) := by
  obtain ⟨i0, hi, hz0, hz1, hz2⟩ := info_parts info_u8
  obtain ⟨z, hz⟩ : ∃ z, z = strOf (List.replicate 32 0) := ⟨_, rfl⟩
  have HZ := Lib.hid hz
  clear hz
  go_enter Tryz.func4, Tryz.ntmps4
  go_wp2_with (first
    | (at_make; refine wpList_make_full _ rfl _ _ 37 rfl w.heap.size 5 i0 (.int .u8 0) 1 Tryz.underlying37 hi hz0 hz1 _ _ _ _ 32 rfl rfl (by omega) (by omega) (by rw [hz2]; omega) (by unfold maxLen; omega) (Nat.le_refl _) ?_; intro w1 hown hgrow; rw [Nat.mul_one, show (Value.int .u8 0).cells = #[Value.int .u8 0] from rfl, madeCells_u8] at hown; have hcv := conv_sl (l := List.replicate 32 0) (Sl.of_own hown) (zeros_bytes 32); rw [← HZ.out] at hcv; have hB := (Below.refl w.heap.size w).grown hgrow (by omega) (by simp); clear hown hgrow)
    | ((with_reducible show wpList _ _ _ (⟨some 6, _, _, _, _, _⟩ :: _) _ _); refine wpList_buildSlice_op rfl _ 3 _ _ rfl Tryz.underlying22 #[.int .i64 2, .int .i64 0] (by kernel_rfl) ?_; intro w2 hX hb; have hl1 := hX.lt; have hP := Sl.of_box (n := 2) (size := 1) hX rfl (by omega); replace hB := hB.trans (hb.mono hB.size); clear hX hb hcv)
    | ((with_reducible show wpList _ _ _ (⟨some 7, _, _, _, _, _⟩ :: _) _ _); refine wpList_build_of rfl _ _ rfl (certCells true (.slice (some ⟨w1.heap.size, 0, none⟩) 2 2) (.slice none 0 0)) (by kernel_rfl) ?_)
    | ((with_reducible show wpList _ _ _ (⟨some 2, _, _, _, _, _⟩ :: _) _ _); refine wpList_alloc_op rfl _ rfl (by kernel_rfl) ?_; intro w3 hA hb; replace hP := hP.ext hb; have hl2 := hA.lt; have hl3 := hB.size; replace hB := hB.trans (hb.mono hB.size); clear hb)
    | ((with_reducible show wpList _ _ _ (⟨none, _, _, _, _, _⟩ :: _) _ _); go_loud (refine wpList_store_op rfl 35 _ _ rfl w2.heap.size (certCells true (.slice (some ⟨w1.heap.size, 0, none⟩) 2 2) (.slice none 0 0)) rfl rfl _ _ hA (cert_info _ _ _) (by rw [cert_size]; kernel_rfl) (cert_one _ _ _ _ _ _ _) ?_); go_loud (intro w4 hC hU); replace hP := hP.upd hU (fun b h hl => by omega); replace hB := hU.below hB (by omega); clear hA hU))
  have hS8 := fun (w : World) (x : Int) => Sl.new w 3 (ints [x]) (by simp [ints])
  have H8 := Lib.hid hS8
  clear hS8
  have hP5 := hP.ext ((Below.refl _ w4).alloc (Nat.le_refl _) (.cells #[.int .i64 1] 3))
  refine (of_any _ [1] _ _ (H8.out w4 1)).mono ?_
  rintro e w6 ⟨v9, rfl, h9, hb⟩
  replace hb : Below w4.heap.size w4 w6 := ((Below.refl _ w4).alloc (Nat.le_refl _) _).trans (hb.mono (by simp))
  replace hP := hP.ext hb
  replace hC := hC.ext hb
  have hl4 := hC.lt
  have hs6 := hb.size
  replace hB := hB.trans (hb.mono hB.size)
  clear hb hP5
  obtain ⟨A9, c9, l9, rfl, _⟩ := id h9.parts
  go_wp2_with fail
  refine (of_any _ [3] _ _ (H8.out w6 3)).mono ?_
  rintro e w8 ⟨v11, rfl, h11, hb⟩
  replace hb : Below w6.heap.size w6 w8 := ((Below.refl _ w6).alloc (Nat.le_refl _) _).trans (hb.mono (by simp))
  replace hP := hP.ext hb
  replace hC := hC.ext hb
  replace h9 := h9.ext hb
  have hs8 := hb.size
  replace hB := hB.trans (hb.mono hB.size)
  clear hb
  obtain ⟨A11, c11, l11, rfl, _⟩ := id h11.parts
  go_wp2_with (first
    | ((with_reducible show wpList _ _ _ (⟨some 12, _, _, _, _, _⟩ :: _) _ _); refine wpList_build_of rfl _ _ rfl #[.slice A9 l9.length c9, .slice A11 l11.length c11] (by kernel_rfl) ?_)
    | ((with_reducible show wpList _ _ _ (⟨some 13, _, _, _, _, _⟩ :: _) _ _); refine wpList_buildSlice_op rfl _ 54 _ _ rfl Tryz.underlying33 #[.slice A9 l9.length c9, .slice A11 l11.length c11] (by kernel_rfl) ?_; intro w9 hX hb; have hl8 := hX.lt; have hq := (IsCubes.one hX (h9.ext hb) (h11.ext hb)).imp (D' := (· < w9.heap.size)) (fun _ _ h => h); replace hP := hP.ext hb; replace hC := hC.ext hb; replace hB := hB.trans (hb.mono hB.size); clear hX h9 h11 hb)
    | ((with_reducible show wpList _ _ _ (⟨some 14, _, _, _, _, _⟩ :: _) _ _); refine wpList_build_of rfl _ _ rfl (certCells false (.slice none 0 0) (.slice (some ⟨w8.heap.size, 0, none⟩) 1 1)) (by kernel_rfl) ?_)
    | ((with_reducible show wpList _ _ _ (⟨some 3, _, _, _, _, _⟩ :: _) _ _); refine wpList_alloc_op rfl _ rfl (by kernel_rfl) ?_; intro w10 hA hb; have hl9 := hA.lt; have hs9 := hB.size; replace hP := hP.ext hb; replace hC := hC.ext hb; replace hq := hq.ext hb; replace hB := hB.trans (hb.mono hB.size); clear hb)
    | ((with_reducible show wpList _ _ _ (⟨none, _, _, _, _, _⟩ :: _) _ _); refine wpList_store_op rfl 35 _ _ rfl w9.heap.size (certCells false (.slice none 0 0) (.slice (some ⟨w8.heap.size, 0, none⟩) 1 1)) rfl rfl _ _ hA (cert_info _ _ _) (by rw [cert_size]; kernel_rfl) (cert_one _ _ _ _ _ _ _) ?_; intro w11 hC2 hU; replace hP := hP.upd hU (fun b h hl => by omega); replace hC := hC.upd hU (by omega); replace hq := hq.upd hU (fun b h hl => by omega); replace hB := hU.below hB (by omega); clear hA hU))
  have hcA : IsCert w11 (fun _ => True) (.agg (certCells true (.slice (some ⟨w1.heap.size, 0, none⟩) 2 2) (.slice none 0 0))) exA := IsCert.of (plan := [2, 0]) (cubes := []) (by simp) (zeros_bytes 32) (hP.imp fun _ _ _ => trivial) IsCubes.none_
  have hcB : IsCert w11 (fun _ => True) (.agg (certCells false (.slice none 0 0) (.slice (some ⟨w8.heap.size, 0, none⟩) 1 1))) exB := IsCert.of (plan := []) (cubes := [(2, 8)]) (by simp) (zeros_bytes 32) Sl.none_ (hq.imp fun _ _ _ => trivial)
  replace hT := hT.ext hB
  have hzs : z.size ≤ 32 := by rw [HZ.out, strOf_size]; simp
  have hqA : ((strOf (bytesC exA)).toList == (z ++ { data := #[1, 2, 2, 0, 0] }).toList) = true := by rw [HZ.out, exA_bytes]; simp
  have hqB : ((strOf (bytesC exB)).toList == (z ++ { data := #[0, 0, 1, 1, 2, 1, 8] }).toList) = true := by rw [HZ.out, exB_bytes]; simp
  have cvA := fun (w : World) (D : Nat → Prop) (v : Value) (h : Sl w D 1 v (bytesC exA).length (u8s (bytesC exA))) => conv_sl h exA_by
  have cvB := fun (w : World) (D : Nat → Prop) (v : Value) (h : Sl w D 1 v (bytesC exB).length (u8s (bytesC exB))) => conv_sl h exB_by
  generalize strOf (bytesC exA) = sA at *
  generalize strOf (bytesC exB) = sB at *
  have HCA := Lib.hid cvA
  have HCB := Lib.hid cvB
  have heq := exA_id
  have hidl := idC_len exA
  have htl := fun (w : World) => fun (pv p : Value) (D : Nat → Prop) (hT : Tab w) (h1 : Sl w D 1 pv 1 [p]) (h2 : Sl w D 1 p (bytesC exA).length (u8s (bytesC exA))) => tagged_any certTag pv p (bytesC exA) w D hT h1 h2 exA_by (by decide) (by have := exA_len; omega)
  rw [← heq] at htl
  have hidc := fun (w : World) (D : Nat → Prop) (v : Value) (hT : Tab w) (h : IsCert w D v exA) => cid_any v exA w D hT h
  generalize idC exA = idl at *
  have kI := fun (w : World) => eql_id w idl idl hidl hidl
  simp only [BEq.rfl] at kI
  have HTL := Lib.hid htl
  have HID := Lib.hid hidc
  have hiA := cert_info true (.slice (some ⟨w1.heap.size, 0, none⟩) 2 2) (.slice none 0 0)
  have hiB := cert_info false (.slice none 0 0) (.slice (some ⟨w8.heap.size, 0, none⟩) 1 1)
  generalize certCells true (.slice (some ⟨w1.heap.size, 0, none⟩) 2 2) (.slice none 0 0) = cA at *
  generalize certCells false (.slice none 0 0) (.slice (some ⟨w8.heap.size, 0, none⟩) 1 1) = cB at *
  clear hP hq cvA cvB heq hidl htl hidc
  refine wp_region_typed (fun i v w => match i with
    | 0 => v = .agg cA
    | 1 => Sl w (fun _ => True) 1 v (bytesC exA).length (u8s (bytesC exA))
    | 2 => v = .string sA
    | 3 => v = .string z
    | 4 => v = .string (z ++ { data := #[1, 2, 2, 0, 0] })
    | 5 => v = .bool true
    | 6 => v = .bool true
    | 7 => v = .agg cB
    | 8 => Sl w (fun _ => True) 1 v (bytesC exB).length (u8s (bytesC exB))
    | 9 => v = .string sB
    | 10 => v = .string z
    | 11 => v = .string (z ++ { data := #[0, 0, 1, 1, 2, 1, 8] })
    | 12 => v = .bool true
    | 13 => v = .bool true
    | 14 => v = .bool true
    | 15 => v = .agg cA
    | 16 => v = .agg (u8s idl).toArray
    | 17 => v = .agg cA
    | 18 => Sl w (fun _ => True) 1 v (bytesC exA).length (u8s (bytesC exA))
    | 19 => ∃ p, Sl w (fun _ => True) 1 v 1 [p] ∧ Sl w (fun _ => True) 1 p (bytesC exA).length (u8s (bytesC exA))
    | 20 => v = .agg (u8s idl).toArray
    | 21 => v = .bool true
    | 22 => v = .bool true
    | 23 => v = .bool true
    | _ => True) (by kernel_rfl) (by kernel_rfl) ?mono ⟨?r0, ?r1, ?r2, ?r3, ?r4, ?r5, ?r6, ?r7, ?r8, ?r9, ?r10, ?r11, ?r12, ?r13, ?r14, ?r15, ?r16, ?r17, ?r18, ?r19, ?r20, ?r21, ?r22, ?r23, trivial⟩ ?post
  case mono =>
    intro i v w w' h hb
    match i, h with
    | 0, h => exact h
    | 1, h => exact Sl.ext h hb
    | 2, h => exact h
    | 3, h => exact h
    | 4, h => exact h
    | 5, h => exact h
    | 6, h => exact h
    | 7, h => exact h
    | 8, h => exact Sl.ext h hb
    | 9, h => exact h
    | 10, h => exact h
    | 11, h => exact h
    | 12, h => exact h
    | 13, h => exact h
    | 14, h => exact h
    | 15, h => exact h
    | 16, h => exact h
    | 17, h => exact h
    | 18, h => exact Sl.ext h hb
    | 19, h => exact (let ⟨p, h1, h2⟩ := h; ⟨p, h1.ext hb, h2.ext hb⟩)
    | 20, h => exact h
    | 21, h => exact h
    | 22, h => exact h
    | 23, h => exact h
    | _ + 24, h => trivial
  case r0 =>
    refine trule fun b w hW hold hpre => ⟨fun hwant K hK => ?_, fun hwant => ?_⟩
    · clear hwant
      have e2 : b.eval (.tmp 2) = .pointer (some ⟨w2.heap.size, 0, none⟩) := (hold 2 (by kernel_rfl)).trans rfl
      exact opw_row rfl e2 (hC.ext (undrew hW)) Tryz.underlying35 rfl hiA (hK _ _ rfl (Below.refl _ _))
    · rw [want_none rfl] at hwant; cases hwant
  case r1 =>
    refine trule fun b w hW hold hpre => ⟨fun hwant K hK => ?_, fun hwant => ?_⟩
    · clear hwant
      have e15 : b.eval (.tmp 15) = .agg cA := hpre ⟨0, _⟩ (Array.mem_of_getElem? (i := 0) rfl) rfl _ _ rfl rfl
      exact opw_call rfl (by kernel_rfl) (by simp [e15]) (cbytes_any _ exA w _ (hcA.ext (undrew hW))) fun v w' h hb => hK v w' (h.imp fun _ _ _ => trivial) hb
    · rw [want_none rfl] at hwant; cases hwant
  case r2 =>
    refine trule fun b w hW hold hpre => ⟨fun hwant K hK => ?_, fun hwant => ?_⟩
    · clear hwant
      have e16 : (fun (v : Value) (w : World) => Sl w (fun _ => True) 1 v (bytesC exA).length (u8s (bytesC exA))) (b.eval (.tmp 16)) w := hpre ⟨1, _⟩ (Array.mem_of_getElem? (i := 0) rfl) rfl _ _ rfl rfl
      exact opw_conv rfl rfl (HCA.out w _ _ e16) (hK _ _ rfl (Below.refl _ _))
    · rw [want_none rfl] at hwant; cases hwant
  case r3 =>
    refine trule fun b w hW hold hpre => ⟨fun hwant K hK => ?_, fun hwant => ?_⟩
    · clear hwant
      have e1 : b.eval (.tmp 1) = .string z := (hold 1 (by kernel_rfl)).trans rfl
      exact opw_move rfl e1 (hK _ _ rfl (Below.refl _ _))
    · rw [want_none rfl] at hwant; cases hwant
  case r4 =>
    refine trule fun b w hW hold hpre => ⟨fun hwant K hK => ?_, fun hwant => ?_⟩
    · clear hwant
      have e18 : b.eval (.tmp 18) = .string z := hpre ⟨3, _⟩ (Array.mem_of_getElem? (i := 0) rfl) rfl _ _ rfl rfl
      exact opw_bin (vy := .string { data := #[1, 2, 2, 0, 0] }) rfl e18 rfl rfl (by rw [binOp_string_add]; exact run_string_add_sum _ _ _ (by have h5 : ({ data := #[1, 2, 2, 0, 0] } : ByteArray).size = 5 := rfl; omega)) (hK _ _ rfl (Below.refl _ _))
    · rw [want_none rfl] at hwant; cases hwant
  case r5 =>
    refine trule fun b w hW hold hpre => ⟨fun hwant K hK => ?_, fun hwant => ?_⟩
    · clear hwant
      have e17 : b.eval (.tmp 17) = .string sA := hpre ⟨2, _⟩ (Array.mem_of_getElem? (i := 0) rfl) rfl _ _ rfl rfl
      have e19 : b.eval (.tmp 19) = .string (z ++ { data := #[1, 2, 2, 0, 0] }) := hpre ⟨4, _⟩ (Array.mem_of_getElem? (i := 1) rfl) rfl _ _ rfl rfl
      exact opw_bin rfl e17 e19 rfl (str_eql hqA w) (hK _ _ rfl (Below.refl _ _))
    · rw [want_none rfl] at hwant; cases hwant
  case r6 =>
    refine trule fun b w hW hold hpre => ⟨fun hwant K hK => ?_, fun hwant => ?_⟩
    · clear hwant
      have e20 : b.eval (.tmp 20) = .bool true := hpre ⟨5, _⟩ (Array.mem_of_getElem? (i := 0) rfl) rfl _ _ rfl rfl
      exact opw_move rfl e20 (hK _ _ rfl (Below.refl _ _))
    · rw [want_none rfl] at hwant; cases hwant
  case r7 =>
    refine trule fun b w hW hold hpre => ⟨fun hwant K hK => ?_, fun hwant => ?_⟩
    · clear hwant
      have e3 : b.eval (.tmp 3) = .pointer (some ⟨w9.heap.size, 0, none⟩) := (hold 3 (by kernel_rfl)).trans rfl
      exact opw_row rfl e3 (hC2.ext (undrew hW)) Tryz.underlying35 rfl hiB (hK _ _ rfl (Below.refl _ _))
    · rw [want_some rfl rfl rfl (show b.eval (.tmp 21) = .bool true from hpre ⟨6, _⟩ (Array.mem_of_getElem? (i := 0) rfl) rfl _ _ rfl rfl)] at hwant; cases hwant
  case r8 =>
    refine trule fun b w hW hold hpre => ⟨fun hwant K hK => ?_, fun hwant => ?_⟩
    · clear hwant
      have e22 : b.eval (.tmp 22) = .agg cB := hpre ⟨7, _⟩ (Array.mem_of_getElem? (i := 0) rfl) rfl _ _ rfl rfl
      exact opw_call rfl (by kernel_rfl) (by simp [e22]) (cbytes_any _ exB w _ (hcB.ext (undrew hW))) fun v w' h hb => hK v w' (h.imp fun _ _ _ => trivial) hb
    · rw [want_some rfl rfl rfl (show b.eval (.tmp 21) = .bool true from hpre ⟨6, _⟩ (Array.mem_of_getElem? (i := 1) rfl) rfl _ _ rfl rfl)] at hwant; cases hwant
  case r9 =>
    refine trule fun b w hW hold hpre => ⟨fun hwant K hK => ?_, fun hwant => ?_⟩
    · clear hwant
      have e23 : (fun (v : Value) (w : World) => Sl w (fun _ => True) 1 v (bytesC exB).length (u8s (bytesC exB))) (b.eval (.tmp 23)) w := hpre ⟨8, _⟩ (Array.mem_of_getElem? (i := 0) rfl) rfl _ _ rfl rfl
      exact opw_conv rfl rfl (HCB.out w _ _ e23) (hK _ _ rfl (Below.refl _ _))
    · rw [want_some rfl rfl rfl (show b.eval (.tmp 21) = .bool true from hpre ⟨6, _⟩ (Array.mem_of_getElem? (i := 1) rfl) rfl _ _ rfl rfl)] at hwant; cases hwant
  case r10 =>
    refine trule fun b w hW hold hpre => ⟨fun hwant K hK => ?_, fun hwant => ?_⟩
    · clear hwant
      have e1 : b.eval (.tmp 1) = .string z := (hold 1 (by kernel_rfl)).trans rfl
      exact opw_move rfl e1 (hK _ _ rfl (Below.refl _ _))
    · rw [want_some rfl rfl rfl (show b.eval (.tmp 21) = .bool true from hpre ⟨6, _⟩ (Array.mem_of_getElem? (i := 0) rfl) rfl _ _ rfl rfl)] at hwant; cases hwant
  case r11 =>
    refine trule fun b w hW hold hpre => ⟨fun hwant K hK => ?_, fun hwant => ?_⟩
    · clear hwant
      have e25 : b.eval (.tmp 25) = .string z := hpre ⟨10, _⟩ (Array.mem_of_getElem? (i := 0) rfl) rfl _ _ rfl rfl
      exact opw_bin (vy := .string { data := #[0, 0, 1, 1, 2, 1, 8] }) rfl e25 rfl rfl (by rw [binOp_string_add]; exact run_string_add_sum _ _ _ (by have h7 : ({ data := #[0, 0, 1, 1, 2, 1, 8] } : ByteArray).size = 7 := rfl; omega)) (hK _ _ rfl (Below.refl _ _))
    · rw [want_some rfl rfl rfl (show b.eval (.tmp 21) = .bool true from hpre ⟨6, _⟩ (Array.mem_of_getElem? (i := 1) rfl) rfl _ _ rfl rfl)] at hwant; cases hwant
  case r12 =>
    refine trule fun b w hW hold hpre => ⟨fun hwant K hK => ?_, fun hwant => ?_⟩
    · clear hwant
      have e24 : b.eval (.tmp 24) = .string sB := hpre ⟨9, _⟩ (Array.mem_of_getElem? (i := 0) rfl) rfl _ _ rfl rfl
      have e26 : b.eval (.tmp 26) = .string (z ++ { data := #[0, 0, 1, 1, 2, 1, 8] }) := hpre ⟨11, _⟩ (Array.mem_of_getElem? (i := 1) rfl) rfl _ _ rfl rfl
      exact opw_bin rfl e24 e26 rfl (str_eql hqB w) (hK _ _ rfl (Below.refl _ _))
    · rw [want_some rfl rfl rfl (show b.eval (.tmp 21) = .bool true from hpre ⟨6, _⟩ (Array.mem_of_getElem? (i := 2) rfl) rfl _ _ rfl rfl)] at hwant; cases hwant
  case r13 =>
    refine trule fun b w hW hold hpre => ⟨fun hwant K hK => ?_, fun hwant => ?_⟩
    · clear hwant
      have e21 : b.eval (.tmp 21) = .bool true := hpre ⟨6, _⟩ (Array.mem_of_getElem? (i := 0) rfl) rfl _ _ rfl rfl
      have e27 : b.eval (.tmp 27) = .bool true := hpre ⟨12, _⟩ (Array.mem_of_getElem? (i := 1) rfl) rfl _ _ rfl rfl
      exact opw_pick rfl e21 (if_pos rfl) (hK _ _ e27 (Below.refl _ _))
    · rw [want_none rfl] at hwant; cases hwant
  case r14 =>
    refine trule fun b w hW hold hpre => ⟨fun hwant K hK => ?_, fun hwant => ?_⟩
    · clear hwant
      have e28 : b.eval (.tmp 28) = .bool true := hpre ⟨13, _⟩ (Array.mem_of_getElem? (i := 0) rfl) rfl _ _ rfl rfl
      exact opw_move rfl e28 (hK _ _ rfl (Below.refl _ _))
    · rw [want_none rfl] at hwant; cases hwant
  case r15 =>
    refine trule fun b w hW hold hpre => ⟨fun hwant K hK => ?_, fun hwant => ?_⟩
    · clear hwant
      have e2 : b.eval (.tmp 2) = .pointer (some ⟨w2.heap.size, 0, none⟩) := (hold 2 (by kernel_rfl)).trans rfl
      exact opw_row rfl e2 (hC.ext (undrew hW)) Tryz.underlying35 rfl hiA (hK _ _ rfl (Below.refl _ _))
    · rw [want_some rfl rfl rfl (show b.eval (.tmp 29) = .bool true from hpre ⟨14, _⟩ (Array.mem_of_getElem? (i := 0) rfl) rfl _ _ rfl rfl)] at hwant; cases hwant
  case r16 =>
    refine trule fun b w hW hold hpre => ⟨fun hwant K hK => ?_, fun hwant => ?_⟩
    · clear hwant
      have e30 : b.eval (.tmp 30) = .agg cA := hpre ⟨15, _⟩ (Array.mem_of_getElem? (i := 0) rfl) rfl _ _ rfl rfl
      exact opw_call rfl (by kernel_rfl) (by simp [e30]) (HID.out w _ _ (hT.ext (undrew hW)) (hcA.ext (undrew hW))) fun v w' h hb => hK v w' h hb
    · rw [want_some rfl rfl rfl (show b.eval (.tmp 29) = .bool true from hpre ⟨14, _⟩ (Array.mem_of_getElem? (i := 1) rfl) rfl _ _ rfl rfl)] at hwant; cases hwant
  case r17 =>
    refine trule fun b w hW hold hpre => ⟨fun hwant K hK => ?_, fun hwant => ?_⟩
    · clear hwant
      have e2 : b.eval (.tmp 2) = .pointer (some ⟨w2.heap.size, 0, none⟩) := (hold 2 (by kernel_rfl)).trans rfl
      exact opw_row rfl e2 (hC.ext (undrew hW)) Tryz.underlying35 rfl hiA (hK _ _ rfl (Below.refl _ _))
    · rw [want_some rfl rfl rfl (show b.eval (.tmp 29) = .bool true from hpre ⟨14, _⟩ (Array.mem_of_getElem? (i := 0) rfl) rfl _ _ rfl rfl)] at hwant; cases hwant
  case r18 =>
    refine trule fun b w hW hold hpre => ⟨fun hwant K hK => ?_, fun hwant => ?_⟩
    · clear hwant
      have e32 : b.eval (.tmp 32) = .agg cA := hpre ⟨17, _⟩ (Array.mem_of_getElem? (i := 0) rfl) rfl _ _ rfl rfl
      exact opw_call rfl (by kernel_rfl) (by simp [e32]) (cbytes_any _ exA w _ (hcA.ext (undrew hW))) fun v w' h hb => hK v w' (h.imp fun _ _ _ => trivial) hb
    · rw [want_some rfl rfl rfl (show b.eval (.tmp 29) = .bool true from hpre ⟨14, _⟩ (Array.mem_of_getElem? (i := 2) rfl) rfl _ _ rfl rfl)] at hwant; cases hwant
  case r19 =>
    refine trule fun b w hW hold hpre => ⟨fun hwant K hK => ?_, fun hwant => ?_⟩
    · clear hwant
      have e33 : (fun (v : Value) (w : World) => Sl w (fun _ => True) 1 v (bytesC exA).length (u8s (bytesC exA))) (b.eval (.tmp 33)) w := hpre ⟨18, _⟩ (Array.mem_of_getElem? (i := 0) rfl) rfl _ _ rfl rfl
      obtain ⟨A, c, hp, _⟩ := Sl.shape e33
      refine opw_slice rfl Tryz.underlying74 (ps := [(0, .slice A (bytesC exA).length c)]) (by simp [hp]) (cells := #[.slice A (bytesC exA).length c]) (by kernel_rfl) fun w' hX hb => hK _ _ ⟨.slice A (bytesC exA).length c, (Sl.of_box (n := 1) (size := 1) hX rfl (by omega)).imp fun _ _ _ => trivial, ?_⟩ hb
      rw [← hp]; exact Sl.ext e33 hb
    · rw [want_some rfl rfl rfl (show b.eval (.tmp 29) = .bool true from hpre ⟨14, _⟩ (Array.mem_of_getElem? (i := 1) rfl) rfl _ _ rfl rfl)] at hwant; cases hwant
  case r20 =>
    refine trule fun b w hW hold hpre => ⟨fun hwant K hK => ?_, fun hwant => ?_⟩
    · clear hwant
      have e34 : (fun (v : Value) (w : World) => ∃ p, Sl w (fun _ => True) 1 v 1 [p] ∧ Sl w (fun _ => True) 1 p (bytesC exA).length (u8s (bytesC exA))) (b.eval (.tmp 34)) w := hpre ⟨19, _⟩ (Array.mem_of_getElem? (i := 0) rfl) rfl _ _ rfl rfl
      obtain ⟨p, h1, h2⟩ := e34
      exact opw_call (vs := [.string certTag, b.eval (.tmp 34)]) rfl (by kernel_rfl) rfl (HTL.out w (b.eval (.tmp 34)) p _ (hT.ext (undrew hW)) h1 h2) fun v w' h hb => hK v w' h hb
    · rw [want_some rfl rfl rfl (show b.eval (.tmp 29) = .bool true from hpre ⟨14, _⟩ (Array.mem_of_getElem? (i := 2) rfl) rfl _ _ rfl rfl)] at hwant; cases hwant
  case r21 =>
    refine trule fun b w hW hold hpre => ⟨fun hwant K hK => ?_, fun hwant => ?_⟩
    · clear hwant
      have e31 : b.eval (.tmp 31) = .agg (u8s idl).toArray := hpre ⟨16, _⟩ (Array.mem_of_getElem? (i := 0) rfl) rfl _ _ rfl rfl
      have e35 : b.eval (.tmp 35) = .agg (u8s idl).toArray := hpre ⟨20, _⟩ (Array.mem_of_getElem? (i := 1) rfl) rfl _ _ rfl rfl
      exact opw_bin rfl e31 e35 rfl (kI w) (hK _ _ rfl (Below.refl _ _))
    · rw [want_some rfl rfl rfl (show b.eval (.tmp 29) = .bool true from hpre ⟨14, _⟩ (Array.mem_of_getElem? (i := 2) rfl) rfl _ _ rfl rfl)] at hwant; cases hwant
  case r22 =>
    refine trule fun b w hW hold hpre => ⟨fun hwant K hK => ?_, fun hwant => ?_⟩
    · clear hwant
      have e29 : b.eval (.tmp 29) = .bool true := hpre ⟨14, _⟩ (Array.mem_of_getElem? (i := 0) rfl) rfl _ _ rfl rfl
      have e36 : b.eval (.tmp 36) = .bool true := hpre ⟨21, _⟩ (Array.mem_of_getElem? (i := 1) rfl) rfl _ _ rfl rfl
      exact opw_pick rfl e29 (if_pos rfl) (hK _ _ e36 (Below.refl _ _))
    · rw [want_none rfl] at hwant; cases hwant
  case r23 =>
    refine trule fun b w hW hold hpre => ⟨fun hwant K hK => ?_, fun hwant => ?_⟩
    · clear hwant
      have e37 : b.eval (.tmp 37) = .bool true := hpre ⟨22, _⟩ (Array.mem_of_getElem? (i := 0) rfl) rfl _ _ rfl rfl
      exact opw_assign rfl e37 (hK _ _ rfl (Below.refl _ _))
    · rw [want_none rfl] at hwant; cases hwant
  case post =>
    intro b w hW hdf hsz hold hT
    have h0 : b.tmps.getD 0 undef = .bool true := hT 23 _ 0 rfl rfl
    go_wp2_with fail
    refine bodyPost_ret (v := .bool true) ?_ hdf (Ret.mk rfl (bel_tr hB hW))
    rw [results_tmp (t := 0) rfl, h0]
end Go.Proofs.YtenpkgdnlogfiaaGreatDoor
