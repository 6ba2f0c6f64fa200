/-
  What the statement needs, part 5.
-/
import Derived.Laws.CopyRow
import Derived.Test.YtchjigffejhmfaaGreatDoorCnm4
namespace Go.Proofs.YtchjigffejhmfaaGreatDoor
section
open Go.RowKit
attribute [local go_sem ↓] Go.wp_at_zero Go.wp_at_succ
set_option maxRecDepth 20000
def C7 (r : Bool) (pv qv : Value) : Array Value := (Aa (List.replicate 32 0) ++ [.bool r, pv, qv]).toArray
theorem cert_one (r : Bool) (A A' : Option Addr) (n c n' c' : Nat) : (C7 r (.slice A n c) (.slice A' n' c')).all (·.oneCell') = true := by
 refine all_oneCell_toArray fun v hv => ?_
 rcases List.mem_append.1 hv with h | h
 ·exact B6 _ v h
 ·simp at h; rcases h with rfl | rfl | rfl <;> rfl
theorem IK (r : Bool) (pv qv : Value) : (C7 r pv qv).size = 35 := by simp [C7, Aa]
theorem Ga (r : Bool) (pv qv : Value) : (Tryz.prog.info? 96).map (·.size) = some (C7 r pv qv).size := by
 rw [IK]; kernel_rfl
theorem Ab.none_ {w : World} {D : Nat -> Prop} : Ab w D (.slice none 0 0) [] := ⟨[], Sl.none_, fun i y n h => by simp at h⟩
theorem Ab.one {w : World} {b : Nat} {t : TypeId} {y n : Value} {Y N : Nat} {D E : Nat -> Prop} (h : AW w b t #[y, n]) (hy : A5 w D (.agg #[y]) Y) (hn : A5 w E (.agg #[n]) N) : Ab w (fun _ => True) (.slice (some ⟨b, 0, none⟩) 1 1) [(Y, N)] :=
 ⟨[y, n], (Sl.of_box (n := 1) (size := 2) h rfl (by omega)).imp fun _ _ _ => trivial, fun i a c hi => by
  match i, hi with
  | 0, hi => simp at hi; obtain ⟨rfl, rfl⟩ := hi; exact ⟨y, n, rfl, rfl, hy.imp fun _ _ _ => trivial, hn.imp fun _ _ _ => trivial⟩⟩
theorem str_eql {a b : ByteArray} (h : (a.toList == b.toList) = true) (w : World) : (binOp .eql 9 (.string a) (.string b)).run Tryz.prog w = .ok (.bool true) w := by
 go_simp
set_option maxHeartbeats 4000000 in
theorem awake_any (w : World) (hT : GM w) :
  Calls Tryz.prog 39 #[] w (Ax (fun x _ => x = .bool true) w) := by
 obtain ⟨i0, hi, hz0, hz1, hz2⟩ := info_parts I4
 obtain ⟨z, hz⟩ : ∃ z, z = Fk (List.replicate 32 0) := ⟨_, rfl⟩
 have HZ := Lib.hid hz
 clear hz
 go_enter Tryz.func39, Tryz.ntmps39
 go_wp2_with (first
  | (at_make; refine wpList_make_full _ rfl _ _ 22 rfl w.heap.size 5 i0 (.int .u8 0) 1 Tryz.underlying22 hi hz0 hz1 _ _ _ _ 32 rfl rfl (by omega) (by omega) (by rw [hz2]; omega) (by unfold maxLen; omega) (Nat.le_refl _) ?_; intro w1 hown hgrow; rw [Nat.mul_one, show (Value.int .u8 0).cells = #[Value.int .u8 0] from rfl, F8] at hown; have hcv := conv_sl (l := List.replicate 32 0) (Sl.of_own hown) (Dz 32); rw [<- HZ.out] at hcv; have hB := (Below.refl w.heap.size w).grown hgrow (by omega) (by simp); clear hown hgrow)
  | ((with_reducible refine qA 6 ?_); refine BC rfl _ 3 _ _ rfl Tryz.underlying74 #[.int .i64 2, .int .i64 0] (by kernel_rfl) ?_; intro w2 hX hb; have hl1 := hX.lt; have hP := Sl.of_box (n := 2) (size := 1) hX rfl (by omega); replace hB := hB.trans (hb.mono hB.size); clear hX hb hcv)
  | ((with_reducible refine qA 7 ?_); refine Bt rfl _ _ rfl (C7 true (.slice (some ⟨w1.heap.size, 0, none⟩) 2 2) (.slice none 0 0)) (by kernel_rfl) ?_)
  | ((with_reducible refine qA 2 ?_); refine D8 rfl _ rfl (by kernel_rfl) ?_; intro w3 hA hb; replace hP := hP.ext hb; have hl2 := hA.lt; have hl3 := hB.size; replace hB := hB.trans (hb.mono hB.size); clear hb)
  | ((with_reducible refine qN ?_); go_loud (refine D7 rfl 96 _ _ rfl w2.heap.size (C7 true (.slice (some ⟨w1.heap.size, 0, none⟩) 2 2) (.slice none 0 0)) rfl rfl _ _ hA (Ga _ _ _) (by rw [IK]; kernel_rfl) (cert_one _ _ _ _ _ _ _) ?_); go_loud (intro w4 hC hU); replace hP := hP.upd hU (fun b h hl => by omega); replace hB := hU.below hB (by omega); clear hA hU))
 have hS8 := fun (w : World) (x : Int) => Sl.new w 3 (Bm [x]) (by simp [Bm])
 have H8 := Lib.hid hS8
 clear hS8
 have hP5 := hP.ext ((Below.refl _ w4).alloc (Nat.le_refl _) (.cells #[.int .i64 1] 3))
 refine (of_any _ [1] _ _ (H8.out w4 1)).mono ?_
 rintro e w6 ⟨v9, rfl, h9, hb⟩
 replace hb : Below w4.heap.size w4 w6 := ((Below.refl _ w4).alloc (Nat.le_refl _) _).trans (hb.mono (by simp))
 replace hP := hP.ext hb
 replace hC := hC.ext hb
 have hl4 := hC.lt
 have hs6 := hb.size
 replace hB := hB.trans (hb.mono hB.size)
 clear hb hP5
 obtain ⟨A9, c9, l9, rfl, _⟩ := id h9.parts
 go_wp2_with fail
 refine (of_any _ [3] _ _ (H8.out w6 3)).mono ?_
 rintro e w8 ⟨v11, rfl, h11, hb⟩
 replace hb : Below w6.heap.size w6 w8 := ((Below.refl _ w6).alloc (Nat.le_refl _) _).trans (hb.mono (by simp))
 replace hP := hP.ext hb
 replace hC := hC.ext hb
 replace h9 := h9.ext hb
 have hs8 := hb.size
 replace hB := hB.trans (hb.mono hB.size)
 clear hb
 obtain ⟨A11, c11, l11, rfl, _⟩ := id h11.parts
 go_wp2_with (first
  | ((with_reducible refine qA 12 ?_); refine Bt rfl _ _ rfl #[.slice A9 l9.length c9, .slice A11 l11.length c11] (by kernel_rfl) ?_)
  | ((with_reducible refine qA 13 ?_); refine BC rfl _ 56 _ _ rfl Tryz.underlying41 #[.slice A9 l9.length c9, .slice A11 l11.length c11] (by kernel_rfl) ?_; intro w9 hX hb; have hl8 := hX.lt; have hq := (Ab.one hX (h9.ext hb) (h11.ext hb)).imp (D' := (· < w9.heap.size)) (fun _ _ h => h); replace hP := hP.ext hb; replace hC := hC.ext hb; replace hB := hB.trans (hb.mono hB.size); clear hX h9 h11 hb)
  | ((with_reducible refine qA 14 ?_); refine Bt rfl _ _ rfl (C7 false (.slice none 0 0) (.slice (some ⟨w8.heap.size, 0, none⟩) 1 1)) (by kernel_rfl) ?_)
  | ((with_reducible refine qA 3 ?_); refine D8 rfl _ rfl (by kernel_rfl) ?_; intro w10 hA hb; have hl9 := hA.lt; have hs9 := hB.size; replace hP := hP.ext hb; replace hC := hC.ext hb; replace hq := hq.ext hb; replace hB := hB.trans (hb.mono hB.size); clear hb)
  | ((with_reducible refine qN ?_); refine D7 rfl 96 _ _ rfl w9.heap.size (C7 false (.slice none 0 0) (.slice (some ⟨w8.heap.size, 0, none⟩) 1 1)) rfl rfl _ _ hA (Ga _ _ _) (by rw [IK]; kernel_rfl) (cert_one _ _ _ _ _ _ _) ?_; intro w11 hC2 hU; replace hP := hP.upd hU (fun b h hl => by omega); replace hC := hC.upd hU (by omega); replace hq := hq.upd hU (fun b h hl => by omega); replace hB := hU.below hB (by omega); clear hA hU))
 have hcA : C5 w11 (fun _ => True) (.agg (C7 true (.slice (some ⟨w1.heap.size, 0, none⟩) 2 2) (.slice none 0 0))) G6 := C5.of (plan := [2, 0]) (cubes := []) (by simp) (Dz 32) (hP.imp fun _ _ _ => trivial) Ab.none_
 have hcB : C5 w11 (fun _ => True) (.agg (C7 false (.slice none 0 0) (.slice (some ⟨w8.heap.size, 0, none⟩) 1 1))) exB := C5.of (plan := []) (cubes := [(2, 8)]) (by simp) (Dz 32) Sl.none_ (hq.imp fun _ _ _ => trivial)
 replace hT := hT.ext hB
 have hzs : z.size <= 32 := by rw [HZ.out, strOf_size]; simp
 have hqA : ((Fk (AE G6)).toList == (z ++ { data := #[1, 2, 2, 0, 0] }).toList) = true := by rw [HZ.out, exA_bytes]; simp
 have hqB : ((Fk (AE exB)).toList == (z ++ { data := #[0, 0, 1, 1, 2, 1, 8] }).toList) = true := by rw [HZ.out, exB_bytes]; simp
 have cvA := fun (w : World) (D : Nat -> Prop) (v : Value) (h : Sl w D 1 v (AE G6).length (Aa (AE G6))) => conv_sl h exA_by
 have cvB := fun (w : World) (D : Nat -> Prop) (v : Value) (h : Sl w D 1 v (AE exB).length (Aa (AE exB))) => conv_sl h exB_by
 generalize Fk (AE G6) = sA at *
 generalize Fk (AE exB) = sB at *
 have HCA := Lib.hid cvA
 have HCB := Lib.hid cvB
 have heq := exA_id
 have hidl := idC_len G6
 have htl := fun (w : World) => fun (pv p : Value) (D : Nat -> Prop) (hT : GM w) (h1 : Sl w D 1 pv 1 [p]) (h2 : Sl w D 1 p (AE G6).length (Aa (AE G6))) => Gx Gb pv p (AE G6) w D hT h1 h2 exA_by (by decide) (by have := exA_len; omega)
 rw [<- heq] at htl
 have hidc := fun (w : World) (D : Nat -> Prop) (v : Value) (hT : GM w) (h : C5 w D v G6) => cid_any v G6 w D hT h
 generalize idC G6 = idl at *
 have kI := fun (w : World) => eql_id w idl idl hidl hidl
 simp only [BEq.rfl] at kI
 have HTL := Lib.hid htl
 have HID := Lib.hid hidc
 have hiA := Ga true (.slice (some ⟨w1.heap.size, 0, none⟩) 2 2) (.slice none 0 0)
 have hiB := Ga false (.slice none 0 0) (.slice (some ⟨w8.heap.size, 0, none⟩) 1 1)
 generalize C7 true (.slice (some ⟨w1.heap.size, 0, none⟩) 2 2) (.slice none 0 0) = cA at *
 generalize C7 false (.slice none 0 0) (.slice (some ⟨w8.heap.size, 0, none⟩) 1 1) = cB at *
 clear hP hq cvA cvB heq hidl htl hidc
 refine Fj (fun i v w => match i with
  | 0 => v = .agg cA
  | 1 => Sl w (fun _ => True) 1 v (AE G6).length (Aa (AE G6))
  | 2 => v = .string sA
  | 3 => v = .string z
  | 4 => v = .string (z ++ { data := #[1, 2, 2, 0, 0] })
  | 5 => v = .bool true
  | 6 => v = .bool true
  | 7 => v = .agg cB
  | 8 => Sl w (fun _ => True) 1 v (AE exB).length (Aa (AE exB))
  | 9 => v = .string sB
  | 10 => v = .string z
  | 11 => v = .string (z ++ { data := #[0, 0, 1, 1, 2, 1, 8] })
  | 12 => v = .bool true
  | 13 => v = .bool true
  | 14 => v = .bool true
  | 15 => v = .agg cA
  | 16 => v = .agg (Aa idl).toArray
  | 17 => v = .agg cA
  | 18 => Sl w (fun _ => True) 1 v (AE G6).length (Aa (AE G6))
  | 19 => ∃ p, Sl w (fun _ => True) 1 v 1 [p] /\ Sl w (fun _ => True) 1 p (AE G6).length (Aa (AE G6))
  | 20 => v = .agg (Aa idl).toArray
  | 21 => v = .bool true
  | 22 => v = .bool true
  | 23 => v = .bool true
  | _ => True) (by kernel_rfl) (by kernel_rfl) ?mono ⟨?r0, ?r1, ?r2, ?r3, ?r4, ?r5, ?r6, ?r7, ?r8, ?r9, ?r10, ?r11, ?r12, ?r13, ?r14, ?r15, ?r16, ?r17, ?r18, ?r19, ?r20, ?r21, ?r22, ?r23, trivial⟩ ?post
 case mono =>
  intro i v w w' h hb
  match i, h with
  | 0, h => exact h
  | 1, h => exact Sl.ext h hb
  | 2, h | 3, h | 4, h | 5, h | 6, h | 7, h => exact h
  | 8, h => exact Sl.ext h hb
  | 9, h | 10, h | 11, h | 12, h | 13, h | 14, h | 15, h | 16, h | 17, h => exact h
  | 18, h => exact Sl.ext h hb
  | 19, h => exact (let ⟨p, h1, h2⟩ := h; ⟨p, h1.ext hb, h2.ext hb⟩)
  | 20, h | 21, h | 22, h | 23, h => exact h
  | _ + 24, h => trivial
 case r0 =>
  refine BU fun b w hW hold hpre => ⟨fun hwant K hK => ?_, fun hwant => ?_⟩
  ·clear hwant
   have e2 : b.eval (.tmp 2) = .pointer (some ⟨w2.heap.size, 0, none⟩) := (hold 2 (by kernel_rfl)).trans rfl
   exact C2 rfl e2 (hC.ext (Bl hW)) Tryz.underlying96 rfl hiA (hK _ _ rfl (Below.refl _ _))
  ·exact wo hwant
 case r1 =>
  refine BU fun b w hW hold hpre => ⟨fun hwant K hK => ?_, fun hwant => ?_⟩
  ·clear hwant
   have e15 : b.eval (.tmp 15) = .agg cA := hpre ⟨0, _⟩ (Array.mem_of_getElem? (i := 0) rfl) rfl _ _ rfl rfl
   exact AV rfl (by kernel_rfl) (by simp [e15]) (Fe _ G6 w _ (hcA.ext (Bl hW))) fun v w' h hb => hK v w' (h.imp fun _ _ _ => trivial) hb
  ·exact wo hwant
 case r2 =>
  refine BU fun b w hW hold hpre => ⟨fun hwant K hK => ?_, fun hwant => ?_⟩
  ·clear hwant
   have e16 : (fun (v : Value) (w : World) => Sl w (fun _ => True) 1 v (AE G6).length (Aa (AE G6))) (b.eval (.tmp 16)) w := hpre ⟨1, _⟩ (Array.mem_of_getElem? (i := 0) rfl) rfl _ _ rfl rfl
   exact BW rfl rfl (HCA.out w _ _ e16) (hK _ _ rfl (Below.refl _ _))
  ·exact wo hwant
 case r3 =>
  refine BU fun b w hW hold hpre => ⟨fun hwant K hK => ?_, fun hwant => ?_⟩
  ·clear hwant
   have e1 : b.eval (.tmp 1) = .string z := (hold 1 (by kernel_rfl)).trans rfl
   exact BF rfl e1 (hK _ _ rfl (Below.refl _ _))
  ·exact wo hwant
 case r4 =>
  refine BU fun b w hW hold hpre => ⟨fun hwant K hK => ?_, fun hwant => ?_⟩
  ·clear hwant
   have e18 : b.eval (.tmp 18) = .string z := hpre ⟨3, _⟩ (Array.mem_of_getElem? (i := 0) rfl) rfl _ _ rfl rfl
   exact Az (vy := .string { data := #[1, 2, 2, 0, 0] }) rfl e18 rfl rfl (by rw [binOp_string_add]; exact run_string_add_sum _ _ _ (by have h5 : ({ data := #[1, 2, 2, 0, 0] } : ByteArray).size = 5 := rfl; omega)) (hK _ _ rfl (Below.refl _ _))
  ·exact wo hwant
 case r5 =>
  refine BU fun b w hW hold hpre => ⟨fun hwant K hK => ?_, fun hwant => ?_⟩
  ·clear hwant
   have e17 : b.eval (.tmp 17) = .string sA := hpre ⟨2, _⟩ (Array.mem_of_getElem? (i := 0) rfl) rfl _ _ rfl rfl
   have e19 : b.eval (.tmp 19) = .string (z ++ { data := #[1, 2, 2, 0, 0] }) := hpre ⟨4, _⟩ (Array.mem_of_getElem? (i := 1) rfl) rfl _ _ rfl rfl
   exact Az rfl e17 e19 rfl (str_eql hqA w) (hK _ _ rfl (Below.refl _ _))
  ·exact wo hwant
 case r6 =>
  refine BU fun b w hW hold hpre => ⟨fun hwant K hK => ?_, fun hwant => ?_⟩
  ·clear hwant
   have e20 : b.eval (.tmp 20) = .bool true := hpre ⟨5, _⟩ (Array.mem_of_getElem? (i := 0) rfl) rfl _ _ rfl rfl
   exact BF rfl e20 (hK _ _ rfl (Below.refl _ _))
  ·exact wo hwant
 case r7 =>
  refine BU fun b w hW hold hpre => ⟨fun hwant K hK => ?_, fun hwant => ?_⟩
  ·clear hwant
   have e3 : b.eval (.tmp 3) = .pointer (some ⟨w9.heap.size, 0, none⟩) := (hold 3 (by kernel_rfl)).trans rfl
   exact C2 rfl e3 (hC2.ext (Bl hW)) Tryz.underlying96 rfl hiB (hK _ _ rfl (Below.refl _ _))
  ·rw [Bq rfl rfl rfl (show b.eval (.tmp 21) = .bool true from hpre ⟨6, _⟩ (Array.mem_of_getElem? (i := 0) rfl) rfl _ _ rfl rfl)] at hwant; cases hwant
 case r8 =>
  refine BU fun b w hW hold hpre => ⟨fun hwant K hK => ?_, fun hwant => ?_⟩
  ·clear hwant
   have e22 : b.eval (.tmp 22) = .agg cB := hpre ⟨7, _⟩ (Array.mem_of_getElem? (i := 0) rfl) rfl _ _ rfl rfl
   exact AV rfl (by kernel_rfl) (by simp [e22]) (Fe _ exB w _ (hcB.ext (Bl hW))) fun v w' h hb => hK v w' (h.imp fun _ _ _ => trivial) hb
  ·rw [Bq rfl rfl rfl (show b.eval (.tmp 21) = .bool true from hpre ⟨6, _⟩ (Array.mem_of_getElem? (i := 1) rfl) rfl _ _ rfl rfl)] at hwant; cases hwant
 case r9 =>
  refine BU fun b w hW hold hpre => ⟨fun hwant K hK => ?_, fun hwant => ?_⟩
  ·clear hwant
   have e23 : (fun (v : Value) (w : World) => Sl w (fun _ => True) 1 v (AE exB).length (Aa (AE exB))) (b.eval (.tmp 23)) w := hpre ⟨8, _⟩ (Array.mem_of_getElem? (i := 0) rfl) rfl _ _ rfl rfl
   exact BW rfl rfl (HCB.out w _ _ e23) (hK _ _ rfl (Below.refl _ _))
  ·rw [Bq rfl rfl rfl (show b.eval (.tmp 21) = .bool true from hpre ⟨6, _⟩ (Array.mem_of_getElem? (i := 1) rfl) rfl _ _ rfl rfl)] at hwant; cases hwant
 case r10 =>
  refine BU fun b w hW hold hpre => ⟨fun hwant K hK => ?_, fun hwant => ?_⟩
  ·clear hwant
   have e1 : b.eval (.tmp 1) = .string z := (hold 1 (by kernel_rfl)).trans rfl
   exact BF rfl e1 (hK _ _ rfl (Below.refl _ _))
  ·rw [Bq rfl rfl rfl (show b.eval (.tmp 21) = .bool true from hpre ⟨6, _⟩ (Array.mem_of_getElem? (i := 0) rfl) rfl _ _ rfl rfl)] at hwant; cases hwant
 case r11 =>
  refine BU fun b w hW hold hpre => ⟨fun hwant K hK => ?_, fun hwant => ?_⟩
  ·clear hwant
   have e25 : b.eval (.tmp 25) = .string z := hpre ⟨10, _⟩ (Array.mem_of_getElem? (i := 0) rfl) rfl _ _ rfl rfl
   exact Az (vy := .string { data := #[0, 0, 1, 1, 2, 1, 8] }) rfl e25 rfl rfl (by rw [binOp_string_add]; exact run_string_add_sum _ _ _ (by have h7 : ({ data := #[0, 0, 1, 1, 2, 1, 8] } : ByteArray).size = 7 := rfl; omega)) (hK _ _ rfl (Below.refl _ _))
  ·rw [Bq rfl rfl rfl (show b.eval (.tmp 21) = .bool true from hpre ⟨6, _⟩ (Array.mem_of_getElem? (i := 1) rfl) rfl _ _ rfl rfl)] at hwant; cases hwant
 case r12 =>
  refine BU fun b w hW hold hpre => ⟨fun hwant K hK => ?_, fun hwant => ?_⟩
  ·clear hwant
   have e24 : b.eval (.tmp 24) = .string sB := hpre ⟨9, _⟩ (Array.mem_of_getElem? (i := 0) rfl) rfl _ _ rfl rfl
   have e26 : b.eval (.tmp 26) = .string (z ++ { data := #[0, 0, 1, 1, 2, 1, 8] }) := hpre ⟨11, _⟩ (Array.mem_of_getElem? (i := 1) rfl) rfl _ _ rfl rfl
   exact Az rfl e24 e26 rfl (str_eql hqB w) (hK _ _ rfl (Below.refl _ _))
  ·rw [Bq rfl rfl rfl (show b.eval (.tmp 21) = .bool true from hpre ⟨6, _⟩ (Array.mem_of_getElem? (i := 2) rfl) rfl _ _ rfl rfl)] at hwant; cases hwant
 case r13 =>
  refine BU fun b w hW hold hpre => ⟨fun hwant K hK => ?_, fun hwant => ?_⟩
  ·clear hwant
   have e21 : b.eval (.tmp 21) = .bool true := hpre ⟨6, _⟩ (Array.mem_of_getElem? (i := 0) rfl) rfl _ _ rfl rfl
   have e27 : b.eval (.tmp 27) = .bool true := hpre ⟨12, _⟩ (Array.mem_of_getElem? (i := 1) rfl) rfl _ _ rfl rfl
   exact Kf rfl e21 (if_pos rfl) (hK _ _ e27 (Below.refl _ _))
  ·exact wo hwant
 case r14 =>
  refine BU fun b w hW hold hpre => ⟨fun hwant K hK => ?_, fun hwant => ?_⟩
  ·clear hwant
   have e28 : b.eval (.tmp 28) = .bool true := hpre ⟨13, _⟩ (Array.mem_of_getElem? (i := 0) rfl) rfl _ _ rfl rfl
   exact BF rfl e28 (hK _ _ rfl (Below.refl _ _))
  ·exact wo hwant
 case r15 =>
  refine BU fun b w hW hold hpre => ⟨fun hwant K hK => ?_, fun hwant => ?_⟩
  ·clear hwant
   have e2 : b.eval (.tmp 2) = .pointer (some ⟨w2.heap.size, 0, none⟩) := (hold 2 (by kernel_rfl)).trans rfl
   exact C2 rfl e2 (hC.ext (Bl hW)) Tryz.underlying96 rfl hiA (hK _ _ rfl (Below.refl _ _))
  ·rw [Bq rfl rfl rfl (show b.eval (.tmp 29) = .bool true from hpre ⟨14, _⟩ (Array.mem_of_getElem? (i := 0) rfl) rfl _ _ rfl rfl)] at hwant; cases hwant
 case r16 =>
  refine BU fun b w hW hold hpre => ⟨fun hwant K hK => ?_, fun hwant => ?_⟩
  ·clear hwant
   have e30 : b.eval (.tmp 30) = .agg cA := hpre ⟨15, _⟩ (Array.mem_of_getElem? (i := 0) rfl) rfl _ _ rfl rfl
   exact AV rfl (by kernel_rfl) (by simp [e30]) (HID.out w _ _ (hT.ext (Bl hW)) (hcA.ext (Bl hW))) fun v w' h hb => hK v w' h hb
  ·rw [Bq rfl rfl rfl (show b.eval (.tmp 29) = .bool true from hpre ⟨14, _⟩ (Array.mem_of_getElem? (i := 1) rfl) rfl _ _ rfl rfl)] at hwant; cases hwant
 case r17 =>
  refine BU fun b w hW hold hpre => ⟨fun hwant K hK => ?_, fun hwant => ?_⟩
  ·clear hwant
   have e2 : b.eval (.tmp 2) = .pointer (some ⟨w2.heap.size, 0, none⟩) := (hold 2 (by kernel_rfl)).trans rfl
   exact C2 rfl e2 (hC.ext (Bl hW)) Tryz.underlying96 rfl hiA (hK _ _ rfl (Below.refl _ _))
  ·rw [Bq rfl rfl rfl (show b.eval (.tmp 29) = .bool true from hpre ⟨14, _⟩ (Array.mem_of_getElem? (i := 0) rfl) rfl _ _ rfl rfl)] at hwant; cases hwant
 case r18 =>
  refine BU fun b w hW hold hpre => ⟨fun hwant K hK => ?_, fun hwant => ?_⟩
  ·clear hwant
   have e32 : b.eval (.tmp 32) = .agg cA := hpre ⟨17, _⟩ (Array.mem_of_getElem? (i := 0) rfl) rfl _ _ rfl rfl
   exact AV rfl (by kernel_rfl) (by simp [e32]) (Fe _ G6 w _ (hcA.ext (Bl hW))) fun v w' h hb => hK v w' (h.imp fun _ _ _ => trivial) hb
  ·rw [Bq rfl rfl rfl (show b.eval (.tmp 29) = .bool true from hpre ⟨14, _⟩ (Array.mem_of_getElem? (i := 2) rfl) rfl _ _ rfl rfl)] at hwant; cases hwant
 case r19 =>
  refine BU fun b w hW hold hpre => ⟨fun hwant K hK => ?_, fun hwant => ?_⟩
  ·clear hwant
   have e33 : (fun (v : Value) (w : World) => Sl w (fun _ => True) 1 v (AE G6).length (Aa (AE G6))) (b.eval (.tmp 33)) w := hpre ⟨18, _⟩ (Array.mem_of_getElem? (i := 0) rfl) rfl _ _ rfl rfl
   obtain ⟨A, c, hp, _⟩ := Sl.shape e33
   refine CX rfl Tryz.underlying166 (ps := [(0, .slice A (AE G6).length c)]) (by simp [hp]) (cells := #[.slice A (AE G6).length c]) (by kernel_rfl) fun w' hX hb => hK _ _ ⟨.slice A (AE G6).length c, (Sl.of_box (n := 1) (size := 1) hX rfl (by omega)).imp fun _ _ _ => trivial, ?_⟩ hb
   rw [<- hp]; exact Sl.ext e33 hb
  ·rw [Bq rfl rfl rfl (show b.eval (.tmp 29) = .bool true from hpre ⟨14, _⟩ (Array.mem_of_getElem? (i := 1) rfl) rfl _ _ rfl rfl)] at hwant; cases hwant
 case r20 =>
  refine BU fun b w hW hold hpre => ⟨fun hwant K hK => ?_, fun hwant => ?_⟩
  ·clear hwant
   have e34 : (fun (v : Value) (w : World) => ∃ p, Sl w (fun _ => True) 1 v 1 [p] /\ Sl w (fun _ => True) 1 p (AE G6).length (Aa (AE G6))) (b.eval (.tmp 34)) w := hpre ⟨19, _⟩ (Array.mem_of_getElem? (i := 0) rfl) rfl _ _ rfl rfl
   obtain ⟨p, h1, h2⟩ := e34
   exact AV (vs := [.string Gb, b.eval (.tmp 34)]) rfl (by kernel_rfl) rfl (HTL.out w (b.eval (.tmp 34)) p _ (hT.ext (Bl hW)) h1 h2) fun v w' h hb => hK v w' h hb
  ·rw [Bq rfl rfl rfl (show b.eval (.tmp 29) = .bool true from hpre ⟨14, _⟩ (Array.mem_of_getElem? (i := 2) rfl) rfl _ _ rfl rfl)] at hwant; cases hwant
 case r21 =>
  refine BU fun b w hW hold hpre => ⟨fun hwant K hK => ?_, fun hwant => ?_⟩
  ·clear hwant
   have e31 : b.eval (.tmp 31) = .agg (Aa idl).toArray := hpre ⟨16, _⟩ (Array.mem_of_getElem? (i := 0) rfl) rfl _ _ rfl rfl
   have e35 : b.eval (.tmp 35) = .agg (Aa idl).toArray := hpre ⟨20, _⟩ (Array.mem_of_getElem? (i := 1) rfl) rfl _ _ rfl rfl
   exact Az rfl e31 e35 rfl (kI w) (hK _ _ rfl (Below.refl _ _))
  ·rw [Bq rfl rfl rfl (show b.eval (.tmp 29) = .bool true from hpre ⟨14, _⟩ (Array.mem_of_getElem? (i := 2) rfl) rfl _ _ rfl rfl)] at hwant; cases hwant
 case r22 =>
  refine BU fun b w hW hold hpre => ⟨fun hwant K hK => ?_, fun hwant => ?_⟩
  ·clear hwant
   have e29 : b.eval (.tmp 29) = .bool true := hpre ⟨14, _⟩ (Array.mem_of_getElem? (i := 0) rfl) rfl _ _ rfl rfl
   have e36 : b.eval (.tmp 36) = .bool true := hpre ⟨21, _⟩ (Array.mem_of_getElem? (i := 1) rfl) rfl _ _ rfl rfl
   exact Kf rfl e29 (if_pos rfl) (hK _ _ e36 (Below.refl _ _))
  ·exact wo hwant
 case r23 =>
  refine BU fun b w hW hold hpre => ⟨fun hwant K hK => ?_, fun hwant => ?_⟩
  ·clear hwant
   have e37 : b.eval (.tmp 37) = .bool true := hpre ⟨22, _⟩ (Array.mem_of_getElem? (i := 0) rfl) rfl _ _ rfl rfl
   exact Dr rfl e37 (hK _ _ rfl (Below.refl _ _))
  ·exact wo hwant
 case post =>
  intro b w hW hdf hsz hold hT
  have h0 : b.tmps.getD 0 undef = .bool true := hT 23 _ 0 rfl rfl
  go_wp2_with fail
  refine bodyPost_ret (v := .bool true) ?_ hdf (Ax.mk rfl (CE hB hW))
  rw [results_tmp (t := 0) rfl, h0]
end
section
open Go.RowKit
set_option maxRecDepth 20000
set_option exponentiation.threshold 5000
theorem t64_4096 : AA <= 2 ^ 4096 := by rw [C1]; exact Nat.pow_le_pow_right (by decide) (by decide)
theorem BH {N : Nat} (h : N < AA) : N < 2 ^ 4096 /\ (N ≠ 0 -> N.log2 <= 63) := by
 refine ⟨Nat.lt_of_lt_of_le h t64_4096, fun h0 => ?_⟩
 have := (Nat.log2_lt h0).2 (by rw [C1] at h; exact h)
 omega
end
section
open Go.RowKit
set_option maxRecDepth 20000
set_option exponentiation.threshold 5000
theorem hi7_zero (f : Nat) : hi7 f 0 = [] := by cases f <;> simp [hi7]
end
section
open Go.RowKit
set_option maxRecDepth 20000
set_option exponentiation.threshold 5000
end
section
open Go.RowKit
attribute [local go_sem ↓] Go.wp_at_zero Go.wp_at_succ
set_option maxRecDepth 20000
theorem AK.rep (n : Nat) : AK (List.replicate n 0) := fun x hx => by rw [(List.mem_replicate.1 hx).2]; decide
end
section
open Go.RowKit
attribute [local go_sem ↓] Go.wp_at_zero Go.wp_at_succ
set_option maxRecDepth 20000
set_option exponentiation.threshold 5000
theorem FU : Bn Tryz.prog 22 5 1 1 := ⟨Tryz.underlying22, by kernel_rfl⟩
end
section
open Go.RowKit
attribute [local go_sem ↓] Go.wp_at_zero Go.wp_at_succ
set_option maxRecDepth 20000
set_option exponentiation.threshold 5000
def Fn (w : World) (base : Nat) (x : Value) (bs : List Nat) : Prop := w.ownsRow base 5 1 x bs.length (Aa bs)
set_option maxHeartbeats 1000000 in
theorem DA (V : Nat) (hV : V < AA) (w0 : World) : Calls Tryz.prog 161 #[.int .u64 (V : Nat)] w0 (Ax (fun x w' => Fn w' w0.heap.size x (Ao V)) w0) := by
 have hS := St.start0 (w := w0)
 have hR : Hid (∃ f, V / 128 < 128 ^ f /\ Ao V = (hi7 f (V / 128)).reverse ++ [V % 128]) := Lib.hid ⟨10, by unfold AA at hV; omega, by simp [Ao]⟩
 have HL := Lib.hid (Aw V)
 generalize Ao V = RES at *
 have h1 := Fv V 128
 have h2 : IntKind.u8.wrap ((V % 128 : Nat) : Int) = ((V % 128 : Nat) : Int) := IL (by omega)
 have h0 : V % 128 < 256 := by omega
 generalize V % 128 = r0 at *
 go_enter Tryz.func161, Tryz.ntmps161
 go_wp2_with ((with_reducible show wpList _ _ _ (⟨_, .buildSlice _ 1 _, _, _, _, _⟩ :: _) _ _); refine Df hS rfl _ 5 1 _ rfl Tryz.underlying22 #[.int .u8 (r0 : Nat)] (by kernel_rfl) 1 rfl (by decide) ?_; clear hS; intro g w_ hS)
 go_loopw [0, 3] (fun n out wr => ∃ (v : Nat) (acc : List Nat) (ov : Value), n = .int .u64 (v : Nat) /\ out = ov /\ v < AA /\ St w0 wr [.own ov 5 1 acc.length (Aa acc)] (fun _ _ => True) /\ Hid (∃ f, v / 128 < 128 ^ f /\ RES = (hi7 f (v / 128)).reverse ++ acc)) (fun n _ _ => (intOf n).toNat)
 case atStart => exact ⟨V, [r0], _, rfl, rfl, hV, hS, hR⟩
 case round =>
  clear hS
  obtain ⟨v, acc, ov, rfl, rfl, hv, hS, hR⟩ := hrel
  by_cases hb : v < 128
  ·have hE : RES = acc := by
    obtain ⟨f, _, h⟩ := hR.out
    rw [h, show v / 128 = 0 by omega, hi7_zero]; rfl
   subst hE
   go_wp2_with (first | ((with_reducible refine qB ?_); refine qc ?_ ?_ <;> intro h_ <;> go_prune))
   go_ret
   exact Ax.mk (hS.own 0 rfl) hS.below
  ·obtain ⟨q, hqe⟩ : ∃ q, q = v / 128 := ⟨_, rfl⟩
   rw [<- hqe] at hR
   have h1 : ((q : Int)).tmod 128 = ((q % 128 : Nat) : Int) := Fv q 128
   have h2 : (((q % 128 : Nat) : Int)) % 256 = ((q % 128 : Nat) : Int) := by omega
   have h3 : (((q % 128 : Nat) : Int) + 128) % 256 = ((q % 128 : Nat) : Int) + 128 := by omega
   have hw : IntKind.u64.wrap ((v : Int) / 128) = ((q : Nat) : Int) := by
    rw [show (v : Int) / 128 = ((q : Nat) : Int) by rw [hqe]; simp]; exact Cn (by omega)
   have hR2 : Hid (∃ f, q / 128 < 128 ^ f /\ RES = (hi7 f (q / 128)).reverse ++ ((q % 128 + 128) :: acc)) := by
    obtain ⟨f, h, e⟩ := hR.out
    cases f with
    | zero => simp at h; omega
    | succ f =>
     refine Lib.hid ⟨f, by rw [Nat.pow_succ] at h; omega, ?_⟩
     rw [e, hi7, if_neg (by omega)]; simp
   have hlt : q < v := by omega
   have hv2 : q < AA := by omega
   have h0 : q % 128 < 128 := by omega
   generalize q % 128 = r at *
   have hal : acc.length <= 11 := by
    obtain ⟨f, _, e⟩ := hR.out
    have := congrArg List.length e
    rw [List.length_append] at this
    have := HL.out; omega
   have HQ := Lib.hid hqe
   clear hR hqe
   go_wp2_with (first
    | ((with_reducible refine qB ?_); refine qc ?_ ?_ <;> intro h_ <;> go_prune)
    | ((with_reducible show wpList _ _ _ (⟨_, .buildSlice _ 1 _, _, _, _, _⟩ :: _) _ _); refine Df hS rfl _ 5 1 _ rfl Tryz.underlying22 #[.int .u8 ((r : Int) + 128)] (by kernel_rfl) 1 rfl (by decide) ?_; clear hS; intro g w_ hS)
    | ((with_reducible refine qA 18 ?_); refine Dk hS 0 rfl _ _ _ rfl FU _ 1 [.int .u8 ((r : Int) + 128)] rfl rfl _ _ acc.length (Aa acc) rfl (Sl.of_own (hS.own 1 rfl)) (B6 _) (by unfold maxLen; omega) (by omega) ?_; clear hS; intro v_ w_ hS; (try simp only [Act.put, Act.eval, zz, Value.cells] at hS)))
   refine ⟨⟨q, (r + 128) :: acc, v_, rfl, rfl, hv2, ?_, hR2⟩, by simp [intOf]; exact hlt⟩
   have h := hS.sub (F' := [_]) (.cons_cons _ (.cons _ .slnil))
   rw [Nat.add_comm 1] at h
   simpa [Aa] using h
theorem rflag02_any (b : Bool) (w0 : World) : Calls Tryz.prog 164 #[.bool b] w0 (Ax (fun x w' => Fn w' w0.heap.size x (BB b)) w0) := by
 have hS := St.start0 (w := w0)
 go_enter Tryz.func164, Tryz.ntmps164
 cases b
 ·go_wp2_with ((with_reducible show wpList _ _ _ (⟨_, .buildSlice _ 1 _, _, _, _, _⟩ :: _) _ _); refine Df hS rfl _ 5 1 _ rfl Tryz.underlying22 #[.int .u8 0] (by kernel_rfl) 1 rfl (by decide) ?_; clear hS; intro g w_ hS)
  go_ret
  exact Ax.mk (hS.own 0 rfl) hS.below
 ·go_wp2_with ((with_reducible show wpList _ _ _ (⟨_, .buildSlice _ 1 _, _, _, _, _⟩ :: _) _ _); refine Df hS rfl _ 5 1 _ rfl Tryz.underlying22 #[.int .u8 1] (by kernel_rfl) 1 rfl (by decide) ?_; clear hS; intro g w_ hS)
  go_ret
  exact Ax.mk (hS.own 0 rfl) hS.below
theorem Ht {w : World} {base n : Nat} {v : Value} {xs : List Value} {bs : List Nat} (h : w.ownsRow base 5 1 v n xs) (e : xs = Aa bs) : Fn w base v bs := by
 subst e
 have : bs.length = n := by have := h.1; simpa [Aa] using this
 unfold Fn; rw [this]; exact h
theorem G0 (p : Value) (ps : List Nat) (hl : ps.length <= 1000000000) (w0 : World) (D : Nat -> Prop) (hp : Sl w0 D 1 p ps.length (Aa ps)) :
  Calls Tryz.prog 159 #[p] w0 (Ax (fun x w' => Fn w' w0.heap.size x (Ao ps.length ++ ps)) w0) := by
 have hS := St.start0 (w := w0)
 obtain ⟨A, c, rfl, _, _⟩ := hp.shape
 have HP := Lib.hid hp
 have hw : IntKind.u64.wrap (ps.length : Int) = (ps.length : Int) := Cn (by unfold AA; omega)
 have hpl := Aw ps.length
 clear hp
 go_enter Tryz.func159, Tryz.ntmps159
 go_wp2_with (first
  | (go_at_call 161; refine (DA ps.length (by unfold AA; omega) _).mono ?_; rintro r_ w1 ⟨v, rfl, h1, hb1⟩; replace hS := hS.owned hb1 h1; replace HP := Lib.hid (HP.out.ext hb1); clear h1 hb1)
  | ((with_reducible refine qA 8 ?_); refine Dk hS 0 rfl _ _ _ rfl FU _ _ _ rfl rfl _ _ ps.length (Aa ps) rfl HP.out (B6 _) (by unfold maxLen; omega) (by omega) ?_; clear hS; intro v_ w_ hS; (try simp only [Act.put, Act.eval, zz, Value.cells] at hS)))
 go_ret
 exact Ax.mk (Ht (hS.own 0 rfl) (by simp [Aa])) hS.below
def Ce (l : List Nat) : Nat := l.foldl (fun M x => M ||| 2 ^ x) 0
theorem orAll_fold (l : List Nat) : ∀ M i, (l.foldl (fun M x => M ||| 2 ^ x) M).testBit i = (M.testBit i || decide (i ∈ l)) := by
 induction l with
 | nil => simp
 | cons x r ih =>
  intro M i
  rw [List.foldl_cons, ih, Nat.testBit_or, Nat.testBit_two_pow]
  by_cases h : x = i
  ·subst h; simp
  ·have : ¬ i = x := fun e => h e.symm
   simp [h, this]
theorem DR (l : List Nat) (i : Nat) : (Ce l).testBit i = decide (i ∈ l) := by simp [Ce, orAll_fold]
theorem orAll_members {N : Nat} (h : N < AA) : Ce (Cv N) = N := by
 apply Nat.eq_of_testBit_eq
 intro i
 rw [DR]
 by_cases hi : i < 64
 ·simp [Cv, BX, hi]
 ·rw [Dj h (by omega)]; simp [Cv, BX, hi]
def topN (l : List Nat) : Int := l.foldl (fun (t : Int) (x : Nat) => if (x : Int) > t then (x : Int) else t) (-1)
theorem topN_fold (l : List Nat) : ∀ t : Int, -1 <= t -> -1 <= l.foldl (fun (t : Int) (x : Nat) => if (x : Int) > t then (x : Int) else t) t /\ t <= l.foldl (fun (t : Int) (x : Nat) => if (x : Int) > t then (x : Int) else t) t /\ (∀ x ∈ l, (x : Int) <= l.foldl (fun (t : Int) (x : Nat) => if (x : Int) > t then (x : Int) else t) t) /\ (l.foldl (fun (t : Int) (x : Nat) => if (x : Int) > t then (x : Int) else t) t = t \/ ∃ x ∈ l, l.foldl (fun (t : Int) (x : Nat) => if (x : Int) > t then (x : Int) else t) t = (x : Int)) := by
 induction l with
 | nil => intro t h; exact ⟨h, Int.le_refl _, by simp, .inl rfl⟩
 | cons x r ih =>
  intro t h
  rw [List.foldl_cons]
  obtain ⟨h1, h2, h3, h4⟩ := ih (if (x : Int) > t then (x : Int) else t) (by split <;> omega)
  have h5 : (x : Int) <= (if (x : Int) > t then (x : Int) else t) /\ t <= (if (x : Int) > t then (x : Int) else t) /\ ((if (x : Int) > t then (x : Int) else t) = x \/ (if (x : Int) > t then (x : Int) else t) = t) := by
   by_cases hx : (x : Int) > t
   ·rw [if_pos hx]; omega
   ·rw [if_neg hx]; omega
  refine ⟨h1, by omega, ?_, ?_⟩
  ·intro y hy
   rcases List.mem_cons.1 hy with rfl | hy
   ·omega
   ·exact h3 y hy
  ·rcases h4 with h4 | ⟨y, hy, h4⟩
   ·rcases h5.2.2 with e | e
    ·exact .inr ⟨x, by simp, by rw [h4, e]⟩
    ·exact .inl (by rw [h4, e])
   ·exact .inr ⟨y, by simp [hy], h4⟩
theorem topN_log {l : List Nat} : (l = [] /\ topN l = -1) \/ (l ≠ [] /\ Ce l ≠ 0 /\ topN l = ((Ce l).log2 : Nat)) := by
 obtain ⟨h1, h2, h3, h4⟩ := topN_fold l (-1) (by omega)
 cases l with
 | nil => exact .inl ⟨rfl, rfl⟩
 | cons y r =>
  right
  have hy := h3 y (by simp)
  rcases h4 with h4 | ⟨x, hx, h4⟩
  ·rw [h4] at hy; omega
  ·have hb : (Ce (y :: r)).testBit x = true := by rw [DR]; simpa using hx
   have hne : Ce (y :: r) ≠ 0 := fun e => by rw [e] at hb; simp at hb
   refine ⟨by simp, hne, ?_⟩
   have hge := Nat.ge_two_pow_of_testBit hb
   have hlt : Ce (y :: r) < 2 ^ (x + 1) := by
    apply Nat.lt_pow_two_of_testBit
    intro i hi
    rw [DR]
    have : ¬ i ∈ y :: r := fun hm => by have := h3 i hm; rw [h4] at this; omega
    simpa using this
   have h6 : (Ce (y :: r)).log2 = x := by
    have a1 : (Ce (y :: r)).log2 < x + 1 := (Nat.log2_lt hne).2 hlt
    have a2 : ¬ (Ce (y :: r)).log2 < x := fun h => by have := (Nat.log2_lt hne).1 h; omega
    omega
   rw [h6]; exact h4
theorem topN_step {l : List Nat} {k : Nat} (h : k < l.length) : topN (l.take (k + 1)) = if ((l.getD k 0 : Nat) : Int) > topN (l.take k) then ((l.getD k 0 : Nat) : Int) else topN (l.take k) := by
 rw [DO l k 0 h, topN, List.foldl_append]; rfl
def byB (M m : Nat) : List Nat := (List.range m).map fun j => (M >>> (8 * j)) % 256
theorem byB_zero (m : Nat) : byB 0 m = List.replicate m 0 := by
 unfold byB
 apply List.ext_getElem
 ·simp
 ·intro j h1 h2; simp
theorem byB_at {M m j : Nat} (h : j < m) : (byB M m).getD j 0 = (M >>> (8 * j)) % 256 := by
 rw [byB, GA, if_pos h]
theorem byB_set {M m x : Nat} (h : x / 8 < m) : (byB M m).set (x / 8) ((byB M m).getD (x / 8) 0 ||| 2 ^ (x % 8)) = byB (M ||| 2 ^ x) m := by
 apply List.ext_getElem
 ·simp [byB]
 ·intro j h1 h2
  have hj : j < m := by simpa [byB] using h2
  rw [List.getElem_set]
  have hat := byB_at (M := M) h
  have key : ∀ i, ((M ||| 2 ^ x) >>> (8 * i)) % 256 = (M >>> (8 * i)) % 256 ||| (if x / 8 = i then 2 ^ (x % 8) else 0) := by
   intro i
   apply Nat.eq_of_testBit_eq
   intro b
   rw [Nat.testBit_or, show (256 : Nat) = 2 ^ 8 from rfl, Nat.testBit_mod_two_pow, Nat.testBit_mod_two_pow, Nat.testBit_shiftRight, Nat.testBit_shiftRight, Nat.testBit_or, Nat.testBit_two_pow]
   by_cases hb : b < 8
   ·by_cases e : x / 8 = i
    ·rw [if_pos e, Nat.testBit_two_pow]
     simp only [hb, decide_true, Bool.true_and]
     congr 1
     by_cases e2 : x = 8 * i + b
     ·rw [decide_eq_true e2, decide_eq_true (by omega)]
     ·rw [decide_eq_false e2, decide_eq_false (by omega)]
    ·rw [if_neg e, Nat.zero_testBit, Bool.or_false, decide_eq_false (show ¬ x = 8 * i + b by omega), Bool.or_false]
   ·simp only [hb, decide_false, Bool.false_and, Bool.false_or]
    split
    ·rw [Nat.testBit_two_pow, decide_eq_false (by omega)]
    ·simp
  by_cases e : x / 8 = j
  ·rw [if_pos e, hat]; simp only [byB, List.getElem_map, List.getElem_range]; rw [key, if_pos e, e]
  ·rw [if_neg e]; simp only [byB, List.getElem_map, List.getElem_range]; rw [key, if_neg e, Nat.or_zero]
theorem orAll_step {l : List Nat} {k : Nat} (h : k < l.length) : Ce (l.take (k + 1)) = Ce (l.take k) ||| 2 ^ (l.getD k 0) := by
 rw [DO l k 0 h, Ce, List.foldl_append]; rfl
theorem setBytes_byB {N : Nat} (h : N ≠ 0) : BE N = byB N (N.log2 / 8 + 1) := by rw [BE, if_neg h]; rfl
theorem ints_nat (l : List Nat) (k : Nat) (h : k < l.length) : (Bm (At l))[k]? = some (.int .i64 (l.getD k 0 : Nat)) := by
 simp [Bm, At, List.getElem?_eq_getElem h, List.getD_eq_getElem?_getD]
theorem Da : Bn Tryz.prog 22 5 1 1 := ⟨Tryz.underlying22, by kernel_rfl⟩
set_option maxHeartbeats 1000000 in
theorem rsetb_any (p : Value) (l : List Nat) (hl : l.length <= 1000000 /\ ∀ x ∈ l, x < 4096) (w0 : World) (D : Nat -> Prop) (hp : Sl w0 D 1 p l.length (Bm (At l))) :
  Calls Tryz.prog 223 #[p] w0 (Ax (fun x w' => Fn w' w0.heap.size x (BE (Ce l))) w0) := by
 obtain ⟨A, c, rfl, _, _⟩ := hp.shape
 obtain ⟨K, hk, hS⟩ : ∃ K, (∀ D w, K D w -> Sl w D 1 (.slice A l.length c) l.length (Bm (At l))) /\ St w0 w0 [] K := ⟨fun D w => Sl w D 1 (.slice A l.length c) l.length (Bm (At l)), fun _ _ h => h, St.start Aj hp⟩
 clear hp
 have HL := Lib.hid hl.2
 obtain ⟨hll, -⟩ := hl
 go_enter Tryz.func223, Tryz.ntmps223
 go_wp2_with fail
 go_loopw [3, 11] (fun t i wr => ∃ k : Nat, k <= l.length /\ i = .int .i64 k /\ t = .int .i64 (topN (l.take k)) /\ St w0 wr [] K) (fun _ i _ => l.length - (intOf i).toNat)
 case atStart => exact ⟨0, by omega, rfl, rfl, hS⟩
 case round =>
  clear hS
  obtain ⟨k, hk2, rfl, rfl, hS⟩ := hrel
  by_cases hlt : k < l.length
  ·have f1 := ints_nat l k hlt
   have HT := Lib.hid (topN_step hlt)
   generalize l.getD k 0 = x at *
   generalize topN (l.take k) = T at *
   go_wp2_with (first | ((with_reducible refine qB ?_); refine qc ?_ ?_ <;> intro h_ <;> go_prune) | ((with_reducible refine qI ?_); refine DP hS rfl _ _ _ rfl _ rfl rfl (by assumption) Tryz.underlying74 (by kernel_rfl) (by first | assumption | omega) _ (by assumption) ?_; intro p_ hc_))
   ·exact ⟨⟨k + 1, hlt, by go_num, by rw [HT.out, if_pos (by omega)], hS⟩, by simp [intOf]; omega⟩
   ·exact ⟨⟨k + 1, hlt, by go_num, by rw [HT.out, if_neg (by omega)], hS⟩, by simp [intOf]; omega⟩
  ·obtain rfl : k = l.length := by omega
   rw [List.take_length]
   rcases topN_log (l := l) with ⟨rfl, hz⟩ | ⟨hne, h0, ht⟩
   ·rw [hz]
    go_wp2_with (first | ((with_reducible refine qB ?_); refine qc ?_ ?_ <;> intro h_ <;> go_prune))
    go_ret
    exact Ax.mk (World.ownsRow_nil _ _ _ _) hS.below
   ·have hlog : (Ce l).log2 < 4096 := by
     have hb : Ce l < 2 ^ 4096 := Nat.lt_pow_two_of_testBit _ fun i hi => by
      rw [DR]
      have : ¬ i ∈ l := fun hm => by have := HL.out i hm; omega
      simpa using this
     exact (Nat.log2_lt h0).2 hb
    have HN := Lib.hid (setBytes_byB h0)
    have HX := Lib.hid (show ∀ x ∈ l, x <= (Ce l).log2 from fun x hx => by
     have hb : (Ce l).testBit x = true := by rw [DR]; simpa using hx
     have := Nat.ge_two_pow_of_testBit hb
     have a2 : ¬ (Ce l).log2 < x := fun h => by have := (Nat.log2_lt h0).1 h; omega
     omega)
    rw [ht]
    generalize hT : (Ce l).log2 = T at *
    obtain ⟨n8, hn8⟩ : ∃ n, n = T / 8 + 1 := ⟨_, rfl⟩
    have hti : (T : Int) / 8 + 1 = (n8 : Int) := by omega
    have HN8 := Lib.hid hn8
    have HH0 := Lib.hid h0
    clear h0 ht hne hT
    have hn8b : n8 <= 600 := by omega
    clear hn8 hlt hk2
    go_wp2_with (first
     | ((with_reducible refine qB ?_); refine qc ?_ ?_ <;> intro h_ <;> go_prune)
     | ((with_reducible show wpList _ _ _ (⟨_, .makeSlice _ _ _, _, _, _, _⟩ :: _) _ _); refine IP hS rfl _ _ _ rfl Da .i64 .i64 n8 #[.int .u8 0] rfl rfl (by kernel_rfl) (by omega) (by omega) ?_; clear hS; intro g6 w_ hS))
    have hz : (madeCells #[Value.int .u8 0] (n8 * 1)).toList = Aa (byB (Ce (l.take 0)) n8) := by rw [Nat.mul_one, F8]; simp [Ce, byB_zero]
    rw [hz] at hS
    clear hz hti
    go_loopw [28] (fun i wr => ∃ k : Nat, k <= l.length /\ i = .int .i64 k /\ St w0 wr [.own (.slice (some ⟨g6, 0, none⟩) n8 n8) 5 1 n8 (Aa (byB (Ce (l.take k)) n8))] K) (fun i _ => l.length - (intOf i).toNat)
    case atStart => exact ⟨0, by omega, rfl, hS⟩
    case round =>
     clear hS
     obtain ⟨k, hk2, rfl, hS⟩ := hrel
     by_cases hlt : k < l.length
     ·have f1 := ints_nat l k hlt
      have HT := Lib.hid (orAll_step hlt)
      have hxT : l.getD k 0 <= T := HX.out _ (by rw [List.getD_eq_getElem?_getD, List.getElem?_eq_getElem hlt]; exact List.getElem_mem hlt)
      generalize l.getD k 0 = x at *
      generalize Ce (l.take k) = M at *
      obtain ⟨q, hq⟩ : ∃ q, q = x / 8 := ⟨_, rfl⟩
      obtain ⟨r, hr⟩ : ∃ r, r = x % 8 := ⟨_, rfl⟩
      have hqn : q < n8 := by have := HN8.out; omega
      have hr8 : r < 8 := by omega
      have hB := byB_set (M := M) (m := n8) (x := x) (by omega)
      rw [<- hq, <- hr] at hB
      have hc : (Aa (byB M n8))[q]? = some (.int .u8 ((byB M n8).getD q 0 : Nat)) := CZ _ _ (by simp [byB]; exact hqn)
      have hb256 : (byB M n8).getD q 0 < 256 := by rw [byB_at hqn]; omega
      generalize (byB M n8).getD q 0 = y at *
      have hpow : 2 ^ r < 256 := Nat.pow_lt_pow_right (by decide) hr8
      have hor := u8_or_nat y (2 ^ r) hb256 hpow
      have hq1 : (x : Int) / 8 = (q : Int) := by omega
      have hr1 : ((x : Int)).tmod 8 = (r : Int) := by rw [hr]; exact Fv x 8
      have hsh : IntKind.u8.wrap (2 ^ r : Int) = ((2 ^ r : Nat) : Int) := by
       rw [show (2 ^ r : Int) = ((2 ^ r : Nat) : Int) by simp]; exact IL hpow
      have HC := Lib.hid hc
      have HB := Lib.hid hB
      have HOr := Lib.hid hor
      generalize 2 ^ r = pw at *
      clear hq hr hB hc hor
      go_wp2_with (first
       | ((with_reducible refine qB ?_); refine qc ?_ ?_ <;> intro h_ <;> go_prune)
       | ((with_reducible refine qI ?_); refine DP hS rfl _ _ _ rfl _ rfl rfl (by assumption) Tryz.underlying74 (by kernel_rfl) (by first | assumption | omega) _ (by assumption) ?_; intro p_ hc_)
       | ((with_reducible refine qA 39 ?_); refine BigFrame.wpList_want rfl fun _ hK => Ad rfl rfl (by kernel_rfl) (BO (hS.own 0 rfl) q _ HC.out) (hK _ _ ?_))
       | ((with_reducible refine qm 5 ?_); refine Dp hS 0 rfl _ _ _ rfl g6 q (.int .u8 ((y ||| pw : Nat) : Int)) rfl (congrArg (Value.int .u8) HOr.out) rfl (by omega) rfl rfl (by kernel_rfl) ?_; clear hS; intro w_ hS; (try simp only [Act.put, Act.eval, zz, Value.cells] at hS)))
      refine ⟨⟨k + 1, hlt, by go_num, ?_⟩, by simp [intOf]; omega⟩
      rw [<- FT, HB.out, <- HT.out] at hS
      exact hS
     ·obtain rfl : k = l.length := by omega
      rw [List.take_length] at hS
      go_wp2_with (first | ((with_reducible refine qB ?_); refine qc ?_ ?_ <;> intro h_ <;> go_prune))
      go_ret
      rw [HN.out, <- HN8.out]
      have h := hS.own 0 rfl
      exact Ax.mk (Ht h rfl) hS.below
theorem Hv {w : World} {b b' : Nat} {e : TypeId} {size n : Nat} {v : Value} {xs : List Value} (h : w.ownsRow b e size v n xs) (hb : b' <= b) : w.ownsRow b' e size v n xs := by
 refine ⟨h.1, ?_⟩
 rcases h.2 with h | ⟨g, cap, cur, h1, h2, h3⟩
 ·exact .inl h
 ·exact .inr ⟨g, cap, cur, h1, Nat.le_trans hb h2, h3⟩
theorem rputs_any (p : Value) (l : List Nat) (hl : l.length <= 1000000 /\ ∀ x ∈ l, x < 4096) (w0 : World) (D : Nat -> Prop) (hp : Sl w0 D 1 p l.length (Bm (At l))) :
  Calls Tryz.prog 203 #[p] w0 (Ax (fun x w' => Fn w' w0.heap.size x (B9 (Ce l))) w0) := by
 have hS := St.start0 (w := w0)
 have HC := Lib.hid (rsetb_any p l hl w0 D hp)
 have hsb : (BE (Ce l)).length <= 512 := EX (Nat.lt_pow_two_of_testBit _ fun i hi => by
  rw [DR]
  have : ¬ i ∈ l := fun hm => by have := hl.2 i hm; omega
  simpa using this)
 clear hp hl
 go_enter Tryz.func203, Tryz.ntmps203
 go_wp2_with (first
  | (go_at_call 223; refine HC.out.mono ?_; rintro r_ w1 ⟨v, rfl, h1, hb1⟩; replace hS := hS.owned hb1 h1; clear hb1)
  | (go_at_call 159; refine (G0 v (BE (Ce l)) (by omega) _ _ (Sl.of_own (hS.own 0 rfl))).mono ?_; rintro r_ w2 ⟨v2, rfl, h2, hb2⟩))
 go_ret
 exact Ax.mk (Hv h2 hS.size) (hS.ext hb2).below
theorem Gz (N : Nat) (hN : N < AA) (w0 : World) : Calls Tryz.prog 163 #[.int .u64 (N : Nat)] w0 (Ax (fun x w' => Fn w' w0.heap.size x (B9 N)) w0) := by
 have hS := St.start0 (w := w0)
 have HO := Lib.hid (orAll_members hN)
 have HL := Lib.hid (show (Cv N).length <= 1000000 /\ ∀ x ∈ Cv N, x < 4096 from ⟨by have := memTo_len N 64; unfold Cv; omega, fun x hx => by
  simp [Cv, BX] at hx; omega⟩)
 go_enter Tryz.func163, Tryz.ntmps163
 go_wp2_with (first
  | (go_at_call 81; refine (J4 N _).mono ?_; rintro r_ w1 ⟨v, rfl, h1, hb1⟩; replace hS := hS.ret hb1 Aj h1; clear h1 hb1)
  | (go_at_call 203; refine (rputs_any v (Cv N) HL.out _ _ hS.ro.2).mono ?_; rw [HO.out]; rintro r_ w2 ⟨v2, rfl, h2, hb2⟩))
 go_ret
 exact Ax.mk (Hv h2 hS.size) (hS.ext hb2).below
end
section
open Go.RowKit
attribute [local go_sem ↓] Go.wp_at_zero Go.wp_at_succ
set_option maxRecDepth 20000
theorem IV (y n : Nat) (hy : y < AA) (hn : n < AA) (w0 : World) : Calls Tryz.prog 165 #[.agg #[.int .u64 (y : Nat), .int .u64 (n : Nat)]] w0 (Ax (fun x w' => Fn w' w0.heap.size x (Ba y n)) w0) := by
 have hS := St.start0 (w := w0)
 have hly := Bg (BH hy).1
 have hln := Bg (BH hn).1
 go_enter Tryz.func165, Tryz.ntmps165
 go_wp2_with (first | ((with_reducible refine qA 1 ?_); refine AH hS rfl _ _ rfl (.agg #[.int .u64 (y : Nat), .int .u64 (n : Nat)]) _ rfl rfl ?_; clear hS; intro g1 w_ hS; (try simp only [Act.put, Act.eval, zz, Value.cells] at hS)))
 refine Je (fun i__ lo hi v w => match i__ with
  | 0 => v = .pointer (some ⟨g1, 0, none⟩)
  | 1 => v = .int .u64 (y : Nat)
  | 2 => w.ownsRow lo 5 1 v (B9 y).length (Aa (B9 y)) /\ ∀ b, v.ownBlock = some b -> b < hi
  | 3 => v = .pointer (some ⟨g1, 1, none⟩)
  | 4 => v = .int .u64 (n : Nat)
  | 5 => w.ownsRow lo 5 1 v (B9 n).length (Aa (B9 n)) /\ ∀ b, v.ownBlock = some b -> b < hi
  | 6 => True
  | 7 => True
  | _ => True) 6 [7] (by kernel_rfl) (by kernel_rfl) (by kernel_rfl) (by kernel_rfl) (by kernel_rfl) ?mono ⟨.inr ?r0, .inr ?r1, .inr ?r2, .inr ?r3, .inr ?r4, .inr ?r5, .inl (by decide), .inl (by decide), trivial⟩ ?post
 case mono =>
  intro i lo hi v w w' h hb
  match i, h with
  | 0, h | 1, h => exact h
  | 2, h => exact ⟨F5 h.1 hb, h.2⟩
  | 3, h | 4, h => exact h
  | 5, h => exact ⟨F5 h.1 hb, h.2⟩
  | 6, h | 7, h => exact h
  | _ + 8, h => trivial
 case r0 =>
  refine Is fun b__ w hW hold hpre => wU rfl fun K hK => ?_
  have e1 : b__.eval (.tmp 1) = .pointer (some ⟨g1, 0, none⟩) := (hold 1 (by kernel_rfl)).trans rfl
  exact DS rfl e1 (by kernel_rfl) (hK _ _ rfl (Below.refl _ _))
 case r1 =>
  refine Is fun b__ w hW hold hpre => wU rfl fun K hK => ?_
  have e3 : b__.eval (.tmp 3) = .pointer (some ⟨g1, 0, none⟩) := by obtain ⟨_, _, h⟩ := hpre ⟨0, _⟩ (Array.mem_of_getElem? (i := 0) rfl) rfl _ _ rfl rfl; exact h
  exact Ad rfl e3 (by kernel_rfl) ((hS.ext (Bl hW)).shut 0 rfl 0 rfl) (hK _ _ rfl (Below.refl _ _))
 case r2 =>
  refine Is fun b__ w hW hold hpre => wU rfl fun K hK => ?_
  have e4 : b__.eval (.tmp 4) = .int .u64 (y : Nat) := by obtain ⟨_, _, h⟩ := hpre ⟨1, _⟩ (Array.mem_of_getElem? (i := 0) rfl) rfl _ _ rfl rfl; exact h
  exact AV rfl (by kernel_rfl) (by simp [e4]) (Gz y hy w) fun v w' h hb => hK v w' ⟨h, fun b e => Kb h b e⟩ hb
 case r3 =>
  refine Is fun b__ w hW hold hpre => wU rfl fun K hK => ?_
  have e1 : b__.eval (.tmp 1) = .pointer (some ⟨g1, 0, none⟩) := (hold 1 (by kernel_rfl)).trans rfl
  exact DS rfl e1 (by kernel_rfl) (hK _ _ rfl (Below.refl _ _))
 case r4 =>
  refine Is fun b__ w hW hold hpre => wU rfl fun K hK => ?_
  have e6 : b__.eval (.tmp 6) = .pointer (some ⟨g1, 1, none⟩) := by obtain ⟨_, _, h⟩ := hpre ⟨3, _⟩ (Array.mem_of_getElem? (i := 0) rfl) rfl _ _ rfl rfl; exact h
  exact Ad rfl e6 (by kernel_rfl) ((hS.ext (Bl hW)).shut 0 rfl 1 rfl) (hK _ _ rfl (Below.refl _ _))
 case r5 =>
  refine Is fun b__ w hW hold hpre => wU rfl fun K hK => ?_
  have e7 : b__.eval (.tmp 7) = .int .u64 (n : Nat) := by obtain ⟨_, _, h⟩ := hpre ⟨4, _⟩ (Array.mem_of_getElem? (i := 0) rfl) rfl _ _ rfl rfl; exact h
  exact AV rfl (by kernel_rfl) (by simp [e7]) (Gz n hn w) fun v w' h hb => hK v w' ⟨h, fun b e => Kb h b e⟩ hb
 case post =>
  intro b__ wz lo hi hW hdf hsz hold hT hap hlim
  have e5 : (fun (v : Value) (w : World) => w.ownsRow (lo 2) 5 1 v (B9 y).length (Aa (B9 y)) /\ ∀ b, v.ownBlock = some b -> b < (hi 2)) (b__.eval (.tmp 5)) wz := hT 2 _ 5 (by decide) rfl rfl
  have e8 : (fun (v : Value) (w : World) => w.ownsRow (lo 5) 5 1 v (B9 n).length (Aa (B9 n)) /\ ∀ b, v.ownBlock = some b -> b < (hi 5)) (b__.eval (.tmp 8)) wz := hT 5 _ 8 (by decide) rfl rfl
  obtain ⟨vs, hvs, hb⟩ := EM hdf hsz hold
  replace e5 := (hvs 5) ▸ e5
  replace e8 := (hvs 8) ▸ e8
  have e3 : vs 3 = .pointer (some ⟨g1, 0, none⟩) := (hvs 3).symm.trans (hT 0 _ 3 (by decide) rfl rfl)
  have e4 : vs 4 = .int .u64 (y : Nat) := (hvs 4).symm.trans (hT 1 _ 4 (by decide) rfl rfl)
  have e6 : vs 6 = .pointer (some ⟨g1, 1, none⟩) := (hvs 6).symm.trans (hT 3 _ 6 (by decide) rfl rfl)
  have e7 : vs 7 = .int .u64 (n : Nat) := (hvs 7).symm.trans (hT 4 _ 7 (by decide) rfl rfl)
  subst hb
  clear hvs hold hT hdf hsz
  simp only [AL, Act.put, zz, ze]
  obtain ⟨h5, b5⟩ := e5
  obtain ⟨h8, b8⟩ := e8
  have a25 := hap 2 5 (by decide) (by decide) (by decide) (by decide) (by decide)
  have L2 := (hlim 2 (by decide) (by decide)).1
  have L5 := (hlim 5 (by decide) (by decide)).1
  have hS2 := hS.new2 hW (.own (vs 5) 5 1 (B9 y).length (Aa (B9 y))) (.own (vs 8) 5 1 (B9 n).length (Aa (B9 n))) (Hv h5 L2) (Hv h8 L5) (fun k e1 e2 => by
   have c1 := own_ge h5 k e1; have c2 := b5 k e1; have c3 := own_ge h8 k e2; have c4 := b8 k e2; omega)
  clear h5 h8 b5 b8 a25 L2 L5 hap hlim
  (intro o_ ho_; simp only [List.getElem?_toArray, List.getElem?_cons_succ, List.getElem?_cons_zero, Option.some.injEq] at ho_; subst ho_)
  refine Ei rfl Da rfl (hS2.own 0 rfl) rfl (Sl.of_own (hS2.own 1 rfl)) (B6 _) (by omega) (by omega) hS2.size fun v' w4 a1 a2 a3 => ?_
  replace hS2 := hS2.upd 0 rfl (.own v' 5 1 ((B9 y).length + (B9 n).length) (Aa (B9 y) ++ Aa (B9 n))) a2 a1 a3
  (intro o_ ho_; simp only [List.getElem?_toArray, List.getElem?_cons_succ, List.getElem?_cons_zero, Option.some.injEq] at ho_; subst ho_)
  simp only [Act.put, List.setIfInBounds_toArray, List.set_cons_zero, List.set_cons_succ]
  refine Dr rfl rfl ?_
  simp only [CO]
  simp only [Act.put, List.setIfInBounds_toArray, List.set_cons_zero, List.set_cons_succ]
  go_wp2_with fail
  go_ret
  exact Ax.mk (Ht (hS2.own 0 rfl) (by simp [Aa, Ba])) hS2.below
theorem EN (l : List (Nat × Nat)) (hs : Small l) : (l.flatMap fun z => Ba z.1 z.2).length <= 1046 * l.length := EO l fun z hz => ⟨(BH (hs z hz).1).1, (BH (hs z hz).2).1⟩
set_option maxHeartbeats 1000000 in
theorem Hm (v : Value) (l : List (Nat × Nat)) (w0 : World) (D : Nat -> Prop) (hv : BN w0 D v l) (hs : Small l) (hl : l.length <= 10000) :
  Calls Tryz.prog 166 #[v] w0 (Ax (fun x w' => Fn w' w0.heap.size x (AQ l)) w0) := by
 obtain ⟨A, c, rfl, _, _⟩ := hv.shape
 obtain ⟨K, hk, hS⟩ : ∃ K, (∀ D w, K D w -> Sl w D 2 (.slice A l.length c) l.length (AM l)) /\ St w0 w0 [] K := ⟨fun D w => Sl w D 2 (.slice A l.length c) l.length (AM l), fun _ _ h => h, St.start Aj hv⟩
 clear hv
 have HS := Lib.hid hs
 clear hs
 have hw : IntKind.u64.wrap (l.length : Int) = (l.length : Int) := Cn (by unfold AA; omega)
 have hpl := Aw l.length
 go_enter Tryz.func166, Tryz.ntmps166
 go_wp2_with (first
  | (go_at_call 161; refine (DA l.length (by unfold AA; omega) _).mono ?_; rintro r_ w1 ⟨v1, rfl, h1, hb1⟩; replace hS := hS.owned hb1 h1; clear h1 hb1))
 go_loopw [3, 12] (fun o i wr => ∃ (k : Nat) (ov : Value) (bs : List Nat), k <= l.length /\ i = .int .i64 k /\ o = ov /\ bs = Ao l.length ++ (l.take k).flatMap (fun z => Ba z.1 z.2) /\ St w0 wr [.own ov 5 1 bs.length (Aa bs)] K) (fun _ i _ => l.length - (intOf i).toNat)
 case atStart => exact ⟨0, v1, _, by omega, rfl, rfl, rfl, by simpa using hS⟩
 case round =>
  clear hS
  obtain ⟨k, ov, bs, hk2, rfl, rfl, hbs, hS⟩ := hrel
  by_cases hlt : k < l.length
  ·obtain ⟨f1, f2⟩ := EJ l k hlt
   have HT := Lib.hid (flat_step l k hlt)
   have hz := HS.out.at_ k hlt
   have hbl : bs.length <= 20000000 := by
    have := EN (l.take k) (fun z hz => HS.out z (List.mem_of_mem_take hz))
    rw [hbs, List.length_append]; rw [List.length_take] at this; omega
   have HB := Lib.hid hbs
   clear hbs
   generalize l.getD k (0, 0) = z at *
   obtain ⟨y, n⟩ := z
   dsimp only at f1 f2 HT hz
   have hcl : (Ba y n).length <= 1046 := by
    have h1 := Bg (BH hz.1).1
    have h2 := Bg (BH hz.2).1
    simp only [Ba, List.length_append]; omega
   obtain ⟨pc, hpc⟩ : ∃ x, x = Ba y n := ⟨_, rfl⟩
   rw [<- hpc] at HT hcl
   have HCu : Hid (∀ w, Calls Tryz.prog 165 #[.agg #[.int .u64 (y : Nat), .int .u64 (n : Nat)]] w (Ax (fun x w' => Fn w' w.heap.size x pc) w)) := Lib.hid (fun w => by rw [hpc]; exact IV y n hz.1 hz.2 w)
   clear hpc
   go_wp2_with (first
    | ((with_reducible refine qB ?_); refine qc ?_ ?_ <;> intro h_ <;> go_prune)
    | ((with_reducible refine qI ?_); refine qj hS Tryz.underlying28 ?_; intro b_ j_ hc0_ hc1_)
    | ((with_reducible refine qA 5 ?_); refine AU hS rfl _ rfl (by kernel_rfl) ?_; clear hS; intro g5 w_ hS; (try simp only [Act.put, Act.eval, zz, Value.cells] at hS))
    | ((with_reducible refine qM ?_); (first | refine qS hS ?_ | refine qT hS ?_); clear hS; intro w_ hS; (try simp only [Act.put, Act.eval, zz, Value.cells] at hS))
    | ((with_reducible refine qK ?_); refine qL hS Tryz.underlying50 ?_)
    | (go_at_call 165; refine (HCu.out _).mono ?_; rintro r_ w2 ⟨v2, rfl, h2, hb2⟩; replace hS := hS.owned hb2 h2; clear h2 hb2)
    | ((with_reducible refine qA 19 ?_); refine Dk hS 2 rfl _ _ _ rfl Da _ _ _ rfl rfl _ _ _ _ rfl (Sl.of_own (hS.own 0 rfl)) (B6 _) (by unfold maxLen; omega) (by omega) ?_; clear hS; intro v_ w_ hS; (try simp only [Act.put, Act.eval, zz, Value.cells] at hS)))
   refine ⟨⟨k + 1, v_, bs ++ pc, hlt, by go_num, rfl, by rw [HB.out, HT.out, List.append_assoc], ?_⟩, by simp [intOf]; omega⟩
   have h := hS.sub (F' := [_]) (.cons _ (.cons _ (.refl _)))
   simpa [Aa] using h
  ·obtain rfl : k = l.length := by omega
   rw [List.take_length] at hbs
   go_wp2_with (first | ((with_reducible refine qB ?_); refine qc ?_ ?_ <;> intro h_ <;> go_prune))
   go_ret
   subst hbs
   exact Ax.mk (hS.own 0 rfl) hS.below
end
section
open Go.RowKit
attribute [local go_sem ↓] Go.wp_at_zero Go.wp_at_succ
set_option maxRecDepth 20000
set_option exponentiation.threshold 5000
theorem JT (x n : Nat) (hx : x < AA) (hn : n < 64) (w : World) :
  Calls Tryz.prog 221 #[.int .u64 (x : Int), .int .i64 (n : Int)] w fun e w' => e = .returned (.int .u64 (FC x n : Nat)) /\ ∃ m, w' = w.drewN m := by
 obtain ⟨m, hm⟩ : ∃ m, m = 64 - n := ⟨_, rfl⟩
 have h3 : IntKind.i64.wrap (64 - (n : Int)) = (m : Int) := by rw [IntWalk.i64_in _ (by omega)]; omega
 have h4 : (64 : Int) - (n : Int) = (m : Int) := by omega
 have HR := Lib.hid (show bits .or .u64 (IntKind.u64.wrap ((x : Int) * 2 ^ n)) ((x : Int) / 2 ^ m) = ((FC x n : Nat) : Int) by
  have h6 : IntKind.u64.wrap ((x : Int) * 2 ^ n) = ((x * 2 ^ n % AA : Nat) : Int) := by
   rw [show (x : Int) * 2 ^ n = ((x * 2 ^ n : Nat) : Int) by rw [Int.natCast_mul, Int.natCast_pow]; rfl]
   exact wrap_u64 _
  have h7 : (x : Int) / 2 ^ m = ((x / 2 ^ m : Nat) : Int) := by rw [Int.natCast_ediv, Int.natCast_pow]; rfl
  rw [h6, h7, or64 (Nat.mod_lt _ (by simp [AA])) (Nat.lt_of_le_of_lt (Nat.div_le_self _ _) hx), hm]; rfl)
 have hm64 : m <= 64 := by omega
 clear hm
 go_enter Tryz.func221, Tryz.ntmps221
 go_wp2_with (go_region)
 rw [HR.out]
 go_ret
 exact ⟨rfl, 1, rfl⟩
theorem rotl03_ret (x n : Nat) (hx : x < AA) (hn : n < 64) (w : World) : Calls Tryz.prog 221 #[.int .u64 (x : Int), .int .i64 (n : Int)] w (Ax (fun r _ => r = .int .u64 (FC x n : Nat)) w) :=
 (JT x n hx hn w).mono fun _ _ ⟨h, m, hm⟩ => ⟨_, h, rfl, by rw [hm]; exact DW (Below.refl _ _) m⟩
theorem turns03_any (w0 : World) : Calls Tryz.prog 222 #[] w0 (Ax (fun x w' => w'.ownsRow w0.heap.size 3 1 x 25 (i64s Cg)) w0) := by
 have hS := St.start0 (w := w0)
 go_enter Tryz.func222, Tryz.ntmps222
 go_wp2_with ((with_reducible show wpList _ _ _ (⟨_, .buildSlice _ 25 _, _, _, _, _⟩ :: _) _ _); refine Df hS rfl _ 3 25 _ rfl Tryz.underlying74 (i64s Cg).toArray (by kernel_rfl) 1 (by kernel_rfl) (by decide) ?_; clear hS; intro g w_ hS)
 go_ret
 exact Ax.mk (hS.own 0 rfl) hS.below
theorem rounds03_any (w0 : World) : Calls Tryz.prog 201 #[] w0 (Ax (fun x w' => w'.ownsRow w0.heap.size 26 1 x 24 (Ai Bk)) w0) := by
 have hS := St.start0 (w := w0)
 go_enter Tryz.func201, Tryz.ntmps201
 go_wp2_with ((with_reducible show wpList _ _ _ (⟨_, .buildSlice _ 24 _, _, _, _, _⟩ :: _) _ _); refine Df hS rfl _ 26 24 _ rfl Tryz.underlying37 (Ai Bk).toArray (by kernel_rfl) 1 (by kernel_rfl) (by decide) ?_; clear hS; intro g w_ hS)
 go_ret
 exact Ax.mk (hS.own 0 rfl) hS.below
def oTo (B : List Nat) (x y : Nat) : List Nat := (List.range 25).map fun i => if i % 5 < x \/ (i % 5 = x /\ i / 5 < y) then ka B i else 0
theorem oTo_len (B : List Nat) (x y : Nat) : (oTo B x y).length = 25 := by simp [oTo]
theorem oTo_zero (B : List Nat) : oTo B 0 0 = List.replicate 25 0 := by
 apply List.ext_getElem
 ·simp [oTo]
 ·intro j h1 h2
  simp only [oTo, List.getElem_map, List.getElem_range, List.getElem_replicate]
  rw [if_neg (by omega)]
theorem oTo_wrap (B : List Nat) (x : Nat) : oTo B x 5 = oTo B (x + 1) 0 := by
 apply List.ext_getElem
 ·simp [oTo]
 ·intro j h1 h2
  simp [oTo] at h1
  simp only [oTo, List.getElem_map, List.getElem_range]
  have : (j % 5 < x \/ (j % 5 = x /\ j / 5 < 5)) ↔ (j % 5 < x + 1 \/ (j % 5 = x + 1 /\ j / 5 < 0)) := by omega
  simp only [this]
theorem oTo_full (B : List Nat) : oTo B 5 0 = (List.range 25).map (ka B) := by
 apply List.ext_getElem
 ·simp [oTo]
 ·intro j h1 h2
  simp only [oTo, List.getElem_map, List.getElem_range]
  rw [if_pos (by omega)]
theorem oTo_step (B : List Nat) {x y : Nat} (hx : x < 5) (hy : y < 5) : (oTo B x y).set (x + 5 * y) (ka B (x + 5 * y)) = oTo B x (y + 1) := by
 apply List.ext_getElem
 ·simp [oTo]
 ·intro j h1 h2
  simp [oTo] at h1
  rw [List.getElem_set]
  simp only [oTo, List.getElem_map, List.getElem_range]
  split
  ·rename_i e; subst e; rw [if_pos (by omega)]
  ·have : (j % 5 < x \/ (j % 5 = x /\ j / 5 < y)) ↔ (j % 5 < x \/ (j % 5 = x /\ j / 5 < y + 1)) := by omega
   simp only [this]
theorem sl_at {w : World} {D : Nat -> Prop} {b o n c : Nat} {l : List Nat} (h : Sl w D 1 (.slice (some ⟨b, o, none⟩) n c) n (Ai l)) (hl : l.length = n) {j : Nat} (hj : j < n) : w.cell? ⟨b, o + j, none⟩ = some (.int .u64 (l.getD j 0 : Nat)) := by
 obtain ⟨_, A', c', e, _, _, h⟩ := h
 injection e with e1 e2 e3
 obtain ⟨b', o', e4, _, _, h⟩ := h (by omega)
 rw [<- e1] at e4
 injection e4 with e4
 injection e4 with e5 e6
 subst e5 e6
 exact h j _ (C8 l j (by omega))
theorem Iw {w : World} {D : Nat -> Prop} {b o n c : Nat} {l : List Nat} (h : Sl w D 1 (.slice (some ⟨b, o, none⟩) n c) n (Ai l)) (hl : l.length = n) {j : Nat} (hj : j < n) : w.cell? ⟨b, o + j * 1, none⟩ = some (.int .u64 (l.getD j 0 : Nat)) := by
 rw [Nat.mul_one]; exact sl_at h hl hj
set_option maxHeartbeats 4000000 in
theorem round03_any (p : Value) (a : List Nat) (c : Nat) (hl : a.length = 25) (hw : Ak a) (hc : c < AA) (w0 : World) (D : Nat -> Prop) (hp : Sl w0 D 1 p 25 (Ai a)) :
  Calls Tryz.prog 202 #[p, .int .u64 (c : Nat)] w0 (Ax (fun x w' => w'.ownsRow w0.heap.size 26 1 x 25 (Ai (Fa a c))) w0) := by
 obtain ⟨_, A, ca, rfl, hca, _, hA⟩ := id hp
 obtain ⟨ab, ao, rfl, _, _, _⟩ := hA (by decide)
 obtain ⟨K, hk, hS⟩ : ∃ K, (∀ D w, K D w -> Sl w D 1 (.slice (some ⟨ab, ao, none⟩) 25 ca) 25 (Ai a)) /\ St w0 w0 [] K := ⟨fun D w => Sl w D 1 (.slice (some ⟨ab, ao, none⟩) 25 ca) 25 (Ai a), fun _ _ h => h, St.start Aj hp⟩
 clear hp
 have HK := Lib.hid hk
 clear hk hA
 go_enter Tryz.func202, Tryz.ntmps202
 go_wp2_with fail
 go_loopw [5, 6] (fun o i wr => ∃ (x : Nat) (ov : Value), x <= 5 /\ i = .int .i64 x /\ o = ov /\ St w0 wr [.own ov 26 1 x (Ai ((List.range x).map (kc a)))] K) (fun _ i _ => 5 - (intOf i).toNat)
 case atStart => exact ⟨0, _, by omega, rfl, rfl, hS.nil _ _⟩
 case round =>
  clear hS
  obtain ⟨x, ov, hx, rfl, rfl, hS⟩ := hrel
  by_cases hlt : x < 5
  ·have H0 := Lib.hid (fun (w : World) (h : Below wr.heap.size wr w) => Iw (HK.out _ _ (hS.ext h).ro) hl (j := x) (by omega))
   have H1 := Lib.hid (fun (w : World) (h : Below wr.heap.size wr w) => Iw (HK.out _ _ (hS.ext h).ro) hl (j := x + 5) (by omega))
   have H2 := Lib.hid (fun (w : World) (h : Below wr.heap.size wr w) => Iw (HK.out _ _ (hS.ext h).ro) hl (j := x + 10) (by omega))
   have H3 := Lib.hid (fun (w : World) (h : Below wr.heap.size wr w) => Iw (HK.out _ _ (hS.ext h).ro) hl (j := x + 15) (by omega))
   have H4 := Lib.hid (fun (w : World) (h : Below wr.heap.size wr w) => Iw (HK.out _ _ (hS.ext h).ro) hl (j := x + 20) (by omega))
   have hkc : kc a x = (((a.getD x 0 ^^^ a.getD (x + 5) 0) ^^^ a.getD (x + 10) 0) ^^^ a.getD (x + 15) 0) ^^^ a.getD (x + 20) 0 := rfl
   have l0 := hw.getD x
   have l1 := hw.getD (x + 5)
   have l2 := hw.getD (x + 10)
   have l3 := hw.getD (x + 15)
   have l4 := hw.getD (x + 20)
   generalize a.getD x 0 = a0 at *
   generalize a.getD (x + 5) 0 = a1 at *
   generalize a.getD (x + 10) 0 = a2 at *
   generalize a.getD (x + 15) 0 = a3 at *
   generalize a.getD (x + 20) 0 = a4 at *
   have HKC := Lib.hid hkc
   clear hkc
   go_wp2_with fail
   refine Jd (fun i__ v w => match i__ with
    | 0 => v = u5
    | 1 => v = .slice (some ⟨ab, ao, none⟩) 25 ca
    | 2 => v = .int .i64 ((x : Nat) : Int)
    | 3 => v = .pointer (some ⟨ab, ao + (x) * 1, none⟩)
    | 4 => v = .int .u64 (a0 : Nat)
    | 5 => v = .slice (some ⟨ab, ao, none⟩) 25 ca
    | 6 => v = .int .i64 ((x : Nat) : Int)
    | 7 => v = .int .i64 (((x : Nat) : Int) + (5 : Int))
    | 8 => v = .pointer (some ⟨ab, ao + (x + 5) * 1, none⟩)
    | 9 => v = .int .u64 (a1 : Nat)
    | 10 => v = .int .u64 ((a0 ^^^ a1 : Nat) : Int)
    | 11 => v = .slice (some ⟨ab, ao, none⟩) 25 ca
    | 12 => v = .int .i64 ((x : Nat) : Int)
    | 13 => v = .int .i64 (((x : Nat) : Int) + (10 : Int))
    | 14 => v = .pointer (some ⟨ab, ao + (x + 10) * 1, none⟩)
    | 15 => v = .int .u64 (a2 : Nat)
    | 16 => v = .int .u64 (((a0 ^^^ a1) ^^^ a2 : Nat) : Int)
    | 17 => v = .slice (some ⟨ab, ao, none⟩) 25 ca
    | 18 => v = .int .i64 ((x : Nat) : Int)
    | 19 => v = .int .i64 (((x : Nat) : Int) + (15 : Int))
    | 20 => v = .pointer (some ⟨ab, ao + (x + 15) * 1, none⟩)
    | 21 => v = .int .u64 (a3 : Nat)
    | 22 => v = .int .u64 ((((a0 ^^^ a1) ^^^ a2) ^^^ a3 : Nat) : Int)
    | 23 => v = .slice (some ⟨ab, ao, none⟩) 25 ca
    | 24 => v = .int .i64 ((x : Nat) : Int)
    | 25 => v = .int .i64 (((x : Nat) : Int) + (20 : Int))
    | 26 => v = .pointer (some ⟨ab, ao + (x + 20) * 1, none⟩)
    | 27 => v = .int .u64 (a4 : Nat)
    | 28 => v = .int .u64 (((((a0 ^^^ a1) ^^^ a2) ^^^ a3) ^^^ a4 : Nat) : Int)
    | 29 => Sl w (fun _ => True) 1 v 1 [.int .u64 (kc a x : Nat)]
    | 30 => True
    | 31 => True
    | _ => True) 30 [31] (by kernel_rfl) (by kernel_rfl) (by kernel_rfl) (by kernel_rfl) (by kernel_rfl) ?mono ⟨.inr ?r0, .inr ?r1, .inr ?r2, .inr ?r3, .inr ?r4, .inr ?r5, .inr ?r6, .inr ?r7, .inr ?r8, .inr ?r9, .inr ?r10, .inr ?r11, .inr ?r12, .inr ?r13, .inr ?r14, .inr ?r15, .inr ?r16, .inr ?r17, .inr ?r18, .inr ?r19, .inr ?r20, .inr ?r21, .inr ?r22, .inr ?r23, .inr ?r24, .inr ?r25, .inr ?r26, .inr ?r27, .inr ?r28, .inr ?r29, .inl (by decide), .inl (by decide), trivial⟩ ?post
   case mono =>
    intro i v w w' h hb
    match i, h with
    | 0, h | 1, h | 2, h | 3, h | 4, h | 5, h | 6, h | 7, h | 8, h | 9, h | 10, h | 11, h | 12, h | 13, h | 14, h | 15, h | 16, h | 17, h | 18, h | 19, h | 20, h | 21, h | 22, h | 23, h | 24, h | 25, h | 26, h | 27, h | 28, h => exact h
    | 29, h => exact h.ext hb
    | 30, h | 31, h => exact h
    | _ + 32, h => trivial
   case r0 =>
    refine Bo fun b__ w hW hold hpre => wU rfl fun K hK => ?_
    have e5 : b__.eval (.tmp 5) = u5 := (hold 5 (by kernel_rfl)).trans rfl
    exact BF rfl e5 (hK _ _ rfl (Below.refl _ _))
   case r1 =>
    refine Bo fun b__ w hW hold hpre => wU rfl fun K hK => ?_
    have e0 : b__.eval (.tmp 0) = .slice (some ⟨ab, ao, none⟩) 25 ca := (hold 0 (by kernel_rfl)).trans rfl
    exact BF rfl e0 (hK _ _ rfl (Below.refl _ _))
   case r2 =>
    refine Bo fun b__ w hW hold hpre => wU rfl fun K hK => ?_
    have e6 : b__.eval (.tmp 6) = .int .i64 ((x : Nat) : Int) := (hold 6 (by kernel_rfl)).trans rfl
    exact BF rfl e6 (hK _ _ rfl (Below.refl _ _))
   case r3 =>
    refine Bo fun b__ w hW hold hpre => wU rfl fun K hK => ?_
    have e19 := pq hpre 0 1 19
    have e20 := pq hpre 1 2 20
    exact Br rfl e19 e20 (Af (m := x) Tryz.underlying37 (by kernel_rfl) (by omega) (by omega)) (hK _ _ rfl (Below.refl _ _))
   case r4 =>
    refine Bo fun b__ w hW hold hpre => wU rfl fun K hK => ?_
    have e21 := pq hpre 0 3 21
    exact Ad rfl e21 (by kernel_rfl) (H0.out w (Bl hW)) (hK _ _ rfl (Below.refl _ _))
   case r5 =>
    refine Bo fun b__ w hW hold hpre => wU rfl fun K hK => ?_
    have e0 : b__.eval (.tmp 0) = .slice (some ⟨ab, ao, none⟩) 25 ca := (hold 0 (by kernel_rfl)).trans rfl
    exact BF rfl e0 (hK _ _ rfl (Below.refl _ _))
   case r6 =>
    refine Bo fun b__ w hW hold hpre => wU rfl fun K hK => ?_
    have e6 : b__.eval (.tmp 6) = .int .i64 ((x : Nat) : Int) := (hold 6 (by kernel_rfl)).trans rfl
    exact BF rfl e6 (hK _ _ rfl (Below.refl _ _))
   case r7 =>
    refine Bo fun b__ w hW hold hpre => wU rfl fun K hK => ?_
    have e24 := pq hpre 0 6 24
    exact Az (vx := .int .i64 ((x : Nat) : Int)) (vy := .int .i64 (5 : Int)) (v := .int .i64 (((x : Nat) : Int) + (5 : Int))) rfl e24 rfl rfl (CC (by omega) (by omega)) (hK _ _ rfl (Below.refl _ _))
   case r8 =>
    refine Bo fun b__ w hW hold hpre => wU rfl fun K hK => ?_
    have e23 := pq hpre 0 5 23
    have e25 := pq hpre 1 7 25
    exact Br rfl e23 e25 (Af (m := x + 5) Tryz.underlying37 (by kernel_rfl) (by omega) (by omega)) (hK _ _ rfl (Below.refl _ _))
   case r9 =>
    refine Bo fun b__ w hW hold hpre => wU rfl fun K hK => ?_
    have e26 := pq hpre 0 8 26
    exact Ad rfl e26 (by kernel_rfl) (H1.out w (Bl hW)) (hK _ _ rfl (Below.refl _ _))
   case r10 =>
    refine Bo fun b__ w hW hold hpre => wU rfl fun K hK => ?_
    have e22 := pq hpre 0 4 22
    have e27 := pq hpre 1 9 27
    exact Az rfl e22 e27 rfl (Dq l0 l1) (hK _ _ rfl (Below.refl _ _))
   case r11 =>
    refine Bo fun b__ w hW hold hpre => wU rfl fun K hK => ?_
    have e0 : b__.eval (.tmp 0) = .slice (some ⟨ab, ao, none⟩) 25 ca := (hold 0 (by kernel_rfl)).trans rfl
    exact BF rfl e0 (hK _ _ rfl (Below.refl _ _))
   case r12 =>
    refine Bo fun b__ w hW hold hpre => wU rfl fun K hK => ?_
    have e6 : b__.eval (.tmp 6) = .int .i64 ((x : Nat) : Int) := (hold 6 (by kernel_rfl)).trans rfl
    exact BF rfl e6 (hK _ _ rfl (Below.refl _ _))
   case r13 =>
    refine Bo fun b__ w hW hold hpre => wU rfl fun K hK => ?_
    have e30 := pq hpre 0 12 30
    exact Az (vx := .int .i64 ((x : Nat) : Int)) (vy := .int .i64 (10 : Int)) (v := .int .i64 (((x : Nat) : Int) + (10 : Int))) rfl e30 rfl rfl (CC (by omega) (by omega)) (hK _ _ rfl (Below.refl _ _))
   case r14 =>
    refine Bo fun b__ w hW hold hpre => wU rfl fun K hK => ?_
    have e29 := pq hpre 0 11 29
    have e31 := pq hpre 1 13 31
    exact Br rfl e29 e31 (Af (m := x + 10) Tryz.underlying37 (by kernel_rfl) (by omega) (by omega)) (hK _ _ rfl (Below.refl _ _))
   case r15 =>
    refine Bo fun b__ w hW hold hpre => wU rfl fun K hK => ?_
    have e32 := pq hpre 0 14 32
    exact Ad rfl e32 (by kernel_rfl) (H2.out w (Bl hW)) (hK _ _ rfl (Below.refl _ _))
   case r16 =>
    refine Bo fun b__ w hW hold hpre => wU rfl fun K hK => ?_
    have e28 := pq hpre 0 10 28
    have e33 := pq hpre 1 15 33
    exact Az rfl e28 e33 rfl (Dq (BJ l0 l1) l2) (hK _ _ rfl (Below.refl _ _))
   case r17 =>
    refine Bo fun b__ w hW hold hpre => wU rfl fun K hK => ?_
    have e0 : b__.eval (.tmp 0) = .slice (some ⟨ab, ao, none⟩) 25 ca := (hold 0 (by kernel_rfl)).trans rfl
    exact BF rfl e0 (hK _ _ rfl (Below.refl _ _))
   case r18 =>
    refine Bo fun b__ w hW hold hpre => wU rfl fun K hK => ?_
    have e6 : b__.eval (.tmp 6) = .int .i64 ((x : Nat) : Int) := (hold 6 (by kernel_rfl)).trans rfl
    exact BF rfl e6 (hK _ _ rfl (Below.refl _ _))
   case r19 =>
    refine Bo fun b__ w hW hold hpre => wU rfl fun K hK => ?_
    have e36 := pq hpre 0 18 36
    exact Az (vx := .int .i64 ((x : Nat) : Int)) (vy := .int .i64 (15 : Int)) (v := .int .i64 (((x : Nat) : Int) + (15 : Int))) rfl e36 rfl rfl (CC (by omega) (by omega)) (hK _ _ rfl (Below.refl _ _))
   case r20 =>
    refine Bo fun b__ w hW hold hpre => wU rfl fun K hK => ?_
    have e35 := pq hpre 0 17 35
    have e37 := pq hpre 1 19 37
    exact Br rfl e35 e37 (Af (m := x + 15) Tryz.underlying37 (by kernel_rfl) (by omega) (by omega)) (hK _ _ rfl (Below.refl _ _))
   case r21 =>
    refine Bo fun b__ w hW hold hpre => wU rfl fun K hK => ?_
    have e38 := pq hpre 0 20 38
    exact Ad rfl e38 (by kernel_rfl) (H3.out w (Bl hW)) (hK _ _ rfl (Below.refl _ _))
   case r22 =>
    refine Bo fun b__ w hW hold hpre => wU rfl fun K hK => ?_
    have e34 := pq hpre 0 16 34
    have e39 := pq hpre 1 21 39
    exact Az rfl e34 e39 rfl (Dq (BJ (BJ l0 l1) l2) l3) (hK _ _ rfl (Below.refl _ _))
   case r23 =>
    refine Bo fun b__ w hW hold hpre => wU rfl fun K hK => ?_
    have e0 : b__.eval (.tmp 0) = .slice (some ⟨ab, ao, none⟩) 25 ca := (hold 0 (by kernel_rfl)).trans rfl
    exact BF rfl e0 (hK _ _ rfl (Below.refl _ _))
   case r24 =>
    refine Bo fun b__ w hW hold hpre => wU rfl fun K hK => ?_
    have e6 : b__.eval (.tmp 6) = .int .i64 ((x : Nat) : Int) := (hold 6 (by kernel_rfl)).trans rfl
    exact BF rfl e6 (hK _ _ rfl (Below.refl _ _))
   case r25 =>
    refine Bo fun b__ w hW hold hpre => wU rfl fun K hK => ?_
    have e42 := pq hpre 0 24 42
    exact Az (vx := .int .i64 ((x : Nat) : Int)) (vy := .int .i64 (20 : Int)) (v := .int .i64 (((x : Nat) : Int) + (20 : Int))) rfl e42 rfl rfl (CC (by omega) (by omega)) (hK _ _ rfl (Below.refl _ _))
   case r26 =>
    refine Bo fun b__ w hW hold hpre => wU rfl fun K hK => ?_
    have e41 := pq hpre 0 23 41
    have e43 := pq hpre 1 25 43
    exact Br rfl e41 e43 (Af (m := x + 20) Tryz.underlying37 (by kernel_rfl) (by omega) (by omega)) (hK _ _ rfl (Below.refl _ _))
   case r27 =>
    refine Bo fun b__ w hW hold hpre => wU rfl fun K hK => ?_
    have e44 := pq hpre 0 26 44
    exact Ad rfl e44 (by kernel_rfl) (H4.out w (Bl hW)) (hK _ _ rfl (Below.refl _ _))
   case r28 =>
    refine Bo fun b__ w hW hold hpre => wU rfl fun K hK => ?_
    have e40 := pq hpre 0 22 40
    have e45 := pq hpre 1 27 45
    exact Az rfl e40 e45 rfl (Dq (BJ (BJ (BJ l0 l1) l2) l3) l4) (hK _ _ rfl (Below.refl _ _))
   case r29 =>
    refine Bo fun b__ w hW hold hpre => wU rfl fun K hK => ?_
    have e46 : b__.eval (.tmp 46) = .int .u64 (((((a0 ^^^ a1) ^^^ a2) ^^^ a3) ^^^ a4 : Nat) : Int) := pq hpre 0 28 46
    exact CX rfl Tryz.underlying37 (ps := [(0, .int .u64 (kc a x : Nat))]) (cells := #[.int .u64 (kc a x : Nat)]) (by simp [e46, HKC.out]) (by kernel_rfl) fun w' hbx hbel => hK _ w' (sl_one hbx) hbel
   case post =>
    intro b__ wz hW hdf hsz hold hT
    have e47 : (fun (v : Value) (w : World) => Sl w (fun _ => True) 1 v 1 [.int .u64 (kc a x : Nat)]) (b__.eval (.tmp 47)) wz := hT 29 _ 47 (by decide) rfl rfl
    obtain ⟨vs, hvs, hb⟩ := EM hdf hsz (fun s hs => hold s (noDstS_of hs))
    have e18 : vs 18 = u5 := (hvs 18).symm.trans (hT 0 _ 18 (by decide) rfl rfl)
    replace e47 := (hvs 47) ▸ e47
    have e19 : vs 19 = .slice (some ⟨ab, ao, none⟩) 25 ca := (hvs 19).symm.trans (hT 1 _ 19 (by decide) rfl rfl)
    have e20 : vs 20 = .int .i64 ((x : Nat) : Int) := (hvs 20).symm.trans (hT 2 _ 20 (by decide) rfl rfl)
    have e21 : vs 21 = .pointer (some ⟨ab, ao + (x) * 1, none⟩) := (hvs 21).symm.trans (hT 3 _ 21 (by decide) rfl rfl)
    have e22 : vs 22 = .int .u64 (a0 : Nat) := (hvs 22).symm.trans (hT 4 _ 22 (by decide) rfl rfl)
    have e23 : vs 23 = .slice (some ⟨ab, ao, none⟩) 25 ca := (hvs 23).symm.trans (hT 5 _ 23 (by decide) rfl rfl)
    have e24 : vs 24 = .int .i64 ((x : Nat) : Int) := (hvs 24).symm.trans (hT 6 _ 24 (by decide) rfl rfl)
    have e25 : vs 25 = .int .i64 (((x : Nat) : Int) + (5 : Int)) := (hvs 25).symm.trans (hT 7 _ 25 (by decide) rfl rfl)
    have e26 : vs 26 = .pointer (some ⟨ab, ao + (x + 5) * 1, none⟩) := (hvs 26).symm.trans (hT 8 _ 26 (by decide) rfl rfl)
    have e27 : vs 27 = .int .u64 (a1 : Nat) := (hvs 27).symm.trans (hT 9 _ 27 (by decide) rfl rfl)
    have e28 : vs 28 = .int .u64 ((a0 ^^^ a1 : Nat) : Int) := (hvs 28).symm.trans (hT 10 _ 28 (by decide) rfl rfl)
    have e29 : vs 29 = .slice (some ⟨ab, ao, none⟩) 25 ca := (hvs 29).symm.trans (hT 11 _ 29 (by decide) rfl rfl)
    have e30 : vs 30 = .int .i64 ((x : Nat) : Int) := (hvs 30).symm.trans (hT 12 _ 30 (by decide) rfl rfl)
    have e31 : vs 31 = .int .i64 (((x : Nat) : Int) + (10 : Int)) := (hvs 31).symm.trans (hT 13 _ 31 (by decide) rfl rfl)
    have e32 : vs 32 = .pointer (some ⟨ab, ao + (x + 10) * 1, none⟩) := (hvs 32).symm.trans (hT 14 _ 32 (by decide) rfl rfl)
    have e33 : vs 33 = .int .u64 (a2 : Nat) := (hvs 33).symm.trans (hT 15 _ 33 (by decide) rfl rfl)
    have e34 : vs 34 = .int .u64 (((a0 ^^^ a1) ^^^ a2 : Nat) : Int) := (hvs 34).symm.trans (hT 16 _ 34 (by decide) rfl rfl)
    have e35 : vs 35 = .slice (some ⟨ab, ao, none⟩) 25 ca := (hvs 35).symm.trans (hT 17 _ 35 (by decide) rfl rfl)
    have e36 : vs 36 = .int .i64 ((x : Nat) : Int) := (hvs 36).symm.trans (hT 18 _ 36 (by decide) rfl rfl)
    have e37 : vs 37 = .int .i64 (((x : Nat) : Int) + (15 : Int)) := (hvs 37).symm.trans (hT 19 _ 37 (by decide) rfl rfl)
    have e38 : vs 38 = .pointer (some ⟨ab, ao + (x + 15) * 1, none⟩) := (hvs 38).symm.trans (hT 20 _ 38 (by decide) rfl rfl)
    have e39 : vs 39 = .int .u64 (a3 : Nat) := (hvs 39).symm.trans (hT 21 _ 39 (by decide) rfl rfl)
    have e40 : vs 40 = .int .u64 ((((a0 ^^^ a1) ^^^ a2) ^^^ a3 : Nat) : Int) := (hvs 40).symm.trans (hT 22 _ 40 (by decide) rfl rfl)
    have e41 : vs 41 = .slice (some ⟨ab, ao, none⟩) 25 ca := (hvs 41).symm.trans (hT 23 _ 41 (by decide) rfl rfl)
    have e42 : vs 42 = .int .i64 ((x : Nat) : Int) := (hvs 42).symm.trans (hT 24 _ 42 (by decide) rfl rfl)
    have e43 : vs 43 = .int .i64 (((x : Nat) : Int) + (20 : Int)) := (hvs 43).symm.trans (hT 25 _ 43 (by decide) rfl rfl)
    have e44 : vs 44 = .pointer (some ⟨ab, ao + (x + 20) * 1, none⟩) := (hvs 44).symm.trans (hT 26 _ 44 (by decide) rfl rfl)
    have e45 : vs 45 = .int .u64 (a4 : Nat) := (hvs 45).symm.trans (hT 27 _ 45 (by decide) rfl rfl)
    have e46 : vs 46 = .int .u64 (((((a0 ^^^ a1) ^^^ a2) ^^^ a3) ^^^ a4 : Nat) : Int) := (hvs 46).symm.trans (hT 28 _ 46 (by decide) rfl rfl)
    subst hb
    clear hvs hold hT hdf hsz
    simp only [AL, Act.put, zz, ze]
    (intro o_ ho_; simp only [List.getElem?_toArray, List.getElem?_cons_succ, List.getElem?_cons_zero, Option.some.injEq] at ho_; subst ho_)
    refine Ei (n := x) (m := 1) rfl Jq e18 ((hS.ext hW).own 0 rfl) rfl e47 (by intro u hu; simp at hu; subst hu; rfl) (by omega) (by omega) (hS.ext hW).size fun v' w4 a1 a2 a3 => ?_
    replace hS := (hS.ext hW).upd 0 rfl (.own v' 26 1 (x + 1) (Ai ((List.range x).map (kc a)) ++ [Value.int .u64 ((kc a x : Nat) : Int)])) a2 a1 a3
    (intro o_ ho_; simp only [List.getElem?_toArray, List.getElem?_cons_succ, List.getElem?_cons_zero, Option.some.injEq] at ho_; subst ho_)
    simp only [Act.put, List.setIfInBounds_toArray, List.set_cons_zero, List.set_cons_succ]
    refine Dr rfl rfl ?_
    simp only [CO]
    simp only [Act.put, List.setIfInBounds_toArray, List.set_cons_zero, List.set_cons_succ]
    clear e47
    go_wp2_with fail
    refine ⟨⟨x + 1, v', hlt, by go_num, rfl, ?_⟩, by simp [intOf]; omega⟩
    rw [List.range_succ, List.map_append]
    simpa [Ai] using hS
  ·obtain rfl : x = 5 := by omega
   simp only [show ((5 : Nat) : Int) = 5 from rfl]
   replace hS := hS.freeze 0 (by decide) rfl
   have hwC := I2 hw
   have hlC : ((List.range 5).map (kc a)).length = 5 := by simp
   obtain ⟨_, Ac, cc, rfl, _, _, hcA⟩ := id hS.ro.2
   obtain ⟨cb, co, rfl, _, _, _⟩ := hcA (by decide)
   clear hcA
   obtain ⟨C, hCE⟩ : ∃ C, C = (List.range 5).map (kc a) := ⟨_, rfl⟩
   rw [<- hCE] at hS hwC hlC
   have HCE := Lib.hid hCE
   clear hCE hlt hx
   go_wp2_with (first
    | ((with_reducible show wpList _ _ _ (⟨_, .makeSlice _ _ _, _, _, _, _⟩ :: _) _ _); refine IP hS rfl _ _ _ rfl Jq .i64 .i64 25 #[.int .u64 0] rfl rfl (by kernel_rfl) (by decide) (by decide) ?_; clear hS; intro g7 w_ hS))
   rw [Hy] at hS
   go_loopw [8] (fun i wr => ∃ (x : Nat), x <= 5 /\ i = .int .i64 x /\ St w0 wr [.own (.slice (some ⟨g7, 0, none⟩) 25 25) 26 1 25 (Ai (FI a C x))] (fun D w => K D w /\ Sl w D 1 (.slice (some ⟨cb, co, none⟩) 5 cc) 5 (Ai C))) (fun i _ => 5 - (intOf i).toNat)
   case atStart => exact ⟨0, by omega, rfl, hS⟩
   case round =>
    clear hS
    obtain ⟨x, hx, rfl, hS⟩ := hrel
    by_cases hlt : x < 5
    ·have hsl := hS.ro.2
     have h0 := sl_at hsl hlC (j := (x + 4) % 5) (by omega)
     have h1 := sl_at hsl hlC (j := (x + 1) % 5) (by omega)
     have HD := Lib.hid (show kd C x = C.getD ((x + 4) % 5) 0 ^^^ FC (C.getD ((x + 1) % 5) 0) 1 from rfl)
     have l0 := hwC.getD ((x + 4) % 5)
     have l1 := hwC.getD ((x + 1) % 5)
     generalize C.getD ((x + 4) % 5) 0 = c0 at *
     generalize C.getD ((x + 1) % 5) 0 = c1 at *
     have ta : IntKind.i64.wrap ((x : Int) + 4) = (x : Int) + 4 := IntWalk.i64_in _ (by omega)
     have tb : IntKind.i64.wrap ((x : Int) + 1) = (x : Int) + 1 := IntWalk.i64_in _ (by omega)
     have tc : ((x : Int) + 4).tmod 5 = (((x + 4) % 5 : Nat) : Int) := by rw [Int.tmod_eq_emod_of_nonneg (by omega)]; omega
     have td : ((x : Int) + 1).tmod 5 = (((x + 1) % 5 : Nat) : Int) := by rw [Int.tmod_eq_emod_of_nonneg (by omega)]; omega
     have q4 : (x + 4) % 5 < 5 := by omega
     have q1 : (x + 1) % 5 < 5 := by omega
     generalize (x + 4) % 5 = x4 at *
     generalize (x + 1) % 5 = x1 at *
     clear hsl
     go_wp2_with (go_quiet ((go_at_call 221; exact Calls.quiet_of (JT _ 1 l1 (by decide) _))))
     have HE := Lib.hid (show bits .xor .u64 (c0 : Int) (FC c1 1 : Nat) = ((kd C x : Nat) : Int) by rw [Ec l0 (Jt l1), HD.out])
     simp only [HE.out]
     have ld := kd_lt hwC x
     replace hS := hS.drewN nq
     clear h0 h1 HD HE l0 l1 ta tb tc td q4 q1
     generalize wr.drewN nq = W2 at *
     have hwB := Ds hw hwC x
     have hlB := I3 a C x
     have HSB := Lib.hid (IE a C x)
     generalize FI a C x = B at *
     generalize hd0 : kd C x = d0 at *
     have HD0 := Lib.hid hd0
     clear hd0
     go_loopw [10] (fun i wr => ∃ (y : Nat), y <= 5 /\ i = .int .i64 y /\ St w0 wr [.own (.slice (some ⟨g7, 0, none⟩) 25 25) 26 1 25 (Ai (DH a C B x y))] (fun D w => K D w /\ Sl w D 1 (.slice (some ⟨cb, co, none⟩) 5 cc) 5 (Ai C))) (fun i _ => 5 - (intOf i).toNat)
     case atStart => exact ⟨0, by omega, rfl, hS⟩
     case round =>
      clear hS
      obtain ⟨y, hy, rfl, hS⟩ := hrel
      by_cases hlt4 : y < 5
      ·have HA := Lib.hid (fun (w : World) (h : Below wr.heap.size wr w) => Iw (HK.out _ _ (hS.ext h).ro.1) hl (j := x + 5 * y) (by omega))
       have hlR := IF a C B x y
       have l0 := hw.getD (x + 5 * y)
       have l1 := turns_lt (x + 5 * y)
       have HTU := Lib.hid (show (i64s Cg)[(x + 5 * y) * 1 + 0]? = some (.int .i64 (Cg.getD (x + 5 * y) 0 : Nat)) by
        simp [i64s, List.getD_eq_getElem?_getD, List.getElem?_eq_getElem (show x + 5 * y < Cg.length by show _ < 25; omega)])
       have HKA := Lib.hid (show kbAt a C x (DH a C B x y) y = (DH a C B x y).set (y + 5 * ((2 * x + 3 * y) % 5)) (FC (a.getD (x + 5 * y) 0 ^^^ kd C x) (Cg.getD (x + 5 * y) 0)) from rfl)
       rw [HD0.out] at HKA
       have HSR := Lib.hid (GE a C B x y)
       generalize a.getD (x + 5 * y) 0 = a0 at *
       generalize Cg.getD (x + 5 * y) 0 = t0 at *
       generalize DH a C B x y = R at *
       have lx := BJ l0 ld
       go_wp2_with fail
       refine wp_zL 28 [] [.i (.slice (some ⟨g7, 0, none⟩) 25 25), .n ((y : Nat) : Int), .n ((x : Nat) : Int), .n ((2 : Int) * ((x : Nat) : Int)), .n ((y : Nat) : Int), .n ((3 : Int) * ((y : Nat) : Int)), .n (((2 : Int) * ((x : Nat) : Int)) + ((3 : Int) * ((y : Nat) : Int))), .n ((((2 : Int) * ((x : Nat) : Int)) + ((3 : Int) * ((y : Nat) : Int))) % (5 : Int)), .n ((5 : Int) * ((((2 : Int) * ((x : Nat) : Int)) + ((3 : Int) * ((y : Nat) : Int))) % (5 : Int))), .n (((y : Nat) : Int) + ((5 : Int) * ((((2 : Int) * ((x : Nat) : Int)) + ((3 : Int) * ((y : Nat) : Int))) % (5 : Int)))), .i (.slice (some ⟨ab, ao, none⟩) 25 ca), .n ((x : Nat) : Int), .n ((y : Nat) : Int), .n ((5 : Int) * ((y : Nat) : Int)), .n (((x : Nat) : Int) + ((5 : Int) * ((y : Nat) : Int))), .q ab (ao + (x + 5 * y) * 1), .i (.int .u64 ((a0 : Nat) : Int)), .i (.int .u64 ((d0 : Nat) : Int)), .i (.int .u64 ((a0 ^^^ d0 : Nat) : Int)), .s (fun v w => Sl w (fun _ => True) 1 v 25 (i64s Cg)) fun v w w' h hb => h.ext hb, .n ((x : Nat) : Int), .n ((y : Nat) : Int), .n ((5 : Int) * ((y : Nat) : Int)), .n (((x : Nat) : Int) + ((5 : Int) * ((y : Nat) : Int))), .s (fun v w => ∃ p : Addr, v = .pointer (some p) /\ w.cell? p = some (.int .i64 ((t0 : Nat) : Int)) /\ p.block < w.heap.size) fun v w w' h hb => by obtain ⟨p, h1, h2, h3⟩ := h; exact ⟨p, h1, (hb.cell h3).trans h2, Nat.lt_of_lt_of_le h3 hb.size⟩, .n ((t0 : Nat) : Int), .i (.int .u64 ((FC (a0 ^^^ d0) t0 : Nat) : Int)), .q g7 (0 + (y + 5 * ((2 * x + 3 * y) % 5)) * 1), .t] ⟨uM, uM, uM, uB (h := fun w hW hN => DQ (by omega) (by omega)), uM, uB (h := fun w hW hN => DQ (by omega) (by omega)), uB (h := fun w hW hN => CC (by omega) (by omega)), uB (h := fun w hW hN => EG (by omega) (by omega)), uB (h := fun w hW hN => DQ (by omega) (by omega)), uB (h := fun w hW hN => CC (by omega) (by omega)), uM, uM, uM, uB (h := fun w hW hN => DQ (by omega) (by omega)), uB (h := fun w hW hN => CC (by omega) (by omega)), uI (h := fun w hW hN => Af (m := x + 5 * y) Tryz.underlying37 (by kernel_rfl) (by omega) (by omega)), uC (h := fun w hW hN => HA.out w hW), uM, uB (h := fun w hW hN => Dq l0 ld), ?_, uM, uM, uB (h := fun w hW hN => DQ (by omega) (by omega)), uB (h := fun w hW hN => CC (by omega) (by omega)), ?_, ?_, ?_, uI (h := fun w hW hN => Af (m := y + 5 * ((2 * x + 3 * y) % 5)) Tryz.underlying37 (by kernel_rfl) (by omega) (by omega)), trivial⟩ ?_
       ·refine uT fun b__ w hW hE K hK => ?_
        exact AV rfl (by kernel_rfl) rfl (turns03_any w) fun v w' h hb => hK v w' ((Sl.of_own h).imp fun _ _ _ => trivial) hb
       ·refine uT fun b__ w hW hE K hK => ?_
        have e91 := hE 91
        have e95 := hE 95
        obtain ⟨b1, j1, h1, -, h3, h4⟩ := Hf (P := Tryz.prog) (T := 74) (kk := .i64) (k := x + 5 * y) e91 Tryz.underlying74 (by kernel_rfl) (by omega)
        exact Br rfl rfl (e95.trans (congrArg (Value.int .i64) (by omega))) h1 (hK _ _ ⟨_, rfl, h4 0 _ HTU.out, h3⟩ (Below.refl _ _))
       ·refine uT fun b__ w hW hE K hK => ?_
        have e96 := hE 96
        obtain ⟨p, hp, hc, -⟩ := e96
        exact Ad rfl hp (by kernel_rfl) hc (hK _ _ rfl (Below.refl _ _))
       ·refine uT fun b__ w hW hE K hK => ?_
        have e90 := hE 90
        have e97 := hE 97
        exact AV rfl (by kernel_rfl) (by simp only [List.map_cons, List.map_nil, e90, e97]) (rotl03_ret (a0 ^^^ d0) t0 lx l1 w) fun v w' h hb => hK v w' h hb
       ·intro vs wz hW hT
        obtain ⟨e72, e73, e74, e75, e76, e77, e78, e79, e80, e81, e82, e83, e84, e85, e86, e87, e88, e89, e90, e91, e92, e93, e94, e95, e96, e97, e98, e99, -⟩ := hT
        have bx : (fun _ : Nat => True) 0 := trivial
        simp only [AL, Act.put, zz, ze]
        (intro o_ ho_; simp only [List.getElem?_toArray, List.getElem?_cons_succ, List.getElem?_cons_zero, Option.some.injEq] at ho_; subst ho_)
        refine E6 rfl (g := g7) (i := y + 5 * ((2 * x + 3 * y) % 5)) (e99.trans (by rw [Nat.zero_add, Nat.mul_one])) e98 ((hS.ext hW).own 0 rfl) (by omega) rfl rfl (by kernel_rfl) fun w4 h1 hU => ?_
        replace hS := (hS.ext hW).upd 0 rfl (.own (.slice (some ⟨g7, 0, none⟩) 25 25) 26 1 25 ((Ai R).set (y + 5 * ((2 * x + 3 * y) % 5)) (Value.int .u64 ((FC (a0 ^^^ d0) t0 : Nat) : Int)))) (by simpa [A7.blk, Value.ownBlock] using Bv hU) h1 fun _ e => .inl e
        rw [<- DZ, <- HKA.out, <- HSR.out] at hS
        simp only [CO]
        simp only [Act.put, List.setIfInBounds_toArray, List.set_cons_zero, List.set_cons_succ]
        clear e98 e99 h1 hU hW
        go_wp2_with fail
        exact ⟨⟨y + 1, hlt4, by go_num, hS⟩, by simp [intOf]; omega⟩
      ·obtain rfl : y = 5 := by omega
       go_wp2_with fail
       exact ⟨⟨x + 1, hlt, by go_num, by rw [HSB.out]; exact hS⟩, by simp [intOf]; omega⟩
    ·obtain rfl : x = 5 := by omega
     simp only [show ((5 : Nat) : Int) = 5 from rfl]
     have hwB := Ds hw hwC 5
     have hlB := I3 a C 5
     have HKR := Lib.hid (show Fa a c = ((List.range 25).map (ka (FI a C 5))).set 0 (ka (FI a C 5) 0 ^^^ c) by rw [HCE.out]; rfl)
     generalize FI a C 5 = B at *
     replace hS := hS.freeze 0 (by decide) rfl
     clear hlt hx hwC hlC
     go_wp2_with (first
      | ((with_reducible show wpList _ _ _ (⟨_, .makeSlice _ _ _, _, _, _, _⟩ :: _) _ _); refine IP hS rfl _ _ _ rfl Jq .i64 .i64 25 #[.int .u64 0] rfl rfl (by kernel_rfl) (by decide) (by decide) ?_; clear hS; intro g11 w_ hS))
     rw [Hy, <- oTo_zero B] at hS
     obtain ⟨K2, hK2, hS⟩ : ∃ K2, (∀ D w, K2 D w -> Sl w D 1 (.slice (some ⟨g7, 0, none⟩) 25 25) 25 (Ai B)) /\ St w0 w_ [.own (.slice (some ⟨g11, 0, none⟩) 25 25) 26 1 25 (Ai (oTo B 0 0))] K2 := ⟨_, fun _ _ h => h.2, hS⟩
     have HK2 := Lib.hid hK2
     clear hK2
     go_loopw [12] (fun i wr => ∃ (x : Nat), x <= 5 /\ i = .int .i64 x /\ St w0 wr [.own (.slice (some ⟨g11, 0, none⟩) 25 25) 26 1 25 (Ai (oTo B x 0))] K2) (fun i _ => 5 - (intOf i).toNat)
     case atStart => exact ⟨0, by omega, rfl, hS⟩
     case round =>
      clear hS
      obtain ⟨x, hx, rfl, hS⟩ := hrel
      by_cases hlt : x < 5
      ·go_wp2_with fail
       go_loopw [13] (fun i wr => ∃ (y : Nat), y <= 5 /\ i = .int .i64 y /\ St w0 wr [.own (.slice (some ⟨g11, 0, none⟩) 25 25) 26 1 25 (Ai (oTo B x y))] K2) (fun i _ => 5 - (intOf i).toNat)
       case atStart => exact ⟨0, by omega, rfl, hS⟩
       case round =>
        clear hS
        obtain ⟨y, hy, rfl, hS⟩ := hrel
        by_cases hlt4 : y < 5
        ·have hsl := HK2.out _ _ hS.ro
         have h0 := sl_at hsl hlB (j := x + 5 * y) (by omega)
         have h1 := sl_at hsl hlB (j := (x + 1) % 5 + 5 * y) (by omega)
         have h2 := sl_at hsl hlB (j := (x + 2) % 5 + 5 * y) (by omega)
         have hown := hS.own 0 rfl
         have h3 := hown.cellAt (x + 5 * y) (by omega)
         rw [C8 _ _ (by rw [oTo_len]; omega)] at h3
         have h4 := hown.frozenAt (x + 5 * y)
         have HSP := Lib.hid (hS.put64 0 rfl (x + 5 * y) (ka B (x + 5 * y)))
         have HOS := Lib.hid (oTo_step B (x := x) (y := y) hlt hlt4)
         have HKA := Lib.hid (show ka B (x + 5 * y) = B.getD (x + 5 * y) 0 ^^^ (BG (B.getD ((x + 1) % 5 + 5 * y) 0) &&& B.getD ((x + 2) % 5 + 5 * y) 0) by
          unfold ka
          rw [show (x + 5 * y) % 5 = x by omega, show (x + 5 * y) / 5 * 5 = 5 * y by omega])
         have l0 := hwB.getD (x + 5 * y)
         have l1 := hwB.getD ((x + 1) % 5 + 5 * y)
         have l2 := hwB.getD ((x + 2) % 5 + 5 * y)
         simp only [Nat.zero_add] at h0 h1 h2
         generalize B.getD (x + 5 * y) 0 = b0 at *
         generalize B.getD ((x + 1) % 5 + 5 * y) 0 = b1 at *
         generalize B.getD ((x + 2) % 5 + 5 * y) 0 = b2 at *
         clear hsl hown
         go_wp2_with (go_region)
         have he : bits .xor .u64 (b0 : Int) (bits .and .u64 (bits .xor .u64 (if IntKind.u64.signed = true then -1 else IntKind.u64.max) (b1 : Int)) (b2 : Int)) = ((ka B (x + 5 * y) : Nat) : Int) := by
          rw [notu l1, Gt (EK _) l2, Ec l0 (and_lt (EK _)), HKA.out]
         rw [he]
         exact ⟨⟨y + 1, hlt4, by go_num, by rw [<- HOS.out]; exact HSP.out⟩, by simp [intOf]; omega⟩
        ·obtain rfl : y = 5 := by omega
         go_wp2_with fail
         exact ⟨⟨x + 1, hlt, by go_num, by rw [<- oTo_wrap]; exact hS⟩, by simp [intOf]; omega⟩
      ·obtain rfl : x = 5 := by omega
       rw [oTo_full] at hS
       have hc0 : (Ai ((List.range 25).map (ka B)))[0]? = some (.int .u64 (ka B 0 : Nat)) := by rw [C8 _ _ (by simp)]; simp
       have hx0 := Ec (ka_lt hwB 0) hc
       have HC0 := Lib.hid hc0
       have HX0 := Lib.hid hx0
       clear hc0 hx0
       generalize ka B 0 = k0 at *
       obtain ⟨M, hM⟩ : ∃ M, M = (List.range 25).map (ka B) := ⟨_, rfl⟩
       rw [<- hM] at hS HC0 HKR
       clear hM
       go_wp2_with (first
        | ((with_reducible refine qA 146 ?_); refine BigFrame.wpList_want rfl fun _ hK => Ad rfl rfl (by kernel_rfl) (BO (hS.own 0 rfl) 0 _ HC0.out) (hK _ _ ?_))
        | ((with_reducible refine qm 26 ?_); refine Dp hS 0 rfl _ _ _ rfl g11 0 (.int .u64 ((k0 ^^^ c : Nat) : Int)) rfl (congrArg (Value.int .u64) HX0.out) rfl (by decide) rfl rfl (by kernel_rfl) ?_; clear hS; intro w_ hS; (try simp only [Act.put, Act.eval, zz, Value.cells] at hS)))
       go_ret
       rw [HKR.out]
       have h := hS.own 0 rfl
       rw [<- DZ] at h
       exact Ax.mk h hS.below
end
section
open Go.RowKit
attribute [local go_sem ↓] Go.wp_at_zero Go.wp_at_succ
set_option maxRecDepth 20000
set_option exponentiation.threshold 5000
def Fm (l : List Nat) : List Nat := l.take (136 * (l.length / 136)) ++ EL (l.drop (136 * (l.length / 136)))
theorem Km {r : List Nat} (h : r.length < 136) : EL r = (r ++ 6 :: List.replicate (135 - r.length) 0).set 135 ((r ++ 6 :: List.replicate (135 - r.length) 0).getD 135 0 ^^^ 128) := by
 have e : (r ++ List.replicate (136 - r.length) 0).set r.length 6 = r ++ 6 :: List.replicate (135 - r.length) 0 := by
  rw [show 136 - r.length = (135 - r.length) + 1 by omega, List.replicate_succ, List.set_append_right _ _ (Nat.le_refl _), Nat.sub_self, List.set_cons_zero]
 unfold EL
 dsimp only
 rw [e]
theorem padB_eq (l : List Nat) {z : Nat} (hz : z < 136) (h : (l.length + 1 + z) % 136 = 0) :
  (l ++ 6 :: List.replicate z 0).set (l.length + z) ((l ++ 6 :: List.replicate z 0).getD (l.length + z) 0 ^^^ 128) = Fm l := by
 have hd := Nat.div_add_mod l.length 136
 have hr : (l.drop (136 * (l.length / 136))).length = l.length % 136 := by rw [List.length_drop]; omega
 have hz2 : z = 135 - l.length % 136 := by omega
 have htl : (l.take (136 * (l.length / 136))).length = 136 * (l.length / 136) := by rw [List.length_take]; omega
 have hs : l ++ 6 :: List.replicate z 0 = l.take (136 * (l.length / 136)) ++ (l.drop (136 * (l.length / 136)) ++ 6 :: List.replicate z 0) := by
  rw [<- List.append_assoc, List.take_append_drop]
 unfold Fm
 rw [Km (by rw [hr]; omega), hr, <- hz2, hs]
 generalize l.take (136 * (l.length / 136)) = A at *
 generalize l.drop (136 * (l.length / 136)) ++ 6 :: List.replicate z 0 = B at *
 have e : l.length + z = A.length + 135 := by omega
 rw [e, List.set_append_right _ _ (by omega), show A.length + 135 - A.length = 135 by omega]
 congr 2
 rw [List.getD_eq_getElem?_getD, List.getElem?_append_right (by omega), show A.length + 135 - A.length = 135 by omega, <- List.getD_eq_getElem?_getD]
theorem padB_len (l : List Nat) : (Fm l).length = 136 * (l.length / 136 + 1) := by
 have hd := Nat.div_add_mod l.length 136
 have hr : (l.drop (136 * (l.length / 136))).length = l.length % 136 := by rw [List.length_drop]; omega
 unfold Fm
 rw [Km (by rw [hr]; omega), List.length_append, List.length_set, List.length_append, List.length_cons, List.length_replicate, List.length_take, hr]
 omega
theorem padB_bytes {l : List Nat} (h : AK l) : AK (Fm l) := by
 have hr : (l.drop (136 * (l.length / 136))).length = l.length % 136 := by have hd := Nat.div_add_mod l.length 136; rw [List.length_drop]; omega
 have hb : AK (l.drop (136 * (l.length / 136)) ++ 6 :: List.replicate (135 - l.length % 136) 0) := fun x hx => by
  rcases List.mem_append.1 hx with h1 | h1
  ·exact h x (List.mem_of_mem_drop h1)
  ·rcases List.mem_cons.1 h1 with rfl | h1
   ·decide
   ·exact AK.rep _ x h1
 unfold Fm
 rw [Km (by rw [hr]; omega), hr]
 intro x hx
 rcases List.mem_append.1 hx with h1 | h1
 ·exact h x (List.mem_of_mem_take h1)
 ·rcases List.mem_or_eq_of_mem_set h1 with h2 | h2
  ·exact hb x h2
  ·rw [h2]; exact Nat.xor_lt_two_pow (n := 8) (hb.getD _) (by decide)
set_option maxHeartbeats 1000000 in
theorem pad03_any (p : Value) (l : List Nat) (hb : AK l) (hl : l.length <= 1000000000) (w0 : World) (D : Nat -> Prop) (hp : Sl w0 D 1 p l.length (Aa l)) :
  Calls Tryz.prog 200 #[p] w0 (Ax (fun x w' => Fn w' w0.heap.size x (Fm l)) w0) := by
 obtain ⟨A, c, rfl, _, _⟩ := hp.shape
 obtain ⟨K, hk, hS⟩ : ∃ K, (∀ D w, K D w -> Sl w D 1 (.slice A l.length c) l.length (Aa l)) /\ St w0 w0 [] K := ⟨fun D w => Sl w D 1 (.slice A l.length c) l.length (Aa l), fun _ _ h => h, St.start Aj hp⟩
 clear hp
 have HK := Lib.hid hk
 clear hk
 go_enter Tryz.func200, Tryz.ntmps200
 go_wp2_with (first
  | ((with_reducible show wpList _ _ _ (⟨_, .buildSlice _ 0 _, _, _, _, _⟩ :: _) _ _); refine JH hS rfl _ _ rfl Tryz.underlying22 (by kernel_rfl) 1 ?_; clear hS; intro ge w_ hS)
  | ((with_reducible refine qA 6 ?_); refine Dk hS 0 rfl _ _ _ rfl Da _ 0 [] rfl rfl _ _ l.length (Aa l) rfl (HK.out _ _ hS.ro) (B6 _) (by unfold maxLen; omega) (by omega) ?_; clear hS; intro v_ w_ hS; (try simp only [Act.put, Act.eval, zz, Value.cells] at hS); simp only [List.nil_append, Nat.zero_add] at hS)
  | ((with_reducible refine qA 8 ?_); refine Ef hS 0 rfl rfl _ _ _ _ rfl rfl Da _ _ _ (.int .u8 6) #[.int .u8 6] rfl (by kernel_rfl) rfl rfl rfl rfl (by intro u hu; simp at hu; subst hu; rfl) (by omega) (by omega) ?_; clear hS; intro z_ v' w_ hS; (try simp only [Act.put, Act.eval, zz, Value.cells] at hS)))
 have hS1 : St w0 w_ [.own v' 5 1 (l.length + 1 + 0) (Aa (l ++ 6 :: List.replicate 0 0))] K := by simpa [Aa] using hS
 clear hS
 obtain ⟨z, hz⟩ : ∃ z, z = (136 - (l.length + 1) % 136) % 136 := ⟨_, rfl⟩
 have hz1 : z < 136 := by omega
 have hz2 : (l.length + 1 + z) % 136 = 0 := by omega
 have hz3 : ∀ j, j < z -> (l.length + 1 + j) % 136 ≠ 0 := fun j hj => by omega
 have HZ := Lib.hid hz2
 have HZ3 := Lib.hid hz3
 clear hz hz2 hz3
 go_loopw [3] (fun o wr => ∃ (j : Nat) (ov : Value), j <= z /\ o = ov /\ (∃ g c, ov = .slice (some ⟨g, 0, none⟩) (l.length + 1 + j) c) /\ St w0 wr [.own ov 5 1 (l.length + 1 + j) (Aa (l ++ 6 :: List.replicate j 0))] K) (fun o _ => match o with | .slice _ n _ => l.length + 1 + z - n | _ => 0)
 case atStart =>
  obtain ⟨g1, c1, e1, _, _⟩ := DK (hS1.own 0 rfl) (by omega)
  exact ⟨0, v', by omega, rfl, ⟨g1, c1, e1⟩, hS1⟩
 case round =>
  clear hS1
  obtain ⟨j, ov, hj, rfl, ⟨g1, c1, rfl⟩, hS⟩ := hrel
  have hm : ((l.length + 1 + j : Nat) : Int).tmod 136 = (((l.length + 1 + j) % 136 : Nat) : Int) := Fv _ 136
  by_cases hlt : j < z
  ·have hne := HZ3.out j hlt
   go_wp2_with (first
    | ((with_reducible refine qB ?_); refine qc ?_ ?_ <;> intro h_ <;> go_prune)
    | ((with_reducible refine qA 15 ?_); refine Ef hS 0 rfl rfl _ _ _ _ rfl rfl Da _ _ _ (.int .u8 0) #[.int .u8 0] rfl (by kernel_rfl) rfl rfl rfl rfl (by intro u hu; simp at hu; subst hu; rfl) (by omega) (by omega) ?_; clear hS; intro z_ v' w_ hS; (try simp only [Act.put, Act.eval, zz, Value.cells] at hS)))
   ·obtain ⟨g2, c2, e2, _, _⟩ := DK (hS.own 0 rfl) (by omega)
    subst e2
    refine ⟨⟨j + 1, _, hlt, rfl, ⟨g2, c2, rfl⟩, ?_⟩, by simp; omega⟩
    rw [List.replicate_succ', <- List.cons_append, <- List.append_assoc]
    have : (Aa (l ++ 6 :: List.replicate j 0 ++ [0])) = Aa (l ++ 6 :: List.replicate j 0) ++ [.int .u8 0] := by simp [Aa]
    rw [this]; exact hS
  ·obtain rfl : j = z := by omega
   have h0 := HZ.out
   rw [h0] at hm
   obtain ⟨k, hk⟩ : ∃ k, k = l.length + j := ⟨_, rfl⟩
   have t1 : (l.length : Int) + 1 + (j : Int) - 1 = (k : Int) := by omega
   have t2 : k < l.length + 1 + j := by omega
   have hc : (Aa (l ++ 6 :: List.replicate j 0))[k]? = some (.int .u8 ((l ++ 6 :: List.replicate j 0).getD k 0 : Nat)) := CZ _ _ (by simp; omega)
   have hbb : AK (l ++ 6 :: List.replicate j 0) := fun x hx => by
    rcases List.mem_append.1 hx with h | h
    ·exact hb x h
    ·rcases List.mem_cons.1 h with rfl | h
     ·decide
     ·exact AK.rep _ x h
   have hx := u8_xor_nat _ 128 (hbb.getD k) (by decide)
   have HPE := Lib.hid (padB_eq l hz1 h0)
   rw [<- hk] at HPE
   have HC := Lib.hid hc
   have HX := Lib.hid hx
   clear hc hx hbb hk
   generalize (l ++ 6 :: List.replicate j 0) = L at *
   generalize L.getD k 0 = y at *
   go_wp2_with (first
    | ((with_reducible refine qB ?_); refine qc ?_ ?_ <;> intro h_ <;> go_prune)
    | ((with_reducible refine qA 26 ?_); refine BigFrame.wpList_want rfl fun _ hK => Ad rfl rfl (by kernel_rfl) (BO (hS.own 0 rfl) k _ HC.out) (hK _ _ ?_))
    | ((with_reducible refine qm 5 ?_); refine Dp hS 0 rfl _ _ _ rfl g1 k (.int .u8 ((y ^^^ 128 : Nat) : Int)) rfl (congrArg (Value.int .u8) HX.out) rfl (by omega) rfl rfl (by kernel_rfl) ?_; clear hS; intro w_ hS; (try simp only [Act.put, Act.eval, zz, Value.cells] at hS)))
   go_ret
   rw [<- FT, HPE.out] at hS
   exact Ax.mk (Ht (hS.own 0 rfl) rfl) hS.below
end
section
open Go.RowKit
attribute [local go_sem ↓] Go.wp_at_zero Go.wp_at_succ
set_option maxRecDepth 20000
def pw (b : List Nat) (i : Nat) : Nat -> Nat
 | 0 => 0
 | n + 1 => pw b i n + 2 ^ (8 * n) * b.getD (8 * i + n) 0
theorem pw_lt {b : List Nat} (h : ∀ k, b.getD k 0 < 256) (i n : Nat) : pw b i n < 2 ^ (8 * n) := by
 induction n with
 | zero => simp [pw]
 | succ n ih =>
  show pw b i n + 2 ^ (8 * n) * b.getD (8 * i + n) 0 < 2 ^ (8 * (n + 1))
  have h1 := h (8 * i + n)
  have h2 : 2 ^ (8 * (n + 1)) = 2 ^ (8 * n) * 256 := by rw [show 8 * (n + 1) = 8 * n + 8 by omega, Nat.pow_add]
  have h3 : 2 ^ (8 * n) * (b.getD (8 * i + n) 0 + 1) <= 2 ^ (8 * n) * 256 := Nat.mul_le_mul_left _ (by omega)
  rw [Nat.mul_add] at h3
  omega
theorem xor_disj {x i a : Nat} (h : x < 2 ^ i) : x ^^^ (2 ^ i * a) = x + 2 ^ i * a := by
 apply Nat.eq_of_testBit_eq
 intro j
 rw [Nat.testBit_xor, Nat.add_comm x, Nat.testBit_two_pow_mul_add _ h, Nat.testBit_two_pow_mul]
 rcases Nat.lt_or_ge j i with hj | hj
 ·rw [if_pos hj]; simp [show ¬ i <= j by omega]
 ·rw [if_neg (by omega), Nat.testBit_lt_two_pow (Nat.lt_of_lt_of_le h (Nat.pow_le_pow_right (by decide) hj))]; simp [hj]
theorem lew_pw {b : List Nat} (h : ∀ k, b.getD k 0 < 256) (i : Nat) : lew b i 8 = pw b i 8 := by
 have step : ∀ x y : Nat, y < 256 -> x * 256 < AA -> (x * 256) % AA ||| y = x * 256 + y := fun x y hy hx => by
  rw [Nat.mod_eq_of_lt hx, Nat.mul_comm x, show 256 = 2 ^ 8 from rfl, Nat.two_pow_add_eq_or_of_lt hy]
 have h0 := h (8 * i + 0)
 have h1 := h (8 * i + 1)
 have h2 := h (8 * i + 2)
 have h3 := h (8 * i + 3)
 have h4 := h (8 * i + 4)
 have h5 := h (8 * i + 5)
 have h6 := h (8 * i + 6)
 have h7 := h (8 * i + 7)
 simp only [lew, pw]
 simp only [show 7 - 0 = 7 from rfl, show 7 - 1 = 6 from rfl, show 7 - 2 = 5 from rfl, show 7 - 3 = 4 from rfl, show 7 - 4 = 3 from rfl, show 7 - 5 = 2 from rfl, show 7 - 6 = 1 from rfl, show 7 - 7 = 0 from rfl]
 generalize b.getD (8 * i + 0) 0 = y0 at *
 generalize b.getD (8 * i + 1) 0 = y1 at *
 generalize b.getD (8 * i + 2) 0 = y2 at *
 generalize b.getD (8 * i + 3) 0 = y3 at *
 generalize b.getD (8 * i + 4) 0 = y4 at *
 generalize b.getD (8 * i + 5) 0 = y5 at *
 generalize b.getD (8 * i + 6) 0 = y6 at *
 generalize b.getD (8 * i + 7) 0 = y7 at *
 rw [step 0 y7 h7 (by unfold AA; omega)]
 rw [step _ y6 h6 (by unfold AA; omega)]
 rw [step _ y5 h5 (by unfold AA; omega)]
 rw [step _ y4 h4 (by unfold AA; omega)]
 rw [step _ y3 h3 (by unfold AA; omega)]
 rw [step _ y2 h2 (by unfold AA; omega)]
 rw [step _ y1 h1 (by unfold AA; omega)]
 rw [step _ y0 h0 (by unfold AA; omega)]
 omega
def xB (a b : List Nat) (k : Nat) : List Nat := (List.range 25).map fun i => a.getD i 0 ^^^ pw b i (min 8 (k - 8 * i))
theorem xB_len (a b : List Nat) (k : Nat) : (xB a b k).length = 25 := by simp [xB]
theorem xB_at (a b : List Nat) (k i : Nat) (h : i < 25) : (xB a b k).getD i 0 = a.getD i 0 ^^^ pw b i (min 8 (k - 8 * i)) := by
 simp [xB, List.getD_eq_getElem?_getD, h]
theorem xB_zero (a b : List Nat) (h : a.length = 25) : xB a b 0 = a := by
 apply List.ext_getElem
 ·rw [xB_len, h]
 ·intro j h1 h2
  simp [xB, pw, List.getElem?_eq_getElem h2]
theorem xB_step (a : List Nat) {b : List Nat} (hb : ∀ k, b.getD k 0 < 256) {k : Nat} (hk : k < 136) :
  (xB a b k).set (k / 8) ((xB a b k).getD (k / 8) 0 ^^^ (2 ^ (8 * (k % 8)) * b.getD k 0)) = xB a b (k + 1) := by
 apply List.ext_getElem
 ·simp [xB]
 ·intro j h1 h2
  have hj : j < 25 := by simpa [xB] using h2
  have e : (xB a b (k + 1))[j] = a.getD j 0 ^^^ pw b j (min 8 (k + 1 - 8 * j)) := by simp [xB]
  refine Eq.trans ?_ e.symm
  rw [List.getElem_set]
  split
  ·rename_i hkj
   subst hkj
   rw [xB_at _ _ _ _ hj, Nat.xor_assoc]
   congr 1
   rw [show min 8 (k - 8 * (k / 8)) = k % 8 by omega, show min 8 (k + 1 - 8 * (k / 8)) = k % 8 + 1 by omega, xor_disj (pw_lt hb _ _)]
   show _ = pw b (k / 8) (k % 8) + 2 ^ (8 * (k % 8)) * b.getD (8 * (k / 8) + k % 8) 0
   rw [Nat.div_add_mod]
  ·rename_i hkj
   have e2 : (xB a b k)[j]'(by rw [xB_len]; exact hj) = a.getD j 0 ^^^ pw b j (min 8 (k - 8 * j)) := by simp [xB]
   refine e2.trans ?_
   rw [show min 8 (k + 1 - 8 * j) = min 8 (k - 8 * j) by omega]
theorem xB_full (a : List Nat) {b : List Nat} (hb : ∀ k, b.getD k 0 < 256) : xB a b 136 = CY (absW a b) a 17 := by
 unfold xB CY
 apply List.map_congr_left
 intro i hi
 have hi : i < 25 := List.mem_range.1 hi
 split
 ·rename_i h
  rw [show min 8 (136 - 8 * i) = 8 by omega, <- lew_pw hb]
  rfl
 ·rename_i h
  rw [show min 8 (136 - 8 * i) = 0 by omega]
  simp [pw]
theorem lastK_len {r : List Nat} (h : r.length < 136) : (EL r).length = 136 := by
 unfold EL
 simp
 omega
theorem blk_pad (l : List Nat) {j : Nat} (hj : j < l.length / 136) : En (Fm l) j = En l j := by
 have hd := Nat.div_add_mod l.length 136
 unfold En Fm
 have e : (l.take (136 * (l.length / 136))).drop (136 * j) = (l.drop (136 * j)).take (136 * (l.length / 136) - 136 * j) := by rw [List.drop_take]
 rw [List.drop_append_of_le_length (by rw [List.length_take]; omega), e, List.take_append_of_le_length (by rw [List.length_take, List.length_drop]; omega), List.take_take]
 congr 1
 omega
theorem blk_last (l : List Nat) : En (Fm l) (l.length / 136) = EL (l.drop (136 * (l.length / 136))) := by
 have hd := Nat.div_add_mod l.length 136
 have hr : (l.drop (136 * (l.length / 136))).length < 136 := by rw [List.length_drop]; omega
 unfold En Fm
 have hl : (l.take (136 * (l.length / 136))).length = 136 * (l.length / 136) := by rw [List.length_take]; omega
 rw [List.drop_append, List.drop_eq_nil_of_le (by omega), hl, Nat.sub_self, List.drop_zero, List.nil_append, List.take_of_length_le (by rw [lastK_len hr]; omega)]
theorem stB_pad (st l : List Nat) : ∀ j, j <= l.length / 136 -> stB st (Fm l) j = stB st l j
 | 0, _ => rfl
 | j + 1, h => by
  show CG (stB st (Fm l) j) (En (Fm l) j) = CG (stB st l j) (En l j)
  rw [stB_pad st l j (by omega), blk_pad l h]
theorem sha3_pad (l : List Nat) : CU l = (List.range 32).map (GC (stB (List.replicate 25 0) (Fm l) (l.length / 136 + 1))) := by
 unfold CU H6
 show _ = (List.range 32).map (GC (CG (stB (List.replicate 25 0) (Fm l) (l.length / 136)) (En (Fm l) (l.length / 136))))
 rw [stB_pad _ _ _ (Nat.le_refl _), blk_last]
theorem blk_at (M : List Nat) (j k : Nat) (hk : k < 136) : (En M j).getD k 0 = M.getD (136 * j + k) 0 := by
 unfold En
 rw [List.getD_eq_getElem?_getD, List.getElem?_take, if_pos hk, List.getElem?_drop, <- List.getD_eq_getElem?_getD]
theorem St.putBox {w0 w : World} {F : List A7} {K : (Nat -> Prop) -> World -> Prop} (h : St w0 w F K) (i : Nat) {g : Nat} {t : TypeId} {cs : Array Value} (hi : F[i]? = some (.box g t cs)) (j : Nat) (u : Value) :
  St w0 (w.setCell ⟨g, j, none⟩ u) (F.set i (.box g t (cs.setIfInBounds j u))) K :=
 (h.upd i hi (.box g t (cs.setIfInBounds j u)) (Bv (BD w g j u)) ⟨(h.holds _ (List.mem_of_getElem? hi)).1, (h.box i hi).setC u⟩ fun _ e => .inl e)
theorem sl_byte {w : World} {D : Nat -> Prop} {b o n c : Nat} {l : List Nat} (h : Sl w D 1 (.slice (some ⟨b, o, none⟩) n c) n (Aa l)) (hl : l.length = n) {j : Nat} (hj : j < n) : w.cell? ⟨b, o + j, none⟩ = some (.int .u8 (l.getD j 0 : Nat)) := by
 obtain ⟨_, A, c', e, _, _, h3⟩ := h
 injection e with e1 e2 e3
 obtain ⟨b', o', hA, _, _, h4⟩ := h3 (by omega)
 rw [hA] at e1
 injection e1 with e1
 injection e1 with e1 e2 _
 subst e1 e2
 exact h4 j _ (CZ l j (by omega))
theorem run_shl8 {P : Program} {w : World} {t : TypeId} {y k : Nat} {e : Int} (hy : y < 256) (he : e = ((8 * (k % 8) : Nat) : Int)) : (binOp .shl t (.int .u64 (y : Nat)) (.int .i64 e)).run P w = .ok (.int .u64 ((2 ^ (8 * (k % 8)) * y : Nat) : Int)) w := by
 subst he
 have h := (shl8 hy (k % 8) (Nat.mod_lt _ (by decide))).1
 have h1 : (((8 * (k % 8) : Nat) : Int)).toNat = 8 * (k % 8) := by omega
 have h2 : ¬ (((8 * (k % 8) : Nat) : Int)) < 0 := by omega
 go_simp
 rw [show (8 * ((k : Int) % 8)).toNat = 8 * (k % 8) by omega, h]
 rw [Int.natCast_mul, Int.natCast_pow]; exact Int.mul_comm _ _
set_option maxHeartbeats 4000000 in
theorem sum03_any (p : Value) (l : List Nat) (hb : AK l) (hl : l.length <= 100000000) (w0 : World) (D : Nat -> Prop) (hp : Sl w0 D 1 p l.length (Aa l)) :
  Calls Tryz.prog 160 #[p] w0 (Ax (fun x _ => x = .agg (Aa (CU l)).toArray) w0) := by
 obtain ⟨K, hk, hS⟩ : ∃ K : (Nat -> Prop) -> World -> Prop, (∀ D w, K D w -> Sl w D 1 p l.length (Aa l)) /\ St w0 w0 [] K := ⟨_, fun _ _ h => h, St.start Aj hp⟩
 clear hp
 have HK := Lib.hid hk
 clear hk
 obtain ⟨M, q, hMb, hMl, hql, HPad, HSH⟩ : ∃ (M : List Nat) (q : Nat), AK M /\ (M.length <= 136 * q /\ 136 * q <= M.length) /\ q <= 1000000 /\ Hid (∀ (w : World) (D : Nat -> Prop), Sl w D 1 p l.length (Aa l) -> Calls Tryz.prog 200 #[p] w (Ax (fun x w' => Fn w' w.heap.size x M) w)) /\ Hid (CU l = (List.range 32).map (GC (stB (List.replicate 25 0) M q)) /\ 0 < q) :=
  ⟨Fm l, l.length / 136 + 1, padB_bytes hb, ⟨Nat.le_of_eq (padB_len l), Nat.le_of_eq (padB_len l).symm⟩, by omega, Lib.hid (fun w D h => pad03_any p l hb (by omega) w D h), Lib.hid ⟨sha3_pad l, by omega⟩⟩
 have HMB := Lib.hid hMb
 clear hMb hb
 obtain ⟨hMl, hMl'⟩ := hMl
 go_enter Tryz.func160, Tryz.ntmps160
 go_wp2_with (first
  | ((with_reducible refine qA 2 ?_); refine CT hS rfl _ rfl (by kernel_rfl) (Aa (List.replicate 32 0)).toArray (by kernel_rfl) ?_; clear hS; intro g2 w_ hS; (try simp only [Act.put, Act.eval, zz, Value.cells] at hS))
  | ((with_reducible show wpList _ _ _ (⟨_, .makeSlice _ _ _, _, _, _, _⟩ :: _) _ _); refine IP hS rfl _ _ _ rfl Jq .i64 .i64 25 #[.int .u64 0] rfl rfl (by kernel_rfl) (by decide) (by decide) ?_; clear hS; intro g11 w_ hS)
  | (go_at_call 200; refine (HPad.out _ _ (HK.out _ _ hS.ro)).mono ?_; rintro r_ w2 ⟨v2, rfl, h2, hb2⟩; replace hS := hS.owned hb2 h2; clear h2 hb2))
 rw [Hy] at hS
 obtain ⟨mb, mc, rfl, _, _⟩ := DK (hS.own 0 rfl) (by have := HSH.out.2; omega)
 replace hS := hS.freeze 0 (by decide) rfl
 obtain ⟨K2, hK2, hS2, hS⟩ : ∃ K2 : (Nat -> Prop) -> World -> Prop, (∀ D w, K2 D w -> Sl w D 1 (.slice (some ⟨mb, 0, none⟩) M.length mc) M.length (Aa M)) /\ AF K2 /\ St w0 w2 [.own (.slice (some ⟨g11, 0, none⟩) 25 25) 26 1 25 (Ai (List.replicate 25 0)), .box g2 86 (Aa (List.replicate 32 0)).toArray] K2 := ⟨_, fun _ _ h => h.2, hS.stable, hS⟩
 have HK2 := Lib.hid hK2
 clear hK2 HK HPad
 go_loopw [3, 5] (fun av i wr => ∃ (j at_ g c : Nat), j <= q /\ (at_ <= 136 * j /\ 136 * j <= at_) /\ i = .int .i64 (at_ : Nat) /\ av = .slice (some ⟨g, 0, none⟩) 25 c /\ St w0 wr [.own (.slice (some ⟨g, 0, none⟩) 25 c) 26 1 25 (Ai (stB (List.replicate 25 0) M j)), .box g2 86 (Aa (List.replicate 32 0)).toArray] K2) (fun _ i _ => M.length - (intOf i).toNat)
 case atStart => exact ⟨0, 0, g11, 25, by omega, by omega, rfl, rfl, hS⟩
 case round =>
  clear hS
  obtain ⟨j, at_, g, c, hj, hat, rfl, rfl, hS⟩ := hrel
  obtain ⟨hwA, hlA⟩ := stB_ok (Ak.zeros 25) (by simp) HMB.out j
  by_cases hlt : j < q
  ·obtain ⟨B, hB, hBb, hBn⟩ : ∃ B, B = En M j /\ AK B /\ ∀ k, k < 136 -> B.getD k 0 = M.getD (at_ + k) 0 := ⟨_, rfl, (HMB.out.drop _).take _, fun k hk => by rw [show at_ = 136 * j by omega]; exact blk_at M j k hk⟩
   have HST := Lib.hid (show stB (List.replicate 25 0) M (j + 1) = CG (stB (List.replicate 25 0) M j) B by rw [hB]; rfl)
   generalize stB (List.replicate 25 0) M j = a at *
   have HAB := Lib.hid (show CG a B = perm (xB a B 136) by rw [xB_full a fun k => hBb.getD k]; rfl)
   have HBB := Lib.hid hBb
   have HBN := Lib.hid hBn
   have HX0 := Lib.hid (xB_zero a B hlA)
   have hwX : ∀ k, Ak (xB a B k) := fun k => Ak.range _ _ fun i _ => BJ (hwA.getD i) (Nat.lt_of_lt_of_le (pw_lt (fun k => HBB.out.getD k) i _) (by rw [show AA = 2 ^ 64 from rfl]; exact Nat.pow_le_pow_right (by decide) (by omega)))
   have HWX := Lib.hid hwX
   clear hB hBb hBn hwX
   go_wp2_with (first | ((with_reducible refine qB ?_); refine qc ?_ ?_ <;> intro h_ <;> go_prune))
   rw [<- HX0.out] at hS
   go_loopw [6] (fun i wr => ∃ (k : Nat), k <= 136 /\ i = .int .i64 k /\ St w0 wr [.own (.slice (some ⟨g, 0, none⟩) 25 c) 26 1 25 (Ai (xB a B k)), .box g2 86 (Aa (List.replicate 32 0)).toArray] K2) (fun i _ => 136 - (intOf i).toNat)
   case atStart => exact ⟨0, by omega, rfl, hS⟩
   case round =>
    clear hS
    obtain ⟨k, hk, rfl, hS⟩ := hrel
    by_cases hlk : k < 136
    ·have hb8 := HBB.out.getD k
     have H0 := Lib.hid (fun (w : World) (h : Below wr.heap.size wr w) => sl_byte (HK2.out _ _ (hS.ext h).ro) rfl (j := at_ + k) (by omega))
     rw [<- HBN.out k hlk] at H0
     have H3 := Lib.hid (fun (w : World) (h : Below wr.heap.size wr w) => BO ((hS.ext h).own 0 rfl) (k / 8) _ (C8 _ (k / 8) (by rw [xB_len]; omega)))
     have HXS := Lib.hid (xB_step a (b := B) (fun k => HBB.out.getD k) hlk)
     have hwk := (HWX.out k).getD (k / 8)
     generalize B.getD k 0 = y at *
     generalize hX : xB a B k = X at *
     have HX := Lib.hid hX
     clear hX
     generalize X.getD (k / 8) 0 = x at *
     have ta : at_ + k < M.length := by omega
     obtain ⟨hsh, hyT⟩ := shl8 hb8 (k % 8) (Nat.mod_lt _ (by decide))
     rw [Nat.mul_comm] at hyT
     go_wp2_with fail
     refine wp_zL 21 [] [.i (.slice (some ⟨g, 0, none⟩) 25 c), .n ((k : Nat) : Int), .n (((k : Nat) : Int) / (8 : Int)), .i (.slice (some ⟨g, 0, none⟩) 25 c), .n ((k : Nat) : Int), .n (((k : Nat) : Int) / (8 : Int)), .q g (0 + (k / 8) * 1), .i (.int .u64 ((x : Nat) : Int)), .i (.slice (some ⟨mb, 0, none⟩) M.length mc), .n ((at_ : Nat) : Int), .n ((k : Nat) : Int), .n (((at_ : Nat) : Int) + ((k : Nat) : Int)), .q mb (0 + (at_ + k) * 1), .i (.int .u8 ((y : Nat) : Int)), .i (.int .u64 ((y : Nat) : Int)), .n ((k : Nat) : Int), .n (((k : Nat) : Int) % (8 : Int)), .n ((8 : Int) * (((k : Nat) : Int) % (8 : Int))), .i (.int .u64 ((2 ^ (8 * (k % 8)) * y : Nat) : Int)), .i (.int .u64 ((x ^^^ (2 ^ (8 * (k % 8)) * y) : Nat) : Int)), .q g (0 + (k / 8) * 1), .t] ⟨uM, uM, uB (h := fun w hW hN => FZ (by omega) (by omega)), uM, uM, uB (h := fun w hW hN => FZ (by omega) (by omega)), uI (h := fun w hW hN => Af (m := k / 8) Tryz.underlying37 (by kernel_rfl) (by omega) (by omega)), uC (h := fun w hW hN => by rw [Nat.zero_add, Nat.mul_one]; exact H3.out w hW), uM, uM, uM, uB (h := fun w hW hN => CC (by omega) (by omega)), uI (h := fun w hW hN => Af (m := at_ + k) Tryz.underlying22 (by kernel_rfl) (by omega) (by omega)), uC (h := fun w hW hN => by rw [Nat.mul_one]; exact H0.out w hW), uE (h := fun w hW hN => by go_simp; exact Cn (by unfold AA; omega)), uM, uB (h := fun w hW hN => EG (by omega) (by omega)), uB (h := fun w hW hN => DQ (by omega) (by omega)), uB (h := fun w hW hN => run_shl8 hb8 (by omega)), uB (h := fun w hW hN => Dq hwk hyT), uI (h := fun w hW hN => Af (m := k / 8) Tryz.underlying37 (by kernel_rfl) (by omega) (by omega)), trivial⟩ ?_
     ·intro vs wz hW hT
      obtain ⟨e24, e25, e26, e27, e28, e29, e30, e31, e32, e33, e34, e35, e36, e37, e38, e39, e40, e41, e42, e43, e44, -⟩ := hT
      simp only [AL, Act.put, zz, ze]
      (intro o_ ho_; simp only [List.getElem?_toArray, List.getElem?_cons_succ, List.getElem?_cons_zero, Option.some.injEq] at ho_; subst ho_)
      refine E6 rfl (g := g) (i := k / 8) (e44.trans (by rw [Nat.zero_add, Nat.mul_one])) e43 ((hS.ext hW).own 0 rfl) (by omega) rfl rfl (by kernel_rfl) fun w4 h1 hU => ?_
      replace hS := (hS.ext hW).upd 0 rfl (.own (.slice (some ⟨g, 0, none⟩) 25 c) 26 1 25 ((Ai X).set (k / 8) (Value.int .u64 ((x ^^^ (2 ^ (8 * (k % 8)) * y) : Nat) : Int)))) (by simpa [A7.blk, Value.ownBlock] using Bv hU) h1 fun _ e => .inl e
      rw [<- DZ, HXS.out] at hS
      simp only [CO]
      simp only [Act.put, List.setIfInBounds_toArray, List.set_cons_zero, List.set_cons_succ]
      clear e43 e44 h1 hU hW
      go_wp2_with fail
      exact ⟨⟨k + 1, hlk, by go_num, hS⟩, by simp [intOf]; omega⟩
    ·obtain rfl : k = 136 := by omega
     obtain ⟨A, hAE, hAw, hAl⟩ : ∃ A, A = xB a B 136 /\ Ak A /\ A.length = 25 := ⟨_, rfl, HWX.out 136, xB_len _ _ _⟩
     rw [<- hAE] at hS HAB
     clear hAE hlk hk hwA hlA HWX HX0
     go_wp2_with (first
      | ((with_reducible refine qB ?_); refine qc ?_ ?_ <;> intro h_ <;> go_prune)
      | (go_at_call 201; refine (rounds03_any _).mono ?_; rintro r_ w2 ⟨v2, rfl, h2, hb2⟩; replace hS := (hS.owned hb2 h2).freeze 0 (by decide) rfl; obtain ⟨A2, c2, rfl, _, _⟩ := Sl.shape hS.ro.2; clear h2 hb2))
     obtain ⟨K3, hK3, hK32, hS⟩ : ∃ K3 : (Nat -> Prop) -> World -> Prop, (∀ D w, K3 D w -> Sl w D 1 (.slice A2 24 c2) 24 (Ai Bk)) /\ (∀ D w, K3 D w -> K2 D w) /\ St w0 w2 [.own (.slice (some ⟨g, 0, none⟩) 25 c) 26 1 25 (Ai A), .box g2 86 (Aa (List.replicate 32 0)).toArray] K3 := ⟨_, fun _ _ h => h.2, fun _ _ h => h.1, hS⟩
     have HK32 := Lib.hid hK32
     have HK2S := Lib.hid hS2
     clear hK32 hS2
     go_loopw [3, 47] (fun av i wr => ∃ (k g c : Nat), k <= 24 /\ i = .int .i64 k /\ av = .slice (some ⟨g, 0, none⟩) 25 c /\ St w0 wr [.own (.slice (some ⟨g, 0, none⟩) 25 c) 26 1 25 (Ai (Ew A k)), .box g2 86 (Aa (List.replicate 32 0)).toArray] K3) (fun _ i _ => 24 - (intOf i).toNat)
     case atStart => exact ⟨0, g, c, by omega, rfl, rfl, hS⟩
     case round =>
      clear hS
      obtain ⟨k, g, c, hk, rfl, rfl, hS⟩ := hrel
      by_cases hlk : k < 24
      ·have k3 := hK3
       have f1 : (Ai Bk)[k]? = some (.int .u64 (Bk.getD k 0 : Nat)) := C8 Bk k hlk
       have HP := Lib.hid (FE A k hlk)
       obtain ⟨hwP, hlP⟩ := IA hAw hAl k hk
       have hwr := Iy k
       generalize Bk.getD k 0 = rc at *
       generalize Ew A k = B2 at *
       have HR3 := Lib.hid (fun (w : World) (D : Nat -> Prop) (p : Value) (h : Sl w D 1 p 25 (Ai B2)) => round03_any p B2 rc hlP hwP hwr w D h)
       clear hwP hlP hwr
       go_wp2_with (first
        | ((with_reducible refine qB ?_); refine qc ?_ ?_ <;> intro h_ <;> go_prune)
        | ((with_reducible refine qI ?_); refine DP hS rfl _ _ _ rfl _ rfl rfl (by assumption) Tryz.underlying37 (by kernel_rfl) (by first | assumption | omega) _ (by assumption) ?_; intro p_ hc_)
        | (go_at_call 202; refine (HR3.out _ _ _ (Sl.of_own (hS.own 0 rfl))).mono ?_; rintro r_ w3 ⟨v3, rfl, h3, hb3⟩; replace hS := (hS.owned hb3 h3).sub (.cons_cons _ (.cons _ (.refl _))); clear h3 hb3))
       obtain ⟨g3, c3, rfl, _, _⟩ := DK (hS.own 0 rfl) (by omega)
       exact ⟨⟨k + 1, g3, c3, hlk, by go_num, rfl, by rw [HP.out]; exact hS⟩, by simp [intOf]; omega⟩
      ·obtain rfl : k = 24 := by omega
       go_wp2_with (first | ((with_reducible refine qB ?_); refine qc ?_ ?_ <;> intro h_ <;> go_prune))
       refine ⟨⟨j + 1, at_ + 136, g, c, by omega, by omega, by go_num, rfl, ?_⟩, by simp [intOf]; omega⟩
       rw [HST.out, HAB.out, perm_eq]
       exact hS.mono HK2S.out HK32.out
  ·obtain rfl : j = q := by omega
   obtain ⟨A, hAE⟩ : ∃ A, A = stB (List.replicate 25 0) M j := ⟨_, rfl⟩
   rw [<- hAE] at hS HSH hwA hlA
   have HAw := Lib.hid hwA
   have hfz : Bw (GC A) 0 32 = List.replicate 32 0 := DE _ _
   clear hAE hlt hj hwA
   go_wp2_with (first
    | ((with_reducible refine qB ?_); refine qc ?_ ?_ <;> intro h_ <;> go_prune)
    | ((with_reducible refine qA 9 ?_); refine CT hS rfl _ rfl (by kernel_rfl) (Aa (List.replicate 32 0)).toArray (by kernel_rfl) ?_; clear hS; intro g9 w_ hS; (try simp only [Act.put, Act.eval, zz, Value.cells] at hS)))
   rw [<- hfz] at hS
   clear hfz
   go_loopw [10] (fun i wr => ∃ (k : Nat), k <= 32 /\ i = .int .i64 k /\ St w0 wr [.box g9 86 (Aa (Bw (GC A) k 32)).toArray, .own (.slice (some ⟨g, 0, none⟩) 25 c) 26 1 25 (Ai A), .box g2 86 (Aa (List.replicate 32 0)).toArray] K2) (fun i _ => 32 - (intOf i).toNat)
   case atStart => exact ⟨0, by omega, rfl, hS⟩
   case round =>
    clear hS
    obtain ⟨k, hk, rfl, hS⟩ := hrel
    by_cases hlt : k < 32
    ·have h0 := (hS.own 1 rfl).cellAt (k / 8) (by omega)
     rw [C8 _ _ (by omega)] at h0
     have hO := hS.box 0 rfl
     have h1' := hO.byte (i := k) (by rw [Du]; omega)
     have h2' := hO.free k
     have l0 := HAw.out.getD (k / 8)
     have HO := Lib.hid (show GC A k = A.getD (k / 8) 0 / 2 ^ (8 * (k % 8)) % 256 from rfl)
     generalize A.getD (k / 8) 0 = x at *
     have s1 : (8 * ((k : Int) % 8)).toNat = 8 * (k % 8) := by omega
     clear hO
     go_wp2_with fail
     have he : (x : Int) / 2 ^ (8 * (k % 8)) % 256 = ((GC A k : Nat) : Int) := by rw [HO.out, Int.natCast_emod, Int.natCast_ediv, Int.natCast_pow]; rfl
     rw [he]
     have hS' := hS.putBox 0 rfl k (.int .u8 (GC A k : Nat))
     refine ⟨⟨k + 1, hlt, by go_num, ?_⟩, by simp [intOf]; omega⟩
     rw [<- E9, FT]
     simpa using hS'
    ·obtain rfl : k = 32 := by omega
     rw [Di] at hS
     obtain ⟨L, hL, hLL⟩ : ∃ L, L = (List.range 32).map (GC A) /\ L.length = 32 := ⟨_, rfl, by simp⟩
     rw [<- hL] at hS HSH
     have hi32 : (Tryz.prog.info? 86).map (·.size) = some (Aa L).toArray.size := by rw [List.size_toArray, Ae, hLL]; kernel_rfl
     have HON := Lib.hid (show (Aa L).toArray.all (·.oneCell') = true from all_oneCell_toArray (B6 _))
     have HI := Lib.hid hi32
     have HOL := Lib.hid (show (Aa (List.replicate 32 0)).toArray.size = (Aa L).toArray.size by simp [Ae, hLL])
     clear hL hLL hi32
     go_wp2_with (first
      | ((with_reducible refine qB ?_); refine qc ?_ ?_ <;> intro h_ <;> go_prune)
      | ((with_reducible refine qA 71 ?_); refine Hb hS 0 rfl _ _ rfl g9 rfl _ (Aa L).toArray rfl _ Tryz.underlying86 rfl HI.out ?_)
      | ((with_reducible refine qm 86 ?_); refine BV hS 2 rfl _ _ _ rfl g2 (Aa L).toArray rfl rfl _ _ rfl HI.out HOL.out HON.out ?_; clear hS; intro w_ hS; (try simp only [Act.put, Act.eval, zz, Value.cells] at hS)))
     refine bodyPost_ret (v := .agg (Aa L).toArray) (by exact results_cell_row rfl _ _ g2 86 _ (0, 0) _ rfl (hS.box 2 rfl) Tryz.underlying86 rfl HI.out) rfl ?_
     exact Ax.mk (by rw [HSH.out.1]) hS.below
end
section
open Go.RowKit
attribute [local go_sem ↓] Go.wp_at_zero Go.wp_at_succ
set_option maxRecDepth 20000
set_option exponentiation.threshold 5000
theorem run_conv_sb (w : World) (s : ByteArray) (hs : s.size <= 1000000) : ∃ v w', (convert 9 22 (.string s)).run Tryz.prog w = .ok v w' /\ Sl w' (w.heap.size <= ·) 1 v (sb s).length (Aa (sb s)) /\ Below w.heap.size w w' := by
 have hcv := run_bytes_of_string (P := Tryz.prog) w 9 22 5 s Tryz.underlying9 Tryz.underlying22 Tryz.underlying5
 have hg1 := grownCap_ge w s.size 0 5
 have hg2 := grownCap_le_maxLen w s.size 0 5 (by unfold maxLen; omega)
 generalize grownCap w s.size 0 5 = cap at *
 have hcell : ∀ j, j < s.size -> (bytesRow s cap)[j]? = some (.int .u8 ((sb s).getD j 0 : Nat)) := fun j hj => by
  rw [bytesRow_at s cap j hj, sb, List.getD_eq_getElem?_getD, List.getElem?_map, List.getElem?_eq_getElem (by simpa using hj)]
  rfl
 generalize bytesRow s cap = C at *
 refine ⟨_, _, hcv, ?_, (Below.refl _ _).drew.alloc (Nat.le_refl _) _⟩
 rw [Et]
 refine ⟨by simp [Aa, Et], _, _, rfl, hg1, hg2, fun _ => ⟨w.heap.size, 0, rfl, Nat.le_refl _, by simp, fun j x hj => ?_⟩⟩
 have hj' : j < s.size := by
  rcases Nat.lt_or_ge j s.size with h | h
  ·exact h
  ·rw [List.getElem?_eq_none (by rw [Ae, Et]; exact h)] at hj; cases hj
 rw [Nat.zero_add]
 refine (cell_of_row _ w.heap.size j C 5 _ (heap_alloc_new w.drew _)).trans ((hcell j hj').trans ?_)
 rw [<- hj]
 exact (CZ _ _ (by rw [Et]; exact hj')).symm
theorem opw_convw {P : Program} {o : Oper} {a : Act} {w w' : World} {K : Act -> World -> Prop} {Q : Exit -> Act -> World -> Prop} {s d : TypeId} {x : Operand} {vx v : Value} (ho : o.op = .convert s d x) (hx : a.eval x = vx) (hr : (convert s d vx).run P w = .ok v w') (hk : K (a.put o.dst v) w') : o.wp P a w K Q := by
 unfold Oper.wp execOp
 simp only [ho, hx, Sem.run_bind, hr, Result.andThen_ok]
 exact hk
theorem st_sconv {ops : Array Oper} {rest : List Oper} {o : Oper} {a : Act} {w0 w : World} {F : List A7} {K : (Nat -> Prop) -> World -> Prop} {Q : Exit -> Act -> World -> Prop} (h : St w0 w F K) (hg : o.guard = none) (x : Operand) (ho : o.op = .convert 9 22 x) (s : ByteArray) (hx : a.eval x = .string s) (hs : s.size <= 1000000)
  (hk : ∀ v w', St w0 w' F (fun D w => K D w /\ Sl w D 1 v (sb s).length (Aa (sb s))) -> wpList Tryz.prog ops Q rest (a.put o.dst v) w') : wpList Tryz.prog ops Q (o :: rest) a w := by
 obtain ⟨v, w', h1, h2, h3⟩ := run_conv_sb w s hs
 exact wpList_plain hg fun _ hK => opw_convw ho hx h1 (hK _ _ (hk v w' (h.ret h3 (Aj (by decide)) h2)))
set_option maxHeartbeats 1000000 in
theorem rtagged_any (s : ByteArray) (hs : s.size <= 1000000) (pv p : Value) (l : List Nat) (hb : AK l) (hl : l.length <= 10000000) (w0 : World) (D : Nat -> Prop) (hpv : Sl w0 D 1 pv 1 [p]) (hp : Sl w0 D 1 p l.length (Aa l)) :
  Calls Tryz.prog 110 #[.string s, pv] w0 (Ax (fun x _ => x = .agg (Aa (CU (EU s l))).toArray) w0) := by
 obtain ⟨A, c, rfl, _, _⟩ := hpv.shape
 obtain ⟨K, hk1, hk2, hS⟩ : ∃ K : (Nat -> Prop) -> World -> Prop, (∀ D w, K D w -> Sl w D 1 (.slice A 1 c) 1 [p]) /\ (∀ D w, K D w -> Sl w D 1 p l.length (Aa l)) /\ St w0 w0 [] K := ⟨_, fun _ _ h => h.1, fun _ _ h => h.2, St.start ((Aj (by decide)).and (Aj (by decide))) (D := D) ⟨hpv, hp⟩⟩
 clear hp hpv
 have HK2 := Lib.hid hk2
 have hsl := Lib.hid (Et s)
 have hsl1 : (sb s).length <= 1000000 := by rw [hsl.out]; exact hs
 obtain ⟨T, hT, hTB⟩ : ∃ T, T = sb s /\ AK T := ⟨_, rfl, sb_bytes s⟩
 have HTA := Lib.hid (show EU s l = (Ao T.length ++ T) ++ (Ao l.length ++ l) by rw [hT]; rfl)
 have HR : ∀ (w : World) (D : Nat -> Prop) (x : Value) , Sl w D 1 x (sb s).length (Aa (sb s)) -> Calls Tryz.prog 159 #[x] w (Ax (fun x w' => Fn w' w.heap.size x (Ao T.length ++ T)) w) := fun w D x h => by
  rw [hT]; exact G0 x (sb s) (by omega) w D h
 have HRS := Lib.hid HR
 have hn1 := Aw T.length
 have hn2 := Aw l.length
 have hTl : T.length <= 1000000 := by rw [hT]; exact hsl1
 have HTB := Lib.hid hTB
 clear HR hT hTB hsl1
 have hS0 := hS.stable
 have HB3 := Lib.hid ((((Bx T.length).append HTB.out).append ((Bx l.length).append hb)))
 go_enter Tryz.func110, Tryz.ntmps110
 go_wp2_with (first
  | ((with_reducible refine qA 4 ?_); refine CT hS rfl _ rfl (by kernel_rfl) (Aa (List.replicate 32 0)).toArray (by kernel_rfl) ?_; clear hS; intro g4 w_ hS; (try simp only [Act.put, Act.eval, zz, Value.cells] at hS))
  | ((with_reducible refine qA 9 ?_); refine st_sconv hS rfl _ rfl s rfl hs ?_; clear hS; intro vs_ w_ hS; (try simp only [Act.put, Act.eval, zz, Value.cells] at hS))
  | (go_at_call 159; refine (HRS.out _ _ _ hS.ro.2).mono ?_; rintro r_ w1 ⟨v1, rfl, h1, hb1⟩; replace hS := hS.owned hb1 h1; clear h1 hb1))
 replace hS := hS.mono (K' := K) hS0 fun _ _ h => h.1
 go_loopw [5, 13] (fun o i wr => ∃ (k : Nat) (ov : Value) (bs : List Nat), k <= 1 /\ i = .int .i64 k /\ o = ov /\ Hid (bs = (Ao T.length ++ T) ++ (if k = 0 then [] else Ao l.length ++ l)) /\ bs.length <= 2000000 + k * 11000000 /\ St w0 wr [.own ov 5 1 bs.length (Aa bs), .box g4 86 (Aa (List.replicate 32 0)).toArray] K) (fun _ i _ => 1 - (intOf i).toNat)
 case atStart => exact ⟨0, v1, _, by omega, rfl, rfl, Lib.hid (by simp), by rw [List.length_append]; omega, hS⟩
 case round =>
  clear hS
  obtain ⟨k, ov, bs, hk, rfl, rfl, HBS, hbl, hS⟩ := hrel
  by_cases hlt : k < 1
  ·obtain rfl : k = 0 := by omega
   have f1 : [p][0]? = some p := rfl
   go_wp2_with (first
    | ((with_reducible refine qB ?_); refine qc ?_ ?_ <;> intro h_ <;> go_prune)
    | ((with_reducible refine qI ?_); refine DP hS rfl _ _ _ rfl _ rfl rfl (by assumption) Tryz.underlying166 (by kernel_rfl) (by first | assumption | omega) _ (by assumption) ?_; intro p_ hc_)
    | (go_at_call 159; refine (G0 p l (by omega) _ _ (HK2.out _ _ hS.ro)).mono ?_; rintro r_ w2 ⟨v2, rfl, h2, hb2⟩; replace hS := hS.owned hb2 h2; clear h2 hb2)
    | ((with_reducible refine qA 20 ?_); refine Dk hS 1 rfl _ _ _ rfl Da _ _ _ rfl rfl _ _ _ _ rfl (Sl.of_own (hS.own 0 rfl)) (B6 _) (by rw [List.length_append]; unfold maxLen; omega) (by rw [List.length_append]; omega) ?_; clear hS; intro v_ w_ hS; (try simp only [Act.put, Act.eval, zz, Value.cells] at hS)))
   replace hS := hS.sub (F' := [_, _]) (.cons _ (.refl _))
   refine ⟨⟨1, v_, bs ++ (Ao l.length ++ l), Nat.le_refl _, rfl, rfl, Lib.hid (by rw [HBS.out]; simp), by rw [List.length_append, List.length_append]; omega, ?_⟩, by simp [intOf]⟩
   rw [show (bs ++ (Ao l.length ++ l)).length = bs.length + (Ao l.length ++ l).length from List.length_append, ES bs]; exact hS
  ·obtain rfl : k = 1 := by omega
   obtain ⟨L, hL, hLL, hLb⟩ : ∃ L, L = EU s l /\ bs = L /\ AK L := ⟨_, rfl, by rw [HBS.out, HTA.out]; simp, by rw [HTA.out]; exact HB3.out⟩
   subst hLL
   have HL := Lib.hid hL
   have HLb := Lib.hid hLb
   have hSL : (CU bs).length = 32 := by simp [CU, H6]
   have HS3 := Lib.hid (fun (w : World) (D : Nat -> Prop) (p : Value) (h : Sl w D 1 p bs.length (Aa bs)) => sum03_any p bs HLb.out (by omega) w D h)
   obtain ⟨R, hR⟩ : ∃ R, R = CU bs := ⟨_, rfl⟩
   rw [<- hR] at HS3 hSL
   have HR := Lib.hid hR
   have hi32 : (Tryz.prog.info? 86).map (·.size) = some (Aa R).toArray.size := by rw [List.size_toArray, Ae, hSL]; kernel_rfl
   have HON := Lib.hid (show (Aa R).toArray.all (·.oneCell') = true from all_oneCell_toArray (B6 _))
   have HI := Lib.hid hi32
   have HOL := Lib.hid (show (Aa (List.replicate 32 0)).toArray.size = (Aa R).toArray.size by simp [Ae, hSL])
   clear hL hR hSL hi32 hLb
   go_wp2_with (first
    | ((with_reducible refine qB ?_); refine qc ?_ ?_ <;> intro h_ <;> go_prune)
    | (go_at_call 160; refine (HS3.out _ _ _ (Sl.of_own (hS.own 0 rfl))).mono ?_; rintro r_ w2 ⟨v2, rfl, rfl, hb2⟩; replace hS := hS.ext hb2; clear hb2)
    | ((with_reducible refine qm 86 ?_); refine BV hS 1 rfl _ _ _ rfl g4 (Aa R).toArray rfl rfl _ _ rfl HI.out HOL.out HON.out ?_; clear hS; intro w_ hS; (try simp only [Act.put, Act.eval, zz, Value.cells] at hS)))
   refine bodyPost_ret (v := .agg (Aa R).toArray) (by exact results_cell_row rfl _ _ g4 86 _ (0, 0) _ rfl (hS.box 1 rfl) Tryz.underlying86 rfl HI.out) rfl ?_
   exact Ax.mk (by rw [<- HL.out, HR.out]) hS.below
end
section
open Go.RowKit
attribute [local go_sem ↓] Go.wp_at_zero Go.wp_at_succ
set_option maxRecDepth 20000
set_option exponentiation.threshold 5000
def M3 : List (Nat × Nat) := [(1, 2), (2, 3), (1, 3)]
end
section
open Go.RowKit
attribute [local go_sem ↓] Go.wp_at_zero Go.wp_at_succ
set_option maxRecDepth 20000
set_option exponentiation.threshold 5000
theorem Hi {P : Program} {w : World} {t : TypeId} {x y : Nat} (hx : x < AA) (hy : y < AA) : (binOp .andNot t (.int .u64 (x : Nat)) (.int .u64 (y : Nat))).run P w = .ok (.int .u64 ((x &&& BG y : Nat) : Int)) w := by
 go_simp; rw [Ky hx hy]
end
section
open Go.RowKit
attribute [local go_sem ↓] Go.wp_at_zero Go.wp_at_succ
set_option maxRecDepth 20000
set_option exponentiation.threshold 5000
theorem run_shlU {P : Program} {w : World} {t : TypeId} {r : Nat} (hr : r < 64) : (binOp .shl t (.int .u64 1) (.int .u64 (r : Nat))).run P w = .ok (.int .u64 ((2 ^ r : Nat) : Int)) w := by
 go_simp
 rw [shl64 r hr]
 simp
theorem run_convU {P : Program} {w : World} {n : Nat} (hn : n < AA) : (convert 3 58 (.int .i64 (n : Nat))).run Tryz.prog w = .ok (.int .u64 (n : Nat)) w := by
 go_simp
 exact Cn hn
end
section
open Go.RowKit
attribute [local go_sem ↓] Go.wp_at_zero Go.wp_at_succ
set_option maxRecDepth 20000
set_option exponentiation.threshold 5000
structure RFit (p : AP) (L : List (Nat × Nat)) : Prop where
 links : p.links = some L
 hok : Gi L
 len : L.length <= 1000
 fits : Fits p
theorem rolesN_pow : ∀ r, r < 64 -> AZ r = 2 ^ (r + 1) - 2 := by decide
theorem Iz : ∀ r, r < 64 -> AZ r < AA := by decide
theorem roles_step : ∀ j, j < 64 -> 1 <= j -> (2 ^ j - 2) ||| 2 ^ j = 2 ^ (j + 1) - 2 := by decide
theorem pow_both : ∀ j, j < 64 -> 2 ^ j < AA /\ 2 ^ j - 2 < AA := by decide
theorem roles_bit : ∀ r, r < 64 -> ∀ i, i < 64 -> (AZ r).testBit i = decide (1 <= i /\ i <= r) := by decide +kernel
theorem G1 {r : Nat} (h : r <= 63) (z : Int) : Cj (AZ r) z = decide (1 <= z /\ z <= (r : Int)) := by
 unfold Cj
 by_cases h0 : 0 <= z
 ·obtain ⟨n, rfl⟩ := Int.eq_ofNat_of_zero_le h0
  rw [Int.toNat_natCast]
  rcases Nat.lt_or_ge n 64 with h1 | h1
  ·rw [roles_bit r (by omega) n h1, decide_eq_true h0, Bool.true_and]
   exact decide_eq_decide.2 (by omega)
  ·rw [Dj (Iz r (by omega)) h1, Bool.and_false, eq_comm, decide_eq_false_iff_not]; omega
 ·rw [decide_eq_false h0, Bool.false_and, eq_comm, decide_eq_false_iff_not]; omega
theorem Jb {x N : Nat} (hx : x < AA) (hN : N < AA) : (x &&& BG N = 0) ↔ x &&& N = x := by
 constructor
 ·intro h
  refine Cy fun i => ?_
  rw [Nat.testBit_and]
  cases h1 : x.testBit i with
  | false => simp
  | true =>
   have h2 : (x &&& BG N).testBit i = false := by rw [h]; exact Nat.zero_testBit i
   have h3 : i < 64 := by
    rcases Nat.lt_or_ge i 64 with h3 | h3
    ·exact h3
    ·rw [Dj hx h3] at h1; cases h1
   rw [Nat.testBit_and, h1, CB hN i h3] at h2
   simpa using h2
 ·intro h
  refine Nat.eq_of_testBit_eq fun i => ?_
  rw [Nat.zero_testBit, Nat.testBit_and]
  cases h1 : x.testBit i with
  | false => rfl
  | true =>
   have h3 : i < 64 := by
    rcases Nat.lt_or_ge i 64 with h3 | h3
    ·exact h3
    ·rw [Dj hx h3] at h1; cases h1
   rw [CB hN i h3]
   rw [<- h, Nat.testBit_and, Bool.and_eq_true] at h1
   rw [h1.2]; rfl
theorem beqD (a b : Nat) : (a == b) = decide (a = b) := by rw [Bool.eq_iff_iff]; simp
theorem RFit.small {p : AP} {L : List (Nat × Nat)} (h : RFit p L) : Small p.cubes := fun z hz => by
 unfold AP.cubes at hz
 rcases List.mem_append.1 hz with hz | hz
 ·rcases List.mem_append.1 hz with hz | hz
  ·obtain ⟨r, hr, rfl⟩ := List.mem_map.1 hz
   exact h.fits.rules r hr
  ·exact h.fits.never z hz
 ·exact h.fits.goal z hz
theorem cubes_len (p : AP) : p.cubes.length = p.rules.length + p.never.length + p.goal.length := by unfold AP.cubes; simp; omega
theorem known_parts {p : AP} {L : List (Nat × Nat)} {r : Nat} (h : RFit p L) (hr : r <= 63) :
  (∀ z ∈ L, (r < z.1 \/ r < z.2) -> CN p L (AZ r) = false) /\ (∀ z ∈ p.rules, (z.target < 1 \/ (r : Int) < z.target) -> CN p L (AZ r) = false) /\ (∀ z ∈ p.cubes, (z.1 ||| z.2) &&& BG (AZ r) ≠ 0 -> CN p L (AZ r) = false) /\
  ((∀ z ∈ L, z.1 <= r /\ z.2 <= r) -> (∀ z ∈ p.rules, 1 <= z.target /\ z.target <= (r : Int)) -> (∀ z ∈ p.cubes, (z.1 ||| z.2) &&& BG (AZ r) = 0) -> CN p L (AZ r) = decide (p.start &&& BG (AZ r) = 0)) := by
 have hN := Iz r (by omega)
 have e1 : ∀ z ∈ L, (Cj (AZ r) z.1 && Cj (AZ r) z.2) = decide (z.1 <= r /\ z.2 <= r) := fun z hz => by
  have := h.hok.role z hz
  rw [G1 hr, G1 hr, <- Bool.decide_and]
  exact decide_eq_decide.2 (by omega)
 have e2 : ∀ z ∈ p.cubes, Gp (AZ r) z = decide ((z.1 ||| z.2) &&& BG (AZ r) = 0) := fun z hz => by
  have := h.small z hz
  unfold Gp
  rw [<- decide_eq_decide.2 (Jb (Kc this.1 this.2) hN).symm, beqD]
 unfold CN
 refine ⟨fun z hz hh => ?_, fun z hz hh => ?_, fun z hz hh => ?_, fun h1 h2 h3 => ?_⟩
 ·have : (L.all fun z => Cj (AZ r) z.1 && Cj (AZ r) z.2) = false := by
   rw [List.all_eq_false]
   exact ⟨z, hz, by rw [e1 z hz, decide_eq_true_eq]; omega⟩
  rw [this]; simp
 ·have : (p.rules.all fun z => Cj (AZ r) z.target) = false := by
   rw [List.all_eq_false]
   exact ⟨z, hz, by rw [G1 hr, decide_eq_true_eq]; omega⟩
  rw [this]; simp
 ·have : p.cubes.all (Gp (AZ r)) = false := by
   rw [List.all_eq_false]
   exact ⟨z, hz, by rw [e2 z hz, decide_eq_true_eq]; exact hh⟩
  rw [this]; simp
 ·have a1 : (L.all fun z => Cj (AZ r) z.1 && Cj (AZ r) z.2) = true := List.all_eq_true.2 fun z hz => by rw [e1 z hz]; exact decide_eq_true (h1 z hz)
  have a2 : (p.rules.all fun z => Cj (AZ r) z.target) = true := List.all_eq_true.2 fun z hz => by rw [G1 hr]; exact decide_eq_true (h2 z hz)
  have a3 : p.cubes.all (Gp (AZ r)) = true := List.all_eq_true.2 fun z hz => by rw [e2 z hz]; exact decide_eq_true (h3 z hz)
  rw [a1, a2, a3, Bool.and_self, Bool.and_self, Bool.and_true, <- decide_eq_decide.2 (Jb h.fits.start hN).symm, beqD]
section
variable {P : Program} {w : World} {t : TypeId} {x y : Nat}
theorem run_orW (hx : x < AA) (hy : y < AA) : (binOp .or t (.int .u64 (x : Nat)) (.int .u64 (y : Nat))).run P w = .ok (.int .u64 ((x ||| y : Nat) : Int)) w := by
 go_simp
 rw [or64 hx hy]
end
theorem Db {w0 : World} {D : Nat -> Prop} {v : Value} {p : AP} {L : List (Nat × Nat)} (hl : p.links = some L) (h : B5 w0 D v p) :
  ∃ Al cl Ar cr An cn Ag cg, v = .agg #[.int .i64 p.roles, .slice Al L.length cl, .int .u64 (p.start : Nat), .slice Ar p.rules.length cr, .slice An p.never.length cn, .slice Ag p.goal.length cg] /\ Sl w0 D 2 (.slice Al L.length cl) L.length (A6 L) /\ Sl w0 D 5 (.slice Ar p.rules.length cr) p.rules.length (AX p.rules) /\ Sl w0 D 2 (.slice An p.never.length cn) p.never.length (AM p.never) /\ Sl w0 D 2 (.slice Ag p.goal.length cg) p.goal.length (AM p.goal) := by
 obtain ⟨lv, rv, nv, gv, L', rfl, hl', h1, h2, h3, h4⟩ := h
 obtain rfl : L = L' := by rw [hl] at hl'; injection hl'
 obtain ⟨Al, cl, rfl, _, _⟩ := h1.shape
 obtain ⟨Ar, cr, rfl, _, _⟩ := h2.shape
 obtain ⟨An, cn, rfl, _, _⟩ := Sl.shape (h3 : Sl _ _ _ _ _ _)
 obtain ⟨Ag, cg, rfl, _, _⟩ := Sl.shape (h4 : Sl _ _ _ _ _ _)
 exact ⟨_, _, _, _, _, _, _, _, rfl, h1, h2, h3, h4⟩
theorem C6 {w0 : World} {D : Nat -> Prop} {av lv sv rv nv gv : Value} {p : AP} {L : List (Nat × Nat)} (hl : p.links = some L) (h : B5 w0 D (.agg #[av, lv, sv, rv, nv, gv]) p) :
  Sl w0 D 2 lv L.length (A6 L) /\ Sl w0 D 5 rv p.rules.length (AX p.rules) /\ Sl w0 D 2 nv p.never.length (AM p.never) /\ Sl w0 D 2 gv p.goal.length (AM p.goal) := by
 obtain ⟨lv, rv, nv, gv, L', e, hl', h1, h2, h3, h4⟩ := h
 obtain rfl : L = L' := by rw [hl] at hl'; injection hl'
 injection e with e; injection e with e; injection e with _ e; injection e with a e; injection e with _ e; injection e with b e; injection e with c e; injection e with d _
 subst a b c d
 exact ⟨h1, h2, h3, h4⟩
theorem rroles31_any {w0 : World} {D : Nat -> Prop} {v : Value} {p : AP} {r : Nat} (hp : B5 w0 D v p) (hr : p.roles = (r : Int)) (h1 : 1 <= r) (h63 : r <= 63) :
  Calls Tryz.prog 129 #[v] w0 (Ax (fun x _ => x = .int .u64 (AZ r : Nat)) w0) := by
 obtain ⟨lv, rv, nv, gv, L, rfl, -⟩ := hp
 rw [hr]
 have HP := Lib.hid (rolesN_pow r (by omega))
 have hS : St w0 w0 [] fun _ _ => True := St.start0
 clear hr
 go_enter Tryz.func129, Tryz.ntmps129
 go_wp2_with (first | ((with_reducible refine qA 1 ?_); refine AH hS rfl _ _ rfl (.agg #[.int .i64 (r : Nat), lv, .int .u64 (p.start : Nat), rv, nv, gv]) _ rfl rfl ?_; clear hS; intro g1 w_ hS; (try simp only [Act.put, Act.eval, zz, Value.cells] at hS)))
 go_loopw [3, 4] (fun ov iv wr => ∃ j : Nat, iv = .int .i64 (j : Nat) /\ ov = .int .u64 ((2 ^ j - 2 : Nat) : Int) /\ 1 <= j /\ j <= r + 1 /\ St w0 wr [.box g1 30 #[.int .i64 (r : Nat), lv, .int .u64 (p.start : Nat), rv, nv, gv]] fun _ _ => True) (fun _ i _ => r + 1 - (intOf i).toNat)
 case atStart => exact ⟨1, rfl, rfl, by omega, by omega, hS⟩
 case round =>
  clear hS
  obtain ⟨j, rfl, rfl, hj1, hj2, hS⟩ := hrel
  by_cases hj : j <= r
  ·have h64 : j < 64 := by omega
   have HST := Lib.hid (roles_step j h64 hj1)
   have HPW := Lib.hid (pow_both j h64)
   obtain ⟨m, hm⟩ : ∃ m, m = 2 ^ j - 2 := ⟨_, rfl⟩
   have HPS : Hid (2 ^ j < AA) := Lib.hid HPW.out.1
   have HMM : Hid (m < AA) := Lib.hid (by rw [hm]; exact HPW.out.2)
   rw [<- hm] at HST ⊢
   clear hm HPW
   have hjT : Hid (j < AA) := Lib.hid (by unfold AA; omega)
   go_wp2_with (first
    | ((with_reducible refine qB ?_); refine qc ?_ ?_ <;> intro h_ <;> go_prune)
    | ((with_reducible refine qA 17 ?_); refine BigFrame.wpList_want rfl fun _ hK => BW (vx := .int .i64 (j : Nat)) (v := .int .u64 (j : Nat)) rfl rfl (run_convU hjT.out) (hK _ _ ?_))
    | ((with_reducible refine qA 18 ?_); refine BigFrame.wpList_want rfl fun _ hK => Az rfl rfl rfl rfl (run_shlU h64) (hK _ _ ?_))
    | ((with_reducible refine qA 19 ?_); refine BigFrame.wpList_want rfl fun _ hK => Az rfl rfl rfl rfl (run_orW HMM.out HPS.out) (hK _ _ ?_))
    | ((with_reducible refine qK ?_); refine qC hS ?_))
   refine ⟨⟨j + 1, by go_num, by rw [HST.out], by omega, by omega, hS⟩, by simp [intOf]; omega⟩
  ·obtain rfl : j = r + 1 := by omega
   rw [<- HP.out]
   go_wp2_with (first | ((with_reducible refine qB ?_); refine qc ?_ ?_ <;> intro h_ <;> go_prune) | ((with_reducible refine qK ?_); refine qC hS ?_))
   go_ret
   exact Ax.mk rfl hS.below
def rcD (n m k : Nat) (a b c : List (Nat × Nat)) : AD := ⟨50, 2, 3, fun s => match s with | 0 => n | 1 => n + m | _ => n + m + k, fun s => match s with | 0 => AM a | 1 => AM a ++ AM b | _ => AM a ++ AM b ++ AM c, fun _ v => .own v 50 2 0 []⟩
set_option maxHeartbeats 1000000 in
theorem Ho {w0 w : World} {F : List A7} {K : (Nat -> Prop) -> World -> Prop} {v : Value} {p : AP} {L : List (Nat × Nat)} (hR : RFit p L) (hS : St w0 w F K) (kp : ∀ D w, K D w -> B5 w D v p) :
  Calls Tryz.prog 57 #[v] w fun e w' => ∃ u, e = .returned u /\ St w0 w' F fun D w => K D w /\ BN w D u p.cubes := by
 obtain ⟨Al, cl, Ar, cr, An, cn, Ag, cg, rfl, -⟩ := Db hR.links (kp _ _ hS.ro)
 have KS := Lib.hid hS.stable
 have kr : ∀ D w, K D w -> Sl w D 5 (.slice Ar p.rules.length cr) p.rules.length (AX p.rules) := fun D w h => (C6 hR.links (kp D w h)).2.1
 have kn : ∀ D w, K D w -> Sl w D 2 (.slice An p.never.length cn) p.never.length (AM p.never) := fun D w h => (C6 hR.links (kp D w h)).2.2.1
 have kg : ∀ D w, K D w -> Sl w D 2 (.slice Ag p.goal.length cg) p.goal.length (AM p.goal) := fun D w h => (C6 hR.links (kp D w h)).2.2.2
 have hl1 := hR.fits.rlen
 have hl2 := hR.fits.nlen
 have hl3 := hR.fits.glen
 clear kp
 have HCU := Lib.hid (show p.cubes = (p.rules.map fun r => (r.yes, r.no)) ++ p.never ++ p.goal from rfl)
 obtain ⟨rl, hrl⟩ : ∃ rl, p.rules = rl := ⟨_, rfl⟩
 obtain ⟨nl, hnl⟩ : ∃ nl, p.never = nl := ⟨_, rfl⟩
 obtain ⟨gl, hgl⟩ : ∃ gl, p.goal = gl := ⟨_, rfl⟩
 obtain ⟨cu, hcu⟩ : ∃ cu, p.cubes = cu := ⟨_, rfl⟩
 obtain ⟨st, hst⟩ : ∃ st, p.start = st := ⟨_, rfl⟩
 obtain ⟨R, hro⟩ : ∃ R, p.roles = R := ⟨_, rfl⟩
 rw [hrl, hnl, hgl, hcu] at HCU
 rw [hrl] at kr hl1
 rw [hnl] at kn hl2
 rw [hgl] at kg hl3
 rw [hrl, hnl, hgl, hst, hcu, hro]
 clear hrl hnl hgl hcu hst hro hR
 obtain ⟨CS, hCS⟩ : ∃ CS : List (Nat × Nat), CS = rl.map fun r => (r.yes, r.no) := ⟨_, rfl⟩
 rw [<- hCS] at HCU
 have HCS := Lib.hid hCS
 have hlC : CS.length = rl.length := by rw [hCS]; simp
 have HLC := Lib.hid hlC
 clear hCS hlC
 go_enter Tryz.func57, Tryz.ntmps57
 go_wp2_with (first
  | ((with_reducible refine qA 1 ?_); refine AH hS rfl _ _ rfl (.agg #[.int .i64 R, .slice Al L.length cl, .int .u64 (st : Nat), .slice Ar rl.length cr, .slice An nl.length cn, .slice Ag gl.length cg]) _ rfl rfl ?_; clear hS; intro g1 w_ hS; (try simp only [Act.put, Act.eval, zz, Value.cells] at hS))
  | ((with_reducible refine qK ?_); refine qC hS ?_))
 replace hS := hS.nil 50 2
 go_loopw [3, 9] (fun ov i wr => ∃ (j : Nat) (sv : Value), i = .int .i64 (j : Nat) /\ sv = ov /\ j <= rl.length /\ St w0 wr (.own sv 50 2 j (AM (CS.take j)) :: .box g1 30 #[.int .i64 R, .slice Al L.length cl, .int .u64 (st : Nat), .slice Ar rl.length cr, .slice An nl.length cn, .slice Ag gl.length cg] :: F) K) (fun _ i _ => rl.length - (intOf i).toNat)
 case atStart => exact ⟨0, _, rfl, rfl, by omega, hS⟩
 case round =>
  clear hS
  obtain ⟨j, sv, rfl, rfl, hj, hS⟩ := hrel
  by_cases hlj : j < rl.length
  ·obtain ⟨b, o, rfl, c0, c1, c2, c3, c4⟩ := rr_at (kr _ _ hS.ro) hlj
   have HT : Hid (AM (CS.take (j + 1)) = AM (CS.take j) ++ [.int .u64 ((rl.getD j Bd).yes : Nat), .int .u64 ((rl.getD j Bd).no : Nat)]) := Lib.hid (by
    rw [HCS.out, List.take_add_one, List.getElem?_map, List.getElem?_eq_getElem hlj, List.getD_eq_getElem?_getD, List.getElem?_eq_getElem hlj, Dw]; rfl)
   generalize rl.getD j Bd = z at *
   obtain ⟨zr, zy, zn, zt, zo⟩ := z
   dsimp only at c0 c1 c2 c3 c4 HT
   have hj1 : j <= 100000 := by omega
   go_wp2_with (first
    | ((with_reducible refine qB ?_); refine qc ?_ ?_ <;> intro h_ <;> go_prune)
    | ((with_reducible refine qA 12 ?_); refine BigFrame.wpList_want rfl fun _ hK => Bb (cs := [.bool zr, .int .u64 (zy : Nat), .int .u64 (zn : Nat), .int .i64 zt, .int .i64 zo]) rfl rfl (Jg c0 c1 c2 c3 c4) Tryz.underlying109 rfl (by kernel_rfl) (hK _ _ ?_))
    | ((with_reducible refine qA 5 ?_); refine qa hS #[.bool false, .int .u64 0, .int .u64 0, .int .i64 0, .int .i64 0] ?_; clear hS; intro g5 w_ hS)
    | ((with_reducible refine qM ?_); (first | refine qS hS ?_ | refine qT hS ?_); clear hS; intro w_ hS; (try simp only [Act.put, Act.eval, zz, Value.cells] at hS))
    | ((with_reducible refine qk 50 ?_); refine EE hS 0 rfl _ _ rfl _ _ rfl _ _ rfl _ _ rfl rfl Tryz.underlying50 rfl (by kernel_rfl) ?_)
    | ((with_reducible show wpList _ _ _ (⟨_, .buildSlice _ 1 _, _, _, _, _⟩ :: _) _ _); refine Ef hS 1 rfl rfl _ _ _ _ rfl rfl JC _ _ _ (.agg #[.int .u64 (zy : Nat), .int .u64 (zn : Nat)]) #[.int .u64 (zy : Nat), .int .u64 (zn : Nat)] rfl (by kernel_rfl) rfl rfl rfl rfl (by intro u hu; simp at hu; first | (subst hu; rfl) | (rcases hu with rfl | rfl <;> rfl)) (by omega) (by omega) ?_; clear hS; intro z_ v_ w_ hS; (try simp only [Act.put, Act.eval, zz, Value.cells] at hS)))
   refine ⟨⟨j + 1, _, by go_num, rfl, hlj, ?_⟩, by simp [intOf]; omega⟩
   rw [HT.out]
   exact hS.sub (F' := _ :: _ :: F) (List.sublist_cons_self _ _)
  ·obtain rfl : rl.length = j := by omega
   have hCT : CS.take rl.length = CS := by rw [<- HLC.out, List.take_length]
   rw [hCT] at hS
   clear hCT
   go_wp2_with (first | ((with_reducible refine qB ?_); refine qc ?_ ?_ <;> intro h_ <;> go_prune))
   have hA0 : Fo ⟨[sv], []⟩ 0 sv := ⟨[], [], rfl, rfl⟩
   have hJ0 : AJ w0 (.box g1 30 #[.int .i64 R, .slice Al L.length cl, .int .u64 (st : Nat), .slice Ar rl.length cr, .slice An nl.length cn, .slice Ag gl.length cg] :: F) K (rcD rl.length nl.length gl.length CS nl gl) (wr.drew, ⟨[sv], []⟩) := ⟨hS.drew, show 1 <= 3 by decide⟩
   have hN0 := AN_one1 (kd := cbK) (by decide) wr.drew sv
   have hRr := @AR.refl w0 (.box g1 30 #[.int .i64 R, .slice Al L.length cl, .int .u64 (st : Nat), .slice Ar rl.length cr, .slice An nl.length cn, .slice Ag gl.length cg] :: F) K (rcD rl.length nl.length gl.length CS nl gl)
   have hRt := @AR.trans w0 (.box g1 30 #[.int .i64 R, .slice Al L.length cl, .int .u64 (st : Nat), .slice Ar rl.length cr, .slice An nl.length cn, .slice Ag gl.length cg] :: F) K (rcD rl.length nl.length gl.length CS nl gl)
   have hb0 : Hid (rl.length + nl.length <= 1000000000000 /\ (rl.length + nl.length) * 16 <= 140737488355328 /\ rl.length + nl.length + gl.length <= 1000000000000 /\ (rl.length + nl.length + gl.length) * 16 <= 140737488355328) := Lib.hid (by omega)
   clear hS
   refine Ed (AR w0 (.box g1 30 #[.int .i64 R, .slice Al L.length cl, .int .u64 (st : Nat), .slice Ar rl.length cr, .slice An nl.length cn, .slice Ag gl.length cg] :: F) K (rcD rl.length nl.length gl.length CS nl gl)) (AN cbK) (⟨[sv], []⟩) hRr hRt [.i sv, .q g1 4, .i (.slice An nl.length cn), .s (fun v w => Fo w.2 1 v) fun v w w' h hb => h.mono hb.2.1, .q g1 5, .i (.slice Ag gl.length cg), .s (fun v w => Fo w.2 2 v) fun v w w' h hb => h.mono hb.2.1, .s (fun v w => Fo w.2 2 v) fun v w w' h hb => h.mono hb.2.1] ?_ ⟨uM, uF, uC (h := fun w hW hN => ((hW.1 hJ0).1.holds (.box g1 30 #[.int .i64 R, .slice Al L.length cl, .int .u64 (st : Nat), .slice Ar rl.length cr, .slice An nl.length cn, .slice Ag gl.length cg]) (List.mem_append_right _ (List.mem_cons_self ..))).2.cell 4), ?_, uF, uC (h := fun w hW hN => ((hW.1 hJ0).1.holds (.box g1 30 #[.int .i64 R, .slice Al L.length cl, .int .u64 (st : Nat), .slice Ar rl.length cr, .slice An nl.length cn, .slice Ag gl.length cg]) (List.mem_append_right _ (List.mem_cons_self ..))).2.cell 5), ?_, uA, trivial⟩ ?_
   ·first | assumption | (intro i; (try dsimp only); split <;> first | trivial | assumption | (left; assumption))
   ·refine uG fun b__ w hW hN hE K hK => ?_
    have e19 := hE 19
    have e21 := hE 21
    exact BA (kd := cbK) (by decide) rfl rfl JC hN (by rw [e19]; exact hA0.mono hW.2.1) (hW.1 hJ0) (by rw [e21]; exact kn _ _ (hW.1 hJ0).1.ro) (JW _) rfl rfl (by exact hb0.out.1) (by exact hb0.out.2.1) (show 0 + 1 < 3 by decide) hK
   ·refine uG fun b__ w hW hN hE K hK => ?_
    have e22 := hE 22
    have e24 := hE 24
    exact BA (kd := cbK) (by decide) rfl rfl JC hN e22 (hW.1 hJ0) (by rw [e24]; exact kg _ _ (hW.1 hJ0).1.ro) (JW _) rfl rfl (by exact hb0.out.2.2.1) (by exact hb0.out.2.2.2) (show 1 + 1 < 3 by decide) hK
   ·intro vs wz hW hT
    obtain ⟨e19, e20, e21, e22, e23, e24, e25, e2, -⟩ := hT
    have bx : (fun _ : Nat => True) 0 := trivial
    simp only [AL, Act.put, zz, ze]
    have hJ := (hW.1 hJ0).last e2 rfl
    simp only [rcD] at hJ
    have hS := (hJ.freeze 0 (by decide) rfl).sub (F' := F) (List.sublist_cons_self _ _)
    generalize vs 2 = v2 at *
    generalize wz.1 = wf at *
    clear hW hJ0 hRr hRt hN0 hA0 hJ e2
    go_wp2_with fail
    go_ret
    refine ⟨_, rfl, hS.mono (KS.out.and Er) fun D w h => ⟨h.1, ?_⟩⟩
    have el : (CS ++ nl ++ gl).length = rl.length + nl.length + gl.length := by rw [List.length_append, List.length_append, HLC.out]
    rw [HCU.out]
    unfold BN
    rw [el, Dw, Dw]
    exact h.2
end
section
open Go.RowKit
attribute [local go_sem ↓] Go.wp_at_zero Go.wp_at_succ
set_option maxRecDepth 20000
set_option exponentiation.threshold 5000
set_option maxHeartbeats 4000000 in
theorem runknown_any {w0 w : World} {F : List A7} {K : (Nat -> Prop) -> World -> Prop} {v : Value} {p : AP} {L : List (Nat × Nat)} {r : Nat} (hR : RFit p L) (hr : p.roles = (r : Int)) (h1 : 1 <= r) (h63 : r <= 63) (hS : St w0 w F K) (kp : ∀ D w, K D w -> B5 w D v p) :
  Calls Tryz.prog 56 #[v] w fun e w' => e = .returned (.bool (!CN p L (AZ r))) /\ St w0 w' F K := by
 obtain ⟨Al, cl, Ar, cr, An, cn, Ag, cg, rfl, -⟩ := Db hR.links (kp _ _ hS.ro)
 have KS := Lib.hid hS.stable
 have HR := Lib.hid hR
 have kl : ∀ D w, K D w -> Sl w D 2 (.slice Al L.length cl) L.length (A6 L) := fun D w h => (C6 hR.links (kp D w h)).1
 have kr : ∀ D w, K D w -> Sl w D 5 (.slice Ar p.rules.length cr) p.rules.length (AX p.rules) := fun D w h => (C6 hR.links (kp D w h)).2.1
 have HRo : Hid (∀ (w : World) (D : Nat -> Prop) (v : Value), B5 w D v p -> Calls Tryz.prog 129 #[v] w (Ax (fun x _ => x = .int .u64 (AZ r : Nat)) w)) := Lib.hid fun w D v h => rroles31_any h hr h1 h63
 have HCu : Hid (∀ (w0 w : World) (F : List A7) (K : (Nat -> Prop) -> World -> Prop) (v : Value), St w0 w F K -> (∀ D w, K D w -> B5 w D v p) -> Calls Tryz.prog 57 #[v] w fun e w' => ∃ u, e = .returned u /\ St w0 w' F fun D w => K D w /\ BN w D u p.cubes) := Lib.hid fun w0 w F K v h k => Ho hR h k
 have hlen := hR.len
 have hl1 := hR.fits.rlen
 have hcl := cubes_len p
 have hl2 := hR.fits.nlen
 have hl3 := hR.fits.glen
 obtain ⟨q1, q2, q3, q4⟩ := known_parts hR h63
 have HQ1 := Lib.hid q1
 have HQ2 := Lib.hid q2
 have HQ3 := Lib.hid q3
 have HQ4 := Lib.hid q4
 have HSM := Lib.hid hR.small
 have HST : Hid (p.start < AA) := Lib.hid hR.fits.start
 have HN : Hid (AZ r < AA) := Lib.hid (Iz r (by omega))
 have HKP := Lib.hid kp
 clear q1 q2 q3 q4 kp hR
 have hcl2 : p.cubes.length <= 3000 := by omega
 clear hcl hl2 hl3
 obtain ⟨kb, hkb⟩ : ∃ kb, CN p L (AZ r) = kb := ⟨_, rfl⟩
 rw [hkb] at HQ1 HQ2 HQ3 HQ4 ⊢
 clear hkb
 obtain ⟨N, hN⟩ : ∃ N, AZ r = N := ⟨_, rfl⟩
 rw [hN] at HQ3 HQ4 HN HRo
 clear hN
 obtain ⟨rl, hrl⟩ : ∃ rl, p.rules = rl := ⟨_, rfl⟩
 obtain ⟨cu, hcu⟩ : ∃ cu, p.cubes = cu := ⟨_, rfl⟩
 obtain ⟨st, hst⟩ : ∃ st, p.start = st := ⟨_, rfl⟩
 obtain ⟨nn, hnn⟩ : ∃ nn, p.never.length = nn := ⟨_, rfl⟩
 obtain ⟨ng, hng⟩ : ∃ ng, p.goal.length = ng := ⟨_, rfl⟩
 rw [hrl] at HQ2 HQ4 kr hl1
 rw [hcu] at HQ3 HQ4 HCu HSM hcl2
 rw [hst] at HQ4 HST
 rw [hrl, hst, hr, hnn, hng] at HKP
 rw [hrl, hst, hr, hnn, hng]
 clear hr hrl hcu hst hnn hng
 go_enter Tryz.func56, Tryz.ntmps56
 go_wp2_with (first
  | ((with_reducible refine qA 1 ?_); refine AH hS rfl _ _ rfl (.agg #[.int .i64 (r : Nat), .slice Al L.length cl, .int .u64 (st : Nat), .slice Ar rl.length cr, .slice An nn cn, .slice Ag ng cg]) _ rfl rfl ?_; clear hS; intro g1 w_ hS; (try simp only [Act.put, Act.eval, zz, Value.cells] at hS))
  | ((with_reducible refine qK ?_); refine qL hS Tryz.underlying30 ?_)
  | (go_at_call 129; refine (HRo.out _ _ _ (HKP.out _ _ hS.ro)).mono ?_; rintro r_ w_ ⟨_, rfl, rfl, hb_⟩; replace hS := hS.ext hb_; clear hb_)
  | ((with_reducible refine qK ?_); refine qC hS ?_))
 go_loopw [15] (fun i wr => ∃ j : Nat, i = .int .i64 (j : Nat) /\ j <= L.length /\ Hid (∀ i, i < j -> ∀ z, L[i]? = some z -> z.1 <= r /\ z.2 <= r) /\ St w0 wr (.box g1 30 #[.int .i64 (r : Nat), .slice Al L.length cl, .int .u64 (st : Nat), .slice Ar rl.length cr, .slice An nn cn, .slice Ag ng cg] :: F) K) (fun i _ => L.length - (intOf i).toNat)
 case atStart => exact ⟨0, rfl, by omega, Lib.hid fun i h => by omega, hS⟩
 case round =>
  clear hS
  obtain ⟨j, rfl, hj, HZ, hS⟩ := hrel
  by_cases hlj : j < L.length
  ·obtain ⟨f1, f2⟩ := Bf L j hlj
   have hz : L[j]? = some (L.getD j (0, 0)) := C3 (0, 0) hlj
   generalize L.getD j (0, 0) = z at *
   have HZJ := Lib.hid hz
   have HB : Hid ((r < z.1 \/ r < z.2) -> kb = false) := Lib.hid (HQ1.out z (List.mem_of_getElem? hz))
   clear hz
   obtain ⟨za, zb⟩ := z
   dsimp only at f1 f2 HB
   by_cases hza : r < za \/ r < zb
   ·obtain rfl : kb = false := HB.out hza
    by_cases hz1 : r < za
    all_goals
     go_wp2_with (first
      | ((with_reducible refine qB ?_); refine qc ?_ ?_ <;> intro h_ <;> go_prune)
      | ((with_reducible refine qI ?_); refine qj hS Tryz.underlying25 ?_; intro b_ j_ hc0_ hc1_)
      | ((with_reducible refine qA 5 ?_); refine AU hS rfl _ rfl (by kernel_rfl) ?_; clear hS; intro g5 w_ hS; (try simp only [Act.put, Act.eval, zz, Value.cells] at hS))
      | ((with_reducible refine qM ?_); (first | refine qS hS ?_ | refine qT hS ?_); clear hS; intro w_ hS; (try simp only [Act.put, Act.eval, zz, Value.cells] at hS))
      | ((with_reducible refine qK ?_); refine qC hS ?_))
     go_ret
     exact ⟨rfl, hS.sub ((List.sublist_cons_self _ _).trans (List.sublist_cons_self _ _))⟩
   ·have hz1 : za <= r := by omega
    have hz2 : zb <= r := by omega
    clear hza
    go_wp2_with (first
     | ((with_reducible refine qB ?_); refine qc ?_ ?_ <;> intro h_ <;> go_prune)
     | ((with_reducible refine qI ?_); refine qj hS Tryz.underlying25 ?_; intro b_ j_ hc0_ hc1_)
     | ((with_reducible refine qA 5 ?_); refine AU hS rfl _ rfl (by kernel_rfl) ?_; clear hS; intro g5 w_ hS; (try simp only [Act.put, Act.eval, zz, Value.cells] at hS))
     | ((with_reducible refine qM ?_); (first | refine qS hS ?_ | refine qT hS ?_); clear hS; intro w_ hS; (try simp only [Act.put, Act.eval, zz, Value.cells] at hS))
     | ((with_reducible refine qK ?_); refine qC hS ?_))
    refine ⟨⟨j + 1, by go_num, hlj, Lib.hid fun i hi z hz => ?_, hS.sub (List.sublist_cons_self _ _)⟩, by simp [intOf]; omega⟩
    rcases Nat.lt_or_ge i j with h3 | h3
    ·exact HZ.out i h3 z hz
    ·obtain rfl : i = j := by omega
     rw [HZJ.out] at hz
     obtain rfl := Option.some.inj hz
     exact ⟨hz1, hz2⟩
  ·obtain rfl : j = L.length := by omega
   have HZ1 : Hid (∀ z ∈ L, z.1 <= r /\ z.2 <= r) := Lib.hid fun z hz => by
    obtain ⟨i, hi⟩ := List.mem_iff_getElem?.1 hz
    exact HZ.out i (List.getElem?_eq_some_iff.1 hi).1 z hi
   clear HZ HQ1
   go_wp2_with (first | ((with_reducible refine qB ?_); refine qc ?_ ?_ <;> intro h_ <;> go_prune) | ((with_reducible refine qK ?_); refine qC hS ?_))
   go_loopw [35] (fun i wr => ∃ j : Nat, i = .int .i64 (j : Nat) /\ j <= rl.length /\ Hid (∀ i, i < j -> ∀ z, rl[i]? = some z -> 1 <= z.target /\ z.target <= (r : Int)) /\ St w0 wr (.box g1 30 #[.int .i64 (r : Nat), .slice Al L.length cl, .int .u64 (st : Nat), .slice Ar rl.length cr, .slice An nn cn, .slice Ag ng cg] :: F) K) (fun i _ => rl.length - (intOf i).toNat)
   case atStart => exact ⟨0, rfl, by omega, Lib.hid fun i h => by omega, hS⟩
   case round =>
    clear hS
    obtain ⟨j, rfl, hj, HZ, hS⟩ := hrel
    by_cases hlj : j < rl.length
    ·obtain ⟨b, o, rfl, c0, c1, c2, c3, c4⟩ := rr_at (kr _ _ hS.ro) hlj
     have hz : rl[j]? = some (rl.getD j Bd) := C3 Bd hlj
     generalize rl.getD j Bd = z at *
     have HZJ := Lib.hid hz
     have HB : Hid ((z.target < 1 \/ (r : Int) < z.target) -> kb = false) := Lib.hid (HQ2.out z (List.mem_of_getElem? hz))
     clear hz
     obtain ⟨zr, zy, zn, zt, zo⟩ := z
     dsimp only at c0 c1 c2 c3 c4 HB
     by_cases hza : zt < 1 \/ (r : Int) < zt
     ·obtain rfl : kb = false := HB.out hza
      by_cases hz1 : zt < 1
      all_goals
       go_wp2_with (first
        | ((with_reducible refine qB ?_); refine qc ?_ ?_ <;> intro h_ <;> go_prune)
        | ((with_reducible refine qA 38 ?_); refine BigFrame.wpList_want rfl fun _ hK => Bb (cs := [.bool zr, .int .u64 (zy : Nat), .int .u64 (zn : Nat), .int .i64 zt, .int .i64 zo]) rfl rfl (Jg c0 c1 c2 c3 c4) Tryz.underlying109 rfl (by kernel_rfl) (hK _ _ ?_))
        | ((with_reducible refine qA 7 ?_); refine qa hS #[.bool false, .int .u64 0, .int .u64 0, .int .i64 0, .int .i64 0] ?_; clear hS; intro g7 w_ hS)
        | ((with_reducible refine qM ?_); (first | refine qS hS ?_ | refine qT hS ?_); clear hS; intro w_ hS; (try simp only [Act.put, Act.eval, zz, Value.cells] at hS))
        | ((with_reducible refine qK ?_); refine qC hS ?_))
       go_ret
       exact ⟨rfl, hS.sub ((List.sublist_cons_self _ _).trans (List.sublist_cons_self _ _))⟩
     ·have hz1 : 1 <= zt := by omega
      have hz2 : zt <= (r : Int) := by omega
      clear hza
      go_wp2_with (first
       | ((with_reducible refine qB ?_); refine qc ?_ ?_ <;> intro h_ <;> go_prune)
       | ((with_reducible refine qA 38 ?_); refine BigFrame.wpList_want rfl fun _ hK => Bb (cs := [.bool zr, .int .u64 (zy : Nat), .int .u64 (zn : Nat), .int .i64 zt, .int .i64 zo]) rfl rfl (Jg c0 c1 c2 c3 c4) Tryz.underlying109 rfl (by kernel_rfl) (hK _ _ ?_))
       | ((with_reducible refine qA 7 ?_); refine qa hS #[.bool false, .int .u64 0, .int .u64 0, .int .i64 0, .int .i64 0] ?_; clear hS; intro g7 w_ hS)
       | ((with_reducible refine qM ?_); (first | refine qS hS ?_ | refine qT hS ?_); clear hS; intro w_ hS; (try simp only [Act.put, Act.eval, zz, Value.cells] at hS))
       | ((with_reducible refine qK ?_); refine qC hS ?_))
      refine ⟨⟨j + 1, by go_num, hlj, Lib.hid fun i hi z hz => ?_, hS.sub (List.sublist_cons_self _ _)⟩, by simp [intOf]; omega⟩
      rcases Nat.lt_or_ge i j with h3 | h3
      ·exact HZ.out i h3 z hz
      ·obtain rfl : i = j := by omega
       rw [HZJ.out] at hz
       obtain rfl := Option.some.inj hz
       exact ⟨hz1, hz2⟩
    ·obtain rfl : j = rl.length := by omega
     have HZ2 : Hid (∀ z ∈ rl, 1 <= z.target /\ z.target <= (r : Int)) := Lib.hid fun z hz => by
      obtain ⟨i, hi⟩ := List.mem_iff_getElem?.1 hz
      exact HZ.out i (List.getElem?_eq_some_iff.1 hi).1 z hi
     clear HZ HQ2
     go_wp2_with (first
      | ((with_reducible refine qB ?_); refine qc ?_ ?_ <;> intro h_ <;> go_prune)
      | ((with_reducible refine qK ?_); refine qL hS Tryz.underlying30 ?_)
      | (go_at_call 57; refine (HCu.out _ _ _ _ _ hS HKP.out).mono ?_; clear hS; rintro r_ w_ ⟨u, rfl, hS⟩; obtain ⟨Au, cuc, rfl, _, _⟩ := Sl.shape hS.ro.2)
      | ((with_reducible refine qK ?_); refine qC hS ?_))
     obtain ⟨K2, k2, kc, hS2⟩ : ∃ K2 : (Nat -> Prop) -> World -> Prop, (∀ D w, K2 D w -> K D w) /\ (∀ D w, K2 D w -> Sl w D 2 (.slice Au cu.length cuc) cu.length (AM cu)) /\ St w0 w_ (.box g1 30 #[.int .i64 (r : Nat), .slice Al L.length cl, .int .u64 (st : Nat), .slice Ar rl.length cr, .slice An nn cn, .slice Ag ng cg] :: F) K2 := ⟨_, fun _ _ h => h.1, fun _ _ h => h.2, hS⟩
     clear hS
     have hS := hS2
     clear hS2
     go_loopw [53] (fun i wr => ∃ j : Nat, i = .int .i64 (j : Nat) /\ j <= cu.length /\ Hid (∀ i, i < j -> ∀ z, cu[i]? = some z -> (z.1 ||| z.2) &&& BG N = 0) /\ St w0 wr (.box g1 30 #[.int .i64 (r : Nat), .slice Al L.length cl, .int .u64 (st : Nat), .slice Ar rl.length cr, .slice An nn cn, .slice Ag ng cg] :: F) K2) (fun i _ => cu.length - (intOf i).toNat)
     case atStart => exact ⟨0, rfl, by omega, Lib.hid fun i h => by omega, hS⟩
     case round =>
      clear hS
      obtain ⟨j, rfl, hj, HZ, hS⟩ := hrel
      by_cases hlj : j < cu.length
      ·obtain ⟨f1, f2⟩ := EJ cu j hlj
       have hz : cu[j]? = some (cu.getD j (0, 0)) := C3 (0, 0) hlj
       generalize cu.getD j (0, 0) = z at *
       have HZJ := Lib.hid hz
       have hzs := HSM.out z (List.mem_of_getElem? hz)
       have HB : Hid ((z.1 ||| z.2) &&& BG N ≠ 0 -> kb = false) := Lib.hid (HQ3.out z (List.mem_of_getElem? hz))
       clear hz
       obtain ⟨za, zb⟩ := z
       dsimp only at f1 f2 HB hzs
       have HY : Hid (za < AA) := Lib.hid hzs.1
       have HM : Hid (zb < AA) := Lib.hid hzs.2
       have HYM : Hid (za ||| zb < AA) := Lib.hid (Kc hzs.1 hzs.2)
       clear hzs
       obtain ⟨x, hx⟩ : ∃ x, (za ||| zb) &&& BG N = x := ⟨_, rfl⟩
       rw [hx] at HB
       have HX := Lib.hid hx
       clear hx
       have HRun : Hid (∀ (w : World) t, (binOp .andNot t (.int .u64 ((za ||| zb : Nat) : Int)) (.int .u64 (N : Nat))).run Tryz.prog w = .ok (.int .u64 (x : Nat)) w) := Lib.hid fun w t => by rw [<- HX.out]; exact Hi HYM.out HN.out
       by_cases hx0 : x = 0
       ·subst hx0
        go_wp2_with (first
         | ((with_reducible refine qB ?_); refine qc ?_ ?_ <;> intro h_ <;> go_prune)
         | ((with_reducible refine qI ?_); refine qj hS Tryz.underlying28 ?_; intro b_ j_ hc0_ hc1_)
         | ((with_reducible refine qA 9 ?_); refine AU hS rfl _ rfl (by kernel_rfl) ?_; clear hS; intro g9 w_ hS; (try simp only [Act.put, Act.eval, zz, Value.cells] at hS))
         | ((with_reducible refine qM ?_); (first | refine qS hS ?_ | refine qT hS ?_); clear hS; intro w_ hS; (try simp only [Act.put, Act.eval, zz, Value.cells] at hS))
         | ((with_reducible refine qA 61 ?_); refine BigFrame.wpList_want rfl fun _ hK => Az rfl rfl rfl rfl (run_orW HY.out HM.out) (hK _ _ ?_))
         | ((with_reducible refine qA 63 ?_); refine BigFrame.wpList_want rfl fun _ hK => Az rfl rfl rfl rfl (HRun.out _ _) (hK _ _ ?_))
         | ((with_reducible refine qK ?_); refine qC hS ?_))
        refine ⟨⟨j + 1, by go_num, hlj, Lib.hid fun i hi z hz => ?_, hS.sub (List.sublist_cons_self _ _)⟩, by simp [intOf]; omega⟩
        rcases Nat.lt_or_ge i j with h3 | h3
        ·exact HZ.out i h3 z hz
        ·obtain rfl : i = j := by omega
         rw [HZJ.out] at hz
         obtain rfl := Option.some.inj hz
         exact HX.out
       ·obtain rfl : kb = false := HB.out hx0
        go_wp2_with (first
         | ((with_reducible refine qB ?_); refine qc ?_ ?_ <;> intro h_ <;> go_prune)
         | ((with_reducible refine qI ?_); refine qj hS Tryz.underlying28 ?_; intro b_ j_ hc0_ hc1_)
         | ((with_reducible refine qA 9 ?_); refine AU hS rfl _ rfl (by kernel_rfl) ?_; clear hS; intro g9 w_ hS; (try simp only [Act.put, Act.eval, zz, Value.cells] at hS))
         | ((with_reducible refine qM ?_); (first | refine qS hS ?_ | refine qT hS ?_); clear hS; intro w_ hS; (try simp only [Act.put, Act.eval, zz, Value.cells] at hS))
         | ((with_reducible refine qA 61 ?_); refine BigFrame.wpList_want rfl fun _ hK => Az rfl rfl rfl rfl (run_orW HY.out HM.out) (hK _ _ ?_))
         | ((with_reducible refine qA 63 ?_); refine BigFrame.wpList_want rfl fun _ hK => Az rfl rfl rfl rfl (HRun.out _ _) (hK _ _ ?_))
         | ((with_reducible refine qK ?_); refine qC hS ?_))
        go_ret
        exact ⟨rfl, (hS.sub ((List.sublist_cons_self _ _).trans (List.sublist_cons_self _ _))).mono KS.out fun D w h => k2 _ _ h⟩
      ·obtain rfl : j = cu.length := by omega
       have HZ3 : Hid (∀ z ∈ cu, (z.1 ||| z.2) &&& BG N = 0) := Lib.hid fun z hz => by
        obtain ⟨i, hi⟩ := List.mem_iff_getElem?.1 hz
        exact HZ.out i (List.getElem?_eq_some_iff.1 hi).1 z hi
       have HKB : Hid (kb = decide (st &&& BG N = 0)) := Lib.hid (HQ4.out HZ1.out HZ2.out HZ3.out)
       clear HZ HQ3 HQ4
       obtain ⟨x, hx⟩ : ∃ x, st &&& BG N = x := ⟨_, rfl⟩
       rw [hx] at HKB
       have HX := Lib.hid hx
       clear hx
       have HRun : Hid (∀ (w : World) t, (binOp .andNot t (.int .u64 (st : Nat)) (.int .u64 (N : Nat))).run Tryz.prog w = .ok (.int .u64 (x : Nat)) w) := Lib.hid fun w t => by rw [<- HX.out]; exact Hi HST.out HN.out
       by_cases hx0 : x = 0
       ·subst hx0
        obtain rfl : kb = true := HKB.out
        go_wp2_with (first
         | ((with_reducible refine qB ?_); refine qc ?_ ?_ <;> intro h_ <;> go_prune)
         | ((with_reducible refine qA 69 ?_); refine BigFrame.wpList_want rfl fun _ hK => Az rfl rfl rfl rfl (HRun.out _ _) (hK _ _ ?_))
         | ((with_reducible refine qK ?_); refine qC hS ?_))
        go_ret
        exact ⟨rfl, (hS.sub (List.sublist_cons_self _ _)).mono KS.out fun D w h => k2 _ _ h⟩
       ·obtain rfl : kb = false := HKB.out.trans (decide_eq_false hx0)
        go_wp2_with (first
         | ((with_reducible refine qB ?_); refine qc ?_ ?_ <;> intro h_ <;> go_prune)
         | ((with_reducible refine qA 69 ?_); refine BigFrame.wpList_want rfl fun _ hK => Az rfl rfl rfl rfl (HRun.out _ _) (hK _ _ ?_))
         | ((with_reducible refine qK ?_); refine qC hS ?_))
        go_ret
        exact ⟨rfl, (hS.sub (List.sublist_cons_self _ _)).mono KS.out fun D w h => k2 _ _ h⟩
end
section
open Go.RowKit
attribute [local go_sem ↓] Go.wp_at_zero Go.wp_at_succ
set_option maxRecDepth 20000
set_option exponentiation.threshold 5000
theorem rgood31g_any {w0 : World} {D : Nat -> Prop} {v : Value} {p : AP} {L : List (Nat × Nat)} {s : Nat} (hp : B5 w0 D v p) (hR : RFit p L) :
  Calls Tryz.prog 28 #[v, .int .u64 (s : Nat)] w0 (Ax (fun x _ => x = .bool (goodB p s)) w0) := by
 obtain ⟨R, lk, st, rl, nl, gl⟩ := p
 obtain rfl : lk = some L := hR.links
 obtain ⟨Al, cl, Ar, cr, An, cn, Ag, cg, rfl, -⟩ := Db hR.links hp
 dsimp only at hp ⊢
 obtain ⟨K, kp, hS⟩ : ∃ K : (Nat -> Prop) -> World -> Prop, (∀ D w, K D w -> B5 w D (.agg #[.int .i64 R, .slice Al L.length cl, .int .u64 (st : Nat), .slice Ar rl.length cr, .slice An nl.length cn, .slice Ag gl.length cg]) ⟨R, some L, st, rl, nl, gl⟩) /\ St w0 w0 [] K := ⟨_, fun _ _ h => h, St.start Ct hp⟩
 have kl : ∀ D w, K D w -> Sl w D 2 (.slice Al L.length cl) L.length (A6 L) := fun D w h => (C6 rfl (kp D w h)).1
 have kn : ∀ D w, K D w -> BN w D (.slice An nl.length cn) nl := fun D w h => (C6 rfl (kp D w h)).2.2.1
 have HL := Lib.hid (show Gh 64 L from hR.hok.inr)
 have hlen := hR.len
 have HSM : Hid (Small nl) := Lib.hid hR.fits.never
 clear hp hR kp
 obtain ⟨b, hb⟩ : ∃ b, nl.any (fun z => BZ z (closM L s)) = b := ⟨_, rfl⟩
 have HG : Hid (goodB ⟨R, some L, st, rl, nl, gl⟩ s = !b) := Lib.hid (by rw [<- hb]; rfl)
 have HB := Lib.hid hb
 clear hb
 go_enter Tryz.func28, Tryz.ntmps28
 go_wp2_with (first | ((with_reducible refine qA 2 ?_); refine AH hS rfl _ _ rfl (.agg #[.int .i64 R, .slice Al L.length cl, .int .u64 (st : Nat), .slice Ar rl.length cr, .slice An nl.length cn, .slice Ag gl.length cg]) _ rfl rfl ?_; clear hS; intro g2 w_ hS; (try simp only [Act.put, Act.eval, zz, Value.cells] at hS)))
 refine EB [.q g2 4, .i (.slice An nl.length cn), .q g2 1, .i (.slice Al L.length cl), .i (.int .u64 (s : Nat)), .i (.int .u64 (closM L s : Nat)), .i (.bool b), .i (.bool (!b)), .i (.bool (!b))] ⟨uF, uC (h := fun w hW hN => (hS.ext hW).shut 0 rfl 4 rfl), uF, uC (h := fun w hW hN => (hS.ext hW).shut 0 rfl 1 rfl), uM, ?_, ?_, uU, uA, trivial⟩ ?_
 ·refine uT fun b__ w hW hE K hK => ?_
  have e8 := hE 8
  have e9 := hE 9
  exact AV rfl (by kernel_rfl) (by simp only [List.map_cons, List.map_nil, e8, e9]) (rclos_any (kl _ _ (hS.ext hW).ro) HL.out (by omega) s) fun v w' h hb => hK v w' h hb
 ·refine uT fun b__ w hW hE K hK => ?_
  have e6 := hE 6
  have e10 := hE 10
  exact AV rfl (by kernel_rfl) (by simp only [List.map_cons, List.map_nil, e6, e10]) (rsome_any (kn _ _ (hS.ext hW).ro) HSM.out (closM_ltT L s)) fun v w' h hb => hK v w' (h.trans (by rw [HB.out])) hb
 ·intro vs wz hW hT
  obtain ⟨e5, e6, e7, e8, e9, e10, e11, e12, e4, -⟩ := hT
  simp only [AL, Act.put, zz, ze]
  rw [e4]
  go_wp2_with fail
  go_ret
  exact Ax.mk (by rw [HG.out]; rfl) (CE hS.below hW)
theorem Ko {w : World} {x y : Operand} {a b : Array Value} : (eqGuard .neq 50 x y (.agg a) (.agg b)).run Tryz.prog w = .ok () w := by kernel_rfl
theorem run_ncube {w : World} {y n : Nat} {b : Bool} (h : (decide (y = 0) && decide (n = 0)) = b) : (binOp .neq 50 (.agg #[.int .u64 (y : Nat), .int .u64 (n : Nat)]) (.agg #[.int .u64 0, .int .u64 0])).run Tryz.prog w = .ok (.bool (!b)) w := by
 subst h
 by_cases h1 : y = 0 <;> by_cases h2 : n = 0 <;> go_simp <;> simp [h1, h2] <;> omega
set_option maxHeartbeats 4000000 in
theorem rcheck31_any {w0 : World} {D : Nat -> Prop} {v : Value} {p : AP} {L : List (Nat × Nat)} (hp : B5 w0 D v p) (hR : RFit p L) :
  Calls Tryz.prog 14 #[v] w0 (Ax (fun x _ => x = .int .i64 (checkE p)) w0) := by
 obtain ⟨R, lk, st, rl, nl, gl⟩ := p
 obtain rfl : lk = some L := hR.links
 obtain ⟨Al, cl, Ar, cr, An, cn, Ag, cg, rfl, -⟩ := Db hR.links hp
 dsimp only at hp ⊢
 obtain ⟨K, kp, hS⟩ : ∃ K : (Nat -> Prop) -> World -> Prop, (∀ D w, K D w -> B5 w D (.agg #[.int .i64 R, .slice Al L.length cl, .int .u64 (st : Nat), .slice Ar rl.length cr, .slice An nl.length cn, .slice Ag gl.length cg]) ⟨R, some L, st, rl, nl, gl⟩) /\ St w0 w0 [] K := ⟨_, fun _ _ h => h, St.start Ct hp⟩
 have kr : ∀ D w, K D w -> Sl w D 5 (.slice Ar rl.length cr) rl.length (AX rl) := fun D w h => (C6 rfl (kp D w h)).2.1
 have HKP := Lib.hid kp
 have HRF := Lib.hid hR
 have hl1 := hR.fits.rlen
 have hl2 := hR.fits.nlen
 have hl3 := hR.fits.glen
 dsimp only at hl1 hl2 hl3
 clear hp kp hR
 have HE := Lib.hid (show checkE ⟨R, some L, st, rl, nl, gl⟩ = if R < 1 \/ 63 < R then 1 else if 64 < rl.length \/ 2000 < nl.length \/ 2000 < gl.length then 3
  else if CN ⟨R, some L, st, rl, nl, gl⟩ L (AZ R.toNat) = false then 4 else if ((AP.cubes ⟨R, some L, st, rl, nl, gl⟩).any fun z => z.1 &&& z.2 != 0) = true \/ rl.all Jh = false then 6
  else if goodB ⟨R, some L, st, rl, nl, gl⟩ st = false then 7 else 0 from rfl)
 generalize checkE ⟨R, some L, st, rl, nl, gl⟩ = RES at *
 by_cases hRr : R < 1 \/ 63 < R
 ·have hE : RES = 1 := by rw [HE.out, if_pos hRr]
  subst hE
  by_cases hR1 : R < 1
  all_goals
   go_enter Tryz.func14, Tryz.ntmps14
   go_wp2_with (first
    | ((with_reducible refine qA 1 ?_); refine AH hS rfl _ _ rfl (.agg #[.int .i64 R, .slice Al L.length cl, .int .u64 (st : Nat), .slice Ar rl.length cr, .slice An nl.length cn, .slice Ag gl.length cg]) _ rfl rfl ?_; clear hS; intro g1 w_ hS; (try simp only [Act.put, Act.eval, zz, Value.cells] at hS))
    | ((with_reducible refine qK ?_); refine qC hS ?_)
    | ((with_reducible refine qB ?_); refine qc ?_ ?_ <;> intro h_ <;> go_prune)
    )
   go_ret
   exact Ax.mk rfl hS.below
 obtain ⟨r, rfl⟩ : ∃ r : Nat, R = (r : Int) := ⟨R.toNat, by omega⟩
 have hr63 : 1 <= r /\ r <= 63 := by omega
 replace HE := Lib.hid (HE.out.trans (if_neg hRr))
 clear hRr
 rw [Int.toNat_natCast] at HE
 by_cases hN : 64 < rl.length \/ 2000 < nl.length \/ 2000 < gl.length
 ·have hE : RES = 3 := by rw [HE.out, if_pos hN]
  subst hE
  have hN1 : 64 < rl.length := by omega
  clear hN
  go_enter Tryz.func14, Tryz.ntmps14
  go_wp2_with (first
   | ((with_reducible refine qA 1 ?_); refine AH hS rfl _ _ rfl (.agg #[.int .i64 (r : Nat), .slice Al L.length cl, .int .u64 (st : Nat), .slice Ar rl.length cr, .slice An nl.length cn, .slice Ag gl.length cg]) _ rfl rfl ?_; clear hS; intro g1 w_ hS; (try simp only [Act.put, Act.eval, zz, Value.cells] at hS))
   | ((with_reducible refine qK ?_); refine qC hS ?_)
   | ((with_reducible refine qB ?_); refine qc ?_ ?_ <;> intro h_ <;> go_prune)
   )
  go_ret
  exact Ax.mk rfl hS.below
 have hN1 : rl.length <= 64 /\ nl.length <= 2000 /\ gl.length <= 2000 := by omega
 obtain ⟨hN1, hN2, hN3⟩ := hN1
 replace HE := Lib.hid (HE.out.trans (if_neg hN))
 clear hN
 obtain ⟨kb, hkb⟩ : ∃ kb, CN ⟨(r : Int), some L, st, rl, nl, gl⟩ L (AZ r) = kb := ⟨_, rfl⟩
 have HUN : Hid (∀ (w : World) (F : List A7), St w0 w F K -> Calls Tryz.prog 56 #[.agg #[.int .i64 (r : Nat), .slice Al L.length cl, .int .u64 (st : Nat), .slice Ar rl.length cr, .slice An nl.length cn, .slice Ag gl.length cg]] w fun e w' => e = .returned (.bool (!kb)) /\ St w0 w' F K) := Lib.hid fun w F h => by
  rw [<- hkb]
  exact runknown_any HRF.out rfl hr63.1 hr63.2 h HKP.out
 rw [hkb] at HE
 clear hkb
 have HCU : Hid (∀ (w : World) (F : List A7), St w0 w F K -> Calls Tryz.prog 57 #[.agg #[.int .i64 (r : Nat), .slice Al L.length cl, .int .u64 (st : Nat), .slice Ar rl.length cr, .slice An nl.length cn, .slice Ag gl.length cg]] w fun e w' => ∃ u, e = .returned u /\ St w0 w' F fun D w => K D w /\ BN w D u (AP.cubes ⟨(r : Int), some L, st, rl, nl, gl⟩)) := Lib.hid fun w F h => Ho HRF.out h HKP.out
 have HSM := Lib.hid HRF.out.small
 have hcl := cubes_len ⟨(r : Int), some L, st, rl, nl, gl⟩
 dsimp only at hcl
 obtain ⟨cu, hcu⟩ : ∃ cu, AP.cubes ⟨(r : Int), some L, st, rl, nl, gl⟩ = cu := ⟨_, rfl⟩
 rw [hcu] at HE HCU HSM hcl
 clear hcu
 have hcl2 : cu.length <= 5000 := by omega
 clear hcl
 obtain ⟨gb, hgb⟩ : ∃ gb, goodB ⟨(r : Int), some L, st, rl, nl, gl⟩ st = gb := ⟨_, rfl⟩
 have HGB : Hid (∀ (w : World) (D : Nat -> Prop) (v : Value), B5 w D v ⟨(r : Int), some L, st, rl, nl, gl⟩ -> Calls Tryz.prog 28 #[v, .int .u64 (st : Nat)] w (Ax (fun x _ => x = .bool gb) w)) := Lib.hid fun w D v h => by
  rw [<- hgb]
  exact rgood31g_any h HRF.out
 rw [hgb] at HE
 clear hgb HRF
 go_enter Tryz.func14, Tryz.ntmps14
 cases kb
 ·have hE : RES = 4 := HE.out.trans (if_pos rfl)
  subst hE
  go_wp2_with (first
   | ((with_reducible refine qA 1 ?_); refine AH hS rfl _ _ rfl (.agg #[.int .i64 (r : Nat), .slice Al L.length cl, .int .u64 (st : Nat), .slice Ar rl.length cr, .slice An nl.length cn, .slice Ag gl.length cg]) _ rfl rfl ?_; clear hS; intro g1 w_ hS; (try simp only [Act.put, Act.eval, zz, Value.cells] at hS))
   | ((with_reducible refine qK ?_); refine qL hS Tryz.underlying30 ?_)
   | (go_at_call 56; refine (HUN.out _ _ hS).mono ?_; clear hS; rintro r_ w_ ⟨rfl, hS⟩)
   | ((with_reducible refine qK ?_); refine qC hS ?_)
   | ((with_reducible refine qB ?_); refine qc ?_ ?_ <;> intro h_ <;> go_prune))
  go_ret
  exact Ax.mk rfl hS.below
 replace HE := Lib.hid (HE.out.trans (if_neg (by decide)))
 go_wp2_with (first
  | ((with_reducible refine qA 1 ?_); refine AH hS rfl _ _ rfl (.agg #[.int .i64 (r : Nat), .slice Al L.length cl, .int .u64 (st : Nat), .slice Ar rl.length cr, .slice An nl.length cn, .slice Ag gl.length cg]) _ rfl rfl ?_; clear hS; intro g1 w_ hS; (try simp only [Act.put, Act.eval, zz, Value.cells] at hS))
  | ((with_reducible refine qK ?_); refine qL hS Tryz.underlying30 ?_)
  | (go_at_call 56; refine (HUN.out _ _ hS).mono ?_; clear hS; rintro r_ w_ ⟨rfl, hS⟩)
  | (go_at_call 57; refine (HCU.out _ _ hS).mono ?_; clear hS; rintro r_ w_ ⟨u, rfl, hS⟩; obtain ⟨Au, cuc, rfl, _, _⟩ := Sl.shape hS.ro.2)
  | ((with_reducible refine qK ?_); refine qC hS ?_)
  | ((with_reducible refine qB ?_); refine qc ?_ ?_ <;> intro h_ <;> go_prune))
 obtain ⟨K2, k2, kc, hS2⟩ : ∃ K2 : (Nat -> Prop) -> World -> Prop, (∀ D w, K2 D w -> K D w) /\ (∀ D w, K2 D w -> Sl w D 2 (.slice Au cu.length cuc) cu.length (AM cu)) /\ St w0 w_ [.box g1 30 #[.int .i64 (r : Nat), .slice Al L.length cl, .int .u64 (st : Nat), .slice Ar rl.length cr, .slice An nl.length cn, .slice Ag gl.length cg]] K2 := ⟨_, fun _ _ h => h.1, fun _ _ h => h.2, hS⟩
 clear hS
 have hS := hS2
 clear hS2
 go_loopw [36] (fun i wr => ∃ j : Nat, i = .int .i64 (j : Nat) /\ j <= cu.length /\ Hid (∀ i, i < j -> ∀ z, cu[i]? = some z -> (z.1 &&& z.2 != 0) = false) /\ St w0 wr [.box g1 30 #[.int .i64 (r : Nat), .slice Al L.length cl, .int .u64 (st : Nat), .slice Ar rl.length cr, .slice An nl.length cn, .slice Ag gl.length cg]] K2) (fun i _ => cu.length - (intOf i).toNat)
 case atStart => exact ⟨0, rfl, by omega, Lib.hid fun i h => by omega, hS⟩
 case round =>
  clear hS
  obtain ⟨j, rfl, hj, HZ, hS⟩ := hrel
  by_cases hlj : j < cu.length
  ·obtain ⟨f1, f2⟩ := EJ cu j hlj
   have hz : cu[j]? = some (cu.getD j (0, 0)) := C3 (0, 0) hlj
   generalize cu.getD j (0, 0) = z at *
   have HZJ := Lib.hid hz
   have hzs := HSM.out z (List.mem_of_getElem? hz)
   clear hz
   obtain ⟨za, zb⟩ := z
   dsimp only at f1 f2 hzs
   obtain ⟨eb, heb⟩ : ∃ eb, (za &&& zb != 0) = eb := ⟨_, rfl⟩
   have HEM : Hid (∀ w : World, Calls Tryz.prog 58 #[.agg #[.int .u64 (za : Nat), .int .u64 (zb : Nat)]] w (Ax (fun x _ => x = .bool eb) w)) := Lib.hid fun w => by rw [<- heb]; exact rempty_any za zb w hzs.1 hzs.2
   have HEB := Lib.hid heb
   clear heb hzs
   cases eb
   ·go_wp2_with (first
     | ((with_reducible refine qB ?_); refine qc ?_ ?_ <;> intro h_ <;> go_prune)
     | ((with_reducible refine qI ?_); refine qj hS Tryz.underlying28 ?_; intro b_ j_ hc0_ hc1_)
     | ((with_reducible refine qA 4 ?_); refine AU hS rfl _ rfl (by kernel_rfl) ?_; clear hS; intro g4 w_ hS; (try simp only [Act.put, Act.eval, zz, Value.cells] at hS))
     | ((with_reducible refine qM ?_); (first | refine qS hS ?_ | refine qT hS ?_); clear hS; intro w_ hS; (try simp only [Act.put, Act.eval, zz, Value.cells] at hS))
     | ((with_reducible refine qK ?_); refine qL hS Tryz.underlying50 ?_)
     | (go_at_call 58; refine (HEM.out _).mono ?_; rintro r_ w_ ⟨_, rfl, rfl, hb_⟩; replace hS := hS.ext hb_; clear hb_)
     | ((with_reducible refine qK ?_); refine qC hS ?_))
    refine ⟨⟨j + 1, by go_num, hlj, Lib.hid fun i hi z hz => ?_, hS.sub (List.sublist_cons_self _ _)⟩, by simp [intOf]; omega⟩
    rcases Nat.lt_or_ge i j with h3 | h3
    ·exact HZ.out i h3 z hz
    ·obtain rfl : i = j := by omega
     rw [HZJ.out] at hz
     obtain rfl := Option.some.inj hz
     exact HEB.out
   ·obtain rfl : RES = 6 := HE.out.trans (if_pos (.inl (List.any_eq_true.2 ⟨_, List.mem_of_getElem? HZJ.out, HEB.out⟩)))
    go_wp2_with (first
     | ((with_reducible refine qB ?_); refine qc ?_ ?_ <;> intro h_ <;> go_prune)
     | ((with_reducible refine qI ?_); refine qj hS Tryz.underlying28 ?_; intro b_ j_ hc0_ hc1_)
     | ((with_reducible refine qA 4 ?_); refine AU hS rfl _ rfl (by kernel_rfl) ?_; clear hS; intro g4 w_ hS; (try simp only [Act.put, Act.eval, zz, Value.cells] at hS))
     | ((with_reducible refine qM ?_); (first | refine qS hS ?_ | refine qT hS ?_); clear hS; intro w_ hS; (try simp only [Act.put, Act.eval, zz, Value.cells] at hS))
     | ((with_reducible refine qK ?_); refine qL hS Tryz.underlying50 ?_)
     | (go_at_call 58; refine (HEM.out _).mono ?_; rintro r_ w_ ⟨_, rfl, rfl, hb_⟩; replace hS := hS.ext hb_; clear hb_)
     | ((with_reducible refine qK ?_); refine qC hS ?_))
    go_ret
    exact Ax.mk rfl hS.below
  ·obtain rfl : j = cu.length := by omega
   have HZ1 : Hid ((cu.any fun z => z.1 &&& z.2 != 0) = false) := Lib.hid (by
    rw [List.any_eq_false]
    intro z hz
    obtain ⟨i, hi⟩ := List.mem_iff_getElem?.1 hz
    rw [HZ.out i (List.getElem?_eq_some_iff.1 hi).1 z hi]; decide)
   clear HZ
   go_wp2_with (first | ((with_reducible refine qB ?_); refine qc ?_ ?_ <;> intro h_ <;> go_prune) | ((with_reducible refine qK ?_); refine qC hS ?_))
   go_loopw [46] (fun i wr => ∃ j : Nat, i = .int .i64 (j : Nat) /\ j <= rl.length /\ Hid (∀ i, i < j -> ∀ z, rl[i]? = some z -> Jh z = true) /\ St w0 wr [.box g1 30 #[.int .i64 (r : Nat), .slice Al L.length cl, .int .u64 (st : Nat), .slice Ar rl.length cr, .slice An nl.length cn, .slice Ag gl.length cg]] K2) (fun i _ => rl.length - (intOf i).toNat)
   case atStart => exact ⟨0, rfl, by omega, Lib.hid fun i h => by omega, hS⟩
   case round =>
    clear hS
    obtain ⟨j, rfl, hj, HZ, hS⟩ := hrel
    by_cases hlj : j < rl.length
    ·obtain ⟨b, o, rfl, c0, c1, c2, c3, c4⟩ := rr_at (kr _ _ (k2 _ _ hS.ro)) hlj
     have hz : rl[j]? = some (rl.getD j Bd) := C3 Bd hlj
     generalize rl.getD j Bd = z at *
     have HZJ := Lib.hid hz
     clear hz
     obtain ⟨zr, zy, zn, zt, zo⟩ := z
     dsimp only at c0 c1 c2 c3 c4
     obtain ⟨zz, hzz⟩ : ∃ zz, (!(decide (zy = 0) && decide (zn = 0))) = zz := ⟨_, rfl⟩
     have HRV : Hid (Jh ⟨zr, zy, zn, zt, zo⟩ = (!zr || !zz)) := Lib.hid (by unfold Jh; rw [<- hzz, Bool.not_not]; rfl)
     have HNC : Hid (∀ w : World, (binOp .neq 50 (.agg #[.int .u64 (zy : Nat), .int .u64 (zn : Nat)]) (.agg #[.int .u64 0, .int .u64 0])).run Tryz.prog w = .ok (.bool zz) w) := Lib.hid fun w => by rw [<- hzz]; exact run_ncube rfl
     clear hzz
     cases zr
     ·go_wp2_with (first
       | ((with_reducible refine qB ?_); refine qc ?_ ?_ <;> intro h_ <;> go_prune)
       | ((with_reducible refine qA 49 ?_); refine BigFrame.wpList_want rfl fun _ hK => Bb (cs := [.bool false, .int .u64 (zy : Nat), .int .u64 (zn : Nat), .int .i64 zt, .int .i64 zo]) rfl rfl (Jg c0 c1 c2 c3 c4) Tryz.underlying109 rfl (by kernel_rfl) (hK _ _ ?_))
       | ((with_reducible refine qA 6 ?_); refine qa hS #[.bool false, .int .u64 0, .int .u64 0, .int .i64 0, .int .i64 0] ?_; clear hS; intro g6 w_ hS)
       | ((with_reducible refine qM ?_); (first | refine qS hS ?_ | refine qT hS ?_); clear hS; intro w_ hS; (try simp only [Act.put, Act.eval, zz, Value.cells] at hS))
       | ((with_reducible refine qK ?_); refine qC hS ?_))
      refine ⟨⟨j + 1, by go_num, hlj, Lib.hid fun i hi z hz => ?_, hS.sub (List.sublist_cons_self _ _)⟩, by simp [intOf]; omega⟩
      rcases Nat.lt_or_ge i j with h3 | h3
      ·exact HZ.out i h3 z hz
      ·obtain rfl : i = j := by omega
       rw [HZJ.out] at hz
       obtain rfl := Option.some.inj hz
       rfl
     ·cases zz
      ·go_wp2_with (first
        | ((with_reducible refine qA 49 ?_); refine BigFrame.wpList_want rfl fun _ hK => Bb (cs := [.bool true, .int .u64 (zy : Nat), .int .u64 (zn : Nat), .int .i64 zt, .int .i64 zo]) rfl rfl (Jg c0 c1 c2 c3 c4) Tryz.underlying109 rfl (by kernel_rfl) (hK _ _ ?_))
        | ((with_reducible refine qA 6 ?_); refine qa hS #[.bool false, .int .u64 0, .int .u64 0, .int .i64 0, .int .i64 0] ?_; clear hS; intro g6 w_ hS)
        | ((with_reducible refine qM ?_); (first | refine qS hS ?_ | refine qT hS ?_); clear hS; intro w_ hS; (try simp only [Act.put, Act.eval, zz, Value.cells] at hS))
        | ((with_reducible refine qk 50 ?_); refine EE hS 0 rfl _ _ rfl _ _ rfl _ _ rfl _ _ rfl rfl Tryz.underlying50 rfl (by kernel_rfl) ?_)
        | ((with_reducible refine qA 55 ?_); refine BigFrame.wpList_want rfl fun _ hK => Ch rfl (ps := []) (by simp) (cells := #[.int .u64 0, .int .u64 0]) (by kernel_rfl) (hK _ _ ?_))
        | ((with_reducible refine qA 56 ?_); refine BigFrame.wpList_want rfl fun _ hK => Az rfl rfl rfl Ko (HNC.out _) (hK _ _ ?_))
        | ((with_reducible refine qB ?_); refine qc ?_ ?_ <;> intro h_ <;> go_prune)
        | ((with_reducible refine qK ?_); refine qC hS ?_))
       refine ⟨⟨j + 1, by go_num, hlj, Lib.hid fun i hi z hz => ?_, hS.sub (List.sublist_cons_self _ _)⟩, by simp [intOf]; omega⟩
       rcases Nat.lt_or_ge i j with h3 | h3
       ·exact HZ.out i h3 z hz
       ·obtain rfl : i = j := by omega
        rw [HZJ.out] at hz
        obtain rfl := Option.some.inj hz
        exact HRV.out
      ·obtain rfl : RES = 6 := HE.out.trans (if_pos (.inr (List.all_eq_false.2 ⟨_, List.mem_of_getElem? HZJ.out, by rw [HRV.out]; decide⟩)))
       go_wp2_with (first
        | ((with_reducible refine qA 49 ?_); refine BigFrame.wpList_want rfl fun _ hK => Bb (cs := [.bool true, .int .u64 (zy : Nat), .int .u64 (zn : Nat), .int .i64 zt, .int .i64 zo]) rfl rfl (Jg c0 c1 c2 c3 c4) Tryz.underlying109 rfl (by kernel_rfl) (hK _ _ ?_))
        | ((with_reducible refine qA 6 ?_); refine qa hS #[.bool false, .int .u64 0, .int .u64 0, .int .i64 0, .int .i64 0] ?_; clear hS; intro g6 w_ hS)
        | ((with_reducible refine qM ?_); (first | refine qS hS ?_ | refine qT hS ?_); clear hS; intro w_ hS; (try simp only [Act.put, Act.eval, zz, Value.cells] at hS))
        | ((with_reducible refine qk 50 ?_); refine EE hS 0 rfl _ _ rfl _ _ rfl _ _ rfl _ _ rfl rfl Tryz.underlying50 rfl (by kernel_rfl) ?_)
        | ((with_reducible refine qA 55 ?_); refine BigFrame.wpList_want rfl fun _ hK => Ch rfl (ps := []) (by simp) (cells := #[.int .u64 0, .int .u64 0]) (by kernel_rfl) (hK _ _ ?_))
        | ((with_reducible refine qA 56 ?_); refine BigFrame.wpList_want rfl fun _ hK => Az rfl rfl rfl Ko (HNC.out _) (hK _ _ ?_))
        | ((with_reducible refine qB ?_); refine qc ?_ ?_ <;> intro h_ <;> go_prune)
        | ((with_reducible refine qK ?_); refine qC hS ?_))
       go_ret
       exact Ax.mk rfl hS.below
    ·obtain rfl : j = rl.length := by omega
     have HZ2 : Hid (rl.all Jh = true) := Lib.hid (List.all_eq_true.2 fun z hz => by
      obtain ⟨i, hi⟩ := List.mem_iff_getElem?.1 hz
      exact HZ.out i (List.getElem?_eq_some_iff.1 hi).1 z hi)
     replace HE := Lib.hid (HE.out.trans (if_neg (by rw [HZ1.out, HZ2.out]; simp)))
     clear HZ
     cases gb
     ·obtain rfl : RES = 7 := HE.out
      go_wp2_with (first
       | ((with_reducible refine qB ?_); refine qc ?_ ?_ <;> intro h_ <;> go_prune)
       | ((with_reducible refine qK ?_); refine qL hS Tryz.underlying30 ?_)
       | (go_at_call 28; refine (HGB.out _ _ _ (HKP.out _ _ (k2 _ _ hS.ro))).mono ?_; rintro r_ w_ ⟨_, rfl, rfl, hb_⟩; replace hS := hS.ext hb_; clear hb_)
       | ((with_reducible refine qK ?_); refine qC hS ?_))
      go_ret
      exact Ax.mk rfl hS.below
     ·obtain rfl : RES = 0 := HE.out
      go_wp2_with (first
       | ((with_reducible refine qB ?_); refine qc ?_ ?_ <;> intro h_ <;> go_prune)
       | ((with_reducible refine qK ?_); refine qL hS Tryz.underlying30 ?_)
       | (go_at_call 28; refine (HGB.out _ _ _ (HKP.out _ _ (k2 _ _ hS.ro))).mono ?_; rintro r_ w_ ⟨_, rfl, rfl, hb_⟩; replace hS := hS.ext hb_; clear hb_)
       | ((with_reducible refine qK ?_); refine qC hS ?_))
      go_ret
      exact Ax.mk rfl hS.below
end
section
open Go.RowKit
attribute [local go_sem ↓] Go.wp_at_zero Go.wp_at_succ
set_option maxRecDepth 20000
set_option exponentiation.threshold 5000
theorem run_snd (g : Nat) (w : World) : (Instr.indexAt 107 (.pointer (some ⟨g, 0, none⟩)) (.int .i64 1)).run Tryz.prog w = .ok (.pointer (some ⟨g, 1, none⟩)) w := by
 go_simp
end
section
open Go.RowKit
attribute [local go_sem ↓] Go.wp_at_zero Go.wp_at_succ
set_option maxRecDepth 20000
set_option exponentiation.threshold 5000
theorem run_fst (g : Nat) (w : World) : (Instr.indexAt 107 (.pointer (some ⟨g, 0, none⟩)) (.int .i64 0)).run Tryz.prog w = .ok (.pointer (some ⟨g, 0, none⟩)) w := by
 go_simp
theorem AN_one {kd : List (Nat × (Bool × Nat))} (hk : ∀ x ∈ kd, x.2.1 = true -> 1 <= x.2.2) (w : World) (v : Value) (i : Nat) : AN kd i (w, ⟨[v], []⟩) := by
 unfold AN
 split
 ·rename_i s hs
  unfold Fl at hs
  obtain ⟨y, hy, e⟩ := Option.map_eq_some_iff.1 hs
  have := hk y (List.mem_of_find?_eq_some hy) (by rw [e])
  rw [e] at this
  exact this
 ·simp
 ·trivial
section
variable {w0 : World} {F : List A7} {K : (Nat -> Prop) -> World -> Prop} {d : AD} {p p' : World × AG} {kd : List (Nat × (Bool × Nat))} {i : Nat}
variable {P : Program} {o : Oper} {a : Act} {Kt : Act -> World -> Prop} {Q : Exit -> Act -> World -> Prop}
theorem Kr (hnd : (kd.map (·.2)).Nodup) {j : Nat} (hki : Fl kd i = some (false, j)) {f : FuncId} {xs : Array Operand} {ts : Array TypeId} {vs : List Value} (ho : o.op = .call { callee := .value (.func f), args := xs, argTypes := ts }) (hc : C4 P f = true) (hv : xs.toList.map a.eval = vs)
  (h : Calls P f vs.toArray p.1 (Ax (fun x w' => (d.src j x).holds p.1.heap.size w') p.1))
  (hK : ∀ v w', (j, v) ∈ w'.2.b -> AR w0 F K d p w' /\ (∀ j, j ≠ i -> AN kd j p -> AN kd j w') -> Kt (a.put o.dst v) w'.1) : o.wp P a p.1 Kt Q :=
 Bz ho hc hv h fun _ w' ⟨x, he, hx, hb⟩ => ⟨x, he, hK x (w', ⟨p.2.r, (j, x) :: p.2.b⟩) (List.mem_cons_self ..) (AR.src hnd hki hb hx)⟩
end
def rbD (bs : List Nat) (za zb : Nat) : AD := ⟨5, 1, 3, fun s => match s with | 0 => bs.length | 1 => bs.length + (Ao za).length | _ => bs.length + (Ao za).length + (Ao zb).length, fun s => match s with | 0 => Aa bs | 1 => Aa bs ++ Aa (Ao za) | _ => Aa bs ++ Aa (Ao za) ++ Aa (Ao zb), fun j v => match j with | 0 => .own v 5 1 (Ao za).length (Aa (Ao za)) | _ => .own v 5 1 (Ao zb).length (Aa (Ao zb))⟩
def rbK : List (Nat × (Bool × Nat)) := [(4, (false, 0)), (5, (true, 1)), (9, (false, 1)), (10, (true, 2))]
set_option maxHeartbeats 1000000 in
theorem rhbytes_any {w0 : World} {D : Nat -> Prop} {pv : Value} {L : List (Nat × Nat)} (h : Sl w0 D 2 pv L.length (A6 L)) (hH : Gi L) (hl : L.length <= 900000) : Calls Tryz.prog 162 #[pv] w0 fun e w' => ∃ v, e = .returned v /\ St w0 w' [.own v 5 1 (Cz L).length (Aa (Cz L))] fun _ _ => True := by
 obtain ⟨A, c, rfl, _, _⟩ := h.shape
 obtain ⟨K, kp, hS⟩ : ∃ K : (Nat -> Prop) -> World -> Prop, (∀ D w, K D w -> Sl w D 2 (.slice A L.length c) L.length (A6 L)) /\ St w0 w0 [] K := ⟨_, fun _ _ h => h, St.start (Aj (by decide)) h⟩
 clear h
 have hlT : Hid (L.length < AA) := Lib.hid (by rw [C1]; omega)
 have HQ := Lib.hid (Aw L.length)
 go_enter Tryz.func162, Tryz.ntmps162
 go_wp2_with (first
  | ((with_reducible refine qA 8 ?_); refine BigFrame.wpList_want rfl fun _ hK => BW (vx := .int .i64 (L.length : Nat)) (v := .int .u64 (L.length : Nat)) rfl rfl (BK hlT.out) (hK _ _ ?_))
  | (go_at_call 161; refine (DA L.length hlT.out _).mono ?_; rintro e w_ ⟨v1, rfl, hs, hb_⟩; replace hS := hS.new hb_ (.own v1 5 1 (Ao L.length).length (Aa (Ao L.length))) hs; clear hs hb_))
 go_loopw [3, 12] (fun ov i wr => ∃ (j : Nat) (sv : Value), i = .int .i64 (j : Nat) /\ sv = ov /\ j <= L.length /\ St w0 wr [.own sv 5 1 (Ao L.length ++ Cb (L.take j)).length (Aa (Ao L.length ++ Cb (L.take j)))] K) (fun _ i _ => L.length - (intOf i).toNat)
 case atStart => exact ⟨0, v1, rfl, rfl, by omega, by simpa [Cb] using hS⟩
 case round =>
  clear hS
  obtain ⟨j, sv, rfl, rfl, hj, hS⟩ := hrel
  by_cases hlj : j < L.length
  ·obtain ⟨f1, f2⟩ := Bf L j hlj
   have HST := Lib.hid (J7 (C3 (0, 0) hlj))
   have hm := hH.role (L.getD j (0, 0)) (by rw [List.getD_eq_getElem?_getD, List.getElem?_eq_getElem hlj]; exact List.getElem_mem hlj)
   generalize L.getD j (0, 0) = z at *
   obtain ⟨za, zb⟩ := z
   dsimp only at f1 f2 hm HST
   have HA : Hid (za < AA) := Lib.hid (by rw [C1]; omega)
   have HB : Hid (zb < AA) := Lib.hid (by rw [C1]; omega)
   have hLN : (Ao L.length ++ Cb (L.take j)).length <= 11 + 22 * L.length := by
    have h1 := Dt (L.take j)
    have h2 := HQ.out
    rw [List.length_take] at h1
    rw [List.length_append]; omega
   have hpa := Aw za
   have hpb := Aw zb
   generalize hBS : Ao L.length ++ Cb (L.take j) = bs at *
   have HE : Hid (Ao L.length ++ Cb (L.take (j + 1)) = bs ++ Ao za ++ Ao zb) := Lib.hid (by rw [HST.out, <- hBS]; simp)
   have hb0 : Hid (bs.length + (Ao za).length <= 1000000000000 /\ (bs.length + (Ao za).length) * 1 <= 140737488355328 /\ bs.length + (Ao za).length + (Ao zb).length <= 1000000000000 /\ (bs.length + (Ao za).length + (Ao zb).length) * 1 <= 140737488355328) := Lib.hid (by omega)
   clear HST hBS hLN hpa hpb
   go_wp2_with (first
    | ((with_reducible refine qB ?_); refine qc ?_ ?_ <;> intro h_ <;> go_prune)
    | ((with_reducible refine qI ?_); refine qj hS Tryz.underlying25 ?_; intro b_ j_ hc0_ hc1_)
    | ((with_reducible refine qA 5 ?_); refine AU hS rfl _ rfl (by kernel_rfl) ?_; clear hS; intro g5 w_ hS; (try simp only [Act.put, Act.eval, zz, Value.cells] at hS))
    | ((with_reducible refine qM ?_); (first | refine qS hS ?_ | refine qT hS ?_); clear hS; intro w_ hS; (try simp only [Act.put, Act.eval, zz, Value.cells] at hS))
    | ((with_reducible refine qK ?_); refine qL hS Tryz.underlying107 ?_))
   have hA0 : Fo ⟨[sv], []⟩ 0 sv := ⟨[], [], rfl, rfl⟩
   have hJ0 : AJ w0 [.box g5 107 #[.int .i64 (za : Nat), .int .i64 (zb : Nat)]] K (rbD bs za zb) (w_.drew, ⟨[sv], []⟩) := ⟨hS.swap.drew, show 1 <= 3 by decide⟩
   have hN0 := AN_one (kd := rbK) (by decide) w_.drew sv
   have hRr := @AR.refl w0 [.box g5 107 #[.int .i64 (za : Nat), .int .i64 (zb : Nat)]] K (rbD bs za zb)
   have hRt := @AR.trans w0 [.box g5 107 #[.int .i64 (za : Nat), .int .i64 (zb : Nat)]] K (rbD bs za zb)
   clear hS
   refine Ed (AR w0 [.box g5 107 #[.int .i64 (za : Nat), .int .i64 (zb : Nat)]] K (rbD bs za zb)) (AN rbK) (⟨[sv], []⟩) hRr hRt [.i sv, .q g5 0, .n ((za : Nat) : Int), .i (.int .u64 ((za : Nat) : Int)), .s (fun v w => (0, v) ∈ w.2.b) fun v w w' h hb => hb.2.2 _ h, .s (fun v w => Fo w.2 1 v) fun v w w' h hb => h.mono hb.2.1, .q g5 1, .n ((zb : Nat) : Int), .i (.int .u64 ((zb : Nat) : Int)), .s (fun v w => (1, v) ∈ w.2.b) fun v w w' h hb => hb.2.2 _ h, .s (fun v w => Fo w.2 2 v) fun v w w' h hb => h.mono hb.2.1, .s (fun v w => Fo w.2 2 v) fun v w w' h hb => h.mono hb.2.1] ?_ ⟨uM, uI (h := fun w hW hN => run_fst g5 _), uC (h := fun w hW hN => ((hW.1 hJ0).1.holds (.box g5 107 #[.int .i64 (za : Nat), .int .i64 (zb : Nat)]) (List.mem_append_right _ (List.mem_singleton.2 rfl))).2.cell 0), uE (h := fun w hW hN => BK HA.out), ?_, ?_, uI (h := fun w hW hN => run_snd g5 _), uC (h := fun w hW hN => ((hW.1 hJ0).1.holds (.box g5 107 #[.int .i64 (za : Nat), .int .i64 (zb : Nat)]) (List.mem_append_right _ (List.mem_singleton.2 rfl))).2.cell 1), uE (h := fun w hW hN => BK HB.out), ?_, ?_, uA, trivial⟩ ?_
   ·first | assumption | (intro i; (try dsimp only); split <;> first | trivial | assumption | (left; assumption))
   ·refine uG fun b__ w hW hN hE K hK => ?_
    have e19 := hE 19
    exact Kr (kd := rbK) (by decide) rfl rfl (by kernel_rfl) (by simp only [List.map_cons, List.map_nil, e19]) (DA za HA.out _) hK
   ·refine uG fun b__ w hW hN hE K hK => ?_
    have e16 := hE 16
    have e20 := hE 20
    exact BA (kd := rbK) (by decide) rfl rfl FU hN (by rw [e16]; exact hA0.mono hW.2.1) (hW.1 hJ0) (Sl.of_own ((hW.1 hJ0).side e20)) (B6 _) rfl rfl (by exact hb0.out.1) (by exact hb0.out.2.1) (show 0 + 1 < 3 by decide) hK
   ·refine uG fun b__ w hW hN hE K hK => ?_
    have e24 := hE 24
    exact Kr (kd := rbK) (by decide) rfl rfl (by kernel_rfl) (by simp only [List.map_cons, List.map_nil, e24]) (DA zb HB.out _) hK
   ·refine uG fun b__ w hW hN hE K hK => ?_
    have e21 := hE 21
    have e25 := hE 25
    exact BA (kd := rbK) (by decide) rfl rfl FU hN e21 (hW.1 hJ0) (Sl.of_own ((hW.1 hJ0).side e25)) (B6 _) rfl rfl (by exact hb0.out.2.2.1) (by exact hb0.out.2.2.2) (show 1 + 1 < 3 by decide) hK
   ·intro vs wz hW hT
    obtain ⟨e16, e17, e18, e19, e20, e21, e22, e23, e24, e25, e26, e3, -⟩ := hT
    have bx : (fun _ : Nat => True) 0 := trivial
    simp only [AL, Act.put, zz, ze]
    have hJ := (hW.1 hJ0).last e3 rfl
    simp only [rbD] at hJ
    have hS := hJ.sub (F' := [_]) ((List.nil_sublist _).cons_cons _)
    generalize vs 3 = v3 at *
    generalize wz.1 = wf at *
    clear hW hJ0 hRr hRt hN0 hA0 hJ e3
    go_wp2_with fail
    refine ⟨⟨j + 1, v3, by go_num, rfl, hlj, ?_⟩, by simp [intOf]; omega⟩
    rw [HE.out, show Aa (bs ++ Ao za ++ Ao zb) = Aa bs ++ Aa (Ao za) ++ Aa (Ao zb) by simp [Aa], show (bs ++ Ao za ++ Ao zb).length = bs.length + (Ao za).length + (Ao zb).length by rw [List.length_append, List.length_append]]
    exact hS
  ·obtain rfl : j = L.length := by omega
   rw [List.take_length] at hS
   go_wp2_with (first | ((with_reducible refine qB ?_); refine qc ?_ ?_ <;> intro h_ <;> go_prune))
   go_ret
   exact ⟨_, rfl, hS.mono (AF.pure True) fun _ _ _ => trivial⟩
end
section
open Go.RowKit
attribute [local go_sem ↓] Go.wp_at_zero Go.wp_at_succ
set_option maxRecDepth 20000
set_option exponentiation.threshold 5000
set_option maxHeartbeats 4000000 in
theorem rpbytes_any {w0 : World} {D : Nat -> Prop} {v : Value} {p : AP} {L : List (Nat × Nat)} (hp : B5 w0 D v p) (hR : RFit p L) (hc : checkE p = 0) :
  Calls Tryz.prog 111 #[v] w0 (Ax (fun x w' => Fn w' w0.heap.size x (D3 p)) w0) := by
 obtain ⟨Al, cl, Ar, cr, An, cn, Ag, cg, rfl, -⟩ := Db hR.links hp
 obtain ⟨L', r, hL, hr, hr1, hr63, hl1, hl2, hl3, -, htg⟩ := FM hc
 obtain rfl : L = L' := by rw [hR.links] at hL; injection hL
 clear hL hc
 have HTG := Lib.hid htg
 have HPB : Hid (D3 p = Ao r ++ (Ao (Cz L).length ++ Cz L) ++ B9 p.start ++ Ao p.rules.length ++ Bh p.rules ++ AQ p.never ++ AQ p.goal) := Lib.hid (by unfold D3 FH; rw [hR.links, hr]; rfl)
 rw [hr] at hp ⊢
 obtain ⟨K, kl, kr, kn, kg, hS⟩ : ∃ K : (Nat -> Prop) -> World -> Prop, (∀ D w, K D w -> Sl w D 2 (.slice Al L.length cl) L.length (A6 L)) /\ (∀ D w, K D w -> Sl w D 5 (.slice Ar p.rules.length cr) p.rules.length (AX p.rules)) /\ (∀ D w, K D w -> Sl w D 2 (.slice An p.never.length cn) p.never.length (AM p.never)) /\ (∀ D w, K D w -> Sl w D 2 (.slice Ag p.goal.length cg) p.goal.length (AM p.goal)) /\ St w0 w0 [] K := ⟨_, fun _ _ h => (C6 hR.links h).1, fun _ _ h => (C6 hR.links h).2.1, fun _ _ h => (C6 hR.links h).2.2.1, fun _ _ h => (C6 hR.links h).2.2.2, St.start Ct hp⟩
 have hlL := hR.len
 have hhl : (Cz L).length <= 23000 := by
  have h1 := Dt L
  have h2 := Aw L.length
  unfold Cz; rw [List.length_append]; omega
 have HSt : Hid (p.start < AA) := Lib.hid hR.fits.start
 have hsl : (B9 p.start).length <= 523 := Bg (BH hR.fits.start).1
 have hnl : (AQ p.never).length <= 2200000 := by
  have h1 := EN p.never hR.fits.never
  have h2 := Aw p.never.length
  unfold AQ; rw [List.length_append]; omega
 have hgl : (AQ p.goal).length <= 2200000 := by
  have h1 := EN p.goal hR.fits.goal
  have h2 := Aw p.goal.length
  unfold AQ; rw [List.length_append]; omega
 have HRB : Hid (∀ z ∈ p.rules, z.yes < 2 ^ 4096 /\ z.no < 2 ^ 4096) := Lib.hid fun z hz => ⟨(BH (hR.fits.rules z hz).1).1, (BH (hR.fits.rules z hz).2).1⟩
 have HRT := Lib.hid hR.fits.rules
 have hn1 := Aw r
 have hn2 := Aw (Cz L).length
 have hn3 := Aw p.rules.length
 have hrT : Hid (r < AA) := Lib.hid (by unfold AA; omega)
 have hlT : Hid (p.rules.length < AA) := Lib.hid (by unfold AA; omega)
 have HLB : Hid (∀ (w : World) (D : Nat -> Prop) (pv : Value), Sl w D 2 pv L.length (A6 L) -> Calls Tryz.prog 162 #[pv] w fun e w' => ∃ v, e = .returned v /\ St w w' [.own v 5 1 (Cz L).length (Aa (Cz L))] fun _ _ => True) := Lib.hid fun w D pv h => rhbytes_any h hR.hok (by omega)
 have HCN : Hid (∀ (w : World) (D : Nat -> Prop) (v : Value), Sl w D 2 v p.never.length (AM p.never) -> Calls Tryz.prog 166 #[v] w (Ax (fun x w' => Fn w' w.heap.size x (AQ p.never)) w)) := Lib.hid fun w D v h => Hm v p.never w D h hR.fits.never (by omega)
 have HCG : Hid (∀ (w : World) (D : Nat -> Prop) (v : Value), Sl w D 2 v p.goal.length (AM p.goal) -> Calls Tryz.prog 166 #[v] w (Ax (fun x w' => Fn w' w.heap.size x (AQ p.goal)) w)) := Lib.hid fun w D v h => Hm v p.goal w D h hR.fits.goal (by omega)
 clear hp hr htg hR
 obtain ⟨hL2, hhL⟩ : ∃ x, x = Cz L := ⟨_, rfl⟩
 rw [<- hhL] at HPB hhl hn2 HLB
 clear hhL
 obtain ⟨cN, hcN⟩ : ∃ x, x = AQ p.never := ⟨_, rfl⟩
 rw [<- hcN] at HPB hnl HCN
 clear hcN
 obtain ⟨cG, hcG⟩ : ∃ x, x = AQ p.goal := ⟨_, rfl⟩
 rw [<- hcG] at HPB hgl HCG
 clear hcG
 have hpl : (Ao hL2.length ++ hL2).length <= 24000 := by rw [List.length_append]; omega
 go_enter Tryz.func111, Tryz.ntmps111
 go_wp2_with (first
  | ((with_reducible refine qA 1 ?_); refine AH hS rfl _ _ rfl (.agg #[.int .i64 (r : Nat), .slice Al L.length cl, .int .u64 (p.start : Nat), .slice Ar p.rules.length cr, .slice An p.never.length cn, .slice Ag p.goal.length cg]) _ rfl rfl ?_; clear hS; intro g1 w_ hS; (try simp only [Act.put, Act.eval, zz, Value.cells] at hS))
  | ((with_reducible refine qA 8 ?_); refine BigFrame.wpList_want rfl fun _ hK => BW (vx := .int .i64 (r : Nat)) (v := .int .u64 (r : Nat)) rfl rfl (BK hrT.out) (hK _ _ ?_))
  | ((with_reducible refine qA 25 ?_); refine BigFrame.wpList_want rfl fun _ hK => BW (vx := .int .i64 (p.rules.length : Nat)) (v := .int .u64 (p.rules.length : Nat)) rfl rfl (BK hlT.out) (hK _ _ ?_))
  | (go_at_call 161; first | ((with_reducible show Calls _ _ #[.int .u64 (r : Nat)] _ _); refine (DA r hrT.out _).mono ?_; rintro r_ w2 ⟨v2, rfl, h2, hb2⟩; replace hS := hS.owned hb2 h2; clear h2 hb2) | (refine (DA p.rules.length hlT.out _).mono ?_; rintro r_ w2 ⟨v2, rfl, h2, hb2⟩; replace hS := hS.owned hb2 h2; clear h2 hb2))
  | (go_at_call 162; refine (HLB.out _ _ _ (kl _ _ hS.ro)).mono ?_; rintro e w_ ⟨v1, rfl, hs⟩; replace hS := hS.new hs.below (.own v1 5 1 hL2.length (Aa hL2)) (hs.own 0 rfl); clear hs)
  | (go_at_call 159; refine (G0 _ hL2 (by omega) _ _ (Sl.of_own (hS.own 0 rfl))).mono ?_; rintro r_ w2 ⟨v2, rfl, h2, hb2⟩; replace hS := hS.owned hb2 h2; replace hS := hS.sub (.cons_cons _ (.cons _ (.refl _))); clear h2 hb2)
  | (go_at_call 163; refine (Gz p.start HSt.out _).mono ?_; rintro r_ w2 ⟨v2, rfl, h2, hb2⟩; replace hS := hS.owned hb2 h2; clear h2 hb2)
  | ((with_reducible refine qA 15 ?_); refine Dk hS 1 rfl _ _ _ rfl Da _ _ _ rfl rfl _ _ _ _ rfl (Sl.of_own (hS.own 0 rfl)) (B6 _) (by unfold maxLen; omega) (by omega) ?_; clear hS; intro v_ w_ hS; (try simp only [Act.put, Act.eval, zz, Value.cells] at hS); replace hS := hS.sub (.cons _ (.refl _)))
  | ((with_reducible refine qA 20 ?_); refine Dk hS 1 rfl _ _ _ rfl Da _ _ _ rfl rfl _ _ _ _ rfl (Sl.of_own (hS.own 0 rfl)) (B6 _) (by unfold maxLen; omega) (by omega) ?_; clear hS; intro v_ w_ hS; (try simp only [Act.put, Act.eval, zz, Value.cells] at hS); replace hS := hS.sub (.cons _ (.refl _)))
  | ((with_reducible refine qA 27 ?_); refine Dk hS 1 rfl _ _ _ rfl Da _ _ _ rfl rfl _ _ _ _ rfl (Sl.of_own (hS.own 0 rfl)) (B6 _) (by unfold maxLen; omega) (by omega) ?_; clear hS; intro v_ w_ hS; (try simp only [Act.put, Act.eval, zz, Value.cells] at hS); replace hS := hS.sub (.cons _ (.refl _)))
  | ((with_reducible refine qK ?_); refine qC hS ?_))
 obtain ⟨B0, hB0⟩ : ∃ x, x = Ao r ++ (Ao hL2.length ++ hL2) ++ B9 p.start ++ Ao p.rules.length := ⟨_, rfl⟩
 have hb0 : B0.length <= 25000 := by rw [hB0]; simp only [List.length_append]; simp only [List.length_append] at hpl; omega
 have hS0 : St w0 w_ [.own v_ 5 1 B0.length (Aa B0), .box g1 30 #[.int .i64 (r : Nat), .slice Al L.length cl, .int .u64 (p.start : Nat), .slice Ar p.rules.length cr, .slice An p.never.length cn, .slice Ag p.goal.length cg]] K := by
  have e1 : (Ao r).length + (Ao hL2.length ++ hL2).length + (B9 p.start).length + (Ao p.rules.length).length = B0.length := by rw [hB0]; simp only [List.length_append]
  have e2 : Aa (Ao r) ++ Aa (Ao hL2.length ++ hL2) ++ Aa (B9 p.start) ++ Aa (Ao p.rules.length) = Aa B0 := by rw [hB0]; simp [Aa]
  rw [e1, e2] at hS; exact hS
 rw [<- hB0] at HPB
 clear hS hB0 hpl hn1 hn2 hn3 hsl hhl
 go_loopw [3, 31] (fun o i wr => ∃ (j : Nat) (ov : Value), j <= p.rules.length /\ i = .int .i64 (j : Nat) /\ o = ov /\ St w0 wr [.own ov 5 1 (B0 ++ Bh (p.rules.take j)).length (Aa (B0 ++ Bh (p.rules.take j))), .box g1 30 #[.int .i64 (r : Nat), .slice Al L.length cl, .int .u64 (p.start : Nat), .slice Ar p.rules.length cr, .slice An p.never.length cn, .slice Ag p.goal.length cg]] K) (fun _ i _ => p.rules.length - (intOf i).toNat)
 case atStart => exact ⟨0, v_, by omega, rfl, rfl, by simpa [Bh] using hS0⟩
 case round =>
  clear hS0
  obtain ⟨j, ov, hj, rfl, rfl, hS⟩ := hrel
  have hrl := EY (l := p.rules.take j) fun z hz => HRB.out z (List.mem_of_mem_take hz)
  rw [List.length_take] at hrl
  have hbl : (B0 ++ Bh (p.rules.take j)).length <= 200000 := by rw [List.length_append]; omega
  by_cases hlj : j < p.rules.length
  ·obtain ⟨b, o, rfl, c0, c1, c2, c3, c4⟩ := rr_at (kr _ _ hS.ro) hlj
   have HST := Lib.hid (IR hlj)
   have hzm : p.rules.getD j Bd ∈ p.rules := by rw [List.getD_eq_getElem?_getD, List.getElem?_eq_getElem hlj]; exact List.getElem_mem hlj
   obtain ⟨t, ht, ht64⟩ := HTG.out _ hzm
   obtain ⟨hty, htn⟩ := HRT.out _ hzm
   clear hzm
   generalize p.rules.getD j Bd = z at *
   obtain ⟨zr, zy, zn, zt, zo⟩ := z
   dsimp only at c0 c1 c2 c3 c4 HST ht hty htn
   subst ht
   have htT : Hid (t < AA) := Lib.hid (by unfold AA; omega)
   have HTY := Lib.hid hty
   have HTN := Lib.hid htn
   have hfl := FD zr
   have hcl : (Ba zy zn).length <= 1046 := by
    have h1 := Bg (BH hty).1
    have h2 := Bg (BH htn).1
    unfold Ba; rw [List.length_append]; omega
   have htl := Aw t
   obtain ⟨bs, hbs⟩ : ∃ x, x = B0 ++ Bh (p.rules.take j) := ⟨_, rfl⟩
   rw [<- hbs] at hS hbl
   have HE : Hid (B0 ++ Bh (p.rules.take (j + 1)) = bs ++ BB zr ++ Ba zy zn ++ Ao t) := Lib.hid (by rw [HST.out, <- List.append_assoc, <- hbs]; unfold Gy; simp)
   clear HST hbs hrl hty htn
   go_wp2_with (first
    | ((with_reducible refine qB ?_); refine qc ?_ ?_ <;> intro h_ <;> go_prune)
    | ((with_reducible refine qA 34 ?_); refine BigFrame.wpList_want rfl fun _ hK => Bb (cs := [.bool zr, .int .u64 (zy : Nat), .int .u64 (zn : Nat), .int .i64 (t : Nat), .int .i64 zo]) rfl rfl (Jg c0 c1 c2 c3 c4) Tryz.underlying109 rfl (by kernel_rfl) (hK _ _ ?_))
    | ((with_reducible refine qA 5 ?_); refine qa hS #[.bool false, .int .u64 0, .int .u64 0, .int .i64 0, .int .i64 0] ?_; clear hS; intro g5 w_ hS)
    | ((with_reducible refine qM ?_); (first | refine qS hS ?_ | refine qT hS ?_); clear hS; intro w_ hS; (try simp only [Act.put, Act.eval, zz, Value.cells] at hS))
    | (go_at_call 164; refine (rflag02_any zr _).mono ?_; rintro r_ w2 ⟨v2, rfl, h2, hb2⟩; replace hS := hS.owned hb2 h2; clear h2 hb2)
    | ((with_reducible refine qk 50 ?_); refine EE hS 1 rfl _ _ rfl _ _ rfl _ _ rfl _ _ rfl rfl Tryz.underlying50 rfl (by kernel_rfl) ?_)
    | (go_at_call 165; refine (IV zy zn HTY.out HTN.out _).mono ?_; rintro r_ w2 ⟨v2, rfl, h2, hb2⟩; replace hS := hS.owned hb2 h2; clear h2 hb2)
    | ((with_reducible refine qA 48 ?_); refine BigFrame.wpList_want rfl fun _ hK => BW (vx := .int .i64 (t : Nat)) (v := .int .u64 (t : Nat)) rfl rfl (BK htT.out) (hK _ _ ?_))
    | (go_at_call 161; refine (DA t htT.out _).mono ?_; rintro r_ w2 ⟨v2, rfl, h2, hb2⟩; replace hS := hS.owned hb2 h2; clear h2 hb2)
    | ((with_reducible refine qA 39 ?_); refine Dk hS 2 rfl _ _ _ rfl Da _ _ _ rfl rfl _ _ _ _ rfl (Sl.of_own (hS.own 0 rfl)) (B6 _) (by unfold maxLen; omega) (by omega) ?_; clear hS; intro v_ w_ hS; (try simp only [Act.put, Act.eval, zz, Value.cells] at hS); replace hS := (hS.sub (.cons _ (.refl _))).swap)
    | ((with_reducible refine qA 44 ?_); refine Dk hS 1 rfl _ _ _ rfl Da _ _ _ rfl rfl _ _ _ _ rfl (Sl.of_own (hS.own 0 rfl)) (B6 _) (by unfold maxLen; omega) (by omega) ?_; clear hS; intro v_ w_ hS; (try simp only [Act.put, Act.eval, zz, Value.cells] at hS); replace hS := hS.sub (.cons _ (.refl _)))
    | ((with_reducible refine qA 50 ?_); refine Dk hS 1 rfl _ _ _ rfl Da _ _ _ rfl rfl _ _ _ _ rfl (Sl.of_own (hS.own 0 rfl)) (B6 _) (by unfold maxLen; omega) (by omega) ?_; clear hS; intro v_ w_ hS; (try simp only [Act.put, Act.eval, zz, Value.cells] at hS); replace hS := hS.sub (.cons _ (.refl _)))
    | ((with_reducible refine qK ?_); refine qC hS ?_))
   refine ⟨⟨j + 1, v_, hlj, by go_num, rfl, ?_⟩, by simp [intOf]; omega⟩
   rw [HE.out]
   have h := hS.sub (F' := [_, _]) (.cons_cons _ (.cons _ (.refl _)))
   simpa [Aa, Nat.add_assoc] using h
  ·obtain rfl : p.rules.length = j := by omega
   rw [List.take_length] at hS hbl
   clear hrl
   obtain ⟨B1, hB1⟩ : ∃ x, x = B0 ++ Bh p.rules := ⟨_, rfl⟩
   rw [<- hB1] at hS HPB hbl
   clear hB1
   go_wp2_with (first
    | ((with_reducible refine qB ?_); refine qc ?_ ?_ <;> intro h_ <;> go_prune)
    | (go_at_call 166; first | ((with_reducible show Calls _ _ #[.slice An _ _] _ _); refine (HCN.out _ _ _ (kn _ _ hS.ro)).mono ?_; rintro r_ w2 ⟨v2, rfl, h2, hb2⟩; replace hS := hS.owned hb2 h2; clear h2 hb2) | (refine (HCG.out _ _ _ (kg _ _ hS.ro)).mono ?_; rintro r_ w2 ⟨v2, rfl, h2, hb2⟩; replace hS := hS.owned hb2 h2; clear h2 hb2))
    | ((with_reducible refine qA 56 ?_); refine Dk hS 1 rfl _ _ _ rfl Da _ _ _ rfl rfl _ _ _ _ rfl (Sl.of_own (hS.own 0 rfl)) (B6 _) (by unfold maxLen; omega) (by omega) ?_; clear hS; intro v_ w_ hS; (try simp only [Act.put, Act.eval, zz, Value.cells] at hS); replace hS := hS.sub (.cons _ (.refl _)))
    | ((with_reducible refine qA 61 ?_); refine Dk hS 1 rfl _ _ _ rfl Da _ _ _ rfl rfl _ _ _ _ rfl (Sl.of_own (hS.own 0 rfl)) (B6 _) (by unfold maxLen; omega) (by omega) ?_; clear hS; intro v_ w_ hS; (try simp only [Act.put, Act.eval, zz, Value.cells] at hS); replace hS := hS.sub (.cons _ (.refl _)))
    | ((with_reducible refine qK ?_); refine qC hS ?_))
   go_ret
   refine Ax.mk (Ht (hS.own 0 rfl) ?_) hS.below
   rw [HPB.out]
   simp [Aa]
set_option maxHeartbeats 2000000 in
theorem rpid_any {w0 : World} {D : Nat -> Prop} {v : Value} {p : AP} {L : List (Nat × Nat)} (hp : B5 w0 D v p) (hR : RFit p L) :
  Calls Tryz.prog 41 #[v] w0 (Ax (fun x _ => x = .agg (Aa (pidC p)).toArray) w0) := by
 obtain ⟨cs, rfl, hsz, hone⟩ := hp.cells
 have HCk := Lib.hid (fun (w : World) (D' : Nat -> Prop) (v : Value) (h : B5 w D' v p) => rcheck31_any h hR)
 have HL32 := Lib.hid (Hr p)
 have HID := Lib.hid (show pidC p = if checkE p = 0 then CU (EU F3 (D3 p)) else List.replicate 32 0 from rfl)
 have HSz := Lib.hid (show (Tryz.prog.info? 30).map (·.size) = some cs.size by rw [hsz]; kernel_rfl)
 have HBy : checkE p = 0 -> Hid (∀ (w : World) (D' : Nat -> Prop) (v : Value), B5 w D' v p -> Calls Tryz.prog 111 #[v] w (Ax (fun x w' => Fn w' w.heap.size x (D3 p)) w)) := fun h0 => Lib.hid fun w D' v h => rpbytes_any h hR h0
 have hbl : checkE p = 0 -> (D3 p).length <= 6000000 := fun h0 => by
  obtain ⟨L', r, hL, hr, hr1, hr63, hl1, hl2, hl3, -, -⟩ := FM h0
  obtain rfl : L = L' := by rw [hR.links] at hL; injection hL
  have h1 := Dt L
  have h2 := Aw L.length
  have h3 := Bg (BH hR.fits.start).1
  have h4 := EN p.never hR.fits.never
  have h5 := Aw p.never.length
  have h6 := EN p.goal hR.fits.goal
  have h7 := Aw p.goal.length
  have h8 := Aw p.roles.toNat
  have h9 := Aw (Cz L).length
  have h10 := Aw p.rules.length
  have h11 := EY (l := p.rules) fun z hz => ⟨(BH (hR.fits.rules z hz).1).1, (BH (hR.fits.rules z hz).2).1⟩
  have h12 := hR.len
  unfold D3 FH AQ
  rw [hR.links]
  dsimp only
  unfold Cz at h9 ⊢
  simp only [List.length_append] at h9 ⊢
  omega
 have HBb := Lib.hid (IX p)
 obtain ⟨K, hkc, hS⟩ : ∃ K : (Nat -> Prop) -> World -> Prop, (∀ D w, K D w -> B5 w D (.agg cs) p) /\ St w0 w0 [] K := ⟨_, fun _ _ h => h, St.start Ct hp⟩
 have HK := Lib.hid hkc
 clear hp hkc hsz hone hR
 generalize D3 p = bs at *
 generalize checkE p = CK at *
 by_cases h0 : CK = 0
 ·subst h0
  rw [if_pos rfl] at HID
  replace HBy := HBy rfl
  replace hbl := hbl rfl
  obtain ⟨R, hR⟩ : ∃ R, R = pidC p := ⟨_, rfl⟩
  rw [<- hR] at HL32 HID ⊢
  have HTg := Lib.hid (fun (w : World) (D : Nat -> Prop) (pv p : Value) (h1 : Sl w D 1 pv 1 [p]) (h2 : Sl w D 1 p bs.length (Aa bs)) => by
   have := rtagged_any F3 (by decide) pv p bs HBb.out (by omega) w D h1 h2
   rw [<- HID.out] at this; exact this)
  have hi32 : (Tryz.prog.info? 86).map (·.size) = some (Aa R).toArray.size := by rw [List.size_toArray, Ae, HL32.out]; kernel_rfl
  have HON := Lib.hid (show (Aa R).toArray.all (·.oneCell') = true from all_oneCell_toArray (B6 _))
  have HI := Lib.hid hi32
  have HOL := Lib.hid (show (Aa (List.replicate 32 0)).toArray.size = (Aa R).toArray.size by simp [Ae, HL32.out])
  clear hR hi32
  go_enter Tryz.func41, Tryz.ntmps41
  go_wp2_with (first
   | ((with_reducible refine qA 1 ?_); refine AH hS rfl _ _ rfl (.agg cs) _ rfl rfl ?_; clear hS; intro g1 w_ hS; (try simp only [Act.put, Act.eval, zz, Value.cells] at hS))
   | ((with_reducible refine qA 2 ?_); refine CT hS rfl _ rfl (by kernel_rfl) (Aa (List.replicate 32 0)).toArray (by kernel_rfl) ?_; clear hS; intro g2 w_ hS; (try simp only [Act.put, Act.eval, zz, Value.cells] at hS))
   | ((with_reducible refine qk 30 ?_); refine Hb hS 1 rfl _ _ rfl g1 rfl _ cs rfl _ Tryz.underlying30 rfl HSz.out ?_)
   | (go_at_call 14; refine (HCk.out _ _ _ (HK.out _ _ hS.ro)).mono ?_; rintro r_ w2 ⟨_, rfl, rfl, hb2⟩; replace hS := hS.ext hb2; clear hb2)
   | ((with_reducible refine qB ?_); refine qc ?_ ?_ <;> intro h_ <;> go_prune)
   | (go_at_call 111; refine (HBy.out _ _ _ (HK.out _ _ hS.ro)).mono ?_; rintro r_ w2 ⟨v2, rfl, h2, hb2⟩; replace hS := (hS.owned hb2 h2).freeze 0 (by decide) rfl; obtain ⟨A2, c2, rfl, _, _⟩ := Sl.shape hS.ro.2; clear h2 hb2)
   | ((with_reducible show wpList _ _ _ (⟨_, .buildSlice _ 1 _, _, _, _, _⟩ :: _) _ _); refine Df hS rfl _ 22 1 _ rfl Tryz.underlying166 #[.slice A2 bs.length c2] (by kernel_rfl) 1 rfl (by decide) ?_; clear hS; intro g w_ hS; replace hS := hS.freeze 0 (by decide) rfl)
   | (go_at_call 110; refine (HTg.out _ _ _ _ hS.ro.2 hS.ro.1.2).mono ?_; rintro r_ w2 ⟨v2, rfl, rfl, hb2⟩; replace hS := hS.ext hb2; clear hb2)
   | ((with_reducible refine qm 86 ?_); refine BV hS 0 rfl _ _ _ rfl g2 (Aa R).toArray rfl rfl _ _ rfl HI.out HOL.out HON.out ?_; clear hS; intro w_ hS; (try simp only [Act.put, Act.eval, zz, Value.cells] at hS)))
  refine bodyPost_ret (v := .agg (Aa R).toArray) (by exact results_cell_row rfl _ _ g2 86 _ (0, 0) _ rfl (hS.box 0 rfl) Tryz.underlying86 rfl HI.out) rfl ?_
  exact Ax.mk rfl hS.below
 ·rw [if_neg h0] at HID
  rw [HID.out]
  have hi32 : (Tryz.prog.info? 86).map (·.size) = some (Aa (List.replicate 32 0)).toArray.size := by kernel_rfl
  go_enter Tryz.func41, Tryz.ntmps41
  go_wp2_with (first
   | ((with_reducible refine qA 1 ?_); refine AH hS rfl _ _ rfl (.agg cs) _ rfl rfl ?_; clear hS; intro g1 w_ hS; (try simp only [Act.put, Act.eval, zz, Value.cells] at hS))
   | ((with_reducible refine qA 2 ?_); refine CT hS rfl _ rfl (by kernel_rfl) (Aa (List.replicate 32 0)).toArray (by kernel_rfl) ?_; clear hS; intro g2 w_ hS; (try simp only [Act.put, Act.eval, zz, Value.cells] at hS))
   | ((with_reducible refine qk 30 ?_); refine Hb hS 1 rfl _ _ rfl g1 rfl _ cs rfl _ Tryz.underlying30 rfl HSz.out ?_)
   | (go_at_call 14; refine (HCk.out _ _ _ (HK.out _ _ hS.ro)).mono ?_; rintro r_ w2 ⟨_, rfl, rfl, hb2⟩; replace hS := hS.ext hb2; clear hb2)
   | ((with_reducible refine qB ?_); refine qc ?_ ?_ <;> intro h_ <;> go_prune)
   | ((with_reducible refine qm 86 ?_); refine BV hS 0 rfl _ _ _ rfl g2 (Aa (List.replicate 32 0)).toArray rfl rfl _ _ rfl hi32 rfl (by kernel_rfl) ?_; clear hS; intro w_ hS; (try simp only [Act.put, Act.eval, zz, Value.cells] at hS)))
  refine bodyPost_ret (v := .agg (Aa (List.replicate 32 0)).toArray) (by exact results_cell_row rfl _ _ g2 86 _ (0, 0) _ rfl (hS.box 0 rfl) Tryz.underlying86 rfl hi32) rfl ?_
  exact Ax.mk rfl hS.below
end
section
open Go.RowKit
attribute [local go_sem ↓] Go.wp_at_zero Go.wp_at_succ
set_option maxRecDepth 20000
set_option exponentiation.threshold 5000
theorem guard_ide {w : World} {x y : Operand} {a b : Array Value} : (eqGuard .eql 87 x y (.agg a) (.agg b)).run Tryz.prog w = .ok () w := by kernel_rfl
theorem Gu.rfit {p : AP} {L : List (Nat × Nat)} {R : Nat} (h : Gu p L R) : RFit p L := ⟨h.links, h.hok, by have := h.len; omega, h.fits⟩
end
section
open Go.RowKit
attribute [local go_sem ↓] Go.wp_at_zero Go.wp_at_succ
set_option maxRecDepth 20000
set_option exponentiation.threshold 5000
theorem start_bytesP2 {W : World} {D E : Nat -> Prop} {v u : Value} {l m : List Nat} (h : Cw W) (hv : Sl W D 1 v l.length (Aa l)) (hu : Sl W E 1 u m.length (Aa m)) : ∃ K : (Nat -> Prop) -> World -> Prop, (∀ D w, K D w -> Cw w /\ D 0) /\ (∀ D w, K D w -> Sl w D 1 v l.length (Aa l)) /\ (∀ D w, K D w -> Sl w D 1 u m.length (Aa m)) /\ St W W [] K :=
 ⟨fun D w => (Cw w /\ D 0) /\ Sl w D 1 v l.length (Aa l) /\ Sl w D 1 u m.length (Aa m), fun _ _ h => h.1, fun _ _ h => h.2.1, fun _ _ h => h.2.2, St.start (D := fun _ => True) (Ek.and ((Aj (by decide)).and (Aj (by decide)))) ⟨⟨h, trivial⟩, hv.imp fun _ _ _ => trivial, hu.imp fun _ _ _ => trivial⟩⟩
theorem run_conv8x {w : World} {n : Nat} (h : n < 256) : (convert 5 3 (.int .u8 (n : Nat))).run Tryz.prog w = .ok (.int .i64 (n : Nat)) w := by
 go_simp
 exact GP (by omega)
end
section
open Go.RowKit
attribute [local go_sem ↓] Go.wp_at_zero Go.wp_at_succ
set_option maxRecDepth 20000
set_option exponentiation.threshold 5000
def Eo (w : World) (D : Nat -> Prop) (p : AP) (lp s nv gv : Value) : Prop := IsHo w D lp p.links /\ A5 w D (.agg #[s]) p.start /\ Ab w D nv p.never /\ Ab w D gv p.goal
theorem EV {p : AP} {lp s nv gv : Value} : AF fun D w => Eo w D p lp s nv gv := fun D D' w w' h a b c =>
 ⟨De D D' w w' h.1 a b c, Ah D D' w w' h.2.1 a b c, AY D D' w w' h.2.2.1 a b c, AY D D' w w' h.2.2.2 a b c⟩
theorem Eo.shape {w : World} {D : Nat -> Prop} {p : AP} {lp s nv gv : Value} (h : Eo w D p lp s nv gv) : (∃ A c, nv = .slice A p.never.length c) /\ ∃ A c, gv = .slice A p.goal.length c := ⟨Ck h.2.2.1, Ck h.2.2.2⟩
theorem Eo.prob {w : World} {D : Nat -> Prop} {p : AP} {lp s rv nv gv : Value} {ys : List Value} (h : Eo w D p lp s nv gv) (hr : Sl w D 5 rv p.rules.length ys) (hc : AB w D ys p.rules) : BR w D (.agg #[.int .i64 p.roles, lp, s, rv, nv, gv]) p :=
 ⟨_, _, _, _, _, rfl, h.1, h.2.1, ⟨ys, hr, hc⟩, h.2.2.1, h.2.2.2⟩
theorem St.toEnd {w0 w : World} {f : A7} {A F : List A7} {K : (Nat -> Prop) -> World -> Prop} {G : List A7} (h : St w0 w (f :: G) K) (hG : G = A ++ F) : St w0 w (A ++ f :: F) K := h.perm (by rw [hG]; exact List.perm_middle)
def ProbO (w0 : World) (F : List A7) (K : (Nat -> Prop) -> World -> Prop) (p : AP) (e : Ending) (w' : World) : Prop :=
 ∃ (la A : Option Addr) (As : Option Addr) (ns cs c : Nat) (nv gv : Value) (ys : List Value), e = .returned (.tuple #[.agg #[.int .i64 p.roles, .pointer la, .slice As ns cs, .slice A p.rules.length c, nv, gv], .bool true]) /\ St w0 w' (.own (.slice A p.rules.length c) 84 5 p.rules.length ys :: F) fun D w => (K D w /\ Eo w D p (.pointer la) (.slice As ns cs) nv gv) /\ AB w D ys p.rules
def MakeO (w0 : World) (F : List A7) (K : (Nat -> Prop) -> World -> Prop) (e : Ending) (w' : World) : Prop :=
 ∃ (p : AP) (la A : Option Addr) (As : Option Addr) (ns cs c : Nat) (nv gv u : Value) (ys : List Value), e = .returned (.tuple #[.agg #[.int .i64 p.roles, .pointer la, .slice As ns cs, .slice A p.rules.length c, nv, gv], u, .bool true]) /\ (∃ L R, Gu p L R) /\ St w0 w' (.own (.slice A p.rules.length c) 84 5 p.rules.length ys :: F) fun D w => ((K D w /\ B5 w D u p) /\ Eo w D p (.pointer la) (.slice As ns cs) nv gv) /\ AB w D ys p.rules
set_option maxHeartbeats 4000000 in
theorem lproblem_own {w0 w : World} {F : List A7} {K : (Nat -> Prop) -> World -> Prop} {v : Value} {p : AP} {L : List (Nat × Nat)} (hl : p.links = some L) (hH : Gi L) (hlen : L.length <= 1000) (hB : Fits p) (hS : St w0 w F K) (kp : ∀ D w, K D w -> B5 w D v p) (kt : ∀ D w, K D w -> Cw w /\ D 0) :
  Calls Tryz.prog 16 #[v] w (ProbO w0 F K p) := by
 obtain ⟨pr, lk, ps, rl, nl, gl⟩ := p
 dsimp only at hl
 subst hl
 obtain ⟨lv, rv, nv, gv, L', rfl, hl', h1, h2, h3, h4⟩ := kp _ _ hS.ro
 dsimp only at hl' h1 h2 h3 h4
 obtain rfl : L = L' := by injection hl'
 clear hl'
 obtain ⟨Al, cl, rfl, _, _⟩ := h1.shape
 obtain ⟨Ar, cr, rfl, _, _⟩ := h2.shape
 obtain ⟨An, cn, rfl, _, _⟩ := Sl.shape (h3 : Sl _ _ _ _ _ _)
 obtain ⟨Ag, cg, rfl, _, _⟩ := Sl.shape (h4 : Sl _ _ _ _ _ _)
 clear h1 h2 h3 h4
 have KSt := Lib.hid hS.stable
 have k1 : ∀ D w, K D w -> Sl w D 2 (.slice Al L.length cl) L.length (A6 L) := fun D w h => by
  obtain ⟨_, _, _, _, L', e, e2, h1, _, _, _⟩ := kp D w h
  injection e2 with e2; subst e2
  injection e with e; injection e with e; injection e with _ e; injection e with e1 _; subst e1; exact h1
 have k2 : ∀ D w, K D w -> Sl w D 5 (.slice Ar rl.length cr) rl.length (AX rl) := fun D w h => by
  obtain ⟨_, _, _, _, L', e, e2, _, h1, _, _⟩ := kp D w h
  injection e with e; injection e with e; injection e with _ e; injection e with _ e; injection e with _ e; injection e with e1 _; subst e1; exact h1
 have k3 : ∀ D w, K D w -> BN w D (.slice An nl.length cn) nl := fun D w h => by
  obtain ⟨_, _, _, _, L', e, e2, _, _, h1, _⟩ := kp D w h
  injection e with e; injection e with e; injection e with _ e; injection e with _ e; injection e with _ e; injection e with _ e; injection e with e1 _; subst e1; exact h1
 have k4 : ∀ D w, K D w -> BN w D (.slice Ag gl.length cg) gl := fun D w h => by
  obtain ⟨_, _, _, _, L', e, e2, _, _, _, h1⟩ := kp D w h
  injection e with e; injection e with e; injection e with _ e; injection e with _ e; injection e with _ e; injection e with _ e; injection e with _ e; injection e with e1 _; subst e1; exact h1
 have HF := Lib.hid hB
 have HH := Lib.hid hH
 have hrl1 := HF.out.rlen
 clear hB hH kp
 dsimp only at hrl1
 go_enter Tryz.func16, Tryz.ntmps16
 go_wp2_with (first
  | ((with_reducible refine qA 1 ?_); refine AH hS rfl _ _ rfl (.agg #[.int .i64 pr, .slice Al L.length cl, .int .u64 (ps : Nat), .slice Ar rl.length cr, .slice An nl.length cn, .slice Ag gl.length cg]) _ rfl rfl ?_; clear hS; intro g1 w_ hS; (try simp only [Act.put, Act.eval, zz, Value.cells] at hS))
  | ((with_reducible refine qA 2 ?_); refine qa hS #[.int .i64 0, .pointer none, .slice none 0 0, .slice none 0 0, .slice none 0 0, .slice none 0 0] ?_; clear hS; intro g2 w_ hS))
 have hJ0 : GJ w0 (.box g2 43 #[.int .i64 0, .pointer none, .slice none 0 0, .slice none 0 0, .slice none 0 0, .slice none 0 0] :: .box g1 30 #[.int .i64 pr, .slice Al L.length cl, .int .u64 (ps : Nat), .slice Ar rl.length cr, .slice An nl.length cn, .slice Ag gl.length cg] :: F) 43 #[.int .i64 0, .pointer none, .slice none 0 0, .slice none 0 0, .slice none 0 0, .slice none 0 0] (w_.drew, ⟨none, K⟩) := hS.drew
 have hRr := @GR.refl w0 (.box g2 43 #[.int .i64 0, .pointer none, .slice none 0 0, .slice none 0 0, .slice none 0 0, .slice none 0 0] :: .box g1 30 #[.int .i64 pr, .slice Al L.length cl, .int .u64 (ps : Nat), .slice Ar rl.length cr, .slice An nl.length cn, .slice Ag gl.length cg] :: F) 43 #[.int .i64 0, .pointer none, .slice none 0 0, .slice none 0 0, .slice none 0 0, .slice none 0 0]
 have hRt := @GR.trans w0 (.box g2 43 #[.int .i64 0, .pointer none, .slice none 0 0, .slice none 0 0, .slice none 0 0, .slice none 0 0] :: .box g1 30 #[.int .i64 pr, .slice Al L.length cl, .int .u64 (ps : Nat), .slice Ar rl.length cr, .slice An nl.length cn, .slice Ag gl.length cg] :: F) 43 #[.int .i64 0, .pointer none, .slice none 0 0, .slice none 0 0, .slice none 0 0, .slice none 0 0]
 have hN0 := @GN.start 13 14 w_.drew K
 clear hS
 refine Ed (GR w0 (.box g2 43 #[.int .i64 0, .pointer none, .slice none 0 0, .slice none 0 0, .slice none 0 0, .slice none 0 0] :: .box g1 30 #[.int .i64 pr, .slice Al L.length cl, .int .u64 (ps : Nat), .slice Ar rl.length cr, .slice An nl.length cn, .slice Ag gl.length cg] :: F) 43 #[.int .i64 0, .pointer none, .slice none 0 0, .slice none 0 0, .slice none 0 0, .slice none 0 0]) (GN 13 14) (⟨none, K⟩) hRr hRt [.q g1 0, .n pr, .s (fun v w => ∃ q, v = .pointer (some ⟨q, 0, none⟩) /\ ∀ D w1, w.2.K D w1 -> Il w1 D (.pointer (some ⟨q, 0, none⟩)) []) fun v w w' h hb => by obtain ⟨q, e, h⟩ := h; exact ⟨q, e, fun D w1 h1 => h D w1 (hb.2.1 D w1 h1)⟩, .q g1 2, .i (.int .u64 (ps : Nat)), .s (fun v w => ∃ u, v = .agg #[u] /\ u.oneCell' = true /\ ∀ D w1, w.2.K D w1 -> A5 w1 D (.agg #[u]) ps) fun v w w' h hb => by obtain ⟨u, e, e2, h⟩ := h; exact ⟨u, e, e2, fun D w1 h1 => h D w1 (hb.2.1 D w1 h1)⟩, .q g1 4, .i (.slice An nl.length cn), .s (fun v w => (∃ A c, v = .slice A nl.length c) /\ ∀ D w1, w.2.K D w1 -> Ab w1 D v nl) fun v w w' h hb => ⟨h.1, fun D w1 h1 => h.2 D w1 (hb.2.1 D w1 h1)⟩, .q g1 5, .i (.slice Ag gl.length cg), .s (fun v w => (∃ A c, v = .slice A gl.length c) /\ ∀ D w1, w.2.K D w1 -> Ab w1 D v gl) fun v w w' h hb => ⟨h.1, fun D w1 h1 => h.2 D w1 (hb.2.1 D w1 h1)⟩, .s (fun v w => ∃ q u A c B d, v = .agg #[.int .i64 pr, .pointer (some ⟨q, 0, none⟩), u, .slice none 0 0, .slice A nl.length c, .slice B gl.length d] /\ u.oneCell' = true /\ ∀ D w1, w.2.K D w1 -> Il w1 D (.pointer (some ⟨q, 0, none⟩)) [] /\ A5 w1 D (.agg #[u]) ps /\ Ab w1 D (.slice A nl.length c) nl /\ Ab w1 D (.slice B gl.length d) gl) fun v w w' h hb => by obtain ⟨q, u, A, c, B, d, e, e2, h⟩ := h; exact ⟨q, u, A, c, B, d, e, e2, fun D w1 h1 => h D w1 (hb.2.1 D w1 h1)⟩, .s (fun v w => ∃ g o, v = .pointer (some ⟨g, 0, none⟩) /\ w.2.b = some (g, o)) fun v w w' h hb => hb.var h, .s (fun v w => ∃ g q u A c B d, w.2.b = some (g, some #[.int .i64 pr, .pointer (some ⟨q, 0, none⟩), u, .slice none 0 0, .slice A nl.length c, .slice B gl.length d]) /\ ∀ D w1, w.2.K D w1 -> Il w1 D (.pointer (some ⟨q, 0, none⟩)) [] /\ A5 w1 D (.agg #[u]) ps /\ Ab w1 D (.slice A nl.length c) nl /\ Ab w1 D (.slice B gl.length d) gl) fun v w w' h hb => by obtain ⟨g, q, u, A, c, B, d, e, h⟩ := h; exact ⟨g, q, u, A, c, B, d, hb.2.2.2 _ _ e, fun D w1 h1 => h D w1 (hb.2.1 D w1 h1)⟩] ?_ ⟨uF, uC (h := fun w hW hN => (hW.1 hJ0).cell 1 rfl 0 rfl), ?_, uF, uC (h := fun w hW hN => (hW.1 hJ0).cell 1 rfl 2 rfl), ?_, uF, uC (h := fun w hW hN => (hW.1 hJ0).cell 1 rfl 4 rfl), ?_, uF, uC (h := fun w hW hN => (hW.1 hJ0).cell 1 rfl 5 rfl), ?_, ?_, ?_, ?_, trivial⟩ ?_
 ·first | assumption | (intro i; (try dsimp only); split <;> first | trivial | assumption | (left; assumption))
 ·refine uG fun b__ w hW hN hE K hK => ?_
  refine Bz rfl (by kernel_rfl) (by simp only [List.map_nil]) (hnew_any (hW.1 hJ0) fun D w1 h => kt D w1 (hW.2.1 D w1 h)) fun e w' ⟨p, he, hs⟩ => ⟨p, he, ?_⟩
  obtain ⟨q, o, rfl, -⟩ := id hs.ro.2
  exact hK _ (w', { w.2 with K := _ }) ⟨q, rfl, fun D w1 h => h.2⟩ (GK.more hs fun D w1 h => h.1)
 ·refine uG fun b__ w hW hN hE K hK => ?_
  have e15 := hE 15
  refine Bz rfl (by kernel_rfl) (by simp only [List.map_cons, List.map_nil, e15]) (I1 ps HF.out.start w.1) fun e w' ⟨x, he, hx, hb⟩ => ⟨x, he, ?_⟩
  obtain ⟨u, rfl, h1⟩ := FY hx
  exact hK _ (w', { w.2 with K := _ }) ⟨u, rfl, h1, fun D w1 h => h.2⟩ (GK.more ((hW.1 hJ0).ret hb Ah hx) fun D w1 h => h.1)
 ·refine uG fun b__ w hW hN hE K hK => ?_
  have e18 := hE 18
  refine Bz rfl (by kernel_rfl) (by simp only [List.map_cons, List.map_nil, e18]) (Ej _ nl w.1 _ (k3 _ _ (hW.2.1 _ _ (hW.1 hJ0).ro)) HF.out.never (by have := HF.out.nlen; dsimp only at this; omega)) fun e w' ⟨x, he, hx, hb⟩ => ⟨x, he, ?_⟩
  exact hK _ (w', { w.2 with K := _ }) ⟨Ck hx, fun D w1 h => h.2⟩ (GK.more ((hW.1 hJ0).ret hb AY hx) fun D w1 h => h.1)
 ·refine uG fun b__ w hW hN hE K hK => ?_
  have e21 := hE 21
  refine Bz rfl (by kernel_rfl) (by simp only [List.map_cons, List.map_nil, e21]) (Ej _ gl w.1 _ (k4 _ _ (hW.2.1 _ _ (hW.1 hJ0).ro)) HF.out.goal (by have := HF.out.glen; dsimp only at this; omega)) fun e w' ⟨x, he, hx, hb⟩ => ⟨x, he, ?_⟩
  exact hK _ (w', { w.2 with K := _ }) ⟨Ck hx, fun D w1 h => h.2⟩ (GK.more ((hW.1 hJ0).ret hb AY hx) fun D w1 h => h.1)
 ·refine uG fun b__ w hW hN hE K hK => ?_
  have e12 := hE 12
  have e13 := hE 13
  have e16 := hE 16
  have e19 := hE 19
  have e22 := hE 22
  obtain ⟨q, hq, h1⟩ := e13
  obtain ⟨u, hu, hu1, h2⟩ := e16
  obtain ⟨⟨A, c, ha⟩, h3⟩ := e19
  obtain ⟨⟨B, d, hbb⟩, h4⟩ := e22
  rw [ha] at h3
  rw [hbb] at h4
  exact Ch rfl (ps := [(0, .int .i64 pr), (1, .pointer (some ⟨q, 0, none⟩)), (2, .agg #[u]), (4, .slice A nl.length c), (5, .slice B gl.length d)]) (cells := #[.int .i64 pr, .pointer (some ⟨q, 0, none⟩), u, .slice none 0 0, .slice A nl.length c, .slice B gl.length d]) (by simp [e12, hq, hu, ha, hbb]) (by kernel_rfl) (hK _ _ ⟨q, u, A, c, B, d, rfl, hu1, fun D w1 h => ⟨h1 D w1 h, h2 D w1 h, h3 D w1 h, h4 D w1 h⟩⟩ ⟨hRr _, fun _ _ h => h⟩)
 ·refine uG fun b__ w hW hN hE K hK => ?_
  exact gk_alloc rfl (by kernel_rfl) (by kernel_rfl) (hW.1 hJ0) (hN.1 rfl) fun g w' hs => hK _ (w', { w.2 with b := some (g, none) }) ⟨g, none, rfl, rfl⟩ (GK.made (hN.1 rfl) hs)
 ·refine uG fun b__ w hW hN hE K hK => ?_
  have e4 := hE 4
  have e23 := hE 23
  obtain ⟨g, o, hg, hgb⟩ := e4
  obtain ⟨q, u, A, c, B, d, hv, hu1, h1⟩ := e23
  obtain rfl : o = none := (by cases o with | none => rfl | some cs => exact absurd hgb (hN.2 rfl g cs))
  exact gk_store rfl hg hv (hW.1 hJ0) hgb (by kernel_rfl) rfl (by simpa [Value.oneCell'] using hu1) fun w' hs => hK undef (w', { w.2 with b := some (g, some #[.int .i64 pr, .pointer (some ⟨q, 0, none⟩), u, .slice none 0 0, .slice A nl.length c, .slice B gl.length d]) }) ⟨g, q, u, A, c, B, d, rfl, h1⟩ (GK.put hgb hs)
 ·intro vs wz hW hT
  obtain ⟨e11, e12, e13, e14, e15, e16, e17, e18, e19, e20, e21, e22, e23, e4, z14, -⟩ := hT
  have bx : (fun _ : Nat => True) 0 := trivial
  simp only [AL, Act.put, zz, ze]
  obtain ⟨_, g4, q, u, A4, c4, B4, d4, hb4, hK4⟩ := z14
  obtain ⟨g, o, hg, hgb⟩ := e4
  obtain rfl : g = g4 := by rw [hb4] at hgb; injection hgb with h; injection h with h _; exact h.symm
  have hS : St w0 wz.1 (.box g 43 #[.int .i64 pr, .pointer (some ⟨q, 0, none⟩), u, .slice none 0 0, .slice A4 nl.length c4, .slice B4 gl.length d4] :: .box g2 43 #[.int .i64 0, .pointer none, .slice none 0 0, .slice none 0 0, .slice none 0 0, .slice none 0 0] :: .box g1 30 #[.int .i64 pr, .slice Al L.length cl, .int .u64 (ps : Nat), .slice Ar rl.length cr, .slice An nl.length cn, .slice Ag gl.length cg] :: F) wz.2.K := (hW.1 hJ0).some hb4
  obtain ⟨K4, wf, k0, kq, kc, hwf, hS2⟩ : ∃ (K4 : (Nat -> Prop) -> World -> Prop) (wf : World), (∀ D w, K4 D w -> K D w) /\ (∀ D w1, K4 D w1 -> Il w1 D (.pointer (some ⟨q, 0, none⟩)) []) /\ Hid (∀ D w1, K4 D w1 -> A5 w1 D (.agg #[u]) ps /\ Ab w1 D (.slice A4 nl.length c4) nl /\ Ab w1 D (.slice B4 gl.length d4) gl) /\ wz.1 = wf /\ St w0 wf (.box g 43 #[.int .i64 pr, .pointer (some ⟨q, 0, none⟩), u, .slice none 0 0, .slice A4 nl.length c4, .slice B4 gl.length d4] :: .box g2 43 #[.int .i64 0, .pointer none, .slice none 0 0, .slice none 0 0, .slice none 0 0, .slice none 0 0] :: .box g1 30 #[.int .i64 pr, .slice Al L.length cl, .int .u64 (ps : Nat), .slice Ar rl.length cr, .slice An nl.length cn, .slice Ag gl.length cg] :: F) K4 := ⟨_, _, hW.2.1, fun D w1 h => (hK4 D w1 h).1, Lib.hid fun D w1 h => (hK4 D w1 h).2, rfl, hS⟩
  rw [hwf]
  simp only [show vs (4 : Nat) = _ from hg]
  clear hS hW hJ0 hRr hRt hN0 e11 e12 e13 e14 e15 e16 e17 e18 e19 e20 e21 e22 e23 hb4 hgb hK4 hg hwf
  have hS := hS2
  clear hS2
  generalize vs 11 = s11, vs 12 = s12, vs 13 = s13, vs 14 = s14, vs 15 = s15, vs 16 = s16, vs 17 = s17, vs 18 = s18, vs 19 = s19, vs 20 = s20, vs 21 = s21, vs 22 = s22, vs 23 = s23
  obtain ⟨Au, cu, lu, hvu, -⟩ := (kc.out _ _ hS.ro).1.parts
  obtain rfl : u = .slice Au lu.length cu := by injection hvu with hvu; simpa using hvu
  clear hvu
  generalize lu.length = nu at *
  have KS4 := Lib.hid hS.stable
  go_wp2_with (first | ((with_reducible refine qK ?_); refine qC hS ?_))
  have HNX : Hid (∀ (j : Nat) (x : Nat × Nat) (L' : List (Nat × Nat)), L[j]? = some x -> Ij L j L' -> ∀ (F : List A7) (K : (Nat -> Prop) -> World -> Prop) (w : World) (r : Value) (z : Int), LinkP w0 F K L' (x.1 : Nat) (x.2 : Nat) r z w -> z = 0 /\ ∃ L'', Ij L (j + 1) L'' /\ St w0 w F fun D w => K D w /\ Il w D r L'') := Lib.hid fun j x L' hx hP F K w r z h => by
   obtain ⟨h1, L'', h2, h3, h4⟩ := h.next hx hP.2 HH.out.asc.nodup HH.out.role HH.out.acyc
   exact ⟨h1, L'', ⟨h2, h3⟩, h4⟩
  have HLF : Hid (∀ L', Ij L L.length L' -> L' = L) := Lib.hid fun L' h => h.full HH.out.asc
  have hP0 : Ij L 0 [] := ⟨Gi.nil, by simp⟩
  have k1' : ∀ D w, K4 D w -> Sl w D 2 (.slice Al L.length cl) L.length (A6 L) := fun D w h => k1 D w (k0 D w h)
  go_loopw [27] (fun i wr => ∃ (j q' : Nat) (L' : List (Nat × Nat)), i = .int .i64 (j : Nat) /\ j <= L.length /\ Hid (Ij L j L') /\ St w0 wr (.box g 43 #[.int .i64 pr, .pointer (some ⟨q', 0, none⟩), .slice Au nu cu, .slice none 0 0, .slice A4 nl.length c4, .slice B4 gl.length d4] :: .box g2 43 #[.int .i64 0, .pointer none, .slice none 0 0, .slice none 0 0, .slice none 0 0, .slice none 0 0] :: .box g1 30 #[.int .i64 pr, .slice Al L.length cl, .int .u64 (ps : Nat), .slice Ar rl.length cr, .slice An nl.length cn, .slice Ag gl.length cg] :: F) fun D w => K4 D w /\ Il w D (.pointer (some ⟨q', 0, none⟩)) L') (fun i _ => L.length - (intOf i).toNat)
  case atStart => exact ⟨0, q, [], rfl, by omega, Lib.hid hP0, hS.mono (KS4.out.and CJ) fun D w h => ⟨h, kq D w h⟩⟩
  case round =>
   clear hS hP0
   obtain ⟨j, q', L', rfl, hj, HP, hS⟩ := hrel
   by_cases hlj : j < L.length
   ·obtain ⟨f1, f2⟩ := Bf L j hlj
    have HNY := Lib.hid (HNX.out j _ L' (C3 (0, 0) hlj) HP.out)
    have HLL : Hid (L'.length <= 900000) := Lib.hid (by have := HP.out.len; omega)
    generalize L.getD j (0, 0) = z at *
    obtain ⟨za, zb⟩ := z
    dsimp only at f1 f2 HNY
    have kp2 : ∀ D w, (K4 D w /\ Il w D (.pointer (some ⟨q', 0, none⟩)) L') -> Sl w D 2 (.slice Al L.length cl) L.length (A6 L) := fun D w h => k1' D w h.1
    go_wp2_with (first
     | ((with_reducible refine qB ?_); refine qc ?_ ?_ <;> intro h_ <;> go_prune)
     | ((with_reducible refine qI ?_); refine qj hS Tryz.underlying25 ?_; intro b_ j_ hc0_ hc1_)
     | ((with_reducible refine qA 6 ?_); refine AU hS rfl _ rfl (by kernel_rfl) ?_; clear hS; intro g6 w_ hS; (try simp only [Act.put, Act.eval, zz, Value.cells] at hS))
     | (go_at_call 60; refine (hlink_any (.pointer (some ⟨q', 0, none⟩)) L' (za : Nat) (zb : Nat) HP.out.1 HLL.out hS (fun D w h => h.2) (fun D w h => kt D w (k0 D w h.1))).mono ?_; clear hS; rintro e w_ ⟨r, z, rfl, hP⟩; obtain ⟨rfl, L'', hP2, hS⟩ := HNY.out _ _ _ _ _ hP; replace hP2 := Lib.hid hP2; clear hP; obtain ⟨q2, _, rfl, -⟩ := id hS.ro.2)
     | ((with_reducible refine qM ?_); (first | refine qS hS ?_ | refine qT hS ?_); clear hS; intro w_ hS; (try simp only [Act.put, Act.eval, zz, Value.cells] at hS))
     | ((with_reducible refine qK ?_); refine qC hS ?_))
    exact ⟨⟨j + 1, q2, L'', by go_num, hlj, hP2, (hS.sub (List.sublist_cons_self _ _)).mono (KS4.out.and CJ) fun D w h => ⟨h.1.1, h.2⟩⟩, by simp [intOf]; omega⟩
   ·obtain rfl : L.length = j := by omega
    rw [HLF.out _ HP.out] at hS
    clear HP HNX HLF
    go_wp2_with (first | ((with_reducible refine qB ?_); refine qc ?_ ?_ <;> intro h_ <;> go_prune) | ((with_reducible refine qK ?_); refine qC hS ?_))
    obtain ⟨K5, k5, kh, hS2⟩ : ∃ K5 : (Nat -> Prop) -> World -> Prop, (∀ D w, K5 D w -> K4 D w) /\ Hid (∀ D w, K5 D w -> Il w D (.pointer (some ⟨q', 0, none⟩)) L) /\ St w0 wr (.box g 43 #[.int .i64 pr, .pointer (some ⟨q', 0, none⟩), .slice Au nu cu, .slice none 0 0, .slice A4 nl.length c4, .slice B4 gl.length d4] :: .box g2 43 #[.int .i64 0, .pointer none, .slice none 0 0, .slice none 0 0, .slice none 0 0, .slice none 0 0] :: .box g1 30 #[.int .i64 pr, .slice Al L.length cl, .int .u64 (ps : Nat), .slice Ar rl.length cr, .slice An nl.length cn, .slice Ag gl.length cg] :: F) K5 := ⟨_, fun _ _ h => h.1, Lib.hid fun _ _ h => h.2, hS⟩
    clear hS
    have hS := hS2.nil 84 5
    clear hS2
    have KS5 := Lib.hid hS.stable
    have kr : ∀ D w, K5 D w -> Sl w D 5 (.slice Ar rl.length cr) rl.length (AX rl) := fun D w h => k2 D w (k0 D w (k5 D w h))
    go_loopw [50] (fun i wr => ∃ (j : Nat) (rv : Value) (xs : List Value), i = .int .i64 (j : Nat) /\ j <= rl.length /\ St w0 wr (.own rv 84 5 j xs :: .box g 43 #[.int .i64 pr, .pointer (some ⟨q', 0, none⟩), .slice Au nu cu, rv, .slice A4 nl.length c4, .slice B4 gl.length d4] :: .box g2 43 #[.int .i64 0, .pointer none, .slice none 0 0, .slice none 0 0, .slice none 0 0, .slice none 0 0] :: .box g1 30 #[.int .i64 pr, .slice Al L.length cl, .int .u64 (ps : Nat), .slice Ar rl.length cr, .slice An nl.length cn, .slice Ag gl.length cg] :: F) fun D w => K5 D w /\ AB w D xs (rl.take j)) (fun i _ => rl.length - (intOf i).toNat)
    case atStart => exact ⟨0, _, [], rfl, by omega, hS.mono (KS5.out.and BT) fun D w h => ⟨h, fun i z hi => by simp at hi⟩⟩
    case round =>
     clear hS
     obtain ⟨j, rv, xs, rfl, hj2, hS⟩ := hrel
     obtain ⟨Arv, crv, rfl, _, _⟩ := Cu (hS.own 0 rfl)
     by_cases hlj : j < rl.length
     ·obtain ⟨bk, o, rfl, c0, c1, c2, c3, c4'⟩ := rr_at (kr _ _ hS.ro.1) hlj
      have HT : Hid (rl.take (j + 1) = rl.take j ++ [rl.getD j Bd]) := Lib.hid (DO rl j Bd hlj)
      have HZ : Hid ((rl.getD j Bd).yes < AA /\ (rl.getD j Bd).no < AA) := Lib.hid (HF.out.rules _ (by rw [List.getD_eq_getElem?_getD, List.getElem?_eq_getElem hlj]; exact List.getElem_mem hlj))
      have HLT : Hid ((rl.take j).length = j) := Lib.hid (by rw [List.length_take]; omega)
      generalize rl.getD j Bd = z at *
      obtain ⟨zr, zy, zn, zt, zo⟩ := z
      dsimp only at c0 c1 c2 c3 c4' HZ
      go_wp2_with (first
       | ((with_reducible refine qB ?_); refine qc ?_ ?_ <;> intro h_ <;> go_prune)
       | ((with_reducible refine qA 53 ?_); refine BigFrame.wpList_want rfl fun _ hK => Bb (cs := [.bool zr, .int .u64 (zy : Nat), .int .u64 (zn : Nat), .int .i64 zt, .int .i64 zo]) rfl rfl (Jg c0 c1 c2 c3 c4') Tryz.underlying109 rfl (by kernel_rfl) (hK _ _ ?_))
       | ((with_reducible refine qA 10 ?_); refine qa hS #[.bool false, .int .u64 0, .int .u64 0, .int .i64 0, .int .i64 0] ?_; clear hS; intro g10 w_ hS)
       | ((with_reducible refine qM ?_); (first | refine qS hS ?_ | refine qT hS ?_); clear hS; intro w_ hS; (try simp only [Act.put, Act.eval, zz, Value.cells] at hS)))
      obtain ⟨K6, k6, hS2⟩ : ∃ K6 : (Nat -> Prop) -> World -> Prop, Hid (∀ D w, K6 D w -> K5 D w /\ AB w D xs (rl.take j)) /\ St w0 w_ (.box g10 109 #[.bool zr, .int .u64 (zy : Nat), .int .u64 (zn : Nat), .int .i64 zt, .int .i64 zo] :: .own (.slice Arv j crv) 84 5 j xs :: .box g 43 #[.int .i64 pr, .pointer (some ⟨q', 0, none⟩), .slice Au nu cu, .slice Arv j crv, .slice A4 nl.length c4, .slice B4 gl.length d4] :: .box g2 43 #[.int .i64 0, .pointer none, .slice none 0 0, .slice none 0 0, .slice none 0 0, .slice none 0 0] :: .box g1 30 #[.int .i64 pr, .slice Al L.length cl, .int .u64 (ps : Nat), .slice (some ⟨bk, o, none⟩) rl.length cr, .slice An nl.length cn, .slice Ag gl.length cg] :: F) K6 := ⟨_, Lib.hid fun _ _ h => h, hS⟩
      clear hS
      have hS := hS2
      clear hS2
      have KS6 := Lib.hid hS.stable
      have h0d := hS.drew
      refine wp_zS [6, 11, 12, 13, 15] [some (.pointer (some ⟨g, 3, none⟩)), some (.slice Arv j crv), some (.pointer (some ⟨g10, 0, none⟩)), some (.bool zr), some (.pointer (some ⟨g10, 1, none⟩)), some (.agg #[.int .u64 (zy : Nat), .int .u64 (zn : Nat)]), none, some (.pointer (some ⟨g10, 3, none⟩)), some (.int .i64 zt), some (.pointer (some ⟨g10, 4, none⟩)), some (.int .i64 zo), none, none, none, some (.pointer (some ⟨g, 3, none⟩)), none] (fun vs w => match vs with | [] => St w0 w (.box g10 109 #[.bool zr, .int .u64 (zy : Nat), .int .u64 (zn : Nat), .int .i64 zt, .int .i64 zo] :: .own (.slice Arv j crv) 84 5 j xs :: .box g 43 #[.int .i64 pr, .pointer (some ⟨q', 0, none⟩), .slice Au nu cu, .slice Arv j crv, .slice A4 nl.length c4, .slice B4 gl.length d4] :: .box g2 43 #[.int .i64 0, .pointer none, .slice none 0 0, .slice none 0 0, .slice none 0 0, .slice none 0 0] :: .box g1 30 #[.int .i64 pr, .slice Al L.length cl, .int .u64 (ps : Nat), .slice (some ⟨bk, o, none⟩) rl.length cr, .slice An nl.length cn, .slice Ag gl.length cg] :: F) K6 | [z] => ∃ a b : Value, z = .agg #[a, b] /\ St w0 w (.box g10 109 #[.bool zr, .int .u64 (zy : Nat), .int .u64 (zn : Nat), .int .i64 zt, .int .i64 zo] :: .own (.slice Arv j crv) 84 5 j xs :: .box g 43 #[.int .i64 pr, .pointer (some ⟨q', 0, none⟩), .slice Au nu cu, .slice Arv j crv, .slice A4 nl.length c4, .slice B4 gl.length d4] :: .box g2 43 #[.int .i64 0, .pointer none, .slice none 0 0, .slice none 0 0, .slice none 0 0, .slice none 0 0] :: .box g1 30 #[.int .i64 pr, .slice Al L.length cl, .int .u64 (ps : Nat), .slice (some ⟨bk, o, none⟩) rl.length cr, .slice An nl.length cn, .slice Ag gl.length cg] :: F) (fun D w => K6 D w /\ Bi w D (.agg #[a, b]) (zy, zn)) | [_, z] => ∃ a b : Value, z = .agg #[.bool zr, a, b, .int .i64 zt, .int .i64 zo] /\ St w0 w (.box g10 109 #[.bool zr, .int .u64 (zy : Nat), .int .u64 (zn : Nat), .int .i64 zt, .int .i64 zo] :: .own (.slice Arv j crv) 84 5 j xs :: .box g 43 #[.int .i64 pr, .pointer (some ⟨q', 0, none⟩), .slice Au nu cu, .slice Arv j crv, .slice A4 nl.length c4, .slice B4 gl.length d4] :: .box g2 43 #[.int .i64 0, .pointer none, .slice none 0 0, .slice none 0 0, .slice none 0 0, .slice none 0 0] :: .box g1 30 #[.int .i64 pr, .slice Al L.length cl, .int .u64 (ps : Nat), .slice (some ⟨bk, o, none⟩) rl.length cr, .slice An nl.length cn, .slice Ag gl.length cg] :: F) (fun D w => K6 D w /\ Bi w D (.agg #[a, b]) (zy, zn)) | [_, _, z] => ∃ a b : Value, St w0 w (.box g10 109 #[.bool zr, .int .u64 (zy : Nat), .int .u64 (zn : Nat), .int .i64 zt, .int .i64 zo] :: .own (.slice Arv j crv) 84 5 j xs :: .box g 43 #[.int .i64 pr, .pointer (some ⟨q', 0, none⟩), .slice Au nu cu, .slice Arv j crv, .slice A4 nl.length c4, .slice B4 gl.length d4] :: .box g2 43 #[.int .i64 0, .pointer none, .slice none 0 0, .slice none 0 0, .slice none 0 0, .slice none 0 0] :: .box g1 30 #[.int .i64 pr, .slice Al L.length cl, .int .u64 (ps : Nat), .slice (some ⟨bk, o, none⟩) rl.length cr, .slice An nl.length cn, .slice Ag gl.length cg] :: F) (fun D w => (K6 D w /\ Bi w D (.agg #[a, b]) (zy, zn)) /\ Sl w D 5 z 1 [.bool zr, a, b, .int .i64 zt, .int .i64 zo]) | [_, _, _, p'] => ∃ a b : Value, St w0 w (.box g10 109 #[.bool zr, .int .u64 (zy : Nat), .int .u64 (zn : Nat), .int .i64 zt, .int .i64 zo] :: .own p' 84 5 (j + 1) (xs ++ [.bool zr, a, b, .int .i64 zt, .int .i64 zo]) :: .box g 43 #[.int .i64 pr, .pointer (some ⟨q', 0, none⟩), .slice Au nu cu, .slice Arv j crv, .slice A4 nl.length c4, .slice B4 gl.length d4] :: .box g2 43 #[.int .i64 0, .pointer none, .slice none 0 0, .slice none 0 0, .slice none 0 0, .slice none 0 0] :: .box g1 30 #[.int .i64 pr, .slice Al L.length cl, .int .u64 (ps : Nat), .slice (some ⟨bk, o, none⟩) rl.length cr, .slice An nl.length cn, .slice Ag gl.length cg] :: F) (fun D w => K6 D w /\ Bi w D (.agg #[a, b]) (zy, zn)) | [_, _, _, p', _] => ∃ a b : Value, St w0 w (.box g10 109 #[.bool zr, .int .u64 (zy : Nat), .int .u64 (zn : Nat), .int .i64 zt, .int .i64 zo] :: .own p' 84 5 (j + 1) (xs ++ [.bool zr, a, b, .int .i64 zt, .int .i64 zo]) :: .box g 43 #[.int .i64 pr, .pointer (some ⟨q', 0, none⟩), .slice Au nu cu, p', .slice A4 nl.length c4, .slice B4 gl.length d4] :: .box g2 43 #[.int .i64 0, .pointer none, .slice none 0 0, .slice none 0 0, .slice none 0 0, .slice none 0 0] :: .box g1 30 #[.int .i64 pr, .slice Al L.length cl, .int .u64 (ps : Nat), .slice (some ⟨bk, o, none⟩) rl.length cr, .slice An nl.length cn, .slice Ag gl.length cg] :: F) (fun D w => K6 D w /\ Bi w D (.agg #[a, b]) (zy, zn)) | _ => False) ?_ ⟨vF, ?_, vF, ?_, vF, ?_, ?_, vF, ?_, vF, ?_, ?_, ?_, ?_, vF, ?_, trivial⟩ ?_
      ·first | assumption | (dsimp only; assumption)
      ·refine vR 0 3 fun b__ w vs hS h1 h2 hE K hK => ?_
       rcases vs with _ | ⟨x0, _ | ⟨x1, _ | ⟨x2, _ | ⟨x3, vs⟩⟩⟩⟩ <;> first | (exfalso; first | exact hS | (revert h1 h2; simp <;> omega); done) | ((have e54 := hE 54); (first | exact Ad rfl e54 (by kernel_rfl) (hS.shut 2 rfl 3 rfl) (hK _ rfl) | (obtain ⟨_, _, hS⟩ := hS; exact Ad rfl e54 (by kernel_rfl) (hS.shut 2 rfl 3 rfl) (hK _ rfl)) | (obtain ⟨_, _, _, hS⟩ := hS; exact Ad rfl e54 (by kernel_rfl) (hS.shut 2 rfl 3 rfl) (hK _ rfl))))
      ·refine vR 0 1 fun b__ w vs hS h1 h2 hE K hK => ?_
       rcases vs with _ | ⟨x0, _ | ⟨x1, vs⟩⟩ <;> first | (exfalso; first | exact hS | (revert h1 h2; simp <;> omega); done) | ((have e56 := hE 56); (first | exact Ad rfl e56 (by kernel_rfl) (hS.shut 0 rfl 0 rfl) (hK _ rfl) | (obtain ⟨_, _, _, hS⟩ := hS; exact Ad rfl e56 (by kernel_rfl) (hS.shut 0 rfl 0 rfl) (hK _ rfl))))
      ·refine vR 0 0 fun b__ w vs hS h1 h2 hE K hK => ?_
       rcases vs with _ | ⟨x0, vs⟩ <;> first | (exfalso; first | exact hS | (revert h1 h2; simp <;> omega); done) | ((have e58 := hE 58); (exact Bb (cs := [.int .u64 (zy : Nat), .int .u64 (zn : Nat)]) rfl e58 (rng2 (hS.shut 0 rfl 1 rfl) (hS.shut 0 rfl 2 rfl)) Tryz.underlying50 rfl (by kernel_rfl) (hK _ rfl)))
      ·refine vX 0 fun b__ w vs hS hl hE K hK => ?_
       obtain rfl := Jn hl
       have e59 := hE 59
       refine Bz rfl (by kernel_rfl) (by simp only [List.map_cons, List.map_nil, e59]) (ID zy zn HZ.out.1 HZ.out.2 _) fun e w' ⟨z, he, hx, hb_⟩ => ⟨z, he, ?_⟩
       obtain ⟨a, b, rfl, -, -⟩ := id hx
       exact hK _ w' ⟨a, b, rfl, hS.ret hb_ CL hx⟩
      ·refine vR 0 1 fun b__ w vs hS h1 h2 hE K hK => ?_
       rcases vs with _ | ⟨x0, _ | ⟨x1, vs⟩⟩ <;> first | (exfalso; first | exact hS | (revert h1 h2; simp <;> omega); done) | ((have e61 := hE 61); (first | exact Ad rfl e61 (by kernel_rfl) (hS.shut 0 rfl 3 rfl) (hK _ rfl) | (obtain ⟨_, _, _, hS⟩ := hS; exact Ad rfl e61 (by kernel_rfl) (hS.shut 0 rfl 3 rfl) (hK _ rfl))))
      ·refine vR 0 1 fun b__ w vs hS h1 h2 hE K hK => ?_
       rcases vs with _ | ⟨x0, _ | ⟨x1, vs⟩⟩ <;> first | (exfalso; first | exact hS | (revert h1 h2; simp <;> omega); done) | ((have e63 := hE 63); (first | exact Ad rfl e63 (by kernel_rfl) (hS.shut 0 rfl 4 rfl) (hK _ rfl) | (obtain ⟨_, _, _, hS⟩ := hS; exact Ad rfl e63 (by kernel_rfl) (hS.shut 0 rfl 4 rfl) (hK _ rfl))))
      ·refine vX 1 fun b__ w vs hS hl hE K hK => ?_
       obtain ⟨x0, rfl⟩ := GX hl
       have e57 := hE 57
       have e60 := hE 60
       have e62 := hE 62
       have e64 := hE 64
       obtain ⟨a, b, rfl, hS⟩ := hS
       exact Ch rfl (ps := [(0, .bool zr), (1, .agg #[a, b]), (2, .int .i64 zt), (3, .int .i64 zo)]) (cells := #[.bool zr, a, b, .int .i64 zt, .int .i64 zo]) (by simp [e57, e60, e62, e64]) (by kernel_rfl) (hK _ _ ⟨a, b, rfl, hS⟩)
      ·refine vX 2 fun b__ w vs hS hl hE K hK => ?_
       obtain ⟨x0, x1, rfl⟩ := GW hl
       have e65 := hE 65
       obtain ⟨a, b, rfl, hS⟩ := hS
       refine CX (ps := [(0, .agg #[.bool zr, a, b, .int .i64 zt, .int .i64 zo])]) (cells := #[.bool zr, a, b, .int .i64 zt, .int .i64 zo]) rfl Tryz.underlying40 (by simp [e65]) (by kernel_rfl) ?_
       intro w' hbx hbel
       exact hK _ w' ⟨a, b, hS.ret hbel (Aj (by decide)) (⟨by simp, _, 1, rfl, by omega, by unfold maxLen; omega, fun _ => ⟨w.heap.size, 0, rfl, Nat.le_refl _, hbx.lt, fun j x hj => by rw [Nat.zero_add]; exact (hbx.cell j).trans (by simpa using hj)⟩⟩ : Sl w' (w.heap.size <= ·) 5 (.slice (some ⟨w.heap.size, 0, none⟩) 1 1) 1 [.bool zr, a, b, .int .i64 zt, .int .i64 zo])⟩
      ·refine vX 3 fun b__ w vs hS hl hE K hK => ?_
       obtain ⟨x0, x1, x2, rfl⟩ := GV hl
       have e55 := hE 55
       have e66 := hE 66
       obtain ⟨a, b, h3⟩ := hS
       refine Ei rfl ty_rules e55 (h3.own 1 rfl) e66 h3.ro.2 (by obtain ⟨_, _, he, hy, hn⟩ := h3.ro.1.2; injection he with he; injection he with he; injection he with e1 he; injection he with e2 he; subst e1 e2; obtain ⟨A8, m8, c8, rfl⟩ := hy.shape; obtain ⟨B8, k8, d8, rfl⟩ := hn.shape; intro u hu; simp at hu; rcases hu with rfl | rfl | rfl | rfl | rfl <;> rfl) (by omega) (by omega) h3.size ?_
       intro v' w' ho hg hat
       exact hK v' w' ⟨a, b, (h3.upd 1 rfl (.own v' 84 5 (j + 1) (xs ++ [.bool zr, a, b, .int .i64 zt, .int .i64 zo])) hg ho hat).mono (KS6.out.and CL) fun D w h => h.1⟩
      ·refine vX 4 fun b__ w vs hS hl hE K hK => ?_
       obtain ⟨x0, x1, x2, x3, rfl⟩ := Jm hl
       have e68 := hE 68
       have e67 := hE 67
       obtain ⟨a, b, h3⟩ := hS
       refine E7 rfl e68 e67 (h3.box 2 rfl) (by simp) (IB (h3.own 1 rfl)) (own_one (h3.own 1 rfl)) (by kernel_rfl) ?_
       intro w' hbx hup
       exact hK _ w' ⟨a, b, h3.upd 2 rfl (.box g 43 #[.int .i64 pr, .pointer (some ⟨q', 0, none⟩), .slice Au nu cu, x3, .slice A4 nl.length c4, .slice B4 gl.length d4]) (Bv hup) ⟨(h3.holds _ (List.mem_of_getElem? (i := 2) rfl)).1, hbx⟩ fun _ e => .inl e⟩
      ·intro us wz vs hS hl hT
       obtain ⟨x0, x1, x2, x3, x4, rfl⟩ := vs_len5 hl
       obtain ⟨e54, e55, e56, e57, e58, e59, e60, e61, e62, e63, e64, e65, e66, e67, e68, -⟩ := hT
       clear hl
       simp only [AL, Act.put, zz, ze]
       obtain ⟨a, b, hS⟩ := hS
       clear h0d
       go_wp2_with fail
       have hxl := HLT.out
       refine ⟨⟨j + 1, _, xs ++ [.bool zr, a, b, .int .i64 zt, .int .i64 zo], by go_num, hlj, (hS.sub (List.sublist_cons_self _ _)).mono (KS5.out.and BT) fun D w h => ⟨(k6.out _ _ h.1).1, ?_⟩⟩, by simp [intOf]; omega⟩
       rw [HT.out]
       have hz := (hS.own 1 rfl).1
       exact AB.append (by simp at hz; omega) (k6.out _ _ h.1).2 (AB.single (z := ⟨zr, zy, zn, zt, zo⟩) (G8 h.2).1 (G8 h.2).2)
     ·obtain rfl : rl.length = j := by omega
      rw [List.take_length] at hS
      go_wp2_with (first | ((with_reducible refine qB ?_); refine qc ?_ ?_ <;> intro h_ <;> go_prune))
      obtain ⟨K7, k7, ks7, hS2⟩ : ∃ K7 : (Nat -> Prop) -> World -> Prop, Hid (∀ D w, K7 D w -> K5 D w /\ AB w D xs rl) /\ AF K7 /\ St w0 wr (.own (.slice Arv rl.length crv) 84 5 rl.length xs :: .box g 43 #[.int .i64 pr, .pointer (some ⟨q', 0, none⟩), .slice Au nu cu, .slice Arv rl.length crv, .slice A4 nl.length c4, .slice B4 gl.length d4] :: .box g2 43 #[.int .i64 0, .pointer none, .slice none 0 0, .slice none 0 0, .slice none 0 0, .slice none 0 0] :: .box g1 30 #[.int .i64 pr, .slice Al L.length cl, .int .u64 (ps : Nat), .slice Ar rl.length cr, .slice An nl.length cn, .slice Ag gl.length cg] :: F) K7 := ⟨_, Lib.hid fun _ _ h => h, hS.stable, hS⟩
      clear hS
      have hS := hS2
      clear hS2
      have hJ0 : St w0 wr.drew (.own (.slice Arv rl.length crv) 84 5 rl.length xs :: .box g 43 #[.int .i64 pr, .pointer (some ⟨q', 0, none⟩), .slice Au nu cu, .slice Arv rl.length crv, .slice A4 nl.length c4, .slice B4 gl.length d4] :: .box g2 43 (cond (false, false).1 #[.int .i64 pr, .pointer (some ⟨q', 0, none⟩), .slice Au nu cu, .slice Arv rl.length crv, .slice A4 nl.length c4, .slice B4 gl.length d4] #[.int .i64 0, .pointer none, .slice none 0 0, .slice none 0 0, .slice none 0 0, .slice none 0 0]) :: .box g1 30 #[.int .i64 pr, .slice Al L.length cl, .int .u64 (ps : Nat), .slice Ar rl.length cr, .slice An nl.length cn, .slice Ag gl.length cg] :: F) K7 := hS.drew
      have hRr := @SR.refl w0 (fun s => .own (.slice Arv rl.length crv) 84 5 rl.length xs :: .box g 43 #[.int .i64 pr, .pointer (some ⟨q', 0, none⟩), .slice Au nu cu, .slice Arv rl.length crv, .slice A4 nl.length c4, .slice B4 gl.length d4] :: .box g2 43 (cond s.1 #[.int .i64 pr, .pointer (some ⟨q', 0, none⟩), .slice Au nu cu, .slice Arv rl.length crv, .slice A4 nl.length c4, .slice B4 gl.length d4] #[.int .i64 0, .pointer none, .slice none 0 0, .slice none 0 0, .slice none 0 0, .slice none 0 0]) :: .box g1 30 #[.int .i64 pr, .slice Al L.length cl, .int .u64 (ps : Nat), .slice Ar rl.length cr, .slice An nl.length cn, .slice Ag gl.length cg] :: F) K7
      have hRt := @SR.trans w0 (fun s => .own (.slice Arv rl.length crv) 84 5 rl.length xs :: .box g 43 #[.int .i64 pr, .pointer (some ⟨q', 0, none⟩), .slice Au nu cu, .slice Arv rl.length crv, .slice A4 nl.length c4, .slice B4 gl.length d4] :: .box g2 43 (cond s.1 #[.int .i64 pr, .pointer (some ⟨q', 0, none⟩), .slice Au nu cu, .slice Arv rl.length crv, .slice A4 nl.length c4, .slice B4 gl.length d4] #[.int .i64 0, .pointer none, .slice none 0 0, .slice none 0 0, .slice none 0 0, .slice none 0 0]) :: .box g1 30 #[.int .i64 pr, .slice Al L.length cl, .int .u64 (ps : Nat), .slice Ar rl.length cr, .slice An nl.length cn, .slice Ag gl.length cg] :: F) K7
      have hN0 : ∀ _ : Nat, True := fun _ => trivial
      clear hS
      refine Ed (SR w0 (fun s => .own (.slice Arv rl.length crv) 84 5 rl.length xs :: .box g 43 #[.int .i64 pr, .pointer (some ⟨q', 0, none⟩), .slice Au nu cu, .slice Arv rl.length crv, .slice A4 nl.length c4, .slice B4 gl.length d4] :: .box g2 43 (cond s.1 #[.int .i64 pr, .pointer (some ⟨q', 0, none⟩), .slice Au nu cu, .slice Arv rl.length crv, .slice A4 nl.length c4, .slice B4 gl.length d4] #[.int .i64 0, .pointer none, .slice none 0 0, .slice none 0 0, .slice none 0 0, .slice none 0 0]) :: .box g1 30 #[.int .i64 pr, .slice Al L.length cl, .int .u64 (ps : Nat), .slice Ar rl.length cr, .slice An nl.length cn, .slice Ag gl.length cg] :: F) K7) (fun _ _ => True) ((false, false)) hRr hRt [.i (.agg #[.int .i64 pr, .pointer (some ⟨q', 0, none⟩), .slice Au nu cu, .slice Arv rl.length crv, .slice A4 nl.length c4, .slice B4 gl.length d4]), .q g 1, .q q' 0, .b true, .s (fun v w => w.2.1 = true) fun v w w' h hb => hb.2.1 h, .b true] ?_ ⟨uR (h := fun w hW hN => (hW.1 hJ0).box 1 rfl), uF, uC (h := fun w hW hN => (hW.1 hJ0).shut 1 rfl 1 rfl), uB (h := fun w hW hN => JP _ _), ?_, uA, trivial⟩ ?_
      ·first | assumption | (intro i; (try dsimp only); split <;> first | trivial | assumption | (left; assumption))
      ·refine uG fun b__ w hW hN hE K hK => ?_
       have e2 : b__.eval (.tmp 2) = .pointer (some ⟨g2, 0, none⟩) := hE 2
       have e70 := hE 70
       have hS := hW.1 hJ0
       exact CW rfl e2 e70 (hS.box 2 rfl) (by kernel_rfl) (by cases w.2.1 <;> rfl) (by simp [Value.oneCell']) fun w4 h1 hU => hK undef (w4, (true, w.2.2)) rfl ⟨⟨fun _ => hS.upd 2 rfl (.box g2 43 #[.int .i64 pr, .pointer (some ⟨q', 0, none⟩), .slice Au nu cu, .slice Arv rl.length crv, .slice A4 nl.length c4, .slice B4 gl.length d4]) (Bv hU) ⟨(hS.holds _ (List.mem_of_getElem? (i := 2) rfl)).1, h1⟩ fun _ e => .inl e, fun _ => rfl, id⟩, fun _ _ h => h⟩
      ·intro vs wz hW hT
       obtain ⟨e70, e71, e72, e73, z4, e3, -⟩ := hT
       have bx : (fun _ : Nat => True) 0 := trivial
       simp only [AL, Act.put, zz, ze]
       obtain ⟨_, hst⟩ := z4
       have hS : St w0 wz.1 (.own (.slice Arv rl.length crv) 84 5 rl.length xs :: .box g 43 #[.int .i64 pr, .pointer (some ⟨q', 0, none⟩), .slice Au nu cu, .slice Arv rl.length crv, .slice A4 nl.length c4, .slice B4 gl.length d4] :: .box g2 43 (cond wz.2.1 #[.int .i64 pr, .pointer (some ⟨q', 0, none⟩), .slice Au nu cu, .slice Arv rl.length crv, .slice A4 nl.length c4, .slice B4 gl.length d4] #[.int .i64 0, .pointer none, .slice none 0 0, .slice none 0 0, .slice none 0 0, .slice none 0 0]) :: .box g1 30 #[.int .i64 pr, .slice Al L.length cl, .int .u64 (ps : Nat), .slice Ar rl.length cr, .slice An nl.length cn, .slice Ag gl.length cg] :: F) K7 := hW.1 hJ0
       rw [show wz.2.1 = true from hst] at hS
       dsimp only [cond] at hS
       clear hW hJ0 hRr hRt hN0 hst
       generalize wz.1 = wf at *
       simp only [show vs (3 : Nat) = _ from e3]
       go_wp2_with fail
       refine JV Tryz.results16 rfl (hS.box 2 rfl) Tryz.underlying43 rfl (by kernel_rfl) rfl rfl ?_
       refine ⟨_, _, _, _, _, _, _, _, xs, rfl, (hS.sub (F' := .own (.slice Arv rl.length crv) 84 5 rl.length xs :: F) ((((List.sublist_cons_self _ _).trans (List.sublist_cons_self _ _)).trans (List.sublist_cons_self _ _)).cons_cons _)).mono ((KSt.out.and EV).and BT) fun D w h => ?_⟩
       have h := k7.out _ _ h
       have h2 := kc.out _ _ (k5 _ _ h.1)
       exact ⟨⟨k0 _ _ (k5 _ _ h.1), kh.out _ _ h.1, h2.1, h2.2.1, h2.2.2⟩, h.2⟩
set_option maxHeartbeats 1000000 in
theorem lmake31_own {w0 w : World} {F : List A7} {K : (Nat -> Prop) -> World -> Prop} {v : Value} {l : List Nat} (hl : ∀ x ∈ l, x < 256) (hS : St w0 w F K) (kp : ∀ D w, K D w -> Sl w D 1 v l.length (Aa l)) (kt : ∀ D w, K D w -> Cw w /\ D 0) :
  Calls Tryz.prog 18 #[v] w (MakeO w0 F K) := by
 have HL := Lib.hid hl
 have KS := Lib.hid hS.stable
 go_enter Tryz.func18, Tryz.ntmps18
 go_wp2_with (first
  | ((with_reducible refine qA 2 ?_); refine qa hS #[.int .i64 0, .pointer none, .slice none 0 0, .slice none 0 0, .slice none 0 0, .slice none 0 0] ?_; clear hS; intro g2 w_ hS)
  | ((with_reducible refine qA 3 ?_); refine qa hS #[.int .i64 0, .slice none 0 0, .int .u64 0, .slice none 0 0, .slice none 0 0, .slice none 0 0] ?_; clear hS; intro g3 w_ hS)
  | ((with_reducible refine qA 5 ?_); refine qa hS #[.int .i64 0, .slice none 0 0, .int .u64 0, .slice none 0 0, .slice none 0 0, .slice none 0 0] ?_; clear hS; intro g5 w_ hS)
  | ((with_reducible refine qA 6 ?_); refine qa hS #[.int .i64 0, .pointer none, .slice none 0 0, .slice none 0 0, .slice none 0 0, .slice none 0 0] ?_; clear hS; intro g6 w_ hS)
  | (go_at_call 13; refine (IU HL.out hS kp).mono ?_; clear hS; rintro e w_ ⟨u, p, L, R, rfl, hM, hS⟩; replace hM := Lib.hid hM; obtain ⟨us, rfl, hu6, hu1⟩ := hS.ro.2.cells; replace hu6 := Lib.hid hu6)
  | (go_at_call 16; (refine (lproblem_own hM.out.links hM.out.hok (by have := hM.out.len; omega) hM.out.fits hS (fun D w h => h.2) (fun D w h => kt D w h.1)).mono ?_; clear hS; rintro e w_ ⟨la, A, As, ns, cs, c, nv, gv, ys, rfl, hS⟩; obtain ⟨⟨An, cn, rfl⟩, Ag, cg, rfl⟩ := hS.ro.1.2.shape; obtain ⟨F', hF'⟩ : ∃ F', F' = .own (.slice A p.rules.length c) 84 5 p.rules.length ys :: F := ⟨_, rfl⟩; replace hS := hS.toEnd (A := [_, _, _]) (F := F) rfl; (try simp only [List.cons_append, List.nil_append] at hS); rw [<- hF'] at hS; obtain ⟨xs, hxs⟩ : ∃ xs : Array Value, xs = #[.int .i64 p.roles, .pointer la, .slice As ns cs, .slice A p.rules.length c, .slice An p.never.length cn, .slice Ag p.goal.length cg] := ⟨_, rfl⟩; have hx6 : xs.size = 6 := (by subst hxs; rfl); have hx1 : xs.all (·.oneCell') = true := (by subst hxs; simp [Value.oneCell']); replace hx6 := Lib.hid hx6; rw [<- hxs]; replace hxs := Lib.hid hxs; replace hF' := Lib.hid hF'))
  | ((with_reducible refine qm 30 ?_); refine BV hS 0 rfl _ _ _ rfl _ _ rfl rfl _ _ rfl (by rw [hu6.out]; kernel_rfl) (by rw [hu6.out]; rfl) hu1 ?_; clear hS; intro w_ hS; (try simp only [Act.put, Act.eval, zz, Value.cells] at hS))
  | ((with_reducible refine qm 43 ?_); refine BV hS 0 rfl _ _ _ rfl _ _ rfl rfl _ _ rfl (by rw [hx6.out]; kernel_rfl) (by rw [hx6.out]; rfl) hx1 ?_; clear hS; intro w_ hS; (try simp only [Act.put, Act.eval, zz, Value.cells] at hS))
  | ((with_reducible refine qA 11 ?_); refine BigFrame.wpList_want rfl fun _ hK => C2 rfl rfl (hS.box 0 rfl) Tryz.underlying30 rfl (by rw [hu6.out]; kernel_rfl) (hK _ _ ?_)))
 obtain ⟨K7, k7, hJ0⟩ : ∃ K7 : (Nat -> Prop) -> World -> Prop, Hid (∀ D w, K7 D w -> ((K D w /\ B5 w D (.agg us) p) /\ Eo w D p (.pointer la) (.slice As ns cs) (.slice An p.never.length cn) (.slice Ag p.goal.length cg)) /\ AB w D ys p.rules) /\ St w0 w_.drew (.box g6 43 xs :: .box g5 30 us :: .box g3 30 (cond (false, false).2 us #[.int .i64 0, .slice none 0 0, .int .u64 0, .slice none 0 0, .slice none 0 0, .slice none 0 0]) :: .box g2 43 (cond (false, false).1 xs #[.int .i64 0, .pointer none, .slice none 0 0, .slice none 0 0, .slice none 0 0, .slice none 0 0]) :: F') K7 := ⟨_, Lib.hid fun _ _ h => h, hS.drew⟩
 have hRr := @SR.refl w0 (fun s => .box g6 43 xs :: .box g5 30 us :: .box g3 30 (cond s.2 us #[.int .i64 0, .slice none 0 0, .int .u64 0, .slice none 0 0, .slice none 0 0, .slice none 0 0]) :: .box g2 43 (cond s.1 xs #[.int .i64 0, .pointer none, .slice none 0 0, .slice none 0 0, .slice none 0 0, .slice none 0 0]) :: F') K7
 have hRt := @SR.trans w0 (fun s => .box g6 43 xs :: .box g5 30 us :: .box g3 30 (cond s.2 us #[.int .i64 0, .slice none 0 0, .int .u64 0, .slice none 0 0, .slice none 0 0, .slice none 0 0]) :: .box g2 43 (cond s.1 xs #[.int .i64 0, .pointer none, .slice none 0 0, .slice none 0 0, .slice none 0 0, .slice none 0 0]) :: F') K7
 have hN0 : ∀ _ : Nat, True := fun _ => trivial
 clear hS
 refine Ed (SR w0 (fun s => .box g6 43 xs :: .box g5 30 us :: .box g3 30 (cond s.2 us #[.int .i64 0, .slice none 0 0, .int .u64 0, .slice none 0 0, .slice none 0 0, .slice none 0 0]) :: .box g2 43 (cond s.1 xs #[.int .i64 0, .pointer none, .slice none 0 0, .slice none 0 0, .slice none 0 0, .slice none 0 0]) :: F') K7) (fun _ _ => True) ((false, false)) hRr hRt [.i (.agg xs), .i (.agg us), .b true, .s (fun v w => w.2.1 = true) fun v w w' h hb => hb.2.1 h, .s (fun v w => w.2.2 = true) fun v w w' h hb => hb.2.2 h, .b true] ?_ ⟨?_, ?_, uM, ?_, ?_, uA, trivial⟩ ?_
 ·first | assumption | (intro i; (try dsimp only); split <;> first | trivial | assumption | (left; assumption))
 ·refine uG fun b__ w hW hN hE K hK => ?_
  have e6 : b__.eval (.tmp 6) = .pointer (some ⟨g6, 0, none⟩) := hE 6
  exact C2 rfl e6 ((hW.1 hJ0).box 0 rfl) Tryz.underlying43 rfl (by rw [hx6.out]; kernel_rfl) (hK _ _ rfl ⟨hRr _, fun _ _ h => h⟩)
 ·refine uG fun b__ w hW hN hE K hK => ?_
  have e5 : b__.eval (.tmp 5) = .pointer (some ⟨g5, 0, none⟩) := hE 5
  exact C2 rfl e5 ((hW.1 hJ0).box 1 rfl) Tryz.underlying30 rfl (by rw [hu6.out]; kernel_rfl) (hK _ _ rfl ⟨hRr _, fun _ _ h => h⟩)
 ·refine uG fun b__ w hW hN hE K hK => ?_
  have e2 : b__.eval (.tmp 2) = .pointer (some ⟨g2, 0, none⟩) := hE 2
  have e15 := hE 15
  have hS := hW.1 hJ0
  exact CW rfl e2 e15 (hS.box 3 rfl) (by rw [hx6.out]; kernel_rfl) (by cases w.2.1; exact hx6.out.symm; rfl) hx1 fun w4 h1 hU => hK undef (w4, (true, w.2.2)) rfl ⟨⟨fun _ => hS.upd 3 rfl (.box g2 43 xs) (Bv hU) ⟨(hS.holds _ (List.mem_of_getElem? (i := 3) rfl)).1, h1⟩ fun _ e => .inl e, fun _ => rfl, id⟩, fun _ _ h => h⟩
 ·refine uG fun b__ w hW hN hE K hK => ?_
  have e3 : b__.eval (.tmp 3) = .pointer (some ⟨g3, 0, none⟩) := hE 3
  have e16 := hE 16
  have hS := hW.1 hJ0
  exact CW rfl e3 e16 (hS.box 2 rfl) (by rw [hu6.out]; kernel_rfl) (by cases w.2.2; exact hu6.out.symm; rfl) hu1 fun w4 h1 hU => hK undef (w4, (w.2.1, true)) rfl ⟨⟨fun _ => hS.upd 2 rfl (.box g3 30 us) (Bv hU) ⟨(hS.holds _ (List.mem_of_getElem? (i := 2) rfl)).1, h1⟩ fun _ e => .inl e, id, fun _ => rfl⟩, fun _ _ h => h⟩
 ·intro vs wz hW hT
  obtain ⟨e15, e16, e17, z3, z4, e4, -⟩ := hT
  have bx : (fun _ : Nat => True) 0 := trivial
  simp only [AL, Act.put, zz, ze]
  obtain ⟨_, hst⟩ := z3
  obtain ⟨_, hst2⟩ := z4
  have hS : St w0 wz.1 (.box g6 43 xs :: .box g5 30 us :: .box g3 30 (cond wz.2.2 us #[.int .i64 0, .slice none 0 0, .int .u64 0, .slice none 0 0, .slice none 0 0, .slice none 0 0]) :: .box g2 43 (cond wz.2.1 xs #[.int .i64 0, .pointer none, .slice none 0 0, .slice none 0 0, .slice none 0 0, .slice none 0 0]) :: F') K7 := hW.1 hJ0
  rw [show wz.2.1 = true from hst, show wz.2.2 = true from hst2] at hS
  dsimp only [cond] at hS
  clear hW hJ0 hRr hRt hN0 hst hst2
  generalize wz.1 = wf at *
  simp only [show vs (4 : Nat) = _ from e4]
  go_wp2_with fail
  refine ret_cct Tryz.results18 rfl (hS.box 3 rfl) Tryz.underlying43 rfl (by rw [hx6.out]; kernel_rfl) rfl (hS.box 2 rfl) Tryz.underlying30 rfl (by rw [hu6.out]; kernel_rfl) rfl rfl ?_
  have hS3 := hS.sub (F' := F') ((((List.sublist_cons_self _ _).trans (List.sublist_cons_self _ _)).trans (List.sublist_cons_self _ _)).trans (List.sublist_cons_self _ _))
  rw [hF'.out] at hS3
  exact ⟨p, la, A, As, ns, cs, c, _, _, _, ys, by rw [hxs.out]; rfl, ⟨L, R, hM.out⟩, hS3.mono (((KS.out.and Ct).and EV).and BT) fun D w h => k7.out _ _ h⟩
end
end Go.Proofs.YtchjigffejhmfaaGreatDoor
