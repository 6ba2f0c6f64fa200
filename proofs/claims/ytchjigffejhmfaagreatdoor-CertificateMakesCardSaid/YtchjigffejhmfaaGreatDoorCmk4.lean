/-
  What the statement needs, part 4.
-/
import Derived.Laws.CopyRow
import Derived.Deep.MidRow
import Derived.Deep.Cut
import Derived.Laws.CopyOwn
import Derived.Laws.IdiomStrings
import Derived.Lib.BufferRead
import Derived.Test.YtchjigffejhmfaaGreatDoorShelf
import Derived.Lib.MinMax
import Derived.Laws.BitsAllLaws
import Derived.Test.YtchjigffejhmfaaGreatDoorCmk3
namespace Go.Proofs.YtchjigffejhmfaaGreatDoor
section
open Go.RowKit
attribute [local go_sem ↓] Go.wp_at_zero Go.wp_at_succ
set_option maxRecDepth 20000
theorem K9 {P : Program} (w : World) (T e : TypeId) (len : Nat) (cs : Array Value) (k : Nat) (x : Value) (ht : P.underlying T = some (.array len e)) (he : P.plainKey e = true) (hi : (P.info? e).isSome = true) (hs : P.cellsOf e = 1) (hk : k < len) (hc : cs[k]? = some x) :
  (Instr.index T (.agg cs) (.int .i64 (k : Int))).run P w = .ok x w := by
 obtain ⟨i, hi⟩ := Option.isSome_iff_exists.1 hi
 have h1 : ((k : Int) < (len : Int)) := by omega
 simp [Instr.index, run_underlying ht, asIntOf, run_sizeOf w hi, hs, h1]
 rw [if_pos hk]
 exact run_part_plain w he hc
set_option maxHeartbeats 4000000 in
theorem permute_any (b : Nat) (t : TypeId) (a : List Nat) (rest : List Value) (w : World) (hT : Gx w) (hA : AX w b t (At a ++ rest).toArray) (hl : a.length = 25) (hw : Ax a)
  (hb1 : 1 ≠ b /\ 2 ≠ b) :
  Calls Tryz.prog 237 #[.pointer (some ⟨b, 0, none⟩)] w (fun e w' => e = .returned (.tuple #[]) /\ AX w' b t (At (perm a) ++ rest).toArray /\ WF (fun _ => False) b w w') := by
 obtain ⟨⟨tr, hR⟩, tt, hTT⟩ := id hT
 have HR := Lib.hid hR
 have hi : (Tryz.prog.info? 273).map (·.size) = some (At Bm).toArray.size := by kernel_rfl
 have HI := Lib.hid hi
 have hcs : ∀ k : Nat, k < 24 -> (At Bm).toArray[k]? = some (.int .u64 (Bm.getD k 0 : Nat)) := fun k hk => by rw [List.getElem?_toArray]; exact C6 _ _ hk
 have HCS := Lib.hid hcs
 have hsz : (At Bm).toArray.size = 24 := rfl
 generalize (At Bm).toArray = cs at *
 clear hR hTT hi hcs
 go_enter Tryz.func237, Tryz.ntmps237
 go_wp2_with ((with_reducible refine qA 12 ?_); refine wpList_load_row rfl 273 _ rfl 1 rfl tr.1 cs tr.2 _ HR.out Tryz.underlying273 rfl HI.out ?_)
 go_loopw [13] (fun i wr => ∃ k : Nat, k <= 24 /\ i = .int .i64 k /\ AX wr b t (At (EG a k) ++ rest).toArray /\ WF (fun _ => False) b w wr) (fun i _ => 24 - (intOf i).toNat)
 case atStart => exact ⟨0, by omega, rfl, hA, WF.refl _ _ _⟩
 case round =>
  clear hA
  obtain ⟨k, hk, rfl, hA, hF⟩ := hrel
  generalize wr = W0 at *
  by_cases hlt : k < 24
  ·have hck : ∀ wx, (Instr.index 273 (.agg cs) (.int .i64 (k : Int))).run Tryz.prog wx = .ok (.int .u64 (Bm.getD k 0 : Nat)) wx := fun wx => K9 wx _ 26 24 cs k _ Tryz.underlying273 (by kernel_rfl) (by kernel_rfl) (by kernel_rfl) hlt (HCS.out k hlt)
   have hok := IP hw hl k hk
   have hrl := IM k
   obtain ⟨hwk, hlk⟩ := hok
   have HS := Lib.hid (FS a k hlt)
   generalize EG a k = A at *
   generalize Bm.getD k 0 = c at *
   have hTr := hT.wf hF hb1
   have HTr := Lib.hid hTr
   have HF := Lib.hid hF
   clear hTr hF
   go_wp2_with fail
   have hdk : decide ((k : Int) < 24) = true := by simp; omega
   simp only [hdk]
   clear hdk
   have hC := AX.new W0 274 #[.int .u64 0, .int .u64 0, .int .u64 0, .int .u64 0, .int .u64 0]
   have hA1 := hA.alloc (.cells #[.int .u64 0, .int .u64 0, .int .u64 0, .int .u64 0, .int .u64 0] 274)
   have hB1 : Below W0.heap.size W0 (W0.alloc (.cells #[.int .u64 0, .int .u64 0, .int .u64 0, .int .u64 0, .int .u64 0] 274)) := (Below.refl _ _).alloc (Nat.le_refl _) _
   have hbl := hA.lt
   go_loopw [16] (fun i wc => ∃ x : Nat, x <= 5 /\ i = .int .i64 x /\ AX wc W0.heap.size 274 (At (BC (kc A) x 5) ++ []).toArray /\ AX wc b t (At A ++ rest).toArray /\ Below W0.heap.size W0 wc) (fun i _ => 5 - (intOf i).toNat)
   case atStart => exact ⟨0, by omega, rfl, hC, hA1, hB1⟩
   case round =>
    clear hA1 hC hB1 hA
    obtain ⟨x, hx, rfl, hC, hA, hB⟩ := hrel
    by_cases hlt2 : x < 5
    ·
     have h0 := hA.word (i := x) (by omega)
     have h1 := hA.word (i := x + 5) (by omega)
     have h2 := hA.word (i := x + 10) (by omega)
     have h3 := hA.word (i := x + 15) (by omega)
     have h4 := hA.word (i := x + 20) (by omega)
     have h5 := hC.word (i := x) (by rw [DE]; omega)
     have h6 := hC.free x
     have hkc : kc A x = (((A.getD x 0 ^^^ A.getD (x + 5) 0) ^^^ A.getD (x + 10) 0) ^^^ A.getD (x + 15) 0) ^^^ A.getD (x + 20) 0 := rfl
     have l0 := hwk.getD x
     have l1 := hwk.getD (x + 5)
     have l2 := hwk.getD (x + 10)
     have l3 := hwk.getD (x + 15)
     have l4 := hwk.getD (x + 20)
     generalize A.getD x 0 = a0 at *
     generalize A.getD (x + 5) 0 = a1 at *
     generalize A.getD (x + 10) 0 = a2 at *
     generalize A.getD (x + 15) 0 = a3 at *
     generalize A.getD (x + 20) 0 = a4 at *
     have HK := Lib.hid hkc
     clear hkc
     go_wp2_with (go_region)
     have he : bits .xor .u64 (bits .xor .u64 (bits .xor .u64 (bits .xor .u64 (a0 : Int) (a1 : Int)) (a2 : Int)) (a3 : Int)) (a4 : Int) = ((kc A x : Nat) : Int) := by
      rw [Eo l0 l1, Eo (BR l0 l1) l2, Eo (BR (BR l0 l1) l2) l3, Eo (BR (BR (BR l0 l1) l2) l3) l4, HK.out]
     rw [he]
     refine ⟨⟨x + 1, hlt2, by go_num, ?_, (hA.far (by show b ≠ W0.heap.size; omega) _).drew, (hB.setCell (Nat.le_refl _) _).drew⟩, by simp [intOf]; omega⟩
     have := (hC.setW (i := x) (by rw [DE]; omega) (kc A x)).drew
     rw [Ek] at this
     exact this
    ·have hx5 : x = 5 := by omega
     rw [hx5] at hC
     go_wp2_with fail
     clear hx5 hlt2 hx
     have hD := AX.new wr 251 (At (List.replicate 25 0) ++ []).toArray
     have hA1 := hA.alloc (.cells (At (List.replicate 25 0) ++ []).toArray 251)
     have hC1 := hC.alloc (.cells (At (List.replicate 25 0) ++ []).toArray 251)
     have hB1 := hB.alloc (by exact hB.size) (.cells (At (List.replicate 25 0) ++ []).toArray 251)
     rw [Dl] at hC1
     have hwC := Ii hwk
     have hlC : ((List.range 5).map (kc A)).length = 5 := by simp
     obtain ⟨C, hCE⟩ : ∃ C, C = (List.range 5).map (kc A) := ⟨_, rfl⟩
     rw [<- hCE] at hC1 hwC hlC
     have HCE := Lib.hid hCE
     clear hCE
     have hcl := hC.lt
     have hal := hA.lt
     clear hC hA hB hck
     generalize wr = W1 at *
     go_loopw [55] (fun i wd => ∃ x : Nat, x <= 5 /\ i = .int .i64 x /\ AX wd W1.heap.size 251 (At (FY A C x) ++ []).toArray /\ AX wd W0.heap.size 274 (At C ++ []).toArray /\ AX wd b t (At A ++ rest).toArray /\ Below W0.heap.size W0 wd) (fun i _ => 5 - (intOf i).toNat)
     case atStart => exact ⟨0, by omega, rfl, hD, hC1, hA1, hB1⟩
     case round =>
      clear hA1 hC1 hB1 hD
      obtain ⟨x, hx, rfl, hD, hC, hA, hB⟩ := hrel
      by_cases hlt3 : x < 5
      ·have h0 := hC.word (i := (x + 4) % 5) (by omega)
       have h1 := hC.word (i := (x + 1) % 5) (by omega)
       have HD := Lib.hid (show kd C x = C.getD ((x + 4) % 5) 0 ^^^ FN (C.getD ((x + 1) % 5) 0) 1 from rfl)
       have l0 := hwC.getD ((x + 4) % 5)
       have l1 := hwC.getD ((x + 1) % 5)
       generalize C.getD ((x + 4) % 5) 0 = c0 at *
       generalize C.getD ((x + 1) % 5) 0 = c1 at *
       go_wp2_with (go_quiet ((go_at_call 242; exact Calls.quiet_of_same (rotl_one _ _ l1))))
       have HE := Lib.hid (show bits .xor .u64 (c0 : Int) (FN c1 1 : Nat) = ((kd C x : Nat) : Int) by rw [Eo l0 (JH l1), HD.out])
       have hdx : decide ((x : Int) < 5) = true := by simp; omega
       simp only [HE.out, hdx]
       clear hdx
       have ld := kd_lt hwC x
       clear h0 h1 HD HE l0 l1
       have hD1 := hD.drewN nq
       have hC1 := hC.drewN nq
       have hA1 := hA.drewN nq
       have hB1 := DG hB nq
       generalize wr.drewN nq = W2 at *
       have hwB := DB hwk hwC x
       have hlB := Ij A C x
       have HSB := Lib.hid (IX A C x)
       generalize FY A C x = B at *
       clear hD hC hA hB
       go_loopw [70] (fun i we => ∃ y : Nat, y <= 5 /\ i = .int .i64 y /\ AX we W1.heap.size 251 (At (DR A C B x y) ++ []).toArray /\ AX we W0.heap.size 274 (At C ++ []).toArray /\ AX we b t (At A ++ rest).toArray /\ Below W0.heap.size W0 we) (fun i _ => 5 - (intOf i).toNat)
       case atStart => exact ⟨0, by omega, rfl, hD1, hC1, hA1, hB1⟩
       case round =>
        clear hA1 hC1 hB1 hD1
        obtain ⟨y, hy, rfl, hD, hC, hA, hB⟩ := hrel
        by_cases hlt4 : y < 5
        ·have hlR := IY A C B x y
         have h0 := hA.word (i := x + 5 * y) (by omega)
         have h1 := (HTr.out.ext hB).turn (k := x + 5 * y) (by omega)
         have h2 := hD.word (i := y + 5 * ((2 * x + 3 * y) % 5)) (by omega)
         have h3 := hD.free (y + 5 * ((2 * x + 3 * y) % 5))
         have l0 := hwk.getD (x + 5 * y)
         have l1 := turns_lt (x + 5 * y)
         have HK := Lib.hid (show kbAt A C x (DR A C B x y) y = (DR A C B x y).set (y + 5 * ((2 * x + 3 * y) % 5)) (FN (A.getD (x + 5 * y) 0 ^^^ kd C x) (Co.getD (x + 5 * y) 0)) from rfl)
         have HSR := Lib.hid (H7 A C B x y)
         generalize A.getD (x + 5 * y) 0 = a0 at *
         generalize Co.getD (x + 5 * y) 0 = t0 at *
         generalize DR A C B x y = R at *
         have lx := BR l0 ld
         have hcall : ∀ wx, Calls Tryz.prog 242 #[.int .u64 (bits .xor .u64 (a0 : Int) (kd C x : Nat)), .int .i64 (t0 : Int)] wx (fun e w' => e = .returned (.int .u64 (FN (a0 ^^^ kd C x) t0 : Nat)) /\ w' = wx) := fun wx => by rw [Eo l0 ld]; exact rotl_any _ _ _ lx l1
         clear l0 l1 lx ld
         have s1 : IntKind.i64.wrap (5 * (y : Int)) = 5 * (y : Int) := IntWalk.i64_in _ (by omega)
         have s2 : IntKind.i64.wrap ((x : Int) + 5 * (y : Int)) = (x : Int) + 5 * (y : Int) := IntWalk.i64_in _ (by omega)
         have s3 : 0 <= (x : Int) + 5 * (y : Int) := by omega
         have s4 : (x : Int) + 5 * (y : Int) < 25 := by omega
         have s5 : ((x : Int) + 5 * (y : Int)).toNat = x + 5 * y := by omega
         have s6 : IntKind.i64.wrap (2 * (x : Int)) = 2 * (x : Int) := IntWalk.i64_in _ (by omega)
         have s7 : IntKind.i64.wrap (3 * (y : Int)) = 3 * (y : Int) := IntWalk.i64_in _ (by omega)
         have s8 : IntKind.i64.wrap (2 * (x : Int) + 3 * (y : Int)) = 2 * (x : Int) + 3 * (y : Int) := IntWalk.i64_in _ (by omega)
         have s9 : (2 * (x : Int) + 3 * (y : Int)).tmod 5 = (2 * (x : Int) + 3 * (y : Int)) % 5 := Int.tmod_eq_emod_of_nonneg (by omega)
         have s10 : IntKind.i64.wrap ((2 * (x : Int) + 3 * (y : Int)) % 5) = (2 * (x : Int) + 3 * (y : Int)) % 5 := IntWalk.i64_in _ (by omega)
         have s11 : IntKind.i64.wrap (5 * ((2 * (x : Int) + 3 * (y : Int)) % 5)) = 5 * ((2 * (x : Int) + 3 * (y : Int)) % 5) := IntWalk.i64_in _ (by omega)
         have s12 : IntKind.i64.wrap ((y : Int) + 5 * ((2 * (x : Int) + 3 * (y : Int)) % 5)) = (y : Int) + 5 * ((2 * (x : Int) + 3 * (y : Int)) % 5) := IntWalk.i64_in _ (by omega)
         have s13 : 0 <= (y : Int) + 5 * ((2 * (x : Int) + 3 * (y : Int)) % 5) := by omega
         have s14 : (y : Int) + 5 * ((2 * (x : Int) + 3 * (y : Int)) % 5) < 25 := by omega
         have s15 : ((y : Int) + 5 * ((2 * (x : Int) + 3 * (y : Int)) % 5)).toNat = y + 5 * ((2 * x + 3 * y) % 5) := by omega
         go_wp2_with fail
         go_still_tail 27, (by kernel_rfl)
         still_call (hcall _)
         repeat still_step
         refine wpStill_nil ?_
         clear s1 s2 s3 s4 s5 s6 s7 s8 s9 s10 s11 s12 s13 s14 s15 hcall
         change wpList _ _ _ _ _ wr.drew
         have h2' : wr.drew.cell? ⟨W1.heap.size, y + 5 * ((2 * x + 3 * y) % 5), none⟩ = _ := h2
         have h3' : wr.drew.frozen? ⟨W1.heap.size, y + 5 * ((2 * x + 3 * y) % 5), none⟩ = false := h3
         have hD' : AX wr.drew _ _ _ := hD.drew
         have hC' : AX wr.drew _ _ _ := hC.drew
         have hA' : AX wr.drew _ _ _ := hA.drew
         have hB' := hB.drew
         clear h0 h1 h2 h3 hD hC hA hB
         generalize wr.drew = w5 at *
         go_wp2_with fail
         go_round
         case rel =>
          refine ⟨y + 1, hlt4, by go_num, ?_, hC'.far (by show W0.heap.size ≠ W1.heap.size; omega) _, hA'.far (by show b ≠ W1.heap.size; omega) _, hB'.setCell (by show W0.heap.size <= W1.heap.size; omega) _⟩
          rw [HSR.out, HK.out]
          exact hD'.setW (by omega) _
         case measure => simp [intOf]; omega
        ·have hy5 : y = 5 := by omega
         rw [hy5] at hD
         clear hy5
         go_wp2_with fail
         go_round
         case rel => exact ⟨x + 1, hlt3, by go_num, by rw [HSB.out]; exact hD, hC, hA, hB⟩
         case measure => simp [intOf]; omega
      ·have hx5 : x = 5 := by omega
       rw [hx5] at hD
       go_wp2_with fail
       clear hx5 hlt3 hx
       have hwB := DB hwk hwC 5
       have HKR := Lib.hid (show Fk A c = ((List.range 25).map (ka (FY A C 5))).set 0 (ka (FY A C 5) 0 ^^^ c) by rw [HCE.out]; rfl)
       have hlB := Ij A C 5
       have hF5 : WF (fun _ => False) b W0 wr := WF.of_below hB
       generalize FY A C 5 = B at *
       clear hC hB hwC hlC HCE
       go_loopw [10] (fun i wc => ∃ r : Nat, r <= 5 /\ i = .int .i64 ((5 * r : Nat) : Int) /\ AX wc b t (At (D5 (ka B) A (5 * r)) ++ rest).toArray /\ AX wc W1.heap.size 251 (At B ++ []).toArray /\ WF (fun _ => False) b W0 wc) (fun i _ => 25 - (intOf i).toNat)
       case atStart => exact ⟨0, by omega, rfl, by rw [Ky _ _ hlk]; exact hA, hD, hF5⟩
       case round =>
        clear hA hD hF5
        obtain ⟨r, hr, rfl, hA, hD, hF⟩ := hrel
        by_cases hltr : r < 5
        ·have h25 : ((5 * r : Nat) : Int) < 25 := by omega
         go_wp2_with fail
         have hF0 := hF
         go_loopw [106] (fun i wc => ∃ x : Nat, x <= 5 /\ i = .int .i64 x /\ AX wc b t (At (D5 (ka B) A (5 * r + x)) ++ rest).toArray /\ AX wc W1.heap.size 251 (At B ++ []).toArray /\ WF (fun _ => False) b W0 wc) (fun i _ => 5 - (intOf i).toNat)
         case atStart => exact ⟨0, by omega, rfl, hA, hD, hF⟩
         case round =>
          clear hA hD hF hF0
          obtain ⟨x, hx, rfl, hA, hD, hF⟩ := hrel
          by_cases hltx : x < 5
          ·have h0 := hD.word (i := x + 5 * r) (by omega)
           have h1 := hD.word (i := (x + 1) % 5 + 5 * r) (by omega)
           have h2 := hD.word (i := (x + 2) % 5 + 5 * r) (by omega)
           have h3 := hA.word (i := x + 5 * r) (by rw [E7]; omega)
           have h4 := hA.free (x + 5 * r)
           have HK := Lib.hid (show ka B (5 * r + x) = B.getD (x + 5 * r) 0 ^^^ (BM (B.getD ((x + 1) % 5 + 5 * r) 0) &&& B.getD ((x + 2) % 5 + 5 * r) 0) by
            unfold ka
            rw [show 5 * r + x = x + 5 * r by omega, show (x + 5 * r) % 5 = x by omega, show (x + 5 * r) / 5 * 5 = 5 * r by omega])
           have l0 := hwB.getD (x + 5 * r)
           have l1 := hwB.getD ((x + 1) % 5 + 5 * r)
           have l2 := hwB.getD ((x + 2) % 5 + 5 * r)
           generalize B.getD (x + 5 * r) 0 = b0 at *
           generalize B.getD ((x + 1) % 5 + 5 * r) 0 = b1 at *
           generalize B.getD ((x + 2) % 5 + 5 * r) 0 = b2 at *
           go_wp2_with (go_region)
           have he : bits .xor .u64 (b0 : Int) (bits .and .u64 (bits .xor .u64 (if IntKind.u64.signed = true then -1 else IntKind.u64.max) (b1 : Int)) (b2 : Int)) = ((ka B (5 * r + x) : Nat) : Int) := by
            rw [notu l1, GM (EV _) l2, Eo l0 (and_lt (EV _)), HK.out]
           rw [he]
           refine ⟨⟨x + 1, hltx, by go_num, ?_, (hD.far (by show W1.heap.size ≠ b; omega) _).drew, hF.trans (WF.trans (WF.set _ _ _ _ _) (WF.of_below (Below.refl _ _).drew))⟩, by simp [intOf]; omega⟩
           have := (hA.setW (i := x + 5 * r) (by rw [E7]; omega) (ka B (5 * r + x))).drew
           rw [show x + 5 * r = 5 * r + x by omega, Kz _ _ _ (by omega)] at this
           rw [show x + 5 * r = 5 * r + x by omega]
           exact this
          ·have hx5 : x = 5 := by omega
           rw [hx5] at hA
           go_wp2_with fail
           clear hx5 hltx hx
           go_round
           case rel => exact ⟨r + 1, hltr, by go_num, hA, hD, hF⟩
           case measure => simp [intOf]; omega
        ·have hr5 : r = 5 := by omega
         rw [hr5] at hA
         have h25 : ¬ ((5 * r : Nat) : Int) < 25 := by omega
         have hm := mixTo_full (ka B) A
         rw [show 5 * 5 = 25 from rfl, hm] at hA
         have hka : (((List.range 25).map (ka B)).getD 0 0) = ka B 0 := by simp
         have h0 := hA.word (i := 0) (by simp)
         have h1 := hA.free 0
         rw [hka] at h0
         have l0 := ka_lt hwB 0
         have hx0 := Eo l0 hrl
         have HX := Lib.hid hx0
         have HM := Lib.hid (show ((List.range 25).map (ka B)).length = 25 by simp)
         clear hx0 hka hm
         generalize ka B 0 = k0 at *
         generalize (List.range 25).map (ka B) = M at *
         go_wp2_with (go_region)
         rw [HX.out]
         have hset := (hA.setW (i := 0) (by rw [HM.out]; simp) (k0 ^^^ c)).drew
         refine ⟨⟨k + 1, hlt, by go_num, ?_, HF.out.trans ((hF.trans (WF.trans (WF.set _ _ _ _ _) (WF.of_below (Below.refl _ _).drew))).imp fun _ h _ => h.elim)⟩, by simp [intOf]; omega⟩
         rw [HS.out, HKR.out]
         exact hset
  ·have hk24 : k = 24 := by omega
   rw [hk24] at hA
   go_wp2_with fail
   exact bodyPost_end (results_none rfl _ _ _) rfl ⟨rfl, by rw [perm_eq]; exact hA, hF⟩
end
section
open Go.RowKit
attribute [local go_sem ↓] Go.wp_at_zero Go.wp_at_succ
set_option maxRecDepth 20000
def lew (l : List Nat) (i : Nat) : Nat -> Nat
 | 0 => 0
 | n + 1 => (lew l i n * 256) % AE ||| l.getD (8 * i + (7 - n)) 0
theorem AK.getD {l : List Nat} (h : AK l) (k : Nat) : l.getD k 0 < 256 := by
 rcases Nat.lt_or_ge k l.length with h1 | h1
 ·rw [List.getD_eq_getElem?_getD, List.getElem?_eq_getElem h1]; exact h _ (List.getElem_mem h1)
 ·rw [List.getD_eq_getElem?_getD, List.getElem?_eq_none h1]; simp
theorem lew_lt {l : List Nat} (h : AK l) (i n : Nat) : lew l i n < AE := by
 cases n with
 | zero => simp [lew, AE]
 | succ n => exact Kr (Nat.mod_lt _ (by simp [AE])) (Nat.lt_trans (h.getD _) (by unfold AE; omega))
def absW (a l : List Nat) (i : Nat) : Nat := a.getD i 0 ^^^ lew l i 8
def CO (a l : List Nat) : List Nat := perm (D5 (absW a l) a 17)
theorem mixTo_at (f : Nat -> Nat) (a : List Nat) (k : Nat) (h : k < 25) : (D5 f a k).getD k 0 = a.getD k 0 := by
 simp [D5, List.getD_eq_getElem?_getD, h]
theorem Jj {f : Nat -> Nat} {a : List Nat} (hf : ∀ i, f i < AE) (ha : Ax a) (k : Nat) : Ax (D5 f a k) :=
 Ax.range _ _ fun j _ => by split; exact hf j; exact ha.getD j
set_option maxHeartbeats 4000000 in
theorem Hb (b : Nat) (t : TypeId) (a : List Nat) (rest : List Value) (d o cap : Nat) (l : List Nat) (w : World) (hT : Gx w) (hA : AX w b t (At a ++ rest).toArray) (hl : a.length = 25) (hw : Ax a)
  (hb1 : 1 ≠ b /\ 2 ≠ b) (hl2 : l.length = 136) (hby : AK l) (hc : 136 <= cap) (hc2 : cap <= 9223372036854775807) (hne : d ≠ b \/ 25 <= o)
  (hcell : ∀ j, j < 136 -> w.cell? ⟨d, o + j, none⟩ = some (.int .u8 (l.getD j 0 : Nat))) :
  Calls Tryz.prog 220 #[.pointer (some ⟨b, 0, none⟩), .slice (some ⟨d, o, none⟩) 136 cap] w (fun e w' => e = .returned (.tuple #[]) /\ AX w' b t (At (CO a l) ++ rest).toArray /\ WF (fun _ => False) b w w') := by
 have hcs : ∀ wr : World, (∀ q : Addr, (q.block ≠ b \/ 25 <= q.off) -> wr.cell? q = w.cell? q) -> ∀ j, j < 136 -> wr.cell? ⟨d, o + j, none⟩ = some (.int .u8 (l.getD j 0 : Nat)) := fun wr h j hj => (h ⟨d, o + j, none⟩ (by rcases hne with h1 | h1; exact .inl h1; exact .inr (by show 25 <= o + j; omega))).trans (hcell j hj)
 have HCS := Lib.hid hcs
 clear hcs hcell
 go_enter Tryz.func220, Tryz.ntmps220
 go_wp2_with fail
 go_loopw [7] (fun i wr => ∃ k : Nat, k <= 17 /\ i = .int .i64 k /\ AX wr b t (At (D5 (absW a l) a k) ++ rest).toArray /\ WF (fun _ => False) b w wr /\ ∀ q : Addr, (q.block ≠ b \/ 25 <= q.off) -> wr.cell? q = w.cell? q) (fun i _ => 17 - (intOf i).toNat)
 case atStart => exact ⟨0, by omega, rfl, by rw [Ky _ _ hl]; exact hA, WF.refl _ _ _, fun q _ => rfl⟩
 case round =>
  clear hA
  obtain ⟨k, hk, rfl, hA, hF, hq⟩ := hrel
  by_cases hlt : k < 17
  ·have HC := Lib.hid (HCS.out wr hq)
   have HQ := Lib.hid hq
   clear hq
   have hdk : decide ((k : Int) < 17) = true := by simp; omega
   go_wp2_with fail
   try simp only [hdk]
   clear hdk
   go_loop [5, 6] (fun u i => ∃ n : Nat, n <= 8 /\ i = .int .i64 (7 - (n : Int)) /\ u = .int .u64 (lew l k n : Nat)) (fun _ i => (intOf i + 1).toNat)
   case atStart => exact ⟨0, by omega, rfl, rfl⟩
   case round =>
    obtain ⟨n, hn, rfl, rfl⟩ := hrel
    by_cases hltn : n < 8
    ·have hb := HC.out (8 * k + (7 - n)) (by omega)
     have HL := Lib.hid (show lew l k (n + 1) = (lew l k n * 256) % AE ||| l.getD (8 * k + (7 - n)) 0 from rfl)
     have l0 := lew_lt hby k n
     have l1 := hby.getD (8 * k + (7 - n))
     generalize lew l k n = x at *
     generalize l.getD (8 * k + (7 - n)) 0 = y at *
     have s1 : (8 * (k : Int) + (7 - (n : Int))).toNat = 8 * k + (7 - n) := by omega
     go_wp2_with fail
     refine ⟨⟨n + 1, hltn, by congr 1; omega, ?_⟩, by simp [intOf]; omega⟩
     have h1 : IntKind.u64.wrap ((x : Int) * 256) = ((x * 256 % AE : Nat) : Int) := by
      rw [show (x : Int) * 256 = ((x * 256 : Nat) : Int) by omega]
      exact wrap_u64 _
     rw [HL.out, h1, or64 (Nat.mod_lt _ (by simp [AE])) (Nat.lt_trans l1 (by unfold AE; omega))]
    ·have hn8 : n = 8 := by omega
     have l0 := hw.getD k
     have l1 := lew_lt hby k 8
     have HM := Lib.hid (Kz (absW a l) a k (by omega))
     have hx := Eo l0 l1
     have HX := Lib.hid (show bits .xor .u64 (a.getD k 0 : Nat) (lew l k 8 : Nat) = ((absW a l k : Nat) : Int) from hx)
     have h0 := hA.word (i := k) (by rw [E7]; omega)
     rw [mixTo_at _ _ _ (by omega)] at h0
     have h1 := hA.free k
     clear hx
     go_wp2_with fail
     clear hn8 hltn hn
     generalize lew l k 8 = L at *
     generalize a.getD k 0 = A0 at *
     go_wp2_with (go_region)
     rw [HX.out]
     refine ⟨⟨k + 1, hlt, by go_num, ?_, hF.trans (WF.trans (WF.set _ _ _ _ _) (WF.of_below (Below.refl _ _).drew)), fun q hq => ?_⟩, by simp [intOf]; omega⟩
     ·rw [<- HM.out]
      exact (hA.setW (by rw [E7]; omega) _).drew
     ·refine Eq.trans ?_ (HQ.out q hq)
      exact World.cell?_setCell_other _ _ _ _ (by rintro rfl; rcases hq with h | h; exact h rfl; have : 25 <= k := h; omega)
  ·have hk17 : k = 17 := by omega
   rw [hk17] at hA
   go_wp2_with fail
   refine (permute_any b t _ rest wr (hT.wf hF hb1) hA (E7 _ _ _) (Jj (fun i => BR (hw.getD i) (lew_lt hby i 8)) hw 17) hb1).mono ?_
   rintro e w2 ⟨rfl, hA2, hF2⟩
   go_wp2_with fail
   exact bodyPost_end (results_none rfl _ _ _) rfl ⟨rfl, hA2, hF.trans (hF2.imp fun _ h _ => h.elim)⟩
end
section
open Go.RowKit
attribute [local go_sem ↓] Go.wp_at_zero Go.wp_at_succ
set_option maxRecDepth 20000
def BB (st blk : List Nat) (u tot : Nat) : List Value := At st ++ (Ad blk ++ [.int .i64 (u : Int), .int .u64 (tot : Int)])
set_option maxHeartbeats 4000000 in
theorem new_any (w : World) :
  Calls Tryz.prog 196 #[] w (fun e w' => e = .returned (.pointer (some ⟨w.heap.size, 0, none⟩)) /\ w' = w.alloc (.cells (BB (List.replicate 25 0) (List.replicate 136 0) 0 0).toArray 254)) := by
 go_enter Tryz.func196, Tryz.ntmps196
 go_wp2_with fail
 go_ret
 exact ⟨rfl, rfl⟩
section
variable {w : World} {h : Nat} {t : TypeId} {st blk : List Nat} {u tot : Nat}
theorem E8 (hH : AX w h t (BB st blk u tot).toArray) (h1 : st.length = 25) (h2 : blk.length = 136) : w.cell? ⟨h, 161, none⟩ = some (.int .i64 (u : Int)) := by
 rw [hH.cell, List.getElem?_toArray, BB, List.getElem?_append_right (by rw [AQ]; omega), List.getElem?_append_right (by rw [Ae, AQ]; omega), Ae, AQ, h1, h2]
 rfl
theorem hash_tot (hH : AX w h t (BB st blk u tot).toArray) (h1 : st.length = 25) (h2 : blk.length = 136) : w.cell? ⟨h, 162, none⟩ = some (.int .u64 (tot : Int)) := by
 rw [hH.cell, List.getElem?_toArray, BB, List.getElem?_append_right (by rw [AQ]; omega), List.getElem?_append_right (by rw [Ae, AQ]; omega), Ae, AQ, h1, h2]
 rfl
theorem J0 (hH : AX w h t (BB st blk u tot).toArray) (h1 : st.length = 25) (h2 : blk.length = 136) (j : Nat) (hj : j < 136) : w.cell? ⟨h, 25 + j, none⟩ = some (.int .u8 (blk.getD j 0 : Nat)) := by
 rw [hH.cell, List.getElem?_toArray, BB, List.getElem?_append_right (by rw [AQ]; omega), AQ, h1, show 25 + j - 25 = j by omega, List.getElem?_append_left (by rw [Ae]; omega), CU _ _ (by omega)]
theorem IZ (hH : AX w h t (BB st blk u tot).toArray) (h1 : st.length = 25) (h2 : blk.length = 136) (v : Nat) : AX (w.setCell ⟨h, 161, none⟩ (.int .i64 (v : Int))) h t (BB st blk v tot).toArray := by
 have := hH.set 161 (.int .i64 (v : Int))
 rw [List.setIfInBounds_toArray, BB, List.set_append_right _ _ (by rw [AQ]; omega), List.set_append_right _ _ (by rw [Ae, AQ]; omega), Ae, AQ, h1, h2] at this
 exact this
theorem hash_setT (hH : AX w h t (BB st blk u tot).toArray) (h1 : st.length = 25) (h2 : blk.length = 136) (v : Nat) : AX (w.setCell ⟨h, 162, none⟩ (.int .u64 (v : Int))) h t (BB st blk u v).toArray := by
 have := hH.set 162 (.int .u64 (v : Int))
 rw [List.setIfInBounds_toArray, BB, List.set_append_right _ _ (by rw [AQ]; omega), List.set_append_right _ _ (by rw [Ae, AQ]; omega), Ae, AQ, h1, h2] at this
 exact this
theorem hash_lay (h1 : st.length = 25) (h2 : blk.length = 136) (l : List Nat) (hl : l.length <= 136) :
  ((BB st blk u tot).toArray.toList.take 25 ++ Ad l ++ (BB st blk u tot).toArray.toList.drop (25 + (Ad l).length)).toArray = (BB st (l ++ blk.drop l.length) u tot).toArray := by
 congr 1
 have e1 : (At st).length = 25 := by rw [AQ, h1]
 rw [Ae]
 simp only [BB]
 rw [List.take_append_of_le_length (by omega), List.take_of_length_le (by omega), List.drop_append, List.drop_eq_nil_of_le (show (At st).length <= 25 + l.length by omega), e1, show 25 + l.length - 25 = l.length by omega,
  List.nil_append, List.drop_append_of_le_length (by rw [Ae]; omega), F4]
 simp [Ad, List.map_drop]
end
def EA (l : List Nat) (j : Nat) : List Nat := (l.drop (136 * j)).take 136
def stB (st l : List Nat) : Nat -> List Nat
 | 0 => st
 | j + 1 => CO (stB st l j) (EA l j)
theorem perm_ok {a : List Nat} (h : Ax a) (hl : a.length = 25) : Ax (perm a) /\ (perm a).length = 25 := IP h hl 24 (Nat.le_refl _)
theorem Fq {a l : List Nat} (h : Ax a) (hb : AK l) : Ax (CO a l) /\ (CO a l).length = 25 :=
 perm_ok (Jj (fun i => BR (h.getD i) (lew_lt hb i 8)) h 17) (E7 _ _ _)
theorem AK.take {l : List Nat} (h : AK l) (k : Nat) : AK (l.take k) := fun x hx => h x (List.mem_of_mem_take hx)
theorem AK.drop {l : List Nat} (h : AK l) (k : Nat) : AK (l.drop k) := fun x hx => h x (List.mem_of_mem_drop hx)
theorem AK.append {a b : List Nat} (h : AK a) (k : AK b) : AK (a ++ b) := fun x hx => by rcases List.mem_append.1 hx with h1 | h1; exact h x h1; exact k x h1
theorem stB_ok {st l : List Nat} (h : Ax st) (hl : st.length = 25) (hb : AK l) (j : Nat) : Ax (stB st l j) /\ (stB st l j).length = 25 := by
 induction j with
 | zero => exact ⟨h, hl⟩
 | succ j ih => exact Fq ih.1 ((hb.drop _).take _)
theorem WF.tr {q : Nat} {a b c : World} (h : WF (fun _ => False) q a b) (k : WF (fun _ => False) q b c) : WF (fun _ => False) q a c := h.trans (k.imp fun _ h _ => h.elim)
theorem WF.row (w : World) (h : Nat) (cs : Array Value) : WF (fun _ => False) h w (w.setRow h cs) :=
 ⟨rfl, rfl, rfl, by simp, fun k _ hq _ => setRow_other w h k cs hq, fun k cs' t fr hk _ h3 => (setRow_other w h k cs hk).trans h3⟩
set_option maxHeartbeats 4000000 in
theorem hwrite_any (h : Nat) (p : Value) (st l blk0 : List Nat) (tot : Nat) (w : World) (D : Nat -> Prop) (hT : Gx w) (hH : AX w h 254 (BB st blk0 0 tot).toArray) (h1 : st.length = 25) (hw : Ax st) (h2 : blk0.length = 136) (hb0 : AK blk0)
  (hp : Sl w D 1 p l.length (Ad l)) (hby : AK l) (hD : ∀ b, D b -> b < w.heap.size -> b ≠ h) (hb1 : 1 ≠ h /\ 2 ≠ h) (htot : tot + l.length < AE) :
  Calls Tryz.prog 197 #[.pointer (some ⟨h, 0, none⟩), p] w (fun e w' => e = .returned (.tuple #[]) /\
   (∃ blk, blk.length = 136 /\ AK blk /\ (∀ i, i < l.length % 136 -> blk.getD i 0 = l.getD (136 * (l.length / 136) + i) 0) /\ AX w' h 254 (BB (stB st l (l.length / 136)) blk (l.length % 136) (tot + l.length)).toArray) /\ WF (fun _ => False) h w w') := by
 obtain ⟨A, c, rfl, hc, hc2⟩ := hp.shape
 have htc := hash_tot hH h1 h2
 have htf := hH.free 162
 have htw : IntKind.u64.wrap ((tot : Int) + (l.length : Int)) = ((tot + l.length : Nat) : Int) := by rw [IntWalk.u64_in _ (by unfold AE at htot; omega)]; omega
 have hlw : IntKind.u64.wrap (l.length : Int) = (l.length : Int) := IntWalk.u64_in _ (by unfold AE at htot; omega)
 go_enter Tryz.func197, Tryz.ntmps197
 go_wp2_with fail
 have hH1 := hash_setT hH h1 h2 (tot + l.length)
 have hp1 := (hp.imp (D' := fun b => D b /\ b ≠ h) fun b ha hb => ⟨ha, hD b ha hb⟩).setCell (q := ⟨h, 162, none⟩) (fun e => e.2 rfl) (.int .u64 ((tot + l.length : Nat) : Int))
 have hF1 := WF.set (fun _ => False) h w 162 (.int .u64 ((tot + l.length : Nat) : Int))
 rw [Int.natCast_add] at hH1 hp1 hF1
 have hw0 : w.heap.size = (w.setCell ⟨h, 162, none⟩ (.int .u64 ((tot : Int) + (l.length : Int)))).heap.size := by simp
 clear htc htf htw hlw hH hp
 generalize w.setCell ⟨h, 162, none⟩ (.int .u64 ((tot : Int) + (l.length : Int))) = W1 at *
 obtain ⟨tot1, htot1⟩ : ∃ tot1, tot1 = tot + l.length := ⟨_, rfl⟩
 rw [<- htot1] at hH1
 have HT1 := Lib.hid htot1
 clear htot1
 have hlen : l.length <= 9223372036854775807 := by omega
 go_loopw [1] (fun pv wr => ∃ (j m u : Nat) (blk : List Nat), 136 * j + u + m = l.length /\ u < 136 /\ (0 < m -> u = 0) /\ blk.length = 136 /\ AK blk /\ (∀ i, i < u -> blk.getD i 0 = l.getD (136 * j + i) 0) /\
   Sl wr (fun b => D b /\ b ≠ h) 1 pv m (Ad (l.drop (l.length - m))) /\ AX wr h 254 (BB (stB st l j) blk u tot1).toArray /\ WF (fun _ => False) h w wr) (fun pv _ => match pv with | .slice _ n _ => n | _ => 0)
 case atStart => exact ⟨0, l.length, 0, blk0, by omega, by omega, fun _ => rfl, h2, hb0, fun i hi => by omega, by rw [Nat.sub_self, List.drop_zero]; exact hp1, hH1, hF1⟩
 case round =>
  clear hp1 hH1 hF1
  obtain ⟨j, m, u, blk, hjm, hu, hum, hbl, hbb, hbi, hp, hH, hF⟩ := hrel
  obtain ⟨A', c', rfl, hc', hc2'⟩ := hp.shape
  rcases Nat.eq_zero_or_pos m with rfl | hm
  ·go_wp2_with fail
   have hj : j = l.length / 136 := by omega
   have hu2 : u = l.length % 136 := by omega
   rw [<- HT1.out]
   exact bodyPost_end (results_none rfl _ _ _) rfl ⟨rfl, ⟨blk, hbl, hbb, by rw [<- hj, <- hu2]; exact hbi, by rw [<- hj, <- hu2]; exact hH⟩, hF⟩
  ·obtain rfl := hum hm
   have hst := stB_ok hw h1 hby j
   have huc := E8 hH hst.2 hbl
   obtain ⟨hlx, A0, c0, he, _, _, hcells⟩ := id hp
   injection he with he1 he2 he3
   subst he1 he3
   obtain ⟨b, o, rfl, hDb, hbs, hcell⟩ := hcells hm
   obtain ⟨n, hn⟩ : ∃ n, n = min 136 m := ⟨_, rfl⟩
   obtain ⟨X, hXe⟩ : ∃ X, X = (l.drop (l.length - m)).take 136 := ⟨_, rfl⟩
   have hX : X.length = n := by rw [hXe, hn]; simp; omega
   have hXb : AK X := by rw [hXe]; exact (hby.drop _).take _
   have hcopy : (Builtin.copy_ #[22, 22] 3 #[.slice (some ⟨h, 25, none⟩) 136 136, .slice (some ⟨b, o, none⟩) m c']).run Tryz.prog wr.drew =
     .ok (goInt (n : Nat)) (wr.drew.setRow h (BB (stB st l j) (X ++ blk.drop n) 0 tot1).toArray) := by
    have := run_copy_row (P := Tryz.prog) wr.drew 22 22 3 5 h 25 136 136 ⟨b, o, none⟩ m c' _ _ (Ad X) Tryz.underlying22 (by kernel_rfl) hH
     (by rw [Ae, hX, hn, Nat.min_comm]) (fun i v hv => ?_) (by rw [Ae, hX]; simp [BB, AQ, Ae, hst.2, hbl]; omega) (B7 _)
    ·rw [hash_lay hst.2 hbl _ (by omega), Ae, hX] at this
     exact this
    ·have hadd : (⟨b, o, none⟩ : Addr).add i = ⟨b, o + i, none⟩ := by unfold Addr.add; split <;> simp_all
     rw [hadd]
     refine hcell i v ?_
     rw [<- hv, hXe, Ad, Ad, List.map_take]
     have : i < n := by
      rcases Nat.lt_or_ge i n with h | h
      ·exact h
      ·rw [List.getElem?_eq_none (by rw [Ae, hX]; exact h)] at hv; cases hv
     rw [List.getElem?_take, if_pos (by omega)]
   have hblk1 : (X ++ blk.drop n).length = 136 := by simp; omega
   have hbb1 : AK (X ++ blk.drop n) := hXb.append (hbb.drop _)
   have hH2 : AX (wr.drew.setRow h (BB (stB st l j) (X ++ blk.drop n) 0 tot1).toArray) h 254 (BB (stB st l j) (X ++ blk.drop n) 0 tot1).toArray := setRow_heap _ _ _ _ _ _ hH
   have hF2 : WF (fun _ => False) h wr (wr.drew.setRow h (BB (stB st l j) (X ++ blk.drop n) 0 tot1).toArray) := WF.trans (WF.of_below (Below.refl _ _).drew) ((WF.row _ _ _).imp fun _ h _ => h.elim)
   generalize wr.drew.setRow h (BB (stB st l j) (X ++ blk.drop n) 0 tot1).toArray = W2 at *
   have huc2 := E8 hH2 hst.2 hblk1
   have huf2 := hH2.free 161
   have hH3 := IZ hH2 hst.2 hblk1 n
   have hF3 := hF2.trans ((WF.set (fun _ => False) h W2 161 (.int .i64 (n : Int))).imp fun _ h _ => h.elim)
   have hnm : n <= m := by omega
   have hnc : n <= c' := by omega
   have hn136 : n <= 136 := by omega
   have hbi2 : ∀ i, i < n -> (X ++ blk.drop n).getD i 0 = l.getD (136 * j + i) 0 := fun i hi => by
    rw [List.getD_eq_getElem?_getD, List.getElem?_append_left (by omega), hXe, List.getElem?_take, if_pos (by omega), List.getElem?_drop, <- List.getD_eq_getElem?_getD]
    congr 1; omega
   have HB2 := Lib.hid hbi2
   have hcase : (n = 136 /\ 136 <= m) \/ (n < 136 /\ n = m) := by omega
   have hXB := Lib.hid (show 136 <= m -> X = EA l j from fun h136 => by rw [hXe, EA]; congr 2; omega)
   have hslc : Sl wr (fun b => D b /\ b ≠ h) 1 (.slice (some ⟨b, o + n, none⟩) (m - n) (c' - n)) (m - n) (Ad (l.drop (l.length - (m - n)))) := by
    refine ⟨by simp [Ad]; omega, _, _, rfl, by omega, by unfold maxLen; omega, fun h0 => ⟨b, o + n, rfl, hDb, hbs, fun i v hv => ?_⟩⟩
    rw [Nat.add_assoc]
    refine hcell (n + i) v ?_
    rw [<- hv, Ad, Ad, List.map_drop, List.map_drop, List.getElem?_drop, List.getElem?_drop]
    congr 1; omega
   have hlen1 := hH3.lt
   clear hn hXe hbi2 hcells hcell hlx hbi hp hum he2
   rcases Nat.eq_zero_or_pos (c' - n) with hz | hz
   ·have hmz : m - n = 0 := by omega
    have hslz : Sl wr (fun b => D b /\ b ≠ h) 1 (.slice (some ⟨b, o, none⟩) (m - n) 0) (m - n) (Ad (l.drop (l.length - (m - n)))) := ⟨by simp [Ad]; omega, _, _, rfl, by omega, by simp [maxLen], fun h0 => absurd h0 (by omega)⟩
    rcases hcase with ⟨rfl, hm136⟩ | ⟨hn1, rfl⟩
    ·go_wp2_with (go_region)
     go_still_tail 7, (by kernel_rfl)
     change wpList _ _ _ _ _ (W2.setCell ⟨h, 161, none⟩ (.int .i64 ((136 : Nat) : Int))).drew
     have hHd : AX (W2.setCell ⟨h, 161, none⟩ (.int .i64 ((136 : Nat) : Int))).drew h 254 (BB (stB st l j) (X ++ blk.drop 136) 136 tot1).toArray := hH3
     have hFd : WF (fun _ => False) h w (W2.setCell ⟨h, 161, none⟩ (.int .i64 ((136 : Nat) : Int))).drew := (hF.trans (hF3.imp fun _ h _ => h.elim)).trans (WF.of_below (Below.refl _ _).drew)
     have hFe : WF (fun _ => False) h wr (W2.setCell ⟨h, 161, none⟩ (.int .i64 ((136 : Nat) : Int))).drew := hF3.trans (WF.of_below (Below.refl _ _).drew)
     generalize (W2.setCell ⟨h, 161, none⟩ (.int .i64 ((136 : Nat) : Int))).drew = W3 at *
     clear huc2 huf2 hH2 hF2 hH3 hF3
     go_wp2_with fail
     refine (Hb h 254 (stB st l j) _ h 25 136 X W3 (hT.wf hFd hb1) hHd hst.2 hst.1 hb1 hX hXb (Nat.le_refl _) (by omega) (.inr (Nat.le_refl _)) (fun i hi => by
      rw [J0 hHd hst.2 hblk1 i hi, List.getD_eq_getElem?_getD, List.getElem?_append_left (by omega), <- List.getD_eq_getElem?_getD])).mono ?_
     rintro e w4 ⟨rfl, hA4, hF4⟩
     have hst4 := Fq (l := X) hst.1 hXb
     have hH4 : AX w4 h 254 (BB (CO (stB st l j) X) (X ++ blk.drop 136) 136 tot1).toArray := hA4
     have huc4 := E8 hH4 hst4.2 hblk1
     have huf4 := hH4.free 161
     clear hA4 hHd
     go_wp2_with fail
     have hF5 : WF (fun _ => False) h wr (w4.setCell ⟨h, 161, none⟩ (.int .i64 ((0 : Nat) : Int))) := hFe.tr (hF4.tr (WF.set _ _ _ _ _))
     refine ⟨⟨j + 1, m - 136, 0, X ++ blk.drop 136, by omega, by omega, fun _ => rfl, hblk1, hbb1, fun i hi => by omega, by have hx := hslz.wf hF5 (fun b hb _ => ⟨hb.2, fun h => h⟩); rw [hmz] at hx ⊢; exact hx, ?_, hF.trans (hF5.imp fun _ h _ => h.elim)⟩, by show 0 < m; omega⟩
     have := IZ hH4 hst4.2 hblk1 0
     rw [stB, <- hXB.out hm136]
     exact this
    ·go_wp2_with (go_region)
     refine ⟨⟨j, 0, n, X ++ blk.drop n, by omega, hn1, fun h => absurd h (by omega), hblk1, hbb1, HB2.out, ?_, hH3, hF.trans (hF3.imp fun _ h _ => h.elim)⟩, by first | (show 0 < n; omega) | (show n - n < n; omega)⟩
     refine Sl.wf ?_ hF3 (fun b hb _ => ⟨hb.2, fun h => h⟩)
     rw [Nat.sub_self] at hslz
     exact hslz
   ·obtain ⟨z, hz⟩ : ∃ z, c' - n = z + 1 := ⟨c' - n - 1, by omega⟩
    have hslz := hslc
    rw [hz] at hslz
    rcases hcase with ⟨rfl, hm136⟩ | ⟨hn1, rfl⟩
    ·go_wp2_with (go_region)
     go_still_tail 7, (by kernel_rfl)
     change wpList _ _ _ _ _ (W2.setCell ⟨h, 161, none⟩ (.int .i64 ((136 : Nat) : Int))).drew
     have hHd : AX (W2.setCell ⟨h, 161, none⟩ (.int .i64 ((136 : Nat) : Int))).drew h 254 (BB (stB st l j) (X ++ blk.drop 136) 136 tot1).toArray := hH3
     have hFd : WF (fun _ => False) h w (W2.setCell ⟨h, 161, none⟩ (.int .i64 ((136 : Nat) : Int))).drew := (hF.trans (hF3.imp fun _ h _ => h.elim)).trans (WF.of_below (Below.refl _ _).drew)
     have hFe : WF (fun _ => False) h wr (W2.setCell ⟨h, 161, none⟩ (.int .i64 ((136 : Nat) : Int))).drew := hF3.trans (WF.of_below (Below.refl _ _).drew)
     generalize (W2.setCell ⟨h, 161, none⟩ (.int .i64 ((136 : Nat) : Int))).drew = W3 at *
     clear huc2 huf2 hH2 hF2 hH3 hF3
     go_wp2_with fail
     refine (Hb h 254 (stB st l j) _ h 25 136 X W3 (hT.wf hFd hb1) hHd hst.2 hst.1 hb1 hX hXb (Nat.le_refl _) (by omega) (.inr (Nat.le_refl _)) (fun i hi => by
      rw [J0 hHd hst.2 hblk1 i hi, List.getD_eq_getElem?_getD, List.getElem?_append_left (by omega), <- List.getD_eq_getElem?_getD])).mono ?_
     rintro e w4 ⟨rfl, hA4, hF4⟩
     have hst4 := Fq (l := X) hst.1 hXb
     have hH4 : AX w4 h 254 (BB (CO (stB st l j) X) (X ++ blk.drop 136) 136 tot1).toArray := hA4
     have huc4 := E8 hH4 hst4.2 hblk1
     have huf4 := hH4.free 161
     clear hA4 hHd
     go_wp2_with fail
     have hF5 : WF (fun _ => False) h wr (w4.setCell ⟨h, 161, none⟩ (.int .i64 ((0 : Nat) : Int))) := hFe.tr (hF4.tr (WF.set _ _ _ _ _))
     refine ⟨⟨j + 1, m - 136, 0, X ++ blk.drop 136, by omega, by omega, fun _ => rfl, hblk1, hbb1, fun i hi => by omega, hslz.wf hF5 (fun b hb _ => ⟨hb.2, fun h => h⟩), ?_, hF.trans (hF5.imp fun _ h _ => h.elim)⟩, by show m - 136 < m; omega⟩
     have := IZ hH4 hst4.2 hblk1 0
     rw [stB, <- hXB.out hm136]
     exact this
    ·go_wp2_with (go_region)
     refine ⟨⟨j, 0, n, X ++ blk.drop n, by omega, hn1, fun h => absurd h (by omega), hblk1, hbb1, HB2.out, ?_, hH3, hF.trans (hF3.imp fun _ h _ => h.elim)⟩, by first | (show 0 < n; omega) | (show n - n < n; omega)⟩
     refine Sl.wf ?_ hF3 (fun b hb _ => ⟨hb.2, fun h => h⟩)
     rw [Nat.sub_self] at hslz
     exact hslz
end
section
open Go.RowKit
attribute [local go_sem ↓] Go.wp_at_zero Go.wp_at_succ
set_option maxRecDepth 20000
def EW (r : List Nat) : List Nat :=
 let l := (r ++ List.replicate (136 - r.length) 0).set r.length 6
 l.set 135 (l.getD 135 0 ^^^ 128)
def Gw (a : List Nat) (i : Nat) : Nat := a.getD (i / 8) 0 / 2 ^ (8 * (i % 8)) % 256
def GT (st r : List Nat) : List Nat := (List.range 32).map (Gw (CO st (EW r)))
section
variable {w : World} {b : Nat} {t : TypeId} {l : List Nat}
theorem AX.byte (h : AX w b t (Ad l).toArray) {i : Nat} (hi : i < l.length) : w.cell? ⟨b, i, none⟩ = some (.int .u8 (l.getD i 0 : Nat)) := by
 rw [h.cell, List.getElem?_toArray, CU _ _ hi]
theorem AX.setB (h : AX w b t (Ad l).toArray) (i : Nat) (x : Nat) : AX (w.setCell ⟨b, i, none⟩ (.int .u8 (x : Int))) b t (Ad (l.set i x)).toArray := by
 have := h.set i (.int .u8 (x : Int))
 rw [List.setIfInBounds_toArray, <- G9] at this
 exact this
end
theorem lay0 (l : List Nat) (u : Nat) : ((Ad (List.replicate 136 0)).toArray.toList.take 0 ++ Ad l ++ (Ad (List.replicate 136 0)).toArray.toList.drop (0 + u)).toArray = (Ad (l ++ List.replicate (136 - u) 0)).toArray := by
 congr 1
 rw [List.take_zero, List.nil_append, F4, Nat.zero_add]
 congr 1
 show (Ad (List.replicate 136 0)).drop u = _
 rw [Ad, <- List.map_drop, List.drop_replicate]
 rfl
set_option maxHeartbeats 4000000 in
theorem hsum_any (h : Nat) (st blk : List Nat) (u tot : Nat) (w : World) (hT : Gx w) (hH : AX w h 254 (BB st blk u tot).toArray) (h1 : st.length = 25) (hw : Ax st) (h2 : blk.length = 136) (hb : AK blk) (hu : u < 136) :
  Calls Tryz.prog 198 #[.pointer (some ⟨h, 0, none⟩)] w (Aw (fun x _ => x = .agg (Ad (GT st (blk.take u))).toArray) w) := by
 have hH0 := hH.alloc (.cells (Ad (List.replicate 32 0)).toArray 87)
 have hr0 := AX.new w 87 (Ad (List.replicate 32 0)).toArray
 have hB0 : Below w.heap.size w (w.alloc (.cells (Ad (List.replicate 32 0)).toArray 87)) := (Below.refl _ _).alloc (Nat.le_refl _) _
 have hrange : (w.alloc (.cells (Ad (List.replicate 32 0)).toArray 87)).rangeAt h 0 (At st) := fun j v hv => by
  have hj : j < st.length := by
   rcases Nat.lt_or_ge j st.length with h | h
   ·exact h
   ·rw [List.getElem?_eq_none (by rw [AQ]; exact h)] at hv; cases hv
  rw [Nat.zero_add]
  rw [C6 _ _ hj] at hv
  rw [<- hv]
  exact AX.word hH0 hj
 have hi127 : (Tryz.prog.info? 251).map (·.size) = some (At st).length := by rw [AQ, h1]; kernel_rfl
 have hi127' : (Tryz.prog.info? 251).map (·.size) = some (At st).toArray.size := by simpa using hi127
 have h25 : (At (List.replicate 25 0)).toArray.size = (At st).toArray.size := by simp [AQ, h1]
 have hone : (At st).toArray.all (·.oneCell') = true := all_oneCell_toArray (by intro v hv; simp [At] at hv; obtain ⟨x, _, rfl⟩ := hv; rfl)
 have hbx1 : AX ((w.alloc (.cells (Ad (List.replicate 32 0)).toArray 87)).alloc (.cells (At (List.replicate 25 0)).toArray 251)) (w.heap.size + 1) 251 (At (List.replicate 25 0)).toArray := by
  have := AX.new (w.alloc (.cells (Ad (List.replicate 32 0)).toArray 87)) 251 (At (List.replicate 25 0)).toArray
  rw [World.size_alloc] at this
  exact this
 have HBX := Lib.hid hbx1
 clear hbx1
 have HR := Lib.hid hrange
 have HI := Lib.hid hi127
 have HI' := Lib.hid hi127'
 have H25 := Lib.hid h25
 have HO := Lib.hid hone
 clear hrange hi127 hi127' h25 hone
 go_enter Tryz.func198, Tryz.ntmps198
 go_upto_region 4 with (first
  | ((with_reducible refine qA 13 ?_); refine wpList_load_mid rfl 251 _ rfl h 0 rfl (At st) _ HR.out Tryz.underlying251 rfl HI.out ?_)
  | ((with_reducible show wpList _ _ _ (⟨none, .store 251 _ _, _, _, _, _⟩ :: _) _ _); refine wpList_store_row rfl 251 _ _ rfl (w.heap.size + 1) (At st).toArray rfl rfl 251 (At (List.replicate 25 0)).toArray HBX.out HI'.out H25.out HO.out ?_))
 change Code.wp _ _ _ _ (((w.alloc (.cells (Ad (List.replicate 32 0)).toArray 87)).alloc (.cells (At (List.replicate 25 0)).toArray 251)).setRow (w.heap.size + 1) (At st).toArray)
 have hS2 : AX (((w.alloc (.cells (Ad (List.replicate 32 0)).toArray 87)).alloc (.cells (At (List.replicate 25 0)).toArray 251)).setRow (w.heap.size + 1) (At st).toArray) (w.heap.size + 1) 251 (At st).toArray := setRow_heap _ _ _ _ _ _ HBX.out
 have hH2 : AX (((w.alloc (.cells (Ad (List.replicate 32 0)).toArray 87)).alloc (.cells (At (List.replicate 25 0)).toArray 251)).setRow (w.heap.size + 1) (At st).toArray) h 254 (BB st blk u tot).toArray := (setRow_other _ _ _ _ (by have := hH.lt; omega)).trans (hH0.alloc _)
 have hr2 : AX (((w.alloc (.cells (Ad (List.replicate 32 0)).toArray 87)).alloc (.cells (At (List.replicate 25 0)).toArray 251)).setRow (w.heap.size + 1) (At st).toArray) w.heap.size 87 (Ad (List.replicate 32 0)).toArray := (setRow_other _ _ _ _ (by omega)).trans (hr0.alloc _)
 have hB2 : Below w.heap.size w (((w.alloc (.cells (Ad (List.replicate 32 0)).toArray 87)).alloc (.cells (At (List.replicate 25 0)).toArray 251)).setRow (w.heap.size + 1) (At st).toArray) := below_setRow (hB0.alloc (by simp) _) (by omega) _
 have hsz2 : (((w.alloc (.cells (Ad (List.replicate 32 0)).toArray 87)).alloc (.cells (At (List.replicate 25 0)).toArray 251)).setRow (w.heap.size + 1) (At st).toArray).heap.size = w.heap.size + 2 := by simp
 generalize (((w.alloc (.cells (Ad (List.replicate 32 0)).toArray 87)).alloc (.cells (At (List.replicate 25 0)).toArray 251)).setRow (w.heap.size + 1) (At st).toArray) = W2 at *
 have hhl := hH.lt
 clear hH0 hr0 hB0 HBX HR HI HI' H25 HO
 go_wp2_with fail
 change Code.wp _ _ _ _ (W2.alloc (.cells (Ad (List.replicate 136 0)).toArray 252))
 have hL3 : AX (W2.alloc (.cells (Ad (List.replicate 136 0)).toArray 252)) (w.heap.size + 2) 252 (Ad (List.replicate 136 0)).toArray := by
  have := AX.new W2 252 (Ad (List.replicate 136 0)).toArray
  rw [hsz2] at this
  exact this
 have hS3 : AX (W2.alloc (.cells (Ad (List.replicate 136 0)).toArray 252)) _ _ _ := hS2.alloc _
 have hH3 : AX (W2.alloc (.cells (Ad (List.replicate 136 0)).toArray 252)) _ _ _ := hH2.alloc _
 have hr3 : AX (W2.alloc (.cells (Ad (List.replicate 136 0)).toArray 252)) _ _ _ := hr2.alloc _
 have hB3 : Below w.heap.size w (W2.alloc (.cells (Ad (List.replicate 136 0)).toArray 252)) := hB2.alloc (by rw [hsz2]; omega) _
 have hsz3 : (W2.alloc (.cells (Ad (List.replicate 136 0)).toArray 252)).heap.size = w.heap.size + 3 := by simp [hsz2]
 generalize (W2.alloc (.cells (Ad (List.replicate 136 0)).toArray 252)) = W3 at *
 clear hS2 hH2 hr2 hB2 hsz2
 have huc := E8 hH3 h1 h2
 have hcopy : (Builtin.copy_ #[22, 22] 3 #[.slice (some ⟨(w.heap.size + 2), 0, none⟩) 136 136, .slice (some ⟨h, 25, none⟩) u 136]).run Tryz.prog W3.drew =
   .ok (goInt (u : Nat)) (W3.drew.setRow (w.heap.size + 2) (Ad (blk.take u ++ List.replicate (136 - u) 0)).toArray) := by
  have hlt : (blk.take u).length = u := by simp; omega
  have := run_copy_row (P := Tryz.prog) W3.drew 22 22 3 5 (w.heap.size + 2) 0 136 136 ⟨h, 25, none⟩ u 136 _ _ (Ad (blk.take u)) Tryz.underlying22 (by kernel_rfl) hL3
   (by rw [Ae, hlt]; exact (Nat.min_eq_left (by omega)).symm) (fun i v hv => ?_) (by rw [Ae, hlt]; simp [Ae]; omega) (B7 _)
  ·rw [Ae, hlt, lay0] at this
   exact this
  ·have hadd : (⟨h, 25, none⟩ : Addr).add i = ⟨h, 25 + i, none⟩ := by unfold Addr.add; split <;> simp_all
   rw [hadd]
   have : i < u := by
    rcases Nat.lt_or_ge i u with h | h
    ·exact h
    ·rw [List.getElem?_eq_none (by rw [Ae, hlt]; exact h)] at hv; cases hv
   refine (J0 hH3 h1 h2 i (by omega)).trans ?_
   rw [<- hv, Ad, List.map_take, List.getElem?_take, if_pos this]
   exact (CU blk i (by omega)).symm
 have hL4 : AX (W3.drew.setRow (w.heap.size + 2) (Ad (blk.take u ++ List.replicate (136 - u) 0)).toArray) (w.heap.size + 2) 252 (Ad (blk.take u ++ List.replicate (136 - u) 0)).toArray := setRow_heap _ _ _ _ _ _ hL3
 have hS4 : AX (W3.drew.setRow (w.heap.size + 2) (Ad (blk.take u ++ List.replicate (136 - u) 0)).toArray) (w.heap.size + 1) 251 (At st).toArray := (setRow_other _ _ _ _ (by omega)).trans hS3
 have hH4 : AX (W3.drew.setRow (w.heap.size + 2) (Ad (blk.take u ++ List.replicate (136 - u) 0)).toArray) h 254 (BB st blk u tot).toArray := (setRow_other _ _ _ _ (by omega)).trans hH3
 have hr4 : AX (W3.drew.setRow (w.heap.size + 2) (Ad (blk.take u ++ List.replicate (136 - u) 0)).toArray) w.heap.size 87 (Ad (List.replicate 32 0)).toArray := (setRow_other _ _ _ _ (by omega)).trans hr3
 have hB4 : Below w.heap.size w (W3.drew.setRow (w.heap.size + 2) (Ad (blk.take u ++ List.replicate (136 - u) 0)).toArray) := below_setRow hB3.drew (by omega) _
 have hsz4 : (W3.drew.setRow (w.heap.size + 2) (Ad (blk.take u ++ List.replicate (136 - u) 0)).toArray).heap.size = w.heap.size + 3 := by simp [hsz3]
 obtain ⟨W4, hW4⟩ : ∃ W4, W4 = (W3.drew.setRow (w.heap.size + 2) (Ad (blk.take u ++ List.replicate (136 - u) 0)).toArray) := ⟨_, rfl⟩
 rw [<- hW4] at hcopy hL4 hS4 hH4 hr4 hB4 hsz4
 clear hW4 hL3 hS3 hH3 hr3 hB3
 have huc4 := E8 hH4 h1 h2
 have hlen4 : (blk.take u ++ List.replicate (136 - u) 0).length = 136 := by simp; omega
 have hl0 := hL4.byte (i := u) (by omega)
 have hf0 := hL4.free u
 have hsl : ∀ wx, (Instr.sliceAt 252 (.pointer (some ⟨h, 25, none⟩)) none (some (.int .i64 (u : Int))) none).run Tryz.prog wx = .ok (.slice (some ⟨h, 25, none⟩) u 136) wx := fun wx => by
  have hal : Tryz.prog.arrayLen 252 = 136 := by kernel_rfl
  have := run_sliceAt_array_h (P := Tryz.prog) (w := wx) (t := 252) (h := u) ⟨h, 25, none⟩ Tryz.underlying252 .i64 (by omega) (by rw [hal]; omega)
  rw [hal] at this
  exact this
 obtain ⟨l1, hl1e⟩ : ∃ l1, l1 = (blk.take u ++ List.replicate (136 - u) 0).set u 6 := ⟨_, rfl⟩
 have hL5 : AX (W4.setCell ⟨w.heap.size + 2, u, none⟩ (.int .u8 6)) (w.heap.size + 2) 252 (Ad l1).toArray := by rw [hl1e]; exact hL4.setB u 6
 have hlen1 : l1.length = 136 := by rw [hl1e, List.length_set]; exact hlen4
 have hby1 : AK l1 := by
  rw [hl1e]
  intro x hx
  rcases List.mem_or_eq_of_mem_set hx with h | h
  ·rcases List.mem_append.1 h with h | h
   ·exact hb x (List.mem_of_mem_take h)
   ·rw [List.eq_of_mem_replicate h]; omega
  ·omega
 have hl5 := hL5.byte (i := 135) (by omega)
 have hf5 := hL5.free 135
 have hxl := hby1.getD 135
 have hx8 : bits .xor .u8 (l1.getD 135 0 : Nat) 128 = ((l1.getD 135 0 ^^^ 128 : Nat) : Int) := u8_xor_nat _ 128 (by omega) (by omega)
 have HL6 := Lib.hid ((hL5.setB 135 (l1.getD 135 0 ^^^ 128)))
 have HE := Lib.hid (show EW (blk.take u) = l1.set 135 (l1.getD 135 0 ^^^ 128) by
  have hlt : (blk.take u).length = u := by simp; omega
  rw [EW, hlt, hl1e])
 have hxb : l1.getD 135 0 ^^^ 128 < 256 := Nat.xor_lt_two_pow (n := 8) hxl (by omega)
 generalize l1.getD 135 0 = y at *
 have hS5 := (hS4.far (q := ⟨w.heap.size + 2, u, none⟩) (by show w.heap.size + 1 ≠ w.heap.size + 2; omega) (.int .u8 6)).far (q := ⟨w.heap.size + 2, 135, none⟩) (by show w.heap.size + 1 ≠ w.heap.size + 2; omega) (.int .u8 ((y ^^^ 128 : Nat) : Int))
 have hr5 := (hr4.far (q := ⟨w.heap.size + 2, u, none⟩) (by show w.heap.size ≠ w.heap.size + 2; omega) (.int .u8 6)).far (q := ⟨w.heap.size + 2, 135, none⟩) (by show w.heap.size ≠ w.heap.size + 2; omega) (.int .u8 ((y ^^^ 128 : Nat) : Int))
 have hB5 := (hB4.setCell (p := ⟨w.heap.size + 2, u, none⟩) (by show w.heap.size <= w.heap.size + 2; omega) (.int .u8 6)).setCell (p := ⟨w.heap.size + 2, 135, none⟩) (by show w.heap.size <= w.heap.size + 2; omega) (.int .u8 ((y ^^^ 128 : Nat) : Int))
 have HX8 := Lib.hid hx8
 have HS5 := Lib.hid hS5
 have HR5 := Lib.hid hr5
 have HB5 := Lib.hid hB5
 clear hx8 hS5 hr5 hB5
 go_wp2_with (go_region)
 rw [HX8.out]
 have hL6 := HL6.out
 have hS6 := HS5.out
 have hr6 := HR5.out
 have hB6 := HB5.out
 have hsz6 : ((W4.setCell ⟨w.heap.size + 2, u, none⟩ (.int .u8 6)).setCell ⟨w.heap.size + 2, 135, none⟩ (.int .u8 ((y ^^^ 128 : Nat) : Int))).heap.size = w.heap.size + 3 := by simp [hsz4]
 generalize (W4.setCell ⟨w.heap.size + 2, u, none⟩ (.int .u8 6)).setCell ⟨w.heap.size + 2, 135, none⟩ (.int .u8 ((y ^^^ 128 : Nat) : Int)) = W6 at *
 rw [<- HE.out] at hL6
 have hblk : AK (EW (blk.take u)) := by rw [HE.out]; intro x hx; rcases List.mem_or_eq_of_mem_set hx with h | h; exact hby1 x h; omega
 have hlk : (EW (blk.take u)).length = 136 := by rw [HE.out, List.length_set]; exact hlen1
 clear HL6 HS5 HR5 HB5 hl5 hf5 hL5 hL4 hS4 hH4 hr4 hB4 hcopy hsl huc4 hl0 hf0
 have HSUM := Lib.hid (show GT st (blk.take u) = (List.range 32).map (Gw (CO st (EW (blk.take u)))) from rfl)
 generalize EW (blk.take u) = lk at *
 obtain ⟨⟨_, ht1⟩, _, ht2⟩ := id hT
 have htl1 := ht1.lt
 have htl2 := ht2.lt
 have hT6 := hT.ext hB6
 refine (Hb (w.heap.size + 1) 251 st [] (w.heap.size + 2) 0 136 lk W6 hT6 (by rw [List.append_nil]; exact hS6) h1 hw ⟨by omega, by omega⟩ hlk hblk (Nat.le_refl _) (by omega) (.inl (by omega)) (fun j hj => by
  rw [Nat.zero_add]; exact hL6.byte (by omega))).mono ?_
 rintro e W7 ⟨rfl, hS7, hF7⟩
 have hr7 := hF7.box hr6 (by omega) (by decide)
 have hB7 := hB6.trans (hF7.below (by omega) (fun _ h => h.elim) (by omega))
 have hsz7 := hF7.size
 have hak := Fq (l := lk) hw hblk
 clear hS6 hr6 hB6 hF7 hL6 hT6 ht1 ht2
 rw [List.append_nil] at hS7
 have hO8 := AX.new W7 87 (Ad (List.replicate 32 0)).toArray
 have hS8 := hS7.alloc (.cells (Ad (List.replicate 32 0)).toArray 87)
 have hr8 := hr7.alloc (.cells (Ad (List.replicate 32 0)).toArray 87)
 have hB8 := hB7.alloc (by omega) (.cells (Ad (List.replicate 32 0)).toArray 87)
 generalize CO st lk = ak at *
 go_wp2_with fail
 go_loopw [35] (fun i wr => ∃ k : Nat, k <= 32 /\ i = .int .i64 k /\ AX wr W7.heap.size 87 (Ad (BC (Gw ak) k 32)).toArray /\ AX wr (w.heap.size + 1) 251 (At ak).toArray /\ AX wr w.heap.size 87 (Ad (List.replicate 32 0)).toArray /\ Below w.heap.size w wr) (fun i _ => 32 - (intOf i).toNat)
 case atStart => exact ⟨0, by omega, rfl, by rw [DO]; exact hO8, hS8, hr8, hB8⟩
 case round =>
  clear hO8 hS8 hr8 hB8 hS7 hr7 hB7
  obtain ⟨k, hk, rfl, hO, hS, hr, hB⟩ := hrel
  by_cases hlt : k < 32
  ·have hS' : AX wr (w.heap.size + 1) 251 (At ak ++ []).toArray := by rw [List.append_nil]; exact hS
   have h0 := hS'.word (i := k / 8) (by omega)
   have h1' := hO.byte (i := k) (by rw [DE]; omega)
   have h2' := hO.free k
   have l0 := hak.1.getD (k / 8)
   have HO := Lib.hid (show Gw ak k = ak.getD (k / 8) 0 / 2 ^ (8 * (k % 8)) % 256 from rfl)
   generalize ak.getD (k / 8) 0 = x at *
   have s1 : (8 * ((k : Int) % 8)).toNat = 8 * (k % 8) := by omega
   clear hS'
   go_wp2_with fail
   have he : (x : Int) / 2 ^ (8 * (k % 8)) % 256 = ((Gw ak k : Nat) : Int) := by rw [HO.out, Int.natCast_emod, Int.natCast_ediv, Int.natCast_pow]; rfl
   rw [he]
   refine ⟨⟨k + 1, hlt, by go_num, ?_, hS.far (by show w.heap.size + 1 ≠ W7.heap.size; omega) _, hr.far (by show w.heap.size ≠ W7.heap.size; omega) _, hB.setCell (by show w.heap.size <= W7.heap.size; omega) _⟩, by simp [intOf]; omega⟩
   have := hO.setB k (Gw ak k)
   rw [Ek] at this
   exact this
  ·have hk32 : k = 32 := by omega
   rw [hk32, Dl] at hO
   rw [<- HSUM.out] at hO
   have hLL : (GT st (blk.take u)).length = 32 := by simp [GT]
   obtain ⟨L, hLe⟩ : ∃ L, L = GT st (blk.take u) := ⟨_, rfl⟩
   rw [<- hLe] at hO hLL
   have HLE := Lib.hid hLe
   clear hLe
   have hi32 : (Tryz.prog.info? 87).map (·.size) = some (Ad L).toArray.size := by rw [List.size_toArray, Ae, hLL]; kernel_rfl
   have hone : (Ad L).toArray.all (·.oneCell') = true := all_oneCell_toArray (B7 _)
   have hold : (Ad (List.replicate 32 0)).toArray.size = (Ad L).toArray.size := by simp [Ae, hLL]
   have HI := Lib.hid hi32
   have HON := Lib.hid hone
   have HOL := Lib.hid hold
   have HOO := Lib.hid hO
   have HRR := Lib.hid hr
   clear hi32 hone hold hO hr hS
   go_wp2_with (first
    | ((with_reducible refine qA 50 ?_); refine wpList_load_row rfl 87 _ rfl W7.heap.size rfl 87 (Ad L).toArray (0, 0) _ HOO.out Tryz.underlying87 rfl HI.out ?_)
    | ((with_reducible show wpList _ _ _ (⟨none, .store 87 _ _, _, _, _, _⟩ :: _) _ _); refine wpList_store_row rfl 87 _ _ rfl w.heap.size (Ad L).toArray rfl rfl 87 (Ad (List.replicate 32 0)).toArray HRR.out HI.out HOL.out HON.out ?_))
   refine bodyPost_ret (v := .agg (Ad L).toArray) (by exact results_cell_row rfl _ _ w.heap.size 87 _ (0, 0) _ rfl (setRow_heap _ _ _ _ _ _ HRR.out) Tryz.underlying87 rfl HI.out) rfl ?_
   exact Aw.mk (by rw [HLE.out]) (below_setRow hB (Nat.le_refl _) _)
end
section
open Go.RowKit
attribute [local go_sem ↓] Go.wp_at_zero Go.wp_at_succ
set_option maxRecDepth 20000
def CQ (l : List Nat) : List Nat := GT (stB (List.replicate 25 0) l (l.length / 136)) (l.drop (136 * (l.length / 136)))
theorem take_rest {blk l : List Nat} (h : blk.length = 136) (hb : ∀ i, i < l.length % 136 -> blk.getD i 0 = l.getD (136 * (l.length / 136) + i) 0) : blk.take (l.length % 136) = l.drop (136 * (l.length / 136)) := by
 have h1 : l.length % 136 < 136 := Nat.mod_lt _ (by decide)
 have h2 := Nat.div_add_mod l.length 136
 apply List.ext_getElem
 ·simp; omega
 ·intro i h3 h4
  have h5 : i < l.length % 136 := by simp at h3; omega
  have h6 := hb i h5
  rw [List.getD_eq_getElem?_getD, List.getD_eq_getElem?_getD, List.getElem?_eq_getElem (by omega), List.getElem?_eq_getElem (by omega)] at h6
  simpa using h6
set_option maxHeartbeats 1000000 in
theorem ksum_any (p : Value) (l : List Nat) (w : World) (D : Nat -> Prop) (hT : Gx w) (hp : Sl w D 1 p l.length (Ad l)) (hby : AK l) (hll : l.length <= 1000000000000000) :
  Calls Tryz.prog 155 #[p] w (Aw (fun x _ => x = .agg (Ad (CQ l)).toArray) w) := by
 obtain ⟨⟨_, ht1⟩, _, ht2⟩ := id hT
 have htl1 := ht1.lt
 have htl2 := ht2.lt
 have hr0 := AX.new w 87 (Ad (List.replicate 32 0)).toArray
 have hB0 : Below w.heap.size w (w.alloc (.cells (Ad (List.replicate 32 0)).toArray 87)) := (Below.refl _ _).alloc (Nat.le_refl _) _
 have hp0 := (hp.imp (D' := fun b => D b /\ b < w.heap.size) fun b h1 h2 => ⟨h1, h2⟩).ext hB0
 have hi32 : (Tryz.prog.info? 87).map (·.size) = some (Ad (CQ l)).toArray.size := by rw [List.size_toArray, Ae]; simp only [CQ, GT, List.length_map, List.length_range]; kernel_rfl
 have hone : (Ad (CQ l)).toArray.all (·.oneCell') = true := all_oneCell_toArray (B7 _)
 have hold : (Ad (List.replicate 32 0)).toArray.size = (Ad (CQ l)).toArray.size := by simp [Ae, CQ, GT]
 have HI := Lib.hid hi32
 have HON := Lib.hid hone
 have HOL := Lib.hid hold
 have hsz0 : (w.alloc (.cells (Ad (List.replicate 32 0)).toArray 87)).heap.size = w.heap.size + 1 := by simp
 clear hi32 hone hold ht1 ht2 hp
 go_enter Tryz.func155, Tryz.ntmps155
 go_wp2_with fail
 change Calls _ _ _ (w.alloc (.cells (Ad (List.replicate 32 0)).toArray 87)) _
 generalize w.alloc (.cells (Ad (List.replicate 32 0)).toArray 87) = W1 at *
 refine (new_any W1).mono ?_
 rintro e W2 ⟨rfl, rfl⟩
 have hH2 := AX.new W1 254 (BB (List.replicate 25 0) (List.replicate 136 0) 0 0).toArray
 rw [hsz0] at hH2
 have hr2 := hr0.alloc (.cells (BB (List.replicate 25 0) (List.replicate 136 0) 0 0).toArray 254)
 have hp2 := hp0.alloc (.cells (BB (List.replicate 25 0) (List.replicate 136 0) 0 0).toArray 254)
 have hB2 := hB0.alloc (by omega) (.cells (BB (List.replicate 25 0) (List.replicate 136 0) 0 0).toArray 254)
 have hT2 := hT.ext hB2
 generalize W1.alloc (.cells (BB (List.replicate 25 0) (List.replicate 136 0) 0 0).toArray 254) = W2 at *
 clear hr0 hB0 hp0
 have hby0 : AK (List.replicate 136 0) := by intro x hx; rw [List.eq_of_mem_replicate hx]; omega
 have hlb0 : (List.replicate 136 0 : List Nat).length = 136 := List.length_replicate
 have hls0 : (List.replicate 25 0 : List Nat).length = 25 := List.length_replicate
 have hws0 := Ax.zeros 25
 have HSH := Lib.hid (show CQ l = GT (stB (List.replicate 25 0) l (l.length / 136)) (l.drop (136 * (l.length / 136))) from rfl)
 generalize (List.replicate 136 0 : List Nat) = blk0 at *
 generalize (List.replicate 25 0 : List Nat) = st0 at *
 have HR2 := Lib.hid hr2
 have HH2 := Lib.hid hH2
 clear hr2 hH2
 go_wp2_with fail
 refine (hwrite_any (w.heap.size + 1) _ st0 l blk0 0 W2 _ hT2 HH2.out hls0 hws0 hlb0 hby0 hp2 hby (fun b hb _ => by have := hb.2; omega) ⟨by omega, by omega⟩ (by unfold AE; omega)).mono ?_
 rintro e W3 ⟨rfl, ⟨blk, hbl, hbb, hbi, hH3⟩, hF3⟩
 have hr3 := hF3.box HR2.out (by omega) (by decide)
 have hB3 := hB2.trans (hF3.below (by omega) (fun _ h => h.elim) (by have := HR2.out.lt; omega))
 have hT3 := hT.ext hB3
 have hst := stB_ok hws0 hls0 hby (l.length / 136)
 have hmod : l.length % 136 < 136 := Nat.mod_lt _ (by decide)
 have HTK := Lib.hid (take_rest hbl hbi)
 clear hB2 hT2 hF3 hbi hp2 HR2 HH2
 go_wp2_with fail
 refine (hsum_any (w.heap.size + 1) _ blk _ _ W3 hT3 hH3 hst.2 hst.1 hbl hbb hmod).mono ?_
 rintro e W4 ⟨v, rfl, rfl, hB4⟩
 rw [HTK.out, <- HSH.out]
 have hr4 := hr3.ext hB4
 have hB5 := hB3.trans (hB4.mono hB3.size)
 have HR4 := Lib.hid hr4
 clear hr3 hr4 hB4
 go_wp2_with ((with_reducible show wpList _ _ _ (⟨none, .store 87 _ _, _, _, _, _⟩ :: _) _ _); refine wpList_store_row rfl 87 _ _ rfl w.heap.size (Ad (CQ l)).toArray rfl rfl 87 (Ad (List.replicate 32 0)).toArray HR4.out HI.out HOL.out HON.out ?_)
 refine bodyPost_ret (v := .agg (Ad (CQ l)).toArray) (by exact results_cell_row rfl _ _ w.heap.size 87 _ (0, 0) _ rfl (setRow_heap _ _ _ _ _ _ HR4.out) Tryz.underlying87 rfl HI.out) rfl ?_
 exact Aw.mk rfl (below_setRow hB5 (Nat.le_refl _) _)
end
section
open Go.RowKit
attribute [local go_sem ↓] Go.wp_at_zero Go.wp_at_succ
set_option maxRecDepth 20000
def sb (s : ByteArray) : List Nat := s.data.toList.map (·.toNat)
theorem EE (s : ByteArray) : (sb s).length = s.size := by simp [sb]
theorem sb_bytes (s : ByteArray) : AK (sb s) := by
 intro x hx
 simp only [sb, List.mem_map] at hx
 obtain ⟨y, _, rfl⟩ := hx
 exact y.toNat_lt
theorem wstring_any (q : Nat) (s : ByteArray) (bs : List Nat) (w : World) (R : Nat -> Prop) (hW : Hd w R q bs) (hlen : bs.length + s.size <= 10000000000) :
  Calls Tryz.prog 154 #[.pointer (some ⟨q, 0, none⟩), .string s] w (WRet R q (bs ++ (Az (sb s).length ++ sb s)) w) := by
 have hcv := run_bytes_of_string (P := Tryz.prog) w 9 22 5 s Tryz.underlying9 Tryz.underlying22 Tryz.underlying5
 have hg1 := grownCap_ge w s.size 0 5
 have hg2 := grownCap_le_maxLen w s.size 0 5 (by unfold maxLen; omega)
 generalize grownCap w s.size 0 5 = cap at *
 have hcell : ∀ j, j < s.size -> (bytesRow s cap)[j]? = some (.int .u8 ((sb s).getD j 0 : Nat)) := fun j hj => by
  rw [bytesRow_at s cap j hj, sb, List.getD_eq_getElem?_getD, List.getElem?_map, List.getElem?_eq_getElem (by simpa using hj)]
  rfl
 generalize bytesRow s cap = C at *
 have hb : Below w.heap.size w (w.drew.alloc (.cells C 5 (C.size, C.size + 1))) := (Below.refl _ _).drew.alloc (Nat.le_refl _) _
 have hS : Sl (w.drew.alloc (.cells C 5 (C.size, C.size + 1))) (· = w.heap.size) 1 (.slice (some ⟨w.heap.size, 0, none⟩) s.size cap) s.size (Ad (sb s)) := by
  refine ⟨by simp [Ad, EE], _, _, rfl, hg1, hg2, fun _ => ⟨w.heap.size, 0, rfl, rfl, by simp, fun j x hj => ?_⟩⟩
  have hj' : j < s.size := by
   rcases Nat.lt_or_ge j s.size with h | h
   ·exact h
   ·rw [List.getElem?_eq_none (by rw [Ae, EE]; exact h)] at hj; cases hj
  rw [Nat.zero_add]
  refine (cell_of_row _ w.heap.size j C 5 _ (heap_alloc_new w.drew _)).trans ((hcell j hj').trans ?_)
  rw [<- hj]
  exact (CU _ _ (by rw [EE]; exact hj')).symm
 have hlt := hW.lt
 have hW1 := (hW.imp (R' := fun k => R k /\ k < w.heap.size) fun k h1 h2 => ⟨h1, h2⟩).ext hb
 generalize w.drew.alloc (.cells C 5 (C.size, C.size + 1)) = W1 at *
 have hl := EE s
 have hs1 : Sl W1 (· = w.heap.size) 1 (.slice (some ⟨w.heap.size, 0, none⟩) s.size cap) (sb s).length (Ad (sb s)) := by rw [hl]; exact hS
 have HL := Lib.hid hl
 clear hcell hS hW
 go_enter Tryz.func154, Tryz.ntmps154
 go_wp2_with fail
 refine (F3 q _ bs (sb s) W1 _ _ hW1 hs1 (fun b hb _ => ⟨by have : b = w.heap.size := hb; omega, fun h => by have : b = w.heap.size := hb; omega⟩) (by have := HL.out; omega)).mono ?_
 rintro e w2 ⟨rfl, hW2, hF⟩
 go_wp2_with fail
 refine bodyPost_end (results_none rfl _ _ _) rfl ⟨rfl, hW2.imp fun k hk _ => ?_, (WF.of_below hb).trans (hF.imp fun k hk _ => .inl hk.1)⟩
 rcases hk with hk | hk
 ·exact .inl hk.1
 ·exact .inr (by have := hb.size; omega)
def F6 (s : ByteArray) (l : List Nat) : List Nat := (Az (sb s).length ++ sb s) ++ (Az l.length ++ l)
theorem tagB_bytes (s : ByteArray) {l : List Nat} (h : AK l) : AK (F6 s l) := ((BF _).append (sb_bytes s)).append ((BF _).append h)
theorem GS (s : ByteArray) (pv p : Value) (l : List Nat) (w : World) (D : Nat -> Prop) (hT : Gx w) (hpv : Sl w D 1 pv 1 [p]) (hp : Sl w D 1 p l.length (Ad l)) (hby : AK l) (hs : s.size <= 1000000) (hll : l.length <= 1000000000) :
  Calls Tryz.prog 100 #[.string s, pv] w (Aw (fun x _ => x = .agg (Ad (CQ (F6 s l))).toArray) w) := by
 obtain ⟨⟨_, ht1⟩, _, ht2⟩ := id hT
 have htl1 := ht1.lt
 have htl2 := ht2.lt
 obtain ⟨Av, cv, rfl, hcv1, hcv2⟩ := hpv.shape
 obtain ⟨A, c, rfl, _, _⟩ := hp.shape
 have hr0 := AX.new w 87 (Ad (List.replicate 32 0)).toArray
 have hB0 : Below w.heap.size w (w.alloc (.cells (Ad (List.replicate 32 0)).toArray 87)) := (Below.refl _ _).alloc (Nat.le_refl _) _
 have hp0 := (hp.imp (D' := fun b => D b /\ b < w.heap.size) fun b h1 h2 => ⟨h1, h2⟩).ext hB0
 have hv0 := (hpv.imp (D' := fun b => D b /\ b < w.heap.size) fun b h1 h2 => ⟨h1, h2⟩).ext hB0
 have hone : ∀ l, (Ad l).toArray.all (·.oneCell') = true := fun l => all_oneCell_toArray (B7 _)
 have hsl : ∀ l, (CQ l).length = 32 := fun l => by simp [CQ, GT]
 have hi32 : (Tryz.prog.info? 87).map (·.size) = some (Ad (CQ (F6 s l))).toArray.size := by rw [List.size_toArray, Ae, hsl]; kernel_rfl
 have hold : (Ad (List.replicate 32 0)).toArray.size = (Ad (CQ (F6 s l))).toArray.size := by rw [List.size_toArray, List.size_toArray, Ae, Ae, hsl, List.length_replicate]
 have HI := Lib.hid hi32
 have HON := Lib.hid (hone (CQ (F6 s l)))
 have HOL := Lib.hid hold
 have hsz0 : (w.alloc (.cells (Ad (List.replicate 32 0)).toArray 87)).heap.size = w.heap.size + 1 := by simp
 clear hi32 hone hold ht1 ht2 hp hpv hsl
 go_enter Tryz.func100, Tryz.ntmps100
 go_wp2_with fail
 change Calls _ _ _ (w.alloc (.cells (Ad (List.replicate 32 0)).toArray 87)) _
 generalize w.alloc (.cells (Ad (List.replicate 32 0)).toArray 87) = W1 at *
 refine (EH _).mono ?_
 rintro e W2 ⟨rfl, rfl⟩
 have hW2 := Hd.new W1 (fun _ => False)
 rw [hsz0] at hW2
 have hr2 := hr0.alloc (.cells #[.slice none 0 0] 198)
 have hp2 := hp0.alloc (.cells #[.slice none 0 0] 198)
 have hv2 := hv0.alloc (.cells #[.slice none 0 0] 198)
 have hB2 := hB0.alloc (by omega) (.cells #[.slice none 0 0] 198)
 have hsz2 : (W1.alloc (.cells #[.slice none 0 0] 198)).heap.size = w.heap.size + 2 := by rw [World.size_alloc, hsz0]
 generalize W1.alloc (.cells #[.slice none 0 0] 198) = W2 at *
 clear hr0 hp0 hv0 hB0
 go_wp2_with fail
 refine (wstring_any (w.heap.size + 1) s [] W2 _ hW2 (by simp; omega)).mono ?_
 rintro e W3 ⟨rfl, hW3, hF3⟩
 have hr3 := hF3.box hr2 (by omega) (by decide)
 have hp3 := hp2.wf hF3 (fun b hb _ => ⟨by have := hb.2; omega, fun h => h⟩)
 have hv3 := hv2.wf hF3 (fun b hb _ => ⟨by have := hb.2; omega, fun h => h⟩)
 have hB3 := hB2.trans (hF3.below (by omega) (fun _ h => h.elim) (by omega))
 have hW3' := hW3
 have hsz3 := hF3.size
 obtain ⟨_, Av', cv', hve, _, _, hvc⟩ := id hv3
 obtain ⟨bv, ov, hve2, _, _, hvcell⟩ := hvc (by omega)
 have hc0 := hvcell 0 _ rfl
 rw [Nat.add_zero] at hc0
 injection hve with hve hve3
 subst hve hve2
 clear hvc hvcell hW3' hW2 hF3 hp2 hv2 hr2 hB2
 go_wp2_with fail
 have hsb := EE s
 have hpn := AB (sb s).length
 have hpl := AB l.length
 have hM3 : ([] ++ (Az (sb s).length ++ sb s) : List Nat).length <= 1000011 := by simp only [List.length_append, List.length_nil]; omega
 have hMl : ([] ++ (Az (sb s).length ++ sb s) ++ (Az l.length ++ l) : List Nat).length <= 2000000100 := by simp only [List.length_append, List.length_nil]; omega
 have HTB := Lib.hid (show F6 s l = [] ++ (Az (sb s).length ++ sb s) ++ (Az l.length ++ l) from rfl)
 have HTBB := Lib.hid (tagB_bytes s hby)
 generalize ([] ++ (Az (sb s).length ++ sb s) : List Nat) = M3 at *
 clear hsb hpn
 go_loopw [14] (fun i wr => (i = .int .i64 0 /\ wr = W3) \/ (i = .int .i64 1 /\ Hd wr (fun k => w.heap.size + 2 <= k) (w.heap.size + 1) (M3 ++ (Az l.length ++ l)) /\ AX wr w.heap.size 87 (Ad (List.replicate 32 0)).toArray /\ Below w.heap.size w wr)) (fun i _ => 1 - (intOf i).toNat)
 case atStart => exact .inl ⟨rfl, rfl⟩
 case round =>
  rcases hrel with ⟨rfl, rfl⟩ | ⟨rfl, hW4, hr4, hB4⟩
  ·go_wp2_with fail
   refine (F3 (w.heap.size + 1) _ M3 l _ _ _ hW3 hp3 (fun b hb _ => ⟨by have := hb.2; omega, fun h => by rcases h with h | h; exact h; have := hb.2; omega⟩) (by omega)).mono ?_
   rintro e W4 ⟨rfl, hW4, hF4⟩
   have hr4 := hF4.box hr3 (by omega) (by decide)
   have hB4 := hB3.trans (hF4.below (by omega) (fun k h => by rcases h with h | h; exact h.elim; omega) (by omega))
   go_wp2_with fail
   refine ⟨.inr ⟨rfl, hW4.imp fun k hk _ => ?_, hr4, hB4⟩, by simp [intOf]⟩
   rcases hk with (hk | hk) | hk
   ·exact hk.elim
   ·omega
   ·omega
  ·clear hr3 hp3 hv3 hB3 hW3 hc0
   have hlt4 := hW4.lt
   have HR4 := Lib.hid hr4
   clear hr4
   go_wp2_with fail
   refine (wout_any (w.heap.size + 1) _ _ _ hW4 (by omega)).mono ?_
   rintro e W5 ⟨v5, rfl, hv5, hB5⟩
   rw [<- HTB.out] at hv5
   have hT5 := hT.ext (hB4.trans (hB5.mono hB4.size))
   have hr5 := HR4.out.ext hB5
   have HR5 := Lib.hid hr5
   clear hr5
   go_wp2_with fail
   refine (ksum_any _ (F6 s l) W5 _ hT5 hv5 HTBB.out (by rw [HTB.out]; omega)).mono ?_
   rintro e W6 ⟨v6, rfl, rfl, hB6⟩
   have HR6 := Lib.hid (HR5.out.ext hB6)
   have hB7 := (hB4.trans (hB5.mono hB4.size)).trans (hB6.mono (hB4.trans (hB5.mono hB4.size)).size)
   go_wp2_with ((with_reducible show wpList _ _ _ (⟨none, .store 87 _ _, _, _, _, _⟩ :: _) _ _); refine wpList_store_row rfl 87 _ _ rfl w.heap.size (Ad (CQ (F6 s l))).toArray rfl rfl 87 (Ad (List.replicate 32 0)).toArray HR6.out HI.out HOL.out HON.out ?_)
   refine bodyPost_ret (v := .agg (Ad (CQ (F6 s l))).toArray) (by exact results_cell_row rfl _ _ w.heap.size 87 _ (0, 0) _ rfl (setRow_heap _ _ _ _ _ _ HR6.out) Tryz.underlying87 rfl HI.out) rfl ?_
   exact Aw.mk rfl (below_setRow hB7 (Nat.le_refl _) _)
end
section
open Go.RowKit
attribute [local go_sem ↓] Go.wp_at_zero Go.wp_at_succ
set_option maxRecDepth 20000
theorem GE (b : Bool) : AK (BI b) := by
 intro x hx
 unfold BI at hx
 split at hx <;> simp at hx <;> omega
theorem Fa (N : Nat) : AK (Bc N) := (BF _).append (setBytes_byte N)
theorem DK {α : Type} {f : α -> List Nat} (h : ∀ z, AK (f z)) (l : List α) : AK (l.flatMap f) := by
 intro x hx
 obtain ⟨z, _, hz⟩ := List.mem_flatMap.1 hx
 exact h z x hz
theorem GF (y n : Nat) : AK (Bd y n) := by
 unfold Bd
 exact (Fa y).append (Fa n)
theorem Ee (l : List (Nat × Nat)) : AK (AU l) := by
 unfold AU
 exact (BF _).append (DK (f := fun z : Nat × Nat => Bd z.1 z.2) (fun z => GF z.1 z.2) l)
theorem Fp {c : CD} (h : AK c.prob) : AK (AP c) := by
 unfold AP
 split
 ·exact h.append ((GE _).append ((BF _).append ((DK (fun k => BF _) _).append (Ee _))))
 ·intro x hx; simp at hx
theorem bytesC_len {c : CD} (h : ∀ z ∈ c.cubes, z.1 < 2 ^ 4096 /\ z.2 < 2 ^ 4096) (hp : c.prob.length = 32) : (AP c).length <= 4000000 := by
 unfold AP
 split
 ·rename_i hc
  have h0 := plan_ok hc
  have h1 := EY c.cubes h
  have h2 := AB c.cubes.length
  have h3 := AB c.plan.length
  have h4 := Kj c.plan
  have h5 : (BI c.reach).length = 1 := by unfold BI; split <;> rfl
  simp only [AU, List.length_append]
  omega
 ·simp
def Gr : ByteArray := { data := #[99, 101, 114, 116, 105, 102, 105, 99, 97, 116, 101] }
def idC (c : CD) : List Nat := if BX c = 0 then CQ (F6 Gr (AP c)) else List.replicate 32 0
theorem idC_len (c : CD) : (idC c).length = 32 := by unfold idC; split <;> simp [CQ, GT]
theorem cid_any (v : Value) (c : CD) (w : World) (D : Nat -> Prop) (hT : Gx w) (hv : Ba w D v c) :
  Calls Tryz.prog 99 #[v] w (Aw (fun x _ => x = .agg (Ad (idC c)).toArray) w) := by
 obtain ⟨cs, pv, qv, rfl, hsz, hl32, hby, _, _, _, _, _, hq⟩ := id hv
 have hbl := bytesC_len hq.bound hl32
 have hbb := Fp hby
 have hbox := (AX.new w 96 cs).alloc (.cells (Ad (List.replicate 32 0)).toArray 87)
 have hb0 : Below w.heap.size w ((w.alloc (.cells cs 96)).alloc (.cells (Ad (List.replicate 32 0)).toArray 87)) := ((Below.refl _ _).alloc (Nat.le_refl _) _).alloc (by simp) _
 have hr0 : AX ((w.alloc (.cells cs 96)).alloc (.cells (Ad (List.replicate 32 0)).toArray 87)) (w.heap.size + 1) 87 (Ad (List.replicate 32 0)).toArray := by
  have := AX.new (w.alloc (.cells cs 96)) 87 (Ad (List.replicate 32 0)).toArray
  rw [World.size_alloc] at this
  exact this
 have hv1 := (hv.imp (D' := (· < w.heap.size)) fun b _ h => h).ext hb0
 have hi35 : (Tryz.prog.info? 96).map (·.size) = some cs.size := by rw [hsz]; kernel_rfl
 have hi32 : (Tryz.prog.info? 87).map (·.size) = some (Ad (idC c)).toArray.size := by rw [List.size_toArray, Ae, idC_len]; kernel_rfl
 have hone : (Ad (idC c)).toArray.all (·.oneCell') = true := all_oneCell_toArray (B7 _)
 have hold : (Ad (List.replicate 32 0)).toArray.size = (Ad (idC c)).toArray.size := by rw [List.size_toArray, List.size_toArray, Ae, Ae, idC_len, List.length_replicate]
 have HI := Lib.hid hi35
 have HI2 := Lib.hid hi32
 have HON := Lib.hid hone
 have HOL := Lib.hid hold
 have HX := Lib.hid hbox
 clear hi35 hi32 hone hold hbox hsz hl32 hby hq hv
 go_enter Tryz.func99, Tryz.ntmps99
 go_wp2_with ((with_reducible refine qA 3 ?_); refine wpList_load_row rfl 96 _ rfl w.heap.size rfl 96 cs (0, 0) _ HX.out Tryz.underlying96 rfl HI.out ?_)
 change Calls _ _ _ ((w.alloc (.cells cs 96)).alloc (.cells (Ad (List.replicate 32 0)).toArray 87)) _
 generalize (w.alloc (.cells cs 96)).alloc (.cells (Ad (List.replicate 32 0)).toArray 87) = W1 at *
 refine (J2 _ c _ _ hv1).mono ?_
 rintro e w1 ⟨_, rfl, rfl, hb1⟩
 have hX1 := HX.out.ext hb1
 have hr1 := hr0.ext hb1
 have hv2 := hv1.ext hb1
 have hB1 := hb0.trans (hb1.mono hb0.size)
 have HX1 := Lib.hid hX1
 clear hX1 hr0 hv1 HX hb1 hb0
 by_cases hc : BX c = 0
 ·have heq : (BX c != 0) = false := by simpa using hc
  have HE := Lib.hid (show idC c = CQ (F6 Gr (AP c)) by rw [idC, if_pos hc])
  clear hc
  go_wp2_with ((with_reducible refine qA 7 ?_); refine wpList_load_row rfl 96 _ rfl w.heap.size rfl 96 cs (0, 0) _ HX1.out Tryz.underlying96 rfl HI.out ?_)
  refine (Fo _ c _ _ hv2).mono ?_
  rintro e w2 ⟨v2, rfl, hs2, hb2⟩
  have hr2 := hr1.ext hb2
  have hB2 := hB1.trans (hb2.mono hB1.size)
  have hT2 := hT.ext hB2
  obtain ⟨A2, c2, rfl, _, _⟩ := hs2.shape
  have hB3 := hB2.alloc (by have := hB2.size; omega) (.cells #[.slice A2 (AP c).length c2] 22)
  have hpv := (Sl.new w2 22 [.slice A2 (AP c).length c2] (by simp)).imp (D' := fun _ => True) fun _ _ _ => trivial
  have hs3 := (hs2.alloc (.cells #[.slice A2 (AP c).length c2] 22)).imp (D' := fun _ => True) fun _ _ _ => trivial
  have hr3 := hr2.alloc (.cells #[.slice A2 (AP c).length c2] 22)
  have hT3 := hT.ext hB3
  have HPV := Lib.hid hpv
  have HS3 := Lib.hid hs3
  clear hpv hs3 hr2 hs2 hr1
  go_wp2_with fail
  refine (GS Gr _ _ (AP c) _ _ hT3 HPV.out HS3.out hbb (by decide) (by omega)).mono ?_
  rintro e w4 ⟨v4, rfl, rfl, hb4⟩
  rw [<- HE.out]
  have HR4 := Lib.hid (hr3.ext hb4)
  have hB5 := hB3.trans (hb4.mono hB3.size)
  clear hr3
  go_wp2_with ((with_reducible show wpList _ _ _ (⟨none, .store 87 _ _, _, _, _, _⟩ :: _) _ _); refine wpList_store_row rfl 87 _ _ rfl (w.heap.size + 1) (Ad (idC c)).toArray rfl rfl 87 (Ad (List.replicate 32 0)).toArray HR4.out HI2.out HOL.out HON.out ?_)
  refine bodyPost_ret (v := .agg (Ad (idC c)).toArray) (by exact results_cell_row rfl _ _ (w.heap.size + 1) 87 _ (0, 0) _ rfl (setRow_heap _ _ _ _ _ _ HR4.out) Tryz.underlying87 rfl HI2.out) rfl ?_
  exact Aw.mk rfl (below_setRow hB5 (by omega) _)
 ·have hne : (BX c != 0) = true := by simpa using hc
  have HE := Lib.hid (show idC c = List.replicate 32 0 by rw [idC, if_neg hc])
  have HI2' := HI2.out
  have HON' := HON.out
  rw [HE.out] at HI2' HON'
  have HIZ := Lib.hid HI2'
  have HOZ := Lib.hid HON'
  have HR1 := Lib.hid hr1
  clear hc HI2' HON' hr1
  go_wp2_with ((with_reducible show wpList _ _ _ (⟨none, .store 87 _ _, _, _, _, _⟩ :: _) _ _); refine wpList_store_row rfl 87 _ _ rfl (w.heap.size + 1) (Ad (List.replicate 32 0)).toArray rfl rfl 87 (Ad (List.replicate 32 0)).toArray HR1.out HIZ.out rfl HOZ.out ?_)
  refine bodyPost_ret (v := .agg (Ad (List.replicate 32 0)).toArray) (by exact results_cell_row rfl _ _ (w.heap.size + 1) 87 _ (0, 0) _ rfl (setRow_heap _ _ _ _ _ _ HR1.out) Tryz.underlying87 rfl HIZ.out) rfl ?_
  exact Aw.mk (by rw [HE.out]) (below_setRow hB1 (by omega) _)
end
section
open Go.RowKit
attribute [local go_sem ↓] Go.wp_at_zero Go.wp_at_succ
set_option maxRecDepth 20000
def Fw (l : List Nat) : ByteArray := ⟨(l.map UInt8.ofNat).toArray⟩
theorem strOf_size (l : List Nat) : (Fw l).size = l.length := by simp [Fw, ByteArray.size]
theorem conv_sl {w : World} {D : Nat -> Prop} {v : Value} {l : List Nat} (h : Sl w D 1 v l.length (Ad l)) (hb : AK l) :
  (convert 22 9 v).run Tryz.prog w = .ok (.string (Fw l)) w := by
 obtain ⟨_, A, c, rfl, h1, h2, h3⟩ := h
 rcases Nat.eq_zero_or_pos l.length with h0 | h0
 ·have hl : l = [] := List.eq_nil_of_length_eq_zero h0
  subst hl
  show (convert 22 9 (.slice A 0 c)).run Tryz.prog w = .ok (.string ⟨#[]⟩) w
  cases A with
  | none => exact Lib.run_convert_nil_bytes w _ _ 5 c Tryz.underlying22 Tryz.underlying5 Tryz.underlying9
  | some a => exact run_convert_bytes_back w _ _ 5 a c [] Tryz.underlying22 Tryz.underlying5 Tryz.underlying9 (fun j hj => absurd hj (by simp))
 ·obtain ⟨b, o, rfl, _, _, hc⟩ := h3 h0
  have := run_convert_bytes_back (P := Tryz.prog) w 22 9 5 ⟨b, o, none⟩ c (l.map UInt8.ofNat) Tryz.underlying22 Tryz.underlying5 Tryz.underlying9 (fun j hj => by
   have hj' : j < l.length := by simpa using hj
   have hadd : (⟨b, o, none⟩ : Addr).add j = ⟨b, o + j, none⟩ := by unfold Addr.add; split <;> simp_all
   rw [hadd, hc j _ (CU l j hj')]
   have h4 := hb (l[j]) (List.getElem_mem hj')
   simp [List.getD_eq_getElem?_getD, List.getElem?_eq_getElem hj']
   rw [Int.emod_eq_of_lt (by omega) (by omega)])
  rw [List.length_map] at this
  exact this
theorem Ba.of {w : World} {D : Nat -> Prop} {prob : List Nat} {r : Bool} {pv qv : Value} {plan : List Int} {cubes : List (Nat × Nat)} (h1 : prob.length = 32) (h2 : AK prob) (hp : Sl w D 1 pv plan.length (AM plan)) (hq : Af w D qv cubes) :
  Ba w D (.agg (Ad prob ++ [.bool r, pv, qv]).toArray) ⟨prob, r, plan, cubes⟩ := by
 have hl : (Ad prob).length = 32 := by rw [Ae, h1]
 refine ⟨_, pv, qv, rfl, by simp [hl], h1, h2, fun i hi => ?_, ?_, ?_, ?_, hp, hq⟩
 ·rw [List.getElem?_toArray, List.getElem?_append_left (by omega)]; exact CU _ _ (by omega)
 ·rw [List.getElem?_toArray, List.getElem?_append_right (by omega), hl]; rfl
 ·rw [List.getElem?_toArray, List.getElem?_append_right (by omega), hl]; rfl
 ·rw [List.getElem?_toArray, List.getElem?_append_right (by omega), hl]; rfl
def Gl : CD := ⟨List.replicate 32 0, true, [2, 0], []⟩
def exB : CD := ⟨List.replicate 32 0, false, [], [(2, 8)]⟩
theorem exA_bytes : Fw (AP Gl) = Fw (List.replicate 32 0) ++ { data := #[1, 2, 2, 0, 0] } := by decide
theorem exB_bytes : Fw (AP exB) = Fw (List.replicate 32 0) ++ { data := #[0, 0, 1, 1, 2, 1, 8] } := by decide
theorem exA_id : idC Gl = CQ (F6 Gr (AP Gl)) := by rw [idC, if_pos (by decide)]
theorem exA_len : (AP Gl).length <= 100 := by decide
theorem DL (n : Nat) : AK (List.replicate n 0) := by intro x hx; rw [List.eq_of_mem_replicate hx]; omega
theorem exA_by : AK (AP Gl) := Fp (DL 32)
theorem exB_by : AK (AP exB) := Fp (DL 32)
end
section
open Go.RowKit
attribute [local go_sem ↓] Go.wp_at_zero Go.wp_at_succ
set_option maxRecDepth 20000
def IsRCert (w : World) (D : Nat -> Prop) (v : Value) (c : CD) : Prop :=
 ∃ pv qv, v = .agg (cc c.prob c.reach pv qv) /\ c.prob.length = 32 /\ AK c.prob /\ Sl w D 1 pv c.plan.length (AM c.plan) /\ BH w D qv c.cubes
theorem cc_range {w : World} {b : Nat} {t : TypeId} {prob : List Nat} {r : Bool} {pv qv : Value} (h : AX w b t (cc prob r pv qv)) : w.rangeAt b 0 (Ad prob) := fun j v hj => by
 rw [Nat.zero_add, h.cell]
 have : j < (Ad prob).length := (List.getElem?_eq_some_iff.1 hj).1
 simp only [cc, List.getElem?_toArray]
 rw [List.getElem?_append_left this]; exact hj
end
section
open Go.RowKit
attribute [local go_sem ↓] Go.wp_at_zero Go.wp_at_succ
set_option maxRecDepth 20000
theorem Hs (u v : Value) (l m : List Int) (w : World) (D E : Nat -> Prop) (hu : Sl w D 1 u l.length (AM l)) (hv : Sl w E 1 v m.length (AM m)) :
  Calls Tryz.prog 79 #[u, v] w (Aw (fun x _ => x = .bool (l == m)) w) := by
 obtain ⟨A, c, rfl, h1, h2⟩ := hu.shape
 obtain ⟨A', c', rfl, h3, h4⟩ := hv.shape
 by_cases hlen : l.length = m.length
 ·rcases Nat.eq_zero_or_pos l.length with h0 | h0
  ·obtain rfl : l = [] := List.eq_nil_of_length_eq_zero h0
   obtain rfl : m = [] := List.eq_nil_of_length_eq_zero (by simpa using hlen.symm)
   refine (Tryz.slices_Equal_int_empty A A' c 0 c' w (by omega)).mono ?_
   rintro e w' ⟨rfl, rfl⟩
   exact Aw.mk rfl (Below.refl _ _)
  ·obtain ⟨b, o, rfl, _, _, hc⟩ := hu.int (k := 0) h0
   obtain ⟨b', o', rfl, _, _, hc'⟩ := hv.int (k := 0) (by omega)
   refine (Tryz.slices_Equal_int b o l.length c b' o' m.length c' l m w (Nat.le_refl _) (Nat.le_refl _) (by omega) (by omega) hc hc').mono ?_
   rintro e w' ⟨rfl, q, rfl⟩
   rw [List.take_length, List.take_length]
   exact Aw.mk rfl (DG (Below.refl _ _) _)
 ·refine (Tryz.slices_Equal_int_lens A A' l.length c m.length c' w hlen).mono ?_
  rintro e w' ⟨rfl, rfl⟩
  refine Aw.mk ?_ (Below.refl _ _)
  have : (l == m) = false := by rw [beq_eq_false_iff_ne]; rintro rfl; exact hlen rfl
  rw [this]
end
section
open Go.RowKit
attribute [local go_sem ↓] Go.wp_at_zero Go.wp_at_succ
set_option maxRecDepth 20000
theorem Ba.cc {w : World} {D : Nat -> Prop} {v : Value} {c : CD} (h : Ba w D v c) : ∃ pv qv, v = .agg (cc c.prob c.reach pv qv) /\ c.prob.length = 32 /\ AK c.prob /\ Sl w D 1 pv c.plan.length (AM c.plan) /\ Af w D qv c.cubes := by
 obtain ⟨cs, pv, qv, h1, h2, h3, h4, h5, h6, h7, h8, h9, h10⟩ := h
 refine ⟨pv, qv, ?_, h3, h4, h9, h10⟩
 rw [h1]
 congr 1
 have ha := cc_at c.prob c.reach pv qv h3
 apply Array.ext_getElem?
 intro i
 rcases Nat.lt_or_ge i 32 with hi | hi
 ·rw [h5 i hi]
  simp only [Go.Proofs.YtchjigffejhmfaaGreatDoor.cc, List.getElem?_toArray]
  rw [List.getElem?_append_left (by simp [Ad]; omega)]
  exact (CU _ _ (by omega)).symm
 ·rcases Nat.lt_or_ge i 35 with hi2 | hi2
  ·have : i = 32 \/ i = 33 \/ i = 34 := by omega
   rcases this with rfl | rfl | rfl
   ·rw [h6, ha.1]
   ·rw [h7, ha.2.1]
   ·rw [h8, ha.2.2]
  ·rw [Array.getElem?_eq_none (by omega), Array.getElem?_eq_none (by rw [CN _ _ _ _ h3]; omega)]
def eqC (a b : CD) : Bool := a.prob == b.prob && (a.reach == b.reach && (a.plan == b.plan && a.cubes == b.cubes))
end
section
open Go.RowKit
attribute [local go_sem ↓] Go.wp_at_zero Go.wp_at_succ
set_option maxRecDepth 20000
theorem rempty_any (y n : Nat) (w0 : World) (hy : y < AE) (hn : n < AE) :
  Calls Tryz.prog 58 #[.agg #[.int .u64 (y : Nat), .int .u64 (n : Nat)]] w0 (Aw (fun x _ => x = .bool (y &&& n != 0)) w0) := by
 have h0 := GM hy hn
 have hS := St.start0 (w := w0)
 go_enter Tryz.func58, Tryz.ntmps58
 go_wp2_with (first | ((with_reducible refine qA 1 ?_); refine AH hS rfl _ _ rfl _ _ rfl rfl ?_; clear hS; intro g w_ hS; (try simp only [Act.put, Act.eval, zz, Value.cells] at hS)) | ((with_reducible refine qK ?_); refine qC hS ?_) | ((with_reducible refine qB ?_); refine qc ?_ ?_ <;> intro h_ <;> go_prune))
 ·go_ret
  exact Aw.mk (by simp; omega) hS.below
 ·go_ret
  exact Aw.mk (by simp; omega) hS.below
end
section
open Go.RowKit
attribute [local go_sem ↓] Go.wp_at_zero Go.wp_at_succ
set_option maxRecDepth 20000
theorem GZ (v : Value) (N : Nat) (hN : N < AE) (D : Nat -> Prop) (w0 : World) (hv : A5 w0 D v N) (hT : BD w0) :
  Calls Tryz.prog 80 #[v] w0 (Aw (fun x w' => Sl w' (w0.heap.size <= ·) 1 x (Ah (AW N)).length (AM (Ah (AW N)))) w0) := by
 refine (slist_any v N D w0 hv hT).mono ?_
 rintro e w' ⟨x, rfl, ⟨ws, hc, hv, hs⟩, hb⟩
 rw [memL_eq hc (by omega), hv] at hs
 exact Aw.mk hs hb
theorem Jk {a b : Nat} (ha : a < AE) (hb : b < AE) : (Ah (AW a) == Ah (AW b)) = (a == b) := by
 rw [Bool.eq_iff_iff, beq_iff_eq, beq_iff_eq]
 constructor
 ·intro h
  have := congrArg ofN h
  rwa [FU ha, FU hb] at this
 ·rintro rfl; rfl
theorem Fh (N : Nat) (w : World) :
  Calls Tryz.prog 81 #[.int .u64 N] w (Aw (fun x w' => Sl w' (w.heap.size <= ·) 1 x (Ah (AW N)).length (AM (Ah (AW N)))) w) := by
 have h : (Ah (AW N)).length = (AW N).length := by simp [Ah]
 rw [h]; exact FV N w
theorem EU {P : Program} {o : Oper} {a : Act} {w : World} {K : Act -> World -> Prop} {Q : Exit -> Act -> World -> Prop} {t : TypeId} {x : Operand} {g j : Nat} {ty : TypeId} {cs : Array Value} {x' : Value} {d : TypeDesc} (ho : o.op = .load t x) (hx : a.eval x = .pointer (some ⟨g, j, none⟩)) (hb : AX w g ty cs) (hx' : cs[j]? = some x')
  (hu : P.underlying t = some d) (hd : d.isRow = true) (hi : (P.info? t).map (·.size) = some 1) (hk : K (a.put o.dst (.agg #[x'])) w) : o.wp P a w K Q :=
 Be (cs := [x']) ho hx (fun i v hi => by
  cases i with
  | zero => simp at hi; subst hi; rw [Nat.add_zero, hb.cell]; exact hx'
  | succ i => simp at hi) hu hd hi hk
theorem same1_any (u : Value) (y n y' n' : Nat) (hy : y < AE) (hn : n < AE) (hy' : y' < AE) (hn' : n' < AE) (D : Nat -> Prop) (w0 : World) (hu : Bx w0 D u (y, n)) (hT : BD w0) :
  Calls Tryz.prog 78 #[u, .agg #[.int .u64 y', .int .u64 n']] w0 (Aw (fun x _ => x = .bool ((y, n) == (y', n'))) w0) := by
 obtain ⟨a, b, rfl, ha, hb⟩ := hu
 dsimp only at ha hb
 obtain ⟨A, m, c, rfl⟩ := ha.shape
 obtain ⟨B, k, d, rfl⟩ := hb.shape
 obtain ⟨K, k1, k2, k3, hS⟩ : ∃ K : (Nat -> Prop) -> World -> Prop, (∀ D w, K D w -> A5 w D (.agg #[.slice A m c]) y) /\ (∀ D w, K D w -> A5 w D (.agg #[.slice B k d]) n) /\ (∀ D w, K D w -> BD w /\ D 0) /\ St w0 w0 [] K :=
  ⟨fun D w => A5 w D (.agg #[.slice A m c]) y /\ A5 w D (.agg #[.slice B k d]) n /\ BD w /\ D 0, fun _ _ h => h.1, fun _ _ h => h.2.1, fun _ _ h => h.2.2, St.start (D := fun _ => True) (Ak.and (Ak.and Ct)) ⟨ha.imp fun _ _ _ => trivial, hb.imp fun _ _ _ => trivial, hT, trivial⟩⟩
 have e0 : ((y, n) == (y', n')) = ((y == y') && (n == n')) := rfl
 rw [e0]
 have Q1 := Lib.hid (Jk hy hy')
 have Q2 := Lib.hid (Jk hn hn')
 generalize (n == n') = q2 at *
 clear ha hb hT
 go_enter Tryz.func78, Tryz.ntmps78
 go_wp2_with (first | ((with_reducible refine qA 2 ?_); refine AH hS rfl _ _ rfl (.agg #[.slice A m c, .slice B k d]) _ rfl rfl ?_; clear hS; intro g2 w_ hS; (try simp only [Act.put, Act.eval, zz, Value.cells] at hS)) | ((with_reducible refine qA 3 ?_); refine AH hS rfl _ _ rfl (.agg #[.int .u64 y', .int .u64 n']) _ rfl rfl ?_; clear hS; intro g3 w_ hS; (try simp only [Act.put, Act.eval, zz, Value.cells] at hS)))
 cases hq1 : (y == y')
 ·
  refine Ep [.q g2 0, .i (.agg #[.slice A m c]), .s (fun v w => Sl w (fun _ => True) 1 v (Ah (AW y)).length (AM (Ah (AW y)))) fun v w w' h hb => Sl.ext h hb, .q g3 0, .i (.int .u64 y'), .s (fun v w => Sl w (fun _ => True) 1 v (Ah (AW y')).length (AM (Ah (AW y')))) fun v w w' h hb => Sl.ext h hb, .b false, .b false, .t, .t, .t, .t, .t, .t, .t, .b false, .b false] ⟨uF, ?_, ?_, uF, uC (h := fun w hW hN => (hS.ext hW).shut 0 rfl 0 rfl), ?_, ?_, uM, uW, uW, uW, uW, uW, uW, uW, uP, uA, trivial⟩ ?_
  ·refine uT fun b__ w hW hE K hK => ?_
   have e5 := hE 5
   exact EU rfl e5 ((hS.ext hW).box 1 rfl) rfl Tryz.underlying39 (by kernel_rfl) (by kernel_rfl) (hK _ _ rfl (Below.refl _ _))
  ·refine uT fun b__ w hW hE K hK => ?_
   have e6 := hE 6
   exact AL rfl (by kernel_rfl) (by simp [e6]) (GZ _ y hy _ w (k1 _ _ (hS.ext hW).ro) (k3 _ _ (hS.ext hW).ro).1) fun v w' h hb => hK v w' (h.imp fun _ _ _ => trivial) hb
  ·refine uT fun b__ w hW hE K hK => ?_
   have e9 := hE 9
   exact AL rfl (by kernel_rfl) (by simp [e9]) (Fh y' w) fun v w' h hb => hK v w' (h.imp fun _ _ _ => trivial) hb
  ·refine uT fun b__ w hW hE K hK => ?_
   have e7 := hE 7
   have e10 := hE 10
   exact AL rfl (by kernel_rfl) rfl (Hs _ _ _ _ w _ _ e7 e10) fun v w' h hb => hK v w' (h.trans (by rw [Q1.out, hq1])) hb
  ·intro vs wz hW hT
   obtain ⟨e5, e6, e7, e8, e9, e10, e11, e12, e20, e4, -⟩ := hT
   have bx : (fun _ : Nat => True) 0 := trivial
   simp only [AV, Act.put, zz, ze]
   go_wp2_with fail
   go_ret
   exact Aw.mk rfl (Cj hS.below hW)
 ·
  refine Ep [.q g2 0, .i (.agg #[.slice A m c]), .s (fun v w => Sl w (fun _ => True) 1 v (Ah (AW y)).length (AM (Ah (AW y)))) fun v w w' h hb => Sl.ext h hb, .q g3 0, .i (.int .u64 y'), .s (fun v w => Sl w (fun _ => True) 1 v (Ah (AW y')).length (AM (Ah (AW y')))) fun v w w' h hb => Sl.ext h hb, .b true, .b true, .q g2 1, .i (.agg #[.slice B k d]), .s (fun v w => Sl w (fun _ => True) 1 v (Ah (AW n)).length (AM (Ah (AW n)))) fun v w w' h hb => Sl.ext h hb, .q g3 1, .i (.int .u64 n'), .s (fun v w => Sl w (fun _ => True) 1 v (Ah (AW n')).length (AM (Ah (AW n')))) fun v w w' h hb => Sl.ext h hb, .i (.bool q2), .i (.bool q2), .i (.bool q2)] ⟨uF, ?_, ?_, uF, uC (h := fun w hW hN => (hS.ext hW).shut 0 rfl 0 rfl), ?_, ?_, uM, uF, ?_, ?_, uF, uC (h := fun w hW hN => (hS.ext hW).shut 0 rfl 1 rfl), ?_, ?_, uP, uA, trivial⟩ ?_
  ·refine uT fun b__ w hW hE K hK => ?_
   have e5 := hE 5
   exact EU rfl e5 ((hS.ext hW).box 1 rfl) rfl Tryz.underlying39 (by kernel_rfl) (by kernel_rfl) (hK _ _ rfl (Below.refl _ _))
  ·refine uT fun b__ w hW hE K hK => ?_
   have e6 := hE 6
   exact AL rfl (by kernel_rfl) (by simp [e6]) (GZ _ y hy _ w (k1 _ _ (hS.ext hW).ro) (k3 _ _ (hS.ext hW).ro).1) fun v w' h hb => hK v w' (h.imp fun _ _ _ => trivial) hb
  ·refine uT fun b__ w hW hE K hK => ?_
   have e9 := hE 9
   exact AL rfl (by kernel_rfl) (by simp [e9]) (Fh y' w) fun v w' h hb => hK v w' (h.imp fun _ _ _ => trivial) hb
  ·refine uT fun b__ w hW hE K hK => ?_
   have e7 := hE 7
   have e10 := hE 10
   exact AL rfl (by kernel_rfl) rfl (Hs _ _ _ _ w _ _ e7 e10) fun v w' h hb => hK v w' (h.trans (by rw [Q1.out, hq1])) hb
  ·refine uT fun b__ w hW hE K hK => ?_
   have e13 := hE 13
   exact EU rfl e13 ((hS.ext hW).box 1 rfl) rfl Tryz.underlying39 (by kernel_rfl) (by kernel_rfl) (hK _ _ rfl (Below.refl _ _))
  ·refine uT fun b__ w hW hE K hK => ?_
   have e14 := hE 14
   exact AL rfl (by kernel_rfl) (by simp [e14]) (GZ _ n hn _ w (k2 _ _ (hS.ext hW).ro) (k3 _ _ (hS.ext hW).ro).1) fun v w' h hb => hK v w' (h.imp fun _ _ _ => trivial) hb
  ·refine uT fun b__ w hW hE K hK => ?_
   have e17 := hE 17
   exact AL rfl (by kernel_rfl) (by simp [e17]) (Fh n' w) fun v w' h hb => hK v w' (h.imp fun _ _ _ => trivial) hb
  ·refine uT fun b__ w hW hE K hK => ?_
   have e15 := hE 15
   have e18 := hE 18
   exact AL rfl (by kernel_rfl) rfl (Hs _ _ _ _ w _ _ e15 e18) fun v w' h hb => hK v w' (h.trans (by rw [Q2.out])) hb
  ·intro vs wz hW hT
   obtain ⟨e5, e6, e7, e8, e9, e10, e11, e12, e13, e14, e15, e16, e17, e18, e19, e20, e4, -⟩ := hT
   have bx : (fun _ : Nat => True) 0 := trivial
   simp only [AV, Act.put, zz, ze]
   go_wp2_with fail
   go_ret
   exact Aw.mk rfl (Cj hS.below hW)
theorem CW {v : Value} {z : Nat × Nat} : AF fun D w => Bx w D v z := fun D D' w w' h a b c => by
 obtain ⟨x, y, h1, h2, h3⟩ := h
 exact ⟨x, y, h1, Ak D D' w w' h2 a b c, Ak D D' w w' h3 a b c⟩
theorem drop_beq {l t : List (Nat × Nat)} {k : Nat} (h : k < l.length) (h' : k < t.length) : (l.drop k == t.drop k) = (l.getD k (0, 0) == t.getD k (0, 0) && (l.drop (k + 1) == t.drop (k + 1))) := by
 rw [List.drop_eq_getElem_cons h, List.drop_eq_getElem_cons h']
 simp only [List.getD_eq_getElem?_getD, List.getElem?_eq_getElem h, List.getElem?_eq_getElem h', Option.getD_some]
 rfl
theorem eqrcubes_any (u v : Value) (l t : List (Nat × Nat)) (w0 : World) (D E : Nat -> Prop) (hu : Af w0 D u l) (hv : BH w0 E v t) (hl : Small l) (ht : Small t) (hT : BD w0) :
  Calls Tryz.prog 77 #[u, v, .func (.func 78) #[] #[]] w0 (Aw (fun x _ => x = .bool (l == t)) w0) := by
 obtain ⟨A, c, rfl, _, _⟩ := hu.shape
 obtain ⟨A', c', rfl, _, _⟩ := hv.shape
 obtain ⟨K, k1, k2, k3, hS⟩ : ∃ K : (Nat -> Prop) -> World -> Prop, (∀ D w, K D w -> Af w D (.slice A l.length c) l) /\ (∀ D w, K D w -> Sl w D 2 (.slice A' t.length c') t.length (AC t)) /\ (∀ D w, K D w -> BD w /\ D 0) /\ St w0 w0 [] K :=
  ⟨fun D w => Af w D (.slice A l.length c) l /\ Sl w D 2 (.slice A' t.length c') t.length (AC t) /\ BD w /\ D 0, fun _ _ h => h.1, fun _ _ h => h.2.1, fun _ _ h => h.2.2, St.start (D := fun _ => True) (B9.and (AF.and Aj Ct)) ⟨hu.imp fun _ _ _ => trivial, Sl.imp hv fun _ _ _ => trivial, hT, trivial⟩⟩
 have hSt0 := Lib.hid hS.stable
 have HL := Lib.hid hl
 have HT := Lib.hid ht
 clear hu hv hT hl ht
 go_enter Tryz.func77, Tryz.ntmps77
 by_cases hlen : l.length = t.length
 ·have HLen := Lib.hid hlen
  have hle : l.length <= t.length := by omega
  have hge : t.length <= l.length := by omega
  have hR : Hid ((l == t) = (l.drop 0 == t.drop 0)) := Lib.hid rfl
  generalize (l == t) = RES at *
  clear hlen
  go_wp2_with (first | ((with_reducible refine qB ?_); refine qc ?_ ?_ <;> intro h_ <;> go_prune))
  go_loopw [17] (fun i wr => ∃ k : Nat, ∃ F, k <= l.length /\ i = .int .i64 k /\ St w0 wr F K /\ Hid (RES = (l.drop k == t.drop k))) (fun i _ => l.length - (intOf i).toNat)
  case atStart => exact ⟨0, _, by omega, rfl, hS, hR⟩
  case round =>
   obtain ⟨k, F, hk, rfl, hS, hR⟩ := hrel
   by_cases hlt : k < l.length
   ·obtain ⟨b, o, y, n, rfl, _, hb, c0, c1, hy, hn⟩ := (k1 _ _ hS.ro).at_ hlt
    obtain ⟨Ay, my, cy, rfl⟩ := hy.shape
    obtain ⟨An, mn, cn, rfl⟩ := hn.shape
    obtain ⟨f1, f2⟩ := Dz t k (by omega)
    have hlt' : k < t.length := by omega
    have hz := HT.out.at_ k hlt'
    have hz2 := HL.out.at_ k hlt
    have HD := Lib.hid (drop_beq hlt hlt')
    replace hS := hS.add (D := Em F) (CW (v := .agg #[.slice Ay my cy, .slice An mn cn]) (z := l.getD k (0, 0))) ⟨_, _, rfl, hy, hn⟩ fun _ h _ => h
    clear hy hn
    generalize l.getD k (0, 0) = z1 at *
    generalize t.getD k (0, 0) = z2 at *
    obtain ⟨y1, n1⟩ := z1
    obtain ⟨y2, n2⟩ := z2
    dsimp only at f1 f2 hz hz2
    obtain ⟨K', kk, kc, k2', k3', hS'⟩ : ∃ K' : (Nat -> Prop) -> World -> Prop, (∀ D w, K' D w -> K D w) /\ (∀ D w, K' D w -> Bx w D (.agg #[.slice Ay my cy, .slice An mn cn]) (y1, n1)) /\ (∀ D w, K' D w -> Sl w D 2 (.slice A' t.length c') t.length (AC t)) /\ (∀ D w, K' D w -> BD w /\ D 0) /\ St w0 wr F K' :=
     ⟨_, fun _ _ h => h.1, fun _ _ h => h.2, fun _ _ h => k2 _ _ h.1, fun _ _ h => k3 _ _ h.1, hS⟩
    clear hS
    have hS := hS'
    clear hS'
    go_wp2_with (first
     | ((with_reducible refine qA 8 ?_); refine qa hS #[.slice none 0 0, .slice none 0 0] ?_; clear hS; intro g8 w_ hS)
     | ((with_reducible refine qA 9 ?_); refine qa hS #[.int .u64 0, .int .u64 0] ?_; clear hS; intro g9 w_ hS)
     | ((with_reducible refine qM ?_); (first | refine qS hS ?_ | refine qT hS ?_); clear hS; intro w_ hS; (try simp only [Act.put, Act.eval, zz, Value.cells] at hS))
     | ((with_reducible refine qB ?_); refine qc ?_ ?_ <;> intro h_ <;> go_prune)
     | ((with_reducible refine qK ?_); refine qL hS Tryz.underlying56 ?_)
     | ((with_reducible refine qK ?_); refine qL hS Tryz.underlying50 ?_)
     | ((with_reducible refine qI ?_); refine qj hS Tryz.underlying28 ?_; intro b_ j_ hc0_ hc1_))
    refine (same1_any _ y1 n1 y2 n2 hz2.1 hz2.2 hz.1 hz.2 _ _ (kc _ _ hS.ro) (k3' _ _ hS.ro).1).mono ?_
    rintro e w2 ⟨_, rfl, rfl, hb2⟩
    replace hS := (hS.ext hb2).mono hSt0.out kk
    generalize ((y1, n1) == (y2, n2)) = q at *
    cases q
    ·go_wp2_with fail
     have hE : RES = false := by rw [hR.out, HD.out]; rfl
     subst hE
     go_ret
     exact Aw.mk rfl hS.below
    ·go_wp2_with fail
     exact ⟨⟨k + 1, _, hlt, by go_num, hS, Lib.hid (by rw [hR.out, HD.out]; rfl)⟩, by simp [intOf]; omega⟩
   ·obtain rfl : k = l.length := by omega
    have hE : RES = true := by rw [hR.out, List.drop_length, HLen.out, List.drop_length]; rfl
    go_wp2_with (first | ((with_reducible refine qB ?_); refine qc ?_ ?_ <;> intro h_ <;> go_prune))
    subst hE
    go_ret
    exact Aw.mk rfl hS.below
 ·have hd : (l == t) = false := by rw [beq_eq_false_iff_ne]; rintro rfl; exact hlen rfl
  go_wp2_with (first | ((with_reducible refine qB ?_); refine qc ?_ ?_ <;> intro h_ <;> go_prune))
  rw [hd]
  go_ret
  exact Aw.mk rfl hS.below
theorem lsame_any (u v : Value) (l t : List (Nat × Nat)) (w0 : World) (D E : Nat -> Prop) (hu : Af w0 D u l) (hv : BH w0 E v t) (hl : Small l) (ht : Small t) (hT : BD w0) :
  Calls Tryz.prog 21 #[u, v] w0 (Aw (fun x _ => x = .bool (l == t)) w0) := by
 have HC := Lib.hid (eqrcubes_any u v l t w0 D E hu hv hl ht hT)
 clear hu hv
 go_enter Tryz.func21, Tryz.ntmps21
 go_wp2_with fail
 refine HC.out.mono ?_
 rintro e w2 ⟨_, rfl, rfl, hb2⟩
 go_wp2_with fail
 go_ret
 exact Aw.mk rfl hb2
set_option maxHeartbeats 2000000 in
theorem csame_any (u v : Value) (x y : CD) (w0 : World) (D E : Nat -> Prop) (hu : Ba w0 D u x) (hv : IsRCert w0 E v y) (hx : Small x.cubes) (hy : Small y.cubes) (hT : BD w0) :
  Calls Tryz.prog 46 #[u, v] w0 (Aw (fun r _ => r = .bool (eqC x y)) w0) := by
 obtain ⟨pv, qv, rfl, h32, _, hp, hq⟩ := hu.cc
 obtain ⟨pv', qv', rfl, h32', _, hp', hq'⟩ := hv
 obtain ⟨A, c1, rfl, _, _⟩ := hp.shape
 obtain ⟨B, c2, rfl, _, _⟩ := hq.shape
 obtain ⟨A', c3, rfl, _, _⟩ := hp'.shape
 obtain ⟨B', c4, rfl, _, _⟩ := hq'.shape
 obtain ⟨prob, r, plan, cubes⟩ := x
 obtain ⟨prob', r', plan', cubes'⟩ := y
 dsimp only at *
 have HR := Lib.hid (show eqC ⟨prob, r, plan, cubes⟩ ⟨prob', r', plan', cubes'⟩ = (prob == prob' && (r == r' && (plan == plan' && cubes == cubes'))) from rfl)
 generalize eqC ⟨prob, r, plan, cubes⟩ ⟨prob', r', plan', cubes'⟩ = RES at *
 obtain ⟨K, k1, k2, k3, k4, k5, hS⟩ : ∃ K : (Nat -> Prop) -> World -> Prop, (∀ D w, K D w -> Sl w D 1 (.slice A plan.length c1) plan.length (AM plan)) /\ (∀ D w, K D w -> Af w D (.slice B cubes.length c2) cubes) /\ (∀ D w, K D w -> Sl w D 1 (.slice A' plan'.length c3) plan'.length (AM plan')) /\ (∀ D w, K D w -> BH w D (.slice B' cubes'.length c4) cubes') /\ (∀ D w, K D w -> BD w /\ D 0) /\ St w0 w0 [] K :=
  ⟨fun D w => Sl w D 1 (.slice A plan.length c1) plan.length (AM plan) /\ Af w D (.slice B cubes.length c2) cubes /\ Sl w D 1 (.slice A' plan'.length c3) plan'.length (AM plan') /\ Sl w D 2 (.slice B' cubes'.length c4) cubes'.length (AC cubes') /\ BD w /\ D 0,
   fun _ _ h => h.1, fun _ _ h => h.2.1, fun _ _ h => h.2.2.1, fun _ _ h => h.2.2.2.1, fun _ _ h => h.2.2.2.2, St.start (D := fun _ => True) (AF.and Aj (AF.and B9 (AF.and Aj (AF.and Aj Ct)))) ⟨hp.imp fun _ _ _ => trivial, hq.imp fun _ _ _ => trivial, hp'.imp fun _ _ _ => trivial, Sl.imp hq' fun _ _ _ => trivial, hT, trivial⟩⟩
 have hq1 := fun (w : World) => eql_id w prob prob' h32 h32'
 obtain ⟨x32, x33, x34⟩ := cc_at prob r (.slice A plan.length c1) (.slice B cubes.length c2) h32
 obtain ⟨y32, y33, y34⟩ := cc_at prob' r' (.slice A' plan'.length c3) (.slice B' cubes'.length c4) h32'
 have HI1 := Lib.hid (show (Tryz.prog.info? 87).map (·.size) = some (Ad prob).length by rw [Ae, h32]; kernel_rfl)
 have HI2 := Lib.hid (show (Tryz.prog.info? 86).map (·.size) = some (Ad prob').length by rw [Ae, h32']; kernel_rfl)
 obtain ⟨cs, hcs⟩ : ∃ cs, cs = cc prob r (.slice A plan.length c1) (.slice B cubes.length c2) := ⟨_, rfl⟩
 obtain ⟨ds, hds⟩ : ∃ cs, cs = cc prob' r' (.slice A' plan'.length c3) (.slice B' cubes'.length c4) := ⟨_, rfl⟩
 rw [<- hcs] at x32 x33 x34 ⊢
 rw [<- hds] at y32 y33 y34 ⊢
 have HC := Lib.hid hcs
 have HD := Lib.hid hds
 have HX := Lib.hid hx
 have HY := Lib.hid hy
 clear hcs hds h32 h32' hu hp hq hp' hq' hT hx hy
 generalize (prob == prob') = b1 at *
 go_enter Tryz.func46, Tryz.ntmps46
 cases b1 <;> cases r <;> cases r'
 all_goals
  go_wp2_with (first
   | ((with_reducible refine qA 2 ?_); refine AH hS rfl _ _ rfl (.agg cs) _ rfl rfl ?_; clear hS; intro g2 w_ hS; (try simp only [Act.put, Act.eval, zz, Value.cells] at hS))
   | ((with_reducible refine qA 3 ?_); refine AH hS rfl _ _ rfl (.agg ds) _ rfl rfl ?_; clear hS; intro g3 w_ hS; (try simp only [Act.put, Act.eval, zz, Value.cells] at hS))
   | ((with_reducible refine qA 6 ?_); refine wpList_load_mid rfl _ _ rfl g2 0 rfl _ _ (cc_range (HC.out ▸ hS.box 1 rfl)) Tryz.underlying87 rfl HI1.out ?_)
   | ((with_reducible refine qA 8 ?_); refine wpList_load_mid rfl _ _ rfl g3 0 rfl _ _ (cc_range (HD.out ▸ hS.box 0 rfl)) Tryz.underlying86 rfl HI2.out ?_)
   | ((with_reducible refine qK ?_); refine qC hS ?_))
 all_goals first
  | (go_ret; exact Aw.mk (by rw [HR.out]; rfl) hS.below)
  | (
   refine (Hs _ _ plan plan' _ _ _ (k1 _ _ hS.ro) (k3 _ _ hS.ro)).mono ?_
   rintro e w1 ⟨_, rfl, rfl, hb1⟩
   replace hS := hS.ext hb1
   generalize (plan == plan') = q at *
   cases q
   ·go_wp2_with (first | ((with_reducible refine qK ?_); refine qC hS ?_))
    go_ret; exact Aw.mk (by rw [HR.out]; rfl) hS.below
   ·go_wp2_with (first | ((with_reducible refine qK ?_); refine qC hS ?_))
    refine (lsame_any _ _ cubes cubes' _ _ _ (k2 _ _ hS.ro) (k4 _ _ hS.ro) HX.out HY.out (k5 _ _ hS.ro).1).mono ?_
    rintro e w2 ⟨_, rfl, rfl, hb2⟩
    replace hS := hS.ext hb2
    go_wp2_with fail
    go_ret; exact Aw.mk (by rw [HR.out]; rfl) hS.below)
end
section
open Go.RowKit
attribute [local go_sem ↓] Go.wp_at_zero Go.wp_at_succ
set_option maxRecDepth 20000
set_option exponentiation.threshold 5000
section
variable {P : Program} {ops : Array Oper} {rest : List Oper} {o : Oper} {a : Act} {w : World} {Q : Exit -> Act -> World -> Prop}
end
theorem Hf.ins {L : List (Nat × Nat)} (h : Hf L) {x y : Nat} (hx : 1 <= x /\ x < 64) (hy : 1 <= y /\ y < 64) (hne : x ≠ y) (hm : (x, y) ∉ L) (ht : ¬ TC L y x) : Hf (ins L (x, y)) := by
 refine ⟨ins_asc h.asc hm, fun z hz => ?_, (acyc_ins h.acyc fun z => JK).2 ?_⟩
 ·rcases JK.1 hz with rfl | hz
  ·exact ⟨hx, hy⟩
  ·exact h.role z hz
 ·rintro (e | e)
  ·exact hne e.symm
  ·exact ht e
theorem Gc {w : World} {D : Nat -> Prop} {size n c b o j : Nat} {xs : List Value} {x : Value} (h : Sl w D size (.slice (some ⟨b, o, none⟩) n c) n xs) (hj : xs[j]? = some x) : w.cell? ⟨b, o + j, none⟩ = some x := by
 obtain ⟨h1, A, c2, h2, _, _, h5⟩ := h
 have hlt := (List.getElem?_eq_some_iff.1 hj).1
 have hn : 0 < n := by
  rcases Nat.eq_zero_or_pos n with h0 | h0
  ·subst h0; simp at h1; subst h1; simp at hlt
  ·exact h0
 obtain ⟨b2, o2, h6, _, _, h8⟩ := h5 hn
 injection h2 with h2
 rw [h6] at h2
 injection h2 with h2
 injection h2 with h9 h10
 rw [h9, h10]
 exact h8 j x hj
end
section
open Go.RowKit
attribute [local go_sem ↓] Go.wp_at_zero Go.wp_at_succ
set_option maxRecDepth 20000
set_option exponentiation.threshold 5000
theorem run_and64 {P : Program} {w : World} {t : TypeId} {x y : Nat} (hx : x < AE) (hy : y < AE) : (binOp .and t (.int .u64 (x : Nat)) (.int .u64 (y : Nat))).run P w = .ok (.int .u64 ((x &&& y : Nat) : Int)) w := by
 go_simp; rw [GM hx hy]
end
section
open Go.RowKit
attribute [local go_sem ↓] Go.wp_at_zero Go.wp_at_succ
set_option maxRecDepth 20000
set_option exponentiation.threshold 5000
section
variable {P : Program} {ops : Array Oper} {rest : List Oper} {o : Oper} {a : Act} {w0 w : World} {F : List A7} {K : (Nat -> Prop) -> World -> Prop} {Kt : Act -> World -> Prop} {Q : Exit -> Act -> World -> Prop}
theorem E6 {x : Operand} {f : FuncId} {first caps : Array Value} {xs : Array Operand} {ts : Array TypeId} {vs : List Value} {R : Ending -> World -> Prop} (ho : o.op = .call { callee := .value x, args := xs, argTypes := ts }) (hx : a.eval x = .func (.func f) first caps) (hc : C8 P f = true) (hv : first.toList ++ xs.toList.map a.eval ++ caps.toList = vs)
  (h : Calls P f vs.toArray w R) (hk : ∀ e w', R e w' -> ∃ v, e = .returned v /\ Kt (a.put o.dst v) w') : o.wp P a w Kt Q := by
 have he : execOp a.eval o = callFunc f vs.toArray := by
  cases o with
  | mk dst op ty pos after guard =>
   simp only at ho
   subst ho
   have e1 : vs.toArray = first ++ xs.map a.eval ++ caps := by rw [<- hv]; simp
   rw [e1]
   simp [execOp, resolve, hx, Deferred.ofValue, invoke]
 unfold Oper.wp
 rw [he, Hx f vs.toArray hc]
 refine h.mono fun e w' hR => ?_
 obtain ⟨v, rfl, hk⟩ := hk e w' hR
 exact hk
theorem Bb (h : St w0 w F K) (i : Nat) (hg : Region.wanted o (yielded ops a.tmps) = true) (x : Operand) (ty : TypeId) (ho : o.op = .load ty x) (g j : Nat) (hx : a.eval x = .pointer (some ⟨g, j, none⟩)) (t : TypeId) (cs : Array Value) (hb : F[i]? = some (.box g t cs)) (v : Value) (hv : cs[j]? = some v)
  {d : TypeDesc} (hu : P.underlying ty = some d) (hd : d.isRow = true) (hi : (P.info? ty).map (·.size) = some 1) (hk : wpList P ops Q rest (a.put o.dst (.agg #[v])) w) : wpList P ops Q (o :: rest) a w :=
 BigFrame.wpList_want hg fun _ hK => EU ho hx (h.box i hb) hv hu hd hi (hK _ _ hk)
theorem EP (h : St w0 w F K) (i : Nat) (hg : Region.wanted o (yielded ops a.tmps) = true) (x : Operand) (ty : TypeId) (ho : o.op = .load ty x) (g j : Nat) (hx : a.eval x = .pointer (some ⟨g, j, none⟩)) (t : TypeId) (cs : Array Value) (hb : F[i]? = some (.box g t cs)) (v u : Value) (hv : cs[j]? = some v) (hv2 : cs[j + 1]? = some u)
  {d : TypeDesc} (hu : P.underlying ty = some d) (hd : d.isRow = true) (hi : (P.info? ty).map (·.size) = some 2) (hk : wpList P ops Q rest (a.put o.dst (.agg #[v, u])) w) : wpList P ops Q (o :: rest) a w :=
 BigFrame.wpList_want hg fun _ hK => Be (cs := [v, u]) ho hx (fun k z hz => by
  have hbx := h.box i hb
  match k, hz with
  | 0, hz => obtain rfl := Option.some.inj (show some _ = some z from hz); rw [Nat.add_zero, hbx.cell]; exact hv
  | 1, hz => obtain rfl := Option.some.inj (show some _ = some z from hz); rw [hbx.cell]; exact hv2
  | k + 2, hz => simp at hz) hu hd hi (hK _ _ hk)
end
theorem rng2 {w : World} {g i : Nat} {a b : Value} (h0 : w.cell? ⟨g, i, none⟩ = some a) (h1 : w.cell? ⟨g, i + 1, none⟩ = some b) : w.rangeAt g i [a, b] := fun j v hj => by
 match j, hj with
 | 0, hj => obtain rfl := Option.some.inj (show some _ = some v from hj); exact h0
 | 1, hj => obtain rfl := Option.some.inj (show some _ = some v from hj); exact h1
 | j + 2, hj => simp at hj
theorem run_geB {P : Program} {w : World} {t : TypeId} {k : IntKind} {m n : Int} {b : Bool} (h : decide (m ≥ n) = b) : (binOp .geq t (.int k m) (.int k n)).run P w = .ok (.bool b) w := by
 rw [binOp_geq, <- h]; simp
def C3 (z : Nat × Nat) (N : Nat) : Bool := (z.1 &&& N == z.1) && !(z.2 &&& N != 0)
theorem holds_any {w0 : World} {D E : Nat -> Prop} {u v : Value} {z : Nat × Nat} {N : Nat} (hu : Bx w0 D u z) (hv : A5 w0 E v N) : Calls Tryz.prog 25 #[u, v] w0 (Aw (fun x _ => x = .bool (C3 z N)) w0) := by
 obtain ⟨a, b, rfl, ha, hb⟩ := hu
 obtain ⟨y, n⟩ := z
 dsimp only at ha hb
 obtain ⟨A, m, c, rfl⟩ := ha.shape
 obtain ⟨B, k, d, rfl⟩ := hb.shape
 obtain ⟨C, e, lw, rfl, -⟩ := hv.parts
 obtain ⟨l, hl⟩ : ∃ l, l = lw.length := ⟨_, rfl⟩
 rw [<- hl] at hv ⊢
 clear hl
 obtain ⟨K, ka, kb, kc, hS⟩ : ∃ K : (Nat -> Prop) -> World -> Prop, (∀ D w, K D w -> A5 w D (.agg #[.slice A m c]) y) /\ (∀ D w, K D w -> A5 w D (.agg #[.slice B k d]) n) /\ (∀ D w, K D w -> A5 w D (.agg #[.slice C l e]) N) /\ St w0 w0 [] K :=
  ⟨fun D w => (A5 w D (.agg #[.slice A m c]) y /\ A5 w D (.agg #[.slice B k d]) n) /\ A5 w D (.agg #[.slice C l e]) N, fun _ _ h => h.1.1, fun _ _ h => h.1.2, fun _ _ h => h.2, St.start (D := fun _ => True) ((Ak.and Ak).and Ak) ⟨⟨ha.imp fun _ _ _ => trivial, hb.imp fun _ _ _ => trivial⟩, hv.imp fun _ _ _ => trivial⟩⟩
 clear ha hb hv
 have HR := Lib.hid (show C3 (y, n) N = ((y &&& N == y) && !(n &&& N != 0)) from rfl)
 generalize C3 (y, n) N = R at *
 obtain ⟨b1, hb1⟩ : ∃ b1, b1 = (y &&& N == y) := ⟨_, rfl⟩
 have HB1 := Lib.hid hb1
 rw [<- hb1] at HR
 clear hb1
 go_enter Tryz.func25, Tryz.ntmps25
 cases b1
 all_goals
  go_wp2_with (first
   | ((with_reducible refine qA 2 ?_); refine AH hS rfl _ _ rfl (.agg #[.slice A m c, .slice B k d]) _ rfl rfl ?_; clear hS; intro g2 w_ hS; (try simp only [Act.put, Act.eval, zz, Value.cells] at hS))
   | ((with_reducible refine qA 3 ?_); refine AH hS rfl _ _ rfl (.agg #[.slice C l e]) _ rfl rfl ?_; clear hS; intro g3 w_ hS; (try simp only [Act.put, Act.eval, zz, Value.cells] at hS))
   | ((with_reducible refine qk 39 ?_); first | (refine Bb hS 0 rfl _ _ rfl _ _ rfl _ _ rfl _ (by first | rfl | assumption) Tryz.underlying39 rfl (by kernel_rfl) ?_) | (refine Bb hS 1 rfl _ _ rfl _ _ rfl _ _ rfl _ (by first | rfl | assumption) Tryz.underlying39 rfl (by kernel_rfl) ?_) | (refine Bb hS 2 rfl _ _ rfl _ _ rfl _ _ rfl _ (by first | rfl | assumption) Tryz.underlying39 rfl (by kernel_rfl) ?_) | (refine Bb hS 3 rfl _ _ rfl _ _ rfl _ _ rfl _ (by first | rfl | assumption) Tryz.underlying39 rfl (by kernel_rfl) ?_) | (refine Bb hS 4 rfl _ _ rfl _ _ rfl _ _ rfl _ (by first | rfl | assumption) Tryz.underlying39 rfl (by kernel_rfl) ?_) | (refine Bb hS 5 rfl _ _ rfl _ _ rfl _ _ rfl _ (by first | rfl | assumption) Tryz.underlying39 rfl (by kernel_rfl) ?_))
   | (go_at_call 71; refine (EZ _ _ y N _ _ _ (ka _ _ hS.ro) (kc _ _ hS.ro)).mono ?_; rintro r_ w_ ⟨_, rfl, rfl, hb_⟩; rw [<- HB1.out]; replace hS := hS.ext hb_; clear hb_)
   | (go_at_call 86; refine (meets_any _ _ n N _ _ _ (kb _ _ hS.ro) (kc _ _ hS.ro)).mono ?_; rintro r_ w_ ⟨_, rfl, rfl, hb_⟩; replace hS := hS.ext hb_; clear hb_))
  go_ret
  exact Aw.mk (by rw [HR.out]; rfl) hS.below
theorem idxc_any {w0 w : World} {F : List A7} {K : (Nat -> Prop) -> World -> Prop} (v : Value) (l : List (Nat × Nat)) (f : FuncId) (first caps : Array Value) (q : Nat × Nat -> Bool) (hcg : C8 Tryz.prog f = true) (hS : St w0 w F K) (kl : ∀ D w, K D w -> Af w D v l)
  (hq : ∀ (x : Value) (z : Nat × Nat) (w : World), z ∈ l -> (∃ F', St w0 w (F' ++ F) fun D w => K D w /\ Bx w D x z) -> Calls Tryz.prog f (first.toList ++ [x] ++ caps.toList).toArray w (Aw (fun r _ => r = .bool (q z)) w)) :
  Calls Tryz.prog 138 #[v, .func (.func f) first caps] w fun e w' => ∃ k : Int, e = .returned (.int .i64 k) /\ decide (0 <= k) = l.any q /\ St w0 w' F K := by
 obtain ⟨A, c, rfl, _, hc2⟩ := (kl _ _ hS.ro).shape
 have KS := Lib.hid hS.stable
 have HQ := Lib.hid hq
 clear hq
 have HCG := Lib.hid hcg
 clear hcg
 go_enter Tryz.func138, Tryz.ntmps138
 go_wp2_with (first | ((with_reducible refine qB ?_); refine qc ?_ ?_ <;> intro h_ <;> go_prune))
 go_loopw [8] (fun i wr => ∃ k : Nat, k <= l.length /\ i = .int .i64 (k : Nat) /\ St w0 wr F K /\ Hid (∀ z ∈ l.take k, q z = false)) (fun i _ => l.length - (intOf i).toNat)
 case atStart => exact ⟨0, by omega, rfl, hS, Lib.hid (by simp)⟩
 case round =>
  clear hS
  obtain ⟨k, hk, rfl, hS, HZ⟩ := hrel
  by_cases hlt : k < l.length
  ·obtain ⟨b, o, y, n, rfl, _, hb, c0, c1, hy, hn⟩ := (kl _ _ hS.ro).at_ hlt
   obtain ⟨Ay, my, cy, rfl⟩ := hy.shape
   obtain ⟨An, mn, cn, rfl⟩ := hn.shape
   have HM : Hid (l.getD k (0, 0) ∈ l) := Lib.hid (by rw [List.getD_eq_getElem?_getD, List.getElem?_eq_getElem hlt]; exact List.getElem_mem hlt)
   have HZ2 : Hid (q (l.getD k (0, 0)) = false -> ∀ z ∈ l.take (k + 1), q z = false) := Lib.hid fun h z hz => by
    rw [List.take_add_one, List.mem_append] at hz
    rcases hz with hz | hz
    ·exact HZ.out z hz
    ·rw [List.getElem?_eq_getElem hlt] at hz
     rw [List.getD_eq_getElem?_getD, List.getElem?_eq_getElem hlt] at h
     have : z = l[k] := by simpa using hz
     rw [this]; exact h
   have HY : Hid (q (l.getD k (0, 0)) = true -> true = l.any q) := Lib.hid fun h => (List.any_eq_true.2 ⟨_, HM.out, h⟩).symm
   replace hS := hS.add (D := Em F) (CW (v := .agg #[.slice Ay my cy, .slice An mn cn]) (z := l.getD k (0, 0))) ⟨_, _, rfl, hy, hn⟩ fun _ h _ => h
   clear hy hn
   generalize l.getD k (0, 0) = z at *
   have HK := Lib.hid (HQ.out (.agg #[.slice Ay my cy, .slice An mn cn]) z wr HM.out ⟨[], hS⟩)
   obtain ⟨args, hargs⟩ : ∃ args, args = first.toList ++ [Value.agg #[.slice Ay my cy, .slice An mn cn]] ++ caps.toList := ⟨_, rfl⟩
   rw [<- hargs] at HK
   have HARG := Lib.hid hargs
   clear hargs
   go_wp2_with (first
    | ((with_reducible refine qA 15 ?_); refine BigFrame.wpList_want rfl fun _ hK => Be (cs := [.slice Ay my cy, .slice An mn cn]) rfl rfl (rng2 c0 c1) Tryz.underlying56 rfl (by kernel_rfl) (hK _ _ ?_))
    | ((with_reducible refine qA 16 ?_); refine BigFrame.wpList_want rfl fun _ hK => E6 (vs := args) rfl rfl HCG.out (by simp [Act.eval, Act.put, HARG.out]) HK.out fun e w' ⟨u_, he_, hu_, hb_⟩ => ⟨u_, he_, hK _ _ ?_⟩))
   ·go_ret
    exact ⟨_, rfl, (decide_eq_true (by omega)).trans (HY.out (by assumption)), (hS.ext hb_).mono KS.out fun _ _ h => h.1⟩
   ·exact ⟨⟨k + 1, hlt, by go_num, (hS.ext hb_).mono KS.out fun _ _ h => h.1, Lib.hid (HZ2.out (by assumption))⟩, by simp [intOf]; omega⟩
  ·obtain rfl : k = l.length := by omega
   have HN : Hid (false = l.any q) := Lib.hid (by
    have h := HZ.out
    rw [List.take_length] at h
    exact (List.any_eq_false.2 fun z hz => by rw [h z hz]; simp).symm)
   go_wp2_with (first | ((with_reducible refine qB ?_); refine qc ?_ ?_ <;> intro h_ <;> go_prune))
   go_ret
   exact ⟨_, rfl, (decide_eq_false (by omega)).trans HN.out, hS⟩
theorem KI {w0 w : World} {F : List A7} {K : (Nat -> Prop) -> World -> Prop} (v : Value) (l : List (Nat × Nat)) (f : FuncId) (first caps : Array Value) (q : Nat × Nat -> Bool) (hcg : C8 Tryz.prog f = true) (hS : St w0 w F K) (kl : ∀ D w, K D w -> Af w D v l)
  (hq : ∀ (x : Value) (z : Nat × Nat) (w : World), z ∈ l -> (∃ F', St w0 w (F' ++ F) fun D w => K D w /\ Bx w D x z) -> Calls Tryz.prog f (first.toList ++ [x] ++ caps.toList).toArray w (Aw (fun r _ => r = .bool (q z)) w)) :
  Calls Tryz.prog 64 #[v, .func (.func f) first caps] w fun e w' => e = .returned (.bool (l.any q)) /\ St w0 w' F K := by
 have HI := Lib.hid (idxc_any v l f first caps q hcg hS kl hq)
 clear hcg hS kl hq
 go_enter Tryz.func64, Tryz.ntmps64
 go_wp2_with fail
 refine HI.out.mono ?_
 rintro e w1 ⟨k, rfl, hk, hS⟩
 have HK := Lib.hid hk
 clear hk
 go_wp2_with (first | ((with_reducible refine qA 8 ?_); refine BigFrame.wpList_want rfl fun _ hK => AA (vx := .int .i64 k) (vy := .int .i64 0) (v := .bool (l.any q)) rfl rfl rfl rfl (run_geB ((decide_eq_decide.2 (by omega)).trans HK.out)) (hK _ _ ?_)))
 go_ret
 exact ⟨rfl, hS⟩
end
section
open Go.RowKit
attribute [local go_sem ↓] Go.wp_at_zero Go.wp_at_succ
set_option maxRecDepth 20000
set_option exponentiation.threshold 5000
theorem some1_any {w : World} {D E : Nat -> Prop} {x sv : Value} {z : Nat × Nat} {N g : Nat} (hx : Bx w D x z) (hb : CP w E g #[sv]) (hs : A5 w E (.agg #[sv]) N) : Calls Tryz.prog 85 #[x, .pointer (some ⟨g, 0, none⟩)] w (Aw (fun r _ => r = .bool (C3 z N)) w) := by
 obtain ⟨a, b, rfl, ha, hb1⟩ := hx
 obtain ⟨A, m, c, rfl⟩ := ha.shape
 obtain ⟨B, k, d, rfl⟩ := hb1.shape
 obtain ⟨C, l, e, rfl⟩ := hs.shape
 obtain ⟨K, ka, kb, kc, hS⟩ : ∃ K : (Nat -> Prop) -> World -> Prop, (∀ D w, K D w -> Bx w D (.agg #[.slice A m c, .slice B k d]) z) /\ (∀ D w, K D w -> CP w D g #[.slice C l e]) /\ (∀ D w, K D w -> A5 w D (.agg #[.slice C l e]) N) /\ St w w [] K :=
  ⟨fun D w => (Bx w D (.agg #[.slice A m c, .slice B k d]) z /\ CP w D g #[.slice C l e]) /\ A5 w D (.agg #[.slice C l e]) N, fun _ _ h => h.1.1, fun _ _ h => h.1.2, fun _ _ h => h.2, St.start (D := fun _ => True) ((CW.and Bg).and Ak) ⟨⟨⟨_, _, rfl, ha.imp fun _ _ _ => trivial, hb1.imp fun _ _ _ => trivial⟩, Bg E _ w w hb (Nat.le_refl _) (fun _ _ _ _ h => h) fun _ _ _ _ => trivial⟩, hs.imp fun _ _ _ => trivial⟩⟩
 clear ha hb1 hb hs
 go_enter Tryz.func85, Tryz.ntmps85
 go_wp2_with (first
  | ((with_reducible refine qA 2 ?_); refine AH hS rfl _ _ rfl (.agg #[.slice A m c, .slice B k d]) _ rfl rfl ?_; clear hS; intro g2 w_ hS; (try simp only [Act.put, Act.eval, zz, Value.cells] at hS))
  | ((with_reducible refine qK ?_); refine qL hS Tryz.underlying56 ?_)
  | ((with_reducible refine qk 39 ?_); refine BigFrame.wpList_want rfl fun _ hK => Be (cs := [.slice C l e]) rfl rfl (rng1 ((kb _ _ hS.ro).cell 0 rfl)) Tryz.underlying39 rfl (by kernel_rfl) (hK _ _ ?_))
  | (go_at_call 25; refine (holds_any (ka _ _ hS.ro) (kc _ _ hS.ro)).mono ?_; rintro r_ w_ ⟨_, rfl, rfl, hb_⟩; replace hS := hS.ext hb_; clear hb_))
 go_ret
 exact Aw.mk rfl hS.below
theorem some_any {w0 : World} {D E : Nat -> Prop} {v u : Value} {l : List (Nat × Nat)} {N : Nat} (hv : Af w0 D v l) (hu : A5 w0 E u N) : Calls Tryz.prog 23 #[v, u] w0 (Aw (fun r _ => r = .bool (l.any fun z => C3 z N)) w0) := by
 obtain ⟨A, c, rfl, _, _⟩ := hv.shape
 obtain ⟨C, e, lw, rfl, -⟩ := hu.parts
 obtain ⟨n, hn⟩ : ∃ n, n = lw.length := ⟨_, rfl⟩
 rw [<- hn] at hu ⊢
 clear hn
 obtain ⟨K, kl, ks, hS⟩ : ∃ K : (Nat -> Prop) -> World -> Prop, (∀ D w, K D w -> Af w D (.slice A l.length c) l) /\ (∀ D w, K D w -> A5 w D (.agg #[.slice C n e]) N) /\ St w0 w0 [] K :=
  ⟨fun D w => Af w D (.slice A l.length c) l /\ A5 w D (.agg #[.slice C n e]) N, fun _ _ h => h.1, fun _ _ h => h.2, St.start (D := fun _ => True) (B9.and Ak) ⟨hv.imp fun _ _ _ => trivial, hu.imp fun _ _ _ => trivial⟩⟩
 clear hv hu
 go_enter Tryz.func23, Tryz.ntmps23
 go_wp2_with (first
  | (((with_reducible refine qA 3 ?_); refine AH hS rfl _ _ rfl (.agg #[.slice C n e]) _ rfl rfl ?_; clear hS; intro g3 w_ hS; (try simp only [Act.put, Act.eval, zz, Value.cells] at hS)); replace hS := hS.sealB 0 (by simp) rfl)
  | (go_at_call 64; refine (KI _ l 85 #[] #[.pointer (some ⟨g3, 0, none⟩)] (fun z => C3 z N) (by kernel_rfl) hS (fun D w h => kl D w h.1) fun x z w _ ⟨F', h⟩ => some1_any h.ro.2 h.ro.1.2 (ks _ _ h.ro.1.1)).mono ?_; clear hS; rintro e_ w_ ⟨rfl, hS⟩))
 go_ret
 exact Aw.mk rfl hS.below
structure Br where
 revoke : Bool
 yes : Nat
 no : Nat
 target : Int
 origin : Int
def Bn : Br := ⟨false, 0, 0, 0, 0⟩
def He (w : World) (D : Nat -> Prop) (v : Value) (z : Br) : Prop := ∃ a b, v = .agg #[.bool z.revoke, a, b, .int .i64 z.target, .int .i64 z.origin] /\ A5 w D (.agg #[a]) z.yes /\ A5 w D (.agg #[b]) z.no
theorem J7 {v : Value} {z : Br} : AF fun D w => He w D v z := fun D D' w w' h a b c => by
 obtain ⟨x, y, h1, h2, h3⟩ := h
 exact ⟨x, y, h1, Ak D D' w w' h2 a b c, Ak D D' w w' h3 a b c⟩
def C1 (w : World) (D : Nat -> Prop) (xs : List Value) (l : List Br) : Prop :=
 ∀ i z, l[i]? = some z -> ∃ a b, xs[i * 5]? = some (.bool z.revoke) /\ xs[i * 5 + 1]? = some a /\ xs[i * 5 + 2]? = some b /\ xs[i * 5 + 3]? = some (.int .i64 z.target) /\ xs[i * 5 + 4]? = some (.int .i64 z.origin) /\ A5 w D (.agg #[a]) z.yes /\ A5 w D (.agg #[b]) z.no
theorem ED {xs : List Value} {l : List Br} : AF fun D w => C1 w D xs l := fun D D' w w' h a b c i z hi => by
 obtain ⟨x, y, h1, h2, h3, h4, h5, h6, h7⟩ := h i z hi
 exact ⟨x, y, h1, h2, h3, h4, h5, Ak D D' w w' h6 a b c, Ak D D' w w' h7 a b c⟩
def BQ (w : World) (D : Nat -> Prop) (v : Value) (l : List Br) : Prop := ∃ xs : List Value, Sl w D 5 v l.length xs /\ C1 w D xs l
theorem Cb {v : Value} {l : List Br} : AF fun D w => BQ w D v l := fun D D' w w' h a b c => by
 obtain ⟨xs, h1, h2⟩ := h
 exact ⟨xs, Aj (by decide) D D' w w' h1 a b c, ED D D' w w' h2 a b c⟩
theorem BQ.shape {w : World} {D : Nat -> Prop} {v : Value} {l : List Br} (h : BQ w D v l) : ∃ A c, v = .slice A l.length c /\ l.length <= c /\ c <= 9223372036854775807 := by
 obtain ⟨xs, h, _⟩ := h
 exact h.shape
theorem BQ.at_ {w : World} {D : Nat -> Prop} {l : List Br} {A : Option Addr} {n c : Nat} (h : BQ w D (.slice A n c) l) {k : Nat} (hk : k < l.length) :
  ∃ b o y m, A = some ⟨b, o, none⟩ /\ D b /\ b < w.heap.size /\ w.cell? ⟨b, o + k * 5, none⟩ = some (.bool (l.getD k Bn).revoke) /\ w.cell? ⟨b, o + k * 5 + 1, none⟩ = some y /\ w.cell? ⟨b, o + k * 5 + 2, none⟩ = some m /\ w.cell? ⟨b, o + k * 5 + 3, none⟩ = some (.int .i64 (l.getD k Bn).target) /\ w.cell? ⟨b, o + k * 5 + 4, none⟩ = some (.int .i64 (l.getD k Bn).origin) /\ A5 w D (.agg #[y]) (l.getD k Bn).yes /\ A5 w D (.agg #[m]) (l.getD k Bn).no := by
 obtain ⟨xs, ⟨hl, A', c', h1, _, _, h2⟩, h3⟩ := h
 injection h1 with h1
 subst h1
 obtain ⟨b, o, rfl, hD, hb, hc⟩ := h2 (by omega)
 have e : l[k]? = some (l.getD k Bn) := by rw [List.getD_eq_getElem?_getD, List.getElem?_eq_getElem hk]; rfl
 obtain ⟨y, m, q0, q1, q2, q3, q4, q5, q6⟩ := h3 k _ e
 exact ⟨b, o, y, m, rfl, hD, hb, hc _ _ q0, hc _ _ q1, hc _ _ q2, hc _ _ q3, hc _ _ q4, q5, q6⟩
theorem Ke {w : World} {g i : Nat} {a b c d e : Value} (h0 : w.cell? ⟨g, i, none⟩ = some a) (h1 : w.cell? ⟨g, i + 1, none⟩ = some b) (h2 : w.cell? ⟨g, i + 2, none⟩ = some c) (h3 : w.cell? ⟨g, i + 3, none⟩ = some d) (h4 : w.cell? ⟨g, i + 4, none⟩ = some e) : w.rangeAt g i [a, b, c, d, e] := fun j v hj => by
 match j, hj with
 | 0, hj => obtain rfl := Option.some.inj (show some _ = some v from hj); exact h0
 | 1, hj => obtain rfl := Option.some.inj (show some _ = some v from hj); exact h1
 | 2, hj => obtain rfl := Option.some.inj (show some _ = some v from hj); exact h2
 | 3, hj => obtain rfl := Option.some.inj (show some _ = some v from hj); exact h3
 | 4, hj => obtain rfl := Option.some.inj (show some _ = some v from hj); exact h4
 | j + 5, hj => simp at hj
theorem idxr_any {w0 w : World} {F : List A7} {K : (Nat -> Prop) -> World -> Prop} (v : Value) (l : List (Br)) (f : FuncId) (first caps : Array Value) (q : Br -> Bool) (hcg : C8 Tryz.prog f = true) (hS : St w0 w F K) (kl : ∀ D w, K D w -> BQ w D v l)
  (hq : ∀ (x : Value) (z : Br) (w : World), z ∈ l -> (∃ F', St w0 w (F' ++ F) fun D w => K D w /\ He w D x z) -> Calls Tryz.prog f (first.toList ++ [x] ++ caps.toList).toArray w (Aw (fun r _ => r = .bool (q z)) w)) :
  Calls Tryz.prog 189 #[v, .func (.func f) first caps] w fun e w' => ∃ k : Int, e = .returned (.int .i64 k) /\ decide (0 <= k) = l.any q /\ St w0 w' F K := by
 obtain ⟨A, c, rfl, _, hc2⟩ := (kl _ _ hS.ro).shape
 have KS := Lib.hid hS.stable
 have HQ := Lib.hid hq
 clear hq
 have HCG := Lib.hid hcg
 clear hcg
 go_enter Tryz.func189, Tryz.ntmps189
 go_wp2_with (first | ((with_reducible refine qB ?_); refine qc ?_ ?_ <;> intro h_ <;> go_prune))
 go_loopw [8] (fun i wr => ∃ k : Nat, k <= l.length /\ i = .int .i64 (k : Nat) /\ St w0 wr F K /\ Hid (∀ z ∈ l.take k, q z = false)) (fun i _ => l.length - (intOf i).toNat)
 case atStart => exact ⟨0, by omega, rfl, hS, Lib.hid (by simp)⟩
 case round =>
  clear hS
  obtain ⟨k, hk, rfl, hS, HZ⟩ := hrel
  by_cases hlt : k < l.length
  ·obtain ⟨b, o, y, n, rfl, _, hb, c0, c1, c2, c3, c4, hy, hn⟩ := (kl _ _ hS.ro).at_ hlt
   obtain ⟨Ay, my, cy, rfl⟩ := hy.shape
   obtain ⟨An, mn, cn, rfl⟩ := hn.shape
   have HM : Hid (l.getD k Bn ∈ l) := Lib.hid (by rw [List.getD_eq_getElem?_getD, List.getElem?_eq_getElem hlt]; exact List.getElem_mem hlt)
   have HZ2 : Hid (q (l.getD k Bn) = false -> ∀ z ∈ l.take (k + 1), q z = false) := Lib.hid fun h z hz => by
    rw [List.take_add_one, List.mem_append] at hz
    rcases hz with hz | hz
    ·exact HZ.out z hz
    ·rw [List.getElem?_eq_getElem hlt] at hz
     rw [List.getD_eq_getElem?_getD, List.getElem?_eq_getElem hlt] at h
     have : z = l[k] := by simpa using hz
     rw [this]; exact h
   have HY : Hid (q (l.getD k Bn) = true -> true = l.any q) := Lib.hid fun h => (List.any_eq_true.2 ⟨_, HM.out, h⟩).symm
   replace hS := hS.add (D := Em F) (J7 (v := .agg #[.bool (l.getD k Bn).revoke, .slice Ay my cy, .slice An mn cn, .int .i64 (l.getD k Bn).target, .int .i64 (l.getD k Bn).origin]) (z := l.getD k Bn)) ⟨_, _, rfl, hy, hn⟩ fun _ h _ => h
   clear hy hn
   generalize l.getD k Bn = z at *
   have HK := Lib.hid (HQ.out (.agg #[.bool z.revoke, .slice Ay my cy, .slice An mn cn, .int .i64 z.target, .int .i64 z.origin]) z wr HM.out ⟨[], hS⟩)
   obtain ⟨args, hargs⟩ : ∃ args, args = first.toList ++ [Value.agg #[.bool z.revoke, .slice Ay my cy, .slice An mn cn, .int .i64 z.target, .int .i64 z.origin]] ++ caps.toList := ⟨_, rfl⟩
   rw [<- hargs] at HK
   have HARG := Lib.hid hargs
   clear hargs
   go_wp2_with (first
    | ((with_reducible refine qA 15 ?_); refine BigFrame.wpList_want rfl fun _ hK => Be (cs := [.bool z.revoke, .slice Ay my cy, .slice An mn cn, .int .i64 z.target, .int .i64 z.origin]) rfl rfl (Ke c0 c1 c2 c3 c4) Tryz.underlying84 rfl (by kernel_rfl) (hK _ _ ?_))
    | ((with_reducible refine qA 16 ?_); refine BigFrame.wpList_want rfl fun _ hK => E6 (vs := args) rfl rfl HCG.out (by simp [Act.eval, Act.put, HARG.out]) HK.out fun e w' ⟨u_, he_, hu_, hb_⟩ => ⟨u_, he_, hK _ _ ?_⟩))
   ·go_ret
    exact ⟨_, rfl, (decide_eq_true (by omega)).trans (HY.out (by assumption)), (hS.ext hb_).mono KS.out fun _ _ h => h.1⟩
   ·exact ⟨⟨k + 1, hlt, by go_num, (hS.ext hb_).mono KS.out fun _ _ h => h.1, Lib.hid (HZ2.out (by assumption))⟩, by simp [intOf]; omega⟩
  ·obtain rfl : k = l.length := by omega
   have HN : Hid (false = l.any q) := Lib.hid (by
    have h := HZ.out
    rw [List.take_length] at h
    exact (List.any_eq_false.2 fun z hz => by rw [h z hz]; simp).symm)
   go_wp2_with (first | ((with_reducible refine qB ?_); refine qc ?_ ?_ <;> intro h_ <;> go_prune))
   go_ret
   exact ⟨_, rfl, (decide_eq_false (by omega)).trans HN.out, hS⟩
theorem anyr_any {w0 w : World} {F : List A7} {K : (Nat -> Prop) -> World -> Prop} (v : Value) (l : List (Br)) (f : FuncId) (first caps : Array Value) (q : Br -> Bool) (hcg : C8 Tryz.prog f = true) (hS : St w0 w F K) (kl : ∀ D w, K D w -> BQ w D v l)
  (hq : ∀ (x : Value) (z : Br) (w : World), z ∈ l -> (∃ F', St w0 w (F' ++ F) fun D w => K D w /\ He w D x z) -> Calls Tryz.prog f (first.toList ++ [x] ++ caps.toList).toArray w (Aw (fun r _ => r = .bool (q z)) w)) :
  Calls Tryz.prog 139 #[v, .func (.func f) first caps] w fun e w' => e = .returned (.bool (l.any q)) /\ St w0 w' F K := by
 have HI := Lib.hid (idxr_any v l f first caps q hcg hS kl hq)
 clear hcg hS kl hq
 go_enter Tryz.func139, Tryz.ntmps139
 go_wp2_with fail
 refine HI.out.mono ?_
 rintro e w1 ⟨k, rfl, hk, hS⟩
 have HK := Lib.hid hk
 clear hk
 go_wp2_with (first | ((with_reducible refine qA 8 ?_); refine BigFrame.wpList_want rfl fun _ hK => AA (vx := .int .i64 k) (vy := .int .i64 0) (v := .bool (l.any q)) rfl rfl rfl rfl (run_geB ((decide_eq_decide.2 (by omega)).trans HK.out)) (hK _ _ ?_)))
 go_ret
 exact ⟨rfl, hS⟩
theorem idxp_any {w0 w : World} {F : List A7} {K : (Nat -> Prop) -> World -> Prop} (v : Value) (l : List (Nat × Nat)) (f : FuncId) (first caps : Array Value) (q : Nat × Nat -> Bool) (hcg : C8 Tryz.prog f = true) (hS : St w0 w F K) (kl : ∀ D w, K D w -> Sl w D 2 v l.length (A6 l))
  (hq : ∀ (x : Value) (z : Nat × Nat) (w : World), z ∈ l -> St w0 w F K -> x = .agg #[.int .i64 (z.1 : Nat), .int .i64 (z.2 : Nat)] -> Calls Tryz.prog f (first.toList ++ [x] ++ caps.toList).toArray w (Aw (fun r _ => r = .bool (q z)) w)) :
  Calls Tryz.prog 209 #[v, .func (.func f) first caps] w fun e w' => ∃ k : Int, e = .returned (.int .i64 k) /\ decide (0 <= k) = l.any q /\ St w0 w' F K := by
 obtain ⟨A, c, rfl, _, hc2⟩ := (kl _ _ hS.ro).shape
 have KS := Lib.hid hS.stable
 have HQ := Lib.hid hq
 clear hq
 have HCG := Lib.hid hcg
 clear hcg
 go_enter Tryz.func209, Tryz.ntmps209
 go_wp2_with (first | ((with_reducible refine qB ?_); refine qc ?_ ?_ <;> intro h_ <;> go_prune))
 go_loopw [8] (fun i wr => ∃ k : Nat, k <= l.length /\ i = .int .i64 (k : Nat) /\ St w0 wr F K /\ Hid (∀ z ∈ l.take k, q z = false)) (fun i _ => l.length - (intOf i).toNat)
 case atStart => exact ⟨0, by omega, rfl, hS, Lib.hid (by simp)⟩
 case round =>
  clear hS
  obtain ⟨k, hk, rfl, hS, HZ⟩ := hrel
  by_cases hlt : k < l.length
  ·obtain ⟨f1, f2⟩ := Bk l k hlt
   obtain ⟨b, o, rfl, c0, c1⟩ : ∃ b o, A = some ⟨b, o, none⟩ /\ wr.cell? ⟨b, o + k * 2, none⟩ = some (.int .i64 ((l.getD k (0, 0)).1 : Nat)) /\ wr.cell? ⟨b, o + k * 2 + 1, none⟩ = some (.int .i64 ((l.getD k (0, 0)).2 : Nat)) := by
    obtain ⟨_, A2, c2, e2, _, _, h5⟩ := kl _ _ hS.ro
    obtain ⟨b, o, h6, _, _, h7⟩ := h5 (by omega)
    injection e2 with e2
    exact ⟨b, o, e2.trans h6, h7 _ _ f1, h7 _ _ f2⟩
   clear f1 f2
   have HM : Hid (l.getD k (0, 0) ∈ l) := Lib.hid (by rw [List.getD_eq_getElem?_getD, List.getElem?_eq_getElem hlt]; exact List.getElem_mem hlt)
   have HZ2 : Hid (q (l.getD k (0, 0)) = false -> ∀ z ∈ l.take (k + 1), q z = false) := Lib.hid fun h z hz => by
    rw [List.take_add_one, List.mem_append] at hz
    rcases hz with hz | hz
    ·exact HZ.out z hz
    ·rw [List.getElem?_eq_getElem hlt] at hz
     rw [List.getD_eq_getElem?_getD, List.getElem?_eq_getElem hlt] at h
     have : z = l[k] := by simpa using hz
     rw [this]; exact h
   have HY : Hid (q (l.getD k (0, 0)) = true -> true = l.any q) := Lib.hid fun h => (List.any_eq_true.2 ⟨_, HM.out, h⟩).symm
   generalize l.getD k (0, 0) = z at *
   have HK := Lib.hid (HQ.out (.agg #[.int .i64 (z.1 : Nat), .int .i64 (z.2 : Nat)]) z wr HM.out hS rfl)
   obtain ⟨args, hargs⟩ : ∃ args, args = first.toList ++ [Value.agg #[.int .i64 (z.1 : Nat), .int .i64 (z.2 : Nat)]] ++ caps.toList := ⟨_, rfl⟩
   rw [<- hargs] at HK
   have HARG := Lib.hid hargs
   clear hargs
   go_wp2_with (first
    | ((with_reducible refine qA 15 ?_); refine BigFrame.wpList_want rfl fun _ hK => Be (cs := [.int .i64 (z.1 : Nat), .int .i64 (z.2 : Nat)]) rfl rfl (rng2 c0 c1) Tryz.underlying107 rfl (by kernel_rfl) (hK _ _ ?_))
    | ((with_reducible refine qA 16 ?_); refine BigFrame.wpList_want rfl fun _ hK => E6 (vs := args) rfl rfl HCG.out (by simp [Act.eval, Act.put, HARG.out]) HK.out fun e w' ⟨u_, he_, hu_, hb_⟩ => ⟨u_, he_, hK _ _ ?_⟩))
   ·go_ret
    exact ⟨_, rfl, (decide_eq_true (by omega)).trans (HY.out (by assumption)), hS.ext hb_⟩
   ·exact ⟨⟨k + 1, hlt, by go_num, hS.ext hb_, Lib.hid (HZ2.out (by assumption))⟩, by simp [intOf]; omega⟩
  ·obtain rfl : k = l.length := by omega
   have HN : Hid (false = l.any q) := Lib.hid (by
    have h := HZ.out
    rw [List.take_length] at h
    exact (List.any_eq_false.2 fun z hz => by rw [h z hz]; simp).symm)
   go_wp2_with (first | ((with_reducible refine qB ?_); refine qc ?_ ?_ <;> intro h_ <;> go_prune))
   go_ret
   exact ⟨_, rfl, (decide_eq_false (by omega)).trans HN.out, hS⟩
theorem anyp_any {w0 w : World} {F : List A7} {K : (Nat -> Prop) -> World -> Prop} (v : Value) (l : List (Nat × Nat)) (f : FuncId) (first caps : Array Value) (q : Nat × Nat -> Bool) (hcg : C8 Tryz.prog f = true) (hS : St w0 w F K) (kl : ∀ D w, K D w -> Sl w D 2 v l.length (A6 l))
  (hq : ∀ (x : Value) (z : Nat × Nat) (w : World), z ∈ l -> St w0 w F K -> x = .agg #[.int .i64 (z.1 : Nat), .int .i64 (z.2 : Nat)] -> Calls Tryz.prog f (first.toList ++ [x] ++ caps.toList).toArray w (Aw (fun r _ => r = .bool (q z)) w)) :
  Calls Tryz.prog 186 #[v, .func (.func f) first caps] w fun e w' => e = .returned (.bool (l.any q)) /\ St w0 w' F K := by
 have HI := Lib.hid (idxp_any v l f first caps q hcg hS kl hq)
 clear hcg hS kl hq
 go_enter Tryz.func186, Tryz.ntmps186
 go_wp2_with fail
 refine HI.out.mono ?_
 rintro e w1 ⟨k, rfl, hk, hS⟩
 have HK := Lib.hid hk
 clear hk
 go_wp2_with (first | ((with_reducible refine qA 8 ?_); refine BigFrame.wpList_want rfl fun _ hK => AA (vx := .int .i64 k) (vy := .int .i64 0) (v := .bool (l.any q)) rfl rfl rfl rfl (run_geB ((decide_eq_decide.2 (by omega)).trans HK.out)) (hK _ _ ?_)))
 go_ret
 exact ⟨rfl, hS⟩
end
section
open Go.RowKit
attribute [local go_sem ↓] Go.wp_at_zero Go.wp_at_succ
set_option maxRecDepth 20000
set_option exponentiation.threshold 5000
theorem all1c_any {w0 w : World} {F : List A7} {K : (Nat -> Prop) -> World -> Prop} {x : Value} {z : Nat × Nat} {g : Nat} {f : FuncId} {first caps : Array Value} {b : Bool} (hcg : C8 Tryz.prog f = true) (hS : St w0 w F K) (kb : ∀ D w, K D w -> CP w D g #[.func (.func f) first caps]) (kx : ∀ D w, K D w -> Bx w D x z)
  (hq : ∀ w, (∃ F', St w0 w (F' ++ F) K) -> Calls Tryz.prog f (first.toList ++ [x] ++ caps.toList).toArray w (Aw (fun r _ => r = .bool b) w)) :
  Calls Tryz.prog 188 #[x, .pointer (some ⟨g, 0, none⟩)] w (Aw (fun r _ => r = .bool (!b)) w) := by
 obtain ⟨a0, b0, rfl, ha, hb⟩ := kx _ _ hS.ro
 obtain ⟨A, m, c, rfl⟩ := ha.shape
 obtain ⟨B, k, d, rfl⟩ := hb.shape
 obtain ⟨args, hargs⟩ : ∃ args, args = first.toList ++ [Value.agg #[.slice A m c, .slice B k d]] ++ caps.toList := ⟨_, rfl⟩
 rw [<- hargs] at hq
 have HARG := Lib.hid hargs
 have HQ := Lib.hid hq
 have HCG := Lib.hid hcg
 have HB := Lib.hid hS.below
 have hW := Below.refl w.heap.size w
 clear ha hb hargs hq hcg kx
 go_enter Tryz.func188, Tryz.ntmps188
 go_wp2_with (first
  | ((with_reducible refine qA 2 ?_); refine D7 rfl _ _ rfl (.agg #[.slice A m c, .slice B k d]) _ rfl rfl ?_; intro w_ hX hb_; replace hS := hS.new hb_ (.box _ _ _) ⟨Nat.le_refl _, hX⟩; replace hW := Cj hW hb_; clear hX hb_; (try simp only [Act.put, Act.eval, zz, Value.cells] at hS))
  | ((with_reducible refine qK ?_); refine qL hS Tryz.underlying56 ?_)
  | ((with_reducible refine qA 4 ?_); refine BigFrame.wpList_want rfl fun _ hK => Ao rfl rfl (by kernel_rfl) ((kb _ _ hS.ro).cell 0 rfl) (hK _ _ ?_))
  | ((with_reducible refine qA 6 ?_); refine BigFrame.wpList_want rfl fun _ hK => E6 (vs := args) rfl rfl HCG.out (by simp [Act.eval, Act.put, HARG.out]) (HQ.out _ ⟨[_], hS⟩) fun e w' ⟨u_, he_, hu_, hb_⟩ => ⟨u_, he_, hK _ _ ?_⟩))
 go_ret
 exact Aw.mk rfl (Cj hW hb_)
theorem allc_any {w0 w : World} {F : List A7} {K : (Nat -> Prop) -> World -> Prop} (v : Value) (l : List (Nat × Nat)) (f : FuncId) (first caps : Array Value) (q : Nat × Nat -> Bool) (hcg : C8 Tryz.prog f = true) (hS : St w0 w F K) (kl : ∀ D w, K D w -> Af w D v l)
  (hq : ∀ (x : Value) (z : Nat × Nat) (w : World), z ∈ l -> (∃ F', St w0 w (F' ++ F) fun D w => K D w /\ Bx w D x z) -> Calls Tryz.prog f (first.toList ++ [x] ++ caps.toList).toArray w (Aw (fun r _ => r = .bool (q z)) w)) :
  Calls Tryz.prog 136 #[v, .func (.func f) first caps] w fun e w' => e = .returned (.bool (l.all q)) /\ St w0 w' F K := by
 have KS := Lib.hid hS.stable
 have HQ := Lib.hid hq
 have HR : Hid ((!l.any fun z => !q z) = l.all q) := Lib.hid (by rw [List.all_eq_not_any_not])
 obtain ⟨R, hR⟩ : ∃ R, R = l.any fun z => !q z := ⟨_, rfl⟩
 rw [<- hR] at HR
 have HRR := Lib.hid hR
 clear hq hR
 go_enter Tryz.func136, Tryz.ntmps136
 go_wp2_with (first
  | (((with_reducible refine qA 3 ?_); refine AH hS rfl _ _ rfl (.func (.func f) first caps) _ rfl rfl ?_; clear hS; intro g3 w_ hS; (try simp only [Act.put, Act.eval, zz, Value.cells] at hS)); replace hS := hS.sealB 0 (by simp) rfl)
  | (go_at_call 64; refine (KI v l 188 #[] #[.pointer (some ⟨g3, 0, none⟩)] (fun z => !q z) (by kernel_rfl) hS (fun D w h => kl D w h.1) fun x z w hz ⟨F1, h⟩ => all1c_any hcg h (fun D w h => h.1.2) (fun D w h => h.2) fun w' ⟨F2, h'⟩ => HQ.out x z w' hz ⟨F2 ++ F1, (by rw [List.append_assoc]; exact h'.mono (KS.out.and CW) fun D w h => ⟨h.1.1, h.2⟩)⟩).mono ?_; clear hS; rintro e_ w_ ⟨rfl, hS⟩; rw [<- HRR.out]))
 go_ret
 exact ⟨by rw [HR.out]; rfl, hS.mono KS.out fun _ _ h => h.1⟩
theorem all1r_any {w0 w : World} {F : List A7} {K : (Nat -> Prop) -> World -> Prop} {x : Value} {z : Br} {g : Nat} {f : FuncId} {first caps : Array Value} {b : Bool} (hcg : C8 Tryz.prog f = true) (hS : St w0 w F K) (kb : ∀ D w, K D w -> CP w D g #[.func (.func f) first caps]) (kx : ∀ D w, K D w -> He w D x z)
  (hq : ∀ w, (∃ F', St w0 w (F' ++ F) K) -> Calls Tryz.prog f (first.toList ++ [x] ++ caps.toList).toArray w (Aw (fun r _ => r = .bool b) w)) :
  Calls Tryz.prog 140 #[x, .pointer (some ⟨g, 0, none⟩)] w (Aw (fun r _ => r = .bool (!b)) w) := by
 obtain ⟨a0, b0, rfl, ha, hb⟩ := kx _ _ hS.ro
 obtain ⟨A, m, c, rfl⟩ := ha.shape
 obtain ⟨B, k, d, rfl⟩ := hb.shape
 obtain ⟨args, hargs⟩ : ∃ args, args = first.toList ++ [Value.agg #[.bool z.revoke, .slice A m c, .slice B k d, .int .i64 z.target, .int .i64 z.origin]] ++ caps.toList := ⟨_, rfl⟩
 rw [<- hargs] at hq
 have HARG := Lib.hid hargs
 have HQ := Lib.hid hq
 have HCG := Lib.hid hcg
 have HB := Lib.hid hS.below
 have hW := Below.refl w.heap.size w
 clear ha hb hargs hq hcg kx
 go_enter Tryz.func140, Tryz.ntmps140
 go_wp2_with (first
  | ((with_reducible refine qA 2 ?_); refine D7 rfl _ _ rfl (.agg #[.bool z.revoke, .slice A m c, .slice B k d, .int .i64 z.target, .int .i64 z.origin]) _ rfl rfl ?_; intro w_ hX hb_; replace hS := hS.new hb_ (.box _ _ _) ⟨Nat.le_refl _, hX⟩; replace hW := Cj hW hb_; clear hX hb_; (try simp only [Act.put, Act.eval, zz, Value.cells] at hS))
  | ((with_reducible refine qK ?_); refine qL hS Tryz.underlying84 ?_)
  | ((with_reducible refine qA 4 ?_); refine BigFrame.wpList_want rfl fun _ hK => Ao rfl rfl (by kernel_rfl) ((kb _ _ hS.ro).cell 0 rfl) (hK _ _ ?_))
  | ((with_reducible refine qA 6 ?_); refine BigFrame.wpList_want rfl fun _ hK => E6 (vs := args) rfl rfl HCG.out (by simp [Act.eval, Act.put, HARG.out]) (HQ.out _ ⟨[_], hS⟩) fun e w' ⟨u_, he_, hu_, hb_⟩ => ⟨u_, he_, hK _ _ ?_⟩))
 go_ret
 exact Aw.mk rfl (Cj hW hb_)
theorem allr_any {w0 w : World} {F : List A7} {K : (Nat -> Prop) -> World -> Prop} (v : Value) (l : List Br) (f : FuncId) (first caps : Array Value) (q : Br -> Bool) (hcg : C8 Tryz.prog f = true) (hS : St w0 w F K) (kl : ∀ D w, K D w -> BQ w D v l)
  (hq : ∀ (x : Value) (z : Br) (w : World), z ∈ l -> (∃ F', St w0 w (F' ++ F) fun D w => K D w /\ He w D x z) -> Calls Tryz.prog f (first.toList ++ [x] ++ caps.toList).toArray w (Aw (fun r _ => r = .bool (q z)) w)) :
  Calls Tryz.prog 67 #[v, .func (.func f) first caps] w fun e w' => e = .returned (.bool (l.all q)) /\ St w0 w' F K := by
 have KS := Lib.hid hS.stable
 have HQ := Lib.hid hq
 have HR : Hid ((!l.any fun z => !q z) = l.all q) := Lib.hid (by rw [List.all_eq_not_any_not])
 obtain ⟨R, hR⟩ : ∃ R, R = l.any fun z => !q z := ⟨_, rfl⟩
 rw [<- hR] at HR
 have HRR := Lib.hid hR
 clear hq hR
 go_enter Tryz.func67, Tryz.ntmps67
 go_wp2_with (first
  | (((with_reducible refine qA 3 ?_); refine AH hS rfl _ _ rfl (.func (.func f) first caps) _ rfl rfl ?_; clear hS; intro g3 w_ hS; (try simp only [Act.put, Act.eval, zz, Value.cells] at hS)); replace hS := hS.sealB 0 (by simp) rfl)
  | (go_at_call 139; refine (anyr_any v l 140 #[] #[.pointer (some ⟨g3, 0, none⟩)] (fun z => !q z) (by kernel_rfl) hS (fun D w h => kl D w h.1) fun x z w hz ⟨F1, h⟩ => all1r_any hcg h (fun D w h => h.1.2) (fun D w h => h.2) fun w' ⟨F2, h'⟩ => HQ.out x z w' hz ⟨F2 ++ F1, (by rw [List.append_assoc]; exact h'.mono (KS.out.and J7) fun D w h => ⟨h.1.1, h.2⟩)⟩).mono ?_; clear hS; rintro e_ w_ ⟨rfl, hS⟩; rw [<- HRR.out]))
 go_ret
 exact ⟨by rw [HR.out]; rfl, hS.mono KS.out fun _ _ h => h.1⟩
theorem all1p_any {w0 w : World} {F : List A7} {K : (Nat -> Prop) -> World -> Prop} {x : Value} {z : Nat × Nat} {g : Nat} {f : FuncId} {first caps : Array Value} {b : Bool} (hcg : C8 Tryz.prog f = true) (hS : St w0 w F K) (kb : ∀ D w, K D w -> CP w D g #[.func (.func f) first caps]) (kx : x = .agg #[.int .i64 (z.1 : Nat), .int .i64 (z.2 : Nat)])
  (hq : ∀ w, (∃ F', St w0 w (F' ++ F) K) -> Calls Tryz.prog f (first.toList ++ [x] ++ caps.toList).toArray w (Aw (fun r _ => r = .bool b) w)) :
  Calls Tryz.prog 187 #[x, .pointer (some ⟨g, 0, none⟩)] w (Aw (fun r _ => r = .bool (!b)) w) := by
 subst kx
 obtain ⟨args, hargs⟩ : ∃ args, args = first.toList ++ [Value.agg #[.int .i64 (z.1 : Nat), .int .i64 (z.2 : Nat)]] ++ caps.toList := ⟨_, rfl⟩
 rw [<- hargs] at hq
 have HARG := Lib.hid hargs
 have HQ := Lib.hid hq
 have HCG := Lib.hid hcg
 have HB := Lib.hid hS.below
 have hW := Below.refl w.heap.size w
 clear hargs hq hcg
 go_enter Tryz.func187, Tryz.ntmps187
 go_wp2_with (first
  | ((with_reducible refine qA 2 ?_); refine D7 rfl _ _ rfl (.agg #[.int .i64 (z.1 : Nat), .int .i64 (z.2 : Nat)]) _ rfl rfl ?_; intro w_ hX hb_; replace hS := hS.new hb_ (.box _ _ _) ⟨Nat.le_refl _, hX⟩; replace hW := Cj hW hb_; clear hX hb_; (try simp only [Act.put, Act.eval, zz, Value.cells] at hS))
  | ((with_reducible refine qK ?_); refine qL hS Tryz.underlying107 ?_)
  | ((with_reducible refine qA 4 ?_); refine BigFrame.wpList_want rfl fun _ hK => Ao rfl rfl (by kernel_rfl) ((kb _ _ hS.ro).cell 0 rfl) (hK _ _ ?_))
  | ((with_reducible refine qA 6 ?_); refine BigFrame.wpList_want rfl fun _ hK => E6 (vs := args) rfl rfl HCG.out (by simp [Act.eval, Act.put, HARG.out]) (HQ.out _ ⟨[_], hS⟩) fun e w' ⟨u_, he_, hu_, hb_⟩ => ⟨u_, he_, hK _ _ ?_⟩))
 go_ret
 exact Aw.mk rfl (Cj hW hb_)
theorem allp_any {w0 w : World} {F : List A7} {K : (Nat -> Prop) -> World -> Prop} (v : Value) (l : List (Nat × Nat)) (f : FuncId) (first caps : Array Value) (q : Nat × Nat -> Bool) (hcg : C8 Tryz.prog f = true) (hS : St w0 w F K) (kl : ∀ D w, K D w -> Sl w D 2 v l.length (A6 l))
  (hq : ∀ (x : Value) (z : Nat × Nat) (w : World), z ∈ l -> (∃ F', St w0 w (F' ++ F) K) -> x = .agg #[.int .i64 (z.1 : Nat), .int .i64 (z.2 : Nat)] -> Calls Tryz.prog f (first.toList ++ [x] ++ caps.toList).toArray w (Aw (fun r _ => r = .bool (q z)) w)) :
  Calls Tryz.prog 133 #[v, .func (.func f) first caps] w fun e w' => e = .returned (.bool (l.all q)) /\ St w0 w' F K := by
 have KS := Lib.hid hS.stable
 have HQ := Lib.hid hq
 have HR : Hid ((!l.any fun z => !q z) = l.all q) := Lib.hid (by rw [List.all_eq_not_any_not])
 obtain ⟨R, hR⟩ : ∃ R, R = l.any fun z => !q z := ⟨_, rfl⟩
 rw [<- hR] at HR
 have HRR := Lib.hid hR
 clear hq hR
 go_enter Tryz.func133, Tryz.ntmps133
 go_wp2_with (first
  | (((with_reducible refine qA 3 ?_); refine AH hS rfl _ _ rfl (.func (.func f) first caps) _ rfl rfl ?_; clear hS; intro g3 w_ hS; (try simp only [Act.put, Act.eval, zz, Value.cells] at hS)); replace hS := hS.sealB 0 (by simp) rfl)
  | (go_at_call 186; refine (anyp_any v l 187 #[] #[.pointer (some ⟨g3, 0, none⟩)] (fun z => !q z) (by kernel_rfl) hS (fun D w h => kl D w h.1) fun x z w hz h hx => all1p_any hcg h (fun D w h => h.2) hx fun w' ⟨F2, h'⟩ => HQ.out x z w' hz ⟨F2, h'.mono KS.out fun D w h => h.1⟩ hx).mono ?_; clear hS; rintro e_ w_ ⟨rfl, hS⟩; rw [<- HRR.out]))
 go_ret
 exact ⟨by rw [HR.out]; rfl, hS.mono KS.out fun _ _ h => h.1⟩
end
section
open Go.RowKit
attribute [local go_sem ↓] Go.wp_at_zero Go.wp_at_succ
set_option maxRecDepth 20000
set_option exponentiation.threshold 5000
structure AZ where
 roles : Int
 links : Option (List (Nat × Nat))
 start : Nat
 rules : List Br
 never : List (Nat × Nat)
 goal : List (Nat × Nat)
def IsHo (w : World) (D : Nat -> Prop) (v : Value) : Option (List (Nat × Nat)) -> Prop
 | none => v = .pointer none
 | some L => IsH w D v L
theorem Dv {v : Value} {o : Option (List (Nat × Nat))} : AF fun D w => IsHo w D v o := by
 cases o with
 | none => exact fun _ _ _ _ h _ _ _ => h
 | some L => exact Du
def Bo (w : World) (D : Nat -> Prop) (v : Value) (p : AZ) : Prop :=
 ∃ lp s rv nv gv, v = .agg #[.int .i64 p.roles, lp, s, rv, nv, gv] /\ IsHo w D lp p.links /\ A5 w D (.agg #[s]) p.start /\ BQ w D rv p.rules /\ Af w D nv p.never /\ Af w D gv p.goal
theorem CV {v : Value} {p : AZ} : AF fun D w => Bo w D v p := fun D D' w w' h a b c => by
 obtain ⟨lp, s, rv, nv, gv, h1, h2, h3, h4, h5, h6⟩ := h
 exact ⟨lp, s, rv, nv, gv, h1, Dv D D' w w' h2 a b c, Ak D D' w w' h3 a b c, Cb D D' w w' h4 a b c, B9 D D' w w' h5 a b c, B9 D D' w w' h6 a b c⟩
structure AZ.Ok (p : AZ) : Prop where
 rules : p.rules.length <= 100000
 never : p.never.length <= 100000
 goal : p.goal.length <= 100000
 links : ∀ L, p.links = some L -> Hf L /\ L.length <= 900000
def AZ.cubes (p : AZ) : List (Nat × Nat) := (p.rules.map fun r => (r.yes, r.no)) ++ p.never ++ p.goal
theorem Aq.append {w : World} {D : Nat -> Prop} {xs ys : List Value} {l m : List (Nat × Nat)} (hx : xs.length = l.length * 2) (h : Aq w D xs l) (k : Aq w D ys m) : Aq w D (xs ++ ys) (l ++ m) := fun i y n hi => by
 rcases Nat.lt_or_ge i l.length with h1 | h1
 ·rw [List.getElem?_append_left h1] at hi
  obtain ⟨a, b, q1, q2, q3, q4⟩ := h i y n hi
  exact ⟨a, b, by rw [List.getElem?_append_left (by omega)]; exact q1, by rw [List.getElem?_append_left (by omega)]; exact q2, q3, q4⟩
 ·rw [List.getElem?_append_right h1] at hi
  obtain ⟨a, b, q1, q2, q3, q4⟩ := k _ y n hi
  refine ⟨a, b, ?_, ?_, q3, q4⟩
  ·rw [List.getElem?_append_right (by omega), <- q1]; congr 1; omega
  ·rw [List.getElem?_append_right (by omega), <- q2]; congr 1; omega
theorem Aq.one {w : World} {D : Nat -> Prop} {xs : List Value} {l : List (Nat × Nat)} (hl : xs.length = l.length * 2) (h : Aq w D xs l) : ∀ u ∈ xs, u.oneCell' = true := fun u hu => by
 obtain ⟨i, hi, rfl⟩ := List.getElem_of_mem hu
 have hk : i / 2 < l.length := by omega
 obtain ⟨a, b, q1, q2, q3, q4⟩ := h (i / 2) l[i / 2].1 l[i / 2].2 (by rw [List.getElem?_eq_getElem hk])
 obtain ⟨A, m, c, e3⟩ := q3.shape
 obtain ⟨B, k, d, e4⟩ := q4.shape
 rcases Nat.mod_two_eq_zero_or_one i with e | e
 ·have : i = i / 2 * 2 := by omega
  rw [<- this, List.getElem?_eq_getElem hi] at q1
  injection q1 with q1
  rw [q1, e3]; rfl
 ·have : i = i / 2 * 2 + 1 := by omega
  rw [<- this, List.getElem?_eq_getElem hi] at q2
  injection q2 with q2
  rw [q2, e4]; rfl
theorem DZ {xs : List Value} {l : List (Nat × Nat)} : AF fun D w => Aq w D xs l := fun D D' w w' h a b c i y n hi => by
 obtain ⟨x, z, h1, h2, h3, h4⟩ := h i y n hi
 exact ⟨x, z, h1, h2, Ak D D' w w' h3 a b c, Ak D D' w w' h4 a b c⟩
def cbD (xs xn xg : List Value) (n m k : Nat) : AD := ⟨56, 2, 3, fun s => match s with | 0 => n | 1 => n + m | _ => n + m + k, fun s => match s with | 0 => xs | 1 => xs ++ xn | _ => xs ++ xn ++ xg, fun _ v => .own v 56 2 0 []⟩
def cbK : List (Nat × (Bool × Nat)) := [(3, (true, 1)), (6, (true, 2))]
theorem AN_one1 {kd : List (Nat × (Bool × Nat))} (hk : ∀ x ∈ kd, x.2.1 = true -> 1 <= x.2.2) (w : World) (v : Value) (i : Nat) : AN kd i (w, ⟨[v], []⟩) := by
 unfold AN
 split
 ·rename_i s hs
  unfold Fy at hs
  obtain ⟨y, hy, e⟩ := Option.map_eq_some_iff.1 hs
  have := hk y (List.mem_of_find?_eq_some hy) (by rw [e])
  rw [e] at this
  exact this
 ·simp
 ·trivial
set_option maxHeartbeats 1000000 in
theorem Kl {w0 w : World} {F : List A7} {K : (Nat -> Prop) -> World -> Prop} {v : Value} {p : AZ} (hP : p.Ok) (hS : St w0 w F K) (kp : ∀ D w, K D w -> Bo w D v p) :
  Calls Tryz.prog 65 #[v] w fun e w' => ∃ u, e = .returned u /\ St w0 w' F fun D w => K D w /\ Af w D u p.cubes := by
 obtain ⟨R, lk, st, rl, nl, gl⟩ := p
 obtain ⟨lp, s, rv, nv, gv, rfl, -, -, hr, hn, hg⟩ := kp _ _ hS.ro
 dsimp only at hr hn hg
 obtain ⟨hP1, hP2, hP3, -⟩ := hP
 dsimp only at hP1 hP2 hP3
 have KS := Lib.hid hS.stable
 obtain ⟨Ar, cr, rfl, _, _⟩ := hr.shape
 obtain ⟨An, cn, rfl, _, _⟩ := hn.shape
 obtain ⟨Ag, cg, rfl, _, _⟩ := hg.shape
 obtain ⟨xn, hn1, hn2⟩ := hn
 obtain ⟨xg, hg1, hg2⟩ := hg
 obtain ⟨K1, k0, kr, kn, kg, kn2, kg2, hS2⟩ : ∃ K1 : (Nat -> Prop) -> World -> Prop, (∀ D w, K1 D w -> K D w) /\ (∀ D w, K1 D w -> BQ w D (.slice Ar rl.length cr) rl) /\ (∀ D w, K1 D w -> Sl w D 2 (.slice An nl.length cn) nl.length xn) /\ (∀ D w, K1 D w -> Sl w D 2 (.slice Ag gl.length cg) gl.length xg) /\ (∀ D w, K1 D w -> Aq w D xn nl) /\ (∀ D w, K1 D w -> Aq w D xg gl) /\ St w0 w F K1 :=
  ⟨_, fun _ _ h => h.1, fun _ _ h => h.2.1, fun _ _ h => h.2.2.1.1, fun _ _ h => h.2.2.2.1, fun _ _ h => h.2.2.1.2, fun _ _ h => h.2.2.2.2, hS.add (D := Em F) (Cb.and (((Aj (by decide)).and DZ).and ((Aj (by decide)).and DZ))) ⟨hr, ⟨hn1, hn2⟩, hg1, hg2⟩ fun _ h _ => h⟩
 clear hS hr hn1 hn2 hg1 hg2 kp
 have hS := hS2
 clear hS2
 have KS1 := Lib.hid hS.stable
 go_enter Tryz.func65, Tryz.ntmps65
 go_wp2_with (first
  | ((with_reducible refine qA 1 ?_); refine AH hS rfl _ _ rfl (.agg #[.int .i64 R, lp, s, .slice Ar rl.length cr, .slice An nl.length cn, .slice Ag gl.length cg]) _ rfl rfl ?_; clear hS; intro g1 w_ hS; (try simp only [Act.put, Act.eval, zz, Value.cells] at hS))
  | ((with_reducible refine qK ?_); refine qC hS ?_))
 obtain ⟨CS, hCS⟩ : ∃ CS : List (Nat × Nat), CS = rl.map fun r => (r.yes, r.no) := ⟨_, rfl⟩
 have HCS := Lib.hid hCS
 have hlC : CS.length = rl.length := by rw [hCS]; simp
 have HLC := Lib.hid hlC
 clear hCS hlC
 replace hS := hS.nil 56 2
 go_loopw [3, 9] (fun ov i wr => ∃ (j : Nat) (sv : Value) (xs : List Value), i = .int .i64 (j : Nat) /\ sv = ov /\ j <= rl.length /\ St w0 wr (.own sv 56 2 j xs :: .box g1 43 #[.int .i64 R, lp, s, .slice Ar rl.length cr, .slice An nl.length cn, .slice Ag gl.length cg] :: F) fun D w => K1 D w /\ Aq w D xs (CS.take j)) (fun _ i _ => rl.length - (intOf i).toNat)
 case atStart => exact ⟨0, _, [], rfl, rfl, by omega, hS.mono (KS1.out.and DZ) fun D w h => ⟨h, Aq.nil⟩⟩
 case round =>
  clear hS
  obtain ⟨j, sv, xs, rfl, rfl, hj, hS⟩ := hrel
  by_cases hlj : j < rl.length
  ·obtain ⟨b, o, y, n, rfl, _, hb, c0, c1, c2, c3, c4, hy, hn⟩ := (kr _ _ hS.ro.1).at_ hlj
   obtain ⟨Ay, my, cy, rfl⟩ := hy.shape
   obtain ⟨Am, mn, cm, rfl⟩ := hn.shape
   have HT : Hid (CS.take (j + 1) = CS.take j ++ [((rl.getD j Bn).yes, (rl.getD j Bn).no)]) := Lib.hid (by
    rw [HCS.out, List.take_add_one, List.getElem?_map, List.getElem?_eq_getElem hlj, List.getD_eq_getElem?_getD, List.getElem?_eq_getElem hlj]; rfl)
   have HLT : Hid ((CS.take j).length = j) := Lib.hid (by rw [List.length_take, HLC.out]; omega)
   replace hS := hS.add (D := Em (.own sv 56 2 j xs :: .box g1 43 #[.int .i64 R, lp, s, .slice (some ⟨b, o, none⟩) rl.length cr, .slice An nl.length cn, .slice Ag gl.length cg] :: F)) (Ak.and Ak) ⟨hy, hn⟩ fun _ h _ => h
   clear hy hn
   generalize rl.getD j Bn = z at *
   have hj1 : j <= 100000 := by omega
   go_wp2_with (first
    | ((with_reducible refine qB ?_); refine qc ?_ ?_ <;> intro h_ <;> go_prune)
    | ((with_reducible refine qA 12 ?_); refine BigFrame.wpList_want rfl fun _ hK => Be (cs := [.bool z.revoke, .slice Ay my cy, .slice Am mn cm, .int .i64 z.target, .int .i64 z.origin]) rfl rfl (Ke c0 c1 c2 c3 c4) Tryz.underlying84 rfl (by kernel_rfl) (hK _ _ ?_))
    | ((with_reducible refine qA 5 ?_); refine qa hS #[.bool false, .slice none 0 0, .slice none 0 0, .int .i64 0, .int .i64 0] ?_; clear hS; intro g5 w_ hS)
    | ((with_reducible refine qM ?_); (first | refine qS hS ?_ | refine qT hS ?_); clear hS; intro w_ hS; (try simp only [Act.put, Act.eval, zz, Value.cells] at hS))
    | ((with_reducible refine qk 56 ?_); refine EP hS 0 rfl _ _ rfl _ _ rfl _ _ rfl _ _ rfl rfl Tryz.underlying56 rfl (by kernel_rfl) ?_)
    | ((with_reducible show wpList _ _ _ (⟨_, .buildSlice _ 1 _, _, _, _, _⟩ :: _) _ _); refine Do hS 1 rfl rfl _ _ _ _ rfl rfl EK _ _ _ (.agg #[.slice Ay my cy, .slice Am mn cm]) #[.slice Ay my cy, .slice Am mn cm] rfl (by kernel_rfl) rfl rfl rfl rfl (by intro u hu; simp at hu; first | (subst hu; rfl) | (rcases hu with rfl | rfl <;> rfl)) (by omega) (by omega) ?_; clear hS; intro z_ v_ w_ hS; (try simp only [Act.put, Act.eval, zz, Value.cells] at hS)))
   have hcl := (hS.own 1 rfl).1
   refine ⟨⟨j + 1, _, xs ++ [.slice Ay my cy, .slice Am mn cm], by go_num, rfl, hlj, ?_⟩, by simp [intOf]; omega⟩
   rw [HT.out]
   exact (hS.sub (F' := _ :: _ :: F) (List.sublist_cons_self _ _)).mono (KS1.out.and DZ) fun D w h => ⟨h.1.1, h.1.2.push (by rw [HLT.out]; simp at hcl; omega) h.2.1 h.2.2⟩
  ·obtain rfl : rl.length = j := by omega
   have hCT : CS.take rl.length = CS := by rw [<- HLC.out, List.take_length]
   rw [hCT] at hS
   clear hCT
   go_wp2_with (first | ((with_reducible refine qB ?_); refine qc ?_ ?_ <;> intro h_ <;> go_prune))
   have hxl := (hS.own 0 rfl).1
   have hA0 : FB ⟨[sv], []⟩ 0 sv := ⟨[], [], rfl, rfl⟩
   have hJ0 : AJ w0 (.box g1 43 #[.int .i64 R, lp, s, .slice Ar rl.length cr, .slice An nl.length cn, .slice Ag gl.length cg] :: F) (fun D w => K1 D w /\ Aq w D xs CS) (cbD xs xn xg rl.length nl.length gl.length) (wr.drew, ⟨[sv], []⟩) := ⟨hS.drew, show 1 <= 3 by decide⟩
   have hN0 := AN_one1 (kd := cbK) (by decide) wr.drew sv
   have hRr := @AR.refl w0 (.box g1 43 #[.int .i64 R, lp, s, .slice Ar rl.length cr, .slice An nl.length cn, .slice Ag gl.length cg] :: F) (fun D w => K1 D w /\ Aq w D xs CS) (cbD xs xn xg rl.length nl.length gl.length)
   have hRt := @AR.trans w0 (.box g1 43 #[.int .i64 R, lp, s, .slice Ar rl.length cr, .slice An nl.length cn, .slice Ag gl.length cg] :: F) (fun D w => K1 D w /\ Aq w D xs CS) (cbD xs xn xg rl.length nl.length gl.length)
   have ON : Hid (∀ u ∈ xn, u.oneCell' = true) := Lib.hid ((kn2 _ _ hS.ro.1).one (kn _ _ hS.ro.1).1)
   have OG : Hid (∀ u ∈ xg, u.oneCell' = true) := Lib.hid ((kg2 _ _ hS.ro.1).one (kg _ _ hS.ro.1).1)
   have hb0 : Hid (rl.length + nl.length <= 1000000000000 /\ (rl.length + nl.length) * 48 <= 140737488355328 /\ rl.length + nl.length + gl.length <= 1000000000000 /\ (rl.length + nl.length + gl.length) * 48 <= 140737488355328) := Lib.hid (by omega)
   clear hS
   refine FC (AR w0 (.box g1 43 #[.int .i64 R, lp, s, .slice Ar rl.length cr, .slice An nl.length cn, .slice Ag gl.length cg] :: F) (fun D w => K1 D w /\ Aq w D xs CS) (cbD xs xn xg rl.length nl.length gl.length)) (AN cbK) (⟨[sv], []⟩) hRr hRt [.i sv, .q g1 4, .i (.slice An nl.length cn), .s (fun v w => FB w.2 1 v) fun v w w' h hb => h.mono hb.2.1, .q g1 5, .i (.slice Ag gl.length cg), .s (fun v w => FB w.2 2 v) fun v w w' h hb => h.mono hb.2.1, .s (fun v w => FB w.2 2 v) fun v w w' h hb => h.mono hb.2.1] ?_ ⟨uM, uF, uC (h := fun w hW hN => ((hW.1 hJ0).1.holds (.box g1 43 #[.int .i64 R, lp, s, .slice Ar rl.length cr, .slice An nl.length cn, .slice Ag gl.length cg]) (List.mem_append_right _ (List.mem_cons_self ..))).2.cell 4), ?_, uF, uC (h := fun w hW hN => ((hW.1 hJ0).1.holds (.box g1 43 #[.int .i64 R, lp, s, .slice Ar rl.length cr, .slice An nl.length cn, .slice Ag gl.length cg]) (List.mem_append_right _ (List.mem_cons_self ..))).2.cell 5), ?_, uA, trivial⟩ ?_
   ·first | assumption | (intro i; (try dsimp only); split <;> first | trivial | assumption | (left; assumption))
   ·refine uG fun b__ w hW hN hE K hK => ?_
    have e19 := hE 19
    have e21 := hE 21
    exact BG (kd := cbK) (by decide) rfl rfl EK hN (by rw [e19]; exact hA0.mono hW.2.1) (hW.1 hJ0) (by rw [e21]; exact kn _ _ (hW.1 hJ0).1.ro.1) ON.out rfl rfl (by exact hb0.out.1) (by exact hb0.out.2.1) (show 0 + 1 < 3 by decide) hK
   ·refine uG fun b__ w hW hN hE K hK => ?_
    have e22 := hE 22
    have e24 := hE 24
    exact BG (kd := cbK) (by decide) rfl rfl EK hN e22 (hW.1 hJ0) (by rw [e24]; exact kg _ _ (hW.1 hJ0).1.ro.1) OG.out rfl rfl (by exact hb0.out.2.2.1) (by exact hb0.out.2.2.2) (show 1 + 1 < 3 by decide) hK
   ·intro vs wz hW hT
    obtain ⟨e19, e20, e21, e22, e23, e24, e25, e2, -⟩ := hT
    have bx : (fun _ : Nat => True) 0 := trivial
    simp only [AV, Act.put, zz, ze]
    have hJ := (hW.1 hJ0).last e2 rfl
    simp only [cbD] at hJ
    have hS := (hJ.freeze 0 (by decide) rfl).sub (F' := F) (List.sublist_cons_self _ _)
    generalize vs 2 = v2 at *
    generalize wz.1 = wf at *
    clear hW hJ0 hRr hRt hN0 hA0 hJ e2
    go_wp2_with fail
    go_ret
    have e : (AZ.cubes ⟨R, lk, st, rl, nl, gl⟩) = CS ++ nl ++ gl := by rw [HCS.out]; rfl
    have el : (CS ++ nl ++ gl).length = rl.length + nl.length + gl.length := by rw [List.length_append, List.length_append, HLC.out]
    refine ⟨_, rfl, hS.mono (KS.out.and B9) fun D w h => ⟨k0 _ _ h.1.1, ?_⟩⟩
    rw [e]
    refine ⟨_, by rw [el]; exact h.2, Aq.append ?_ (Aq.append ?_ h.1.2 (kn2 _ _ h.1.1)) (kg2 _ _ h.1.1)⟩
    ·have := (kn _ _ h.1.1).1
     rw [List.length_append, List.length_append, HLC.out]; omega
    ·rw [HLC.out]; exact hxl
end
section
open Go.RowKit
attribute [local go_sem ↓] Go.wp_at_zero Go.wp_at_succ
set_option maxRecDepth 20000
set_option exponentiation.threshold 5000
theorem run_pnil (q : Addr) (w : World) : (binOp .neq 36 (.pointer (some q)) (.pointer none)).run Tryz.prog w = .ok (.bool true) w := rfl
theorem run_nnil (w : World) : (binOp .neq 36 (.pointer none) (.pointer none)).run Tryz.prog w = .ok (.bool false) w := rfl
noncomputable def goodB (p : AZ) (N : Nat) : Bool := match p.links with
 | none => false
 | some L => !(p.never.any fun z => C3 z (closM L N))
set_option maxHeartbeats 1000000 in
theorem good_any {w0 : World} {D E : Nat -> Prop} {v u : Value} {p : AZ} {N : Nat} (hp : Bo w0 D v p) (hP : p.Ok) (hT : BD w0) (hu : A5 w0 E u N) : Calls Tryz.prog 27 #[v, u] w0 (Aw (fun r _ => r = .bool (goodB p N)) w0) := by
 obtain ⟨R, lk, st, rl, nl, gl⟩ := p
 obtain ⟨lp, s, rv, nv, gv, rfl, h1, h2, h3, h4, h5⟩ := hp
 dsimp only at h1 h2 h3 h4 h5
 obtain ⟨Cs, ns, cs, rfl⟩ := h2.shape
 obtain ⟨Ar, cr, rfl, _, _⟩ := h3.shape
 obtain ⟨An, cn, rfl, _, _⟩ := h4.shape
 obtain ⟨Ag, cg, rfl, _, _⟩ := h5.shape
 obtain ⟨C, e, lw, rfl, -⟩ := hu.parts
 obtain ⟨n, hn⟩ : ∃ n, n = lw.length := ⟨_, rfl⟩
 rw [<- hn] at hu ⊢
 clear hn
 obtain ⟨K, kh, ks, kr, kn, kg, kt, ku, hS⟩ : ∃ K : (Nat -> Prop) -> World -> Prop, (∀ D w, K D w -> IsHo w D lp lk) /\ (∀ D w, K D w -> A5 w D (.agg #[.slice Cs ns cs]) st) /\ (∀ D w, K D w -> BQ w D (.slice Ar rl.length cr) rl) /\ (∀ D w, K D w -> Af w D (.slice An nl.length cn) nl) /\ (∀ D w, K D w -> Af w D (.slice Ag gl.length cg) gl) /\ (∀ D w, K D w -> BD w) /\ (∀ D w, K D w -> A5 w D (.agg #[.slice C n e]) N) /\ St w0 w0 [] K :=
  ⟨fun D w => ((IsHo w D lp lk /\ A5 w D (.agg #[.slice Cs ns cs]) st) /\ BQ w D (.slice Ar rl.length cr) rl /\ Af w D (.slice An nl.length cn) nl /\ Af w D (.slice Ag gl.length cg) gl) /\ (BD w /\ D 0) /\ A5 w D (.agg #[.slice C n e]) N, fun _ _ h => h.1.1.1, fun _ _ h => h.1.1.2, fun _ _ h => h.1.2.1, fun _ _ h => h.1.2.2.1, fun _ _ h => h.1.2.2.2, fun _ _ h => h.2.1.1, fun _ _ h => h.2.2,
   St.start (D := fun _ => True) (((Dv.and Ak).and (Cb.and (B9.and B9))).and (Ct.and Ak)) ⟨⟨⟨Dv D _ w0 w0 h1 (Nat.le_refl _) (fun _ _ _ _ h => h) fun _ _ _ _ => trivial, h2.imp fun _ _ _ => trivial⟩, Cb D _ w0 w0 h3 (Nat.le_refl _) (fun _ _ _ _ h => h) fun _ _ _ _ => trivial, h4.imp fun _ _ _ => trivial, h5.imp fun _ _ _ => trivial⟩, ⟨hT, trivial⟩, hu.imp fun _ _ _ => trivial⟩⟩
 clear h1 h2 h3 h4 h5 hu hT
 have HL := Lib.hid hP.links
 clear hP
 cases lk with
 | none =>
  obtain rfl := kh _ _ hS.ro
  go_enter Tryz.func27, Tryz.ntmps27
  go_wp2_with (first
   | ((with_reducible refine qA 2 ?_); refine AH hS rfl _ _ rfl (.agg #[.int .i64 R, .pointer none, .slice Cs ns cs, .slice Ar rl.length cr, .slice An nl.length cn, .slice Ag gl.length cg]) _ rfl rfl ?_; clear hS; intro g2 w_ hS; (try simp only [Act.put, Act.eval, zz, Value.cells] at hS))
   | ((with_reducible refine qA 3 ?_); refine AH hS rfl _ _ rfl (.agg #[.slice C n e]) _ rfl rfl ?_; clear hS; intro g3 w_ hS; (try simp only [Act.put, Act.eval, zz, Value.cells] at hS)))
  refine Ep [.q g2 1, .i (.pointer none), .b false, .b false, .t, .t, .t, .t, .t, .t, .t, .t, .b false, .b false] ⟨uF, uC (h := fun w hW hN => (hS.ext hW).shut 1 rfl 1 rfl), uB (h := fun w hW hN => run_nnil _), uM, uW, uW, uW, uW, uW, uW, uW, uW, uP, uA, trivial⟩ ?_
  ·intro vs wz hW hT
   obtain ⟨e5, e6, e7, e8, e17, e4, -⟩ := hT
   simp only [AV, Act.put, zz, ze]
   rw [e4]
   go_wp2_with fail
   go_ret
   exact Aw.mk rfl (Cj hS.below hW)
 | some L =>
  have hH := Lib.hid (HL.out L rfl).1
  obtain ⟨q, o, rfl, -⟩ := id (kh _ _ hS.ro)
  obtain ⟨b, hb⟩ : ∃ b, b = nl.any fun z => C3 z (closM L N) := ⟨_, rfl⟩
  have HB := Lib.hid hb
  have HR : Hid (goodB ⟨R, some L, st, rl, nl, gl⟩ N = !b) := Lib.hid (by rw [hb]; rfl)
  clear hb HL
  go_enter Tryz.func27, Tryz.ntmps27
  go_wp2_with (first
   | ((with_reducible refine qA 2 ?_); refine AH hS rfl _ _ rfl (.agg #[.int .i64 R, .pointer (some ⟨q, 0, none⟩), .slice Cs ns cs, .slice Ar rl.length cr, .slice An nl.length cn, .slice Ag gl.length cg]) _ rfl rfl ?_; clear hS; intro g2 w_ hS; (try simp only [Act.put, Act.eval, zz, Value.cells] at hS))
   | ((with_reducible refine qA 3 ?_); refine AH hS rfl _ _ rfl (.agg #[.slice C n e]) _ rfl rfl ?_; clear hS; intro g3 w_ hS; (try simp only [Act.put, Act.eval, zz, Value.cells] at hS)))
  refine Ep [.q g2 1, .q q 0, .b true, .b true, .q g2 4, .i (.slice An nl.length cn), .q g2 1, .q q 0, .i (.agg #[.slice C n e]), .s (fun v w => A5 w (fun _ => True) v (closM L N)) fun v w w' h hb => h.ext hb, .i (.bool b), .i (.bool (!b)), .i (.bool (!b)), .i (.bool (!b))] ⟨uF, uC (h := fun w hW hN => (hS.ext hW).shut 1 rfl 1 rfl), uB (h := fun w hW hN => run_pnil _ _), uM, uF, uC (h := fun w hW hN => (hS.ext hW).shut 1 rfl 4 rfl), uF, uC (h := fun w hW hN => (hS.ext hW).shut 1 rfl 1 rfl), uR (h := fun w hW hN => (hS.ext hW).box 0 rfl), ?_, ?_, uU, uP, uA, trivial⟩ ?_
  ·refine uT fun b__ w hW hE K hK => ?_
   have e12 := hE 12
   have e13 := hE 13
   exact AL rfl (by kernel_rfl) (by simp only [List.map_cons, List.map_nil, e12, e13]) (hclos_any (kh _ _ (hS.ext hW).ro) (kt _ _ (hS.ext hW).ro) hH.out (ku _ _ (hS.ext hW).ro)) fun v w' h hb => hK v w' (h.imp fun _ _ _ => trivial) hb
  ·refine uT fun b__ w hW hE K hK => ?_
   have e10 := hE 10
   have e14 := hE 14
   exact AL rfl (by kernel_rfl) (by simp only [List.map_cons, List.map_nil, e10]) (some_any (kn _ _ (hS.ext hW).ro) e14) fun v w' h hb => hK v w' (h.trans (by rw [HB.out])) hb
  ·intro vs wz hW hT
   obtain ⟨e5, e6, e7, e8, e9, e10, e11, e12, e13, e14, e15, e16, e17, e4, -⟩ := hT
   have bx : (fun _ : Nat => True) 0 := trivial
   simp only [AV, Act.put, zz, ze]
   rw [e4]
   go_wp2_with fail
   go_ret
   exact Aw.mk (by rw [HR.out]; rfl) (Cj hS.below hW)
end
section
open Go.RowKit
attribute [local go_sem ↓] Go.wp_at_zero Go.wp_at_succ
set_option maxRecDepth 20000
set_option exponentiation.threshold 5000
def Kg (z : Br) : Bool := !z.revoke || (z.yes == 0 && z.no == 0)
theorem chk1_any {w : World} {D : Nat -> Prop} {x : Value} {z : Br} (hx : He w D x z) : Calls Tryz.prog 61 #[x] w (Aw (fun r _ => r = .bool (Kg z)) w) := by
 obtain ⟨a, b, rfl, ha, hb⟩ := hx
 obtain ⟨rv, y, n, t, o⟩ := z
 dsimp only at ha hb
 obtain ⟨A, m, c, rfl⟩ := ha.shape
 obtain ⟨B, k, d, rfl⟩ := hb.shape
 obtain ⟨K, ka, kb, hS⟩ : ∃ K : (Nat -> Prop) -> World -> Prop, (∀ D w, K D w -> A5 w D (.agg #[.slice A m c]) y) /\ (∀ D w, K D w -> A5 w D (.agg #[.slice B k d]) n) /\ St w w [] K :=
  ⟨fun D w => A5 w D (.agg #[.slice A m c]) y /\ A5 w D (.agg #[.slice B k d]) n, fun _ _ h => h.1, fun _ _ h => h.2, St.start (D := fun _ => True) (Ak.and Ak) ⟨ha.imp fun _ _ _ => trivial, hb.imp fun _ _ _ => trivial⟩⟩
 clear ha hb
 obtain ⟨b1, hb1⟩ : ∃ b, b = (y == 0) := ⟨_, rfl⟩
 obtain ⟨b2, hb2⟩ : ∃ b, b = (n == 0) := ⟨_, rfl⟩
 have HR : Hid (Kg ⟨rv, y, n, t, o⟩ = (!rv || (b1 && b2))) := Lib.hid (by rw [hb1, hb2]; rfl)
 have HB1 := Lib.hid hb1
 have HB2 := Lib.hid hb2
 clear hb1 hb2
 go_enter Tryz.func61, Tryz.ntmps61
 cases rv <;> cases b1
 all_goals
  go_wp2_with (first
   | ((with_reducible refine qA 1 ?_); refine AH hS rfl _ _ rfl (.agg #[.bool _, .slice A m c, .slice B k d, .int .i64 t, .int .i64 o]) _ rfl rfl ?_; clear hS; intro g1 w_ hS; (try simp only [Act.put, Act.eval, zz, Value.cells] at hS))
   | ((with_reducible refine qk 39 ?_); first | (refine Bb hS 0 rfl _ _ rfl _ _ rfl _ _ rfl _ (by first | rfl | assumption) Tryz.underlying39 rfl (by kernel_rfl) ?_) | (refine Bb hS 1 rfl _ _ rfl _ _ rfl _ _ rfl _ (by first | rfl | assumption) Tryz.underlying39 rfl (by kernel_rfl) ?_) | (refine Bb hS 2 rfl _ _ rfl _ _ rfl _ _ rfl _ (by first | rfl | assumption) Tryz.underlying39 rfl (by kernel_rfl) ?_) | (refine Bb hS 3 rfl _ _ rfl _ _ rfl _ _ rfl _ (by first | rfl | assumption) Tryz.underlying39 rfl (by kernel_rfl) ?_) | (refine Bb hS 4 rfl _ _ rfl _ _ rfl _ _ rfl _ (by first | rfl | assumption) Tryz.underlying39 rfl (by kernel_rfl) ?_) | (refine Bb hS 5 rfl _ _ rfl _ _ rfl _ _ rfl _ (by first | rfl | assumption) Tryz.underlying39 rfl (by kernel_rfl) ?_))
   | ((with_reducible refine qK ?_); refine qC hS ?_)
   | (go_at_call 62; first
      | ((with_reducible show Calls _ _ #[.agg #[.slice A m c]] _ _); refine (Gm _ y _ _ (ka _ _ hS.ro)).mono ?_; rw [<- HB1.out]; rintro r_ w_ ⟨_, rfl, rfl, hb_⟩; replace hS := hS.ext hb_; clear hb_)
      | ((with_reducible show Calls _ _ #[.agg #[.slice B k d]] _ _); refine (Gm _ n _ _ (kb _ _ hS.ro)).mono ?_; rw [<- HB2.out]; rintro r_ w_ ⟨_, rfl, rfl, hb_⟩; replace hS := hS.ext hb_; clear hb_)))
  go_ret
  exact Aw.mk (by rw [HR.out]; rfl) hS.below
theorem kn1_any {w : World} {E : Nat -> Prop} {x sv : Value} {z : Nat × Nat} {N g : Nat} (hx : x = .agg #[.int .i64 (z.1 : Nat), .int .i64 (z.2 : Nat)]) (hb : CP w E g #[sv]) (hs : A5 w E (.agg #[sv]) N) : Calls Tryz.prog 134 #[x, .pointer (some ⟨g, 0, none⟩)] w (Aw (fun r _ => r = .bool (Cr N z.1 && Cr N z.2)) w) := by
 subst hx
 obtain ⟨C, l, e, rfl⟩ := hs.shape
 obtain ⟨K, kb, kc, hS⟩ : ∃ K : (Nat -> Prop) -> World -> Prop, (∀ D w, K D w -> CP w D g #[.slice C l e]) /\ (∀ D w, K D w -> A5 w D (.agg #[.slice C l e]) N) /\ St w w [] K :=
  ⟨fun D w => CP w D g #[.slice C l e] /\ A5 w D (.agg #[.slice C l e]) N, fun _ _ h => h.1, fun _ _ h => h.2, St.start (D := fun _ => True) (Bg.and Ak) ⟨Bg E _ w w hb (Nat.le_refl _) (fun _ _ _ _ h => h) fun _ _ _ _ => trivial, hs.imp fun _ _ _ => trivial⟩⟩
 clear hb hs
 obtain ⟨za, zb⟩ := z
 dsimp only
 obtain ⟨b1, hb1⟩ : ∃ b, b = Cr N za := ⟨_, rfl⟩
 rw [<- hb1]
 have HB1 := Lib.hid hb1
 obtain ⟨b2, hb2⟩ : ∃ b, b = Cr N zb := ⟨_, rfl⟩
 rw [<- hb2]
 have HB2 := Lib.hid hb2
 clear hb1 hb2
 go_enter Tryz.func134, Tryz.ntmps134
 cases b1
 ·go_wp2_with (first
   | ((with_reducible refine qA 2 ?_); refine AH hS rfl _ _ rfl (.agg #[.int .i64 (za : Nat), .int .i64 (zb : Nat)]) _ rfl rfl ?_; clear hS; intro g2 w_ hS; (try simp only [Act.put, Act.eval, zz, Value.cells] at hS))
   | ((with_reducible refine qk 39 ?_); refine BigFrame.wpList_want rfl fun _ hK => Be (cs := [.slice C l e]) rfl rfl (rng1 ((kb _ _ hS.ro).cell 0 rfl)) Tryz.underlying39 rfl (by kernel_rfl) (hK _ _ ?_))
   | ((with_reducible refine qK ?_); refine qC hS ?_)
   | (go_at_call 89; refine (DX _ N za _ _ (kc _ _ hS.ro)).mono ?_; rw [<- HB1.out]; rintro r_ w_ ⟨_, rfl, rfl, hb_⟩; replace hS := hS.ext hb_; clear hb_))
  go_ret
  exact Aw.mk rfl hS.below
 ·go_wp2_with (first
   | ((with_reducible refine qA 2 ?_); refine AH hS rfl _ _ rfl (.agg #[.int .i64 (za : Nat), .int .i64 (zb : Nat)]) _ rfl rfl ?_; clear hS; intro g2 w_ hS; (try simp only [Act.put, Act.eval, zz, Value.cells] at hS))
   | ((with_reducible refine qk 39 ?_); refine BigFrame.wpList_want rfl fun _ hK => Be (cs := [.slice C l e]) rfl rfl (rng1 ((kb _ _ hS.ro).cell 0 rfl)) Tryz.underlying39 rfl (by kernel_rfl) (hK _ _ ?_))
   | ((with_reducible refine qK ?_); refine qC hS ?_))
  refine (DX _ N za _ _ (kc _ _ hS.ro)).mono ?_
  rw [<- HB1.out]
  rintro r_ w_ ⟨_, rfl, rfl, hb_⟩
  replace hS := hS.ext hb_
  clear hb_
  go_wp2_with (first
   | ((with_reducible refine qk 39 ?_); refine BigFrame.wpList_want rfl fun _ hK => Be (cs := [.slice C l e]) rfl rfl (rng1 ((kb _ _ hS.ro).cell 0 rfl)) Tryz.underlying39 rfl (by kernel_rfl) (hK _ _ ?_))
   | ((with_reducible refine qK ?_); refine qC hS ?_))
  refine (DX _ N zb _ _ (kc _ _ hS.ro)).mono ?_
  rw [<- HB2.out]
  rintro r_ w_ ⟨_, rfl, rfl, hb_⟩
  replace hS := hS.ext hb_
  clear hb_
  go_wp2_with fail
  go_ret
  exact Aw.mk rfl hS.below
theorem kn2_any {w : World} {D E : Nat -> Prop} {x sv : Value} {z : Br} {N g : Nat} (hx : He w D x z) (hb : CP w E g #[sv]) (hs : A5 w E (.agg #[sv]) N) : Calls Tryz.prog 135 #[x, .pointer (some ⟨g, 0, none⟩)] w (Aw (fun r _ => r = .bool (Cr N z.target)) w) := by
 obtain ⟨a, b, rfl, ha, hb1⟩ := hx
 obtain ⟨C, l, e, rfl⟩ := hs.shape
 obtain ⟨A, m, c, rfl⟩ := ha.shape
 obtain ⟨B, k, d, rfl⟩ := hb1.shape
 clear ha hb1
 obtain ⟨K, kb, kc, hS⟩ : ∃ K : (Nat -> Prop) -> World -> Prop, (∀ D w, K D w -> CP w D g #[.slice C l e]) /\ (∀ D w, K D w -> A5 w D (.agg #[.slice C l e]) N) /\ St w w [] K :=
  ⟨fun D w => CP w D g #[.slice C l e] /\ A5 w D (.agg #[.slice C l e]) N, fun _ _ h => h.1, fun _ _ h => h.2, St.start (D := fun _ => True) (Bg.and Ak) ⟨Bg E _ w w hb (Nat.le_refl _) (fun _ _ _ _ h => h) fun _ _ _ _ => trivial, hs.imp fun _ _ _ => trivial⟩⟩
 clear hb hs
 go_enter Tryz.func135, Tryz.ntmps135
 go_wp2_with (first
  | ((with_reducible refine qA 2 ?_); refine AH hS rfl _ _ rfl (.agg #[.bool z.revoke, .slice A m c, .slice B k d, .int .i64 z.target, .int .i64 z.origin]) _ rfl rfl ?_; clear hS; intro g2 w_ hS; (try simp only [Act.put, Act.eval, zz, Value.cells] at hS))
  | ((with_reducible refine qk 39 ?_); refine BigFrame.wpList_want rfl fun _ hK => Be (cs := [.slice C l e]) rfl rfl (rng1 ((kb _ _ hS.ro).cell 0 rfl)) Tryz.underlying39 rfl (by kernel_rfl) (hK _ _ ?_))
  | ((with_reducible refine qK ?_); refine qC hS ?_)
  | (go_at_call 89; refine (DX _ N z.target _ _ (kc _ _ hS.ro)).mono ?_; rintro r_ w_ ⟨_, rfl, rfl, hb_⟩; replace hS := hS.ext hb_; clear hb_))
 go_ret
 exact Aw.mk rfl hS.below
def GG (N : Nat) (z : Nat × Nat) : Bool := (z.1 ||| z.2) &&& N == (z.1 ||| z.2)
theorem kn3_any {w : World} {D E : Nat -> Prop} {x sv : Value} {z : Nat × Nat} {N g : Nat} (hx : Bx w D x z) (hb : CP w E g #[sv]) (hs : A5 w E (.agg #[sv]) N) : Calls Tryz.prog 137 #[x, .pointer (some ⟨g, 0, none⟩)] w (Aw (fun r _ => r = .bool (GG N z)) w) := by
 obtain ⟨a, b, rfl, ha, hb1⟩ := hx
 obtain ⟨y, n⟩ := z
 dsimp only at ha hb1
 obtain ⟨A, m, c, rfl⟩ := ha.shape
 obtain ⟨B, k, d, rfl⟩ := hb1.shape
 obtain ⟨C, l, e, rfl⟩ := hs.shape
 obtain ⟨K, ka, kn, kb, kc, hS⟩ : ∃ K : (Nat -> Prop) -> World -> Prop, (∀ D w, K D w -> A5 w D (.agg #[.slice A m c]) y) /\ (∀ D w, K D w -> A5 w D (.agg #[.slice B k d]) n) /\ (∀ D w, K D w -> CP w D g #[.slice C l e]) /\ (∀ D w, K D w -> A5 w D (.agg #[.slice C l e]) N) /\ St w w [] K :=
  ⟨fun D w => (A5 w D (.agg #[.slice A m c]) y /\ A5 w D (.agg #[.slice B k d]) n) /\ CP w D g #[.slice C l e] /\ A5 w D (.agg #[.slice C l e]) N, fun _ _ h => h.1.1, fun _ _ h => h.1.2, fun _ _ h => h.2.1, fun _ _ h => h.2.2, St.start (D := fun _ => True) ((Ak.and Ak).and (Bg.and Ak)) ⟨⟨ha.imp fun _ _ _ => trivial, hb1.imp fun _ _ _ => trivial⟩, Bg E _ w w hb (Nat.le_refl _) (fun _ _ _ _ h => h) fun _ _ _ _ => trivial, hs.imp fun _ _ _ => trivial⟩⟩
 clear ha hb1 hb hs
 have HR := Lib.hid (show GG N (y, n) = ((y ||| n) &&& N == (y ||| n)) from rfl)
 generalize GG N (y, n) = R at *
 go_enter Tryz.func137, Tryz.ntmps137
 go_wp2_with (first
  | ((with_reducible refine qA 2 ?_); refine AH hS rfl _ _ rfl (.agg #[.slice A m c, .slice B k d]) _ rfl rfl ?_; clear hS; intro g2 w_ hS; (try simp only [Act.put, Act.eval, zz, Value.cells] at hS)))
 refine Ep [.q g2 0, .i (.agg #[.slice A m c]), .q g2 1, .i (.agg #[.slice B k d]), .s (fun v w => A5 w (fun _ => True) v (y ||| n)) fun v w w' h hb => h.ext hb, .i (.agg #[.slice C l e]), .i (.bool R), .i (.bool R)] ⟨uF, ?_, uF, ?_, ?_, uD (h := fun w hW hN => rng1 ((kb _ _ (hS.ext hW).ro).cell 0 rfl)), ?_, uA, trivial⟩ ?_
 ·refine uT fun b__ w hW hE K hK => ?_
  have e4 := hE 4
  exact EU rfl e4 ((hS.ext hW).box 0 rfl) rfl Tryz.underlying39 (by kernel_rfl) (by kernel_rfl) (hK _ _ rfl (Below.refl _ _))
 ·refine uT fun b__ w hW hE K hK => ?_
  have e6 := hE 6
  exact EU rfl e6 ((hS.ext hW).box 0 rfl) rfl Tryz.underlying39 (by kernel_rfl) (by kernel_rfl) (hK _ _ rfl (Below.refl _ _))
 ·refine uT fun b__ w hW hE K hK => ?_
  have e5 := hE 5
  have e7 := hE 7
  exact AL rfl (by kernel_rfl) (by simp only [List.map_cons, List.map_nil, e5, e7]) (or_any _ _ _ _ _ _ _ (ka _ _ (hS.ext hW).ro) (kn _ _ (hS.ext hW).ro)) fun v w' h hb => hK v w' (h.imp fun _ _ _ => trivial) hb
 ·refine uT fun b__ w hW hE K hK => ?_
  have e8 := hE 8
  have e9 := hE 9
  exact AL rfl (by kernel_rfl) (by simp only [List.map_cons, List.map_nil, e9]) (EZ _ _ _ _ _ _ _ e8 (kc _ _ (hS.ext hW).ro)) fun v w' h hb => hK v w' (h.trans (by rw [HR.out])) hb
 ·intro vs wz hW hT
  obtain ⟨e4, e5, e6, e7, e8, e9, e10, e3, -⟩ := hT
  have bx : (fun _ : Nat => True) 0 := trivial
  simp only [AV, Act.put, zz, ze]
  rw [e3]
  go_wp2_with fail
  go_ret
  exact Aw.mk rfl (Cj hS.below hW)
end
section
open Go.RowKit
attribute [local go_sem ↓] Go.wp_at_zero Go.wp_at_succ
set_option maxRecDepth 20000
set_option exponentiation.threshold 5000
def B6 (r : Nat) : Nat := del (2 ^ (r + 1) - 1) 0
def D6 (p : AZ) (L : List (Nat × Nat)) (N : Nat) : Bool :=
 p.start &&& N == p.start && (L.all (fun z => Cr N z.1 && Cr N z.2) && (p.rules.all (fun z => Cr N z.target) && p.cubes.all (GG N)))
set_option maxHeartbeats 2000000 in
theorem known_any {w0 : World} {D : Nat -> Prop} {v : Value} {p : AZ} {L : List (Nat × Nat)} {r : Nat} (hp : Bo w0 D v p) (hP : p.Ok) (hl : p.links = some L) (hr : p.roles = (r : Int)) (h63 : r <= 63) :
  Calls Tryz.prog 63 #[v] w0 (Aw (fun x _ => x = .bool (D6 p L (B6 r))) w0) := by
 obtain ⟨N, hN⟩ : ∃ N, N = B6 r := ⟨_, rfl⟩
 rw [<- hN]
 have HN := Lib.hid hN
 clear hN
 obtain ⟨R, lk, st, rl, nl, gl⟩ := p
 dsimp only at hl hr
 subst hl hr
 have HL := Lib.hid (hP.links L rfl).2
 have HP := Lib.hid hP
 clear hP
 obtain ⟨lp, s, rv, nv, gv, rfl, h1, h2, h3, h4, h5⟩ := hp
 dsimp only at h1 h2 h3 h4 h5
 obtain ⟨q, o, rfl, -⟩ := id h1
 obtain ⟨Cs, ns, cs, rfl⟩ := h2.shape
 obtain ⟨Ar, cr, rfl, _, _⟩ := h3.shape
 obtain ⟨An, cn, rfl, _, _⟩ := h4.shape
 obtain ⟨Ag, cg, rfl, _, _⟩ := h5.shape
 obtain ⟨K, kp, kh, ks, kr, hS⟩ : ∃ K : (Nat -> Prop) -> World -> Prop, (∀ D w, K D w -> Bo w D (.agg #[.int .i64 (r : Nat), .pointer (some ⟨q, 0, none⟩), .slice Cs ns cs, .slice Ar rl.length cr, .slice An nl.length cn, .slice Ag gl.length cg]) ⟨(r : Int), some L, st, rl, nl, gl⟩) /\ (∀ D w, K D w -> IsH w D (.pointer (some ⟨q, 0, none⟩)) L) /\ (∀ D w, K D w -> A5 w D (.agg #[.slice Cs ns cs]) st) /\ (∀ D w, K D w -> BQ w D (.slice Ar rl.length cr) rl) /\ St w0 w0 [] K :=
  ⟨fun D w => ((IsHo w D (.pointer (some ⟨q, 0, none⟩)) (some L) /\ A5 w D (.agg #[.slice Cs ns cs]) st) /\ BQ w D (.slice Ar rl.length cr) rl /\ Af w D (.slice An nl.length cn) nl /\ Af w D (.slice Ag gl.length cg) gl), fun _ _ h => ⟨_, _, _, _, _, rfl, h.1.1, h.1.2, h.2.1, h.2.2.1, h.2.2.2⟩, fun _ _ h => h.1.1, fun _ _ h => h.1.2, fun _ _ h => h.2.1,
   St.start (D := fun _ => True) ((Dv.and Ak).and (Cb.and (B9.and B9))) ⟨⟨Dv D _ w0 w0 h1 (Nat.le_refl _) (fun _ _ _ _ h => h) fun _ _ _ _ => trivial, h2.imp fun _ _ _ => trivial⟩, Cb D _ w0 w0 h3 (Nat.le_refl _) (fun _ _ _ _ h => h) fun _ _ _ _ => trivial, h4.imp fun _ _ _ => trivial, h5.imp fun _ _ _ => trivial⟩⟩
 clear h1 h2 h3 h4 h5
 obtain ⟨b1, hb1⟩ : ∃ b, b = (st &&& N == st) := ⟨_, rfl⟩
 obtain ⟨b2, hb2⟩ : ∃ b, b = L.all (fun z => Cr N z.1 && Cr N z.2) := ⟨_, rfl⟩
 obtain ⟨b3, hb3⟩ : ∃ b, b = rl.all (fun z => Cr N z.target) := ⟨_, rfl⟩
 obtain ⟨b4, hb4⟩ : ∃ b, b = (AZ.cubes ⟨(r : Int), some L, st, rl, nl, gl⟩).all (GG N) := ⟨_, rfl⟩
 have HR : Hid (D6 ⟨(r : Int), some L, st, rl, nl, gl⟩ L N = (b1 && (b2 && (b3 && b4)))) := Lib.hid (by rw [hb1, hb2, hb3, hb4]; rfl)
 have HB1 := Lib.hid hb1
 have HB2 := Lib.hid hb2
 have HB3 := Lib.hid hb3
 have HB4 := Lib.hid hb4
 clear hb1 hb2 hb3 hb4
 obtain ⟨m, hm⟩ : ∃ m, m = r + 1 := ⟨_, rfl⟩
 have hm1 : ((r : Int) + 1) = (m : Int) := by omega
 have hm2 : m <= 4096 := by omega
 have HM : Hid (del (2 ^ m - 1) 0 = N) := Lib.hid (by rw [HN.out, hm]; rfl)
 clear hm
 go_enter Tryz.func63, Tryz.ntmps63
 go_wp2_with (first
  | ((with_reducible refine qA 1 ?_); refine AH hS rfl _ _ rfl (.agg #[.int .i64 (r : Nat), .pointer (some ⟨q, 0, none⟩), .slice Cs ns cs, .slice Ar rl.length cr, .slice An nl.length cn, .slice Ag gl.length cg]) _ rfl rfl ?_; clear hS; intro g1 w_ hS; (try simp only [Act.put, Act.eval, zz, Value.cells] at hS))
  | ((with_reducible refine qK ?_); refine qC hS ?_)
  | (go_at_call 68; refine (below_any m _ hm2).mono ?_; rintro r_ w_ ⟨v1, rfl, h1, hb_⟩; replace hS := hS.ret hb_ Ak h1; clear h1 hb_; obtain ⟨B1, c1, w1, rfl, -⟩ := hS.ro.2.parts)
  | (go_at_call 69; refine (J5 _ _ 0 _ _ hS.ro.2).mono ?_; rw [HM.out]; rintro r_ w_ ⟨v2, rfl, h1, hb_⟩; replace hS := hS.ret2 hb_ Ak h1; clear h1 hb_; obtain ⟨B2, c2, w2, rfl, -⟩ := hS.ro.2.parts; obtain ⟨n2, hn2⟩ : ∃ n, n = w2.length := ⟨_, rfl⟩; rw [<- hn2] at hS ⊢; clear hn2)
  | ((with_reducible refine qA 3 ?_); refine qa hS #[.slice none 0 0] ?_; clear hS; intro g3 w_ hS)
  | (((with_reducible refine qM ?_); (first | refine qS hS ?_ | refine qT hS ?_); clear hS; intro w_ hS; (try simp only [Act.put, Act.eval, zz, Value.cells] at hS)); replace hS := hS.sealB 0 (by simp) rfl)
  | ((with_reducible refine qk 39 ?_); first | (refine Bb hS 0 rfl _ _ rfl _ _ rfl _ _ rfl _ (by first | rfl | assumption) Tryz.underlying39 rfl (by kernel_rfl) ?_) | (refine Bb hS 1 rfl _ _ rfl _ _ rfl _ _ rfl _ (by first | rfl | assumption) Tryz.underlying39 rfl (by kernel_rfl) ?_) | (refine Bb hS 2 rfl _ _ rfl _ _ rfl _ _ rfl _ (by first | rfl | assumption) Tryz.underlying39 rfl (by kernel_rfl) ?_) | (refine Bb hS 3 rfl _ _ rfl _ _ rfl _ _ rfl _ (by first | rfl | assumption) Tryz.underlying39 rfl (by kernel_rfl) ?_) | (refine Bb hS 4 rfl _ _ rfl _ _ rfl _ _ rfl _ (by first | rfl | assumption) Tryz.underlying39 rfl (by kernel_rfl) ?_) | (refine Bb hS 5 rfl _ _ rfl _ _ rfl _ _ rfl _ (by first | rfl | assumption) Tryz.underlying39 rfl (by kernel_rfl) ?_))
  | ((with_reducible refine qA 11 ?_); refine BigFrame.wpList_want rfl fun _ hK => Be (cs := [.slice B2 n2 c2]) rfl rfl (rng1 (hS.ro.2.cell 0 rfl)) Tryz.underlying39 rfl (by kernel_rfl) (hK _ _ ?_)))
 obtain ⟨K1, kk, k3, kN, hS2⟩ : ∃ K1 : (Nat -> Prop) -> World -> Prop, (∀ D w, K1 D w -> K D w) /\ (∀ D w, K1 D w -> CP w D g3 #[.slice B2 n2 c2]) /\ (∀ D w, K1 D w -> A5 w D (.agg #[.slice B2 n2 c2]) N) /\ St w0 w_ [.box g1 43 #[.int .i64 (r : Nat), .pointer (some ⟨q, 0, none⟩), .slice Cs ns cs, .slice Ar rl.length cr, .slice An nl.length cn, .slice Ag gl.length cg]] K1 := ⟨_, fun _ _ h => h.1.1.1, fun _ _ h => h.2, fun _ _ h => h.1.2, hS⟩
 clear hS
 have hS := hS2
 clear hS2
 refine (EZ _ _ st N _ _ _ (ks _ _ (kk _ _ hS.ro)) (kN _ _ hS.ro)).mono ?_
 rw [<- HB1.out]
 rintro r_ w5 ⟨_, rfl, rfl, hb_⟩
 replace hS := hS.ext hb_
 clear hb_
 cases b1
 ·go_wp2_with fail
  go_ret
  exact Aw.mk (by rw [HR.out]; rfl) hS.below
 go_wp2_with (first
  | ((with_reducible refine qK ?_); refine qC hS ?_)
  | (go_at_call 96; refine (KC (kh _ _ (kk _ _ hS.ro)) (by have := HL.out; omega)).mono ?_; rintro e w_ ⟨v4, rfl, hs⟩; replace hS := hS.new hs.below (.own v4 107 2 L.length (A6 L)) (hs.own 0 rfl); clear hs; replace hS := hS.freeze 0 (by decide) rfl))
 refine (allp_any v4 L 134 #[] #[.pointer (some ⟨g3, 0, none⟩)] (fun z => Cr N z.1 && Cr N z.2) (by kernel_rfl) hS (fun D w h => h.2) fun x z w _ ⟨F', h⟩ hx => kn1_any hx (k3 _ _ h.ro.1) (kN _ _ h.ro.1)).mono ?_
 rw [<- HB2.out]
 clear hS
 rintro r_ w6 ⟨rfl, hS⟩
 cases b2
 ·go_wp2_with fail
  go_ret
  exact Aw.mk (by rw [HR.out]; rfl) hS.below
 go_wp2_with (first | ((with_reducible refine qK ?_); refine qC hS ?_))
 refine (allr_any _ rl 135 #[] #[.pointer (some ⟨g3, 0, none⟩)] (fun z => Cr N z.target) (by kernel_rfl) hS (fun D w h => kr D w (kk D w h.1)) fun x z w _ ⟨F', h⟩ => kn2_any h.ro.2 (k3 _ _ h.ro.1.1) (kN _ _ h.ro.1.1)).mono ?_
 rw [<- HB3.out]
 clear hS
 rintro r_ w7 ⟨rfl, hS⟩
 cases b3
 ·go_wp2_with fail
  go_ret
  exact Aw.mk (by rw [HR.out]; rfl) hS.below
 go_wp2_with (first
  | ((with_reducible refine qA 27 ?_); refine BigFrame.wpList_want rfl fun _ hK => CL rfl rfl (hS.box 0 rfl) Tryz.underlying43 rfl (by kernel_rfl) (hK _ _ ?_))
  | (go_at_call 65; refine (Kl HP.out hS (fun D w h => kp D w (kk D w h.1))).mono ?_; clear hS; rintro e w_ ⟨v8, rfl, hS⟩))
 refine (allc_any v8 _ 137 #[] #[.pointer (some ⟨g3, 0, none⟩)] (GG N) (by kernel_rfl) hS (fun D w h => h.2) fun x z w _ ⟨F', h⟩ => kn3_any h.ro.2 (k3 _ _ h.ro.1.1.1) (kN _ _ h.ro.1.1.1)).mono ?_
 rw [<- HB4.out]
 clear hS
 rintro r_ w9 ⟨rfl, hS⟩
 go_wp2_with fail
 go_ret
 exact Aw.mk (by rw [HR.out]; rfl) hS.below
end
section
open Go.RowKit
attribute [local go_sem ↓] Go.wp_at_zero Go.wp_at_succ
set_option maxRecDepth 20000
set_option exponentiation.threshold 5000
noncomputable def checkE (p : AZ) : Int := match p.links with
 | none => 1
 | some L => if p.roles < 1 \/ 63 < p.roles then 1 else if 64 < p.rules.length \/ 2000 < p.never.length \/ 2000 < p.goal.length then 3
  else if D6 p L (B6 p.roles.toNat) = false then 4 else if (p.cubes.any fun z => z.1 &&& z.2 != 0) = true \/ p.rules.all Kg = false then 6
  else if goodB p p.start = false then 7 else 0
theorem Bo.shape6 {w : World} {D : Nat -> Prop} {v : Value} {p : AZ} (h : Bo w D v p) : ∃ la As ns cs Ar cr An cn Ag cg, v = .agg #[.int .i64 p.roles, .pointer la, .slice As ns cs, .slice Ar p.rules.length cr, .slice An p.never.length cn, .slice Ag p.goal.length cg] := by
 obtain ⟨lp, s, rv, nv, gv, rfl, h1, h2, h3, h4, h5⟩ := h
 obtain ⟨la, rfl⟩ : ∃ la, lp = .pointer la := by
  cases hl : p.links with
  | none => rw [hl] at h1; exact ⟨none, h1⟩
  | some L => rw [hl] at h1; obtain ⟨q, o, rfl, -⟩ := h1; exact ⟨_, rfl⟩
 obtain ⟨Cs, ns, cs, rfl⟩ := h2.shape
 obtain ⟨Ar, cr, rfl, _, _⟩ := h3.shape
 obtain ⟨An, cn, rfl, _, _⟩ := h4.shape
 obtain ⟨Ag, cg, rfl, _, _⟩ := h5.shape
 exact ⟨_, _, _, _, _, _, _, _, _, _, rfl⟩
theorem cempty_any {w : World} {D : Nat -> Prop} {x : Value} {z : Nat × Nat} (hx : Bx w D x z) : Calls Tryz.prog 66 #[x] w (Aw (fun u _ => u = .bool (z.1 &&& z.2 != 0)) w) := by
 obtain ⟨a, b, rfl, ha, hb⟩ := hx
 exact G1 a b _ _ w D D ha hb
set_option maxHeartbeats 2000000 in
theorem schk_any {w0 : World} {D : Nat -> Prop} {v : Value} {p : AZ} (hp : Bo w0 D v p) (hP : p.Ok) (hT : BD w0) : Calls Tryz.prog 17 #[v] w0 (Aw (fun x _ => x = .int .i64 (checkE p)) w0) := by
 obtain ⟨R, lk, st, rl, nl, gl⟩ := p
 have HP := Lib.hid hP
 obtain ⟨hP1, hP2, hP3, -⟩ := hP
 dsimp only at hP1 hP2 hP3
 obtain ⟨lp, s, rv, nv, gv, rfl, h1, h2, h3, h4, h5⟩ := hp
 dsimp only at h1 h2 h3 h4 h5 ⊢
 obtain ⟨Cs, ns, cs, rfl⟩ := h2.shape
 obtain ⟨Ar, cr, rfl, _, _⟩ := h3.shape
 obtain ⟨An, cn, rfl, _, _⟩ := h4.shape
 obtain ⟨Ag, cg, rfl, _, _⟩ := h5.shape
 obtain ⟨K, kp, kh, ks, kr, kt, hS⟩ : ∃ K : (Nat -> Prop) -> World -> Prop, (∀ D w, K D w -> Bo w D (.agg #[.int .i64 R, lp, .slice Cs ns cs, .slice Ar rl.length cr, .slice An nl.length cn, .slice Ag gl.length cg]) ⟨R, lk, st, rl, nl, gl⟩) /\ (∀ D w, K D w -> IsHo w D lp lk) /\ (∀ D w, K D w -> A5 w D (.agg #[.slice Cs ns cs]) st) /\ (∀ D w, K D w -> BQ w D (.slice Ar rl.length cr) rl) /\ (∀ D w, K D w -> BD w) /\ St w0 w0 [] K :=
  ⟨fun D w => ((IsHo w D lp lk /\ A5 w D (.agg #[.slice Cs ns cs]) st) /\ BQ w D (.slice Ar rl.length cr) rl /\ Af w D (.slice An nl.length cn) nl /\ Af w D (.slice Ag gl.length cg) gl) /\ (BD w /\ D 0), fun _ _ h => ⟨_, _, _, _, _, rfl, h.1.1.1, h.1.1.2, h.1.2.1, h.1.2.2.1, h.1.2.2.2⟩, fun _ _ h => h.1.1.1, fun _ _ h => h.1.1.2, fun _ _ h => h.1.2.1, fun _ _ h => h.2.1,
   St.start (D := fun _ => True) (((Dv.and Ak).and (Cb.and (B9.and B9))).and Ct) ⟨⟨⟨Dv D _ w0 w0 h1 (Nat.le_refl _) (fun _ _ _ _ h => h) fun _ _ _ _ => trivial, h2.imp fun _ _ _ => trivial⟩, Cb D _ w0 w0 h3 (Nat.le_refl _) (fun _ _ _ _ h => h) fun _ _ _ _ => trivial, h4.imp fun _ _ _ => trivial, h5.imp fun _ _ _ => trivial⟩, hT, trivial⟩⟩
 clear h1 h2 h3 h4 h5 hT
 cases lk with
 | none =>
  obtain rfl := kh _ _ hS.ro
  go_enter Tryz.func17, Tryz.ntmps17
  go_wp2_with (first
   | ((with_reducible refine qA 1 ?_); refine AH hS rfl _ _ rfl (.agg #[.int .i64 R, .pointer none, .slice Cs ns cs, .slice Ar rl.length cr, .slice An nl.length cn, .slice Ag gl.length cg]) _ rfl rfl ?_; clear hS; intro g1 w_ hS; (try simp only [Act.put, Act.eval, zz, Value.cells] at hS))
   | ((with_reducible refine qK ?_); refine qC hS ?_))
  go_ret
  exact Aw.mk rfl hS.below
 | some L =>
  obtain ⟨q, o, rfl, -⟩ := id (kh _ _ hS.ro)
  have HE := Lib.hid (show checkE ⟨R, some L, st, rl, nl, gl⟩ = if R < 1 \/ 63 < R then 1 else if 64 < rl.length \/ 2000 < nl.length \/ 2000 < gl.length then 3
   else if D6 ⟨R, some L, st, rl, nl, gl⟩ L (B6 R.toNat) = false then 4 else if ((AZ.cubes ⟨R, some L, st, rl, nl, gl⟩).any fun z => z.1 &&& z.2 != 0) = true \/ rl.all Kg = false then 6
   else if goodB ⟨R, some L, st, rl, nl, gl⟩ st = false then 7 else 0 from rfl)
  generalize checkE ⟨R, some L, st, rl, nl, gl⟩ = RES at *
  by_cases hR : R < 1 \/ 63 < R
  ·have hE : RES = 1 := by rw [HE.out, if_pos hR]
   subst hE
   by_cases hR1 : R < 1
   all_goals
    go_enter Tryz.func17, Tryz.ntmps17
    go_wp2_with (first
     | ((with_reducible refine qA 1 ?_); refine AH hS rfl _ _ rfl (.agg #[.int .i64 R, .pointer (some ⟨q, 0, none⟩), .slice Cs ns cs, .slice Ar rl.length cr, .slice An nl.length cn, .slice Ag gl.length cg]) _ rfl rfl ?_; clear hS; intro g1 w_ hS; (try simp only [Act.put, Act.eval, zz, Value.cells] at hS))
     | ((with_reducible refine qK ?_); refine qC hS ?_)
     | ((with_reducible refine qB ?_); refine qc ?_ ?_ <;> intro h_ <;> go_prune)
     )
    go_ret
    exact Aw.mk rfl hS.below
  obtain ⟨r, rfl⟩ : ∃ r : Nat, R = (r : Int) := ⟨R.toNat, by omega⟩
  have hr63 : 1 <= r /\ r <= 63 := by omega
  replace HE := Lib.hid (HE.out.trans (if_neg hR))
  clear hR
  by_cases hN : 64 < rl.length \/ 2000 < nl.length \/ 2000 < gl.length
  ·have hE : RES = 3 := by rw [HE.out, if_pos hN]
   subst hE
   by_cases hN1 : 64 < rl.length
   all_goals
    by_cases hN2 : 2000 < nl.length
    all_goals
     go_enter Tryz.func17, Tryz.ntmps17
     go_wp2_with (first
      | ((with_reducible refine qA 1 ?_); refine AH hS rfl _ _ rfl (.agg #[.int .i64 (r : Nat), .pointer (some ⟨q, 0, none⟩), .slice Cs ns cs, .slice Ar rl.length cr, .slice An nl.length cn, .slice Ag gl.length cg]) _ rfl rfl ?_; clear hS; intro g1 w_ hS; (try simp only [Act.put, Act.eval, zz, Value.cells] at hS))
      | ((with_reducible refine qK ?_); refine qC hS ?_)
      | ((with_reducible refine qB ?_); refine qc ?_ ?_ <;> intro h_ <;> go_prune)
      )
     go_ret
     exact Aw.mk rfl hS.below
  have hN1 : rl.length <= 64 /\ nl.length <= 2000 /\ gl.length <= 2000 := by omega
  obtain ⟨hN1, hN2, hN3⟩ := hN1
  replace HE := Lib.hid (HE.out.trans (if_neg hN))
  clear hN
  go_enter Tryz.func17, Tryz.ntmps17
  go_wp2_with (first
   | ((with_reducible refine qA 1 ?_); refine AH hS rfl _ _ rfl (.agg #[.int .i64 (r : Nat), .pointer (some ⟨q, 0, none⟩), .slice Cs ns cs, .slice Ar rl.length cr, .slice An nl.length cn, .slice Ag gl.length cg]) _ rfl rfl ?_; clear hS; intro g1 w_ hS; (try simp only [Act.put, Act.eval, zz, Value.cells] at hS))
   | ((with_reducible refine qK ?_); refine qC hS ?_)
   | ((with_reducible refine qB ?_); refine qc ?_ ?_ <;> intro h_ <;> go_prune)
   | ((with_reducible refine qK ?_); refine qL hS Tryz.underlying43 ?_))
  refine (known_any (kp _ _ hS.ro) HP.out rfl rfl hr63.2).mono ?_
  rintro e_ w1 ⟨_, rfl, rfl, hb_⟩
  replace hS := hS.ext hb_
  clear hb_
  have e1 : B6 ((r : Int)).toNat = B6 r := by rw [Int.toNat_natCast]
  rw [e1] at HE
  obtain ⟨b1, hb1⟩ : ∃ b, b = D6 ⟨(r : Int), some L, st, rl, nl, gl⟩ L (B6 r) := ⟨_, rfl⟩
  rw [<- hb1] at HE ⊢
  clear hb1 e1
  cases b1
  ·have hE : RES = 4 := HE.out.trans (if_pos rfl)
   subst hE
   go_wp2_with fail
   go_ret
   exact Aw.mk rfl hS.below
  replace HE := Lib.hid (HE.out.trans (if_neg (by decide)))
  go_wp2_with (first
   | ((with_reducible refine qK ?_); refine qL hS Tryz.underlying43 ?_)
   | (go_at_call 65; refine (Kl HP.out hS kp).mono ?_; clear hS; rintro e w_ ⟨v8, rfl, hS⟩))
  refine (KI v8 _ 66 #[] #[] (fun z => z.1 &&& z.2 != 0) (by kernel_rfl) hS (fun D w h => h.2) fun x z w _ ⟨F', h⟩ => cempty_any h.ro.2).mono ?_
  clear hS
  rintro r_ w2 ⟨rfl, hS⟩
  obtain ⟨b2, hb2⟩ : ∃ b, b = (AZ.cubes ⟨(r : Int), some L, st, rl, nl, gl⟩).any fun z => z.1 &&& z.2 != 0 := ⟨_, rfl⟩
  rw [<- hb2] at HE ⊢
  clear hb2
  cases b2
  rotate_left
  ·have hE : RES = 6 := HE.out.trans (if_pos (.inl rfl))
   subst hE
   go_wp2_with fail
   go_ret
   exact Aw.mk rfl hS.below
  go_wp2_with (first | ((with_reducible refine qK ?_); refine qC hS ?_))
  refine (allr_any _ rl 61 #[] #[] Kg (by kernel_rfl) hS (fun D w h => kr D w h.1) fun x z w _ ⟨F', h⟩ => chk1_any h.ro.2).mono ?_
  clear hS
  rintro r_ w3 ⟨rfl, hS⟩
  obtain ⟨b3, hb3⟩ : ∃ b, b = rl.all Kg := ⟨_, rfl⟩
  rw [<- hb3] at HE ⊢
  clear hb3
  cases b3
  ·have hE : RES = 6 := HE.out.trans (if_pos (.inr rfl))
   subst hE
   go_wp2_with fail
   go_ret
   exact Aw.mk rfl hS.below
  replace HE := Lib.hid (HE.out.trans (if_neg (by decide)))
  go_wp2_with (first
   | ((with_reducible refine qK ?_); refine qL hS Tryz.underlying43 ?_)
   | ((with_reducible refine qk 39 ?_); first | (refine Bb hS 0 rfl _ _ rfl _ _ rfl _ _ rfl _ (by first | rfl | assumption) Tryz.underlying39 rfl (by kernel_rfl) ?_) | (refine Bb hS 1 rfl _ _ rfl _ _ rfl _ _ rfl _ (by first | rfl | assumption) Tryz.underlying39 rfl (by kernel_rfl) ?_) | (refine Bb hS 2 rfl _ _ rfl _ _ rfl _ _ rfl _ (by first | rfl | assumption) Tryz.underlying39 rfl (by kernel_rfl) ?_) | (refine Bb hS 3 rfl _ _ rfl _ _ rfl _ _ rfl _ (by first | rfl | assumption) Tryz.underlying39 rfl (by kernel_rfl) ?_) | (refine Bb hS 4 rfl _ _ rfl _ _ rfl _ _ rfl _ (by first | rfl | assumption) Tryz.underlying39 rfl (by kernel_rfl) ?_) | (refine Bb hS 5 rfl _ _ rfl _ _ rfl _ _ rfl _ (by first | rfl | assumption) Tryz.underlying39 rfl (by kernel_rfl) ?_)))
  refine (good_any (kp _ _ hS.ro.1) HP.out (kt _ _ hS.ro.1) (ks _ _ hS.ro.1)).mono ?_
  rintro e_ w4 ⟨_, rfl, rfl, hb_⟩
  replace hS := hS.ext hb_
  clear hb_
  obtain ⟨b4, hb4⟩ : ∃ b, b = goodB ⟨(r : Int), some L, st, rl, nl, gl⟩ st := ⟨_, rfl⟩
  rw [<- hb4] at HE ⊢
  clear hb4
  cases b4
  ·have hE : RES = 7 := HE.out.trans (if_pos rfl)
   subst hE
   go_wp2_with fail
   go_ret
   exact Aw.mk rfl hS.below
  have hE : RES = 0 := HE.out.trans (if_neg (by decide))
  subst hE
  go_wp2_with fail
  go_ret
  exact Aw.mk rfl hS.below
end
section
open Go.RowKit
attribute [local go_sem ↓] Go.wp_at_zero Go.wp_at_succ
set_option maxRecDepth 20000
set_option exponentiation.threshold 5000
theorem ty_rules : Bi Tryz.prog 40 84 5 72 := ⟨Tryz.underlying40, by kernel_rfl⟩
theorem kclone_any {w0 : World} {D : Nat -> Prop} {pv : Value} {n : Nat} {xs : List Value} (h : Sl w0 D 2 pv n xs) (ho : ∀ u ∈ xs, u.oneCell' = true) (hl : n <= 1000000) : Calls Tryz.prog 114 #[pv] w0 fun e w' => ∃ v, e = .returned v /\ St w0 w' [.own v 56 2 n xs] fun _ _ => True := by
 obtain ⟨A, c, rfl, hc1, hc2⟩ := h.shape
 obtain ⟨K, kp, hS⟩ : ∃ K : (Nat -> Prop) -> World -> Prop, (∀ D w, K D w -> Sl w D 2 (.slice A n c) n xs) /\ St w0 w0 [] K := ⟨_, fun _ _ h => h, St.start (Aj (by decide)) h⟩
 clear h
 cases A with
 | none =>
  obtain ⟨rfl, rfl⟩ : n = 0 /\ xs = [] := by
   obtain ⟨h1, A, c2, h2, _, _, h5⟩ := kp _ _ hS.ro
   rcases Nat.eq_zero_or_pos n with h | h
   ·subst h; exact ⟨rfl, List.length_eq_zero_iff.1 (by omega)⟩
   ·obtain ⟨b, o, h6, _⟩ := h5 h
    injection h2 with h2; rw [<- h2] at h6; cases h6
  go_enter Tryz.func114, Tryz.ntmps114
  go_wp2_with (first
   | ((with_reducible refine qB ?_); refine qc ?_ ?_ <;> intro h_ <;> go_prune)
   | ((with_reducible refine qA 4 ?_); refine BigFrame.wpList_want rfl fun _ hK => AA (vx := .slice none 0 c) (vy := .slice none 0 0) (v := .bool true) rfl rfl rfl rfl (Lib.run_eql_slice_nil _ _ _ _ _ _ _ _ Tryz.underlying41) (hK _ _ ?_)))
  go_ret
  exact ⟨_, rfl, ((hS.nil 56 2)).mono (AF.pure True) fun _ _ _ => trivial⟩
 | some ad =>
  go_enter Tryz.func114, Tryz.ntmps114
  go_wp2_with (first
   | ((with_reducible refine qA 4 ?_); refine BigFrame.wpList_want rfl fun _ hK => AA (vx := .slice (some ad) n c) (vy := .slice none 0 0) (v := .bool false) rfl rfl rfl rfl (Lib.run_eql_slice_nil _ _ _ _ _ _ _ _ Tryz.underlying41) (hK _ _ ?_))
   | ((with_reducible show wpList _ _ _ (⟨_, .buildSlice _ 0 _, _, _, _, _⟩ :: _) _ _); refine EO hS rfl _ _ rfl Tryz.underlying41 (by kernel_rfl) 2 ?_; clear hS; intro ge w_ hS)
   | ((with_reducible refine qA 7 ?_); refine Hp hS 0 rfl _ _ _ rfl EK _ rfl rfl _ _ _ _ rfl (kp _ _ hS.ro) ho (by omega) (by omega) ?_; clear hS; intro g cap w_ hS))
  go_ret
  exact ⟨_, rfl, hS.mono (AF.pure True) fun _ _ _ => trivial⟩
theorem vs_len5 {vs : List Value} (h : vs.length = 5) : ∃ x0 x1 x2 x3 x4, vs = [x0, x1, x2, x3, x4] := by
 obtain ⟨x, vs', rfl, h'⟩ := JE h
 obtain ⟨y, z, u, t, rfl⟩ := vs_len4 h'
 exact ⟨x, y, z, u, t, rfl⟩
end
section
open Go.RowKit
attribute [local go_sem ↓] Go.wp_at_zero Go.wp_at_succ
set_option maxRecDepth 20000
set_option exponentiation.threshold 5000
theorem Bo.parts {w : World} {D : Nat -> Prop} {a lp s rv nv gv : Value} {p : AZ} (h : Bo w D (.agg #[a, lp, s, rv, nv, gv]) p) : IsHo w D lp p.links /\ A5 w D (.agg #[s]) p.start /\ BQ w D rv p.rules /\ Af w D nv p.never /\ Af w D gv p.goal := by
 obtain ⟨lp', s', rv', nv', gv', he, h1, h2, h3, h4, h5⟩ := h
 have e : a = .int .i64 p.roles /\ lp = lp' /\ s = s' /\ rv = rv' /\ nv = nv' /\ gv = gv' := by simpa using he
 obtain ⟨-, rfl, rfl, rfl, rfl, rfl⟩ := e
 exact ⟨h1, h2, h3, h4, h5⟩
theorem C1.append {w : World} {D : Nat -> Prop} {xs ys : List Value} {l m : List Br} (hx : xs.length = l.length * 5) (h : C1 w D xs l) (k : C1 w D ys m) : C1 w D (xs ++ ys) (l ++ m) := fun i z hi => by
 rcases Nat.lt_or_ge i l.length with h1 | h1
 ·rw [List.getElem?_append_left h1] at hi
  obtain ⟨a, b, q0, q1, q2, q3, q4, q5, q6⟩ := h i z hi
  refine ⟨a, b, ?_, ?_, ?_, ?_, ?_, q5, q6⟩
  all_goals rw [List.getElem?_append_left (by omega)]; assumption
 ·rw [List.getElem?_append_right h1] at hi
  obtain ⟨a, b, q0, q1, q2, q3, q4, q5, q6⟩ := k _ z hi
  refine ⟨a, b, ?_, ?_, ?_, ?_, ?_, q5, q6⟩
  ·rw [List.getElem?_append_right (by omega), <- q0]; congr 1; omega
  ·rw [List.getElem?_append_right (by omega), <- q1]; congr 1; omega
  ·rw [List.getElem?_append_right (by omega), <- q2]; congr 1; omega
  ·rw [List.getElem?_append_right (by omega), <- q3]; congr 1; omega
  ·rw [List.getElem?_append_right (by omega), <- q4]; congr 1; omega
theorem C1.single {w : World} {D : Nat -> Prop} {a b : Value} {z : Br} (ha : A5 w D (.agg #[a]) z.yes) (hb : A5 w D (.agg #[b]) z.no) : C1 w D [.bool z.revoke, a, b, .int .i64 z.target, .int .i64 z.origin] [z] := fun i x hi => by
 cases i with
 | zero => obtain rfl := Option.some.inj (show some z = some x from hi); exact ⟨a, b, rfl, rfl, rfl, rfl, rfl, ha, hb⟩
 | succ i => simp at hi
end
section
open Go.RowKit
attribute [local go_sem ↓] Go.wp_at_zero Go.wp_at_succ
set_option maxRecDepth 20000
set_option exponentiation.threshold 5000
theorem A7.same {f : A7} {base : Nat} {w w' : World} (h : f.holds base w) (he : ∀ k, f.blk = some k -> w'.heap[k]? = w.heap[k]?) : f.holds base w' := by
 cases f with
 | box g t cs => exact ⟨h.1, (he g rfl).trans h.2⟩
 | own v e size n xs =>
  refine ⟨h.1, ?_⟩
  rcases h.2 with h | ⟨g, cap, cur, rfl, h2, h3, h4⟩
  ·exact .inl h
  ·exact .inr ⟨g, cap, cur, rfl, h2, (he g rfl).trans h3, h4⟩
 | obj g o => exact ⟨h.1, (he g rfl).trans h.2⟩
theorem St.isW {w0 w : World} {F : List A7} {K : (Nat -> Prop) -> World -> Prop} {q : Nat} {sv : Value} {bs : List Nat} (h : St w0 w (.box q 198 #[sv] :: .own sv 5 1 bs.length (Ad bs) :: F) K) : Hd w (fun k => sv.ownBlock = some k) q bs :=
 ⟨sv, h.box 0 rfl, (A7.down (h.holds (.own sv 5 1 bs.length (Ad bs)) (by simp)) (Nat.zero_le _) :), fun _ h => h⟩
theorem St.wf {w0 w w' : World} {F : List A7} {K : (Nat -> Prop) -> World -> Prop} {q : Nat} {sv : Value} {bs bs' : List Nat} (h : St w0 w (.box q 198 #[sv] :: .own sv 5 1 bs.length (Ad bs) :: F) K)
  (hW : Hd w' (Jt (fun k => sv.ownBlock = some k) w) q bs') (hF : WF (fun k => sv.ownBlock = some k) q w w') : ∃ sv', St w0 w' (.box q 198 #[sv'] :: .own sv' 5 1 bs'.length (Ad bs') :: F) K := by
 obtain ⟨sv', h1, h2, h3⟩ := hW
 have hq : w0.heap.size <= q := (h.holds (.box q 198 #[sv]) (by simp)).1
 have hr : ∀ k, sv.ownBlock = some k -> w0.heap.size <= k := fun k hk => A7.ge (h.holds (.own sv 5 1 bs.length (Ad bs)) (by simp)) hk
 have hap := h.apart
 rw [List.pairwise_cons, List.pairwise_cons] at hap
 have hge : ∀ k, sv'.ownBlock = some k -> w0.heap.size <= k := fun k hk => (h3 k hk).elim (hr k) fun e => Nat.le_trans h.size e
 have hown : w'.ownsRow w0.heap.size 5 1 sv' bs'.length (Ad bs') := by
  refine ⟨h2.1, ?_⟩
  rcases h2.2 with e | ⟨g, cap, cur, rfl, e2, e3⟩
  ·exact .inl e
  ·exact .inr ⟨g, cap, cur, rfl, hge g rfl, e3⟩
 have hkeep : ∀ f ∈ F, ∀ k, f.blk = some k -> w'.heap[k]? = w.heap[k]? := fun f hf k hk =>
  hF.other k (h.lt (by simp [hf]) hk) (fun e => hap.1 f (by simp [hf]) q rfl (by rw [hk, e])) fun e => hap.2.1 f hf k e hk
 have hqs : sv'.ownBlock ≠ some q := fun e => by
  have h5 := h1
  rcases h2.2 with e1 | ⟨g, cap, cur, rfl, e2, e3, _⟩
  ·rw [e1.1] at e; cases e
  ·injection e with e
   have e4 : w'.heap[g]? = _ := e3
   have e5 : w'.heap[q]? = _ := h5
   have e : g = q := e
   rw [e, e5] at e4
   simp at e4
 have hsv : ∀ f ∈ F, ∀ k, sv'.ownBlock = some k -> f.blk ≠ some k := fun f hf k hk e => by
  rcases h3 k hk with h4 | h4
  ·exact hap.2.1 f hf k h4 e
  ·have := h.lt (f := f) (by simp [hf]) e; omega
 refine ⟨sv', h.below.trans ⟨hF.os, hF.tape, hF.output, hF.size, fun k hk => hF.other k (Nat.lt_of_lt_of_le hk h.size) (by omega) fun e => by have := hr k e; omega⟩, fun f hf => ?_, ?_, h.stable, ?_⟩
 ·rcases List.mem_cons.1 hf with rfl | hf
  ·exact ⟨hq, h1⟩
  ·rcases List.mem_cons.1 hf with rfl | hf
   ·exact hown
   ·exact A7.same (h.holds f (by simp [hf])) (hkeep f hf)
 ·rw [List.pairwise_cons, List.pairwise_cons]
  refine ⟨fun f hf k hk e => ?_, fun f hf k hk => hsv f hf k hk, hap.2.2⟩
  injection hk with hk
  subst hk
  rcases List.mem_cons.1 hf with rfl | hf
  ·exact hqs e
  ·exact hap.1 f (by simp [hf]) _ rfl e
 ·refine h.stable _ _ _ _ h.ro hF.size (fun p x hp hlt hc => ?_) fun b hb hlt _ f hf e => ?_
  ·have hb : w'.heap[p.block]? = w.heap[p.block]? := hF.other _ hlt (fun e => hp (.box q 198 #[sv]) (by simp) (by rw [e]; rfl)) fun e => hp (.own sv 5 1 bs.length (Ad bs)) (by simp) e
   rw [<- hc]
   simp only [World.cell?, hb]
  ·rcases List.mem_cons.1 hf with rfl | hf
   ·exact hb _ (List.mem_cons_self ..) e
   ·rcases List.mem_cons.1 hf with rfl | hf
    ·rcases h3 b e with h4 | h4
     ·exact hb (.own sv 5 1 bs.length (Ad bs)) (by simp) h4
     ·omega
    ·exact hb f (by simp [hf]) e
theorem Gb {w0 w : World} {F : List A7} {K : (Nat -> Prop) -> World -> Prop} {q : Nat} {sv : Value} {bs : List Nat} (h : St w0 w (.box q 198 #[sv] :: .own sv 5 1 bs.length (Ad bs) :: F) K) (v : Nat) (hv : v < AE) (hlen : bs.length <= 100000000000) :
  Calls Tryz.prog 102 #[.pointer (some ⟨q, 0, none⟩), .int .u64 (v : Nat)] w fun e w' => e = .returned (.tuple #[]) /\ ∃ sv', St w0 w' (.box q 198 #[sv'] :: .own sv' 5 1 (bs ++ Az v).length (Ad (bs ++ Az v)) :: F) K :=
 (FG q v bs w _ h.isW hv hlen).mono fun _ _ ⟨h1, h2, h3⟩ => ⟨h1, h.wf h2 h3⟩
theorem st_wnew {w0 w : World} {F : List A7} {K : (Nat -> Prop) -> World -> Prop} (h : St w0 w F K) :
  Calls Tryz.prog 101 #[] w fun e w' => ∃ q, e = .returned (.pointer (some ⟨q, 0, none⟩)) /\ ∃ sv, St w0 w' (.box q 198 #[sv] :: .own sv 5 1 ([] : List Nat).length (Ad []) :: F) K :=
 (EH w).mono fun _ _ ⟨h1, h2⟩ => ⟨_, h1, .slice none 0 0, by
  rw [h2]
  exact ((h.new ((Below.refl _ _).alloc (Nat.le_refl _) _) (.box w.heap.size 198 #[.slice none 0 0]) ⟨Nat.le_refl _, AX.new _ _ _⟩).nil 5 1).swap⟩
theorem st_wout {w0 w : World} {F : List A7} {K : (Nat -> Prop) -> World -> Prop} {q : Nat} {sv : Value} {bs : List Nat} (h : St w0 w (.box q 198 #[sv] :: .own sv 5 1 bs.length (Ad bs) :: F) K) (hlen : bs.length <= 1000000000000) (h0 : 0 < bs.length) :
  Calls Tryz.prog 109 #[.pointer (some ⟨q, 0, none⟩)] w fun e w' => ∃ v, e = .returned v /\ St w0 w' (.own v 5 1 bs.length (Ad bs) :: .box q 198 #[sv] :: .own sv 5 1 bs.length (Ad bs) :: F) K :=
 (JO q bs w _ h.isW hlen).mono fun _ _ ⟨v, h1, h2, h3⟩ => ⟨v, h1, h.new h3 (.own v 5 1 bs.length (Ad bs)) (h2.2 h0)⟩
end
section
open Go.RowKit
attribute [local go_sem ↓] Go.wp_at_zero Go.wp_at_succ
set_option maxRecDepth 20000
set_option exponentiation.threshold 5000
def Ch (L : List (Nat × Nat)) : List Nat := L.flatMap fun z => Az z.1 ++ Az z.2
def CB (L : List (Nat × Nat)) : List Nat := Az L.length ++ Ch L
theorem Jo {L : List (Nat × Nat)} {j : Nat} {z : Nat × Nat} (h : L[j]? = some z) : Ch (L.take (j + 1)) = Ch (L.take j) ++ Az z.1 ++ Az z.2 := by
 unfold Ch
 rw [List.take_add_one, h, List.flatMap_append, List.append_assoc]
 simp
theorem DC (L : List (Nat × Nat)) : (Ch L).length <= 22 * L.length := by
 induction L with
 | nil => simp [Ch]
 | cons z L ih =>
  have h1 := AB z.1
  have h2 := AB z.2
  simp [Ch] at *
  omega
theorem putN_gt0 (v : Nat) : 0 < (Az v).length := by simp [Az]
theorem BS {w : World} {n : Nat} (h : n < AE) : (convert 3 26 (.int .i64 (n : Nat))).run Tryz.prog w = .ok (.int .u64 (n : Nat)) w := by
 go_simp
 exact Cv h
set_option maxHeartbeats 1000000 in
theorem hbytes_any {w0 : World} {D : Nat -> Prop} {p : Value} {L : List (Nat × Nat)} (h : IsH w0 D p L) (hH : Hf L) (hl : L.length <= 900000) : Calls Tryz.prog 104 #[p] w0 fun e w' => ∃ v, e = .returned v /\ St w0 w' [.own v 5 1 (CB L).length (Ad (CB L))] fun _ _ => True := by
 obtain ⟨K, kI, hS⟩ : ∃ K : (Nat -> Prop) -> World -> Prop, (∀ D w, K D w -> IsH w D p L) /\ St w0 w0 [] K := ⟨_, fun _ _ h => h, St.start Du h⟩
 obtain ⟨q, o, rfl, -⟩ := id h
 clear h
 have hlT : Hid (L.length < AE) := Lib.hid (by rw [BZ]; omega)
 have HP := Lib.hid (DC L)
 have HQ := Lib.hid (AB L.length)
 go_enter Tryz.func104, Tryz.ntmps104
 go_wp2_with (first
  | ((with_reducible refine qB ?_); refine qc ?_ ?_ <;> intro h_ <;> go_prune)
  | (go_at_call 101; refine (st_wnew hS).mono ?_; clear hS; rintro e w_ ⟨g, rfl, sv, hS⟩)
  | (go_at_call 96; refine (KC (kI _ _ hS.ro) (by omega)).mono ?_; rintro e w_ ⟨v1, rfl, hs⟩; replace hS := hS.new hs.below (.own v1 107 2 L.length (A6 L)) (hs.own 0 rfl); clear hs; replace hS := hS.freeze 0 (by decide) rfl; obtain ⟨A1, c1, rfl, _, _⟩ := hS.ro.2.shape; obtain ⟨KX, kL, hS2⟩ : ∃ KX : (Nat -> Prop) -> World -> Prop, (∀ D w, KX D w -> Sl w D 2 (.slice A1 L.length c1) L.length (A6 L)) /\ St w0 w_ [.box g 198 #[sv], .own sv 5 1 ([] : List Nat).length (Ad [])] KX := ⟨_, fun _ _ h => h.2, hS⟩; clear hS; have hS := hS2; clear hS2)
  | ((with_reducible refine qA 15 ?_); refine BigFrame.wpList_want rfl fun _ hK => Cd (vx := .int .i64 (L.length : Nat)) (v := .int .u64 (L.length : Nat)) rfl rfl (BS hlT.out) (hK _ _ ?_))
  | (go_at_call 102; refine (Gb hS L.length hlT.out (by simp)).mono ?_; clear hS; rintro e w_ ⟨rfl, sv2, hS⟩))
 go_loopw [19] (fun i wr => ∃ (j : Nat) (sv : Value), i = .int .i64 (j : Nat) /\ j <= L.length /\ St w0 wr [.box g 198 #[sv], .own sv 5 1 (Az L.length ++ Ch (L.take j)).length (Ad (Az L.length ++ Ch (L.take j)))] KX) (fun i _ => L.length - (intOf i).toNat)
 case atStart => exact ⟨0, sv2, rfl, by omega, by simpa [Ch] using hS⟩
 case round =>
  clear hS
  obtain ⟨j, sv, rfl, hj, hS⟩ := hrel
  by_cases hlj : j < L.length
  ·obtain ⟨f1, f2⟩ := Bk L j hlj
   have HST := Lib.hid (Jo (Cf (0, 0) hlj))
   have hm := hH.role (L.getD j (0, 0)) (by rw [List.getD_eq_getElem?_getD, List.getElem?_eq_getElem hlj]; exact List.getElem_mem hlj)
   generalize L.getD j (0, 0) = z at *
   obtain ⟨za, zb⟩ := z
   dsimp only at f1 f2 hm HST
   have HA : Hid (za < AE) := Lib.hid (by rw [BZ]; omega)
   have HB : Hid (zb < AE) := Lib.hid (by rw [BZ]; omega)
   have HLN : Hid ((Az L.length ++ Ch (L.take j)).length <= 11 + 22 * L.length) := Lib.hid (by
    have h1 := DC (L.take j)
    have h2 := HQ.out
    rw [List.length_take] at h1
    rw [List.length_append]; omega)
   have HPA := Lib.hid (AB za)
   generalize hBS : Az L.length ++ Ch (L.take j) = bs at *
   have HE : Hid (Az L.length ++ Ch (L.take (j + 1)) = bs ++ Az za ++ Az zb) := Lib.hid (by rw [HST.out, <- hBS]; simp)
   clear HST hBS
   go_wp2_with (first
    | ((with_reducible refine qB ?_); refine qc ?_ ?_ <;> intro h_ <;> go_prune)
    | ((with_reducible refine qI ?_); refine qj hS Tryz.underlying25 ?_; intro b_ j_ hc0_ hc1_)
    | ((with_reducible refine qA 6 ?_); refine AY hS rfl _ rfl (by kernel_rfl) ?_; clear hS; intro g6 w_ hS; (try simp only [Act.put, Act.eval, zz, Value.cells] at hS))
    | ((with_reducible refine qM ?_); (first | refine qS hS ?_ | refine qT hS ?_); clear hS; intro w_ hS; (try simp only [Act.put, Act.eval, zz, Value.cells] at hS))
    | ((with_reducible refine qK ?_); refine qL hS Tryz.underlying107 ?_)
    | ((with_reducible refine qA 26 ?_); refine BigFrame.wpList_want rfl fun _ hK => Cd (vx := .int .i64 (za : Nat)) (v := .int .u64 (za : Nat)) rfl rfl (BS HA.out) (hK _ _ ?_))
    | ((with_reducible refine qA 31 ?_); refine BigFrame.wpList_want rfl fun _ hK => Cd (vx := .int .i64 (zb : Nat)) (v := .int .u64 (zb : Nat)) rfl rfl (BS HB.out) (hK _ _ ?_))
    | (go_at_call 102; first
       | ((with_reducible show Calls _ _ #[_, .int .u64 (zb : Nat)] _ _); refine (Gb hS zb HB.out (by have := HLN.out; have := HPA.out; rw [List.length_append]; omega)).mono ?_; clear hS; rintro e w_ ⟨rfl, sv4, hS⟩)
       | (replace hS := hS.perm (F' := [.box g 198 #[sv], .own sv 5 1 bs.length (Ad bs), .box g6 107 #[.int .i64 (za : Nat), .int .i64 (zb : Nat)]]) ((List.perm_append_comm (l₁ := [_, _]) (l₂ := [_]))); refine (Gb hS za HA.out (by have := HLN.out; omega)).mono ?_; clear hS; rintro e w_ ⟨rfl, sv3, hS⟩))
    | ((with_reducible refine qK ?_); refine qC hS ?_))
   refine ⟨⟨j + 1, sv4, by go_num, hlj, ?_⟩, by simp [intOf]; omega⟩
   rw [HE.out]
   exact hS.sub ((List.nil_sublist _).cons_cons _ |>.cons_cons _)
  ·obtain rfl : j = L.length := by omega
   rw [List.take_length] at hS
   have hlen : Hid ((CB L).length <= 1000000000000 /\ 0 < (CB L).length) := Lib.hid (by
    have h1 := HP.out
    have h2 := HQ.out
    have h3 := putN_gt0 L.length
    unfold CB
    rw [List.length_append]; omega)
   go_wp2_with (first
    | ((with_reducible refine qB ?_); refine qc ?_ ?_ <;> intro h_ <;> go_prune)
    | (go_at_call 109; refine (st_wout hS hlen.out.1 hlen.out.2).mono ?_; clear hS; rintro e w_ ⟨v, rfl, hS⟩))
   go_ret
   exact ⟨_, rfl, (hS.sub ((List.nil_sublist _).cons_cons _)).mono (AF.pure True) fun _ _ _ => trivial⟩
end
section
open Go.RowKit
set_option exponentiation.threshold 5000
def GV (r : Br) : List Nat := BI r.revoke ++ Bd r.yes r.no ++ Az r.target.toNat
def Bu (l : List Br) : List Nat := l.flatMap GV
def H6 (p : AZ) : List Nat := match p.links with | none => [] | some L => CB L
def Ds (p : AZ) : List Nat := Az p.roles.toNat ++ (Az (H6 p).length ++ H6 p) ++ Bc p.start ++ Az p.rules.length ++ Bu p.rules ++ AU p.never ++ AU p.goal
def Fb : ByteArray := { data := #[112, 114, 111, 98, 108, 101, 109] }
noncomputable def pidC (p : AZ) : List Nat := if checkE p = 0 then CQ (F6 Fb (Ds p)) else List.replicate 32 0
theorem FR (p : AZ) : (pidC p).length = 32 := by unfold pidC; split <;> simp [CQ, GT]
theorem hpairs_bytes (L : List (Nat × Nat)) : AK (Ch L) := by
 unfold Ch
 exact DK (f := fun z : Nat × Nat => Az z.1 ++ Az z.2) (fun z => (BF _).append (BF _)) L
theorem hencB_byt (L : List (Nat × Nat)) : AK (CB L) := (BF _).append (hpairs_bytes L)
theorem ruleB_bytes (r : Br) : AK (GV r) := ((GE _).append (GF _ _)).append (BF _)
theorem Jc (p : AZ) : AK (Ds p) := by
 have h : AK (H6 p) := by
  unfold H6
  split
  ·intro x hx; simp at hx
  ·exact hencB_byt _
 exact ((((((BF _).append ((BF _).append h)).append (Fa _)).append (BF _)).append (DK ruleB_bytes _)).append (Ee _)).append (Ee _)
theorem J9 {l : List Br} {j : Nat} (h : j < l.length) : Bu (l.take (j + 1)) = Bu (l.take j) ++ GV (l.getD j Bn) := by
 unfold Bu
 rw [List.take_succ_eq_append_getElem h, List.flatMap_append, List.getD_eq_getElem?_getD, List.getElem?_eq_getElem h]; simp
theorem FQ (b : Bool) : (BI b).length = 1 := by unfold BI; split <;> rfl
theorem ruleB_len {r : Br} (h : r.yes < 2 ^ 4096 /\ r.no < 2 ^ 4096) : (GV r).length <= 1060 := by
 have h1 := Bh h.1
 have h2 := Bh h.2
 have h3 := AB r.target.toNat
 have h4 := FQ r.revoke
 unfold GV Bd
 simp only [List.length_append]; omega
theorem F9 {l : List Br} (h : ∀ r ∈ l, r.yes < 2 ^ 4096 /\ r.no < 2 ^ 4096) : (Bu l).length <= 1060 * l.length := by
 induction l with
 | nil => simp [Bu]
 | cons r l ih =>
  have h1 := ruleB_len (h r (by simp))
  have h2 := ih fun x hx => h x (by simp [hx])
  simp [Bu] at *
  omega
theorem rulesN_lt : ∀ r, r < 64 -> B6 r < AE := by decide
theorem G2 {p : AZ} (h : checkE p = 0) : ∃ (L : List (Nat × Nat)) (r : Nat), p.links = some L /\ p.roles = (r : Int) /\ 1 <= r /\ r <= 63 /\ p.rules.length <= 64 /\ p.never.length <= 2000 /\ p.goal.length <= 2000 /\ D6 p L (B6 r) = true /\ ∀ z ∈ p.rules, ∃ t : Nat, z.target = (t : Int) /\ t < 64 := by
 unfold checkE at h
 split at h
 ·cases h
 ·rename_i L hL
  split at h
  ·cases h
  ·rename_i h1
   split at h
   ·cases h
   ·rename_i h2
    split at h
    ·cases h
    ·rename_i h3
     obtain ⟨r, hr⟩ : ∃ r : Nat, p.roles = (r : Int) := ⟨p.roles.toNat, by omega⟩
     rw [hr, Int.toNat_natCast, Bool.not_eq_false] at h3
     refine ⟨L, r, hL, hr, by omega, by omega, by omega, by omega, by omega, h3, fun z hz => ?_⟩
     unfold D6 at h3
     simp only [Bool.and_eq_true, List.all_eq_true] at h3
     have h4 := h3.2.2.1 z hz
     unfold Cr at h4
     simp only [Bool.and_eq_true, decide_eq_true_eq] at h4
     refine ⟨z.target.toNat, by omega, ?_⟩
     rcases Nat.lt_or_ge z.target.toNat 64 with h5 | h5
     ·exact h5
     ·rw [Dn (rulesN_lt r (by omega)) h5] at h4; exact absurd h4.2 (by decide)
end
section
open Go.RowKit
set_option exponentiation.threshold 5000
theorem free_wr {q : Nat} {sv : Value} {n : Nat} {xs : List Value} {F : List A7} {t : TypeId} {cs : Array Value} {e : TypeId} (b : Nat) (h : Em (.box q t cs :: .own sv e 1 n xs :: F) b) : b ≠ q /\ ¬ (sv.ownBlock = some b) :=
 ⟨fun hq => h (.box q t cs) (by simp) (by rw [hq]; rfl), fun hs => h (.own sv e 1 n xs) (by simp) hs⟩
section
variable {w0 w : World} {F : List A7} {K : (Nat -> Prop) -> World -> Prop} {q : Nat} {sv : Value} {bs : List Nat}
theorem st_wflag (h : St w0 w (.box q 198 #[sv] :: .own sv 5 1 bs.length (Ad bs) :: F) K) (b : Bool) (hlen : bs.length <= 100000000000) :
  Calls Tryz.prog 106 #[.pointer (some ⟨q, 0, none⟩), .bool b] w fun e w' => e = .returned (.tuple #[]) /\ ∃ sv', St w0 w' (.box q 198 #[sv'] :: .own sv' 5 1 (bs ++ BI b).length (Ad (bs ++ BI b)) :: F) K :=
 (flag_any q b bs w _ h.isW hlen).mono fun _ _ ⟨h1, h2, h3⟩ => ⟨h1, h.wf h2 h3⟩
theorem st_wset (h : St w0 w (.box q 198 #[sv] :: .own sv 5 1 bs.length (Ad bs) :: F) K) {D : Nat -> Prop} {v : Value} {N : Nat} (hv : A5 w D v N) (hlen : bs.length <= 10000000000) :
  Calls Tryz.prog 105 #[.pointer (some ⟨q, 0, none⟩), v] w fun e w' => e = .returned (.tuple #[]) /\ ∃ sv', St w0 w' (.box q 198 #[sv'] :: .own sv' 5 1 (bs ++ Bc N).length (Ad (bs ++ Bc N)) :: F) K :=
 (JL q v N bs w _ D h.isW hv hlen).mono fun _ _ ⟨h1, h2, h3⟩ => ⟨h1, h.wf h2 h3⟩
theorem st_wbytes (h : St w0 w (.box q 198 #[sv] :: .own sv 5 1 bs.length (Ad bs) :: F) K) {p : Value} {ps : List Nat} (hp : Sl w (Em (.box q 198 #[sv] :: .own sv 5 1 bs.length (Ad bs) :: F)) 1 p ps.length (Ad ps)) (hlen : bs.length + ps.length <= 90000000000) :
  Calls Tryz.prog 103 #[.pointer (some ⟨q, 0, none⟩), p] w fun e w' => e = .returned (.tuple #[]) /\ ∃ sv', St w0 w' (.box q 198 #[sv'] :: .own sv' 5 1 (bs ++ (Az ps.length ++ ps)).length (Ad (bs ++ (Az ps.length ++ ps))) :: F) K :=
 (F3 q p bs ps w _ _ h.isW hp (fun b hb _ => free_wr b hb) hlen).mono fun _ _ ⟨h1, h2, h3⟩ => ⟨h1, h.wf h2 h3⟩
theorem st_wput (h : St w0 w (.box q 198 #[sv] :: .own sv 5 1 bs.length (Ad bs) :: F) K) {y n : Value} {Y N : Nat} (hy : A5 w (Em (.box q 198 #[sv] :: .own sv 5 1 bs.length (Ad bs) :: F)) (.agg #[y]) Y) (hn : A5 w (Em (.box q 198 #[sv] :: .own sv 5 1 bs.length (Ad bs) :: F)) (.agg #[n]) N) (hlen : bs.length <= 9000000000) :
  Calls Tryz.prog 107 #[.pointer (some ⟨q, 0, none⟩), .agg #[y, n]] w fun e w' => e = .returned (.tuple #[]) /\ ∃ sv', St w0 w' (.box q 198 #[sv'] :: .own sv' 5 1 (bs ++ Bd Y N).length (Ad (bs ++ Bd Y N)) :: F) K :=
 (put_any q y n Y N bs w _ _ h.isW hy hn (fun b hb _ => free_wr b hb) hlen).mono fun _ _ ⟨h1, h2, h3⟩ => ⟨h1, h.wf h2 h3⟩
theorem st_wlist (h : St w0 w (.box q 198 #[sv] :: .own sv 5 1 bs.length (Ad bs) :: F) K) {v : Value} {l : List (Nat × Nat)} (hv : Af w (Em (.box q 198 #[sv] :: .own sv 5 1 bs.length (Ad bs) :: F)) v l) (hlen : bs.length <= 1000000000) (hll : l.length <= 2000) :
  Calls Tryz.prog 108 #[.pointer (some ⟨q, 0, none⟩), v] w fun e w' => e = .returned (.tuple #[]) /\ ∃ sv', St w0 w' (.box q 198 #[sv'] :: .own sv' 5 1 (bs ++ AU l).length (Ad (bs ++ AU l)) :: F) K :=
 (list_any q v l bs w _ _ h.isW hv (fun b hb _ => free_wr b hb) hlen hll).mono fun _ _ ⟨h1, h2, h3⟩ => ⟨h1, h.wf h2 h3⟩
end
end
section
open Go.RowKit
attribute [local go_sem ↓] Go.wp_at_zero Go.wp_at_succ
set_option maxRecDepth 20000
set_option exponentiation.threshold 5000
theorem BQ.bound {w : World} {D : Nat -> Prop} {v : Value} {l : List Br} (h : BQ w D v l) : ∀ r ∈ l, r.yes < 2 ^ 4096 /\ r.no < 2 ^ 4096 := by
 intro z hz
 obtain ⟨i, hi, rfl⟩ := List.getElem_of_mem hz
 obtain ⟨A, c, rfl, _, _⟩ := h.shape
 obtain ⟨_, _, y, m, _, _, _, _, _, _, _, _, h5, h6⟩ := h.at_ hi
 rw [List.getD_eq_getElem?_getD, List.getElem?_eq_getElem hi] at h5 h6
 exact ⟨h5.bound, h6.bound⟩
theorem St.rot3 {w0 w : World} {a b c : A7} {F : List A7} {K : (Nat -> Prop) -> World -> Prop} (h : St w0 w (a :: b :: c :: F) K) : St w0 w (b :: c :: a :: F) K := h.perm (List.perm_middle (l₁ := [b, c]))
set_option maxHeartbeats 4000000 in
theorem pid_any {w0 : World} {D : Nat -> Prop} {v : Value} {p : AZ} (hp : Bo w0 D v p) (hP : p.Ok) (hT : BD w0) (hTB : Gx w0) :
  Calls Tryz.prog 40 #[v] w0 (Aw (fun x _ => x = .agg (Ad (pidC p)).toArray) w0) := by
 obtain ⟨la, As, ns, cs, Ar, cr, An, cn, Ag, cg, rfl⟩ := hp.shape6
 have Hf := Lib.hid hP
 have HDT := Lib.hid hT
 have HTB := Lib.hid hTB
 have hL32 := FR p
 have hone : (Ad (pidC p)).toArray.all (·.oneCell') = true := all_oneCell_toArray (B7 _)
 have hi32 : (Tryz.prog.info? 87).map (·.size) = some (Ad (pidC p)).toArray.size := by rw [List.size_toArray, Ae, hL32]; kernel_rfl
 have hold : (Ad (List.replicate 32 0)).toArray.size = (Ad (pidC p)).toArray.size := by rw [List.size_toArray, List.size_toArray, Ae, Ae, hL32, List.length_replicate]
 have HON := Lib.hid hone
 have HI := Lib.hid hi32
 have HOL := Lib.hid hold
 have HPD := Lib.hid (show pidC p = if checkE p = 0 then CQ (F6 Fb (Ds p)) else List.replicate 32 0 from rfl)
 have HPT := Lib.hid (G2 (p := p))
 obtain ⟨pid, hpid⟩ : ∃ x, pidC p = x := ⟨_, rfl⟩
 rw [hpid] at HON HI HOL HPD ⊢
 obtain ⟨K, kp, hS⟩ : ∃ K : (Nat -> Prop) -> World -> Prop, (∀ D w, K D w -> Bo w D (.agg #[.int .i64 p.roles, .pointer la, .slice As ns cs, .slice Ar p.rules.length cr, .slice An p.never.length cn, .slice Ag p.goal.length cg]) p) /\ St w0 w0 [] K := ⟨_, fun _ _ h => h, St.start CV hp⟩
 clear hp hP hT hTB hL32 hone hi32 hold hpid
 by_cases hc : checkE p = 0
 rotate_left
 ·have HPZ : Hid (pid = List.replicate 32 0) := Lib.hid (HPD.out.trans (if_neg hc))
  have hne : Hid ((checkE p != 0) = true) := Lib.hid (by simpa using hc)
  clear hc
  have hiz : (Tryz.prog.info? 87).map (·.size) = some (Ad (List.replicate 32 0)).toArray.size := by kernel_rfl
  have HCK : Hid (∀ (w : World) (D : Nat -> Prop), BD w -> Bo w D (.agg #[.int .i64 p.roles, .pointer la, .slice As ns cs, .slice Ar p.rules.length cr, .slice An p.never.length cn, .slice Ag p.goal.length cg]) p -> Calls Tryz.prog 17 #[.agg #[.int .i64 p.roles, .pointer la, .slice As ns cs, .slice Ar p.rules.length cr, .slice An p.never.length cn, .slice Ag p.goal.length cg]] w (Aw (fun x _ => x = .int .i64 (checkE p)) w)) := Lib.hid fun w D h1 h2 => schk_any h2 Hf.out h1
  have hck : checkE p ≠ 0 := by simpa using hne.out
  generalize checkE p = ce at *
  go_enter Tryz.func40, Tryz.ntmps40
  go_wp2_with (first
   | ((with_reducible refine qA 1 ?_); refine AH hS rfl _ _ rfl (.agg #[.int .i64 p.roles, .pointer la, .slice As ns cs, .slice Ar p.rules.length cr, .slice An p.never.length cn, .slice Ag p.goal.length cg]) _ rfl rfl ?_; clear hS; intro g1 w_ hS; (try simp only [Act.put, Act.eval, zz, Value.cells] at hS))
   | ((with_reducible refine qA 2 ?_); refine Cp hS rfl _ rfl (by kernel_rfl) (Ad (List.replicate 32 0)).toArray (by kernel_rfl) ?_; clear hS; intro g2 w_ hS; (try simp only [Act.put, Act.eval, zz, Value.cells] at hS))
   | ((with_reducible refine qK ?_); refine qL hS Tryz.underlying43 ?_)
   | (go_at_call 17; refine (HCK.out _ _ (HDT.out.ext hS.below) (kp _ _ hS.ro)).mono ?_; rintro r_ w2 ⟨_, rfl, rfl, hb2⟩; replace hS := hS.ext hb2; clear hb2)
   | ((with_reducible refine qB ?_); refine qc ?_ ?_ <;> intro h_ <;> go_prune)
   | ((with_reducible refine qm 87 ?_); refine Cc hS 0 rfl _ _ _ rfl g2 ((Ad (List.replicate 32 0)).toArray) rfl rfl _ _ rfl hiz rfl (by kernel_rfl) ?_; clear hS; intro w_ hS; (try simp only [Act.put, Act.eval, zz, Value.cells] at hS)))
  refine bodyPost_ret (v := .agg ((Ad (List.replicate 32 0)).toArray)) (by exact results_cell_row rfl _ _ g2 87 _ (0, 0) _ rfl (hS.box 0 rfl) Tryz.underlying87 rfl hiz) rfl ?_
  exact Aw.mk (by rw [HPZ.out]) hS.below
 ·have HPZ : Hid (pid = CQ (F6 Fb (Ds p))) := Lib.hid (HPD.out.trans (if_pos hc))
  obtain ⟨L, r, hL, hr, hr1, hr63, hl1, hl2, hl3, -, htg⟩ := HPT.out hc
  have HTG := Lib.hid htg
  have HHL := Lib.hid (Hf.out.links L hL)
  have HB1 := Lib.hid (Jc p)
  have HPB : Hid (Ds p = Az r ++ (Az (CB L).length ++ CB L) ++ Bc p.start ++ Az p.rules.length ++ Bu p.rules ++ AU p.never ++ AU p.goal) := Lib.hid (by unfold Ds H6; rw [hL, hr]; rfl)
  rw [hr] at kp
  have kh : ∀ D w, K D w -> IsH w D (.pointer la) L := fun D w h => by have := (kp D w h).parts.1; rw [hL] at this; exact this
  have ks : ∀ D w, K D w -> A5 w D (.agg #[.slice As ns cs]) p.start := fun D w h => (kp D w h).parts.2.1
  have kr : ∀ D w, K D w -> BQ w D (.slice Ar p.rules.length cr) p.rules := fun D w h => (kp D w h).parts.2.2.1
  have kn : ∀ D w, K D w -> Af w D (.slice An p.never.length cn) p.never := fun D w h => (kp D w h).parts.2.2.2.1
  have kg : ∀ D w, K D w -> Af w D (.slice Ag p.goal.length cg) p.goal := fun D w h => (kp D w h).parts.2.2.2.2
  have HKP := Lib.hid kp
  have HKH := Lib.hid kh
  have hl0 : L.length <= 900000 := HHL.out.2
  have hhl : (CB L).length <= 20000000 := by
   have h1 := DC L
   have h2 := AB L.length
   unfold CB; rw [List.length_append]; omega
  have hsl : (Bc p.start).length <= 523 := Bh (ks _ _ hS.ro).bound
  have hnl : (AU p.never).length <= 5000000 := by
   have h1 := EY p.never (kn _ _ hS.ro).bound
   have h2 := AB p.never.length
   unfold AU; rw [List.length_append]; omega
  have hgl : (AU p.goal).length <= 5000000 := by
   have h1 := EY p.goal (kg _ _ hS.ro).bound
   have h2 := AB p.goal.length
   unfold AU; rw [List.length_append]; omega
  have HRB := Lib.hid (kr _ _ hS.ro).bound
  have hn1 := AB r
  have hn2 := AB (CB L).length
  have hn3 := AB p.rules.length
  have hrT : Hid (r < AE) := Lib.hid (by unfold AE; omega)
  have hlT : Hid (p.rules.length < AE) := Lib.hid (by unfold AE; omega)
  have HCK : Hid (∀ (w : World) (D : Nat -> Prop), BD w -> Bo w D (.agg #[.int .i64 (r : Nat), .pointer la, .slice As ns cs, .slice Ar p.rules.length cr, .slice An p.never.length cn, .slice Ag p.goal.length cg]) p -> Calls Tryz.prog 17 #[.agg #[.int .i64 (r : Nat), .pointer la, .slice As ns cs, .slice Ar p.rules.length cr, .slice An p.never.length cn, .slice Ag p.goal.length cg]] w (Aw (fun x _ => x = .int .i64 0) w)) := Lib.hid fun w D h1 h2 => by
   have := schk_any h2 Hf.out h1
   rwa [hc] at this
  rw [hr]
  clear hc hr hL kp kh htg
  obtain ⟨hL2, hhL⟩ : ∃ x, x = CB L := ⟨_, rfl⟩
  rw [<- hhL] at HPB hhl hn2
  have HH2 := Lib.hid hhL
  clear hhL
  go_enter Tryz.func40, Tryz.ntmps40
  go_wp2_with (first
   | ((with_reducible refine qA 1 ?_); refine AH hS rfl _ _ rfl (.agg #[.int .i64 (r : Nat), .pointer la, .slice As ns cs, .slice Ar p.rules.length cr, .slice An p.never.length cn, .slice Ag p.goal.length cg]) _ rfl rfl ?_; clear hS; intro g1 w_ hS; (try simp only [Act.put, Act.eval, zz, Value.cells] at hS))
   | ((with_reducible refine qA 2 ?_); refine Cp hS rfl _ rfl (by kernel_rfl) (Ad (List.replicate 32 0)).toArray (by kernel_rfl) ?_; clear hS; intro g2 w_ hS; (try simp only [Act.put, Act.eval, zz, Value.cells] at hS))
   | ((with_reducible refine qK ?_); refine qL hS Tryz.underlying43 ?_)
   | (go_at_call 17; refine (HCK.out _ _ (HDT.out.ext hS.below) (HKP.out _ _ hS.ro)).mono ?_; rintro r_ w2 ⟨_, rfl, rfl, hb2⟩; replace hS := hS.ext hb2; clear hb2)
   | ((with_reducible refine qB ?_); refine qc ?_ ?_ <;> intro h_ <;> go_prune)
   | ((with_reducible refine qk 39 ?_); first | (refine Bb hS 0 rfl _ _ rfl _ _ rfl _ _ rfl _ (by first | rfl | assumption) Tryz.underlying39 rfl (by kernel_rfl) ?_) | (refine Bb hS 1 rfl _ _ rfl _ _ rfl _ _ rfl _ (by first | rfl | assumption) Tryz.underlying39 rfl (by kernel_rfl) ?_) | (refine Bb hS 2 rfl _ _ rfl _ _ rfl _ _ rfl _ (by first | rfl | assumption) Tryz.underlying39 rfl (by kernel_rfl) ?_) | (refine Bb hS 3 rfl _ _ rfl _ _ rfl _ _ rfl _ (by first | rfl | assumption) Tryz.underlying39 rfl (by kernel_rfl) ?_) | (refine Bb hS 4 rfl _ _ rfl _ _ rfl _ _ rfl _ (by first | rfl | assumption) Tryz.underlying39 rfl (by kernel_rfl) ?_) | (refine Bb hS 5 rfl _ _ rfl _ _ rfl _ _ rfl _ (by first | rfl | assumption) Tryz.underlying39 rfl (by kernel_rfl) ?_))
   | (go_at_call 101; refine (st_wnew hS).mono ?_; clear hS; rintro e w_ ⟨g, rfl, sv, hS⟩)
   | ((with_reducible refine qA 14 ?_); refine BigFrame.wpList_want rfl fun _ hK => Cd (vx := .int .i64 (r : Nat)) (v := .int .u64 (r : Nat)) rfl rfl (BS hrT.out) (hK _ _ ?_))
   | ((with_reducible refine qA 29 ?_); refine BigFrame.wpList_want rfl fun _ hK => Cd (vx := .int .i64 (p.rules.length : Nat)) (v := .int .u64 (p.rules.length : Nat)) rfl rfl (BS hlT.out) (hK _ _ ?_))
   | (go_at_call 104; refine (hbytes_any (HKH.out _ _ hS.ro) HHL.out.1 HHL.out.2).mono ?_; rw [<- HH2.out]; rintro e w_ ⟨v1, rfl, hs⟩; replace hS := hS.new hs.below (.own v1 5 1 hL2.length (Ad hL2)) (hs.own 0 rfl); clear hs; replace hS := hS.freeze 0 (by decide) rfl)
   | (go_at_call 103; refine (st_wbytes hS hS.ro.2 (by rw [List.nil_append]; omega)).mono ?_; clear hS; rintro e w_ ⟨rfl, sv3, hS⟩)
   | (go_at_call 105; refine (st_wset hS (ks _ _ hS.ro.1) (by rw [List.nil_append, List.length_append, List.length_append]; omega)).mono ?_; clear hS; rintro e w_ ⟨rfl, sv4, hS⟩)
   | (go_at_call 102; first | (refine (Gb hS r hrT.out (by simp)).mono ?_; clear hS; rintro e w_ ⟨rfl, sv2, hS⟩) | (refine (Gb hS p.rules.length hlT.out (by rw [List.nil_append, List.length_append, List.length_append, List.length_append]; omega)).mono ?_; clear hS; rintro e w_ ⟨rfl, sv5, hS⟩))
   | ((with_reducible refine qK ?_); refine qC hS ?_))
  simp only [List.nil_append] at hS
  obtain ⟨K2, k2, hS2⟩ : ∃ K2 : (Nat -> Prop) -> World -> Prop, (∀ D w, K2 D w -> K D w) /\ St w0 w_ (.box g 198 #[sv5] :: .own sv5 5 1 (Az r ++ (Az hL2.length ++ hL2) ++ Bc p.start ++ Az p.rules.length).length (Ad (Az r ++ (Az hL2.length ++ hL2) ++ Bc p.start ++ Az p.rules.length)) :: .box g2 87 (Ad (List.replicate 32 0)).toArray :: .box g1 43 #[.int .i64 (r : Nat), .pointer la, .slice As ns cs, .slice Ar p.rules.length cr, .slice An p.never.length cn, .slice Ag p.goal.length cg] :: []) K2 := ⟨_, fun _ _ h => h.1, hS⟩
  clear hS
  obtain ⟨B0, hB0⟩ : ∃ x, x = Az r ++ (Az hL2.length ++ hL2) ++ Bc p.start ++ Az p.rules.length := ⟨_, rfl⟩
  have hb0 : B0.length <= 21000000 := by rw [hB0]; simp only [List.length_append]; omega
  rw [<- hB0] at hS2 HPB
  clear hB0
  have hS := hS2
  clear hS2
  have KS2 := Lib.hid hS.stable
  clear hn1 hn2 hn3 hhl hsl
  go_loopw [34] (fun i wr => ∃ (j : Nat) (sv : Value), i = .int .i64 (j : Nat) /\ j <= p.rules.length /\ St w0 wr (.box g 198 #[sv] :: .own sv 5 1 (B0 ++ Bu (p.rules.take j)).length (Ad (B0 ++ Bu (p.rules.take j))) :: .box g2 87 (Ad (List.replicate 32 0)).toArray :: .box g1 43 #[.int .i64 (r : Nat), .pointer la, .slice As ns cs, .slice Ar p.rules.length cr, .slice An p.never.length cn, .slice Ag p.goal.length cg] :: []) K2) (fun i _ => p.rules.length - (intOf i).toNat)
  case atStart => exact ⟨0, sv5, rfl, by omega, by simpa [Bu] using hS⟩
  case round =>
   clear hS
   obtain ⟨j, sv, rfl, hj, hS⟩ := hrel
   by_cases hlj : j < p.rules.length
   ·obtain ⟨b, o, y, m, rfl, _, hb, c0, c1, c2, c3, c4, hy, hm⟩ := (kr _ _ (k2 _ _ hS.ro)).at_ hlj
    obtain ⟨Ay, my, cy, rfl⟩ := hy.shape
    obtain ⟨Am, mm, cm, rfl⟩ := hm.shape
    have HST := Lib.hid (J9 hlj)
    obtain ⟨t, ht, ht64⟩ := HTG.out (p.rules.getD j Bn) (by rw [List.getD_eq_getElem?_getD, List.getElem?_eq_getElem hlj]; exact List.getElem_mem hlj)
    have hrl := F9 (l := p.rules.take j) fun z hz => HRB.out z (List.mem_of_mem_take hz)
    rw [List.length_take] at hrl
    replace hS := hS.add (D := Em _) (Ak.and Ak) ⟨hy, hm⟩ fun _ h _ => h
    clear hy hm
    generalize p.rules.getD j Bn = z at *
    obtain ⟨zr, zy, zn, zt, zo⟩ := z
    dsimp only at c0 c1 c2 c3 c4 HST ht hS
    subst ht
    have htT : Hid (t < AE) := Lib.hid (by unfold AE; omega)
    have hfl := FQ zr
    have hcl : (Bd zy zn).length <= 1046 := by
     have h1 := Bh (N := zy) hS.ro.2.1.bound
     have h2 := Bh (N := zn) hS.ro.2.2.bound
     unfold Bd; rw [List.length_append]; omega
    have hbl : (B0 ++ Bu (p.rules.take j)).length <= 22000000 := by rw [List.length_append]; omega
    obtain ⟨bs, hbs⟩ : ∃ x, x = B0 ++ Bu (p.rules.take j) := ⟨_, rfl⟩
    rw [<- hbs] at hS hbl
    have HE : Hid (B0 ++ Bu (p.rules.take (j + 1)) = bs ++ BI zr ++ Bd zy zn ++ Az t) := Lib.hid (by rw [HST.out, <- List.append_assoc, <- hbs]; unfold GV; simp)
    clear HST hbs hrl
    go_wp2_with (first
     | ((with_reducible refine qB ?_); refine qc ?_ ?_ <;> intro h_ <;> go_prune)
     | ((with_reducible refine qA 37 ?_); refine BigFrame.wpList_want rfl fun _ hK => Be (cs := [.bool zr, .slice Ay my cy, .slice Am mm cm, .int .i64 (t : Nat), .int .i64 zo]) rfl rfl (Ke c0 c1 c2 c3 c4) Tryz.underlying84 rfl (by kernel_rfl) (hK _ _ ?_))
     | ((with_reducible refine qA 5 ?_); refine qa hS #[.bool false, .slice none 0 0, .slice none 0 0, .int .i64 0, .int .i64 0] ?_; clear hS; intro g5 w_ hS)
     | ((with_reducible refine qM ?_); (first | refine qS hS ?_ | refine qT hS ?_); clear hS; intro w_ hS; (try simp only [Act.put, Act.eval, zz, Value.cells] at hS))
     | (go_at_call 106; replace hS := hS.rot3; refine (st_wflag hS zr (by omega)).mono ?_; clear hS; rintro e w_ ⟨rfl, sv6, hS⟩)
     | ((with_reducible refine qA 44 ?_); refine EP hS 2 rfl _ _ rfl _ _ rfl _ _ rfl _ _ rfl rfl Tryz.underlying56 rfl (by kernel_rfl) ?_)
     | (go_at_call 107; refine (st_wput hS hS.ro.2.1 hS.ro.2.2 (by rw [List.length_append]; omega)).mono ?_; clear hS; rintro e w_ ⟨rfl, sv7, hS⟩)
     | ((with_reducible refine qA 49 ?_); refine BigFrame.wpList_want rfl fun _ hK => Cd (vx := .int .i64 (t : Nat)) (v := .int .u64 (t : Nat)) rfl rfl (BS htT.out) (hK _ _ ?_))
     | (go_at_call 102; refine (Gb hS t htT.out (by rw [List.length_append, List.length_append]; omega)).mono ?_; clear hS; rintro e w_ ⟨rfl, sv8, hS⟩)
     | ((with_reducible refine qK ?_); refine qC hS ?_))
    refine ⟨⟨j + 1, sv8, by go_num, hlj, ?_⟩, by simp [intOf]; omega⟩
    rw [HE.out]
    exact (hS.sub ((List.sublist_cons_self _ _).cons_cons _ |>.cons_cons _)).mono KS2.out fun _ _ h => h.1
   ·obtain rfl : p.rules.length = j := by omega
    rw [List.take_length] at hS
    have hrl := F9 HRB.out
    obtain ⟨B1, hB1⟩ : ∃ x, x = B0 ++ Bu p.rules := ⟨_, rfl⟩
    have hb1 : B1.length <= 22000000 := by rw [hB1, List.length_append]; omega
    rw [<- hB1] at hS HPB
    clear hB1 hrl
    have hlen : Hid ((Ds p).length <= 40000000 /\ 0 < (Ds p).length) := Lib.hid (by
     refine ⟨by rw [HPB.out]; simp only [List.length_append]; omega, ?_⟩
     have h := putN_gt0 p.roles.toNat
     unfold Ds; simp only [List.length_append]; omega)
    obtain ⟨pb, hpb⟩ : ∃ x, x = Ds p := ⟨_, rfl⟩
    rw [<- hpb] at hlen HPB HPZ HB1
    have HTG2 : Hid (∀ (w : World) (D : Nat -> Prop) (pv p : Value), Gx w -> Sl w D 1 pv 1 [p] -> Sl w D 1 p pb.length (Ad pb) -> Calls Tryz.prog 100 #[.string Fb, pv] w (Aw (fun x _ => x = .agg (Ad pid).toArray) w)) := Lib.hid fun w D pv p h0 h1 h2 => by
     have := GS Fb pv p pb w D h0 h1 h2 HB1.out (by decide) (by have := hlen.out; omega)
     rwa [<- HPZ.out] at this
    clear hpb
    go_wp2_with (first
     | ((with_reducible refine qB ?_); refine qc ?_ ?_ <;> intro h_ <;> go_prune)
     | (go_at_call 108; first | (with_reducible show Calls _ _ #[_, .slice An _ _] _ _; refine (st_wlist hS (kn _ _ (k2 _ _ hS.ro)) (by omega) (by omega)).mono ?_; clear hS; rintro e w_ ⟨rfl, sv6, hS⟩) | (refine (st_wlist hS (kg _ _ (k2 _ _ hS.ro)) (by rw [List.length_append]; omega) (by omega)).mono ?_; clear hS; rintro e w_ ⟨rfl, sv7, hS⟩; rw [<- HPB.out] at hS))
     | (go_at_call 109; refine (st_wout hS (by have := hlen.out; omega) hlen.out.2).mono ?_; clear hS; rintro e w_ ⟨v, rfl, hS⟩; replace hS := hS.freeze 0 (by decide) rfl; obtain ⟨A2, c2, rfl, _, _⟩ := Sl.shape hS.ro.2)
     | ((with_reducible show wpList _ _ _ (⟨_, .buildSlice _ 1 _, _, _, _, _⟩ :: _) _ _); refine Dg hS rfl _ 22 1 _ rfl Tryz.underlying166 #[.slice A2 pb.length c2] (by kernel_rfl) 1 rfl (by decide) ?_; clear hS; intro g62 w_ hS; replace hS := hS.freeze 0 (by decide) rfl)
     | (go_at_call 100; refine (HTG2.out _ _ _ _ (HTB.out.ext hS.below) hS.ro.2 hS.ro.1.2).mono ?_; rintro r_ w2 ⟨v2, rfl, rfl, hb2⟩; replace hS := hS.ext hb2; clear hb2)
     | ((with_reducible refine qm 87 ?_); refine Cc hS 2 rfl _ _ _ rfl g2 (Ad pid).toArray rfl rfl _ _ rfl HI.out HOL.out HON.out ?_; clear hS; intro w_ hS; (try simp only [Act.put, Act.eval, zz, Value.cells] at hS))
     | ((with_reducible refine qK ?_); refine qC hS ?_))
    refine bodyPost_ret (v := .agg (Ad pid).toArray) (by exact results_cell_row rfl _ _ g2 87 _ (0, 0) _ rfl (hS.box 2 rfl) Tryz.underlying87 rfl HI.out) rfl ?_
    exact Aw.mk rfl hS.below
end
section
open Go.RowKit
attribute [local go_sem ↓] Go.wp_at_zero Go.wp_at_succ
set_option maxRecDepth 20000
theorem ints_take (l : List Int) (k : Nat) : (AM l).take k = AM (l.take k) := by unfold AM; rw [List.map_take]
theorem ints_one (l : List Int) : ∀ u ∈ AM l, u.oneCell' = true := fun u hu => by
 unfold AM at hu
 obtain ⟨x, -, rfl⟩ := List.mem_map.1 hu
 rfl
theorem iclone_any {w0 : World} {D : Nat -> Prop} {pv : Value} {n : Nat} {xs : List Value} (h : Sl w0 D 1 pv n xs) (ho : ∀ u ∈ xs, u.oneCell' = true) (hl : n <= 1000000) : Calls Tryz.prog 113 #[pv] w0 fun e w' => ∃ v, e = .returned v /\ St w0 w' [.own v 3 1 n xs] fun _ _ => True := by
 obtain ⟨A, c, rfl, hc1, hc2⟩ := h.shape
 obtain ⟨K, kp, hS⟩ : ∃ K : (Nat -> Prop) -> World -> Prop, (∀ D w, K D w -> Sl w D 1 (.slice A n c) n xs) /\ St w0 w0 [] K := ⟨_, fun _ _ h => h, St.start (Aj (by decide)) h⟩
 clear h
 cases A with
 | none =>
  obtain ⟨rfl, rfl⟩ : n = 0 /\ xs = [] := by
   obtain ⟨h1, A, c2, h2, _, _, h5⟩ := kp _ _ hS.ro
   rcases Nat.eq_zero_or_pos n with h | h
   ·subst h; exact ⟨rfl, List.length_eq_zero_iff.1 (by omega)⟩
   ·obtain ⟨b, o, h6, _⟩ := h5 h
    injection h2 with h2; rw [<- h2] at h6; cases h6
  go_enter Tryz.func113, Tryz.ntmps113
  go_wp2_with (first
   | ((with_reducible refine qB ?_); refine qc ?_ ?_ <;> intro h_ <;> go_prune)
   | ((with_reducible refine qA 4 ?_); refine BigFrame.wpList_want rfl fun _ hK => AA (vx := .slice none 0 c) (vy := .slice none 0 0) (v := .bool true) rfl rfl rfl rfl (Lib.run_eql_slice_nil _ _ _ _ _ _ _ _ Tryz.underlying74) (hK _ _ ?_)))
  go_ret
  exact ⟨_, rfl, ((hS.nil 3 1)).mono (AF.pure True) fun _ _ _ => trivial⟩
 | some ad =>
  go_enter Tryz.func113, Tryz.ntmps113
  go_wp2_with (first
   | ((with_reducible refine qA 4 ?_); refine BigFrame.wpList_want rfl fun _ hK => AA (vx := .slice (some ad) n c) (vy := .slice none 0 0) (v := .bool false) rfl rfl rfl rfl (Lib.run_eql_slice_nil _ _ _ _ _ _ _ _ Tryz.underlying74) (hK _ _ ?_))
   | ((with_reducible show wpList _ _ _ (⟨_, .buildSlice _ 0 _, _, _, _, _⟩ :: _) _ _); refine EO hS rfl _ _ rfl Tryz.underlying74 (by kernel_rfl) 1 ?_; clear hS; intro ge w_ hS)
   | ((with_reducible refine qA 7 ?_); refine Hp hS 0 rfl _ _ _ rfl Er _ rfl rfl _ _ _ _ rfl (kp _ _ hS.ro) ho (by omega) (by omega) ?_; clear hS; intro g cap w_ hS))
  go_ret
  exact ⟨_, rfl, hS.mono (AF.pure True) fun _ _ _ => trivial⟩
end
section
open Go.RowKit
attribute [local go_sem ↓] Go.wp_at_zero Go.wp_at_succ
set_option maxRecDepth 20000
theorem opw_min {P : Program} {o : Oper} {a : Act} {w : World} {K : Act -> World -> Prop} {Q : Exit -> Act -> World -> Prop} {t s : TypeId} {x y : Operand} {n m : Nat} (ho : o.op = .call { callee := .builtin .min, args := #[x, y], argTypes := #[t, s] }) (hx : a.eval x = .int .i64 (n : Nat)) (hy : a.eval y = .int .i64 (m : Nat)) (hk : K (a.put o.dst (.int .i64 (min n m : Nat))) w) : o.wp P a w K Q := by
 have hr : (Builtin.min_ #[t, s] o.type #[.int .i64 (n : Nat), .int .i64 (m : Nat)]).run P w = .ok (.int .i64 (min n m : Nat)) w := by
  rw [Lib.run_min_ints]
  congr 2
  omega
 unfold Oper.wp execOp
 simp only [ho, resolve, invoke, builtin, Sem.run_bind, Sem.run_pure, Result.andThen_ok, List.map_toArray, List.map_cons, List.map_nil, hx, hy, hr]
 exact hk
theorem opw_lenS {P : Program} {o : Oper} {a : Act} {w : World} {K : Act -> World -> Prop} {Q : Exit -> Act -> World -> Prop} {t e : TypeId} {x : Operand} {n c : Nat} {A : Option Addr} (ho : o.op = .call { callee := .builtin .len, args := #[x], argTypes := #[t] }) (hx : a.eval x = .slice A n c) (h : P.underlying t = some (.slice e)) (hk : K (a.put o.dst (.int .i64 (n : Nat))) w) : o.wp P a w K Q := by
 have hr : (Builtin.len_ #[t] o.type #[.slice A n c]).run P w = .ok (.int .i64 (n : Nat)) w := by
  simp [Builtin.len_, run_underlying h]; rfl
 unfold Oper.wp execOp
 simp only [ho, resolve, invoke, builtin, Sem.run_bind, Sem.run_pure, Result.andThen_ok, List.map_toArray, List.map_cons, List.map_nil, hx, hr]
 exact hk
end
section
open Go.RowKit
attribute [local go_sem ↓] Go.wp_at_zero Go.wp_at_succ
set_option maxRecDepth 20000
set_option exponentiation.threshold 5000
theorem perm_at : ∀ (F : List A7) (i : Nat) (f g : A7), F[i]? = some f -> (g :: F.eraseIdx i).Perm (F.set i g)
 | [], i, f, g, h => by simp at h
 | x :: F, 0, f, g, h => List.Perm.refl _
 | x :: F, i + 1, f, g, h => (List.Perm.swap x g _).trans ((perm_at F i f g (by simpa using h)).cons x)
theorem set_sameF : ∀ (F : List A7) (i : Nat) (f : A7), F[i]? = some f -> F.set i f = F
 | [], i, f, h => rfl
 | x :: F, 0, f, h => by simp at h; subst h; rfl
 | x :: F, i + 1, f, h => by rw [List.set_cons_succ, set_sameF F i f (by simpa using h)]
theorem St.front {w0 w : World} {F : List A7} {K : (Nat -> Prop) -> World -> Prop} {i : Nat} {f : A7} (h : St w0 w F K) (hi : F[i]? = some f) : St w0 w (f :: F.eraseIdx i) K := h.perm (by
 have h1 := perm_at F i f f hi
 rwa [set_sameF F i f hi] at h1)
section
variable {P : Program} {ops : Array Oper} {rest : List Oper} {o : Oper} {a : Act} {Q : Exit -> Act -> World -> Prop} {w : World}
theorem Hq (hg : Region.wanted o (yielded ops a.tmps) = true) (t t2 : TypeId) (x y : Operand) (ho : o.op = .binOp .and t x y t2) (X Y : Int) (hx : a.eval x = .int .u8 X) (hy : a.eval y = .int .u8 Y) (h1 : 0 <= X /\ X < 256) (h2 : 0 <= Y /\ Y < 256)
  (hk : ∀ z : Nat, z < 256 -> Hid (z = X.toNat &&& Y.toNat) -> wpList P ops Q rest (a.put o.dst (.int .u8 (z : Nat))) w) : wpList P ops Q (o :: rest) a w := by
 refine BigFrame.wpList_want hg fun _ hK => AA (v := .int .u8 ((X.toNat &&& Y.toNat : Nat) : Int)) ho hx hy rfl ?_ (hK _ _ (hk _ (Nat.lt_of_le_of_lt Nat.and_le_left (by omega)) (Lib.hid rfl)))
 go_simp
 exact u8_and X Y h1.1 h1.2 h2.1 h2.2
theorem st_andnot8 (hg : Region.wanted o (yielded ops a.tmps) = true) (t t2 : TypeId) (x y : Operand) (ho : o.op = .binOp .andNot t x y t2) (X Y : Int) (hx : a.eval x = .int .u8 X) (hy : a.eval y = .int .u8 Y) (h1 : 0 <= X /\ X < 256) (h2 : 0 <= Y /\ Y < 256)
  (hk : ∀ z : Nat, z < 256 -> Hid (z = X.toNat &&& (255 - Y.toNat)) -> wpList P ops Q rest (a.put o.dst (.int .u8 (z : Nat))) w) : wpList P ops Q (o :: rest) a w := by
 refine BigFrame.wpList_want hg fun _ hK => AA (v := .int .u8 ((X.toNat &&& (255 - Y.toNat) : Nat) : Int)) ho hx hy rfl ?_ (hK _ _ (hk _ (Nat.lt_of_le_of_lt Nat.and_le_left (by omega)) (Lib.hid rfl)))
 go_simp
 exact u8_andNot X Y h1.1 h1.2 h2.1 h2.2
end
theorem and_not8 {a b : Nat} (ha : a < 256) : a &&& (b &&& (255 - a)) = 0 := by
 apply Nat.eq_of_testBit_eq
 intro i
 rw [Nat.testBit_and, Nat.testBit_and, Nat.zero_testBit, show 255 - a = 2 ^ 8 - (a + 1) by omega, Nat.testBit_two_pow_sub_succ (by omega)]
 cases a.testBit i <;> cases b.testBit i <;> simp
theorem KJ {a m : Nat} : a &&& m &&& m = a &&& m := by rw [Nat.and_assoc, Nat.and_self]
theorem IJ (y n m : Nat) (hm : m < 256) (w0 : World) :
  Calls Tryz.prog 53 #[.int .i64 (y : Nat), .int .i64 (n : Nat), .int .u8 (m : Nat)] w0 (Aw (fun x _ => ∃ a b : Nat, x = .agg #[.int .u64 (a : Nat), .int .u64 (b : Nat)] /\ a &&& m = a /\ b &&& m = b /\ a &&& b = 0 /\ a < 256 /\ b < 256) w0) := by
 have hS : St w0 w0 [] fun _ _ => True := St.start0
 go_enter Tryz.func53, Tryz.ntmps53
 go_wp2_with (first
  | ((with_reducible refine qA 6 ?_); refine qa hS #[.int .u64 0, .int .u64 0] ?_; clear hS; intro g6 w_ hS)
  | ((with_reducible refine qA 17 ?_); refine Hq rfl _ _ _ _ rfl _ _ rfl rfl (by omega) (by omega) ?_; intro z17 h17 _)
  | ((with_reducible refine qA 19 ?_); refine Hq rfl _ _ _ _ rfl _ _ rfl rfl (by omega) (by omega) ?_; intro z19 h19 e19)
  | ((with_reducible refine qA 28 ?_); refine Hq rfl _ _ _ _ rfl _ _ rfl rfl (by omega) (by omega) ?_; intro z28 h28 _)
  | ((with_reducible refine qA 30 ?_); refine Hq rfl _ _ _ _ rfl _ _ rfl rfl (by omega) (by omega) ?_; intro z30 h30 e30)
  | ((with_reducible refine qA 32 ?_); refine st_andnot8 rfl _ _ _ _ rfl _ _ rfl rfl (by omega) (by omega) ?_; intro z32 h32 e32)
  | ((with_reducible refine qM ?_); (first | refine qS hS ?_ | refine qT hS ?_); clear hS; intro w_ hS; (try simp only [Act.put, Act.eval, zz, Value.cells] at hS)))
 refine CX Tryz.results53 rfl (hS.box 0 rfl) Tryz.underlying50 rfl (by kernel_rfl) rfl ?_
 have e1 := e19.out
 have e2 := e30.out
 have e3 := e32.out
 simp only [Int.toNat_natCast] at e1 e2 e3
 refine Aw.mk ⟨z19, z32, rfl, ?_, ?_, ?_, h19, h32⟩ hS.below
 ·rw [e1, KJ]
 ·rw [e3, e2, Nat.and_assoc, Nat.and_comm (255 - z19), <- Nat.and_assoc, KJ]
 ·rw [e3]; exact and_not8 h19
theorem Sl.byteAt {w : World} {D : Nat -> Prop} {A : Option Addr} {c : Nat} {l : List Nat} (h : Sl w D 1 (.slice A l.length c) l.length (Ad l)) {k : Nat} (hk : k < l.length) : ∃ b o, A = some ⟨b, o, none⟩ /\ w.cell? ⟨b, o + k, none⟩ = some (.int .u8 (l.getD k 0 : Nat)) := by
 obtain ⟨b, o, h1, _, _, h2⟩ := h.byte hk
 exact ⟨b, o, h1, h2 k hk⟩
theorem next_any {w0 w : World} {F : List A7} {K : (Nat -> Prop) -> World -> Prop} {q c at_ : Nat} {A : Option Addr} {l : List Nat} (hl : ∀ x ∈ l, x < 256) (ha : at_ < 1000000) (hS : St w0 w (.box q 113 #[.slice A l.length c, .int .i64 (at_ : Nat)] :: F) K) (kp : ∀ D w, K D w -> Sl w D 1 (.slice A l.length c) l.length (Ad l)) :
  Calls Tryz.prog 51 #[.pointer (some ⟨q, 0, none⟩)] w fun e w' => ∃ b : Nat, b < 256 /\ e = .returned (.int .i64 (b : Nat)) /\ St w0 w' (.box q 113 #[.slice A l.length c, .int .i64 ((at_ + 1 : Nat) : Int)] :: F) K := by
 go_enter Tryz.func51, Tryz.ntmps51
 go_wp2_with (first
  | ((with_reducible refine qK ?_); refine qC hS ?_)
  | ((with_reducible refine qM ?_); (first | refine qS hS ?_ | refine qT hS ?_); clear hS; intro w_ hS; (try simp only [Act.put, Act.eval, zz, Value.cells] at hS)))
 obtain ⟨bo, hbo⟩ : ∃ bo : Bool, decide (((at_ + 1 : Nat) : Int) > (l.length : Nat)) = bo := ⟨_, rfl⟩
 have HBO := Lib.hid hbo
 clear hbo
 refine Ep [.q q 0, .q q 0, .q q 1, .n ((at_ + 1 : Nat) : Int), .q q 0, .q q 0, .q q 0, .i (.slice A l.length c), .n (l.length : Nat), .i (.bool bo)] ⟨uM, uN, uF, uC (h := fun w hW hN => (hS.ext hW).shut 0 rfl 1 rfl), uM, uN, uF, uC (h := fun w hW hN => (hS.ext hW).shut 0 rfl 0 rfl), ?_, uB (h := fun w hW hN => run_gtB HBO.out), trivial⟩ ?_
 ·refine uT fun b__ w hW hE K hK => ?_
  have e17 := hE 17
  exact opw_lenS rfl e17 Tryz.underlying22 (hK _ _ rfl (Below.refl _ _))
 ·intro vs wz hW hT
  obtain ⟨e10, e11, e12, e13, e14, e15, e16, e17, e18, e19, -⟩ := hT
  simp only [AV, Act.put, zz, ze]
  replace hS := hS.ext hW
  clear hW e10 e11 e12 e13 e14 e15 e16 e17 e18
  rw [e19]
  clear e19
  generalize vs 10 = s10, vs 11 = s11, vs 12 = s12, vs 13 = s13, vs 14 = s14, vs 15 = s15, vs 16 = s16, vs 17 = s17, vs 18 = s18
  cases bo with
  | true =>
   go_wp2_with fail
   go_ret
   exact ⟨0, by decide, rfl, hS⟩
  | false =>
   have hlt : at_ < l.length := by have := HBO.out; simp at this; omega
   obtain ⟨b, o, rfl, hb⟩ := (kp _ _ hS.ro).byteAt hlt
   have hB : l.getD at_ 0 < 256 := by rw [List.getD_eq_getElem?_getD, List.getElem?_eq_getElem hlt]; exact hl _ (List.getElem_mem hlt)
   have hk2 : ∀ D w, K D w -> w.cell? ⟨b, o + at_, none⟩ = some (.int .u8 (l.getD at_ 0 : Nat)) := fun D w h => by
    obtain ⟨b', o', e, h2⟩ := (kp D w h).byteAt hlt
    injection e with e
    injection e with e1 e2
    subst e1; subst e2
    exact h2
   clear hb
   generalize l.getD at_ 0 = x at *
   go_wp2_with fail
   refine Ep [.q q 0, .q q 0, .q q 0, .i (.slice (some ⟨b, o, none⟩) l.length c), .q q 0, .q q 0, .q q 1, .n ((at_ + 1 : Nat) : Int), .n (at_ : Nat), .q b (o + (at_) * 1), .i (.int .u8 (x : Nat)), .n (x : Nat), .n (x : Nat)] ⟨uM, uN, uF, uC (h := fun w hW hN => (hS.ext hW).shut 0 rfl 0 rfl), uM, uN, uF, uC (h := fun w hW hN => (hS.ext hW).shut 0 rfl 1 rfl), uB (h := fun w hW hN => by rw [EQ (by omega) (by omega)]; congr 2; omega), uI (h := fun w hW hN => Ai (m := at_) Tryz.underlying22 (by kernel_rfl) (by omega) (by omega)), uC (h := fun w hW hN => by rw [Nat.mul_one]; exact hk2 _ _ (hS.ext hW).ro), uE (h := fun w hW hN => by go_simp; exact IntWalk.i64_in _ (by omega)), uA, trivial⟩ ?_
   ·intro vs wz hW hT
    obtain ⟨e20, e21, e22, e23, e24, e25, e26, e27, e28, e29, e30, e31, e2, -⟩ := hT
    simp only [AV, Act.put, zz, ze]
    replace hS := hS.ext hW
    rw [e2]
    clear hW
    go_wp2_with fail
    go_ret
    exact ⟨x, hB, rfl, hS⟩
end
section
open Go.RowKit
attribute [local go_sem ↓] Go.wp_at_zero Go.wp_at_succ
set_option maxRecDepth 20000
set_option exponentiation.threshold 5000
theorem st_and64 {P : Program} {ops : Array Oper} {rest : List Oper} {o : Oper} {a : Act} {Q : Exit -> Act -> World -> Prop} {w : World} (hg : Region.wanted o (yielded ops a.tmps) = true) (t t2 : TypeId) (x y : Operand) (ho : o.op = .binOp .and t x y t2) (X Y : Nat) (hx : a.eval x = .int .u64 (X : Nat)) (hy : a.eval y = .int .u64 (Y : Nat)) (h1 : X < AE) (h2 : Y < AE)
  (hk : wpList P ops Q rest (a.put o.dst (.int .u64 ((X &&& Y : Nat) : Int))) w) : wpList P ops Q (o :: rest) a w :=
 BigFrame.wpList_want hg fun _ hK => AA ho hx hy rfl (run_and64 h1 h2) (hK _ _ hk)
theorem Kf {y n s : Nat} (hy : y < AE) (hn : n < AE) (hs : s < AE) (w0 : World) : Calls Tryz.prog 54 #[.agg #[.int .u64 (y : Nat), .int .u64 (n : Nat)], .int .u64 (s : Nat)] w0 (Aw (fun x _ => x = .bool (C3 (y, n) s)) w0) := by
 have hS : St w0 w0 [] fun _ _ => True := St.start0
 have e : C3 (y, n) s = (decide ((s &&& y : Nat) = y) && decide ((s &&& n : Nat) = 0)) := by
  unfold C3
  rw [Nat.and_comm s y, Nat.and_comm s n]
  generalize y &&& s = a
  generalize n &&& s = b
  by_cases h1 : a = y <;> by_cases h2 : b = 0 <;> simp [h1, h2]
 rw [e]
 clear e
 go_enter Tryz.func54, Tryz.ntmps54
 go_wp2_with (first
  | ((with_reducible refine qA 2 ?_); refine AH hS rfl _ _ rfl (.agg #[.int .u64 (y : Nat), .int .u64 (n : Nat)]) _ rfl rfl ?_; clear hS; intro g2 w_ hS; (try simp only [Act.put, Act.eval, zz, Value.cells] at hS))
  | ((with_reducible refine qK ?_); refine qC hS ?_)
  | ((with_reducible refine qb .and ?_); refine st_and64 rfl _ _ _ _ rfl _ _ rfl rfl (by assumption) (by assumption) ?_)
  | ((with_reducible refine qB ?_); refine qc ?_ ?_ <;> intro h_ <;> go_prune))
 all_goals (go_ret; refine Aw.mk ?_ hS.below; congr 1; simp_all; try omega)
theorem rsome_any {w0 : World} {D : Nat -> Prop} {v : Value} {l : List (Nat × Nat)} {s : Nat} (h : BH w0 D v l) (hsm : Small l) (hs : s < AE) : Calls Tryz.prog 88 #[v, .int .u64 (s : Nat)] w0 (Aw (fun x _ => x = .bool (l.any fun z => C3 z s)) w0) := by
 obtain ⟨A, c, rfl, _, _⟩ := h.shape
 obtain ⟨K, k1, hS⟩ : ∃ K : (Nat -> Prop) -> World -> Prop, (∀ D w, K D w -> Sl w D 2 (.slice A l.length c) l.length (AC l)) /\ St w0 w0 [] K := ⟨_, fun _ _ h => h, St.start (Aj (by decide)) h⟩
 have HSm := Lib.hid hsm
 clear h hsm
 go_enter Tryz.func88, Tryz.ntmps88
 go_wp2_with fail
 go_loopw [9] (fun i wr => ∃ j : Nat, i = .int .i64 (j : Nat) /\ j <= l.length /\ Hid ((l.take j).any (fun z => C3 z s) = false) /\ St w0 wr [] K) (fun i _ => l.length - (intOf i).toNat)
 case atStart => exact ⟨0, rfl, by omega, Lib.hid (by simp), hS⟩
 case round =>
  clear hS
  obtain ⟨j, rfl, hj, HN, hS⟩ := hrel
  by_cases hlj : j < l.length
  ·obtain ⟨f0, f1⟩ := Dz l j hlj
   have hM : l.getD j (0, 0) ∈ l := by rw [List.getD_eq_getElem?_getD, List.getElem?_eq_getElem hlj]; exact List.getElem_mem hlj
   have hz := HSm.out _ hM
   have HT : Hid ((l.take (j + 1)).any (fun z => C3 z s) = C3 (l.getD j (0, 0)) s) := Lib.hid (by rw [EL l j (0, 0) hlj, List.any_append, HN.out]; simp)
   have HB : Hid (C3 (l.getD j (0, 0)) s = true -> l.any (fun z => C3 z s) = true) := Lib.hid fun h => List.any_eq_true.2 ⟨_, hM, h⟩
   clear hM
   generalize l.getD j (0, 0) = z at *
   obtain ⟨y, n⟩ := z
   dsimp only at f0 f1 hz
   have HH := Lib.hid (fun w => Kf hz.1 hz.2 hs w)
   cases hb : C3 (y, n) s with
   | true =>
    have e := HB.out hb
    rw [hb] at HH
    clear hb HB HT HN
    go_wp2_with (first | ((with_reducible refine qB ?_); refine qc ?_ ?_ <;> intro h_ <;> go_prune) | ((with_reducible refine qI ?_); refine qj hS Tryz.underlying28 ?_; intro b_ j_ hc0_ hc1_) | ((with_reducible refine qA 6 ?_); refine AY hS rfl _ rfl (by kernel_rfl) ?_; clear hS; intro g6 w_ hS; (try simp only [Act.put, Act.eval, zz, Value.cells] at hS)) | ((with_reducible refine qM ?_); (first | refine qS hS ?_ | refine qT hS ?_); clear hS; intro w_ hS; (try simp only [Act.put, Act.eval, zz, Value.cells] at hS)) | ((with_reducible refine qK ?_); refine qL hS Tryz.underlying50 ?_) | (go_at_call 54; refine (HH.out _).mono ?_; rintro r_ w_ ⟨_, rfl, rfl, hb_⟩; replace hS := hS.ext hb_; clear hb_))
    go_ret
    exact Aw.mk (show Value.bool true = .bool (l.any fun z => C3 z s) by rw [e]) hS.below
   | false =>
    rw [hb] at HH HT
    clear hb HB HN
    go_wp2_with (first | ((with_reducible refine qB ?_); refine qc ?_ ?_ <;> intro h_ <;> go_prune) | ((with_reducible refine qI ?_); refine qj hS Tryz.underlying28 ?_; intro b_ j_ hc0_ hc1_) | ((with_reducible refine qA 6 ?_); refine AY hS rfl _ rfl (by kernel_rfl) ?_; clear hS; intro g6 w_ hS; (try simp only [Act.put, Act.eval, zz, Value.cells] at hS)) | ((with_reducible refine qM ?_); (first | refine qS hS ?_ | refine qT hS ?_); clear hS; intro w_ hS; (try simp only [Act.put, Act.eval, zz, Value.cells] at hS)) | ((with_reducible refine qK ?_); refine qL hS Tryz.underlying50 ?_) | (go_at_call 54; refine (HH.out _).mono ?_; rintro r_ w_ ⟨_, rfl, rfl, hb_⟩; replace hS := hS.ext hb_; clear hb_))
    exact ⟨⟨j + 1, by go_num, hlj, HT, hS.sub (List.nil_sublist _)⟩, by simp [intOf]; omega⟩
  ·obtain rfl : l.length = j := by omega
   have e := HN.out
   rw [List.take_length] at e
   go_wp2_with (first | ((with_reducible refine qB ?_); refine qc ?_ ?_ <;> intro h_ <;> go_prune))
   go_ret
   refine Aw.mk ?_ hS.below
   rfl
theorem RLinkP.some2 {w0 w' : World} {pv : Value} {L : List (Nat × Nat)} {x y : Nat} {e : Ending} (h : RLinkP w0 pv L (x : Nat) (y : Nat) e w') (ht : twoR (x : Nat) (y : Nat)) :
  ((x, y) ∈ L /\ e = .returned (.tuple #[pv, .int .i64 5]) /\ Below w0.heap.size w0 w') \/ ((x, y) ∉ L /\ TC L y x /\ e = .returned (.tuple #[pv, .int .i64 16]) /\ Below w0.heap.size w0 w') \/
   ((x, y) ∉ L /\ ¬ TC L y x /\ ∃ v, e = .returned (.tuple #[v, .int .i64 0]) /\ St w0 w' [.own v 107 2 (L.length + 1) (A6 (ins L (x, y)))] fun _ _ => True) := by
 rcases h with ⟨h, _⟩ | ⟨a, b, h1, h2, _, _, _, h⟩
 ·exact absurd ht h
 ·obtain rfl : x = a := by omega
  obtain rfl : y = b := by omega
  exact h
def InRol (R : Nat) (L : List (Nat × Nat)) : Prop := ∀ z ∈ L, 1 <= z.1 /\ z.1 < z.2 /\ z.2 <= R
theorem rlink_st {w0 w : World} {F : List A7} {K : (Nat -> Prop) -> World -> Prop} {pv : Value} {L : List (Nat × Nat)} {x y R : Nat} (hH : Hf L) (hR : InRol R L) (h1 : 1 <= x) (h2 : x < y) (h3 : y <= R) (h4 : R < 64) (hl : L.length <= 1000) (hS : St w0 w F K) (kp : ∀ D w, K D w -> Sl w D 2 pv L.length (A6 L)) :
  Calls Tryz.prog 52 #[pv, .int .i64 (x : Nat), .int .i64 (y : Nat)] w fun e w' => ∃ (v : Value) (z : Int) (L' : List (Nat × Nat)), e = .returned (.tuple #[v, .int .i64 z]) /\ Hf L' /\ InRol R L' /\ L'.length <= L.length + 1 /\ St w0 w' F fun D w => K D w /\ Sl w D 2 v L'.length (A6 L') := by
 have KS := hS.stable
 refine (rlink_any (kp _ _ hS.ro) hH.inr (by omega) x y).mono ?_
 intro e w' h
 have hsame : ∀ z : Int, e = .returned (.tuple #[pv, .int .i64 z]) -> Below w.heap.size w w' -> ∃ (v : Value) (z : Int) (L' : List (Nat × Nat)), e = .returned (.tuple #[v, .int .i64 z]) /\ Hf L' /\ InRol R L' /\ L'.length <= L.length + 1 /\ St w0 w' F fun D w => K D w /\ Sl w D 2 v L'.length (A6 L') :=
  fun z h hb => ⟨pv, z, L, h, hH, hR, by omega, (hS.ext hb).mono (KS.and (Aj (by decide))) fun D w h => ⟨h, kp D w h⟩⟩
 rcases h.some2 ⟨⟨by omega, by omega⟩, ⟨by omega, by omega⟩, by omega⟩ with ⟨-, a, b⟩ | ⟨-, -, a, b⟩ | ⟨k1, k2, v, a, b⟩
 ·exact hsame _ a b
 ·exact hsame _ a b
 ·refine ⟨v, 0, _, a, hH.ins ⟨h1, by omega⟩ ⟨by omega, by omega⟩ (by omega) k1 k2, fun z hz => ?_, by rw [ins_len]; omega, ?_⟩
  ·rcases (JK.1 hz) with h | h
   ·subst h; exact ⟨h1, h2, h3⟩
   ·exact hR z h
  ·have hn := (hS.new b.below (.own v 107 2 (L.length + 1) (A6 (ins L (x, y)))) (b.own 0 rfl)).freeze 0 (by decide) rfl
   rw [ins_len]
   exact hn
def B5 (l : List Br) : List Value := l.flatMap fun z => [.bool z.revoke, .int .u64 (z.yes : Nat), .int .u64 (z.no : Nat), .int .i64 z.target, .int .i64 z.origin]
theorem Ka (a b : List Br) : B5 (a ++ b) = B5 a ++ B5 b := by simp [B5]
theorem rrcells_at (l : List Br) (k : Nat) (z : Br) (h : l[k]? = some z) : (B5 l)[k * 5]? = some (.bool z.revoke) /\ (B5 l)[k * 5 + 1]? = some (.int .u64 (z.yes : Nat)) /\ (B5 l)[k * 5 + 2]? = some (.int .u64 (z.no : Nat)) /\ (B5 l)[k * 5 + 3]? = some (.int .i64 z.target) /\ (B5 l)[k * 5 + 4]? = some (.int .i64 z.origin) := by
 induction l generalizing k with
 | nil => simp at h
 | cons y r ih =>
  cases k with
  | zero => simp at h; subst h; simp [B5]
  | succ k =>
   have := ih k (by simpa using h)
   rw [show (k + 1) * 5 = k * 5 + 5 by omega]
   simpa [B5] using this
def Bj (w : World) (D : Nat -> Prop) (v : Value) (p : AZ) : Prop :=
 ∃ lv rv nv gv L, v = .agg #[.int .i64 p.roles, lv, .int .u64 (p.start : Nat), rv, nv, gv] /\ p.links = some L /\ Sl w D 2 lv L.length (A6 L) /\ Sl w D 5 rv p.rules.length (B5 p.rules) /\ BH w D nv p.never /\ BH w D gv p.goal
theorem EC {v : Value} {l : List (Nat × Nat)} : AF fun D w => BH w D v l := Aj (by decide)
theorem D3 {v : Value} {p : AZ} : AF fun D w => Bj w D v p := fun D D' w w' h a b c => by
 obtain ⟨lv, rv, nv, gv, L, h1, h2, h3, h4, h5, h6⟩ := h
 exact ⟨lv, rv, nv, gv, L, h1, h2, Aj (by decide) D D' w w' h3 a b c, Aj (by decide) D D' w w' h4 a b c, EC D D' w w' h5 a b c, EC D D' w w' h6 a b c⟩
end
end Go.Proofs.YtchjigffejhmfaaGreatDoor
