/-
  What the permutation of keccak computes.
  What the absorbing of a block computes.
  What keccak's New and the method Write compute.
  What keccak's method Sum and function Sum return.
  What keccak's functions Sum and Tagged return.
  What the writer's method String writes, and what keccak.Tagged returns (one part).
-/
import Derived.Test.YtenpkgdnlogfiaaGreatDoorKec1
import Derived.Test.YtenpkgdnlogfiaaGreatDoorMem3
import Derived.Laws.CopyRow
import Derived.Deep.MidRow
import Derived.Deep.Cut
import Derived.Laws.CopyOwn
import Derived.Laws.IdiomStrings
namespace Go.Proofs.YtenpkgdnlogfiaaGreatDoor
open Go.RowKit
attribute [local go_sem ↓] Go.wp_at_zero Go.wp_at_succ
set_option maxRecDepth 20000

theorem run_index_cell {P : Program} (w : World) (T e : TypeId) (len : Nat) (cs : Array Value) (k : Nat) (x : Value) (ht : P.underlying T = some (.array len e)) (he : P.plainKey e = true) (hi : (P.info? e).isSome = true) (hs : P.cellsOf e = 1) (hk : k < len) (hc : cs[k]? = some x) :
    (Instr.index T (.agg cs) (.int .i64 (k : Int))).run P w = .ok x w := by
  obtain ⟨i, hi⟩ := Option.isSome_iff_exists.1 hi
  have h1 : ((k : Int) < (len : Int)) := by omega
  simp [Instr.index, run_underlying ht, asIntOf, run_sizeOf w hi, hs, h1]
  rw [if_pos hk]
  exact run_part_plain w he hc

set_option maxHeartbeats 4000000 in
theorem permute_any (b : Nat) (t : TypeId) (a : List Nat) (rest : List Value) (w : World) (hT : Tab w) (hA : Box w b t (u64s a ++ rest).toArray) (hl : a.length = 25) (hw : Words a)
    (hb1 : 1 ≠ b ∧ 2 ≠ b) :
    Calls Tryz.prog 102 #[.pointer (some ⟨b, 0, none⟩)] w (fun e w' => e = .returned (.tuple #[]) ∧ Box w' b t (u64s (perm a) ++ rest).toArray ∧ WF (fun _ => False) b w w') := by
  obtain ⟨⟨tr, hR⟩, tt, hTT⟩ := id hT
  have HR := Lib.hid hR
  have hi : (Tryz.prog.info? 140).map (·.size) = some (u64s roundsL).toArray.size := by kernel_rfl
  have HI := Lib.hid hi
  have hcs : ∀ k : Nat, k < 24 → (u64s roundsL).toArray[k]? = some (.int .u64 (roundsL.getD k 0 : Nat)) := fun k hk => by rw [List.getElem?_toArray]; exact u64s_at _ _ hk
  have HCS := Lib.hid hcs
  have hsz : (u64s roundsL).toArray.size = 24 := rfl
  generalize (u64s roundsL).toArray = cs at *
  clear hR hTT hi hcs
  go_enter Tryz.func102, Tryz.ntmps102
  go_wp2_with ((with_reducible show wpList _ _ _ (⟨some 12, _, _, _, _, _⟩ :: _) _ _); refine wpList_load_row rfl 140 _ rfl 1 rfl tr.1 cs tr.2 _ HR.out Tryz.underlying140 rfl HI.out ?_)
  go_loopw [13] (fun i wr => ∃ k : Nat, k ≤ 24 ∧ i = .int .i64 k ∧ Box wr b t (u64s (permTo a k) ++ rest).toArray ∧ WF (fun _ => False) b w wr) (fun i _ => 24 - (intOf i).toNat)
  case atStart => exact ⟨0, by omega, rfl, hA, WF.refl _ _ _⟩
  case round =>
    clear hA
    obtain ⟨k, hk, rfl, hA, hF⟩ := hrel
    generalize wr = W0 at *
    by_cases hlt : k < 24
    · have hck : ∀ wx, (Instr.index 140 (.agg cs) (.int .i64 (k : Int))).run Tryz.prog wx = .ok (.int .u64 (roundsL.getD k 0 : Nat)) wx := fun wx => run_index_cell wx _ 58 24 cs k _ Tryz.underlying140 (by kernel_rfl) (by kernel_rfl) (by kernel_rfl) hlt (HCS.out k hlt)
      have hok := permTo_ok hw hl k hk
      have hrl := rounds_lt k
      obtain ⟨hwk, hlk⟩ := hok
      have HS := Lib.hid (permTo_step a k hlt)
      generalize permTo a k = A at *
      generalize roundsL.getD k 0 = c at *
      have hTr := hT.wf hF hb1
      have HTr := Lib.hid hTr
      have HF := Lib.hid hF
      clear hTr hF
      go_wp2_with fail
      have hdk : decide ((k : Int) < 24) = true := by simp; omega
      simp only [hdk]
      clear hdk
      have hC := Box.new W0 141 #[.int .u64 0, .int .u64 0, .int .u64 0, .int .u64 0, .int .u64 0]
      have hA1 := hA.alloc (.cells #[.int .u64 0, .int .u64 0, .int .u64 0, .int .u64 0, .int .u64 0] 141)
      have hB1 : Below W0.heap.size W0 (W0.alloc (.cells #[.int .u64 0, .int .u64 0, .int .u64 0, .int .u64 0, .int .u64 0] 141)) := (Below.refl _ _).alloc (Nat.le_refl _) _
      have hbl := hA.lt
      go_loopw [16] (fun i wc => ∃ x : Nat, x ≤ 5 ∧ i = .int .i64 x ∧ Box wc W0.heap.size 141 (u64s (fillTo (kc A) x 5) ++ []).toArray ∧ Box wc b t (u64s A ++ rest).toArray ∧ Below W0.heap.size W0 wc) (fun i _ => 5 - (intOf i).toNat)
      case atStart => exact ⟨0, by omega, rfl, hC, hA1, hB1⟩
      case round =>
        clear hA1 hC hB1 hA
        obtain ⟨x, hx, rfl, hC, hA, hB⟩ := hrel
        by_cases hlt2 : x < 5
        · 
          have h0 := hA.word (i := x) (by omega)
          have h1 := hA.word (i := x + 5) (by omega)
          have h2 := hA.word (i := x + 10) (by omega)
          have h3 := hA.word (i := x + 15) (by omega)
          have h4 := hA.word (i := x + 20) (by omega)
          have h5 := hC.word (i := x) (by rw [fillTo_len]; omega)
          have h6 := hC.free x
          have hkc : kc A x = (((A.getD x 0 ^^^ A.getD (x + 5) 0) ^^^ A.getD (x + 10) 0) ^^^ A.getD (x + 15) 0) ^^^ A.getD (x + 20) 0 := rfl
          have l0 := hwk.getD x
          have l1 := hwk.getD (x + 5)
          have l2 := hwk.getD (x + 10)
          have l3 := hwk.getD (x + 15)
          have l4 := hwk.getD (x + 20)
          generalize A.getD x 0 = a0 at *
          generalize A.getD (x + 5) 0 = a1 at *
          generalize A.getD (x + 10) 0 = a2 at *
          generalize A.getD (x + 15) 0 = a3 at *
          generalize A.getD (x + 20) 0 = a4 at *
          have HK := Lib.hid hkc
          clear hkc
          go_wp2_with (go_region)
          have he : bits .xor .u64 (bits .xor .u64 (bits .xor .u64 (bits .xor .u64 (a0 : Int) (a1 : Int)) (a2 : Int)) (a3 : Int)) (a4 : Int) = ((kc A x : Nat) : Int) := by
            rw [xor64 l0 l1, xor64 (xor_lt l0 l1) l2, xor64 (xor_lt (xor_lt l0 l1) l2) l3, xor64 (xor_lt (xor_lt (xor_lt l0 l1) l2) l3) l4, HK.out]
          rw [he]
          refine ⟨⟨x + 1, hlt2, by go_num, ?_, (hA.far (by show b ≠ W0.heap.size; omega) _).drew, (hB.setCell (Nat.le_refl _) _).drew⟩, by simp [intOf]; omega⟩
          have := (hC.setW (i := x) (by rw [fillTo_len]; omega) (kc A x)).drew
          rw [fillTo_set] at this
          exact this
          
        · have hx5 : x = 5 := by omega
          rw [hx5] at hC
          go_wp2_with fail
          clear hx5 hlt2 hx
          have hD := Box.new wr 132 (u64s (List.replicate 25 0) ++ []).toArray
          have hA1 := hA.alloc (.cells (u64s (List.replicate 25 0) ++ []).toArray 132)
          have hC1 := hC.alloc (.cells (u64s (List.replicate 25 0) ++ []).toArray 132)
          have hB1 := hB.alloc (by exact hB.size) (.cells (u64s (List.replicate 25 0) ++ []).toArray 132)
          rw [fillTo_full] at hC1
          have hwC := kc_words hwk
          have hlC : ((List.range 5).map (kc A)).length = 5 := by simp
          obtain ⟨C, hCE⟩ : ∃ C, C = (List.range 5).map (kc A) := ⟨_, rfl⟩
          rw [← hCE] at hC1 hwC hlC
          have HCE := Lib.hid hCE
          clear hCE
          have hcl := hC.lt
          have hal := hA.lt
          clear hC hA hB hck
          generalize wr = W1 at *
          go_loopw [55] (fun i wd => ∃ x : Nat, x ≤ 5 ∧ i = .int .i64 x ∧ Box wd W1.heap.size 132 (u64s (kbTo A C x) ++ []).toArray ∧ Box wd W0.heap.size 141 (u64s C ++ []).toArray ∧ Box wd b t (u64s A ++ rest).toArray ∧ Below W0.heap.size W0 wd) (fun i _ => 5 - (intOf i).toNat)
          case atStart => exact ⟨0, by omega, rfl, hD, hC1, hA1, hB1⟩
          case round =>
            clear hA1 hC1 hB1 hD
            obtain ⟨x, hx, rfl, hD, hC, hA, hB⟩ := hrel
            by_cases hlt3 : x < 5
            · have h0 := hC.word (i := (x + 4) % 5) (by omega)
              have h1 := hC.word (i := (x + 1) % 5) (by omega)
              have HD := Lib.hid (show kd C x = C.getD ((x + 4) % 5) 0 ^^^ rotl (C.getD ((x + 1) % 5) 0) 1 from rfl)
              have l0 := hwC.getD ((x + 4) % 5)
              have l1 := hwC.getD ((x + 1) % 5)
              generalize C.getD ((x + 4) % 5) 0 = c0 at *
              generalize C.getD ((x + 1) % 5) 0 = c1 at *
              go_wp2_with (go_quiet ((go_at_call 104; exact Calls.quiet_of_same (rotl_one _ _ l1))))
              have HE := Lib.hid (show bits .xor .u64 (c0 : Int) (rotl c1 1 : Nat) = ((kd C x : Nat) : Int) by rw [xor64 l0 (rotl_lt l1), HD.out])
              have hdx : decide ((x : Int) < 5) = true := by simp; omega
              simp only [HE.out, hdx]
              clear hdx
              have ld := kd_lt hwC x
              clear h0 h1 HD HE l0 l1
              have hD1 := hD.drewN nq
              have hC1 := hC.drewN nq
              have hA1 := hA.drewN nq
              have hB1 := bel_drewN hB nq
              generalize wr.drewN nq = W2 at *
              have hwB := kbTo_words hwk hwC x
              have hlB := kbTo_len A C x
              have HSB := Lib.hid (kbTo_step A C x)
              generalize kbTo A C x = B at *
              clear hD hC hA hB
              go_loopw [70] (fun i we => ∃ y : Nat, y ≤ 5 ∧ i = .int .i64 y ∧ Box we W1.heap.size 132 (u64s (kbRow A C B x y) ++ []).toArray ∧ Box we W0.heap.size 141 (u64s C ++ []).toArray ∧ Box we b t (u64s A ++ rest).toArray ∧ Below W0.heap.size W0 we) (fun i _ => 5 - (intOf i).toNat)
              case atStart => exact ⟨0, by omega, rfl, hD1, hC1, hA1, hB1⟩
              case round =>
                clear hA1 hC1 hB1 hD1
                obtain ⟨y, hy, rfl, hD, hC, hA, hB⟩ := hrel
                by_cases hlt4 : y < 5
                · have hlR := kbRow_len A C B x y
                  have h0 := hA.word (i := x + 5 * y) (by omega)
                  have h1 := (HTr.out.ext hB).turn (k := x + 5 * y) (by omega)
                  have h2 := hD.word (i := y + 5 * ((2 * x + 3 * y) % 5)) (by omega)
                  have h3 := hD.free (y + 5 * ((2 * x + 3 * y) % 5))
                  have l0 := hwk.getD (x + 5 * y)
                  have l1 := turns_lt (x + 5 * y)
                  have HK := Lib.hid (show kbAt A C x (kbRow A C B x y) y = (kbRow A C B x y).set (y + 5 * ((2 * x + 3 * y) % 5)) (rotl (A.getD (x + 5 * y) 0 ^^^ kd C x) (turnsL.getD (x + 5 * y) 0)) from rfl)
                  have HSR := Lib.hid (kbRow_step A C B x y)
                  generalize A.getD (x + 5 * y) 0 = a0 at *
                  generalize turnsL.getD (x + 5 * y) 0 = t0 at *
                  generalize kbRow A C B x y = R at *
                  have lx := xor_lt l0 ld
                  have hcall : ∀ wx, Calls Tryz.prog 104 #[.int .u64 (bits .xor .u64 (a0 : Int) (kd C x : Nat)), .int .i64 (t0 : Int)] wx (fun e w' => e = .returned (.int .u64 (rotl (a0 ^^^ kd C x) t0 : Nat)) ∧ w' = wx) := fun wx => by rw [xor64 l0 ld]; exact rotl_any _ _ _ lx l1
                  clear l0 l1 lx ld
                  
                  have s1 : IntKind.i64.wrap (5 * (y : Int)) = 5 * (y : Int) := IntWalk.i64_in _ (by omega)
                  have s2 : IntKind.i64.wrap ((x : Int) + 5 * (y : Int)) = (x : Int) + 5 * (y : Int) := IntWalk.i64_in _ (by omega)
                  have s3 : 0 ≤ (x : Int) + 5 * (y : Int) := by omega
                  have s4 : (x : Int) + 5 * (y : Int) < 25 := by omega
                  have s5 : ((x : Int) + 5 * (y : Int)).toNat = x + 5 * y := by omega
                  have s6 : IntKind.i64.wrap (2 * (x : Int)) = 2 * (x : Int) := IntWalk.i64_in _ (by omega)
                  have s7 : IntKind.i64.wrap (3 * (y : Int)) = 3 * (y : Int) := IntWalk.i64_in _ (by omega)
                  have s8 : IntKind.i64.wrap (2 * (x : Int) + 3 * (y : Int)) = 2 * (x : Int) + 3 * (y : Int) := IntWalk.i64_in _ (by omega)
                  have s9 : (2 * (x : Int) + 3 * (y : Int)).tmod 5 = (2 * (x : Int) + 3 * (y : Int)) % 5 := Int.tmod_eq_emod_of_nonneg (by omega)
                  have s10 : IntKind.i64.wrap ((2 * (x : Int) + 3 * (y : Int)) % 5) = (2 * (x : Int) + 3 * (y : Int)) % 5 := IntWalk.i64_in _ (by omega)
                  have s11 : IntKind.i64.wrap (5 * ((2 * (x : Int) + 3 * (y : Int)) % 5)) = 5 * ((2 * (x : Int) + 3 * (y : Int)) % 5) := IntWalk.i64_in _ (by omega)
                  have s12 : IntKind.i64.wrap ((y : Int) + 5 * ((2 * (x : Int) + 3 * (y : Int)) % 5)) = (y : Int) + 5 * ((2 * (x : Int) + 3 * (y : Int)) % 5) := IntWalk.i64_in _ (by omega)
                  have s13 : 0 ≤ (y : Int) + 5 * ((2 * (x : Int) + 3 * (y : Int)) % 5) := by omega
                  have s14 : (y : Int) + 5 * ((2 * (x : Int) + 3 * (y : Int)) % 5) < 25 := by omega
                  have s15 : ((y : Int) + 5 * ((2 * (x : Int) + 3 * (y : Int)) % 5)).toNat = y + 5 * ((2 * x + 3 * y) % 5) := by omega
                  go_wp2_with fail
                  go_still_tail 27, (by kernel_rfl)
                  still_call (hcall _)
                  repeat still_step
                  refine wpStill_nil ?_
                  clear s1 s2 s3 s4 s5 s6 s7 s8 s9 s10 s11 s12 s13 s14 s15 hcall
                  change wpList _ _ _ _ _ wr.drew
                  have h2' : wr.drew.cell? ⟨W1.heap.size, y + 5 * ((2 * x + 3 * y) % 5), none⟩ = _ := h2
                  have h3' : wr.drew.frozen? ⟨W1.heap.size, y + 5 * ((2 * x + 3 * y) % 5), none⟩ = false := h3
                  have hD' : Box wr.drew _ _ _ := hD.drew
                  have hC' : Box wr.drew _ _ _ := hC.drew
                  have hA' : Box wr.drew _ _ _ := hA.drew
                  have hB' := hB.drew
                  clear h0 h1 h2 h3 hD hC hA hB
                  generalize wr.drew = w5 at *
                  go_wp2_with fail
                  go_round
                  case rel =>
                    refine ⟨y + 1, hlt4, by go_num, ?_, hC'.far (by show W0.heap.size ≠ W1.heap.size; omega) _, hA'.far (by show b ≠ W1.heap.size; omega) _, hB'.setCell (by show W0.heap.size ≤ W1.heap.size; omega) _⟩
                    rw [HSR.out, HK.out]
                    exact hD'.setW (by omega) _
                  case measure => simp [intOf]; omega
                  
                · have hy5 : y = 5 := by omega
                  rw [hy5] at hD
                  clear hy5
                  go_wp2_with fail
                  go_round
                  case rel => exact ⟨x + 1, hlt3, by go_num, by rw [HSB.out]; exact hD, hC, hA, hB⟩
                  case measure => simp [intOf]; omega
            · have hx5 : x = 5 := by omega
              rw [hx5] at hD
              go_wp2_with fail
              clear hx5 hlt3 hx
              have hwB := kbTo_words hwk hwC 5
              have HKR := Lib.hid (show kround A c = ((List.range 25).map (ka (kbTo A C 5))).set 0 (ka (kbTo A C 5) 0 ^^^ c) by rw [HCE.out]; rfl)
              have hlB := kbTo_len A C 5
              have hF5 : WF (fun _ => False) b W0 wr := WF.of_below hB
              generalize kbTo A C 5 = B at *
              clear hC hB hwC hlC HCE
              go_loopw [10] (fun i wc => ∃ r : Nat, r ≤ 5 ∧ i = .int .i64 ((5 * r : Nat) : Int) ∧ Box wc b t (u64s (mixTo (ka B) A (5 * r)) ++ rest).toArray ∧ Box wc W1.heap.size 132 (u64s B ++ []).toArray ∧ WF (fun _ => False) b W0 wc) (fun i _ => 25 - (intOf i).toNat)
              case atStart => exact ⟨0, by omega, rfl, by rw [mixTo_zero _ _ hlk]; exact hA, hD, hF5⟩
              case round =>
                clear hA hD hF5
                obtain ⟨r, hr, rfl, hA, hD, hF⟩ := hrel
                by_cases hltr : r < 5
                · have h25 : ((5 * r : Nat) : Int) < 25 := by omega
                  go_wp2_with fail
                  have hF0 := hF
                  go_loopw [106] (fun i wc => ∃ x : Nat, x ≤ 5 ∧ i = .int .i64 x ∧ Box wc b t (u64s (mixTo (ka B) A (5 * r + x)) ++ rest).toArray ∧ Box wc W1.heap.size 132 (u64s B ++ []).toArray ∧ WF (fun _ => False) b W0 wc) (fun i _ => 5 - (intOf i).toNat)
                  case atStart => exact ⟨0, by omega, rfl, hA, hD, hF⟩
                  case round =>
                    clear hA hD hF hF0
                    obtain ⟨x, hx, rfl, hA, hD, hF⟩ := hrel
                    by_cases hltx : x < 5
                    · have h0 := hD.word (i := x + 5 * r) (by omega)
                      have h1 := hD.word (i := (x + 1) % 5 + 5 * r) (by omega)
                      have h2 := hD.word (i := (x + 2) % 5 + 5 * r) (by omega)
                      have h3 := hA.word (i := x + 5 * r) (by rw [mixTo_len]; omega)
                      have h4 := hA.free (x + 5 * r)
                      have HK := Lib.hid (show ka B (5 * r + x) = B.getD (x + 5 * r) 0 ^^^ (not64 (B.getD ((x + 1) % 5 + 5 * r) 0) &&& B.getD ((x + 2) % 5 + 5 * r) 0) by
                        unfold ka
                        rw [show 5 * r + x = x + 5 * r by omega, show (x + 5 * r) % 5 = x by omega, show (x + 5 * r) / 5 * 5 = 5 * r by omega])
                      have l0 := hwB.getD (x + 5 * r)
                      have l1 := hwB.getD ((x + 1) % 5 + 5 * r)
                      have l2 := hwB.getD ((x + 2) % 5 + 5 * r)
                      generalize B.getD (x + 5 * r) 0 = b0 at *
                      generalize B.getD ((x + 1) % 5 + 5 * r) 0 = b1 at *
                      generalize B.getD ((x + 2) % 5 + 5 * r) 0 = b2 at *
                      
                      go_wp2_with (go_region)
                      have he : bits .xor .u64 (b0 : Int) (bits .and .u64 (bits .xor .u64 (if IntKind.u64.signed = true then -1 else IntKind.u64.max) (b1 : Int)) (b2 : Int)) = ((ka B (5 * r + x) : Nat) : Int) := by
                        rw [notu l1, and64 (not64_lt _) l2, xor64 l0 (and_lt (not64_lt _)), HK.out]
                      rw [he]
                      refine ⟨⟨x + 1, hltx, by go_num, ?_, (hD.far (by show W1.heap.size ≠ b; omega) _).drew, hF.trans (WF.trans (WF.set _ _ _ _ _) (WF.of_below (Below.refl _ _).drew))⟩, by simp [intOf]; omega⟩
                      have := (hA.setW (i := x + 5 * r) (by rw [mixTo_len]; omega) (ka B (5 * r + x))).drew
                      rw [show x + 5 * r = 5 * r + x by omega, mixTo_step _ _ _ (by omega)] at this
                      rw [show x + 5 * r = 5 * r + x by omega]
                      exact this
                      
                    · have hx5 : x = 5 := by omega
                      rw [hx5] at hA
                      go_wp2_with fail
                      clear hx5 hltx hx
                      go_round
                      case rel => exact ⟨r + 1, hltr, by go_num, hA, hD, hF⟩
                      case measure => simp [intOf]; omega
                · have hr5 : r = 5 := by omega
                  rw [hr5] at hA
                  have h25 : ¬ ((5 * r : Nat) : Int) < 25 := by omega
                  have hm := mixTo_full (ka B) A
                  rw [show 5 * 5 = 25 from rfl, hm] at hA
                  have hka : (((List.range 25).map (ka B)).getD 0 0) = ka B 0 := by simp
                  have h0 := hA.word (i := 0) (by simp)
                  have h1 := hA.free 0
                  rw [hka] at h0
                  have l0 := ka_lt hwB 0
                  have hx0 := xor64 l0 hrl
                  have HX := Lib.hid hx0
                  have HM := Lib.hid (show ((List.range 25).map (ka B)).length = 25 by simp)
                  clear hx0 hka hm
                  generalize ka B 0 = k0 at *
                  generalize (List.range 25).map (ka B) = M at *
                  go_wp2_with (go_region)
                  rw [HX.out]
                  have hset := (hA.setW (i := 0) (by rw [HM.out]; simp) (k0 ^^^ c)).drew
                  refine ⟨⟨k + 1, hlt, by go_num, ?_, HF.out.trans ((hF.trans (WF.trans (WF.set _ _ _ _ _) (WF.of_below (Below.refl _ _).drew))).imp fun _ h _ => h.elim)⟩, by simp [intOf]; omega⟩
                  rw [HS.out, HKR.out]
                  exact hset
    · have hk24 : k = 24 := by omega
      rw [hk24] at hA
      go_wp2_with fail
      exact bodyPost_end (results_none rfl _ _ _) rfl ⟨rfl, by rw [perm_eq]; exact hA, hF⟩
end Go.Proofs.YtenpkgdnlogfiaaGreatDoor
namespace Go.Proofs.YtenpkgdnlogfiaaGreatDoor
open Go.RowKit
attribute [local go_sem ↓] Go.wp_at_zero Go.wp_at_succ
set_option maxRecDepth 20000

/-- the word of eight bytes, of which the n last are taken in -/
def lew (l : List Nat) (i : Nat) : Nat → Nat
  | 0 => 0
  | n + 1 => (lew l i n * 256) % T64 ||| l.getD (8 * i + (7 - n)) 0
theorem Bytes.getD {l : List Nat} (h : Bytes l) (k : Nat) : l.getD k 0 < 256 := by
  rcases Nat.lt_or_ge k l.length with h1 | h1
  · rw [List.getD_eq_getElem?_getD, List.getElem?_eq_getElem h1]; exact h _ (List.getElem_mem h1)
  · rw [List.getD_eq_getElem?_getD, List.getElem?_eq_none h1]; simp
theorem lew_lt {l : List Nat} (h : Bytes l) (i n : Nat) : lew l i n < T64 := by
  cases n with
  | zero => simp [lew, T64]
  | succ n => exact or_lt (Nat.mod_lt _ (by simp [T64])) (Nat.lt_trans (h.getD _) (by unfold T64; omega))
def absW (a l : List Nat) (i : Nat) : Nat := a.getD i 0 ^^^ lew l i 8
def absorbK (a l : List Nat) : List Nat := perm (mixTo (absW a l) a 17)
theorem mixTo_at (f : Nat → Nat) (a : List Nat) (k : Nat) (h : k < 25) : (mixTo f a k).getD k 0 = a.getD k 0 := by
  simp [mixTo, List.getD_eq_getElem?_getD, h]
theorem mixTo_words {f : Nat → Nat} {a : List Nat} (hf : ∀ i, f i < T64) (ha : Words a) (k : Nat) : Words (mixTo f a k) :=
  Words.range _ _ fun j _ => by split; exact hf j; exact ha.getD j

set_option maxHeartbeats 4000000 in
theorem absorb_any (b : Nat) (t : TypeId) (a : List Nat) (rest : List Value) (d o cap : Nat) (l : List Nat) (w : World) (hT : Tab w) (hA : Box w b t (u64s a ++ rest).toArray) (hl : a.length = 25) (hw : Words a)
    (hb1 : 1 ≠ b ∧ 2 ≠ b) (hl2 : l.length = 136) (hby : Bytes l) (hc : 136 ≤ cap) (hc2 : cap ≤ 9223372036854775807) (hne : d ≠ b ∨ 25 ≤ o)
    (hcell : ∀ j, j < 136 → w.cell? ⟨d, o + j, none⟩ = some (.int .u8 (l.getD j 0 : Nat))) :
    Calls Tryz.prog 94 #[.pointer (some ⟨b, 0, none⟩), .slice (some ⟨d, o, none⟩) 136 cap] w (fun e w' => e = .returned (.tuple #[]) ∧ Box w' b t (u64s (absorbK a l) ++ rest).toArray ∧ WF (fun _ => False) b w w') := by
  have hcs : ∀ wr : World, (∀ q : Addr, (q.block ≠ b ∨ 25 ≤ q.off) → wr.cell? q = w.cell? q) → ∀ j, j < 136 → wr.cell? ⟨d, o + j, none⟩ = some (.int .u8 (l.getD j 0 : Nat)) := fun wr h j hj => (h ⟨d, o + j, none⟩ (by rcases hne with h1 | h1; exact .inl h1; exact .inr (by show 25 ≤ o + j; omega))).trans (hcell j hj)
  have HCS := Lib.hid hcs
  clear hcs hcell
  go_enter Tryz.func94, Tryz.ntmps94
  go_wp2_with fail
  go_loopw [7] (fun i wr => ∃ k : Nat, k ≤ 17 ∧ i = .int .i64 k ∧ Box wr b t (u64s (mixTo (absW a l) a k) ++ rest).toArray ∧ WF (fun _ => False) b w wr ∧ ∀ q : Addr, (q.block ≠ b ∨ 25 ≤ q.off) → wr.cell? q = w.cell? q) (fun i _ => 17 - (intOf i).toNat)
  case atStart => exact ⟨0, by omega, rfl, by rw [mixTo_zero _ _ hl]; exact hA, WF.refl _ _ _, fun q _ => rfl⟩
  case round =>
    clear hA
    obtain ⟨k, hk, rfl, hA, hF, hq⟩ := hrel
    by_cases hlt : k < 17
    · have HC := Lib.hid (HCS.out wr hq)
      have HQ := Lib.hid hq
      clear hq
      have hdk : decide ((k : Int) < 17) = true := by simp; omega
      go_wp2_with fail
      try simp only [hdk]
      clear hdk
      go_loop [5, 6] (fun u i => ∃ n : Nat, n ≤ 8 ∧ i = .int .i64 (7 - (n : Int)) ∧ u = .int .u64 (lew l k n : Nat)) (fun _ i => (intOf i + 1).toNat)
      case atStart => exact ⟨0, by omega, rfl, rfl⟩
      case round =>
        obtain ⟨n, hn, rfl, rfl⟩ := hrel
        by_cases hltn : n < 8
        · have hb := HC.out (8 * k + (7 - n)) (by omega)
          have HL := Lib.hid (show lew l k (n + 1) = (lew l k n * 256) % T64 ||| l.getD (8 * k + (7 - n)) 0 from rfl)
          have l0 := lew_lt hby k n
          have l1 := hby.getD (8 * k + (7 - n))
          generalize lew l k n = x at *
          generalize l.getD (8 * k + (7 - n)) 0 = y at *
          have s1 : (8 * (k : Int) + (7 - (n : Int))).toNat = 8 * k + (7 - n) := by omega
          go_wp2_with fail
          refine ⟨⟨n + 1, hltn, by congr 1; omega, ?_⟩, by simp [intOf]; omega⟩
          have h1 : IntKind.u64.wrap ((x : Int) * 256) = ((x * 256 % T64 : Nat) : Int) := by
            rw [show (x : Int) * 256 = ((x * 256 : Nat) : Int) by omega]
            exact wrap_u64 _
          rw [HL.out, h1, or64 (Nat.mod_lt _ (by simp [T64])) (Nat.lt_trans l1 (by unfold T64; omega))]
        · have hn8 : n = 8 := by omega
          have l0 := hw.getD k
          have l1 := lew_lt hby k 8
          have HM := Lib.hid (mixTo_step (absW a l) a k (by omega))
          have hx := xor64 l0 l1
          have HX := Lib.hid (show bits .xor .u64 (a.getD k 0 : Nat) (lew l k 8 : Nat) = ((absW a l k : Nat) : Int) from hx)
          have h0 := hA.word (i := k) (by rw [mixTo_len]; omega)
          rw [mixTo_at _ _ _ (by omega)] at h0
          have h1 := hA.free k
          clear hx
          go_wp2_with fail
          clear hn8 hltn hn
          generalize lew l k 8 = L at *
          generalize a.getD k 0 = A0 at *
          go_wp2_with (go_region)
          rw [HX.out]
          refine ⟨⟨k + 1, hlt, by go_num, ?_, hF.trans (WF.trans (WF.set _ _ _ _ _) (WF.of_below (Below.refl _ _).drew)), fun q hq => ?_⟩, by simp [intOf]; omega⟩
          · rw [← HM.out]
            exact (hA.setW (by rw [mixTo_len]; omega) _).drew
          · refine Eq.trans ?_ (HQ.out q hq)
            exact World.cell?_setCell_other _ _ _ _ (by rintro rfl; rcases hq with h | h; exact h rfl; have : 25 ≤ k := h; omega)
    · have hk17 : k = 17 := by omega
      rw [hk17] at hA
      go_wp2_with fail
      refine (permute_any b t _ rest wr (hT.wf hF hb1) hA (mixTo_len _ _ _) (mixTo_words (fun i => xor_lt (hw.getD i) (lew_lt hby i 8)) hw 17) hb1).mono ?_
      rintro e w2 ⟨rfl, hA2, hF2⟩
      go_wp2_with fail
      exact bodyPost_end (results_none rfl _ _ _) rfl ⟨rfl, hA2, hF.trans (hF2.imp fun _ h _ => h.elim)⟩
end Go.Proofs.YtenpkgdnlogfiaaGreatDoor
namespace Go.Proofs.YtenpkgdnlogfiaaGreatDoor
open Go.RowKit
attribute [local go_sem ↓] Go.wp_at_zero Go.wp_at_succ
set_option maxRecDepth 20000

/-- the cells of a hash -/
def hashC (st blk : List Nat) (u tot : Nat) : List Value := u64s st ++ (u8s blk ++ [.int .i64 (u : Int), .int .u64 (tot : Int)])

set_option maxHeartbeats 4000000 in
theorem new_any (w : World) :
    Calls Tryz.prog 75 #[] w (fun e w' => e = .returned (.pointer (some ⟨w.heap.size, 0, none⟩)) ∧ w' = w.alloc (.cells (hashC (List.replicate 25 0) (List.replicate 136 0) 0 0).toArray 135)) := by
  go_enter Tryz.func75, Tryz.ntmps75
  go_wp2_with fail
  go_ret
  exact ⟨rfl, rfl⟩

section
variable {w : World} {h : Nat} {t : TypeId} {st blk : List Nat} {u tot : Nat}
theorem hash_used (hH : Box w h t (hashC st blk u tot).toArray) (h1 : st.length = 25) (h2 : blk.length = 136) : w.cell? ⟨h, 161, none⟩ = some (.int .i64 (u : Int)) := by
  rw [hH.cell, List.getElem?_toArray, hashC, List.getElem?_append_right (by rw [u64s_length]; omega), List.getElem?_append_right (by rw [u8s_length, u64s_length]; omega), u8s_length, u64s_length, h1, h2]
  rfl
theorem hash_tot (hH : Box w h t (hashC st blk u tot).toArray) (h1 : st.length = 25) (h2 : blk.length = 136) : w.cell? ⟨h, 162, none⟩ = some (.int .u64 (tot : Int)) := by
  rw [hH.cell, List.getElem?_toArray, hashC, List.getElem?_append_right (by rw [u64s_length]; omega), List.getElem?_append_right (by rw [u8s_length, u64s_length]; omega), u8s_length, u64s_length, h1, h2]
  rfl
theorem hash_byte (hH : Box w h t (hashC st blk u tot).toArray) (h1 : st.length = 25) (h2 : blk.length = 136) (j : Nat) (hj : j < 136) : w.cell? ⟨h, 25 + j, none⟩ = some (.int .u8 (blk.getD j 0 : Nat)) := by
  rw [hH.cell, List.getElem?_toArray, hashC, List.getElem?_append_right (by rw [u64s_length]; omega), u64s_length, h1, show 25 + j - 25 = j by omega, List.getElem?_append_left (by rw [u8s_length]; omega), u8s_at _ _ (by omega)]
theorem hash_setU (hH : Box w h t (hashC st blk u tot).toArray) (h1 : st.length = 25) (h2 : blk.length = 136) (v : Nat) : Box (w.setCell ⟨h, 161, none⟩ (.int .i64 (v : Int))) h t (hashC st blk v tot).toArray := by
  have := hH.set 161 (.int .i64 (v : Int))
  rw [List.setIfInBounds_toArray, hashC, List.set_append_right _ _ (by rw [u64s_length]; omega), List.set_append_right _ _ (by rw [u8s_length, u64s_length]; omega), u8s_length, u64s_length, h1, h2] at this
  exact this
theorem hash_setT (hH : Box w h t (hashC st blk u tot).toArray) (h1 : st.length = 25) (h2 : blk.length = 136) (v : Nat) : Box (w.setCell ⟨h, 162, none⟩ (.int .u64 (v : Int))) h t (hashC st blk u v).toArray := by
  have := hH.set 162 (.int .u64 (v : Int))
  rw [List.setIfInBounds_toArray, hashC, List.set_append_right _ _ (by rw [u64s_length]; omega), List.set_append_right _ _ (by rw [u8s_length, u64s_length]; omega), u8s_length, u64s_length, h1, h2] at this
  exact this
/-- n bytes are laid at the block's start -/
theorem hash_lay (h1 : st.length = 25) (h2 : blk.length = 136) (l : List Nat) (hl : l.length ≤ 136) :
    ((hashC st blk u tot).toArray.toList.take 25 ++ u8s l ++ (hashC st blk u tot).toArray.toList.drop (25 + (u8s l).length)).toArray = (hashC st (l ++ blk.drop l.length) u tot).toArray := by
  congr 1
  have e1 : (u64s st).length = 25 := by rw [u64s_length, h1]
  rw [u8s_length]
  simp only [hashC]
  rw [List.take_append_of_le_length (by omega), List.take_of_length_le (by omega), List.drop_append, List.drop_eq_nil_of_le (show (u64s st).length ≤ 25 + l.length by omega), e1, show 25 + l.length - 25 = l.length by omega,
    List.nil_append, List.drop_append_of_le_length (by rw [u8s_length]; omega), u8s_append]
  simp [u8s, List.map_drop]
end
def blkOf (l : List Nat) (j : Nat) : List Nat := (l.drop (136 * j)).take 136
def stB (st l : List Nat) : Nat → List Nat
  | 0 => st
  | j + 1 => absorbK (stB st l j) (blkOf l j)
theorem perm_ok {a : List Nat} (h : Words a) (hl : a.length = 25) : Words (perm a) ∧ (perm a).length = 25 := permTo_ok h hl 24 (Nat.le_refl _)
theorem absorbK_ok {a l : List Nat} (h : Words a) (hb : Bytes l) : Words (absorbK a l) ∧ (absorbK a l).length = 25 :=
  perm_ok (mixTo_words (fun i => xor_lt (h.getD i) (lew_lt hb i 8)) h 17) (mixTo_len _ _ _)
theorem Bytes.take {l : List Nat} (h : Bytes l) (k : Nat) : Bytes (l.take k) := fun x hx => h x (List.mem_of_mem_take hx)
theorem Bytes.drop {l : List Nat} (h : Bytes l) (k : Nat) : Bytes (l.drop k) := fun x hx => h x (List.mem_of_mem_drop hx)
theorem Bytes.append {a b : List Nat} (h : Bytes a) (k : Bytes b) : Bytes (a ++ b) := fun x hx => by rcases List.mem_append.1 hx with h1 | h1; exact h x h1; exact k x h1
theorem stB_ok {st l : List Nat} (h : Words st) (hl : st.length = 25) (hb : Bytes l) (j : Nat) : Words (stB st l j) ∧ (stB st l j).length = 25 := by
  induction j with
  | zero => exact ⟨h, hl⟩
  | succ j ih => exact absorbK_ok ih.1 ((hb.drop _).take _)
theorem WF.tr {q : Nat} {a b c : World} (h : WF (fun _ => False) q a b) (k : WF (fun _ => False) q b c) : WF (fun _ => False) q a c := h.trans (k.imp fun _ h _ => h.elim)
theorem WF.row (w : World) (h : Nat) (cs : Array Value) : WF (fun _ => False) h w (w.setRow h cs) :=
  ⟨rfl, rfl, rfl, by simp, fun k _ hq _ => setRow_other w h k cs hq, fun k cs' t fr hk _ h3 => (setRow_other w h k cs hk).trans h3⟩

set_option maxHeartbeats 4000000 in
theorem hwrite_any (h : Nat) (p : Value) (st l blk0 : List Nat) (tot : Nat) (w : World) (D : Nat → Prop) (hT : Tab w) (hH : Box w h 135 (hashC st blk0 0 tot).toArray) (h1 : st.length = 25) (hw : Words st) (h2 : blk0.length = 136) (hb0 : Bytes blk0)
    (hp : Sl w D 1 p l.length (u8s l)) (hby : Bytes l) (hD : ∀ b, D b → b < w.heap.size → b ≠ h) (hb1 : 1 ≠ h ∧ 2 ≠ h) (htot : tot + l.length < T64) :
    Calls Tryz.prog 76 #[.pointer (some ⟨h, 0, none⟩), p] w (fun e w' => e = .returned (.tuple #[]) ∧
      (∃ blk, blk.length = 136 ∧ Bytes blk ∧ (∀ i, i < l.length % 136 → blk.getD i 0 = l.getD (136 * (l.length / 136) + i) 0) ∧ Box w' h 135 (hashC (stB st l (l.length / 136)) blk (l.length % 136) (tot + l.length)).toArray) ∧ WF (fun _ => False) h w w') := by
  obtain ⟨A, c, rfl, hc, hc2⟩ := hp.shape
  have htc := hash_tot hH h1 h2
  have htf := hH.free 162
  have htw : IntKind.u64.wrap ((tot : Int) + (l.length : Int)) = ((tot + l.length : Nat) : Int) := by rw [IntWalk.u64_in _ (by unfold T64 at htot; omega)]; omega
  have hlw : IntKind.u64.wrap (l.length : Int) = (l.length : Int) := IntWalk.u64_in _ (by unfold T64 at htot; omega)
  go_enter Tryz.func76, Tryz.ntmps76
  go_wp2_with fail
  have hH1 := hash_setT hH h1 h2 (tot + l.length)
  have hp1 := (hp.imp (D' := fun b => D b ∧ b ≠ h) fun b ha hb => ⟨ha, hD b ha hb⟩).setCell (q := ⟨h, 162, none⟩) (fun e => e.2 rfl) (.int .u64 ((tot + l.length : Nat) : Int))
  have hF1 := WF.set (fun _ => False) h w 162 (.int .u64 ((tot + l.length : Nat) : Int))
  rw [Int.natCast_add] at hH1 hp1 hF1
  have hw0 : w.heap.size = (w.setCell ⟨h, 162, none⟩ (.int .u64 ((tot : Int) + (l.length : Int)))).heap.size := by simp
  clear htc htf htw hlw hH hp
  generalize w.setCell ⟨h, 162, none⟩ (.int .u64 ((tot : Int) + (l.length : Int))) = W1 at *
  obtain ⟨tot1, htot1⟩ : ∃ tot1, tot1 = tot + l.length := ⟨_, rfl⟩
  rw [← htot1] at hH1
  have HT1 := Lib.hid htot1
  clear htot1
  have hlen : l.length ≤ 9223372036854775807 := by omega
  go_loopw [1] (fun pv wr => ∃ (j m u : Nat) (blk : List Nat), 136 * j + u + m = l.length ∧ u < 136 ∧ (0 < m → u = 0) ∧ blk.length = 136 ∧ Bytes blk ∧ (∀ i, i < u → blk.getD i 0 = l.getD (136 * j + i) 0) ∧
      Sl wr (fun b => D b ∧ b ≠ h) 1 pv m (u8s (l.drop (l.length - m))) ∧ Box wr h 135 (hashC (stB st l j) blk u tot1).toArray ∧ WF (fun _ => False) h w wr) (fun pv _ => match pv with | .slice _ n _ => n | _ => 0)
  case atStart => exact ⟨0, l.length, 0, blk0, by omega, by omega, fun _ => rfl, h2, hb0, fun i hi => by omega, by rw [Nat.sub_self, List.drop_zero]; exact hp1, hH1, hF1⟩
  case round =>
    clear hp1 hH1 hF1
    obtain ⟨j, m, u, blk, hjm, hu, hum, hbl, hbb, hbi, hp, hH, hF⟩ := hrel
    obtain ⟨A', c', rfl, hc', hc2'⟩ := hp.shape
    rcases Nat.eq_zero_or_pos m with rfl | hm
    · go_wp2_with fail
      have hj : j = l.length / 136 := by omega
      have hu2 : u = l.length % 136 := by omega
      rw [← HT1.out]
      exact bodyPost_end (results_none rfl _ _ _) rfl ⟨rfl, ⟨blk, hbl, hbb, by rw [← hj, ← hu2]; exact hbi, by rw [← hj, ← hu2]; exact hH⟩, hF⟩
    · obtain rfl := hum hm
      have hst := stB_ok hw h1 hby j
      have huc := hash_used hH hst.2 hbl
      obtain ⟨hlx, A0, c0, he, _, _, hcells⟩ := id hp
      injection he with he1 he2 he3
      subst he1 he3
      obtain ⟨b, o, rfl, hDb, hbs, hcell⟩ := hcells hm
      obtain ⟨n, hn⟩ : ∃ n, n = min 136 m := ⟨_, rfl⟩
      obtain ⟨X, hXe⟩ : ∃ X, X = (l.drop (l.length - m)).take 136 := ⟨_, rfl⟩
      have hX : X.length = n := by rw [hXe, hn]; simp; omega
      have hXb : Bytes X := by rw [hXe]; exact (hby.drop _).take _
      have hcopy : (Builtin.copy_ #[37, 37] 3 #[.slice (some ⟨h, 25, none⟩) 136 136, .slice (some ⟨b, o, none⟩) m c']).run Tryz.prog wr.drew =
          .ok (goInt (n : Nat)) (wr.drew.setRow h (hashC (stB st l j) (X ++ blk.drop n) 0 tot1).toArray) := by
        have := run_copy_row (P := Tryz.prog) wr.drew 37 37 3 5 h 25 136 136 ⟨b, o, none⟩ m c' _ _ (u8s X) Tryz.underlying37 (by kernel_rfl) hH
          (by rw [u8s_length, hX, hn, Nat.min_comm]) (fun i v hv => ?_) (by rw [u8s_length, hX]; simp [hashC, u64s_length, u8s_length, hst.2, hbl]; omega) (u8s_one _)
        · rw [hash_lay hst.2 hbl _ (by omega), u8s_length, hX] at this
          exact this
        · have hadd : (⟨b, o, none⟩ : Addr).add i = ⟨b, o + i, none⟩ := by unfold Addr.add; split <;> simp_all
          rw [hadd]
          refine hcell i v ?_
          rw [← hv, hXe, u8s, u8s, List.map_take]
          have : i < n := by
            rcases Nat.lt_or_ge i n with h | h
            · exact h
            · rw [List.getElem?_eq_none (by rw [u8s_length, hX]; exact h)] at hv; cases hv
          rw [List.getElem?_take, if_pos (by omega)]
      have hblk1 : (X ++ blk.drop n).length = 136 := by simp; omega
      have hbb1 : Bytes (X ++ blk.drop n) := hXb.append (hbb.drop _)
      have hH2 : Box (wr.drew.setRow h (hashC (stB st l j) (X ++ blk.drop n) 0 tot1).toArray) h 135 (hashC (stB st l j) (X ++ blk.drop n) 0 tot1).toArray := setRow_heap _ _ _ _ _ _ hH
      have hF2 : WF (fun _ => False) h wr (wr.drew.setRow h (hashC (stB st l j) (X ++ blk.drop n) 0 tot1).toArray) := WF.trans (WF.of_below (Below.refl _ _).drew) ((WF.row _ _ _).imp fun _ h _ => h.elim)
      generalize wr.drew.setRow h (hashC (stB st l j) (X ++ blk.drop n) 0 tot1).toArray = W2 at *
      have huc2 := hash_used hH2 hst.2 hblk1
      have huf2 := hH2.free 161
      have hH3 := hash_setU hH2 hst.2 hblk1 n
      have hF3 := hF2.trans ((WF.set (fun _ => False) h W2 161 (.int .i64 (n : Int))).imp fun _ h _ => h.elim)
      have hnm : n ≤ m := by omega
      have hnc : n ≤ c' := by omega
      have hn136 : n ≤ 136 := by omega
      have hbi2 : ∀ i, i < n → (X ++ blk.drop n).getD i 0 = l.getD (136 * j + i) 0 := fun i hi => by
        rw [List.getD_eq_getElem?_getD, List.getElem?_append_left (by omega), hXe, List.getElem?_take, if_pos (by omega), List.getElem?_drop, ← List.getD_eq_getElem?_getD]
        congr 1; omega
      have HB2 := Lib.hid hbi2
      have hcase : (n = 136 ∧ 136 ≤ m) ∨ (n < 136 ∧ n = m) := by omega
      have hXB := Lib.hid (show 136 ≤ m → X = blkOf l j from fun h136 => by rw [hXe, blkOf]; congr 2; omega)
      have hslc : Sl wr (fun b => D b ∧ b ≠ h) 1 (.slice (some ⟨b, o + n, none⟩) (m - n) (c' - n)) (m - n) (u8s (l.drop (l.length - (m - n)))) := by
        refine ⟨by simp [u8s]; omega, _, _, rfl, by omega, by unfold maxLen; omega, fun h0 => ⟨b, o + n, rfl, hDb, hbs, fun i v hv => ?_⟩⟩
        rw [Nat.add_assoc]
        refine hcell (n + i) v ?_
        rw [← hv, u8s, u8s, List.map_drop, List.map_drop, List.getElem?_drop, List.getElem?_drop]
        congr 1; omega
      have hlen1 := hH3.lt
      clear hn hXe hbi2 hcells hcell hlx hbi hp hum he2
      rcases Nat.eq_zero_or_pos (c' - n) with hz | hz
      · have hmz : m - n = 0 := by omega
        have hslz : Sl wr (fun b => D b ∧ b ≠ h) 1 (.slice (some ⟨b, o, none⟩) (m - n) 0) (m - n) (u8s (l.drop (l.length - (m - n)))) := ⟨by simp [u8s]; omega, _, _, rfl, by omega, by simp [maxLen], fun h0 => absurd h0 (by omega)⟩
        rcases hcase with ⟨rfl, hm136⟩ | ⟨hn1, rfl⟩
        · go_wp2_with (go_region)
          go_still_tail 7, (by kernel_rfl)
          change wpList _ _ _ _ _ (W2.setCell ⟨h, 161, none⟩ (.int .i64 ((136 : Nat) : Int))).drew
          have hHd : Box (W2.setCell ⟨h, 161, none⟩ (.int .i64 ((136 : Nat) : Int))).drew h 135 (hashC (stB st l j) (X ++ blk.drop 136) 136 tot1).toArray := hH3
          have hFd : WF (fun _ => False) h w (W2.setCell ⟨h, 161, none⟩ (.int .i64 ((136 : Nat) : Int))).drew := (hF.trans (hF3.imp fun _ h _ => h.elim)).trans (WF.of_below (Below.refl _ _).drew)
          have hFe : WF (fun _ => False) h wr (W2.setCell ⟨h, 161, none⟩ (.int .i64 ((136 : Nat) : Int))).drew := hF3.trans (WF.of_below (Below.refl _ _).drew)
          generalize (W2.setCell ⟨h, 161, none⟩ (.int .i64 ((136 : Nat) : Int))).drew = W3 at *
          clear huc2 huf2 hH2 hF2 hH3 hF3
          go_wp2_with fail
          refine (absorb_any h 135 (stB st l j) _ h 25 136 X W3 (hT.wf hFd hb1) hHd hst.2 hst.1 hb1 hX hXb (Nat.le_refl _) (by omega) (.inr (Nat.le_refl _)) (fun i hi => by
            rw [hash_byte hHd hst.2 hblk1 i hi, List.getD_eq_getElem?_getD, List.getElem?_append_left (by omega), ← List.getD_eq_getElem?_getD])).mono ?_
          rintro e w4 ⟨rfl, hA4, hF4⟩
          have hst4 := absorbK_ok (l := X) hst.1 hXb
          have hH4 : Box w4 h 135 (hashC (absorbK (stB st l j) X) (X ++ blk.drop 136) 136 tot1).toArray := hA4
          have huc4 := hash_used hH4 hst4.2 hblk1
          have huf4 := hH4.free 161
          clear hA4 hHd
          go_wp2_with fail
          have hF5 : WF (fun _ => False) h wr (w4.setCell ⟨h, 161, none⟩ (.int .i64 ((0 : Nat) : Int))) := hFe.tr (hF4.tr (WF.set _ _ _ _ _))
          refine ⟨⟨j + 1, m - 136, 0, X ++ blk.drop 136, by omega, by omega, fun _ => rfl, hblk1, hbb1, fun i hi => by omega, by have hx := hslz.wf hF5 (fun b hb _ => ⟨hb.2, fun h => h⟩); rw [hmz] at hx ⊢; exact hx, ?_, hF.trans (hF5.imp fun _ h _ => h.elim)⟩, by show 0 < m; omega⟩
          have := hash_setU hH4 hst4.2 hblk1 0
          rw [stB, ← hXB.out hm136]
          exact this
        · go_wp2_with (go_region)
          refine ⟨⟨j, 0, n, X ++ blk.drop n, by omega, hn1, fun h => absurd h (by omega), hblk1, hbb1, HB2.out, ?_, hH3, hF.trans (hF3.imp fun _ h _ => h.elim)⟩, by first | (show 0 < n; omega) | (show n - n < n; omega)⟩
          refine Sl.wf ?_ hF3 (fun b hb _ => ⟨hb.2, fun h => h⟩)
          rw [Nat.sub_self] at hslz
          exact hslz
      · obtain ⟨z, hz⟩ : ∃ z, c' - n = z + 1 := ⟨c' - n - 1, by omega⟩
        have hslz := hslc
        rw [hz] at hslz
        rcases hcase with ⟨rfl, hm136⟩ | ⟨hn1, rfl⟩
        · go_wp2_with (go_region)
          go_still_tail 7, (by kernel_rfl)
          change wpList _ _ _ _ _ (W2.setCell ⟨h, 161, none⟩ (.int .i64 ((136 : Nat) : Int))).drew
          have hHd : Box (W2.setCell ⟨h, 161, none⟩ (.int .i64 ((136 : Nat) : Int))).drew h 135 (hashC (stB st l j) (X ++ blk.drop 136) 136 tot1).toArray := hH3
          have hFd : WF (fun _ => False) h w (W2.setCell ⟨h, 161, none⟩ (.int .i64 ((136 : Nat) : Int))).drew := (hF.trans (hF3.imp fun _ h _ => h.elim)).trans (WF.of_below (Below.refl _ _).drew)
          have hFe : WF (fun _ => False) h wr (W2.setCell ⟨h, 161, none⟩ (.int .i64 ((136 : Nat) : Int))).drew := hF3.trans (WF.of_below (Below.refl _ _).drew)
          generalize (W2.setCell ⟨h, 161, none⟩ (.int .i64 ((136 : Nat) : Int))).drew = W3 at *
          clear huc2 huf2 hH2 hF2 hH3 hF3
          go_wp2_with fail
          refine (absorb_any h 135 (stB st l j) _ h 25 136 X W3 (hT.wf hFd hb1) hHd hst.2 hst.1 hb1 hX hXb (Nat.le_refl _) (by omega) (.inr (Nat.le_refl _)) (fun i hi => by
            rw [hash_byte hHd hst.2 hblk1 i hi, List.getD_eq_getElem?_getD, List.getElem?_append_left (by omega), ← List.getD_eq_getElem?_getD])).mono ?_
          rintro e w4 ⟨rfl, hA4, hF4⟩
          have hst4 := absorbK_ok (l := X) hst.1 hXb
          have hH4 : Box w4 h 135 (hashC (absorbK (stB st l j) X) (X ++ blk.drop 136) 136 tot1).toArray := hA4
          have huc4 := hash_used hH4 hst4.2 hblk1
          have huf4 := hH4.free 161
          clear hA4 hHd
          go_wp2_with fail
          have hF5 : WF (fun _ => False) h wr (w4.setCell ⟨h, 161, none⟩ (.int .i64 ((0 : Nat) : Int))) := hFe.tr (hF4.tr (WF.set _ _ _ _ _))
          refine ⟨⟨j + 1, m - 136, 0, X ++ blk.drop 136, by omega, by omega, fun _ => rfl, hblk1, hbb1, fun i hi => by omega, hslz.wf hF5 (fun b hb _ => ⟨hb.2, fun h => h⟩), ?_, hF.trans (hF5.imp fun _ h _ => h.elim)⟩, by show m - 136 < m; omega⟩
          have := hash_setU hH4 hst4.2 hblk1 0
          rw [stB, ← hXB.out hm136]
          exact this
        · go_wp2_with (go_region)
          refine ⟨⟨j, 0, n, X ++ blk.drop n, by omega, hn1, fun h => absurd h (by omega), hblk1, hbb1, HB2.out, ?_, hH3, hF.trans (hF3.imp fun _ h _ => h.elim)⟩, by first | (show 0 < n; omega) | (show n - n < n; omega)⟩
          refine Sl.wf ?_ hF3 (fun b hb _ => ⟨hb.2, fun h => h⟩)
          rw [Nat.sub_self] at hslz
          exact hslz
end Go.Proofs.YtenpkgdnlogfiaaGreatDoor
namespace Go.Proofs.YtenpkgdnlogfiaaGreatDoor
open Go.RowKit
attribute [local go_sem ↓] Go.wp_at_zero Go.wp_at_succ
set_option maxRecDepth 20000

/-- the last block: the bytes that are left, with their padding -/
def lastK (r : List Nat) : List Nat :=
  let l := (r ++ List.replicate (136 - r.length) 0).set r.length 6
  l.set 135 (l.getD 135 0 ^^^ 128)
def outK (a : List Nat) (i : Nat) : Nat := a.getD (i / 8) 0 / 2 ^ (8 * (i % 8)) % 256
def sumK (st r : List Nat) : List Nat := (List.range 32).map (outK (absorbK st (lastK r)))

section
variable {w : World} {b : Nat} {t : TypeId} {l : List Nat}
theorem Box.byte (h : Box w b t (u8s l).toArray) {i : Nat} (hi : i < l.length) : w.cell? ⟨b, i, none⟩ = some (.int .u8 (l.getD i 0 : Nat)) := by
  rw [h.cell, List.getElem?_toArray, u8s_at _ _ hi]
theorem Box.setB (h : Box w b t (u8s l).toArray) (i : Nat) (x : Nat) : Box (w.setCell ⟨b, i, none⟩ (.int .u8 (x : Int))) b t (u8s (l.set i x)).toArray := by
  have := h.set i (.int .u8 (x : Int))
  rw [List.setIfInBounds_toArray, ← u8s_set] at this
  exact this
end
theorem lay0 (l : List Nat) (u : Nat) : ((u8s (List.replicate 136 0)).toArray.toList.take 0 ++ u8s l ++ (u8s (List.replicate 136 0)).toArray.toList.drop (0 + u)).toArray = (u8s (l ++ List.replicate (136 - u) 0)).toArray := by
  congr 1
  rw [List.take_zero, List.nil_append, u8s_append, Nat.zero_add]
  congr 1
  show (u8s (List.replicate 136 0)).drop u = _
  rw [u8s, ← List.map_drop, List.drop_replicate]
  rfl
set_option maxHeartbeats 4000000 in
theorem hsum_any (h : Nat) (st blk : List Nat) (u tot : Nat) (w : World) (hT : Tab w) (hH : Box w h 135 (hashC st blk u tot).toArray) (h1 : st.length = 25) (hw : Words st) (h2 : blk.length = 136) (hb : Bytes blk) (hu : u < 136) :
    Calls Tryz.prog 77 #[.pointer (some ⟨h, 0, none⟩)] w (Ret (fun x _ => x = .agg (u8s (sumK st (blk.take u))).toArray) w) := by
  have hH0 := hH.alloc (.cells (u8s (List.replicate 32 0)).toArray 32)
  have hr0 := Box.new w 32 (u8s (List.replicate 32 0)).toArray
  have hB0 : Below w.heap.size w (w.alloc (.cells (u8s (List.replicate 32 0)).toArray 32)) := (Below.refl _ _).alloc (Nat.le_refl _) _
  have hrange : (w.alloc (.cells (u8s (List.replicate 32 0)).toArray 32)).rangeAt h 0 (u64s st) := fun j v hv => by
    have hj : j < st.length := by
      rcases Nat.lt_or_ge j st.length with h | h
      · exact h
      · rw [List.getElem?_eq_none (by rw [u64s_length]; exact h)] at hv; cases hv
    rw [Nat.zero_add]
    rw [u64s_at _ _ hj] at hv
    rw [← hv]
    exact Box.word hH0 hj
  have hi127 : (Tryz.prog.info? 132).map (·.size) = some (u64s st).length := by rw [u64s_length, h1]; kernel_rfl
  have hi127' : (Tryz.prog.info? 132).map (·.size) = some (u64s st).toArray.size := by simpa using hi127
  have h25 : (u64s (List.replicate 25 0)).toArray.size = (u64s st).toArray.size := by simp [u64s_length, h1]
  have hone : (u64s st).toArray.all (·.oneCell') = true := all_oneCell_toArray (by intro v hv; simp [u64s] at hv; obtain ⟨x, _, rfl⟩ := hv; rfl)
  have hbx1 : Box ((w.alloc (.cells (u8s (List.replicate 32 0)).toArray 32)).alloc (.cells (u64s (List.replicate 25 0)).toArray 132)) (w.heap.size + 1) 132 (u64s (List.replicate 25 0)).toArray := by
    have := Box.new (w.alloc (.cells (u8s (List.replicate 32 0)).toArray 32)) 132 (u64s (List.replicate 25 0)).toArray
    rw [World.size_alloc] at this
    exact this
  have HBX := Lib.hid hbx1
  clear hbx1
  have HR := Lib.hid hrange
  have HI := Lib.hid hi127
  have HI' := Lib.hid hi127'
  have H25 := Lib.hid h25
  have HO := Lib.hid hone
  clear hrange hi127 hi127' h25 hone
  go_enter Tryz.func77, Tryz.ntmps77
  go_upto_region 4 with (first
    | ((with_reducible show wpList _ _ _ (⟨some 13, _, _, _, _, _⟩ :: _) _ _); refine wpList_load_mid rfl 132 _ rfl h 0 rfl (u64s st) _ HR.out Tryz.underlying132 rfl HI.out ?_)
    | ((with_reducible show wpList _ _ _ (⟨none, .store 132 _ _, _, _, _, _⟩ :: _) _ _); refine wpList_store_row rfl 132 _ _ rfl (w.heap.size + 1) (u64s st).toArray rfl rfl 132 (u64s (List.replicate 25 0)).toArray HBX.out HI'.out H25.out HO.out ?_))
  change Code.wp _ _ _ _ (((w.alloc (.cells (u8s (List.replicate 32 0)).toArray 32)).alloc (.cells (u64s (List.replicate 25 0)).toArray 132)).setRow (w.heap.size + 1) (u64s st).toArray)
  have hS2 : Box (((w.alloc (.cells (u8s (List.replicate 32 0)).toArray 32)).alloc (.cells (u64s (List.replicate 25 0)).toArray 132)).setRow (w.heap.size + 1) (u64s st).toArray) (w.heap.size + 1) 132 (u64s st).toArray := setRow_heap _ _ _ _ _ _ HBX.out
  have hH2 : Box (((w.alloc (.cells (u8s (List.replicate 32 0)).toArray 32)).alloc (.cells (u64s (List.replicate 25 0)).toArray 132)).setRow (w.heap.size + 1) (u64s st).toArray) h 135 (hashC st blk u tot).toArray := (setRow_other _ _ _ _ (by have := hH.lt; omega)).trans (hH0.alloc _)
  have hr2 : Box (((w.alloc (.cells (u8s (List.replicate 32 0)).toArray 32)).alloc (.cells (u64s (List.replicate 25 0)).toArray 132)).setRow (w.heap.size + 1) (u64s st).toArray) w.heap.size 32 (u8s (List.replicate 32 0)).toArray := (setRow_other _ _ _ _ (by omega)).trans (hr0.alloc _)
  have hB2 : Below w.heap.size w (((w.alloc (.cells (u8s (List.replicate 32 0)).toArray 32)).alloc (.cells (u64s (List.replicate 25 0)).toArray 132)).setRow (w.heap.size + 1) (u64s st).toArray) := below_setRow (hB0.alloc (by simp) _) (by omega) _
  have hsz2 : (((w.alloc (.cells (u8s (List.replicate 32 0)).toArray 32)).alloc (.cells (u64s (List.replicate 25 0)).toArray 132)).setRow (w.heap.size + 1) (u64s st).toArray).heap.size = w.heap.size + 2 := by simp
  generalize (((w.alloc (.cells (u8s (List.replicate 32 0)).toArray 32)).alloc (.cells (u64s (List.replicate 25 0)).toArray 132)).setRow (w.heap.size + 1) (u64s st).toArray) = W2 at *
  have hhl := hH.lt
  clear hH0 hr0 hB0 HBX HR HI HI' H25 HO
  go_wp2_with fail
  change Code.wp _ _ _ _ (W2.alloc (.cells (u8s (List.replicate 136 0)).toArray 133))
  have hL3 : Box (W2.alloc (.cells (u8s (List.replicate 136 0)).toArray 133)) (w.heap.size + 2) 133 (u8s (List.replicate 136 0)).toArray := by
    have := Box.new W2 133 (u8s (List.replicate 136 0)).toArray
    rw [hsz2] at this
    exact this
  have hS3 : Box (W2.alloc (.cells (u8s (List.replicate 136 0)).toArray 133)) _ _ _ := hS2.alloc _
  have hH3 : Box (W2.alloc (.cells (u8s (List.replicate 136 0)).toArray 133)) _ _ _ := hH2.alloc _
  have hr3 : Box (W2.alloc (.cells (u8s (List.replicate 136 0)).toArray 133)) _ _ _ := hr2.alloc _
  have hB3 : Below w.heap.size w (W2.alloc (.cells (u8s (List.replicate 136 0)).toArray 133)) := hB2.alloc (by rw [hsz2]; omega) _
  have hsz3 : (W2.alloc (.cells (u8s (List.replicate 136 0)).toArray 133)).heap.size = w.heap.size + 3 := by simp [hsz2]
  generalize (W2.alloc (.cells (u8s (List.replicate 136 0)).toArray 133)) = W3 at *
  clear hS2 hH2 hr2 hB2 hsz2
  have huc := hash_used hH3 h1 h2
  have hcopy : (Builtin.copy_ #[37, 37] 3 #[.slice (some ⟨(w.heap.size + 2), 0, none⟩) 136 136, .slice (some ⟨h, 25, none⟩) u 136]).run Tryz.prog W3.drew =
      .ok (goInt (u : Nat)) (W3.drew.setRow (w.heap.size + 2) (u8s (blk.take u ++ List.replicate (136 - u) 0)).toArray) := by
    have hlt : (blk.take u).length = u := by simp; omega
    have := run_copy_row (P := Tryz.prog) W3.drew 37 37 3 5 (w.heap.size + 2) 0 136 136 ⟨h, 25, none⟩ u 136 _ _ (u8s (blk.take u)) Tryz.underlying37 (by kernel_rfl) hL3
      (by rw [u8s_length, hlt]; exact (Nat.min_eq_left (by omega)).symm) (fun i v hv => ?_) (by rw [u8s_length, hlt]; simp [u8s_length]; omega) (u8s_one _)
    · rw [u8s_length, hlt, lay0] at this
      exact this
    · have hadd : (⟨h, 25, none⟩ : Addr).add i = ⟨h, 25 + i, none⟩ := by unfold Addr.add; split <;> simp_all
      rw [hadd]
      have : i < u := by
        rcases Nat.lt_or_ge i u with h | h
        · exact h
        · rw [List.getElem?_eq_none (by rw [u8s_length, hlt]; exact h)] at hv; cases hv
      refine (hash_byte hH3 h1 h2 i (by omega)).trans ?_
      rw [← hv, u8s, List.map_take, List.getElem?_take, if_pos this]
      exact (u8s_at blk i (by omega)).symm
  have hL4 : Box (W3.drew.setRow (w.heap.size + 2) (u8s (blk.take u ++ List.replicate (136 - u) 0)).toArray) (w.heap.size + 2) 133 (u8s (blk.take u ++ List.replicate (136 - u) 0)).toArray := setRow_heap _ _ _ _ _ _ hL3
  have hS4 : Box (W3.drew.setRow (w.heap.size + 2) (u8s (blk.take u ++ List.replicate (136 - u) 0)).toArray) (w.heap.size + 1) 132 (u64s st).toArray := (setRow_other _ _ _ _ (by omega)).trans hS3
  have hH4 : Box (W3.drew.setRow (w.heap.size + 2) (u8s (blk.take u ++ List.replicate (136 - u) 0)).toArray) h 135 (hashC st blk u tot).toArray := (setRow_other _ _ _ _ (by omega)).trans hH3
  have hr4 : Box (W3.drew.setRow (w.heap.size + 2) (u8s (blk.take u ++ List.replicate (136 - u) 0)).toArray) w.heap.size 32 (u8s (List.replicate 32 0)).toArray := (setRow_other _ _ _ _ (by omega)).trans hr3
  have hB4 : Below w.heap.size w (W3.drew.setRow (w.heap.size + 2) (u8s (blk.take u ++ List.replicate (136 - u) 0)).toArray) := below_setRow hB3.drew (by omega) _
  have hsz4 : (W3.drew.setRow (w.heap.size + 2) (u8s (blk.take u ++ List.replicate (136 - u) 0)).toArray).heap.size = w.heap.size + 3 := by simp [hsz3]
  obtain ⟨W4, hW4⟩ : ∃ W4, W4 = (W3.drew.setRow (w.heap.size + 2) (u8s (blk.take u ++ List.replicate (136 - u) 0)).toArray) := ⟨_, rfl⟩
  rw [← hW4] at hcopy hL4 hS4 hH4 hr4 hB4 hsz4
  clear hW4 hL3 hS3 hH3 hr3 hB3
  have huc4 := hash_used hH4 h1 h2
  have hlen4 : (blk.take u ++ List.replicate (136 - u) 0).length = 136 := by simp; omega
  have hl0 := hL4.byte (i := u) (by omega)
  have hf0 := hL4.free u
  have hsl : ∀ wx, (Instr.sliceAt 133 (.pointer (some ⟨h, 25, none⟩)) none (some (.int .i64 (u : Int))) none).run Tryz.prog wx = .ok (.slice (some ⟨h, 25, none⟩) u 136) wx := fun wx => by
    have hal : Tryz.prog.arrayLen 133 = 136 := by kernel_rfl
    have := run_sliceAt_array_h (P := Tryz.prog) (w := wx) (t := 133) (h := u) ⟨h, 25, none⟩ Tryz.underlying133 .i64 (by omega) (by rw [hal]; omega)
    rw [hal] at this
    exact this
  obtain ⟨l1, hl1e⟩ : ∃ l1, l1 = (blk.take u ++ List.replicate (136 - u) 0).set u 6 := ⟨_, rfl⟩
  have hL5 : Box (W4.setCell ⟨w.heap.size + 2, u, none⟩ (.int .u8 6)) (w.heap.size + 2) 133 (u8s l1).toArray := by rw [hl1e]; exact hL4.setB u 6
  have hlen1 : l1.length = 136 := by rw [hl1e, List.length_set]; exact hlen4
  have hby1 : Bytes l1 := by
    rw [hl1e]
    intro x hx
    rcases List.mem_or_eq_of_mem_set hx with h | h
    · rcases List.mem_append.1 h with h | h
      · exact hb x (List.mem_of_mem_take h)
      · rw [List.eq_of_mem_replicate h]; omega
    · omega
  have hl5 := hL5.byte (i := 135) (by omega)
  have hf5 := hL5.free 135
  have hxl := hby1.getD 135
  have hx8 : bits .xor .u8 (l1.getD 135 0 : Nat) 128 = ((l1.getD 135 0 ^^^ 128 : Nat) : Int) := u8_xor_nat _ 128 (by omega) (by omega)
  have HL6 := Lib.hid ((hL5.setB 135 (l1.getD 135 0 ^^^ 128)))
  have HE := Lib.hid (show lastK (blk.take u) = l1.set 135 (l1.getD 135 0 ^^^ 128) by
    have hlt : (blk.take u).length = u := by simp; omega
    rw [lastK, hlt, hl1e])
  have hxb : l1.getD 135 0 ^^^ 128 < 256 := Nat.xor_lt_two_pow (n := 8) hxl (by omega)
  generalize l1.getD 135 0 = y at *
  have hS5 := (hS4.far (q := ⟨w.heap.size + 2, u, none⟩) (by show w.heap.size + 1 ≠ w.heap.size + 2; omega) (.int .u8 6)).far (q := ⟨w.heap.size + 2, 135, none⟩) (by show w.heap.size + 1 ≠ w.heap.size + 2; omega) (.int .u8 ((y ^^^ 128 : Nat) : Int))
  have hr5 := (hr4.far (q := ⟨w.heap.size + 2, u, none⟩) (by show w.heap.size ≠ w.heap.size + 2; omega) (.int .u8 6)).far (q := ⟨w.heap.size + 2, 135, none⟩) (by show w.heap.size ≠ w.heap.size + 2; omega) (.int .u8 ((y ^^^ 128 : Nat) : Int))
  have hB5 := (hB4.setCell (p := ⟨w.heap.size + 2, u, none⟩) (by show w.heap.size ≤ w.heap.size + 2; omega) (.int .u8 6)).setCell (p := ⟨w.heap.size + 2, 135, none⟩) (by show w.heap.size ≤ w.heap.size + 2; omega) (.int .u8 ((y ^^^ 128 : Nat) : Int))
  have HX8 := Lib.hid hx8
  have HS5 := Lib.hid hS5
  have HR5 := Lib.hid hr5
  have HB5 := Lib.hid hB5
  clear hx8 hS5 hr5 hB5
  go_wp2_with (go_region)
  rw [HX8.out]
  have hL6 := HL6.out
  have hS6 := HS5.out
  have hr6 := HR5.out
  have hB6 := HB5.out
  have hsz6 : ((W4.setCell ⟨w.heap.size + 2, u, none⟩ (.int .u8 6)).setCell ⟨w.heap.size + 2, 135, none⟩ (.int .u8 ((y ^^^ 128 : Nat) : Int))).heap.size = w.heap.size + 3 := by simp [hsz4]
  generalize (W4.setCell ⟨w.heap.size + 2, u, none⟩ (.int .u8 6)).setCell ⟨w.heap.size + 2, 135, none⟩ (.int .u8 ((y ^^^ 128 : Nat) : Int)) = W6 at *
  rw [← HE.out] at hL6
  have hblk : Bytes (lastK (blk.take u)) := by rw [HE.out]; intro x hx; rcases List.mem_or_eq_of_mem_set hx with h | h; exact hby1 x h; omega
  have hlk : (lastK (blk.take u)).length = 136 := by rw [HE.out, List.length_set]; exact hlen1
  clear HL6 HS5 HR5 HB5 hl5 hf5 hL5 hL4 hS4 hH4 hr4 hB4 hcopy hsl huc4 hl0 hf0
  have HSUM := Lib.hid (show sumK st (blk.take u) = (List.range 32).map (outK (absorbK st (lastK (blk.take u)))) from rfl)
  generalize lastK (blk.take u) = lk at *
  obtain ⟨⟨_, ht1⟩, _, ht2⟩ := id hT
  have htl1 := ht1.lt
  have htl2 := ht2.lt
  have hT6 := hT.ext hB6
  refine (absorb_any (w.heap.size + 1) 132 st [] (w.heap.size + 2) 0 136 lk W6 hT6 (by rw [List.append_nil]; exact hS6) h1 hw ⟨by omega, by omega⟩ hlk hblk (Nat.le_refl _) (by omega) (.inl (by omega)) (fun j hj => by
    rw [Nat.zero_add]; exact hL6.byte (by omega))).mono ?_
  rintro e W7 ⟨rfl, hS7, hF7⟩
  have hr7 := hF7.box hr6 (by omega) (by decide)
  have hB7 := hB6.trans (hF7.below (by omega) (fun _ h => h.elim) (by omega))
  have hsz7 := hF7.size
  have hak := absorbK_ok (l := lk) hw hblk
  clear hS6 hr6 hB6 hF7 hL6 hT6 ht1 ht2
  rw [List.append_nil] at hS7
  have hO8 := Box.new W7 32 (u8s (List.replicate 32 0)).toArray
  have hS8 := hS7.alloc (.cells (u8s (List.replicate 32 0)).toArray 32)
  have hr8 := hr7.alloc (.cells (u8s (List.replicate 32 0)).toArray 32)
  have hB8 := hB7.alloc (by omega) (.cells (u8s (List.replicate 32 0)).toArray 32)
  generalize absorbK st lk = ak at *
  go_wp2_with fail
  go_loopw [35] (fun i wr => ∃ k : Nat, k ≤ 32 ∧ i = .int .i64 k ∧ Box wr W7.heap.size 32 (u8s (fillTo (outK ak) k 32)).toArray ∧ Box wr (w.heap.size + 1) 132 (u64s ak).toArray ∧ Box wr w.heap.size 32 (u8s (List.replicate 32 0)).toArray ∧ Below w.heap.size w wr) (fun i _ => 32 - (intOf i).toNat)
  case atStart => exact ⟨0, by omega, rfl, by rw [fillTo_zero]; exact hO8, hS8, hr8, hB8⟩
  case round =>
    clear hO8 hS8 hr8 hB8 hS7 hr7 hB7
    obtain ⟨k, hk, rfl, hO, hS, hr, hB⟩ := hrel
    by_cases hlt : k < 32
    · have hS' : Box wr (w.heap.size + 1) 132 (u64s ak ++ []).toArray := by rw [List.append_nil]; exact hS
      have h0 := hS'.word (i := k / 8) (by omega)
      have h1' := hO.byte (i := k) (by rw [fillTo_len]; omega)
      have h2' := hO.free k
      have l0 := hak.1.getD (k / 8)
      have HO := Lib.hid (show outK ak k = ak.getD (k / 8) 0 / 2 ^ (8 * (k % 8)) % 256 from rfl)
      generalize ak.getD (k / 8) 0 = x at *
      have s1 : (8 * ((k : Int) % 8)).toNat = 8 * (k % 8) := by omega
      clear hS'
      go_wp2_with fail
      have he : (x : Int) / 2 ^ (8 * (k % 8)) % 256 = ((outK ak k : Nat) : Int) := by rw [HO.out, Int.natCast_emod, Int.natCast_ediv, Int.natCast_pow]; rfl
      rw [he]
      refine ⟨⟨k + 1, hlt, by go_num, ?_, hS.far (by show w.heap.size + 1 ≠ W7.heap.size; omega) _, hr.far (by show w.heap.size ≠ W7.heap.size; omega) _, hB.setCell (by show w.heap.size ≤ W7.heap.size; omega) _⟩, by simp [intOf]; omega⟩
      have := hO.setB k (outK ak k)
      rw [fillTo_set] at this
      exact this
    · have hk32 : k = 32 := by omega
      rw [hk32, fillTo_full] at hO
      rw [← HSUM.out] at hO
      have hLL : (sumK st (blk.take u)).length = 32 := by simp [sumK]
      obtain ⟨L, hLe⟩ : ∃ L, L = sumK st (blk.take u) := ⟨_, rfl⟩
      rw [← hLe] at hO hLL
      have HLE := Lib.hid hLe
      clear hLe
      have hi32 : (Tryz.prog.info? 32).map (·.size) = some (u8s L).toArray.size := by rw [List.size_toArray, u8s_length, hLL]; kernel_rfl
      have hone : (u8s L).toArray.all (·.oneCell') = true := all_oneCell_toArray (u8s_one _)
      have hold : (u8s (List.replicate 32 0)).toArray.size = (u8s L).toArray.size := by simp [u8s_length, hLL]
      have HI := Lib.hid hi32
      have HON := Lib.hid hone
      have HOL := Lib.hid hold
      have HOO := Lib.hid hO
      have HRR := Lib.hid hr
      clear hi32 hone hold hO hr hS
      go_wp2_with (first
        | ((with_reducible show wpList _ _ _ (⟨some 50, _, _, _, _, _⟩ :: _) _ _); refine wpList_load_row rfl 32 _ rfl W7.heap.size rfl 32 (u8s L).toArray (0, 0) _ HOO.out Tryz.underlying32 rfl HI.out ?_)
        | ((with_reducible show wpList _ _ _ (⟨none, .store 32 _ _, _, _, _, _⟩ :: _) _ _); refine wpList_store_row rfl 32 _ _ rfl w.heap.size (u8s L).toArray rfl rfl 32 (u8s (List.replicate 32 0)).toArray HRR.out HI.out HOL.out HON.out ?_))
      refine bodyPost_ret (v := .agg (u8s L).toArray) (by exact results_cell_row rfl _ _ w.heap.size 32 _ (0, 0) _ rfl (setRow_heap _ _ _ _ _ _ HRR.out) Tryz.underlying32 rfl HI.out) rfl ?_
      exact Ret.mk (by rw [HLE.out]) (below_setRow hB (Nat.le_refl _) _)
end Go.Proofs.YtenpkgdnlogfiaaGreatDoor
namespace Go.Proofs.YtenpkgdnlogfiaaGreatDoor
open Go.RowKit
attribute [local go_sem ↓] Go.wp_at_zero Go.wp_at_succ
set_option maxRecDepth 20000

/-- the digest -/
def sha3 (l : List Nat) : List Nat := sumK (stB (List.replicate 25 0) l (l.length / 136)) (l.drop (136 * (l.length / 136)))
theorem take_rest {blk l : List Nat} (h : blk.length = 136) (hb : ∀ i, i < l.length % 136 → blk.getD i 0 = l.getD (136 * (l.length / 136) + i) 0) : blk.take (l.length % 136) = l.drop (136 * (l.length / 136)) := by
  have h1 : l.length % 136 < 136 := Nat.mod_lt _ (by decide)
  have h2 := Nat.div_add_mod l.length 136
  apply List.ext_getElem
  · simp; omega
  · intro i h3 h4
    have h5 : i < l.length % 136 := by simp at h3; omega
    have h6 := hb i h5
    rw [List.getD_eq_getElem?_getD, List.getD_eq_getElem?_getD, List.getElem?_eq_getElem (by omega), List.getElem?_eq_getElem (by omega)] at h6
    simpa using h6
set_option maxHeartbeats 1000000 in
theorem ksum_any (p : Value) (l : List Nat) (w : World) (D : Nat → Prop) (hT : Tab w) (hp : Sl w D 1 p l.length (u8s l)) (hby : Bytes l) (hll : l.length ≤ 1000000000000000) :
    Calls Tryz.prog 45 #[p] w (Ret (fun x _ => x = .agg (u8s (sha3 l)).toArray) w) := by
  obtain ⟨⟨_, ht1⟩, _, ht2⟩ := id hT
  have htl1 := ht1.lt
  have htl2 := ht2.lt
  have hr0 := Box.new w 32 (u8s (List.replicate 32 0)).toArray
  have hB0 : Below w.heap.size w (w.alloc (.cells (u8s (List.replicate 32 0)).toArray 32)) := (Below.refl _ _).alloc (Nat.le_refl _) _
  have hp0 := (hp.imp (D' := fun b => D b ∧ b < w.heap.size) fun b h1 h2 => ⟨h1, h2⟩).ext hB0
  have hi32 : (Tryz.prog.info? 32).map (·.size) = some (u8s (sha3 l)).toArray.size := by rw [List.size_toArray, u8s_length]; simp only [sha3, sumK, List.length_map, List.length_range]; kernel_rfl
  have hone : (u8s (sha3 l)).toArray.all (·.oneCell') = true := all_oneCell_toArray (u8s_one _)
  have hold : (u8s (List.replicate 32 0)).toArray.size = (u8s (sha3 l)).toArray.size := by simp [u8s_length, sha3, sumK]
  have HI := Lib.hid hi32
  have HON := Lib.hid hone
  have HOL := Lib.hid hold
  have hsz0 : (w.alloc (.cells (u8s (List.replicate 32 0)).toArray 32)).heap.size = w.heap.size + 1 := by simp
  clear hi32 hone hold ht1 ht2 hp
  go_enter Tryz.func45, Tryz.ntmps45
  go_wp2_with fail
  change Calls _ _ _ (w.alloc (.cells (u8s (List.replicate 32 0)).toArray 32)) _
  generalize w.alloc (.cells (u8s (List.replicate 32 0)).toArray 32) = W1 at *
  refine (new_any W1).mono ?_
  rintro e W2 ⟨rfl, rfl⟩
  have hH2 := Box.new W1 135 (hashC (List.replicate 25 0) (List.replicate 136 0) 0 0).toArray
  rw [hsz0] at hH2
  have hr2 := hr0.alloc (.cells (hashC (List.replicate 25 0) (List.replicate 136 0) 0 0).toArray 135)
  have hp2 := hp0.alloc (.cells (hashC (List.replicate 25 0) (List.replicate 136 0) 0 0).toArray 135)
  have hB2 := hB0.alloc (by omega) (.cells (hashC (List.replicate 25 0) (List.replicate 136 0) 0 0).toArray 135)
  have hT2 := hT.ext hB2
  generalize W1.alloc (.cells (hashC (List.replicate 25 0) (List.replicate 136 0) 0 0).toArray 135) = W2 at *
  clear hr0 hB0 hp0
  have hby0 : Bytes (List.replicate 136 0) := by intro x hx; rw [List.eq_of_mem_replicate hx]; omega
  have hlb0 : (List.replicate 136 0 : List Nat).length = 136 := List.length_replicate
  have hls0 : (List.replicate 25 0 : List Nat).length = 25 := List.length_replicate
  have hws0 := Words.zeros 25
  have HSH := Lib.hid (show sha3 l = sumK (stB (List.replicate 25 0) l (l.length / 136)) (l.drop (136 * (l.length / 136))) from rfl)
  generalize (List.replicate 136 0 : List Nat) = blk0 at *
  generalize (List.replicate 25 0 : List Nat) = st0 at *
  have HR2 := Lib.hid hr2
  have HH2 := Lib.hid hH2
  clear hr2 hH2
  go_wp2_with fail
  refine (hwrite_any (w.heap.size + 1) _ st0 l blk0 0 W2 _ hT2 HH2.out hls0 hws0 hlb0 hby0 hp2 hby (fun b hb _ => by have := hb.2; omega) ⟨by omega, by omega⟩ (by unfold T64; omega)).mono ?_
  rintro e W3 ⟨rfl, ⟨blk, hbl, hbb, hbi, hH3⟩, hF3⟩
  have hr3 := hF3.box HR2.out (by omega) (by decide)
  have hB3 := hB2.trans (hF3.below (by omega) (fun _ h => h.elim) (by have := HR2.out.lt; omega))
  have hT3 := hT.ext hB3
  have hst := stB_ok hws0 hls0 hby (l.length / 136)
  have hmod : l.length % 136 < 136 := Nat.mod_lt _ (by decide)
  have HTK := Lib.hid (take_rest hbl hbi)
  clear hB2 hT2 hF3 hbi hp2 HR2 HH2
  go_wp2_with fail
  refine (hsum_any (w.heap.size + 1) _ blk _ _ W3 hT3 hH3 hst.2 hst.1 hbl hbb hmod).mono ?_
  rintro e W4 ⟨v, rfl, rfl, hB4⟩
  rw [HTK.out, ← HSH.out]
  have hr4 := hr3.ext hB4
  have hB5 := hB3.trans (hB4.mono hB3.size)
  have HR4 := Lib.hid hr4
  clear hr3 hr4 hB4
  go_wp2_with ((with_reducible show wpList _ _ _ (⟨none, .store 32 _ _, _, _, _, _⟩ :: _) _ _); refine wpList_store_row rfl 32 _ _ rfl w.heap.size (u8s (sha3 l)).toArray rfl rfl 32 (u8s (List.replicate 32 0)).toArray HR4.out HI.out HOL.out HON.out ?_)
  refine bodyPost_ret (v := .agg (u8s (sha3 l)).toArray) (by exact results_cell_row rfl _ _ w.heap.size 32 _ (0, 0) _ rfl (setRow_heap _ _ _ _ _ _ HR4.out) Tryz.underlying32 rfl HI.out) rfl ?_
  exact Ret.mk rfl (below_setRow hB5 (Nat.le_refl _) _)
end Go.Proofs.YtenpkgdnlogfiaaGreatDoor
namespace Go.Proofs.YtenpkgdnlogfiaaGreatDoor
open Go.RowKit
attribute [local go_sem ↓] Go.wp_at_zero Go.wp_at_succ
set_option maxRecDepth 20000

/-- the bytes of a string -/
def sb (s : ByteArray) : List Nat := s.data.toList.map (·.toNat)
theorem sb_len (s : ByteArray) : (sb s).length = s.size := by simp [sb]
theorem sb_bytes (s : ByteArray) : Bytes (sb s) := by
  intro x hx
  simp only [sb, List.mem_map] at hx
  obtain ⟨y, _, rfl⟩ := hx
  exact y.toNat_lt
theorem wstring_any (q : Nat) (s : ByteArray) (bs : List Nat) (w : World) (R : Nat → Prop) (hW : IsW w R q bs) (hlen : bs.length + s.size ≤ 10000000000) :
    Calls Tryz.prog 43 #[.pointer (some ⟨q, 0, none⟩), .string s] w (WRet R q (bs ++ (putN (sb s).length ++ sb s)) w) := by
  have hcv := run_bytes_of_string (P := Tryz.prog) w 9 37 5 s Tryz.underlying9 Tryz.underlying37 Tryz.underlying5
  have hg1 := grownCap_ge w s.size 0 5
  have hg2 := grownCap_le_maxLen w s.size 0 5 (by unfold maxLen; omega)
  generalize grownCap w s.size 0 5 = cap at *
  have hcell : ∀ j, j < s.size → (bytesRow s cap)[j]? = some (.int .u8 ((sb s).getD j 0 : Nat)) := fun j hj => by
    rw [bytesRow_at s cap j hj, sb, List.getD_eq_getElem?_getD, List.getElem?_map, List.getElem?_eq_getElem (by simpa using hj)]
    rfl
  generalize bytesRow s cap = C at *
  have hb : Below w.heap.size w (w.drew.alloc (.cells C 5 (C.size, C.size + 1))) := (Below.refl _ _).drew.alloc (Nat.le_refl _) _
  have hS : Sl (w.drew.alloc (.cells C 5 (C.size, C.size + 1))) (· = w.heap.size) 1 (.slice (some ⟨w.heap.size, 0, none⟩) s.size cap) s.size (u8s (sb s)) := by
    refine ⟨by simp [u8s, sb_len], _, _, rfl, hg1, hg2, fun _ => ⟨w.heap.size, 0, rfl, rfl, by simp, fun j x hj => ?_⟩⟩
    have hj' : j < s.size := by
      rcases Nat.lt_or_ge j s.size with h | h
      · exact h
      · rw [List.getElem?_eq_none (by rw [u8s_length, sb_len]; exact h)] at hj; cases hj
    rw [Nat.zero_add]
    refine (cell_of_row _ w.heap.size j C 5 _ (heap_alloc_new w.drew _)).trans ((hcell j hj').trans ?_)
    rw [← hj]
    exact (u8s_at _ _ (by rw [sb_len]; exact hj')).symm
  have hlt := hW.lt
  have hW1 := (hW.imp (R' := fun k => R k ∧ k < w.heap.size) fun k h1 h2 => ⟨h1, h2⟩).ext hb
  generalize w.drew.alloc (.cells C 5 (C.size, C.size + 1)) = W1 at *
  have hl := sb_len s
  have hs1 : Sl W1 (· = w.heap.size) 1 (.slice (some ⟨w.heap.size, 0, none⟩) s.size cap) (sb s).length (u8s (sb s)) := by rw [hl]; exact hS
  have HL := Lib.hid hl
  clear hcell hS hW
  go_enter Tryz.func43, Tryz.ntmps43
  go_wp2_with fail
  refine (wbytes_any q _ bs (sb s) W1 _ _ hW1 hs1 (fun b hb _ => ⟨by have : b = w.heap.size := hb; omega, fun h => by have : b = w.heap.size := hb; omega⟩) (by have := HL.out; omega)).mono ?_
  rintro e w2 ⟨rfl, hW2, hF⟩
  go_wp2_with fail
  refine bodyPost_end (results_none rfl _ _ _) rfl ⟨rfl, hW2.imp fun k hk _ => ?_, (WF.of_below hb).trans (hF.imp fun k hk _ => .inl hk.1)⟩
  rcases hk with hk | hk
  · exact .inl hk.1
  · exact .inr (by have := hb.size; omega)

/-- what is hashed of a tag and one part -/
def tagB (s : ByteArray) (l : List Nat) : List Nat := (putN (sb s).length ++ sb s) ++ (putN l.length ++ l)
theorem tagB_bytes (s : ByteArray) {l : List Nat} (h : Bytes l) : Bytes (tagB s l) := ((putN_byte _).append (sb_bytes s)).append ((putN_byte _).append h)
theorem tagged_any (s : ByteArray) (pv p : Value) (l : List Nat) (w : World) (D : Nat → Prop) (hT : Tab w) (hpv : Sl w D 1 pv 1 [p]) (hp : Sl w D 1 p l.length (u8s l)) (hby : Bytes l) (hs : s.size ≤ 1000000) (hll : l.length ≤ 1000000000) :
    Calls Tryz.prog 16 #[.string s, pv] w (Ret (fun x _ => x = .agg (u8s (sha3 (tagB s l))).toArray) w) := by
  obtain ⟨⟨_, ht1⟩, _, ht2⟩ := id hT
  have htl1 := ht1.lt
  have htl2 := ht2.lt
  obtain ⟨Av, cv, rfl, hcv1, hcv2⟩ := hpv.shape
  obtain ⟨A, c, rfl, _, _⟩ := hp.shape
  have hr0 := Box.new w 32 (u8s (List.replicate 32 0)).toArray
  have hB0 : Below w.heap.size w (w.alloc (.cells (u8s (List.replicate 32 0)).toArray 32)) := (Below.refl _ _).alloc (Nat.le_refl _) _
  have hp0 := (hp.imp (D' := fun b => D b ∧ b < w.heap.size) fun b h1 h2 => ⟨h1, h2⟩).ext hB0
  have hv0 := (hpv.imp (D' := fun b => D b ∧ b < w.heap.size) fun b h1 h2 => ⟨h1, h2⟩).ext hB0
  have hone : ∀ l, (u8s l).toArray.all (·.oneCell') = true := fun l => all_oneCell_toArray (u8s_one _)
  have hsl : ∀ l, (sha3 l).length = 32 := fun l => by simp [sha3, sumK]
  have hi32 : (Tryz.prog.info? 32).map (·.size) = some (u8s (sha3 (tagB s l))).toArray.size := by rw [List.size_toArray, u8s_length, hsl]; kernel_rfl
  have hold : (u8s (List.replicate 32 0)).toArray.size = (u8s (sha3 (tagB s l))).toArray.size := by rw [List.size_toArray, List.size_toArray, u8s_length, u8s_length, hsl, List.length_replicate]
  have HI := Lib.hid hi32
  have HON := Lib.hid (hone (sha3 (tagB s l)))
  have HOL := Lib.hid hold
  have hsz0 : (w.alloc (.cells (u8s (List.replicate 32 0)).toArray 32)).heap.size = w.heap.size + 1 := by simp
  clear hi32 hone hold ht1 ht2 hp hpv hsl
  go_enter Tryz.func16, Tryz.ntmps16
  go_wp2_with fail
  change Calls _ _ _ (w.alloc (.cells (u8s (List.replicate 32 0)).toArray 32)) _
  generalize w.alloc (.cells (u8s (List.replicate 32 0)).toArray 32) = W1 at *
  refine (newWriter_any _).mono ?_
  rintro e W2 ⟨rfl, rfl⟩
  have hW2 := IsW.new W1 (fun _ => False)
  rw [hsz0] at hW2
  have hr2 := hr0.alloc (.cells #[.slice none 0 0] 97)
  have hp2 := hp0.alloc (.cells #[.slice none 0 0] 97)
  have hv2 := hv0.alloc (.cells #[.slice none 0 0] 97)
  have hB2 := hB0.alloc (by omega) (.cells #[.slice none 0 0] 97)
  have hsz2 : (W1.alloc (.cells #[.slice none 0 0] 97)).heap.size = w.heap.size + 2 := by rw [World.size_alloc, hsz0]
  generalize W1.alloc (.cells #[.slice none 0 0] 97) = W2 at *
  clear hr0 hp0 hv0 hB0
  go_wp2_with fail
  refine (wstring_any (w.heap.size + 1) s [] W2 _ hW2 (by simp; omega)).mono ?_
  rintro e W3 ⟨rfl, hW3, hF3⟩
  have hr3 := hF3.box hr2 (by omega) (by decide)
  have hp3 := hp2.wf hF3 (fun b hb _ => ⟨by have := hb.2; omega, fun h => h⟩)
  have hv3 := hv2.wf hF3 (fun b hb _ => ⟨by have := hb.2; omega, fun h => h⟩)
  have hB3 := hB2.trans (hF3.below (by omega) (fun _ h => h.elim) (by omega))
  have hW3' := hW3
  have hsz3 := hF3.size
  obtain ⟨_, Av', cv', hve, _, _, hvc⟩ := id hv3
  obtain ⟨bv, ov, hve2, _, _, hvcell⟩ := hvc (by omega)
  have hc0 := hvcell 0 _ rfl
  rw [Nat.add_zero] at hc0
  injection hve with hve hve3
  subst hve hve2
  clear hvc hvcell hW3' hW2 hF3 hp2 hv2 hr2 hB2
  go_wp2_with fail
  have hsb := sb_len s
  have hpn := putN_len (sb s).length
  have hpl := putN_len l.length
  have hM3 : ([] ++ (putN (sb s).length ++ sb s) : List Nat).length ≤ 1000011 := by simp only [List.length_append, List.length_nil]; omega
  have hMl : ([] ++ (putN (sb s).length ++ sb s) ++ (putN l.length ++ l) : List Nat).length ≤ 2000000100 := by simp only [List.length_append, List.length_nil]; omega
  have HTB := Lib.hid (show tagB s l = [] ++ (putN (sb s).length ++ sb s) ++ (putN l.length ++ l) from rfl)
  have HTBB := Lib.hid (tagB_bytes s hby)
  generalize ([] ++ (putN (sb s).length ++ sb s) : List Nat) = M3 at *
  clear hsb hpn
  go_loopw [14] (fun i wr => (i = .int .i64 0 ∧ wr = W3) ∨ (i = .int .i64 1 ∧ IsW wr (fun k => w.heap.size + 2 ≤ k) (w.heap.size + 1) (M3 ++ (putN l.length ++ l)) ∧ Box wr w.heap.size 32 (u8s (List.replicate 32 0)).toArray ∧ Below w.heap.size w wr)) (fun i _ => 1 - (intOf i).toNat)
  case atStart => exact .inl ⟨rfl, rfl⟩
  case round =>
    rcases hrel with ⟨rfl, rfl⟩ | ⟨rfl, hW4, hr4, hB4⟩
    · go_wp2_with fail
      refine (wbytes_any (w.heap.size + 1) _ M3 l _ _ _ hW3 hp3 (fun b hb _ => ⟨by have := hb.2; omega, fun h => by rcases h with h | h; exact h; have := hb.2; omega⟩) (by omega)).mono ?_
      rintro e W4 ⟨rfl, hW4, hF4⟩
      have hr4 := hF4.box hr3 (by omega) (by decide)
      have hB4 := hB3.trans (hF4.below (by omega) (fun k h => by rcases h with h | h; exact h.elim; omega) (by omega))
      go_wp2_with fail
      refine ⟨.inr ⟨rfl, hW4.imp fun k hk _ => ?_, hr4, hB4⟩, by simp [intOf]⟩
      rcases hk with (hk | hk) | hk
      · exact hk.elim
      · omega
      · omega
    · clear hr3 hp3 hv3 hB3 hW3 hc0
      have hlt4 := hW4.lt
      have HR4 := Lib.hid hr4
      clear hr4
      go_wp2_with fail
      refine (wout_any (w.heap.size + 1) _ _ _ hW4 (by omega)).mono ?_
      rintro e W5 ⟨v5, rfl, hv5, hB5⟩
      rw [← HTB.out] at hv5
      have hT5 := hT.ext (hB4.trans (hB5.mono hB4.size))
      have hr5 := HR4.out.ext hB5
      have HR5 := Lib.hid hr5
      clear hr5
      go_wp2_with fail
      refine (ksum_any _ (tagB s l) W5 _ hT5 hv5 HTBB.out (by rw [HTB.out]; omega)).mono ?_
      rintro e W6 ⟨v6, rfl, rfl, hB6⟩
      have HR6 := Lib.hid (HR5.out.ext hB6)
      have hB7 := (hB4.trans (hB5.mono hB4.size)).trans (hB6.mono (hB4.trans (hB5.mono hB4.size)).size)
      go_wp2_with ((with_reducible show wpList _ _ _ (⟨none, .store 32 _ _, _, _, _, _⟩ :: _) _ _); refine wpList_store_row rfl 32 _ _ rfl w.heap.size (u8s (sha3 (tagB s l))).toArray rfl rfl 32 (u8s (List.replicate 32 0)).toArray HR6.out HI.out HOL.out HON.out ?_)
      refine bodyPost_ret (v := .agg (u8s (sha3 (tagB s l))).toArray) (by exact results_cell_row rfl _ _ w.heap.size 32 _ (0, 0) _ rfl (setRow_heap _ _ _ _ _ _ HR6.out) Tryz.underlying32 rfl HI.out) rfl ?_
      exact Ret.mk rfl (below_setRow hB7 (Nat.le_refl _) _)
end Go.Proofs.YtenpkgdnlogfiaaGreatDoor
