/-
  What the permutation of keccak computes.
-/
import Derived.Test.YtenpkgdnlogfiaaDoorKec1
namespace Go.Proofs.YtenpkgdnlogfiaaDoor
open Go.RowKit
attribute [local go_sem ↓] Go.wp_at_zero Go.wp_at_succ
set_option maxRecDepth 20000

theorem run_index_cell {P : Program} (w : World) (T e : TypeId) (len : Nat) (cs : Array Value) (k : Nat) (x : Value) (ht : P.underlying T = some (.array len e)) (he : P.plainKey e = true) (hi : (P.info? e).isSome = true) (hs : P.cellsOf e = 1) (hk : k < len) (hc : cs[k]? = some x) :
    (Instr.index T (.agg cs) (.int .i64 (k : Int))).run P w = .ok x w := by
  obtain ⟨i, hi⟩ := Option.isSome_iff_exists.1 hi
  have h1 : ((k : Int) < (len : Int)) := by omega
  simp [Instr.index, run_underlying ht, asIntOf, run_sizeOf w hi, hs, h1]
  rw [if_pos hk]
  exact run_part_plain w he hc

set_option maxHeartbeats 4000000 in
theorem permute_any (b : Nat) (t : TypeId) (a : List Nat) (rest : List Value) (w : World) (hT : Tab w) (hA : Box w b t (u64s a ++ rest).toArray) (hl : a.length = 25) (hw : Words a)
    (hb1 : 1 ≠ b ∧ 2 ≠ b) :
    Calls Tryd.prog 90 #[.pointer (some ⟨b, 0, none⟩)] w (fun e w' => e = .returned (.tuple #[]) ∧ Box w' b t (u64s (perm a) ++ rest).toArray ∧ WF (fun _ => False) b w w') := by
  obtain ⟨⟨tr, hR⟩, tt, hTT⟩ := id hT
  have HR := Lib.hid hR
  have hi : (Tryd.prog.info? 133).map (·.size) = some (u64s roundsL).toArray.size := by kernel_rfl
  have HI := Lib.hid hi
  have hcs : ∀ k : Nat, k < 24 → (u64s roundsL).toArray[k]? = some (.int .u64 (roundsL.getD k 0 : Nat)) := fun k hk => by rw [List.getElem?_toArray]; exact u64s_at _ _ hk
  have HCS := Lib.hid hcs
  have hsz : (u64s roundsL).toArray.size = 24 := rfl
  generalize (u64s roundsL).toArray = cs at *
  clear hR hTT hi hcs
  go_enter Tryd.func90, Tryd.ntmps90
  go_wp2_with ((with_reducible show wpList _ _ _ (⟨some 12, _, _, _, _, _⟩ :: _) _ _); refine wpList_load_row rfl 133 _ rfl 1 rfl tr.1 cs tr.2 _ HR.out Tryd.underlying133 rfl HI.out ?_)
  go_loopw [13] (fun i wr => ∃ k : Nat, k ≤ 24 ∧ i = .int .i64 k ∧ Box wr b t (u64s (permTo a k) ++ rest).toArray ∧ WF (fun _ => False) b w wr) (fun i _ => 24 - (intOf i).toNat)
  case atStart => exact ⟨0, by omega, rfl, hA, WF.refl _ _ _⟩
  case round =>
    clear hA
    obtain ⟨k, hk, rfl, hA, hF⟩ := hrel
    generalize wr = W0 at *
    by_cases hlt : k < 24
    · have hck : ∀ wx, (Instr.index 133 (.agg cs) (.int .i64 (k : Int))).run Tryd.prog wx = .ok (.int .u64 (roundsL.getD k 0 : Nat)) wx := fun wx => run_index_cell wx _ 68 24 cs k _ Tryd.underlying133 (by kernel_rfl) (by kernel_rfl) (by kernel_rfl) hlt (HCS.out k hlt)
      have hok := permTo_ok hw hl k hk
      have hrl := rounds_lt k
      obtain ⟨hwk, hlk⟩ := hok
      have HS := Lib.hid (permTo_step a k hlt)
      generalize permTo a k = A at *
      generalize roundsL.getD k 0 = c at *
      have hTr := hT.wf hF hb1
      have HTr := Lib.hid hTr
      have HF := Lib.hid hF
      clear hTr hF
      go_wp2_with fail
      have hdk : decide ((k : Int) < 24) = true := by simp; omega
      simp only [hdk]
      clear hdk
      have hC := Box.new W0 134 #[.int .u64 0, .int .u64 0, .int .u64 0, .int .u64 0, .int .u64 0]
      have hA1 := hA.alloc (.cells #[.int .u64 0, .int .u64 0, .int .u64 0, .int .u64 0, .int .u64 0] 134)
      have hB1 : Below W0.heap.size W0 (W0.alloc (.cells #[.int .u64 0, .int .u64 0, .int .u64 0, .int .u64 0, .int .u64 0] 134)) := (Below.refl _ _).alloc (Nat.le_refl _) _
      have hbl := hA.lt
      go_loopw [16] (fun i wc => ∃ x : Nat, x ≤ 5 ∧ i = .int .i64 x ∧ Box wc W0.heap.size 134 (u64s (fillTo (kc A) x 5) ++ []).toArray ∧ Box wc b t (u64s A ++ rest).toArray ∧ Below W0.heap.size W0 wc) (fun i _ => 5 - (intOf i).toNat)
      case atStart => exact ⟨0, by omega, rfl, hC, hA1, hB1⟩
      case round =>
        clear hA1 hC hB1 hA
        obtain ⟨x, hx, rfl, hC, hA, hB⟩ := hrel
        by_cases hlt2 : x < 5
        · 
          have h0 := hA.word (i := x) (by omega)
          have h1 := hA.word (i := x + 5) (by omega)
          have h2 := hA.word (i := x + 10) (by omega)
          have h3 := hA.word (i := x + 15) (by omega)
          have h4 := hA.word (i := x + 20) (by omega)
          have h5 := hC.word (i := x) (by rw [fillTo_len]; omega)
          have h6 := hC.free x
          have hkc : kc A x = (((A.getD x 0 ^^^ A.getD (x + 5) 0) ^^^ A.getD (x + 10) 0) ^^^ A.getD (x + 15) 0) ^^^ A.getD (x + 20) 0 := rfl
          have l0 := hwk.getD x
          have l1 := hwk.getD (x + 5)
          have l2 := hwk.getD (x + 10)
          have l3 := hwk.getD (x + 15)
          have l4 := hwk.getD (x + 20)
          generalize A.getD x 0 = a0 at *
          generalize A.getD (x + 5) 0 = a1 at *
          generalize A.getD (x + 10) 0 = a2 at *
          generalize A.getD (x + 15) 0 = a3 at *
          generalize A.getD (x + 20) 0 = a4 at *
          have HK := Lib.hid hkc
          clear hkc
          go_wp2_with (go_region)
          have he : bits .xor .u64 (bits .xor .u64 (bits .xor .u64 (bits .xor .u64 (a0 : Int) (a1 : Int)) (a2 : Int)) (a3 : Int)) (a4 : Int) = ((kc A x : Nat) : Int) := by
            rw [xor64 l0 l1, xor64 (xor_lt l0 l1) l2, xor64 (xor_lt (xor_lt l0 l1) l2) l3, xor64 (xor_lt (xor_lt (xor_lt l0 l1) l2) l3) l4, HK.out]
          rw [he]
          refine ⟨⟨x + 1, hlt2, by go_num, ?_, (hA.far (by show b ≠ W0.heap.size; omega) _).drew, (hB.setCell (Nat.le_refl _) _).drew⟩, by simp [intOf]; omega⟩
          have := (hC.setW (i := x) (by rw [fillTo_len]; omega) (kc A x)).drew
          rw [fillTo_set] at this
          exact this
          
        · have hx5 : x = 5 := by omega
          rw [hx5] at hC
          go_wp2_with fail
          clear hx5 hlt2 hx
          have hD := Box.new wr 127 (u64s (List.replicate 25 0) ++ []).toArray
          have hA1 := hA.alloc (.cells (u64s (List.replicate 25 0) ++ []).toArray 127)
          have hC1 := hC.alloc (.cells (u64s (List.replicate 25 0) ++ []).toArray 127)
          have hB1 := hB.alloc (by exact hB.size) (.cells (u64s (List.replicate 25 0) ++ []).toArray 127)
          rw [fillTo_full] at hC1
          have hwC := kc_words hwk
          have hlC : ((List.range 5).map (kc A)).length = 5 := by simp
          obtain ⟨C, hCE⟩ : ∃ C, C = (List.range 5).map (kc A) := ⟨_, rfl⟩
          rw [← hCE] at hC1 hwC hlC
          have HCE := Lib.hid hCE
          clear hCE
          have hcl := hC.lt
          have hal := hA.lt
          clear hC hA hB hck
          generalize wr = W1 at *
          go_loopw [55] (fun i wd => ∃ x : Nat, x ≤ 5 ∧ i = .int .i64 x ∧ Box wd W1.heap.size 127 (u64s (kbTo A C x) ++ []).toArray ∧ Box wd W0.heap.size 134 (u64s C ++ []).toArray ∧ Box wd b t (u64s A ++ rest).toArray ∧ Below W0.heap.size W0 wd) (fun i _ => 5 - (intOf i).toNat)
          case atStart => exact ⟨0, by omega, rfl, hD, hC1, hA1, hB1⟩
          case round =>
            clear hA1 hC1 hB1 hD
            obtain ⟨x, hx, rfl, hD, hC, hA, hB⟩ := hrel
            by_cases hlt3 : x < 5
            · have h0 := hC.word (i := (x + 4) % 5) (by omega)
              have h1 := hC.word (i := (x + 1) % 5) (by omega)
              have HD := Lib.hid (show kd C x = C.getD ((x + 4) % 5) 0 ^^^ rotl (C.getD ((x + 1) % 5) 0) 1 from rfl)
              have l0 := hwC.getD ((x + 4) % 5)
              have l1 := hwC.getD ((x + 1) % 5)
              generalize C.getD ((x + 4) % 5) 0 = c0 at *
              generalize C.getD ((x + 1) % 5) 0 = c1 at *
              go_wp2_with (go_quiet ((go_at_call 91; exact Calls.quiet_of_same (rotl_one _ _ l1))))
              have HE := Lib.hid (show bits .xor .u64 (c0 : Int) (rotl c1 1 : Nat) = ((kd C x : Nat) : Int) by rw [xor64 l0 (rotl_lt l1), HD.out])
              have hdx : decide ((x : Int) < 5) = true := by simp; omega
              simp only [HE.out, hdx]
              clear hdx
              have ld := kd_lt hwC x
              clear h0 h1 HD HE l0 l1
              have hD1 := hD.drewN nq
              have hC1 := hC.drewN nq
              have hA1 := hA.drewN nq
              have hB1 := bel_drewN hB nq
              generalize wr.drewN nq = W2 at *
              have hwB := kbTo_words hwk hwC x
              have hlB := kbTo_len A C x
              have HSB := Lib.hid (kbTo_step A C x)
              generalize kbTo A C x = B at *
              clear hD hC hA hB
              go_loopw [70] (fun i we => ∃ y : Nat, y ≤ 5 ∧ i = .int .i64 y ∧ Box we W1.heap.size 127 (u64s (kbRow A C B x y) ++ []).toArray ∧ Box we W0.heap.size 134 (u64s C ++ []).toArray ∧ Box we b t (u64s A ++ rest).toArray ∧ Below W0.heap.size W0 we) (fun i _ => 5 - (intOf i).toNat)
              case atStart => exact ⟨0, by omega, rfl, hD1, hC1, hA1, hB1⟩
              case round =>
                clear hA1 hC1 hB1 hD1
                obtain ⟨y, hy, rfl, hD, hC, hA, hB⟩ := hrel
                by_cases hlt4 : y < 5
                · have hlR := kbRow_len A C B x y
                  have h0 := hA.word (i := x + 5 * y) (by omega)
                  have h1 := (HTr.out.ext hB).turn (k := x + 5 * y) (by omega)
                  have h2 := hD.word (i := y + 5 * ((2 * x + 3 * y) % 5)) (by omega)
                  have h3 := hD.free (y + 5 * ((2 * x + 3 * y) % 5))
                  have l0 := hwk.getD (x + 5 * y)
                  have l1 := turns_lt (x + 5 * y)
                  have HK := Lib.hid (show kbAt A C x (kbRow A C B x y) y = (kbRow A C B x y).set (y + 5 * ((2 * x + 3 * y) % 5)) (rotl (A.getD (x + 5 * y) 0 ^^^ kd C x) (turnsL.getD (x + 5 * y) 0)) from rfl)
                  have HSR := Lib.hid (kbRow_step A C B x y)
                  generalize A.getD (x + 5 * y) 0 = a0 at *
                  generalize turnsL.getD (x + 5 * y) 0 = t0 at *
                  generalize kbRow A C B x y = R at *
                  have lx := xor_lt l0 ld
                  have hcall : ∀ wx, Calls Tryd.prog 91 #[.int .u64 (bits .xor .u64 (a0 : Int) (kd C x : Nat)), .int .i64 (t0 : Int)] wx (fun e w' => e = .returned (.int .u64 (rotl (a0 ^^^ kd C x) t0 : Nat)) ∧ w' = wx) := fun wx => by rw [xor64 l0 ld]; exact rotl_any _ _ _ lx l1
                  clear l0 l1 lx ld
                  
                  have s1 : IntKind.i64.wrap (5 * (y : Int)) = 5 * (y : Int) := IntWalk.i64_in _ (by omega)
                  have s2 : IntKind.i64.wrap ((x : Int) + 5 * (y : Int)) = (x : Int) + 5 * (y : Int) := IntWalk.i64_in _ (by omega)
                  have s3 : 0 ≤ (x : Int) + 5 * (y : Int) := by omega
                  have s4 : (x : Int) + 5 * (y : Int) < 25 := by omega
                  have s5 : ((x : Int) + 5 * (y : Int)).toNat = x + 5 * y := by omega
                  have s6 : IntKind.i64.wrap (2 * (x : Int)) = 2 * (x : Int) := IntWalk.i64_in _ (by omega)
                  have s7 : IntKind.i64.wrap (3 * (y : Int)) = 3 * (y : Int) := IntWalk.i64_in _ (by omega)
                  have s8 : IntKind.i64.wrap (2 * (x : Int) + 3 * (y : Int)) = 2 * (x : Int) + 3 * (y : Int) := IntWalk.i64_in _ (by omega)
                  have s9 : (2 * (x : Int) + 3 * (y : Int)).tmod 5 = (2 * (x : Int) + 3 * (y : Int)) % 5 := Int.tmod_eq_emod_of_nonneg (by omega)
                  have s10 : IntKind.i64.wrap ((2 * (x : Int) + 3 * (y : Int)) % 5) = (2 * (x : Int) + 3 * (y : Int)) % 5 := IntWalk.i64_in _ (by omega)
                  have s11 : IntKind.i64.wrap (5 * ((2 * (x : Int) + 3 * (y : Int)) % 5)) = 5 * ((2 * (x : Int) + 3 * (y : Int)) % 5) := IntWalk.i64_in _ (by omega)
                  have s12 : IntKind.i64.wrap ((y : Int) + 5 * ((2 * (x : Int) + 3 * (y : Int)) % 5)) = (y : Int) + 5 * ((2 * (x : Int) + 3 * (y : Int)) % 5) := IntWalk.i64_in _ (by omega)
                  have s13 : 0 ≤ (y : Int) + 5 * ((2 * (x : Int) + 3 * (y : Int)) % 5) := by omega
                  have s14 : (y : Int) + 5 * ((2 * (x : Int) + 3 * (y : Int)) % 5) < 25 := by omega
                  have s15 : ((y : Int) + 5 * ((2 * (x : Int) + 3 * (y : Int)) % 5)).toNat = y + 5 * ((2 * x + 3 * y) % 5) := by omega
                  go_wp2_with fail
                  go_still_tail 27, (by kernel_rfl)
                  still_call (hcall _)
                  repeat still_step
                  refine wpStill_nil ?_
                  clear s1 s2 s3 s4 s5 s6 s7 s8 s9 s10 s11 s12 s13 s14 s15 hcall
                  change wpList _ _ _ _ _ wr.drew
                  have h2' : wr.drew.cell? ⟨W1.heap.size, y + 5 * ((2 * x + 3 * y) % 5), none⟩ = _ := h2
                  have h3' : wr.drew.frozen? ⟨W1.heap.size, y + 5 * ((2 * x + 3 * y) % 5), none⟩ = false := h3
                  have hD' : Box wr.drew _ _ _ := hD.drew
                  have hC' : Box wr.drew _ _ _ := hC.drew
                  have hA' : Box wr.drew _ _ _ := hA.drew
                  have hB' := hB.drew
                  clear h0 h1 h2 h3 hD hC hA hB
                  generalize wr.drew = w5 at *
                  go_wp2_with fail
                  go_round
                  case rel =>
                    refine ⟨y + 1, hlt4, by go_num, ?_, hC'.far (by show W0.heap.size ≠ W1.heap.size; omega) _, hA'.far (by show b ≠ W1.heap.size; omega) _, hB'.setCell (by show W0.heap.size ≤ W1.heap.size; omega) _⟩
                    rw [HSR.out, HK.out]
                    exact hD'.setW (by omega) _
                  case measure => simp [intOf]; omega
                  
                · have hy5 : y = 5 := by omega
                  rw [hy5] at hD
                  clear hy5
                  go_wp2_with fail
                  go_round
                  case rel => exact ⟨x + 1, hlt3, by go_num, by rw [HSB.out]; exact hD, hC, hA, hB⟩
                  case measure => simp [intOf]; omega
            · have hx5 : x = 5 := by omega
              rw [hx5] at hD
              go_wp2_with fail
              clear hx5 hlt3 hx
              have hwB := kbTo_words hwk hwC 5
              have HKR := Lib.hid (show kround A c = ((List.range 25).map (ka (kbTo A C 5))).set 0 (ka (kbTo A C 5) 0 ^^^ c) by rw [HCE.out]; rfl)
              have hlB := kbTo_len A C 5
              have hF5 : WF (fun _ => False) b W0 wr := WF.of_below hB
              generalize kbTo A C 5 = B at *
              clear hC hB hwC hlC HCE
              go_loopw [10] (fun i wc => ∃ r : Nat, r ≤ 5 ∧ i = .int .i64 ((5 * r : Nat) : Int) ∧ Box wc b t (u64s (mixTo (ka B) A (5 * r)) ++ rest).toArray ∧ Box wc W1.heap.size 127 (u64s B ++ []).toArray ∧ WF (fun _ => False) b W0 wc) (fun i _ => 25 - (intOf i).toNat)
              case atStart => exact ⟨0, by omega, rfl, by rw [mixTo_zero _ _ hlk]; exact hA, hD, hF5⟩
              case round =>
                clear hA hD hF5
                obtain ⟨r, hr, rfl, hA, hD, hF⟩ := hrel
                by_cases hltr : r < 5
                · have h25 : ((5 * r : Nat) : Int) < 25 := by omega
                  go_wp2_with fail
                  have hF0 := hF
                  go_loopw [106] (fun i wc => ∃ x : Nat, x ≤ 5 ∧ i = .int .i64 x ∧ Box wc b t (u64s (mixTo (ka B) A (5 * r + x)) ++ rest).toArray ∧ Box wc W1.heap.size 127 (u64s B ++ []).toArray ∧ WF (fun _ => False) b W0 wc) (fun i _ => 5 - (intOf i).toNat)
                  case atStart => exact ⟨0, by omega, rfl, hA, hD, hF⟩
                  case round =>
                    clear hA hD hF hF0
                    obtain ⟨x, hx, rfl, hA, hD, hF⟩ := hrel
                    by_cases hltx : x < 5
                    · have h0 := hD.word (i := x + 5 * r) (by omega)
                      have h1 := hD.word (i := (x + 1) % 5 + 5 * r) (by omega)
                      have h2 := hD.word (i := (x + 2) % 5 + 5 * r) (by omega)
                      have h3 := hA.word (i := x + 5 * r) (by rw [mixTo_len]; omega)
                      have h4 := hA.free (x + 5 * r)
                      have HK := Lib.hid (show ka B (5 * r + x) = B.getD (x + 5 * r) 0 ^^^ (not64 (B.getD ((x + 1) % 5 + 5 * r) 0) &&& B.getD ((x + 2) % 5 + 5 * r) 0) by
                        unfold ka
                        rw [show 5 * r + x = x + 5 * r by omega, show (x + 5 * r) % 5 = x by omega, show (x + 5 * r) / 5 * 5 = 5 * r by omega])
                      have l0 := hwB.getD (x + 5 * r)
                      have l1 := hwB.getD ((x + 1) % 5 + 5 * r)
                      have l2 := hwB.getD ((x + 2) % 5 + 5 * r)
                      generalize B.getD (x + 5 * r) 0 = b0 at *
                      generalize B.getD ((x + 1) % 5 + 5 * r) 0 = b1 at *
                      generalize B.getD ((x + 2) % 5 + 5 * r) 0 = b2 at *
                      
                      go_wp2_with (go_region)
                      have he : bits .xor .u64 (b0 : Int) (bits .and .u64 (bits .xor .u64 (if IntKind.u64.signed = true then -1 else IntKind.u64.max) (b1 : Int)) (b2 : Int)) = ((ka B (5 * r + x) : Nat) : Int) := by
                        rw [notu l1, and64 (not64_lt _) l2, xor64 l0 (and_lt (not64_lt _)), HK.out]
                      rw [he]
                      refine ⟨⟨x + 1, hltx, by go_num, ?_, (hD.far (by show W1.heap.size ≠ b; omega) _).drew, hF.trans (WF.trans (WF.set _ _ _ _ _) (WF.of_below (Below.refl _ _).drew))⟩, by simp [intOf]; omega⟩
                      have := (hA.setW (i := x + 5 * r) (by rw [mixTo_len]; omega) (ka B (5 * r + x))).drew
                      rw [show x + 5 * r = 5 * r + x by omega, mixTo_step _ _ _ (by omega)] at this
                      rw [show x + 5 * r = 5 * r + x by omega]
                      exact this
                      
                    · have hx5 : x = 5 := by omega
                      rw [hx5] at hA
                      go_wp2_with fail
                      clear hx5 hltx hx
                      go_round
                      case rel => exact ⟨r + 1, hltr, by go_num, hA, hD, hF⟩
                      case measure => simp [intOf]; omega
                · have hr5 : r = 5 := by omega
                  rw [hr5] at hA
                  have h25 : ¬ ((5 * r : Nat) : Int) < 25 := by omega
                  have hm := mixTo_full (ka B) A
                  rw [show 5 * 5 = 25 from rfl, hm] at hA
                  have hka : (((List.range 25).map (ka B)).getD 0 0) = ka B 0 := by simp
                  have h0 := hA.word (i := 0) (by simp)
                  have h1 := hA.free 0
                  rw [hka] at h0
                  have l0 := ka_lt hwB 0
                  have hx0 := xor64 l0 hrl
                  have HX := Lib.hid hx0
                  have HM := Lib.hid (show ((List.range 25).map (ka B)).length = 25 by simp)
                  clear hx0 hka hm
                  generalize ka B 0 = k0 at *
                  generalize (List.range 25).map (ka B) = M at *
                  go_wp2_with (go_region)
                  rw [HX.out]
                  have hset := (hA.setW (i := 0) (by rw [HM.out]; simp) (k0 ^^^ c)).drew
                  refine ⟨⟨k + 1, hlt, by go_num, ?_, HF.out.trans ((hF.trans (WF.trans (WF.set _ _ _ _ _) (WF.of_below (Below.refl _ _).drew))).imp fun _ h _ => h.elim)⟩, by simp [intOf]; omega⟩
                  rw [HS.out, HKR.out]
                  exact hset
    · have hk24 : k = 24 := by omega
      rw [hk24] at hA
      go_wp2_with fail
      exact bodyPost_end (results_none rfl _ _ _) rfl ⟨rfl, by rw [perm_eq]; exact hA, hF⟩
end Go.Proofs.YtenpkgdnlogfiaaDoor
