/-
  What the statement needs, part 5.
-/
import Derived.Deep.LoopGhost
import Derived.Test.YtjjhcdkamohgnaaGreatDoorTin4
namespace Go.Proofs.YtjjhcdkamohgnaaGreatDoor
section
open Go.RowKit
attribute [local go_sem ↓] Go.wp_at_zero Go.wp_at_succ
set_option maxRecDepth 20000
set_option exponentiation.threshold 5000
theorem CM {N t : Nat} : Bk N (t : Int) = N.testBit t := by simp [Bk]
set_option maxHeartbeats 2000000 in
theorem Jp {w0 : World} {D : Nat -> Prop} {v : Value} {p : Ah} {L : List (Nat × Nat)} {R : Nat} (hp : Bi w0 D v p) (hM : Bp p L R) :
  Calls Tryz.prog 74 #[v] w0 (AP (fun x _ => x = .int .u64 (relM L p : Nat)) w0) := by
 obtain ⟨R', lk, st, rl, nl, gl⟩ := p
 obtain rfl : lk = some L := hM.links
 obtain rfl : R' = (R : Int) := hM.roles
 obtain ⟨Al, cl, Ar, cr, An, cn, Ag, cg, rfl⟩ := BZ hp
 obtain ⟨K, kp, hS⟩ : ∃ K : (Nat -> Prop) -> World -> Prop, (∀ D w, K D w -> Bi w D (.agg #[.int .i64 (R : Nat), .slice Al L.length cl, .int .u64 (st : Nat), .slice Ar rl.length cr, .slice An nl.length cn, .slice Ag gl.length cg]) ⟨R, some L, st, rl, nl, gl⟩) /\ St w0 w0 [] K := ⟨_, fun _ _ h => h, St.start Bo hp⟩
 have HDep := Lib.hid (fun D w (h : K D w) (z : Nat × Nat) (hz1 : z.1 &&& Be R = z.1) (hz2 : z.2 &&& Be R = z.2) (h1 : z.1 < Bc) (h2 : z.2 < Bc) => rdep_any (y := z.1) (n := z.2) (kp D w h) (by have := hM.r5; omega) hM.hok (by have := hM.len; omega) h1 h2 (or_le hz1 hz2))
 have hDT : ∀ z, depC L z < Bc := fun z => by rw [BC]; exact F6 _ _
 have HDT := Lib.hid hDT
 have kr : ∀ D w, K D w -> Sl w D 5 (.slice Ar rl.length cr) rl.length (B6 rl) := fun D w h => (C4 (kp D w h)).2.1
 have kn : ∀ D w, K D w -> Sl w D 2 (.slice An nl.length cn) nl.length (Bb nl) := fun D w h => (C4 (kp D w h)).2.2.1
 have kg : ∀ D w, K D w -> Sl w D 2 (.slice Ag gl.length cg) gl.length (Bb gl) := fun D w h => (C4 (kp D w h)).2.2.2
 have hg3 : gl.length <= 3 := hM.glen
 have hn3 : nl.length <= 3 := hM.nlen
 have hr6 : rl.length <= 6 := hM.rlen
 have HM := Lib.hid hM
 have KS := Lib.hid hS.stable
 clear hp hM hDT
 go_enter Tryz.func74, Tryz.ntmps74
 go_wp2_with (first
  | ((with_reducible refine qA 1 ?_); refine Az hS rfl _ _ rfl (.agg #[.int .i64 (R : Nat), .slice Al L.length cl, .int .u64 (st : Nat), .slice Ar rl.length cr, .slice An nl.length cn, .slice Ag gl.length cg]) _ rfl rfl ?_; clear hS; intro g1 w_ hS; (try simp only [Act.put, Act.eval, zz, Value.cells] at hS))
  | ((with_reducible refine qK ?_); refine qC hS ?_))
 go_loopw [3, 14] (fun sv i wr => ∃ (j N : Nat), i = .int .i64 (j : Nat) /\ sv = .int .u64 (N : Nat) /\ j <= gl.length /\ N < Bc /\ Hid (Hw L ⟨R, some L, st, rl, nl, gl⟩ N /\ ∀ c ∈ gl.take j, C9 (depC L c) N) /\ St w0 wr [.box g1 37 #[.int .i64 (R : Nat), .slice Al L.length cl, .int .u64 (st : Nat), .slice Ar rl.length cr, .slice An nl.length cn, .slice Ag gl.length cg]] K) (fun _ i _ => gl.length - (intOf i).toNat)
 case atStart => exact ⟨0, 0, rfl, rfl, by omega, by decide, Lib.hid ⟨Hw.zero _ _, fun c hc => by simp at hc⟩, hS⟩
 case round =>
  clear hS
  obtain ⟨j, N, rfl, rfl, hj, hN, HI, hS⟩ := hrel
  by_cases hlj : j < gl.length
  ·obtain ⟨f0, f1⟩ := DQ gl j hlj
   have HGj := Lib.hid (B9 (0, 0) hlj)
   have HZ : Hid (KOk (Be R) (gl.getD j (0, 0))) := Lib.hid (HM.out.goal _ (List.mem_of_getElem? HGj.out))
   have HI2 : Hid (Hw L ⟨R, some L, st, rl, nl, gl⟩ (N ||| depC L (gl.getD j (0, 0))) /\ ∀ c ∈ gl.take (j + 1), C9 (depC L c) (N ||| depC L (gl.getD j (0, 0)))) := Lib.hid ⟨HI.out.1.goal (List.mem_of_getElem? HGj.out), fun c hc => (Di HGj.out hc).elim (fun h => (HI.out.2 c h).trans (C9.left _ _)) fun e => by subst e; exact C9.right _ _⟩
   generalize gl.getD j (0, 0) = z at *
   obtain ⟨y, n⟩ := z
   dsimp only at f0 f1
   have hd := HDT.out (y, n)
   have HC := Lib.hid (fun D w h => HDep.out D w h (y, n) HZ.out.1 HZ.out.2.1 (by have := HZ.out.2.2.2; unfold Bc; dsimp only at *; omega) (by have := HZ.out.2.2.2; unfold Bc; dsimp only at *; omega))
   dsimp only at HC
   clear HI
   generalize depC L (y, n) = d at *
   have hor : N ||| d < Bc := by rw [BC] at *; exact Nat.or_lt_two_pow hN hd
   go_wp2_with (first
    | ((with_reducible refine qB ?_); refine qc ?_ ?_ <;> intro h_ <;> go_prune)
    | ((with_reducible refine qI ?_); refine qj hS Tryz.underlying35 ?_; intro b_ j_ hc0_ hc1_)
    | ((with_reducible refine qA 5 ?_); refine qa hS #[.int .u64 0, .int .u64 0] ?_; clear hS; intro g5 w_ hS)
    | ((with_reducible refine qM ?_); (first | refine qS hS ?_ | refine qT hS ?_); clear hS; intro w_ hS; (try simp only [Act.put, Act.eval, zz, Value.cells] at hS))
    | ((with_reducible refine qK ?_); refine qL hS Tryz.underlying94 ?_)
    | ((with_reducible refine qK ?_); refine qL hS Tryz.underlying37 ?_)
    | ((with_reducible refine qA 22 ?_); refine DX rfl _ _ _ _ rfl _ _ rfl rfl hN hd ?_)
    | (go_at_call 114; refine (HC.out _ _ hS.ro).mono ?_; rintro r_ w_ ⟨_, rfl, rfl, hb_⟩; replace hS := hS.ext hb_; clear hb_))
   exact ⟨⟨j + 1, N ||| d, by go_num, rfl, hlj, hor, HI2, hS.sub (List.sublist_cons_self _ _)⟩, by simp [intOf]; omega⟩
  ·obtain rfl : gl.length = j := by omega
   have HI2 : Hid (Hw L ⟨R, some L, st, rl, nl, gl⟩ N /\ ∀ c ∈ gl, C9 (depC L c) N) := Lib.hid ⟨HI.out.1, fun c hc => HI.out.2 c (by rw [List.take_length]; exact hc)⟩
   clear HI hlj
   go_wp2_with (first | ((with_reducible refine qB ?_); refine qc ?_ ?_ <;> intro h_ <;> go_prune))
   go_loopg [3] (2 ^ 64 - N) (fun k sv wr => ∃ B : Nat, sv = .int .u64 (B : Nat) /\ B < Bc /\ 2 ^ 64 - B <= k /\ Hid (Hw L ⟨R, some L, st, rl, nl, gl⟩ B /\ ∀ c ∈ gl, C9 (depC L c) B) /\ St w0 wr [.box g1 37 #[.int .i64 (R : Nat), .slice Al L.length cl, .int .u64 (st : Nat), .slice Ar rl.length cr, .slice An nl.length cn, .slice Ag gl.length cg]] K)
   case atStart => exact ⟨N, rfl, hN, Nat.le_refl _, HI2, hS⟩
   case round =>
    clear hS HI2 hN
    obtain ⟨B, rfl, hB, hgk, HI, hS⟩ := hrel
    have HGK := Lib.hid hgk
    clear hgk
    go_wp2_with (first | ((with_reducible refine qK ?_); refine qC hS ?_))
    go_loopw [6, 28] (fun sv i wr => ∃ (j N : Nat), i = .int .i64 (j : Nat) /\ sv = .int .u64 (N : Nat) /\ j <= rl.length /\ N < Bc /\ Hid (CX L ⟨R, some L, st, rl, nl, gl⟩ B N j 0) /\ St w0 wr [.box g1 37 #[.int .i64 (R : Nat), .slice Al L.length cl, .int .u64 (st : Nat), .slice Ar rl.length cr, .slice An nl.length cn, .slice Ag gl.length cg]] K) (fun _ i _ => rl.length - (intOf i).toNat)
    case atStart => exact ⟨0, B, rfl, rfl, by omega, hB, Lib.hid (CX.start HI.out.1 HI.out.2), hS⟩
    case round =>
     clear hS HI
     obtain ⟨j, N, rfl, rfl, hj, hN, HI, hS⟩ := hrel
     by_cases hlj : j < rl.length
     ·obtain ⟨b, o, rfl, c0, c1, c2, c3, c4⟩ := Io (kr _ _ hS.ro) hlj
      have HGj := Lib.hid (B9 AC hlj)
      have HZ := Lib.hid (HM.out.rules _ (List.mem_of_getElem? HGj.out))
      generalize rl.getD j AC = z at *
      obtain ⟨rv, y, n, rt, ro⟩ := z
      dsimp only at c0 c1 c2 c3 c4
      obtain ⟨t, rfl, ht⟩ : ∃ t : Nat, rt = (t : Int) /\ t < 64 := ⟨rt.toNat, by have h := HZ.out.1; have h5 := HM.out.r5; dsimp only at h h5; omega, by have h := HZ.out.1; have h5 := HM.out.r5; dsimp only at h h5; omega⟩
      have hd := HDT.out (y, n)
      have HC := Lib.hid (fun D w h => HDep.out D w h (y, n) HZ.out.2.2.1 HZ.out.2.2.2.1 (by have h := HZ.out.2.2.2.2.2.1; unfold Bc; dsimp only at h ⊢; omega) (by have h := HZ.out.2.2.2.2.2.2.1; unfold Bc; dsimp only at h ⊢; omega))
      dsimp only at HC
      have hor : N ||| depC L (y, n) < Bc := by rw [BC] at *; exact Nat.or_lt_two_pow hN hd
      cases rv with
      | true =>
       have HI2 := Lib.hid (HI.out.ruleS HGj.out (.inl rfl))
       clear HI
       go_wp2_with (first
        | ((with_reducible refine qB ?_); refine qc ?_ ?_ <;> intro h_ <;> go_prune)
        | ((with_reducible refine qA 31 ?_); refine BigFrame.wpList_want rfl fun _ hK => AY (cs := [.bool true, .int .u64 (y : Nat), .int .u64 (n : Nat), .int .i64 (t : Nat), .int .i64 ro]) rfl rfl (G7 c0 c1 c2 c3 c4) Tryz.underlying96 rfl (by kernel_rfl) (hK _ _ ?_))
        | ((with_reducible refine qA 8 ?_); refine qa hS #[.bool false, .int .u64 0, .int .u64 0, .int .i64 0, .int .i64 0] ?_; clear hS; intro g8 w_ hS)
        | ((with_reducible refine qM ?_); (first | refine qS hS ?_ | refine qT hS ?_); clear hS; intro w_ hS; (try simp only [Act.put, Act.eval, zz, Value.cells] at hS))
        | ((with_reducible refine qK ?_); refine qC hS ?_))
       exact ⟨⟨j + 1, N, by go_num, rfl, hlj, hN, HI2, hS.sub (List.sublist_cons_self _ _)⟩, by simp [intOf]; omega⟩
      | false =>
       cases hbit : B.testBit t with
       | false =>
        have HI2 := Lib.hid (HI.out.ruleS HGj.out (.inr (show Bk B (t : Nat) = false by rw [CM]; exact hbit)))
        clear HI
        go_wp2_with (first
         | ((with_reducible refine qA 31 ?_); refine BigFrame.wpList_want rfl fun _ hK => AY (cs := [.bool false, .int .u64 (y : Nat), .int .u64 (n : Nat), .int .i64 (t : Nat), .int .i64 ro]) rfl rfl (G7 c0 c1 c2 c3 c4) Tryz.underlying96 rfl (by kernel_rfl) (hK _ _ ?_))
         | ((with_reducible refine qb .shr ?_); refine D7 rfl _ _ _ _ rfl _ _ rfl rfl (by omega) ?_)
         | ((with_reducible refine qb .rem ?_); refine D8 rfl _ _ _ _ rfl _ rfl rfl ?_)
         | ((with_reducible refine qA 41 ?_); refine Cz rfl _ _ _ _ rfl _ _ rfl rfl hbit ?_)
         | ((with_reducible refine qA 8 ?_); refine qa hS #[.bool false, .int .u64 0, .int .u64 0, .int .i64 0, .int .i64 0] ?_; clear hS; intro g8 w_ hS)
         | ((with_reducible refine qB ?_); refine qc ?_ ?_ <;> intro h_ <;> go_prune)
         | ((with_reducible refine qM ?_); (first | refine qS hS ?_ | refine qT hS ?_); clear hS; intro w_ hS; (try simp only [Act.put, Act.eval, zz, Value.cells] at hS))
         | ((with_reducible refine qK ?_); refine qC hS ?_))
        exact ⟨⟨j + 1, N, by go_num, rfl, hlj, hN, HI2, hS.sub (List.sublist_cons_self _ _)⟩, by simp [intOf]; omega⟩
       | true =>
        have HI2 := Lib.hid (HI.out.ruleY HGj.out rfl (HI.out.sub.has (show Bk B (t : Nat) = true by rw [CM]; exact hbit)))
        have HZ2 : Hid (depR L ⟨false, y, n, (t : Nat), ro⟩ = depC L (y, n)) := Lib.hid rfl
        rw [HZ2.out] at HI2
        clear HI HZ2
        generalize depC L (y, n) = d at *
        go_wp2_with (first
         | ((with_reducible refine qA 31 ?_); refine BigFrame.wpList_want rfl fun _ hK => AY (cs := [.bool false, .int .u64 (y : Nat), .int .u64 (n : Nat), .int .i64 (t : Nat), .int .i64 ro]) rfl rfl (G7 c0 c1 c2 c3 c4) Tryz.underlying96 rfl (by kernel_rfl) (hK _ _ ?_))
         | ((with_reducible refine qb .shr ?_); refine D7 rfl _ _ _ _ rfl _ _ rfl rfl (by omega) ?_)
         | ((with_reducible refine qb .rem ?_); refine D8 rfl _ _ _ _ rfl _ rfl rfl ?_)
         | ((with_reducible refine qA 41 ?_); refine Cz rfl _ _ _ _ rfl _ _ rfl rfl hbit ?_)
         | ((with_reducible refine qA 48 ?_); refine DX rfl _ _ _ _ rfl _ _ rfl rfl hN hd ?_)
         | ((with_reducible refine qA 46 ?_); refine BigFrame.wpList_want rfl fun _ hK => AY (cs := [.int .u64 (y : Nat), .int .u64 (n : Nat)]) rfl rfl (Jr (hS.shut 0 rfl 1 rfl) (hS.shut 0 rfl 2 rfl)) Tryz.underlying94 rfl (by kernel_rfl) (hK _ _ ?_))
         | ((with_reducible refine qA 8 ?_); refine qa hS #[.bool false, .int .u64 0, .int .u64 0, .int .i64 0, .int .i64 0] ?_; clear hS; intro g8 w_ hS)
         | ((with_reducible refine qB ?_); refine qc ?_ ?_ <;> intro h_ <;> go_prune)
         | ((with_reducible refine qM ?_); (first | refine qS hS ?_ | refine qT hS ?_); clear hS; intro w_ hS; (try simp only [Act.put, Act.eval, zz, Value.cells] at hS))
         | ((with_reducible refine qK ?_); refine qL hS Tryz.underlying37 ?_)
         | (go_at_call 114; refine (HC.out _ _ hS.ro).mono ?_; rintro r_ w_ ⟨_, rfl, rfl, hb_⟩; replace hS := hS.ext hb_; clear hb_)
         | ((with_reducible refine qK ?_); refine qC hS ?_))
        exact ⟨⟨j + 1, N ||| d, by go_num, rfl, hlj, hor, HI2, hS.sub (List.sublist_cons_self _ _)⟩, by simp [intOf]; omega⟩
     ·obtain rfl : rl.length = j := by omega
      go_wp2_with (first | ((with_reducible refine qB ?_); refine qc ?_ ?_ <;> intro h_ <;> go_prune) | ((with_reducible refine qK ?_); refine qC hS ?_))
      go_loopw [6, 53] (fun sv i wr => ∃ (j N : Nat), i = .int .i64 (j : Nat) /\ sv = .int .u64 (N : Nat) /\ j <= nl.length /\ N < Bc /\ Hid (CX L ⟨R, some L, st, rl, nl, gl⟩ B N rl.length j) /\ St w0 wr [.box g1 37 #[.int .i64 (R : Nat), .slice Al L.length cl, .int .u64 (st : Nat), .slice Ar rl.length cr, .slice An nl.length cn, .slice Ag gl.length cg]] K) (fun _ i _ => nl.length - (intOf i).toNat)
      case atStart => exact ⟨0, N, rfl, rfl, by omega, hN, HI, hS⟩
      case round =>
       clear hS HI hN
       obtain ⟨j, N, rfl, rfl, hj, hN, HI, hS⟩ := hrel
       by_cases hlj : j < nl.length
       ·obtain ⟨f0, f1⟩ := DQ nl j hlj
        have HGj := Lib.hid (B9 (0, 0) hlj)
        have HZ : Hid (KOk (Be R) (nl.getD j (0, 0))) := Lib.hid (HM.out.never _ (List.mem_of_getElem? HGj.out)).1
        generalize nl.getD j (0, 0) = z at *
        obtain ⟨y, n⟩ := z
        dsimp only at f0 f1
        have hd := HDT.out (y, n)
        have HC := Lib.hid (fun D w h => HDep.out D w h (y, n) HZ.out.1 HZ.out.2.1 (by have := HZ.out.2.2.2; unfold Bc; dsimp only at *; omega) (by have := HZ.out.2.2.2; unfold Bc; dsimp only at *; omega))
        dsimp only at HC
        have hor : N ||| depC L (y, n) < Bc := by rw [BC] at *; exact Nat.or_lt_two_pow hN hd
        by_cases hmt : depC L (y, n) &&& B = 0
        ·have HI2 := Lib.hid (HI.out.neverS HGj.out (by rw [hmt]; rfl))
         clear HI
         generalize depC L (y, n) = d at *
         go_wp2_with (first
          | ((with_reducible refine qA 61 ?_); refine st_andN rfl _ _ _ _ rfl _ _ rfl rfl hd hB ?_; rw [hmt])
          | ((with_reducible refine qI ?_); refine qj hS Tryz.underlying35 ?_; intro b_ j_ hc0_ hc1_)
          | ((with_reducible refine qA 10 ?_); refine qa hS #[.int .u64 0, .int .u64 0] ?_; clear hS; intro g10 w_ hS)
          | ((with_reducible refine qB ?_); refine qc ?_ ?_ <;> intro h_ <;> go_prune)
          | ((with_reducible refine qM ?_); (first | refine qS hS ?_ | refine qT hS ?_); clear hS; intro w_ hS; (try simp only [Act.put, Act.eval, zz, Value.cells] at hS))
          | ((with_reducible refine qK ?_); refine qL hS Tryz.underlying94 ?_)
          | ((with_reducible refine qK ?_); refine qL hS Tryz.underlying37 ?_)
          | (go_at_call 114; refine (HC.out _ _ hS.ro).mono ?_; rintro r_ w_ ⟨_, rfl, rfl, hb_⟩; replace hS := hS.ext hb_; clear hb_))
         exact ⟨⟨j + 1, N, by go_num, rfl, hlj, hN, HI2, hS.sub (List.sublist_cons_self _ _)⟩, by simp [intOf]; omega⟩
        ·have HI2 := Lib.hid (HI.out.neverY HGj.out (HI.out.sub.meets (by simpa using hmt)))
         clear HI
         generalize depC L (y, n) = d at *
         generalize hx : d &&& B = x at *
         have HX := Lib.hid hx
         clear hx
         go_wp2_with (first
          | ((with_reducible refine qA 61 ?_); refine st_andN rfl _ _ _ _ rfl _ _ rfl rfl hd hB ?_; rw [HX.out])
          | ((with_reducible refine qA 67 ?_); refine DX rfl _ _ _ _ rfl _ _ rfl rfl hN hd ?_)
          | ((with_reducible refine qI ?_); refine qj hS Tryz.underlying35 ?_; intro b_ j_ hc0_ hc1_)
          | ((with_reducible refine qA 10 ?_); refine qa hS #[.int .u64 0, .int .u64 0] ?_; clear hS; intro g10 w_ hS)
          | ((with_reducible refine qB ?_); refine qc ?_ ?_ <;> intro h_ <;> go_prune)
          | ((with_reducible refine qM ?_); (first | refine qS hS ?_ | refine qT hS ?_); clear hS; intro w_ hS; (try simp only [Act.put, Act.eval, zz, Value.cells] at hS))
          | ((with_reducible refine qK ?_); refine qL hS Tryz.underlying94 ?_)
          | ((with_reducible refine qK ?_); refine qL hS Tryz.underlying37 ?_)
          | (go_at_call 114; refine (HC.out _ _ hS.ro).mono ?_; rintro r_ w_ ⟨_, rfl, rfl, hb_⟩; replace hS := hS.ext hb_; clear hb_))
         exact ⟨⟨j + 1, N ||| d, by go_num, rfl, hlj, hor, HI2, hS.sub (List.sublist_cons_self _ _)⟩, by simp [intOf]; omega⟩
       ·obtain rfl : nl.length = j := by omega
        by_cases hne : N = B
        ·subst hne
         have HFIN := Lib.hid HI.out.done
         clear HI
         go_wp2_with (first | ((with_reducible refine qB ?_); refine qc ?_ ?_ <;> intro h_ <;> go_prune))
         go_ret
         exact AP.mk (by rw [<- HFIN.out]; rfl) hS.below
        ·have HLT := Lib.hid (HI.out.lt hne)
         have HI2 : Hid (Hw L ⟨R, some L, st, rl, nl, gl⟩ N /\ ∀ c ∈ gl, C9 (depC L c) N) := Lib.hid ⟨HI.out.low, HI.out.goal⟩
         clear HI
         go_wp2_with (first | ((with_reducible refine qB ?_); refine qc ?_ ?_ <;> intro h_ <;> go_prune))
         go_roundg (2 ^ 64 - N)
         case measure => have := HLT.out; have := HGK.out; omega
         case rel => exact ⟨N, rfl, hN, Nat.le_refl _, HI2, hS⟩
end
section
open Go.RowKit
attribute [local go_sem ↓] Go.wp_at_zero Go.wp_at_succ
set_option maxRecDepth 20000
set_option exponentiation.threshold 5000
def BB (M N : Nat) : Nat := M ^^^ (M &&& N)
theorem Cy (M N i : Nat) : (BB M N).testBit i = (M.testBit i && !N.testBit i) := by
 unfold BB; rw [Nat.testBit_xor, Nat.testBit_and]; cases M.testBit i <;> cases N.testBit i <;> rfl
theorem wd_minus (M N k : Nat) : wd (BB M N) k = wd M k &&& BN (wd N k) := by
 apply Nat.eq_of_testBit_eq
 intro i
 rw [Nat.testBit_and]
 by_cases hi : i < 64
 ·rw [CZ (DI _ _) i hi]
  simp [Cr, hi, Cy]
 ·simp [DV (DI _ _) (Nat.not_lt.1 hi)]
theorem minus_words {a : List Nat} (ha : Ba a) (N : Nat) : Ba ((List.range a.length).map fun j => wd (Br a) j &&& BN (wd N j)) /\ Br ((List.range a.length).map fun j => wd (Br a) j &&& BN (wd N j)) = BB (Br a) N := by
 have h1 : Ba ((List.range a.length).map fun j => wd (Br a) j &&& BN (wd N j)) := fun x hx => by
  obtain ⟨j, _, rfl⟩ := List.mem_map.1 hx
  exact Nat.lt_of_le_of_lt Nat.and_le_left (DI _ _)
 refine ⟨h1, FL h1 fun k => ?_⟩
 rw [wd_minus, List.getD_eq_getElem?_getD, List.getElem?_map]
 rcases Nat.lt_or_ge k a.length with hk | hk
 ·rw [List.getElem?_range hk]; rfl
 ·rw [List.getElem?_eq_none (by simpa using hk), J5 ha hk, Nat.zero_and]; rfl
theorem ET {P : Program} {w : World} {t : TypeId} {x y : Nat} (hx : x < Bc) (hy : y < Bc) : (binOp .andNot t (.int .u64 (x : Nat)) (.int .u64 (y : Nat))).run P w = .ok (.int .u64 ((x &&& BN y : Nat) : Int)) w := by
 go_simp; rw [JV hx hy]
set_option maxHeartbeats 2000000 in
theorem minus_any {w0 : World} {D E : Nat -> Prop} {v u : Value} {M N : Nat} (hv : A7 w0 D v M) (hu : A7 w0 E u N) :
  Calls Tryz.prog 64 #[v, u] w0 (AP (fun x w' => A7 w' (w0.heap.size <= ·) x (BB M N)) w0) := by
 obtain ⟨A, ca, a, rfl, ha, rfl, ha1, ha2, hsa⟩ := hv.parts
 obtain ⟨B, cb, b, rfl, -⟩ := hu.parts
 obtain ⟨m, hm⟩ : ∃ m, m = b.length := ⟨_, rfl⟩
 rw [<- hm] at hu ⊢
 clear hm
 obtain ⟨K, k1, k2, hS⟩ : ∃ K : (Nat -> Prop) -> World -> Prop, (∀ D w, K D w -> Sl w D 1 (.slice A a.length ca) a.length (Bz a)) /\ (∀ D w, K D w -> A7 w D (.agg #[.slice B m cb]) N) /\ St w0 w0 [] K := ⟨_, fun _ _ h => h.1, fun _ _ h => h.2, St.start (D := fun _ => True) ((Aq (by decide)).and A5) ⟨hsa.imp fun _ _ _ => trivial, hu.imp fun _ _ _ => trivial⟩⟩
 have hla := ha.2.2
 have HW := Lib.hid (minus_words ha.1 N)
 have HA := Lib.hid ha.1
 have hle : a.length <= 64 := by omega
 clear hsa hv hu ha
 go_enter Tryz.func64, Tryz.ntmps64
 go_wp2_with (first
  | ((with_reducible refine qA 2 ?_); refine Az hS rfl _ _ rfl (.agg #[.slice A a.length ca]) _ rfl rfl ?_; clear hS; intro g2 w_ hS; (try simp only [Act.put, Act.eval, zz, Value.cells] at hS))
  | ((with_reducible refine qA 3 ?_); refine Az hS rfl _ _ rfl (.agg #[.slice B m cb]) _ rfl rfl ?_; clear hS; intro g3 w_ hS; (try simp only [Act.put, Act.eval, zz, Value.cells] at hS))
  | ((with_reducible refine qA 4 ?_); refine qa hS #[.slice none 0 0] ?_; clear hS; intro g4 w_ hS)
  | ((with_reducible refine qK ?_); refine qC hS ?_)
  | ((with_reducible show wpList _ _ _ (⟨_, .makeSlice _ _ _, _, _, _, _⟩ :: _) _ _); refine st_mk hS rfl _ _ _ rfl GI .i64 .i64 a.length #[.int .u64 0] rfl rfl (by kernel_rfl) (by omega) (by omega) ?_; clear hS; intro g5 w_ hS))
 rw [J0] at hS
 obtain ⟨f, hf⟩ : ∃ f : Nat -> Nat, f = fun j => wd (Br a) j &&& BN (wd N j) := ⟨_, rfl⟩
 rw [<- hf] at HW
 replace hf := Lib.hid hf
 rw [<- El f] at hS
 go_loopw [6, 13] (fun j i wr => ∃ k : Nat, i = .int .i64 (k : Nat) /\ k <= a.length /\ St w0 wr [.own (.slice (some ⟨g5, 0, none⟩) a.length a.length) 33 1 a.length (Bz (BM f k a.length)), .box g4 27 #[.slice none 0 0], .box g3 27 #[.slice B m cb], .box g2 27 #[.slice A a.length ca]] K) (fun _ i _ => a.length - (intOf i).toNat)
 case atStart => exact ⟨0, rfl, by omega, hS⟩
 case round =>
  clear hS
  obtain ⟨k, rfl, hk, hS⟩ := hrel
  by_cases hkn : k < a.length
  ·obtain ⟨b1, o1, rfl⟩ : ∃ b o, A = some ⟨b, o, none⟩ := by
    obtain ⟨_, A2, c2, e2, _, _, h5⟩ := k1 _ _ hS.ro
    obtain ⟨b, o, h6, _⟩ := h5 (by omega)
    injection e2 with e2
    exact ⟨b, o, e2.trans h6⟩
   have HX := Lib.hid (CP a k (by omega))
   have hx : a.getD k 0 < Bc := HA.out.getD k
   have hy : wd N k < Bc := DI _ _
   have HF := Lib.hid (show (Bz (BM f k a.length)).set k (.int .u64 ((a.getD k 0 &&& BN (wd N k) : Nat) : Int)) = Bz (BM f (k + 1) a.length) by
    rw [<- Gu, show f k = a.getD k 0 &&& BN (wd N k) by rw [hf.out]; show wd (Br a) k &&& _ = _; rw [Ce HA.out], Fg])
   have HWd := Lib.hid (show wd N ((k : Nat) : Int).toNat = wd N k by rw [Int.toNat_natCast])
   generalize a.getD k 0 = x at *
   generalize wd N k = y at *
   go_wp2_with (first | ((with_reducible refine qB ?_); refine qc ?_ ?_ <;> intro h_ <;> go_prune))
   refine Gy 12 [] [.i (.slice (some ⟨g5, 0, none⟩) a.length a.length), .n ((k : Nat) : Int), .q g2 0, .i (.slice (some ⟨b1, o1, none⟩) a.length ca), .n ((k : Nat) : Int), .q b1 (o1 + (k) * 1), .i (.int .u64 ((x : Nat) : Int)), .i (.agg #[.slice B m cb]), .n ((k : Nat) : Int), .i (.int .u64 (y : Nat)), .i (.int .u64 ((x &&& BN y : Nat) : Int)), .q g5 (0 + (k) * 1), .t] ⟨uM, uM, uF, uC (h := fun w hW hN => ((hS.ext hW).box 3 rfl).cell 0), uM, uI (h := fun w hW hN => Ax (m := k) Tryz.underlying25 (by kernel_rfl) (by omega) (by omega)), uC (h := fun w hW hN => by rw [Nat.mul_one]; exact Ef (k1 _ _ (hS.ext hW).ro) HX.out), uR (h := fun w hW hN => (hS.ext hW).box 2 rfl), uM, ?_, uB (h := fun w hW hN => ET hx hy), uI (h := fun w hW hN => Ax (m := k) Tryz.underlying25 (by kernel_rfl) (by omega) (by omega)), trivial⟩ ?_
   ·refine uT fun b__ w hW hE K hK => ?_
    have e23 := hE 23
    have e24 := hE 24
    exact AB rfl (by kernel_rfl) (by simp only [List.map_cons, List.map_nil, e23, e24]) (Ff _ N (k : Nat) w _ (k2 _ _ (hS.ext hW).ro) (by omega)) fun v w' h hb => hK v w' (h.trans (by rw [HWd.out])) hb
   ·intro vs wz hW hT
    obtain ⟨e16, e17, e18, e19, e20, e21, e22, e23, e24, e25, e26, e27, -⟩ := hT
    simp only [AF, Act.put, zz, ze]
    (intro o_ ho_; simp only [List.getElem?_toArray, List.getElem?_cons_succ, List.getElem?_cons_zero, Option.some.injEq] at ho_; subst ho_)
    refine E1 rfl (g := g5) (i := k) (e27.trans (by rw [Nat.zero_add, Nat.mul_one])) e26 ((hS.ext hW).own 0 rfl) (by omega) rfl rfl (by kernel_rfl) fun w4 h1 hU => ?_
    replace hS := (hS.ext hW).upd 0 rfl (.own (.slice (some ⟨g5, 0, none⟩) a.length a.length) 33 1 a.length (Bz (BM f (k + 1) a.length))) (by simpa [Ai.blk, Value.ownBlock] using Bj hU) (by rw [<- HF.out]; exact h1) fun _ e => .inl e
    simp only [BV]
    simp only [Act.put, List.setIfInBounds_toArray, List.set_cons_zero, List.set_cons_succ]
    clear e26 e27 h1 hU hW
    go_wp2_with fail
    exact ⟨⟨k + 1, by go_num, hkn, hS⟩, by simp [intOf]; omega⟩
  ·obtain rfl : a.length = k := by omega
   rw [Em, hf.out] at hS
   rw [hf.out] at HW
   obtain ⟨l, hl⟩ : ∃ l, l = (List.range a.length).map (fun j => wd (Br a) j &&& BN (wd N j)) := ⟨_, rfl⟩
   have hll : l.length = a.length := by rw [hl]; simp
   have HLL := Lib.hid hll
   rw [<- hl] at hS HW
   clear hl hll
   have hs0 := ((hS.own 0 rfl).lt _ rfl).1
   have hS1 := hS.freeze 0 (by decide) rfl
   clear hS
   have hS := hS1
   clear hS1
   go_wp2_with (first
    | ((with_reducible refine qB ?_); refine qc ?_ ?_ <;> intro h_ <;> go_prune)
    | (go_at_call 62; refine (GL _ l _ _ HW.out.1 (by rw [HLL.out]; omega) (by rw [HLL.out]; exact hS.ro.2.only)).mono ?_; rintro r_ w_ ⟨_, rfl, hM, hb_⟩; obtain ⟨A3, c3, l3, rfl, -⟩ := hM.parts; replace hS := hS.ret2 hb_ (AW A5 (w0.heap.size <= ·)) (hM.imp fun z hz _ => ⟨.inl hz.1, by rw [hz.2]; exact hs0⟩); clear hb_ hM)
    | ((with_reducible refine qM ?_); (first | refine qS hS ?_ | refine qT hS ?_); clear hS; intro w_ hS; (try simp only [Act.put, Act.eval, zz, Value.cells] at hS)))
   refine Bm Tryz.results64 rfl (hS.box 0 rfl) Tryz.underlying27 rfl (by kernel_rfl) rfl ?_
   exact AP.mk (by rw [<- HW.out.2]; exact hS.ro.2.imp fun z hz _ => hz.2) hS.below
end
section
open Go.RowKit
def Sp.g {X : Type} {R : X -> X -> Prop} (c : Bool) (v : Value) : Sp R := .i (cond c v undef)
section
variable {X : Type} {κ : Kd X} {P : Program} {ops : Array Oper} {l : List (Sp κ.R)} {a0 : Act} {Q : Exit -> Act -> World -> Prop} {i : Nat} {o : Oper}
theorem uY {j : Nat} {c : Bool} {oj : Oper} {d : Tmp} (h : o.guard = some (j, c) := by rfl) (h1 : ops[j]? = some oj := by rfl) (h2 : oj.dst = some d := by rfl) (h3 : src ops d o.after.toList = some j := by rfl) (h4 : l[j]? = some (.i (.bool !c)) := by rfl) (hs : ∀ x, Sp.T l i undef x := by first | exact fun _ => rfl | exact fun _ => trivial | exact fun _ => nofun) : Cn κ P ops l a0 Q i o := fun b x hC hN hE =>
 ⟨fun hw => (by rw [FK h h1 h2 ((Ev.n h3 h4).at hE : b.eval (.tmp _) = _)] at hw; cases c <;> cases hw), fun _ => hs x⟩
theorem uX {j : Nat} {c : Bool} {oj : Oper} {d : Tmp} (h : o.guard = some (j, c) := by rfl) (h1 : ops[j]? = some oj := by rfl) (h2 : oj.dst = some d := by rfl) (h3 : src ops d o.after.toList = some j := by rfl) (h4 : l[j]? = some (.i undef) := by rfl) (hs : ∀ x, Sp.T l i undef x := by first | exact fun _ => rfl | exact fun _ => trivial | exact fun _ => nofun) : Cn κ P ops l a0 Q i o := fun b x hC hN hE =>
 ⟨fun hw => (by
  have h5 : b.eval (.tmp d) = undef := (Ev.n h3 h4).at hE
  have h6 : yielded ops b.tmps j = none := by
   have h7 : ((some oj).bind fun x => x.dst) = some d := h2
   unfold yielded
   rw [h1, h7]
   simp only [Option.bind_some]
   cases h7 : b.tmps[d]? with
   | none => rfl
   | some v =>
    have : v = undef := by simpa [Act.eval, h7] using h5
    subst this; rfl
  simp [Region.wanted, h, h6] at hw), fun _ => hs x⟩
end
end
section
open Go.RowKit
attribute [local go_sem ↓] Go.wp_at_zero Go.wp_at_succ
set_option maxRecDepth 20000
set_option exponentiation.threshold 5000
theorem DA {w0 : World} {D : Nat -> Prop} {v : Value} {p : Ah} {L : List (Nat × Nat)} {R s : Nat} (hp : Bi w0 D v p) (hM : Bp p L R) :
  Calls Tryz.prog 82 #[v, .int .u64 (s : Nat)] w0 (AP (fun x _ => x = .bool (goodB p s)) w0) := by
 obtain ⟨R', lk, st, rl, nl, gl⟩ := p
 obtain rfl : lk = some L := hM.links
 obtain rfl : R' = (R : Int) := hM.roles
 obtain ⟨Al, cl, Ar, cr, An, cn, Ag, cg, rfl⟩ := BZ hp
 obtain ⟨K, kp, hS⟩ : ∃ K : (Nat -> Prop) -> World -> Prop, (∀ D w, K D w -> Bi w D (.agg #[.int .i64 (R : Nat), .slice Al L.length cl, .int .u64 (st : Nat), .slice Ar rl.length cr, .slice An nl.length cn, .slice Ag gl.length cg]) ⟨(R : Int), some L, st, rl, nl, gl⟩) /\ St w0 w0 [] K := ⟨_, fun _ _ h => h, St.start Bo hp⟩
 have kl : ∀ D w, K D w -> Sl w D 2 (.slice Al L.length cl) L.length (Af L) := fun D w h => (C4 (kp D w h)).1
 have HM := Lib.hid hM
 have HL := Lib.hid (show Ex 64 L from hM.hok.inr)
 have hlen := hM.len
 clear hp hM
 have kn : ∀ D w, K D w -> BJ w D (.slice An nl.length cn) nl := fun D w h => (C4 (kp D w h)).2.2.1
 obtain ⟨b, hb⟩ : ∃ b, nl.any (fun z => B0 z (closM L s)) = b := ⟨_, rfl⟩
 have HG : Hid (goodB ⟨(R : Int), some L, st, rl, nl, gl⟩ s = !b) := Lib.hid (by rw [<- hb]; rfl)
 have HB := Lib.hid hb
 clear hb
 go_enter Tryz.func82, Tryz.ntmps82
 go_wp2_with (first | ((with_reducible refine qA 2 ?_); refine Az hS rfl _ _ rfl (.agg #[.int .i64 (R : Nat), .slice Al L.length cl, .int .u64 (st : Nat), .slice Ar rl.length cr, .slice An nl.length cn, .slice Ag gl.length cg]) _ rfl rfl ?_; clear hS; intro g2 w_ hS; (try simp only [Act.put, Act.eval, zz, Value.cells] at hS)))
 refine CH [.q g2 4, .i (.slice An nl.length cn), .q g2 1, .i (.slice Al L.length cl), .i (.int .u64 (s : Nat)), .i (.int .u64 (closM L s : Nat)), .i (.bool b), .i (.bool (!b)), .i (.bool (!b))] ⟨uF, uC (h := fun w hW hN => (hS.ext hW).shut 0 rfl 4 rfl), uF, uC (h := fun w hW hN => (hS.ext hW).shut 0 rfl 1 rfl), uM, ?_, ?_, uU, uA, trivial⟩ ?_
 ·refine uT fun b__ w hW hE K hK => ?_
  have e8 := hE 8
  have e9 := hE 9
  exact AB rfl (by kernel_rfl) (by simp only [List.map_cons, List.map_nil, e8, e9]) (EF (kl _ _ (hS.ext hW).ro) HL.out (by omega) s) fun v w' h hb => hK v w' h hb
 ·refine uT fun b__ w hW hE K hK => ?_
  have e6 := hE 6
  have e10 := hE 10
  exact AB rfl (by kernel_rfl) (by simp only [List.map_cons, List.map_nil, e6, e10]) (Id (kn _ _ (hS.ext hW).ro) HM.out.fits.never (DR L s)) fun v w' h hb => hK v w' (h.trans (by rw [HB.out])) hb
 ·intro vs wz hW hT
  obtain ⟨e5, e6, e7, e8, e9, e10, e11, e12, e4, -⟩ := hT
  simp only [AF, Act.put, zz, ze]
  rw [e4]
  go_wp2_with fail
  go_ret
  exact AP.mk (by rw [HG.out]; rfl) (BI hS.below hW)
theorem CU {w0 : World} {D : Nat -> Prop} {v : Value} {p : Ah} {L : List (Nat × Nat)} {R s : Nat} (hp : Bi w0 D v p) (hM : Bp p L R) :
  Calls Tryz.prog 61 #[v, .int .u64 (s : Nat)] w0 (AP (fun x _ => x = .bool (reachB p s)) w0) := by
 obtain ⟨R', lk, st, rl, nl, gl⟩ := p
 obtain rfl : lk = some L := hM.links
 obtain rfl : R' = (R : Int) := hM.roles
 obtain ⟨Al, cl, Ar, cr, An, cn, Ag, cg, rfl⟩ := BZ hp
 obtain ⟨K, kp, hS⟩ : ∃ K : (Nat -> Prop) -> World -> Prop, (∀ D w, K D w -> Bi w D (.agg #[.int .i64 (R : Nat), .slice Al L.length cl, .int .u64 (st : Nat), .slice Ar rl.length cr, .slice An nl.length cn, .slice Ag gl.length cg]) ⟨(R : Int), some L, st, rl, nl, gl⟩) /\ St w0 w0 [] K := ⟨_, fun _ _ h => h, St.start Bo hp⟩
 have kl : ∀ D w, K D w -> Sl w D 2 (.slice Al L.length cl) L.length (Af L) := fun D w h => (C4 (kp D w h)).1
 have HM := Lib.hid hM
 have HL := Lib.hid (show Ex 64 L from hM.hok.inr)
 have hlen := hM.len
 clear hp hM
 have kg : ∀ D w, K D w -> BJ w D (.slice Ag gl.length cg) gl := fun D w h => (C4 (kp D w h)).2.2.2
 obtain ⟨b, hb⟩ : ∃ b, gl.any (fun z => B0 z (closM L s)) = b := ⟨_, rfl⟩
 have HG : Hid (reachB ⟨(R : Int), some L, st, rl, nl, gl⟩ s = b) := Lib.hid (by rw [<- hb]; rfl)
 have HB := Lib.hid hb
 clear hb
 go_enter Tryz.func61, Tryz.ntmps61
 go_wp2_with (first | ((with_reducible refine qA 2 ?_); refine Az hS rfl _ _ rfl (.agg #[.int .i64 (R : Nat), .slice Al L.length cl, .int .u64 (st : Nat), .slice Ar rl.length cr, .slice An nl.length cn, .slice Ag gl.length cg]) _ rfl rfl ?_; clear hS; intro g2 w_ hS; (try simp only [Act.put, Act.eval, zz, Value.cells] at hS)))
 refine CH [.q g2 5, .i (.slice Ag gl.length cg), .q g2 1, .i (.slice Al L.length cl), .i (.int .u64 (s : Nat)), .i (.int .u64 (closM L s : Nat)), .i (.bool b), .i (.bool b)] ⟨uF, uC (h := fun w hW hN => (hS.ext hW).shut 0 rfl 5 rfl), uF, uC (h := fun w hW hN => (hS.ext hW).shut 0 rfl 1 rfl), uM, ?_, ?_, uA, trivial⟩ ?_
 ·refine uT fun b__ w hW hE K hK => ?_
  have e8 := hE 8
  have e9 := hE 9
  exact AB rfl (by kernel_rfl) (by simp only [List.map_cons, List.map_nil, e8, e9]) (EF (kl _ _ (hS.ext hW).ro) HL.out (by omega) s) fun v w' h hb => hK v w' h hb
 ·refine uT fun b__ w hW hE K hK => ?_
  have e6 := hE 6
  have e10 := hE 10
  exact AB rfl (by kernel_rfl) (by simp only [List.map_cons, List.map_nil, e6, e10]) (Id (kg _ _ (hS.ext hW).ro) HM.out.fits.goal (DR L s)) fun v w' h hb => hK v w' (h.trans (by rw [HB.out])) hb
 ·intro vs wz hW hT
  obtain ⟨e5, e6, e7, e8, e9, e10, e11, e4, -⟩ := hT
  simp only [AF, Act.put, zz, ze]
  rw [e4]
  go_wp2_with fail
  go_ret
  exact AP.mk (by rw [HG.out]; rfl) (BI hS.below hW)
theorem J9 {b i : Nat} (hb : b < Bc) : (BN b).testBit i = (decide (i < 64) && !b.testBit i) := by
 by_cases hi : i < 64
 ·rw [CZ hb i hi]; simp [hi]
 ·rw [DV (not64_lt b) (Nat.not_lt.1 hi)]; simp [hi]
theorem andnot_del {N t : Nat} (hN : N < Bc) (ht : t < 64) : N &&& BN (2 ^ t) = del N (t : Int) := AZ fun i => by
 unfold del
 rw [CM, Nat.testBit_and, J9 (by rw [BC]; exact Nat.pow_lt_pow_right (by decide) ht), Int.toNat_natCast]
 by_cases hi : i < 64
 ·by_cases e : t = i
  ·subst e
   cases h : N.testBit t
   ·simp [h]
   ·simp [h, Nat.testBit_xor, Nat.testBit_two_pow_self]
  ·have h1 : (2 ^ t).testBit i = false := by rw [Nat.testBit_two_pow]; simp [e]
   simp only [h1, hi, decide_true, Bool.not_false, Bool.and_true]
   split
   ·rw [Nat.testBit_xor, h1, Bool.xor_false]
   ·rfl
 ·have h0 : N.testBit i = false := DV hN (Nat.not_lt.1 hi)
  have h1 : (2 ^ t).testBit i = false := by rw [Nat.testBit_two_pow]; simp; omega
  simp only [h0, Bool.false_and]
  split
  ·rw [Nat.testBit_xor, h0, h1]; simp
  ·simp [h0]
theorem Dv {N t : Nat} (ht : t < 64) : N ||| 2 ^ t = BF N (t : Int) := by
 unfold BF
 rw [if_pos ⟨by omega, by omega⟩, Int.toNat_natCast]
theorem run_shlU {P : Program} {w : World} {t : TypeId} {r : Nat} (hr : r < 64) : (binOp .shl t (.int .u64 1) (.int .u64 (r : Nat))).run P w = .ok (.int .u64 ((2 ^ r : Nat) : Int)) w := by
 go_simp
 rw [shl64 r hr]
 simp
theorem run_convU {P : Program} {w : World} {n : Nat} (hn : n < Bc) : (convert 3 65 (.int .i64 (n : Nat))).run Tryz.prog w = .ok (.int .u64 (n : Nat)) w := by
 go_simp
 exact EO hn
theorem next_eq {N t : Nat} {rv : Bool} (hN : N < Bc) (ht : t < 64) : ((if rv = true then del N (t : Int) else BF N (t : Int)) == N) = (Bk N (t : Int) != rv) := by
 have hp : (2 ^ t).testBit t = true := Nat.testBit_two_pow_self
 cases rv
 ·rw [if_neg (by simp), <- Dv ht, CM]
  cases h : N.testBit t
  ·have : N ||| 2 ^ t ≠ N := fun e => by
    have : (N ||| 2 ^ t).testBit t = true := by rw [Nat.testBit_or, hp, Bool.or_true]
    rw [e, h] at this; cases this
   simpa using this
  ·have : N ||| 2 ^ t = N := AZ fun i => by
    rw [Nat.testBit_or, Nat.testBit_two_pow]
    by_cases e : t = i
    ·subst e; simp [h]
    ·simp [e]
   simp [this]
 ·rw [if_pos rfl]
  unfold del
  rw [CM, Int.toNat_natCast]
  cases h : N.testBit t
  ·simp
  ·have : N ^^^ 2 ^ t ≠ N := fun e => by
    have : (N ^^^ 2 ^ t).testBit t = false := by rw [Nat.testBit_xor, h, hp]; rfl
    rw [e, h] at this; cases this
   simpa using this
set_option maxHeartbeats 4000000 in
theorem Dy {w0 : World} {D : Nat -> Prop} {v : Value} {p : Ah} {L : List (Nat × Nat)} {R N : Nat} (k : Int) (hp : Bi w0 D v p) (hM : Bp p L R) (hN : N < Bc) :
  Calls Tryz.prog 58 #[v, .int .u64 (N : Nat), .int .i64 k] w0 (AP (fun x _ => x = .tuple #[.int .u64 ((stepM p N k).getD 0 : Nat), .bool (stepM p N k).isSome]) w0) := by
 obtain ⟨R', lk, st, rl, nl, gl⟩ := p
 obtain rfl : lk = some L := hM.links
 obtain rfl : R' = (R : Int) := hM.roles
 obtain ⟨Al, cl, Ar, cr, An, cn, Ag, cg, rfl⟩ := BZ hp
 obtain ⟨K, kp, hS⟩ : ∃ K : (Nat -> Prop) -> World -> Prop, (∀ D w, K D w -> Bi w D (.agg #[.int .i64 (R : Nat), .slice Al L.length cl, .int .u64 (st : Nat), .slice Ar rl.length cr, .slice An nl.length cn, .slice Ag gl.length cg]) ⟨(R : Int), some L, st, rl, nl, gl⟩) /\ St w0 w0 [] K := ⟨_, fun _ _ h => h, St.start Bo hp⟩
 have kl : ∀ D w, K D w -> Sl w D 2 (.slice Al L.length cl) L.length (Af L) := fun D w h => (C4 (kp D w h)).1
 have HM := Lib.hid hM
 have HL := Lib.hid (show Ex 64 L from hM.hok.inr)
 have hlen := hM.len
 clear hp hM
 have kr : ∀ D w, K D w -> Sl w D 5 (.slice Ar rl.length cr) rl.length (B6 rl) := fun D w h => (C4 (kp D w h)).2.1
 have hr6 : rl.length <= 6 := HM.out.rlen
 by_cases hk : 0 <= k /\ k < rl.length
 ·obtain ⟨j, rfl⟩ : ∃ j : Nat, k = (j : Int) := ⟨k.toNat, by omega⟩
  have hlj : j < rl.length := by omega
  clear hk
  obtain ⟨b, o2, rfl, -⟩ := Io (kr _ _ hS.ro) hlj
  rw [Jc (p := ⟨(R : Int), some L, st, rl, nl, gl⟩) (N := N) rfl hlj]
  dsimp only
  have HG := Lib.hid (B9 AC hlj)
  have hz := HM.out.rules _ (List.mem_of_getElem? HG.out)
  clear HG
  obtain ⟨z, hz2⟩ : ∃ z, rl.getD j AC = z := ⟨_, rfl⟩
  rw [hz2] at hz ⊢
  have HZ := Lib.hid hz2
  clear hz2
  obtain ⟨zr, y, n, rt, ro⟩ := z
  obtain ⟨t, rfl, ht⟩ : ∃ t : Nat, rt = (t : Int) /\ t < 64 := ⟨rt.toNat, by have h := hz.1; have h5 := HM.out.r5; dsimp only at h h5; omega, by have h := hz.1; have h5 := HM.out.r5; dsimp only at h h5; omega⟩
  have hy64 : y < Bc := by have := hz.2.2.2.2.2.1; dsimp only at this; unfold Bc; omega
  have hn64 : n < Bc := by have := hz.2.2.2.2.2.2.1; dsimp only at this; unfold Bc; omega
  clear hz
  obtain ⟨V, hV⟩ : ∃ V, V = if stepB ⟨(R : Int), some L, st, rl, nl, gl⟩ N ⟨zr, y, n, (t : Int), ro⟩ = true then some (Hg N ⟨zr, y, n, (t : Int), ro⟩) else none := ⟨_, rfl⟩
  rw [<- hV]
  obtain ⟨M, hM2⟩ : ∃ M, Hg N ⟨zr, y, n, (t : Int), ro⟩ = M := ⟨_, rfl⟩
  have hMN : (M == N) = (Bk N (t : Int) != zr) := by rw [<- hM2]; exact next_eq hN ht
  obtain ⟨ho, hho⟩ : ∃ ho, B0 (y, n) (closM L N) = ho := ⟨_, rfl⟩
  obtain ⟨gd, hgd⟩ : ∃ gd, goodB ⟨(R : Int), some L, st, rl, nl, gl⟩ M = gd := ⟨_, rfl⟩
  obtain ⟨e1, he1⟩ : ∃ e1, (M == N) = e1 := ⟨_, rfl⟩
  have HV : Hid (V = if (!((e1 || (!zr && !ho)) || !gd)) = true then some M else none) := Lib.hid (by rw [hV, hM2, <- hho, <- hgd, <- he1, hMN, <- hM2]; rfl)
  have HMf : Hid (zr = false -> N ||| 2 ^ t = M) := Lib.hid fun e => by rw [<- hM2, Dv ht, e]; rfl
  have HMt : Hid (zr = true -> N &&& BN (2 ^ t) = M) := Lib.hid fun e => by rw [<- hM2, andnot_del hN ht, e]; rfl
  have HE1 : Hid (∀ w : World, (binOp .eql 33 (.int .u64 (M : Nat)) (.int .u64 (N : Nat))).run Tryz.prog w = .ok (.bool e1) w) := Lib.hid fun w => GY (by rw [<- he1, Bool.eq_iff_iff]; simp only [beq_iff_eq, decide_eq_true_eq]; omega)
  have HHO := Lib.hid hho
  have HGD := Lib.hid hgd
  have h2t : 2 ^ t < Bc := EG ht
  clear hV hM2 hMN hho hgd he1
  obtain ⟨rb, hrb⟩ : ∃ rb, rb = zr := ⟨_, rfl⟩
  have HRB := Lib.hid hrb
  clear hrb
  cases zr <;> cases e1 <;> cases gd
  all_goals
   go_enter Tryz.func58, Tryz.ntmps58
   go_wp2_with (first
    | ((with_reducible refine qA 3 ?_); refine Az hS rfl _ _ rfl (.agg #[.int .i64 (R : Nat), .slice Al L.length cl, .int .u64 (st : Nat), .slice (some ⟨b, o2, none⟩) rl.length cr, .slice An nl.length cn, .slice Ag gl.length cg]) _ rfl rfl ?_; clear hS; intro g3 w_ hS; (try simp only [Act.put, Act.eval, zz, Value.cells] at hS))
    | ((with_reducible refine qA 24 ?_); obtain ⟨b', o', e', c0, c1, c2, c3, c4⟩ := Io (kr _ _ hS.ro) hlj; injection e' with e'; injection e' with e1 e2; subst e1 e2; rw [HZ.out] at c0 c1 c2 c3 c4; dsimp only at c0 c1 c2 c3 c4; refine BigFrame.wpList_want rfl fun _ hK => AY (cs := [.bool _, .int .u64 (y : Nat), .int .u64 (n : Nat), .int .i64 (t : Nat), .int .i64 ro]) rfl rfl (G7 c0 c1 c2 c3 c4) Tryz.underlying96 rfl (by kernel_rfl) (hK _ _ ?_))
    | ((with_reducible refine qA 8 ?_); refine qa hS #[.bool false, .int .u64 0, .int .u64 0, .int .i64 0, .int .i64 0] ?_; clear hS; intro g8 w_ hS)
    | ((with_reducible refine qA 27 ?_); refine BigFrame.wpList_want rfl fun _ hK => opw_conv (v := .int .u64 (t : Nat)) rfl rfl (run_convU (by omega)) (hK _ _ ?_))
    | ((with_reducible refine qA 28 ?_); refine BigFrame.wpList_want rfl fun _ hK => AE (v := .int .u64 ((2 ^ t : Nat) : Int)) rfl rfl rfl rfl (run_shlU ht) (hK _ _ ?_))
    | ((with_reducible refine qA 31 ?_); first | (refine BigFrame.wpList_want rfl fun _ hK => AE (v := .int .u64 (M : Nat)) rfl rfl rfl rfl (by rw [<- HMf.out rfl]; exact FS hN h2t) (hK _ _ ?_)) | (refine DX rfl _ _ _ _ rfl _ _ rfl rfl hN h2t ?_))
    | ((with_reducible refine qA 36 ?_); refine BigFrame.wpList_want rfl fun _ hK => AE (v := .int .u64 (M : Nat)) rfl rfl rfl rfl (by rw [<- HMt.out rfl]; exact ET hN h2t) (hK _ _ ?_))
    | ((with_reducible refine qA 39 ?_); refine BigFrame.wpList_want rfl fun _ hK => AE (vx := .int .u64 (M : Nat)) (vy := .int .u64 (N : Nat)) rfl rfl rfl rfl (HE1.out _) (hK _ _ ?_))
    | ((with_reducible refine qB ?_); refine qc ?_ ?_ <;> intro h_ <;> go_prune)
    | ((with_reducible refine qA 41 ?_); refine BigFrame.wpList_want rfl fun _ hK => AK rfl rfl (hS.box 1 rfl) Tryz.underlying37 rfl (by kernel_rfl) (hK _ _ ?_))
    | (go_at_call 82; refine (DA (s := M) (kp _ _ hS.ro) HM.out).mono ?_; rw [HGD.out]; rintro r_ w_ ⟨_, rfl, rfl, hb_⟩; replace hS := hS.ext hb_; clear hb_)
    | ((with_reducible refine qM ?_); (first | refine qS hS ?_ | refine qT hS ?_); clear hS; intro w_ hS; (try simp only [Act.put, Act.eval, zz, Value.cells] at hS))
    | ((with_reducible refine qK ?_); refine qC hS ?_))
  all_goals try (go_ret2; exact AP.mk (by rw [HV.out]; cases ho <;> rfl) hS.below)
  all_goals
   refine CH [.q g8 0, .i (.bool rb), .i (.bool (!rb)), .i (.bool (!rb)), .g ((!rb)) (.pointer (some ⟨g8, 1, none⟩)), .g ((!rb)) (.agg #[.int .u64 (y : Nat), .int .u64 (n : Nat)]), .g ((!rb)) (.pointer (some ⟨g3, 1, none⟩)), .g ((!rb)) (.slice Al L.length cl), .g ((!rb)) (.int .u64 (N : Nat)), .g ((!rb)) (.int .u64 (closM L N : Nat)), .g ((!rb)) (.bool ho), .g ((!rb)) (.bool (!ho)), .i (.bool ((!rb) && (!ho)))] ⟨uF, uC (h := fun w hW hN => by rw [HRB.out]; exact (hS.ext hW).shut 0 rfl 0 rfl), uU, uM, (by cases rb <;> first | exact uY | exact uX | exact uF), (by cases rb <;> first | exact uY | exact uX | exact uD (h := fun w hW hN => Jr ((hS.ext hW).shut 0 rfl 1 rfl) ((hS.ext hW).shut 0 rfl 2 rfl))), (by cases rb <;> first | exact uY | exact uX | exact uF), (by cases rb <;> first | exact uY | exact uX | exact uC (h := fun w hW hN => (hS.ext hW).shut 1 rfl 1 rfl)), (by cases rb <;> first | exact uY | exact uX | exact uM), ?_, ?_, (by cases rb <;> first | exact uY | exact uX | exact uU), (by cases rb <;> exact uP), trivial⟩ ?_
   ·cases rb <;> first | exact uY | exact uX | (refine uT fun b__ w hW hE K hK => ?_; have e53 : b__.eval (.tmp 53) = .slice Al L.length cl := hE 53; have e54 : b__.eval (.tmp 54) = .int .u64 (N : Nat) := hE 54; (exact AB rfl (by kernel_rfl) (by simp only [List.map_cons, List.map_nil, e53, e54]) (EF (kl _ _ (hS.ext hW).ro) HL.out (by omega) N) fun v w' h hb => hK v w' h hb))
   ·cases rb <;> first | exact uY | exact uX | (refine uT fun b__ w hW hE K hK => ?_; have e51 : b__.eval (.tmp 51) = .agg #[.int .u64 (y : Nat), .int .u64 (n : Nat)] := hE 51; have e55 : b__.eval (.tmp 55) = .int .u64 (closM L N : Nat) := hE 55; (exact AB rfl (by kernel_rfl) (by simp only [List.map_cons, List.map_nil, e51, e55]) (Gp hy64 hn64 (DR L N) _) fun v w' h hb => hK v w' (h.trans (by rw [HHO.out]; rfl)) hb))
   ·intro vs wz hW hT
    obtain ⟨e46, e47, e48, e49, -, -, -, -, -, -, -, -, e58, -⟩ := hT
    simp only [AF, Act.put, zz, ze]
    rw [e58, HRB.out]
    replace hS := hS.ext hW
    cases ho
    all_goals
     go_wp2_with fail
     go_ret2
     exact AP.mk (by rw [HV.out]; rfl) hS.below
 ·rw [stepM_none (p := ⟨(R : Int), some L, st, rl, nl, gl⟩) (fun h => hk ⟨h.1, h.2.1⟩)]
  have hk' : k < 0 \/ rl.length <= k := by omega
  clear hk
  go_enter Tryz.func58, Tryz.ntmps58
  go_wp2_with (first
   | ((with_reducible refine qA 3 ?_); refine Az hS rfl _ _ rfl (.agg #[.int .i64 (R : Nat), .slice Al L.length cl, .int .u64 (st : Nat), .slice Ar rl.length cr, .slice An nl.length cn, .slice Ag gl.length cg]) _ rfl rfl ?_; clear hS; intro g3 w_ hS; (try simp only [Act.put, Act.eval, zz, Value.cells] at hS))
   | ((with_reducible refine qB ?_); refine qc ?_ ?_ <;> intro h_ <;> go_prune)
   | ((with_reducible refine qK ?_); refine qC hS ?_))
  all_goals
   go_ret2
   exact AP.mk rfl hS.below
end
section
open Go.RowKit
set_option exponentiation.threshold 5000
theorem rolesN_mask : ∀ R, R < 6 -> Dk R = Be R := by decide
theorem IY : ∀ R, R < 6 -> ∀ z, z < 6 -> 1 <= z -> z <= R -> (Be R).testBit z = true := by decide
theorem Ie {R : Nat} (hR : R <= 5) {i : Int} (h1 : 1 <= i) (h2 : i <= R) : Bk (Be R) i = true := by
 obtain ⟨z, rfl⟩ : ∃ z : Nat, i = (z : Int) := ⟨i.toNat, by omega⟩
 rw [CM]
 exact IY R (by omega) z (by omega) (by omega) (by omega)
theorem over_of {m : Nat} {z : Nat × Nat} (h1 : z.1 &&& m = z.1) (h2 : z.2 &&& m = z.2) : It m z = true := by
 unfold It
 rw [beq_iff_eq]
 exact AZ fun i => by
  have a : (z.1 &&& m).testBit i = z.1.testBit i := by rw [h1]
  have b : (z.2 &&& m).testBit i = z.2.testBit i := by rw [h2]
  rw [Nat.testBit_and] at a b
  rw [Nat.testBit_and, Nat.testBit_or]
  cases h3 : z.1.testBit i <;> cases h4 : z.2.testBit i <;> cases h5 : m.testBit i <;> simp_all
theorem Bp.check {p : Ah} {L : List (Nat × Nat)} {R : Nat} (h : Bp p L R) : checkE p = 0 := by
 have hR := h.r5
 have hm := rolesN_mask R (by omega)
 have hc : ∀ z ∈ p.cubes, z.1 &&& Be R = z.1 /\ z.2 &&& Be R = z.2 /\ z.1 &&& z.2 = 0 := fun z hz => by
  unfold Ah.cubes at hz
  rcases List.mem_append.1 hz with hz | hz
  ·rcases List.mem_append.1 hz with hz | hz
   ·obtain ⟨r, hr, rfl⟩ := List.mem_map.1 hz
    have := h.rules r hr
    exact ⟨this.2.2.1, this.2.2.2.1, this.2.2.2.2.1⟩
   ·have := (h.never z hz).1; exact ⟨this.1, this.2.1, this.2.2.1⟩
  ·have := h.goal z hz; exact ⟨this.1, this.2.1, this.2.2.1⟩
 unfold checkE
 rw [h.links]
 dsimp only
 rw [h.roles, Int.toNat_natCast, hm, if_neg (by have := h.r2; omega), if_neg (by have := h.rlen; have := h.nlen; have := h.glen; omega), if_neg, if_neg, if_neg]
 ·unfold goodB
  rw [h.links]
  dsimp only
  intro e
  rw [Bool.not_eq_false', List.any_eq_true] at e
  obtain ⟨z, hz, e⟩ := e
  rw [(h.never z hz).2] at e; cases e
 ·rintro (e | e)
  ·obtain ⟨z, hz, e⟩ := List.any_eq_true.1 e
   rw [(hc z hz).2.2] at e; cases e
  ·have : p.rules.all revB = true := List.all_eq_true.2 fun r hr => by
    unfold revB
    cases hr' : r.revoke with
    | false => rfl
    | true =>
     have := (h.rules r hr).2.2.2.2.2.2.2 hr'
     simp [this]
   rw [this] at e; cases e
 ·have : E8 p L (Be R) = true := by
   unfold E8
   rw [Bool.and_eq_true, Bool.and_eq_true, Bool.and_eq_true]
   refine ⟨by rw [h.start]; simp, List.all_eq_true.2 fun z hz => ?_, List.all_eq_true.2 fun r hr => ?_, List.all_eq_true.2 fun z hz => over_of (hc z hz).1 (hc z hz).2.1⟩
   ·have := h.inr z hz
    rw [Bool.and_eq_true]
    exact ⟨Ie hR (by omega) (by omega), Ie hR (by omega) (by omega)⟩
   ·have := (h.rules r hr).1
    exact Ie hR (by omega) (by omega)
  rw [this]; exact nofun
theorem relM_lt (L : List (Nat × Nat)) (p : Ah) : relM L p < Bc := by rw [BC]; exact FY _ _
end
section
open Go.RowKit
attribute [local go_sem ↓] Go.wp_at_zero Go.wp_at_succ
set_option maxRecDepth 20000
set_option exponentiation.threshold 5000
theorem mask_with {R N t : Nat} (hR : R <= 5) (hN : N &&& Be R = N) (h1 : 1 <= t) (h2 : t <= R) : BF N (t : Int) &&& Be R = BF N (t : Int) := by
 rw [<- Dv (by omega)]
 refine AZ fun i => ?_
 have hN' : (N &&& Be R).testBit i = N.testBit i := by rw [hN]
 rw [Nat.testBit_and] at hN'
 rw [Nat.testBit_and, Nat.testBit_or, Nat.testBit_two_pow]
 by_cases e : t = i
 ·subst e
  rw [IY R (by omega) t (by omega) h1 h2]; simp
 ·simp only [e, decide_false, Bool.or_false]
  exact Bool.eq_iff_iff.1 hN'
theorem mask_del {R N : Nat} (t : Int) (hN : N &&& Be R = N) : del N t &&& Be R = del N t := by
 unfold del
 split
 ·rename_i hb
  refine AZ fun i => ?_
  have hN' : (N &&& Be R).testBit i = N.testBit i := by rw [hN]
  rw [Nat.testBit_and] at hN'
  have hb' : N.testBit t.toNat = true := by unfold Bk at hb; simp only [Bool.and_eq_true] at hb; exact hb.2
  rw [Nat.testBit_and, Nat.testBit_xor, Nat.testBit_two_pow]
  by_cases e : t.toNat = i
  ·rw [e] at hb' ⊢; simp [hb']
  ·simp only [e, decide_false, Bool.xor_false]; exact Bool.eq_iff_iff.1 hN'
 ·exact hN
theorem Jb {p : Ah} {L : List (Nat × Nat)} {R N M : Nat} {k : Int} (hM : Bp p L R) (hN : N &&& Be R = N) (h : stepM p N k = some M) : M &&& Be R = M := by
 unfold stepM at h
 split at h
 ·rename_i hk
  split at h
  ·injection h with h
   subst h
   have hj : k.toNat < p.rules.length := by omega
   have hz := hM.rules _ (List.mem_of_getElem? (B9 AC hj))
   generalize p.rules.getD k.toNat AC = z at *
   unfold Hg
   split
   ·exact mask_del _ hN
   ·have h1 := hz.1
    have := mask_with (t := z.target.toNat) hM.r5 hN (by omega) (by omega)
    rwa [show ((z.target.toNat : Nat) : Int) = z.target by omega] at this
  ·cases h
 ·cases h
theorem mask_lt {R N : Nat} (hR : R <= 5) (hN : N &&& Be R = N) : N < 64 := by
 have h1 : Be R <= 62 := by
  have : ∀ R, R < 6 -> Be R <= 62 := by decide
  exact this R (by omega)
 have h2 : N &&& Be R <= Be R := Nat.and_le_right
 omega
end
section
open Go.RowKit
attribute [local go_sem ↓] Go.wp_at_zero Go.wp_at_succ
set_option maxRecDepth 20000
set_option exponentiation.threshold 5000
theorem andnot_zero {y C : Nat} (hy : y < Bc) (hC : C < Bc) : (y &&& BN C = 0) ↔ (y &&& C == y) = true := by
 rw [BK]
 constructor
 ·intro h i hi
  have : (y &&& BN C).testBit i = false := by rw [h]; simp
  rw [Nat.testBit_and, hi, J9 hC] at this
  have h64 : i < 64 := by
   rcases Nat.lt_or_ge i 64 with h1 | h1
   ·exact h1
   ·rw [DV hy h1] at hi; cases hi
  simpa [h64] using this
 ·intro h
  refine AZ fun i => ?_
  rw [Nat.testBit_and, J9 hC, Nat.zero_testBit]
  cases hi : y.testBit i
  ·simp
  ·simp [h i hi]
theorem withN_sub {N T : Nat} {t : Nat} (h : C9 N T) (ht : T.testBit t = true) (h64 : t < 64) : C9 (BF N (t : Int)) T := by
 rw [<- Dv h64]
 exact h.or fun i hi => by
  have e : i = t := Do.1 hi
  subst e; exact ht
theorem del_sub {N : Nat} (i : Int) : C9 (del N i) N := fun k hk => by
 unfold del at hk
 split at hk
 ·rename_i hb
  have hb' : N.testBit i.toNat = true := by unfold Bk at hb; simp only [Bool.and_eq_true] at hb; exact hb.2
  rw [Nat.testBit_xor, Nat.testBit_two_pow] at hk
  by_cases e : i.toNat = k
  ·rw [<- e]; exact hb'
  ·simpa [e] using hk
 ·exact hk
theorem Rch.upper {p : Ah} {L : List (Nat × Nat)} {R T s : Nat} (hM : Bp p L R) (hT : UCl L p T) (h : Rch p s) : C9 s T := by
 induction h with
 | start => exact hT.start
 | @step N M k hN hk ih =>
  unfold stepM at hk
  split at hk
  ·rename_i hr
   split at hk
   ·rename_i hb
    injection hk with hk
    subst hk
    have hj : k.toNat < p.rules.length := by omega
    have hm := List.mem_of_getElem? (B9 AC hj)
    have hz := hM.rules _ hm
    have hu := hT.rules _ hm
    generalize p.rules.getD k.toNat AC = z at *
    unfold Hg
    split
    ·exact (del_sub _).trans ih
    ·rename_i hv
     have hv' : z.revoke = false := by simpa using hv
     have h1 := hz.1
     have h5 := hM.r5
     have hh : B0 (z.yes, z.no) (closM L N) = true := by
      unfold stepB closP at hb
      rw [hv', hM.links] at hb
      cases h : B0 (z.yes, z.no) (closM L N)
      ·simp [h] at hb
      ·rfl
     have hy : C9 z.yes (closM L N) := BK.1 (by
      unfold B0 at hh
      simp only [Bool.and_eq_true] at hh
      exact hh.1)
     have := hu hv' (BK.2 (hy.trans ih.clos))
     obtain ⟨t, ht⟩ : ∃ t : Nat, z.target = (t : Int) := ⟨z.target.toNat, by omega⟩
     rw [ht, CM] at this
     rw [ht]
     exact withN_sub ih this (by omega)
   ·cases hk
  ·cases hk
end
section
open Go.RowKit
set_option exponentiation.threshold 5000
theorem Ew.sub {L : List (Nat × Nat)} {p : Ah} {T : Nat} (h : Ew L p T) : C9 (relM L p) T := fun i hi => by
 rw [relM, Bf] at hi; exact hi.2 T h
theorem rel_sub {L : List (Nat × Nat)} {p : Ah} {N : Nat} (hN : N < 2 ^ 64) (h : ∀ T, Ew L p T -> C9 N T) : C9 N (relM L p) := fun i hi => by
 rw [relM, Bf]
 refine ⟨?_, fun T hT => h T hT i hi⟩
 rcases Nat.lt_or_ge i 64 with h1 | h1
 ·exact h1
 ·rw [Nat.testBit_lt_two_pow (Nat.lt_of_lt_of_le hN (Nat.pow_le_pow_right (by decide) h1))] at hi; cases hi
theorem CN (L : List (Nat × Nat)) (p : Ah) : Ew L p (relM L p) :=
 ⟨fun c hc => rel_sub (F6 _ _) fun T hT => hT.goal c hc, fun r hr h1 h2 => rel_sub (F6 _ _) fun T hT => hT.rules r hr h1 (hT.sub.has h2), fun c hc h2 => rel_sub (F6 _ _) fun T hT => hT.never c hc (hT.sub.meets h2)⟩
theorem clos_at {L : List (Nat × Nat)} (hH : Fd L) {s r : Nat} (h1 : 1 <= r) (h2 : r < 64) : (closM L s).testBit r = true ↔ ∃ i, s.testBit i = true /\ (senM L r).testBit i = true := by
 rw [Fj]
 constructor
 ·rintro ⟨i, h3, h4, h5, h6⟩
  refine ⟨i, h5, ?_⟩
  rw [Fi hH.inr]
  rw [junM, Bf] at h6
  exact h6.2.imp Eq.symm id
 ·rintro ⟨i, h3, h4⟩
  rw [Fi hH.inr] at h4
  have hi : 1 <= i /\ i < 64 := by
   rcases h4 with rfl | h4
   ·exact ⟨h1, h2⟩
   ·have := tc_role hH h4; omega
  refine ⟨i, hi.2, hi.1, h3, ?_⟩
  rw [junM, Bf]
  exact ⟨h2, h4.imp Eq.symm id⟩
theorem clos_none {L : List (Nat × Nat)} (hH : Fd L) {s r : Nat} (h : ¬ (1 <= r /\ r < 64)) : (closM L s).testBit r = false := by
 cases e : (closM L s).testBit r with
 | false => rfl
 | true =>
  obtain ⟨i, h3, h4, h5, h6⟩ := Fj.1 e
  rw [junM, Bf] at h6
  rcases h6.2 with rfl | h7
  ·exact absurd ⟨h4, h3⟩ h
  ·have := tc_role hH h7; omega
theorem Ek {L : List (Nat × Nat)} (hH : Fd L) {S s t : Nat} (hst : ∀ i, S.testBit i = true -> (s.testBit i = true ↔ t.testBit i = true)) {z : Nat × Nat} (hz : C9 (depC L z) S) : B0 z (closM L s) = B0 z (closM L t) := by
 have key : ∀ m : Nat, (∀ i, m.testBit i = true -> (z.1 ||| z.2).testBit i = true) -> m &&& closM L s = m &&& closM L t := fun m hm => AZ fun r => by
  rw [Nat.testBit_and, Nat.testBit_and, Bool.and_eq_true, Bool.and_eq_true]
  refine and_congr_right fun hr => ?_
  by_cases hr2 : 1 <= r /\ r < 64
  ·rw [clos_at hH hr2.1 hr2.2, clos_at hH hr2.1 hr2.2]
   have hs : ∀ i, (senM L r).testBit i = true -> S.testBit i = true := fun i hi => hz i ((Gm hH.inr).2 ⟨r, hr2.1, hr2.2, hm r hr, hi⟩)
   exact exists_congr fun i => ⟨fun h => ⟨(hst i (hs i h.2)).1 h.1, h.2⟩, fun h => ⟨(hst i (hs i h.2)).2 h.1, h.2⟩⟩
  ·rw [clos_none hH hr2, clos_none hH hr2]
 unfold B0
 rw [key z.1 fun i h => Cx.2 (.inl h), key z.2 fun i h => Cx.2 (.inr h)]
theorem any_agree {L : List (Nat × Nat)} (hH : Fd L) {S s t : Nat} (hst : ∀ i, S.testBit i = true -> (s.testBit i = true ↔ t.testBit i = true)) {l : List (Nat × Nat)} (hl : ∀ z ∈ l, C9 (depC L z) S) : (l.any fun z => B0 z (closM L s)) = l.any fun z => B0 z (closM L t) := by
 induction l with
 | nil => rfl
 | cons z r ih =>
  rw [List.any_cons, List.any_cons, Ek hH hst (hl z (List.mem_cons_self ..)), ih fun y hy => hl y (List.mem_cons_of_mem _ hy)]
theorem keptN {p : Ah} {L : List (Nat × Nat)} : ∀ z ∈ keepC L (relM L p) p.never, C9 (depC L z) (relM L p) := fun z hz => by
 obtain ⟨h1, h2⟩ := List.mem_filter.1 hz
 exact (CN L p).never z h1 h2
end
section
open Go.RowKit
set_option exponentiation.threshold 5000
theorem ofE' {p : Ah} {L : List (Nat × Nat)} {R : Nat} (h : Bp p L R) : ofP p = ⟨p.roles, p.links, p.start &&& relM L p, Dn (relM L p) p.rules, keepC L (relM L p) p.never, p.goal⟩ := by
 unfold ofP; rw [if_pos h.check, h.links]
theorem Bp.slice {p : Ah} {L : List (Nat × Nat)} {R : Nat} (h : Bp p L R) : Bp (ofP p) L R := by
 rw [ofE' h]
 refine ⟨h.links, h.roles, h.r2, h.r5, h.hok, h.inr, h.len, ?_, Nat.le_trans (List.length_filter_le _ _) h.rlen, fun z hz => h.rules z (List.mem_filter.1 hz).1, Nat.le_trans (List.length_filter_le _ _) h.nlen, fun z hz => ?_, h.glen, h.gpos, h.goal⟩
 ·show p.start &&& relM L p &&& Be R = p.start &&& relM L p
  rw [Nat.and_assoc, Nat.and_comm (relM L p), <- Nat.and_assoc, h.start]
 ·have hk := h.never z (List.mem_filter.1 hz).1
  refine ⟨hk.1, ?_⟩
  rw [<- hk.2]
  exact (Ek h.hok (S := relM L p) (fun i hi => by show p.start.testBit i = true ↔ (p.start &&& relM L p).testBit i = true; rw [Nat.testBit_and, hi]; simp) (keptN z hz)).symm
theorem rel_slice {p : Ah} {L : List (Nat × Nat)} {R : Nat} (h : Bp p L R) : relM L (ofP p) = relM L p := by
 have h1 : Ew L (ofP p) (relM L p) := by
  rw [ofE' h]
  exact ⟨(CN L p).goal, fun r hr => (CN L p).rules r (List.mem_filter.1 hr).1, fun c hc => (CN L p).never c (List.mem_filter.1 hc).1⟩
 refine C9.anti h1.sub ?_
 have h2 := CN L (ofP p)
 have hs : C9 (relM L (ofP p)) (relM L p) := h1.sub
 have h3 : Ew L p (relM L (ofP p)) := by
  refine ⟨fun c hc => h2.goal c (by rw [ofE' h]; exact hc), fun r hr a b => h2.rules r (by rw [ofE' h]; exact List.mem_filter.2 ⟨hr, hs.has b⟩) a b, fun c hc a => h2.never c (by rw [ofE' h]; exact List.mem_filter.2 ⟨hc, hs.meets a⟩) a⟩
 exact h3.sub
end
section
open Go.RowKit
set_option exponentiation.threshold 5000
section
variable {p : Ah} {L : List (Nat × Nat)} {R A k i : Nat}
theorem goal_sub {z : Nat × Nat} (hz : z ∈ p.goal) : C9 (depC L z) (relM L p) := (CN L p).goal z hz
theorem agr (S A : Nat) : ∀ i, S.testBit i = true -> (A.testBit i = true ↔ (A &&& S).testBit i = true) := fun i hi => by rw [Nat.testBit_and, hi]; simp
theorem Iq (hM : Bp p L R) : reachB p A = reachB (ofP p) (A &&& relM L p) := by
 unfold reachB
 rw [hM.links, hM.slice.links, ofE' hM]
 exact any_agree hM.hok (agr _ _) fun z hz => goal_sub hz
end
noncomputable def runTo (p : Ah) : Nat -> Nat -> List Int -> Nat × Nat × Bool
 | N, n, [] => (N, n, true)
 | N, n, k :: r => match stepM p N k with
  | none => (N, n, false)
  | some M => runTo p M (n + 1) r
theorem EU {p : Ah} {N M n : Nat} {k : Int} {r : List Int} (h : stepM p N k = some M) : runTo p N n (k :: r) = runTo p M (n + 1) r := by rw [runTo, h]
theorem Jn {p : Ah} {N n : Nat} {k : Int} {r : List Int} (h : stepM p N k = none) : runTo p N n (k :: r) = (N, n, false) := by rw [runTo, h]
theorem Jo {p : Ah} {k : Int} {M M' : Nat} : ∀ {l : List Int} {N n m : Nat}, runTo p N n l = (M, m, true) -> stepM p M k = some M' -> runTo p N n (l ++ [k]) = (M', m + 1, true)
 | [], N, n, m, h, hk => by
  simp only [runTo, Prod.mk.injEq] at h
  obtain ⟨rfl, rfl, _⟩ := h
  show runTo p N n [k] = _
  rw [EU hk]; rfl
 | j :: r, N, n, m, h, hk => by
  cases hj : stepM p N j with
  | none => rw [Jn hj] at h; simp at h
  | some N' =>
   rw [EU hj] at h
   show runTo p N n (j :: (r ++ [k])) = _
   rw [EU hj]
   exact Jo h hk
theorem Ik {p : Ah} {N M : Nat} {k : Int} (h : stepM p N k = some M) : ∃ j : Nat, k = (j : Int) /\ j < p.rules.length := by
 unfold stepM at h
 split at h
 ·rename_i hk
  exact ⟨k.toNat, by omega, by omega⟩
 ·cases h
section
variable {p : Ah} {L : List (Nat × Nat)} {R : Nat}
end
end
section
open Go.RowKit
attribute [local go_sem ↓] Go.wp_at_zero Go.wp_at_succ
set_option maxRecDepth 20000
set_option exponentiation.threshold 5000
open Classical in
noncomputable def rchB (p : Ah) : Bool := decide (∃ s, Rch p s /\ reachB p s = true)
open Classical in
theorem rchB_true {p : Ah} (h : ∃ s, Rch p s /\ reachB p s = true) : rchB p = true := by unfold rchB; exact decide_eq_true h
open Classical in
theorem rchB_false {p : Ah} (h : ∀ s, Rch p s -> reachB p s = false) : rchB p = false := by
 unfold rchB
 exact decide_eq_false fun ⟨s, h1, h2⟩ => by rw [h s h1] at h2; cases h2
def Dx (l : List (Nat × Nat)) (s : Nat) : Bool := l.any fun z => B0 z s
structure Inv (p : Ah) (R : Nat) (l : List (Nat × Nat)) : Prop where
 start : Dx l p.start = false
 goal : ∀ n, n < 2 ^ R -> Dx l (n * 2) = false -> goodB p (n * 2) = true -> reachB p (n * 2) = false
 step : ∀ n, n < 2 ^ R -> Dx l (n * 2) = false -> goodB p (n * 2) = true -> ∀ (k : Nat) t, stepM p (n * 2) (k : Nat) = some t -> Dx l t = false
open Classical in
noncomputable def invB (p : Ah) (R : Nat) (l : List (Nat × Nat)) : Bool := decide (Inv p R l)
open Classical in
theorem invB_true {p : Ah} {R : Nat} {l : List (Nat × Nat)} (h : Inv p R l) : invB p R l = true := by unfold invB; exact decide_eq_true h
open Classical in
theorem Gt {p : Ah} {R : Nat} {l : List (Nat × Nat)} (h : ¬ Inv p R l) : invB p R l = false := by unfold invB; exact decide_eq_false h
theorem IX {P : Program} {w : World} {t : TypeId} {n : Nat} (hn : n < 1000) : (binOp .mul t (.int .u64 (n : Nat)) (.int .u64 2)).run P w = .ok (.int .u64 ((n * 2 : Nat) : Int)) w := by
 go_simp
 rw [show (n : Int) * 2 = ((n * 2 : Nat) : Int) by omega]
 exact EO (by unfold Bc; omega)
theorem Fp {P : Program} {w : World} {t : TypeId} {n : Nat} (hn : n < 1000) : (binOp .add t (.int .u64 (n : Nat)) (.int .u64 1)).run P w = .ok (.int .u64 ((n + 1 : Nat) : Int)) w := by
 go_simp
 rw [show (n : Int) + 1 = ((n + 1 : Nat) : Int) by omega]
 exact EO (by unfold Bc; omega)
structure InvT (p : Ah) (l : List (Nat × Nat)) (n : Nat) : Prop where
 goal : ∀ m, m < n -> Dx l (m * 2) = false -> goodB p (m * 2) = true -> reachB p (m * 2) = false
 step : ∀ m, m < n -> Dx l (m * 2) = false -> goodB p (m * 2) = true -> ∀ (k : Nat) t, stepM p (m * 2) (k : Nat) = some t -> Dx l t = false
theorem InvT.zero {p : Ah} {l : List (Nat × Nat)} : InvT p l 0 := ⟨fun _ h => absurd h (by omega), fun _ h => absurd h (by omega)⟩
theorem InvT.next {p : Ah} {l : List (Nat × Nat)} {n : Nat} (h : InvT p l n) (h1 : Dx l (n * 2) = false -> goodB p (n * 2) = true -> reachB p (n * 2) = false /\ ∀ (k : Nat) t, stepM p (n * 2) (k : Nat) = some t -> Dx l t = false) : InvT p l (n + 1) :=
 ⟨fun m hm a b => (Nat.lt_succ_iff_lt_or_eq.1 hm).elim (fun hm => h.goal m hm a b) fun e => by subst e; exact (h1 a b).1, fun m hm a b => (Nat.lt_succ_iff_lt_or_eq.1 hm).elim (fun hm => h.step m hm a b) fun e => by subst e; exact (h1 a b).2⟩
theorem dbl_mask : ∀ R, R < 6 -> ∀ n, n < 32 -> n < 2 ^ R -> (n * 2) &&& Be R = n * 2 := by decide
set_option maxHeartbeats 4000000 in
theorem rinv_any {w0 : World} {D E : Nat -> Prop} {v cv : Value} {p : Ah} {L : List (Nat × Nat)} {R : Nat} {l : List (Nat × Nat)} (hp : Bi w0 D v p) (hM : Bp p L R) (hc : BJ w0 E cv l) (hsm : Small l) :
  Calls Tryz.prog 44 #[v, cv] w0 (AP (fun x _ => x = .bool (invB p R l)) w0) := by
 obtain ⟨R', lk, st, rl, nl, gl⟩ := p
 obtain rfl : lk = some L := hM.links
 obtain rfl : R' = (R : Int) := hM.roles
 obtain ⟨Al, cl, Ar, cr, An, cn, Ag, cg, rfl⟩ := BZ hp
 obtain ⟨Ac, cc, rfl, _, _⟩ := hc.shape
 obtain ⟨K, kp, kc, hS⟩ : ∃ K : (Nat -> Prop) -> World -> Prop, (∀ D w, K D w -> Bi w D (.agg #[.int .i64 (R : Nat), .slice Al L.length cl, .int .u64 (st : Nat), .slice Ar rl.length cr, .slice An nl.length cn, .slice Ag gl.length cg]) ⟨(R : Int), some L, st, rl, nl, gl⟩) /\ (∀ D w, K D w -> BJ w D (.slice Ac l.length cc) l) /\ St w0 w0 [] K := ⟨fun D w => Bi w D (.agg #[.int .i64 (R : Nat), .slice Al L.length cl, .int .u64 (st : Nat), .slice Ar rl.length cr, .slice An nl.length cn, .slice Ag gl.length cg]) ⟨(R : Int), some L, st, rl, nl, gl⟩ /\ BJ w D (.slice Ac l.length cc) l, fun _ _ h => h.1, fun _ _ h => h.2, St.start (D := fun _ => True) (Bo.and D0) ⟨Bo D _ w0 w0 hp (Nat.le_refl _) (fun _ _ _ _ h => h) fun _ _ _ _ => trivial, hc.imp fun _ _ _ => trivial⟩⟩
 have HM := Lib.hid hM
 have HK := Lib.hid kp
 have HSM := Lib.hid hsm
 have HC := Lib.hid (fun D w (h : K D w) (s : Nat) (hs : s < Bc) => (show Calls Tryz.prog 81 #[.slice Ac l.length cc, .int .u64 (s : Nat)] w (AP (fun x _ => x = .bool (Dx l s)) w) from Id (kc D w h) hsm hs))
 have hst : st < Bc := hM.fits.start
 have hr5 := hM.r5
 have hr6 : rl.length <= 6 := hM.rlen
 clear hp hM kp kc hc hsm
 obtain ⟨s0, hs0⟩ : ∃ b, Dx l st = b := ⟨_, rfl⟩
 have HS0 := Lib.hid hs0
 clear hs0
 obtain ⟨P2, hP2⟩ : ∃ P2, 2 ^ R = P2 := ⟨_, rfl⟩
 have h32 : P2 <= 32 := by rw [<- hP2]; exact Nat.pow_le_pow_right (n := 2) (by decide) hr5
 have HP2 := Lib.hid hP2
 have HSH := Lib.hid (fun (w : World) => (show (binOp .shl 33 (.int .u64 1) (.int .i64 (R : Nat))).run Tryz.prog w = .ok (.int .u64 (P2 : Nat)) w by
  have := GW (P := Tryz.prog) (w := w) (t := 33) (r := R) (e := (R : Int)) (by omega)
  rwa [Nat.mod_eq_of_lt (by omega), hP2] at this))
 clear hP2
 cases s0
 ·go_enter Tryz.func44, Tryz.ntmps44
  go_wp2_with (first
   | ((with_reducible refine qA 2 ?_); refine Az hS rfl _ _ rfl (.agg #[.int .i64 (R : Nat), .slice Al L.length cl, .int .u64 (st : Nat), .slice Ar rl.length cr, .slice An nl.length cn, .slice Ag gl.length cg]) _ rfl rfl ?_; clear hS; intro g2 w_ hS; (try simp only [Act.put, Act.eval, zz, Value.cells] at hS))
   | ((with_reducible refine qK ?_); refine qC hS ?_)
   | (go_at_call 81; refine (HC.out _ _ hS.ro st hst).mono ?_; rw [HS0.out]; rintro r_ w_ ⟨_, rfl, rfl, hb_⟩; replace hS := hS.ext hb_; clear hb_))
  go_loopw [5] (fun nv wr => ∃ n : Nat, nv = .int .u64 (n : Nat) /\ n <= P2 /\ Hid (InvT ⟨(R : Int), some L, st, rl, nl, gl⟩ l n) /\ St w0 wr [.box g2 37 #[.int .i64 (R : Nat), .slice Al L.length cl, .int .u64 (st : Nat), .slice Ar rl.length cr, .slice An nl.length cn, .slice Ag gl.length cg]] K) (fun n _ => P2 - (intOf n).toNat)
  case atStart => exact ⟨0, rfl, by omega, Lib.hid InvT.zero, hS⟩
  case round =>
   clear hS
   obtain ⟨n, rfl, hn, HI, hS⟩ := hrel
   by_cases hnl : n < P2
   ·have hn64 : n * 2 < Bc := by unfold Bc; omega
    obtain ⟨b1, hb1⟩ : ∃ b, Dx l (n * 2) = b := ⟨_, rfl⟩
    obtain ⟨b2, hb2⟩ : ∃ b, goodB ⟨(R : Int), some L, st, rl, nl, gl⟩ (n * 2) = b := ⟨_, rfl⟩
    obtain ⟨b3, hb3⟩ : ∃ b, reachB ⟨(R : Int), some L, st, rl, nl, gl⟩ (n * 2) = b := ⟨_, rfl⟩
    have HB1 := Lib.hid hb1
    have HB2 := Lib.hid hb2
    have HB3 := Lib.hid hb3
    clear hb1 hb2 hb3
    cases b1
    ·cases b2
     ·go_wp2_with (first
     | ((with_reducible refine qA 17 ?_); refine BigFrame.wpList_want rfl fun _ hK => AE (v := .int .u64 (P2 : Nat)) rfl rfl rfl rfl (HSH.out _) (hK _ _ ?_))
     | ((with_reducible refine qA 22 ?_); refine BigFrame.wpList_want rfl fun _ hK => AE (v := .int .u64 ((n * 2 : Nat) : Int)) rfl rfl rfl rfl (IX (by omega)) (hK _ _ ?_))
     | ((with_reducible refine qA 20 ?_); refine BigFrame.wpList_want rfl fun _ hK => AE (v := .int .u64 ((n + 1 : Nat) : Int)) rfl rfl rfl rfl (Fp (by omega)) (hK _ _ ?_))
     | ((with_reducible refine qA 27 ?_); refine BigFrame.wpList_want rfl fun _ hK => AK rfl rfl (hS.box 0 rfl) Tryz.underlying37 rfl (by kernel_rfl) (hK _ _ ?_))
     | ((with_reducible refine qA 32 ?_); refine BigFrame.wpList_want rfl fun _ hK => AK rfl rfl (hS.box 0 rfl) Tryz.underlying37 rfl (by kernel_rfl) (hK _ _ ?_))
     | ((with_reducible refine qB ?_); refine qc ?_ ?_ <;> intro h_ <;> go_prune)
     | ((with_reducible refine qK ?_); refine qC hS ?_)
     | (go_at_call 81; refine (HC.out _ _ hS.ro (n * 2) hn64).mono ?_; rw [HB1.out]; rintro r_ w_ ⟨_, rfl, rfl, hb_⟩; replace hS := hS.ext hb_; clear hb_)
     | (go_at_call 82; refine (DA (s := n * 2) (HK.out _ _ hS.ro) HM.out).mono ?_; rw [HB2.out]; rintro r_ w_ ⟨_, rfl, rfl, hb_⟩; replace hS := hS.ext hb_; clear hb_)
     | (go_at_call 61; refine (CU (s := n * 2) (HK.out _ _ hS.ro) HM.out).mono ?_; rw [HB3.out]; rintro r_ w_ ⟨_, rfl, rfl, hb_⟩; replace hS := hS.ext hb_; clear hb_))
      exact ⟨⟨n + 1, rfl, hnl, Lib.hid (HI.out.next fun _ b => by rw [HB2.out] at b; cases b), hS⟩, by simp [intOf]; omega⟩
     ·cases b3
      ·go_wp2_with (first
     | ((with_reducible refine qA 17 ?_); refine BigFrame.wpList_want rfl fun _ hK => AE (v := .int .u64 (P2 : Nat)) rfl rfl rfl rfl (HSH.out _) (hK _ _ ?_))
     | ((with_reducible refine qA 22 ?_); refine BigFrame.wpList_want rfl fun _ hK => AE (v := .int .u64 ((n * 2 : Nat) : Int)) rfl rfl rfl rfl (IX (by omega)) (hK _ _ ?_))
     | ((with_reducible refine qA 20 ?_); refine BigFrame.wpList_want rfl fun _ hK => AE (v := .int .u64 ((n + 1 : Nat) : Int)) rfl rfl rfl rfl (Fp (by omega)) (hK _ _ ?_))
     | ((with_reducible refine qA 27 ?_); refine BigFrame.wpList_want rfl fun _ hK => AK rfl rfl (hS.box 0 rfl) Tryz.underlying37 rfl (by kernel_rfl) (hK _ _ ?_))
     | ((with_reducible refine qA 32 ?_); refine BigFrame.wpList_want rfl fun _ hK => AK rfl rfl (hS.box 0 rfl) Tryz.underlying37 rfl (by kernel_rfl) (hK _ _ ?_))
     | ((with_reducible refine qB ?_); refine qc ?_ ?_ <;> intro h_ <;> go_prune)
     | ((with_reducible refine qK ?_); refine qC hS ?_)
     | (go_at_call 81; refine (HC.out _ _ hS.ro (n * 2) hn64).mono ?_; rw [HB1.out]; rintro r_ w_ ⟨_, rfl, rfl, hb_⟩; replace hS := hS.ext hb_; clear hb_)
     | (go_at_call 82; refine (DA (s := n * 2) (HK.out _ _ hS.ro) HM.out).mono ?_; rw [HB2.out]; rintro r_ w_ ⟨_, rfl, rfl, hb_⟩; replace hS := hS.ext hb_; clear hb_)
     | (go_at_call 61; refine (CU (s := n * 2) (HK.out _ _ hS.ro) HM.out).mono ?_; rw [HB3.out]; rintro r_ w_ ⟨_, rfl, rfl, hb_⟩; replace hS := hS.ext hb_; clear hb_))
       go_loopw [38] (fun iv wr => ∃ j : Nat, iv = .int .i64 (j : Nat) /\ j <= rl.length /\ Hid (∀ (k : Nat) t, k < j -> stepM ⟨(R : Int), some L, st, rl, nl, gl⟩ (n * 2) (k : Nat) = some t -> Dx l t = false) /\ St w0 wr [.box g2 37 #[.int .i64 (R : Nat), .slice Al L.length cl, .int .u64 (st : Nat), .slice Ar rl.length cr, .slice An nl.length cn, .slice Ag gl.length cg]] K) (fun i _ => rl.length - (intOf i).toNat)
       case atStart => exact ⟨0, rfl, by omega, Lib.hid fun _ _ h => absurd h (by omega), hS⟩
       case round =>
        clear hS
        obtain ⟨j, rfl, hj, HJ, hS⟩ := hrel
        by_cases hlj : j < rl.length
        ·obtain ⟨V, hV⟩ : ∃ V, stepM ⟨(R : Int), some L, st, rl, nl, gl⟩ (n * 2) (j : Nat) = V := ⟨_, rfl⟩
         have HV := Lib.hid hV
         clear hV
         cases V with
         | none =>
          go_wp2_with (first
           | ((with_reducible refine qA 42 ?_); refine BigFrame.wpList_want rfl fun _ hK => AK rfl rfl (hS.box 0 rfl) Tryz.underlying37 rfl (by kernel_rfl) (hK _ _ ?_))
           | ((with_reducible refine qB ?_); refine qc ?_ ?_ <;> intro h_ <;> go_prune)
           | (go_at_call 58; refine (Dy (N := n * 2) (j : Nat) (HK.out _ _ hS.ro) HM.out hn64).mono ?_; rw [HV.out]; rintro r_ w_ ⟨_, rfl, rfl, hb_⟩; replace hS := hS.ext hb_; clear hb_)
           | (go_at_call 81; refine (HC.out _ _ hS.ro t ht64).mono ?_; rw [HB4.out]; rintro r_ w_ ⟨_, rfl, rfl, hb_⟩; replace hS := hS.ext hb_; clear hb_))
          exact ⟨⟨j + 1, by go_num, hlj, Lib.hid fun k t hk ht => (Nat.lt_succ_iff_lt_or_eq.1 hk).elim (fun hk => HJ.out k t hk ht) fun e => (by subst e; rw [HV.out] at ht; cases ht), hS⟩, by simp [intOf]; omega⟩
         | some t =>
          have ht64 : t < Bc := by
           have := mask_lt hr5 (Jb HM.out (dbl_mask R (by omega) n (by omega) (by rw [HP2.out]; exact hnl)) HV.out)
           unfold Bc; omega
          obtain ⟨b4, hb4⟩ : ∃ b, Dx l t = b := ⟨_, rfl⟩
          have HB4 := Lib.hid hb4
          clear hb4
          cases b4
          ·go_wp2_with (first
           | ((with_reducible refine qA 42 ?_); refine BigFrame.wpList_want rfl fun _ hK => AK rfl rfl (hS.box 0 rfl) Tryz.underlying37 rfl (by kernel_rfl) (hK _ _ ?_))
           | ((with_reducible refine qB ?_); refine qc ?_ ?_ <;> intro h_ <;> go_prune)
           | (go_at_call 58; refine (Dy (N := n * 2) (j : Nat) (HK.out _ _ hS.ro) HM.out hn64).mono ?_; rw [HV.out]; rintro r_ w_ ⟨_, rfl, rfl, hb_⟩; replace hS := hS.ext hb_; clear hb_)
           | (go_at_call 81; refine (HC.out _ _ hS.ro t ht64).mono ?_; rw [HB4.out]; rintro r_ w_ ⟨_, rfl, rfl, hb_⟩; replace hS := hS.ext hb_; clear hb_))
           exact ⟨⟨j + 1, by go_num, hlj, Lib.hid fun k t' hk ht => (Nat.lt_succ_iff_lt_or_eq.1 hk).elim (fun hk => HJ.out k t' hk ht) fun e => (by subst e; rw [HV.out] at ht; injection ht with ht; subst ht; exact HB4.out), hS⟩, by simp [intOf]; omega⟩
          ·go_wp2_with (first
           | ((with_reducible refine qA 42 ?_); refine BigFrame.wpList_want rfl fun _ hK => AK rfl rfl (hS.box 0 rfl) Tryz.underlying37 rfl (by kernel_rfl) (hK _ _ ?_))
           | ((with_reducible refine qB ?_); refine qc ?_ ?_ <;> intro h_ <;> go_prune)
           | (go_at_call 58; refine (Dy (N := n * 2) (j : Nat) (HK.out _ _ hS.ro) HM.out hn64).mono ?_; rw [HV.out]; rintro r_ w_ ⟨_, rfl, rfl, hb_⟩; replace hS := hS.ext hb_; clear hb_)
           | (go_at_call 81; refine (HC.out _ _ hS.ro t ht64).mono ?_; rw [HB4.out]; rintro r_ w_ ⟨_, rfl, rfl, hb_⟩; replace hS := hS.ext hb_; clear hb_))
           go_ret
           exact AP.mk (by rw [Gt fun h => by have := h.step n (by rw [HP2.out]; exact hnl) HB1.out HB2.out j t HV.out; rw [HB4.out] at this; cases this]; rfl) hS.below
        ·obtain rfl : j = rl.length := by omega
         go_wp2_with (first
          | ((with_reducible refine qA 20 ?_); refine BigFrame.wpList_want rfl fun _ hK => AE (v := .int .u64 ((n + 1 : Nat) : Int)) rfl rfl rfl rfl (Fp (by omega)) (hK _ _ ?_))
          | ((with_reducible refine qB ?_); refine qc ?_ ?_ <;> intro h_ <;> go_prune))
         exact ⟨⟨n + 1, rfl, hnl, Lib.hid (HI.out.next fun _ _ => ⟨HB3.out, fun k t hk => by
          obtain ⟨k', e, hk'⟩ := Ik hk
          obtain rfl : k = k' := by omega
          exact HJ.out k t hk' hk⟩), hS⟩, by simp [intOf]; omega⟩
      ·go_wp2_with (first
     | ((with_reducible refine qA 17 ?_); refine BigFrame.wpList_want rfl fun _ hK => AE (v := .int .u64 (P2 : Nat)) rfl rfl rfl rfl (HSH.out _) (hK _ _ ?_))
     | ((with_reducible refine qA 22 ?_); refine BigFrame.wpList_want rfl fun _ hK => AE (v := .int .u64 ((n * 2 : Nat) : Int)) rfl rfl rfl rfl (IX (by omega)) (hK _ _ ?_))
     | ((with_reducible refine qA 20 ?_); refine BigFrame.wpList_want rfl fun _ hK => AE (v := .int .u64 ((n + 1 : Nat) : Int)) rfl rfl rfl rfl (Fp (by omega)) (hK _ _ ?_))
     | ((with_reducible refine qA 27 ?_); refine BigFrame.wpList_want rfl fun _ hK => AK rfl rfl (hS.box 0 rfl) Tryz.underlying37 rfl (by kernel_rfl) (hK _ _ ?_))
     | ((with_reducible refine qA 32 ?_); refine BigFrame.wpList_want rfl fun _ hK => AK rfl rfl (hS.box 0 rfl) Tryz.underlying37 rfl (by kernel_rfl) (hK _ _ ?_))
     | ((with_reducible refine qB ?_); refine qc ?_ ?_ <;> intro h_ <;> go_prune)
     | ((with_reducible refine qK ?_); refine qC hS ?_)
     | (go_at_call 81; refine (HC.out _ _ hS.ro (n * 2) hn64).mono ?_; rw [HB1.out]; rintro r_ w_ ⟨_, rfl, rfl, hb_⟩; replace hS := hS.ext hb_; clear hb_)
     | (go_at_call 82; refine (DA (s := n * 2) (HK.out _ _ hS.ro) HM.out).mono ?_; rw [HB2.out]; rintro r_ w_ ⟨_, rfl, rfl, hb_⟩; replace hS := hS.ext hb_; clear hb_)
     | (go_at_call 61; refine (CU (s := n * 2) (HK.out _ _ hS.ro) HM.out).mono ?_; rw [HB3.out]; rintro r_ w_ ⟨_, rfl, rfl, hb_⟩; replace hS := hS.ext hb_; clear hb_))
       go_ret
       exact AP.mk (by rw [Gt fun h => by have := h.goal n (by rw [HP2.out]; exact hnl) HB1.out HB2.out; rw [HB3.out] at this; cases this]; rfl) hS.below
    ·go_wp2_with (first
     | ((with_reducible refine qA 17 ?_); refine BigFrame.wpList_want rfl fun _ hK => AE (v := .int .u64 (P2 : Nat)) rfl rfl rfl rfl (HSH.out _) (hK _ _ ?_))
     | ((with_reducible refine qA 22 ?_); refine BigFrame.wpList_want rfl fun _ hK => AE (v := .int .u64 ((n * 2 : Nat) : Int)) rfl rfl rfl rfl (IX (by omega)) (hK _ _ ?_))
     | ((with_reducible refine qA 20 ?_); refine BigFrame.wpList_want rfl fun _ hK => AE (v := .int .u64 ((n + 1 : Nat) : Int)) rfl rfl rfl rfl (Fp (by omega)) (hK _ _ ?_))
     | ((with_reducible refine qA 27 ?_); refine BigFrame.wpList_want rfl fun _ hK => AK rfl rfl (hS.box 0 rfl) Tryz.underlying37 rfl (by kernel_rfl) (hK _ _ ?_))
     | ((with_reducible refine qA 32 ?_); refine BigFrame.wpList_want rfl fun _ hK => AK rfl rfl (hS.box 0 rfl) Tryz.underlying37 rfl (by kernel_rfl) (hK _ _ ?_))
     | ((with_reducible refine qB ?_); refine qc ?_ ?_ <;> intro h_ <;> go_prune)
     | ((with_reducible refine qK ?_); refine qC hS ?_)
     | (go_at_call 81; refine (HC.out _ _ hS.ro (n * 2) hn64).mono ?_; rw [HB1.out]; rintro r_ w_ ⟨_, rfl, rfl, hb_⟩; replace hS := hS.ext hb_; clear hb_)
     | (go_at_call 82; refine (DA (s := n * 2) (HK.out _ _ hS.ro) HM.out).mono ?_; rw [HB2.out]; rintro r_ w_ ⟨_, rfl, rfl, hb_⟩; replace hS := hS.ext hb_; clear hb_)
     | (go_at_call 61; refine (CU (s := n * 2) (HK.out _ _ hS.ro) HM.out).mono ?_; rw [HB3.out]; rintro r_ w_ ⟨_, rfl, rfl, hb_⟩; replace hS := hS.ext hb_; clear hb_))
     exact ⟨⟨n + 1, rfl, hnl, Lib.hid (HI.out.next fun a _ => by rw [HB1.out] at a; cases a), hS⟩, by simp [intOf]; omega⟩
   ·obtain rfl : n = P2 := by omega
    go_wp2_with (first
     | ((with_reducible refine qA 17 ?_); refine BigFrame.wpList_want rfl fun _ hK => AE (v := .int .u64 (n : Nat)) rfl rfl rfl rfl (HSH.out _) (hK _ _ ?_))
     | ((with_reducible refine qB ?_); refine qc ?_ ?_ <;> intro h_ <;> go_prune)
     | ((with_reducible refine qK ?_); refine qC hS ?_))
    go_ret
    exact AP.mk (by rw [invB_true ⟨HS0.out, fun m hm => HI.out.goal m (by rw [<- HP2.out]; exact hm), fun m hm => HI.out.step m (by rw [<- HP2.out]; exact hm)⟩]; rfl) hS.below
 ·go_enter Tryz.func44, Tryz.ntmps44
  go_wp2_with (first
   | ((with_reducible refine qA 2 ?_); refine Az hS rfl _ _ rfl (.agg #[.int .i64 (R : Nat), .slice Al L.length cl, .int .u64 (st : Nat), .slice Ar rl.length cr, .slice An nl.length cn, .slice Ag gl.length cg]) _ rfl rfl ?_; clear hS; intro g2 w_ hS; (try simp only [Act.put, Act.eval, zz, Value.cells] at hS))
   | ((with_reducible refine qK ?_); refine qC hS ?_)
   | (go_at_call 81; refine (HC.out _ _ hS.ro st hst).mono ?_; rw [HS0.out]; rintro r_ w_ ⟨_, rfl, rfl, hb_⟩; replace hS := hS.ext hb_; clear hb_))
  go_ret
  exact AP.mk (by rw [Gt fun h => by have := h.start; rw [HS0.out] at this; cases this]; rfl) hS.below
end
section
open Go.RowKit
set_option exponentiation.threshold 5000
noncomputable def candB (L : List (Nat × Nat)) (N : Nat) (r : AM) : Bool := (!r.revoke && !Bk N r.target) && (r.yes &&& closM L N == r.yes)
noncomputable def firstC (L : List (Nat × Nat)) (l : List AM) (N : Nat) : Option Nat := l.findIdx? (candB L N)
noncomputable def satS (L : List (Nat × Nat)) (p : Ah) : Nat -> Nat × List Int
 | 0 => (p.start, [])
 | n + 1 => match firstC L p.rules (satS L p n).1 with
  | none => satS L p n
  | some k => (BF (satS L p n).1 (p.rules.getD k AC).target, (satS L p n).2 ++ [(k : Int)])
noncomputable def satM (L : List (Nat × Nat)) (p : Ah) : Nat × List Int := satS L p p.rules.length
def Dt (l : List AM) : Prop := ∀ r ∈ l, ∃ t : Nat, r.target = (t : Int) /\ t < 64
section
variable {L : List (Nat × Nat)} {p : Ah} {n : Nat}
theorem Dg {l : List AM} {N k : Nat} (h : firstC L l N = some k) : k < l.length /\ candB L N (l.getD k AC) = true /\ ∀ z ∈ l.take k, candB L N z = false := by
 unfold firstC at h
 rw [List.findIdx?_eq_some_iff_getElem] at h
 obtain ⟨hk, h1, h2⟩ := h
 refine ⟨hk, by rw [List.getD_eq_getElem?_getD, List.getElem?_eq_getElem hk]; exact h1, fun z hz => ?_⟩
 obtain ⟨j, hj⟩ := List.mem_iff_getElem?.1 hz
 rw [List.getElem?_take] at hj
 split at hj
 ·rename_i hjk
  have := h2 j hjk
  rw [List.getElem?_eq_getElem (by omega)] at hj
  injection hj with hj
  rw [<- hj]; simpa using this
 ·cases hj
theorem firstC_of {l : List AM} {N k : Nat} {r : AM} (hk : l[k]? = some r) (h1 : candB L N r = true) (h2 : ∀ z ∈ l.take k, candB L N z = false) : firstC L l N = some k := by
 unfold firstC
 rw [List.findIdx?_eq_some_iff_getElem]
 obtain ⟨hlt, e⟩ := List.getElem?_eq_some_iff.1 hk
 refine ⟨hlt, by rw [e]; exact h1, fun j hj => ?_⟩
 have := h2 l[j] (List.mem_iff_getElem?.2 ⟨j, by rw [List.getElem?_take, if_pos hj, List.getElem?_eq_getElem (by omega)]⟩)
 simpa using this
theorem DC {l : List AM} {N : Nat} : firstC L l N = none ↔ ∀ z ∈ l, candB L N z = false := by
 unfold firstC; rw [List.findIdx?_eq_none_iff]
theorem Ci (h : firstC L p.rules (satS L p n).1 = none) : satS L p (n + 1) = satS L p n := by
 rw [satS, h]
theorem C3 {k : Nat} (h : firstC L p.rules (satS L p n).1 = some k) : satS L p (n + 1) = (BF (satS L p n).1 (p.rules.getD k AC).target, (satS L p n).2 ++ [(k : Int)]) := by
 rw [satS, h]
theorem satS_stop (h : firstC L p.rules (satS L p n).1 = none) : ∀ m, satS L p (n + m) = satS L p n
 | 0 => rfl
 | m + 1 => by
  have ih := satS_stop h m
  rw [<- Nat.add_assoc, Ci (by rw [ih]; exact h), ih]
theorem lacks_len (N : Nat) (l : List AM) : DJ N l <= l.length := List.length_filter_le _ _
theorem Dd {N : Nat} {r : AM} (h : candB L N r = true) : r.revoke = false /\ Bk N r.target = false /\ (r.yes &&& closM L N == r.yes) = true := by
 unfold candB at h
 simp only [Bool.and_eq_true, Bool.not_eq_true'] at h
 exact ⟨h.1.1, h.1.2, h.2⟩
theorem DP (hT : Dt p.rules) : ∀ n, DJ (satS L p n).1 p.rules + (satS L p n).2.length <= p.rules.length
 | 0 => by simpa [satS] using lacks_len _ _
 | n + 1 => by
  have ih := DP hT n
  cases h : firstC L p.rules (satS L p n).1 with
  | none => rw [Ci h]; exact ih
  | some k =>
   rw [C3 h]
   obtain ⟨hk, hc, _⟩ := Dg h
   have hm := List.mem_of_getElem? (B9 AC hk)
   obtain ⟨t, ht, h64⟩ := hT _ hm
   have := JJ hm ht (Dd hc).2.1
   rw [Dv h64, <- ht] at this
   simp only [List.length_append, List.length_singleton]
   omega
theorem sat_len : ∀ n, firstC L p.rules (satS L p n).1 = none \/ (satS L p (n + 1)).2.length = n + 1
 | 0 => by
  cases h : firstC L p.rules (satS L p 0).1 with
  | none => exact .inl rfl
  | some k => rw [C3 h]; exact .inr (by simp [satS])
 | n + 1 => by
  rcases sat_len n with h | h
  ·exact .inl (by rw [Ci h]; exact h)
  ·cases h2 : firstC L p.rules (satS L p (n + 1)).1 with
   | none => exact .inl rfl
   | some k => rw [C3 h2]; exact .inr (by simp [h])
theorem sat_done (hT : Dt p.rules) : firstC L p.rules (satM L p).1 = none := by
 unfold satM
 cases hn : p.rules.length with
 | zero => rw [List.eq_nil_of_length_eq_zero hn, DC]; simp
 | succ m =>
  rcases sat_len (L := L) (p := p) m with h | h
  ·rw [Ci h]; exact h
  ·have h1 := DP (L := L) hT (m + 1)
   rw [h] at h1
   have h0 : DJ (satS L p (m + 1)).1 p.rules = 0 := by omega
   rw [DC]
   intro z hz
   cases hc : candB L (satS L p (m + 1)).1 z with
   | false => rfl
   | true =>
    have h2 := (Dd hc).2.1
    unfold DJ at h0
    have h3 := List.eq_nil_of_length_eq_zero h0
    have : z ∈ p.rules.filter fun r => !Bk (satS L p (m + 1)).1 r.target := List.mem_filter.2 ⟨hz, by rw [h2]; rfl⟩
    rw [h3] at this; cases this
theorem sat_end (hT : Dt p.rules) (h : firstC L p.rules (satS L p n).1 = none) (hn : (satS L p n).2.length = n) : satM L p = satS L p n := by
 have h1 := DP (L := L) hT n
 unfold satM
 have := satS_stop h (p.rules.length - n)
 rwa [show n + (p.rules.length - n) = p.rules.length by omega] at this
theorem sat_low (hT : Dt p.rules) : ∀ n, ULow L p (satS L p n).1
 | 0 => ⟨C9.refl _, fun T hT => hT.start⟩
 | n + 1 => by
  have ih := sat_low hT n
  cases h : firstC L p.rules (satS L p n).1 with
  | none => rw [Ci h]; exact ih
  | some k =>
   rw [C3 h]
   obtain ⟨hk, hc, _⟩ := Dg h
   have hm := List.mem_of_getElem? (B9 AC hk)
   obtain ⟨t, ht, h64⟩ := hT _ hm
   have := ih.add hm (Dd hc).1 (Dd hc).2.2 ht
   rw [Dv h64, <- ht] at this
   exact this
theorem sat_least (hT : Dt p.rules) : Gw L p (satM L p).1 := by
 refine ⟨⟨(sat_low hT _).1, fun r hr h1 h2 => ?_⟩, (sat_low hT _).2⟩
 have := DC.1 (sat_done (L := L) hT) r hr
 unfold candB at this
 rw [h1, h2] at this
 simpa using this
theorem FR (hT : Dt p.rules) : (satM L p).1 = uppM L p := (sat_least hT).eq
theorem FN (hT : Dt p.rules) : Gw L p (uppM L p) := by rw [<- FR hT]; exact sat_least hT
theorem Ia (hT : Dt p.rules) : satS L p (satM L p).2.length = satM L p /\ ∀ n, n <= (satM L p).2.length -> (satS L p n).2 = (satM L p).2.take n /\ (satS L p n).2.length = n := by
 have key : ∀ N, (satS L p N).2.length <= N /\ satS L p (satS L p N).2.length = satS L p N /\ ∀ n, n <= (satS L p N).2.length -> (satS L p n).2 = (satS L p N).2.take n /\ (satS L p n).2.length = n := fun N => by
  induction N with
  | zero => exact ⟨by simp [satS], by simp [satS], fun n hn => by simp [satS] at hn; subst hn; simp [satS]⟩
  | succ m ih =>
   cases h : firstC L p.rules (satS L p m).1 with
   | none => rw [Ci h]; exact ⟨by omega, ih.2⟩
   | some k =>
    obtain ⟨h1, h2, h3⟩ := ih
    have hm : (satS L p m).2.length = m := by
     rcases m with _ | m
     ·simp [satS]
     ·rcases sat_len (L := L) (p := p) m with h4 | h4
      ·rw [Ci h4] at h; rw [h4] at h; cases h
      ·exact h4
    have hl : (satS L p (m + 1)).2.length = m + 1 := by rw [C3 h]; simp [hm]
    refine ⟨by omega, by rw [hl], fun n hn => ?_⟩
    rcases Nat.lt_or_ge m n with h4 | h4
    ·obtain rfl : n = m + 1 := by omega
     exact ⟨by rw [List.take_of_length_le (by omega)], hl⟩
    ·obtain ⟨h5, h6⟩ := h3 n (by omega)
     refine ⟨?_, h6⟩
     rw [h5, C3 h]
     dsimp only
     rw [List.take_append_of_le_length (by omega)]
 exact (key _).2
theorem sat_short (hT : Dt p.rules) : (satM L p).2.length <= p.rules.length := by
 have := DP (L := L) hT p.rules.length
 unfold satM; omega
end
def Cd (p : Ah) : Bool := p.never.isEmpty && ((p.rules.all fun r => r.no == 0) && !(p.goal.any fun z => !(z.2 == 0)))
theorem Dr {p : Ah} (h : Cd p = true) : p.never = [] /\ (∀ r ∈ p.rules, r.no = 0) /\ ∀ z ∈ p.goal, z.2 = 0 := by
 unfold Cd at h
 simp only [Bool.and_eq_true, List.isEmpty_iff, List.all_eq_true, beq_iff_eq, Bool.not_eq_true', List.any_eq_false] at h
 exact ⟨h.1, h.2.1, fun z hz => by simpa using h.2.2 z hz⟩
theorem frag_no_rule {p : Ah} {r : AM} (h : r ∈ p.rules) (hn : r.no ≠ 0) : Cd p = false := by
 cases hb : Cd p with
 | false => rfl
 | true => exact absurd ((Dr hb).2.1 r h) hn
theorem holds_mono {y a b : Nat} (h : C9 a b) (k : B0 (y, 0) a = true) : B0 (y, 0) b = true := by
 unfold B0 at *
 simp only [Bool.and_eq_true] at *
 refine ⟨BK.2 ((BK.1 k.1).trans h), by simp⟩
theorem EJ {y a : Nat} : B0 (y, 0) a = (y &&& a == y) := by
 unfold B0; simp
theorem frag_good {p : Ah} {L : List (Nat × Nat)} {N : Nat} (hl : p.links = some L) (h : Cd p = true) : goodB p N = true := by
 unfold goodB; rw [hl, (Dr h).1]; rfl
theorem Ju {p : Ah} {L : List (Nat × Nat)} {M N : Nat} (hl : p.links = some L) (h : Cd p = true) (hs : C9 M N) (k : reachB p M = true) : reachB p N = true := by
 unfold reachB at *
 rw [hl] at *
 dsimp only at *
 obtain ⟨z, hz, hh⟩ := List.any_eq_true.1 k
 refine List.any_eq_true.2 ⟨z, hz, ?_⟩
 obtain ⟨y, n⟩ := z
 obtain rfl : n = 0 := (Dr h).2.2 _ hz
 exact holds_mono hs.clos hh
theorem cand_step {p : Ah} {L : List (Nat × Nat)} {N k : Nat} (hl : p.links = some L) (h : Cd p = true) (hk : k < p.rules.length) (hc : candB L N (p.rules.getD k AC) = true) : stepM p N (k : Nat) = some (BF N (p.rules.getD k AC).target) := by
 have hm := List.mem_of_getElem? (B9 AC hk)
 have hn := (Dr h).2.1 _ hm
 obtain ⟨h1, h2, h3⟩ := Dd hc
 rw [Jc hl hk, if_pos]
 ·unfold Hg; rw [h1]; rfl
 ·unfold stepB closP
  rw [hl, h1, h2, hn, frag_good hl h]
  dsimp only
  rw [EJ, h3]; rfl
theorem IW {p : Ah} {L : List (Nat × Nat)} (hl : p.links = some L) (h : Cd p = true) : ∀ n, Rch p (satS L p n).1 /\ runTo p p.start 0 (satS L p n).2 = ((satS L p n).1, (satS L p n).2.length, true)
 | 0 => ⟨.start, rfl⟩
 | n + 1 => by
  obtain ⟨h1, h2⟩ := IW hl h n
  cases hf : firstC L p.rules (satS L p n).1 with
  | none => rw [Ci hf]; exact ⟨h1, h2⟩
  | some k =>
   rw [C3 hf]
   obtain ⟨hk, hc, _⟩ := Dg hf
   have hs := cand_step hl h hk hc
   exact ⟨.step h1 hs, by
    dsimp only
    rw [Jo h2 hs]; simp⟩
theorem Bp.targ {p : Ah} {L : List (Nat × Nat)} {R : Nat} (h : Bp p L R) : Dt p.rules := fun r hr => by
 have h1 := (h.rules r hr).1
 have h5 := h.r5
 exact ⟨r.target.toNat, by omega, by omega⟩
theorem FB {p : Ah} {L : List (Nat × Nat)} (h : checkE p = 0) (hl : p.links = some L) : Dt p.rules := fun r hr => target_nat h hl hr
theorem upp_rch {p : Ah} {L : List (Nat × Nat)} (hT : Dt p.rules) (hl : p.links = some L) (h : Cd p = true) : Rch p (uppM L p) := by
 rw [<- FR hT]; exact (IW hl h _).1
theorem FM {p : Ah} {L : List (Nat × Nat)} {R : Nat} (hM : Bp p L R) (h : Cd p = true) : reachB p (uppM L p) = rchB p := by
 cases hb : reachB p (uppM L p) with
 | true => exact (rchB_true ⟨_, upp_rch hM.targ hM.links h, hb⟩).symm
 | false =>
  refine (rchB_false fun s hs => ?_).symm
  cases hc : reachB p s with
  | false => rfl
  | true => rw [Ju hM.links h (hs.upper hM (FN hM.targ).1) hc] at hb; cases hb
noncomputable def hitN (L : List (Nat × Nat)) (p : Ah) : Option Nat := (List.range ((satM L p).2.length + 1)).find? fun i => reachB p (satS L p i).1
def G8 (N : Nat) : List (Nat × Nat) := (Bd N).map fun r => (2 ^ r, 0)
noncomputable def srchM (L : List (Nat × Nat)) (p : Ah) : List Int × List (Nat × Nat) × Bool := match hitN L p with
 | some i => ((satS L p i).2, [], true)
 | none => ([], G8 (BB (relM L p) (satM L p).1), false)
theorem JK {L : List (Nat × Nat)} {p : Ah} {i : Nat} (hi : i <= (satM L p).2.length) (h : reachB p (satS L p i).1 = true) (hb : ∀ j, j < i -> reachB p (satS L p j).1 = false) : hitN L p = some i := by
 unfold hitN
 rw [List.find?_range_eq_some]
 exact ⟨h, List.mem_range.2 (by omega), fun j hj => by rw [hb j hj]; rfl⟩
theorem JL {L : List (Nat × Nat)} {p : Ah} (hb : ∀ j, j <= (satM L p).2.length -> reachB p (satS L p j).1 = false) : hitN L p = none := by
 unfold hitN
 rw [List.find?_eq_none]
 intro j hj
 rw [List.mem_range] at hj
 rw [hb j (by omega)]; decide
theorem hit_is {L : List (Nat × Nat)} {p : Ah} {i : Nat} (h : hitN L p = some i) : i <= (satM L p).2.length /\ reachB p (satS L p i).1 = true /\ ∀ j, j < i -> reachB p (satS L p j).1 = false := by
 unfold hitN at h
 rw [List.find?_range_eq_some] at h
 obtain ⟨h1, h2, h3⟩ := h
 rw [List.mem_range] at h2
 exact ⟨by omega, h1, fun j hj => by have := h3 j hj; simpa using this⟩
theorem hit_not {L : List (Nat × Nat)} {p : Ah} (h : hitN L p = none) : ∀ j, j <= (satM L p).2.length -> reachB p (satS L p j).1 = false := fun j hj => by
 unfold hitN at h
 rw [List.find?_eq_none] at h
 simpa using h j (List.mem_range.2 (by omega))
theorem ER {p : Ah} {L : List (Nat × Nat)} {R : Nat} (hM : Bp p L R) (h : Cd p = true) : (srchM L p).2.2 = rchB p := by
 unfold srchM
 cases hh : hitN L p with
 | some i =>
  obtain ⟨h1, h2, _⟩ := hit_is hh
  exact (rchB_true ⟨_, (IW hM.links h i).1, h2⟩).symm
 | none =>
  rw [<- FM hM h, <- FR hM.targ]
  have := hit_not hh _ (Nat.le_refl _)
  rw [(Ia hM.targ).1] at this
  exact this.symm
end
section
open Go.RowKit
attribute [local go_sem ↓] Go.wp_at_zero Go.wp_at_succ
set_option maxRecDepth 20000
def idxQ {α : Type} (l : List α) (q : α -> Bool) : Int := match l.findIdx? q with
 | none => -1
 | some j => (j : Int)
theorem idxQ_at {α : Type} {l : List α} {q : α -> Bool} {k : Nat} {r : α} (hk : l[k]? = some r) (h1 : q r = true) (h2 : ∀ z ∈ l.take k, q z = false) : idxQ l q = (k : Int) := by
 have : l.findIdx? q = some k := by
  rw [List.findIdx?_eq_some_iff_getElem]
  obtain ⟨hlt, e⟩ := List.getElem?_eq_some_iff.1 hk
  refine ⟨hlt, by rw [e]; exact h1, fun j hj => ?_⟩
  have := h2 l[j] (List.mem_iff_getElem?.2 ⟨j, by rw [List.getElem?_take, if_pos hj, List.getElem?_eq_getElem (by omega)]⟩)
  simpa using this
 unfold idxQ; rw [this]
theorem idxQ_no {α : Type} {l : List α} {q : α -> Bool} (h2 : ∀ z ∈ l, q z = false) : idxQ l q = -1 := by
 have : l.findIdx? q = none := List.findIdx?_eq_none_iff.2 h2
 unfold idxQ; rw [this]
theorem idxrk_any {w0 w : World} {F : List Ai} {K : (Nat -> Prop) -> World -> Prop} (v : Value) (l : List (AM)) (f : FuncId) (first caps : Array Value) (q : AM -> Bool) (hcg : C8 Tryz.prog f = true) (hS : St w0 w F K) (kl : ∀ D w, K D w -> Bq w D v l)
  (hq : ∀ (x : Value) (z : AM) (w : World), z ∈ l -> (∃ F', St w0 w (F' ++ F) fun D w => K D w /\ F9 w D x z) -> Calls Tryz.prog f (first.toList ++ [x] ++ caps.toList).toArray w (AP (fun r _ => r = .bool (q z)) w)) :
  Calls Tryz.prog 97 #[v, .func (.func f) first caps] w fun e w' => e = .returned (.int .i64 (idxQ l q)) /\ St w0 w' F K := by
 obtain ⟨A, c, rfl, _, hc2⟩ := (kl _ _ hS.ro).shape
 have KS := Lib.hid hS.stable
 have HQ := Lib.hid hq
 clear hq
 have HCG := Lib.hid hcg
 clear hcg
 obtain ⟨RES, hres⟩ : ∃ RES, idxQ l q = RES := ⟨_, rfl⟩
 rw [hres]
 replace hres := Lib.hid hres
 go_enter Tryz.func97, Tryz.ntmps97
 go_wp2_with (first | ((with_reducible refine qB ?_); refine qc ?_ ?_ <;> intro h_ <;> go_prune))
 go_loopw [8] (fun i wr => ∃ k : Nat, k <= l.length /\ i = .int .i64 (k : Nat) /\ St w0 wr F K /\ Hid (∀ z ∈ l.take k, q z = false)) (fun i _ => l.length - (intOf i).toNat)
 case atStart => exact ⟨0, by omega, rfl, hS, Lib.hid (by simp)⟩
 case round =>
  clear hS
  obtain ⟨k, hk, rfl, hS, HZ⟩ := hrel
  by_cases hlt : k < l.length
  ·obtain ⟨b, o, y, n, rfl, _, hb, c0, c1, c2, c3, c4, hy, hn⟩ := (kl _ _ hS.ro).at_ hlt
   obtain ⟨Ay, my, cy, rfl⟩ := hy.shape
   obtain ⟨An, mn, cn, rfl⟩ := hn.shape
   have HM : Hid (l.getD k AC ∈ l) := Lib.hid (by rw [List.getD_eq_getElem?_getD, List.getElem?_eq_getElem hlt]; exact List.getElem_mem hlt)
   have HZ2 : Hid (q (l.getD k AC) = false -> ∀ z ∈ l.take (k + 1), q z = false) := Lib.hid fun h z hz => by
    rw [List.take_add_one, List.mem_append] at hz
    rcases hz with hz | hz
    ·exact HZ.out z hz
    ·rw [List.getElem?_eq_getElem hlt] at hz
     rw [List.getD_eq_getElem?_getD, List.getElem?_eq_getElem hlt] at h
     have : z = l[k] := by simpa using hz
     rw [this]; exact h
   have HY : Hid (q (l.getD k AC) = true -> RES = (k : Int)) := Lib.hid fun h => by
    rw [<- hres.out]
    refine idxQ_at (List.getElem?_eq_getElem hlt) ?_ HZ.out
    rw [List.getD_eq_getElem?_getD, List.getElem?_eq_getElem hlt] at h
    exact h
   replace hS := hS.add (D := D6 F) (Fm (v := .agg #[.bool (l.getD k AC).revoke, .slice Ay my cy, .slice An mn cn, .int .i64 (l.getD k AC).target, .int .i64 (l.getD k AC).origin]) (z := l.getD k AC)) ⟨_, _, rfl, hy, hn⟩ fun _ h _ => h
   clear hy hn
   generalize l.getD k AC = z at *
   have HK := Lib.hid (HQ.out (.agg #[.bool z.revoke, .slice Ay my cy, .slice An mn cn, .int .i64 z.target, .int .i64 z.origin]) z wr HM.out ⟨[], hS⟩)
   obtain ⟨args, hargs⟩ : ∃ args, args = first.toList ++ [Value.agg #[.bool z.revoke, .slice Ay my cy, .slice An mn cn, .int .i64 z.target, .int .i64 z.origin]] ++ caps.toList := ⟨_, rfl⟩
   rw [<- hargs] at HK
   have HARG := Lib.hid hargs
   clear hargs
   go_wp2_with (first
    | ((with_reducible refine qA 15 ?_); refine BigFrame.wpList_want rfl fun _ hK => AY (cs := [.bool z.revoke, .slice Ay my cy, .slice An mn cn, .int .i64 z.target, .int .i64 z.origin]) rfl rfl (G7 c0 c1 c2 c3 c4) Tryz.underlying58 rfl (by kernel_rfl) (hK _ _ ?_))
    | ((with_reducible refine qA 16 ?_); refine BigFrame.wpList_want rfl fun _ hK => BP (vs := args) rfl rfl HCG.out (by simp [Act.eval, Act.put, HARG.out]) HK.out fun e w' ⟨u_, he_, hu_, hb_⟩ => ⟨u_, he_, hK _ _ ?_⟩))
   ·go_ret
    exact ⟨by rw [HY.out (by assumption)]; rfl, (hS.ext hb_).mono KS.out fun _ _ h => h.1⟩
   ·exact ⟨⟨k + 1, hlt, by go_num, (hS.ext hb_).mono KS.out fun _ _ h => h.1, Lib.hid (HZ2.out (by assumption))⟩, by simp [intOf]; omega⟩
  ·obtain rfl : k = l.length := by omega
   have HN : Hid (RES = -1) := Lib.hid (by
    have h := HZ.out
    rw [List.take_length] at h
    rw [<- hres.out]; exact idxQ_no h)
   go_wp2_with (first | ((with_reducible refine qB ?_); refine qc ?_ ?_ <;> intro h_ <;> go_prune))
   go_ret
   exact ⟨by rw [HN.out]; rfl, hS⟩
end
section
open Go.RowKit
attribute [local go_sem ↓] Go.wp_at_zero Go.wp_at_succ
set_option maxRecDepth 20000
set_option exponentiation.threshold 5000
theorem box_is {w : World} {g : Nat} {t : TypeId} {cs : Array Value} (h : Co w g t cs) (h0 : 0 < cs.size) : C1 w (fun _ => True) g cs := ⟨trivial, h.lt, h0, fun j x hx => (h.cell j).trans hx⟩
set_option maxHeartbeats 1000000 in
theorem sat1_any {w : World} {E E2 : Nat -> Prop} {D1 D2 D3 : Nat -> Prop} {x sv cv : Value} {z : AM} {N C g h : Nat} (hx : F9 w D1 x z) (hb : C1 w E g #[sv]) (hs : A7 w D2 (.agg #[sv]) N) (hb2 : C1 w E2 h #[cv]) (hc : A7 w D3 (.agg #[cv]) C) :
  Calls Tryz.prog 98 #[x, .pointer (some ⟨g, 0, none⟩), .pointer (some ⟨h, 0, none⟩)] w (AP (fun r _ => r = .bool ((!z.revoke && !Bk N z.target) && (z.yes &&& C == z.yes))) w) := by
 obtain ⟨a, b, rfl, ha, hb1⟩ := hx
 obtain ⟨zr, y, n, rt, ro⟩ := z
 dsimp only at ha hb1 ⊢
 obtain ⟨S1, l1, d1, rfl⟩ := hs.shape
 obtain ⟨S2, l2, d2, rfl⟩ := hc.shape
 obtain ⟨A, m, c, rfl⟩ := ha.shape
 obtain ⟨B, k, d, rfl⟩ := hb1.shape
 clear hb1
 obtain ⟨K, ka, kb, kc, kb2, kc2, hS⟩ : ∃ K : (Nat -> Prop) -> World -> Prop, (∀ D w, K D w -> A7 w D (.agg #[.slice A m c]) y) /\ (∀ D w, K D w -> C1 w D g #[.slice S1 l1 d1]) /\ (∀ D w, K D w -> A7 w D (.agg #[.slice S1 l1 d1]) N) /\ (∀ D w, K D w -> C1 w D h #[.slice S2 l2 d2]) /\ (∀ D w, K D w -> A7 w D (.agg #[.slice S2 l2 d2]) C) /\ St w w [] K :=
  ⟨fun D w => A7 w D (.agg #[.slice A m c]) y /\ (C1 w D g #[.slice S1 l1 d1] /\ A7 w D (.agg #[.slice S1 l1 d1]) N) /\ C1 w D h #[.slice S2 l2 d2] /\ A7 w D (.agg #[.slice S2 l2 d2]) C, fun _ _ h => h.1, fun _ _ h => h.2.1.1, fun _ _ h => h.2.1.2, fun _ _ h => h.2.2.1, fun _ _ h => h.2.2.2, St.start (D := fun _ => True) (A5.and ((B5.and A5).and (B5.and A5))) ⟨ha.imp fun _ _ _ => trivial, ⟨B5 E _ w w hb (Nat.le_refl _) (fun _ _ _ _ h => h) fun _ _ _ _ => trivial, hs.imp fun _ _ _ => trivial⟩, B5 E2 _ w w hb2 (Nat.le_refl _) (fun _ _ _ _ h => h) fun _ _ _ _ => trivial, hc.imp fun _ _ _ => trivial⟩⟩
 clear ha hb hs hb2 hc
 obtain ⟨q1, hq1⟩ : ∃ q1, Bk N rt = q1 := ⟨_, rfl⟩
 obtain ⟨q2, hq2⟩ : ∃ q2, (y &&& C == y) = q2 := ⟨_, rfl⟩
 rw [hq1, hq2]
 have HQ1 := Lib.hid hq1
 have HQ2 := Lib.hid hq2
 clear hq1 hq2
 go_enter Tryz.func98, Tryz.ntmps98
 cases zr <;> cases q1
 all_goals
  go_wp2_with (first
   | ((with_reducible refine qA 3 ?_); refine Az hS rfl _ _ rfl (.agg #[.bool _, .slice A m c, .slice B k d, .int .i64 rt, .int .i64 ro]) _ rfl rfl ?_; clear hS; intro g3 w_ hS; (try simp only [Act.put, Act.eval, zz, Value.cells] at hS))
   | ((with_reducible refine qk 27 ?_); first
      | (refine BigFrame.wpList_want rfl fun _ hK => AY (cs := [.slice S1 l1 d1]) rfl rfl (Js ((kb _ _ hS.ro).cell 0 rfl)) Tryz.underlying27 rfl (by kernel_rfl) (hK _ _ ?_))
      | (refine BigFrame.wpList_want rfl fun _ hK => AY (cs := [.slice S2 l2 d2]) rfl rfl (Js ((kb2 _ _ hS.ro).cell 0 rfl)) Tryz.underlying27 rfl (by kernel_rfl) (hK _ _ ?_)))
   | ((with_reducible refine qk 27 ?_); first | (refine A9 hS 0 rfl _ _ rfl _ _ rfl _ _ rfl _ (by first | rfl | assumption) Tryz.underlying27 rfl (by kernel_rfl) ?_) | (refine A9 hS 1 rfl _ _ rfl _ _ rfl _ _ rfl _ (by first | rfl | assumption) Tryz.underlying27 rfl (by kernel_rfl) ?_) | (refine A9 hS 2 rfl _ _ rfl _ _ rfl _ _ rfl _ (by first | rfl | assumption) Tryz.underlying27 rfl (by kernel_rfl) ?_) | (refine A9 hS 3 rfl _ _ rfl _ _ rfl _ _ rfl _ (by first | rfl | assumption) Tryz.underlying27 rfl (by kernel_rfl) ?_) | (refine A9 hS 4 rfl _ _ rfl _ _ rfl _ _ rfl _ (by first | rfl | assumption) Tryz.underlying27 rfl (by kernel_rfl) ?_) | (refine A9 hS 5 rfl _ _ rfl _ _ rfl _ _ rfl _ (by first | rfl | assumption) Tryz.underlying27 rfl (by kernel_rfl) ?_))
   | ((with_reducible refine qK ?_); refine qC hS ?_)
   | (go_at_call 47; refine (Cv _ N rt _ _ (kc _ _ hS.ro)).mono ?_; rw [HQ1.out]; rintro r_ w_ ⟨_, rfl, rfl, hb_⟩; replace hS := hS.ext hb_; clear hb_)
   | (go_at_call 22; refine (EP _ _ y C _ _ _ (ka _ _ hS.ro) (kc2 _ _ hS.ro)).mono ?_; rw [HQ2.out]; rintro r_ w_ ⟨_, rfl, rfl, hb_⟩; replace hS := hS.ext hb_; clear hb_))
  go_ret
  exact AP.mk rfl hS.below
set_option maxHeartbeats 4000000 in
theorem Fn {w0 w : World} {F : List Ai} {K : (Nat -> Prop) -> World -> Prop} {v : Value} {p : Ah} {L : List (Nat × Nat)} (hl : p.links = some L) (hP : p.Ok) (hTG : Dt p.rules) (hS : St w0 w F K) (kp : ∀ D w, K D w -> Bn w D v p) (kt : ∀ D w, K D w -> Bu w) :
  Calls Tryz.prog 55 #[v] w fun e w' => ∃ x u, e = .returned (.tuple #[x, u]) /\ St w0 w' (.own u 3 1 (satM L p).2.length (AH (satM L p).2) :: F) fun D w => K D w /\ A7 w D x (satM L p).1 := by
 obtain ⟨R, lk, st, rl, nl, gl⟩ := p
 obtain rfl : lk = some L := hl
 obtain ⟨lp, s, rv, nv, gv, rfl, h1, h2, h3, h4, h5⟩ := kp _ _ hS.ro
 dsimp only at h1 h2 h3 h4 h5
 obtain ⟨q, o, rfl, -⟩ := id h1
 obtain ⟨Cs, ns, cs, rfl⟩ := h2.shape
 obtain ⟨Ar, cr, rfl, _, _⟩ := h3.shape
 obtain ⟨An, cn, rfl, _, _⟩ := h4.shape
 obtain ⟨Ag, cg, rfl, _, _⟩ := h5.shape
 obtain ⟨KC, kc, hS2⟩ : ∃ KC : (Nat -> Prop) -> World -> Prop, Hid (∀ D w, KC D w -> K D w /\ Gx w D (.pointer (some ⟨q, 0, none⟩)) (some L) /\ A7 w D (.agg #[.slice Cs ns cs]) st /\ Bq w D (.slice Ar rl.length cr) rl) /\ St w0 w F KC := ⟨_, Lib.hid fun D w h => ⟨h.1, h.2.1, h.2.2.1, h.2.2.2⟩, hS.add (D := D6 F) (C2.and (A5.and Bh)) ⟨h1, h2, h3⟩ fun _ h _ => h⟩
 have KS := Lib.hid hS.stable
 clear hS h1 h2 h3 h4 h5
 have hS := hS2
 clear hS2
 have KSC := Lib.hid hS.stable
 have HP := Lib.hid hP
 have HK := Lib.hid kp
 have HT := Lib.hid kt
 clear hP kp kt
 have hrl : rl.length <= 100000 := HP.out.rules
 have HTG := Lib.hid hTG
 clear hTG
 have HH := Lib.hid (HP.out.links L rfl).1
 have k0 := Lib.hid fun D w h => (kc.out D w h).1
 have kh := Lib.hid fun D w h => (kc.out D w h).2.1
 have kr := Lib.hid fun D w h => (kc.out D w h).2.2.2
 obtain ⟨SM, hSM⟩ : ∃ SM, satM L ⟨R, some L, st, rl, nl, gl⟩ = SM := ⟨_, rfl⟩
 rw [hSM]
 replace hSM := Lib.hid hSM
 go_enter Tryz.func55, Tryz.ntmps55
 go_wp2_with (first
  | ((with_reducible refine qA 1 ?_); refine Az hS rfl _ _ rfl (.agg #[.int .i64 R, .pointer (some ⟨q, 0, none⟩), .slice Cs ns cs, .slice Ar rl.length cr, .slice An nl.length cn, .slice Ag gl.length cg]) _ rfl rfl ?_; clear hS; intro g1 w_ hS; (try simp only [Act.put, Act.eval, zz, Value.cells] at hS))
  | ((with_reducible refine qA 2 ?_); refine qa hS #[.slice none 0 0] ?_; clear hS; intro g2 w_ hS)
  | ((with_reducible refine qA 4 ?_); refine qa hS #[.slice none 0 0] ?_; clear hS; intro g4 w_ hS)
  | ((with_reducible refine qk 27 ?_); first | (refine A9 hS 0 rfl _ _ rfl _ _ rfl _ _ rfl _ (by first | rfl | assumption) Tryz.underlying27 rfl (by kernel_rfl) ?_) | (refine A9 hS 1 rfl _ _ rfl _ _ rfl _ _ rfl _ (by first | rfl | assumption) Tryz.underlying27 rfl (by kernel_rfl) ?_) | (refine A9 hS 2 rfl _ _ rfl _ _ rfl _ _ rfl _ (by first | rfl | assumption) Tryz.underlying27 rfl (by kernel_rfl) ?_) | (refine A9 hS 3 rfl _ _ rfl _ _ rfl _ _ rfl _ (by first | rfl | assumption) Tryz.underlying27 rfl (by kernel_rfl) ?_) | (refine A9 hS 4 rfl _ _ rfl _ _ rfl _ _ rfl _ (by first | rfl | assumption) Tryz.underlying27 rfl (by kernel_rfl) ?_) | (refine A9 hS 5 rfl _ _ rfl _ _ rfl _ _ rfl _ (by first | rfl | assumption) Tryz.underlying27 rfl (by kernel_rfl) ?_))
  | ((with_reducible refine qM ?_); (first | refine qS hS ?_ | refine qT hS ?_); clear hS; intro w_ hS; (try simp only [Act.put, Act.eval, zz, Value.cells] at hS)))
 replace hS := hS.nil 3 1
 go_loopg [5] (DJ st rl) (fun k uw wr => ∃ (n : Nat) (u x : Value) (N : Nat) (us : List Int), u = uw /\ DJ N rl <= k /\ us.length <= rl.length /\ x.oneCell' = true /\ Hid (satS L ⟨R, some L, st, rl, nl, gl⟩ n = (N, us) /\ us.length = n) /\ St w0 wr (.own u 3 1 us.length (AH us) :: .box g4 27 #[x] :: .box g2 27 #[.slice none 0 0] :: .box g1 31 #[.int .i64 R, .pointer (some ⟨q, 0, none⟩), .slice Cs ns cs, .slice Ar rl.length cr, .slice An nl.length cn, .slice Ag gl.length cg] :: F) (fun D w => KC D w /\ A7 w D (.agg #[x]) N))
 case atStart => exact ⟨0, _, _, st, [], rfl, Nat.le_refl _, by simp, rfl, Lib.hid ⟨rfl, rfl⟩, hS.mono (KSC.out.and A5) fun D w h => ⟨h, (kc.out _ _ h).2.2.1⟩⟩
 case round =>
  clear hS
  obtain ⟨n, u, x, N, us, rfl, hgk, hul, hx1, HI, hS⟩ := hrel
  have HGK := Lib.hid hgk
  clear hgk
  obtain ⟨Au, cu, rfl, _, _⟩ := Bg (hS.own 0 rfl)
  go_wp2_with (first
   | ((with_reducible refine qk 27 ?_); first | (refine A9 hS 0 rfl _ _ rfl _ _ rfl _ _ rfl _ (by first | rfl | assumption) Tryz.underlying27 rfl (by kernel_rfl) ?_) | (refine A9 hS 1 rfl _ _ rfl _ _ rfl _ _ rfl _ (by first | rfl | assumption) Tryz.underlying27 rfl (by kernel_rfl) ?_) | (refine A9 hS 2 rfl _ _ rfl _ _ rfl _ _ rfl _ (by first | rfl | assumption) Tryz.underlying27 rfl (by kernel_rfl) ?_) | (refine A9 hS 3 rfl _ _ rfl _ _ rfl _ _ rfl _ (by first | rfl | assumption) Tryz.underlying27 rfl (by kernel_rfl) ?_) | (refine A9 hS 4 rfl _ _ rfl _ _ rfl _ _ rfl _ (by first | rfl | assumption) Tryz.underlying27 rfl (by kernel_rfl) ?_) | (refine A9 hS 5 rfl _ _ rfl _ _ rfl _ _ rfl _ (by first | rfl | assumption) Tryz.underlying27 rfl (by kernel_rfl) ?_))
   | ((with_reducible refine qK ?_); refine qC hS ?_)
   | (go_at_call 36; refine (Ii (kh.out _ _ hS.ro.1) (HT.out _ _ (k0.out _ _ hS.ro.1)) HH.out hS.ro.2).mono ?_; rintro r_ w_ ⟨_, rfl, h1, hb_⟩; replace hS := hS.ret hb_ A5 h1; clear h1 hb_; obtain ⟨y, rfl, hy1⟩ := Ch hS.ro.2)
   | ((with_reducible refine qA 6 ?_); refine qa hS #[.slice none 0 0] ?_; clear hS; intro g6 w_ hS)
   | ((with_reducible refine qm 27 ?_); (first | refine B7 hS 0 rfl _ _ _ rfl _ _ rfl rfl _ _ rfl (by kernel_rfl) (by kernel_rfl) (by simpa using hy1) ?_ | refine B7 hS 1 rfl _ _ _ rfl _ _ rfl rfl _ _ rfl (by kernel_rfl) (by kernel_rfl) (by simpa using hy1) ?_ | refine B7 hS 2 rfl _ _ _ rfl _ _ rfl rfl _ _ rfl (by kernel_rfl) (by kernel_rfl) (by simpa using hy1) ?_ | refine B7 hS 3 rfl _ _ _ rfl _ _ rfl rfl _ _ rfl (by kernel_rfl) (by kernel_rfl) (by simpa using hy1) ?_); clear hS; intro w_ hS; (try simp only [Act.put, Act.eval, zz, Value.cells] at hS)))
  refine (idxrk_any _ rl 98 #[] #[.pointer (some ⟨g4, 0, none⟩), .pointer (some ⟨g6, 0, none⟩)] (candB L N) (by kernel_rfl) hS (fun D w h => kr.out _ _ h.1.1) fun x' z w' _ ⟨F', h⟩ => sat1_any h.ro.2 (box_is (h.holds (.box g4 27 #[x]) (by simp)).2 (by simp)) h.ro.1.1.2 (box_is (h.holds (.box g6 27 #[y]) (by simp)).2 (by simp)) h.ro.1.2).mono ?_
  clear hS
  rintro r_ w_ ⟨rfl, hS⟩
  replace hS := hS.sub (List.sublist_cons_self _ _)
  obtain ⟨KX, kx, hS2⟩ : ∃ KX : (Nat -> Prop) -> World -> Prop, Hid (∀ D w, KX D w -> KC D w /\ A7 w D (.agg #[x]) N) /\ St w0 w_ (.own (.slice Au us.length cu) 3 1 us.length (AH us) :: .box g4 27 #[x] :: .box g2 27 #[.slice none 0 0] :: .box g1 31 #[.int .i64 R, .pointer (some ⟨q, 0, none⟩), .slice Cs ns cs, .slice Ar rl.length cr, .slice An nl.length cn, .slice Ag gl.length cg] :: F) KX := ⟨_, Lib.hid fun D w h => h.1, hS⟩
  clear hS
  have hS := hS2
  clear hS2
  cases hfc : firstC L rl N with
  | none =>
   have hidx : idxQ rl (candB L N) = -1 := idxQ_no (DC.1 hfc)
   have HE := Lib.hid (sat_end (p := ⟨R, some L, st, rl, nl, gl⟩) (L := L) HTG.out (n := n) (by rw [HI.out.1]; exact hfc) (by rw [HI.out.1]; exact HI.out.2))
   rw [HI.out.1, hSM.out] at HE
   obtain rfl := HE.out
   generalize idxQ rl (candB L N) = ix at *
   subst hidx
   clear hfc HE
   go_wp2_with (first
    | ((with_reducible refine qB ?_); refine qc ?_ ?_ <;> intro h_ <;> go_prune)
    | ((with_reducible refine qk 27 ?_); first | (refine A9 hS 0 rfl _ _ rfl _ _ rfl _ _ rfl _ (by first | rfl | assumption) Tryz.underlying27 rfl (by kernel_rfl) ?_) | (refine A9 hS 1 rfl _ _ rfl _ _ rfl _ _ rfl _ (by first | rfl | assumption) Tryz.underlying27 rfl (by kernel_rfl) ?_) | (refine A9 hS 2 rfl _ _ rfl _ _ rfl _ _ rfl _ (by first | rfl | assumption) Tryz.underlying27 rfl (by kernel_rfl) ?_) | (refine A9 hS 3 rfl _ _ rfl _ _ rfl _ _ rfl _ (by first | rfl | assumption) Tryz.underlying27 rfl (by kernel_rfl) ?_) | (refine A9 hS 4 rfl _ _ rfl _ _ rfl _ _ rfl _ (by first | rfl | assumption) Tryz.underlying27 rfl (by kernel_rfl) ?_) | (refine A9 hS 5 rfl _ _ rfl _ _ rfl _ _ rfl _ (by first | rfl | assumption) Tryz.underlying27 rfl (by kernel_rfl) ?_))
    | ((with_reducible refine qK ?_); refine qL hS Tryz.underlying27 ?_)
    | ((with_reducible refine qm 27 ?_); (first | refine B7 hS 0 rfl _ _ _ rfl _ _ rfl rfl _ _ rfl (by kernel_rfl) (by kernel_rfl) (by simpa using hx1) ?_ | refine B7 hS 1 rfl _ _ _ rfl _ _ rfl rfl _ _ rfl (by kernel_rfl) (by kernel_rfl) (by simpa using hx1) ?_ | refine B7 hS 2 rfl _ _ _ rfl _ _ rfl rfl _ _ rfl (by kernel_rfl) (by kernel_rfl) (by simpa using hx1) ?_ | refine B7 hS 3 rfl _ _ _ rfl _ _ rfl rfl _ _ rfl (by kernel_rfl) (by kernel_rfl) (by simpa using hx1) ?_); clear hS; intro w_ hS; (try simp only [Act.put, Act.eval, zz, Value.cells] at hS)))
   refine Jt Tryz.results55 rfl (hS.box 2 rfl) Tryz.underlying27 rfl (by kernel_rfl) rfl rfl ?_
   exact ⟨_, _, rfl, ((hS.sub (.cons_cons _ (.cons _ (.cons _ (List.sublist_cons_self _ _)))))).mono (KS.out.and A5) fun D w h => ⟨k0.out _ _ (kx.out _ _ h).1, (kx.out _ _ h).2⟩⟩
  | some j =>
   obtain ⟨hjl, hc, hc2⟩ := Dg hfc
   have hidx : idxQ rl (candB L N) = (j : Nat) := idxQ_at (B9 AC hjl) hc hc2
   obtain ⟨b, o2, y0, m0, rfl, _, hbl, c0, c1, c2, c3, c4, -, -⟩ := (kr.out _ _ (kx.out _ _ hS.ro).1).at_ hjl
   obtain ⟨t, ht, h64⟩ := HTG.out _ (List.mem_of_getElem? (B9 AC hjl))
   have HNX := Lib.hid (C3 (p := ⟨R, some L, st, rl, nl, gl⟩) (L := L) (n := n) (k := j) (by rw [HI.out.1]; exact hfc))
   rw [HI.out.1] at HNX
   have HLK : Hid (DJ (BF N (t : Int)) rl < DJ N rl) := Lib.hid (by
    have := JJ (List.mem_of_getElem? (B9 AC hjl)) ht (Dd hc).2.1
    rwa [Dv h64] at this)
   have HUL : Hid ((us ++ [(j : Int)]).length <= rl.length) := Lib.hid (by
    have h1 := DP (p := ⟨R, some L, st, rl, nl, gl⟩) (L := L) HTG.out (n + 1)
    rw [HNX.out] at h1
    dsimp only at h1 ⊢
    omega)
   dsimp only at HNX
   generalize (rl.getD j AC).revoke = zr at *
   generalize (rl.getD j AC).origin = zo at *
   generalize (rl.getD j AC).target = zt at *
   subst ht
   generalize idxQ rl (candB L N) = ix at *
   subst hidx
   clear hc hc2 hfc
   go_wp2_with (first | ((with_reducible refine qB ?_); refine qc ?_ ?_ <;> intro h_ <;> go_prune))
   refine IG (fun i__ v w => match i__ with
    | 0 => v = .agg #[x]
    | 1 => v = .pointer (some ⟨g1, 3, none⟩)
    | 2 => v = .slice (some ⟨b, o2, none⟩) rl.length cr
    | 3 => v = .int .i64 (j : Nat)
    | 4 => v = .pointer (some ⟨b, o2 + (j) * 5, none⟩)
    | 5 => v = .pointer (some ⟨b, o2 + (j) * 5 + 3, none⟩)
    | 6 => v = .int .i64 (t : Nat)
    | 7 => ∃ u, v = .agg #[u] /\ u.oneCell' = true /\ A7 w (fun z => D6 (.own (.slice Au us.length cu) 3 1 us.length (AH us) :: .box g4 27 #[x] :: .box g2 27 #[.slice none 0 0] :: .box g1 31 #[.int .i64 R, .pointer (some ⟨q, 0, none⟩), .slice Cs ns cs, .slice (some ⟨b, o2, none⟩) rl.length cr, .slice An nl.length cn, .slice Ag gl.length cg] :: F) z \/ w_.heap.size <= z) (.agg #[u]) (BF N (t : Nat))
    | 8 => v = .slice Au us.length cu
    | 9 => v = .int .i64 (j : Nat)
    | 10 => Sl w (fun _ => True) 1 v 1 [.int .i64 (j : Nat)]
    | 11 => True
    | 12 => True
    | 13 => True
    | _ => True) 11 [12, 13] (by kernel_rfl) (by kernel_rfl) (by kernel_rfl) (by kernel_rfl) (by kernel_rfl) ?mono ⟨.inr ?r0, .inr ?r1, .inr ?r2, .inr ?r3, .inr ?r4, .inr ?r5, .inr ?r6, .inr ?r7, .inr ?r8, .inr ?r9, .inr ?r10, .inl (by decide), .inl (by decide), .inl (by decide), trivial⟩ ?post
   case mono =>
    intro i v w w' h hb
    match i, h with
    | 0, h | 1, h | 2, h | 3, h | 4, h | 5, h | 6, h => exact h
    | 7, h => exact ⟨_, h.choose_spec.1, h.choose_spec.2.1, h.choose_spec.2.2.ext hb⟩
    | 8, h | 9, h => exact h
    | 10, h => exact h.ext hb
    | 11, h | 12, h | 13, h => exact h
    | _ + 14, h => trivial
   case r0 =>
    refine DU fun b__ w hW hold hpre => wU rfl fun K hK => ?_
    have e4 : b__.eval (.tmp 4) = .pointer (some ⟨g4, 0, none⟩) := (hold 4 (by kernel_rfl)).trans rfl
    exact AK rfl e4 ((hS.ext (BU hW)).box 1 rfl) Tryz.underlying27 rfl (by kernel_rfl) (hK _ _ rfl (Below.refl _ _))
   case r1 =>
    refine DU fun b__ w hW hold hpre => wU rfl fun K hK => ?_
    have e1 : b__.eval (.tmp 1) = .pointer (some ⟨g1, 0, none⟩) := (hold 1 (by kernel_rfl)).trans rfl
    exact CD rfl e1 (by kernel_rfl) (hK _ _ rfl (Below.refl _ _))
   case r2 =>
    refine DU fun b__ w hW hold hpre => wU rfl fun K hK => ?_
    have e23 := pq hpre 0 1 23
    exact At rfl e23 (by kernel_rfl) ((hS.ext (BU hW)).shut 3 rfl 3 rfl) (hK _ _ rfl (Below.refl _ _))
   case r3 =>
    refine DU fun b__ w hW hold hpre => wU rfl fun K hK => ?_
    have e7 : b__.eval (.tmp 7) = .int .i64 (j : Nat) := (hold 7 (by kernel_rfl)).trans rfl
    exact Fw rfl e7 (hK _ _ rfl (Below.refl _ _))
   case r4 =>
    refine DU fun b__ w hW hold hpre => wU rfl fun K hK => ?_
    have e24 := pq hpre 0 2 24
    have e25 := pq hpre 1 3 25
    exact CV rfl e24 e25 (Ax (m := j) Tryz.underlying28 (by kernel_rfl) (by omega) (by omega)) (hK _ _ rfl (Below.refl _ _))
   case r5 =>
    refine DU fun b__ w hW hold hpre => wU rfl fun K hK => ?_
    have e26 := pq hpre 0 4 26
    exact CD rfl e26 (by kernel_rfl) (hK _ _ rfl (Below.refl _ _))
   case r6 =>
    refine DU fun b__ w hW hold hpre => wU rfl fun K hK => ?_
    have e27 := pq hpre 0 5 27
    exact At rfl e27 (by kernel_rfl) (((BU hW).cell hbl).trans c3) (hK _ _ rfl (Below.refl _ _))
   case r7 =>
    refine DU fun b__ w hW hold hpre => wU rfl fun K hK => ?_
    have e22 : b__.eval (.tmp 22) = .agg #[x] := pq hpre 0 0 22
    have e28 : b__.eval (.tmp 28) = .int .i64 (t : Nat) := pq hpre 1 6 28
    refine AB rfl (by kernel_rfl) (by simp only [List.map_cons, List.map_nil, e22, e28]) (Ey (.agg #[x]) N (t : Nat) w _ (kx.out _ _ (hS.ext (BU hW)).ro).2) fun v w' h hb => ?_
    obtain ⟨u, rfl, h1⟩ := Ch h
    exact hK _ w' ⟨u, rfl, h1, h.imp fun z hz _ => hz.imp id fun hz => Nat.le_trans (BU hW).size hz⟩ hb
   case r8 =>
    refine DU fun b__ w hW hold hpre => wU rfl fun K hK => ?_
    have e5 : b__.eval (.tmp 5) = .slice Au us.length cu := (hold 5 (by kernel_rfl)).trans rfl
    exact Fw rfl e5 (hK _ _ rfl (Below.refl _ _))
   case r9 =>
    refine DU fun b__ w hW hold hpre => wU rfl fun K hK => ?_
    have e7 : b__.eval (.tmp 7) = .int .i64 (j : Nat) := (hold 7 (by kernel_rfl)).trans rfl
    exact Fw rfl e7 (hK _ _ rfl (Below.refl _ _))
   case r10 =>
    refine DU fun b__ w hW hold hpre => wU rfl fun K hK => ?_
    have e31 : b__.eval (.tmp 31) = .int .i64 (j : Nat) := pq hpre 0 9 31
    refine BE rfl Tryz.underlying45 (ps := [(0, .int .i64 (j : Nat))]) (by simp [e31]) (cells := #[.int .i64 (j : Nat)]) (by kernel_rfl) fun w' hX hb => hK _ _ ((Sl.of_box (n := 1) (size := 1) hX rfl (by omega)).imp fun _ _ _ => trivial) hb
   case post =>
    intro b__ wz hW hdf hsz hold hT
    have e32 : (fun (v : Value) (w : World) => Sl w (fun _ => True) 1 v 1 [.int .i64 (j : Nat)]) (b__.eval (.tmp 32)) wz := hT 10 _ 32 (by decide) rfl rfl
    have e4 : b__.eval (.tmp 4) = .pointer (some ⟨g4, 0, none⟩) := (hold 4 (by kernel_rfl)).trans rfl
    have e29 : (fun (v : Value) (w : World) => ∃ u, v = .agg #[u] /\ u.oneCell' = true /\ A7 w (fun z => D6 (.own (.slice Au us.length cu) 3 1 us.length (AH us) :: .box g4 27 #[x] :: .box g2 27 #[.slice none 0 0] :: .box g1 31 #[.int .i64 R, .pointer (some ⟨q, 0, none⟩), .slice Cs ns cs, .slice (some ⟨b, o2, none⟩) rl.length cr, .slice An nl.length cn, .slice Ag gl.length cg] :: F) z \/ w_.heap.size <= z) (.agg #[u]) (BF N (t : Nat))) (b__.eval (.tmp 29)) wz := hT 7 _ 29 (by decide) rfl rfl
    obtain ⟨vs, hvs, hb⟩ := EK hdf hsz (fun s hs => hold s (noDstS_of hs))
    have e30 : vs 30 = .slice Au us.length cu := (hvs 30).symm.trans (hT 8 _ 30 (by decide) rfl rfl)
    replace e32 := (hvs 32) ▸ e32
    clear e4
    replace e29 := (hvs 29) ▸ e29
    have e22 : vs 22 = .agg #[x] := (hvs 22).symm.trans (hT 0 _ 22 (by decide) rfl rfl)
    have e23 : vs 23 = .pointer (some ⟨g1, 3, none⟩) := (hvs 23).symm.trans (hT 1 _ 23 (by decide) rfl rfl)
    have e24 : vs 24 = .slice (some ⟨b, o2, none⟩) rl.length cr := (hvs 24).symm.trans (hT 2 _ 24 (by decide) rfl rfl)
    have e25 : vs 25 = .int .i64 (j : Nat) := (hvs 25).symm.trans (hT 3 _ 25 (by decide) rfl rfl)
    have e26 : vs 26 = .pointer (some ⟨b, o2 + (j) * 5, none⟩) := (hvs 26).symm.trans (hT 4 _ 26 (by decide) rfl rfl)
    have e27 : vs 27 = .pointer (some ⟨b, o2 + (j) * 5 + 3, none⟩) := (hvs 27).symm.trans (hT 5 _ 27 (by decide) rfl rfl)
    have e28 : vs 28 = .int .i64 (t : Nat) := (hvs 28).symm.trans (hT 6 _ 28 (by decide) rfl rfl)
    have e31 : vs 31 = .int .i64 (j : Nat) := (hvs 31).symm.trans (hT 9 _ 31 (by decide) rfl rfl)
    subst hb
    clear hvs hold hT hdf hsz
    simp only [AF, Act.put, zz, ze]
    obtain ⟨u9, e29, hu9, hset⟩ := e29
    have hS1 := (hS.ext hW).add (A5 (v := .agg #[u9]) (N := BF N (t : Nat))) hset fun z hz _ => hz.elim id hS.fresh
    (intro o_ ho_; simp only [List.getElem?_toArray, List.getElem?_cons_succ, List.getElem?_cons_zero, Option.some.injEq] at ho_; subst ho_)
    refine EZ rfl DM e30 (hS1.own 0 rfl) rfl e32 (by intro u hu; simp at hu; subst hu; rfl) (by omega) (by omega) hS1.size fun v9 w9 ho9 hg9 hat9 => ?_
    replace hS1 := hS1.upd 0 rfl (.own v9 3 1 (us.length + 1) (AH us ++ [Value.int .i64 (j : Nat)])) hg9 ho9 hat9
    (intro o_ ho_; simp only [List.getElem?_toArray, List.getElem?_cons_succ, List.getElem?_cons_zero, Option.some.injEq] at ho_; subst ho_)
    simp only [Act.put, List.setIfInBounds_toArray, List.set_cons_zero, List.set_cons_succ]
    refine BO rfl rfl e29 (hS1.box 1 rfl) (by kernel_rfl) rfl (by simpa using hu9) fun w10 h10 hU10 => ?_
    replace hS1 := hS1.upd 1 rfl (.box g4 27 #[u9]) (Bj hU10) ⟨(hS1.holds (.box g4 27 #[x]) (by simp)).1, h10⟩ fun _ e => .inl e
    simp only [BV]
    simp only [Act.put, List.setIfInBounds_toArray, List.set_cons_zero, List.set_cons_succ]
    (intro o_ ho_; simp only [List.getElem?_toArray, List.getElem?_cons_succ, List.getElem?_cons_zero, Option.some.injEq] at ho_; subst ho_)
    refine CL rfl rfl ?_
    simp only [BV]
    simp only [Act.put, List.setIfInBounds_toArray, List.set_cons_zero, List.set_cons_succ]
    simp only [Act.eval, Array.getD_eq_getD_getElem?, List.getElem?_toArray, List.getElem?_cons_succ, List.getElem?_cons_zero, Option.getD_some]
    clear e22 e23 e24 e25 e26 e27 e28 e29 e30 e31 e32 hset hW
    clear hS
    go_wp2_with fail
    go_roundg (DJ (BF N (t : Nat)) rl)
    case measure => exact Nat.lt_of_lt_of_le HLK.out HGK.out
    case rel =>
     refine ⟨n + 1, v9, u9, BF N (t : Nat), us ++ [(j : Int)], rfl, Nat.le_refl _, HUL.out, hu9, Lib.hid ⟨HNX.out, by simp [HI.out.2]⟩, ?_⟩
     rw [show (us ++ [(j : Int)]).length = us.length + 1 by simp, show AH (us ++ [(j : Int)]) = AH us ++ [.int .i64 (j : Nat)] by simp [AH]]
     exact hS1.mono (KSC.out.and A5) fun D w h => ⟨(kx.out _ _ h.1).1, h.2⟩
end
section
open Go.RowKit
attribute [local go_sem ↓] Go.wp_at_zero Go.wp_at_succ
set_option maxRecDepth 20000
set_option exponentiation.threshold 5000
noncomputable def fragM (p : Ah) : Bool := if checkE p = 0 then Cd p else false
noncomputable def upS (p : Ah) : Nat := if checkE p = 0 then (match p.links with
 | none => 0
 | some L => uppM L p) else 0
noncomputable def obtS (p : Ah) : Nat := if fragM p = true then upS p else 0
theorem frag1_any {w : World} {D : Nat -> Prop} {x : Value} {z : Nat × Nat} (hx : AV w D x z) : Calls Tryz.prog 54 #[x] w (AP (fun r _ => r = .bool (!(z.2 == 0))) w) := by
 obtain ⟨a, b, rfl, ha, hb⟩ := hx
 obtain ⟨y, n⟩ := z
 dsimp only at ha hb ⊢
 obtain ⟨A, m, c, rfl⟩ := ha.shape
 obtain ⟨B, k, d, rfl⟩ := hb.shape
 obtain ⟨K, kb, hS⟩ : ∃ K : (Nat -> Prop) -> World -> Prop, (∀ D w, K D w -> A7 w D (.agg #[.slice B k d]) n) /\ St w w [] K := ⟨_, fun _ _ h => h, St.start A5 hb⟩
 clear ha hb
 go_enter Tryz.func54, Tryz.ntmps54
 go_wp2_with (first
  | ((with_reducible refine qA 1 ?_); refine Az hS rfl _ _ rfl (.agg #[.slice A m c, .slice B k d]) _ rfl rfl ?_; clear hS; intro g1 w_ hS; (try simp only [Act.put, Act.eval, zz, Value.cells] at hS))
  | ((with_reducible refine qk 27 ?_); first | (refine A9 hS 0 rfl _ _ rfl _ _ rfl _ _ rfl _ (by first | rfl | assumption) Tryz.underlying27 rfl (by kernel_rfl) ?_) | (refine A9 hS 1 rfl _ _ rfl _ _ rfl _ _ rfl _ (by first | rfl | assumption) Tryz.underlying27 rfl (by kernel_rfl) ?_) | (refine A9 hS 2 rfl _ _ rfl _ _ rfl _ _ rfl _ (by first | rfl | assumption) Tryz.underlying27 rfl (by kernel_rfl) ?_) | (refine A9 hS 3 rfl _ _ rfl _ _ rfl _ _ rfl _ (by first | rfl | assumption) Tryz.underlying27 rfl (by kernel_rfl) ?_) | (refine A9 hS 4 rfl _ _ rfl _ _ rfl _ _ rfl _ (by first | rfl | assumption) Tryz.underlying27 rfl (by kernel_rfl) ?_) | (refine A9 hS 5 rfl _ _ rfl _ _ rfl _ _ rfl _ (by first | rfl | assumption) Tryz.underlying27 rfl (by kernel_rfl) ?_))
  | (go_at_call 24; refine (FZ _ n _ _ (kb _ _ hS.ro)).mono ?_; rintro r_ w_ ⟨_, rfl, rfl, hb_⟩; replace hS := hS.ext hb_; clear hb_))
 go_ret
 exact AP.mk rfl hS.below
set_option maxHeartbeats 2000000 in
theorem DN {w0 : World} {D : Nat -> Prop} {v : Value} {p : Ah} (hp : Bn w0 D v p) (hP : p.Ok) (hT : Bu w0) : Calls Tryz.prog 15 #[v] w0 (AP (fun r _ => r = .bool (fragM p)) w0) := by
 obtain ⟨R, lk, st, rl, nl, gl⟩ := p
 have HP := Lib.hid hP
 have hrl : rl.length <= 100000 := hP.rules
 have hnl : nl.length <= 100000 := hP.never
 clear hP
 obtain ⟨lp, s, rv, nv, gv, rfl, h1, h2, h3, h4, h5⟩ := id hp
 dsimp only at h1 h2 h3 h4 h5
 obtain ⟨la, rfl⟩ : ∃ la, lp = .pointer la := by
  cases lk with
  | none => exact ⟨none, h1⟩
  | some L => obtain ⟨q, o, rfl, -⟩ := h1; exact ⟨_, rfl⟩
 obtain ⟨Cs, ns, cs, rfl⟩ := h2.shape
 obtain ⟨Ar, cr, rfl, _, _⟩ := h3.shape
 obtain ⟨An, cn, rfl, _, _⟩ := h4.shape
 obtain ⟨Ag, cg, rfl, _, _⟩ := h5.shape
 clear h1 h2 h3 h4 h5
 obtain ⟨K, kp, kr, kg, kt, hS⟩ : ∃ K : (Nat -> Prop) -> World -> Prop, (∀ D w, K D w -> Bn w D (.agg #[.int .i64 R, .pointer la, .slice Cs ns cs, .slice Ar rl.length cr, .slice An nl.length cn, .slice Ag gl.length cg]) ⟨R, lk, st, rl, nl, gl⟩) /\ (∀ D w, K D w -> Bq w D (.slice Ar rl.length cr) rl) /\ (∀ D w, K D w -> AA w D (.slice Ag gl.length cg) gl) /\ (∀ D w, K D w -> Bu w) /\ St w0 w0 [] K :=
  ⟨fun D w => Bn w D (.agg #[.int .i64 R, .pointer la, .slice Cs ns cs, .slice Ar rl.length cr, .slice An nl.length cn, .slice Ag gl.length cg]) ⟨R, lk, st, rl, nl, gl⟩ /\ Bu w /\ D 0, fun _ _ h => h.1, fun _ _ h => h.1.parts.2.2.1, fun _ _ h => h.1.parts.2.2.2.2, fun _ _ h => h.2.1, St.start (D := fun _ => True) (BX.and BG) ⟨BX D _ w0 w0 hp (Nat.le_refl _) (fun _ _ _ _ h => h) fun _ _ _ _ => trivial, hT, trivial⟩⟩
 clear hp hT
 have KS := Lib.hid hS.stable
 obtain ⟨e, he⟩ : ∃ e, checkE ⟨R, lk, st, rl, nl, gl⟩ = e := ⟨_, rfl⟩
 have HFR : Hid (fragM ⟨R, lk, st, rl, nl, gl⟩ = if e = 0 then Cd ⟨R, lk, st, rl, nl, gl⟩ else false) := Lib.hid (by unfold fragM; rw [he])
 have HE := Lib.hid he
 clear he
 generalize fragM ⟨R, lk, st, rl, nl, gl⟩ = RES at *
 by_cases h0 : e = 0
 ·subst h0
  replace HFR : Hid (RES = Cd ⟨R, lk, st, rl, nl, gl⟩) := Lib.hid (HFR.out.trans (if_pos rfl))
  have HFR0 := HFR
  by_cases hn : 0 < nl.length
  ·have HR2 : Hid (RES = false) := Lib.hid (HFR.out.trans (by
    unfold Cd
    cases nl with
    | nil => simp at hn
    | cons => rfl))
   go_enter Tryz.func15, Tryz.ntmps15
   go_wp2_with (first
    | ((with_reducible refine qA 1 ?_); refine Az hS rfl _ _ rfl (.agg #[.int .i64 R, .pointer la, .slice Cs ns cs, .slice Ar rl.length cr, .slice An nl.length cn, .slice Ag gl.length cg]) _ rfl rfl ?_; clear hS; intro g1 w_ hS; (try simp only [Act.put, Act.eval, zz, Value.cells] at hS))
    | ((with_reducible refine qB ?_); refine qc ?_ ?_ <;> intro h_ <;> go_prune)
    | ((with_reducible refine qK ?_); refine qL hS Tryz.underlying31 ?_)
    | ((with_reducible refine qK ?_); refine qC hS ?_)
    | (go_at_call 31; refine (CA (kp _ _ hS.ro) HP.out (kt _ _ hS.ro)).mono ?_; rw [HE.out]; rintro r_ w_ ⟨_, rfl, rfl, hb_⟩; replace hS := hS.ext hb_; clear hb_))
   go_ret
   exact AP.mk (by rw [HR2.out]; rfl) hS.below
  ·have hn0 : nl = [] := List.eq_nil_of_length_eq_zero (by omega)
   subst hn0
   clear hn hnl
   replace HFR : Hid (RES = ((rl.all fun r => r.no == 0) && !(gl.any fun z => !(z.2 == 0)))) := Lib.hid HFR.out
   go_enter Tryz.func15, Tryz.ntmps15
   go_wp2_with (first
    | ((with_reducible refine qA 1 ?_); refine Az hS rfl _ _ rfl (.agg #[.int .i64 R, .pointer la, .slice Cs ns cs, .slice Ar rl.length cr, .slice An ([] : List (Nat × Nat)).length cn, .slice Ag gl.length cg]) _ rfl rfl ?_; clear hS; intro g1 w_ hS; (try simp only [Act.put, Act.eval, zz, Value.cells] at hS))
    | ((with_reducible refine qB ?_); refine qc ?_ ?_ <;> intro h_ <;> go_prune)
    | ((with_reducible refine qK ?_); refine qL hS Tryz.underlying31 ?_)
    | ((with_reducible refine qK ?_); refine qC hS ?_)
    | (go_at_call 31; refine (CA (kp _ _ hS.ro) HP.out (kt _ _ hS.ro)).mono ?_; rw [HE.out]; rintro r_ w_ ⟨_, rfl, rfl, hb_⟩; replace hS := hS.ext hb_; clear hb_))
   go_loopw [17] (fun iv wr => ∃ j : Nat, iv = .int .i64 (j : Nat) /\ j <= rl.length /\ Hid (∀ r ∈ rl.take j, r.no = 0) /\ St w0 wr [.box g1 31 #[.int .i64 R, .pointer la, .slice Cs ns cs, .slice Ar rl.length cr, .slice An 0 cn, .slice Ag gl.length cg]] K) (fun i _ => rl.length - (intOf i).toNat)
   case atStart => exact ⟨0, rfl, by omega, Lib.hid (by simp), hS⟩
   case round =>
    clear hS
    obtain ⟨j, rfl, hj, HN, hS⟩ := hrel
    by_cases hlj : j < rl.length
    ·obtain ⟨b, o2, y0, m0, rfl, _, hbl, c0, c1, c2, c3, c4, hy, hm⟩ := (kr _ _ hS.ro).at_ hlj
     have HG := Lib.hid (B9 AC hlj)
     have HM2 := Lib.hid hm
     obtain ⟨Ay, my, cy, rfl⟩ := hy.shape
     obtain ⟨Am, mn, cm, rfl⟩ := hm.shape
     clear hy hm
     generalize rl.getD j AC = z at *
     obtain ⟨zr, y, n, rt, ro⟩ := z
     dsimp only at c0 c1 c2 c3 c4 HM2
     replace hS := hS.add (D := D6 [.box g1 31 #[.int .i64 R, .pointer la, .slice Cs ns cs, .slice (some ⟨b, o2, none⟩) rl.length cr, .slice An 0 cn, .slice Ag gl.length cg]]) (A5 (v := .agg #[.slice Am mn cm]) (N := n)) HM2.out fun _ h _ => h
     clear HM2
     go_wp2_with (first
      | ((with_reducible refine qB ?_); refine qc ?_ ?_ <;> intro h_ <;> go_prune)
      | ((with_reducible refine qA 20 ?_); refine BigFrame.wpList_want rfl fun _ hK => AY (cs := [.bool zr, .slice Ay my cy, .slice Am mn cm, .int .i64 rt, .int .i64 ro]) rfl rfl (G7 c0 c1 c2 c3 c4) Tryz.underlying58 rfl (by kernel_rfl) (hK _ _ ?_))
      | ((with_reducible refine qA 4 ?_); refine qa hS #[.bool false, .slice none 0 0, .slice none 0 0, .int .i64 0, .int .i64 0] ?_; clear hS; intro g4 w_ hS)
      | ((with_reducible refine qk 27 ?_); first | (refine A9 hS 0 rfl _ _ rfl _ _ rfl _ _ rfl _ (by first | rfl | assumption) Tryz.underlying27 rfl (by kernel_rfl) ?_) | (refine A9 hS 1 rfl _ _ rfl _ _ rfl _ _ rfl _ (by first | rfl | assumption) Tryz.underlying27 rfl (by kernel_rfl) ?_) | (refine A9 hS 2 rfl _ _ rfl _ _ rfl _ _ rfl _ (by first | rfl | assumption) Tryz.underlying27 rfl (by kernel_rfl) ?_) | (refine A9 hS 3 rfl _ _ rfl _ _ rfl _ _ rfl _ (by first | rfl | assumption) Tryz.underlying27 rfl (by kernel_rfl) ?_) | (refine A9 hS 4 rfl _ _ rfl _ _ rfl _ _ rfl _ (by first | rfl | assumption) Tryz.underlying27 rfl (by kernel_rfl) ?_) | (refine A9 hS 5 rfl _ _ rfl _ _ rfl _ _ rfl _ (by first | rfl | assumption) Tryz.underlying27 rfl (by kernel_rfl) ?_))
      | ((with_reducible refine qM ?_); (first | refine qS hS ?_ | refine qT hS ?_); clear hS; intro w_ hS; (try simp only [Act.put, Act.eval, zz, Value.cells] at hS))
      | ((with_reducible refine qK ?_); refine qC hS ?_))
     refine (FZ _ n _ _ hS.ro.2).mono ?_
     rintro r_ w_ ⟨_, rfl, rfl, hb_⟩
     replace hS := hS.ext hb_
     clear hb_
     by_cases hn0 : n = 0
     ·subst hn0
      rw [show ((0 : Nat) == 0) = true from rfl]
      go_wp2_with fail
      exact ⟨⟨j + 1, by go_num, hlj, Lib.hid (fun r hr => (Di HG.out hr).elim (HN.out r) fun e => by rw [e]), (hS.sub (List.sublist_cons_self _ _)).mono KS.out fun D w h => h.1⟩, by simp [intOf]; omega⟩
     ·rw [show (n == 0) = false from by simpa using hn0]
      go_wp2_with fail
      go_ret
      exact AP.mk (by rw [HFR0.out, frag_no_rule (p := ⟨R, lk, st, rl, [], gl⟩) (List.mem_of_getElem? HG.out) hn0]; rfl) hS.below
    ·obtain rfl : j = rl.length := by omega
     rw [List.take_length] at HN
     go_wp2_with (first
      | ((with_reducible refine qB ?_); refine qc ?_ ?_ <;> intro h_ <;> go_prune)
      | ((with_reducible refine qK ?_); refine qC hS ?_))
     refine (Hp _ gl 54 #[] #[] (fun z => !(z.2 == 0)) (by kernel_rfl) hS kg fun x z w _ ⟨F', h⟩ => frag1_any h.ro.2).mono ?_
     clear hS
     rintro r_ w2 ⟨rfl, hS⟩
     go_wp2_with fail
     go_ret
     refine AP.mk ?_ hS.below
     rw [HFR.out, List.all_eq_true.2 fun r hr => by rw [HN.out r hr]; rfl]
     rfl
 ·have HR2 : Hid (RES = false) := Lib.hid (HFR.out.trans (if_neg h0))
  go_enter Tryz.func15, Tryz.ntmps15
  go_wp2_with (first
   | ((with_reducible refine qA 1 ?_); refine Az hS rfl _ _ rfl (.agg #[.int .i64 R, .pointer la, .slice Cs ns cs, .slice Ar rl.length cr, .slice An nl.length cn, .slice Ag gl.length cg]) _ rfl rfl ?_; clear hS; intro g1 w_ hS; (try simp only [Act.put, Act.eval, zz, Value.cells] at hS))
   | ((with_reducible refine qB ?_); refine qc ?_ ?_ <;> intro h_ <;> go_prune)
   | ((with_reducible refine qK ?_); refine qL hS Tryz.underlying31 ?_)
   | ((with_reducible refine qK ?_); refine qC hS ?_)
   | (go_at_call 31; refine (CA (kp _ _ hS.ro) HP.out (kt _ _ hS.ro)).mono ?_; rw [HE.out]; rintro r_ w_ ⟨_, rfl, rfl, hb_⟩; replace hS := hS.ext hb_; clear hb_))
  go_ret
  exact AP.mk (by rw [HR2.out]; rfl) hS.below
set_option maxHeartbeats 2000000 in
theorem upper_any {w0 w : World} {F : List Ai} {K : (Nat -> Prop) -> World -> Prop} {v : Value} {p : Ah} (hP : p.Ok) (hS : St w0 w F K) (kp : ∀ D w, K D w -> Bn w D v p) (kt : ∀ D w, K D w -> Bu w) :
  Calls Tryz.prog 17 #[v] w fun e w' => ∃ x, e = .returned x /\ St w0 w' F fun D w => K D w /\ A7 w D x (upS p) := by
 have HP := Lib.hid hP
 have HK := Lib.hid kp
 have HT := Lib.hid kt
 have KS := Lib.hid hS.stable
 obtain ⟨xs, rfl, hx6, hx1⟩ := (kp _ _ hS.ro).cells
 replace hx6 := Lib.hid hx6
 clear hP kp kt
 obtain ⟨e, he⟩ : ∃ e, checkE p = e := ⟨_, rfl⟩
 have HE := Lib.hid he
 clear he
 obtain ⟨U, hU⟩ : ∃ U, upS p = U := ⟨_, rfl⟩
 rw [hU]
 have HU := Lib.hid hU
 clear hU
 by_cases h0 : e = 0
 ·subst h0
  cases hlk : p.links with
  | none => have := HE.out; unfold checkE at this; rw [hlk] at this; cases this
  | some L =>
   have HL := Lib.hid hlk
   have HTG := Lib.hid (FB HE.out hlk)
   have HSU : Hid ((satM L p).1 = U) := Lib.hid (by rw [FR HTG.out, <- HU.out]; unfold upS; rw [if_pos HE.out, HL.out])
   clear hlk
   go_enter Tryz.func17, Tryz.ntmps17
   go_wp2_with (first
    | ((with_reducible refine qA 1 ?_); refine Az hS rfl _ _ rfl (.agg xs) xs rfl rfl ?_; clear hS; intro g1 w_ hS; (try simp only [Act.put, Act.eval, zz, Value.cells] at hS))
    | ((with_reducible refine qA 2 ?_); refine qa hS #[.slice none 0 0] ?_; clear hS; intro g2 w_ hS)
    | ((with_reducible refine qA 3 ?_); refine qa hS #[.slice none 0 0] ?_; clear hS; intro g3 w_ hS)
    | ((with_reducible refine qB ?_); refine qc ?_ ?_ <;> intro h_ <;> go_prune)
    | ((with_reducible refine qk 31 ?_); refine BigFrame.wpList_want rfl fun _ hK => AK rfl rfl (hS.box 1 rfl) Tryz.underlying31 rfl (by rw [hx6.out]; kernel_rfl) (hK _ _ ?_))
    | (go_at_call 31; refine (CA (HK.out _ _ hS.ro) HP.out (HT.out _ _ hS.ro)).mono ?_; rw [HE.out]; rintro r_ w_ ⟨_, rfl, rfl, hb_⟩; replace hS := hS.ext hb_; clear hb_)
    | (go_at_call 55; refine (Fn HL.out HP.out HTG.out hS HK.out HT.out).mono ?_; rw [HSU.out]; clear hS; rintro e w_ ⟨y, us, rfl, hS⟩; obtain ⟨u, rfl, hu1⟩ := Ch hS.ro.2)
    | ((with_reducible refine qK ?_); refine qL hS Tryz.underlying27 ?_)
    | ((with_reducible refine qm 27 ?_); (first | refine B7 hS 0 rfl _ _ _ rfl _ _ rfl rfl _ _ rfl (by kernel_rfl) (by kernel_rfl) (by simpa using hu1) ?_ | refine B7 hS 1 rfl _ _ _ rfl _ _ rfl rfl _ _ rfl (by kernel_rfl) (by kernel_rfl) (by simpa using hu1) ?_ | refine B7 hS 2 rfl _ _ _ rfl _ _ rfl rfl _ _ rfl (by kernel_rfl) (by kernel_rfl) (by simpa using hu1) ?_ | refine B7 hS 3 rfl _ _ _ rfl _ _ rfl rfl _ _ rfl (by kernel_rfl) (by kernel_rfl) (by simpa using hu1) ?_); clear hS; intro w_ hS; (try simp only [Act.put, Act.eval, zz, Value.cells] at hS)))
   refine Bm Tryz.results17 rfl (hS.box 2 rfl) Tryz.underlying27 rfl (by kernel_rfl) rfl ?_
   exact ⟨_, rfl, (hS.sub (List.sublist_append_right [_, _, _, _] F)).mono (KS.out.and A5) fun D w h => h⟩
 ·have HU0 : Hid (U = 0) := Lib.hid (by rw [<- HU.out]; unfold upS; rw [HE.out, if_neg h0])
  go_enter Tryz.func17, Tryz.ntmps17
  go_wp2_with (first
   | ((with_reducible refine qA 1 ?_); refine Az hS rfl _ _ rfl (.agg xs) xs rfl rfl ?_; clear hS; intro g1 w_ hS; (try simp only [Act.put, Act.eval, zz, Value.cells] at hS))
   | ((with_reducible refine qA 2 ?_); refine qa hS #[.slice none 0 0] ?_; clear hS; intro g2 w_ hS)
   | ((with_reducible refine qB ?_); refine qc ?_ ?_ <;> intro h_ <;> go_prune)
   | ((with_reducible refine qk 31 ?_); refine BigFrame.wpList_want rfl fun _ hK => AK rfl rfl (hS.box 1 rfl) Tryz.underlying31 rfl (by rw [hx6.out]; kernel_rfl) (hK _ _ ?_))
   | (go_at_call 31; refine (CA (HK.out _ _ hS.ro) HP.out (HT.out _ _ hS.ro)).mono ?_; rw [HE.out]; rintro r_ w_ ⟨_, rfl, rfl, hb_⟩; replace hS := hS.ext hb_; clear hb_)
   | ((with_reducible refine qA 8 ?_); refine AL rfl _ _ rfl #[.slice none 0 0] (by kernel_rfl) ?_; (try simp only [Act.put, List.setIfInBounds_toArray, List.set_cons_zero, List.set_cons_succ]))
   | ((with_reducible refine qM ?_); (first | refine qS hS ?_ | refine qT hS ?_); clear hS; intro w_ hS; (try simp only [Act.put, Act.eval, zz, Value.cells] at hS)))
  refine Bm Tryz.results17 rfl (hS.box 0 rfl) Tryz.underlying27 rfl (by kernel_rfl) rfl ?_
  exact ⟨_, rfl, (hS.sub (List.sublist_append_right [_, _] F)).mono (KS.out.and A5) fun D w h => ⟨h, by rw [HU0.out]; exact A7.empty⟩⟩
set_option maxHeartbeats 2000000 in
theorem JE {w0 w : World} {F : List Ai} {K : (Nat -> Prop) -> World -> Prop} {v : Value} {p : Ah} (hP : p.Ok) (hS : St w0 w F K) (kp : ∀ D w, K D w -> Bn w D v p) (kt : ∀ D w, K D w -> Bu w) :
  Calls Tryz.prog 23 #[v] w fun e w' => ∃ x, e = .returned x /\ St w0 w' F fun D w => K D w /\ A7 w D x (obtS p) := by
 have HP := Lib.hid hP
 have HK := Lib.hid kp
 have HT := Lib.hid kt
 have KS := Lib.hid hS.stable
 obtain ⟨xs, rfl, hx6, hx1⟩ := (kp _ _ hS.ro).cells
 replace hx6 := Lib.hid hx6
 clear hP kp kt
 obtain ⟨b, hb⟩ : ∃ b, fragM p = b := ⟨_, rfl⟩
 have HB := Lib.hid hb
 clear hb
 obtain ⟨U, hU⟩ : ∃ U, obtS p = U := ⟨_, rfl⟩
 rw [hU]
 have HU := Lib.hid hU
 clear hU
 cases b
 ·have HU0 : Hid (U = 0) := Lib.hid (by rw [<- HU.out]; unfold obtS; rw [HB.out, if_neg (by decide)])
  go_enter Tryz.func23, Tryz.ntmps23
  go_wp2_with (first
   | ((with_reducible refine qA 1 ?_); refine Az hS rfl _ _ rfl (.agg xs) xs rfl rfl ?_; clear hS; intro g1 w_ hS; (try simp only [Act.put, Act.eval, zz, Value.cells] at hS))
   | ((with_reducible refine qA 2 ?_); refine qa hS #[.slice none 0 0] ?_; clear hS; intro g2 w_ hS)
   | ((with_reducible refine qk 31 ?_); refine BigFrame.wpList_want rfl fun _ hK => AK rfl rfl (hS.box 1 rfl) Tryz.underlying31 rfl (by rw [hx6.out]; kernel_rfl) (hK _ _ ?_))
   | (go_at_call 15; refine (DN (HK.out _ _ hS.ro) HP.out (HT.out _ _ hS.ro)).mono ?_; rw [HB.out]; rintro r_ w_ ⟨_, rfl, rfl, hb_⟩; replace hS := hS.ext hb_; clear hb_)
   | ((with_reducible refine qA 6 ?_); refine AL rfl _ _ rfl #[.slice none 0 0] (by kernel_rfl) ?_; (try simp only [Act.put, List.setIfInBounds_toArray, List.set_cons_zero, List.set_cons_succ]))
   | ((with_reducible refine qM ?_); (first | refine qS hS ?_ | refine qT hS ?_); clear hS; intro w_ hS; (try simp only [Act.put, Act.eval, zz, Value.cells] at hS)))
  refine Bm Tryz.results23 rfl (hS.box 0 rfl) Tryz.underlying27 rfl (by kernel_rfl) rfl ?_
  exact ⟨_, rfl, (hS.sub (List.sublist_append_right [_, _] F)).mono (KS.out.and A5) fun D w h => ⟨h, by rw [HU0.out]; exact A7.empty⟩⟩
 ·have HU0 : Hid (upS p = U) := Lib.hid (by rw [<- HU.out]; unfold obtS; rw [HB.out, if_pos rfl])
  go_enter Tryz.func23, Tryz.ntmps23
  go_wp2_with (first
   | ((with_reducible refine qA 1 ?_); refine Az hS rfl _ _ rfl (.agg xs) xs rfl rfl ?_; clear hS; intro g1 w_ hS; (try simp only [Act.put, Act.eval, zz, Value.cells] at hS))
   | ((with_reducible refine qA 2 ?_); refine qa hS #[.slice none 0 0] ?_; clear hS; intro g2 w_ hS)
   | ((with_reducible refine qk 31 ?_); refine BigFrame.wpList_want rfl fun _ hK => AK rfl rfl (hS.box 1 rfl) Tryz.underlying31 rfl (by rw [hx6.out]; kernel_rfl) (hK _ _ ?_))
   | (go_at_call 15; refine (DN (HK.out _ _ hS.ro) HP.out (HT.out _ _ hS.ro)).mono ?_; rw [HB.out]; rintro r_ w_ ⟨_, rfl, rfl, hb_⟩; replace hS := hS.ext hb_; clear hb_)
   | (go_at_call 17; refine (upper_any HP.out hS HK.out HT.out).mono ?_; rw [HU0.out]; clear hS; rintro e w_ ⟨y, rfl, hS⟩; obtain ⟨u, rfl, hu1⟩ := Ch hS.ro.2)
   | ((with_reducible refine qm 27 ?_); (first | refine B7 hS 0 rfl _ _ _ rfl _ _ rfl rfl _ _ rfl (by kernel_rfl) (by kernel_rfl) (by simpa using hu1) ?_ | refine B7 hS 1 rfl _ _ _ rfl _ _ rfl rfl _ _ rfl (by kernel_rfl) (by kernel_rfl) (by simpa using hu1) ?_ | refine B7 hS 2 rfl _ _ _ rfl _ _ rfl rfl _ _ rfl (by kernel_rfl) (by kernel_rfl) (by simpa using hu1) ?_ | refine B7 hS 3 rfl _ _ _ rfl _ _ rfl rfl _ _ rfl (by kernel_rfl) (by kernel_rfl) (by simpa using hu1) ?_); clear hS; intro w_ hS; (try simp only [Act.put, Act.eval, zz, Value.cells] at hS)))
  refine Bm Tryz.results23 rfl (hS.box 0 rfl) Tryz.underlying27 rfl (by kernel_rfl) rfl ?_
  exact ⟨_, rfl, (hS.sub (List.sublist_append_right [_, _] F)).mono (KS.out.and A5) fun D w h => h⟩
end
section
open Go.RowKit
attribute [local go_sem ↓] Go.wp_at_zero Go.wp_at_succ
set_option maxRecDepth 20000
set_option exponentiation.threshold 5000
def Dp (r : AM) : AM := ⟨r.revoke, r.yes, 0, r.target, r.origin⟩
def EW (p : Ah) : Ah := ⟨p.roles, p.links, p.start, p.rules.map Dp, [], p.goal.map fun z => (z.1, 0)⟩
theorem plain_frag (p : Ah) : Cd (EW p) = true := by
 unfold Cd EW
 simp [Dp]
theorem Bp.plain {p : Ah} {L : List (Nat × Nat)} {R : Nat} (h : Bp p L R) : Bp (EW p) L R where
 links := h.links
 roles := h.roles
 r2 := h.r2
 r5 := h.r5
 hok := h.hok
 inr := h.inr
 len := h.len
 start := h.start
 rlen := by show (p.rules.map Dp).length <= 6; rw [List.length_map]; exact h.rlen
 rules := fun z hz => by
  obtain ⟨r, hr, rfl⟩ := List.mem_map.1 hz
  obtain ⟨h1, h2, h3, h4, h5, h6, h7, h8⟩ := h.rules r hr
  exact ⟨h1, h2, h3, by simp [Dp], by simp [Dp], h6, by simp [Dp], fun e => ⟨(h8 e).1, rfl⟩⟩
 nlen := by simp [EW]
 never := fun z hz => by simp [EW] at hz
 glen := by show (p.goal.map _).length <= 3; rw [List.length_map]; exact h.glen
 gpos := by show 1 <= (p.goal.map _).length; rw [List.length_map]; exact h.gpos
 goal := fun z hz => by
  obtain ⟨r, hr, rfl⟩ := List.mem_map.1 hz
  obtain ⟨h1, h2, h3, h4, h5⟩ := h.goal r hr
  exact ⟨h1, by simp, by simp, h4, by simp⟩
set_option maxHeartbeats 4000000 in
theorem rplain_any {w0 w : World} {F : List Ai} {K : (Nat -> Prop) -> World -> Prop} {v : Value} {p : Ah} {L : List (Nat × Nat)} {R : Nat} (hM : Bp p L R) (hS : St w0 w F K) (kp : ∀ D w, K D w -> Bi w D v p) :
  Calls Tryz.prog 51 #[v] w fun e w' => ∃ u, e = .returned u /\ St w0 w' F fun D w => K D w /\ Bi w D u (EW p) := by
 obtain ⟨R', lk, st, rl, nl, gl⟩ := p
 obtain rfl : lk = some L := hM.links
 obtain rfl : R' = (R : Int) := hM.roles
 obtain ⟨Al, cl, Ar, cr, An, cn, Ag, cg, rfl⟩ := BZ (kp _ _ hS.ro)
 have kl : ∀ D w, K D w -> Sl w D 2 (.slice Al L.length cl) L.length (Af L) := fun D w h => (C4 (kp D w h)).1
 have kr : ∀ D w, K D w -> Sl w D 5 (.slice Ar rl.length cr) rl.length (B6 rl) := fun D w h => (C4 (kp D w h)).2.1
 have kg : ∀ D w, K D w -> Sl w D 2 (.slice Ag gl.length cg) gl.length (Bb gl) := fun D w h => (C4 (kp D w h)).2.2.2
 have hr6 : rl.length <= 6 := hM.rlen
 have hg3 : gl.length <= 3 := hM.glen
 have KS := Lib.hid hS.stable
 clear hM kp
 go_enter Tryz.func51, Tryz.ntmps51
 go_wp2_with (first
  | ((with_reducible refine qA 1 ?_); refine Az hS rfl _ _ rfl (.agg #[.int .i64 (R : Nat), .slice Al L.length cl, .int .u64 (st : Nat), .slice Ar rl.length cr, .slice An nl.length cn, .slice Ag gl.length cg]) _ rfl rfl ?_; clear hS; intro g1 w_ hS; (try simp only [Act.put, Act.eval, zz, Value.cells] at hS))
  | ((with_reducible refine qA 2 ?_); refine qa hS #[.int .i64 0, .slice none 0 0, .int .u64 0, .slice none 0 0, .slice none 0 0, .slice none 0 0] ?_; clear hS; intro g2 w_ hS)
  | ((with_reducible refine qA 3 ?_); refine qa hS #[.int .i64 0, .slice none 0 0, .int .u64 0, .slice none 0 0, .slice none 0 0, .slice none 0 0] ?_; clear hS; intro g3 w_ hS)
  | ((with_reducible refine qA 14 ?_); refine AL rfl _ _ rfl #[.int .i64 (R : Nat), .slice Al L.length cl, .int .u64 (st : Nat), .slice none 0 0, .slice none 0 0, .slice none 0 0] (by kernel_rfl) ?_; (try simp only [Act.put, List.setIfInBounds_toArray, List.set_cons_zero, List.set_cons_succ]))
  | ((with_reducible refine qM ?_); (first | refine qS hS ?_ | refine qT hS ?_); clear hS; intro w_ hS; (try simp only [Act.put, Act.eval, zz, Value.cells] at hS))
  | ((with_reducible refine qK ?_); refine qC hS ?_))
 replace hS := hS.nil 96 5
 go_loopw [18] (fun iv wr => ∃ (j : Nat) (rv : Value), iv = .int .i64 (j : Nat) /\ j <= rl.length /\ St w0 wr (.own rv 96 5 j (B6 ((rl.take j).map Dp)) :: .box g3 37 #[.int .i64 (R : Nat), .slice Al L.length cl, .int .u64 (st : Nat), rv, .slice none 0 0, .slice none 0 0] :: .box g2 37 #[.int .i64 0, .slice none 0 0, .int .u64 0, .slice none 0 0, .slice none 0 0, .slice none 0 0] :: .box g1 37 #[.int .i64 (R : Nat), .slice Al L.length cl, .int .u64 (st : Nat), .slice Ar rl.length cr, .slice An nl.length cn, .slice Ag gl.length cg] :: F) K) (fun i _ => rl.length - (intOf i).toNat)
 case atStart => exact ⟨0, _, rfl, by omega, hS⟩
 case round =>
  clear hS
  obtain ⟨j, rv, rfl, hj, hS⟩ := hrel
  by_cases hlj : j < rl.length
  ·obtain ⟨b, o, rfl, c0, c1, c2, c3, c4⟩ := Io (kr _ _ hS.ro) hlj
   have HT : Hid (B6 ((rl.take (j + 1)).map Dp) = B6 ((rl.take j).map Dp) ++ [.bool (rl.getD j AC).revoke, .int .u64 ((rl.getD j AC).yes : Nat), .int .u64 0, .int .i64 (rl.getD j AC).target, .int .i64 (rl.getD j AC).origin]) := Lib.hid (by
    rw [List.take_add_one, List.getElem?_eq_getElem hlj, List.getD_eq_getElem?_getD, List.getElem?_eq_getElem hlj, List.map_append, Fr]; rfl)
   generalize B6 ((rl.take j).map Dp) = X at *
   generalize rl.getD j AC = z at *
   obtain ⟨zr, y, n, rt, ro⟩ := z
   dsimp only at c0 c1 c2 c3 c4 HT
   go_wp2_with (first
    | ((with_reducible refine qB ?_); refine qc ?_ ?_ <;> intro h_ <;> go_prune)
    | ((with_reducible refine qA 21 ?_); refine BigFrame.wpList_want rfl fun _ hK => AY (cs := [.bool zr, .int .u64 (y : Nat), .int .u64 (n : Nat), .int .i64 rt, .int .i64 ro]) rfl rfl (G7 c0 c1 c2 c3 c4) Tryz.underlying96 rfl (by kernel_rfl) (hK _ _ ?_))
    | ((with_reducible refine qA 5 ?_); refine qa hS #[.bool false, .int .u64 0, .int .u64 0, .int .i64 0, .int .i64 0] ?_; clear hS; intro g5 w_ hS)
    | ((with_reducible refine qK ?_); refine qL hS Tryz.underlying96 ?_)
    | ((with_reducible refine qA 27 ?_); refine CT hS 1 rfl rfl _ _ _ _ rfl rfl I4 rv j X (.agg #[.bool zr, .int .u64 (y : Nat), .int .u64 0, .int .i64 rt, .int .i64 ro]) #[.bool zr, .int .u64 (y : Nat), .int .u64 0, .int .i64 rt, .int .i64 ro] rfl (by kernel_rfl) rfl rfl rfl rfl (by intro u hu; simp at hu; rcases hu with rfl | rfl | rfl | rfl | rfl <;> rfl) (by omega) (by omega) ?_; clear hS; intro z_ rv' w_ hS; (try simp only [Act.put, Act.eval, zz, Value.cells] at hS); obtain ⟨Av, cv, rfl, _, _⟩ := Bg (hS.own 1 rfl))
    | ((with_reducible refine qM ?_); (first | refine qS hS ?_ | refine qT hS ?_); clear hS; intro w_ hS; (try simp only [Act.put, Act.eval, zz, Value.cells] at hS))
    | ((with_reducible refine qK ?_); refine qC hS ?_))
   exact ⟨⟨j + 1, _, by go_num, hlj, by rw [HT.out]; exact hS.sub (List.sublist_cons_self _ _)⟩, by simp [intOf]; omega⟩
  ·obtain rfl : j = rl.length := by omega
   rw [List.take_length] at hS
   obtain ⟨X, hX⟩ : ∃ X, B6 (rl.map Dp) = X := ⟨_, rfl⟩
   rw [hX] at hS
   have HX := Lib.hid hX
   clear hX
   obtain ⟨Av, cv, rfl, _, _⟩ := Bg (hS.own 0 rfl)
   replace hS := hS.freeze 0 (by decide) rfl
   go_wp2_with (first
    | ((with_reducible refine qB ?_); refine qc ?_ ?_ <;> intro h_ <;> go_prune)
    | ((with_reducible refine qK ?_); refine qC hS ?_))
   replace hS := hS.nil 94 2
   go_loopw [34] (fun iv wr => ∃ (k : Nat) (gv : Value), iv = .int .i64 (k : Nat) /\ k <= gl.length /\ St w0 wr (.own gv 94 2 k (Bb ((gl.take k).map fun z => (z.1, 0))) :: .box g3 37 #[.int .i64 (R : Nat), .slice Al L.length cl, .int .u64 (st : Nat), .slice Av rl.length cv, .slice none 0 0, gv] :: .box g2 37 #[.int .i64 0, .slice none 0 0, .int .u64 0, .slice none 0 0, .slice none 0 0, .slice none 0 0] :: .box g1 37 #[.int .i64 (R : Nat), .slice Al L.length cl, .int .u64 (st : Nat), .slice Ar rl.length cr, .slice An nl.length cn, .slice Ag gl.length cg] :: F) (fun D w => K D w /\ Sl w D 5 (.slice Av rl.length cv) rl.length X)) (fun i _ => gl.length - (intOf i).toNat)
   case atStart => exact ⟨0, _, rfl, by omega, hS⟩
   case round =>
    clear hS
    obtain ⟨k, gv, rfl, hk, hS⟩ := hrel
    by_cases hlk : k < gl.length
    ·obtain ⟨bp, op, rfl⟩ := sl_pos (kg _ _ hS.ro.1) (by omega)
     obtain ⟨f0, f1⟩ := DQ gl k hlk
     have c0 := Ef (kg _ _ hS.ro.1) f0
     have c1 := Ef (kg _ _ hS.ro.1) f1
     have HT : Hid (Bb ((gl.take (k + 1)).map fun z => (z.1, 0)) = Bb ((gl.take k).map fun z => (z.1, 0)) ++ [.int .u64 ((gl.getD k (0, 0)).1 : Nat), .int .u64 0]) := Lib.hid (by
      rw [FQ gl k (0, 0) hlk, List.map_append, Et]; rfl)
     generalize Bb ((gl.take k).map fun z => (z.1, 0)) = X2 at *
     generalize gl.getD k (0, 0) = z at *
     obtain ⟨y, n⟩ := z
     dsimp only at c0 c1 f0 f1 HT
     clear f0 f1
     go_wp2_with (first
      | ((with_reducible refine qB ?_); refine qc ?_ ?_ <;> intro h_ <;> go_prune)
      | ((with_reducible refine qA 37 ?_); refine BigFrame.wpList_want rfl fun _ hK => AY (cs := [.int .u64 (y : Nat), .int .u64 (n : Nat)]) rfl rfl (Jr c0 c1) Tryz.underlying94 rfl (by kernel_rfl) (hK _ _ ?_))
      | ((with_reducible refine qA 7 ?_); refine qa hS #[.int .u64 0, .int .u64 0] ?_; clear hS; intro g7 w_ hS)
      | ((with_reducible refine qA 42 ?_); refine AL rfl _ _ rfl #[.int .u64 (y : Nat), .int .u64 0] (by kernel_rfl) ?_; (try simp only [Act.put, List.setIfInBounds_toArray, List.set_cons_zero, List.set_cons_succ]))
      | ((with_reducible refine qA 43 ?_); refine CT hS 1 rfl rfl _ _ _ _ rfl rfl ty_mkc gv k X2 (.agg #[.int .u64 (y : Nat), .int .u64 0]) #[.int .u64 (y : Nat), .int .u64 0] rfl (by kernel_rfl) rfl rfl rfl rfl (by intro u hu; simp at hu; rcases hu with rfl | rfl <;> rfl) (by omega) (by omega) ?_; clear hS; intro z_ gv' w_ hS; (try simp only [Act.put, Act.eval, zz, Value.cells] at hS); obtain ⟨Aw, cw, rfl, _, _⟩ := Bg (hS.own 1 rfl))
      | ((with_reducible refine qM ?_); (first | refine qS hS ?_ | refine qT hS ?_); clear hS; intro w_ hS; (try simp only [Act.put, Act.eval, zz, Value.cells] at hS))
      | ((with_reducible refine qK ?_); refine qC hS ?_))
     exact ⟨⟨k + 1, _, by go_num, hlk, by rw [HT.out]; exact hS.sub (List.sublist_cons_self _ _)⟩, by simp [intOf]; omega⟩
    ·obtain rfl : k = gl.length := by omega
     rw [List.take_length] at hS
     obtain ⟨X2, hX2⟩ : ∃ X, Bb (gl.map fun z => (z.1, 0)) = X := ⟨_, rfl⟩
     rw [hX2] at hS
     have HX2 := Lib.hid hX2
     clear hX2
     obtain ⟨Aw, cw, rfl, _, _⟩ := Bg (hS.own 0 rfl)
     replace hS := hS.freeze 0 (by decide) rfl
     go_wp2_with (first
      | ((with_reducible refine qB ?_); refine qc ?_ ?_ <;> intro h_ <;> go_prune)
      | ((with_reducible refine qK ?_); refine qL hS Tryz.underlying37 ?_)
      | ((with_reducible refine qM ?_); (first | refine qS hS ?_ | refine qT hS ?_); clear hS; intro w_ hS; (try simp only [Act.put, Act.eval, zz, Value.cells] at hS)))
     refine Bm Tryz.results51 rfl (hS.box 1 rfl) Tryz.underlying37 rfl (by kernel_rfl) rfl ?_
     refine ⟨_, rfl, (hS.sub (List.sublist_append_right [_, _, _] F)).mono (KS.out.and Bo) fun D w h => ⟨h.1.1, ?_⟩⟩
     refine ⟨_, _, _, _, L, rfl, rfl, kl _ _ h.1.1, ?_, Sl.none_, ?_⟩
     ·show Sl w D 5 _ (rl.map Dp).length (B6 (rl.map Dp)); rw [List.length_map, HX.out]; exact h.1.2
     ·show Sl w D 2 _ (gl.map fun z => (z.1, 0)).length (Bb (gl.map fun z => (z.1, 0))); rw [List.length_map, HX2.out]; exact h.2
end
section
open Go.RowKit
attribute [local go_sem ↓] Go.wp_at_zero Go.wp_at_succ
set_option maxRecDepth 20000
set_option exponentiation.threshold 5000
section
variable {P : Program} {w : World} {t : TypeId}
theorem run_shrW {s r : Nat} (hr : r <= 64) : (binOp .shr t (.int .u64 (s : Nat)) (.int .i64 (r : Nat))).run P w = .ok (.int .u64 (Jh s r : Nat)) w := by
 rw [binOp_shr, shift_shr _ _ _ _ (by omega) (by show (r : Int) <= 64; omega)]
 simp [Jh]
theorem run_rem2W {m : Nat} : (binOp .rem t (.int .u64 (m : Nat)) (.int .u64 2)).run P w = .ok (.int .u64 (rem2 m : Nat)) w := by
 go_simp
 exact tmod_nat m 2
theorem Ic {s r : Nat} {b : Bool} (hb : s.testBit r = b) : (binOp .eql t (.int .u64 (rem2 (Jh s r) : Nat)) (.int .u64 0)).run P w = .ok (.bool (!b)) w := by
 rw [binOp_eql, bit_of, hb]
 cases b <;> simp
end
def BQ (L : List (Nat × Nat)) (l : List AM) (N m : Nat) (f : Int) : Prop :=
 (f = -1 /\ ∀ i, m <= i -> i < l.length -> candB L N (l.getD i AC) = false) \/ ∃ j : Nat, f = (j : Int) /\ m <= j /\ j < l.length /\ candB L N (l.getD j AC) = true /\ ∀ i, m <= i -> i < j -> candB L N (l.getD i AC) = false
theorem BQ.zero (L : List (Nat × Nat)) (l : List AM) (N : Nat) : BQ L l N l.length (-1) := .inl ⟨rfl, fun i h1 h2 => by omega⟩
theorem BQ.skip {L : List (Nat × Nat)} {l : List AM} {N m : Nat} {f : Int} (h : BQ L l N (m + 1) f) (h1 : candB L N (l.getD m AC) = false) : BQ L l N m f := by
 have key : ∀ i, m <= i -> i = m \/ m + 1 <= i := fun i hi => by omega
 rcases h with ⟨rfl, h⟩ | ⟨j, rfl, h2, h3, h4, h5⟩
 ·exact .inl ⟨rfl, fun i hi hl => (key i hi).elim (fun e => by rw [e]; exact h1) fun e => h i e hl⟩
 ·exact .inr ⟨j, rfl, by omega, h3, h4, fun i hi hl => (key i hi).elim (fun e => by rw [e]; exact h1) fun e => h5 i e hl⟩
theorem BQ.hit {L : List (Nat × Nat)} {l : List AM} {N m : Nat} (hm : m < l.length) (h1 : candB L N (l.getD m AC) = true) : BQ L l N m (m : Nat) := .inr ⟨m, rfl, Nat.le_refl _, hm, h1, fun i h2 h3 => by omega⟩
theorem BQ.done {L : List (Nat × Nat)} {l : List AM} {N : Nat} {f : Int} (h : BQ L l N 0 f) : (f = -1 /\ firstC L l N = none) \/ ∃ j : Nat, f = (j : Int) /\ j < l.length /\ firstC L l N = some j := by
 rcases h with ⟨rfl, h⟩ | ⟨j, rfl, h2, h3, h4, h5⟩
 ·refine .inl ⟨rfl, DC.2 fun z hz => ?_⟩
  obtain ⟨i, hi⟩ := List.mem_iff_getElem?.1 hz
  have := h i (Nat.zero_le _) (List.getElem?_eq_some_iff.1 hi).1
  rwa [List.getD_eq_getElem?_getD, hi] at this
 ·refine .inr ⟨j, rfl, h3, firstC_of (B9 AC h3) h4 fun z hz => ?_⟩
  obtain ⟨i, hi⟩ := List.mem_iff_getElem?.1 hz
  rw [List.getElem?_take] at hi
  split at hi
  ·rename_i hij
   have := h5 i (Nat.zero_le _) hij
   rwa [List.getD_eq_getElem?_getD, hi] at this
  ·cases hi
set_option maxHeartbeats 4000000 in
theorem rsat_any {w0 w : World} {F : List Ai} {K : (Nat -> Prop) -> World -> Prop} {v : Value} {p : Ah} {L : List (Nat × Nat)} {R : Nat} (hM : Bp p L R) (hS : St w0 w F K) (kp : ∀ D w, K D w -> Bi w D v p) :
  Calls Tryz.prog 18 #[v] w fun e w' => ∃ u, e = .returned (.tuple #[u, .int .u64 ((satM L p).1 : Nat)]) /\ St w0 w' (.own u 3 1 (satM L p).2.length (AH (satM L p).2) :: F) K := by
 obtain ⟨R', lk, st, rl, nl, gl⟩ := p
 obtain rfl : lk = some L := hM.links
 obtain rfl : R' = (R : Int) := hM.roles
 obtain ⟨Al, cl, Ar, cr, An, cn, Ag, cg, rfl⟩ := BZ (kp _ _ hS.ro)
 have kl : ∀ D w, K D w -> Sl w D 2 (.slice Al L.length cl) L.length (Af L) := fun D w h => (C4 (kp D w h)).1
 have kr : ∀ D w, K D w -> Sl w D 5 (.slice Ar rl.length cr) rl.length (B6 rl) := fun D w h => (C4 (kp D w h)).2.1
 have HM := Lib.hid hM
 have HL := Lib.hid (show Ex 64 L from hM.hok.inr)
 have hlen := hM.len
 have hr6 : rl.length <= 6 := hM.rlen
 have hst : st < Bc := hM.fits.start
 clear hM kp
 obtain ⟨SM, hSM⟩ : ∃ SM, satM L ⟨(R : Int), some L, st, rl, nl, gl⟩ = SM := ⟨_, rfl⟩
 rw [hSM]
 replace hSM := Lib.hid hSM
 go_enter Tryz.func18, Tryz.ntmps18
 go_wp2_with (first
  | ((with_reducible refine qA 1 ?_); refine Az hS rfl _ _ rfl (.agg #[.int .i64 (R : Nat), .slice Al L.length cl, .int .u64 (st : Nat), .slice Ar rl.length cr, .slice An nl.length cn, .slice Ag gl.length cg]) _ rfl rfl ?_; clear hS; intro g1 w_ hS; (try simp only [Act.put, Act.eval, zz, Value.cells] at hS))
  | ((with_reducible refine qK ?_); refine qC hS ?_))
 replace hS := hS.nil 3 1
 go_loopg [4, 5] (DJ st rl) (fun k uw sw wr => ∃ (n : Nat) (u : Value) (N : Nat) (us : List Int), u = uw /\ sw = .int .u64 (N : Nat) /\ N < Bc /\ DJ N rl <= k /\ us.length <= rl.length /\ Hid (satS L ⟨(R : Int), some L, st, rl, nl, gl⟩ n = (N, us) /\ us.length = n) /\ St w0 wr (.own u 3 1 us.length (AH us) :: .box g1 37 #[.int .i64 (R : Nat), .slice Al L.length cl, .int .u64 (st : Nat), .slice Ar rl.length cr, .slice An nl.length cn, .slice Ag gl.length cg] :: F) K)
 case atStart => exact ⟨0, _, st, [], rfl, rfl, hst, Nat.le_refl _, by simp, Lib.hid ⟨rfl, rfl⟩, hS⟩
 case round =>
  clear hS hst
  obtain ⟨n, u, N, us, rfl, rfl, hN, hgk, hul, HI0, hS⟩ := hrel
  have HGK := Lib.hid hgk
  clear hgk
  go_wp2_with (first | ((with_reducible refine qK ?_); refine qC hS ?_))
  go_loopw [6, 7] (fun fv kv wr => ∃ (f x : Int) (m : Nat), fv = .int .i64 f /\ kv = .int .i64 x /\ x + 1 = (m : Int) /\ m <= rl.length /\ Hid (BQ L rl N m f) /\ St w0 wr (.own u 3 1 us.length (AH us) :: .box g1 37 #[.int .i64 (R : Nat), .slice Al L.length cl, .int .u64 (st : Nat), .slice Ar rl.length cr, .slice An nl.length cn, .slice Ag gl.length cg] :: F) K) (fun _ i _ => (intOf i + 1).toNat)
  case atStart => exact ⟨-1, _, rl.length, rfl, rfl, by omega, Nat.le_refl _, Lib.hid (BQ.zero _ _ _), hS⟩
  case round =>
   clear hS
   obtain ⟨f, x, m, rfl, rfl, hx, hm, HI, hS⟩ := hrel
   by_cases h0 : 0 <= x
   ·obtain ⟨j, rfl⟩ : ∃ j : Nat, x = (j : Int) := ⟨x.toNat, by omega⟩
    obtain rfl : m = j + 1 := by omega
    have hlj : j < rl.length := by omega
    clear hx
    obtain ⟨b, o, rfl, c0, c1, c2, c3, c4⟩ := Io (kr _ _ hS.ro) hlj
    have HG := Lib.hid (B9 AC hlj)
    have hz := HM.out.rules _ (List.mem_of_getElem? HG.out)
    have HHIT : Hid (candB L N (rl.getD j AC) = true -> BQ L rl N j (j : Nat)) := Lib.hid fun h => BQ.hit hlj h
    have HSKIP : Hid (candB L N (rl.getD j AC) = false -> BQ L rl N j f) := Lib.hid fun h => HI.out.skip h
    clear HI
    generalize rl.getD j AC = z at *
    obtain ⟨zr, y, n, rt, ro⟩ := z
    obtain ⟨t, rfl, ht⟩ : ∃ t : Nat, rt = (t : Int) /\ t < 64 := ⟨rt.toNat, by have h := hz.1; have h5 := HM.out.r5; dsimp only at h h5; omega, by have h := hz.1; have h5 := HM.out.r5; dsimp only at h h5; omega⟩
    have hy64 : y < Bc := by have := hz.2.2.2.2.2.1; dsimp only at this; unfold Bc; omega
    clear hz
    dsimp only at c0 c1 c2 c3 c4
    obtain ⟨q1, hq1⟩ : ∃ q1, N.testBit t = q1 := ⟨_, rfl⟩
    obtain ⟨q2, hq2⟩ : ∃ q2, (y &&& closM L N == y) = q2 := ⟨_, rfl⟩
    have HC : Hid (candB L N ⟨zr, y, n, (t : Int), ro⟩ = ((!zr && !q1) && q2)) := Lib.hid (by
     unfold candB
     dsimp only
     rw [CM, hq1, hq2])
    have HE0 : Hid (∀ w : World, (binOp .eql 33 (.int .u64 ((y &&& BN (closM L N) : Nat) : Int)) (.int .u64 0)).run Tryz.prog w = .ok (.bool q2) w) := Lib.hid fun w => GY (by
     rw [<- hq2, Bool.eq_iff_iff, <- andnot_zero hy64 (DR L N), decide_eq_true_eq]; omega)
    have HQ1 := Lib.hid hq1
    clear hq1 hq2
    obtain ⟨rb, hrb⟩ : ∃ rb, rb = zr := ⟨_, rfl⟩
    have HRB := Lib.hid hrb
    clear hrb
    go_wp2_with (first
     | ((with_reducible refine qB ?_); refine qc ?_ ?_ <;> intro h_ <;> go_prune)
     | ((with_reducible refine qA 23 ?_); refine BigFrame.wpList_want rfl fun _ hK => AY (cs := [.bool zr, .int .u64 (y : Nat), .int .u64 (n : Nat), .int .i64 (t : Nat), .int .i64 ro]) rfl rfl (G7 c0 c1 c2 c3 c4) Tryz.underlying96 rfl (by kernel_rfl) (hK _ _ ?_))
     | ((with_reducible refine qA 8 ?_); refine qa hS #[.bool false, .int .u64 0, .int .u64 0, .int .i64 0, .int .i64 0] ?_; clear hS; intro g8 w_ hS)
     | ((with_reducible refine qM ?_); (first | refine qS hS ?_ | refine qT hS ?_); clear hS; intro w_ hS; (try simp only [Act.put, Act.eval, zz, Value.cells] at hS))
     | ((with_reducible refine qK ?_); refine qC hS ?_))
    refine CH [.q g8 0, .i (.bool zr), .i (.bool (!zr)), .i (.bool (!zr)), .g ((!zr)) (.int .u64 (N : Nat)), .g ((!zr)) (.pointer (some ⟨g8, 3, none⟩)), .g ((!zr)) (.int .i64 (t : Nat)), .g ((!zr)) (.int .u64 (Jh N t : Nat)), .g ((!zr)) (.int .u64 (rem2 (Jh N t) : Nat)), .g ((!zr)) (.bool (!q1)), .i (.bool ((!zr) && (!q1))), .i (.bool ((!zr) && (!q1))), .g (((!zr) && (!q1))) (.pointer (some ⟨g8, 1, none⟩)), .g (((!zr) && (!q1))) (.pointer (some ⟨g8, 1, none⟩)), .g (((!zr) && (!q1))) (.int .u64 (y : Nat)), .g (((!zr) && (!q1))) (.pointer (some ⟨g1, 1, none⟩)), .g (((!zr) && (!q1))) (.slice Al L.length cl), .g (((!zr) && (!q1))) (.int .u64 (N : Nat)), .g (((!zr) && (!q1))) (.int .u64 (closM L N : Nat)), .g (((!zr) && (!q1))) (.int .u64 ((y &&& BN (closM L N) : Nat) : Int)), .g (((!zr) && (!q1))) (.bool q2), .i (.bool (((!zr) && (!q1)) && q2))] ⟨uF, uC (h := fun w hW hN => (hS.ext hW).shut 0 rfl 0 rfl), uU, uM, (by cases zr <;> first | exact uY | exact uX | exact uM), (by cases zr <;> first | exact uY | exact uX | exact uF), (by cases zr <;> first | exact uY | exact uX | exact uC (h := fun w hW hN => (hS.ext hW).shut 0 rfl 3 rfl)), (by cases zr <;> first | exact uY | exact uX | exact uB (h := fun w hW hN => run_shrW (by omega))), (by cases zr <;> first | exact uY | exact uX | exact uB (h := fun w hW hN => run_rem2W)), (by cases zr <;> first | exact uY | exact uX | exact uB (h := fun w hW hN => Ic HQ1.out)), (by cases zr <;> exact uP), uM, (by cases zr <;> cases q1 <;> first | exact uY | exact uX | exact uF), (by cases zr <;> cases q1 <;> first | exact uY | exact uX | exact uF), (by cases zr <;> cases q1 <;> first | exact uY | exact uX | exact uC (h := fun w hW hN => (hS.ext hW).shut 0 rfl 1 rfl)), (by cases zr <;> cases q1 <;> first | exact uY | exact uX | exact uF), (by cases zr <;> cases q1 <;> first | exact uY | exact uX | exact uC (h := fun w hW hN => (hS.ext hW).shut 2 rfl 1 rfl)), (by cases zr <;> cases q1 <;> first | exact uY | exact uX | exact uM), ?_, (by cases zr <;> cases q1 <;> first | exact uY | exact uX | exact uB (h := fun w hW hN => ET hy64 (DR L N))), (by cases zr <;> cases q1 <;> first | exact uY | exact uX | exact uB (h := fun w hW hN => HE0.out _)), (by cases zr <;> cases q1 <;> exact uP), trivial⟩ ?_
    ·cases zr <;> cases q1 <;> first | exact uY | exact uX | (refine uT fun b__ w hW hE K hK => ?_; have e40 : b__.eval (.tmp 40) = .slice Al L.length cl := hE 40; have e41 : b__.eval (.tmp 41) = .int .u64 (N : Nat) := hE 41; (exact AB rfl (by kernel_rfl) (by simp only [List.map_cons, List.map_nil, e40, e41]) (EF (kl _ _ (hS.ext hW).ro) HL.out (by omega) N) fun v w' h hb => hK v w' h hb))
    ·intro vs wz hW hT
     obtain ⟨e24, e25, e26, e27, -, -, -, -, -, -, e34, e35, -, -, -, -, -, -, -, -, -, e45, -⟩ := hT
     simp only [AF, Act.put, zz, ze]
     rw [e45]
     replace hS := hS.ext hW
     clear hW e24 e25 e26 e27 e45
     obtain ⟨c, hc⟩ : ∃ c, ((!zr && !q1) && q2) = c := ⟨_, rfl⟩
     rw [hc] at HC ⊢
     clear hc
     cases c
     ·go_wp2_with fail
      exact ⟨⟨f, (j : Int) - 1, j, rfl, by go_num, by omega, by omega, Lib.hid (HSKIP.out HC.out), hS.sub (List.sublist_cons_self _ _)⟩, by simp [intOf]⟩
     ·go_wp2_with fail
      exact ⟨⟨(j : Int), (j : Int) - 1, j, rfl, by go_num, by omega, by omega, Lib.hid (HHIT.out HC.out), hS.sub (List.sublist_cons_self _ _)⟩, by simp [intOf]⟩
   ·obtain rfl : m = 0 := by omega
    obtain rfl : x = -1 := by omega
    clear hx h0
    have HD := Lib.hid HI.out.done
    clear HI
    cases hfc : firstC L rl N with
    | none =>
     rw [hfc] at HD
     have hf : f = -1 := by
      rcases HD.out with ⟨h, _⟩ | ⟨_, _, _, h⟩
      ·exact h
      ·cases h
     subst hf
     have HE := Lib.hid (sat_end (p := ⟨(R : Int), some L, st, rl, nl, gl⟩) (L := L) HM.out.targ (n := n) (by rw [HI0.out.1]; exact hfc) (by rw [HI0.out.1]; exact HI0.out.2))
     rw [HI0.out.1, hSM.out] at HE
     obtain rfl := HE.out
     clear hfc HE HD
     go_wp2_with (first | ((with_reducible refine qB ?_); refine qc ?_ ?_ <;> intro h_ <;> go_prune))
     go_ret2
     exact ⟨_, rfl, hS.sub (.cons_cons _ (List.sublist_cons_self _ _))⟩
    | some j =>
     rw [hfc] at HD
     obtain ⟨rfl, hjl⟩ : f = (j : Int) /\ j < rl.length := by
      rcases HD.out with ⟨_, h⟩ | ⟨i, rfl, h1, h2⟩
      ·cases h
      ·injection h2 with h2; subst h2; exact ⟨rfl, h1⟩
     have HNX := Lib.hid (C3 (p := ⟨(R : Int), some L, st, rl, nl, gl⟩) (L := L) (n := n) (k := j) (by rw [HI0.out.1]; exact hfc))
     rw [HI0.out.1] at HNX
     obtain ⟨-, hc, -⟩ := Dg hfc
     have HLK : Hid (DJ (BF N (rl.getD j AC).target) rl < DJ N rl) := Lib.hid (by
      obtain ⟨t, ht, h64⟩ := HM.out.targ _ (List.mem_of_getElem? (B9 AC hjl))
      have := JJ (List.mem_of_getElem? (B9 AC hjl)) ht (Dd hc).2.1
      rwa [Dv h64, <- ht] at this)
     have HUL : Hid ((us ++ [(j : Int)]).length <= rl.length) := Lib.hid (by
      have h1 := DP (p := ⟨(R : Int), some L, st, rl, nl, gl⟩) (L := L) HM.out.targ (n + 1)
      rw [HNX.out] at h1
      dsimp only at h1 ⊢
      omega)
     have hz := HM.out.targ _ (List.mem_of_getElem? (B9 AC hjl))
     dsimp only at HNX
     obtain ⟨b, o, rfl, -⟩ := Io (kr _ _ hS.ro) hjl
     obtain ⟨z, hzz⟩ : ∃ z, rl.getD j AC = z := ⟨_, rfl⟩
     rw [hzz] at hz HNX HLK
     have HZ := Lib.hid hzz
     clear hzz hc hfc HD
     obtain ⟨zr, y, nn, rt, ro⟩ := z
     obtain ⟨t, ht, h64⟩ := hz
     dsimp only at ht HNX HLK
     subst ht
     have h2t : 2 ^ t < Bc := EG h64
     have HW := Lib.hid (Dv (N := N) h64)
     go_wp2_with (first
      | ((with_reducible refine qB ?_); refine qc ?_ ?_ <;> intro h_ <;> go_prune)
      | ((with_reducible refine qA 53 ?_); refine CT hS 0 rfl rfl _ _ _ _ rfl rfl DM u us.length (AH us) (.int .i64 (j : Nat)) #[.int .i64 (j : Nat)] rfl (by kernel_rfl) rfl rfl rfl rfl (by intro u hu; simp at hu; subst hu; rfl) (by omega) (by omega) ?_; clear hS; intro z_ u' w_ hS; (try simp only [Act.put, Act.eval, zz, Value.cells] at hS))
      | ((with_reducible refine qA 61 ?_); obtain ⟨b', o', e', c0, c1, c2, c3, c4⟩ := Io (kr _ _ hS.ro) hjl; injection e' with e'; injection e' with e1 e2; subst e1 e2; rw [HZ.out] at c3; dsimp only at c3; refine BigFrame.wpList_want rfl fun _ hK => At rfl rfl (by kernel_rfl) c3 (hK _ _ ?_); clear c0 c1 c2 c3 c4)
      | ((with_reducible refine qA 62 ?_); refine GP rfl _ _ _ _ rfl _ rfl rfl h64 ?_)
      | ((with_reducible refine qA 63 ?_); refine DX rfl _ _ _ _ rfl _ _ rfl rfl hN h2t ?_)
      | ((with_reducible refine qK ?_); refine qC hS ?_))
     rw [HW.out]
     go_roundg (DJ (BF N (t : Nat)) rl)
     case measure => exact Nat.lt_of_lt_of_le HLK.out HGK.out
     case rel =>
      refine ⟨n + 1, u', BF N (t : Nat), us ++ [(j : Int)], rfl, rfl, by rw [<- HW.out]; rw [BC] at *; exact Nat.or_lt_two_pow hN h2t, Nat.le_refl _, HUL.out, Lib.hid ⟨HNX.out, by simp [HI0.out.2]⟩, ?_⟩
      rw [show (us ++ [(j : Int)]).length = us.length + 1 by simp, show AH (us ++ [(j : Int)]) = AH us ++ [.int .i64 (j : Nat)] by simp [AH]]
      exact hS
end
section
open Go.RowKit
set_option exponentiation.threshold 5000
section
variable {L : List (Nat × Nat)} {p q : Ah} {R : Nat}
theorem F5 (hM : Bp p L R) (h : Cd p = true) : Cd (ofP p) = true := by
 obtain ⟨h1, h2, h3⟩ := Dr h
 rw [ofE' hM]
 unfold Cd
 simp only [Bool.and_eq_true, List.isEmpty_iff, List.all_eq_true, beq_iff_eq, Bool.not_eq_true', List.any_eq_false]
 refine ⟨by rw [h1]; rfl, fun r hr => h2 r (List.mem_filter.1 hr).1, fun z hz => by rw [h3 z hz]; decide⟩
theorem IU {a b : Nat} : C9 (a &&& b) a /\ C9 (a &&& b) b := ⟨fun i hi => by rw [Nat.testBit_and, Bool.and_eq_true] at hi; exact hi.1, fun i hi => by rw [Nat.testBit_and, Bool.and_eq_true] at hi; exact hi.2⟩
theorem dep_yes {r : AM} (hL : Ex 64 L) : C9 (depC L (r.yes, 0)) (depR L r) := fun i hi => by
 obtain ⟨k, h1, h2, h3, h4⟩ := (Gm hL).1 hi
 exact (Gm hL).2 ⟨k, h1, h2, Cx.2 (.inl (by simpa using h3)), h4⟩
theorem I3 (hM : Bp p L R) : uppM L (ofP p) = uppM L p &&& relM L p := by
 have hU := FN (L := L) hM.targ
 have hV := FN (L := L) hM.slice.targ
 generalize uppM L p = U at *
 generalize uppM L (ofP p) = V at *
 have e := ofE' hM
 have hr : ∀ r, r ∈ (ofP p).rules ↔ r ∈ p.rules /\ Bk (relM L p) r.target = true := fun r => by rw [e]; exact List.mem_filter
 have hs : (ofP p).start = p.start &&& relM L p := by rw [e]
 have h1 : C9 V U := hV.2 U ⟨by rw [hs]; exact IU.1.trans hU.1.start, fun r hx a b => hU.1.rules r ((hr r).1 hx).1 a b⟩
 have h2 : C9 V (relM L p) := hV.2 _ ⟨by rw [hs]; exact IU.2, fun r hx a b => ((hr r).1 hx).2⟩
 refine C9.anti (fun i hi => by rw [Nat.testBit_and, h1 i hi, h2 i hi]; rfl) fun i hi => ?_
 rw [Nat.testBit_and, Bool.and_eq_true] at hi
 have h3 : C9 U (V ||| BB (2 ^ 64 - 1) (relM L p)) := hU.2 _ ⟨fun j hj => ?_, fun r hx a b => ?_⟩
 ·rcases Cx.1 (h3 i hi.1) with h4 | h4
  ·exact h4
  ·rw [Cy, hi.2] at h4; simp at h4
 ·by_cases hjr : (relM L p).testBit j = true
  ·exact Cx.2 (.inl (hV.1.start j (by rw [hs, Nat.testBit_and, hj, hjr]; rfl)))
  ·have hj64 : j < 64 := by
    have := hM.start
    have h5 := hM.r5
    rcases Nat.lt_or_ge j 64 with h | h
    ·exact h
    ·have hl := mask_lt h5 this
     rw [Nat.testBit_lt_two_pow (Nat.lt_of_lt_of_le (by omega : p.start < 2 ^ 6) (Nat.pow_le_pow_right (by decide) (by omega)))] at hj; cases hj
   refine Cx.2 (.inr ?_)
   rw [Cy, Nat.testBit_two_pow_sub_one]
   simp [hj64, hjr]
 ·obtain ⟨t, ht, h64⟩ := hM.targ r hx
  by_cases htr : Bk (relM L p) r.target = true
  ·have hd : C9 (depC L (r.yes, 0)) (relM L p) := (dep_yes hM.hok.inr).trans ((CN L p).rules r hx a htr)
   have hag := Ek hM.hok (S := relM L p) (s := V ||| BB (2 ^ 64 - 1) (relM L p)) (t := V) (fun j hj => by
    rw [Cx, Cy, hj]; simp) (z := (r.yes, 0)) hd
   rw [EJ, EJ, b] at hag
   exact (C9.left V _).has (hV.1.rules r ((hr r).2 ⟨hx, htr⟩) a hag.symm)
  ·rw [ht, CM] at htr ⊢
   refine Cx.2 (.inr ?_)
   rw [Cy, Nat.testBit_two_pow_sub_one]
   simp [h64, htr]
theorem reach_upp (hM : Bp p L R) : reachB (ofP p) (uppM L (ofP p)) = reachB p (uppM L p) := by
 rw [I3 hM, <- Iq hM]
theorem rch_slice (hM : Bp p L R) (h : Cd p = true) : rchB (ofP p) = rchB p := by
 rw [<- FM hM h, <- FM hM.slice (F5 hM h), reach_upp hM]
theorem minus_slice (hM : Bp p L R) : BB (relM L (ofP p)) (uppM L (ofP p)) = BB (relM L p) (uppM L p) := by
 rw [I3 hM, rel_slice hM]
 refine AZ fun i => ?_
 rw [Cy, Cy, Nat.testBit_and]
 cases (relM L p).testBit i <;> simp
theorem srch_no (hM : Bp p L R) (h : Cd p = true) (hn : rchB p = false) : srchM L p = ([], G8 (BB (relM L p) (uppM L p)), false) := by
 have := ER hM h
 unfold srchM at *
 rw [<- FR hM.targ]
 cases hh : hitN L p with
 | none => rfl
 | some i => rw [hh] at this; rw [hn] at this; cases this
theorem srch_yes (hM : Bp p L R) (h : Cd p = true) (hn : rchB p = true) : (srchM L p).2.1 = [] := by
 have := ER hM h
 unfold srchM at *
 cases hh : hitN L p with
 | some i => rfl
 | none => rw [hh] at this; rw [hn] at this; cases this
theorem some_one {N s : Nat} (hN : N < 2 ^ 64) : Dx (G8 N) s = false ↔ ∀ i, N.testBit i = true -> s.testBit i = false := by
 unfold Dx G8
 rw [List.any_map, List.any_eq_false]
 have hb : ∀ r : Nat, ((fun z => B0 z s) ∘ fun r => (2 ^ r, 0)) r = s.testBit r := fun r => by
  show B0 (2 ^ r, 0) s = s.testBit r
  rw [EJ, Bool.eq_iff_iff, BK]
  exact ⟨fun h => h r (Do.2 rfl), fun h i hi => by rw [Do.1 hi]; exact h⟩
 constructor
 ·intro h i hi
  have h64 : i < 64 := by
   rcases Nat.lt_or_ge i 64 with h1 | h1
   ·exact h1
   ·rw [Nat.testBit_lt_two_pow (Nat.lt_of_lt_of_le hN (Nat.pow_le_pow_right (by decide) h1))] at hi; cases hi
  have := h i (List.mem_filter.2 ⟨List.mem_range.2 h64, hi⟩)
  rw [hb] at this
  simpa using this
 ·intro h i hi
  rw [hb, h i (List.mem_filter.1 hi).2]; decide
theorem minus_lt {a b : Nat} (h : a < 2 ^ 64) : BB a b < 2 ^ 64 := by
 refine Nat.lt_pow_two_of_testBit _ fun i hi => ?_
 rw [Cy, Nat.testBit_lt_two_pow (Nat.lt_of_lt_of_le h (Nat.pow_le_pow_right (by decide) hi))]; rfl
theorem sat_inv (hM : Bp p L R) (h : Cd p = true) (hn : rchB p = false) : Inv p R (G8 (BB (relM L p) (uppM L p))) := by
 have hU := FN (L := L) hM.targ
 have hr := FM hM h
 have hsl := reach_upp hM
 have hus := I3 hM
 rw [hn] at hr
 rw [hr, hus] at hsl
 clear hus
 generalize uppM L p = U at *
 have hlt : BB (relM L p) U < 2 ^ 64 := minus_lt (by have := relM_lt L p; rwa [BC] at this)
 have key : ∀ s, Dx (G8 (BB (relM L p) U)) s = false ↔ C9 (s &&& relM L p) U := fun s => by
  rw [some_one hlt]
  constructor
  ·intro hh i hi
   rw [Nat.testBit_and, Bool.and_eq_true] at hi
   cases hu : U.testBit i with
   | true => rfl
   | false => rw [hh i (by rw [Cy, hi.2, hu]; rfl)] at hi; cases hi.1
  ·intro hh i hi
   rw [Cy, Bool.and_eq_true] at hi
   cases hs : s.testBit i with
   | false => rfl
   | true => rw [hh i (by rw [Nat.testBit_and, hs, hi.1]; rfl)] at hi; cases hi.2
 refine ⟨(key _).2 (IU.1.trans hU.1.start), fun n _ h1 _ => ?_, fun n _ h1 _ k t hk => ?_⟩
 ·cases hb : reachB p (n * 2) with
  | false => rfl
  | true =>
   rw [Iq hM] at hb
   rw [Ju hM.slice.links (F5 hM h) (fun i hi => ?_) hb] at hsl
   ·cases hsl
   ·rw [Nat.testBit_and, (key _).1 h1 i hi, IU.2 i hi]; rfl
 ·rw [key] at h1 ⊢
  generalize n * 2 = s at *
  obtain ⟨j, hj, hjl⟩ := Ik hk
  obtain rfl : k = j := by omega
  rw [Jc hM.links hjl] at hk
  split at hk
  ·rename_i hb
   injection hk with hk
   subst hk
   have hm := List.mem_of_getElem? (B9 AC hjl)
   have hno := (Dr h).2.1 _ hm
   obtain ⟨t, ht, h64⟩ := hM.targ _ hm
   have hcl := (CN L p).rules _ hm
   have hur := hU.1.rules _ hm
   generalize p.rules.getD k AC = z at *
   unfold Hg
   intro i hi
   rw [Nat.testBit_and, Bool.and_eq_true] at hi
   split at hi
   ·exact h1 i (by rw [Nat.testBit_and, (del_sub _) i hi.1, hi.2]; rfl)
   ·rename_i hv
    have hv' : z.revoke = false := by simpa using hv
    rw [ht, <- Dv h64] at hi
    rcases Cx.1 hi.1 with h2 | h2
    ·exact h1 i (by rw [Nat.testBit_and, h2, hi.2]; rfl)
    ·obtain rfl := Do.1 h2
     have hh : B0 (z.yes, z.no) (closM L s) = true := by
      unfold stepB closP at hb
      rw [hv', hM.links] at hb
      cases h : B0 (z.yes, z.no) (closM L s)
      ·simp [h] at hb
      ·rfl
     rw [hno] at hh
     have hd := hcl hv' (by rw [ht, CM]; exact hi.2)
     rw [Ek hM.hok (agr (relM L p) s) ((dep_yes hM.hok.inr).trans hd), EJ] at hh
     have := hur hv' (BK.2 ((BK.1 hh).trans (C9.clos fun i hi => h1 i hi)))
     rw [ht, CM] at this
     exact this
  ·cases hk
end
end
section
open Go.RowKit
attribute [local go_sem ↓] Go.wp_at_zero Go.wp_at_succ
set_option maxRecDepth 20000
set_option exponentiation.threshold 5000
set_option maxHeartbeats 4000000 in
theorem rrun31_any {w0 : World} {D E : Nat -> Prop} {v pv : Value} {p : Ah} {L : List (Nat × Nat)} {R : Nat} {l : List Int} (hp : Bi w0 D v p) (hM : Bp p L R) (hv : Sl w0 E 1 pv l.length (AH l)) (hlen : l.length <= 1000000) :
  Calls Tryz.prog 73 #[v, pv] w0 (AP (fun x _ => x = .tuple #[.int .u64 ((runTo p p.start 0 l).1 : Nat), .int .i64 ((runTo p p.start 0 l).2.1 : Nat)]) w0) := by
 obtain ⟨Ap, cp, rfl, _, _⟩ := hv.shape
 obtain ⟨R', lk, st, rl, nl, gl⟩ := p
 obtain rfl : lk = some L := hM.links
 obtain rfl : R' = (R : Int) := hM.roles
 obtain ⟨Al, cl, Ar, cr, An, cn, Ag, cg, rfl⟩ := BZ hp
 obtain ⟨K, kp, kv, hS⟩ : ∃ K : (Nat -> Prop) -> World -> Prop, (∀ D w, K D w -> Bi w D (.agg #[.int .i64 (R : Nat), .slice Al L.length cl, .int .u64 (st : Nat), .slice Ar rl.length cr, .slice An nl.length cn, .slice Ag gl.length cg]) ⟨(R : Int), some L, st, rl, nl, gl⟩) /\ (∀ D w, K D w -> Sl w D 1 (.slice Ap l.length cp) l.length (AH l)) /\ St w0 w0 [] K := ⟨fun D w => Bi w D (.agg #[.int .i64 (R : Nat), .slice Al L.length cl, .int .u64 (st : Nat), .slice Ar rl.length cr, .slice An nl.length cn, .slice Ag gl.length cg]) ⟨(R : Int), some L, st, rl, nl, gl⟩ /\ Sl w D 1 (.slice Ap l.length cp) l.length (AH l), fun _ _ h => h.1, fun _ _ h => h.2, St.start (D := fun _ => True) (Bo.and (Aq (by decide))) ⟨Bo D _ w0 w0 hp (Nat.le_refl _) (fun _ _ _ _ h => h) fun _ _ _ _ => trivial, hv.imp fun _ _ _ => trivial⟩⟩
 have HM := Lib.hid hM
 have HST := Lib.hid (show st &&& Be R = st from hM.start)
 have hst : st < Bc := hM.fits.start
 clear hp hv hM
 obtain ⟨RES, hR⟩ : ∃ RES, runTo ⟨(R : Int), some L, st, rl, nl, gl⟩ st 0 l = RES := ⟨_, rfl⟩
 dsimp only
 rw [hR]
 replace hR := Lib.hid hR
 go_enter Tryz.func73, Tryz.ntmps73
 go_wp2_with (first
  | ((with_reducible refine qA 2 ?_); refine Az hS rfl _ _ rfl (.agg #[.int .i64 (R : Nat), .slice Al L.length cl, .int .u64 (st : Nat), .slice Ar rl.length cr, .slice An nl.length cn, .slice Ag gl.length cg]) _ rfl rfl ?_; clear hS; intro g1 w_ hS; (try simp only [Act.put, Act.eval, zz, Value.cells] at hS))
  | ((with_reducible refine qK ?_); refine qC hS ?_))
 go_loopw [6, 15] (fun sv iv wr => ∃ (j N : Nat), sv = .int .u64 (N : Nat) /\ iv = .int .i64 (j : Nat) /\ j <= l.length /\ N < Bc /\ Hid (N &&& Be R = N) /\ Hid (RES = runTo ⟨(R : Int), some L, st, rl, nl, gl⟩ N j (l.drop j)) /\ St w0 wr [.box g1 37 #[.int .i64 (R : Nat), .slice Al L.length cl, .int .u64 (st : Nat), .slice Ar rl.length cr, .slice An nl.length cn, .slice Ag gl.length cg]] K) (fun _ i _ => l.length - (intOf i).toNat)
 case atStart => exact ⟨0, st, rfl, rfl, by omega, hst, HST, Lib.hid (by rw [<- hR.out]; rfl), hS⟩
 case round =>
  clear hS
  obtain ⟨j, N, rfl, rfl, hj, hN, HN, HR, hS⟩ := hrel
  by_cases hjl : j < l.length
  ·obtain ⟨bp, op, rfl⟩ := sl_pos (kv _ _ hS.ro) (by omega)
   obtain ⟨k, hk⟩ : ∃ k, l[j]? = some k := ⟨_, List.getElem?_eq_getElem hjl⟩
   have HY : Hid ((AH l)[j]? = some (.int .i64 k)) := Lib.hid (by simp [AH, hk])
   have hd : l.drop j = k :: l.drop (j + 1) := by
    rw [List.drop_eq_getElem_cons hjl]
    congr 1
    rw [List.getElem?_eq_getElem hjl] at hk
    exact Option.some.inj hk
   rw [hd] at HR
   obtain ⟨V, hV⟩ : ∃ V, stepM ⟨(R : Int), some L, st, rl, nl, gl⟩ N k = V := ⟨_, rfl⟩
   have HVV := Lib.hid hV
   clear hk hd hV
   cases V with
   | none =>
    go_wp2_with (first
     | ((with_reducible refine qB ?_); refine qc ?_ ?_ <;> intro h_ <;> go_prune)
     | ((with_reducible refine qk 3 ?_); refine BigFrame.wpList_want rfl fun _ hK => At rfl rfl (by kernel_rfl) (Ef (kv _ _ hS.ro) HY.out) (hK _ _ ?_))
     | ((with_reducible refine qK ?_); refine qL hS Tryz.underlying37 ?_)
     | (go_at_call 58; refine (Dy (N := N) k (kp _ _ hS.ro) HM.out hN).mono ?_; rw [HVV.out]; rintro e w_ ⟨_, rfl, rfl, hb_⟩; replace hS := hS.ext hb_; clear hb_)
     | ((with_reducible refine qK ?_); refine qC hS ?_))
    go_ret2
    exact AP.mk (by rw [HR.out, Jn HVV.out]; rfl) hS.below
   | some M =>
    have HMM := Lib.hid (Jb HM.out HN.out HVV.out)
    have hM64 : M < Bc := by have := mask_lt HM.out.r5 HMM.out; unfold Bc; omega
    go_wp2_with (first
     | ((with_reducible refine qB ?_); refine qc ?_ ?_ <;> intro h_ <;> go_prune)
     | ((with_reducible refine qk 3 ?_); refine BigFrame.wpList_want rfl fun _ hK => At rfl rfl (by kernel_rfl) (Ef (kv _ _ hS.ro) HY.out) (hK _ _ ?_))
     | ((with_reducible refine qK ?_); refine qL hS Tryz.underlying37 ?_)
     | (go_at_call 58; refine (Dy (N := N) k (kp _ _ hS.ro) HM.out hN).mono ?_; rw [HVV.out]; rintro e w_ ⟨_, rfl, rfl, hb_⟩; replace hS := hS.ext hb_; clear hb_)
     | ((with_reducible refine qK ?_); refine qC hS ?_))
    exact ⟨⟨j + 1, M, rfl, by go_num, hjl, hM64, HMM, Lib.hid (by rw [HR.out, EU HVV.out]), hS⟩, by simp [intOf]; omega⟩
  ·obtain rfl : j = l.length := by omega
   rw [List.drop_length] at HR
   go_wp2_with (first | ((with_reducible refine qB ?_); refine qc ?_ ?_ <;> intro h_ <;> go_prune) | ((with_reducible refine qK ?_); refine qC hS ?_))
   go_ret2
   exact AP.mk (by rw [HR.out]; rfl) hS.below
theorem tc_roles {R : Nat} {L : List (Nat × Nat)} (h : JX R L) {a b : Nat} (k : TC L a b) : 1 <= a /\ a <= R := by
 obtain ⟨y, hy, _⟩ := k.first
 have := h _ hy
 dsimp only at this
 omega
theorem JN {p : Ah} {L : List (Nat × Nat)} {R : Nat} (hM : Bp p L R) {z : Nat × Nat} (h1 : z.1 &&& Be R = z.1) (h2 : z.2 &&& Be R = z.2) : C9 (depC L z) (Be R) := fun i hi => by
 obtain ⟨r, a1, a2, a3, a4⟩ := (Gm hM.hok.inr).1 hi
 have h3 := or_le h1 h2 r a3
 have h5 := hM.r5
 rcases (Fi hM.hok.inr).1 a4 with rfl | h
 ·exact IY R (by omega) i (by omega) a1 h3
 ·have := tc_roles hM.inr h
  exact IY R (by omega) i (by omega) this.1 this.2
theorem rel_mask {p : Ah} {L : List (Nat × Nat)} {R : Nat} (hM : Bp p L R) : C9 (relM L p) (Be R) :=
 Ew.sub ⟨fun c hc => JN hM (hM.goal c hc).1 (hM.goal c hc).2.1, fun r hr _ _ => JN hM (z := (r.yes, r.no)) (hM.rules r hr).2.2.1 (hM.rules r hr).2.2.2.1, fun c hc _ => JN hM (hM.never c hc).1.1 (hM.never c hc).1.2.1⟩
theorem mask_bits : ∀ R, R < 6 -> ∀ i, i < 6 -> (Be R).testBit i = true -> 1 <= i /\ i <= R := by decide
theorem rel_bits {p : Ah} {L : List (Nat × Nat)} {R : Nat} (hM : Bp p L R) {i : Nat} (h : (relM L p).testBit i = true) : 1 <= i /\ i <= R := by
 have h1 := rel_mask hM i h
 have h5 := hM.r5
 have h6 : i < 6 := by
  rcases Nat.lt_or_ge i 6 with h2 | h2
  ·exact h2
  ·have hl : Be R < 64 := by
    have : ∀ R, R < 6 -> Be R < 64 := by decide
    exact this R (by omega)
   rw [Nat.testBit_lt_two_pow (Nat.lt_of_lt_of_le (by omega : Be R < 2 ^ 6) (Nat.pow_le_pow_right (by decide) h2))] at h1; cases h1
 exact mask_bits R (by omega) i h6 h1
theorem memTo_cut {N k : Nat} (h : ∀ i, N.testBit i = true -> i < k) : ∀ m, k <= m -> C0 N m = C0 N k := fun m hm => by
 obtain ⟨d, rfl⟩ : ∃ d, m = k + d := ⟨m - k, by omega⟩
 clear hm
 induction d with
 | zero => rfl
 | succ d ih =>
  rw [<- Nat.add_assoc, Gr, if_neg, ih]
  intro hb
  have := h _ hb
  omega
def E6 (N r : Nat) : List (Nat × Nat) := (C0 N r).map fun i => (2 ^ i, 0)
theorem JC (N r : Nat) : E6 N (r + 1) = if N.testBit r then E6 N r ++ [(2 ^ r, 0)] else E6 N r := by
 unfold E6
 rw [Gr]
 split <;> simp
theorem oneTo_one {N : Nat} (h : N.testBit 0 = false) : E6 N 1 = [] := by
 rw [show (1 : Nat) = 0 + 1 from rfl, JC, h]; rfl
theorem oneTo_full {N k : Nat} (h : ∀ i, N.testBit i = true -> i < k) (hk : k <= 64) : E6 N k = G8 N := by
 unfold E6 G8 Bd
 rw [memTo_cut h 64 hk]
theorem oneTo_len (N r : Nat) : (E6 N r).length <= r := by
 unfold E6; rw [List.length_map]; exact FW N r
set_option maxHeartbeats 4000000 in
theorem rsrch_any {w0 w : World} {F : List Ai} {K : (Nat -> Prop) -> World -> Prop} {v : Value} {p : Ah} {L : List (Nat × Nat)} {R : Nat} (hM : Bp p L R) (hF : Cd p = true) (hS : St w0 w F K) (kp : ∀ D w, K D w -> Bi w D v p) :
  Calls Tryz.prog 39 #[v] w fun e w' => ∃ a c, e = .returned (.tuple #[a, c, .bool (srchM L p).2.2]) /\ St w0 w' F fun D w => K D w /\ Sl w D 1 a (srchM L p).1.length (AH (srchM L p).1) /\ BJ w D c (srchM L p).2.1 := by
 have HT := Lib.hid hM.targ
 have HRUN := Lib.hid (IW hM.links hF)
 have HSTP := Lib.hid (Ia (L := L) hM.targ)
 have hsl := sat_short (L := L) hM.targ
 have hsrl := hM.rlen
 obtain ⟨R', lk, st, rl, nl, gl⟩ := p
 obtain rfl : lk = some L := hM.links
 obtain rfl : R' = (R : Int) := hM.roles
 dsimp only at hsl hsrl
 obtain ⟨Al, cl, Ar, cr, An, cn, Ag, cg, rfl⟩ := BZ (kp _ _ hS.ro)
 have KS := Lib.hid hS.stable
 have HM := Lib.hid hM
 have HK := Lib.hid kp
 obtain ⟨SM, hSM⟩ : ∃ SM, satM L ⟨(R : Int), some L, st, rl, nl, gl⟩ = SM := ⟨_, rfl⟩
 rw [hSM] at hsl HSTP
 obtain ⟨RES, hR⟩ : ∃ RES, srchM L ⟨(R : Int), some L, st, rl, nl, gl⟩ = RES := ⟨_, rfl⟩
 rw [hR]
 obtain ⟨U, us⟩ := SM
 dsimp only at hsl HSTP
 have hus6 : us.length <= 6 := by omega
 replace hR := Lib.hid hR
 replace hSM := Lib.hid hSM
 clear hM kp hF hsl hsrl
 go_enter Tryz.func39, Tryz.ntmps39
 go_wp2_with (first
  | ((with_reducible refine qA 1 ?_); refine Az hS rfl _ _ rfl (.agg #[.int .i64 (R : Nat), .slice Al L.length cl, .int .u64 (st : Nat), .slice Ar rl.length cr, .slice An nl.length cn, .slice Ag gl.length cg]) _ rfl rfl ?_; clear hS; intro g1 w_ hS; (try simp only [Act.put, Act.eval, zz, Value.cells] at hS))
  | ((with_reducible refine qK ?_); refine qL hS Tryz.underlying37 ?_)
  | (go_at_call 18; refine (rsat_any HM.out hS HK.out).mono ?_; rw [hSM.out]; clear hS; rintro e w_ ⟨u, rfl, hS⟩; obtain ⟨Au, cu, rfl, hcu, _⟩ := Bg (hS.own 0 rfl); replace hS := hS.freeze 0 (by decide) rfl)
  | ((with_reducible refine qK ?_); refine qC hS ?_))
 go_loopw [7] (fun nv wr => ∃ j : Nat, nv = .int .i64 (j : Nat) /\ j <= us.length + 1 /\ Hid (∀ i, i < j -> reachB ⟨(R : Int), some L, st, rl, nl, gl⟩ (satS L ⟨(R : Int), some L, st, rl, nl, gl⟩ i).1 = false) /\ St w0 wr (.box g1 37 #[.int .i64 (R : Nat), .slice Al L.length cl, .int .u64 (st : Nat), .slice Ar rl.length cr, .slice An nl.length cn, .slice Ag gl.length cg] :: F) (fun D w => K D w /\ Sl w D 1 (.slice Au us.length cu) us.length (AH us))) (fun i _ => us.length + 1 - (intOf i).toNat)
 case atStart => exact ⟨0, rfl, by omega, Lib.hid (fun i h => by omega), hS⟩
 case round =>
  clear hS
  obtain ⟨j, rfl, hj, HN, hS⟩ := hrel
  by_cases hju : j <= us.length
  ·have HTK := Lib.hid ((HSTP.out.2 j hju).1)
   have HTL := Lib.hid ((HSTP.out.2 j hju).2)
   have HRJ : Hid (∀ D w, K D w -> Sl w D 1 (.slice Au us.length cu) us.length (AH us) -> Calls Tryz.prog 73 #[.agg #[.int .i64 (R : Nat), .slice Al L.length cl, .int .u64 (st : Nat), .slice Ar rl.length cr, .slice An nl.length cn, .slice Ag gl.length cg], .slice Au j cu] w (AP (fun x _ => x = .tuple #[.int .u64 ((satS L ⟨(R : Int), some L, st, rl, nl, gl⟩ j).1 : Nat), .int .i64 (j : Nat)]) w)) := Lib.hid fun D w h1 h2 => by
    have h3 := h2.take (k := j) hju
    have h4 : (us.take j).length = j := by rw [List.length_take]; omega
    have h5 : (AH us).take j = AH (us.take j) := by unfold AH; rw [List.map_take]
    have h6 := rrun31_any (l := us.take j) (HK.out D w h1) HM.out (pv := .slice Au j cu) (E := D) (by rw [h4, <- h5]; simpa using h3) (by omega)
    have h7 := (HRUN.out j).2
    rw [HTK.out] at h7
    dsimp only at h6 h7
    rw [h7, h4] at h6
    exact h6
   have HY : Hid (reachB ⟨(R : Int), some L, st, rl, nl, gl⟩ (satS L ⟨(R : Int), some L, st, rl, nl, gl⟩ j).1 = true -> RES = (us.take j, [], true)) := Lib.hid fun h => by
    rw [<- hR.out]
    unfold srchM
    rw [JK (by rw [hSM.out]; exact hju) h HN.out]
    dsimp only
    rw [HTK.out]
   have HN2 : Hid (reachB ⟨(R : Int), some L, st, rl, nl, gl⟩ (satS L ⟨(R : Int), some L, st, rl, nl, gl⟩ j).1 = false -> ∀ i, i < j + 1 -> reachB ⟨(R : Int), some L, st, rl, nl, gl⟩ (satS L ⟨(R : Int), some L, st, rl, nl, gl⟩ i).1 = false) := Lib.hid fun h i hi => by
    rcases Nat.lt_or_ge i j with h1 | h1
    ·exact HN.out i h1
    ·obtain rfl : i = j := by omega
     exact h
   generalize (satS L ⟨(R : Int), some L, st, rl, nl, gl⟩ j).1 = N at *
   clear HTK HTL HN
   go_wp2_with (first | ((with_reducible refine qB ?_); refine qc ?_ ?_ <;> intro h_ <;> go_prune))
   refine CH [.i (.agg #[.int .i64 (R : Nat), .slice Al L.length cl, .int .u64 (st : Nat), .slice Ar rl.length cr, .slice An nl.length cn, .slice Ag gl.length cg]), .i (.slice Au us.length cu), .n (j : Nat), .i (.slice Au j cu), .i (.tuple #[.int .u64 (N : Nat), .int .i64 (j : Nat)]), .i (.tuple #[.int .u64 (N : Nat), .int .i64 (j : Nat)]), .i (.int .u64 (N : Nat)), .n (j : Nat), .i (.int .u64 (N : Nat)), .n (j : Nat)] ⟨uR (h := fun w hW hN => (hS.ext hW).box 0 rfl), uM, uM, ?_, ?_, uM, ?_, ?_, uA, uA, trivial⟩ ?_
   ·refine uT fun b__ w hW hE K hK => ?_
    have e25 := hE 25
    have e26 := hE 26
    exact Hd rfl Tryz.underlying45 ⟨1, by kernel_rfl⟩ e25 e26 (by omega) (hK _ _ rfl (Below.refl _ _))
   ·refine uT fun b__ w hW hE K hK => ?_
    have e24 := hE 24
    have e27 := hE 27
    exact AB rfl (by kernel_rfl) (by simp only [List.map_cons, List.map_nil, e24, e27]) (HRJ.out _ _ (hS.ext hW).ro.1 (hS.ext hW).ro.2) fun v w' h hb => hK v w' h hb
   ·refine uT fun b__ w hW hE K hK => ?_
    have e23 := hE 23
    exact Ei rfl e23 rfl (hK _ _ rfl (Below.refl _ _))
   ·refine uT fun b__ w hW hE K hK => ?_
    have e23 := hE 23
    exact Ei rfl e23 rfl (hK _ _ rfl (Below.refl _ _))
   ·intro vs wz hW hT
    obtain ⟨e24, e25, e26, e27, e28, e23, e29, e30, e8, e9, -⟩ := hT
    simp only [AF, Act.put, zz, ze]
    rw [e8]
    replace hS := hS.ext hW
    clear hW HRJ
    obtain ⟨rb, hrb⟩ : ∃ rb, reachB ⟨(R : Int), some L, st, rl, nl, gl⟩ N = rb := ⟨_, rfl⟩
    have HRB := Lib.hid hrb
    rw [hrb] at HY HN2
    clear hrb
    cases rb
    ·go_wp2_with (first
      | ((with_reducible refine qK ?_); refine qL hS Tryz.underlying37 ?_)
      | (go_at_call 61; refine (CU (s := N) (HK.out _ _ hS.ro.1) HM.out).mono ?_; rw [HRB.out]; rintro r_ w_ ⟨_, rfl, rfl, hb_⟩; replace hS := hS.ext hb_; clear hb_)
      | ((with_reducible refine qK ?_); refine qC hS ?_))
     exact ⟨⟨j + 1, by go_num, by omega, Lib.hid (HN2.out (by trivial)), hS⟩, by simp [intOf]; omega⟩
    ·have HY2 := Lib.hid (HY.out (by trivial))
     clear HY HN2
     go_wp2_with (first
      | ((with_reducible refine qK ?_); refine qL hS Tryz.underlying37 ?_)
      | (go_at_call 61; refine (CU (s := N) (HK.out _ _ hS.ro.1) HM.out).mono ?_; rw [HRB.out]; rintro r_ w_ ⟨_, rfl, rfl, hb_⟩; replace hS := hS.ext hb_; clear hb_)
      | ((with_reducible refine qA 36 ?_); refine BigFrame.wpList_want rfl fun _ hK => Hd (k := j) rfl Tryz.underlying45 ⟨1, by kernel_rfl⟩ rfl rfl (by omega) (hK _ _ ?_))
      | ((with_reducible refine qK ?_); refine qC hS ?_))
     go_ret3
     obtain ⟨R1, R2, R3⟩ := RES
     have HY3 := HY2.out
     injection HY3 with h1 h2
     injection h2 with h2 h3
     subst h1 h2 h3
     refine ⟨_, _, rfl, (hS.sub (List.sublist_cons_self _ _)).mono (KS.out.and ((Aq (by decide)).and D0)) fun D w h => ⟨h.1, ?_, Sl.none_⟩⟩
     have h3 := h.2.take (k := j) hju
     have h4 : (us.take j).length = j := by rw [List.length_take]; omega
     have h5 : (AH us).take j = AH (us.take j) := by unfold AH; rw [List.map_take]
     rw [h5] at h3
     dsimp only
     rw [h4]
     exact h3
  ·obtain rfl : j = us.length + 1 := by omega
   obtain ⟨RL, hRL⟩ : ∃ RL, relM L ⟨(R : Int), some L, st, rl, nl, gl⟩ = RL := ⟨_, rfl⟩
   have hbits : ∀ i, (BB RL U).testBit i = true -> 1 <= i /\ i <= R := fun i hi => by
    rw [Cy, Bool.and_eq_true, <- hRL] at hi
    exact rel_bits HM.out hi.1
   have HZ : Hid (RES = ([], G8 (BB RL U), false)) := Lib.hid (by
    rw [<- hR.out]
    unfold srchM
    rw [JL (fun i hi => HN.out i (by rw [hSM.out] at hi; dsimp only at hi; omega)), hSM.out, hRL])
   have h25 : 2 <= R /\ R <= 5 := ⟨HM.out.r2, HM.out.r5⟩
   have HO1 : Hid (E6 (BB RL U) 1 = []) := Lib.hid (oneTo_one (by
    cases h : (BB RL U).testBit 0 with
    | false => rfl
    | true => exact absurd (hbits 0 h).1 (by decide)))
   have HOF : Hid (E6 (BB RL U) (R + 1) = G8 (BB RL U)) := Lib.hid (oneTo_full (fun i hi => by have := (hbits i hi).2; omega) (by omega))
   have HRL := Lib.hid hRL
   clear HN hbits hRL
   go_wp2_with (first | ((with_reducible refine qB ?_); refine qc ?_ ?_ <;> intro h_ <;> go_prune))
   replace hS := hS.nil 94 2
   go_loopw [10, 11] (fun ow rv wr => ∃ (r : Nat) (gv : Value), gv = ow /\ rv = .int .i64 (r : Nat) /\ 1 <= r /\ r <= R + 1 /\ St w0 wr (.own gv 94 2 (E6 (BB RL U) r).length (Bb (E6 (BB RL U) r)) :: .box g1 37 #[.int .i64 (R : Nat), .slice Al L.length cl, .int .u64 (st : Nat), .slice Ar rl.length cr, .slice An nl.length cn, .slice Ag gl.length cg] :: F) K) (fun _ i _ => R + 1 - (intOf i).toNat)
   case atStart => exact ⟨1, _, rfl, rfl, by omega, by omega, by rw [HO1.out]; exact hS.mono KS.out fun D w h => h.1⟩
   case round =>
    clear hS
    obtain ⟨r, gv, rfl, rfl, hr1, hr, hS⟩ := hrel
    by_cases hrR : r <= R
    ·have HST := Lib.hid (JC (BB RL U) r)
     have hol : (E6 (BB RL U) r).length <= r := oneTo_len _ _
     obtain ⟨b1, hb1⟩ : ∃ b, RL.testBit r = b := ⟨_, rfl⟩
     obtain ⟨b2, hb2⟩ : ∃ b, U.testBit r = b := ⟨_, rfl⟩
     have HBB : Hid ((BB RL U).testBit r = (b1 && !b2)) := Lib.hid (by rw [Cy, hb1, hb2])
     rw [HBB.out] at HST
     generalize E6 (BB RL U) r = OL at *
     cases b1
     ·go_wp2_with (first
       | ((with_reducible refine qK ?_); refine qL hS Tryz.underlying37 ?_)
       | (go_at_call 74; refine (Jp (HK.out _ _ hS.ro) HM.out).mono ?_; rw [HRL.out]; rintro r_ w_ ⟨_, rfl, rfl, hb_⟩; replace hS := hS.ext hb_; clear hb_)
       | ((with_reducible refine qb .shr ?_); refine D7 rfl _ _ _ _ rfl _ _ rfl rfl (by omega) ?_)
       | ((with_reducible refine qb .rem ?_); refine D8 rfl _ _ _ _ rfl _ rfl rfl ?_)
       | ((with_reducible refine qA 48 ?_); refine Cz rfl _ _ _ _ rfl _ _ rfl rfl hb1 ?_)
       | ((with_reducible refine qB ?_); refine qc ?_ ?_ <;> intro h_ <;> go_prune)
       | ((with_reducible refine qK ?_); refine qC hS ?_))
      exact ⟨⟨r + 1, gv, rfl, by go_num, by omega, by omega, by rw [HST.out]; exact hS⟩, by simp [intOf]; omega⟩
     ·cases b2
      ·go_upto_region 13 with (first
        | ((with_reducible refine qK ?_); refine qL hS Tryz.underlying37 ?_)
        | (go_at_call 74; refine (Jp (HK.out _ _ hS.ro) HM.out).mono ?_; rw [HRL.out]; rintro r_ w_ ⟨_, rfl, rfl, hb_⟩; replace hS := hS.ext hb_; clear hb_)
        | ((with_reducible refine qb .shr ?_); refine D7 rfl _ _ _ _ rfl _ _ rfl rfl (by omega) ?_)
        | ((with_reducible refine qb .rem ?_); refine D8 rfl _ _ _ _ rfl _ rfl rfl ?_)
        | ((with_reducible refine qA 48 ?_); refine Cz rfl _ _ _ _ rfl _ _ rfl rfl hb1 ?_)
        | ((with_reducible refine qA 54 ?_); refine BigFrame.wpList_want rfl fun _ hK => AE (v := .bool true) rfl rfl rfl rfl (Ic (b := false) hb2) (hK _ _ ?_))
        | ((with_reducible refine qK ?_); refine qC hS ?_))
       go_wp2_with (first
        | ((with_reducible refine qA 58 ?_); refine GP rfl _ _ _ _ rfl _ rfl rfl (by omega) ?_)
        | ((with_reducible refine qA 59 ?_); refine AL rfl _ _ rfl #[.int .u64 ((2 ^ r : Nat) : Int), .int .u64 0] (by kernel_rfl) ?_; (try simp only [Act.put, List.setIfInBounds_toArray, List.set_cons_zero, List.set_cons_succ]))
        | ((with_reducible refine qA 60 ?_); refine CT hS 0 rfl rfl _ _ _ _ rfl rfl ty_mkc gv OL.length (Bb OL) (.agg #[.int .u64 ((2 ^ r : Nat) : Int), .int .u64 0]) #[.int .u64 ((2 ^ r : Nat) : Int), .int .u64 0] rfl (by kernel_rfl) rfl rfl rfl rfl (by intro u hu; simp at hu; rcases hu with rfl | rfl <;> rfl) (by omega) (by omega) ?_; clear hS; intro z_ gv' w_ hS; (try simp only [Act.put, Act.eval, zz, Value.cells] at hS))
        | ((with_reducible refine qB ?_); refine qc ?_ ?_ <;> intro h_ <;> go_prune)
        | ((with_reducible refine qK ?_); refine qC hS ?_))
       refine ⟨⟨r + 1, gv', rfl, by go_num, by omega, by omega, ?_⟩, by simp [intOf]; omega⟩
       rw [HST.out.trans (if_pos rfl), List.length_append, List.length_singleton, Et]
       exact hS
      ·go_wp2_with (first
        | ((with_reducible refine qK ?_); refine qL hS Tryz.underlying37 ?_)
        | (go_at_call 74; refine (Jp (HK.out _ _ hS.ro) HM.out).mono ?_; rw [HRL.out]; rintro r_ w_ ⟨_, rfl, rfl, hb_⟩; replace hS := hS.ext hb_; clear hb_)
        | ((with_reducible refine qb .shr ?_); refine D7 rfl _ _ _ _ rfl _ _ rfl rfl (by omega) ?_)
        | ((with_reducible refine qb .rem ?_); refine D8 rfl _ _ _ _ rfl _ rfl rfl ?_)
        | ((with_reducible refine qA 48 ?_); refine Cz rfl _ _ _ _ rfl _ _ rfl rfl hb1 ?_)
        | ((with_reducible refine qA 54 ?_); refine BigFrame.wpList_want rfl fun _ hK => AE (v := .bool false) rfl rfl rfl rfl (Ic (b := true) hb2) (hK _ _ ?_))
        | ((with_reducible refine qB ?_); refine qc ?_ ?_ <;> intro h_ <;> go_prune)
        | ((with_reducible refine qK ?_); refine qC hS ?_))
       exact ⟨⟨r + 1, gv, rfl, by go_num, by omega, by omega, by rw [HST.out]; exact hS⟩, by simp [intOf]; omega⟩
    ·obtain rfl : r = R + 1 := by omega
     rw [HOF.out] at hS
     go_wp2_with (first | ((with_reducible refine qB ?_); refine qc ?_ ?_ <;> intro h_ <;> go_prune) | ((with_reducible refine qK ?_); refine qC hS ?_))
     go_ret3
     rw [HZ.out]
     exact ⟨_, _, rfl, ((hS.freeze 0 (by decide) rfl).sub (List.sublist_cons_self _ _)).mono (KS.out.and ((Aq (by decide)).and D0)) fun D w h => ⟨h.1, Sl.none_, h.2⟩⟩
end
section
open Go.RowKit
attribute [local go_sem ↓] Go.wp_at_zero Go.wp_at_succ
set_option maxRecDepth 20000
set_option exponentiation.threshold 5000
noncomputable def srchS (p : Ah) : List Int × List (Nat × Nat) × Bool × Int := if checkE p = 0 then (match p.links with
 | none => ([], [], false, 0)
 | some L => if Cd p = true then ((srchM L p).1, (srchM L p).2.1, (srchM L p).2.2, 0) else ([], [], false, 15)) else ([], [], false, checkE p)
def SrchR (w0 : World) (r : List Int × List (Nat × Nat) × Bool × Int) : Ending -> World -> Prop :=
 AP (fun x w' => ∃ a c, x = .tuple #[a, c, .bool r.2.2.1, .int .i64 r.2.2.2] /\ Sl w' (w0.heap.size <= ·) 1 a r.1.length (AH r.1) /\ AA w' (w0.heap.size <= ·) c r.2.1) w0
theorem H5 {P : Program} {fn : Func} {p2 p p4 p5 : Tmp} {ty : TypeId} {a : Act} {w : World} {g : Nat} {x v2 v4 v5 : Value} (h : fn.results = #[.tmp p2, .cell p ty, .tmp p4, .tmp p5]) (hp : a.eval (.tmp p) = .pointer (some ⟨g, 0, none⟩)) (hc : w.cell? ⟨g, 0, none⟩ = some x) (hu : FE P ty = true)
  (hv2 : a.eval (.tmp p2) = v2) (hv4 : a.eval (.tmp p4) = v4) (hv5 : a.eval (.tmp p5) = v5) : (results fn a.tmps).run P w = .ok (.tuple #[v2, x, v4, v5]) w := by
 have hp' : a.tmps[p]?.getD undef = .pointer (some ⟨g, 0, none⟩) := by simpa [Act.eval] using hp
 have h2 : a.tmps[p2]?.getD undef = v2 := by simpa [Act.eval] using hv2
 have h4 : a.tmps[p4]?.getD undef = v4 := by simpa [Act.eval] using hv4
 have h5 : a.tmps[p5]?.getD undef = v5 := by simpa [Act.eval] using hv5
 have hl : (loadVar ty ⟨g, 0, none⟩).run P w = .ok x w := by
  have := Ge (P := P) (w := w) hu hc
  simpa [Instr.loadAt, Instr.sureAddr] using this
 simp [results, h, hp', h2, h4, h5, asAddr, hl]
theorem opw_sl3 {P : Program} {o : Oper} {a : Act} {w : World} {Kt : Act -> World -> Prop} {Q : Exit -> Act -> World -> Prop} {t e : TypeId} {x h m : Operand} {A : Option Addr} {n c k : Nat} (ho : o.op = .slice t x none (some h) (some m)) (ht : P.underlying t = some (.slice e)) (hi : ∃ size, (P.info? e).map (·.size) = some size) (hx : a.eval x = .slice A n c) (hh : a.eval h = .int .i64 (k : Nat)) (hm : a.eval m = .int .i64 (k : Nat)) (hk : k <= c)
  (hK : Kt (a.put o.dst (.slice A k k)) w) : o.wp P a w Kt Q := by
 obtain ⟨size, hi⟩ := hi
 refine CE (v := .slice A k k) ?_ hK
 cases hz : P.info? e with
 | none => rw [hz] at hi; cases hi
 | some z =>
  have hke : ((k : Nat) : Int) <= c := by omega
  have : A.map (·.add (0 * z.size)) = A := by cases A <;> simp [Addr.add]
  simp [execOp, ho, hx, hh, hm, Instr.sliceAt, Instr.slice, run_underlying ht, Instr.sliceBounds, run_sliceBound, sizeOf, typeInfo, hz, hke, Addr.add]
theorem Gn {p : Prop} {K : (Nat -> Prop) -> World -> Prop} (h : AO K) : AO fun D w => p -> K D w := fun D D' w w' hh a b c hp => h D D' w w' (hh hp) a b c
theorem sl_cap {w : World} {D : Nat -> Prop} {A : Option Addr} {k c size : Nat} {xs : List Value} (h : Sl w D size (.slice A k c) k xs) : Sl w D size (.slice A k k) k xs := by
 obtain ⟨h1, A', c', e, h2, h3, h4⟩ := h
 injection e with e1 _ e3
 subst e1 e3
 exact ⟨h1, A, k, rfl, Nat.le_refl _, Nat.le_trans h2 h3, h4⟩
theorem G2 {w : World} {D : Nat -> Prop} {a b : Value} {z : Nat × Nat} (h1 : A7 w D (.agg #[a]) z.1) (h2 : A7 w D (.agg #[b]) z.2) : Ak w D [a, b] [z] := fun i y n hi => by
 cases i with
 | zero => obtain rfl := Option.some.inj (show some z = some (y, n) from hi); exact ⟨a, b, rfl, rfl, h1, h2⟩
 | succ i => simp at hi
theorem EN {w : World} {D : Nat -> Prop} : AA w D (.slice none 0 0) [] := ⟨[], Sl.none_, fun i y n hi => by simp at hi⟩
theorem St.good2 {w0 w w' : World} {F : List Ai} {K : (Nat -> Prop) -> World -> Prop} (h : St w0 w F K) (hb : Below w.heap.size w w') {Bs cap : Nat} {A : Option Addr} {ws : List Nat} (hs : Sl w' (w.heap.size <= ·) 1 (.slice A ws.length cap) ws.length (Bz ws)) (hT : Bu w) (hF : D6 F 0)
  (hB : w.heap.size <= Bs) (hX : Co w' Bs 27 #[.slice A ws.length cap]) : St w0 w' F fun D w => K D w /\ GoodK Bs A cap ws D w := by
 refine (h.ext hb).add (D := D6 F) Im ⟨⟨(hX.cell 0).trans rfl, fun h0 => ?_, hT.ext hb⟩, h.fresh hB, fun b off e h0 => ?_, hF⟩ fun _ h _ => h
 ·obtain ⟨_, A', c', e, _, _, h2⟩ := hs
  obtain ⟨b, o, h3, h4, h6, h5⟩ := h2 h0
  injection e with e
  exact ⟨b, o, e.trans h3, fun j hj => h5 j _ (CP _ _ hj)⟩
 ·obtain ⟨_, A', c', e', _, _, h2⟩ := hs
  obtain ⟨b', o', h3, h4, h6, h5⟩ := h2 h0
  injection e' with e'
  rw [e, h3] at e'; injection e' with e'; injection e' with e1; subst e1; exact h.fresh h4
theorem ofN_one {k : Nat} (h : k <= 4095) : ofN [(k : Int)] = 2 ^ k := by
 show G9 0 (k : Int) = _
 unfold G9
 rw [if_pos (by omega)]; simp
theorem memL_one {ws : List Nat} (hc : Ca ws) (hN : Br ws < Bc) : (BH ws).map (fun x => (2 ^ x.toNat, 0)) = G8 (Br ws) := by
 rw [memL_eq hc hN]
 unfold Aj G8
 rw [List.map_map]
 rfl
set_option maxHeartbeats 8000000 in
theorem Ee {w0 : World} {D : Nat -> Prop} {v : Value} {p : Ah} (hp : Bn w0 D v p) (hP : p.Ok) (hT : Bu w0) :
  Calls Tryz.prog 30 #[v] w0 (SrchR w0 (srchS p)) := by
 obtain ⟨xs, rfl, hx6, hx1⟩ := hp.cells
 replace hx6 := Lib.hid hx6
 obtain ⟨K, HK, HT, HTB, hS⟩ : ∃ K : (Nat -> Prop) -> World -> Prop, Hid (∀ D w, K D w -> Bn w D (.agg xs) p) /\ Hid (∀ D w, K D w -> Bu w) /\ Hid (∀ D w, K D w -> D 0) /\ St w0 w0 [] K :=
  ⟨fun D w => Bn w D (.agg xs) p /\ Bu w /\ D 0, Lib.hid fun _ _ h => h.1, Lib.hid fun _ _ h => h.2.1, Lib.hid fun _ _ h => h.2.2, St.start (D := fun _ => True) (BX.and BG) ⟨BX D _ w0 w0 hp (Nat.le_refl _) (fun _ _ _ _ h => h) fun _ _ _ _ => trivial, hT, trivial⟩⟩
 have HP := Lib.hid hP
 have KS := Lib.hid hS.stable
 clear hP hp hT
 obtain ⟨e, he⟩ : ∃ e, checkE p = e := ⟨_, rfl⟩
 have HE := Lib.hid he
 clear he
 obtain ⟨RES, hR⟩ : ∃ RES, srchS p = RES := ⟨_, rfl⟩
 rw [hR]
 by_cases h0 : e = 0
 ·subst h0
  obtain ⟨L, hl⟩ : ∃ L, p.links = some L := by
   cases h : p.links with
   | none => have := HE.out; unfold checkE at this; rw [h] at this; cases this
   | some L => exact ⟨L, rfl⟩
  cases hf : Cd p with
  | false =>
   have HR := Lib.hid (show RES = ([], [], false, 15) by rw [<- hR]; unfold srchS; rw [if_pos HE.out, hl, hf]; rfl)
   have HF : Hid (fragM p = false) := Lib.hid (by unfold fragM; rw [if_pos HE.out, hf])
   clear hR hl hf
   refine (callsIn_wide (n := 6)).1 (callsIn_of_wp_marks Tryz.func30 rfl trivial ?_ rfl)
   simp only [Tryz.ntmps30, List.size_toArray, List.length_cons, List.length_nil, Nat.reduceAdd, Nat.reduceSub, Array.replicate_succ, Array.replicate_zero, List.push_toArray, List.append_toArray, List.nil_append, List.cons_append]
   refine wpIn_wide.2 ?_
   go_wp2_with (first
    | ((with_reducible refine qA 1 ?_); refine Az hS rfl _ _ rfl (.agg xs) xs rfl rfl ?_; clear hS; intro g1 w_ hS; (try simp only [Act.put, Act.eval, zz, Value.cells] at hS))
    | ((with_reducible refine qA 3 ?_); refine qa hS #[.slice none 0 0] ?_; clear hS; intro g3 w_ hS)
    | ((with_reducible refine qB ?_); refine qc ?_ ?_ <;> intro h_ <;> go_prune)
    | ((with_reducible refine qk 31 ?_); refine BigFrame.wpList_want rfl fun _ hK => AK rfl rfl (hS.box 1 rfl) Tryz.underlying31 rfl (by rw [hx6.out]; kernel_rfl) (hK _ _ ?_))
    | (go_at_call 31; refine (CA (HK.out _ _ hS.ro) HP.out (HT.out _ _ hS.ro)).mono ?_; rw [HE.out]; rintro r_ w_ ⟨_, rfl, rfl, hb_⟩; replace hS := hS.ext hb_; clear hb_)
    | (go_at_call 15; refine (DN (HK.out _ _ hS.ro) HP.out (HT.out _ _ hS.ro)).mono ?_; rw [HF.out]; rintro r_ w_ ⟨_, rfl, rfl, hb_⟩; replace hS := hS.ext hb_; clear hb_)
    | ((with_reducible refine qM ?_); (first | refine qS hS ?_ | refine qT hS ?_); clear hS; intro w_ hS; (try simp only [Act.put, Act.eval, zz, Value.cells] at hS)))
   refine Cc (F := [.box g3 29 #[.slice none 0 0], .box g1 31 xs]) ?_ [] _ (by simpa [Cj] using hS)
   intro w' h
   refine ⟨_, H5 rfl rfl (h.shut 0 rfl 0 rfl) (by kernel_rfl) rfl rfl rfl, ?_⟩
   rw [HR.out]
   exact AP.mk ⟨_, _, rfl, Sl.none_, EN⟩ h.below
  | true =>
   have HTG := Lib.hid (FB HE.out hl)
   have HF : Hid (fragM p = true) := Lib.hid (by unfold fragM; rw [if_pos HE.out, hf])
   have HRS := Lib.hid (show RES = ((srchM L p).1, (srchM L p).2.1, (srchM L p).2.2, 0) by rw [<- hR]; unfold srchS; rw [if_pos HE.out, hl]; dsimp only; rw [if_pos hf])
   have HSTP := Lib.hid (Ia (L := L) HTG.out)
   have hsl := sat_short (L := L) HTG.out
   have hrl := HP.out.rules
   have HREL : Hid (relS p = relM L p) := Lib.hid (by unfold relS; rw [if_pos HE.out, hl])
   have HL := Lib.hid hl
   obtain ⟨SM, hSM⟩ : ∃ SM, satM L p = SM := ⟨_, rfl⟩
   rw [hSM] at hsl HSTP
   replace hSM := Lib.hid hSM
   clear hR hl hf
   obtain ⟨R, lk, st, rl, nl, gl⟩ := p
   dsimp only at hsl hrl
   obtain rfl : lk = some L := HL.out
   obtain ⟨lp, s, rv, nv, gv, e, h1, h2, h3, h4, h5⟩ := HK.out _ _ hS.ro
   dsimp only at h1 h2 h3 h4 h5
   obtain ⟨q, o, rfl, -⟩ := id h1
   obtain ⟨Cs, ns, cs, rfl⟩ := h2.shape
   obtain ⟨Ar, cr, rfl, _, _⟩ := h3.shape
   obtain ⟨An, cn, rfl, _, _⟩ := h4.shape
   obtain ⟨Ag, cg, rfl, _, _⟩ := h5.shape
   injection e with e
   subst e
   obtain ⟨KC, kc, hS2⟩ : ∃ KC : (Nat -> Prop) -> World -> Prop, Hid (∀ D w, KC D w -> K D w /\ A7 w D (.agg #[.slice Cs ns cs]) st /\ Bq w D (.slice Ar rl.length cr) rl) /\ St w0 w0 [] KC := ⟨_, Lib.hid fun D w h => ⟨h.1, h.2.1, h.2.2⟩, hS.add (D := D6 []) (A5.and Bh) ⟨h2, h3⟩ fun _ h _ => h⟩
   clear hS h1 h2 h3 h4 h5 hx1 hx6
   have hS := hS2
   clear hS2
   have k0 := Lib.hid fun D w h => (kc.out D w h).1
   have KSC := Lib.hid hS.stable
   obtain ⟨U, us⟩ := SM
   dsimp only at hsl HSTP
   refine (callsIn_wide (n := 6)).1 (callsIn_of_wp_marks Tryz.func30 rfl trivial ?_ rfl)
   simp only [Tryz.ntmps30, List.size_toArray, List.length_cons, List.length_nil, Nat.reduceAdd, Nat.reduceSub, Array.replicate_succ, Array.replicate_zero, List.push_toArray, List.append_toArray, List.nil_append, List.cons_append]
   refine wpIn_wide.2 ?_
   go_wp2_with (first
    | ((with_reducible refine qA 1 ?_); refine Az hS rfl _ _ rfl (.agg #[.int .i64 R, .pointer (some ⟨q, 0, none⟩), .slice Cs ns cs, .slice Ar rl.length cr, .slice An nl.length cn, .slice Ag gl.length cg]) _ rfl rfl ?_; clear hS; intro g1 w_ hS; (try simp only [Act.put, Act.eval, zz, Value.cells] at hS))
    | ((with_reducible refine qA 3 ?_); refine qa hS #[.slice none 0 0] ?_; clear hS; intro g3 w_ hS)
    | ((with_reducible refine qB ?_); refine qc ?_ ?_ <;> intro h_ <;> go_prune)
    | ((with_reducible refine qK ?_); refine qL hS Tryz.underlying31 ?_)
    | (go_at_call 31; refine (CA (HK.out _ _ (k0.out _ _ hS.ro)) HP.out (HT.out _ _ (k0.out _ _ hS.ro))).mono ?_; rw [HE.out]; rintro r_ w_ ⟨_, rfl, rfl, hb_⟩; replace hS := hS.ext hb_; clear hb_)
    | (go_at_call 15; refine (DN (HK.out _ _ (k0.out _ _ hS.ro)) HP.out (HT.out _ _ (k0.out _ _ hS.ro))).mono ?_; rw [HF.out]; rintro r_ w_ ⟨_, rfl, rfl, hb_⟩; replace hS := hS.ext hb_; clear hb_)
    | (go_at_call 55; refine (Fn rfl HP.out HTG.out hS (fun D w h => HK.out _ _ (k0.out _ _ h)) (fun D w h => HT.out _ _ (k0.out _ _ h))).mono ?_; rw [hSM.out]; clear hS; rintro e w_ ⟨y, u, rfl, hS⟩; obtain ⟨x7, rfl, hu1⟩ := Ch hS.ro.2; obtain ⟨Au, cu, rfl, hcu, _⟩ := Bg (hS.own 0 rfl))
    | ((with_reducible refine qA 7 ?_); refine qa hS #[.slice none 0 0] ?_; clear hS; intro g7 w_ hS)
    | ((with_reducible refine qA 9 ?_); refine qa hS #[.slice none 0 0] ?_; clear hS; intro g9 w_ hS)
    | ((with_reducible refine qk 27 ?_); first | (refine A9 hS 0 rfl _ _ rfl _ _ rfl _ _ rfl _ (by first | rfl | assumption) Tryz.underlying27 rfl (by kernel_rfl) ?_) | (refine A9 hS 1 rfl _ _ rfl _ _ rfl _ _ rfl _ (by first | rfl | assumption) Tryz.underlying27 rfl (by kernel_rfl) ?_) | (refine A9 hS 2 rfl _ _ rfl _ _ rfl _ _ rfl _ (by first | rfl | assumption) Tryz.underlying27 rfl (by kernel_rfl) ?_) | (refine A9 hS 3 rfl _ _ rfl _ _ rfl _ _ rfl _ (by first | rfl | assumption) Tryz.underlying27 rfl (by kernel_rfl) ?_) | (refine A9 hS 4 rfl _ _ rfl _ _ rfl _ _ rfl _ (by first | rfl | assumption) Tryz.underlying27 rfl (by kernel_rfl) ?_) | (refine A9 hS 5 rfl _ _ rfl _ _ rfl _ _ rfl _ (by first | rfl | assumption) Tryz.underlying27 rfl (by kernel_rfl) ?_))
    | ((with_reducible refine qm 27 ?_); (first | refine B7 hS 0 rfl _ _ _ rfl _ _ rfl rfl _ _ rfl (by kernel_rfl) (by kernel_rfl) (by simpa using hu1) ?_ | refine B7 hS 1 rfl _ _ _ rfl _ _ rfl rfl _ _ rfl (by kernel_rfl) (by kernel_rfl) (by simpa using hu1) ?_ | refine B7 hS 2 rfl _ _ _ rfl _ _ rfl rfl _ _ rfl (by kernel_rfl) (by kernel_rfl) (by simpa using hu1) ?_ | refine B7 hS 3 rfl _ _ _ rfl _ _ rfl rfl _ _ rfl (by kernel_rfl) (by kernel_rfl) (by simpa using hu1) ?_); clear hS; intro w_ hS; (try simp only [Act.put, Act.eval, zz, Value.cells] at hS))
    | ((with_reducible refine qM ?_); (first | refine qS hS ?_ | refine qT hS ?_); clear hS; intro w_ hS; (try simp only [Act.put, Act.eval, zz, Value.cells] at hS)))
   obtain ⟨KX, kx, hS2⟩ : ∃ KX : (Nat -> Prop) -> World -> Prop, Hid (∀ D w, KX D w -> KC D w /\ A7 w D (.agg #[x7]) U) /\ St w0 w_ [.box g9 27 #[.slice Cs ns cs], .box g7 27 #[x7], .own (.slice Au us.length cu) 3 1 us.length (AH us), .box g3 29 #[.slice none 0 0], .box g1 31 #[.int .i64 R, .pointer (some ⟨q, 0, none⟩), .slice Cs ns cs, .slice Ar rl.length cr, .slice An nl.length cn, .slice Ag gl.length cg]] KX := ⟨_, Lib.hid fun D w h => h, hS⟩
   clear hS
   have hS := hS2
   clear hS2
   have KSX := Lib.hid hS.stable
   go_loopw [10] (fun iv wr => ∃ (j : Nat) (x9 : Value), iv = .int .i64 (j : Nat) /\ j <= us.length + 1 /\ x9.oneCell' = true /\ Hid (∀ i, i < j -> reachB ⟨R, some L, st, rl, nl, gl⟩ (satS L ⟨R, some L, st, rl, nl, gl⟩ i).1 = false) /\ St w0 wr [.box g9 27 #[x9], .box g7 27 #[x7], .own (.slice Au us.length cu) 3 1 us.length (AH us), .box g3 29 #[.slice none 0 0], .box g1 31 #[.int .i64 R, .pointer (some ⟨q, 0, none⟩), .slice Cs ns cs, .slice Ar rl.length cr, .slice An nl.length cn, .slice Ag gl.length cg]] (fun D w => KX D w /\ (j <= us.length -> A7 w D (.agg #[x9]) (satS L ⟨R, some L, st, rl, nl, gl⟩ j).1))) (fun i _ => us.length + 1 - (intOf i).toNat)
   case atStart => exact ⟨0, _, rfl, by omega, rfl, Lib.hid (fun i h => by omega), hS.mono (KSX.out.and (Gn A5)) fun D w h => ⟨h, fun _ => (kc.out _ _ (kx.out _ _ h).1).2.1⟩⟩
   case round =>
    clear hS
    obtain ⟨j, x9, rfl, hj, hx9, HN, hS⟩ := hrel
    by_cases hju : j <= us.length
    ·have HTK := Lib.hid ((HSTP.out.2 j hju).1)
     have HY : Hid (reachB ⟨R, some L, st, rl, nl, gl⟩ (satS L ⟨R, some L, st, rl, nl, gl⟩ j).1 = true -> RES = (us.take j, [], true, 0)) := Lib.hid fun h => by
      rw [HRS.out]
      unfold srchM
      rw [JK (by rw [hSM.out]; exact hju) h HN.out]
      dsimp only
      rw [HTK.out]
     have HN2 : Hid (reachB ⟨R, some L, st, rl, nl, gl⟩ (satS L ⟨R, some L, st, rl, nl, gl⟩ j).1 = false -> ∀ i, i < j + 1 -> reachB ⟨R, some L, st, rl, nl, gl⟩ (satS L ⟨R, some L, st, rl, nl, gl⟩ i).1 = false) := Lib.hid fun h i hi => by
      rcases Nat.lt_or_ge i j with h1 | h1
      ·exact HN.out i h1
      ·obtain rfl : i = j := by omega
       exact h
     obtain ⟨N, hN⟩ : ∃ N, (satS L ⟨R, some L, st, rl, nl, gl⟩ j).1 = N := ⟨_, rfl⟩
     rw [hN] at HY HN2
     replace hS : St w0 wr [.box g9 27 #[x9], .box g7 27 #[x7], .own (.slice Au us.length cu) 3 1 us.length (AH us), .box g3 29 #[.slice none 0 0], .box g1 31 #[.int .i64 R, .pointer (some ⟨q, 0, none⟩), .slice Cs ns cs, .slice Ar rl.length cr, .slice An nl.length cn, .slice Ag gl.length cg]] (fun D w => KX D w /\ A7 w D (.agg #[x9]) N) := hS.mono (KSX.out.and A5) fun D w h => ⟨h.1, by rw [<- hN]; exact h.2 hju⟩
     obtain ⟨rb, hrb⟩ : ∃ rb, reachB ⟨R, some L, st, rl, nl, gl⟩ N = rb := ⟨_, rfl⟩
     have HRB := Lib.hid hrb
     rw [hrb] at HY HN2
     have HNN := Lib.hid hN
     clear hrb hN HN
     cases rb
     ·by_cases hlt : j < us.length
      ·obtain ⟨k, hk, hkl, HNX⟩ : ∃ k : Nat, us[j]? = some (k : Int) /\ k < rl.length /\ Hid ((satS L ⟨R, some L, st, rl, nl, gl⟩ (j + 1)).1 = BF N (rl.getD k AC).target) := by
        have h1 := HSTP.out.2 (j + 1) hlt
        have h2 := HSTP.out.2 j hju
        cases hfc : firstC L rl (satS L ⟨R, some L, st, rl, nl, gl⟩ j).1 with
        | none =>
         rw [Ci (p := ⟨R, some L, st, rl, nl, gl⟩) hfc] at h1
         omega
        | some k =>
         have h3 := C3 (p := ⟨R, some L, st, rl, nl, gl⟩) hfc
         rw [h3] at h1
         refine ⟨k, ?_, (Dg hfc).1, Lib.hid (by rw [h3, HNN.out])⟩
         have h4 := h1.1
         dsimp only at h4
         rw [h2.1] at h4
         have h5 : (us.take (j + 1))[j]? = some (k : Int) := by
          rw [<- h4, List.getElem?_append_right (by rw [List.length_take]; omega), List.length_take, Nat.min_eq_left hju]; simp
         rwa [List.getElem?_take, if_pos (by omega)] at h5
       obtain ⟨bu, ou, rfl⟩ := sl_pos (Sl.of_own (hS.own 2 rfl)) (by omega)
       have HY0 : Hid ((AH us)[j]? = some (.int .i64 (k : Nat))) := Lib.hid (by simp [AH, hk])
       obtain ⟨b, o2, y0, m0, rfl, _, hbl, c0, c1, c2, c3, c4, -, -⟩ := (kc.out _ _ (kx.out _ _ hS.ro.1).1).2.2.at_ hkl
       obtain ⟨t, ht, h64⟩ := HTG.out _ (List.mem_of_getElem? (B9 AC hkl))
       rw [ht] at HNX c3
       clear ht hk HY HNN c0 c1 c2 c4
       go_wp2_with (first
        | ((with_reducible refine qB ?_); refine qc ?_ ?_ <;> intro h_ <;> go_prune)
        | ((with_reducible refine qA 33 ?_); refine BigFrame.wpList_want rfl fun _ hK => AK rfl rfl (hS.box 4 rfl) Tryz.underlying31 rfl (by kernel_rfl) (hK _ _ ?_))
        | ((with_reducible refine qA 34 ?_); refine BigFrame.wpList_want rfl fun _ hK => AK rfl rfl (hS.box 0 rfl) Tryz.underlying27 rfl (by kernel_rfl) (hK _ _ ?_))
        | (go_at_call 25; refine (Ft (HK.out _ _ (k0.out _ _ (kx.out _ _ hS.ro.1).1)) HP.out (HT.out _ _ (k0.out _ _ (kx.out _ _ hS.ro.1).1)) hS.ro.2).mono ?_; rw [HRB.out]; rintro r_ w_ ⟨_, rfl, rfl, hb_⟩; replace hS := hS.ext hb_; replace c3 := (hb_.cell hbl).trans c3; replace hbl := Nat.lt_of_lt_of_le hbl hb_.size; clear hb_))
       refine Gy 11 [] [.i (.agg #[x9]), .q g1 3, .i (.slice (some ⟨b, o2, none⟩) rl.length cr), .i (.slice (some ⟨bu, ou, none⟩) us.length cu), .n (j : Nat), .q bu (ou + (j) * 1), .n (k : Nat), .q b (o2 + (k) * 5), .q b (o2 + (k) * 5 + 3), .n (t : Nat), .s (fun v w => ∃ u, v = .agg #[u] /\ u.oneCell' = true /\ A7 w (fun z => D6 [.box g9 27 #[x9], .box g7 27 #[x7], .own (.slice (some ⟨bu, ou, none⟩) us.length cu) 3 1 us.length (AH us), .box g3 29 #[.slice none 0 0], .box g1 31 #[.int .i64 R, .pointer (some ⟨q, 0, none⟩), .slice Cs ns cs, .slice (some ⟨b, o2, none⟩) rl.length cr, .slice An nl.length cn, .slice Ag gl.length cg]] z \/ w_.heap.size <= z) (.agg #[u]) (BF N (t : Nat))) fun v w w' h hb => ⟨_, h.choose_spec.1, h.choose_spec.2.1, h.choose_spec.2.2.ext hb⟩, .t] ⟨uR (h := fun w hW hN => (hS.ext hW).box 0 rfl), uF, uC (h := fun w hW hN => (hS.ext hW).shut 4 rfl 3 rfl), uM, uM, uI (h := fun w hW hN => Ax (m := j) Tryz.underlying45 (by kernel_rfl) (by omega) (by omega)), uC (h := fun w hW hN => by rw [Nat.mul_one]; exact Ef (Sl.of_own ((hS.ext hW).own 2 rfl)) HY0.out), uI (h := fun w hW hN => Ax (m := k) Tryz.underlying28 (by kernel_rfl) (by omega) (by omega)), uF, uC (h := fun w hW hN => (hW.cell hbl).trans c3), ?_, trivial⟩ ?_
       ·refine uT fun b__ w hW hE K hK => ?_
        have e44 := hE 44
        have e53 := hE 53
        refine AB rfl (by kernel_rfl) (by simp only [List.map_cons, List.map_nil, e44, e53]) (Ey (.agg #[x9]) N (t : Nat) w _ (hS.ext hW).ro.2) fun v w' h hb => ?_
        obtain ⟨u, rfl, h1⟩ := Ch h
        exact hK _ w' ⟨u, rfl, h1, h.imp fun z hz _ => hz.imp id fun hz => Nat.le_trans hW.size hz⟩ hb
       ·intro vs wz hW hT
        obtain ⟨e44, e45, e46, e47, e48, e49, e50, e51, e52, e53, e54, -⟩ := hT
        have bx : (fun _ : Nat => True) 0 := trivial
        simp only [AF, Act.put, zz, ze]
        obtain ⟨u9, e54, hu9, hset⟩ := e54
        have hS1 := (hS.ext hW).add (A5 (v := .agg #[u9]) (N := BF N (t : Nat))) hset fun z hz _ => hz.elim id hS.fresh
        (intro o_ ho_; simp only [List.getElem?_toArray, List.getElem?_cons_succ, List.getElem?_cons_zero, Option.some.injEq] at ho_; subst ho_)
        refine BO rfl rfl e54 (hS1.box 0 rfl) (by kernel_rfl) rfl (by simpa using hu9) fun w10 h10 hU10 => ?_
        replace hS1 := hS1.upd 0 rfl (.box g9 27 #[u9]) (Bj hU10) ⟨(hS1.holds (.box g9 27 #[x9]) (by simp)).1, h10⟩ fun _ e => .inl e
        simp only [BV]
        simp only [Act.put, List.setIfInBounds_toArray, List.set_cons_zero, List.set_cons_succ]
        clear e44 e45 e46 e47 e48 e49 e50 e51 e52 e53 e54 hset hW hS
        go_wp2_with fail
        exact ⟨⟨j + 1, u9, by go_num, by omega, hu9, Lib.hid (HN2.out (by trivial)), hS1.mono (KSX.out.and (Gn A5)) fun D w h => ⟨h.1.1, fun _ => by rw [HNX.out]; exact h.2⟩⟩, by simp [intOf]; omega⟩
      ·obtain rfl : j = us.length := by omega
       clear HY HNN
       go_wp2_with (first
        | ((with_reducible refine qB ?_); refine qc ?_ ?_ <;> intro h_ <;> go_prune)
        | ((with_reducible refine qA 33 ?_); refine BigFrame.wpList_want rfl fun _ hK => AK rfl rfl (hS.box 4 rfl) Tryz.underlying31 rfl (by kernel_rfl) (hK _ _ ?_))
        | ((with_reducible refine qA 34 ?_); refine BigFrame.wpList_want rfl fun _ hK => AK rfl rfl (hS.box 0 rfl) Tryz.underlying27 rfl (by kernel_rfl) (hK _ _ ?_))
        | (go_at_call 25; refine (Ft (HK.out _ _ (k0.out _ _ (kx.out _ _ hS.ro.1).1)) HP.out (HT.out _ _ (k0.out _ _ (kx.out _ _ hS.ro.1).1)) hS.ro.2).mono ?_; rw [HRB.out]; rintro r_ w_ ⟨_, rfl, rfl, hb_⟩; replace hS := hS.ext hb_; clear hb_))
       exact ⟨⟨us.length + 1, x9, by go_num, by omega, hx9, Lib.hid (HN2.out (by trivial)), hS.mono (KSX.out.and (Gn A5)) fun D w h => ⟨h.1, fun h => by omega⟩⟩, by simp [intOf]⟩
     ·have HY2 := Lib.hid (HY.out (by trivial))
      clear HY HN2 HNN
      go_wp2_with (first
       | ((with_reducible refine qB ?_); refine qc ?_ ?_ <;> intro h_ <;> go_prune)
       | ((with_reducible refine qA 33 ?_); refine BigFrame.wpList_want rfl fun _ hK => AK rfl rfl (hS.box 4 rfl) Tryz.underlying31 rfl (by kernel_rfl) (hK _ _ ?_))
       | ((with_reducible refine qA 34 ?_); refine BigFrame.wpList_want rfl fun _ hK => AK rfl rfl (hS.box 0 rfl) Tryz.underlying27 rfl (by kernel_rfl) (hK _ _ ?_))
       | (go_at_call 25; refine (Ft (HK.out _ _ (k0.out _ _ (kx.out _ _ hS.ro.1).1)) HP.out (HT.out _ _ (k0.out _ _ (kx.out _ _ hS.ro.1).1)) hS.ro.2).mono ?_; rw [HRB.out]; rintro r_ w_ ⟨_, rfl, rfl, hb_⟩; replace hS := hS.ext hb_; clear hb_)
       | ((with_reducible refine qA 39 ?_); refine BigFrame.wpList_want rfl fun _ hK => opw_sl3 (k := j) rfl Tryz.underlying45 ⟨1, by kernel_rfl⟩ rfl rfl rfl (by omega) (hK _ _ ?_))
       | ((with_reducible refine qM ?_); (first | refine qS hS ?_ | refine qT hS ?_); clear hS; intro w_ hS; (try simp only [Act.put, Act.eval, zz, Value.cells] at hS)))
      refine Cc (F := [.box g9 27 #[x9], .box g7 27 #[x7], .own (.slice Au us.length cu) 3 1 us.length (AH us), .box g3 29 #[.slice none 0 0], .box g1 31 #[.int .i64 R, .pointer (some ⟨q, 0, none⟩), .slice Cs ns cs, .slice Ar rl.length cr, .slice An nl.length cn, .slice Ag gl.length cg]]) ?_ [] _ (by simpa [Cj] using hS)
      intro w' h
      refine ⟨_, H5 rfl rfl (h.shut 3 rfl 0 rfl) (by kernel_rfl) rfl rfl rfl, ?_⟩
      rw [HY2.out]
      refine AP.mk ⟨_, _, rfl, ?_, EN⟩ h.below
      have h3 := (Sl.of_own (h.own 2 rfl)).take (k := j) hju
      have h4 : (us.take j).length = j := by rw [List.length_take]; omega
      have h5 : (AH us).take j = AH (us.take j) := by unfold AH; rw [List.map_take]
      rw [h5] at h3
      dsimp only
      rw [h4]
      exact sl_cap h3
    ·obtain rfl : j = us.length + 1 := by omega
     obtain ⟨RL, hRL⟩ : ∃ RL, relM L ⟨R, some L, st, rl, nl, gl⟩ = RL := ⟨_, rfl⟩
     obtain ⟨N, hN⟩ : ∃ N, BB RL U = N := ⟨_, rfl⟩
     have HN64 : Hid (N < Bc) := Lib.hid (by
      rw [<- hN, <- hRL, BC]
      exact minus_lt (by have := relM_lt L ⟨R, some L, st, rl, nl, gl⟩; rwa [BC] at this))
     have HZ : Hid (RES = ([], G8 N, false, 0)) := Lib.hid (by
      rw [HRS.out]
      unfold srchM
      rw [JL (fun i hi => HN.out i (by rw [hSM.out] at hi; dsimp only at hi; omega)), hSM.out, hRL, hN])
     have HRL : Hid (relS ⟨R, some L, st, rl, nl, gl⟩ = RL) := Lib.hid (by rw [HREL.out, hRL])
     have HNN := Lib.hid hN
     clear hN hRL HN HRS HSTP
     replace hS : St w0 wr [.box g9 27 #[x9], .box g7 27 #[x7], .own (.slice Au us.length cu) 3 1 us.length (AH us), .box g3 29 #[.slice none 0 0], .box g1 31 #[.int .i64 R, .pointer (some ⟨q, 0, none⟩), .slice Cs ns cs, .slice Ar rl.length cr, .slice An nl.length cn, .slice Ag gl.length cg]] KX := hS.mono KSX.out fun D w h => h.1
     go_wp2_with (first | ((with_reducible refine qB ?_); refine qc ?_ ?_ <;> intro h_ <;> go_prune))
     refine CH [.i (.agg #[.int .i64 R, .pointer (some ⟨q, 0, none⟩), .slice Cs ns cs, .slice Ar rl.length cr, .slice An nl.length cn, .slice Ag gl.length cg]), .s (fun v w => A7 w (fun _ => True) v RL) fun v w w' h hb => h.ext hb, .i (.agg #[x7]), .s (fun v w => A7 w (fun z => wr.heap.size <= z) v N) fun v w w' h hb => h.ext hb, .s (fun v w => ∃ Bs A cap ws, v = .func (.func 102) #[] #[.pointer (some ⟨Bs, 0, none⟩)] /\ Ca ws /\ Br ws = N /\ Sl w (fun z => wr.heap.size <= z) 1 (.slice A ws.length cap) ws.length (Bz ws) /\ wr.heap.size <= Bs /\ Co w Bs 27 #[.slice A ws.length cap]) fun v w w' h hb => by obtain ⟨Bs, A, cap, ws, h1, h2, h3, h4, h5, h6⟩ := h; exact ⟨Bs, A, cap, ws, h1, h2, h3, h4.ext hb, h5, h6.ext hb⟩] ⟨uR (h := fun w hW hN => (hS.ext hW).box 4 rfl), ?_, uR (h := fun w hW hN => (hS.ext hW).box 1 rfl), ?_, ?_, trivial⟩ ?_
     ·refine uT fun b__ w hW hE K hK => ?_
      have e55 := hE 55
      exact AB rfl (by kernel_rfl) (by simp only [List.map_cons, List.map_nil, e55]) (H6 (HK.out _ _ (k0.out _ _ (kx.out _ _ (hS.ext hW).ro).1)) HP.out (HT.out _ _ (k0.out _ _ (kx.out _ _ (hS.ext hW).ro).1))) fun v w' h hb => hK v w' (by rw [<- HRL.out]; exact h.imp fun _ _ _ => trivial) hb
     ·refine uT fun b__ w hW hE K hK => ?_
      have e56 := hE 56
      have e57 := hE 57
      exact AB rfl (by kernel_rfl) (by simp only [List.map_cons, List.map_nil, e57]) (minus_any e56 (kx.out _ _ (hS.ext hW).ro).2) fun v w' h hb => hK v w' (by rw [<- HNN.out]; exact h.imp fun z hz _ => Nat.le_trans hW.size hz) hb
     ·refine uT fun b__ w hW hE K hK => ?_
      have e58 := hE 58
      refine AB rfl (by kernel_rfl) (by simp only [List.map_cons, List.map_nil]) (Fo _ N _ _ e58) fun v w' h hb => ?_
      obtain ⟨Bs, A, cap, ws, h1, -, h3, h4, h5, h6, h7⟩ := h
      exact hK v w' ⟨Bs, A, cap, ws, h1, h3, h4, h5.ext hb, Nat.le_trans hW.size h6, h7⟩ hb
     ·intro vs wz hW hT
      obtain ⟨e55, e56, e57, e58, e59, -⟩ := hT
      have bx : (fun _ : Nat => True) 0 := trivial
      simp only [AF, Act.put, zz, ze]
      obtain ⟨Bs, A, cap, ws, hfv, hcn, hvN, hsl, hBs, hX⟩ := e59
      rw [hfv]
      replace hS := hS.good2 hW hsl (HT.out _ _ (k0.out _ _ (kx.out _ _ hS.ro).1)) (HTB.out _ _ (k0.out _ _ (kx.out _ _ hS.ro).1)) hBs hX
      replace hS := hS.nil 54 2
      obtain ⟨KK, kG, KKS, hS2⟩ : ∃ KK : (Nat -> Prop) -> World -> Prop, (∀ D w, KK D w -> Fc Bs A cap ws w) /\ AO KK /\ St w0 wz [.own (.slice none 0 0) 54 2 0 [], .box g9 27 #[x9], .box g7 27 #[x7], .own (.slice Au us.length cu) 3 1 us.length (AH us), .box g3 29 #[.slice none 0 0], .box g1 31 #[.int .i64 R, .pointer (some ⟨q, 0, none⟩), .slice Cs ns cs, .slice Ar rl.length cr, .slice An nl.length cn, .slice Ag gl.length cg]] KK := ⟨_, fun D w h => h.2.1, hS.stable, hS⟩
      clear hS
      have hS := hS2
      clear hS2
      have HCN := Lib.hid hcn
      have HMEM : Hid ((BH ws).map (fun x => (2 ^ x.toNat, 0)) = G8 N) := Lib.hid (by rw [<- hvN]; exact memL_one hcn (by rw [hvN]; exact HN64.out))
      have HML : Hid ((BH ws).length <= 4096) := Lib.hid (by
       have := FW (Br ws) (64 * ws.length)
       have := hcn.2.2
       simp [BH, Aj]; omega)
      have HVB : Hid (∀ k, (Br ws).testBit k = true -> k <= 4095) := Lib.hid fun k hk => by
       rcases Nat.lt_or_ge k 64 with h | h
       ·omega
       ·rw [hvN, DV HN64.out h] at hk; cases hk
      clear hsl hX hBs hW hfv e55 e56 e57 e58 hcn hvN hju hj
      go_wp2_with fail
      have hsz := hS.size
      refine (wpIn_wide (n := 6)).1 ?_
      refine GA fun act hact => ?_
      refine EV hS HCN.out.1 HCN.out.2.2 kG (by rw [hact]; rfl) rfl
       (fun pre F' K' => ∃ cv xs', F' = [.own cv 54 2 pre.length xs', .box g9 27 #[x9], .box g7 27 #[x7], .own (.slice Au us.length cu) 3 1 us.length (AH us), .box g3 29 #[cv], .box g1 31 #[.int .i64 R, .pointer (some ⟨q, 0, none⟩), .slice Cs ns cs, .slice Ar rl.length cr, .slice An nl.length cn, .slice Ag gl.length cg]] /\ AO K' /\ ∀ D w, K' D w -> KK D w /\ Ak w (fun z => D z /\ w0.heap.size <= z) xs' (pre.map fun x => (2 ^ x.toNat, 0)))
       (fun _ _ _ _ => False) (fun s F K' h D w hk => by obtain ⟨_, _, _, _, h4⟩ := h; exact (h4 D w hk).1) ?hr (fun _ _ _ _ h => h.elim) ⟨_, _, rfl, KKS, fun D w h => ⟨h, fun i y n hi => by simp at hi⟩⟩
       (fun x => { tmps := (act.tmps.setIfInBounds 60 (.int .i64 x)).setIfInBounds 11 (.int .i64 x), defers := [] }) ?assign ?body ?done (fun _ _ _ _ _ _ _ _ h _ _ => h.elim)
      case hr =>
       rintro s F K' ⟨cv, xs', rfl, _⟩ f hf
       simp only [List.mem_cons, List.not_mem_nil, or_false] at hf
       rcases hf with rfl | rfl | rfl | rfl | rfl | rfl <;> exact .inl rfl
      case assign =>
       intro l x W K hK
       subst hact
       rw [IP]
       refine wpIn_region_lit ?_
       refine EI (by intro _ _ h; exact h) _ _ _ (by rfl) _ _ ?_
       refine wpList_plain rfl fun _ hK' => CL (v := .int .i64 x) rfl (by rfl) (hK' _ _ ?_)
       exact wpList_nil hK
      case body =>
       rintro l pre x hx W F' Xo K' ⟨cv, xs', rfl, hKs, hk'⟩ hS hlt
       subst hact
       obtain ⟨k, rfl⟩ := Hi hx
       have hk4 : k <= 4095 := HVB.out k ((E7 HCN.out.1).1 hx)
       have hml := HML.out
       have HOF := Lib.hid (ofN_one hk4)
       have HKP := Lib.hid hk'
       obtain ⟨Ac, cc, rfl, _, _⟩ := Bg (hS.own 0 rfl)
       have HXL : Hid (xs'.length = pre.length * 2) := Lib.hid (hS.own 0 rfl).1
       clear hx hk'
       simp only [Act.put, List.setIfInBounds_toArray, List.set_cons_zero, List.set_cons_succ]
       refine wpIn_block ?_
       refine Dh (by kernel_rfl) (by intro _ _ h; exact h) (by rfl) ?_
       refine JT 6 [7] [.i (.slice Ac pre.length cc), .n (k : Nat), .s (fun v w => Sl w (fun _ => True) 1 v ([(k : Int)] : List Int).length (AH [(k : Int)])) fun v w w' h hb => h.ext hb, .s (fun v w => ∃ A n c, v = .agg #[.slice A n c] /\ A7 w (fun z => W.heap.size <= z) (.agg #[.slice A n c]) (2 ^ k)) fun v w w' h hb => by obtain ⟨A, n, c, h1, h2⟩ := h; exact ⟨A, n, c, h1, h2.ext hb⟩, .s (fun v w => ∃ A n c, v = .agg #[.slice A n c, .slice none 0 0] /\ A7 w (fun z => W.heap.size <= z) (.agg #[.slice A n c]) (2 ^ k)) fun v w w' h hb => by obtain ⟨A, n, c, h1, h2⟩ := h; exact ⟨A, n, c, h1, h2.ext hb⟩, .s (fun v w => ∃ A n c, Sl w (fun _ => True) 2 v 1 [.slice A n c, .slice none 0 0] /\ A7 w (fun z => W.heap.size <= z) (.agg #[.slice A n c]) (2 ^ k)) fun v w w' h hb => by obtain ⟨A, n, c, h1, h2⟩ := h; exact ⟨A, n, c, h1.ext hb, h2.ext hb⟩, .t, .t] ⟨uC (h := fun w hW hN => (hS.ext hW).shut 4 rfl 0 rfl), uM, ?_, ?_, ?_, ?_, trivial⟩ ?_
       ·refine uT fun b__ w hW hE K hK => ?_
        have e62 := hE 62
        refine BE rfl Tryz.underlying45 (ps := [(0, .int .i64 (k : Nat))]) (by simp [e62]) (cells := #[.int .i64 (k : Nat)]) (by kernel_rfl) fun w' hX hb => hK _ _ ((Sl.of_box (n := 1) (size := 1) hX rfl (by omega)).imp fun _ _ _ => trivial) hb
       ·refine uT fun b__ w hW hE K hK => ?_
        have e63 := hE 63
        refine AB rfl (by kernel_rfl) (by simp only [List.map_cons, List.map_nil]) (JD _ [(k : Int)] _ _ e63) fun v w' h hb => ?_
        obtain ⟨A, c, l, rfl, -⟩ := id h.parts
        exact hK _ w' ⟨A, _, c, rfl, by rw [<- HOF.out]; exact h.imp fun z hz _ => Nat.le_trans hW.size hz⟩ hb
       ·refine uT fun b__ w hW hE K hK => ?_
        have e64 := hE 64
        obtain ⟨A, n, c, h1, h2⟩ := e64
        exact CW rfl (ps := [(0, .agg #[.slice A n c])]) (by simp [h1]) (cells := #[.slice A n c, .slice none 0 0]) (by kernel_rfl) (hK _ _ ⟨A, n, c, rfl, h2⟩ (Below.refl _ _))
       ·refine uT fun b__ w hW hE K hK => ?_
        have e65 := hE 65
        obtain ⟨A, n, c, h1, h2⟩ := e65
        refine BE rfl Tryz.underlying29 (ps := [(0, .agg #[.slice A n c, .slice none 0 0])]) (by simp [h1]) (cells := #[.slice A n c, .slice none 0 0]) (by kernel_rfl) fun w' hX hb => hK _ _ ⟨A, n, c, (Sl.of_box (n := 1) (size := 2) hX rfl (by omega)).imp fun _ _ _ => trivial, h2.ext hb⟩ hb
       ·intro vs wz hW hT
        obtain ⟨e61, e62, e63, e64, e65, e66, -⟩ := hT
        have bx : (fun _ : Nat => True) 0 := trivial
        simp only [AF, Act.put, zz, ze]
        obtain ⟨A2, n2, c2, hsl, hset⟩ := e66
        have hsW := hS.size
        have hS1 := hS.ret hW (AW (A5 (v := .agg #[.slice A2 n2 c2]) (N := 2 ^ k)) fun z => w0.heap.size <= z) (hset.imp fun z hz _ => ⟨hz, Nat.le_trans hsW hz⟩)
        (intro o_ ho_; simp only [List.getElem?_toArray, List.getElem?_cons_succ, List.getElem?_cons_zero, Option.some.injEq] at ho_; subst ho_)
        refine EZ rfl DT e61 (hS1.own 0 rfl) rfl hsl (by intro u hu; simp at hu; rcases hu with rfl | rfl <;> rfl) (by omega) (by omega) hS1.size fun v9 w9 ho9 hg9 hat9 => ?_
        replace hS1 := hS1.upd 0 rfl (.own v9 54 2 (pre.length + 1) (xs' ++ [Value.slice A2 n2 c2, Value.slice none 0 0])) hg9 ho9 hat9
        (intro o_ ho_; simp only [List.getElem?_toArray, List.getElem?_cons_succ, List.getElem?_cons_zero, Option.some.injEq] at ho_; subst ho_)
        simp only [Act.put, List.setIfInBounds_toArray, List.set_cons_zero, List.set_cons_succ]
        refine Cu (v := v9) rfl rfl rfl (hS1.box 4 rfl) (by simp) (Ig ho9) (own_one ho9) (by kernel_rfl) fun w10 h10 hU10 => ?_
        replace hS1 := hS1.upd 4 rfl (.box g3 29 #[v9]) (Bj hU10) ⟨(hS1.holds (.box g3 29 #[.slice Ac pre.length cc]) (by simp)).1, h10⟩ fun _ e => .inl e
        refine ⟨_, _, ⟨v9, xs' ++ [.slice A2 n2 c2, .slice none 0 0], rfl, hS1.stable, fun D w h => ⟨(HKP.out D w h.1.1).1, ?_⟩⟩, by rw [hU10.size]; exact Nat.le_trans hW.size hg9.size, by rw [List.length_append, List.length_singleton]; exact hS1⟩
        rw [List.map_append]
        exact Ak.append (by rw [HXL.out, List.length_map]) (HKP.out D w h.1.1).2 (G2 (by simpa using h.2) A7.empty)
      case done =>
       rintro D W F' K' hD ⟨cv, xs', rfl, hKs, hk'⟩ hS hK
       subst hact
       have hM := hS.mark hsz hD (by
        intro f hf
        simp only [List.mem_cons, List.not_mem_nil, or_false] at hf
        rcases hf with rfl | rfl | rfl | rfl | rfl | rfl <;> exact .inl rfl) hK rfl
       have HKP := Lib.hid hk'
       obtain ⟨Ac, cc, rfl, _, _⟩ := Bg (hS.own 0 rfl)
       clear hk' hS hK
       have hS := hM
       clear hM
       simp only [List.cons_append, List.nil_append] at hS
       go_wp2_with fail
       refine Gy 2 [3, 4] [.i (.slice Ac (BH ws).length cc), .i (.slice none 0 0), .t, .t, .t] ⟨uC (h := fun w hW hN => (hS.ext hW).shut 4 rfl 0 rfl), uA, trivial⟩ ?_
       ·intro vs wz hW hT
        obtain ⟨e68, e2, -⟩ := hT
        simp only [AF, Act.put, zz, ze]
        replace hS := hS.ext hW
        (intro o_ ho_; simp only [List.getElem?_toArray, List.getElem?_cons_succ, List.getElem?_cons_zero, Option.some.injEq] at ho_; subst ho_)
        refine Cu (v := .slice Ac (BH ws).length cc) rfl rfl e68 (hS.box 4 rfl) (by simp) rfl rfl (by kernel_rfl) fun w10 h10 hU10 => ?_
        replace hS := hS.upd 4 rfl (.box g3 29 #[.slice Ac (BH ws).length cc]) (Bj hU10) ⟨(hS.holds (.box g3 29 #[.slice Ac (BH ws).length cc]) (by simp)).1, h10⟩ fun _ e => .inl e
        simp only [BV]
        simp only [Act.put, List.setIfInBounds_toArray, List.set_cons_zero, List.set_cons_succ]
        (intro o_ ho_; simp only [List.getElem?_toArray, List.getElem?_cons_succ, List.getElem?_cons_zero, Option.some.injEq] at ho_; subst ho_)
        refine CL (v := .bool false) rfl rfl ?_
        simp only [BV]
        simp only [Act.put, List.setIfInBounds_toArray, List.set_cons_zero, List.set_cons_succ]
        (intro o_ ho_; simp only [List.getElem?_toArray, List.getElem?_cons_succ, List.getElem?_cons_zero, Option.some.injEq] at ho_; subst ho_)
        refine CL (v := .int .i64 0) rfl rfl ?_
        simp only [BV]
        simp only [Act.put, List.setIfInBounds_toArray, List.set_cons_zero, List.set_cons_succ]
        rw [e2]
        go_wp2_with fail
        refine Cc (F := [.own (.slice Ac (BH ws).length cc) 54 2 (BH ws).length xs', .box g9 27 #[x9], .box g7 27 #[x7], .own (.slice Au us.length cu) 3 1 us.length (AH us), .box g3 29 #[.slice Ac (BH ws).length cc], .box g1 31 #[.int .i64 R, .pointer (some ⟨q, 0, none⟩), .slice Cs ns cs, .slice Ar rl.length cr, .slice An nl.length cn, .slice Ag gl.length cg]]) ?_ [D] _ hS
        intro w' h
        refine ⟨_, H5 rfl rfl (h.shut 4 rfl 0 rfl) (by kernel_rfl) rfl rfl rfl, ?_⟩
        rw [HZ.out]
        refine AP.mk ⟨_, _, rfl, Sl.none_, xs', ?_, ?_⟩ h.below
        ·have := Sl.of_own (h.own 0 rfl)
         rw [<- HMEM.out]
         simpa using this
        ·have := (HKP.out _ _ h.ro).2
         rw [HMEM.out] at this
         exact this.imp fun z hz _ => hz.2
 ·have HR := Lib.hid (show RES = ([], [], false, e) by rw [<- hR]; unfold srchS; rw [HE.out, if_neg h0])
  clear hR
  refine (callsIn_wide (n := 6)).1 (callsIn_of_wp_marks Tryz.func30 rfl trivial ?_ rfl)
  simp only [Tryz.ntmps30, List.size_toArray, List.length_cons, List.length_nil, Nat.reduceAdd, Nat.reduceSub, Array.replicate_succ, Array.replicate_zero, List.push_toArray, List.append_toArray, List.nil_append, List.cons_append]
  refine wpIn_wide.2 ?_
  go_wp2_with (first
   | ((with_reducible refine qA 1 ?_); refine Az hS rfl _ _ rfl (.agg xs) xs rfl rfl ?_; clear hS; intro g1 w_ hS; (try simp only [Act.put, Act.eval, zz, Value.cells] at hS))
   | ((with_reducible refine qA 3 ?_); refine qa hS #[.slice none 0 0] ?_; clear hS; intro g3 w_ hS)
   | ((with_reducible refine qB ?_); refine qc ?_ ?_ <;> intro h_ <;> go_prune)
   | ((with_reducible refine qk 31 ?_); refine BigFrame.wpList_want rfl fun _ hK => AK rfl rfl (hS.box 1 rfl) Tryz.underlying31 rfl (by rw [hx6.out]; kernel_rfl) (hK _ _ ?_))
   | (go_at_call 31; refine (CA (HK.out _ _ hS.ro) HP.out (HT.out _ _ hS.ro)).mono ?_; rw [HE.out]; rintro r_ w_ ⟨_, rfl, rfl, hb_⟩; replace hS := hS.ext hb_; clear hb_)
   | ((with_reducible refine qM ?_); (first | refine qS hS ?_ | refine qT hS ?_); clear hS; intro w_ hS; (try simp only [Act.put, Act.eval, zz, Value.cells] at hS)))
  refine Cc (F := [.box g3 29 #[.slice none 0 0], .box g1 31 xs]) ?_ [] _ (by simpa [Cj] using hS)
  intro w' h
  refine ⟨_, H5 rfl rfl (h.shut 0 rfl 0 rfl) (by kernel_rfl) rfl rfl rfl, ?_⟩
  rw [HR.out]
  exact AP.mk ⟨_, _, rfl, Sl.none_, EN⟩ h.below
end
section
open Go.RowKit
attribute [local go_sem ↓] Go.wp_at_zero Go.wp_at_succ
set_option maxRecDepth 20000
set_option exponentiation.threshold 5000
set_option maxHeartbeats 2000000 in
theorem lmade_any {w0 w : World} {F : List Ai} {K : (Nat -> Prop) -> World -> Prop} {v : Value} {l : List Nat} (b : Bool) (hl : ∀ x ∈ l, x < 256) (hS : St w0 w F K) (kp : ∀ D w, K D w -> Sl w D 1 v l.length (u8s l)) (kt : ∀ D w, K D w -> Bu w /\ D 0) :
  Calls Tryz.prog 13 #[v, .bool b] w fun e w' => ∃ x u, e = .returned (.tuple #[x, u, .bool true]) /\ ∃ p, (∃ L R, Bp p L R) /\ (b = true -> Cd p = true) /\ St w0 w' F fun D w => K D w /\ Bn w D x p /\ Bi w D u p := by
 have HL := Lib.hid hl
 have KS := Lib.hid hS.stable
 cases b
 ·go_enter Tryz.func13, Tryz.ntmps13
  go_wp2_with (first
   | ((with_reducible refine qA 4 ?_); refine qa hS #[.int .i64 0, .pointer none, .slice none 0 0, .slice none 0 0, .slice none 0 0, .slice none 0 0] ?_; clear hS; intro g4 w_ hS)
   | ((with_reducible refine qA 5 ?_); refine qa hS #[.int .i64 0, .slice none 0 0, .int .u64 0, .slice none 0 0, .slice none 0 0, .slice none 0 0] ?_; clear hS; intro g5 w_ hS)
   | ((with_reducible refine qA 7 ?_); refine qa hS #[.int .i64 0, .slice none 0 0, .int .u64 0, .slice none 0 0, .slice none 0 0, .slice none 0 0] ?_; clear hS; intro g7 w_ hS)
   | ((with_reducible refine qA 8 ?_); refine qa hS #[.int .i64 0, .pointer none, .slice none 0 0, .slice none 0 0, .slice none 0 0, .slice none 0 0] ?_; clear hS; intro g8 w_ hS)
   | (go_at_call 50; refine (Ip HL.out hS kp).mono ?_; clear hS; rintro e w_ ⟨u, p, L, R, rfl, hM, hS⟩; replace hM := Lib.hid hM; obtain ⟨us0, rfl, hv6, hv1⟩ := hS.ro.2.cells; replace hv6 := Lib.hid hv6)
   | (go_at_call 52; refine (Hj hM.out.links hM.out.hok (by have := hM.out.len; omega) hM.out.fits hS (fun D w h => h.2) (fun D w h => kt D w h.1)).mono ?_; clear hS; rintro e w_ ⟨x, rfl, hS⟩; obtain ⟨xs, rfl, hx6, hx1⟩ := hS.ro.2.cells; replace hx6 := Lib.hid hx6)
   | ((with_reducible refine qm 37 ?_); (refine B7 hS 0 rfl _ _ _ rfl _ _ rfl rfl _ _ rfl (by rw [hv6.out]; kernel_rfl) (by rw [hv6.out]; rfl) hv1 ?_; clear hS; intro w_ hS; (try simp only [Act.put, Act.eval, zz, Value.cells] at hS)))
   | ((with_reducible refine qm 31 ?_); (refine B7 hS 0 rfl _ _ _ rfl _ _ rfl rfl _ _ rfl (by rw [hx6.out]; kernel_rfl) (by rw [hx6.out]; rfl) hx1 ?_; clear hS; intro w_ hS; (try simp only [Act.put, Act.eval, zz, Value.cells] at hS)))
   | ((with_reducible refine qA 16 ?_); refine BigFrame.wpList_want rfl fun _ hK => AK rfl rfl (hS.box 0 rfl) Tryz.underlying37 rfl (by rw [hv6.out]; kernel_rfl) (hK _ _ ?_)))
  obtain ⟨us, hus⟩ : ∃ us, us = us0 := ⟨_, rfl⟩
  subst hus
  have hu6 := hv6
  have hu1 := hv1
  obtain ⟨K7, k7, hJ0⟩ : ∃ K7 : (Nat -> Prop) -> World -> Prop, Hid (∀ D w, K7 D w -> (K D w /\ Bi w D (.agg us) p) /\ Bn w D (.agg xs) p) /\ St w0 w_.drew (.box g8 31 xs :: .box g7 37 us :: .box g5 37 (cond (false, false).2 us #[.int .i64 0, .slice none 0 0, .int .u64 0, .slice none 0 0, .slice none 0 0, .slice none 0 0]) :: .box g4 31 (cond (false, false).1 xs #[.int .i64 0, .pointer none, .slice none 0 0, .slice none 0 0, .slice none 0 0, .slice none 0 0]) :: F) K7 := ⟨_, Lib.hid fun _ _ h => h, hS.drew⟩
  have hRr := @SR.refl w0 (fun s => .box g8 31 xs :: .box g7 37 us :: .box g5 37 (cond s.2 us #[.int .i64 0, .slice none 0 0, .int .u64 0, .slice none 0 0, .slice none 0 0, .slice none 0 0]) :: .box g4 31 (cond s.1 xs #[.int .i64 0, .pointer none, .slice none 0 0, .slice none 0 0, .slice none 0 0, .slice none 0 0]) :: F) K7
  have hRt := @SR.trans w0 (fun s => .box g8 31 xs :: .box g7 37 us :: .box g5 37 (cond s.2 us #[.int .i64 0, .slice none 0 0, .int .u64 0, .slice none 0 0, .slice none 0 0, .slice none 0 0]) :: .box g4 31 (cond s.1 xs #[.int .i64 0, .pointer none, .slice none 0 0, .slice none 0 0, .slice none 0 0, .slice none 0 0]) :: F) K7
  have hN0 : ∀ _ : Nat, True := fun _ => trivial
  clear hS
  refine Ga (SR w0 (fun s => .box g8 31 xs :: .box g7 37 us :: .box g5 37 (cond s.2 us #[.int .i64 0, .slice none 0 0, .int .u64 0, .slice none 0 0, .slice none 0 0, .slice none 0 0]) :: .box g4 31 (cond s.1 xs #[.int .i64 0, .pointer none, .slice none 0 0, .slice none 0 0, .slice none 0 0, .slice none 0 0]) :: F) K7) (fun _ _ => True) ((false, false)) hRr hRt [.i (.agg xs), .i (.agg us), .b true, .s (fun v w => w.2.1 = true) fun v w w' h hb => hb.2.1 h, .s (fun v w => w.2.2 = true) fun v w w' h hb => hb.2.2 h, .b true] ?_ ⟨?_, ?_, uM, ?_, ?_, uA, trivial⟩ ?_
  ·first | assumption | (intro i; (try dsimp only); split <;> first | trivial | assumption | (left; assumption))
  ·refine uG fun b__ w hW hN hE K hK => ?_
   have e8 : b__.eval (.tmp 8) = .pointer (some ⟨g8, 0, none⟩) := hE 8
   exact AK rfl e8 ((hW.1 hJ0).box 0 rfl) Tryz.underlying31 rfl (by rw [hx6.out]; kernel_rfl) (hK _ _ rfl ⟨hRr _, fun _ _ h => h⟩)
  ·refine uG fun b__ w hW hN hE K hK => ?_
   have e7 : b__.eval (.tmp 7) = .pointer (some ⟨g7, 0, none⟩) := hE 7
   exact AK rfl e7 ((hW.1 hJ0).box 1 rfl) Tryz.underlying37 rfl (by rw [hu6.out]; kernel_rfl) (hK _ _ rfl ⟨hRr _, fun _ _ h => h⟩)
  ·refine uG fun b__ w hW hN hE K hK => ?_
   have e4 : b__.eval (.tmp 4) = .pointer (some ⟨g4, 0, none⟩) := hE 4
   have e20 := hE 20
   have hS := hW.1 hJ0
   exact BO rfl e4 e20 (hS.box 3 rfl) (by rw [hx6.out]; kernel_rfl) (by cases w.2.1; exact hx6.out.symm; rfl) hx1 fun w4 h1 hU => hK undef (w4, (true, w.2.2)) rfl ⟨⟨fun _ => hS.upd 3 rfl (.box g4 31 xs) (Bj hU) ⟨(hS.holds _ (List.mem_of_getElem? (i := 3) rfl)).1, h1⟩ fun _ e => .inl e, fun _ => rfl, id⟩, fun _ _ h => h⟩
  ·refine uG fun b__ w hW hN hE K hK => ?_
   have e5 : b__.eval (.tmp 5) = .pointer (some ⟨g5, 0, none⟩) := hE 5
   have e21 := hE 21
   have hS := hW.1 hJ0
   exact BO rfl e5 e21 (hS.box 2 rfl) (by rw [hu6.out]; kernel_rfl) (by cases w.2.2; exact hu6.out.symm; rfl) hu1 fun w4 h1 hU => hK undef (w4, (w.2.1, true)) rfl ⟨⟨fun _ => hS.upd 2 rfl (.box g5 37 us) (Bj hU) ⟨(hS.holds _ (List.mem_of_getElem? (i := 2) rfl)).1, h1⟩ fun _ e => .inl e, id, fun _ => rfl⟩, fun _ _ h => h⟩
  ·intro vs wz hW hT
   obtain ⟨e20, e21, e22, z3, z4, e6, -⟩ := hT
   have bx : (fun _ : Nat => True) 0 := trivial
   simp only [AF, Act.put, zz, ze]
   obtain ⟨_, hst⟩ := z3
   obtain ⟨_, hst2⟩ := z4
   have hS : St w0 wz.1 (.box g8 31 xs :: .box g7 37 us :: .box g5 37 (cond wz.2.2 us #[.int .i64 0, .slice none 0 0, .int .u64 0, .slice none 0 0, .slice none 0 0, .slice none 0 0]) :: .box g4 31 (cond wz.2.1 xs #[.int .i64 0, .pointer none, .slice none 0 0, .slice none 0 0, .slice none 0 0, .slice none 0 0]) :: F) K7 := hW.1 hJ0
   rw [show wz.2.1 = true from hst, show wz.2.2 = true from hst2] at hS
   dsimp only [cond] at hS
   clear hW hJ0 hRr hRt hN0 hst hst2
   generalize wz.1 = wf at *
   simp only [show vs (6 : Nat) = _ from e6]
   go_wp2_with fail
   refine ret_cct Tryz.results13 rfl (hS.box 3 rfl) Tryz.underlying31 rfl (by rw [hx6.out]; kernel_rfl) rfl (hS.box 2 rfl) Tryz.underlying37 rfl (by rw [hu6.out]; kernel_rfl) rfl rfl ?_
   exact ⟨_, _, rfl, p, ⟨L, R, hM.out⟩, (hS.sub (F' := F) ((((List.sublist_cons_self _ _).trans (List.sublist_cons_self _ _)).trans (List.sublist_cons_self _ _)).trans (List.sublist_cons_self _ _))).mono (KS.out.and (BX.and Bo)) fun D w h => ⟨(k7.out _ _ h).1.1, (k7.out _ _ h).2, (k7.out _ _ h).1.2⟩⟩
 ·go_enter Tryz.func13, Tryz.ntmps13
  go_wp2_with (first
   | ((with_reducible refine qA 4 ?_); refine qa hS #[.int .i64 0, .pointer none, .slice none 0 0, .slice none 0 0, .slice none 0 0, .slice none 0 0] ?_; clear hS; intro g4 w_ hS)
   | ((with_reducible refine qA 5 ?_); refine qa hS #[.int .i64 0, .slice none 0 0, .int .u64 0, .slice none 0 0, .slice none 0 0, .slice none 0 0] ?_; clear hS; intro g5 w_ hS)
   | ((with_reducible refine qA 7 ?_); refine qa hS #[.int .i64 0, .slice none 0 0, .int .u64 0, .slice none 0 0, .slice none 0 0, .slice none 0 0] ?_; clear hS; intro g7 w_ hS)
   | ((with_reducible refine qA 8 ?_); refine qa hS #[.int .i64 0, .pointer none, .slice none 0 0, .slice none 0 0, .slice none 0 0, .slice none 0 0] ?_; clear hS; intro g8 w_ hS)
   | (go_at_call 50; refine (Ip HL.out hS kp).mono ?_; clear hS; rintro e w_ ⟨u, p, L, R, rfl, hM, hS⟩; replace hM := Lib.hid hM; obtain ⟨us0, rfl, hv6, hv1⟩ := hS.ro.2.cells; replace hv6 := Lib.hid hv6)
   | (go_at_call 51; refine (rplain_any hM.out hS (fun D w h => h.2)).mono ?_; clear hS; rintro e w_ ⟨u, rfl, hS⟩; obtain ⟨us, rfl, hu6, hu1⟩ := hS.ro.2.cells; replace hu6 := Lib.hid hu6)
   | (go_at_call 52; refine (Hj hM.out.plain.links hM.out.plain.hok (by have := hM.out.plain.len; omega) hM.out.plain.fits hS (fun D w h => h.2) (fun D w h => kt D w h.1.1)).mono ?_; clear hS; rintro e w_ ⟨x, rfl, hS⟩; obtain ⟨xs, rfl, hx6, hx1⟩ := hS.ro.2.cells; replace hx6 := Lib.hid hx6)
   | ((with_reducible refine qm 37 ?_); (first | (refine B7 hS 0 rfl _ _ _ rfl _ _ rfl rfl _ _ rfl (by rw [hu6.out]; kernel_rfl) (by rw [hu6.out, hv6.out]) hu1 ?_) | (refine B7 hS 0 rfl _ _ _ rfl _ _ rfl rfl _ _ rfl (by rw [hv6.out]; kernel_rfl) (by rw [hv6.out]; rfl) hv1 ?_)); clear hS; intro w_ hS; (try simp only [Act.put, Act.eval, zz, Value.cells] at hS))
   | ((with_reducible refine qm 31 ?_); (refine B7 hS 0 rfl _ _ _ rfl _ _ rfl rfl _ _ rfl (by rw [hx6.out]; kernel_rfl) (by rw [hx6.out]; rfl) hx1 ?_; clear hS; intro w_ hS; (try simp only [Act.put, Act.eval, zz, Value.cells] at hS)))
   | ((with_reducible refine qA 13 ?_); refine BigFrame.wpList_want rfl fun _ hK => AK rfl rfl (hS.box 0 rfl) Tryz.underlying37 rfl (by rw [hv6.out]; kernel_rfl) (hK _ _ ?_))
   | ((with_reducible refine qA 16 ?_); refine BigFrame.wpList_want rfl fun _ hK => AK rfl rfl (hS.box 0 rfl) Tryz.underlying37 rfl (by rw [hu6.out]; kernel_rfl) (hK _ _ ?_)))
  obtain ⟨K7, k7, hJ0⟩ : ∃ K7 : (Nat -> Prop) -> World -> Prop, Hid (∀ D w, K7 D w -> (K D w /\ Bi w D (.agg us) (EW p)) /\ Bn w D (.agg xs) (EW p)) /\ St w0 w_.drew (.box g8 31 xs :: .box g7 37 us :: .box g5 37 (cond (false, false).2 us #[.int .i64 0, .slice none 0 0, .int .u64 0, .slice none 0 0, .slice none 0 0, .slice none 0 0]) :: .box g4 31 (cond (false, false).1 xs #[.int .i64 0, .pointer none, .slice none 0 0, .slice none 0 0, .slice none 0 0, .slice none 0 0]) :: F) K7 := ⟨_, Lib.hid fun _ _ h => ⟨⟨h.1.1.1, h.1.2⟩, h.2⟩, hS.drew⟩
  have hRr := @SR.refl w0 (fun s => .box g8 31 xs :: .box g7 37 us :: .box g5 37 (cond s.2 us #[.int .i64 0, .slice none 0 0, .int .u64 0, .slice none 0 0, .slice none 0 0, .slice none 0 0]) :: .box g4 31 (cond s.1 xs #[.int .i64 0, .pointer none, .slice none 0 0, .slice none 0 0, .slice none 0 0, .slice none 0 0]) :: F) K7
  have hRt := @SR.trans w0 (fun s => .box g8 31 xs :: .box g7 37 us :: .box g5 37 (cond s.2 us #[.int .i64 0, .slice none 0 0, .int .u64 0, .slice none 0 0, .slice none 0 0, .slice none 0 0]) :: .box g4 31 (cond s.1 xs #[.int .i64 0, .pointer none, .slice none 0 0, .slice none 0 0, .slice none 0 0, .slice none 0 0]) :: F) K7
  have hN0 : ∀ _ : Nat, True := fun _ => trivial
  clear hS
  refine Ga (SR w0 (fun s => .box g8 31 xs :: .box g7 37 us :: .box g5 37 (cond s.2 us #[.int .i64 0, .slice none 0 0, .int .u64 0, .slice none 0 0, .slice none 0 0, .slice none 0 0]) :: .box g4 31 (cond s.1 xs #[.int .i64 0, .pointer none, .slice none 0 0, .slice none 0 0, .slice none 0 0, .slice none 0 0]) :: F) K7) (fun _ _ => True) ((false, false)) hRr hRt [.i (.agg xs), .i (.agg us), .b true, .s (fun v w => w.2.1 = true) fun v w w' h hb => hb.2.1 h, .s (fun v w => w.2.2 = true) fun v w w' h hb => hb.2.2 h, .b true] ?_ ⟨?_, ?_, uM, ?_, ?_, uA, trivial⟩ ?_
  ·first | assumption | (intro i; (try dsimp only); split <;> first | trivial | assumption | (left; assumption))
  ·refine uG fun b__ w hW hN hE K hK => ?_
   have e8 : b__.eval (.tmp 8) = .pointer (some ⟨g8, 0, none⟩) := hE 8
   exact AK rfl e8 ((hW.1 hJ0).box 0 rfl) Tryz.underlying31 rfl (by rw [hx6.out]; kernel_rfl) (hK _ _ rfl ⟨hRr _, fun _ _ h => h⟩)
  ·refine uG fun b__ w hW hN hE K hK => ?_
   have e7 : b__.eval (.tmp 7) = .pointer (some ⟨g7, 0, none⟩) := hE 7
   exact AK rfl e7 ((hW.1 hJ0).box 1 rfl) Tryz.underlying37 rfl (by rw [hu6.out]; kernel_rfl) (hK _ _ rfl ⟨hRr _, fun _ _ h => h⟩)
  ·refine uG fun b__ w hW hN hE K hK => ?_
   have e4 : b__.eval (.tmp 4) = .pointer (some ⟨g4, 0, none⟩) := hE 4
   have e20 := hE 20
   have hS := hW.1 hJ0
   exact BO rfl e4 e20 (hS.box 3 rfl) (by rw [hx6.out]; kernel_rfl) (by cases w.2.1; exact hx6.out.symm; rfl) hx1 fun w4 h1 hU => hK undef (w4, (true, w.2.2)) rfl ⟨⟨fun _ => hS.upd 3 rfl (.box g4 31 xs) (Bj hU) ⟨(hS.holds _ (List.mem_of_getElem? (i := 3) rfl)).1, h1⟩ fun _ e => .inl e, fun _ => rfl, id⟩, fun _ _ h => h⟩
  ·refine uG fun b__ w hW hN hE K hK => ?_
   have e5 : b__.eval (.tmp 5) = .pointer (some ⟨g5, 0, none⟩) := hE 5
   have e21 := hE 21
   have hS := hW.1 hJ0
   exact BO rfl e5 e21 (hS.box 2 rfl) (by rw [hu6.out]; kernel_rfl) (by cases w.2.2; exact hu6.out.symm; rfl) hu1 fun w4 h1 hU => hK undef (w4, (w.2.1, true)) rfl ⟨⟨fun _ => hS.upd 2 rfl (.box g5 37 us) (Bj hU) ⟨(hS.holds _ (List.mem_of_getElem? (i := 2) rfl)).1, h1⟩ fun _ e => .inl e, id, fun _ => rfl⟩, fun _ _ h => h⟩
  ·intro vs wz hW hT
   obtain ⟨e20, e21, e22, z3, z4, e6, -⟩ := hT
   have bx : (fun _ : Nat => True) 0 := trivial
   simp only [AF, Act.put, zz, ze]
   obtain ⟨_, hst⟩ := z3
   obtain ⟨_, hst2⟩ := z4
   have hS : St w0 wz.1 (.box g8 31 xs :: .box g7 37 us :: .box g5 37 (cond wz.2.2 us #[.int .i64 0, .slice none 0 0, .int .u64 0, .slice none 0 0, .slice none 0 0, .slice none 0 0]) :: .box g4 31 (cond wz.2.1 xs #[.int .i64 0, .pointer none, .slice none 0 0, .slice none 0 0, .slice none 0 0, .slice none 0 0]) :: F) K7 := hW.1 hJ0
   rw [show wz.2.1 = true from hst, show wz.2.2 = true from hst2] at hS
   dsimp only [cond] at hS
   clear hW hJ0 hRr hRt hN0 hst hst2
   generalize wz.1 = wf at *
   simp only [show vs (6 : Nat) = _ from e6]
   go_wp2_with fail
   refine ret_cct Tryz.results13 rfl (hS.box 3 rfl) Tryz.underlying31 rfl (by rw [hx6.out]; kernel_rfl) rfl (hS.box 2 rfl) Tryz.underlying37 rfl (by rw [hu6.out]; kernel_rfl) rfl rfl ?_
   exact ⟨_, _, rfl, EW p, ⟨L, R, hM.out.plain⟩, plain_frag p, (hS.sub (F' := F) ((((List.sublist_cons_self _ _).trans (List.sublist_cons_self _ _)).trans (List.sublist_cons_self _ _)).trans (List.sublist_cons_self _ _))).mono (KS.out.and (BX.and Bo)) fun D w h => ⟨(k7.out _ _ h).1.1, (k7.out _ _ h).2, (k7.out _ _ h).1.2⟩⟩
end
section
open Go.RowKit
set_option exponentiation.threshold 5000
def InR (N : Nat) : Prop := ∀ i, N.testBit i = true -> 1 <= i /\ i < 64
theorem tc_nil {a b : Nat} : ¬ TC [] a b := fun h => by obtain ⟨y, h, _⟩ := h.first; simp at h
theorem closM_nil {N : Nat} (h : InR N) : closM [] N = N := AZ fun i => by
 rw [Fj]
 constructor
 ·rintro ⟨r, h1, h2, h3, h4⟩
  rcases (I5 (by intro x hx; simp at hx) h1).1 h4 with rfl | h5
  ·exact h3
  ·exact absurd h5 tc_nil
 ·intro hi
  exact ⟨i, (h i hi).2, (h i hi).1, hi, (I5 (by intro x hx; simp at hx) (h i hi).2).2 (.inl rfl)⟩
theorem depM_nil {N : Nat} (h : InR N) : depM [] N = N := AZ fun i => by
 rw [Gm (by intro x hx; simp at hx)]
 constructor
 ·rintro ⟨r, h1, h2, h3, h4⟩
  rcases (Fi (by intro x hx; simp at hx)).1 h4 with rfl | h5
  ·exact h3
  ·exact absurd h5 tc_nil
 ·intro hi
  exact ⟨i, (h i hi).1, (h i hi).2, hi, (Fi (by intro x hx; simp at hx)).2 (.inl rfl)⟩
theorem E9 {N : Nat} (h : N < 2 ^ 7) (h0 : N.testBit 0 = false) : InR N := fun i hi => by
 have : i < 7 := by
  rcases Nat.lt_or_ge i 7 with h1 | h1
  ·exact h1
  ·rw [Nat.testBit_lt_two_pow (Nat.lt_of_lt_of_le h (Nat.pow_le_pow_right (by decide) h1))] at hi; cases hi
 refine ⟨?_, by omega⟩
 rcases Nat.eq_zero_or_pos i with rfl | h1
 ·rw [h0] at hi; cases hi
 ·exact h1
def P2 : Ah := ⟨5, some [], 4, [⟨false, 12, 0, 1, 0⟩], [], [(2, 0)]⟩
end
section
open Go.RowKit
set_option exponentiation.threshold 5000
set_option maxRecDepth 20000
def QA : Ah := ⟨4, some [], 2, [⟨false, 2, 0, 2, 0⟩, ⟨false, 8, 0, 4, 0⟩, ⟨false, 6, 0, 3, 0⟩], [], [(16, 0)]⟩
def QB : Ah := ⟨4, some [], 2, [⟨false, 8, 0, 4, 0⟩, ⟨false, 6, 0, 3, 0⟩], [], [(16, 0)]⟩
theorem okQA : QA.Ok := ⟨by decide, by decide, by decide, fun L h => by cases h; exact ⟨Fd.nil, by decide⟩⟩
theorem okQB : QB.Ok := ⟨by decide, by decide, by decide, fun L h => by cases h; exact ⟨Fd.nil, by decide⟩⟩
theorem J2 : checkE QA = 0 := by
 have hg : goodB QA 2 = true := rfl
 show (if (4 : Int) < 1 \/ 63 < (4 : Int) then (1 : Int) else if 64 < QA.rules.length \/ 2000 < QA.never.length \/ 2000 < QA.goal.length then 3
  else if E8 QA [] (Dk 4) = false then 4 else if (QA.cubes.any fun z => z.1 &&& z.2 != 0) = true \/ QA.rules.all revB = false then 6
  else if goodB QA 2 = false then 7 else 0) = 0
 rw [if_neg (by decide), if_neg (by decide), if_neg (by decide), if_neg (by decide), if_neg (by rw [hg]; decide)]
theorem checkQB : checkE QB = 0 := by
 have hg : goodB QB 2 = true := rfl
 show (if (4 : Int) < 1 \/ 63 < (4 : Int) then (1 : Int) else if 64 < QB.rules.length \/ 2000 < QB.never.length \/ 2000 < QB.goal.length then 3
  else if E8 QB [] (Dk 4) = false then 4 else if (QB.cubes.any fun z => z.1 &&& z.2 != 0) = true \/ QB.rules.all revB = false then 6
  else if goodB QB 2 = false then 7 else 0) = 0
 rw [if_neg (by decide), if_neg (by decide), if_neg (by decide), if_neg (by decide), if_neg (by rw [hg]; decide)]
def candN (N : Nat) (r : AM) : Bool := (!r.revoke && !Bk N r.target) && (r.yes &&& N == r.yes)
theorem EL {l : List AM} {N : Nat} (h : InR N) : firstC [] l N = l.findIdx? (candN N) := by
 unfold firstC
 congr 1
 funext r
 unfold candB candN
 rw [closM_nil h]
theorem EE {p : Ah} {N : Nat} (hl : p.links = some []) (h : InR N) : reachB p N = p.goal.any fun z => B0 z N := by
 unfold reachB
 rw [hl]
 dsimp only
 rw [closM_nil h]
theorem satA0 : satS [] QA 0 = (2, []) := rfl
theorem satA1 : satS [] QA 1 = (6, [0]) := by
 rw [C3 (k := 0) (by rw [satA0, EL (E9 (by decide) (by decide))]; decide), satA0]; decide
theorem satA2 : satS [] QA 2 = (14, [0, 2]) := by
 rw [C3 (k := 2) (by rw [satA1, EL (E9 (by decide) (by decide))]; decide), satA1]; decide
theorem satA3 : satS [] QA 3 = (30, [0, 2, 1]) := by
 rw [C3 (k := 1) (by rw [satA2, EL (E9 (by decide) (by decide))]; decide), satA2]; decide
theorem satA : satM [] QA = (30, [0, 2, 1]) := satA3
theorem satB0 : satS [] QB 0 = (2, []) := rfl
theorem satB1 : satS [] QB 1 = (2, []) := by
 rw [Ci (by rw [satB0, EL (E9 (by decide) (by decide))]; decide), satB0]
theorem satB : satM [] QB = (2, []) := by
 show satS [] QB 2 = _
 rw [Ci (by rw [satB1, EL (E9 (by decide) (by decide))]; decide), satB1]
theorem fragQA : Cd QA = true := by decide
theorem srchA : srchS QA = ([0, 2, 1], [], true, 0) := by
 have e : srchS QA = ((srchM [] QA).1, (srchM [] QA).2.1, (srchM [] QA).2.2, 0) := by
  unfold srchS; rw [if_pos J2]; rfl
 have h : hitN [] QA = some 3 := JK (by rw [satA]; decide) (by rw [satA3, EE rfl (E9 (by decide) (by decide))]; decide) fun j hj => by
  rcases (by omega : j = 0 \/ j = 1 \/ j = 2) with rfl | rfl | rfl
  ·rw [satA0, EE rfl (E9 (by decide) (by decide))]; decide
  ·rw [satA1, EE rfl (E9 (by decide) (by decide))]; decide
  ·rw [satA2, EE rfl (E9 (by decide) (by decide))]; decide
 rw [e]
 unfold srchM
 rw [h]
 dsimp only
 rw [satA3]
theorem obtA : obtS QA = 30 := by
 have e : obtS QA = uppM [] QA := by
  unfold obtS fragM upS
  rw [if_pos J2, if_pos fragQA, if_pos J2]; rfl
 rw [e, <- FR (FB J2 rfl), satA]
theorem depQ {a b : Nat} (h : a < 2 ^ 7) (h0 : a.testBit 0 = false) (e : a = b) : depM [] a = b := by rw [depM_nil (E9 h h0), e]
theorem relB : relM [] QB = 30 := by
 refine (Hw.eq ⟨fun T hT => ?_, by decide⟩ ⟨fun c hc => ?_, fun r hr h1 h2 => ?_, fun c hc _ => ?_⟩).symm
 ·have a1 : C9 16 T := by
   have := hT.goal (16, 0) (by simp [QB])
   rw [show depC [] (16, 0) = depM [] 16 from rfl, depQ (by decide) (by decide) rfl] at this; exact this
  have a2 : C9 8 T := by
   have := hT.rules ⟨false, 8, 0, 4, 0⟩ (by simp [QB]) rfl (a1.has (by decide))
   rw [show depR [] ⟨false, 8, 0, 4, 0⟩ = depM [] 8 from rfl, depQ (by decide) (by decide) rfl] at this; exact this
  have a3 : C9 6 T := by
   have := hT.rules ⟨false, 6, 0, 3, 0⟩ (by simp [QB]) rfl (a2.has (by decide))
   rw [show depR [] ⟨false, 6, 0, 3, 0⟩ = depM [] 6 from rfl, depQ (by decide) (by decide) rfl] at this; exact this
  have e : (30 : Nat) = 16 ||| (8 ||| 6) := by decide
  rw [e]; exact a1.or (a2.or a3)
 ·obtain rfl : c = (16, 0) := by simpa [QB] using hc
  rw [show depC [] (16, 0) = depM [] 16 from rfl, depQ (by decide) (by decide) rfl]; exact BK.1 (by decide)
 ·simp only [QB, List.mem_cons, List.not_mem_nil, or_false] at hr
  rcases hr with rfl | rfl
  ·rw [show depR [] ⟨false, 8, 0, 4, 0⟩ = depM [] 8 from rfl, depQ (by decide) (by decide) rfl]; exact BK.1 (by decide)
  ·rw [show depR [] ⟨false, 6, 0, 3, 0⟩ = depM [] 6 from rfl, depQ (by decide) (by decide) rfl]; exact BK.1 (by decide)
 ·simp [QB] at hc
theorem srchB : srchS QB = ([], [(4, 0), (8, 0), (16, 0)], false, 0) := by
 have e : srchS QB = ((srchM [] QB).1, (srchM [] QB).2.1, (srchM [] QB).2.2, 0) := by
  unfold srchS; rw [if_pos checkQB]; rfl
 have h : hitN [] QB = none := JL fun j hj => by
  rw [satB] at hj
  obtain rfl : j = 0 := by simpa using hj
  rw [satB0, EE rfl (E9 (by decide) (by decide))]; decide
 rw [e]
 unfold srchM
 rw [h]
 dsimp only
 rw [satB, relB]
 decide
end
section
open Go.RowKit
theorem st_litpS {P : Program} {ops : Array Oper} {rest : List Oper} {o : Oper} {a : Act} {Q : Exit -> Act -> World -> Prop} {w0 w : World} {F : List Ai} {K : (Nat -> Prop) -> World -> Prop} (h : St w0 w F K) (hg : Region.wanted o (yielded ops a.tmps) = true) (t e : TypeId) (len : Nat) (parts : Array (Nat × Operand)) (ho : o.op = .buildSlice t len parts) (ht : P.underlying t = some (.slice e)) (ps : List (Nat × Value)) (hp : (parts.map fun (i, x) => (i, a.eval x)).toList = ps) (cells : Array Value)
  (hb : C6 P e len ps = some cells) (size : Nat) (hs : cells.size = len * size) (hm : len <= 1000000000000)
  (hk : ∀ g w', St w0 w' (.own (.slice (some ⟨g, 0, none⟩) len len) e size len cells.toList :: F) K -> wpList P ops Q rest (a.put o.dst (.slice (some ⟨g, 0, none⟩) len len)) w') : wpList P ops Q (o :: rest) a w :=
 BigFrame.wpList_want hg fun _ hK => BE ho ht hp hb fun w' hX hB => hK _ _ (hk _ w' (h.new hB _ ⟨by simpa using hs, .inr ⟨w.heap.size, len, cells, rfl, Nat.le_refl _, hX, Nat.le_refl _, by unfold maxLen; omega, hs, by rw [<- hs, show cells.size = cells.toList.length by simp, List.take_length]⟩⟩))
end
end Go.Proofs.YtjjhcdkamohgnaaGreatDoor
