/-
  The card of CertificateRuns.
-/
import Derived.Laws.CopyRow
import Derived.Deep.LoopGhost
import Derived.Test.YtchjigffejhmfaaGreatDoorRows
import Derived.ProofKit
import Derived.OpenShut
import Derived.Lib.LaidU8
import Derived.Lay
import Derived.MakeChecks
import Derived.LaidLaws
import Derived.Stop.Joined
import Derived.Test.YtchjigffejhmfaaGreatDoorCards
import Derived.Test.YtchjigffejhmfaaGreatDoorTie
import Derived.SevenTiedAt
import Derived.Test.YtchjigffejhmfaaGreatDoorCrn4
namespace Go.Proofs.YtchjigffejhmfaaGreatDoor
section
open Go.RowKit
attribute [local go_sem ↓] Go.wp_at_zero Go.wp_at_succ
set_option maxRecDepth 20000
def Rd (w0 w : World) (X : List Ae) (K : (Nat -> Prop) -> World -> Prop) (q : Nat) (left : List Nat) (err : Int) : Prop :=
 AB K /\ ∃ A c, left.length <= c /\ c <= maxLen /\ St w0 w (.box q 208 #[.slice A left.length c, .int .i64 err] :: X) fun D w => K D w /\ Sl w D 1 (.slice A left.length c) left.length (Ah left)
section
variable {w0 w : World} {X : List Ae} {K : (Nat -> Prop) -> World -> Prop} {q : Nat} {left : List Nat} {err : Int}
theorem Rd.errc (h : Rd w0 w X K q left err) : w.cell? ⟨q, 1, none⟩ = some (.int .i64 err) := by
 obtain ⟨_, A, c, _, _, hS⟩ := h
 exact hS.shut 0 rfl 1 rfl
end
theorem Bl (q : Nat) (err : Int) (w : World) (hc : w.cell? ⟨q, 1, none⟩ = some (.int .i64 err)) :
  Calls Tryz.prog 168 #[.pointer (some ⟨q, 0, none⟩)] w fun e w' => e = .returned (.bool (decide (err = 0))) /\ w = w' := by
 go_enter Tryz.func168, Tryz.ntmps168
 by_cases h : err = 0
 ·subst h
  go_wp2_with (first | ((with_reducible refine qB ?_); refine qc ?_ ?_ <;> intro h_ <;> go_prune))
  go_ret
  exact ⟨rfl, rfl⟩
 ·have h0 : (err == 0) = false := by simpa using h
  go_wp2_with fail
  go_ret
  exact ⟨by simp [h], rfl⟩
theorem rfail_any {w0 w : World} {X : List Ae} {K : (Nat -> Prop) -> World -> Prop} {q : Nat} {left : List Nat} {err : Int} (e : Int) (h : Rd w0 w X K q left err) :
  Calls Tryz.prog 204 #[.pointer (some ⟨q, 0, none⟩), .int .i64 e] w fun r w' => ∃ v, r = .returned v /\ Rd w0 w' X K q left (if err = 0 then e else err) := by
 have hc := h.errc
 obtain ⟨hK, A, c, l1, l2, hS⟩ := h
 have HK := Lib.hid hK
 clear hK
 go_enter Tryz.func204, Tryz.ntmps204
 by_cases h0 : err = 0
 ·subst h0
  go_wp2_with (first | ((with_reducible refine qM ?_); (first | refine qS hS ?_ | refine qT hS ?_); clear hS; intro w_ hS; (try simp only [Act.put, Act.eval, zz, Value.cells] at hS)) | (go_at_call 168; refine (Bl q 0 _ hc).mono ?_; rintro r w' ⟨rfl, rfl⟩))
  go_end0
  exact ⟨⟨_, rfl⟩, HK.out, A, c, l1, l2, hS⟩
 ·have hd : decide (err = 0) = false := by simpa using h0
  go_wp2_with (first | (go_at_call 168; refine (Bl q err _ hc).mono ?_; rw [hd]; rintro r w' ⟨rfl, rfl⟩))
  go_end0
  exact ⟨⟨_, rfl⟩, HK.out, A, c, l1, l2, hS⟩
def refuseE (bad : Bool) (e err : Int) : Int := if bad = true /\ err = 0 then e else err
theorem D6 {w0 w : World} {X : List Ae} {K : (Nat -> Prop) -> World -> Prop} {q : Nat} {left : List Nat} {err : Int} (bad : Bool) (e : Int) (h : Rd w0 w X K q left err) :
  Calls Tryz.prog 169 #[.pointer (some ⟨q, 0, none⟩), .bool bad, .int .i64 e] w fun r w' => r = .returned (.bool !bad) /\ Rd w0 w' X K q left (refuseE bad e err) := by
 have HH := Lib.hid h
 clear h
 go_enter Tryz.func169, Tryz.ntmps169
 cases bad
 ·go_wp2_with fail
  go_ret
  exact ⟨rfl, HH.out⟩
 ·go_wp2_with fail
  refine (rfail_any e HH.out).mono ?_
  rintro r w' ⟨v, rfl, h⟩
  go_wp2_with fail
  go_ret
  exact ⟨rfl, by simpa [refuseE] using h⟩
theorem and127u8 {b : Nat} (h : b < 256) : bits .and .u8 (b : Int) 127 = ((b % 128 : Nat) : Int) := by
 have := u8_and_nat b 127 h (by decide)
 rw [show ((127 : Nat) : Int) = 127 from rfl] at this
 rw [this]
 congr 1
 exact Nat.and_two_pow_sub_one_eq_mod b 7
def Bj : List Nat -> Nat -> Nat -> Nat × Nat
 | [], _, _ => (0, 0)
 | b :: r, v, k => if (k = 0 /\ b = 128) \/ 144115188075855871 < v then (0, 0) else if b < 128 then (v * 128 + b % 128, k + 1) else Bj r (v * 128 + b % 128) (k + 1)
theorem shl7 {v : Nat} (h : v <= 144115188075855871) : IntKind.u64.wrap ((v : Int) * 128) = ((v * 128 : Nat) : Int) := by
 rw [IntKind.wrap_u64]; omega
theorem or7 {v b : Nat} (h : v <= 144115188075855871) : bits .or .u64 ((v * 128 : Nat) : Int) ((b % 128 : Nat) : Int) = ((v * 128 + b % 128 : Nat) : Int) := by
 have := or64 (a := v * 128) (b := b % 128) (by unfold AC; omega) (by unfold AC; omega)
 rw [this]
 congr 1
 have e := Nat.two_pow_add_eq_or_of_lt (i := 7) (b := b % 128) (by omega) v
 rw [Nat.mul_comm v 128]; exact e.symm
theorem numR_lt (l : List Nat) : ∀ v k, v < AC -> (∀ x ∈ l, x < 256) -> (Bj l v k).1 < AC /\ ((Bj l v k).2 = 0 \/ (k < (Bj l v k).2 /\ (Bj l v k).2 <= k + l.length)) := by
 induction l with
 | nil => intro v k _ _; simp [Bj, AC]
 | cons b r ih =>
  intro v k hv hb
  unfold Bj
  split
  ·simp [AC]
  ·rename_i h1
   have h2 : v <= 144115188075855871 := by omega
   split
   ·simp; unfold AC; omega
   ·have h3 := ih (v * 128 + b % 128) (k + 1) (by unfold AC; omega) (fun x hx => hb x (by simp [hx]))
    simp only [List.length_cons]
    omega
theorem Ff {w0 w : World} {X : List Ae} {K : (Nat -> Prop) -> World -> Prop} {q : Nat} {left : List Nat} {err : Int} (hl : left.length <= 1000000000000) (hb : Ao left) (h : Rd w0 w X K q left err) :
  Calls Tryz.prog 171 #[.pointer (some ⟨q, 0, none⟩)] w fun r w' => r = .returned (.tuple #[.int .u64 (Bj left 0 0).1, .int .i64 (Bj left 0 0).2]) /\ w = w' := by
 obtain ⟨hK, A, c, l1, l2, hS⟩ := h
 have HK := Lib.hid hK
 clear hK
 have ks : ∀ D w, (K D w /\ Sl w D 1 (.slice A left.length c) left.length (Ah left)) -> Sl w D 1 (.slice A left.length c) left.length (Ah left) := fun _ _ h => h.2
 have HB := Lib.hid hb
 have hR : Hid (Bj left 0 0 = Bj (left.drop 0) 0 0) := Lib.hid rfl
 generalize Bj left 0 0 = RES at *
 go_enter Tryz.func171, Tryz.ntmps171
 go_wp2_with (first | ((with_reducible refine qK ?_); refine qC hS ?_) | ((with_reducible refine qB ?_); refine qc ?_ ?_ <;> intro h_ <;> go_prune))
 go_loopw [12, 4] (fun i v wr => ∃ k n : Nat, k <= left.length /\ i = .int .i64 k /\ v = .int .u64 n /\ wr = w /\ Hid (RES = Bj (left.drop k) n k)) (fun i _ _ => left.length - (intOf i).toNat)
 case atStart => exact ⟨0, 0, by omega, rfl, rfl, rfl, hR⟩
 case round =>
  obtain ⟨k, n, hk, rfl, rfl, rfl, hR⟩ := hrel
  by_cases hlt : k < left.length
  ·have f1 := Ce left k hlt
   have hD := hR.out
   rw [List.drop_eq_getElem_cons hlt] at hD
   have hbb := HB.out _ (List.getElem_mem hlt)
   have e : left[k] = left.getD k 0 := by simp [List.getD_eq_getElem?_getD, List.getElem?_eq_getElem hlt]
   rw [e] at hD hbb
   generalize left.getD k 0 = b at *
   have HD := Lib.hid hD
   have e1 := and127u8 hbb
   clear hD e
   by_cases hv : n <= 144115188075855871
   ·have e2 := shl7 hv
    have e3 : bits .or .u64 ((n : Int) * 128) ((b : Int) % 128) = ((n * 128 + b % 128 : Nat) : Int) := by
     rw [show ((n : Int) * 128) = ((n * 128 : Nat) : Int) by simp, show ((b : Int) % 128) = ((b % 128 : Nat) : Int) by simp]; exact or7 hv
    obtain ⟨m, hm⟩ : ∃ m, m = n * 128 + b % 128 := ⟨_, rfl⟩
    rw [<- hm] at e3
    have HM := Lib.hid hm
    clear hm
    go_wp2_with (first | ((with_reducible refine qK ?_); refine qC hS ?_) | ((with_reducible refine qB ?_); refine qc ?_ ?_ <;> intro h_ <;> go_prune) | ((with_reducible refine qI ?_); refine Cp hS rfl _ _ _ rfl _ rfl rfl (by assumption) Tryz.underlying22 (by kernel_rfl) (by first | assumption | omega) _ (by assumption) ?_; intro p_ hc_))
    all_goals first
     | (have hE : RES = (0, 0) := by rw [HD.out, Bj, if_pos (by omega)]
        subst hE; go_ret2; exact ⟨rfl, rfl⟩)
     | (have hE : RES = (m, k + 1) := by rw [HD.out, Bj, if_neg (by omega), if_pos (by omega), HM.out]
        subst hE; go_ret2; refine ⟨?_, rfl⟩; (first | (simp; done) | (simp; omega)))
     | exact ⟨⟨k + 1, m, hlt, by go_num, rfl, trivial, Lib.hid (by rw [HD.out, Bj, if_neg (by omega), if_neg (by omega), HM.out])⟩, by simp [intOf]; omega⟩
     | exact ⟨⟨k + 1, m, hlt, by simp; omega, rfl, trivial, Lib.hid (by rw [HD.out, Bj, if_neg (by omega), if_neg (by omega), HM.out])⟩, by simp [intOf]; omega⟩
   ·go_wp2_with (first | ((with_reducible refine qK ?_); refine qC hS ?_) | ((with_reducible refine qB ?_); refine qc ?_ ?_ <;> intro h_ <;> go_prune) | ((with_reducible refine qI ?_); refine Cp hS rfl _ _ _ rfl _ rfl rfl (by assumption) Tryz.underlying22 (by kernel_rfl) (by first | assumption | omega) _ (by assumption) ?_; intro p_ hc_))
    all_goals
     have hE : RES = (0, 0) := by rw [HD.out, Bj, if_pos (by omega)]
     subst hE; go_ret2; exact ⟨rfl, rfl⟩
  ·obtain rfl : k = left.length := by omega
   have hE : RES = (0, 0) := by rw [hR.out]; simp [Bj]
   subst hE
   go_wp2_with (first | ((with_reducible refine qK ?_); refine qC hS ?_) | ((with_reducible refine qB ?_); refine qc ?_ ?_ <;> intro h_ <;> go_prune))
   go_ret2
   exact ⟨rfl, rfl⟩
theorem sl_take {w : World} {D : Nat -> Prop} {A : Option Addr} {m c n : Nat} {xs : List Value} (h : Sl w D 1 (.slice A m c) m xs) (hn : n <= m) : Sl w D 1 (.slice A n c) n (xs.take n) := by
 obtain ⟨h1, A', c', e, h2, h3, h4⟩ := h
 injection e with e1 _ e2
 subst e1 e2
 refine ⟨by rw [List.length_take, h1]; omega, A, c, rfl, by omega, h3, fun h0 => ?_⟩
 obtain ⟨b, o, h5, h6, h7, h8⟩ := h4 (by omega)
 refine ⟨b, o, h5, h6, h7, fun j x hj => h8 j x ?_⟩
 rw [List.getElem?_take] at hj
 split at hj
 ·exact hj
 ·cases hj
theorem sl_drop {w : World} {D : Nat -> Prop} {A : Option Addr} {m c n : Nat} {xs : List Value} (h : Sl w D 1 (.slice A m c) m xs) (hn : n <= m) (hc : m <= c) : Sl w D 1 (.slice (if c = n then A else Option.map (fun x => x.add n) A) (m - n) (c - n)) (m - n) (xs.drop n) := by
 obtain ⟨h1, A', c', e, h2, h3, h4⟩ := h
 injection e with e1 _ e2
 subst e1 e2
 refine ⟨by rw [List.length_drop, h1]; omega, _, c - n, rfl, by omega, by omega, fun h0 => ?_⟩
 obtain ⟨b, o, rfl, h6, h7, h8⟩ := h4 (by omega)
 rw [if_neg (by omega)]
 refine ⟨b, o + n, by simp [Addr.add_lit], h6, h7, fun j x hj => ?_⟩
 rw [List.getElem?_drop] at hj
 have := h8 _ x hj
 rw [<- Nat.add_assoc] at this; exact this
theorem clone_n_any (p : Value) (n : Nat) (ps : List Nat) (w : World) (D : Nat -> Prop) (hp : Sl w D 1 p n (Ah ps)) (hlen : n <= 1000000000000) :
  Calls Tryz.prog 158 #[p] w (AE (fun x w' => Sl w' (w.heap.size <= ·) 1 x n (Ah ps)) w) := by
 have e : ps.length = n := by have := hp.1; simpa [Ah] using this
 subst e
 exact F3 p ps w D hp hlen
theorem u8s_take (l : List Nat) (n : Nat) : Ah (l.take n) = (Ah l).take n := by simp [Ah, List.map_take]
theorem u8s_drop (l : List Nat) (n : Nat) : Ah (l.drop n) = (Ah l).drop n := by simp [Ah, List.map_drop]
theorem DL {w0 w : World} {X : List Ae} {K : (Nat -> Prop) -> World -> Prop} {q : Nat} {left : List Nat} {err : Int} (n : Nat) (hn : n <= left.length) (hl : left.length <= 1000000000000) (h : Rd w0 w X K q left err) :
  Calls Tryz.prog 170 #[.pointer (some ⟨q, 0, none⟩), .int .i64 n] w fun r w' => ∃ v, r = .returned v /\ Rd w0 w' X (fun D w => K D w /\ Sl w D 1 v n (Ah (left.take n))) q (left.drop n) err := by
 obtain ⟨hK, A, c, l1, l2, hS⟩ := h
 have HK := Lib.hid hK
 clear hK
 go_enter Tryz.func170, Tryz.ntmps170
 go_wp2_with (first | ((with_reducible refine qK ?_); refine qC hS ?_))
 have hs : ∀ D w, (K D w /\ Sl w D 1 (.slice A left.length c) left.length (Ah left)) -> Sl w D 1 (.slice A n c) n (Ah (left.take n)) := fun D w h => by
  rw [u8s_take]; exact sl_take h.2 hn
 refine (clone_n_any _ n (left.take n) _ _ (hs _ _ hS.ro) (by omega)).mono ?_
 rintro r w2 ⟨v, rfl, h2, hb2⟩
 replace hS := hS.ret hb2 Ab h2
 go_wp2_with (first | ((with_reducible refine qK ?_); refine qC hS ?_) | ((with_reducible refine qM ?_); (first | refine qS hS ?_ | refine qT hS ?_); clear hS; intro w_ hS; (try simp only [Act.put, Act.eval, zz, Value.cells] at hS)))
 all_goals
  go_ret
  exact ⟨_, rfl, HK.out.and Ab, _, c - n, by rw [List.length_drop]; omega, by omega, by
   rw [show (left.drop n).length = left.length - n from List.length_drop ..]
   exact hS.mono ((HK.out.and Ab).and Ab) fun D w h => ⟨⟨h.1.1, h.2⟩, by rw [u8s_drop]; exact sl_drop h.1.2 hn l1⟩⟩
end
section
open Go.RowKit
attribute [local go_sem ↓] Go.wp_at_zero Go.wp_at_succ
set_option maxRecDepth 20000
theorem Rd.weak {w0 w : World} {X : List Ae} {K K' : (Nat -> Prop) -> World -> Prop} {q : Nat} {left : List Nat} {err : Int} (h : Rd w0 w X K q left err) (hs : AB K') (hk : ∀ D w, K D w -> K' D w) : Rd w0 w X K' q left err := by
 obtain ⟨_, A, c, l1, l2, hS⟩ := h
 exact ⟨hs, A, c, l1, l2, hS.mono (hs.and Ab) fun D w h => ⟨hk D w h.1, h.2⟩⟩
def AY (most : Nat) (left : List Nat) (err : Int) : Nat × List Nat × Int :=
 if err = 0 then
  if (Bj left 0 0).2 = 0 then (0, left, 6) else if most < (Bj left 0 0).1 then (0, left, 2) else ((Bj left 0 0).1, left.drop (Bj left 0 0).2, 0)
 else (0, left, err)
theorem ruint_any {w0 w : World} {X : List Ae} {K : (Nat -> Prop) -> World -> Prop} {q : Nat} {left : List Nat} {err : Int} (most : Nat) (hl : left.length <= 1000000000000) (hb : Ao left) (hR : Rd w0 w X K q left err) :
  Calls Tryz.prog 172 #[.pointer (some ⟨q, 0, none⟩), .int .u64 most] w fun r w' => r = .returned (.int .u64 (AY most left err).1) /\ Rd w0 w' X K q (AY most left err).2.1 (AY most left err).2.2 := by
 have HK := Lib.hid hR.1
 go_enter Tryz.func172, Tryz.ntmps172
 by_cases h0 : err = 0
 ·subst h0
  have HE := Lib.hid (show AY most left 0 = if (Bj left 0 0).2 = 0 then (0, left, 6) else if most < (Bj left 0 0).1 then (0, left, 2) else ((Bj left 0 0).1, left.drop (Bj left 0 0).2, 0) from rfl)
  generalize AY most left 0 = RES at *
  have hn := (numR_lt left 0 0 (by decide) hb).2
  have HN := Lib.hid (@Ff w0 w X K q left 0 hl hb hR)
  generalize Bj left 0 0 = V at *
  obtain ⟨v, n⟩ := V
  dsimp only at hn HN HE
  go_wp2_with (first | ((with_reducible refine qB ?_); refine qc ?_ ?_ <;> intro h_ <;> go_prune) | (go_at_call 168; refine (Bl _ _ _ hR.errc).mono ?_; rintro r_ w_ ⟨rfl, rfl⟩) | (go_at_call 169; refine (D6 _ _ hR).mono ?_; clear hR; rintro r_ w_ ⟨rfl, hR⟩) | (go_at_call 171; refine HN.out.mono ?_; rintro r_ w_ ⟨rfl, rfl⟩))
  ·have hE : RES = (0, left, 6) := by rw [HE.out, if_pos (by omega)]
   subst hE; go_ret; exact ⟨rfl, hR⟩
  ·have hE : RES = (0, left, 2) := by rw [HE.out, if_neg (by omega), if_pos (by omega)]
   subst hE; go_ret; exact ⟨rfl, hR⟩
  ·refine (DL n (by omega) hl hR).mono ?_
   rintro r w2 ⟨v2, rfl, hR2⟩
   go_wp2_with fail
   have hE : RES = (v, left.drop n, 0) := by rw [HE.out, if_neg (by omega), if_neg (by omega)]
   subst hE; go_ret; exact ⟨rfl, hR2.weak HK.out fun _ _ h => h.1⟩
 ·have hd : decide (err = 0) = false := by simpa using h0
  have HE := Lib.hid (show AY most left err = (0, left, err) by rw [AY, if_neg h0])
  go_wp2_with (go_at_call 168; refine (Bl _ _ _ hR.errc).mono ?_; rw [hd]; rintro r_ w_ ⟨rfl, rfl⟩)
  rw [HE.out]
  go_ret
  exact ⟨rfl, hR⟩
theorem rnumberm_any {w0 w : World} {X : List Ae} {K : (Nat -> Prop) -> World -> Prop} {q : Nat} {left : List Nat} {err : Int} (most : Nat) (hm : most <= 1000000000000) (hl : left.length <= 1000000000000) (hb : Ao left) (hR : Rd w0 w X K q left err) :
  Calls Tryz.prog 119 #[.pointer (some ⟨q, 0, none⟩), .int .i64 most] w fun r w' => r = .returned (.int .i64 (AY most left err).1) /\ Rd w0 w' X K q (AY most left err).2.1 (AY most left err).2.2 := by
 have hle : (AY most left err).1 <= most := by
  unfold AY
  split
  ·split
   ·simp
   ·split
    ·simp
    ·simp; omega
  ·simp
 have hw := CH (m := most) (by unfold AC; omega)
 have hw2 := De (m := (AY most left err).1) (by omega)
 go_enter Tryz.func119, Tryz.ntmps119
 by_cases h0 : err = 0
 ·subst h0
  go_wp2_with (first | ((with_reducible refine qB ?_); refine qc ?_ ?_ <;> intro h_ <;> go_prune) | (go_at_call 168; refine (Bl _ _ _ hR.errc).mono ?_; rintro r_ w_ ⟨rfl, rfl⟩) | (go_at_call 169; refine (D6 _ _ hR).mono ?_; clear hR; rintro r_ w_ ⟨rfl, hR⟩))
  refine (ruint_any most hl hb hR).mono ?_
  rintro r w2 ⟨rfl, hR2⟩
  have HR := Lib.hid hR2
  clear hR2
  have hr : refuseE false 1 0 = 0 := rfl
  rw [hr] at *
  generalize hv : (AY most left 0).1 = v at *
  have HV := Lib.hid hv
  clear hv
  go_wp2_with fail
  go_ret
  exact ⟨by simp [HV.out], HR.out⟩
 ·have hd : decide (err = 0) = false := by simpa using h0
  have HE := Lib.hid (show AY most left err = (0, left, err) by rw [AY, if_neg h0])
  go_wp2_with (go_at_call 168; refine (Bl _ _ _ hR.errc).mono ?_; rw [hd]; rintro r_ w_ ⟨rfl, rfl⟩)
  rw [HE.out]
  go_ret
  exact ⟨rfl, hR⟩
def Bc (most : Nat) (left : List Nat) (err : Int) : Nat × List Nat × Int :=
 if err = 0 then
  if (Bj left 0 0).2 = 0 then (0, left, 6) else if most < (Bj left 0 0).1 then (0, left, 3) else ((Bj left 0 0).1, left.drop (Bj left 0 0).2, 0)
 else (0, left, err)
theorem Jt {w0 w : World} {X : List Ae} {K : (Nat -> Prop) -> World -> Prop} {q : Nat} {left : List Nat} {err : Int} (most : Nat) (hm : most <= 1000000000000) (hl : left.length <= 1000000000000) (hb : Ao left) (hR : Rd w0 w X K q left err) :
  Calls Tryz.prog 118 #[.pointer (some ⟨q, 0, none⟩), .int .i64 most] w fun r w' => r = .returned (.int .i64 (Bc most left err).1) /\ Rd w0 w' X K q (Bc most left err).2.1 (Bc most left err).2.2 := by
 have HK := Lib.hid hR.1
 have hw := CH (m := most) (by unfold AC; omega)
 go_enter Tryz.func118, Tryz.ntmps118
 by_cases h0 : err = 0
 ·subst h0
  have HE := Lib.hid (show Bc most left 0 = if (Bj left 0 0).2 = 0 then (0, left, 6) else if most < (Bj left 0 0).1 then (0, left, 3) else ((Bj left 0 0).1, left.drop (Bj left 0 0).2, 0) from rfl)
  generalize Bc most left 0 = RES at *
  have hn := (numR_lt left 0 0 (by decide) hb).2
  have HN := Lib.hid fun (w : World) (h : Rd w0 w X K q left 0) => Ff (w := w) hl hb h
  generalize Bj left 0 0 = V at *
  obtain ⟨v, n⟩ := V
  dsimp only at hn HN HE
  go_wp2_with (first | ((with_reducible refine qB ?_); refine qc ?_ ?_ <;> intro h_ <;> go_prune) | (go_at_call 168; refine (Bl _ _ _ hR.errc).mono ?_; rintro r_ w_ ⟨rfl, rfl⟩) | (go_at_call 169; refine (D6 _ _ hR).mono ?_; clear hR; rintro r_ w_ ⟨rfl, hR⟩) | (go_at_call 171; refine (HN.out _ hR).mono ?_; rintro r_ w_ ⟨rfl, rfl⟩))
  ·have hE : RES = (0, left, 6) := by rw [HE.out, if_pos (by omega)]
   subst hE; go_ret; exact ⟨rfl, hR⟩
  ·have hE : RES = (0, left, 3) := by rw [HE.out, if_neg (by omega), if_pos (by omega)]
   subst hE; go_ret; exact ⟨rfl, hR⟩
  ·have hw2 := De (m := v) (by omega)
   refine (DL n (by omega) hl hR).mono ?_
   rintro r w2 ⟨v2, rfl, hR2⟩
   go_wp2_with fail
   have hE : RES = (v, left.drop n, 0) := by rw [HE.out, if_neg (by omega), if_neg (by omega)]
   subst hE; go_ret; exact ⟨by simp, hR2.weak HK.out fun _ _ h => h.1⟩
 ·have hd : decide (err = 0) = false := by simpa using h0
  have HE := Lib.hid (show Bc most left err = (0, left, err) by rw [Bc, if_neg h0])
  go_wp2_with (go_at_call 168; refine (Bl _ _ _ hR.errc).mono ?_; rw [hd]; rintro r_ w_ ⟨rfl, rfl⟩)
  rw [HE.out]
  go_ret
  exact ⟨rfl, hR⟩
def BS (n : Nat) (left : List Nat) (err : Int) : List Nat × List Nat × Int :=
 if err = 0 then if left.length < n then ([], left, 6) else (left.take n, left.drop n, 0) else ([], left, err)
theorem rraw_any {w0 w : World} {X : List Ae} {K : (Nat -> Prop) -> World -> Prop} {q : Nat} {left : List Nat} {err : Int} (n : Nat) (hl : left.length <= 1000000000000) (hR : Rd w0 w X K q left err) :
  Calls Tryz.prog 116 #[.pointer (some ⟨q, 0, none⟩), .int .i64 n] w fun r w' => ∃ v, r = .returned v /\ Rd w0 w' X (fun D w => K D w /\ Sl w D 1 v (BS n left err).1.length (Ah (BS n left err).1)) q (BS n left err).2.1 (BS n left err).2.2 := by
 have HK := Lib.hid hR.1
 have hnil : ∀ D w, K D w -> (K D w /\ Sl w D 1 (.slice none 0 0) ([] : List Nat).length (Ah [])) := fun D w h => ⟨h, Sl.none_⟩
 go_enter Tryz.func116, Tryz.ntmps116
 by_cases h0 : err = 0
 ·subst h0
  have HE := Lib.hid (show BS n left 0 = if left.length < n then ([], left, 6) else (left.take n, left.drop n, 0) from rfl)
  generalize BS n left 0 = RES at *
  go_wp2_with (first | ((with_reducible refine qB ?_); refine qc ?_ ?_ <;> intro h_ <;> go_prune) | (go_at_call 168; refine (Bl _ _ _ hR.errc).mono ?_; rintro r_ w_ ⟨rfl, rfl⟩) | (go_at_call 169; refine (D6 _ _ hR).mono ?_; clear hR; rintro r_ w_ ⟨rfl, hR⟩) | ((with_reducible refine qA 21 ?_); obtain ⟨_, A, c, l1, l2, hS⟩ := id hR; refine GD hS 0 rfl _ _ rfl _ _ rfl _ _ rfl (by decide +kernel) _ rfl ?_; clear hS))
  ·have hE : RES = ([], left, 6) := by rw [HE.out, if_pos (by omega)]
   subst hE; go_ret; exact ⟨_, rfl, hR.weak (HK.out.and Ab) hnil⟩
  ·refine (DL n (by omega) hl hR).mono ?_
   rintro r w2 ⟨v2, rfl, hR2⟩
   go_wp2_with fail
   have hE : RES = (left.take n, left.drop n, 0) := by rw [HE.out, if_neg (by omega)]
   subst hE; go_ret
   refine ⟨_, rfl, hR2.weak (HK.out.and Ab) fun D w h => ⟨h.1, ?_⟩⟩
   rw [show (left.take n).length = n by rw [List.length_take]; omega]
   exact h.2
 ·have hd : decide (err = 0) = false := by simpa using h0
  have HE := Lib.hid (show BS n left err = ([], left, err) by rw [BS, if_neg h0])
  go_wp2_with (go_at_call 168; refine (Bl _ _ _ hR.errc).mono ?_; rw [hd]; rintro r_ w_ ⟨rfl, rfl⟩)
  rw [HE.out]
  go_ret
  exact ⟨_, rfl, hR.weak (HK.out.and Ab) hnil⟩
def BP (left : List Nat) (err : Int) : Bool × List Nat × Int :=
 if err = 0 then (match left with
  | [] => (false, [], 6)
  | b :: r => if 1 < b then (false, b :: r, 6) else (b == 1, r, 0)) else (false, left, err)
theorem rflag_any {w0 w : World} {X : List Ae} {K : (Nat -> Prop) -> World -> Prop} {q : Nat} {left : List Nat} {err : Int} (hl : left.length <= 1000000000000) (hb : Ao left) (hR : Rd w0 w X K q left err) :
  Calls Tryz.prog 117 #[.pointer (some ⟨q, 0, none⟩)] w fun r w' => r = .returned (.bool (BP left err).1) /\ Rd w0 w' X K q (BP left err).2.1 (BP left err).2.2 := by
 have HK := Lib.hid hR.1
 by_cases h0 : err = 0
 ·subst h0
  cases left with
  | nil =>
   have HE := Lib.hid (show BP [] 0 = (false, [], 6) from rfl)
   obtain ⟨_, A, c, l1, l2, hS⟩ := id hR
   generalize BP [] 0 = RES at *
   go_enter Tryz.func117, Tryz.ntmps117
   go_wp2_with (first | ((with_reducible refine qK ?_); refine qC hS ?_) | ((with_reducible refine qB ?_); refine qc ?_ ?_ <;> intro h_ <;> go_prune) | (go_at_call 168; refine (Bl _ _ _ hR.errc).mono ?_; rintro r_ w_ ⟨rfl, rfl⟩) | (go_at_call 169; refine (D6 _ _ hR).mono ?_; clear hR; rintro r_ w_ ⟨rfl, hR⟩))
   have hE := HE.out
   subst hE; go_ret; exact ⟨rfl, hR⟩
  | cons b rest =>
   have HE := Lib.hid (show BP (b :: rest) 0 = if 1 < b then (false, b :: rest, 6) else (b == 1, rest, 0) from rfl)
   obtain ⟨_, A, c, l1, l2, hS⟩ := id hR
   generalize BP (b :: rest) 0 = RES at *
   have f1 : (Ah (b :: rest))[0]? = some (.int .u8 (b : Nat)) := rfl
   have f2 : (Ah ((b :: rest).take 1))[0]? = some (.int .u8 (b : Nat)) := rfl
   have hlen : 1 <= (b :: rest).length := by simp
   go_enter Tryz.func117, Tryz.ntmps117
   go_wp2_with (first
    | ((with_reducible refine qK ?_); refine qC hS ?_)
    | ((with_reducible refine qB ?_); refine qc ?_ ?_ <;> intro h_ <;> go_prune)
    | (go_at_call 168; refine (Bl _ _ _ hR.errc).mono ?_; rintro r_ w_ ⟨rfl, rfl⟩)
    | (go_at_call 169; refine (D6 _ _ hR).mono ?_; clear hR; rintro r_ w_ ⟨rfl, hR⟩)
    | ((with_reducible refine qA 19 ?_); refine Cp (k := 0) hS rfl _ _ _ rfl _ rfl rfl (fun _ _ h => h.2) Tryz.underlying22 (by kernel_rfl) hlen _ f1 ?_; intro p_ hc_))
   ·have hE : RES = (false, b :: rest, 6) := by rw [HE.out, if_pos (by omega)]
    subst hE; go_ret; exact ⟨rfl, hR⟩
   ·refine (DL 1 hlen hl hR).mono ?_
    rintro r w2 ⟨v2, rfl, hR2⟩
    obtain ⟨_, A2, c2, _, _, hS2⟩ := id hR2
    obtain ⟨A3, c3, rfl, _, _⟩ := hS2.ro.1.2.shape
    go_wp2_with (first
     | ((with_reducible refine qB ?_); refine qc ?_ ?_ <;> intro h_ <;> go_prune)
     | ((with_reducible refine qA 28 ?_); refine Cp (k := 0) hS2 rfl _ _ _ rfl _ rfl rfl (fun _ _ h => h.1.2) Tryz.underlying22 (by kernel_rfl) (by decide) _ f2 ?_; intro p2_ hc2_))
    ·have hE : RES = (true, rest, 0) := by rw [HE.out, if_neg (by omega), show (b == 1) = true by simp; omega]
     subst hE; go_ret; exact ⟨rfl, hR2.weak HK.out fun _ _ h => h.1⟩
    ·have hE : RES = (false, rest, 0) := by rw [HE.out, if_neg (by omega), show (b == 1) = false by simp; omega]
     subst hE; go_ret; exact ⟨rfl, hR2.weak HK.out fun _ _ h => h.1⟩
 ·have hd : decide (err = 0) = false := by simpa using h0
  have HE := Lib.hid (show BP left err = (false, left, err) by unfold BP; rw [if_neg h0])
  go_enter Tryz.func117, Tryz.ntmps117
  go_wp2_with (go_at_call 168; refine (Bl _ _ _ hR.errc).mono ?_; rw [hd]; rintro r_ w_ ⟨rfl, rfl⟩)
  rw [HE.out]
  go_ret
  exact ⟨rfl, hR⟩
end
section
open Go.RowKit
attribute [local go_sem ↓] Go.wp_at_zero Go.wp_at_succ
set_option maxRecDepth 20000
theorem rerr_any (q : Nat) (err : Int) (w : World) (hc : w.cell? ⟨q, 1, none⟩ = some (.int .i64 err)) :
  Calls Tryz.prog 176 #[.pointer (some ⟨q, 0, none⟩)] w fun e w' => e = .returned (.int .i64 err) /\ w = w' := by
 go_enter Tryz.func176, Tryz.ntmps176
 go_wp2_with fail
 go_ret
 exact ⟨rfl, rfl⟩
def endE (left : List Nat) (err : Int) : Int := if err = 0 /\ left ≠ [] then 6 else err
theorem rend_any {w0 w : World} {X : List Ae} {K : (Nat -> Prop) -> World -> Prop} {q : Nat} {left : List Nat} {err : Int} (hR : Rd w0 w X K q left err) :
  Calls Tryz.prog 121 #[.pointer (some ⟨q, 0, none⟩)] w fun e w' => e = .returned (.int .i64 (endE left err)) /\ w = w' := by
 obtain ⟨_, A, c, l1, l2, hS⟩ := id hR
 go_enter Tryz.func121, Tryz.ntmps121
 by_cases h0 : err = 0
 ·subst h0
  go_wp2_with (first | ((with_reducible refine qK ?_); refine qC hS ?_) | ((with_reducible refine qB ?_); refine qc ?_ ?_ <;> intro h_ <;> go_prune) | (go_at_call 168; refine (Bl _ _ _ hR.errc).mono ?_; rintro r_ w_ ⟨rfl, rfl⟩) | (go_at_call 176; refine (rerr_any _ _ _ hR.errc).mono ?_; rintro r_ w_ ⟨rfl, rfl⟩))
  ·have hE : endE left 0 = 6 := by
    unfold endE; rw [if_pos]; refine ⟨rfl, fun e => ?_⟩; subst e; simp at h_
   rw [hE]; go_ret; exact ⟨rfl, rfl⟩
  ·have hE : endE left 0 = 0 := by
    unfold endE; rw [if_neg]; rintro ⟨_, h⟩; exact h (List.eq_nil_of_length_eq_zero (by omega))
   rw [hE]; go_ret; exact ⟨rfl, rfl⟩
 ·have hd : decide (err = 0) = false := by simpa using h0
  have HE := Lib.hid (show endE left err = err by unfold endE; rw [if_neg]; rintro ⟨h, _⟩; exact h0 h)
  go_wp2_with (first | (go_at_call 168; refine (Bl _ _ _ hR.errc).mono ?_; rw [hd]; rintro r_ w_ ⟨rfl, rfl⟩) | (go_at_call 176; refine (rerr_any _ _ _ hR.errc).mono ?_; rintro r_ w_ ⟨rfl, rfl⟩))
  rw [HE.out]
  go_ret
  exact ⟨rfl, rfl⟩
theorem rnew_any {w0 w : World} {F : List Ae} {K : (Nat -> Prop) -> World -> Prop} (p : Value) (ps : List Nat) (hl : ps.length <= 1000000000000) {D : Nat -> Prop} (hS : St w0 w F K) (hp : Sl w D 1 p ps.length (Ah ps)) :
  Calls Tryz.prog 115 #[p] w fun r w' => ∃ q, r = .returned (.pointer (some ⟨q, 0, none⟩)) /\ Rd w0 w' F K q ps 0 := by
 obtain ⟨A, c, rfl, _, _⟩ := hp.shape
 have HC := Lib.hid (F3 _ ps w _ hp hl)
 have HK := Lib.hid hS.stable
 clear hp
 go_enter Tryz.func115, Tryz.ntmps115
 go_wp2_with fail
 refine HC.out.mono ?_
 rintro r w2 ⟨v, rfl, h2, hb2⟩
 obtain ⟨A2, c2, rfl, l1, l2⟩ := h2.shape
 replace hS := hS.ret hb2 Ab h2
 go_wp2_with (first
  | ((with_reducible show wpList _ _ _ (⟨_, .build _ _, _, _, _, _⟩ :: _) _ _); refine At rfl _ _ rfl #[.slice A2 ps.length c2, .int .i64 0] (by kernel_rfl) ?_)
  | ((with_reducible refine qA 6 ?_); refine AU hS rfl _ _ rfl (.agg #[.slice A2 ps.length c2, .int .i64 0]) _ rfl rfl ?_; clear hS; intro q w_ hS; (try simp only [Act.put, Act.eval, zz, Value.cells] at hS)))
 go_ret
 exact ⟨_, rfl, HK.out, A2, c2, l1, by unfold maxLen; omega, hS⟩
def AL (most : Nat) (left : List Nat) (err : Int) : List Nat × List Nat × Int :=
 if err = 0 then
  if (Bj left 0 0).2 = 0 then ([], left, 6) else if most < (Bj left 0 0).1 then ([], left, 3)
  else if left.length - (Bj left 0 0).2 < (Bj left 0 0).1 then ([], left, 6)
  else ((left.drop (Bj left 0 0).2).take (Bj left 0 0).1, (left.drop (Bj left 0 0).2).drop (Bj left 0 0).1, 0)
 else ([], left, err)
theorem rbytes_any {w0 w : World} {X : List Ae} {K : (Nat -> Prop) -> World -> Prop} {q : Nat} {left : List Nat} {err : Int} (most : Nat) (hm : most <= 1000000000000) (hl : left.length <= 1000000000000) (hb : Ao left) (hR : Rd w0 w X K q left err) :
  Calls Tryz.prog 174 #[.pointer (some ⟨q, 0, none⟩), .int .i64 most] w fun r w' => ∃ v, r = .returned v /\ Rd w0 w' X (fun D w => K D w /\ Sl w D 1 v (AL most left err).1.length (Ah (AL most left err).1)) q (AL most left err).2.1 (AL most left err).2.2 := by
 have HK := Lib.hid hR.1
 have hnil : ∀ D w, K D w -> (K D w /\ Sl w D 1 (.slice none 0 0) ([] : List Nat).length (Ah [])) := fun D w h => ⟨h, Sl.none_⟩
 have hw := CH (m := most) (by unfold AC; omega)
 go_enter Tryz.func174, Tryz.ntmps174
 by_cases h0 : err = 0
 ·subst h0
  have HE := Lib.hid (show AL most left 0 = if (Bj left 0 0).2 = 0 then ([], left, 6) else if most < (Bj left 0 0).1 then ([], left, 3)
   else if left.length - (Bj left 0 0).2 < (Bj left 0 0).1 then ([], left, 6)
   else ((left.drop (Bj left 0 0).2).take (Bj left 0 0).1, (left.drop (Bj left 0 0).2).drop (Bj left 0 0).1, 0) from rfl)
  generalize AL most left 0 = RES at *
  have hn := (numR_lt left 0 0 (by decide) hb).2
  have HN := Lib.hid fun (w : World) (h : Rd w0 w X K q left 0) => Ff (w := w) hl hb h
  generalize Bj left 0 0 = V at *
  obtain ⟨v, n⟩ := V
  dsimp only at hn HN HE
  have hsub : IntKind.i64.wrap ((left.length : Int) - n) = (left.length : Int) - n := by rw [IntKind.wrap_i64]; omega
  have hsub2 : IntKind.u64.wrap ((left.length : Int) - n) = (left.length : Int) - n := by rw [IntKind.wrap_u64]; omega
  go_wp2_with (first
   | ((with_reducible refine qB ?_); refine qc ?_ ?_ <;> intro h_ <;> go_prune)
   | (go_at_call 168; refine (Bl _ _ _ hR.errc).mono ?_; rintro r_ w_ ⟨rfl, rfl⟩)
   | (go_at_call 169; refine (D6 _ _ hR).mono ?_; clear hR; rintro r_ w_ ⟨rfl, hR⟩)
   | (go_at_call 171; refine (HN.out _ hR).mono ?_; rintro r_ w_ ⟨rfl, rfl⟩)
   | ((with_reducible refine qA 42 ?_); obtain ⟨_, A, c, l1, l2, hS⟩ := id hR; refine GD hS 0 rfl _ _ rfl _ _ rfl _ _ rfl (by decide +kernel) _ rfl ?_; clear hS))
  ·have hE : RES = ([], left, 6) := by rw [HE.out, if_pos (by omega)]
   subst hE; go_ret; exact ⟨_, rfl, hR.weak (HK.out.and Ab) hnil⟩
  ·have hE : RES = ([], left, 3) := by rw [HE.out, if_neg (by omega), if_pos (by omega)]
   subst hE; go_ret; exact ⟨_, rfl, hR.weak (HK.out.and Ab) hnil⟩
  ·have hE : RES = ([], left, 6) := by rw [HE.out, if_neg (by omega), if_neg (by omega), if_pos (by omega)]
   subst hE; go_ret; exact ⟨_, rfl, hR.weak (HK.out.and Ab) hnil⟩
  ·have hE : RES = ((left.drop n).take v, (left.drop n).drop v, 0) := by rw [HE.out, if_neg (by omega), if_neg (by omega), if_neg (by omega)]
   have hw2 := De (m := v) (by omega)
   have hle : v <= (left.drop n).length := by rw [List.length_drop]; omega
   have hl2 : (left.drop n).length <= 1000000000000 := by rw [List.length_drop]; omega
   refine (DL n (by omega) hl hR).mono ?_
   rintro r w2 ⟨v2, rfl, hR2⟩
   replace hR2 := hR2.weak HK.out fun _ _ h => h.1
   go_wp2_with fail
   refine (DL v hle hl2 hR2).mono ?_
   rintro r w3 ⟨v3, rfl, hR3⟩
   go_wp2_with fail
   subst hE; go_ret
   refine ⟨_, rfl, hR3.weak (HK.out.and Ab) fun D w h => ⟨h.1, ?_⟩⟩
   rw [show ((left.drop n).take v).length = v by rw [List.length_take]; omega]
   exact h.2
 ·have hd : decide (err = 0) = false := by simpa using h0
  have HE := Lib.hid (show AL most left err = ([], left, err) by rw [AL, if_neg h0])
  go_wp2_with (go_at_call 168; refine (Bl _ _ _ hR.errc).mono ?_; rw [hd]; rintro r_ w_ ⟨rfl, rfl⟩)
  rw [HE.out]
  go_ret
  exact ⟨_, rfl, hR.weak (HK.out.and Ab) hnil⟩
end
section
open Go.RowKit
attribute [local go_sem ↓] Go.wp_at_zero Go.wp_at_succ
set_option maxRecDepth 20000
def Dj : List Nat -> Nat
 | [] => 0
 | x :: r => x + 256 * Dj r
theorem valB_lt {l : List Nat} (h : Ao l) : Dj l < 2 ^ (8 * l.length) := by
 induction l with
 | nil => simp [Dj]
 | cons x r ih =>
  have h1 := ih fun y hy => h y (by simp [hy])
  have h2 := h x (by simp)
  simp only [Dj, List.length_cons]
  rw [show 8 * (r.length + 1) = 8 * r.length + 8 by omega, Nat.pow_add]
  generalize 2 ^ (8 * r.length) = P at *
  omega
theorem I2 {l : List Nat} : ∀ {k : Nat}, k < l.length -> Dj (l.take (k + 1)) = Dj (l.take k) + l.getD k 0 * 2 ^ (8 * k) := by
 induction l with
 | nil => intro k h; simp at h
 | cons x r ih =>
  intro k h
  cases k with
  | zero => simp [Dj]
  | succ k =>
   have := ih (k := k) (by simpa using h)
   simp only [List.take_succ_cons, Dj, List.getD_cons_succ] at this ⊢
   rw [this, show 8 * (k + 1) = 8 * k + 8 by omega, Nat.pow_add, Nat.mul_add]
   generalize 2 ^ (8 * k) = P
   rw [show (2 : Nat) ^ 8 = 256 from rfl, <- Nat.add_assoc]
   congr 1
   rw [Nat.mul_left_comm, Nat.mul_comm P 256]
theorem bytes_take {l : List Nat} (h : Ao l) (k : Nat) : Ao (l.take k) := fun x hx => h x (List.mem_of_mem_take hx)
theorem val_orAt {L : List Nat} (hW : Ak L) {i y : Nat} (hi : i < L.length) (hy : y < AC) : Ak (L.set i (L.getD i 0 ||| y)) /\ Bx (L.set i (L.getD i 0 ||| y)) = Bx L ||| (y <<< (64 * i)) := by
 have hz := or_lt (hW.getD i) hy
 have hw : Ak (L.set i (L.getD i 0 ||| y)) := by
  intro x hx
  rcases List.mem_or_eq_of_mem_set hx with h | rfl
  ·exact hW x h
  ·exact hz
 refine ⟨hw, ?_⟩
 apply Nat.eq_of_testBit_eq
 intro j
 rw [AX hw, Nat.testBit_or, AX hW, Nat.testBit_shiftLeft]
 by_cases h : j / 64 = i
 ·have e : (L.set i (L.getD i 0 ||| y)).getD (j / 64) 0 = L.getD i 0 ||| y := by
   rw [h, List.getD_eq_getElem?_getD, List.getElem?_set_self hi]; rfl
  rw [e, Nat.testBit_or, h, show decide (j ≥ 64 * i) = true by simp; omega, Bool.true_and, show j - 64 * i = j % 64 by omega]
 ·have e : (L.set i (L.getD i 0 ||| y)).getD (j / 64) 0 = L.getD (j / 64) 0 := by
   rw [List.getD_eq_getElem?_getD, List.getElem?_set_ne (Ne.symm h), List.getD_eq_getElem?_getD]
  rw [e]
  by_cases h1 : j ≥ 64 * i
  ·rw [Dk hy (show 64 <= j - 64 * i by omega)]; simp
  ·simp [h1]
theorem val_byte {L : List Nat} {ps : List Nat} {k x : Nat} (hW : Ak L) (hk : k < ps.length) (hL : k / 8 < L.length) (hV : Bx L = Dj (ps.take k)) (hx : ps.getD k 0 = x) (hx8 : x < 256) (hb : Ao ps) :
  Ak (L.set (k / 8) (L.getD (k / 8) 0 ||| x * 2 ^ (8 * (k % 8)))) /\ Bx (L.set (k / 8) (L.getD (k / 8) 0 ||| x * 2 ^ (8 * (k % 8)))) = Dj (ps.take (k + 1)) := by
 have hp : (2 : Nat) ^ (8 * (k % 8)) <= 2 ^ 56 := Nat.pow_le_pow_right (by decide) (by omega)
 have hy : x * 2 ^ (8 * (k % 8)) < AC := by
  have : x * 2 ^ (8 * (k % 8)) <= 255 * 2 ^ 56 := Nat.mul_le_mul (by omega) hp
  unfold AC; omega
 obtain ⟨h1, h2⟩ := val_orAt hW hL hy
 refine ⟨h1, ?_⟩
 rw [h2, hV, I2 hk, hx]
 have hlt := valB_lt (bytes_take hb k)
 rw [List.length_take, Nat.min_eq_left (by omega)] at hlt
 have e : (x * 2 ^ (8 * (k % 8))) <<< (64 * (k / 8)) = x * 2 ^ (8 * k) := by
  rw [Nat.shiftLeft_eq, Nat.mul_assoc, <- Nat.pow_add]; congr 2; omega
 have e2 := Nat.shiftLeft_add_eq_or_of_lt hlt x
 rw [e, Nat.or_comm, Nat.add_comm, <- Nat.shiftLeft_eq]
 exact e2.symm
def Ch (ps : List Nat) : Int := if 512 < ps.length \/ (0 < ps.length /\ ps.getD (ps.length - 1) 0 = 0) then 6 else 0
theorem IJ {L ps : List Nat} (hW : Ak L) (hL : L.length = (ps.length + 7) / 8) (hV : Bx L = Dj ps) (hb : Ao ps) (h512 : ps.length <= 512) (hlast : 0 < ps.length -> ps.getD (ps.length - 1) 0 ≠ 0) : Cy L := by
 refine ⟨hW, fun x hx => ?_, by omega⟩
 have h0 : 0 < L.length := by
  cases L with
  | nil => simp at hx
  | cons => simp
 have hx' : x = L.getD (L.length - 1) 0 := by
  rw [List.getLast?_eq_getElem?] at hx
  rw [List.getD_eq_getElem?_getD, hx]; rfl
 have hp : 0 < ps.length := by omega
 have hl := hlast hp
 have hv := I2 (l := ps) (k := ps.length - 1) (by omega)
 rw [show ps.length - 1 + 1 = ps.length by omega, List.take_length] at hv
 have hlt := valB_lt hb
 rw [hx', <- C6 hW, hV, wd, Nat.shiftRight_eq_div_pow]
 have hj : 64 * (L.length - 1) <= 8 * (ps.length - 1) := by omega
 have hj2 : 8 * ps.length <= 64 * (L.length - 1) + 64 := by omega
 have hpow : 2 ^ (64 * (L.length - 1)) <= 2 ^ (8 * (ps.length - 1)) := Nat.pow_le_pow_right (by decide) hj
 have hpow2 : 2 ^ (8 * ps.length) <= 2 ^ (64 * (L.length - 1) + 64) := Nat.pow_le_pow_right (by decide) hj2
 have hge : 2 ^ (8 * (ps.length - 1)) <= Dj ps := by
  rw [hv]
  have : 1 * 2 ^ (8 * (ps.length - 1)) <= ps.getD (ps.length - 1) 0 * 2 ^ (8 * (ps.length - 1)) := Nat.mul_le_mul_right _ (by omega)
  omega
 have hdiv : Dj ps / 2 ^ (64 * (L.length - 1)) < AC := by
  rw [BT]
  apply Nat.div_lt_of_lt_mul
  rw [<- Nat.pow_add]; omega
 rw [Nat.mod_eq_of_lt hdiv]
 have hpos := Nat.two_pow_pos (64 * (L.length - 1))
 have : 0 < Dj ps / 2 ^ (64 * (L.length - 1)) := Nat.div_pos (by omega) hpos
 omega
theorem ty_u64s : Br Tryz.prog 37 26 1 8 := ⟨Tryz.underlying37, by kernel_rfl⟩
theorem words_rep (n : Nat) : Ak (List.replicate n 0) := by
 intro x hx; rw [List.mem_replicate] at hx; rw [hx.2]; simp [AC]
theorem val_rep (q : Nat) : Bx (List.replicate q 0) = 0 := by
 induction q with
 | zero => rfl
 | succ q ih => simp [List.replicate_succ, Bx, ih]
theorem shl8 {x : Nat} (hx : x < 256) (r : Nat) (h : r < 8) : IntKind.u64.wrap ((x : Int) * 2 ^ (8 * r)) = ((x * 2 ^ (8 * r) : Nat) : Int) /\ x * 2 ^ (8 * r) < AC := by
 have hp : (2 : Nat) ^ (8 * r) <= 2 ^ 56 := Nat.pow_le_pow_right (by decide) (by omega)
 have hy : x * 2 ^ (8 * r) < AC := by
  have : x * 2 ^ (8 * r) <= 255 * 2 ^ 56 := Nat.mul_le_mul (by omega) hp
  unfold AC; omega
 refine ⟨?_, hy⟩
 have e : ((x : Int) * 2 ^ (8 * r)) = ((x * 2 ^ (8 * r) : Nat) : Int) := by push_cast; rfl
 rw [e]
 exact CH hy
theorem St.put64 {w0 w : World} {F : List Ae} {K : (Nat -> Prop) -> World -> Prop} (h : St w0 w F K) (i : Nat) {g n cap : Nat} {e : TypeId} {L : List Nat} (hi : F[i]? = some (.own (.slice (some ⟨g, 0, none⟩) n cap) e 1 n (AA L))) (k z : Nat) :
  St w0 (w.setCell ⟨g, k, none⟩ (.int .u64 (z : Nat))).drew (F.set i (.own (.slice (some ⟨g, 0, none⟩) n cap) e 1 n (AA (L.set k z)))) K :=
 (h.upd i hi (.own (.slice (some ⟨g, 0, none⟩) n cap) e 1 n (AA (L.set k z))) ((h.own i hi).stored k (.int .u64 (z : Nat))).2 (J1 (h.own i hi) (Below.refl _ _)) fun _ e => .inl e).drew
theorem Ew {P : Program} {fn : Func} {p t2 : Tmp} {ty : TypeId} {R : Ending -> World -> Prop} {a : Act} {w : World} {g : Nat} {t : TypeId} {cs : Array Value} {d : TypeDesc} {v : Value} (h : fn.results = #[.cell p ty, .tmp t2]) (hp : a.eval (.tmp p) = .pointer (some ⟨g, 0, none⟩)) (hb : AP w g t cs)
  (hu : P.underlying ty = some d) (hd : (match d with | .struct _ | .array _ _ => true | _ => false) = true) (hi : (P.info? ty).map (·.size) = some cs.size) (hv : a.eval (.tmp t2) = v) (hdf : a.defers = []) (hR : R (.returned (.tuple #[.agg cs, v])) w) : bodyPost P fn R .ret a w := by
 have hr : (results fn a.tmps).run P w = .ok (.tuple #[.agg cs, v]) w := by
  have hp' : a.tmps[p]?.getD undef = .pointer (some ⟨g, 0, none⟩) := by simpa [Act.eval] using hp
  have hv' : a.tmps[t2]?.getD undef = v := by simpa [Act.eval] using hv
  simp [results, h, hp', hv', asAddr, run_loadVar_row w g t ty cs (0, 0) d hb hu hd hi]
 exact bodyPost_ret hr hdf hR
theorem sread_any (p : Value) (ps : List Nat) (hb : Ao ps) (w0 : World) (D : Nat -> Prop) (hp : Sl w0 D 1 p ps.length (Ah ps)) (hl : ps.length <= 1000000000000) :
  Calls Tryz.prog 173 #[p] w0 (AE (fun x w' => ∃ s, x = .tuple #[s, .int .i64 (Ch ps)] /\ Aa w' (w0.heap.size <= ·) s (if Ch ps = 0 then Dj ps else 0)) w0) := by
 obtain ⟨A, c, rfl, _, _⟩ := hp.shape
 obtain ⟨K, k1, hS⟩ : ∃ K : (Nat -> Prop) -> World -> Prop, (∀ D w, K D w -> Sl w D 1 (.slice A ps.length c) ps.length (Ah ps)) /\ St w0 w0 [] K := ⟨_, fun _ _ h => h, St.start Ab hp⟩
 clear hp
 have HB := Lib.hid hb
 have HE0 := Lib.hid (fun h1 : 512 < ps.length => show Ch ps = 6 by unfold Ch; rw [if_pos (.inl h1)])
 have HE1 := Lib.hid (fun h2 : 0 < ps.length /\ ps.getD (ps.length - 1) 0 = 0 => show Ch ps = 6 by unfold Ch; rw [if_pos (.inr h2)])
 have HE2 := Lib.hid (fun (h1 : ¬ 512 < ps.length) (h2 : ¬ (0 < ps.length /\ ps.getD (ps.length - 1) 0 = 0)) => show Ch ps = 0 by unfold Ch; rw [if_neg]; rintro (h | h); exact h1 h; exact h2 h)
 generalize Ch ps = RES at *
 go_enter Tryz.func173, Tryz.ntmps173
 by_cases h1 : 512 < ps.length
 ·have hE := HE0.out h1
  subst hE
  clear HE0 HE1 HE2
  go_wp2_with (first
   | ((with_reducible refine qA 2 ?_); refine qa hS #[.slice none 0 0] ?_; clear hS; intro g2 w_ hS)
   | ((with_reducible refine qM ?_); (first | refine qS hS ?_ | refine qT hS ?_); clear hS; intro w_ hS; (try simp only [Act.put, Act.eval, zz, Value.cells] at hS))
   | ((with_reducible show wpList _ _ _ (⟨_, .build _ _, _, _, _, _⟩ :: _) _ _); refine At rfl _ _ rfl #[.slice none 0 0] (by kernel_rfl) ?_))
  refine Ew Tryz.results173 rfl (hS.box 0 rfl) Tryz.underlying39 rfl (by kernel_rfl) rfl rfl ?_
  exact AE.mk ⟨_, rfl, Aa.empty⟩ hS.below
 have HE1' := Lib.hid (fun h2 : 0 < ps.length /\ ps.getD (ps.length - 1) 0 = 0 => HE1.out h2)
 obtain ⟨n8, hn8⟩ : ∃ n8, n8 = (ps.length + 7) / 8 := ⟨_, rfl⟩
 have hti : ((ps.length : Int) + 7) / 8 = n8 := by omega
 have hn64 : n8 <= 64 := by omega
 have HN := Lib.hid hn8
 clear hn8
 by_cases h0 : 0 < ps.length
 ·have hidx : (Value.int .i64 ((ps.length : Int) - 1)) = .int .i64 ((ps.length - 1 : Nat) : Int) := by congr 1; omega
  have f1 : (Ah ps)[ps.length - 1]? = some (.int .u8 (ps.getD (ps.length - 1) 0 : Nat)) := Ce ps _ (by omega)
  have HL := Lib.hid (Eq.refl (ps.getD (ps.length - 1) 0))
  generalize hgx : ps.getD (ps.length - 1) 0 = x at *
  by_cases hx : x = 0
  ·have hE := HE1.out ⟨h0, hx⟩
   subst hE; subst hx
   clear HE0 HE1 HE1' HE2 hti
   go_wp2_with (first
    | ((with_reducible refine qA 2 ?_); refine qa hS #[.slice none 0 0] ?_; clear hS; intro g2 w_ hS)
    | ((with_reducible refine qM ?_); (first | refine qS hS ?_ | refine qT hS ?_); clear hS; intro w_ hS; (try simp only [Act.put, Act.eval, zz, Value.cells] at hS))
    | ((with_reducible refine qI ?_); refine Cp hS rfl _ _ _ rfl _ rfl hidx k1 Tryz.underlying22 (by kernel_rfl) (by omega) _ f1 ?_; intro p_ hc_)
    | ((with_reducible show wpList _ _ _ (⟨_, .build _ _, _, _, _, _⟩ :: _) _ _); refine At rfl _ _ rfl #[.slice none 0 0] (by kernel_rfl) ?_))
   refine Ew Tryz.results173 rfl (hS.box 0 rfl) Tryz.underlying39 rfl (by kernel_rfl) rfl rfl ?_
   exact AE.mk ⟨_, rfl, Aa.empty⟩ hS.below
  ·have hE := HE2.out h1 (fun h => hx h.2)
   subst hE
   clear HE0 HE1 HE1' HE2
   have HLast := Lib.hid (show 0 < ps.length -> ps.getD (ps.length - 1) 0 ≠ 0 from fun _ => by rw [hgx]; exact hx)
   go_wp2_with (first
    | ((with_reducible refine qA 2 ?_); refine qa hS #[.slice none 0 0] ?_; clear hS; intro g2 w_ hS)
    | ((with_reducible refine qB ?_); refine qc ?_ ?_ <;> intro h_ <;> go_prune)
    | ((with_reducible refine qI ?_); refine Cp hS rfl _ _ _ rfl _ rfl hidx k1 Tryz.underlying22 (by kernel_rfl) (by omega) _ f1 ?_; intro p_ hc_)
    | ((with_reducible show wpList _ _ _ (⟨_, .makeSlice _ _ _, _, _, _, _⟩ :: _) _ _); refine st_mk hS rfl _ _ _ rfl ty_u64s .i64 .i64 n8 #[.int .u64 0] (congrArg (Value.int .i64) hti) (congrArg (Value.int .i64) hti) (by kernel_rfl) (by omega) (by omega) ?_; clear hS; intro g4 w4 hS))
   have hzz : (madeCells #[Value.int .u64 0] (n8 * 1)).toList = AA (List.replicate n8 0) := by rw [Nat.mul_one, Cr]
   rw [hzz] at hS
   clear hti hzz
   go_loopw [32] (fun i wr => ∃ (k : Nat) (L : List Nat), k <= ps.length /\ i = .int .i64 k /\ L.length = n8 /\ Ak L /\ Bx L = Dj (ps.take k) /\ St w0 wr [.own (.slice (some ⟨g4, 0, none⟩) n8 n8) 26 1 n8 (AA L), .box g2 39 #[.slice none 0 0]] K) (fun i _ => ps.length - (intOf i).toNat)
   case atStart => exact ⟨0, List.replicate n8 0, by omega, rfl, by simp, words_rep _, by rw [val_rep]; rfl, hS⟩
   case round =>
    clear hS
    obtain ⟨k, L, hk, rfl, hL, hW, hV, hS⟩ := hrel
    by_cases hlt : k < ps.length
    ·have f1 : (Ah ps)[k]? = some (.int .u8 (ps.getD k 0 : Nat)) := Ce ps k hlt
     have hkn : k / 8 < n8 := by have := HN.out; omega
     have hx8 : ps.getD k 0 < 256 := HB.out _ (by rw [List.getD_eq_getElem?_getD, List.getElem?_eq_getElem hlt]; exact List.getElem_mem hlt)
     have HV := Lib.hid (val_byte hW hlt (by omega) hV rfl hx8 HB.out)
     have hown := hS.own 0 rfl
     have hstep := hown.cellAt (k / 8) (by omega)
     rw [CJ L _ (by omega)] at hstep
     have hfz := hown.frozenAt (k / 8)
     have HL := Lib.hid hL
     have hy := hW.getD (k / 8)
     have hs8 := shl8 hx8 (k % 8) (Nat.mod_lt _ (by decide))
     have hA : bits .or .u64 ((L.getD (k / 8) 0 : Nat) : Int) (IntKind.u64.wrap ((ps.getD k 0 : Nat) * 2 ^ (8 * (k % 8)))) = ((L.getD (k / 8) 0 ||| ps.getD k 0 * 2 ^ (8 * (k % 8)) : Nat) : Int) := by
      rw [hs8.1]; exact or64 hy hs8.2
     have HS := Lib.hid (hS.put64 0 rfl (k / 8) (L.getD (k / 8) 0 ||| ps.getD k 0 * 2 ^ (8 * (k % 8))))
     clear hown hL hW hV hs8 hy
     generalize (L.getD (k / 8) 0 ||| ps.getD k 0 * 2 ^ (8 * (k % 8))) = z at *
     generalize L.getD (k / 8) 0 = y at *
     generalize ps.getD k 0 = x at *
     go_wp2_with ((with_reducible refine qI ?_); refine Cp hS rfl _ _ _ rfl _ rfl rfl (by assumption) Tryz.underlying22 (by kernel_rfl) (by first | assumption | omega) _ (by assumption) ?_; intro p_ hc_)
     go_region
     all_goals
      go_wp2
      exact ⟨⟨k + 1, L.set (k / 8) z, hlt, by go_num, by rw [List.length_set]; exact HL.out, HV.out.1, HV.out.2, HS.out⟩, by simp [intOf]; omega⟩
    ·obtain rfl : k = ps.length := by omega
     rw [List.take_length] at hV
     go_wp2_with (first
      | ((with_reducible refine qM ?_); (first | refine qS hS ?_ | refine qT hS ?_); clear hS; intro w_ hS; (try simp only [Act.put, Act.eval, zz, Value.cells] at hS))
      | ((with_reducible show wpList _ _ _ (⟨_, .build _ _, _, _, _, _⟩ :: _) _ _); refine At rfl _ _ rfl #[.slice (some ⟨g4, 0, none⟩) n8 n8] (by kernel_rfl) ?_))
     refine Ew Tryz.results173 rfl (hS.box 1 rfl) Tryz.underlying39 rfl (by kernel_rfl) rfl rfl ?_
     have h9 := hS.own 0 rfl
     rw [<- hL] at h9
     exact AE.mk ⟨_, rfl, hL ▸ Aa.of_own ⟨IJ hW (hL.trans HN.out) hV HB.out (by omega) HLast.out, hV⟩ h9⟩ hS.below
 ·have hE := HE2.out h1 (fun h => h0 h.1)
  subst hE
  clear HE0 HE1 HE1' HE2
  have HLast := Lib.hid (show 0 < ps.length -> ps.getD (ps.length - 1) 0 ≠ 0 from fun h => absurd h h0)
  go_wp2_with (first
   | ((with_reducible refine qA 2 ?_); refine qa hS #[.slice none 0 0] ?_; clear hS; intro g2 w_ hS)
   | ((with_reducible refine qB ?_); refine qc ?_ ?_ <;> intro h_ <;> go_prune)
   | ((with_reducible show wpList _ _ _ (⟨_, .makeSlice _ _ _, _, _, _, _⟩ :: _) _ _); refine st_mk hS rfl _ _ _ rfl ty_u64s .i64 .i64 n8 #[.int .u64 0] (congrArg (Value.int .i64) hti) (congrArg (Value.int .i64) hti) (by kernel_rfl) (by omega) (by omega) ?_; clear hS; intro g4 w4 hS))
  clear h0 h_
  have hzz : (madeCells #[Value.int .u64 0] (n8 * 1)).toList = AA (List.replicate n8 0) := by rw [Nat.mul_one, Cr]
  rw [hzz] at hS
  clear hti hzz
  go_loopw [32] (fun i wr => ∃ (k : Nat) (L : List Nat), k <= ps.length /\ i = .int .i64 k /\ L.length = n8 /\ Ak L /\ Bx L = Dj (ps.take k) /\ St w0 wr [.own (.slice (some ⟨g4, 0, none⟩) n8 n8) 26 1 n8 (AA L), .box g2 39 #[.slice none 0 0]] K) (fun i _ => ps.length - (intOf i).toNat)
  case atStart => exact ⟨0, List.replicate n8 0, by omega, rfl, by simp, words_rep _, by rw [val_rep]; rfl, hS⟩
  case round =>
   clear hS
   obtain ⟨k, L, hk, rfl, hL, hW, hV, hS⟩ := hrel
   by_cases hlt : k < ps.length
   ·have f1 : (Ah ps)[k]? = some (.int .u8 (ps.getD k 0 : Nat)) := Ce ps k hlt
    have hkn : k / 8 < n8 := by have := HN.out; omega
    have hx8 : ps.getD k 0 < 256 := HB.out _ (by rw [List.getD_eq_getElem?_getD, List.getElem?_eq_getElem hlt]; exact List.getElem_mem hlt)
    have HV := Lib.hid (val_byte hW hlt (by omega) hV rfl hx8 HB.out)
    have hown := hS.own 0 rfl
    have hstep := hown.cellAt (k / 8) (by omega)
    rw [CJ L _ (by omega)] at hstep
    have hfz := hown.frozenAt (k / 8)
    have HL := Lib.hid hL
    have hy := hW.getD (k / 8)
    have hs8 := shl8 hx8 (k % 8) (Nat.mod_lt _ (by decide))
    have hA : bits .or .u64 ((L.getD (k / 8) 0 : Nat) : Int) (IntKind.u64.wrap ((ps.getD k 0 : Nat) * 2 ^ (8 * (k % 8)))) = ((L.getD (k / 8) 0 ||| ps.getD k 0 * 2 ^ (8 * (k % 8)) : Nat) : Int) := by
     rw [hs8.1]; exact or64 hy hs8.2
    have HS := Lib.hid (hS.put64 0 rfl (k / 8) (L.getD (k / 8) 0 ||| ps.getD k 0 * 2 ^ (8 * (k % 8))))
    clear hown hL hW hV hs8 hy
    generalize (L.getD (k / 8) 0 ||| ps.getD k 0 * 2 ^ (8 * (k % 8))) = z at *
    generalize L.getD (k / 8) 0 = y at *
    generalize ps.getD k 0 = x at *
    go_wp2_with ((with_reducible refine qI ?_); refine Cp hS rfl _ _ _ rfl _ rfl rfl (by assumption) Tryz.underlying22 (by kernel_rfl) (by first | assumption | omega) _ (by assumption) ?_; intro p_ hc_)
    go_region
    all_goals
     go_wp2
     exact ⟨⟨k + 1, L.set (k / 8) z, hlt, by go_num, by rw [List.length_set]; exact HL.out, HV.out.1, HV.out.2, HS.out⟩, by simp [intOf]; omega⟩
   ·obtain rfl : k = ps.length := by omega
    rw [List.take_length] at hV
    go_wp2_with (first
     | ((with_reducible refine qM ?_); (first | refine qS hS ?_ | refine qT hS ?_); clear hS; intro w_ hS; (try simp only [Act.put, Act.eval, zz, Value.cells] at hS))
     | ((with_reducible show wpList _ _ _ (⟨_, .build _ _, _, _, _, _⟩ :: _) _ _); refine At rfl _ _ rfl #[.slice (some ⟨g4, 0, none⟩) n8 n8] (by kernel_rfl) ?_))
    refine Ew Tryz.results173 rfl (hS.box 1 rfl) Tryz.underlying39 rfl (by kernel_rfl) rfl rfl ?_
    have h9 := hS.own 0 rfl
    rw [<- hL] at h9
    exact AE.mk ⟨_, rfl, hL ▸ Aa.of_own ⟨IJ hW (hL.trans HN.out) hV HB.out (by omega) HLast.out, hV⟩ h9⟩ hS.below
end
section
open Go.RowKit
attribute [local go_sem ↓] Go.wp_at_zero Go.wp_at_succ
set_option maxRecDepth 20000
def Bm (most : Nat) (left : List Nat) (err : Int) : Nat × List Nat × Int :=
 if err = 0 then
  if (AL 512 left 0).2.2 ≠ 0 then (0, (AL 512 left 0).2.1, (AL 512 left 0).2.2)
  else if Ch (AL 512 left 0).1 ≠ 0 then (0, left, 6)
  else if Dj (AL 512 left 0).1 ≠ 0 /\ most < (Dj (AL 512 left 0).1).log2 then (0, left, 2)
  else (Dj (AL 512 left 0).1, (AL 512 left 0).2.1, 0)
 else (0, left, err)
theorem readBytes_mem {most : Nat} {left : List Nat} (hb : Ao left) : Ao (AL most left 0).1 /\ (AL most left 0).1.length <= left.length := by
 unfold AL
 rw [if_pos rfl]
 split
 ·exact ⟨fun x hx => by simp at hx, by simp⟩
 split
 ·exact ⟨fun x hx => by simp at hx, by simp⟩
 split
 ·exact ⟨fun x hx => by simp at hx, by simp⟩
 ·refine ⟨fun x hx => hb x (List.mem_of_mem_drop (List.mem_of_mem_take hx)), ?_⟩
  simp only [List.length_take, List.length_drop]; omega
theorem rset_any {w0 w : World} {X : List Ae} {K : (Nat -> Prop) -> World -> Prop} {q : Nat} {left : List Nat} {err : Int} (most : Nat) (hm : most <= 1000000000000) (hl : left.length <= 1000000000000) (hb : Ao left) (hR : Rd w0 w X K q left err) :
  Calls Tryz.prog 120 #[.pointer (some ⟨q, 0, none⟩), .int .i64 most] w fun r w' => ∃ v, r = .returned v /\ Rd w0 w' X (fun D w => K D w /\ Aa w D v (Bm most left err).1) q (Bm most left err).2.1 (Bm most left err).2.2 := by
 obtain ⟨hK, A, c, l1, l2, hS⟩ := hR
 have HK := Lib.hid hK
 clear hK
 go_enter Tryz.func120, Tryz.ntmps120
 by_cases h0 : err = 0
 ·subst h0
  have HE := Lib.hid (show Bm most left 0 = _ from if_pos rfl)
  generalize Bm most left 0 = RES at *
  have HM := Lib.hid (readBytes_mem (most := 512) hb)
  have HBY := Lib.hid fun (w : World) (X' : List Ae) (K' : (Nat -> Prop) -> World -> Prop) (h : Rd w0 w X' K' q left 0) => rbytes_any 512 (by decide) hl hb h
  generalize AL 512 left 0 = V at *
  obtain ⟨ps, left2, err2⟩ := V
  dsimp only at HE HM HBY
  go_wp2_with (first
   | ((with_reducible refine qA 4 ?_); refine qa hS #[.slice none 0 0] ?_; clear hS; intro g4 w_ hS)
   | (go_at_call 168; refine (Bl _ 0 _ (hS.shut 1 rfl 1 rfl)).mono ?_; rintro r_ w_ ⟨rfl, rfl⟩)
   | ((with_reducible refine qK ?_); refine qC hS ?_))
  have hR1 : Rd w0 w_ (.box g4 39 #[.slice none 0 0] :: X) (fun D w => K D w /\ Sl w D 1 (.slice A left.length c) left.length (Ah left)) q left 0 :=
   ⟨HK.out.and Ab, A, c, l1, l2, hS.swap.mono ((HK.out.and Ab).and Ab) fun D w h => ⟨h, h.2⟩⟩
  clear hS
  refine (HBY.out _ _ _ hR1).mono ?_
  rintro r w2 ⟨p, rfl, hR2⟩
  clear hR1 HBY
  obtain ⟨_, A2, c2, m1, m2, hS⟩ := hR2
  go_wp2_with fail
  refine (sread_any p ps HM.out.1 _ _ hS.ro.1.2 (by have := HM.out.2; omega)).mono ?_
  rintro r w3 ⟨_, rfl, ⟨s, rfl, hset⟩, hb3⟩
  replace hS := hS.ret hb3 Ac hset
  have HN := Lib.hid (Eq.refl (if Ch ps = 0 then Dj ps else 0))
  generalize hN : (if Ch ps = 0 then Dj ps else 0) = N at *
  have HN := Lib.hid hN
  clear hN
  generalize Ch ps = e at *
  generalize Dj ps = VB at *
  obtain ⟨A3, c3, l3, rfl, -⟩ := hset.parts
  clear hset hb3 HM
  by_cases h2 : err2 = 0
  ·subst h2
   by_cases he : e = 0
   ·have hVN : VB = N := by have := HN.out; rwa [if_pos he] at this
    subst hVN
    by_cases hN0 : VB = 0
    ·have hE : RES = (VB, left2, 0) := by rw [HE.out, if_neg (by simp), if_neg (by simp [he]), if_neg (by simp [hN0])]
     subst hE
     have HG := Lib.hid (show gtst VB = .tuple #[.int .i64 0, .bool false] by rw [hN0]; rfl)
     clear HE HN hN0
     go_wp2_with (first
      | ((with_reducible refine qA 6 ?_); refine qa hS #[.slice none 0 0] ?_; clear hS; intro g6 w_ hS)
      | ((with_reducible refine qM ?_); (first | refine qS hS ?_ | refine qT hS ?_); clear hS; intro w_ hS; (try simp only [Act.put, Act.eval, zz, Value.cells] at hS))
      | ((with_reducible refine qB ?_); refine qc ?_ ?_ <;> intro h_ <;> go_prune)
      | (go_at_call 168; refine (Bl _ 0 _ (hS.shut 1 rfl 1 rfl)).mono ?_; rintro r_ w_ ⟨rfl, rfl⟩)
      | (go_at_call 175; refine (CR _ _ _ _ hS.ro.2).mono ?_; rw [HG.out]; rintro r_ w_ ⟨_, rfl, rfl, hb_⟩; replace hS := hS.ext hb_; clear hb_)
      | ((with_reducible refine qK ?_); refine qL hS Tryz.underlying39 ?_)
      | ((with_reducible show wpList _ _ _ (⟨_, .build _ _, _, _, _, _⟩ :: _) _ _); refine At rfl _ _ rfl #[.slice none 0 0] (by kernel_rfl) ?_))
     refine BO Tryz.results120 rfl (hS.box 2 rfl) Tryz.underlying39 rfl (by kernel_rfl) rfl ?_
     exact ⟨_, rfl, HK.out.and Ac, A2, c2, m1, m2, (hS.sub (.cons _ (.cons_cons _ (.cons _ (.refl _))))).mono ((HK.out.and Ac).and Ab) fun D w h => ⟨⟨h.1.1.1.1, h.2⟩, h.1.2⟩⟩
    ·have HG := Lib.hid (show gtst VB = .tuple #[.int .i64 (VB.log2 : Nat), .bool true] by simp [gtst, hN0])
     by_cases hg : most < VB.log2
     ·have hE : RES = (0, left, 2) := by rw [HE.out, if_neg (by simp), if_neg (by simp [he]), if_pos ⟨hN0, hg⟩]
      subst hE
      clear HE HN hN0
      generalize VB.log2 = lg at *
      go_wp2_with (first
       | ((with_reducible refine qA 6 ?_); refine qa hS #[.slice none 0 0] ?_; clear hS; intro g6 w_ hS)
       | ((with_reducible refine qM ?_); (first | refine qS hS ?_ | refine qT hS ?_); clear hS; intro w_ hS; (try simp only [Act.put, Act.eval, zz, Value.cells] at hS))
       | ((with_reducible refine qB ?_); refine qc ?_ ?_ <;> intro h_ <;> go_prune)
       | (go_at_call 168; refine (Bl _ 0 _ (hS.shut 1 rfl 1 rfl)).mono ?_; rintro r_ w_ ⟨rfl, rfl⟩)
       | (go_at_call 175; refine (CR _ _ _ _ hS.ro.2).mono ?_; rw [HG.out]; rintro r_ w_ ⟨_, rfl, rfl, hb_⟩; replace hS := hS.ext hb_; clear hb_)
       | ((with_reducible refine qK ?_); refine qL hS Tryz.underlying39 ?_)
       | ((with_reducible show wpList _ _ _ (⟨_, .build _ _, _, _, _, _⟩ :: _) _ _); refine At rfl _ _ rfl #[.slice none 0 0] (by kernel_rfl) ?_))
      refine BO Tryz.results120 rfl (hS.box 2 rfl) Tryz.underlying39 rfl (by kernel_rfl) rfl ?_
      exact ⟨_, rfl, HK.out.and Ac, A, c, l1, l2, (hS.sub (.cons _ (.cons_cons _ (.cons _ (.refl _))))).mono ((HK.out.and Ac).and Ab) fun D w h => ⟨⟨h.1.1.1.1, Aa.empty⟩, h.1.1.1.2⟩⟩
     ·have hE : RES = (VB, left2, 0) := by rw [HE.out, if_neg (by simp), if_neg (by simp [he]), if_neg (by simp [hg])]
      subst hE
      clear HE HN hN0
      generalize VB.log2 = lg at *
      go_wp2_with (first
       | ((with_reducible refine qA 6 ?_); refine qa hS #[.slice none 0 0] ?_; clear hS; intro g6 w_ hS)
       | ((with_reducible refine qM ?_); (first | refine qS hS ?_ | refine qT hS ?_); clear hS; intro w_ hS; (try simp only [Act.put, Act.eval, zz, Value.cells] at hS))
       | ((with_reducible refine qB ?_); refine qc ?_ ?_ <;> intro h_ <;> go_prune)
       | (go_at_call 168; refine (Bl _ 0 _ (hS.shut 1 rfl 1 rfl)).mono ?_; rintro r_ w_ ⟨rfl, rfl⟩)
       | (go_at_call 175; refine (CR _ _ _ _ hS.ro.2).mono ?_; rw [HG.out]; rintro r_ w_ ⟨_, rfl, rfl, hb_⟩; replace hS := hS.ext hb_; clear hb_)
       | ((with_reducible refine qK ?_); refine qL hS Tryz.underlying39 ?_)
       | ((with_reducible show wpList _ _ _ (⟨_, .build _ _, _, _, _, _⟩ :: _) _ _); refine At rfl _ _ rfl #[.slice none 0 0] (by kernel_rfl) ?_))
      refine BO Tryz.results120 rfl (hS.box 2 rfl) Tryz.underlying39 rfl (by kernel_rfl) rfl ?_
      exact ⟨_, rfl, HK.out.and Ac, A2, c2, m1, m2, (hS.sub (.cons _ (.cons_cons _ (.cons _ (.refl _))))).mono ((HK.out.and Ac).and Ab) fun D w h => ⟨⟨h.1.1.1.1, h.2⟩, h.1.2⟩⟩
   ·have hVN : 0 = N := by have := HN.out; rwa [if_neg he] at this
    subst hVN
    have hE : RES = (0, left, 6) := by rw [HE.out, if_neg (by simp), if_pos he]
    subst hE
    have HG := Lib.hid (show gtst 0 = .tuple #[.int .i64 0, .bool false] from rfl)
    clear HE HN
    go_wp2_with (first
     | ((with_reducible refine qA 6 ?_); refine qa hS #[.slice none 0 0] ?_; clear hS; intro g6 w_ hS)
     | ((with_reducible refine qM ?_); (first | refine qS hS ?_ | refine qT hS ?_); clear hS; intro w_ hS; (try simp only [Act.put, Act.eval, zz, Value.cells] at hS))
     | ((with_reducible refine qB ?_); refine qc ?_ ?_ <;> intro h_ <;> go_prune)
     | (go_at_call 168; refine (Bl _ 0 _ (hS.shut 1 rfl 1 rfl)).mono ?_; rintro r_ w_ ⟨rfl, rfl⟩)
     | (go_at_call 175; refine (CR _ _ _ _ hS.ro.2).mono ?_; rw [HG.out]; rintro r_ w_ ⟨_, rfl, rfl, hb_⟩; replace hS := hS.ext hb_; clear hb_)
     | ((with_reducible refine qK ?_); refine qL hS Tryz.underlying39 ?_)
     | ((with_reducible show wpList _ _ _ (⟨_, .build _ _, _, _, _, _⟩ :: _) _ _); refine At rfl _ _ rfl #[.slice none 0 0] (by kernel_rfl) ?_))
    refine BO Tryz.results120 rfl (hS.box 2 rfl) Tryz.underlying39 rfl (by kernel_rfl) rfl ?_
    exact ⟨_, rfl, HK.out.and Ac, A, c, l1, l2, (hS.sub (.cons _ (.cons_cons _ (.cons _ (.refl _))))).mono ((HK.out.and Ac).and Ab) fun D w h => ⟨⟨h.1.1.1.1, Aa.empty⟩, h.1.1.1.2⟩⟩
  ·have hd : decide (err2 = 0) = false := by simpa using h2
   have hE : RES = (0, left2, err2) := by rw [HE.out, if_pos h2]
   subst hE
   clear HE
   go_wp2_with (first
    | ((with_reducible refine qA 6 ?_); refine qa hS #[.slice none 0 0] ?_; clear hS; intro g6 w_ hS)
    | ((with_reducible refine qM ?_); (first | refine qS hS ?_ | refine qT hS ?_); clear hS; intro w_ hS; (try simp only [Act.put, Act.eval, zz, Value.cells] at hS))
    | (go_at_call 168; refine (Bl _ err2 _ (hS.shut 1 rfl 1 rfl)).mono ?_; rw [hd]; rintro r_ w_ ⟨rfl, rfl⟩)
    | ((with_reducible show wpList _ _ _ (⟨_, .build _ _, _, _, _, _⟩ :: _) _ _); refine At rfl _ _ rfl #[.slice none 0 0] (by kernel_rfl) ?_))
   refine BO Tryz.results120 rfl (hS.box 2 rfl) Tryz.underlying39 rfl (by kernel_rfl) rfl ?_
   exact ⟨_, rfl, HK.out.and Ac, A2, c2, m1, m2, (hS.sub (.cons _ (.cons_cons _ (.cons _ (.refl _))))).mono ((HK.out.and Ac).and Ab) fun D w h => ⟨⟨h.1.1.1.1, Aa.empty⟩, h.1.2⟩⟩
 ·have hd : decide (err = 0) = false := by simpa using h0
  have HE := Lib.hid (show Bm most left err = (0, left, err) by rw [Bm, if_neg h0])
  go_wp2_with (first
   | ((with_reducible refine qA 4 ?_); refine qa hS #[.slice none 0 0] ?_; clear hS; intro g4 w_ hS)
   | (go_at_call 168; refine (Bl _ err _ (hS.shut 1 rfl 1 rfl)).mono ?_; rw [hd]; rintro r_ w_ ⟨rfl, rfl⟩)
   | ((with_reducible refine qM ?_); (first | refine qS hS ?_ | refine qT hS ?_); clear hS; intro w_ hS; (try simp only [Act.put, Act.eval, zz, Value.cells] at hS))
   | ((with_reducible show wpList _ _ _ (⟨_, .build _ _, _, _, _, _⟩ :: _) _ _); refine At rfl _ _ rfl #[.slice none 0 0] (by kernel_rfl) ?_))
  rw [HE.out]
  refine BO Tryz.results120 rfl (hS.box 0 rfl) Tryz.underlying39 rfl (by kernel_rfl) rfl ?_
  exact ⟨_, rfl, HK.out.and Ac, A, c, l1, l2, (hS.sub (.cons _ (.refl _))).mono ((HK.out.and Ac).and Ab) fun D w h => ⟨⟨h.1, Aa.empty⟩, h.2⟩⟩
end
section
open Go.RowKit
set_option maxRecDepth 20000
theorem numR_hi7 : ∀ (f x : Nat) (s : List Nat), x < 128 ^ f -> x <= 144115188075855871 -> Bj ((G4 f x).reverse ++ s) 0 0 = if x = 0 then Bj s 0 0 else Bj s x (G4 f x).length
 | 0, x, s, h, _ => by
  obtain rfl : x = 0 := by simpa using h
  simp [G4]
 | f + 1, x, s, h, hb => by
  by_cases h0 : x = 0
  ·simp [G4, h0]
  ·have h1 : x / 128 < 128 ^ f := Nat.div_lt_of_lt_mul (by rw [Nat.mul_comm, <- Nat.pow_succ]; exact h)
   have ih := numR_hi7 f (x / 128) ((x % 128 + 128) :: s) h1 (by omega)
   have e : (G4 (f + 1) x).reverse ++ s = (G4 f (x / 128)).reverse ++ ((x % 128 + 128) :: s) := by simp [G4, h0]
   rw [e, ih, if_neg h0]
   have el : (G4 (f + 1) x).length = (G4 f (x / 128)).length + 1 := by simp [G4, h0]
   rw [el]
   by_cases h2 : x / 128 = 0
   ·have ez : G4 f (x / 128) = [] := by rw [h2]; cases f <;> simp [G4]
    rw [if_pos h2, ez, Bj, if_neg (by omega), if_neg (by omega)]
    congr 1; omega
   ·have hn : (G4 f (x / 128)).length ≠ 0 := by
     cases f with
     | zero => simp at h1; omega
     | succ f => simp [G4, h2]
    rw [if_neg h2, Bj, if_neg (by omega), if_neg (by omega)]
    congr 1; omega
theorem Ii {v : Nat} (hv : v < AC) (r : List Nat) : Bj (AK v ++ r) 0 0 = (v, (AK v).length) := by
 unfold AC at hv
 have e : AK v ++ r = (G4 10 (v / 128)).reverse ++ ((v % 128) :: r) := by simp [AK]
 have el : (AK v).length = (G4 10 (v / 128)).length + 1 := by simp [AK]
 rw [e, el, numR_hi7 10 (v / 128) _ (by omega) (by omega)]
 by_cases h : v / 128 = 0
 ·rw [if_pos h, h, Bj, if_neg (by omega), if_pos (by omega)]
  simp [G4]; omega
 ·rw [if_neg h, Bj, if_neg (by
   rintro (h1 | h1)
   ·omega
   ·omega), if_pos (by omega)]
  congr 1; omega
theorem Jw (v : Nat) : (AK v).length ≠ 0 := by simp [AK]
theorem readUint_putN {v most : Nat} (hv : v < AC) (hm : v <= most) (r : List Nat) : AY most (AK v ++ r) 0 = (v, r, 0) := by
 have := Jw v
 rw [AY, if_pos rfl, Ii hv, if_neg (by omega), if_neg (by omega)]
 simp
theorem Fg {v most : Nat} (hv : v < AC) (hm : v <= most) (r : List Nat) : Bc most (AK v ++ r) 0 = (v, r, 0) := by
 have := Jw v
 rw [Bc, if_pos rfl, Ii hv, if_neg (by omega), if_neg (by omega)]
 simp
theorem Id (b : Bool) (r : List Nat) : BP (Bf b ++ r) 0 = (b, r, 0) := by cases b <;> simp [BP, Bf]
theorem Js {n : Nat} {l : List Nat} (h : l.length = n) (r : List Nat) : BS n (l ++ r) 0 = (l, r, 0) := by
 subst h
 rw [BS, if_pos rfl, if_neg (by simp)]; simp
theorem readBytes_put {l : List Nat} {most : Nat} (h : l.length <= most) (hT : l.length < AC) (r : List Nat) : AL most (AK l.length ++ (l ++ r)) 0 = (l, r, 0) := by
 have := Jw l.length
 rw [AL, if_pos rfl, Ii hT]
 dsimp only
 rw [if_neg (by omega), if_neg (by omega), if_neg (by simp)]
 simp
theorem valB_append (l : List Nat) (x : Nat) : Dj (l ++ [x]) = Dj l + x * 2 ^ (8 * l.length) := by
 have h := I2 (l := l ++ [x]) (k := l.length) (by simp)
 rw [List.take_of_length_le (by simp)] at h
 simpa using h
theorem Ja (N : Nat) : ∀ m, Dj ((List.range m).map fun k => (N >>> (8 * k)) % 256) = N % 2 ^ (8 * m)
 | 0 => by simp [Dj, Nat.mod_one]
 | m + 1 => by
  rw [List.range_succ, List.map_append, List.map_cons, List.map_nil, valB_append, Ja N m]
  rw [List.length_map, List.length_range, show 8 * (m + 1) = 8 * m + 8 by omega, Nat.pow_add, Nat.mod_mul, Nat.shiftRight_eq_div_pow]
  rw [Nat.mul_comm (2 ^ (8 * m))]
theorem setBytes_val (N : Nat) : Dj (AW N) = N := by
 unfold AW
 split
 ·rename_i h; rw [h]; rfl
 ·rw [Ja, Nat.mod_eq_of_lt]
  exact Nat.lt_of_lt_of_le Nat.lt_log2_self (Nat.pow_le_pow_right (by decide) (by omega))
theorem setBytes_err {N : Nat} (h : N < 2 ^ 4096) : Ch (AW N) = 0 := by
 have h5 := DH h
 unfold Ch
 rw [if_neg]
 rintro (h1 | ⟨h1, h2⟩)
 ·omega
 ·have hN : N ≠ 0 := by
   intro e; rw [e] at h1; simp [AW] at h1
  have el : (AW N).length = N.log2 / 8 + 1 := by simp [AW, hN]
  have eg : (AW N).getD ((AW N).length - 1) 0 = (N >>> (8 * (N.log2 / 8))) % 256 := by
   rw [el]; simp [AW, hN]
  rw [eg, Nat.shiftRight_eq_div_pow] at h2
  have hlo : 2 ^ (8 * (N.log2 / 8)) <= N := Nat.le_trans (Nat.pow_le_pow_right (by decide) (by omega)) (Nat.log2_self_le hN)
  have hhi : N < 2 ^ (8 * (N.log2 / 8) + 8) := Nat.lt_of_lt_of_le Nat.lt_log2_self (Nat.pow_le_pow_right (by decide) (by omega))
  rw [Nat.pow_add, show (2 : Nat) ^ 8 = 256 from rfl] at hhi
  have hp := Nat.two_pow_pos (8 * (N.log2 / 8))
  generalize 2 ^ (8 * (N.log2 / 8)) = P at *
  have h3 : N / P < 256 := Nat.div_lt_of_lt_mul hhi
  have h4 : 0 < N / P := Nat.div_pos hlo hp
  omega
theorem It {N most : Nat} (h : N < 2 ^ 4096) (hm : N ≠ 0 -> N.log2 <= most) (r : List Nat) : Bm most (BZ N ++ r) 0 = (N, r, 0) := by
 have h5 := DH h
 have e : BZ N ++ r = AK (AW N).length ++ (AW N ++ r) := by simp [BZ]
 rw [Bm, if_pos rfl, e, readBytes_put h5 (by unfold AC; omega)]
 dsimp only
 rw [if_neg (by simp), setBytes_err h, setBytes_val, if_neg (by simp), if_neg]
 rintro ⟨h1, h2⟩
 have := hm h1
 omega
end
section
open Go.RowKit
attribute [local go_sem ↓] Go.wp_at_zero Go.wp_at_succ
set_option maxRecDepth 20000
def BU (r : Bool) (pv qv : Value) : Array Value := (Ah (List.replicate 32 0) ++ [.bool r, pv, qv]).toArray
theorem cert_one (r : Bool) (A A' : Option Addr) (n c n' c' : Nat) : (BU r (.slice A n c) (.slice A' n' c')).all (·.oneCell') = true := by
 refine all_oneCell_toArray fun v hv => ?_
 rcases List.mem_append.1 hv with h | h
 ·exact D3 _ v h
 ·simp at h; rcases h with rfl | rfl | rfl <;> rfl
theorem Io (r : Bool) (pv qv : Value) : (BU r pv qv).size = 35 := by simp [BU, Ah]
theorem FL (r : Bool) (pv qv : Value) : (Tryz.prog.info? 96).map (·.size) = some (BU r pv qv).size := by
 rw [Io]; kernel_rfl
theorem Af.none_ {w : World} {D : Nat -> Prop} : Af w D (.slice none 0 0) [] := ⟨[], Sl.none_, fun i y n h => by simp at h⟩
theorem Af.one {w : World} {b : Nat} {t : TypeId} {y n : Value} {Y N : Nat} {D E : Nat -> Prop} (h : AP w b t #[y, n]) (hy : Aa w D (.agg #[y]) Y) (hn : Aa w E (.agg #[n]) N) : Af w (fun _ => True) (.slice (some ⟨b, 0, none⟩) 1 1) [(Y, N)] :=
 ⟨[y, n], (Sl.of_box (n := 1) (size := 2) h rfl (by omega)).imp fun _ _ _ => trivial, fun i a c hi => by
  match i, hi with
  | 0, hi => simp at hi; obtain ⟨rfl, rfl⟩ := hi; exact ⟨y, n, rfl, rfl, hy.imp fun _ _ _ => trivial, hn.imp fun _ _ _ => trivial⟩⟩
theorem str_eql {a b : ByteArray} (h : (a.toList == b.toList) = true) (w : World) : (binOp .eql 9 (.string a) (.string b)).run Tryz.prog w = .ok (.bool true) w := by
 go_simp
set_option maxHeartbeats 4000000 in
theorem awake_any (w : World) (hT : Gm w) :
  Calls Tryz.prog 39 #[] w (AE (fun x _ => x = .bool true) w) := by
 obtain ⟨i0, hi, hz0, hz1, hz2⟩ := info_parts He
 obtain ⟨z, hz⟩ : ∃ z, z = EX (List.replicate 32 0) := ⟨_, rfl⟩
 have HZ := Lib.hid hz
 clear hz
 go_enter Tryz.func39, Tryz.ntmps39
 go_wp2_with (first
  | (at_make; refine wpList_make_full _ rfl _ _ 22 rfl w.heap.size 5 i0 (.int .u8 0) 1 Tryz.underlying22 hi hz0 hz1 _ _ _ _ 32 rfl rfl (by omega) (by omega) (by rw [hz2]; omega) (by unfold maxLen; omega) (Nat.le_refl _) ?_; intro w1 hown hgrow; rw [Nat.mul_one, show (Value.int .u8 0).cells = #[Value.int .u8 0] from rfl, Hd] at hown; have hcv := conv_sl (l := List.replicate 32 0) (Sl.of_own hown) (Dv 32); rw [<- HZ.out] at hcv; have hB := (Below.refl w.heap.size w).grown hgrow (by omega) (by simp); clear hown hgrow)
  | ((with_reducible refine qA 6 ?_); refine Bw rfl _ 3 _ _ rfl Tryz.underlying74 #[.int .i64 2, .int .i64 0] (by kernel_rfl) ?_; intro w2 hX hb; have hl1 := hX.lt; have hP := Sl.of_box (n := 2) (size := 1) hX rfl (by omega); replace hB := hB.trans (hb.mono hB.size); clear hX hb hcv)
  | ((with_reducible refine qA 7 ?_); refine At rfl _ _ rfl (BU true (.slice (some ⟨w1.heap.size, 0, none⟩) 2 2) (.slice none 0 0)) (by kernel_rfl) ?_)
  | ((with_reducible refine qA 2 ?_); refine Cj rfl _ rfl (by kernel_rfl) ?_; intro w3 hA hb; replace hP := hP.ext hb; have hl2 := hA.lt; have hl3 := hB.size; replace hB := hB.trans (hb.mono hB.size); clear hb)
  | ((with_reducible refine qN ?_); go_loud (refine D0 rfl 96 _ _ rfl w2.heap.size (BU true (.slice (some ⟨w1.heap.size, 0, none⟩) 2 2) (.slice none 0 0)) rfl rfl _ _ hA (FL _ _ _) (by rw [Io]; kernel_rfl) (cert_one _ _ _ _ _ _ _) ?_); go_loud (intro w4 hC hU); replace hP := hP.upd hU (fun b h hl => by omega); replace hB := hU.below hB (by omega); clear hA hU))
 have hS8 := fun (w : World) (x : Int) => Sl.new w 3 (AV [x]) (by simp [AV])
 have H8 := Lib.hid hS8
 clear hS8
 have hP5 := hP.ext ((Below.refl _ w4).alloc (Nat.le_refl _) (.cells #[.int .i64 1] 3))
 refine (of_any _ [1] _ _ (H8.out w4 1)).mono ?_
 rintro e w6 ⟨v9, rfl, h9, hb⟩
 replace hb : Below w4.heap.size w4 w6 := ((Below.refl _ w4).alloc (Nat.le_refl _) _).trans (hb.mono (by simp))
 replace hP := hP.ext hb
 replace hC := hC.ext hb
 have hl4 := hC.lt
 have hs6 := hb.size
 replace hB := hB.trans (hb.mono hB.size)
 clear hb hP5
 obtain ⟨A9, c9, l9, rfl, _⟩ := id h9.parts
 go_wp2_with fail
 refine (of_any _ [3] _ _ (H8.out w6 3)).mono ?_
 rintro e w8 ⟨v11, rfl, h11, hb⟩
 replace hb : Below w6.heap.size w6 w8 := ((Below.refl _ w6).alloc (Nat.le_refl _) _).trans (hb.mono (by simp))
 replace hP := hP.ext hb
 replace hC := hC.ext hb
 replace h9 := h9.ext hb
 have hs8 := hb.size
 replace hB := hB.trans (hb.mono hB.size)
 clear hb
 obtain ⟨A11, c11, l11, rfl, _⟩ := id h11.parts
 go_wp2_with (first
  | ((with_reducible refine qA 12 ?_); refine At rfl _ _ rfl #[.slice A9 l9.length c9, .slice A11 l11.length c11] (by kernel_rfl) ?_)
  | ((with_reducible refine qA 13 ?_); refine Bw rfl _ 56 _ _ rfl Tryz.underlying41 #[.slice A9 l9.length c9, .slice A11 l11.length c11] (by kernel_rfl) ?_; intro w9 hX hb; have hl8 := hX.lt; have hq := (Af.one hX (h9.ext hb) (h11.ext hb)).imp (D' := (· < w9.heap.size)) (fun _ _ h => h); replace hP := hP.ext hb; replace hC := hC.ext hb; replace hB := hB.trans (hb.mono hB.size); clear hX h9 h11 hb)
  | ((with_reducible refine qA 14 ?_); refine At rfl _ _ rfl (BU false (.slice none 0 0) (.slice (some ⟨w8.heap.size, 0, none⟩) 1 1)) (by kernel_rfl) ?_)
  | ((with_reducible refine qA 3 ?_); refine Cj rfl _ rfl (by kernel_rfl) ?_; intro w10 hA hb; have hl9 := hA.lt; have hs9 := hB.size; replace hP := hP.ext hb; replace hC := hC.ext hb; replace hq := hq.ext hb; replace hB := hB.trans (hb.mono hB.size); clear hb)
  | ((with_reducible refine qN ?_); refine D0 rfl 96 _ _ rfl w9.heap.size (BU false (.slice none 0 0) (.slice (some ⟨w8.heap.size, 0, none⟩) 1 1)) rfl rfl _ _ hA (FL _ _ _) (by rw [Io]; kernel_rfl) (cert_one _ _ _ _ _ _ _) ?_; intro w11 hC2 hU; replace hP := hP.upd hU (fun b h hl => by omega); replace hC := hC.upd hU (by omega); replace hq := hq.upd hU (fun b h hl => by omega); replace hB := hU.below hB (by omega); clear hA hU))
 have hcA : AO w11 (fun _ => True) (.agg (BU true (.slice (some ⟨w1.heap.size, 0, none⟩) 2 2) (.slice none 0 0))) FI := AO.of (plan := [2, 0]) (cubes := []) (by simp) (Dv 32) (hP.imp fun _ _ _ => trivial) Af.none_
 have hcB : AO w11 (fun _ => True) (.agg (BU false (.slice none 0 0) (.slice (some ⟨w8.heap.size, 0, none⟩) 1 1))) exB := AO.of (plan := []) (cubes := [(2, 8)]) (by simp) (Dv 32) Sl.none_ (hq.imp fun _ _ _ => trivial)
 replace hT := hT.ext hB
 have hzs : z.size <= 32 := by rw [HZ.out, strOf_size]; simp
 have hqA : ((EX (Aw FI)).toList == (z ++ { data := #[1, 2, 2, 0, 0] }).toList) = true := by rw [HZ.out, exA_bytes]; simp
 have hqB : ((EX (Aw exB)).toList == (z ++ { data := #[0, 0, 1, 1, 2, 1, 8] }).toList) = true := by rw [HZ.out, exB_bytes]; simp
 have cvA := fun (w : World) (D : Nat -> Prop) (v : Value) (h : Sl w D 1 v (Aw FI).length (Ah (Aw FI))) => conv_sl h exA_by
 have cvB := fun (w : World) (D : Nat -> Prop) (v : Value) (h : Sl w D 1 v (Aw exB).length (Ah (Aw exB))) => conv_sl h exB_by
 generalize EX (Aw FI) = sA at *
 generalize EX (Aw exB) = sB at *
 have HCA := Lib.hid cvA
 have HCB := Lib.hid cvB
 have heq := exA_id
 have hidl := idC_len FI
 have htl := fun (w : World) => fun (pv p : Value) (D : Nat -> Prop) (hT : Gm w) (h1 : Sl w D 1 pv 1 [p]) (h2 : Sl w D 1 p (Aw FI).length (Ah (Aw FI))) => G9 FM pv p (Aw FI) w D hT h1 h2 exA_by (by decide) (by have := exA_len; omega)
 rw [<- heq] at htl
 have hidc := fun (w : World) (D : Nat -> Prop) (v : Value) (hT : Gm w) (h : AO w D v FI) => cid_any v FI w D hT h
 generalize idC FI = idl at *
 have kI := fun (w : World) => eql_id w idl idl hidl hidl
 simp only [BEq.rfl] at kI
 have HTL := Lib.hid htl
 have HID := Lib.hid hidc
 have hiA := FL true (.slice (some ⟨w1.heap.size, 0, none⟩) 2 2) (.slice none 0 0)
 have hiB := FL false (.slice none 0 0) (.slice (some ⟨w8.heap.size, 0, none⟩) 1 1)
 generalize BU true (.slice (some ⟨w1.heap.size, 0, none⟩) 2 2) (.slice none 0 0) = cA at *
 generalize BU false (.slice none 0 0) (.slice (some ⟨w8.heap.size, 0, none⟩) 1 1) = cB at *
 clear hP hq cvA cvB heq hidl htl hidc
 refine EW (fun i v w => match i with
  | 0 => v = .agg cA
  | 1 => Sl w (fun _ => True) 1 v (Aw FI).length (Ah (Aw FI))
  | 2 => v = .string sA
  | 3 => v = .string z
  | 4 => v = .string (z ++ { data := #[1, 2, 2, 0, 0] })
  | 5 => v = .bool true
  | 6 => v = .bool true
  | 7 => v = .agg cB
  | 8 => Sl w (fun _ => True) 1 v (Aw exB).length (Ah (Aw exB))
  | 9 => v = .string sB
  | 10 => v = .string z
  | 11 => v = .string (z ++ { data := #[0, 0, 1, 1, 2, 1, 8] })
  | 12 => v = .bool true
  | 13 => v = .bool true
  | 14 => v = .bool true
  | 15 => v = .agg cA
  | 16 => v = .agg (Ah idl).toArray
  | 17 => v = .agg cA
  | 18 => Sl w (fun _ => True) 1 v (Aw FI).length (Ah (Aw FI))
  | 19 => ∃ p, Sl w (fun _ => True) 1 v 1 [p] /\ Sl w (fun _ => True) 1 p (Aw FI).length (Ah (Aw FI))
  | 20 => v = .agg (Ah idl).toArray
  | 21 => v = .bool true
  | 22 => v = .bool true
  | 23 => v = .bool true
  | _ => True) (by kernel_rfl) (by kernel_rfl) ?mono ⟨?r0, ?r1, ?r2, ?r3, ?r4, ?r5, ?r6, ?r7, ?r8, ?r9, ?r10, ?r11, ?r12, ?r13, ?r14, ?r15, ?r16, ?r17, ?r18, ?r19, ?r20, ?r21, ?r22, ?r23, trivial⟩ ?post
 case mono =>
  intro i v w w' h hb
  match i, h with
  | 0, h => exact h
  | 1, h => exact Sl.ext h hb
  | 2, h | 3, h | 4, h | 5, h | 6, h | 7, h => exact h
  | 8, h => exact Sl.ext h hb
  | 9, h | 10, h | 11, h | 12, h | 13, h | 14, h | 15, h | 16, h | 17, h => exact h
  | 18, h => exact Sl.ext h hb
  | 19, h => exact (let ⟨p, h1, h2⟩ := h; ⟨p, h1.ext hb, h2.ext hb⟩)
  | 20, h | 21, h | 22, h | 23, h => exact h
  | _ + 24, h => trivial
 case r0 =>
  refine BN fun b w hW hold hpre => ⟨fun hwant K hK => ?_, fun hwant => ?_⟩
  ·clear hwant
   have e2 : b.eval (.tmp 2) = .pointer (some ⟨w2.heap.size, 0, none⟩) := (hold 2 (by kernel_rfl)).trans rfl
   exact CN rfl e2 (hC.ext (BD hW)) Tryz.underlying96 rfl hiA (hK _ _ rfl (Below.refl _ _))
  ·exact wo hwant
 case r1 =>
  refine BN fun b w hW hold hpre => ⟨fun hwant K hK => ?_, fun hwant => ?_⟩
  ·clear hwant
   have e15 : b.eval (.tmp 15) = .agg cA := hpre ⟨0, _⟩ (Array.mem_of_getElem? (i := 0) rfl) rfl _ _ rfl rfl
   exact B6 rfl (by kernel_rfl) (by simp [e15]) (E2 _ FI w _ (hcA.ext (BD hW))) fun v w' h hb => hK v w' (h.imp fun _ _ _ => trivial) hb
  ·exact wo hwant
 case r2 =>
  refine BN fun b w hW hold hpre => ⟨fun hwant K hK => ?_, fun hwant => ?_⟩
  ·clear hwant
   have e16 : (fun (v : Value) (w : World) => Sl w (fun _ => True) 1 v (Aw FI).length (Ah (Aw FI))) (b.eval (.tmp 16)) w := hpre ⟨1, _⟩ (Array.mem_of_getElem? (i := 0) rfl) rfl _ _ rfl rfl
   exact CE rfl rfl (HCA.out w _ _ e16) (hK _ _ rfl (Below.refl _ _))
  ·exact wo hwant
 case r3 =>
  refine BN fun b w hW hold hpre => ⟨fun hwant K hK => ?_, fun hwant => ?_⟩
  ·clear hwant
   have e1 : b.eval (.tmp 1) = .string z := (hold 1 (by kernel_rfl)).trans rfl
   exact Dh rfl e1 (hK _ _ rfl (Below.refl _ _))
  ·exact wo hwant
 case r4 =>
  refine BN fun b w hW hold hpre => ⟨fun hwant K hK => ?_, fun hwant => ?_⟩
  ·clear hwant
   have e18 : b.eval (.tmp 18) = .string z := hpre ⟨3, _⟩ (Array.mem_of_getElem? (i := 0) rfl) rfl _ _ rfl rfl
   exact AH (vy := .string { data := #[1, 2, 2, 0, 0] }) rfl e18 rfl rfl (by rw [binOp_string_add]; exact run_string_add_sum _ _ _ (by have h5 : ({ data := #[1, 2, 2, 0, 0] } : ByteArray).size = 5 := rfl; omega)) (hK _ _ rfl (Below.refl _ _))
  ·exact wo hwant
 case r5 =>
  refine BN fun b w hW hold hpre => ⟨fun hwant K hK => ?_, fun hwant => ?_⟩
  ·clear hwant
   have e17 : b.eval (.tmp 17) = .string sA := hpre ⟨2, _⟩ (Array.mem_of_getElem? (i := 0) rfl) rfl _ _ rfl rfl
   have e19 : b.eval (.tmp 19) = .string (z ++ { data := #[1, 2, 2, 0, 0] }) := hpre ⟨4, _⟩ (Array.mem_of_getElem? (i := 1) rfl) rfl _ _ rfl rfl
   exact AH rfl e17 e19 rfl (str_eql hqA w) (hK _ _ rfl (Below.refl _ _))
  ·exact wo hwant
 case r6 =>
  refine BN fun b w hW hold hpre => ⟨fun hwant K hK => ?_, fun hwant => ?_⟩
  ·clear hwant
   have e20 : b.eval (.tmp 20) = .bool true := hpre ⟨5, _⟩ (Array.mem_of_getElem? (i := 0) rfl) rfl _ _ rfl rfl
   exact Dh rfl e20 (hK _ _ rfl (Below.refl _ _))
  ·exact wo hwant
 case r7 =>
  refine BN fun b w hW hold hpre => ⟨fun hwant K hK => ?_, fun hwant => ?_⟩
  ·clear hwant
   have e3 : b.eval (.tmp 3) = .pointer (some ⟨w9.heap.size, 0, none⟩) := (hold 3 (by kernel_rfl)).trans rfl
   exact CN rfl e3 (hC2.ext (BD hW)) Tryz.underlying96 rfl hiB (hK _ _ rfl (Below.refl _ _))
  ·rw [Bk rfl rfl rfl (show b.eval (.tmp 21) = .bool true from hpre ⟨6, _⟩ (Array.mem_of_getElem? (i := 0) rfl) rfl _ _ rfl rfl)] at hwant; cases hwant
 case r8 =>
  refine BN fun b w hW hold hpre => ⟨fun hwant K hK => ?_, fun hwant => ?_⟩
  ·clear hwant
   have e22 : b.eval (.tmp 22) = .agg cB := hpre ⟨7, _⟩ (Array.mem_of_getElem? (i := 0) rfl) rfl _ _ rfl rfl
   exact B6 rfl (by kernel_rfl) (by simp [e22]) (E2 _ exB w _ (hcB.ext (BD hW))) fun v w' h hb => hK v w' (h.imp fun _ _ _ => trivial) hb
  ·rw [Bk rfl rfl rfl (show b.eval (.tmp 21) = .bool true from hpre ⟨6, _⟩ (Array.mem_of_getElem? (i := 1) rfl) rfl _ _ rfl rfl)] at hwant; cases hwant
 case r9 =>
  refine BN fun b w hW hold hpre => ⟨fun hwant K hK => ?_, fun hwant => ?_⟩
  ·clear hwant
   have e23 : (fun (v : Value) (w : World) => Sl w (fun _ => True) 1 v (Aw exB).length (Ah (Aw exB))) (b.eval (.tmp 23)) w := hpre ⟨8, _⟩ (Array.mem_of_getElem? (i := 0) rfl) rfl _ _ rfl rfl
   exact CE rfl rfl (HCB.out w _ _ e23) (hK _ _ rfl (Below.refl _ _))
  ·rw [Bk rfl rfl rfl (show b.eval (.tmp 21) = .bool true from hpre ⟨6, _⟩ (Array.mem_of_getElem? (i := 1) rfl) rfl _ _ rfl rfl)] at hwant; cases hwant
 case r10 =>
  refine BN fun b w hW hold hpre => ⟨fun hwant K hK => ?_, fun hwant => ?_⟩
  ·clear hwant
   have e1 : b.eval (.tmp 1) = .string z := (hold 1 (by kernel_rfl)).trans rfl
   exact Dh rfl e1 (hK _ _ rfl (Below.refl _ _))
  ·rw [Bk rfl rfl rfl (show b.eval (.tmp 21) = .bool true from hpre ⟨6, _⟩ (Array.mem_of_getElem? (i := 0) rfl) rfl _ _ rfl rfl)] at hwant; cases hwant
 case r11 =>
  refine BN fun b w hW hold hpre => ⟨fun hwant K hK => ?_, fun hwant => ?_⟩
  ·clear hwant
   have e25 : b.eval (.tmp 25) = .string z := hpre ⟨10, _⟩ (Array.mem_of_getElem? (i := 0) rfl) rfl _ _ rfl rfl
   exact AH (vy := .string { data := #[0, 0, 1, 1, 2, 1, 8] }) rfl e25 rfl rfl (by rw [binOp_string_add]; exact run_string_add_sum _ _ _ (by have h7 : ({ data := #[0, 0, 1, 1, 2, 1, 8] } : ByteArray).size = 7 := rfl; omega)) (hK _ _ rfl (Below.refl _ _))
  ·rw [Bk rfl rfl rfl (show b.eval (.tmp 21) = .bool true from hpre ⟨6, _⟩ (Array.mem_of_getElem? (i := 1) rfl) rfl _ _ rfl rfl)] at hwant; cases hwant
 case r12 =>
  refine BN fun b w hW hold hpre => ⟨fun hwant K hK => ?_, fun hwant => ?_⟩
  ·clear hwant
   have e24 : b.eval (.tmp 24) = .string sB := hpre ⟨9, _⟩ (Array.mem_of_getElem? (i := 0) rfl) rfl _ _ rfl rfl
   have e26 : b.eval (.tmp 26) = .string (z ++ { data := #[0, 0, 1, 1, 2, 1, 8] }) := hpre ⟨11, _⟩ (Array.mem_of_getElem? (i := 1) rfl) rfl _ _ rfl rfl
   exact AH rfl e24 e26 rfl (str_eql hqB w) (hK _ _ rfl (Below.refl _ _))
  ·rw [Bk rfl rfl rfl (show b.eval (.tmp 21) = .bool true from hpre ⟨6, _⟩ (Array.mem_of_getElem? (i := 2) rfl) rfl _ _ rfl rfl)] at hwant; cases hwant
 case r13 =>
  refine BN fun b w hW hold hpre => ⟨fun hwant K hK => ?_, fun hwant => ?_⟩
  ·clear hwant
   have e21 : b.eval (.tmp 21) = .bool true := hpre ⟨6, _⟩ (Array.mem_of_getElem? (i := 0) rfl) rfl _ _ rfl rfl
   have e27 : b.eval (.tmp 27) = .bool true := hpre ⟨12, _⟩ (Array.mem_of_getElem? (i := 1) rfl) rfl _ _ rfl rfl
   exact JF rfl e21 (if_pos rfl) (hK _ _ e27 (Below.refl _ _))
  ·exact wo hwant
 case r14 =>
  refine BN fun b w hW hold hpre => ⟨fun hwant K hK => ?_, fun hwant => ?_⟩
  ·clear hwant
   have e28 : b.eval (.tmp 28) = .bool true := hpre ⟨13, _⟩ (Array.mem_of_getElem? (i := 0) rfl) rfl _ _ rfl rfl
   exact Dh rfl e28 (hK _ _ rfl (Below.refl _ _))
  ·exact wo hwant
 case r15 =>
  refine BN fun b w hW hold hpre => ⟨fun hwant K hK => ?_, fun hwant => ?_⟩
  ·clear hwant
   have e2 : b.eval (.tmp 2) = .pointer (some ⟨w2.heap.size, 0, none⟩) := (hold 2 (by kernel_rfl)).trans rfl
   exact CN rfl e2 (hC.ext (BD hW)) Tryz.underlying96 rfl hiA (hK _ _ rfl (Below.refl _ _))
  ·rw [Bk rfl rfl rfl (show b.eval (.tmp 29) = .bool true from hpre ⟨14, _⟩ (Array.mem_of_getElem? (i := 0) rfl) rfl _ _ rfl rfl)] at hwant; cases hwant
 case r16 =>
  refine BN fun b w hW hold hpre => ⟨fun hwant K hK => ?_, fun hwant => ?_⟩
  ·clear hwant
   have e30 : b.eval (.tmp 30) = .agg cA := hpre ⟨15, _⟩ (Array.mem_of_getElem? (i := 0) rfl) rfl _ _ rfl rfl
   exact B6 rfl (by kernel_rfl) (by simp [e30]) (HID.out w _ _ (hT.ext (BD hW)) (hcA.ext (BD hW))) fun v w' h hb => hK v w' h hb
  ·rw [Bk rfl rfl rfl (show b.eval (.tmp 29) = .bool true from hpre ⟨14, _⟩ (Array.mem_of_getElem? (i := 1) rfl) rfl _ _ rfl rfl)] at hwant; cases hwant
 case r17 =>
  refine BN fun b w hW hold hpre => ⟨fun hwant K hK => ?_, fun hwant => ?_⟩
  ·clear hwant
   have e2 : b.eval (.tmp 2) = .pointer (some ⟨w2.heap.size, 0, none⟩) := (hold 2 (by kernel_rfl)).trans rfl
   exact CN rfl e2 (hC.ext (BD hW)) Tryz.underlying96 rfl hiA (hK _ _ rfl (Below.refl _ _))
  ·rw [Bk rfl rfl rfl (show b.eval (.tmp 29) = .bool true from hpre ⟨14, _⟩ (Array.mem_of_getElem? (i := 0) rfl) rfl _ _ rfl rfl)] at hwant; cases hwant
 case r18 =>
  refine BN fun b w hW hold hpre => ⟨fun hwant K hK => ?_, fun hwant => ?_⟩
  ·clear hwant
   have e32 : b.eval (.tmp 32) = .agg cA := hpre ⟨17, _⟩ (Array.mem_of_getElem? (i := 0) rfl) rfl _ _ rfl rfl
   exact B6 rfl (by kernel_rfl) (by simp [e32]) (E2 _ FI w _ (hcA.ext (BD hW))) fun v w' h hb => hK v w' (h.imp fun _ _ _ => trivial) hb
  ·rw [Bk rfl rfl rfl (show b.eval (.tmp 29) = .bool true from hpre ⟨14, _⟩ (Array.mem_of_getElem? (i := 2) rfl) rfl _ _ rfl rfl)] at hwant; cases hwant
 case r19 =>
  refine BN fun b w hW hold hpre => ⟨fun hwant K hK => ?_, fun hwant => ?_⟩
  ·clear hwant
   have e33 : (fun (v : Value) (w : World) => Sl w (fun _ => True) 1 v (Aw FI).length (Ah (Aw FI))) (b.eval (.tmp 33)) w := hpre ⟨18, _⟩ (Array.mem_of_getElem? (i := 0) rfl) rfl _ _ rfl rfl
   obtain ⟨A, c, hp, _⟩ := Sl.shape e33
   refine CM rfl Tryz.underlying166 (ps := [(0, .slice A (Aw FI).length c)]) (by simp [hp]) (cells := #[.slice A (Aw FI).length c]) (by kernel_rfl) fun w' hX hb => hK _ _ ⟨.slice A (Aw FI).length c, (Sl.of_box (n := 1) (size := 1) hX rfl (by omega)).imp fun _ _ _ => trivial, ?_⟩ hb
   rw [<- hp]; exact Sl.ext e33 hb
  ·rw [Bk rfl rfl rfl (show b.eval (.tmp 29) = .bool true from hpre ⟨14, _⟩ (Array.mem_of_getElem? (i := 1) rfl) rfl _ _ rfl rfl)] at hwant; cases hwant
 case r20 =>
  refine BN fun b w hW hold hpre => ⟨fun hwant K hK => ?_, fun hwant => ?_⟩
  ·clear hwant
   have e34 : (fun (v : Value) (w : World) => ∃ p, Sl w (fun _ => True) 1 v 1 [p] /\ Sl w (fun _ => True) 1 p (Aw FI).length (Ah (Aw FI))) (b.eval (.tmp 34)) w := hpre ⟨19, _⟩ (Array.mem_of_getElem? (i := 0) rfl) rfl _ _ rfl rfl
   obtain ⟨p, h1, h2⟩ := e34
   exact B6 (vs := [.string FM, b.eval (.tmp 34)]) rfl (by kernel_rfl) rfl (HTL.out w (b.eval (.tmp 34)) p _ (hT.ext (BD hW)) h1 h2) fun v w' h hb => hK v w' h hb
  ·rw [Bk rfl rfl rfl (show b.eval (.tmp 29) = .bool true from hpre ⟨14, _⟩ (Array.mem_of_getElem? (i := 2) rfl) rfl _ _ rfl rfl)] at hwant; cases hwant
 case r21 =>
  refine BN fun b w hW hold hpre => ⟨fun hwant K hK => ?_, fun hwant => ?_⟩
  ·clear hwant
   have e31 : b.eval (.tmp 31) = .agg (Ah idl).toArray := hpre ⟨16, _⟩ (Array.mem_of_getElem? (i := 0) rfl) rfl _ _ rfl rfl
   have e35 : b.eval (.tmp 35) = .agg (Ah idl).toArray := hpre ⟨20, _⟩ (Array.mem_of_getElem? (i := 1) rfl) rfl _ _ rfl rfl
   exact AH rfl e31 e35 rfl (kI w) (hK _ _ rfl (Below.refl _ _))
  ·rw [Bk rfl rfl rfl (show b.eval (.tmp 29) = .bool true from hpre ⟨14, _⟩ (Array.mem_of_getElem? (i := 2) rfl) rfl _ _ rfl rfl)] at hwant; cases hwant
 case r22 =>
  refine BN fun b w hW hold hpre => ⟨fun hwant K hK => ?_, fun hwant => ?_⟩
  ·clear hwant
   have e29 : b.eval (.tmp 29) = .bool true := hpre ⟨14, _⟩ (Array.mem_of_getElem? (i := 0) rfl) rfl _ _ rfl rfl
   have e36 : b.eval (.tmp 36) = .bool true := hpre ⟨21, _⟩ (Array.mem_of_getElem? (i := 1) rfl) rfl _ _ rfl rfl
   exact JF rfl e29 (if_pos rfl) (hK _ _ e36 (Below.refl _ _))
  ·exact wo hwant
 case r23 =>
  refine BN fun b w hW hold hpre => ⟨fun hwant K hK => ?_, fun hwant => ?_⟩
  ·clear hwant
   have e37 : b.eval (.tmp 37) = .bool true := hpre ⟨22, _⟩ (Array.mem_of_getElem? (i := 0) rfl) rfl _ _ rfl rfl
   exact DX rfl e37 (hK _ _ rfl (Below.refl _ _))
  ·exact wo hwant
 case post =>
  intro b w hW hdf hsz hold hT
  have h0 : b.tmps.getD 0 undef = .bool true := hT 23 _ 0 rfl rfl
  go_wp2_with fail
  refine bodyPost_ret (v := .bool true) ?_ hdf (AE.mk rfl (Ct hB hW))
  rw [results_tmp (t := 0) rfl, h0]
end
section
open Go.RowKit
attribute [local go_sem ↓] Go.wp_at_zero Go.wp_at_succ
set_option maxRecDepth 20000
theorem AO.row {w : World} {D : Nat -> Prop} {v : Value} {c : BB} (h : AO w D v c) : ∃ cs : Array Value, v = .agg cs /\ cs.size = 35 /\ cs.all (·.oneCell') = true := by
 obtain ⟨pv, qv, rfl, h32, _, hp, hq⟩ := h.cc
 obtain ⟨A, c1, rfl, _, _⟩ := hp.shape
 obtain ⟨B, c2, rfl, _, _⟩ := hq.shape
 exact ⟨_, rfl, Ci _ _ _ _ h32, cc_one _ _ _ _ _ _ _ _⟩
end
section
open Go.RowKit
set_option maxRecDepth 20000
set_option exponentiation.threshold 5000
def restC (c : BB) : List Nat := (c.plan.flatMap fun k => AK k.toNat) ++ Ba c.cubes
theorem bytesC_ok {c : BB} (h : Bh c = 0) : Aw c = c.prob ++ (Bf c.reach ++ (AK c.plan.length ++ restC c)) := by rw [Aw, if_pos h]; rfl
theorem t64_4096 : AC <= 2 ^ 4096 := by rw [BT]; exact Nat.pow_le_pow_right (by decide) (by decide)
theorem I9 {N : Nat} (h : N < AC) : N < 2 ^ 4096 /\ (N ≠ 0 -> N.log2 <= 63) := by
 refine ⟨Nat.lt_of_lt_of_le h t64_4096, fun h0 => ?_⟩
 have := (Nat.log2_lt h0).2 (by rw [BT] at h; exact h)
 omega
end
section
open Go.RowKit
set_option maxRecDepth 20000
set_option exponentiation.threshold 5000
def C7 : Nat -> List Nat -> Int -> List Int × List Nat × Int
 | 0, l, e => ([], l, e)
 | n + 1, l, e => (((AY 63 l e).1 : Int) :: (C7 n (AY 63 l e).2.1 (AY 63 l e).2.2).1, (C7 n (AY 63 l e).2.1 (AY 63 l e).2.2).2)
def Dy (l : List Nat) (e : Int) : (Nat × Nat) × List Nat × Int :=
 (((Bm 63 l e).1, (Bm 63 (Bm 63 l e).2.1 (Bm 63 l e).2.2).1), (Bm 63 (Bm 63 l e).2.1 (Bm 63 l e).2.2).2)
def BK : Nat -> List Nat -> Int -> List (Nat × Nat) × List Nat × Int
 | 0, l, e => ([], l, e)
 | n + 1, l, e => ((Dy l e).1 :: (BK n (Dy l e).2.1 (Dy l e).2.2).1, (BK n (Dy l e).2.1 (Dy l e).2.2).2)
theorem FZ {most : Nat} {l : List Nat} {e : Int} (hb : Ao l) : Ao (Bm most l e).2.1 := by
 have hbb : Ao (AL 512 l 0).2.1 := by
  unfold AL; rw [if_pos rfl]; split
  ·exact hb
  ·split
   ·exact hb
   ·split
    ·exact hb
    ·exact fun x hx => hb x (List.mem_of_mem_drop (List.mem_of_mem_drop hx))
 unfold Bm
 split
 ·split
  ·exact hbb
  ·split
   ·exact hb
   ·split
    ·exact hb
    ·exact hbb
 ·exact hb
theorem GU : ∀ (p : List Int) (r : List Nat), (∀ k ∈ p, 0 <= k /\ k <= 63) -> C7 p.length ((p.flatMap fun k => AK k.toNat) ++ r) 0 = (p, r, 0)
 | [], r, _ => rfl
 | z :: p, r, h => by
  obtain ⟨h1, h2⟩ := h z (by simp)
  rw [List.length_cons, C7, List.flatMap_cons, List.append_assoc, readUint_putN (by unfold AC; omega) (by omega)]
  dsimp only
  rw [GU p r fun k hk => h k (by simp [hk])]
  simp; omega
theorem G0 : ∀ (q : List (Nat × Nat)) (r : List Nat), (∀ z ∈ q, z.1 < AC /\ z.2 < AC) -> BK q.length ((q.flatMap fun z => Bd z.1 z.2) ++ r) 0 = (q, r, 0)
 | [], r, _ => rfl
 | (y, n) :: q, r, h => by
  obtain ⟨h1, h2⟩ := h (y, n) (by simp)
  obtain ⟨a1, a2⟩ := I9 h1
  obtain ⟨b1, b2⟩ := I9 h2
  have e : Dy (BZ y ++ (BZ n ++ ((q.flatMap fun z => Bd z.1 z.2) ++ r))) 0 = ((y, n), (q.flatMap fun z => Bd z.1 z.2) ++ r, 0) := by
   unfold Dy
   rw [It a1 a2]
   dsimp only
   rw [It b1 b2]
  rw [List.length_cons, BK, List.flatMap_cons, List.append_assoc, Bd, List.append_assoc, e]
  dsimp only
  rw [G0 q r fun k hk => h k (by simp [hk])]
def partsB (c : BB) : List Nat := c.prob ++ (Bf c.reach ++ (AK c.plan.length ++ restC c))
def EK (ps : List Nat) : BB × List Nat × Int :=
 let a := BS 32 ps 0
 let b := BP a.2.1 a.2.2
 let n := Bc 10000 b.2.1 b.2.2
 let p := C7 n.1 n.2.1 n.2.2
 let m := Bc 2000 p.2.1 p.2.2
 let q := BK m.1 m.2.1 m.2.2
 (⟨a.1 ++ List.replicate (32 - a.1.length) 0, b.1, p.1, q.1⟩, q.2.1, q.2.2)
def Iv (ps : List Nat) : BB × Int :=
 if endE (EK ps).2.1 (EK ps).2.2 = 0 /\ Bh (EK ps).1 = 0 then ((EK ps).1, 0) else (⟨List.replicate 32 0, false, [], []⟩, 6)
theorem parseC_put {c : BB} (h32 : c.prob.length = 32) (hp : c.plan.length <= 10000 /\ ∀ k ∈ c.plan, 0 <= k /\ k <= 63) (hq : c.cubes.length <= 2000) (hs : Small c.cubes) (r : List Nat) : EK (partsB c ++ r) = (c, r, 0) := by
 have e : partsB c ++ r = c.prob ++ (Bf c.reach ++ (AK c.plan.length ++ ((c.plan.flatMap fun k => AK k.toNat) ++ (AK c.cubes.length ++ ((c.cubes.flatMap fun z => Bd z.1 z.2) ++ r))))) := by
  simp only [partsB, restC, Ba, List.append_assoc]
 unfold EK
 rw [e, Js h32]
 dsimp only
 rw [Id]
 dsimp only
 rw [Fg (by unfold AC; omega) hp.1]
 dsimp only
 rw [GU _ _ hp.2]
 dsimp only
 rw [Fg (by unfold AC; omega) hq]
 dsimp only
 rw [G0 _ _ hs]
 simp [h32]
end
section
open Go.RowKit
set_option maxRecDepth 20000
set_option exponentiation.threshold 5000
theorem GV (most : Nat) (l : List Nat) (e : Int) : (Bc most l e).1 <= most := by
 unfold Bc
 split
 ·split
  ·exact Nat.zero_le _
  ·split
   ·exact Nat.zero_le _
   ·show (Bj l 0 0).1 <= most; omega
 ·exact Nat.zero_le _
theorem readRaw_le (l : List Nat) : (BS 32 l 0).1.length <= 32 := by
 unfold BS; rw [if_pos rfl]; split <;> simp <;> omega
def Fit (c : BB) : Prop := Bh c = 0 /\ c.prob.length = 32 /\ Ao c.prob /\ (c.plan.length <= 10000 /\ ∀ k ∈ c.plan, 0 <= k /\ k <= 63) /\ c.cubes.length <= 2000 /\ Small c.cubes
theorem Fit.parse {c : BB} (h : Fit c) (r : List Nat) : EK (Aw c ++ r) = (c, r, 0) := by
 obtain ⟨h1, h2, _, h4, h5, h6⟩ := h
 rw [bytesC_ok h1]; exact parseC_put h2 h4 h5 h6 r
end
section
open Go.RowKit
attribute [local go_sem ↓] Go.wp_at_zero Go.wp_at_succ
set_option maxRecDepth 20000
theorem opw_len {P : Program} {o : Oper} {a : Act} {w : World} {K : Act -> World -> Prop} {Q : Exit -> Act -> World -> Prop} {t e : TypeId} {x : Operand} {n c : Nat} {A : Option Addr} (ho : o.op = .call { callee := .builtin .len, args := #[x], argTypes := #[t] }) (hx : a.eval x = .slice A n c) (h : P.underlying t = some (.slice e)) (hk : K (a.put o.dst (.int .i64 n)) w) : o.wp P a w K Q := by
 have hr : (Builtin.len_ #[t] o.type #[.slice A n c]).run P w = .ok (.int .i64 (n : Nat)) w := by
  simp [Builtin.len_, run_underlying h]; rfl
 unfold Oper.wp execOp
 simp only [ho, resolve, invoke, builtin, Sem.run_bind, Sem.run_pure, Result.andThen_ok, List.map_toArray, List.map_cons, List.map_nil, hx, hr]
 exact hk
theorem st_gstore {P : Program} {ops : Array Oper} {rest : List Oper} {o : Oper} {a : Act} {w0 w : World} {F : List Ae} {K : (Nat -> Prop) -> World -> Prop} {Q : Exit -> Act -> World -> Prop} (h : St w0 w F K) (i : Nat) (hg : o.guard = none) (ty : TypeId) (x y : Operand) (ho : o.op = .store ty x y) (g j : Nat) (u : Value) (hx : a.eval x = .pointer (some ⟨g, j, none⟩)) (hy : a.eval y = .agg #[u]) {t : TypeId} {cs : Array Value} (hb : F[i]? = some (.box g t cs)) (hi : j < cs.size)
  (h1 : u.oneCell' = true) (hs : (P.info? ty).map (·.size) = some 1) (hk : ∀ w', St w0 w' (F.set i (.box g t (cs.setIfInBounds j u))) K -> wpList P ops Q rest (a.put o.dst undef) w') : wpList P ops Q (o :: rest) a w := by
 have hB := h.box i hb
 refine wpList_store_mid hg ty x y ho g j #[u] hx hy (fun k hk => ?_) hs (by simpa using h1) ?_
 ·obtain rfl : k = 0 := by simpa using hk
  exact ⟨by rw [hB.cell]; simp [hi], hB.free _⟩
 ·refine hk _ (h.upd i hb (.box g t (cs.setIfInBounds j u)) (BI (Bz w g j u)) ⟨(h.holds _ (List.mem_of_getElem? hb)).1, hB.setC u⟩ fun _ e => .inl e)
end
section
open Go.RowKit
attribute [local go_sem ↓] Go.wp_at_zero Go.wp_at_succ
set_option maxRecDepth 20000
theorem opw_copyb {P : Program} {o : Oper} {a : Act} {w : World} {K : Act -> World -> Prop} {Q : Exit -> Act -> World -> Prop} {x y : Operand} {dT sT elem t : TypeId} {g m n : Nat} {cs : Array Value} {v : Value} {xs : List Value} {D : Nat -> Prop}
  (ho : o.op = .call { callee := .builtin .copy, args := #[x, y], argTypes := #[dT, sT] }) (hu : P.underlying dT = some (.slice elem)) (hsz : (P.info? elem).map (·.size) = some 1)
  (hd : a.eval x = .slice (some ⟨g, 0, none⟩) m m) (hs : a.eval y = v) (hb : AP w g t cs) (hm : m <= cs.size) (hv : Sl w D 1 v n xs) (hn : n <= m) (h1 : ∀ u ∈ xs, u.oneCell' = true)
  (hk : ∀ w', AP w' g t (xs ++ cs.toList.drop n).toArray -> Hs g w w' -> K (a.put o.dst (.int .i64 n)) w') : o.wp P a w K Q := by
 obtain ⟨hl, A, c, rfl, _, _, hc⟩ := hv
 have hl' : xs.length = n := by omega
 rcases Nat.eq_zero_or_pos n with h0 | h0
 ·subst h0
  obtain rfl := List.eq_nil_of_length_eq_zero hl'
  have hrun := run_copy_none (P := P) w dT sT o.type elem (some ⟨g, 0, none⟩) A m m 0 c hu hsz (by simp)
  unfold Oper.wp
  simp [execOp, ho, resolve, invoke, builtin, hd, hs, hrun, Result.andThen]
  exact hk w (by simpa using hb) ⟨rfl, rfl, rfl, rfl, fun _ _ => rfl⟩
 ·obtain ⟨b, j, rfl, _, _, hc⟩ := hc h0
  have hrun := run_copy_row (P := P) w dT sT o.type elem g 0 m m ⟨b, j, none⟩ n c cs t xs hu hsz hb (by rw [hl']; exact (Nat.min_eq_left hn).symm) (fun i u hi => by rw [Addr.add_mid]; exact hc i u hi) (by omega) h1
  unfold Oper.wp
  simp [execOp, ho, resolve, invoke, builtin, hd, hs, hrun, Result.andThen]
  have e : goInt xs.length = .int .i64 n := by rw [hl']; rfl
  rw [e]
  refine hk _ ?_ ⟨rfl, rfl, rfl, by simp, fun k hk => setRow_other _ _ _ _ hk⟩
  have := setRow_heap w g cs (xs ++ cs.toList.drop n).toArray t (0, 0) hb
  simpa [hl', AP] using this
theorem opw_slarr {P : Program} {o : Oper} {a : Act} {w : World} {K : Act -> World -> Prop} {Q : Exit -> Act -> World -> Prop} {t e : TypeId} {x : Operand} {n s : Nat} {p : Addr} (ho : o.op = .slice t x none none none) (hx : a.eval x = .pointer (some p)) (ht : P.underlying t = some (.array n e)) (hs : (P.info? e).map (·.size) = some s) (hn : 0 < n) (hk : K (a.put o.dst (.slice (some p) n n)) w) : o.wp P a w K Q := by
 refine Cv (v := .slice (some p) n n) ?_ hk
 cases hi : P.info? e with
 | none => simp [hi] at hs
 | some inf =>
  simp [execOp, ho, hx, Instr.sliceAt, Instr.sureAddr, run_underlying ht, Instr.sliceBounds, sizeOf, typeInfo, hi, Addr.add]
theorem cc_set32 (prob : List Nat) (r b : Bool) (pv qv : Value) (h : prob.length = 32) : (cc prob r pv qv).setIfInBounds 32 (.bool b) = cc prob b pv qv := by
 simp [cc, Ah, h, List.set_append]
theorem cc_fill (r : List Nat) (n : Nat) (h : r.length <= n) (b : Bool) (pv qv : Value) : (Ah r ++ (cc (List.replicate n 0) b pv qv).toList.drop r.length).toArray = cc (r ++ List.replicate (n - r.length) 0) b pv qv := by
 have e : ((Ah (List.replicate n 0)).drop r.length) = Ah (List.replicate (n - r.length) 0) := by simp [Ah]
 unfold cc
 rw [List.drop_append_of_le_length (by simp [Ah]; exact h), e, ED, List.append_assoc]
theorem Df {xs : List Value} {l : List (Nat × Nat)} : AB fun D w => Aj w D xs l := fun D D' w w' h a b c i y n hi => by
 obtain ⟨u, v, h1, h2, h3, h4⟩ := h i y n hi
 exact ⟨u, v, h1, h2, Ac D D' w w' h3 a b c, Ac D D' w w' h4 a b c⟩
theorem Iu {most : Nat} {l : List Nat} {e : Int} : (Bm most l e).2.1.length <= l.length := by
 have hbb : (AL 512 l 0).2.1.length <= l.length := by
  unfold AL; rw [if_pos rfl]; split
  ·exact Nat.le_refl _
  ·split
   ·exact Nat.le_refl _
   ·split
    ·exact Nat.le_refl _
    ·simp only [List.length_drop]; omega
 unfold Bm
 split
 ·split
  ·exact hbb
  ·split
   ·exact Nat.le_refl _
   ·split
    ·exact Nat.le_refl _
    ·exact hbb
 ·exact Nat.le_refl _
theorem AO.of_cc {w : World} {D : Nat -> Prop} {prob : List Nat} {reach : Bool} {pv qv : Value} {plan : List Int} {cubes : List (Nat × Nat)} (h32 : prob.length = 32) (hb : Ao prob) (hp : Sl w D 1 pv plan.length (AV plan)) (hq : Af w D qv cubes) : AO w D (.agg (Go.Proofs.YtchjigffejhmfaaGreatDoor.cc prob reach pv qv)) ⟨prob, reach, plan, cubes⟩ := by
 refine ⟨_, pv, qv, rfl, Ci _ _ _ _ h32, h32, hb, fun i hi => ?_, (cc_at _ _ _ _ h32).1, (cc_at _ _ _ _ h32).2.1, (cc_at _ _ _ _ h32).2.2, hp, hq⟩
 simp only [Go.Proofs.YtchjigffejhmfaaGreatDoor.cc, List.getElem?_toArray]
 rw [List.getElem?_append_left (by simp [Ah]; omega)]
 exact Ce _ _ (by omega)
theorem Ao.rep (n : Nat) : Ao (List.replicate n 0) := fun x hx => by rw [(List.mem_replicate.1 hx).2]; decide
theorem readRaw_bytes {n : Nat} {l : List Nat} (hb : Ao l) : Ao (BS n l 0).1 := by
 unfold BS; rw [if_pos rfl]; split
 ·exact fun x hx => by simp at hx
 ·exact fun x hx => hb x (List.mem_of_mem_take hx)
theorem st_alloczb {P : Program} {ops : Array Oper} {rest : List Oper} {o : Oper} {a : Act} {w0 w : World} {F : List Ae} {K : (Nat -> Prop) -> World -> Prop} {Q : Exit -> Act -> World -> Prop} (h : St w0 w F K) (hg : o.guard = none) (t : TypeId) (ho : o.op = .alloc t) (hz : ((P.info? t).bind (·.zero)).isSome = true) (zs : Array Value) (hzs : zeroCells P t = zs)
  (hk : ∀ g w', St w0 w' (.box g t zs :: F) K -> Below w.heap.size w w' -> wpList P ops Q rest (a.put o.dst (.pointer (some ⟨g, 0, none⟩))) w') : wpList P ops Q (o :: rest) a w :=
 Cj hg t ho hz fun w' hX hb => hk _ w' (hzs ▸ h.new hb _ ⟨Nat.le_refl _, hX⟩) hb
set_option maxHeartbeats 4000000 in
theorem cread_any {w0 w : World} {F0 : List Ae} {K : (Nat -> Prop) -> World -> Prop} (p : Value) (ps : List Nat) (hb : Ao ps) (hl : ps.length <= 1000000) (hS : St w0 w F0 K) {D : Nat -> Prop} (hp : Sl w D 1 p ps.length (Ah ps)) :
  Calls Tryz.prog 47 #[p] w fun x w' => ∃ v, x = .returned (.tuple #[v, .int .i64 (Iv ps).2]) /\ St w0 w' F0 fun D w => K D w /\ AO w D v (Iv ps).1 := by
 obtain ⟨A, c, rfl, _, _⟩ := hp.shape
 have HP0 := Lib.hid hp
 clear hp
 obtain ⟨Z, hZ⟩ : ∃ Z, Z = cc (List.replicate 32 0) false (.slice none 0 0) (.slice none 0 0) := ⟨_, rfl⟩
 have HZ := Lib.hid (show zeroCells Tryz.prog 96 = Z by rw [hZ]; kernel_rfl)
 have HZZ := Lib.hid hZ
 clear hZ
 go_enter Tryz.func47, Tryz.ntmps47
 go_wp2_with (first
  | ((with_reducible refine qA 2 ?_); refine st_alloczb hS rfl _ rfl (by kernel_rfl) Z HZ.out ?_; clear hS; intro g2 w_ hS hb_; replace HP0 := Lib.hid (HP0.out.ext hb_); clear hb_; (try simp only [Act.put, Act.eval, zz, Value.cells] at hS))
  | (go_at_call 115; refine (rnew_any _ ps (by omega) hS HP0.out).mono ?_; rintro r_ w1 ⟨q, rfl, hR⟩; clear hS; obtain ⟨hKs, A1, c1, m1, m2, hS⟩ := hR)
  | ((with_reducible refine qA 5 ?_); refine Ep hS rfl _ rfl (by kernel_rfl) Z HZ.out ?_; clear hS; intro g5 w_ hS; (try simp only [Act.put, Act.eval, zz, Value.cells] at hS)))
 have HKs := Lib.hid hKs
 clear hKs
 obtain ⟨⟨r, l1, e1⟩, hRW⟩ : ∃ V, V = BS 32 ps 0 := ⟨_, rfl⟩
 have hr32 : r.length <= 32 := by have := readRaw_le ps; rw [<- hRW] at this; exact this
 have HRaw := Lib.hid (show ∀ w, Rd w0 w (.box g5 96 Z :: .box g2 96 Z :: F0) K q ps 0 -> _ from fun w h => by
  have := rraw_any 32 (by omega) h
  rw [<- hRW] at this; exact this)
 obtain ⟨Z1, hZ1⟩ : ∃ Z1, Z1 = cc (r ++ List.replicate (32 - r.length) 0) false (.slice none 0 0) (.slice none 0 0) := ⟨_, rfl⟩
 have HZ1 := Lib.hid (show (Ah r ++ Z.toList.drop r.length).toArray = Z1 by
  rw [hZ1, HZZ.out]; exact cc_fill r 32 hr32 _ _ _)
 have HZs := Lib.hid (show 32 <= Z.size by rw [HZZ.out, Ci _ _ _ _ (by simp)]; decide)
 have h0d : Rd w0 w_.drew (.box g5 96 Z :: .box g2 96 Z :: F0) K q ps 0 := ⟨HKs.out, A1, c1, m1, m2, hS.swap.drew⟩
 have hrb : Ao (r ++ List.replicate (32 - r.length) 0) := by
  have h1 : Ao r := by have := readRaw_bytes (n := 32) hb; rw [<- hRW] at this; exact this
  intro x hx
  rcases List.mem_append.1 hx with h | h
  ·exact h1 x h
  ·exact Ao.rep _ x h
 have HRB := Lib.hid hrb
 clear hrb
 have HRW := Lib.hid hRW
 have hp32 : (r ++ List.replicate (32 - r.length) 0).length = 32 := by simp; omega
 have HP32 := Lib.hid hp32
 have HZ1c := Lib.hid hZ1
 clear hRW hZ1 hp32
 refine wp_zS [3, 4] [some (.pointer (some ⟨g5, 0, none⟩)), some (.slice (some ⟨g5, 0, none⟩) 32 32), some (.pointer (some ⟨q, 0, none⟩)), none, none] (fun vs w => match vs with | [] => Rd w0 w (.box g5 96 Z :: .box g2 96 Z :: F0) K q ps 0 | [v] => Rd w0 w (.box g5 96 Z :: .box g2 96 Z :: F0) (fun D w => K D w /\ Sl w D 1 v r.length (Ah r)) q l1 e1 | [_, _] => Rd w0 w (.box g5 96 Z1 :: .box g2 96 Z :: F0) K q l1 e1 | _ => False) ?_ ⟨vF, ?_, vM, ?_, ?_, trivial⟩ ?_
 ·first | assumption | (dsimp only; assumption)
 ·refine vR 0 1 fun b__ w vs hS h1 h2 hE K hK => ?_
  rcases vs with _ | ⟨x0, _ | ⟨x1, vs⟩⟩ <;> first | (exfalso; first | exact hS | (revert h1 h2; simp <;> omega); done) | ((have e11 := hE 11); (exact opw_slarr (s := 1) rfl e11 Tryz.underlying87 (by kernel_rfl) (by decide) (hK _ rfl)))
 ·refine vX 0 fun b__ w vs hS hl hE K hK => ?_
  obtain rfl := Gv hl
  have e13 := hE 13
  exact C8 rfl (by kernel_rfl) (by simp only [List.map_cons, List.map_nil, e13]; rfl) (HRaw.out w hS) fun e w' ⟨v, he, h⟩ => ⟨v, he, hK v w' h⟩
 ·refine vX 1 fun b__ w vs hS hl hE K hK => ?_
  obtain ⟨x0, rfl⟩ := Fz hl
  have e12 := hE 12
  have e14 := hE 14
  obtain ⟨hk1, A3, c3, n1, n2, h3⟩ := hS
  refine opw_copyb rfl Tryz.underlying22 (by kernel_rfl) e12 e14 (h3.box 1 rfl) HZs.out h3.ro.1.2 hr32 (D3 _) ?_
  intro w' hbx hup
  rw [HZ1.out] at hbx
  exact hK _ _ ⟨HKs.out, A3, c3, n1, n2, (h3.upd 1 rfl (.box g5 96 Z1) (BI hup) ⟨(h3.holds _ (List.mem_of_getElem? (i := 1) rfl)).1, hbx⟩ fun _ e => .inl e).mono (HKs.out.and Ab) fun D w h => ⟨h.1.1, h.2⟩⟩
 ·intro us wz vs hS hl hT
  obtain ⟨x0, x1, rfl⟩ := Fy hl
  obtain ⟨e11, e12, e13, e14, e15, -⟩ := hT
  clear hl
  simp only [AM, Act.put, zz, ze]
  have hl1 : l1.length <= ps.length /\ Ao l1 := by
   have e : l1 = (BS 32 ps 0).2.1 := by rw [<- HRW.out]
   rw [e]; unfold BS; rw [if_pos rfl]; split
   ·exact ⟨Nat.le_refl _, hb⟩
   ·exact ⟨by simp, fun x hx => hb x (List.mem_of_mem_drop hx)⟩
  obtain ⟨hl1, hb1⟩ := hl1
  clear h0d HRaw
  go_wp2_with fail
  refine (rflag_any (by omega) hb1 hS).mono ?_
  rintro r_ w4 ⟨rfl, hR⟩
  clear hS
  obtain ⟨⟨fl, l2, e2⟩, hF⟩ : ∃ V, V = BP l1 e1 := ⟨_, rfl⟩
  rw [<- hF] at hR ⊢
  have HF := Lib.hid hF
  dsimp only at hR ⊢
  obtain ⟨-, A4, c4, n1, n2, hS⟩ := hR
  have hl2 : l2.length <= l1.length /\ Ao l2 := by
   have e : l2 = (BP l1 e1).2.1 := by rw [<- HF.out]
   rw [e]; unfold BP; split
   ·cases l1 with
    | nil => exact ⟨Nat.le_refl _, hb1⟩
    | cons y r' =>
     dsimp only; split
     ·exact ⟨Nat.le_refl _, hb1⟩
     ·exact ⟨by simp, fun x hx => hb1 x (by simp [hx])⟩
   ·exact ⟨Nat.le_refl _, hb1⟩
  obtain ⟨hl2, hb2⟩ := hl2
  clear hF
  obtain ⟨Z2, hZ2⟩ : ∃ Z2, Z2 = cc (r ++ List.replicate (32 - r.length) 0) fl (.slice none 0 0) (.slice none 0 0) := ⟨_, rfl⟩
  have HZ2 := Lib.hid (show Z1.setIfInBounds 32 (.bool fl) = Z2 by rw [hZ2, HZ1c.out]; exact cc_set32 _ _ _ _ _ HP32.out)
  have HZ1s := Lib.hid (show 32 < Z1.size by rw [HZ1c.out, Ci _ _ _ _ HP32.out]; decide)
  have HZ2c := Lib.hid hZ2
  clear hZ2
  go_wp2_with (first
   | ((with_reducible show wpList _ _ _ (⟨none, .store 4 _ _, _, _, _, _⟩ :: _) _ _); refine I8 hS 1 rfl _ _ _ rfl g5 32 (.bool fl) rfl rfl rfl HZ1s.out rfl rfl (by kernel_rfl) ?_; clear hS; intro w_ hS; (try simp only [Act.put, Act.eval, zz, Value.cells] at hS); rw [HZ2.out] at hS))
  have hR : Rd w0 w_ (.box g5 96 Z2 :: .box g2 96 Z :: F0) K q l2 e2 := ⟨HKs.out, A4, c4, n1, n2, hS⟩
  clear hS
  refine (Jt 10000 (by decide) (by omega) hb2 hR).mono ?_
  rintro r_ w5 ⟨rfl, hR⟩
  obtain ⟨⟨N0, l3, e3⟩, hN⟩ : ∃ V, V = Bc 10000 l2 e2 := ⟨_, rfl⟩
  rw [<- hN] at hR ⊢
  have hn0 : N0 <= 10000 := by have := GV 10000 l2 e2; rw [<- hN] at this; exact this
  have hl3 : l3.length <= l2.length /\ Ao l3 := by
   have e : l3 = (Bc 10000 l2 e2).2.1 := by rw [<- hN]
   rw [e]; unfold Bc; split
   ·split
    ·exact ⟨Nat.le_refl _, hb2⟩
    ·split
     ·exact ⟨Nat.le_refl _, hb2⟩
     ·exact ⟨by simp, fun x hx => hb2 x (List.mem_of_mem_drop hx)⟩
   ·exact ⟨Nat.le_refl _, hb2⟩
  obtain ⟨hl3, hb3⟩ := hl3
  have HN := Lib.hid hN
  clear hN
  dsimp only at hR ⊢
  have hl9 : l3.length <= 1000000 := by omega
  clear hl3 hl2 hl1
  obtain ⟨⟨PL, PR⟩, hP⟩ : ∃ V, V = C7 N0 l3 e3 := ⟨_, rfl⟩
  have HP := Lib.hid hP
  go_wp2_with fail
  obtain ⟨-, A5, c5, n3, n4, hS⟩ := hR
  have hR : Rd w0 w5 (.own (.slice none 0 0) 3 1 0 [] :: .box g5 96 Z2 :: .box g2 96 Z :: F0) K q l3 e3 := ⟨HKs.out, A5, c5, n3, n4, (hS.nil 3 1).swap⟩
  clear hS
  rw [HZ2c.out] at hR
  go_loopw [6] (fun i wr => ∃ (m : Nat) (acc : List Int) (l : List Nat) (e : Int) (pv : Value), i = .int .i64 m /\ acc.length + m = N0 /\ acc ++ (C7 m l e).1 = PL /\ (C7 m l e).2 = PR /\ Ao l /\ l.length <= 1000000 /\ Rd w0 wr (.own pv 3 1 acc.length (AV acc) :: .box g5 96 (cc (r ++ List.replicate (32 - r.length) 0) fl pv (.slice none 0 0)) :: .box g2 96 Z :: F0) K q l e) (fun i _ => (intOf i).toNat)
  case atStart => exact ⟨N0, [], l3, e3, .slice none 0 0, rfl, by simp, by rw [<- hP]; rfl, by rw [<- hP], hb3, hl9, hR⟩
  case round =>
   clear hR
   obtain ⟨m, acc, l, e, pv, rfl, hm, ha, hp, hbl, hll, hR⟩ := hrel
   have HA := Lib.hid ha
   have HPP := Lib.hid hp
   clear ha hp
   obtain ⟨CP, hCP⟩ : ∃ C, C = cc (r ++ List.replicate (32 - r.length) 0) fl pv (.slice none 0 0) := ⟨_, rfl⟩
   rw [<- hCP] at hR
   have HCP := Lib.hid hCP
   clear hCP
   by_cases hm0 : 0 < m
   ·go_wp2_with fail
    obtain ⟨X, hX⟩ : ∃ X : List Ae, X = (.own pv 3 1 acc.length (AV acc) :: .box g5 96 CP :: .box g2 96 Z :: F0) := ⟨_, rfl⟩
    rw [<- hX] at hR
    obtain ⟨⟨z, l', e'⟩, hU⟩ : ∃ V, V = AY 63 l e := ⟨_, rfl⟩
    have HNum := Lib.hid (show ∀ w, Rd w0 w X K q l e -> _ from fun w h => by
     have := rnumberm_any 63 (by decide) (by omega) hbl h
     rw [<- hU] at this; exact this)
    have hbx : ∀ (K' : (Nat -> Prop) -> World -> Prop) (l : List Nat) (e : Int) (w : World), Rd w0 w X K' q l e -> w.cell? ⟨g5, 33, none⟩ = some pv := fun K' l e w h => by
     rw [hX] at h
     obtain ⟨-, _, _, -, -, hS⟩ := h
     rw [(hS.box 2 rfl).cell, HCP.out]; exact (cc_at _ _ _ _ HP32.out).2.1
    have HBX := Lib.hid hbx
    have HCPs := Lib.hid (show 33 < CP.size by rw [HCP.out, Ci _ _ _ _ HP32.out]; decide)
    have h0d : Rd w0 wr.drew X K q l e := by
     obtain ⟨h1, A6, c6, h2, h3, hS⟩ := hR
     exact ⟨h1, A6, c6, h2, h3, hS.drew⟩
    have HU := Lib.hid hU
    clear hbx hU
    refine wp_zS [3, 4, 5, 7] [some (.pointer (some ⟨g5, 33, none⟩)), some (pv), some (.pointer (some ⟨q, 0, none⟩)), none, none, none, some (.pointer (some ⟨g5, 33, none⟩)), none] (fun vs w => match vs with | [] => Rd w0 w X K q l e | [v] => v = .int .i64 z /\ Rd w0 w X K q l' e' | [_, u] => Rd w0 w X (fun D w => K D w /\ Sl w D 1 u 1 [.int .i64 z]) q l' e' | [_, _, p'] => Rd w0 w (.own p' 3 1 (acc.length + 1) (AV acc ++ [.int .i64 z]) :: .box g5 96 CP :: .box g2 96 Z :: F0) K q l' e' | [_, _, p', _] => Rd w0 w (.own p' 3 1 (acc.length + 1) (AV acc ++ [.int .i64 z]) :: .box g5 96 (CP.setIfInBounds 33 p') :: .box g2 96 Z :: F0) K q l' e' | _ => False) ?_ ⟨vF, ?_, vM, ?_, ?_, ?_, vF, ?_, trivial⟩ ?_
    ·first | assumption | (dsimp only; assumption)
    ·refine vR 0 2 fun b__ w vs hS h1 h2 hE K hK => ?_
     rcases vs with _ | ⟨x0, _ | ⟨x1, _ | ⟨x2, vs⟩⟩⟩ <;> first | (exfalso; first | exact hS | (revert h1 h2; simp <;> omega); done) | ((have e25 := hE 25); (first | exact Aq rfl e25 (by kernel_rfl) (HBX.out _ _ _ _ hS) (hK _ rfl) | exact Aq rfl e25 (by kernel_rfl) (HBX.out _ _ _ _ hS.2) (hK _ rfl)))
    ·refine vX 0 fun b__ w vs hS hl hE K hK => ?_
     obtain rfl := Gv hl
     have e27 := hE 27
     exact C8 rfl (by kernel_rfl) (by simp only [List.map_cons, List.map_nil, e27]; rfl) (HNum.out w hS) fun e w' ⟨he, h⟩ => ⟨_, he, hK _ w' ⟨rfl, h⟩⟩
    ·refine vX 1 fun b__ w vs hS hl hE K hK => ?_
     obtain ⟨x0, rfl⟩ := Fz hl
     have e28 := hE 28
     obtain ⟨rfl, hk1, A7, c7, o1, o2, h3⟩ := hS
     refine CM (ps := [(0, .int .i64 z)]) (cells := #[.int .i64 z]) rfl Tryz.underlying74 (by simp [e28]) (by kernel_rfl) ?_
     intro w' hbx hbel
     exact hK _ w' ⟨HKs.out.and Ab, A7, c7, o1, o2, (h3.ret hbel Ab (⟨by simp, _, 1, rfl, by omega, by unfold maxLen; omega, fun _ => ⟨w.heap.size, 0, rfl, Nat.le_refl _, hbx.lt, fun j x hj => by rw [Nat.zero_add]; exact (hbx.cell j).trans (by simpa using hj)⟩⟩ : Sl w' (w.heap.size <= ·) 1 (.slice (some ⟨w.heap.size, 0, none⟩) 1 1) 1 [.int .i64 z])).mono ((HKs.out.and Ab).and Ab) fun D w h => ⟨⟨h.1.1, h.2⟩, h.1.2⟩⟩
    ·refine vX 2 fun b__ w vs hS hl hE K hK => ?_
     obtain ⟨x0, x1, rfl⟩ := Fy hl
     have e26 := hE 26
     have e29 := hE 29
     obtain ⟨hk1, A7, c7, o1, o2, h3⟩ := hS
     rw [hX] at h3
     refine EN rfl EE e26 (h3.own 1 rfl) e29 h3.ro.1.2 (by intro u hu; simp at hu; subst hu; rfl) (by omega) (by omega) h3.size ?_
     intro v' w' ho hg hat
     exact hK v' w' ⟨HKs.out, A7, c7, o1, o2, (h3.upd 1 rfl (.own v' 3 1 (acc.length + 1) (AV acc ++ [Value.int .i64 (z : Nat)])) hg ho hat).mono (HKs.out.and Ab) fun D w h => ⟨h.1.1, h.2⟩⟩
    ·refine vX 3 fun b__ w vs hS hl hE K hK => ?_
     obtain ⟨x0, x1, x2, rfl⟩ := Gu hl
     have e31 := hE 31
     have e30 := hE 30
     obtain ⟨hk1, A7, c7, o1, o2, h3⟩ := hS
     refine DW rfl e31 e30 (h3.box 2 rfl) HCPs.out (Ig (h3.own 1 rfl)) (own_one (h3.own 1 rfl)) (by kernel_rfl) ?_
     intro w' hbx hup
     exact hK _ w' ⟨HKs.out, A7, c7, o1, o2, h3.upd 2 rfl (.box g5 96 (CP.setIfInBounds 33 x2)) (BI hup) ⟨(h3.holds _ (List.mem_of_getElem? (i := 2) rfl)).1, hbx⟩ fun _ e => .inl e⟩
    ·intro us wz vs hS hl hT
     obtain ⟨x0, x1, x2, x3, rfl⟩ := IX hl
     obtain ⟨e25, e26, e27, e28, e29, e30, e31, -⟩ := hT
     clear hl
     simp only [AM, Act.put, zz, ze]
     have hlb : l'.length <= l.length /\ Ao l' := by
      have e9 : l' = (AY 63 l e).2.1 := by rw [<- HU.out]
      rw [e9]; unfold AY; split
      ·split
       ·exact ⟨Nat.le_refl _, hbl⟩
       ·split
        ·exact ⟨Nat.le_refl _, hbl⟩
        ·exact ⟨by simp, fun x hx => hbl x (List.mem_of_mem_drop hx)⟩
      ·exact ⟨Nat.le_refl _, hbl⟩
     have hCP2 : CP.setIfInBounds 33 x2 = cc (r ++ List.replicate (32 - r.length) 0) fl x2 (.slice none 0 0) := by rw [HCP.out]; exact cc_set33 _ _ _ _ _ HP32.out
     have hR9 : Rd w0 wz (.own x2 3 1 (acc.length + 1) (AV acc ++ [Value.int .i64 (z : Nat)]) :: .box g5 96 (CP.setIfInBounds 33 x2) :: .box g2 96 Z :: F0) K q l' e' := hS
     rw [hCP2] at hR9
     have HR9 := Lib.hid hR9
     have HLB := Lib.hid hlb
     clear hR9 hCP2 hlb hS h0d
     go_wp2_with fail
     obtain ⟨m', rfl⟩ : ∃ m', m = m' + 1 := ⟨m - 1, by omega⟩
     have hrn : C7 (m' + 1) l e = ((z : Int) :: (C7 m' l' e').1, (C7 m' l' e').2) := by rw [C7, <- HU.out]
     have ha := HA.out
     have hp := HPP.out
     rw [hrn] at ha hp
     refine ⟨⟨m', acc ++ [(z : Int)], l', e', x2, by go_num, by simp; omega, by rw [List.append_assoc]; exact ha, hp, HLB.out.2, by have := HLB.out.1; omega, ?_⟩, by simp [intOf]⟩
     have h := HR9.out
     simpa [AV] using h
   ·obtain rfl : m = 0 := by omega
    go_wp2_with fail
    simp only [Int.natCast_zero]
    obtain ⟨-, A6, c6, a1, a2, hS⟩ := hR
    replace hS := hS.freeze 1 (by decide) rfl
    have hacc : acc = PL := by have := HA.out; simpa [C7] using this
    have hlr : (l, e) = PR := HPP.out
    have HPL := Lib.hid hacc
    have HPR := Lib.hid hlr
    clear hacc hlr HA HPP
    have hR1 : Rd w0 wr (.box g5 96 CP :: .box g2 96 Z :: F0) (fun D w => K D w /\ Sl w D 1 pv acc.length (AV acc)) q l e := ⟨HKs.out.and Ab, A6, c6, a1, a2, hS.mono ((HKs.out.and Ab).and Ab) fun D w h => ⟨⟨h.1.1, h.2⟩, h.1.2⟩⟩
    clear hS
    refine (Jt 2000 (by decide) (by omega) hbl hR1).mono ?_
    rintro r_ w6 ⟨rfl, hR2⟩
    obtain ⟨⟨M0, l4, e4⟩, hM⟩ : ∃ V, V = Bc 2000 l e := ⟨_, rfl⟩
    rw [<- hM] at hR2 ⊢
    have hm0 : M0 <= 2000 := by have := GV 2000 l e; rw [<- hM] at this; exact this
    have hl4 : l4.length <= l.length /\ Ao l4 := by
     have e9 : l4 = (Bc 2000 l e).2.1 := by rw [<- hM]
     rw [e9]; unfold Bc; split
     ·split
      ·exact ⟨Nat.le_refl _, hbl⟩
      ·split
       ·exact ⟨Nat.le_refl _, hbl⟩
       ·exact ⟨by simp, fun x hx => hbl x (List.mem_of_mem_drop hx)⟩
     ·exact ⟨Nat.le_refl _, hbl⟩
    obtain ⟨hl4, hb4⟩ := hl4
    have HM := Lib.hid hM
    clear hM hR1
    dsimp only at hR2 ⊢
    have hl9 : l4.length <= 1000000 := by omega
    clear hl4 hll hbl
    obtain ⟨⟨QL, QR⟩, hQ⟩ : ∃ V, V = BK M0 l4 e4 := ⟨_, rfl⟩
    have HQ := Lib.hid hQ
    go_wp2_with fail
    obtain ⟨-, A7, c7, o3, o4, hS⟩ := hR2
    obtain ⟨K1, hK1, hKs1, hK1k, hK1p⟩ : ∃ K1 : (Nat -> Prop) -> World -> Prop, K1 = (fun D w => K D w /\ Sl w D 1 pv acc.length (AV acc)) /\ AB K1 /\ (∀ D w, K1 D w -> K D w) /\ (∀ D w, K1 D w -> Sl w D 1 pv acc.length (AV acc)) := ⟨_, rfl, HKs.out.and Ab, fun _ _ h => h.1, fun _ _ h => h.2⟩
    rw [<- hK1] at hS
    have HKs1 := Lib.hid hKs1
    have HK1p := Lib.hid hK1p
    have HK1k := Lib.hid hK1k
    clear hK1 hKs1 hK1k hK1p
    have hR : Rd w0 w6 (.own (.slice none 0 0) 56 2 0 [] :: .box g5 96 CP :: .box g2 96 Z :: F0) (fun D w => K1 D w /\ Aj w D [] []) q l4 e4 := ⟨HKs1.out.and Df, A7, c7, o3, o4, (hS.nil 56 2).swap.mono ((HKs1.out.and Df).and Ab) fun D w h => ⟨⟨h.1, Aj.nil⟩, h.2⟩⟩
    clear hS
    rw [HCP.out] at hR
    go_loopw [7] (fun i wr => ∃ (m : Nat) (acc2 : List (Nat × Nat)) (xs : List Value) (l : List Nat) (e : Int) (qv : Value), i = .int .i64 m /\ acc2.length + m = M0 /\ acc2 ++ (BK m l e).1 = QL /\ (BK m l e).2 = QR /\ Ao l /\ l.length <= 1000000 /\ Rd w0 wr (.own qv 56 2 acc2.length xs :: .box g5 96 (cc (r ++ List.replicate (32 - r.length) 0) fl pv qv) :: .box g2 96 Z :: F0) (fun D w => K1 D w /\ Aj w D xs acc2) q l e) (fun i _ => (intOf i).toNat)
    case atStart => exact ⟨M0, [], [], l4, e4, .slice none 0 0, rfl, by simp, by rw [<- hQ]; rfl, by rw [<- hQ], hb4, hl9, hR⟩
    case round =>
     clear hR
     obtain ⟨m, acc2, xs, l, e, qv, rfl, hm, ha, hp, hbl, hll, hR⟩ := hrel
     have HA := Lib.hid ha
     have HPP := Lib.hid hp
     clear ha hp
     obtain ⟨CQ, hCQ⟩ : ∃ C, C = cc (r ++ List.replicate (32 - r.length) 0) fl pv qv := ⟨_, rfl⟩
     rw [<- hCQ] at hR
     have HCQ := Lib.hid hCQ
     clear hCQ
     by_cases hm0 : 0 < m
     ·obtain ⟨⟨Y, l1', e1'⟩, hU⟩ : ∃ V, V = Bm 63 l e := ⟨_, rfl⟩
      obtain ⟨⟨N, l2', e2'⟩, hU2⟩ : ∃ V, V = Bm 63 l1' e1' := ⟨_, rfl⟩
      have hlb1 : l1'.length <= l.length /\ Ao l1' := by
       have e9 : l1' = (Bm 63 l e).2.1 := by rw [<- hU]
       rw [e9]; exact ⟨Iu, FZ hbl⟩
      have hlb2 : l2'.length <= l1'.length /\ Ao l2' := by
       have e9 : l2' = (Bm 63 l1' e1').2.1 := by rw [<- hU2]
       rw [e9]; exact ⟨Iu, FZ hlb1.2⟩
      have hrn : BK m l e = ((Y, N) :: (BK (m - 1) l2' e2').1, (BK (m - 1) l2' e2').2) := by
       obtain ⟨m', rfl⟩ : ∃ m', m = m' + 1 := ⟨m - 1, by omega⟩
       rw [BK, Dy, <- hU]; dsimp only; rw [<- hU2]; rfl
      have ha := HA.out
      have hp := HPP.out
      rw [hrn] at ha hp
      have HA := Lib.hid ha
      have HPP := Lib.hid hp
      have hq34 : CQ[34]? = some qv := by rw [HCQ.out]; exact (cc_at _ _ _ _ HP32.out).2.2
      have hCQs : 34 < CQ.size := by rw [HCQ.out, Ci _ _ _ _ HP32.out]; decide
      have HCQs := Lib.hid hCQs
      have HQ34 := Lib.hid hq34
      clear ha hp hrn hq34 hCQs
      have HSet1 := Lib.hid (rset_any 63 (by decide) (by omega) hbl hR)
      rw [<- hU] at HSet1
      have HSet2 := Lib.hid fun (w : World) (X' : List Ae) (K' : (Nat -> Prop) -> World -> Prop) (h : Rd w0 w X' K' q l1' e1') => rset_any 63 (by decide) (by omega) hlb1.2 h
      rw [<- hU2] at HSet2
      have hll2 : l2'.length <= 1000000 := by omega
      have HLB := Lib.hid hlb2.2
      clear hU hU2 hlb1 hlb2 hR
      go_wp2_with fail
      refine HSet1.out.mono ?_
      rintro r_ w7 ⟨v1, rfl, hR2⟩
      clear HSet1
      dsimp only at hR2 ⊢
      obtain ⟨-, A8, c8, n5, n6, hS⟩ := hR2
      obtain ⟨A1, c1, k1, rfl, -⟩ := hS.ro.1.2.parts
      go_wp2_with (first
       | ((with_reducible show wpList _ _ _ (⟨_, .build _ _, _, _, _, _⟩ :: _) _ _); refine At rfl _ _ rfl #[.slice A1 k1.length c1, .slice none 0 0] (by kernel_rfl) ?_)
       | ((with_reducible refine qA 8 ?_); refine qa hS #[.slice none 0 0, .slice none 0 0] ?_; clear hS; intro g8 w_ hS)
       | ((with_reducible refine qM ?_); (first | refine qS hS ?_ | refine qT hS ?_); clear hS; intro w_ hS; (try simp only [Act.put, Act.eval, zz, Value.cells] at hS)))
      have hR3 : Rd w0 w_ (.box g8 56 #[.slice A1 k1.length c1, .slice none 0 0] :: .own qv 56 2 acc2.length xs :: .box g5 96 CQ :: .box g2 96 Z :: F0) (fun D w => (K1 D w /\ Aj w D xs acc2) /\ Aa w D (.agg #[.slice A1 k1.length c1]) Y) q l1' e1' :=
       ⟨(HKs1.out.and Df).and Ac, A8, c8, n5, n6, hS.swap⟩
      clear hS
      refine (HSet2.out _ _ _ hR3).mono ?_
      clear hR3 HSet2
      rintro r_ w8 ⟨v2, rfl, hR4⟩
      dsimp only at hR4 ⊢
      obtain ⟨-, A9, c9, o5, o6, hS⟩ := hR4
      obtain ⟨A2, c2, k2, rfl, -⟩ := hS.ro.1.2.parts
      go_wp2_with (first
       | ((with_reducible show wpList _ _ _ (⟨none, .store 39 _ _, _, _, _, _⟩ :: _) _ _); refine st_gstore hS 1 rfl _ _ _ rfl g8 1 _ rfl rfl rfl (by simp) rfl (by kernel_rfl) ?_; clear hS; intro w_ hS; (try simp only [Act.put, Act.eval, zz, Value.cells] at hS))
       | ((with_reducible refine qk 41 ?_); refine GD hS 3 rfl _ _ rfl g5 34 rfl _ CQ rfl (by decide +kernel) qv HQ34.out ?_)
       | ((with_reducible refine qK ?_); refine qL hS Tryz.underlying56 ?_)
       | ((with_reducible refine qA 47 ?_); refine FC hS 2 rfl rfl _ _ _ _ rfl rfl F8 qv acc2.length xs (.agg #[.slice A1 k1.length c1, .slice A2 k2.length c2]) #[.slice A1 k1.length c1, .slice A2 k2.length c2] rfl (by kernel_rfl) rfl rfl rfl rfl (by intro u hu; simp at hu; rcases hu with rfl | rfl <;> rfl) (by omega) (by omega) ?_; clear hS; intro z_ v' w_ hS; (try simp only [Act.put, Act.eval, zz, Value.cells] at hS); obtain ⟨A7', c7', rfl, _, _⟩ := BW (hS.own 2 rfl))
       | ((with_reducible show wpList _ _ _ (⟨none, .store 41 _ _, _, _, _, _⟩ :: _) _ _); refine I8 hS 3 rfl _ _ _ rfl g5 34 _ rfl rfl rfl HCQs.out rfl rfl (by kernel_rfl) ?_; clear hS; intro w_ hS; (try simp only [Act.put, Act.eval, zz, Value.cells] at hS)))
      obtain ⟨m', rfl⟩ : ∃ m', m = m' + 1 := ⟨m - 1, by omega⟩
      rw [HCQ.out, cc_set34 _ _ _ _ _ HP32.out] at hS
      have hcl := (hS.own 2 rfl).1
      refine ⟨⟨m', acc2 ++ [(Y, N)], xs ++ [.slice A1 k1.length c1, .slice A2 k2.length c2], l2', e2', .slice A7' (acc2.length + 1) c7', by go_num, by simp; omega, by rw [List.append_assoc]; exact HA.out, HPP.out, HLB.out, hll2, ?_⟩, by simp [intOf]⟩
      have h := hS.sub (F' := _ :: _ :: _ :: _ :: F0) (.cons_cons _ (.cons _ (.refl _)))
      refine ⟨HKs1.out.and Df, A9, c9, o5, o6, ?_⟩
      rw [show (acc2 ++ [(Y, N)]).length = acc2.length + 1 by simp]
      exact h.mono ((HKs1.out.and Df).and Ab) fun D w h => ⟨⟨h.1.1.1.1, h.1.1.1.2.push (by simp at hcl; omega) h.1.1.2 h.1.2⟩, h.2⟩
     ·obtain rfl : m = 0 := by omega
      go_wp2_with fail
      obtain ⟨-, A8, c8, n5, n6, hS⟩ := hR
      replace hS := hS.freeze 1 (by decide) rfl
      have hacc : acc2 = QL := by have := HA.out; simpa [BK] using this
      have hlr : (l, e) = QR := HPP.out
      have hR1 : Rd w0 wr (.box g5 96 CQ :: .box g2 96 Z :: F0) (fun D w => K1 D w /\ Af w D qv acc2) q l e := ⟨HKs1.out.and AZ, A8, c8, n5, n6, hS.mono ((HKs1.out.and AZ).and Ab) fun D w h => ⟨⟨h.1.1.1, ⟨xs, h.2, h.1.1.2⟩⟩, h.1.2⟩⟩
      clear hS
      have hC : EK ps = (⟨r ++ List.replicate (32 - r.length) 0, fl, acc, acc2⟩, l, e) := by
       unfold EK
       dsimp only
       rw [<- HRW.out]; dsimp only
       rw [<- HF.out]; dsimp only
       rw [<- HN.out]; dsimp only
       rw [<- HP.out]; dsimp only
       rw [HPL.out, <- HPR.out]; dsimp only
       rw [<- HM.out]; dsimp only
       rw [<- HQ.out]; dsimp only
       rw [hacc, <- hlr]
      have HC := Lib.hid hC
      clear hC hacc hlr
      refine (rend_any hR1).mono ?_
      rintro r_ w_ ⟨rfl, rfl⟩
      obtain ⟨-, A10, c10, -, -, hS⟩ := hR1
      have hce : ∀ D w, (K1 D w /\ Af w D qv acc2) -> AO w D (.agg CQ) ⟨r ++ List.replicate (32 - r.length) 0, fl, acc, acc2⟩ := fun D w h => by
       rw [HCQ.out]; exact AO.of_cc HP32.out HRB.out (HK1p.out _ _ h.1) h.2
      have HCE := Lib.hid hce
      have hCQ1 : CQ.all (·.oneCell') = true := by
       obtain ⟨_, _, e1, _, _⟩ := (HK1p.out _ _ hS.ro.1.1).shape
       obtain ⟨_, _, e2, _, _⟩ := hS.ro.1.2.shape
       rw [HCQ.out, e1, e2]; exact cc_one _ _ _ _ _ _ _ _
      have hZ1 : Z.all (·.oneCell') = true := by rw [HZZ.out]; exact cc_one _ _ _ _ _ _ _ _
      have hZi : (Tryz.prog.info? 96).map (·.size) = some Z.size := by rw [HZZ.out, Ci _ _ _ _ (by simp)]; kernel_rfl
      have hCQi : (Tryz.prog.info? 96).map (·.size) = some CQ.size := by rw [HCQ.out, Ci _ _ _ _ HP32.out]; kernel_rfl
      have hQZ : Z.size = CQ.size := by rw [HCQ.out, Ci _ _ _ _ HP32.out, HZZ.out, Ci _ _ _ _ (by simp)]
      have HCQ1 := Lib.hid hCQ1
      have HZ1' := Lib.hid hZ1
      have HZi := Lib.hid hZi
      have HCQi := Lib.hid hCQi
      have HQZ := Lib.hid hQZ
      clear hce hCQ1 hZ1 hZi hCQi hQZ
      obtain ⟨CT, hCT⟩ : ∃ C : BB, C = ⟨r ++ List.replicate (32 - r.length) 0, fl, acc, acc2⟩ := ⟨_, rfl⟩
      rw [<- hCT] at HCE HC
      have hRC : Iv ps = if endE l e = 0 /\ Bh CT = 0 then (CT, 0) else (⟨List.replicate 32 0, false, [], []⟩, 6) := by
       unfold Iv; rw [HC.out]
      have HRC := Lib.hid hRC
      clear hRC hCT HC
      generalize endE l e = E0 at *
      obtain ⟨CK, hCK⟩ : ∃ x, x = Bh CT := ⟨_, rfl⟩
      rw [<- hCK] at HRC
      have HCK := Lib.hid hCK
      clear hCK
      go_wp2_with (first
       | ((with_reducible refine qB ?_); refine qc ?_ ?_ <;> intro h_ <;> go_prune)
       | ((with_reducible show wpList _ _ _ (⟨_, .build _ _, _, _, _, _⟩ :: _) _ _); refine At rfl _ _ rfl (zeroCells Tryz.prog 96) (by kernel_rfl) ?_; rw [HZ.out])
       | ((with_reducible show wpList _ _ _ (⟨none, .store 96 _ _, _, _, _, _⟩ :: _) _ _); first
        | (refine Cl hS 2 rfl _ _ _ rfl g2 Z rfl rfl _ Z rfl HZi.out rfl HZ1'.out ?_; clear hS; intro w_ hS; (try simp only [Act.put, Act.eval, zz, Value.cells] at hS))
        | (refine Cl hS 2 rfl _ _ _ rfl g2 CQ rfl rfl _ Z rfl HCQi.out HQZ.out HCQ1.out ?_; clear hS; intro w_ hS; (try simp only [Act.put, Act.eval, zz, Value.cells] at hS)))
       | ((with_reducible refine qk 96 ?_); refine DS hS 1 rfl _ _ rfl g5 rfl _ CQ rfl _ Tryz.underlying96 rfl HCQi.out ?_)
       | (go_at_call 49; refine (EA _ CT _ _ (HCE.out _ _ hS.ro.1)).mono ?_; rw [<- HCK.out]; rintro r_ w_ ⟨_, rfl, rfl, hb_⟩; replace hS := hS.ext hb_; clear hb_))
      all_goals
       refine Ew Tryz.results47 rfl (hS.box 2 rfl) Tryz.underlying96 rfl (by first | exact HZi.out | exact HCQi.out) rfl rfl ?_
       first
       | (have hE : Iv ps = (CT, 0) := by rw [HRC.out]; exact if_pos ⟨by omega, by omega⟩
          rw [hE]
          exact ⟨_, rfl, (hS.sub (F' := F0) (.cons _ (.cons _ (.cons _ (.refl _))))).mono (HKs.out.and Fb) fun D w h => ⟨HK1k.out _ _ h.1.1, HCE.out _ _ h.1⟩⟩)
       | (have hE : Iv ps = (⟨List.replicate 32 0, false, [], []⟩, 6) := by rw [HRC.out]; exact if_neg (by omega)
          rw [hE, HZZ.out]
          exact ⟨_, rfl, (hS.sub (F' := F0) (.cons _ (.cons _ (.cons _ (.refl _))))).mono (HKs.out.and Fb) fun D w h => ⟨HK1k.out _ _ h.1.1, AO.of_cc (by simp) (Ao.rep _) Sl.none_ Af.nil⟩⟩)
end
section
open Go.RowKit
attribute [local go_sem ↓] Go.wp_at_zero Go.wp_at_succ
set_option maxRecDepth 20000
set_option exponentiation.threshold 5000
theorem built_reached (prob : List Nat) (A : Option Addr) (n c : Nat) (h : prob.length = 32) :
  Tryz.prog.built 96 [(0, .agg (Ah prob).toArray), (1, .bool true), (2, .slice A n c)] = some (cc prob true (.slice A n c) (.slice none 0 0)) := by
 match prob, h with
 | [a0, a1, a2, a3, a4, a5, a6, a7, a8, a9, a10, a11, a12, a13, a14, a15, a16, a17, a18, a19, a20, a21, a22, a23, a24, a25, a26, a27, a28, a29, a30, a31], _ =>
  show _ = _
  kernel_rfl
theorem sha3_bytes (l : List Nat) : Ao (Do l) := by
 intro x hx
 unfold Do I6 at hx
 simp only [List.mem_map] at hx
 obtain ⟨i, _, rfl⟩ := hx
 unfold outK
 omega
theorem Jz (p : B3) : Ao (pidC p) := by
 unfold pidC
 split
 ·exact sha3_bytes _
 ·intro x hx; rw [List.mem_replicate] at hx; omega
set_option maxHeartbeats 1000000 in
theorem creached_any {w0 : World} {D E : Nat -> Prop} {v pv : Value} {p : B3} {plan : List Int} (hp : Bt w0 D v p) (hP : p.Ok) (hT : Co w0) (hTB : Gm w0) (hl : Sl w0 E 1 pv plan.length (AV plan)) (hn : plan.length <= 1000000) :
  Calls Tryz.prog 44 #[v, pv] w0 (AE (fun x w' => AO w' (w0.heap.size <= ·) x ⟨pidC p, true, plan, []⟩) w0) := by
 obtain ⟨xs, rfl, hx6, hx1⟩ := hp.cells
 have HX6 := Lib.hid hx6
 have HI6 := Lib.hid (show (Tryz.prog.info? 43).map (·.size) = some xs.size by rw [hx6]; kernel_rfl)
 obtain ⟨A, c, rfl, _, _⟩ := hl.shape
 obtain ⟨K, kp, kl, hS⟩ : ∃ K : (Nat -> Prop) -> World -> Prop, (∀ D w, K D w -> Bt w D (.agg xs) p) /\ (∀ D w, K D w -> Sl w D 1 (.slice A plan.length c) plan.length (AV plan)) /\ St w0 w0 [] K := ⟨fun D w => Bt w D (.agg xs) p /\ Sl w D 1 (.slice A plan.length c) plan.length (AV plan), fun _ _ h => h.1, fun _ _ h => h.2, St.start (D := fun _ => True) (Dw.and (Ab (by decide))) ⟨Dw D _ w0 w0 hp (Nat.le_refl _) (fun _ _ _ _ h => h) fun _ _ _ _ => trivial, hl.imp fun _ _ _ => trivial⟩⟩
 have HDT := Lib.hid hT
 have HTB := Lib.hid hTB
 have HPD := Lib.hid (fun (w : World) (D : Nat -> Prop) (h1 : Bt w D (.agg xs) p) (h2 : Co w) (h3 : Gm w) => pid_any h1 hP h2 h3)
 obtain ⟨q, hq⟩ : ∃ q, pidC p = q := ⟨_, rfl⟩
 have H32 : Hid (q.length = 32) := Lib.hid (by rw [<- hq]; exact Jy p)
 have HBY : Hid (Ao q) := Lib.hid (by rw [<- hq]; exact Jz p)
 rw [hq] at HPD ⊢
 clear hp hP hT hTB hl hq hx6
 have HOne := Lib.hid (ints_one plan)
 have HSZ : Hid ((Tryz.prog.info? 96).map (·.size) = some 35) := Lib.hid (by kernel_rfl)
 go_enter Tryz.func44, Tryz.ntmps44
 go_wp2_with (first
  | ((with_reducible refine qA 2 ?_); refine AU hS rfl _ _ rfl (.agg xs) _ rfl rfl ?_; clear hS; intro g2 w_ hS; (try simp only [Act.put, Act.eval, zz, Value.cells] at hS))
  | ((with_reducible refine qA 4 ?_); refine Ep hS rfl _ rfl (by kernel_rfl) (cc (List.replicate 32 0) false (.slice none 0 0) (.slice none 0 0)) (by kernel_rfl) ?_; clear hS; intro g4 w_ hS; (try simp only [Act.put, Act.eval, zz, Value.cells] at hS))
  | ((with_reducible refine qk 43 ?_); refine GC hS 1 rfl _ _ rfl g2 rfl _ xs rfl _ Tryz.underlying43 rfl HI6.out ?_)
  | (go_at_call 40; refine (HPD.out _ _ (kp _ _ hS.ro) (HDT.out.ext hS.below) (HTB.out.ext hS.below)).mono ?_; rintro r_ w2 ⟨_, rfl, rfl, hb2⟩; replace hS := hS.ext hb2; clear hb2)
  | (go_at_call 113; refine (iclone_any (kl _ _ hS.ro) HOne.out (by omega)).mono ?_; rintro e w_ ⟨cv, rfl, hs_⟩; replace hS := hS.new hs_.below (.own cv 3 1 plan.length (AV plan)) (hs_.own 0 rfl); clear hs_; obtain ⟨A8, c8, rfl, _, _⟩ := BW (hS.own 0 rfl))
  | ((with_reducible refine qA 9 ?_); refine BigFrame.wpList_want rfl fun _ hK => Dc rfl (ps := [(0, .agg (Ah q).toArray), (1, .bool true), (2, .slice A8 plan.length c8)]) (by simp [Act.eval]) (built_reached q A8 plan.length c8 H32.out) (hK _ _ ?_))
  | ((with_reducible refine qm 96 ?_); refine Cl hS 1 rfl _ _ _ rfl g4 (cc q true (.slice A8 plan.length c8) (.slice none 0 0)) rfl rfl _ _ rfl (by rw [Ci _ _ _ _ H32.out]; exact HSZ.out) (by rw [Ci _ _ _ _ H32.out, Ci _ _ _ _ (by simp)]) (cc_one _ _ _ _ _ _ _ _) ?_; clear hS; intro w_ hS; (try simp only [Act.put, Act.eval, zz, Value.cells] at hS)))
 refine BO rfl rfl (hS.box 1 rfl) Tryz.underlying96 rfl (by rw [Ci _ _ _ _ H32.out]; exact HSZ.out) rfl (AE.mk ?_ hS.below)
 exact AO.of H32.out HBY.out (Sl.of_own (hS.own 0 rfl)) Af.nil
end
section
open Go.RowKit
attribute [local go_sem ↓] Go.wp_at_zero Go.wp_at_succ
set_option maxRecDepth 20000
set_option exponentiation.threshold 5000
def byB (M m : Nat) : List Nat := (List.range m).map fun j => (M >>> (8 * j)) % 256
theorem setBytes_byB {N : Nat} (h : N ≠ 0) : AW N = byB N (N.log2 / 8 + 1) := by rw [AW, if_neg h]; rfl
end
section
open Go.RowKit
attribute [local go_sem ↓] Go.wp_at_zero Go.wp_at_succ
set_option maxRecDepth 20000
end
section
open Go.RowKit
attribute [local go_sem ↓] Go.wp_at_zero Go.wp_at_succ
set_option maxRecDepth 20000
set_option exponentiation.threshold 5000
theorem GX {N : Nat} (h : N < AC) : (BZ N).length <= 19 := by
 have h1 : (AW N).length <= 8 := by
  by_cases h0 : N = 0
  ·subst h0; simp [AW]
  ·have := (I9 h).2 h0
   rw [setBytes_byB h0]; simp [byB]; omega
 have := B5 (AW N).length
 simp only [BZ, List.length_append]; omega
theorem flat_len64 (l : List (Nat × Nat)) (h : Small l) : (l.flatMap fun z => Bd z.1 z.2).length <= 38 * l.length := by
 induction l with
 | nil => simp
 | cons z r ih =>
  have h1 := h z (by simp)
  have h2 := GX h1.1
  have h3 := GX h1.2
  have h4 := ih fun y hy => h y (by simp [hy])
  have h5 : (Bd z.1 z.2).length <= 38 := by simp only [Bd, List.length_append]; omega
  simp only [List.flatMap_cons, List.length_append, List.length_cons]
  omega
theorem bytesC_len64 {c : BB} (hs : Small c.cubes) (hp : c.prob.length = 32) : (Aw c).length <= 1000000 := by
 unfold Aw
 split
 ·rename_i hc
  have h0 := J0 hc
  have h1 := flat_len64 c.cubes hs
  have h2 := B5 c.cubes.length
  have h3 := B5 c.plan.length
  have h4 := H3 c.plan
  have h5 : (Bf c.reach).length = 1 := by unfold Bf; split <;> rfl
  simp only [Ba, List.length_append]
  omega
 ·simp
theorem readC_back {c : BB} (h : Fit c) : Iv (Aw c) = (c, 0) := by
 have := h.parse []
 rw [List.append_nil] at this
 rw [Iv, this, if_pos ⟨rfl, h.1⟩]
end
section
open Go.RowKit
set_option exponentiation.threshold 5000
def nextM (N : Nat) (r : Bg) : Nat := if r.revoke then del N r.target else CW N r.target
noncomputable def closP (p : B3) (N : Nat) : Nat := match p.links with
 | some L => closM L N
 | none => 0
noncomputable def stepB (p : B3) (N : Nat) (r : Bg) : Bool := !(((Cz N r.target != r.revoke) || (!r.revoke && !BF (r.yes, r.no) (closP p N))) || !goodB p (nextM N r))
noncomputable def stepM (p : B3) (N : Nat) (k : Int) : Option Nat :=
 if 0 <= k /\ k < p.rules.length /\ p.links.isSome = true then (if stepB p N (p.rules.getD k.toNat Bo) = true then some (nextM N (p.rules.getD k.toNat Bo)) else none) else none
theorem stepM_none {p : B3} {N : Nat} {k : Int} (h : ¬ (0 <= k /\ k < p.rules.length /\ p.links.isSome = true)) : stepM p N k = none := if_neg h
theorem stepM_at {p : B3} {L : List (Nat × Nat)} {N j : Nat} (hl : p.links = some L) (hj : j < p.rules.length) : stepM p N (j : Nat) = if stepB p N (p.rules.getD j Bo) = true then some (nextM N (p.rules.getD j Bo)) else none := by
 unfold stepM
 rw [if_pos ⟨by omega, by omega, by rw [hl]; rfl⟩, Int.toNat_natCast]
theorem sl_pos {w : World} {D : Nat -> Prop} {size n c : Nat} {A : Option Addr} {xs : List Value} (h : Sl w D size (.slice A n c) n xs) (hn : 0 < n) : ∃ b o, A = some ⟨b, o, none⟩ := by
 obtain ⟨_, A', c', e, _, _, h3⟩ := h
 injection e with e _ _
 subst e
 obtain ⟨b, o, e, _⟩ := h3 hn
 exact ⟨b, o, e⟩
end
section
open Go.RowKit
attribute [local go_sem ↓] Go.wp_at_zero Go.wp_at_succ
set_option maxRecDepth 20000
set_option exponentiation.threshold 5000
def M3 : List (Nat × Nat) := [(1, 2), (2, 3), (1, 3)]
end
section
open Go.RowKit
attribute [local go_sem ↓] Go.wp_at_zero Go.wp_at_succ
set_option maxRecDepth 20000
set_option exponentiation.threshold 5000
theorem Fe {w0 : World} {D : Nat -> Prop} {v : Value} {R : Nat} {L : List (Nat × Nat)} {st : Nat} {rl : List Bg} {nl gl : List (Nat × Nat)} (h : BJ w0 D v ⟨R, some L, st, rl, nl, gl⟩) :
  ∃ Al cl Ar cr An cn Ag cg, v = .agg #[.int .i64 (R : Nat), .slice Al L.length cl, .int .u64 (st : Nat), .slice Ar rl.length cr, .slice An nl.length cn, .slice Ag gl.length cg] := by
 obtain ⟨lv, rv, nv, gv, L', rfl, hl', h1, h2, h3, h4⟩ := h
 injection hl' with e; subst e
 obtain ⟨Al, cl, rfl, _, _⟩ := h1.shape
 obtain ⟨Ar, cr, rfl, _, _⟩ := h2.shape
 obtain ⟨An, cn, rfl, _, _⟩ := Sl.shape (h3 : Sl _ _ _ _ _ _)
 obtain ⟨Ag, cg, rfl, _, _⟩ := Sl.shape (h4 : Sl _ _ _ _ _ _)
 exact ⟨_, _, _, _, _, _, _, _, rfl⟩
theorem GQ {w0 : World} {D : Nat -> Prop} {lv sv rv nv gv : Value} {R : Nat} {L : List (Nat × Nat)} {st : Nat} {rl : List Bg} {nl gl : List (Nat × Nat)} (h : BJ w0 D (.agg #[.int .i64 (R : Nat), lv, sv, rv, nv, gv]) ⟨R, some L, st, rl, nl, gl⟩) :
  Sl w0 D 2 lv L.length (Ad L) /\ Sl w0 D 5 rv rl.length (B9 rl) /\ Sl w0 D 2 nv nl.length (Bn nl) /\ Sl w0 D 2 gv gl.length (Bn gl) := by
 obtain ⟨lv, rv, nv, gv, L', e, hl', h1, h2, h3, h4⟩ := h
 injection hl' with e2; subst e2
 injection e with e; injection e with e; injection e with _ e; injection e with a e; injection e with _ e; injection e with b e; injection e with c e; injection e with d _
 subst a b c d
 exact ⟨h1, h2, h3, h4⟩
end
section
open Go.RowKit
attribute [local go_sem ↓] Go.wp_at_zero Go.wp_at_succ
set_option maxRecDepth 20000
set_option exponentiation.threshold 5000
theorem JS {N t : Nat} : Cz N (t : Int) = N.testBit t := by simp [Cz]
end
section
open Go.RowKit
attribute [local go_sem ↓] Go.wp_at_zero Go.wp_at_succ
set_option maxRecDepth 20000
set_option exponentiation.threshold 5000
theorem run_andnot64 {P : Program} {w : World} {t : TypeId} {x y : Nat} (hx : x < AC) (hy : y < AC) : (binOp .andNot t (.int .u64 (x : Nat)) (.int .u64 (y : Nat))).run P w = .ok (.int .u64 ((x &&& Cn y : Nat) : Int)) w := by
 go_simp; rw [K0 hx hy]
end
section
open Go.RowKit
def Sp.g {X : Type} {R : X -> X -> Prop} (c : Bool) (v : Value) : Sp R := .i (cond c v undef)
section
variable {X : Type} {κ : Kd X} {P : Program} {ops : Array Oper} {l : List (Sp κ.R)} {a0 : Act} {Q : Exit -> Act -> World -> Prop} {i : Nat} {o : Oper}
theorem uY {j : Nat} {c : Bool} {oj : Oper} {d : Tmp} (h : o.guard = some (j, c) := by rfl) (h1 : ops[j]? = some oj := by rfl) (h2 : oj.dst = some d := by rfl) (h3 : src ops d o.after.toList = some j := by rfl) (h4 : l[j]? = some (.i (.bool !c)) := by rfl) (hs : ∀ x, Sp.T l i undef x := by first | exact fun _ => rfl | exact fun _ => trivial | exact fun _ => nofun) : Cb κ P ops l a0 Q i o := fun b x hC hN hE =>
 ⟨fun hw => (by rw [Bk h h1 h2 ((Ev.n h3 h4).at hE : b.eval (.tmp _) = _)] at hw; cases c <;> cases hw), fun _ => hs x⟩
theorem uX {j : Nat} {c : Bool} {oj : Oper} {d : Tmp} (h : o.guard = some (j, c) := by rfl) (h1 : ops[j]? = some oj := by rfl) (h2 : oj.dst = some d := by rfl) (h3 : src ops d o.after.toList = some j := by rfl) (h4 : l[j]? = some (.i undef) := by rfl) (hs : ∀ x, Sp.T l i undef x := by first | exact fun _ => rfl | exact fun _ => trivial | exact fun _ => nofun) : Cb κ P ops l a0 Q i o := fun b x hC hN hE =>
 ⟨fun hw => (by
  have h5 : b.eval (.tmp d) = undef := (Ev.n h3 h4).at hE
  have h6 : yielded ops b.tmps j = none := by
   have h7 : ((some oj).bind fun x => x.dst) = some d := h2
   unfold yielded
   rw [h1, h7]
   simp only [Option.bind_some]
   cases h7 : b.tmps[d]? with
   | none => rfl
   | some v =>
    have : v = undef := by simpa [Act.eval, h7] using h5
    subst this; rfl
  simp [Region.wanted, h, h6] at hw), fun _ => hs x⟩
end
end
section
open Go.RowKit
attribute [local go_sem ↓] Go.wp_at_zero Go.wp_at_succ
set_option maxRecDepth 20000
set_option exponentiation.threshold 5000
theorem rgood31_any {w0 : World} {D : Nat -> Prop} {v : Value} {p : B3} {L : List (Nat × Nat)} {R s : Nat} (hp : BJ w0 D v p) (hM : Fu p L R) :
  Calls Tryz.prog 28 #[v, .int .u64 (s : Nat)] w0 (AE (fun x _ => x = .bool (goodB p s)) w0) := by
 obtain ⟨R', lk, st, rl, nl, gl⟩ := p
 obtain rfl : lk = some L := hM.links
 obtain rfl : R' = (R : Int) := hM.roles
 obtain ⟨Al, cl, Ar, cr, An, cn, Ag, cg, rfl⟩ := Fe hp
 obtain ⟨K, kp, hS⟩ : ∃ K : (Nat -> Prop) -> World -> Prop, (∀ D w, K D w -> BJ w D (.agg #[.int .i64 (R : Nat), .slice Al L.length cl, .int .u64 (st : Nat), .slice Ar rl.length cr, .slice An nl.length cn, .slice Ag gl.length cg]) ⟨(R : Int), some L, st, rl, nl, gl⟩) /\ St w0 w0 [] K := ⟨_, fun _ _ h => h, St.start CL hp⟩
 have kl : ∀ D w, K D w -> Sl w D 2 (.slice Al L.length cl) L.length (Ad L) := fun D w h => (GQ (kp D w h)).1
 have HM := Lib.hid hM
 have HL := Lib.hid (show FR 64 L from hM.hok.inr)
 have hlen := hM.len
 clear hp hM
 have kn : ∀ D w, K D w -> Cu w D (.slice An nl.length cn) nl := fun D w h => (GQ (kp D w h)).2.2.1
 obtain ⟨b, hb⟩ : ∃ b, nl.any (fun z => BF z (closM L s)) = b := ⟨_, rfl⟩
 have HG : Hid (goodB ⟨(R : Int), some L, st, rl, nl, gl⟩ s = !b) := Lib.hid (by rw [<- hb]; rfl)
 have HB := Lib.hid hb
 clear hb
 go_enter Tryz.func28, Tryz.ntmps28
 go_wp2_with (first | ((with_reducible refine qA 2 ?_); refine AU hS rfl _ _ rfl (.agg #[.int .i64 (R : Nat), .slice Al L.length cl, .int .u64 (st : Nat), .slice Ar rl.length cr, .slice An nl.length cn, .slice Ag gl.length cg]) _ rfl rfl ?_; clear hS; intro g2 w_ hS; (try simp only [Act.put, Act.eval, zz, Value.cells] at hS)))
 refine E8 [.q g2 4, .i (.slice An nl.length cn), .q g2 1, .i (.slice Al L.length cl), .i (.int .u64 (s : Nat)), .i (.int .u64 (closM L s : Nat)), .i (.bool b), .i (.bool (!b)), .i (.bool (!b))] ⟨uF, uC (h := fun w hW hN => (hS.ext hW).shut 0 rfl 4 rfl), uF, uC (h := fun w hW hN => (hS.ext hW).shut 0 rfl 1 rfl), uM, ?_, ?_, uU, uA, trivial⟩ ?_
 ·refine uT fun b__ w hW hE K hK => ?_
  have e8 := hE 8
  have e9 := hE 9
  exact B6 rfl (by kernel_rfl) (by simp only [List.map_cons, List.map_nil, e8, e9]) (Ie (kl _ _ (hS.ext hW).ro) HL.out (by omega) s) fun v w' h hb => hK v w' h hb
 ·refine uT fun b__ w hW hE K hK => ?_
  have e6 := hE 6
  have e10 := hE 10
  exact B6 rfl (by kernel_rfl) (by simp only [List.map_cons, List.map_nil, e6, e10]) (rsome_any (kn _ _ (hS.ext hW).ro) HM.out.fits.never (Im L s)) fun v w' h hb => hK v w' (h.trans (by rw [HB.out])) hb
 ·intro vs wz hW hT
  obtain ⟨e5, e6, e7, e8, e9, e10, e11, e12, e4, -⟩ := hT
  simp only [AM, Act.put, zz, ze]
  rw [e4]
  go_wp2_with fail
  go_ret
  exact AE.mk (by rw [HG.out]; rfl) (Ct hS.below hW)
theorem tb_not64 {b i : Nat} (hb : b < AC) : (Cn b).testBit i = (decide (i < 64) && !b.testBit i) := by
 by_cases hi : i < 64
 ·rw [CX hb i hi]; simp [hi]
 ·rw [Dk (Fk b) (Nat.not_lt.1 hi)]; simp [hi]
theorem andnot_del {N t : Nat} (hN : N < AC) (ht : t < 64) : N &&& Cn (2 ^ t) = del N (t : Int) := BQ fun i => by
 unfold del
 rw [JS, Nat.testBit_and, tb_not64 (by rw [BT]; exact Nat.pow_lt_pow_right (by decide) ht), Int.toNat_natCast]
 by_cases hi : i < 64
 ·by_cases e : t = i
  ·subst e
   cases h : N.testBit t
   ·simp [h]
   ·simp [h, Nat.testBit_xor, Nat.testBit_two_pow_self]
  ·have h1 : (2 ^ t).testBit i = false := by rw [Nat.testBit_two_pow]; simp [e]
   simp only [h1, hi, decide_true, Bool.not_false, Bool.and_true]
   split
   ·rw [Nat.testBit_xor, h1, Bool.xor_false]
   ·rfl
 ·have h0 : N.testBit i = false := Dk hN (Nat.not_lt.1 hi)
  have h1 : (2 ^ t).testBit i = false := by rw [Nat.testBit_two_pow]; simp; omega
  simp only [h0, Bool.false_and]
  split
  ·rw [Nat.testBit_xor, h0, h1]; simp
  ·simp [h0]
theorem or_with {N t : Nat} (ht : t < 64) : N ||| 2 ^ t = CW N (t : Int) := by
 unfold CW
 rw [if_pos ⟨by omega, by omega⟩, Int.toNat_natCast]
theorem run_shlU {P : Program} {w : World} {t : TypeId} {r : Nat} (hr : r < 64) : (binOp .shl t (.int .u64 1) (.int .u64 (r : Nat))).run P w = .ok (.int .u64 ((2 ^ r : Nat) : Int)) w := by
 go_simp
 rw [shl64 r hr]
 simp
theorem run_convU {P : Program} {w : World} {n : Nat} (hn : n < AC) : (convert 3 58 (.int .i64 (n : Nat))).run Tryz.prog w = .ok (.int .u64 (n : Nat)) w := by
 go_simp
 exact CH hn
theorem next_eq {N t : Nat} {rv : Bool} (hN : N < AC) (ht : t < 64) : ((if rv = true then del N (t : Int) else CW N (t : Int)) == N) = (Cz N (t : Int) != rv) := by
 have hp : (2 ^ t).testBit t = true := Nat.testBit_two_pow_self
 cases rv
 ·rw [if_neg (by simp), <- or_with ht, JS]
  cases h : N.testBit t
  ·have : N ||| 2 ^ t ≠ N := fun e => by
    have : (N ||| 2 ^ t).testBit t = true := by rw [Nat.testBit_or, hp, Bool.or_true]
    rw [e, h] at this; cases this
   simpa using this
  ·have : N ||| 2 ^ t = N := BQ fun i => by
    rw [Nat.testBit_or, Nat.testBit_two_pow]
    by_cases e : t = i
    ·subst e; simp [h]
    ·simp [e]
   simp [this]
 ·rw [if_pos rfl]
  unfold del
  rw [JS, Int.toNat_natCast]
  cases h : N.testBit t
  ·simp
  ·have : N ^^^ 2 ^ t ≠ N := fun e => by
    have : (N ^^^ 2 ^ t).testBit t = false := by rw [Nat.testBit_xor, h, hp]; rfl
    rw [e, h] at this; cases this
   simpa using this
set_option maxHeartbeats 4000000 in
theorem Is {w0 : World} {D : Nat -> Prop} {v : Value} {p : B3} {L : List (Nat × Nat)} {R N : Nat} (k : Int) (hp : BJ w0 D v p) (hM : Fu p L R) (hN : N < AC) :
  Calls Tryz.prog 32 #[v, .int .u64 (N : Nat), .int .i64 k] w0 (AE (fun x _ => x = .tuple #[.int .u64 ((stepM p N k).getD 0 : Nat), .bool (stepM p N k).isSome]) w0) := by
 obtain ⟨R', lk, st, rl, nl, gl⟩ := p
 obtain rfl : lk = some L := hM.links
 obtain rfl : R' = (R : Int) := hM.roles
 obtain ⟨Al, cl, Ar, cr, An, cn, Ag, cg, rfl⟩ := Fe hp
 obtain ⟨K, kp, hS⟩ : ∃ K : (Nat -> Prop) -> World -> Prop, (∀ D w, K D w -> BJ w D (.agg #[.int .i64 (R : Nat), .slice Al L.length cl, .int .u64 (st : Nat), .slice Ar rl.length cr, .slice An nl.length cn, .slice Ag gl.length cg]) ⟨(R : Int), some L, st, rl, nl, gl⟩) /\ St w0 w0 [] K := ⟨_, fun _ _ h => h, St.start CL hp⟩
 have kl : ∀ D w, K D w -> Sl w D 2 (.slice Al L.length cl) L.length (Ad L) := fun D w h => (GQ (kp D w h)).1
 have HM := Lib.hid hM
 have HL := Lib.hid (show FR 64 L from hM.hok.inr)
 have hlen := hM.len
 clear hp hM
 have kr : ∀ D w, K D w -> Sl w D 5 (.slice Ar rl.length cr) rl.length (B9 rl) := fun D w h => (GQ (kp D w h)).2.1
 have hr6 : rl.length <= 6 := HM.out.rlen
 by_cases hk : 0 <= k /\ k < rl.length
 ·obtain ⟨j, rfl⟩ : ∃ j : Nat, k = (j : Int) := ⟨k.toNat, by omega⟩
  have hlj : j < rl.length := by omega
  clear hk
  obtain ⟨b, o2, rfl, -⟩ := rr_at (kr _ _ hS.ro) hlj
  rw [stepM_at (p := ⟨(R : Int), some L, st, rl, nl, gl⟩) (N := N) rfl hlj]
  dsimp only
  have HG := Lib.hid (CU Bo hlj)
  have hz := HM.out.rules _ (List.mem_of_getElem? HG.out)
  clear HG
  obtain ⟨z, hz2⟩ : ∃ z, rl.getD j Bo = z := ⟨_, rfl⟩
  rw [hz2] at hz ⊢
  have HZ := Lib.hid hz2
  clear hz2
  obtain ⟨zr, y, n, rt, ro⟩ := z
  obtain ⟨t, rfl, ht⟩ : ∃ t : Nat, rt = (t : Int) /\ t < 64 := ⟨rt.toNat, by have h := hz.1; have h5 := HM.out.r5; dsimp only at h h5; omega, by have h := hz.1; have h5 := HM.out.r5; dsimp only at h h5; omega⟩
  have hy64 : y < AC := by have := hz.2.2.2.2.2.1; dsimp only at this; unfold AC; omega
  have hn64 : n < AC := by have := hz.2.2.2.2.2.2.1; dsimp only at this; unfold AC; omega
  clear hz
  obtain ⟨V, hV⟩ : ∃ V, V = if stepB ⟨(R : Int), some L, st, rl, nl, gl⟩ N ⟨zr, y, n, (t : Int), ro⟩ = true then some (nextM N ⟨zr, y, n, (t : Int), ro⟩) else none := ⟨_, rfl⟩
  rw [<- hV]
  obtain ⟨M, hM2⟩ : ∃ M, nextM N ⟨zr, y, n, (t : Int), ro⟩ = M := ⟨_, rfl⟩
  have hMN : (M == N) = (Cz N (t : Int) != zr) := by rw [<- hM2]; exact next_eq hN ht
  obtain ⟨ho, hho⟩ : ∃ ho, BF (y, n) (closM L N) = ho := ⟨_, rfl⟩
  obtain ⟨gd, hgd⟩ : ∃ gd, goodB ⟨(R : Int), some L, st, rl, nl, gl⟩ M = gd := ⟨_, rfl⟩
  obtain ⟨e1, he1⟩ : ∃ e1, (M == N) = e1 := ⟨_, rfl⟩
  have HV : Hid (V = if (!((e1 || (!zr && !ho)) || !gd)) = true then some M else none) := Lib.hid (by rw [hV, hM2, <- hho, <- hgd, <- he1, hMN, <- hM2]; rfl)
  have HMf : Hid (zr = false -> N ||| 2 ^ t = M) := Lib.hid fun e => by rw [<- hM2, or_with ht, e]; rfl
  have HMt : Hid (zr = true -> N &&& Cn (2 ^ t) = M) := Lib.hid fun e => by rw [<- hM2, andnot_del hN ht, e]; rfl
  have HE1 : Hid (∀ w : World, (binOp .eql 26 (.int .u64 (M : Nat)) (.int .u64 (N : Nat))).run Tryz.prog w = .ok (.bool e1) w) := Lib.hid fun w => GL (by rw [<- he1, Bool.eq_iff_iff]; simp only [beq_iff_eq, decide_eq_true_eq]; omega)
  have HHO := Lib.hid hho
  have HGD := Lib.hid hgd
  have h2t : 2 ^ t < AC := pow_lt_64 ht
  clear hV hM2 hMN hho hgd he1
  obtain ⟨rb, hrb⟩ : ∃ rb, rb = zr := ⟨_, rfl⟩
  have HRB := Lib.hid hrb
  clear hrb
  cases zr <;> cases e1 <;> cases gd
  all_goals
   go_enter Tryz.func32, Tryz.ntmps32
   go_wp2_with (first
    | ((with_reducible refine qA 3 ?_); refine AU hS rfl _ _ rfl (.agg #[.int .i64 (R : Nat), .slice Al L.length cl, .int .u64 (st : Nat), .slice (some ⟨b, o2, none⟩) rl.length cr, .slice An nl.length cn, .slice Ag gl.length cg]) _ rfl rfl ?_; clear hS; intro g3 w_ hS; (try simp only [Act.put, Act.eval, zz, Value.cells] at hS))
    | ((with_reducible refine qA 24 ?_); obtain ⟨b', o', e', c0, c1, c2, c3, c4⟩ := rr_at (kr _ _ hS.ro) hlj; injection e' with e'; injection e' with e1 e2; subst e1 e2; rw [HZ.out] at c0 c1 c2 c3 c4; dsimp only at c0 c1 c2 c3 c4; refine BigFrame.wpList_want rfl fun _ hK => Bv (cs := [.bool _, .int .u64 (y : Nat), .int .u64 (n : Nat), .int .i64 (t : Nat), .int .i64 ro]) rfl rfl (rng5 c0 c1 c2 c3 c4) Tryz.underlying109 rfl (by kernel_rfl) (hK _ _ ?_))
    | ((with_reducible refine qA 8 ?_); refine qa hS #[.bool false, .int .u64 0, .int .u64 0, .int .i64 0, .int .i64 0] ?_; clear hS; intro g8 w_ hS)
    | ((with_reducible refine qA 27 ?_); refine BigFrame.wpList_want rfl fun _ hK => CE (v := .int .u64 (t : Nat)) rfl rfl (run_convU (by omega)) (hK _ _ ?_))
    | ((with_reducible refine qA 28 ?_); refine BigFrame.wpList_want rfl fun _ hK => AH (v := .int .u64 ((2 ^ t : Nat) : Int)) rfl rfl rfl rfl (run_shlU ht) (hK _ _ ?_))
    | ((with_reducible refine qA 31 ?_); first | (refine BigFrame.wpList_want rfl fun _ hK => AH (v := .int .u64 (M : Nat)) rfl rfl rfl rfl (by rw [<- HMf.out rfl]; exact FD hN h2t) (hK _ _ ?_)) | (refine st_orN rfl _ _ _ _ rfl _ _ rfl rfl hN h2t ?_))
    | ((with_reducible refine qA 36 ?_); refine BigFrame.wpList_want rfl fun _ hK => AH (v := .int .u64 (M : Nat)) rfl rfl rfl rfl (by rw [<- HMt.out rfl]; exact run_andnot64 hN h2t) (hK _ _ ?_))
    | ((with_reducible refine qA 39 ?_); refine BigFrame.wpList_want rfl fun _ hK => AH (vx := .int .u64 (M : Nat)) (vy := .int .u64 (N : Nat)) rfl rfl rfl rfl (HE1.out _) (hK _ _ ?_))
    | ((with_reducible refine qB ?_); refine qc ?_ ?_ <;> intro h_ <;> go_prune)
    | ((with_reducible refine qA 41 ?_); refine BigFrame.wpList_want rfl fun _ hK => CN rfl rfl (hS.box 1 rfl) Tryz.underlying30 rfl (by kernel_rfl) (hK _ _ ?_))
    | (go_at_call 28; refine (rgood31_any (s := M) (kp _ _ hS.ro) HM.out).mono ?_; rw [HGD.out]; rintro r_ w_ ⟨_, rfl, rfl, hb_⟩; replace hS := hS.ext hb_; clear hb_)
    | ((with_reducible refine qM ?_); (first | refine qS hS ?_ | refine qT hS ?_); clear hS; intro w_ hS; (try simp only [Act.put, Act.eval, zz, Value.cells] at hS))
    | ((with_reducible refine qK ?_); refine qC hS ?_))
  all_goals try (go_ret2; exact AE.mk (by rw [HV.out]; cases ho <;> rfl) hS.below)
  all_goals
   refine E8 [.q g8 0, .i (.bool rb), .i (.bool (!rb)), .i (.bool (!rb)), .g ((!rb)) (.pointer (some ⟨g8, 1, none⟩)), .g ((!rb)) (.agg #[.int .u64 (y : Nat), .int .u64 (n : Nat)]), .g ((!rb)) (.pointer (some ⟨g3, 1, none⟩)), .g ((!rb)) (.slice Al L.length cl), .g ((!rb)) (.int .u64 (N : Nat)), .g ((!rb)) (.int .u64 (closM L N : Nat)), .g ((!rb)) (.bool ho), .g ((!rb)) (.bool (!ho)), .i (.bool ((!rb) && (!ho)))] ⟨uF, uC (h := fun w hW hN => by rw [HRB.out]; exact (hS.ext hW).shut 0 rfl 0 rfl), uU, uM, (by cases rb <;> first | exact uY | exact uX | exact uF), (by cases rb <;> first | exact uY | exact uX | exact uD (h := fun w hW hN => rng2 ((hS.ext hW).shut 0 rfl 1 rfl) ((hS.ext hW).shut 0 rfl 2 rfl))), (by cases rb <;> first | exact uY | exact uX | exact uF), (by cases rb <;> first | exact uY | exact uX | exact uC (h := fun w hW hN => (hS.ext hW).shut 1 rfl 1 rfl)), (by cases rb <;> first | exact uY | exact uX | exact uM), ?_, ?_, (by cases rb <;> first | exact uY | exact uX | exact uU), (by cases rb <;> exact uP), trivial⟩ ?_
   ·cases rb <;> first | exact uY | exact uX | (refine uT fun b__ w hW hE K hK => ?_; have e53 : b__.eval (.tmp 53) = .slice Al L.length cl := hE 53; have e54 : b__.eval (.tmp 54) = .int .u64 (N : Nat) := hE 54; (exact B6 rfl (by kernel_rfl) (by simp only [List.map_cons, List.map_nil, e53, e54]) (Ie (kl _ _ (hS.ext hW).ro) HL.out (by omega) N) fun v w' h hb => hK v w' h hb))
   ·cases rb <;> first | exact uY | exact uX | (refine uT fun b__ w hW hE K hK => ?_; have e51 : b__.eval (.tmp 51) = .agg #[.int .u64 (y : Nat), .int .u64 (n : Nat)] := hE 51; have e55 : b__.eval (.tmp 55) = .int .u64 (closM L N : Nat) := hE 55; (exact B6 rfl (by kernel_rfl) (by simp only [List.map_cons, List.map_nil, e51, e55]) (Gc hy64 hn64 (Im L N) _) fun v w' h hb => hK v w' (h.trans (by rw [HHO.out]; rfl)) hb))
   ·intro vs wz hW hT
    obtain ⟨e46, e47, e48, e49, -, -, -, -, -, -, -, -, e58, -⟩ := hT
    simp only [AM, Act.put, zz, ze]
    rw [e58, HRB.out]
    replace hS := hS.ext hW
    cases ho
    all_goals
     go_wp2_with fail
     go_ret2
     exact AE.mk (by rw [HV.out]; rfl) hS.below
 ·rw [stepM_none (p := ⟨(R : Int), some L, st, rl, nl, gl⟩) (fun h => hk ⟨h.1, h.2.1⟩)]
  have hk' : k < 0 \/ rl.length <= k := by omega
  clear hk
  go_enter Tryz.func32, Tryz.ntmps32
  go_wp2_with (first
   | ((with_reducible refine qA 3 ?_); refine AU hS rfl _ _ rfl (.agg #[.int .i64 (R : Nat), .slice Al L.length cl, .int .u64 (st : Nat), .slice Ar rl.length cr, .slice An nl.length cn, .slice Ag gl.length cg]) _ rfl rfl ?_; clear hS; intro g3 w_ hS; (try simp only [Act.put, Act.eval, zz, Value.cells] at hS))
   | ((with_reducible refine qB ?_); refine qc ?_ ?_ <;> intro h_ <;> go_prune)
   | ((with_reducible refine qK ?_); refine qC hS ?_))
  all_goals
   go_ret2
   exact AE.mk rfl hS.below
end
section
open Go.RowKit
attribute [local go_sem ↓] Go.wp_at_zero Go.wp_at_succ
set_option maxRecDepth 20000
set_option exponentiation.threshold 5000
section
variable {P : Program} {w : World} {t : TypeId} {x y : Nat}
end
theorem rprob_open {w0 : World} {D : Nat -> Prop} {v : Value} {p : B3} {L : List (Nat × Nat)} (hl : p.links = some L) (h : BJ w0 D v p) :
  ∃ Al cl Ar cr An cn Ag cg, v = .agg #[.int .i64 p.roles, .slice Al L.length cl, .int .u64 (p.start : Nat), .slice Ar p.rules.length cr, .slice An p.never.length cn, .slice Ag p.goal.length cg] /\ Sl w0 D 2 (.slice Al L.length cl) L.length (Ad L) /\ Sl w0 D 5 (.slice Ar p.rules.length cr) p.rules.length (B9 p.rules) /\ Sl w0 D 2 (.slice An p.never.length cn) p.never.length (Bn p.never) /\ Sl w0 D 2 (.slice Ag p.goal.length cg) p.goal.length (Bn p.goal) := by
 obtain ⟨lv, rv, nv, gv, L', rfl, hl', h1, h2, h3, h4⟩ := h
 obtain rfl : L = L' := by rw [hl] at hl'; injection hl'
 obtain ⟨Al, cl, rfl, _, _⟩ := h1.shape
 obtain ⟨Ar, cr, rfl, _, _⟩ := h2.shape
 obtain ⟨An, cn, rfl, _, _⟩ := Sl.shape (h3 : Sl _ _ _ _ _ _)
 obtain ⟨Ag, cg, rfl, _, _⟩ := Sl.shape (h4 : Sl _ _ _ _ _ _)
 exact ⟨_, _, _, _, _, _, _, _, rfl, h1, h2, h3, h4⟩
end
section
open Go.RowKit
attribute [local go_sem ↓] Go.wp_at_zero Go.wp_at_succ
set_option maxRecDepth 20000
set_option exponentiation.threshold 5000
structure PG where
 a : Option Value
 b : Option Value
 c : Option Value
 d : Option Value
 e : Option Value
 f : Option Value
def optF (o : Option Value) (f : Value -> Ae) : List Ae := match o with
 | some v => [f v]
 | none => []
def PG.F (lv : Value) (us : List Value) (p : List Nat) (y : Nat) (g : PG) : List Ae := match g.f with
 | some v => [.own v 74 1 (us.length + 1) (us ++ [g.d.getD undef]), .own (g.d.getD undef) 3 1 (p.length + 1) (AV (Ax (p ++ [y])))]
 | none => optF g.e (fun v => .own v 74 1 1 [g.d.getD undef]) ++ (.own lv 74 1 us.length us :: (match g.d with
  | some v => [.own v 3 1 (p.length + 1) (AV (Ax (p ++ [y])))]
  | none => (match g.b with
   | some v => [.own v 3 1 p.length (AV (Ax p))]
   | none => optF g.a fun v => .own v 3 1 0 []) ++ optF g.c fun v => .own v 3 1 1 [.int .i64 (y : Nat)]))
section
variable {w0 : World} {F : List Ae} {K : (Nat -> Prop) -> World -> Prop} {lv : Value} {us : List Value} {p : List Nat} {y : Nat} {s s' : World × PG}
def PJ (w0 : World) (F : List Ae) (K : (Nat -> Prop) -> World -> Prop) (lv : Value) (us : List Value) (p : List Nat) (y : Nat) (s : World × PG) : Prop := St w0 s.1 (s.2.F lv us p y ++ F) K
def PR (w0 : World) (F : List Ae) (K : (Nat -> Prop) -> World -> Prop) (lv : Value) (us : List Value) (p : List Nat) (y : Nat) (s s' : World × PG) : Prop :=
 (PJ w0 F K lv us p y s -> PJ w0 F K lv us p y s') /\ (∀ v, s.2.a = some v -> s'.2.a = some v) /\ (∀ v, s.2.b = some v -> s'.2.b = some v) /\ (∀ v, s.2.c = some v -> s'.2.c = some v) /\ (∀ v, s.2.d = some v -> s'.2.d = some v) /\ (∀ v, s.2.e = some v -> s'.2.e = some v) /\ (∀ v, s.2.f = some v -> s'.2.f = some v)
variable {P : Program} {o : Oper} {a : Act} {Kt : Act -> World -> Prop} {Q : Exit -> Act -> World -> Prop}
end
end
section
open Go.RowKit
attribute [local go_sem ↓] Go.wp_at_zero Go.wp_at_succ
set_option maxRecDepth 20000
set_option exponentiation.threshold 5000
theorem guard_ide {w : World} {x y : Operand} {a b : Array Value} : (eqGuard .eql 87 x y (.agg a) (.agg b)).run Tryz.prog w = .ok () w := by kernel_rfl
end
section
open Go.RowKit
set_option exponentiation.threshold 5000
theorem role_in : ∀ R, R < 6 -> ∀ z, z < 6 -> 1 <= z -> z <= R -> (Cc R).testBit z = true := by decide
end
section
open Go.RowKit
attribute [local go_sem ↓] Go.wp_at_zero Go.wp_at_succ
set_option maxRecDepth 20000
set_option exponentiation.threshold 5000
theorem mask_with {R N t : Nat} (hR : R <= 5) (hN : N &&& Cc R = N) (h1 : 1 <= t) (h2 : t <= R) : CW N (t : Int) &&& Cc R = CW N (t : Int) := by
 rw [<- or_with (by omega)]
 refine BQ fun i => ?_
 have hN' : (N &&& Cc R).testBit i = N.testBit i := by rw [hN]
 rw [Nat.testBit_and] at hN'
 rw [Nat.testBit_and, Nat.testBit_or, Nat.testBit_two_pow]
 by_cases e : t = i
 ·subst e
  rw [role_in R (by omega) t (by omega) h1 h2]; simp
 ·simp only [e, decide_false, Bool.or_false]
  exact Bool.eq_iff_iff.1 hN'
theorem mask_del {R N : Nat} (t : Int) (hN : N &&& Cc R = N) : del N t &&& Cc R = del N t := by
 unfold del
 split
 ·rename_i hb
  refine BQ fun i => ?_
  have hN' : (N &&& Cc R).testBit i = N.testBit i := by rw [hN]
  rw [Nat.testBit_and] at hN'
  have hb' : N.testBit t.toNat = true := by unfold Cz at hb; simp only [Bool.and_eq_true] at hb; exact hb.2
  rw [Nat.testBit_and, Nat.testBit_xor, Nat.testBit_two_pow]
  by_cases e : t.toNat = i
  ·rw [e] at hb' ⊢; simp [hb']
  ·simp only [e, decide_false, Bool.xor_false]; exact Bool.eq_iff_iff.1 hN'
 ·exact hN
theorem stepM_mask {p : B3} {L : List (Nat × Nat)} {R N M : Nat} {k : Int} (hM : Fu p L R) (hN : N &&& Cc R = N) (h : stepM p N k = some M) : M &&& Cc R = M := by
 unfold stepM at h
 split at h
 ·rename_i hk
  split at h
  ·injection h with h
   subst h
   have hj : k.toNat < p.rules.length := by omega
   have hz := hM.rules _ (List.mem_of_getElem? (CU Bo hj))
   generalize p.rules.getD k.toNat Bo = z at *
   unfold nextM
   split
   ·exact mask_del _ hN
   ·have h1 := hz.1
    have := mask_with (t := z.target.toNat) hM.r5 hN (by omega) (by omega)
    rwa [show ((z.target.toNat : Nat) : Int) = z.target by omega] at this
  ·cases h
 ·cases h
theorem mask_lt {R N : Nat} (hR : R <= 5) (hN : N &&& Cc R = N) : N < 64 := by
 have h1 : Cc R <= 62 := by
  have : ∀ R, R < 6 -> Cc R <= 62 := by decide
  exact this R (by omega)
 have h2 : N &&& Cc R <= Cc R := Nat.and_le_right
 omega
end
section
open Go.RowKit
set_option exponentiation.threshold 5000
section
variable {p : B3} {L : List (Nat × Nat)} {R A k i : Nat}
end
noncomputable def runTo (p : B3) : Nat -> Nat -> List Int -> Nat × Nat × Bool
 | N, n, [] => (N, n, true)
 | N, n, k :: r => match stepM p N k with
  | none => (N, n, false)
  | some M => runTo p M (n + 1) r
theorem runTo_cons {p : B3} {N M n : Nat} {k : Int} {r : List Int} (h : stepM p N k = some M) : runTo p N n (k :: r) = runTo p M (n + 1) r := by rw [runTo, h]
theorem runTo_stop {p : B3} {N n : Nat} {k : Int} {r : List Int} (h : stepM p N k = none) : runTo p N n (k :: r) = (N, n, false) := by rw [runTo, h]
section
variable {p : B3} {L : List (Nat × Nat)} {R : Nat}
end
end
section
open Go.RowKit
attribute [local go_sem ↓] Go.wp_at_zero Go.wp_at_succ
set_option maxRecDepth 20000
set_option exponentiation.threshold 5000
set_option maxHeartbeats 4000000 in
theorem rrun31_any {w0 : World} {D E : Nat -> Prop} {v pv : Value} {p : B3} {L : List (Nat × Nat)} {R : Nat} {l : List Int} (hp : BJ w0 D v p) (hM : Fu p L R) (hv : Sl w0 E 1 pv l.length (AV l)) (hlen : l.length <= 1000000) :
  Calls Tryz.prog 35 #[v, pv] w0 (AE (fun x _ => x = .tuple #[.int .u64 ((runTo p p.start 0 l).1 : Nat), .int .i64 ((runTo p p.start 0 l).2.1 : Nat)]) w0) := by
 obtain ⟨Ap, cp, rfl, _, _⟩ := hv.shape
 obtain ⟨R', lk, st, rl, nl, gl⟩ := p
 obtain rfl : lk = some L := hM.links
 obtain rfl : R' = (R : Int) := hM.roles
 obtain ⟨Al, cl, Ar, cr, An, cn, Ag, cg, rfl⟩ := Fe hp
 obtain ⟨K, kp, kv, hS⟩ : ∃ K : (Nat -> Prop) -> World -> Prop, (∀ D w, K D w -> BJ w D (.agg #[.int .i64 (R : Nat), .slice Al L.length cl, .int .u64 (st : Nat), .slice Ar rl.length cr, .slice An nl.length cn, .slice Ag gl.length cg]) ⟨(R : Int), some L, st, rl, nl, gl⟩) /\ (∀ D w, K D w -> Sl w D 1 (.slice Ap l.length cp) l.length (AV l)) /\ St w0 w0 [] K := ⟨fun D w => BJ w D (.agg #[.int .i64 (R : Nat), .slice Al L.length cl, .int .u64 (st : Nat), .slice Ar rl.length cr, .slice An nl.length cn, .slice Ag gl.length cg]) ⟨(R : Int), some L, st, rl, nl, gl⟩ /\ Sl w D 1 (.slice Ap l.length cp) l.length (AV l), fun _ _ h => h.1, fun _ _ h => h.2, St.start (D := fun _ => True) (CL.and (Ab (by decide))) ⟨CL D _ w0 w0 hp (Nat.le_refl _) (fun _ _ _ _ h => h) fun _ _ _ _ => trivial, hv.imp fun _ _ _ => trivial⟩⟩
 have HM := Lib.hid hM
 have HST := Lib.hid (show st &&& Cc R = st from hM.start)
 have hst : st < AC := hM.fits.start
 clear hp hv hM
 obtain ⟨RES, hR⟩ : ∃ RES, runTo ⟨(R : Int), some L, st, rl, nl, gl⟩ st 0 l = RES := ⟨_, rfl⟩
 dsimp only
 rw [hR]
 replace hR := Lib.hid hR
 go_enter Tryz.func35, Tryz.ntmps35
 go_wp2_with (first
  | ((with_reducible refine qA 2 ?_); refine AU hS rfl _ _ rfl (.agg #[.int .i64 (R : Nat), .slice Al L.length cl, .int .u64 (st : Nat), .slice Ar rl.length cr, .slice An nl.length cn, .slice Ag gl.length cg]) _ rfl rfl ?_; clear hS; intro g1 w_ hS; (try simp only [Act.put, Act.eval, zz, Value.cells] at hS))
  | ((with_reducible refine qK ?_); refine qC hS ?_))
 go_loopw [6, 15] (fun sv iv wr => ∃ (j N : Nat), sv = .int .u64 (N : Nat) /\ iv = .int .i64 (j : Nat) /\ j <= l.length /\ N < AC /\ Hid (N &&& Cc R = N) /\ Hid (RES = runTo ⟨(R : Int), some L, st, rl, nl, gl⟩ N j (l.drop j)) /\ St w0 wr [.box g1 30 #[.int .i64 (R : Nat), .slice Al L.length cl, .int .u64 (st : Nat), .slice Ar rl.length cr, .slice An nl.length cn, .slice Ag gl.length cg]] K) (fun _ i _ => l.length - (intOf i).toNat)
 case atStart => exact ⟨0, st, rfl, rfl, by omega, hst, HST, Lib.hid (by rw [<- hR.out]; rfl), hS⟩
 case round =>
  clear hS
  obtain ⟨j, N, rfl, rfl, hj, hN, HN, HR, hS⟩ := hrel
  by_cases hjl : j < l.length
  ·obtain ⟨bp, op, rfl⟩ := sl_pos (kv _ _ hS.ro) (by omega)
   obtain ⟨k, hk⟩ : ∃ k, l[j]? = some k := ⟨_, List.getElem?_eq_getElem hjl⟩
   have HY : Hid ((AV l)[j]? = some (.int .i64 k)) := Lib.hid (by simp [AV, hk])
   have hd : l.drop j = k :: l.drop (j + 1) := by
    rw [List.drop_eq_getElem_cons hjl]
    congr 1
    rw [List.getElem?_eq_getElem hjl] at hk
    exact Option.some.inj hk
   rw [hd] at HR
   obtain ⟨V, hV⟩ : ∃ V, stepM ⟨(R : Int), some L, st, rl, nl, gl⟩ N k = V := ⟨_, rfl⟩
   have HVV := Lib.hid hV
   clear hk hd hV
   cases V with
   | none =>
    go_wp2_with (first
     | ((with_reducible refine qB ?_); refine qc ?_ ?_ <;> intro h_ <;> go_prune)
     | ((with_reducible refine qk 3 ?_); refine BigFrame.wpList_want rfl fun _ hK => Aq rfl rfl (by kernel_rfl) (sl_cell (kv _ _ hS.ro) HY.out) (hK _ _ ?_))
     | ((with_reducible refine qK ?_); refine qL hS Tryz.underlying30 ?_)
     | (go_at_call 32; refine (Is (N := N) k (kp _ _ hS.ro) HM.out hN).mono ?_; rw [HVV.out]; rintro e w_ ⟨_, rfl, rfl, hb_⟩; replace hS := hS.ext hb_; clear hb_)
     | ((with_reducible refine qK ?_); refine qC hS ?_))
    go_ret2
    exact AE.mk (by rw [HR.out, runTo_stop HVV.out]; rfl) hS.below
   | some M =>
    have HMM := Lib.hid (stepM_mask HM.out HN.out HVV.out)
    have hM64 : M < AC := by have := mask_lt HM.out.r5 HMM.out; unfold AC; omega
    go_wp2_with (first
     | ((with_reducible refine qB ?_); refine qc ?_ ?_ <;> intro h_ <;> go_prune)
     | ((with_reducible refine qk 3 ?_); refine BigFrame.wpList_want rfl fun _ hK => Aq rfl rfl (by kernel_rfl) (sl_cell (kv _ _ hS.ro) HY.out) (hK _ _ ?_))
     | ((with_reducible refine qK ?_); refine qL hS Tryz.underlying30 ?_)
     | (go_at_call 32; refine (Is (N := N) k (kp _ _ hS.ro) HM.out hN).mono ?_; rw [HVV.out]; rintro e w_ ⟨_, rfl, rfl, hb_⟩; replace hS := hS.ext hb_; clear hb_)
     | ((with_reducible refine qK ?_); refine qC hS ?_))
    exact ⟨⟨j + 1, M, rfl, by go_num, hjl, hM64, HMM, Lib.hid (by rw [HR.out, runTo_cons HVV.out]), hS⟩, by simp [intOf]; omega⟩
  ·obtain rfl : j = l.length := by omega
   rw [List.drop_length] at HR
   go_wp2_with (first | ((with_reducible refine qB ?_); refine qc ?_ ?_ <;> intro h_ <;> go_prune) | ((with_reducible refine qK ?_); refine qC hS ?_))
   go_ret2
   exact AE.mk (by rw [HR.out]; rfl) hS.below
end
section
open Go.RowKit
attribute [local go_sem ↓] Go.wp_at_zero Go.wp_at_succ
set_option maxRecDepth 20000
set_option exponentiation.threshold 5000
theorem start_bytesP2 {W : World} {D E : Nat -> Prop} {v u : Value} {l m : List Nat} (h : Co W) (hv : Sl W D 1 v l.length (Ah l)) (hu : Sl W E 1 u m.length (Ah m)) : ∃ K : (Nat -> Prop) -> World -> Prop, (∀ D w, K D w -> Co w /\ D 0) /\ (∀ D w, K D w -> Sl w D 1 v l.length (Ah l)) /\ (∀ D w, K D w -> Sl w D 1 u m.length (Ah m)) /\ St W W [] K :=
 ⟨fun D w => (Co w /\ D 0) /\ Sl w D 1 v l.length (Ah l) /\ Sl w D 1 u m.length (Ah m), fun _ _ h => h.1, fun _ _ h => h.2.1, fun _ _ h => h.2.2, St.start (D := fun _ => True) (Ec.and ((Ab (by decide)).and (Ab (by decide)))) ⟨⟨h, trivial⟩, hv.imp fun _ _ _ => trivial, hu.imp fun _ _ _ => trivial⟩⟩
theorem AO.planS {w : World} {D : Nat -> Prop} {cs : Array Value} {pv : Value} {c : BB} (h : AO w D (.agg cs) c) (h33 : cs[33]? = some pv) : Sl w D 1 pv c.plan.length (AV c.plan) := by
 obtain ⟨cs', pv', qv', e, _, _, _, _, _, h2, _, h3, _⟩ := h
 injection e with e
 subst e
 rw [h33] at h2
 obtain rfl := Option.some.inj h2
 exact h3
theorem AO.probR {w w2 : World} {D : Nat -> Prop} {cs : Array Value} {b : Nat} {t : TypeId} {c : BB} (h : AO w D (.agg cs) c) (hb : AP w2 b t cs) : w2.rangeAt b 0 (Ah c.prob) := fun j v hj => by
 obtain ⟨cs', pv', qv', e, _, h32, _, hp, _⟩ := h
 injection e with e
 subst e
 have hjl : j < (Ah c.prob).length := (List.getElem?_eq_some_iff.1 hj).1
 rw [Ai] at hjl
 rw [Nat.zero_add, hb.cell, hp j (by omega), <- hj, Ce _ _ hjl]
theorem AO.c33 {w : World} {D : Nat -> Prop} {cs : Array Value} {c : BB} (h : AO w D (.agg cs) c) : ∃ A k, cs[33]? = some (.slice A c.plan.length k) := by
 obtain ⟨cs', pv', qv', e, _, _, _, _, _, h2, _, h3, _⟩ := h
 injection e with e
 subst e
 obtain ⟨A, k, rfl, _, _⟩ := h3.shape
 exact ⟨A, k, h2⟩
theorem run_conv8x {w : World} {n : Nat} (h : n < 256) : (convert 5 3 (.int .u8 (n : Nat))).run Tryz.prog w = .ok (.int .i64 (n : Nat)) w := by
 go_simp
 exact De (by omega)
theorem plan_check {q : List Nat} {qs : List Int} (hl : qs.length <= 9) (hz : ∀ z ∈ qs, 0 <= z /\ z < 64) : Bh ⟨q, true, qs, []⟩ = 0 := by
 have h1 : qs.any Dr = false := by
  rw [List.any_eq_false]
  intro z hm
  have := hz z hm
  unfold Dr
  simp; omega
 rw [checkC_eq, if_neg (by simp; omega), if_neg (by simp), List.drop_zero, h1]
 rfl
theorem plan_fit {q : List Nat} {qs : List Int} (hq : q.length = 32) (hb : Ao q) (hl : qs.length <= 9) (hz : ∀ z ∈ qs, 0 <= z /\ z < 64) : Fit ⟨q, true, qs, []⟩ := by
 have h := plan_check (q := q) hl hz
 obtain ⟨h1, h2, h3⟩ := J0 h
 exact ⟨h, hq, hb, ⟨h1, fun k hk => by have := h3 k hk; omega⟩, h2, fun z hz => by simp at hz⟩
set_option maxHeartbeats 4000000 in
theorem lcruns_any (v u : Value) (l m : List Nat) (W : World) (D E : Nat -> Prop) (hl : ∀ x ∈ l, x < 256) (hm : ∀ x ∈ m, x < 256) (hv : Sl W D 1 v l.length (Ah l)) (hu : Sl W E 1 u m.length (Ah m)) (hT : Co W) (hTB : Gm W) : Calls Tryz.prog 11 #[v, u] W (AE (fun x _ => x = .bool true) W) := by
 obtain ⟨K, kt, k1, k2, hS⟩ := start_bytesP2 hT hv hu
 obtain ⟨A2, c2, rfl, _, _⟩ := hu.shape
 clear hv hu
 have HL := Lib.hid hl
 have HM := Lib.hid hm
 have HDT := Lib.hid hT
 have HTB := Lib.hid hTB
 clear hl hT hTB hm
 go_enter Tryz.func11, Tryz.ntmps11
 go_wp2_with (first
  | (go_at_call 39; refine (awake_any _ (HTB.out.ext hS.below)).mono ?_; rintro e w3 ⟨_, rfl, rfl, hb3⟩; replace hS := hS.ext hb3; clear hb3)
  | (go_at_call 18; refine (lmake31_any HL.out hS k1 kt).mono ?_; clear hS; rintro e w_ ⟨x, u, rfl, p, ⟨L, R, hM⟩, hS⟩; replace hM := Lib.hid hM; obtain ⟨xs, rfl, hx6, hx1⟩ := hS.ro.2.1.cells; replace hx6 := Lib.hid hx6; obtain ⟨Al, cl, Ar, cr, An, cn, Ag, cg, rfl, -⟩ := rprob_open hM.out.links hS.ro.2.2)
  | ((with_reducible refine qA 5 ?_); refine qa hS #[.int .i64 0, .pointer none, .slice none 0 0, .slice none 0 0, .slice none 0 0, .slice none 0 0] ?_; clear hS; intro g5 w_ hS)
  | ((with_reducible refine qA 6 ?_); refine qa hS #[.int .i64 0, .slice none 0 0, .int .u64 0, .slice none 0 0, .slice none 0 0, .slice none 0 0] ?_; clear hS; intro g6 w_ hS)
  | ((with_reducible refine qm 30 ?_); refine Cl hS 0 rfl _ _ _ rfl _ _ rfl rfl _ _ rfl (by kernel_rfl) rfl (by kernel_rfl) ?_; clear hS; intro w_ hS; (try simp only [Act.put, Act.eval, zz, Value.cells] at hS))
  | ((with_reducible refine qm 43 ?_); refine Cl hS 1 rfl _ _ _ rfl _ _ rfl rfl _ _ rfl (by rw [hx6.out]; kernel_rfl) (by rw [hx6.out]; rfl) hx1 ?_; clear hS; intro w_ hS; (try simp only [Act.put, Act.eval, zz, Value.cells] at hS)))
 have hrl := hM.out.rlen
 obtain ⟨K3, k3, kp, kr, km, hS2⟩ : ∃ K3 : (Nat -> Prop) -> World -> Prop, (∀ D w, K3 D w -> K D w) /\ (∀ D w, K3 D w -> Bt w D (.agg xs) p) /\ (∀ D w, K3 D w -> BJ w D (.agg #[.int .i64 p.roles, .slice Al L.length cl, .int .u64 (p.start : Nat), .slice Ar p.rules.length cr, .slice An p.never.length cn, .slice Ag p.goal.length cg]) p) /\ (∀ D w, K3 D w -> Sl w D 1 (.slice A2 m.length c2) m.length (Ah m)) /\ St W w_ [.box g6 30 #[.int .i64 p.roles, .slice Al L.length cl, .int .u64 (p.start : Nat), .slice Ar p.rules.length cr, .slice An p.never.length cn, .slice Ag p.goal.length cg], .box g5 43 xs] K3 := ⟨_, fun _ _ h => h.1, fun _ _ h => h.2.1, fun _ _ h => h.2.2, fun _ _ h => k2 _ _ h.1, hS⟩
 clear hS
 have hS := hS2
 clear hS2
 have KS3 := Lib.hid hS.stable
 obtain ⟨n, hn⟩ : ∃ n, p.rules.length = n := ⟨_, rfl⟩
 rw [hn] at hS hrl kr ⊢
 clear hn
 replace hS := hS.nil 3 1
 go_loopw [8, 9] (fun ov i wr => ∃ (j : Nat) (sv : Value) (qs : List Int), i = .int .i64 (j : Nat) /\ sv = ov /\ j <= 9 /\ Hid (qs.length = j /\ ∀ z ∈ qs, 0 <= z /\ z < 64) /\ St W wr (.own sv 3 1 j (AV qs) :: .box g6 30 #[.int .i64 p.roles, .slice Al L.length cl, .int .u64 (p.start : Nat), .slice Ar n cr, .slice An p.never.length cn, .slice Ag p.goal.length cg] :: .box g5 43 xs :: []) K3) (fun _ i _ => 9 - (intOf i).toNat)
 case atStart => exact ⟨0, _, [], rfl, rfl, by omega, Lib.hid ⟨rfl, fun z hz => by simp at hz⟩, hS⟩
 case round =>
  clear hS
  obtain ⟨j, sv, qs, rfl, rfl, hj, HQ, hS⟩ := hrel
  obtain ⟨As, cs, rfl, _, _⟩ := BW (hS.own 0 rfl)
  by_cases hgo : j < m.length /\ j < 9 /\ 0 < n
  ·obtain ⟨hjm, hj9, hn0⟩ := hgo
   obtain ⟨b, o, rfl⟩ := sl_pos (km _ _ hS.ro) (by omega)
   have p1 := Lib.hid (Ce m j hjm)
   have hz256 := HM.out (m.getD j 0) (by rw [List.getD_eq_getElem?_getD, List.getElem?_eq_getElem hjm]; exact List.getElem_mem hjm)
   generalize m.getD j 0 = z at *
   have hzn : z % n < n := Nat.mod_lt _ hn0
   go_wp2_with (first | ((with_reducible refine qB ?_); refine qc ?_ ?_ <;> intro h_ <;> go_prune) | ((with_reducible refine qK ?_); refine qC hS ?_))
   refine IP (fun i__ v w => match i__ with
    | 0 => v = .slice As j cs
    | 1 => v = .slice (some ⟨b, o, none⟩) m.length c2
    | 2 => v = .int .i64 (j : Nat)
    | 3 => v = .pointer (some ⟨b, o + (j) * 1, none⟩)
    | 4 => v = .int .u8 (z : Nat)
    | 5 => v = .int .i64 (z : Nat)
    | 6 => v = .pointer (some ⟨g6, 3, none⟩)
    | 7 => v = .slice Ar n cr
    | 8 => v = .int .i64 (n : Nat)
    | 9 => v = .int .i64 ((z % n : Nat) : Int)
    | 10 => Sl w (fun _ => True) 1 v 1 [.int .i64 ((z % n : Nat) : Int)]
    | 11 => True
    | 12 => True
    | _ => True) 11 [12] (by kernel_rfl) (by kernel_rfl) (by kernel_rfl) (by kernel_rfl) (by kernel_rfl) ?mono ⟨.inr ?r0, .inr ?r1, .inr ?r2, .inr ?r3, .inr ?r4, .inr ?r5, .inr ?r6, .inr ?r7, .inr ?r8, .inr ?r9, .inr ?r10, .inl (by decide), .inl (by decide), trivial⟩ ?post
   case mono =>
    intro i v w w' h hb
    match i, h with
    | 0, h | 1, h | 2, h | 3, h | 4, h | 5, h | 6, h | 7, h | 8, h | 9, h => exact h
    | 10, h => exact h.ext hb
    | 11, h | 12, h => exact h
    | _ + 13, h => trivial
   case r0 =>
    refine DR fun b__ w hW hold hpre => wU rfl fun K hK => ?_
    have e8 : b__.eval (.tmp 8) = .slice As j cs := (hold 8 (by kernel_rfl)).trans rfl
    exact Dh rfl e8 (hK _ _ rfl (Below.refl _ _))
   case r1 =>
    refine DR fun b__ w hW hold hpre => wU rfl fun K hK => ?_
    have e1 : b__.eval (.tmp 1) = .slice (some ⟨b, o, none⟩) m.length c2 := (hold 1 (by kernel_rfl)).trans rfl
    exact Dh rfl e1 (hK _ _ rfl (Below.refl _ _))
   case r2 =>
    refine DR fun b__ w hW hold hpre => wU rfl fun K hK => ?_
    have e9 : b__.eval (.tmp 9) = .int .i64 (j : Nat) := (hold 9 (by kernel_rfl)).trans rfl
    exact Dh rfl e9 (hK _ _ rfl (Below.refl _ _))
   case r3 =>
    refine DR fun b__ w hW hold hpre => wU rfl fun K hK => ?_
    have e44 := pq hpre 0 1 44
    have e45 := pq hpre 1 2 45
    exact CO rfl e44 e45 (Az (m := j) Tryz.underlying22 (by kernel_rfl) (by omega) (by omega)) (hK _ _ rfl (Below.refl _ _))
   case r4 =>
    refine DR fun b__ w hW hold hpre => wU rfl fun K hK => ?_
    have e46 := pq hpre 0 3 46
    exact Aq rfl e46 (by kernel_rfl) (by rw [Nat.mul_one]; exact sl_cell (km _ _ (hS.ext (BD hW)).ro) p1.out) (hK _ _ rfl (Below.refl _ _))
   case r5 =>
    refine DR fun b__ w hW hold hpre => wU rfl fun K hK => ?_
    have e47 := pq hpre 0 4 47
    exact CE (vx := .int .u8 (z : Nat)) (v := .int .i64 (z : Nat)) rfl e47 (run_conv8x hz256) (hK _ _ rfl (Below.refl _ _))
   case r6 =>
    refine DR fun b__ w hW hold hpre => wU rfl fun K hK => ?_
    have e6 : b__.eval (.tmp 6) = .pointer (some ⟨g6, 0, none⟩) := (hold 6 (by kernel_rfl)).trans rfl
    exact Ex rfl e6 (by kernel_rfl) (hK _ _ rfl (Below.refl _ _))
   case r7 =>
    refine DR fun b__ w hW hold hpre => wU rfl fun K hK => ?_
    have e49 := pq hpre 0 6 49
    exact Aq rfl e49 (by kernel_rfl) ((hS.ext (BD hW)).shut 1 rfl 3 rfl) (hK _ _ rfl (Below.refl _ _))
   case r8 =>
    refine DR fun b__ w hW hold hpre => wU rfl fun K hK => ?_
    have e50 := pq hpre 0 7 50
    exact opw_len rfl e50 Tryz.underlying27 (hK _ _ rfl (Below.refl _ _))
   case r9 =>
    refine DR fun b__ w hW hold hpre => wU rfl fun K hK => ?_
    have e48 := pq hpre 0 5 48
    have e51 := pq hpre 1 8 51
    exact AH rfl e48 e51 rfl (by go_simp; rw [if_neg (by omega), tmod_nat z n]; first | rfl | simp) (hK _ _ rfl (Below.refl _ _))
   case r10 =>
    refine DR fun b__ w hW hold hpre => wU rfl fun K hK => ?_
    have e52 : b__.eval (.tmp 52) = .int .i64 ((z % n : Nat) : Int) := pq hpre 0 9 52
    refine CM rfl Tryz.underlying74 (ps := [(0, .int .i64 ((z % n : Nat) : Int))]) (by simp [e52]) (cells := #[.int .i64 ((z % n : Nat) : Int)]) (by kernel_rfl) fun w' hX hb => hK _ _ ((Sl.of_box (n := 1) (size := 1) hX rfl (by omega)).imp fun _ _ _ => trivial) hb
   case post =>
    intro b__ wz hW hdf hsz hold hT
    have e53 : (fun (v : Value) (w : World) => Sl w (fun _ => True) 1 v 1 [.int .i64 ((z % n : Nat) : Int)]) (b__.eval (.tmp 53)) wz := hT 10 _ 53 (by decide) rfl rfl
    obtain ⟨vs, hvs, hb⟩ := Fl hdf hsz (fun s hs => hold s (noDstS_of hs))
    have e43 : vs 43 = .slice As j cs := (hvs 43).symm.trans (hT 0 _ 43 (by decide) rfl rfl)
    replace e53 := (hvs 53) ▸ e53
    have e44 : vs 44 = .slice (some ⟨b, o, none⟩) m.length c2 := (hvs 44).symm.trans (hT 1 _ 44 (by decide) rfl rfl)
    have e45 : vs 45 = .int .i64 (j : Nat) := (hvs 45).symm.trans (hT 2 _ 45 (by decide) rfl rfl)
    have e46 : vs 46 = .pointer (some ⟨b, o + (j) * 1, none⟩) := (hvs 46).symm.trans (hT 3 _ 46 (by decide) rfl rfl)
    have e47 : vs 47 = .int .u8 (z : Nat) := (hvs 47).symm.trans (hT 4 _ 47 (by decide) rfl rfl)
    have e48 : vs 48 = .int .i64 (z : Nat) := (hvs 48).symm.trans (hT 5 _ 48 (by decide) rfl rfl)
    have e49 : vs 49 = .pointer (some ⟨g6, 3, none⟩) := (hvs 49).symm.trans (hT 6 _ 49 (by decide) rfl rfl)
    have e50 : vs 50 = .slice Ar n cr := (hvs 50).symm.trans (hT 7 _ 50 (by decide) rfl rfl)
    have e51 : vs 51 = .int .i64 (n : Nat) := (hvs 51).symm.trans (hT 8 _ 51 (by decide) rfl rfl)
    have e52 : vs 52 = .int .i64 ((z % n : Nat) : Int) := (hvs 52).symm.trans (hT 9 _ 52 (by decide) rfl rfl)
    subst hb
    clear hvs hold hT hdf hsz
    simp only [AM, Act.put, zz, ze]
    have hS1 := hS.ext hW
    (intro o_ ho_; simp only [List.getElem?_toArray, List.getElem?_cons_succ, List.getElem?_cons_zero, Option.some.injEq] at ho_; subst ho_)
    refine EN rfl EE e43 (hS1.own 0 rfl) rfl e53 (by intro u hu; simp at hu; subst hu; rfl) (by omega) (by omega) hS1.size fun v9 w9 ho9 hg9 hat9 => ?_
    replace hS1 := hS1.upd 0 rfl (.own v9 3 1 (j + 1) (AV qs ++ [Value.int .i64 ((z % n : Nat) : Int)])) hg9 ho9 hat9
    (intro o_ ho_; simp only [List.getElem?_toArray, List.getElem?_cons_succ, List.getElem?_cons_zero, Option.some.injEq] at ho_; subst ho_)
    simp only [Act.put, List.setIfInBounds_toArray, List.set_cons_zero, List.set_cons_succ]
    refine DX rfl rfl ?_
    simp only [DE]
    simp only [Act.put, List.setIfInBounds_toArray, List.set_cons_zero, List.set_cons_succ]
    clear hS hW
    go_wp2_with fail
    refine ⟨⟨j + 1, v9, qs ++ [((z % n : Nat) : Int)], by go_num, rfl, by omega, Lib.hid ⟨by rw [List.length_append, HQ.out.1]; rfl, fun y hy => ?_⟩, ?_⟩, by simp [intOf]; omega⟩
    ·rcases List.mem_append.1 hy with hy | hy
     ·exact HQ.out.2 y hy
     ·simp at hy; subst hy; omega
    ·rw [show AV (qs ++ [((z % n : Nat) : Int)]) = AV qs ++ [.int .i64 ((z % n : Nat) : Int)] by simp [AV]]
     exact hS1
  ·obtain ⟨q, hq⟩ : ∃ q, pidC p = q := ⟨_, rfl⟩
   have H32 : Hid (q.length = 32) := Lib.hid (by rw [<- hq]; exact Jy p)
   have HBY : Hid (Ao q) := Lib.hid (by rw [<- hq]; exact Jz p)
   have HPD : Hid (∀ (w : World) (D : Nat -> Prop), Bt w D (.agg xs) p -> Co w -> Gm w -> Calls Tryz.prog 40 #[.agg xs] w (AE (fun x _ => x = .agg (Ah q).toArray) w)) := Lib.hid fun w D h1 h2 h3 => by rw [<- hq]; exact pid_any h1 hM.out.ok h2 h3
   have HRE : Hid (∀ (w : World) (D E : Nat -> Prop) (pv : Value), Bt w D (.agg xs) p -> Co w -> Gm w -> Sl w E 1 pv qs.length (AV qs) -> Calls Tryz.prog 44 #[.agg xs, pv] w (AE (fun x w' => AO w' (w.heap.size <= ·) x ⟨q, true, qs, []⟩) w)) := Lib.hid fun w D E pv h1 h2 h3 h4 => by rw [<- hq]; exact creached_any h1 hM.out.ok h2 h3 h4 (by have := HQ.out.1; omega)
   clear hq
   have hF := plan_fit (q := q) H32.out HBY.out (by have := HQ.out.1; omega) HQ.out.2
   have HF := Lib.hid hF
   have HCK : Hid (Bh ⟨q, true, qs, []⟩ = 0) := Lib.hid hF.1
   have HBS : Hid (∀ (w : World) (D : Nat -> Prop) (v : Value), AO w D v ⟨q, true, qs, []⟩ -> Calls Tryz.prog 48 #[v] w (AE (fun x w' => Sl w' (w.heap.size <= ·) 1 x (Aw ⟨q, true, qs, []⟩).length (Ah (Aw ⟨q, true, qs, []⟩))) w)) := Lib.hid fun w D v h => E2 v _ w D h
   have HRD : Hid (∀ (w : World) (F : List Ae) (K : (Nat -> Prop) -> World -> Prop) (D : Nat -> Prop) (v : Value), St W w F K -> Sl w D 1 v (Aw ⟨q, true, qs, []⟩).length (Ah (Aw ⟨q, true, qs, []⟩)) -> Calls Tryz.prog 47 #[v] w fun x w' => ∃ v, x = .returned (.tuple #[v, .int .i64 0]) /\ St W w' F fun D w => K D w /\ AO w D v ⟨q, true, qs, []⟩) := Lib.hid fun w F K D v h1 h2 => by
    have := cread_any v (Aw ⟨q, true, qs, []⟩) (DJ HBY.out) (bytesC_len64 (fun z hz => by simp at hz) H32.out) h1 h2
    rwa [readC_back HF.out] at this
   have HRN : Hid (∀ (w : World) (D E : Nat -> Prop) (v pv : Value), BJ w D v p -> Sl w E 1 pv qs.length (AV qs) -> Calls Tryz.prog 35 #[v, pv] w (AE (fun x _ => x = .tuple #[.int .u64 ((runTo p p.start 0 qs).1 : Nat), .int .i64 ((runTo p p.start 0 qs).2.1 : Nat)]) w)) := Lib.hid fun w D E v pv h1 h2 => rrun31_any h1 hM.out h2 (by have := HQ.out.1; omega)
   have HCH : Hid (∀ (w : World) (D : Nat -> Prop) (v : Value), AO w D v ⟨q, true, qs, []⟩ -> Calls Tryz.prog 49 #[v] w (AE (fun x _ => x = .int .i64 0) w)) := Lib.hid fun w D v h => by
    have := EA v _ w D h
    rwa [HCK.out] at this
   clear hF HF
   have HQL := Lib.hid HQ.out.1
   obtain ⟨bs, hbs⟩ : ∃ bs, Aw ⟨q, true, qs, []⟩ = bs := ⟨_, rfl⟩
   rw [hbs] at HBS HRD
   clear hbs
   obtain ⟨rs, hrs⟩ : ∃ rs, (runTo p p.start 0 qs).1 = rs := ⟨_, rfl⟩
   obtain ⟨rn, hrn⟩ : ∃ rn, (runTo p p.start 0 qs).2.1 = rn := ⟨_, rfl⟩
   rw [hrs, hrn] at HRN
   clear hrs hrn
   have hz : m.length <= j \/ (j < m.length /\ 9 <= j) \/ (j < m.length /\ j < 9 /\ n <= 0) := by omega
   clear hgo
   rcases hz with h1 | ⟨h1, h2⟩ | ⟨h1, h2, h3⟩
   all_goals
    have hqj : qs.length = j := HQL.out
    have HRN2 := HRN
    rw [hqj] at HRE HRN2
    have HQJ := Lib.hid hqj
    clear hqj
    go_wp2_with (first
     | ((with_reducible refine qB ?_); refine qc ?_ ?_ <;> intro h_ <;> go_prune)
     | ((with_reducible refine qk 43 ?_); refine GC hS 2 rfl _ _ rfl g5 rfl _ xs rfl _ Tryz.underlying43 rfl (by rw [hx6.out]; kernel_rfl) ?_)
     | (go_at_call 44; refine (HRE.out _ _ _ _ (kp _ _ hS.ro) (HDT.out.ext hS.below) (HTB.out.ext hS.below) (Sl.of_own (hS.own 0 rfl))).mono ?_; rintro e w5 ⟨v5, rfl, h5, hb5⟩; obtain ⟨B, rfl, sB, oB⟩ := AO.row h5; replace hS := hS.ret hb5 Fb h5; have SB := Lib.hid sB; have OB := Lib.hid oB; clear h5 hb5 sB oB)
     | ((with_reducible refine qA 10 ?_); refine Be hS rfl _ rfl (by kernel_rfl) ?_; clear hS; intro g10 w_ hS)
     | ((with_reducible refine qA 11 ?_); refine Be hS rfl _ rfl (by kernel_rfl) ?_; clear hS; intro g11 w_ hS)
     | ((with_reducible refine qm 96 ?_); first | (refine Cl hS 0 rfl _ _ _ rfl g10 B rfl rfl _ _ rfl (by rw [SB.out]; kernel_rfl) (by rw [SB.out]; kernel_rfl) OB.out ?_; clear hS; intro w_ hS; simp only [List.set_cons_zero] at hS) | (refine Cl hS 0 rfl _ _ _ rfl g11 B2 rfl rfl _ _ rfl (by rw [SB2.out]; kernel_rfl) (by rw [SB2.out]; kernel_rfl) OB2.out ?_; clear hS; intro w_ hS; simp only [List.set_cons_zero] at hS))
     | ((with_reducible refine qA 59 ?_); refine GC hS 0 rfl _ _ rfl g10 rfl _ B rfl _ Tryz.underlying96 rfl (by rw [SB.out]; kernel_rfl) ?_)
     | (go_at_call 48; refine (HBS.out _ _ _ hS.ro.2).mono ?_; rintro e w6 ⟨v6, rfl, h6, hb6⟩; replace hS := hS.ret hb6 (Ab (by decide)) h6; clear h6 hb6)
     | (go_at_call 47; refine (HRD.out _ _ _ _ _ hS hS.ro.2).mono ?_; clear hS; rintro e w7 ⟨v7, rfl, hS⟩; obtain ⟨B2, rfl, sB2, oB2⟩ := AO.row hS.ro.2; obtain ⟨A33, k33, hc33⟩ := hS.ro.2.c33; dsimp only at hc33; have SB2 := Lib.hid sB2; have OB2 := Lib.hid oB2; have HC33 := Lib.hid hc33; clear sB2 oB2 hc33)
     | ((with_reducible refine qA 67 ?_); refine GD hS 0 rfl _ _ rfl _ _ rfl _ _ rfl (by decide +kernel) _ HC33.out ?_)
     | ((with_reducible refine qk 30 ?_); refine GC hS 3 rfl _ _ rfl g6 rfl _ _ rfl _ Tryz.underlying30 rfl (by kernel_rfl) ?_)
     | (go_at_call 35; first | ((with_reducible show Calls _ _ #[_, .slice A33 _ _] _ _); refine (HRN.out _ _ _ _ _ (kr _ _ hS.ro.1.1.1) (hS.ro.2.planS HC33.out)).mono ?_; rintro r_ w_ ⟨_, rfl, rfl, hb_⟩; replace hS := hS.ext hb_; clear hb_) | (refine (HRN2.out _ _ _ _ _ (kr _ _ hS.ro.1.1.1) (Sl.of_own (hS.own 2 rfl))).mono ?_; rintro r_ w_ ⟨_, rfl, rfl, hb_⟩; replace hS := hS.ext hb_; clear hb_))
     | ((with_reducible refine qK ?_); refine qC hS ?_))
    refine E8 [.i (.agg B), .n 0, .b true, .b true, .n 0, .b true, .b true, .b true, .q g11 0, .i (.agg (Ah q).toArray), .i (.agg xs), .i (.agg (Ah q).toArray), .b true, .b true, .b true, .n (rn : Nat), .n (rn : Nat), .b true, .b true, .b true] ⟨?_, ?_, uB (h := fun w hW hN => GL (by decide)), uM, uM, uB (h := fun w hW hN => GL (by decide)), uP, uM, uF, ?_, ?_, ?_, ?_, uP, uM, uM, uM, uB (h := fun w hW hN => GL (by simp)), uP, uA, trivial⟩ ?_
    ·refine uT fun b__ w hW hE K hK => ?_
     have e10 : b__.eval (.tmp 10) = .pointer (some ⟨g10, 0, none⟩) := hE 10
     exact CN rfl e10 ((hS.ext hW).box 1 rfl) Tryz.underlying96 rfl (by rw [SB.out]; kernel_rfl) (hK _ _ rfl (Below.refl _ _))
    ·refine uT fun b__ w hW hE K hK => ?_
     have e77 := hE 77
     exact B6 rfl (by kernel_rfl) (by simp only [List.map_cons, List.map_nil, e77]) (HCH.out _ _ _ (hS.ext hW).ro.1.1.2) fun v w' h hb => hK v w' h hb
    ·refine uT fun b__ w hW hE K hK => ?_
     have e85 := hE 85
     exact Bv rfl e85 ((hS.ext hW).ro.2.probR ((hS.ext hW).box 0 rfl)) Tryz.underlying87 rfl (by rw [Ai, H32.out]; kernel_rfl) (hK _ _ rfl (Below.refl _ _))
    ·refine uT fun b__ w hW hE K hK => ?_
     have e5 : b__.eval (.tmp 5) = .pointer (some ⟨g5, 0, none⟩) := hE 5
     exact CN rfl e5 ((hS.ext hW).box 4 rfl) Tryz.underlying43 rfl (by rw [hx6.out]; kernel_rfl) (hK _ _ rfl (Below.refl _ _))
    ·refine uT fun b__ w hW hE K hK => ?_
     have e87 := hE 87
     exact B6 rfl (by kernel_rfl) (by simp only [List.map_cons, List.map_nil, e87]) (HPD.out _ _ (kp _ _ (hS.ext hW).ro.1.1.1) (HDT.out.ext (hS.ext hW).below) (HTB.out.ext (hS.ext hW).below)) fun v w' h hb => hK v w' h hb
    ·refine uT fun b__ w hW hE K hK => ?_
     have e86 := hE 86
     have e88 := hE 88
     exact AH rfl e86 e88 guard_ide (by rw [eql_id _ _ _ H32.out H32.out]; simp) (hK _ _ rfl (Below.refl _ _))
    ·intro vs wz hW hT
     obtain ⟨e77, e78, e79, e80, e81, e82, e83, e84, e85, e86, e87, e88, e89, e90, e91, e92, e93, e94, e95, e4, -⟩ := hT
     simp only [AM, Act.put, zz, ze]
     replace hS := hS.ext hW
     go_wp2_with fail
     go_ret
     exact AE.mk e4 hS.below
end
section
open Go.RowKit Go.ChangeShapes Go.WideShapes
section
variable {H : Type} {enc : TypeId × Value -> H} {P : Program} {w : World} {base : Nat} {sp : Nat -> Bool} {held : Bool}
theorem sl_of_trod {t e : TypeId} {size fuel : Nat} {cs : List Value} {x : DataW H × List MemPlace} (ht : P.underlying t = some (.slice e)) (hc : P.cellsOf e = size) (hsz : 0 < size) (h : DataW.trod enc P w base sp held fuel t cs = some x) :
  ∃ v n xs, cs = [v] /\ Sl w (fun _ => True) size v n xs /\ ∀ k, k < n -> ∃ f' y, DataW.trod enc P w base sp held f' e ((xs.drop (k * size)).take size) = some y := by
 rcases DataW.trod_slice ht h with ⟨rfl, _⟩ | ⟨a, len, cap, elems, rest, n, _, rfl, _, hb, hl, hm, hlen, hel, _⟩
 ·exact ⟨_, 0, [], rfl, ⟨by simp, none, 0, rfl, Nat.le_refl _, Nat.zero_le _, fun h => by omega⟩, fun k hk => by omega⟩
 ·rw [hc] at hel
  have each : ∀ k, k < len -> ∃ ck y, w.cells? base (a.add (k * size)) size = some ck /\ DataW.trod enc P w base sp held n e ck = some y := by
   intro k hk
   have h1 := hel k hk
   rw [List.getElem?_eq_getElem (by omega)] at h1
   obtain ⟨ck, h2, h3⟩ := Option.bind_eq_some_iff.1 h1
   exact ⟨ck, _, h2, h3⟩
  have hadd : ∀ i j, (a.add i).add j = a.add (i + j) := by
   intro i j
   unfold Addr.add
   by_cases h1 : i = 0 <;> by_cases h2 : j = 0 <;> simp [h1, h2, Nat.add_assoc]
  have cell : ∀ j, j < len * size -> ∃ x, w.cell? (a.add j) = some x := by
   intro j hj
   have hk : j / size < len := (Nat.div_lt_iff_lt_mul hsz).2 hj
   obtain ⟨ck, y, h1, h2⟩ := each _ hk
   obtain ⟨_, h3, h4⟩ := World.cells?_some h1
   have h5 := h4 (j % size) (Nat.mod_lt _ hsz)
   rw [hadd, Nat.mul_comm, Nat.div_add_mod] at h5
   rw [h5, List.getElem?_eq_getElem (by rw [h3]; exact Nat.mod_lt _ hsz)]
   exact ⟨_, rfl⟩
  refine ⟨.slice (some a) len cap, len, (List.range (len * size)).map fun j => (w.cell? (a.add j)).getD undef, rfl, ⟨by simp, some a, cap, rfl, hl, hm, fun h0 => ?_⟩, fun k hk => ?_⟩
  ·obtain ⟨x0, hx0⟩ := cell 0 (Nat.mul_pos h0 hsz)
   obtain ⟨b, o, s⟩ := a
   have hs : s = none := cell_spot hx0
   subst hs
   refine ⟨b, o, rfl, trivial, ?_, fun j x hx => ?_⟩
   ·have := hx0
    unfold World.cell? at this
    simp only [Addr.add] at this
    rcases Nat.lt_or_ge b w.heap.size with hlt | hge
    ·exact hlt
    ·simp [Array.getElem?_eq_none hge] at this
   ·simp only [List.getElem?_map, Option.map_eq_some_iff] at hx
    obtain ⟨j', hj', rfl⟩ := hx
    have hjl := (List.getElem?_eq_some_iff.1 hj').1
    rw [List.getElem?_range (by simpa using hjl)] at hj'
    obtain rfl := Option.some.inj hj'
    obtain ⟨y, hy⟩ := cell j (by simpa using hjl)
    rw [hy]
    have e : (⟨b, o, none⟩ : Addr).add j = ⟨b, o + j, none⟩ := by
     unfold Addr.add; split <;> simp [*]
    rw [e] at hy
    exact hy
  ·obtain ⟨ck, y, h1, h2⟩ := each k hk
   obtain ⟨_, h3, h4⟩ := World.cells?_some h1
   refine ⟨n, y, ?_⟩
   rw [<- h2]
   congr 1
   have hle : k * size + size <= len * size := by
    rw [<- Nat.succ_mul]; exact Nat.mul_le_mul_right _ hk
   apply List.ext_getElem?
   intro i
   rcases Nat.lt_or_ge i size with hi | hi
   ·rw [List.getElem?_take_of_lt hi, List.getElem?_drop, List.getElem?_map, List.getElem?_range (by omega)]
    have h5 := h4 i hi
    rw [hadd] at h5
    simp only [Option.map_some]
    rw [h5, List.getElem?_eq_getElem (by omega)]
    simp
   ·rw [List.getElem?_eq_none (by simp; omega), List.getElem?_eq_none (by omega)]
end
theorem u8_nat {n : Int} (h : (Lit.int .u8 n).wf = true) : ∃ m : Nat, n = (m : Int) /\ m < 256 := by
 have := bounds_u8 h
 exact ⟨n.toNat, by omega, by omega⟩
end
section
open Go.ChangeShapes Go.WideShapes Go.ChangeAt Go.RowKit
set_option maxRecDepth 20000 in
theorem JW {H : Type} {enc : TypeId × Value -> H} {W : World} {r : Reach} {b0 base : Nat} {sp : Nat -> Bool} {held : Bool} {v : Value} {d : DataW H} {p : List MemPlace} (hv : Value.okWide Tryz.prog W r b0 22 v) (h : DataW.Trod enc Tryz.prog W base sp held 22 v d p) :
  ∃ l : List Nat, (∀ x ∈ l, x < 256) /\ Sl W (fun _ => True) 1 v l.length (Ah l) := by
 obtain ⟨a0, len0, cap0, rfl⟩ := okWide_slice Tryz.underlying22 hv
 obtain ⟨fuel, hf⟩ := h
 obtain ⟨v, n, xs, e, hs, he⟩ := sl_of_trod Tryz.underlying22 (size := 1) (by kernel_rfl) (by decide) hf
 have hl := hs.1
 have : ∃ zs : List Nat, (∀ x ∈ zs, x < 256) /\ xs = Ah zs := by
  have : ∀ v ∈ xs, ∃ z : Nat, z < 256 /\ v = .int .u8 (z : Nat) := by
   intro v hv
   obtain ⟨k, hk, hkv⟩ := List.mem_iff_getElem.1 hv
   obtain ⟨f', y, hy⟩ := he k (by omega)
   obtain ⟨z, hz, _, hw⟩ := DataW.trod_int Tryz.underlying5 hy
   obtain ⟨m, rfl, hm⟩ := u8_nat hw
   have h0 := congrArg (·[0]?) hz
   simp only [Nat.mul_one, List.getElem?_take_of_lt Nat.zero_lt_one, List.getElem?_drop, Nat.add_zero] at h0
   rw [List.getElem?_eq_getElem hk, hkv] at h0
   exact ⟨m, hm, by simpa using h0⟩
  clear hs he hl
  induction xs with
  | nil => exact ⟨[], fun x hx => by simp at hx, rfl⟩
  | cons a r ih =>
   obtain ⟨zs, hzs, rfl⟩ := ih fun v hv => this v (List.mem_cons_of_mem _ hv)
   obtain ⟨z, hz, rfl⟩ := this a List.mem_cons_self
   exact ⟨z :: zs, fun x hx => by rcases List.mem_cons.1 hx with rfl | hx; exact hz; exact hzs x hx, rfl⟩
 obtain ⟨zs, hzs, rfl⟩ := this
 have hz : zs.length = n := by simpa [Ah] using hl
 obtain rfl : v = .slice a0 len0 cap0 := by simpa [Value.cells] using e.symm
 exact ⟨zs, hzs, hz ▸ hs⟩
end
section
open Go.RowKit Go.ChangeShapes Go.WideShapes
theorem Em {w : World} {n : String} {g : Nat} {t e : TypeId} {m : Nat} {k : IntKind} {zs : List Int} (hg : Tryz.prog.globalNamed n = some g) (hty : (Tryz.prog.globals[g]?).map (·.type) = some t)
  (ht : Tryz.prog.underlying t = some (.array m e)) (he : Tryz.prog.underlying e = some (.int k)) (hce : Tryz.prog.cellsOf e = 1) (hct : Tryz.prog.cellsOf t = m) (h : Lib.VarReads Tryz.prog w n (Lib.tabData k zs)) :
  ∃ t, BoxF w g t (zs.map fun z => Value.int k z).toArray := by
 obtain ⟨g', t', cs, fuel, p, hg', hty', hvar, hd⟩ := h
 obtain rfl := Option.some.inj (hg.symm.trans hg')
 obtain rfl := Option.some.inj (hty.symm.trans hty')
 have hcs := Lib.cells_of_tab ht he hce hct hd
 simp only [World.var?, hg, Option.bind_some] at hvar
 split at hvar
 ·rename_i cs' t'' f heq
  obtain rfl := Option.some.inj hvar
  refine ⟨(t'', f), ?_⟩
  rw [<- hcs]
  exact heq
 ·cases hvar
theorem tab_of_reads {w : World} (h1 : Lib.VarReads Tryz.prog w "arbac/keccak.rounds" Rows.laid_arbac_keccak_rounds) (h2 : Lib.VarReads Tryz.prog w "arbac/keccak.turns" Rows.laid_arbac_keccak_turns) : Gm w := by
 have e1 : (Rows.laid_arbac_keccak_rounds : DataW Unit) = Lib.tabData .u64 (BR.map fun x : Nat => (x : Int)) := by kernel_rfl
 have e2 : (Rows.laid_arbac_keccak_turns : DataW Unit) = Lib.tabData .i64 (DB.map fun x : Nat => (x : Int)) := by kernel_rfl
 rw [e1] at h1
 rw [e2] at h2
 obtain ⟨t, b1⟩ := Em (g := 1) (by kernel_rfl) (t := 273) (by kernel_rfl) Tryz.underlying273 Tryz.underlying26 (by kernel_rfl) (by kernel_rfl) h1
 obtain ⟨u, b2⟩ := Em (g := 2) (by kernel_rfl) (t := 275) (by kernel_rfl) Tryz.underlying275 Tryz.underlying3 (by kernel_rfl) (by kernel_rfl) h2
 refine ⟨⟨t, ?_⟩, u, ?_⟩
 ·have : (List.map (fun z => Value.int .u64 z) (BR.map fun x : Nat => (x : Int))) = AA BR := by simp [AA]
  rw [<- this]; exact b1
 ·have : (List.map (fun z => Value.int .i64 z) (DB.map fun x : Nat => (x : Int))) = i64s DB := by simp [i64s]
  rw [<- this]; exact b2
end
section
open Go.RowKit Go.ChangeShapes Go.WideShapes
theorem dtab_of_reads {w : World} (h1 : Lib.VarReads Tryz.prog w "math/bits.deBruijn64tab" Rows.laid_math_bits_deBruijn64tab) : Co w := by
 have e1 : (Rows.laid_math_bits_deBruijn64tab : DataW Unit) = Lib.tabData .u8 (dbL.map fun x : Nat => (x : Int)) := by kernel_rfl
 rw [e1] at h1
 obtain ⟨t, b1⟩ := Em (g := 0) (by kernel_rfl) (t := 225) (by kernel_rfl) Tryz.underlying225 Tryz.underlying5 (by kernel_rfl) (by kernel_rfl) h1
 have e : (List.map (fun z => Value.int .u8 z) (dbL.map fun x : Nat => (x : Int))) = Ah dbL := by simp [Ah]
 rw [e] at b1
 intro q hq
 rw [b1.cell, List.getElem?_toArray]
 exact Ce _ _ hq
theorem tabs_of_reads {w : World} (h0 : Lib.VarReads Tryz.prog w "math/bits.deBruijn64tab" Rows.laid_math_bits_deBruijn64tab) (h1 : Lib.VarReads Tryz.prog w "arbac/keccak.rounds" Rows.laid_arbac_keccak_rounds) (h2 : Lib.VarReads Tryz.prog w "arbac/keccak.turns" Rows.laid_arbac_keccak_turns) : Co w /\ Gm w :=
 ⟨dtab_of_reads h0, tab_of_reads h1 h2⟩
end
section
open Go.ChangeShapes Go.WideShapes Go.ChangeAt Go.RowKit
theorem IU (W : World) (h : laidMetH Tryz.prog Rows.certificateRunsRow.laid W) : Co W /\ Gm W := by
 have h' : laidMetH Tryz.prog [("math/bits.deBruijn64tab", Rows.laid_math_bits_deBruijn64tab), ("arbac/keccak.rounds", Rows.laid_arbac_keccak_rounds), ("arbac/keccak.turns", Rows.laid_arbac_keccak_turns)] W := h
 rw [MakeChecks.laidMetH_plain _ _ _ (by kernel_rfl)] at h'
 exact tabs_of_reads (Lib.laidMet.reads h' (.head _)) (Lib.laidMet.reads h' (.tail _ (.head _))) (Lib.laidMet.reads h' (.tail _ (.tail _ (.head _))))
noncomputable def crunStart (os : Os) : World := World.laidAll Tryz.prog os Rows.certificateRunsRow.laid
theorem JU (os : Os) (args : Array Value) : laidMetH Tryz.prog Rows.certificateRunsRow.laid ((crunStart os).forCall (fun _ _ => 0) ⟨#[], args, []⟩).memory := by
 rw [MakeChecks.laidMetH_plain _ _ _ (by kernel_rfl)]
 exact laidMet_laidAll _ (by kernel_rfl) (by kernel_rfl)
theorem crun_own : ownKnob Tryz.prog.godebug = none := by kernel_rfl
theorem Hj : laidOutB Tryz.prog = true := by kernel_rfl
set_option maxRecDepth 100000 in
theorem crun_lifted (os : Os) (started : os.Started) (H : Type) (enc : TypeId × Value -> H) :
  ReturnsInHanded {} Tryz.checked os 11 .any (fun w args => (Rows.certificateRunsSpec.pre enc Tryz.prog Tryz.f11 [] false w args /\ laidMetH Tryz.prog Rows.certificateRunsRow.laid w) /\ sizedMet enc Tryz.prog Tryz.f11 (OpenSpec.ofChange Rows.certificateRunsSpec) false w args)
   (Rows.certificateRunsSpec.post enc Tryz.prog Tryz.f11 false true false false) := by
 refine returnsInHanded_of_change_and (C := Tryz.checked) (X := fun w _ => laidMetH Tryz.prog Rows.certificateRunsRow.laid w) (fun _ _ _ hh h => h.of_heap hh) crun_own started (by kernel_rfl) Tryz.func11
  (ChangeSpec.witness_shaped (enc := enc) (C := Tryz.checked) (os := os) (X := fun w _ => laidMetH Tryz.prog Rows.certificateRunsRow.laid w) false (crunStart os) #[.slice none 0 0, .slice none 0 0] 8 (World.laidAll_os _ _ _) (World.shaped_of_ZipB (by kernel_rfl) (by kernel_rfl)) (by kernel_rfl) (by kernel_rfl) (by kernel_rfl) (JU os _)) ?_
 intro W base args ds gs before hval0 hW _ _ hL _
 have hval : ∀ (j : Nat) t v, Tryz.f11.params[j]? = some t -> args[j]? = some v -> Value.okWide Tryz.prog W .any base t v := hval0
 have hW' := hW
 obtain ⟨p, q, hA0, hV, rfl, hfz, hnd⟩ := hW
 have hA : DataW.TrodAll enc Tryz.prog W 0 (fun _ => true) true Tryz.f11.params.toList args.toList ds p := hA0
 rw [Tryz.params11] at hA hval
 obtain ⟨v0, v1, d0, d1, p0, p1, rfl, rfl, rfl, h0, h1⟩ := trodAll_two hA
 obtain ⟨rfl, rfl⟩ := trodVars_none hV
 obtain ⟨l, hl, hs⟩ := JW (hval 0 _ v0 rfl rfl) h0
 obtain ⟨m, hm, hs2⟩ := JW (hval 1 _ v1 rfl rfl) h1
 have hT := IU W hL
 have lt : ∀ z ∈ p0 ++ p1, z.block < W.heap.size := fun z hz => by simpa using hW'.lt z (by simpa using hz)
 refine (lcruns_any v0 v1 l m W _ _ hl hm hs hs2 hT.1 hT.2).mono fun E W' he => ?_
 obtain ⟨r, rfl, rfl, hb⟩ := he
 refine ⟨_, rfl, _, _, _, [], p0 ++ p1, [], hW', ?_, ?_, ?_, hb.frame _, fun h => by cases h⟩
 ·exact trodAll_mk1 (shut_bool Tryz.underlying4 true)
 ·rw [Tryz.params11]
  exact trodAll_mk2 (Below.trod Hj (by kernel_rfl) (of_decide_eq_true (by kernel_rfl)) h0 hb fun z hz => lt z (List.mem_append_left _ hz)) (Below.trod Hj (by kernel_rfl) (of_decide_eq_true (by kernel_rfl)) h1 hb fun z hz => lt z (List.mem_append_right _ hz))
 ·rfl
theorem crun_holds : Rows.CertificateRunsSaid :=
 OpenClaim.holds_of_wide 11 Tryz.f11 rfl rfl rfl rfl rfl rfl rfl ⟨rfl, rfl, rfl, rfl, rfl⟩ rfl rfl rfl rfl rfl (by kernel_rfl) Tryz.func11 (by kernel_rfl)
  (of_decide_eq_true (by kernel_rfl)) (by unfold Func.isWrapper; rw [if_neg (by decide +kernel)]; exact ⟨rfl, rfl⟩)
  (fun os started H enc _ => crun_lifted os started H enc)
end
section
open Go
theorem crun_card : Rows.CertificateRunsCardSaid :=
 Claim7.holds_tied_plain_at .later [] [.data, .data, .data] true (true, "2f541ff0f2b150b94377df4c904e54df060b1cc989d168e7cdafb17d6c9b7b94") false
  crun_holds (fun _ h => by cases h) (by kernel_rfl) (fun _ h => by cases h) certificateRuns_row_tie rfl ⟨rfl, rfl⟩ (by kernel_rfl) rfl
  (fun f fn hf hfn => by
   obtain rfl : f = 11 := Option.some.inj ((show Tryz.prog.funcNamed "arbac/arbaclaw36.CertificateRuns" = some 11 by kernel_rfl).symm.trans hf) |>.symm
   obtain rfl : fn = Tryz.f11 := (Option.some.inj (Tryz.func11.symm.trans hfn)).symm
   exact ⟨by kernel_rfl, fun j t ht => by
    rw [Tryz.params11] at ht
    have h3 : t = 22 := by
     rcases j with _ | _ | j
     ·simp at ht; simp [<- ht]
     ·simp at ht; simp [<- ht]
     ·simp at ht
    rcases h3 with rfl
    ·exact (show Tryz.prog.wantsStandIn 22 = false by kernel_rfl)⟩)
  (by kernel_rfl)
end
end Go.Proofs.YtchjigffejhmfaaGreatDoor
namespace Go.Proofs.YtchjigffejhmfaaGreatDoor
#print axioms crun_card
end Go.Proofs.YtchjigffejhmfaaGreatDoor
