/-
  What the writer of package wire does: Raw, NewWriter, Clone of bytes, Out.
  What (bits.Set).Greatest and (bits.Set).Bytes compute.
  What the reversal of bytes, wire.groups and the writer's methods compute.
  What the writer's methods Uint, Bytes, Flag, String and Set do.
-/
import Derived.Test.YtenpkgdnlogfiaaGreatDoorMem2
import Derived.Test.YtenpkgdnlogfiaaGreatDoorProg
import Derived.WalkLawsBesides
import Derived.WalkSpells
import Derived.Outline
import Derived.Handy
import Derived.Deep.DeepMust
import Derived.Test.YtenpkgdnlogfiaaGreatDoorBits
import Derived.Test.YtenpkgdnlogfiaaGreatDoorShelf
import Derived.Lib.ItoaNum
import Derived.BigRegion
namespace Go.Proofs.YtenpkgdnlogfiaaGreatDoor
open Go.RowKit
set_option maxRecDepth 20000

theorem info_u8 : (Tryz.prog.info? 5).map (fun i => (i.zero, i.size, i.bytes)) = some (some (.int .u8 0), 1, 1) := by kernel_rfl
theorem own_shape {w : World} {base : Nat} {e : TypeId} {size n : Nat} {v : Value} {xs : List Value} (h : w.ownsRow base e size v n xs) : ∃ A c, v = .slice A n c := by
  rcases h.2 with ⟨rfl, rfl⟩ | ⟨g, cap, _, rfl, _⟩
  · exact ⟨none, 0, rfl⟩
  · exact ⟨_, cap, rfl⟩
/-- what a call on the writer in block q leaves -/
def WRet (R : Nat → Prop) (q : Nat) (l : List Nat) (w : World) (e : Ending) (w' : World) : Prop := e = .returned (.tuple #[]) ∧ IsW w' (Since R w) q l ∧ WF R q w w'

theorem raw_any (q : Nat) (p : Value) (bs ps : List Nat) (w : World) (R D : Nat → Prop) (hW : IsW w R q bs) (hp : Sl w D 1 p ps.length (u8s ps)) (hlen : bs.length + ps.length ≤ 1000000000000) :
    Calls Tryz.prog 21 #[.pointer (some ⟨q, 0, none⟩), p] w (WRet R q (bs ++ ps) w) := by
  obtain ⟨sv, hbox, hown, hR⟩ := hW
  obtain ⟨i0, hi, hz0, hz1, hz2⟩ := info_parts info_u8
  obtain ⟨A, c, rfl⟩ := own_shape hown
  have hc0 := hbox.cell 0
  have HO := Lib.hid hown
  have HP := Lib.hid hp
  have HX := Lib.hid hbox
  have HR := Lib.hid hR
  clear hown hp hbox hR
  simp at hc0
  go_enter Tryz.func21, Tryz.ntmps21
  go_wp2_with (at_builtin; refine wpList_append_sl _ rfl _ _ 37 rfl 0 5 i0 (.int .u8 0) 1 1 Tryz.underlying37 hi hz0 hz1 hz2 rfl (by decide) (.slice A bs.length c) bs.length (u8s bs) rfl HO.out D p ps.length (u8s ps) rfl HP.out (u8s_one _) (by unfold maxLen; omega) (by omega) (Nat.zero_le _) ?_; intro v' w1 hown1 hgrow1 hat; obtain ⟨A', c', rfl⟩ := own_shape hown1; have HX1 := Lib.hid (HX.out.grown hgrow1 (fun e => own_ne_box HO.out HX.out (by decide) e.symm)); have hc1 := HX1.out.cell 0; have hf1 := HX1.out.free 0; simp at hc1; have HO1 := Lib.hid hown1; have HW1 := Lib.hid (WF.of_grown (q := q) HO.out HR.out hgrow1); have HA := Lib.hid hat; clear hown1 hgrow1 hat)
  refine bodyPost_end (results_none rfl _ _ _) rfl ⟨rfl, ⟨_, HX1.out.set 0 _, ?_, fun k hk => ?_⟩, HW1.out.trans (WF.set _ _ _ 0 _)⟩
  · have := own_far HO1.out HX1.out (by decide) 0 (.slice A' (bs.length + ps.length) c')
    rw [u8s_append, List.length_append]
    exact this
  · rcases HA.out with h | h
    · exact .inl (HR.out k (by rw [← h]; exact hk))
    · rw [hk] at h
      injection h with h
      exact .inr (by omega)

theorem newWriter_any (w : World) : Calls Tryz.prog 20 #[] w fun e w' => e = .returned (.pointer (some ⟨w.heap.size, 0, none⟩)) ∧ w' = w.alloc (.cells #[.slice none 0 0] 97) := by
  go_enter Tryz.func20, Tryz.ntmps20
  go_wp2
  go_ret
  exact ⟨rfl, rfl⟩
theorem IsW.new (w : World) (R : Nat → Prop) : IsW (w.alloc (.cells #[.slice none 0 0] 97)) R w.heap.size [] :=
  ⟨_, Box.new w _ _, World.ownsRow_nil _ _ _ _, fun k hk => by simp [Value.ownBlock] at hk⟩

/-- bytes in a row of the call's own -/
def OwnB (w : World) (base : Nat) (x : Value) (bs : List Nat) : Prop := Sl w (base ≤ ·) 1 x bs.length (u8s bs) ∧ (0 < bs.length → w.ownsRow base 5 1 x bs.length (u8s bs))
theorem OwnB.nil {w : World} {base : Nat} : OwnB w base (.slice none 0 0) [] := ⟨Sl.none_, fun h => absurd h (by simp)⟩
theorem OwnB.down {w : World} {b b' : Nat} {x : Value} {bs : List Nat} (h : OwnB w b x bs) (hb : b' ≤ b) : OwnB w b' x bs := ⟨h.1.imp fun k hk _ => Nat.le_trans hb hk, fun h0 => by
  have h := h.2 h0
  refine ⟨h.1, ?_⟩
  rcases h.2 with h | ⟨g, cap, cur, h1, h2, h3⟩
  · exact .inl h
  · exact .inr ⟨g, cap, cur, h1, Nat.le_trans hb h2, h3⟩⟩
/-- a clone of bytes: in a row of the call's own; a nil slice is one again -/
theorem clone_bytes_own (p : Value) (ps : List Nat) (w : World) (D : Nat → Prop) (hp : Sl w D 1 p ps.length (u8s ps)) (hlen : ps.length ≤ 1000000000000) :
    Calls Tryz.prog 57 #[p] w (Ret (fun x w' => OwnB w' w.heap.size x ps) w) := by
  obtain ⟨i0, hi, hz0, hz1, hz2⟩ := info_parts info_u8
  have hp0 := hp
  obtain ⟨_, A, c, rfl, h1, h2, h3⟩ := hp0
  cases A with
  | none =>
    have h0 : ps.length = 0 := by
      rcases Nat.eq_zero_or_pos ps.length with h | h
      · exact h
      · obtain ⟨b, o, e, _⟩ := h3 h; cases e
    obtain rfl : ps = [] := List.eq_nil_of_length_eq_zero h0
    simp only [List.length_nil] at *
    have hq := fun (wx : World) => Lib.run_eql_slice_nil (P := Tryz.prog) wx 37 5 none 0 c 0 0 Tryz.underlying37
    clear h3
    go_enter Tryz.func57, Tryz.ntmps57
    go_wp2_with fail
    go_ret
    exact Ret.mk OwnB.nil (Below.refl _ _)
  | some ad =>
    have hq := fun (wx : World) => Lib.run_eql_slice_nil (P := Tryz.prog) wx 37 5 (some ad) ps.length c 0 0 Tryz.underlying37
    simp only [Option.isNone_some] at hq
    have HP := Lib.hid (hp.alloc (.cells #[] 5))
    clear h3 hp
    go_enter Tryz.func57, Tryz.ntmps57
    go_wp2_with (at_builtin; refine wpList_append_sl _ rfl _ _ 37 rfl w.heap.size 5 i0 (.int .u8 0) 1 1 Tryz.underlying37 hi hz0 hz1 hz2 rfl (by decide) _ 0 [] rfl (World.ownsRow_made w #[] 0 (Nat.le_refl _) (by simp [maxLen]) (by simp)) D (.slice (some ad) ps.length c) ps.length (u8s ps) rfl HP.out (u8s_one _) (by unfold maxLen; omega) (by omega) (by simp) ?_; intro v' w1 hown1 hgrow1 _)
    obtain ⟨A', c', rfl⟩ := own_shape hown1
    replace hgrow1 : (w.alloc (.cells #[] 5)).grownBy w1 (some w.heap.size) := hgrow1
    simp only [Nat.zero_add, List.nil_append] at hown1
    go_wp2_with fail
    go_ret
    exact Ret.mk ⟨by simpa using Sl.of_own hown1, fun _ => by simpa using hown1⟩ (((Below.refl _ _).alloc (Nat.le_refl _) _).grown hgrow1 (by simp) (fun k hk => by injection hk with hk; omega))

theorem clone_bytes_any (p : Value) (ps : List Nat) (w : World) (D : Nat → Prop) (hp : Sl w D 1 p ps.length (u8s ps)) (hlen : ps.length ≤ 1000000000000) :
    Calls Tryz.prog 57 #[p] w (Ret (fun x w' => Sl w' (w.heap.size ≤ ·) 1 x ps.length (u8s ps)) w) :=
  (clone_bytes_own p ps w D hp hlen).mono fun _ _ ⟨v, h1, h2, h3⟩ => ⟨v, h1, h2.1, h3⟩

theorem wout_own (q : Nat) (bs : List Nat) (w : World) (R : Nat → Prop) (hW : IsW w R q bs) (hlen : bs.length ≤ 1000000000000) :
    Calls Tryz.prog 25 #[.pointer (some ⟨q, 0, none⟩)] w (Ret (fun x w' => OwnB w' w.heap.size x bs) w) := by
  obtain ⟨sv, hbox, hown, _⟩ := hW
  obtain ⟨A, c, rfl⟩ := own_shape hown
  have hc0 := hbox.cell 0
  simp at hc0
  have HS := Lib.hid (Sl.of_own hown)
  clear hown hbox
  go_enter Tryz.func25, Tryz.ntmps25
  go_wp2_with fail
  refine (clone_bytes_own _ bs _ _ HS.out hlen).mono ?_
  rintro e w1 ⟨x, rfl, hx, hb⟩
  go_wp2_with fail
  go_ret
  exact Ret.mk hx hb
theorem wout_any (q : Nat) (bs : List Nat) (w : World) (R : Nat → Prop) (hW : IsW w R q bs) (hlen : bs.length ≤ 1000000000000) :
    Calls Tryz.prog 25 #[.pointer (some ⟨q, 0, none⟩)] w (Ret (fun x w' => Sl w' (w.heap.size ≤ ·) 1 x bs.length (u8s bs)) w) :=
  (wout_own q bs w R hW hlen).mono fun _ _ ⟨v, h1, h2, h3⟩ => ⟨v, h1, h2.1, h3⟩
end Go.Proofs.YtenpkgdnlogfiaaGreatDoor
namespace Go.Proofs.YtenpkgdnlogfiaaGreatDoor
open Go.RowKit
set_option maxRecDepth 20000

theorem log2_val {l : List Nat} (hl : Canon l) (h0 : 0 < l.length) : (val l).log2 = 64 * (l.length - 1) + (l.getD (l.length - 1) 0).log2 ∧ val l ≠ 0 := by
  have hx := canon_last hl h0
  have hw := wd_val hl.1 (l.length - 1)
  have hne : val l ≠ 0 := by
    intro e
    rw [e] at hw
    exact hx (by rw [← hw]; simp [wd])
  refine ⟨?_, hne⟩
  have hlt : (l.getD (l.length - 1) 0) < T64 := hl.1.getD _
  generalize hxe : l.getD (l.length - 1) 0 = x at *
  have hlog : x.log2 < 64 := (Nat.log2_lt hx).2 hlt
  have hb : (val l).testBit (64 * (l.length - 1) + x.log2) = true := by
    rw [testBit_val hl.1, show (64 * (l.length - 1) + x.log2) / 64 = l.length - 1 by omega, show (64 * (l.length - 1) + x.log2) % 64 = x.log2 by omega, hxe]
    exact Nat.testBit_log2 hx
  have hge : 2 ^ (64 * (l.length - 1) + x.log2) ≤ val l := Nat.ge_two_pow_of_testBit hb
  have hup : val l < 2 ^ (64 * (l.length - 1) + x.log2 + 1) := by
    apply Nat.lt_pow_two_of_testBit
    intro i hi
    rw [testBit_val hl.1]
    by_cases hq : i / 64 = l.length - 1
    · rw [hq, hxe]
      apply Nat.testBit_lt_two_pow
      exact Nat.lt_of_lt_of_le (Nat.lt_log2_self) (Nat.pow_le_pow_right (by decide) (by omega))
    · rw [List.getD_eq_getElem?_getD, List.getElem?_eq_none (by omega)]; simp
  have h1 : (val l).log2 < 64 * (l.length - 1) + x.log2 + 1 := (Nat.log2_lt hne).2 hup
  have h2 : 64 * (l.length - 1) + x.log2 ≤ (val l).log2 := (Nat.le_log2 hne).2 hge
  omega
theorem bitLen_log2 {x : Nat} (h : x < T64) (h0 : x ≠ 0) : Lib.bitLen x = x.log2 + 1 := by
  obtain ⟨h1, h2, h3⟩ := Go.Lib.bitLenAux_bounds 64 x h h0
  unfold Lib.bitLen
  have h4 : x.log2 < Lib.bitLenAux 64 x := (Nat.log2_lt h0).2 h3
  have h5 : Lib.bitLenAux 64 x - 1 ≤ x.log2 := (Nat.le_log2 h0).2 h2
  omega

/-- the greatest member, and whether there is one -/
def gtst (N : Nat) : Value := .tuple #[.int .i64 ((if N = 0 then 0 else N.log2 : Nat) : Int), .bool (N != 0)]
theorem greatest_any (v : Value) (N : Nat) (w : World) (D : Nat → Prop) (hv : IsSet w D v N) :
    Calls Tryz.prog 68 #[v] w (Ret (fun x _ => x = gtst N) w) := by
  obtain ⟨A, c, l, rfl, hl, rfl, hc1, hc2, hs⟩ := hv.parts
  have hl64 := hl.2.2
  have hv1 := hv.alloc (.cells #[.slice A l.length c] 51)
  have hbw : Below w.heap.size w (w.alloc (.cells #[.slice A l.length c] 51)) := (Below.refl _ _).alloc (Nat.le_refl _) _
  by_cases h0 : l.length = 0
  · obtain rfl : l = [] := List.eq_nil_of_length_eq_zero h0
    have HR := Lib.hid (show (val [] == 0) = true by rfl)
    clear hl hs hc1 hl64 h0
    go_enter Tryz.func68, Tryz.ntmps68
    go_wp2_with fail
    refine (empty_any _ _ _ D hv1).mono ?_
    rintro e w1 ⟨_, rfl, rfl, hb1⟩
    rw [HR.out]
    go_wp2_with fail
    go_ret2
    exact Ret.mk rfl (hbw.trans (hb1.mono (by simp)))
  · obtain ⟨hlog, hne⟩ := log2_val hl (by omega)
    have HR := Lib.hid (show (val l == 0) = false by simp [hne])
    have HE := Lib.hid (show gtst (val l) = .tuple #[.int .i64 (64 * ((l.length : Int) - 1) + ((l.getD (l.length - 1) 0).log2 + 1) - 1), .bool true] by
      have h1 : (((if val l = 0 then 0 else (val l).log2 : Nat)) : Int) = 64 * ((l.length : Int) - 1) + ((l.getD (l.length - 1) 0).log2 + 1) - 1 := by rw [if_neg hne, hlog]; omega
      have h2 : (val l != 0) = true := by simp [hne]
      rw [gtst, h1, h2])
    obtain ⟨b, o, rfl, _, hb, hc⟩ := hs.word (k := l.length - 1) (by omega)
    have hx := hc (l.length - 1) (by omega)
    have HB := Lib.hid (bitLen_log2 (hl.1.getD (l.length - 1)) (canon_last hl (by omega)))
    have HT := Lib.hid (hl.1.getD (l.length - 1))
    have hlg : (l.getD (l.length - 1) 0).log2 < 64 := (Nat.log2_lt (canon_last hl (by omega))).2 (hl.1.getD _)
    clear hl hs hc hlog hne
    generalize l.getD (l.length - 1) 0 = x at *
    obtain ⟨q, hq⟩ : ∃ q, l.length = q + 1 := ⟨l.length - 1, by omega⟩
    rw [hq] at hx hc1 hl64 h0 HE
    simp only [Nat.add_sub_cancel] at hx
    rw [hq] at hv1 hbw
    rw [hq]
    generalize val l = N at *
    clear hq hv
    go_enter Tryz.func68, Tryz.ntmps68
    go_wp2_with fail
    refine (empty_any _ N _ D hv1).mono ?_
    rintro e w1 ⟨_, rfl, rfl, hb1⟩
    rw [HR.out]
    have hbw1 := hbw.trans (hb1.mono (by simp))
    have hk1 : w1.cell? ⟨w.heap.size, 0, none⟩ = some (.slice (some ⟨b, o, none⟩) (q + 1) c) := (hb1.cell (p := ⟨w.heap.size, 0, none⟩) (by simp)).trans (by go_simp)
    have hx1 := (hbw1.cell (p := ⟨b, o + q, none⟩) hb).trans hx
    go_wp2_with fail
    refine (Tryz.bits_Len64 _ _ (by omega) (by have := HT.out; unfold T64 at this; omega)).mono ?_
    rintro e w2 ⟨rfl, rfl⟩
    rw [Int.toNat_natCast, HB.out]
    go_wp2_with fail
    go_ret2
    refine Ret.mk ?_ hbw1
    rw [HE.out]
    simp

/-- the bytes of a set -/
def setBytes (N : Nat) : List Nat := if N = 0 then [] else (List.range (N.log2 / 8 + 1)).map fun k => (N >>> (8 * k)) % 256
theorem setBytes_byte (N : Nat) : Bytes (setBytes N) := by
  intro x hx
  unfold setBytes at hx
  split at hx
  · simp at hx
  · obtain ⟨k, _, rfl⟩ := List.mem_map.1 hx
    exact Nat.mod_lt _ (by decide)
theorem byte_of_word (N k : Nat) : (wd N (k / 8) / 2 ^ (8 * (k % 8))) % 256 = (N >>> (8 * k)) % 256 := by
  apply Nat.eq_of_testBit_eq
  intro i
  rw [← Nat.shiftRight_eq_div_pow, show (256 : Nat) = 2 ^ 8 from rfl, Nat.testBit_mod_two_pow, Nat.testBit_mod_two_pow, Nat.testBit_shiftRight, Nat.testBit_shiftRight]
  by_cases hi : i < 8
  · rw [testBit_wd _ _ _ (by omega), show 64 * (k / 8) + (8 * (k % 8) + i) = 8 * k + i by omega]
  · simp [hi]

theorem set_bytes_any (v : Value) (N : Nat) (w : World) (D : Nat → Prop) (hv : IsSet w D v N) :
    Calls Tryz.prog 95 #[v] w (Ret (fun x w' => Sl w' (w.heap.size ≤ ·) 1 x (setBytes N).length (u8s (setBytes N))) w) := by
  obtain ⟨A, c, l, rfl, hl, hN, hc1, hc2, hs⟩ := hv.parts
  obtain ⟨i0, hi, hz0, hz1, hz2⟩ := info_parts info_u8
  have hv1 := hv.alloc (.cells #[.slice A l.length c] 51)
  have hbw : Below w.heap.size w (w.alloc (.cells #[.slice A l.length c] 51)) := (Below.refl _ _).alloc (Nat.le_refl _) _
  by_cases h0 : N = 0
  · subst h0
    have HG := Lib.hid (show gtst 0 = .tuple #[.int .i64 0, .bool false] from rfl)
    clear hl hs hN
    go_enter Tryz.func95, Tryz.ntmps95
    go_wp2_with fail
    refine (greatest_any _ _ _ D hv1).mono ?_
    rintro e w1 ⟨_, rfl, rfl, hb1⟩
    rw [HG.out]
    go_wp2_with fail
    go_ret
    exact Ret.mk Sl.none_ (hbw.trans (hb1.mono (by simp)))
  · have HG := Lib.hid (show gtst N = .tuple #[.int .i64 (N.log2 : Nat), .bool true] by simp [gtst, h0])
    obtain ⟨n, hn⟩ : ∃ n, n = N.log2 / 8 + 1 := ⟨_, rfl⟩
    have hlog : N.log2 < 4096 := (Nat.log2_lt h0).2 hv.bound
    have hn512 : n ≤ 512 := by omega
    have hti : ((N.log2 : Nat) : Int) / 8 + 1 = n := by omega
    have hwl : ∀ k, k < n → k / 8 < l.length := fun k hk => by
      have hl0 : 0 < l.length := by
        rcases Nat.eq_zero_or_pos l.length with h | h
        · obtain rfl : l = [] := List.eq_nil_of_length_eq_zero h
          exact absurd hN h0
        · exact h
      have := (log2_val hl hl0).1
      rw [← hN] at this
      have : (l.getD (l.length - 1) 0).log2 < 64 := (Nat.log2_lt (canon_last hl hl0)).2 (hl.1.getD (l.length - 1))
      omega
    have HS := Lib.hid (show setBytes N = (List.range n).map fun k => (N >>> (8 * k)) % 256 by rw [setBytes, if_neg h0, hn])
    have HW := Lib.hid hwl
    have HC := Lib.hid fun k hk => @Sl.word _ _ _ _ _ hs k hk
    have HV := Lib.hid (fun k => show wd N k = l.getD k 0 by rw [hN]; exact wd_val hl.1 k)
    have HB := Lib.hid (byte_of_word N)
    have hll := hl.2.2
    clear hl hs hN h0 hn hwl
    generalize N.log2 = t at *
    go_enter Tryz.func95, Tryz.ntmps95
    go_wp2_with fail
    refine (greatest_any _ _ _ D hv1).mono ?_
    rintro e w1 ⟨_, rfl, rfl, hb1⟩
    rw [HG.out]
    have hbw1 := hbw.trans (hb1.mono (by simp))
    have hk1 : w1.cell? ⟨w.heap.size, 0, none⟩ = some (.slice A l.length c) := (hb1.cell (p := ⟨w.heap.size, 0, none⟩) (by simp)).trans (by go_simp)
    have hsz1 : w.heap.size + 1 ≤ w1.heap.size := by have := hb1.size; simpa using this
    clear hb1 hbw hv1
    go_wp2_with (at_make; refine wpList_make_full _ rfl _ _ 37 rfl w1.heap.size 5 i0 (.int .u8 0) 1 Tryz.underlying37 hi hz0 hz1 _ _ _ _ n rfl rfl (by omega) (by omega) (by rw [hz2]; omega) (by unfold maxLen; omega) (Nat.le_refl _) ?_; intro w2 hown hgrow)
    have hbw2 := hbw1.grown hgrow (by omega) (by simp)
    have hk2 : w2.cell? ⟨w.heap.size, 0, none⟩ = some (.slice A l.length c) := hgrow.cell hk1 (by simp)
    rw [Nat.mul_one, show (Value.int .u8 0).cells = #[Value.int .u8 0] from rfl, madeCells_u8, ← fillTo_zero (fun k => (N >>> (8 * k)) % 256)] at hown
    clear hgrow hk1 hti hbw1
    go_loopw [20] (fun i wr => ∃ k : Nat, k ≤ n ∧ i = .int .i64 k ∧ wr.ownsRow w1.heap.size 5 1 (.slice (some ⟨w1.heap.size, 0, none⟩) n n) n (u8s (fillTo (fun k => (N >>> (8 * k)) % 256) k n)) ∧
      wr.cell? ⟨w.heap.size, 0, none⟩ = some (.slice A l.length c) ∧ Below w.heap.size w wr) (fun i _ => n - (intOf i).toNat)
    case atStart => exact ⟨0, by omega, rfl, hown, hk2, hbw2⟩
    case round =>
      clear hown hk2 hbw2
      obtain ⟨k, hk1, rfl, hown, hk2, hbw2⟩ := hrel
      by_cases hk : k < n
      · have hkl := HW.out k hk
        obtain ⟨b, o, rfl, _, hb, hc⟩ := HC.out (k / 8) hkl
        have hx := (hbw2.cell (p := ⟨b, o + k / 8, none⟩) hb).trans (hc (k / 8) hkl)
        rw [← HV.out (k / 8)] at hx
        have hstep := hown.cellAt k (by omega)
        rw [fillTo_at8 _ _ _ _ hk] at hstep
        have hfz := hown.frozenAt k
        have HF := Lib.hid (own_fill8 hown (Below.refl _ _))
        have HBk := Lib.hid (HB.out k)
        clear hc hown
        have hbyte : ((wd N (k / 8) : Nat) : Int) / 2 ^ (8 * (k % 8)) % 256 = (((N >>> (8 * k)) % 256 : Nat) : Int) := by rw [← HBk.out]; simp
        have HBY := Lib.hid hbyte
        clear hbyte
        go_wp2
        rw [HBY.out]
        exact ⟨⟨k + 1, hk, by go_num, HF.out, (World.cell?_setCell_other _ _ _ _ (fun e => by injection e with e; omega)).trans hk2, hbw2.setCell (by simp; omega) _⟩, by simp [intOf]; omega⟩
      · obtain rfl : n = k := by omega
        rw [fillTo_full] at hown
        have HO := Lib.hid (Sl.of_own hown)
        clear hown
        go_wp2
        go_ret
        rw [HS.out]
        exact Ret.mk (by simpa using HO.out.imp fun b hb _ => by omega) hbw2
end Go.Proofs.YtenpkgdnlogfiaaGreatDoor
namespace Go.Proofs.YtenpkgdnlogfiaaGreatDoor
open Go.RowKit
set_option maxRecDepth 20000

/-- the list after k exchanges from both ends -/
def swp (l : List Nat) (k : Nat) : List Nat := (List.range l.length).map fun j => if j < k ∨ l.length - k ≤ j then l.getD (l.length - 1 - j) 0 else l.getD j 0
theorem swp_len (l : List Nat) (k : Nat) : (swp l k).length = l.length := by simp [swp]
theorem swp_zero (l : List Nat) : swp l 0 = l := by
  apply List.ext_getElem
  · simp [swp]
  · intro j h1 h2
    simp [swp, Nat.not_le.2 h2, h2]
theorem swp_at (l : List Nat) (k j : Nat) (h : j < l.length) : (swp l k).getD j 0 = if j < k ∨ l.length - k ≤ j then l.getD (l.length - 1 - j) 0 else l.getD j 0 := by
  rw [List.getD_eq_getElem?_getD]
  simp [swp, h]
theorem swp_step (l : List Nat) (k : Nat) (h : k < l.length - 1 - k) : ((swp l k).set k ((swp l k).getD (l.length - 1 - k) 0)).set (l.length - 1 - k) ((swp l k).getD k 0) = swp l (k + 1) := by
  rw [swp_at _ _ _ (by omega), swp_at _ _ _ (by omega), if_neg (by omega), if_neg (by omega)]
  apply List.ext_getElem
  · simp [swp]
  · intro j h1 h2
    simp only [swp_len, List.length_set] at h1 h2
    simp only [List.getElem_set, swp, List.getElem_map, List.getElem_range]
    by_cases h3 : l.length - 1 - k = j
    · subst h3
      rw [if_pos rfl, if_pos (by omega), show l.length - 1 - (l.length - 1 - k) = k by omega]
    · rw [if_neg h3]
      by_cases h4 : k = j
      · subst h4
        rw [if_pos rfl, if_pos (by omega)]
      · rw [if_neg h4]
        by_cases h5 : j < k ∨ l.length - k ≤ j
        · rw [if_pos h5, if_pos (by omega)]
        · rw [if_neg h5, if_neg (by omega)]
theorem swp_end (l : List Nat) (k : Nat) (h : l.length - 1 - k ≤ k) : swp l k = l.reverse := by
  apply List.ext_getElem
  · simp [swp]
  · intro j h1 h2
    simp only [swp_len] at h1
    simp only [swp, List.getElem_map, List.getElem_range, List.getElem_reverse]
    by_cases h5 : j < k ∨ l.length - k ≤ j
    · rw [if_pos h5, List.getD_eq_getElem?_getD, List.getElem?_eq_getElem (by omega)]; rfl
    · rw [if_neg h5, List.getD_eq_getElem?_getD, List.getElem?_eq_getElem (by omega)]
      simp only [Option.getD_some]
      congr 1
      omega

theorem reverse_any (g cap : Nat) (l : List Nat) (w : World) (base : Nat) (hown : w.ownsRow base 5 1 (.slice (some ⟨g, 0, none⟩) l.length cap) l.length (u8s l)) (hl : l.length ≤ 1000000000000) :
    Calls Tryz.prog 83 #[.slice (some ⟨g, 0, none⟩) l.length cap] w fun e w' => e = .returned (.tuple #[]) ∧ w'.ownsRow base 5 1 (.slice (some ⟨g, 0, none⟩) l.length cap) l.length (u8s l.reverse) ∧ w.grownBy w' (some g) := by
  go_enter Tryz.func83, Tryz.ntmps83
  go_wp2
  go_loopw [2, 3] (fun i j wr => ∃ k : Nat, i = .int .i64 k ∧ j = .int .i64 ((l.length : Int) - 1 - k) ∧ k ≤ l.length ∧ wr.ownsRow base 5 1 (.slice (some ⟨g, 0, none⟩) l.length cap) l.length (u8s (swp l k)) ∧ w.grownBy wr (some g)) (fun i _ _ => l.length - (intOf i).toNat)
  case atStart => exact ⟨0, rfl, by simp, by omega, by rw [swp_zero]; exact hown, World.grownBy.refl w _⟩
  case round =>
    clear hown
    obtain ⟨k, rfl, rfl, hk, hown, hg⟩ := hrel
    by_cases hlt : k < l.length - 1 - k
    · obtain ⟨m, hm⟩ : ∃ m, m = l.length - 1 - k := ⟨_, rfl⟩
      have hmi : (l.length : Int) - 1 - k = m := by omega
      have hml : m < l.length := by omega
      have hkm : k < m := by omega
      have HM := Lib.hid hm
      have c1 := hown.cellAt k (by omega)
      have c2 := hown.cellAt m (by omega)
      rw [u8s_at _ _ (by rw [swp_len]; omega)] at c1 c2
      have f1 := hown.frozenAt k
      have f2 := hown.frozenAt m
      have HS := Lib.hid (swp_step l k hlt)
      rw [← hm] at HS
      have H1 := own_set8 (k := k) (y := (swp l k).getD m 0) hown (Below.refl _ _)
      have H2 := Lib.hid (own_set8 (k := m) (y := (swp l k).getD k 0) H1 (Below.refl _ _))
      rw [HS.out] at H2
      have HG := Lib.hid hg
      rw [hmi]
      clear hown H1 hm hmi hg hlt
      generalize (swp l k).getD k 0 = x at *
      generalize (swp l k).getD m 0 = y at *
      go_wp2
      go_region
      all_goals
        go_wp2
        exact ⟨⟨k + 1, by go_num, by have := HM.out; congr 1; omega, by omega, H2.out, grown_drew (grown_set (grown_set HG.out _ _) _ _)⟩, by simp [intOf]; omega⟩
    · have HS := Lib.hid (swp_end l k (by omega))
      have HO := Lib.hid hown
      clear hown
      go_wp2
      refine bodyPost_end (results_none rfl _ _ _) rfl ⟨rfl, ?_, hg⟩
      rw [← HS.out]
      exact HO.out

/-- the groups of seven bits of a number, from the second on -/
def hi7 : Nat → Nat → List Nat
  | 0, _ => []
  | f + 1, x => if x = 0 then [] else (x % 128 + 128) :: hi7 f (x / 128)
/-- the encoding of a number -/
def putN (v : Nat) : List Nat := ((v % 128) :: hi7 10 (v / 128)).reverse
theorem hi7_len : ∀ f x, (hi7 f x).length ≤ f
  | 0, _ => by simp [hi7]
  | f + 1, x => by
    unfold hi7
    split
    · simp
    · have := hi7_len f (x / 128); simp; omega
theorem putN_len (v : Nat) : (putN v).length ≤ 11 := by have := hi7_len 10 (v / 128); simp [putN]; omega
theorem hi7_byte : ∀ f x, Bytes (hi7 f x)
  | 0, _ => by intro y hy; simp [hi7] at hy
  | f + 1, x => by
    unfold hi7
    split
    · intro y hy; simp at hy
    · intro y hy
      rcases List.mem_cons.1 hy with rfl | hy
      · have := Nat.mod_lt x (by decide : 0 < 128); omega
      · exact hi7_byte f _ y hy
theorem putN_byte (v : Nat) : Bytes (putN v) := by
  intro y hy
  simp only [putN, List.mem_reverse] at hy
  rcases List.mem_cons.1 hy with rfl | hy
  · have := Nat.mod_lt v (by decide : 0 < 128); omega
  · exact hi7_byte _ _ y hy
theorem and127 {x : Nat} (h : x < T64) : bits .and .u64 (x : Int) 127 = ((x % 128 : Nat) : Int) := by
  have := and64 h (b := 127) (by simp [T64])
  rw [show ((127 : Nat) : Int) = 127 from rfl] at this
  rw [this]
  congr 1
  exact Nat.and_two_pow_sub_one_eq_mod x 7
theorem or128 (x : Nat) (h : x < 128) : bits .or .u8 (x : Int) 128 = ((x + 128 : Nat) : Int) := by
  have := u8_or_nat x 128 (by omega) (by omega)
  rw [show ((128 : Nat) : Int) = 128 from rfl] at this
  rw [this]
  congr 1
  have h1 := nat_join 7 128 x (by decide) (by omega)
  rw [Nat.or_comm, h1, Nat.add_comm]

theorem groups_any (v : Nat) (w : World) (hv : v < T64) :
    Calls Tryz.prog 55 #[.int .u64 (v : Int)] w (Ret (fun x w' => Sl w' (w.heap.size ≤ ·) 1 x (putN v).length (u8s (putN v))) w) := by
  obtain ⟨i0, hi, hz0, hz1, hz2⟩ := info_parts info_u8
  have hA := and127 hv
  have hm : v % 128 < 128 := Nat.mod_lt _ (by decide)
  have HV := Lib.hid hv
  clear hv
  go_enter Tryz.func55, Tryz.ntmps55
  go_wp2
  have hx0 : v / 128 < 128 ^ 10 := by have := HV.out; unfold T64 at this; omega
  have hxT : v / 128 < T64 := Nat.lt_of_le_of_lt (Nat.div_le_self _ _) HV.out
  have hown0 : (w.alloc (Obj.cells #[Value.int .u8 ((v : Int) % 128)] 5)).ownsRow w.heap.size 5 1 (.slice (some ⟨w.heap.size, 0, none⟩) 1 1) 1 (u8s [v % 128]) := by
    have := World.ownsRow_lit (base := w.heap.size) (e := 5) (size := 1) w #[Value.int .u8 ((v : Int) % 128)] 1 (Nat.le_refl _) (by simp [maxLen]) (by simp)
    simpa [u8s] using this
  have hbw0 : Below w.heap.size w (w.alloc (Obj.cells #[Value.int .u8 ((v : Int) % 128)] 5)) := (Below.refl _ _).alloc (Nat.le_refl _) _
  generalize (w.alloc (Obj.cells #[Value.int .u8 ((v : Int) % 128)] 5)) = W at *
  have H0 := Lib.hid hx0
  have HT := Lib.hid hxT
  clear hA hm hx0 hxT
  go_loopw [0, 3] (fun t s wr => ∃ (x f : Nat) (pre : List Nat), t = .int .u64 x ∧ Hid (x < 128 ^ f ∧ x < T64 ∧ pre ++ hi7 f x = hi7 10 (v / 128)) ∧ pre.length + f = 10 ∧ wr.ownsRow w.heap.size 5 1 s (pre.length + 1) (u8s (v % 128 :: pre)) ∧ Below w.heap.size w wr) (fun t _ _ => (intOf t).toNat)
  case atStart => exact ⟨v / 128, 10, [], by congr 1, ⟨H0.out, HT.out, rfl⟩, rfl, hown0, hbw0⟩
  case round =>
    clear hown0 hbw0
    obtain ⟨x, f, pre, rfl, HX, hf, hown, hbw⟩ := hrel
    by_cases hx : x = 0
    · subst hx
      have HR := Lib.hid (show putN v = (v % 128 :: pre).reverse by
        have := HX.out.2.2
        have h0 : hi7 f 0 = [] := by cases f <;> simp [hi7]
        rw [h0, List.append_nil] at this
        rw [putN, this])
      obtain ⟨g, cap, rfl, hg1, hg2⟩ := hown.form (by omega)
      have HO := Lib.hid hown
      clear hown
      go_wp2_with fail
      refine (reverse_any g cap (v % 128 :: pre) _ w.heap.size HO.out (by simp; omega)).mono ?_
      rintro e w2 ⟨rfl, hown2, hgr⟩
      have HO2 := Lib.hid hown2
      clear hown2
      go_wp2_with fail
      go_ret
      rw [HR.out]
      have hs := Sl.of_own HO2.out
      exact Ret.mk (by simpa using hs) (hbw.grown hgr (by have := hbw.size; omega) (fun k hk => by injection hk with hk; omega))
    · have hx0 : 0 < x := by omega
      obtain ⟨f, rfl⟩ : ∃ f', f = f' + 1 := by
        cases f with
        | zero => have := HX.out.1; simp at this; omega
        | succ f => exact ⟨f, rfl⟩
      have hA := and127 HX.out.2.1
      have HB := Lib.hid (show Value.int .u8 (bits .or .u8 ((x : Int) % 128) 128) = .int .u8 ((x % 128 + 128 : Nat) : Int) by
        have := or128 (x % 128) (Nat.mod_lt _ (by decide))
        rw [← this]; simp)
      have HX' : Hid (x / 128 < 128 ^ f ∧ x / 128 < T64 ∧ (pre ++ [x % 128 + 128]) ++ hi7 f (x / 128) = hi7 10 (v / 128)) := by
        obtain ⟨h1, h2, h3⟩ := HX.out
        refine ⟨?_, Nat.lt_of_le_of_lt (Nat.div_le_self _ _) h2, ?_⟩
        · rw [Nat.pow_succ] at h1; exact Nat.div_lt_of_lt_mul (by omega)
        · rw [← h3, hi7, if_neg (by omega)]; simp
      have HO := Lib.hid hown
      have hsz := hbw.size
      clear hx hown HX
      go_wp2_with (at_builtin; refine wpList_append_sl _ rfl _ _ 37 rfl w.heap.size 5 i0 (.int .u8 0) 1 1 Tryz.underlying37 hi hz0 hz1 hz2 rfl (by decide) _ (pre.length + 1) (u8s (v % 128 :: pre)) rfl (HO.out.alloc _) _ _ 1 _ rfl (Sl.new wr 5 [.int .u8 (bits .or .u8 ((x : Int) % 128) 128)] (by simp)) (by intro u hu; simp at hu; subst hu; rfl) (by unfold maxLen; omega) (by omega) (by simp; omega) ?_; intro v' w2 hown2 hgrow2 _; have HO2 := Lib.hid hown2; have HG2 := Lib.hid hgrow2; clear hown2 hgrow2)
      have ho := HO2.out
      rw [HB.out] at ho
      refine ⟨⟨x / 128, f, pre ++ [x % 128 + 128], by congr 1, HX', by simp; omega, ?_, ?_⟩, ?_⟩
      · simpa [u8s] using ho
      · exact (hbw.alloc hsz _).grown HG2.out (by simp; omega) (fun k hk => ((HO.out.alloc (.cells #[.int .u8 (bits .or .u8 ((x : Int) % 128) 128)] 5)).lt k hk).1)
      · simp [intOf]; omega
end Go.Proofs.YtenpkgdnlogfiaaGreatDoor
namespace Go.Proofs.YtenpkgdnlogfiaaGreatDoor
open Go.RowKit
set_option maxRecDepth 20000

theorem uint_any (q v : Nat) (bs : List Nat) (w : World) (R : Nat → Prop) (hW : IsW w R q bs) (hv : v < T64) (hlen : bs.length ≤ 100000000000) :
    Calls Tryz.prog 23 #[.pointer (some ⟨q, 0, none⟩), .int .u64 (v : Int)] w (WRet R q (bs ++ putN v) w) := by
  have hl := putN_len v
  go_enter Tryz.func23, Tryz.ntmps23
  go_wp2_with fail
  refine (groups_any v _ hv).mono ?_
  rintro e w1 ⟨p, rfl, hp, hb⟩
  go_wp2_with fail
  refine (raw_any q p bs (putN v) _ R _ (hW.ext hb) hp (by omega)).mono ?_
  rintro e w2 ⟨rfl, hW2, hF⟩
  go_wp2_with fail
  exact bodyPost_end (results_none rfl _ _ _) rfl ⟨rfl, hW2.imp fun k hk _ => by rcases hk with hk | hk; exact .inl hk; exact .inr (by have := hb.size; omega), (WF.of_below hb).trans (hF.imp fun k hk _ => .inl hk)⟩

theorem wbytes_any (q : Nat) (p : Value) (bs ps : List Nat) (w : World) (R D : Nat → Prop) (hW : IsW w R q bs) (hp : Sl w D 1 p ps.length (u8s ps)) (hD : ∀ b, D b → b < w.heap.size → b ≠ q ∧ ¬ R b) (hlen : bs.length + ps.length ≤ 90000000000) :
    Calls Tryz.prog 44 #[.pointer (some ⟨q, 0, none⟩), p] w (WRet R q (bs ++ (putN ps.length ++ ps)) w) := by
  have hl := putN_len ps.length
  obtain ⟨_, A, c, rfl, _, _, _⟩ := id hp
  go_enter Tryz.func44, Tryz.ntmps44
  go_wp2_with fail
  refine (uint_any q ps.length bs _ R hW (by unfold T64; omega) (by omega)).mono ?_
  rintro e w1 ⟨rfl, hW1, hF1⟩
  go_wp2_with fail
  refine (raw_any q _ _ ps _ _ D hW1 (hp.wf hF1 hD) (by simp; omega)).mono ?_
  rintro e w2 ⟨rfl, hW2, hF2⟩
  go_wp2_with fail
  exact bodyPost_end (results_none rfl _ _ _) rfl ⟨rfl, by rw [← List.append_assoc]; exact hW2.imp fun k hk _ => since_since hF1.size k hk, hF1.trans hF2⟩

def putFlag (b : Bool) : List Nat := if b then [1] else [0]
theorem flag_any (q : Nat) (b : Bool) (bs : List Nat) (w : World) (R : Nat → Prop) (hW : IsW w R q bs) (hlen : bs.length ≤ 100000000000) :
    Calls Tryz.prog 22 #[.pointer (some ⟨q, 0, none⟩), .bool b] w (WRet R q (bs ++ putFlag b) w) := by
  cases b
  · go_enter Tryz.func22, Tryz.ntmps22
    go_wp2_with fail
    refine (raw_any q _ bs [0] _ R _ (hW.alloc _) (Sl.new w 5 (u8s [0]) (by simp [u8s])) (by simp; omega)).mono ?_
    rintro e w2 ⟨rfl, hW2, hF⟩
    go_wp2_with fail
    exact bodyPost_end (results_none rfl _ _ _) rfl ⟨rfl, hW2.imp fun k hk _ => by rcases hk with hk | hk; exact .inl hk; exact .inr (by simp at hk; omega), (WF.of_below ((Below.refl _ _).alloc (Nat.le_refl _) _)).trans (hF.imp fun k hk _ => .inl hk)⟩
  · go_enter Tryz.func22, Tryz.ntmps22
    go_wp2_with fail
    refine (raw_any q _ bs [1] _ R _ (hW.alloc _) (Sl.new w 5 (u8s [1]) (by simp [u8s])) (by simp; omega)).mono ?_
    rintro e w2 ⟨rfl, hW2, hF⟩
    go_wp2_with fail
    refine bodyPost_ret (results_none rfl _ _ _) rfl ⟨rfl, hW2.imp fun k hk _ => by rcases hk with hk | hk; exact .inl hk; exact .inr (by simp at hk; omega), (WF.of_below ((Below.refl _ _).alloc (Nat.le_refl _) _)).trans (hF.imp fun k hk _ => .inl hk)⟩

/-- the encoding of a set -/
def putSet (N : Nat) : List Nat := putN (setBytes N).length ++ setBytes N
theorem setBytes_len {N : Nat} (h : N < 2 ^ 4096) : (setBytes N).length ≤ 512 := by
  unfold setBytes
  split
  · simp
  · rename_i h0
    have := (Nat.log2_lt h0).2 h
    simp; omega
theorem wset_any (q : Nat) (v : Value) (N : Nat) (bs : List Nat) (w : World) (R D : Nat → Prop) (hW : IsW w R q bs) (hv : IsSet w D v N) (hlen : bs.length ≤ 10000000000) :
    Calls Tryz.prog 84 #[.pointer (some ⟨q, 0, none⟩), v] w (WRet R q (bs ++ putSet N) w) := by
  have hl := setBytes_len hv.bound
  obtain ⟨A, c, l, rfl, _, _, _, _, _⟩ := id hv.parts
  go_enter Tryz.func84, Tryz.ntmps84
  go_wp2_with fail
  refine (set_bytes_any _ N _ D (hv.alloc _)).mono ?_
  rintro e w1 ⟨p, rfl, hp, hb⟩
  go_wp2_with fail
  have hbw : Below w.heap.size w w1 := ((Below.refl _ _).alloc (Nat.le_refl _) _).trans (hb.mono (by simp))
  have hlt := hW.lt
  refine (wbytes_any q p bs (setBytes N) _ (fun k => R k ∧ k < w.heap.size) _ ((hW.imp fun k h1 h2 => ⟨h1, h2⟩).ext hbw) hp (fun b h1 _ => by simp at h1; exact ⟨by omega, fun h => by omega⟩) (by omega)).mono ?_
  rintro e w2 ⟨rfl, hW2, hF⟩
  go_wp2_with fail
  refine bodyPost_end (results_none rfl _ _ _) rfl ⟨rfl, hW2.imp fun k hk _ => ?_, (WF.of_below hbw).trans (hF.imp fun k hk _ => .inl hk.1)⟩
  rcases hk with hk | hk
  · exact .inl hk.1
  · exact .inr (by have := hbw.size; omega)
end Go.Proofs.YtenpkgdnlogfiaaGreatDoor
