/-
  What the writer of package wire does: Raw, NewWriter, Clone of bytes, Out.
-/
import Derived.Test.YtenpkgdnlogfiaaDoorMem2
import Derived.Test.YtenpkgdnlogfiaaDoorProg
import Derived.WalkLawsBesides
import Derived.WalkSpells
import Derived.Outline
import Derived.Handy
import Derived.Deep.DeepMust
namespace Go.Proofs.YtenpkgdnlogfiaaDoor
open Go.RowKit
set_option maxRecDepth 20000

theorem info_u8 : (Tryd.prog.info? 5).map (fun i => (i.zero, i.size, i.bytes)) = some (some (.int .u8 0), 1, 1) := by kernel_rfl
theorem own_shape {w : World} {base : Nat} {e : TypeId} {size n : Nat} {v : Value} {xs : List Value} (h : w.ownsRow base e size v n xs) : ∃ A c, v = .slice A n c := by
  rcases h.2 with ⟨rfl, rfl⟩ | ⟨g, cap, _, rfl, _⟩
  · exact ⟨none, 0, rfl⟩
  · exact ⟨_, cap, rfl⟩
/-- what a call on the writer in block q leaves -/
def WRet (R : Nat → Prop) (q : Nat) (l : List Nat) (w : World) (e : Ending) (w' : World) : Prop := e = .returned (.tuple #[]) ∧ IsW w' (Since R w) q l ∧ WF R q w w'

theorem raw_any (q : Nat) (p : Value) (bs ps : List Nat) (w : World) (R D : Nat → Prop) (hW : IsW w R q bs) (hp : Sl w D 1 p ps.length (u8s ps)) (hlen : bs.length + ps.length ≤ 1000000000000) :
    Calls Tryd.prog 43 #[.pointer (some ⟨q, 0, none⟩), p] w (WRet R q (bs ++ ps) w) := by
  obtain ⟨sv, hbox, hown, hR⟩ := hW
  obtain ⟨i0, hi, hz0, hz1, hz2⟩ := info_parts info_u8
  obtain ⟨A, c, rfl⟩ := own_shape hown
  have hc0 := hbox.cell 0
  have HO := Lib.hid hown
  have HP := Lib.hid hp
  have HX := Lib.hid hbox
  have HR := Lib.hid hR
  clear hown hp hbox hR
  simp at hc0
  go_enter Tryd.func43, Tryd.ntmps43
  go_wp2_with (at_builtin; refine wpList_append_sl _ rfl _ _ 47 rfl 0 5 i0 (.int .u8 0) 1 1 Tryd.underlying47 hi hz0 hz1 hz2 rfl (by decide) (.slice A bs.length c) bs.length (u8s bs) rfl HO.out D p ps.length (u8s ps) rfl HP.out (u8s_one _) (by unfold maxLen; omega) (by omega) (Nat.zero_le _) ?_; intro v' w1 hown1 hgrow1 hat; obtain ⟨A', c', rfl⟩ := own_shape hown1; have HX1 := Lib.hid (HX.out.grown hgrow1 (fun e => own_ne_box HO.out HX.out (by decide) e.symm)); have hc1 := HX1.out.cell 0; have hf1 := HX1.out.free 0; simp at hc1; have HO1 := Lib.hid hown1; have HW1 := Lib.hid (WF.of_grown (q := q) HO.out HR.out hgrow1); have HA := Lib.hid hat; clear hown1 hgrow1 hat)
  refine bodyPost_end (results_none rfl _ _ _) rfl ⟨rfl, ⟨_, HX1.out.set 0 _, ?_, fun k hk => ?_⟩, HW1.out.trans (WF.set _ _ _ 0 _)⟩
  · have := own_far HO1.out HX1.out (by decide) 0 (.slice A' (bs.length + ps.length) c')
    rw [u8s_append, List.length_append]
    exact this
  · rcases HA.out with h | h
    · exact .inl (HR.out k (by rw [← h]; exact hk))
    · rw [hk] at h
      injection h with h
      exact .inr (by omega)

theorem newWriter_any (w : World) : Calls Tryd.prog 42 #[] w fun e w' => e = .returned (.pointer (some ⟨w.heap.size, 0, none⟩)) ∧ w' = w.alloc (.cells #[.slice none 0 0] 112) := by
  go_enter Tryd.func42, Tryd.ntmps42
  go_wp2
  go_ret
  exact ⟨rfl, rfl⟩
theorem IsW.new (w : World) (R : Nat → Prop) : IsW (w.alloc (.cells #[.slice none 0 0] 112)) R w.heap.size [] :=
  ⟨_, Box.new w _ _, World.ownsRow_nil _ _ _ _, fun k hk => by simp [Value.ownBlock] at hk⟩

/-- a clone of bytes: in a row of the call's own; a nil slice is one again -/
theorem clone_bytes_any (p : Value) (ps : List Nat) (w : World) (D : Nat → Prop) (hp : Sl w D 1 p ps.length (u8s ps)) (hlen : ps.length ≤ 1000000000000) :
    Calls Tryd.prog 41 #[p] w (Ret (fun x w' => Sl w' (w.heap.size ≤ ·) 1 x ps.length (u8s ps)) w) := by
  obtain ⟨i0, hi, hz0, hz1, hz2⟩ := info_parts info_u8
  have hp0 := hp
  obtain ⟨_, A, c, rfl, h1, h2, h3⟩ := hp0
  cases A with
  | none =>
    have h0 : ps.length = 0 := by
      rcases Nat.eq_zero_or_pos ps.length with h | h
      · exact h
      · obtain ⟨b, o, e, _⟩ := h3 h; cases e
    obtain rfl : ps = [] := List.eq_nil_of_length_eq_zero h0
    simp only [List.length_nil] at *
    have hq := fun (wx : World) => Lib.run_eql_slice_nil (P := Tryd.prog) wx 47 5 none 0 c 0 0 Tryd.underlying47
    clear h3
    go_enter Tryd.func41, Tryd.ntmps41
    go_wp2_with fail
    go_ret
    exact Ret.mk Sl.none_ (Below.refl _ _)
  | some ad =>
    have hq := fun (wx : World) => Lib.run_eql_slice_nil (P := Tryd.prog) wx 47 5 (some ad) ps.length c 0 0 Tryd.underlying47
    simp only [Option.isNone_some] at hq
    have HP := Lib.hid (hp.alloc (.cells #[] 5))
    clear h3 hp
    go_enter Tryd.func41, Tryd.ntmps41
    go_wp2_with (at_builtin; refine wpList_append_sl _ rfl _ _ 47 rfl w.heap.size 5 i0 (.int .u8 0) 1 1 Tryd.underlying47 hi hz0 hz1 hz2 rfl (by decide) _ 0 [] rfl (World.ownsRow_made w #[] 0 (Nat.le_refl _) (by simp [maxLen]) (by simp)) D (.slice (some ad) ps.length c) ps.length (u8s ps) rfl HP.out (u8s_one _) (by unfold maxLen; omega) (by omega) (by simp) ?_; intro v' w1 hown1 hgrow1 _)
    obtain ⟨A', c', rfl⟩ := own_shape hown1
    replace hgrow1 : (w.alloc (.cells #[] 5)).grownBy w1 (some w.heap.size) := hgrow1
    simp only [Nat.zero_add, List.nil_append] at hown1
    go_wp2_with fail
    go_ret
    exact Ret.mk (by simpa using Sl.of_own hown1) (((Below.refl _ _).alloc (Nat.le_refl _) _).grown hgrow1 (by simp) (fun k hk => by injection hk with hk; omega))

theorem wout_any (q : Nat) (bs : List Nat) (w : World) (R : Nat → Prop) (hW : IsW w R q bs) (hlen : bs.length ≤ 1000000000000) :
    Calls Tryd.prog 47 #[.pointer (some ⟨q, 0, none⟩)] w (Ret (fun x w' => Sl w' (w.heap.size ≤ ·) 1 x bs.length (u8s bs)) w) := by
  obtain ⟨sv, hbox, hown, _⟩ := hW
  obtain ⟨A, c, rfl⟩ := own_shape hown
  have hc0 := hbox.cell 0
  simp at hc0
  have HS := Lib.hid (Sl.of_own hown)
  clear hown hbox
  go_enter Tryd.func47, Tryd.ntmps47
  go_wp2_with fail
  refine (clone_bytes_any _ bs _ _ HS.out hlen).mono ?_
  rintro e w1 ⟨x, rfl, hx, hb⟩
  go_wp2_with fail
  go_ret
  exact Ret.mk hx hb
end Go.Proofs.YtenpkgdnlogfiaaDoor
