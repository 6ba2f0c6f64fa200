/-
  What the writer's methods Uint, Bytes, Flag, String and Set do.
-/
import Derived.Test.YtenpkgdnlogfiaaDoorWire3
namespace Go.Proofs.YtenpkgdnlogfiaaDoor
open Go.RowKit
set_option maxRecDepth 20000

theorem uint_any (q v : Nat) (bs : List Nat) (w : World) (R : Nat → Prop) (hW : IsW w R q bs) (hv : v < T64) (hlen : bs.length ≤ 100000000000) :
    Calls Tryd.prog 45 #[.pointer (some ⟨q, 0, none⟩), .int .u64 (v : Int)] w (WRet R q (bs ++ putN v) w) := by
  have hl := putN_len v
  go_enter Tryd.func45, Tryd.ntmps45
  go_wp2_with fail
  refine (groups_any v _ hv).mono ?_
  rintro e w1 ⟨p, rfl, hp, hb⟩
  go_wp2_with fail
  refine (raw_any q p bs (putN v) _ R _ (hW.ext hb) hp (by omega)).mono ?_
  rintro e w2 ⟨rfl, hW2, hF⟩
  go_wp2_with fail
  exact bodyPost_end (results_none rfl _ _ _) rfl ⟨rfl, hW2.imp fun k hk _ => by rcases hk with hk | hk; exact .inl hk; exact .inr (by have := hb.size; omega), (WF.of_below hb).trans (hF.imp fun k hk _ => .inl hk)⟩

theorem wbytes_any (q : Nat) (p : Value) (bs ps : List Nat) (w : World) (R D : Nat → Prop) (hW : IsW w R q bs) (hp : Sl w D 1 p ps.length (u8s ps)) (hD : ∀ b, D b → b < w.heap.size → b ≠ q ∧ ¬ R b) (hlen : bs.length + ps.length ≤ 90000000000) :
    Calls Tryd.prog 60 #[.pointer (some ⟨q, 0, none⟩), p] w (WRet R q (bs ++ (putN ps.length ++ ps)) w) := by
  have hl := putN_len ps.length
  obtain ⟨_, A, c, rfl, _, _, _⟩ := id hp
  go_enter Tryd.func60, Tryd.ntmps60
  go_wp2_with fail
  refine (uint_any q ps.length bs _ R hW (by unfold T64; omega) (by omega)).mono ?_
  rintro e w1 ⟨rfl, hW1, hF1⟩
  go_wp2_with fail
  refine (raw_any q _ _ ps _ _ D hW1 (hp.wf hF1 hD) (by simp; omega)).mono ?_
  rintro e w2 ⟨rfl, hW2, hF2⟩
  go_wp2_with fail
  exact bodyPost_end (results_none rfl _ _ _) rfl ⟨rfl, by rw [← List.append_assoc]; exact hW2.imp fun k hk _ => since_since hF1.size k hk, hF1.trans hF2⟩

def putFlag (b : Bool) : List Nat := if b then [1] else [0]
theorem flag_any (q : Nat) (b : Bool) (bs : List Nat) (w : World) (R : Nat → Prop) (hW : IsW w R q bs) (hlen : bs.length ≤ 100000000000) :
    Calls Tryd.prog 44 #[.pointer (some ⟨q, 0, none⟩), .bool b] w (WRet R q (bs ++ putFlag b) w) := by
  cases b
  · go_enter Tryd.func44, Tryd.ntmps44
    go_wp2_with fail
    refine (raw_any q _ bs [0] _ R _ (hW.alloc _) (Sl.new w 5 (u8s [0]) (by simp [u8s])) (by simp; omega)).mono ?_
    rintro e w2 ⟨rfl, hW2, hF⟩
    go_wp2_with fail
    exact bodyPost_end (results_none rfl _ _ _) rfl ⟨rfl, hW2.imp fun k hk _ => by rcases hk with hk | hk; exact .inl hk; exact .inr (by simp at hk; omega), (WF.of_below ((Below.refl _ _).alloc (Nat.le_refl _) _)).trans (hF.imp fun k hk _ => .inl hk)⟩
  · go_enter Tryd.func44, Tryd.ntmps44
    go_wp2_with fail
    refine (raw_any q _ bs [1] _ R _ (hW.alloc _) (Sl.new w 5 (u8s [1]) (by simp [u8s])) (by simp; omega)).mono ?_
    rintro e w2 ⟨rfl, hW2, hF⟩
    go_wp2_with fail
    refine bodyPost_ret (results_none rfl _ _ _) rfl ⟨rfl, hW2.imp fun k hk _ => by rcases hk with hk | hk; exact .inl hk; exact .inr (by simp at hk; omega), (WF.of_below ((Below.refl _ _).alloc (Nat.le_refl _) _)).trans (hF.imp fun k hk _ => .inl hk)⟩

/-- the encoding of a set -/
def putSet (N : Nat) : List Nat := putN (setBytes N).length ++ setBytes N
theorem setBytes_len {N : Nat} (h : N < 2 ^ 4096) : (setBytes N).length ≤ 512 := by
  unfold setBytes
  split
  · simp
  · rename_i h0
    have := (Nat.log2_lt h0).2 h
    simp; omega
theorem wset_any (q : Nat) (v : Value) (N : Nat) (bs : List Nat) (w : World) (R D : Nat → Prop) (hW : IsW w R q bs) (hv : IsSet w D v N) (hlen : bs.length ≤ 10000000000) :
    Calls Tryd.prog 84 #[.pointer (some ⟨q, 0, none⟩), v] w (WRet R q (bs ++ putSet N) w) := by
  have hl := setBytes_len hv.bound
  obtain ⟨A, c, l, rfl, _, _, _, _, _⟩ := id hv.parts
  go_enter Tryd.func84, Tryd.ntmps84
  go_wp2_with fail
  refine (set_bytes_any _ N _ D (hv.alloc _)).mono ?_
  rintro e w1 ⟨p, rfl, hp, hb⟩
  go_wp2_with fail
  have hbw : Below w.heap.size w w1 := ((Below.refl _ _).alloc (Nat.le_refl _) _).trans (hb.mono (by simp))
  have hlt := hW.lt
  refine (wbytes_any q p bs (setBytes N) _ (fun k => R k ∧ k < w.heap.size) _ ((hW.imp fun k h1 h2 => ⟨h1, h2⟩).ext hbw) hp (fun b h1 _ => by simp at h1; exact ⟨by omega, fun h => by omega⟩) (by omega)).mono ?_
  rintro e w2 ⟨rfl, hW2, hF⟩
  go_wp2_with fail
  refine bodyPost_end (results_none rfl _ _ _) rfl ⟨rfl, hW2.imp fun k hk _ => ?_, (WF.of_below hbw).trans (hF.imp fun k hk _ => .inl hk.1)⟩
  rcases hk with hk | hk
  · exact .inl hk.1
  · exact .inr (by have := hbw.size; omega)
end Go.Proofs.YtenpkgdnlogfiaaDoor
