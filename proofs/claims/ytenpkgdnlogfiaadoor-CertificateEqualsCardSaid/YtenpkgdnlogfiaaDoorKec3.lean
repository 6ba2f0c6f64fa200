/-
  What the absorbing of a block computes.
-/
import Derived.Test.YtenpkgdnlogfiaaDoorKec2
namespace Go.Proofs.YtenpkgdnlogfiaaDoor
open Go.RowKit
attribute [local go_sem ↓] Go.wp_at_zero Go.wp_at_succ
set_option maxRecDepth 20000

/-- the word of eight bytes, of which the n last are taken in -/
def lew (l : List Nat) (i : Nat) : Nat → Nat
  | 0 => 0
  | n + 1 => (lew l i n * 256) % T64 ||| l.getD (8 * i + (7 - n)) 0
theorem Bytes.getD {l : List Nat} (h : Bytes l) (k : Nat) : l.getD k 0 < 256 := by
  rcases Nat.lt_or_ge k l.length with h1 | h1
  · rw [List.getD_eq_getElem?_getD, List.getElem?_eq_getElem h1]; exact h _ (List.getElem_mem h1)
  · rw [List.getD_eq_getElem?_getD, List.getElem?_eq_none h1]; simp
theorem lew_lt {l : List Nat} (h : Bytes l) (i n : Nat) : lew l i n < T64 := by
  cases n with
  | zero => simp [lew, T64]
  | succ n => exact or_lt (Nat.mod_lt _ (by simp [T64])) (Nat.lt_trans (h.getD _) (by unfold T64; omega))
def absW (a l : List Nat) (i : Nat) : Nat := a.getD i 0 ^^^ lew l i 8
def absorbK (a l : List Nat) : List Nat := perm (mixTo (absW a l) a 17)
theorem mixTo_at (f : Nat → Nat) (a : List Nat) (k : Nat) (h : k < 25) : (mixTo f a k).getD k 0 = a.getD k 0 := by
  simp [mixTo, List.getD_eq_getElem?_getD, h]
theorem mixTo_words {f : Nat → Nat} {a : List Nat} (hf : ∀ i, f i < T64) (ha : Words a) (k : Nat) : Words (mixTo f a k) :=
  Words.range _ _ fun j _ => by split; exact hf j; exact ha.getD j

set_option maxHeartbeats 4000000 in
theorem absorb_any (b : Nat) (t : TypeId) (a : List Nat) (rest : List Value) (d o cap : Nat) (l : List Nat) (w : World) (hT : Tab w) (hA : Box w b t (u64s a ++ rest).toArray) (hl : a.length = 25) (hw : Words a)
    (hb1 : 1 ≠ b ∧ 2 ≠ b) (hl2 : l.length = 136) (hby : Bytes l) (hc : 136 ≤ cap) (hc2 : cap ≤ 9223372036854775807) (hne : d ≠ b ∨ 25 ≤ o)
    (hcell : ∀ j, j < 136 → w.cell? ⟨d, o + j, none⟩ = some (.int .u8 (l.getD j 0 : Nat))) :
    Calls Tryd.prog 85 #[.pointer (some ⟨b, 0, none⟩), .slice (some ⟨d, o, none⟩) 136 cap] w (fun e w' => e = .returned (.tuple #[]) ∧ Box w' b t (u64s (absorbK a l) ++ rest).toArray ∧ WF (fun _ => False) b w w') := by
  have hcs : ∀ wr : World, (∀ q : Addr, (q.block ≠ b ∨ 25 ≤ q.off) → wr.cell? q = w.cell? q) → ∀ j, j < 136 → wr.cell? ⟨d, o + j, none⟩ = some (.int .u8 (l.getD j 0 : Nat)) := fun wr h j hj => (h ⟨d, o + j, none⟩ (by rcases hne with h1 | h1; exact .inl h1; exact .inr (by show 25 ≤ o + j; omega))).trans (hcell j hj)
  have HCS := Lib.hid hcs
  clear hcs hcell
  go_enter Tryd.func85, Tryd.ntmps85
  go_wp2_with fail
  go_loopw [7] (fun i wr => ∃ k : Nat, k ≤ 17 ∧ i = .int .i64 k ∧ Box wr b t (u64s (mixTo (absW a l) a k) ++ rest).toArray ∧ WF (fun _ => False) b w wr ∧ ∀ q : Addr, (q.block ≠ b ∨ 25 ≤ q.off) → wr.cell? q = w.cell? q) (fun i _ => 17 - (intOf i).toNat)
  case atStart => exact ⟨0, by omega, rfl, by rw [mixTo_zero _ _ hl]; exact hA, WF.refl _ _ _, fun q _ => rfl⟩
  case round =>
    clear hA
    obtain ⟨k, hk, rfl, hA, hF, hq⟩ := hrel
    by_cases hlt : k < 17
    · have HC := Lib.hid (HCS.out wr hq)
      have HQ := Lib.hid hq
      clear hq
      have hdk : decide ((k : Int) < 17) = true := by simp; omega
      go_wp2_with fail
      try simp only [hdk]
      clear hdk
      go_loop [5, 6] (fun u i => ∃ n : Nat, n ≤ 8 ∧ i = .int .i64 (7 - (n : Int)) ∧ u = .int .u64 (lew l k n : Nat)) (fun _ i => (intOf i + 1).toNat)
      case atStart => exact ⟨0, by omega, rfl, rfl⟩
      case round =>
        obtain ⟨n, hn, rfl, rfl⟩ := hrel
        by_cases hltn : n < 8
        · have hb := HC.out (8 * k + (7 - n)) (by omega)
          have HL := Lib.hid (show lew l k (n + 1) = (lew l k n * 256) % T64 ||| l.getD (8 * k + (7 - n)) 0 from rfl)
          have l0 := lew_lt hby k n
          have l1 := hby.getD (8 * k + (7 - n))
          generalize lew l k n = x at *
          generalize l.getD (8 * k + (7 - n)) 0 = y at *
          have s1 : (8 * (k : Int) + (7 - (n : Int))).toNat = 8 * k + (7 - n) := by omega
          go_wp2_with fail
          refine ⟨⟨n + 1, hltn, by congr 1; omega, ?_⟩, by simp [intOf]; omega⟩
          have h1 : IntKind.u64.wrap ((x : Int) * 256) = ((x * 256 % T64 : Nat) : Int) := by
            rw [show (x : Int) * 256 = ((x * 256 : Nat) : Int) by omega]
            exact wrap_u64 _
          rw [HL.out, h1, or64 (Nat.mod_lt _ (by simp [T64])) (Nat.lt_trans l1 (by unfold T64; omega))]
        · have hn8 : n = 8 := by omega
          have l0 := hw.getD k
          have l1 := lew_lt hby k 8
          have HM := Lib.hid (mixTo_step (absW a l) a k (by omega))
          have hx := xor64 l0 l1
          have HX := Lib.hid (show bits .xor .u64 (a.getD k 0 : Nat) (lew l k 8 : Nat) = ((absW a l k : Nat) : Int) from hx)
          have h0 := hA.word (i := k) (by rw [mixTo_len]; omega)
          rw [mixTo_at _ _ _ (by omega)] at h0
          have h1 := hA.free k
          clear hx
          go_wp2_with fail
          clear hn8 hltn hn
          generalize lew l k 8 = L at *
          generalize a.getD k 0 = A0 at *
          go_wp2_with (go_region)
          rw [HX.out]
          refine ⟨⟨k + 1, hlt, by go_num, ?_, hF.trans (WF.trans (WF.set _ _ _ _ _) (WF.of_below (Below.refl _ _).drew)), fun q hq => ?_⟩, by simp [intOf]; omega⟩
          · rw [← HM.out]
            exact (hA.setW (by rw [mixTo_len]; omega) _).drew
          · refine Eq.trans ?_ (HQ.out q hq)
            exact World.cell?_setCell_other _ _ _ _ (by rintro rfl; rcases hq with h | h; exact h rfl; have : 25 ≤ k := h; omega)
    · have hk17 : k = 17 := by omega
      rw [hk17] at hA
      go_wp2_with fail
      refine (permute_any b t _ rest wr (hT.wf hF hb1) hA (mixTo_len _ _ _) (mixTo_words (fun i => xor_lt (hw.getD i) (lew_lt hby i 8)) hw 17) hb1).mono ?_
      rintro e w2 ⟨rfl, hA2, hF2⟩
      go_wp2_with fail
      exact bodyPost_end (results_none rfl _ _ _) rfl ⟨rfl, hA2, hF.trans (hF2.imp fun _ h _ => h.elim)⟩
end Go.Proofs.YtenpkgdnlogfiaaDoor
