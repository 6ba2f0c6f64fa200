/-
  What keccak's functions Sum and Tagged return.
-/
import Derived.Test.YtenpkgdnlogfiaaDoorKec5
import Derived.Laws.IdiomStrings
namespace Go.Proofs.YtenpkgdnlogfiaaDoor
open Go.RowKit
attribute [local go_sem ↓] Go.wp_at_zero Go.wp_at_succ
set_option maxRecDepth 20000

/-- the digest -/
def sha3 (l : List Nat) : List Nat := sumK (stB (List.replicate 25 0) l (l.length / 136)) (l.drop (136 * (l.length / 136)))
theorem take_rest {blk l : List Nat} (h : blk.length = 136) (hb : ∀ i, i < l.length % 136 → blk.getD i 0 = l.getD (136 * (l.length / 136) + i) 0) : blk.take (l.length % 136) = l.drop (136 * (l.length / 136)) := by
  have h1 : l.length % 136 < 136 := Nat.mod_lt _ (by decide)
  have h2 := Nat.div_add_mod l.length 136
  apply List.ext_getElem
  · simp; omega
  · intro i h3 h4
    have h5 : i < l.length % 136 := by simp at h3; omega
    have h6 := hb i h5
    rw [List.getD_eq_getElem?_getD, List.getD_eq_getElem?_getD, List.getElem?_eq_getElem (by omega), List.getElem?_eq_getElem (by omega)] at h6
    simpa using h6
set_option maxHeartbeats 1000000 in
theorem ksum_any (p : Value) (l : List Nat) (w : World) (D : Nat → Prop) (hT : Tab w) (hp : Sl w D 1 p l.length (u8s l)) (hby : Bytes l) (hll : l.length ≤ 1000000000000000) :
    Calls Tryd.prog 61 #[p] w (Ret (fun x _ => x = .agg (u8s (sha3 l)).toArray) w) := by
  obtain ⟨⟨_, ht1⟩, _, ht2⟩ := id hT
  have htl1 := ht1.lt
  have htl2 := ht2.lt
  have hr0 := Box.new w 32 (u8s (List.replicate 32 0)).toArray
  have hB0 : Below w.heap.size w (w.alloc (.cells (u8s (List.replicate 32 0)).toArray 32)) := (Below.refl _ _).alloc (Nat.le_refl _) _
  have hp0 := (hp.imp (D' := fun b => D b ∧ b < w.heap.size) fun b h1 h2 => ⟨h1, h2⟩).ext hB0
  have hi32 : (Tryd.prog.info? 32).map (·.size) = some (u8s (sha3 l)).toArray.size := by rw [List.size_toArray, u8s_length]; simp only [sha3, sumK, List.length_map, List.length_range]; kernel_rfl
  have hone : (u8s (sha3 l)).toArray.all (·.oneCell') = true := all_oneCell_toArray (u8s_one _)
  have hold : (u8s (List.replicate 32 0)).toArray.size = (u8s (sha3 l)).toArray.size := by simp [u8s_length, sha3, sumK]
  have HI := Lib.hid hi32
  have HON := Lib.hid hone
  have HOL := Lib.hid hold
  have hsz0 : (w.alloc (.cells (u8s (List.replicate 32 0)).toArray 32)).heap.size = w.heap.size + 1 := by simp
  clear hi32 hone hold ht1 ht2 hp
  go_enter Tryd.func61, Tryd.ntmps61
  go_wp2_with fail
  change Calls _ _ _ (w.alloc (.cells (u8s (List.replicate 32 0)).toArray 32)) _
  generalize w.alloc (.cells (u8s (List.replicate 32 0)).toArray 32) = W1 at *
  refine (new_any W1).mono ?_
  rintro e W2 ⟨rfl, rfl⟩
  have hH2 := Box.new W1 130 (hashC (List.replicate 25 0) (List.replicate 136 0) 0 0).toArray
  rw [hsz0] at hH2
  have hr2 := hr0.alloc (.cells (hashC (List.replicate 25 0) (List.replicate 136 0) 0 0).toArray 130)
  have hp2 := hp0.alloc (.cells (hashC (List.replicate 25 0) (List.replicate 136 0) 0 0).toArray 130)
  have hB2 := hB0.alloc (by omega) (.cells (hashC (List.replicate 25 0) (List.replicate 136 0) 0 0).toArray 130)
  have hT2 := hT.ext hB2
  generalize W1.alloc (.cells (hashC (List.replicate 25 0) (List.replicate 136 0) 0 0).toArray 130) = W2 at *
  clear hr0 hB0 hp0
  have hby0 : Bytes (List.replicate 136 0) := by intro x hx; rw [List.eq_of_mem_replicate hx]; omega
  have hlb0 : (List.replicate 136 0 : List Nat).length = 136 := List.length_replicate
  have hls0 : (List.replicate 25 0 : List Nat).length = 25 := List.length_replicate
  have hws0 := Words.zeros 25
  have HSH := Lib.hid (show sha3 l = sumK (stB (List.replicate 25 0) l (l.length / 136)) (l.drop (136 * (l.length / 136))) from rfl)
  generalize (List.replicate 136 0 : List Nat) = blk0 at *
  generalize (List.replicate 25 0 : List Nat) = st0 at *
  have HR2 := Lib.hid hr2
  have HH2 := Lib.hid hH2
  clear hr2 hH2
  go_wp2_with fail
  refine (hwrite_any (w.heap.size + 1) _ st0 l blk0 0 W2 _ hT2 HH2.out hls0 hws0 hlb0 hby0 hp2 hby (fun b hb _ => by have := hb.2; omega) ⟨by omega, by omega⟩ (by unfold T64; omega)).mono ?_
  rintro e W3 ⟨rfl, ⟨blk, hbl, hbb, hbi, hH3⟩, hF3⟩
  have hr3 := hF3.box HR2.out (by omega) (by decide)
  have hB3 := hB2.trans (hF3.below (by omega) (fun _ h => h.elim) (by have := HR2.out.lt; omega))
  have hT3 := hT.ext hB3
  have hst := stB_ok hws0 hls0 hby (l.length / 136)
  have hmod : l.length % 136 < 136 := Nat.mod_lt _ (by decide)
  have HTK := Lib.hid (take_rest hbl hbi)
  clear hB2 hT2 hF3 hbi hp2 HR2 HH2
  go_wp2_with fail
  refine (hsum_any (w.heap.size + 1) _ blk _ _ W3 hT3 hH3 hst.2 hst.1 hbl hbb hmod).mono ?_
  rintro e W4 ⟨v, rfl, rfl, hB4⟩
  rw [HTK.out, ← HSH.out]
  have hr4 := hr3.ext hB4
  have hB5 := hB3.trans (hB4.mono hB3.size)
  have HR4 := Lib.hid hr4
  clear hr3 hr4 hB4
  go_wp2_with ((with_reducible show wpList _ _ _ (⟨none, .store 32 _ _, _, _, _, _⟩ :: _) _ _); refine wpList_store_row rfl 32 _ _ rfl w.heap.size (u8s (sha3 l)).toArray rfl rfl 32 (u8s (List.replicate 32 0)).toArray HR4.out HI.out HOL.out HON.out ?_)
  refine bodyPost_ret (v := .agg (u8s (sha3 l)).toArray) (by exact results_cell_row rfl _ _ w.heap.size 32 _ (0, 0) _ rfl (setRow_heap _ _ _ _ _ _ HR4.out) Tryd.underlying32 rfl HI.out) rfl ?_
  exact Ret.mk rfl (below_setRow hB5 (Nat.le_refl _) _)
end Go.Proofs.YtenpkgdnlogfiaaDoor
