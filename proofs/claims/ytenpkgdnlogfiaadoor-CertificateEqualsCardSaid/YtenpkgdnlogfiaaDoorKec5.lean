/-
  What keccak's method Sum and function Sum return.
-/
import Derived.Test.YtenpkgdnlogfiaaDoorKec4
import Derived.Deep.MidRow
import Derived.Deep.Cut
import Derived.Laws.CopyOwn
namespace Go.Proofs.YtenpkgdnlogfiaaDoor
open Go.RowKit
attribute [local go_sem ↓] Go.wp_at_zero Go.wp_at_succ
set_option maxRecDepth 20000

/-- the last block: the bytes that are left, with their padding -/
def lastK (r : List Nat) : List Nat :=
  let l := (r ++ List.replicate (136 - r.length) 0).set r.length 6
  l.set 135 (l.getD 135 0 ^^^ 128)
def outK (a : List Nat) (i : Nat) : Nat := a.getD (i / 8) 0 / 2 ^ (8 * (i % 8)) % 256
def sumK (st r : List Nat) : List Nat := (List.range 32).map (outK (absorbK st (lastK r)))

section
variable {w : World} {b : Nat} {t : TypeId} {l : List Nat}
theorem Box.byte (h : Box w b t (u8s l).toArray) {i : Nat} (hi : i < l.length) : w.cell? ⟨b, i, none⟩ = some (.int .u8 (l.getD i 0 : Nat)) := by
  rw [h.cell, List.getElem?_toArray, u8s_at _ _ hi]
theorem Box.setB (h : Box w b t (u8s l).toArray) (i : Nat) (x : Nat) : Box (w.setCell ⟨b, i, none⟩ (.int .u8 (x : Int))) b t (u8s (l.set i x)).toArray := by
  have := h.set i (.int .u8 (x : Int))
  rw [List.setIfInBounds_toArray, ← u8s_set] at this
  exact this
end
theorem lay0 (l : List Nat) (u : Nat) : ((u8s (List.replicate 136 0)).toArray.toList.take 0 ++ u8s l ++ (u8s (List.replicate 136 0)).toArray.toList.drop (0 + u)).toArray = (u8s (l ++ List.replicate (136 - u) 0)).toArray := by
  congr 1
  rw [List.take_zero, List.nil_append, u8s_append, Nat.zero_add]
  congr 1
  show (u8s (List.replicate 136 0)).drop u = _
  rw [u8s, ← List.map_drop, List.drop_replicate]
  rfl
set_option maxHeartbeats 4000000 in
theorem hsum_any (h : Nat) (st blk : List Nat) (u tot : Nat) (w : World) (hT : Tab w) (hH : Box w h 130 (hashC st blk u tot).toArray) (h1 : st.length = 25) (hw : Words st) (h2 : blk.length = 136) (hb : Bytes blk) (hu : u < 136) :
    Calls Tryd.prog 79 #[.pointer (some ⟨h, 0, none⟩)] w (Ret (fun x _ => x = .agg (u8s (sumK st (blk.take u))).toArray) w) := by
  have hH0 := hH.alloc (.cells (u8s (List.replicate 32 0)).toArray 32)
  have hr0 := Box.new w 32 (u8s (List.replicate 32 0)).toArray
  have hB0 : Below w.heap.size w (w.alloc (.cells (u8s (List.replicate 32 0)).toArray 32)) := (Below.refl _ _).alloc (Nat.le_refl _) _
  have hrange : (w.alloc (.cells (u8s (List.replicate 32 0)).toArray 32)).rangeAt h 0 (u64s st) := fun j v hv => by
    have hj : j < st.length := by
      rcases Nat.lt_or_ge j st.length with h | h
      · exact h
      · rw [List.getElem?_eq_none (by rw [u64s_length]; exact h)] at hv; cases hv
    rw [Nat.zero_add]
    rw [u64s_at _ _ hj] at hv
    rw [← hv]
    exact Box.word hH0 hj
  have hi127 : (Tryd.prog.info? 127).map (·.size) = some (u64s st).length := by rw [u64s_length, h1]; kernel_rfl
  have hi127' : (Tryd.prog.info? 127).map (·.size) = some (u64s st).toArray.size := by simpa using hi127
  have h25 : (u64s (List.replicate 25 0)).toArray.size = (u64s st).toArray.size := by simp [u64s_length, h1]
  have hone : (u64s st).toArray.all (·.oneCell') = true := all_oneCell_toArray (by intro v hv; simp [u64s] at hv; obtain ⟨x, _, rfl⟩ := hv; rfl)
  have hbx1 : Box ((w.alloc (.cells (u8s (List.replicate 32 0)).toArray 32)).alloc (.cells (u64s (List.replicate 25 0)).toArray 127)) (w.heap.size + 1) 127 (u64s (List.replicate 25 0)).toArray := by
    have := Box.new (w.alloc (.cells (u8s (List.replicate 32 0)).toArray 32)) 127 (u64s (List.replicate 25 0)).toArray
    rw [World.size_alloc] at this
    exact this
  have HBX := Lib.hid hbx1
  clear hbx1
  have HR := Lib.hid hrange
  have HI := Lib.hid hi127
  have HI' := Lib.hid hi127'
  have H25 := Lib.hid h25
  have HO := Lib.hid hone
  clear hrange hi127 hi127' h25 hone
  go_enter Tryd.func79, Tryd.ntmps79
  go_upto_region 4 with (first
    | ((with_reducible show wpList _ _ _ (⟨some 13, _, _, _, _, _⟩ :: _) _ _); refine wpList_load_mid rfl 127 _ rfl h 0 rfl (u64s st) _ HR.out Tryd.underlying127 rfl HI.out ?_)
    | ((with_reducible show wpList _ _ _ (⟨none, .store 127 _ _, _, _, _, _⟩ :: _) _ _); refine wpList_store_row rfl 127 _ _ rfl (w.heap.size + 1) (u64s st).toArray rfl rfl 127 (u64s (List.replicate 25 0)).toArray HBX.out HI'.out H25.out HO.out ?_))
  change Code.wp _ _ _ _ (((w.alloc (.cells (u8s (List.replicate 32 0)).toArray 32)).alloc (.cells (u64s (List.replicate 25 0)).toArray 127)).setRow (w.heap.size + 1) (u64s st).toArray)
  have hS2 : Box (((w.alloc (.cells (u8s (List.replicate 32 0)).toArray 32)).alloc (.cells (u64s (List.replicate 25 0)).toArray 127)).setRow (w.heap.size + 1) (u64s st).toArray) (w.heap.size + 1) 127 (u64s st).toArray := setRow_heap _ _ _ _ _ _ HBX.out
  have hH2 : Box (((w.alloc (.cells (u8s (List.replicate 32 0)).toArray 32)).alloc (.cells (u64s (List.replicate 25 0)).toArray 127)).setRow (w.heap.size + 1) (u64s st).toArray) h 130 (hashC st blk u tot).toArray := (setRow_other _ _ _ _ (by have := hH.lt; omega)).trans (hH0.alloc _)
  have hr2 : Box (((w.alloc (.cells (u8s (List.replicate 32 0)).toArray 32)).alloc (.cells (u64s (List.replicate 25 0)).toArray 127)).setRow (w.heap.size + 1) (u64s st).toArray) w.heap.size 32 (u8s (List.replicate 32 0)).toArray := (setRow_other _ _ _ _ (by omega)).trans (hr0.alloc _)
  have hB2 : Below w.heap.size w (((w.alloc (.cells (u8s (List.replicate 32 0)).toArray 32)).alloc (.cells (u64s (List.replicate 25 0)).toArray 127)).setRow (w.heap.size + 1) (u64s st).toArray) := below_setRow (hB0.alloc (by simp) _) (by omega) _
  have hsz2 : (((w.alloc (.cells (u8s (List.replicate 32 0)).toArray 32)).alloc (.cells (u64s (List.replicate 25 0)).toArray 127)).setRow (w.heap.size + 1) (u64s st).toArray).heap.size = w.heap.size + 2 := by simp
  generalize (((w.alloc (.cells (u8s (List.replicate 32 0)).toArray 32)).alloc (.cells (u64s (List.replicate 25 0)).toArray 127)).setRow (w.heap.size + 1) (u64s st).toArray) = W2 at *
  have hhl := hH.lt
  clear hH0 hr0 hB0 HBX HR HI HI' H25 HO
  go_wp2_with fail
  change Code.wp _ _ _ _ (W2.alloc (.cells (u8s (List.replicate 136 0)).toArray 128))
  have hL3 : Box (W2.alloc (.cells (u8s (List.replicate 136 0)).toArray 128)) (w.heap.size + 2) 128 (u8s (List.replicate 136 0)).toArray := by
    have := Box.new W2 128 (u8s (List.replicate 136 0)).toArray
    rw [hsz2] at this
    exact this
  have hS3 : Box (W2.alloc (.cells (u8s (List.replicate 136 0)).toArray 128)) _ _ _ := hS2.alloc _
  have hH3 : Box (W2.alloc (.cells (u8s (List.replicate 136 0)).toArray 128)) _ _ _ := hH2.alloc _
  have hr3 : Box (W2.alloc (.cells (u8s (List.replicate 136 0)).toArray 128)) _ _ _ := hr2.alloc _
  have hB3 : Below w.heap.size w (W2.alloc (.cells (u8s (List.replicate 136 0)).toArray 128)) := hB2.alloc (by rw [hsz2]; omega) _
  have hsz3 : (W2.alloc (.cells (u8s (List.replicate 136 0)).toArray 128)).heap.size = w.heap.size + 3 := by simp [hsz2]
  generalize (W2.alloc (.cells (u8s (List.replicate 136 0)).toArray 128)) = W3 at *
  clear hS2 hH2 hr2 hB2 hsz2
  have huc := hash_used hH3 h1 h2
  have hcopy : (Builtin.copy_ #[47, 47] 3 #[.slice (some ⟨(w.heap.size + 2), 0, none⟩) 136 136, .slice (some ⟨h, 25, none⟩) u 136]).run Tryd.prog W3.drew =
      .ok (goInt (u : Nat)) (W3.drew.setRow (w.heap.size + 2) (u8s (blk.take u ++ List.replicate (136 - u) 0)).toArray) := by
    have hlt : (blk.take u).length = u := by simp; omega
    have := run_copy_row (P := Tryd.prog) W3.drew 47 47 3 5 (w.heap.size + 2) 0 136 136 ⟨h, 25, none⟩ u 136 _ _ (u8s (blk.take u)) Tryd.underlying47 (by kernel_rfl) hL3
      (by rw [u8s_length, hlt]; exact (Nat.min_eq_left (by omega)).symm) (fun i v hv => ?_) (by rw [u8s_length, hlt]; simp [u8s_length]; omega) (u8s_one _)
    · rw [u8s_length, hlt, lay0] at this
      exact this
    · have hadd : (⟨h, 25, none⟩ : Addr).add i = ⟨h, 25 + i, none⟩ := by unfold Addr.add; split <;> simp_all
      rw [hadd]
      have : i < u := by
        rcases Nat.lt_or_ge i u with h | h
        · exact h
        · rw [List.getElem?_eq_none (by rw [u8s_length, hlt]; exact h)] at hv; cases hv
      refine (hash_byte hH3 h1 h2 i (by omega)).trans ?_
      rw [← hv, u8s, List.map_take, List.getElem?_take, if_pos this]
      exact (u8s_at blk i (by omega)).symm
  have hL4 : Box (W3.drew.setRow (w.heap.size + 2) (u8s (blk.take u ++ List.replicate (136 - u) 0)).toArray) (w.heap.size + 2) 128 (u8s (blk.take u ++ List.replicate (136 - u) 0)).toArray := setRow_heap _ _ _ _ _ _ hL3
  have hS4 : Box (W3.drew.setRow (w.heap.size + 2) (u8s (blk.take u ++ List.replicate (136 - u) 0)).toArray) (w.heap.size + 1) 127 (u64s st).toArray := (setRow_other _ _ _ _ (by omega)).trans hS3
  have hH4 : Box (W3.drew.setRow (w.heap.size + 2) (u8s (blk.take u ++ List.replicate (136 - u) 0)).toArray) h 130 (hashC st blk u tot).toArray := (setRow_other _ _ _ _ (by omega)).trans hH3
  have hr4 : Box (W3.drew.setRow (w.heap.size + 2) (u8s (blk.take u ++ List.replicate (136 - u) 0)).toArray) w.heap.size 32 (u8s (List.replicate 32 0)).toArray := (setRow_other _ _ _ _ (by omega)).trans hr3
  have hB4 : Below w.heap.size w (W3.drew.setRow (w.heap.size + 2) (u8s (blk.take u ++ List.replicate (136 - u) 0)).toArray) := below_setRow hB3.drew (by omega) _
  have hsz4 : (W3.drew.setRow (w.heap.size + 2) (u8s (blk.take u ++ List.replicate (136 - u) 0)).toArray).heap.size = w.heap.size + 3 := by simp [hsz3]
  obtain ⟨W4, hW4⟩ : ∃ W4, W4 = (W3.drew.setRow (w.heap.size + 2) (u8s (blk.take u ++ List.replicate (136 - u) 0)).toArray) := ⟨_, rfl⟩
  rw [← hW4] at hcopy hL4 hS4 hH4 hr4 hB4 hsz4
  clear hW4 hL3 hS3 hH3 hr3 hB3
  have huc4 := hash_used hH4 h1 h2
  have hlen4 : (blk.take u ++ List.replicate (136 - u) 0).length = 136 := by simp; omega
  have hl0 := hL4.byte (i := u) (by omega)
  have hf0 := hL4.free u
  have hsl : ∀ wx, (Instr.sliceAt 128 (.pointer (some ⟨h, 25, none⟩)) none (some (.int .i64 (u : Int))) none).run Tryd.prog wx = .ok (.slice (some ⟨h, 25, none⟩) u 136) wx := fun wx => by
    have hal : Tryd.prog.arrayLen 128 = 136 := by kernel_rfl
    have := run_sliceAt_array_h (P := Tryd.prog) (w := wx) (t := 128) (h := u) ⟨h, 25, none⟩ Tryd.underlying128 .i64 (by omega) (by rw [hal]; omega)
    rw [hal] at this
    exact this
  obtain ⟨l1, hl1e⟩ : ∃ l1, l1 = (blk.take u ++ List.replicate (136 - u) 0).set u 6 := ⟨_, rfl⟩
  have hL5 : Box (W4.setCell ⟨w.heap.size + 2, u, none⟩ (.int .u8 6)) (w.heap.size + 2) 128 (u8s l1).toArray := by rw [hl1e]; exact hL4.setB u 6
  have hlen1 : l1.length = 136 := by rw [hl1e, List.length_set]; exact hlen4
  have hby1 : Bytes l1 := by
    rw [hl1e]
    intro x hx
    rcases List.mem_or_eq_of_mem_set hx with h | h
    · rcases List.mem_append.1 h with h | h
      · exact hb x (List.mem_of_mem_take h)
      · rw [List.eq_of_mem_replicate h]; omega
    · omega
  have hl5 := hL5.byte (i := 135) (by omega)
  have hf5 := hL5.free 135
  have hxl := hby1.getD 135
  have hx8 : bits .xor .u8 (l1.getD 135 0 : Nat) 128 = ((l1.getD 135 0 ^^^ 128 : Nat) : Int) := u8_xor_nat _ 128 (by omega) (by omega)
  have HL6 := Lib.hid ((hL5.setB 135 (l1.getD 135 0 ^^^ 128)))
  have HE := Lib.hid (show lastK (blk.take u) = l1.set 135 (l1.getD 135 0 ^^^ 128) by
    have hlt : (blk.take u).length = u := by simp; omega
    rw [lastK, hlt, hl1e])
  have hxb : l1.getD 135 0 ^^^ 128 < 256 := Nat.xor_lt_two_pow (n := 8) hxl (by omega)
  generalize l1.getD 135 0 = y at *
  have hS5 := (hS4.far (q := ⟨w.heap.size + 2, u, none⟩) (by show w.heap.size + 1 ≠ w.heap.size + 2; omega) (.int .u8 6)).far (q := ⟨w.heap.size + 2, 135, none⟩) (by show w.heap.size + 1 ≠ w.heap.size + 2; omega) (.int .u8 ((y ^^^ 128 : Nat) : Int))
  have hr5 := (hr4.far (q := ⟨w.heap.size + 2, u, none⟩) (by show w.heap.size ≠ w.heap.size + 2; omega) (.int .u8 6)).far (q := ⟨w.heap.size + 2, 135, none⟩) (by show w.heap.size ≠ w.heap.size + 2; omega) (.int .u8 ((y ^^^ 128 : Nat) : Int))
  have hB5 := (hB4.setCell (p := ⟨w.heap.size + 2, u, none⟩) (by show w.heap.size ≤ w.heap.size + 2; omega) (.int .u8 6)).setCell (p := ⟨w.heap.size + 2, 135, none⟩) (by show w.heap.size ≤ w.heap.size + 2; omega) (.int .u8 ((y ^^^ 128 : Nat) : Int))
  have HX8 := Lib.hid hx8
  have HS5 := Lib.hid hS5
  have HR5 := Lib.hid hr5
  have HB5 := Lib.hid hB5
  clear hx8 hS5 hr5 hB5
  go_wp2_with (go_region)
  rw [HX8.out]
  have hL6 := HL6.out
  have hS6 := HS5.out
  have hr6 := HR5.out
  have hB6 := HB5.out
  have hsz6 : ((W4.setCell ⟨w.heap.size + 2, u, none⟩ (.int .u8 6)).setCell ⟨w.heap.size + 2, 135, none⟩ (.int .u8 ((y ^^^ 128 : Nat) : Int))).heap.size = w.heap.size + 3 := by simp [hsz4]
  generalize (W4.setCell ⟨w.heap.size + 2, u, none⟩ (.int .u8 6)).setCell ⟨w.heap.size + 2, 135, none⟩ (.int .u8 ((y ^^^ 128 : Nat) : Int)) = W6 at *
  rw [← HE.out] at hL6
  have hblk : Bytes (lastK (blk.take u)) := by rw [HE.out]; intro x hx; rcases List.mem_or_eq_of_mem_set hx with h | h; exact hby1 x h; omega
  have hlk : (lastK (blk.take u)).length = 136 := by rw [HE.out, List.length_set]; exact hlen1
  clear HL6 HS5 HR5 HB5 hl5 hf5 hL5 hL4 hS4 hH4 hr4 hB4 hcopy hsl huc4 hl0 hf0
  have HSUM := Lib.hid (show sumK st (blk.take u) = (List.range 32).map (outK (absorbK st (lastK (blk.take u)))) from rfl)
  generalize lastK (blk.take u) = lk at *
  obtain ⟨⟨_, ht1⟩, _, ht2⟩ := id hT
  have htl1 := ht1.lt
  have htl2 := ht2.lt
  have hT6 := hT.ext hB6
  refine (absorb_any (w.heap.size + 1) 127 st [] (w.heap.size + 2) 0 136 lk W6 hT6 (by rw [List.append_nil]; exact hS6) h1 hw ⟨by omega, by omega⟩ hlk hblk (Nat.le_refl _) (by omega) (.inl (by omega)) (fun j hj => by
    rw [Nat.zero_add]; exact hL6.byte (by omega))).mono ?_
  rintro e W7 ⟨rfl, hS7, hF7⟩
  have hr7 := hF7.box hr6 (by omega) (by decide)
  have hB7 := hB6.trans (hF7.below (by omega) (fun _ h => h.elim) (by omega))
  have hsz7 := hF7.size
  have hak := absorbK_ok (l := lk) hw hblk
  clear hS6 hr6 hB6 hF7 hL6 hT6 ht1 ht2
  rw [List.append_nil] at hS7
  have hO8 := Box.new W7 32 (u8s (List.replicate 32 0)).toArray
  have hS8 := hS7.alloc (.cells (u8s (List.replicate 32 0)).toArray 32)
  have hr8 := hr7.alloc (.cells (u8s (List.replicate 32 0)).toArray 32)
  have hB8 := hB7.alloc (by omega) (.cells (u8s (List.replicate 32 0)).toArray 32)
  generalize absorbK st lk = ak at *
  go_wp2_with fail
  go_loopw [35] (fun i wr => ∃ k : Nat, k ≤ 32 ∧ i = .int .i64 k ∧ Box wr W7.heap.size 32 (u8s (fillTo (outK ak) k 32)).toArray ∧ Box wr (w.heap.size + 1) 127 (u64s ak).toArray ∧ Box wr w.heap.size 32 (u8s (List.replicate 32 0)).toArray ∧ Below w.heap.size w wr) (fun i _ => 32 - (intOf i).toNat)
  case atStart => exact ⟨0, by omega, rfl, by rw [fillTo_zero]; exact hO8, hS8, hr8, hB8⟩
  case round =>
    clear hO8 hS8 hr8 hB8 hS7 hr7 hB7
    obtain ⟨k, hk, rfl, hO, hS, hr, hB⟩ := hrel
    by_cases hlt : k < 32
    · have hS' : Box wr (w.heap.size + 1) 127 (u64s ak ++ []).toArray := by rw [List.append_nil]; exact hS
      have h0 := hS'.word (i := k / 8) (by omega)
      have h1' := hO.byte (i := k) (by rw [fillTo_len]; omega)
      have h2' := hO.free k
      have l0 := hak.1.getD (k / 8)
      have HO := Lib.hid (show outK ak k = ak.getD (k / 8) 0 / 2 ^ (8 * (k % 8)) % 256 from rfl)
      generalize ak.getD (k / 8) 0 = x at *
      have s1 : (8 * ((k : Int) % 8)).toNat = 8 * (k % 8) := by omega
      clear hS'
      go_wp2_with fail
      have he : (x : Int) / 2 ^ (8 * (k % 8)) % 256 = ((outK ak k : Nat) : Int) := by rw [HO.out, Int.natCast_emod, Int.natCast_ediv, Int.natCast_pow]; rfl
      rw [he]
      refine ⟨⟨k + 1, hlt, by go_num, ?_, hS.far (by show w.heap.size + 1 ≠ W7.heap.size; omega) _, hr.far (by show w.heap.size ≠ W7.heap.size; omega) _, hB.setCell (by show w.heap.size ≤ W7.heap.size; omega) _⟩, by simp [intOf]; omega⟩
      have := hO.setB k (outK ak k)
      rw [fillTo_set] at this
      exact this
    · have hk32 : k = 32 := by omega
      rw [hk32, fillTo_full] at hO
      rw [← HSUM.out] at hO
      have hLL : (sumK st (blk.take u)).length = 32 := by simp [sumK]
      obtain ⟨L, hLe⟩ : ∃ L, L = sumK st (blk.take u) := ⟨_, rfl⟩
      rw [← hLe] at hO hLL
      have HLE := Lib.hid hLe
      clear hLe
      have hi32 : (Tryd.prog.info? 32).map (·.size) = some (u8s L).toArray.size := by rw [List.size_toArray, u8s_length, hLL]; kernel_rfl
      have hone : (u8s L).toArray.all (·.oneCell') = true := all_oneCell_toArray (u8s_one _)
      have hold : (u8s (List.replicate 32 0)).toArray.size = (u8s L).toArray.size := by simp [u8s_length, hLL]
      have HI := Lib.hid hi32
      have HON := Lib.hid hone
      have HOL := Lib.hid hold
      have HOO := Lib.hid hO
      have HRR := Lib.hid hr
      clear hi32 hone hold hO hr hS
      go_wp2_with (first
        | ((with_reducible show wpList _ _ _ (⟨some 50, _, _, _, _, _⟩ :: _) _ _); refine wpList_load_row rfl 32 _ rfl W7.heap.size rfl 32 (u8s L).toArray (0, 0) _ HOO.out Tryd.underlying32 rfl HI.out ?_)
        | ((with_reducible show wpList _ _ _ (⟨none, .store 32 _ _, _, _, _, _⟩ :: _) _ _); refine wpList_store_row rfl 32 _ _ rfl w.heap.size (u8s L).toArray rfl rfl 32 (u8s (List.replicate 32 0)).toArray HRR.out HI.out HOL.out HON.out ?_))
      refine bodyPost_ret (v := .agg (u8s L).toArray) (by exact results_cell_row rfl _ _ w.heap.size 32 _ (0, 0) _ rfl (setRow_heap _ _ _ _ _ _ HRR.out) Tryd.underlying32 rfl HI.out) rfl ?_
      exact Ret.mk (by rw [HLE.out]) (below_setRow hB (Nat.le_refl _) _)
end Go.Proofs.YtenpkgdnlogfiaaDoor
