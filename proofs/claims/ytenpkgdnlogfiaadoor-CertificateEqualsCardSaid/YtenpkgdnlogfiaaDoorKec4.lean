/-
  What keccak's New and the method Write compute.
-/
import Derived.Test.YtenpkgdnlogfiaaDoorKec3
import Derived.Test.YtenpkgdnlogfiaaDoorMem3
import Derived.Laws.CopyRow
namespace Go.Proofs.YtenpkgdnlogfiaaDoor
open Go.RowKit
attribute [local go_sem ↓] Go.wp_at_zero Go.wp_at_succ
set_option maxRecDepth 20000

/-- the cells of a hash -/
def hashC (st blk : List Nat) (u tot : Nat) : List Value := u64s st ++ (u8s blk ++ [.int .i64 (u : Int), .int .u64 (tot : Int)])

set_option maxHeartbeats 4000000 in
theorem new_any (w : World) :
    Calls Tryd.prog 77 #[] w (fun e w' => e = .returned (.pointer (some ⟨w.heap.size, 0, none⟩)) ∧ w' = w.alloc (.cells (hashC (List.replicate 25 0) (List.replicate 136 0) 0 0).toArray 130)) := by
  go_enter Tryd.func77, Tryd.ntmps77
  go_wp2_with fail
  go_ret
  exact ⟨rfl, rfl⟩

section
variable {w : World} {h : Nat} {t : TypeId} {st blk : List Nat} {u tot : Nat}
theorem hash_used (hH : Box w h t (hashC st blk u tot).toArray) (h1 : st.length = 25) (h2 : blk.length = 136) : w.cell? ⟨h, 161, none⟩ = some (.int .i64 (u : Int)) := by
  rw [hH.cell, List.getElem?_toArray, hashC, List.getElem?_append_right (by rw [u64s_length]; omega), List.getElem?_append_right (by rw [u8s_length, u64s_length]; omega), u8s_length, u64s_length, h1, h2]
  rfl
theorem hash_tot (hH : Box w h t (hashC st blk u tot).toArray) (h1 : st.length = 25) (h2 : blk.length = 136) : w.cell? ⟨h, 162, none⟩ = some (.int .u64 (tot : Int)) := by
  rw [hH.cell, List.getElem?_toArray, hashC, List.getElem?_append_right (by rw [u64s_length]; omega), List.getElem?_append_right (by rw [u8s_length, u64s_length]; omega), u8s_length, u64s_length, h1, h2]
  rfl
theorem hash_byte (hH : Box w h t (hashC st blk u tot).toArray) (h1 : st.length = 25) (h2 : blk.length = 136) (j : Nat) (hj : j < 136) : w.cell? ⟨h, 25 + j, none⟩ = some (.int .u8 (blk.getD j 0 : Nat)) := by
  rw [hH.cell, List.getElem?_toArray, hashC, List.getElem?_append_right (by rw [u64s_length]; omega), u64s_length, h1, show 25 + j - 25 = j by omega, List.getElem?_append_left (by rw [u8s_length]; omega), u8s_at _ _ (by omega)]
theorem hash_setU (hH : Box w h t (hashC st blk u tot).toArray) (h1 : st.length = 25) (h2 : blk.length = 136) (v : Nat) : Box (w.setCell ⟨h, 161, none⟩ (.int .i64 (v : Int))) h t (hashC st blk v tot).toArray := by
  have := hH.set 161 (.int .i64 (v : Int))
  rw [List.setIfInBounds_toArray, hashC, List.set_append_right _ _ (by rw [u64s_length]; omega), List.set_append_right _ _ (by rw [u8s_length, u64s_length]; omega), u8s_length, u64s_length, h1, h2] at this
  exact this
theorem hash_setT (hH : Box w h t (hashC st blk u tot).toArray) (h1 : st.length = 25) (h2 : blk.length = 136) (v : Nat) : Box (w.setCell ⟨h, 162, none⟩ (.int .u64 (v : Int))) h t (hashC st blk u v).toArray := by
  have := hH.set 162 (.int .u64 (v : Int))
  rw [List.setIfInBounds_toArray, hashC, List.set_append_right _ _ (by rw [u64s_length]; omega), List.set_append_right _ _ (by rw [u8s_length, u64s_length]; omega), u8s_length, u64s_length, h1, h2] at this
  exact this
/-- n bytes are laid at the block's start -/
theorem hash_lay (h1 : st.length = 25) (h2 : blk.length = 136) (l : List Nat) (hl : l.length ≤ 136) :
    ((hashC st blk u tot).toArray.toList.take 25 ++ u8s l ++ (hashC st blk u tot).toArray.toList.drop (25 + (u8s l).length)).toArray = (hashC st (l ++ blk.drop l.length) u tot).toArray := by
  congr 1
  have e1 : (u64s st).length = 25 := by rw [u64s_length, h1]
  rw [u8s_length]
  simp only [hashC]
  rw [List.take_append_of_le_length (by omega), List.take_of_length_le (by omega), List.drop_append, List.drop_eq_nil_of_le (show (u64s st).length ≤ 25 + l.length by omega), e1, show 25 + l.length - 25 = l.length by omega,
    List.nil_append, List.drop_append_of_le_length (by rw [u8s_length]; omega), u8s_append]
  simp [u8s, List.map_drop]
end
def blkOf (l : List Nat) (j : Nat) : List Nat := (l.drop (136 * j)).take 136
def stB (st l : List Nat) : Nat → List Nat
  | 0 => st
  | j + 1 => absorbK (stB st l j) (blkOf l j)
theorem perm_ok {a : List Nat} (h : Words a) (hl : a.length = 25) : Words (perm a) ∧ (perm a).length = 25 := permTo_ok h hl 24 (Nat.le_refl _)
theorem absorbK_ok {a l : List Nat} (h : Words a) (hb : Bytes l) : Words (absorbK a l) ∧ (absorbK a l).length = 25 :=
  perm_ok (mixTo_words (fun i => xor_lt (h.getD i) (lew_lt hb i 8)) h 17) (mixTo_len _ _ _)
theorem Bytes.take {l : List Nat} (h : Bytes l) (k : Nat) : Bytes (l.take k) := fun x hx => h x (List.mem_of_mem_take hx)
theorem Bytes.drop {l : List Nat} (h : Bytes l) (k : Nat) : Bytes (l.drop k) := fun x hx => h x (List.mem_of_mem_drop hx)
theorem Bytes.append {a b : List Nat} (h : Bytes a) (k : Bytes b) : Bytes (a ++ b) := fun x hx => by rcases List.mem_append.1 hx with h1 | h1; exact h x h1; exact k x h1
theorem stB_ok {st l : List Nat} (h : Words st) (hl : st.length = 25) (hb : Bytes l) (j : Nat) : Words (stB st l j) ∧ (stB st l j).length = 25 := by
  induction j with
  | zero => exact ⟨h, hl⟩
  | succ j ih => exact absorbK_ok ih.1 ((hb.drop _).take _)
theorem WF.tr {q : Nat} {a b c : World} (h : WF (fun _ => False) q a b) (k : WF (fun _ => False) q b c) : WF (fun _ => False) q a c := h.trans (k.imp fun _ h _ => h.elim)
theorem WF.row (w : World) (h : Nat) (cs : Array Value) : WF (fun _ => False) h w (w.setRow h cs) :=
  ⟨rfl, rfl, rfl, by simp, fun k _ hq _ => setRow_other w h k cs hq, fun k cs' t fr hk _ h3 => (setRow_other w h k cs hk).trans h3⟩

set_option maxHeartbeats 4000000 in
theorem hwrite_any (h : Nat) (p : Value) (st l blk0 : List Nat) (tot : Nat) (w : World) (D : Nat → Prop) (hT : Tab w) (hH : Box w h 130 (hashC st blk0 0 tot).toArray) (h1 : st.length = 25) (hw : Words st) (h2 : blk0.length = 136) (hb0 : Bytes blk0)
    (hp : Sl w D 1 p l.length (u8s l)) (hby : Bytes l) (hD : ∀ b, D b → b < w.heap.size → b ≠ h) (hb1 : 1 ≠ h ∧ 2 ≠ h) (htot : tot + l.length < T64) :
    Calls Tryd.prog 78 #[.pointer (some ⟨h, 0, none⟩), p] w (fun e w' => e = .returned (.tuple #[]) ∧
      (∃ blk, blk.length = 136 ∧ Bytes blk ∧ (∀ i, i < l.length % 136 → blk.getD i 0 = l.getD (136 * (l.length / 136) + i) 0) ∧ Box w' h 130 (hashC (stB st l (l.length / 136)) blk (l.length % 136) (tot + l.length)).toArray) ∧ WF (fun _ => False) h w w') := by
  obtain ⟨A, c, rfl, hc, hc2⟩ := hp.shape
  have htc := hash_tot hH h1 h2
  have htf := hH.free 162
  have htw : IntKind.u64.wrap ((tot : Int) + (l.length : Int)) = ((tot + l.length : Nat) : Int) := by rw [IntWalk.u64_in _ (by unfold T64 at htot; omega)]; omega
  have hlw : IntKind.u64.wrap (l.length : Int) = (l.length : Int) := IntWalk.u64_in _ (by unfold T64 at htot; omega)
  go_enter Tryd.func78, Tryd.ntmps78
  go_wp2_with fail
  have hH1 := hash_setT hH h1 h2 (tot + l.length)
  have hp1 := (hp.imp (D' := fun b => D b ∧ b ≠ h) fun b ha hb => ⟨ha, hD b ha hb⟩).setCell (q := ⟨h, 162, none⟩) (fun e => e.2 rfl) (.int .u64 ((tot + l.length : Nat) : Int))
  have hF1 := WF.set (fun _ => False) h w 162 (.int .u64 ((tot + l.length : Nat) : Int))
  rw [Int.natCast_add] at hH1 hp1 hF1
  have hw0 : w.heap.size = (w.setCell ⟨h, 162, none⟩ (.int .u64 ((tot : Int) + (l.length : Int)))).heap.size := by simp
  clear htc htf htw hlw hH hp
  generalize w.setCell ⟨h, 162, none⟩ (.int .u64 ((tot : Int) + (l.length : Int))) = W1 at *
  obtain ⟨tot1, htot1⟩ : ∃ tot1, tot1 = tot + l.length := ⟨_, rfl⟩
  rw [← htot1] at hH1
  have HT1 := Lib.hid htot1
  clear htot1
  have hlen : l.length ≤ 9223372036854775807 := by omega
  go_loopw [1] (fun pv wr => ∃ (j m u : Nat) (blk : List Nat), 136 * j + u + m = l.length ∧ u < 136 ∧ (0 < m → u = 0) ∧ blk.length = 136 ∧ Bytes blk ∧ (∀ i, i < u → blk.getD i 0 = l.getD (136 * j + i) 0) ∧
      Sl wr (fun b => D b ∧ b ≠ h) 1 pv m (u8s (l.drop (l.length - m))) ∧ Box wr h 130 (hashC (stB st l j) blk u tot1).toArray ∧ WF (fun _ => False) h w wr) (fun pv _ => match pv with | .slice _ n _ => n | _ => 0)
  case atStart => exact ⟨0, l.length, 0, blk0, by omega, by omega, fun _ => rfl, h2, hb0, fun i hi => by omega, by rw [Nat.sub_self, List.drop_zero]; exact hp1, hH1, hF1⟩
  case round =>
    clear hp1 hH1 hF1
    obtain ⟨j, m, u, blk, hjm, hu, hum, hbl, hbb, hbi, hp, hH, hF⟩ := hrel
    obtain ⟨A', c', rfl, hc', hc2'⟩ := hp.shape
    rcases Nat.eq_zero_or_pos m with rfl | hm
    · go_wp2_with fail
      have hj : j = l.length / 136 := by omega
      have hu2 : u = l.length % 136 := by omega
      rw [← HT1.out]
      exact bodyPost_end (results_none rfl _ _ _) rfl ⟨rfl, ⟨blk, hbl, hbb, by rw [← hj, ← hu2]; exact hbi, by rw [← hj, ← hu2]; exact hH⟩, hF⟩
    · obtain rfl := hum hm
      have hst := stB_ok hw h1 hby j
      have huc := hash_used hH hst.2 hbl
      obtain ⟨hlx, A0, c0, he, _, _, hcells⟩ := id hp
      injection he with he1 he2 he3
      subst he1 he3
      obtain ⟨b, o, rfl, hDb, hbs, hcell⟩ := hcells hm
      obtain ⟨n, hn⟩ : ∃ n, n = min 136 m := ⟨_, rfl⟩
      obtain ⟨X, hXe⟩ : ∃ X, X = (l.drop (l.length - m)).take 136 := ⟨_, rfl⟩
      have hX : X.length = n := by rw [hXe, hn]; simp; omega
      have hXb : Bytes X := by rw [hXe]; exact (hby.drop _).take _
      have hcopy : (Builtin.copy_ #[47, 47] 3 #[.slice (some ⟨h, 25, none⟩) 136 136, .slice (some ⟨b, o, none⟩) m c']).run Tryd.prog wr.drew =
          .ok (goInt (n : Nat)) (wr.drew.setRow h (hashC (stB st l j) (X ++ blk.drop n) 0 tot1).toArray) := by
        have := run_copy_row (P := Tryd.prog) wr.drew 47 47 3 5 h 25 136 136 ⟨b, o, none⟩ m c' _ _ (u8s X) Tryd.underlying47 (by kernel_rfl) hH
          (by rw [u8s_length, hX, hn, Nat.min_comm]) (fun i v hv => ?_) (by rw [u8s_length, hX]; simp [hashC, u64s_length, u8s_length, hst.2, hbl]; omega) (u8s_one _)
        · rw [hash_lay hst.2 hbl _ (by omega), u8s_length, hX] at this
          exact this
        · have hadd : (⟨b, o, none⟩ : Addr).add i = ⟨b, o + i, none⟩ := by unfold Addr.add; split <;> simp_all
          rw [hadd]
          refine hcell i v ?_
          rw [← hv, hXe, u8s, u8s, List.map_take]
          have : i < n := by
            rcases Nat.lt_or_ge i n with h | h
            · exact h
            · rw [List.getElem?_eq_none (by rw [u8s_length, hX]; exact h)] at hv; cases hv
          rw [List.getElem?_take, if_pos (by omega)]
      have hblk1 : (X ++ blk.drop n).length = 136 := by simp; omega
      have hbb1 : Bytes (X ++ blk.drop n) := hXb.append (hbb.drop _)
      have hH2 : Box (wr.drew.setRow h (hashC (stB st l j) (X ++ blk.drop n) 0 tot1).toArray) h 130 (hashC (stB st l j) (X ++ blk.drop n) 0 tot1).toArray := setRow_heap _ _ _ _ _ _ hH
      have hF2 : WF (fun _ => False) h wr (wr.drew.setRow h (hashC (stB st l j) (X ++ blk.drop n) 0 tot1).toArray) := WF.trans (WF.of_below (Below.refl _ _).drew) ((WF.row _ _ _).imp fun _ h _ => h.elim)
      generalize wr.drew.setRow h (hashC (stB st l j) (X ++ blk.drop n) 0 tot1).toArray = W2 at *
      have huc2 := hash_used hH2 hst.2 hblk1
      have huf2 := hH2.free 161
      have hH3 := hash_setU hH2 hst.2 hblk1 n
      have hF3 := hF2.trans ((WF.set (fun _ => False) h W2 161 (.int .i64 (n : Int))).imp fun _ h _ => h.elim)
      have hnm : n ≤ m := by omega
      have hnc : n ≤ c' := by omega
      have hn136 : n ≤ 136 := by omega
      have hbi2 : ∀ i, i < n → (X ++ blk.drop n).getD i 0 = l.getD (136 * j + i) 0 := fun i hi => by
        rw [List.getD_eq_getElem?_getD, List.getElem?_append_left (by omega), hXe, List.getElem?_take, if_pos (by omega), List.getElem?_drop, ← List.getD_eq_getElem?_getD]
        congr 1; omega
      have HB2 := Lib.hid hbi2
      have hcase : (n = 136 ∧ 136 ≤ m) ∨ (n < 136 ∧ n = m) := by omega
      have hXB := Lib.hid (show 136 ≤ m → X = blkOf l j from fun h136 => by rw [hXe, blkOf]; congr 2; omega)
      have hslc : Sl wr (fun b => D b ∧ b ≠ h) 1 (.slice (some ⟨b, o + n, none⟩) (m - n) (c' - n)) (m - n) (u8s (l.drop (l.length - (m - n)))) := by
        refine ⟨by simp [u8s]; omega, _, _, rfl, by omega, by unfold maxLen; omega, fun h0 => ⟨b, o + n, rfl, hDb, hbs, fun i v hv => ?_⟩⟩
        rw [Nat.add_assoc]
        refine hcell (n + i) v ?_
        rw [← hv, u8s, u8s, List.map_drop, List.map_drop, List.getElem?_drop, List.getElem?_drop]
        congr 1; omega
      have hlen1 := hH3.lt
      clear hn hXe hbi2 hcells hcell hlx hbi hp hum he2
      rcases Nat.eq_zero_or_pos (c' - n) with hz | hz
      · have hmz : m - n = 0 := by omega
        have hslz : Sl wr (fun b => D b ∧ b ≠ h) 1 (.slice (some ⟨b, o, none⟩) (m - n) 0) (m - n) (u8s (l.drop (l.length - (m - n)))) := ⟨by simp [u8s]; omega, _, _, rfl, by omega, by simp [maxLen], fun h0 => absurd h0 (by omega)⟩
        rcases hcase with ⟨rfl, hm136⟩ | ⟨hn1, rfl⟩
        · go_wp2_with (go_region)
          go_still_tail 7, (by kernel_rfl)
          change wpList _ _ _ _ _ (W2.setCell ⟨h, 161, none⟩ (.int .i64 ((136 : Nat) : Int))).drew
          have hHd : Box (W2.setCell ⟨h, 161, none⟩ (.int .i64 ((136 : Nat) : Int))).drew h 130 (hashC (stB st l j) (X ++ blk.drop 136) 136 tot1).toArray := hH3
          have hFd : WF (fun _ => False) h w (W2.setCell ⟨h, 161, none⟩ (.int .i64 ((136 : Nat) : Int))).drew := (hF.trans (hF3.imp fun _ h _ => h.elim)).trans (WF.of_below (Below.refl _ _).drew)
          have hFe : WF (fun _ => False) h wr (W2.setCell ⟨h, 161, none⟩ (.int .i64 ((136 : Nat) : Int))).drew := hF3.trans (WF.of_below (Below.refl _ _).drew)
          generalize (W2.setCell ⟨h, 161, none⟩ (.int .i64 ((136 : Nat) : Int))).drew = W3 at *
          clear huc2 huf2 hH2 hF2 hH3 hF3
          go_wp2_with fail
          refine (absorb_any h 130 (stB st l j) _ h 25 136 X W3 (hT.wf hFd hb1) hHd hst.2 hst.1 hb1 hX hXb (Nat.le_refl _) (by omega) (.inr (Nat.le_refl _)) (fun i hi => by
            rw [hash_byte hHd hst.2 hblk1 i hi, List.getD_eq_getElem?_getD, List.getElem?_append_left (by omega), ← List.getD_eq_getElem?_getD])).mono ?_
          rintro e w4 ⟨rfl, hA4, hF4⟩
          have hst4 := absorbK_ok (l := X) hst.1 hXb
          have hH4 : Box w4 h 130 (hashC (absorbK (stB st l j) X) (X ++ blk.drop 136) 136 tot1).toArray := hA4
          have huc4 := hash_used hH4 hst4.2 hblk1
          have huf4 := hH4.free 161
          clear hA4 hHd
          go_wp2_with fail
          have hF5 : WF (fun _ => False) h wr (w4.setCell ⟨h, 161, none⟩ (.int .i64 ((0 : Nat) : Int))) := hFe.tr (hF4.tr (WF.set _ _ _ _ _))
          refine ⟨⟨j + 1, m - 136, 0, X ++ blk.drop 136, by omega, by omega, fun _ => rfl, hblk1, hbb1, fun i hi => by omega, by have hx := hslz.wf hF5 (fun b hb _ => ⟨hb.2, fun h => h⟩); rw [hmz] at hx ⊢; exact hx, ?_, hF.trans (hF5.imp fun _ h _ => h.elim)⟩, by show 0 < m; omega⟩
          have := hash_setU hH4 hst4.2 hblk1 0
          rw [stB, ← hXB.out hm136]
          exact this
        · go_wp2_with (go_region)
          refine ⟨⟨j, 0, n, X ++ blk.drop n, by omega, hn1, fun h => absurd h (by omega), hblk1, hbb1, HB2.out, ?_, hH3, hF.trans (hF3.imp fun _ h _ => h.elim)⟩, by first | (show 0 < n; omega) | (show n - n < n; omega)⟩
          refine Sl.wf ?_ hF3 (fun b hb _ => ⟨hb.2, fun h => h⟩)
          rw [Nat.sub_self] at hslz
          exact hslz
      · obtain ⟨z, hz⟩ : ∃ z, c' - n = z + 1 := ⟨c' - n - 1, by omega⟩
        have hslz := hslc
        rw [hz] at hslz
        rcases hcase with ⟨rfl, hm136⟩ | ⟨hn1, rfl⟩
        · go_wp2_with (go_region)
          go_still_tail 7, (by kernel_rfl)
          change wpList _ _ _ _ _ (W2.setCell ⟨h, 161, none⟩ (.int .i64 ((136 : Nat) : Int))).drew
          have hHd : Box (W2.setCell ⟨h, 161, none⟩ (.int .i64 ((136 : Nat) : Int))).drew h 130 (hashC (stB st l j) (X ++ blk.drop 136) 136 tot1).toArray := hH3
          have hFd : WF (fun _ => False) h w (W2.setCell ⟨h, 161, none⟩ (.int .i64 ((136 : Nat) : Int))).drew := (hF.trans (hF3.imp fun _ h _ => h.elim)).trans (WF.of_below (Below.refl _ _).drew)
          have hFe : WF (fun _ => False) h wr (W2.setCell ⟨h, 161, none⟩ (.int .i64 ((136 : Nat) : Int))).drew := hF3.trans (WF.of_below (Below.refl _ _).drew)
          generalize (W2.setCell ⟨h, 161, none⟩ (.int .i64 ((136 : Nat) : Int))).drew = W3 at *
          clear huc2 huf2 hH2 hF2 hH3 hF3
          go_wp2_with fail
          refine (absorb_any h 130 (stB st l j) _ h 25 136 X W3 (hT.wf hFd hb1) hHd hst.2 hst.1 hb1 hX hXb (Nat.le_refl _) (by omega) (.inr (Nat.le_refl _)) (fun i hi => by
            rw [hash_byte hHd hst.2 hblk1 i hi, List.getD_eq_getElem?_getD, List.getElem?_append_left (by omega), ← List.getD_eq_getElem?_getD])).mono ?_
          rintro e w4 ⟨rfl, hA4, hF4⟩
          have hst4 := absorbK_ok (l := X) hst.1 hXb
          have hH4 : Box w4 h 130 (hashC (absorbK (stB st l j) X) (X ++ blk.drop 136) 136 tot1).toArray := hA4
          have huc4 := hash_used hH4 hst4.2 hblk1
          have huf4 := hH4.free 161
          clear hA4 hHd
          go_wp2_with fail
          have hF5 : WF (fun _ => False) h wr (w4.setCell ⟨h, 161, none⟩ (.int .i64 ((0 : Nat) : Int))) := hFe.tr (hF4.tr (WF.set _ _ _ _ _))
          refine ⟨⟨j + 1, m - 136, 0, X ++ blk.drop 136, by omega, by omega, fun _ => rfl, hblk1, hbb1, fun i hi => by omega, hslz.wf hF5 (fun b hb _ => ⟨hb.2, fun h => h⟩), ?_, hF.trans (hF5.imp fun _ h _ => h.elim)⟩, by show m - 136 < m; omega⟩
          have := hash_setU hH4 hst4.2 hblk1 0
          rw [stB, ← hXB.out hm136]
          exact this
        · go_wp2_with (go_region)
          refine ⟨⟨j, 0, n, X ++ blk.drop n, by omega, hn1, fun h => absurd h (by omega), hblk1, hbb1, HB2.out, ?_, hH3, hF.trans (hF3.imp fun _ h _ => h.elim)⟩, by first | (show 0 < n; omega) | (show n - n < n; omega)⟩
          refine Sl.wf ?_ hF3 (fun b hb _ => ⟨hb.2, fun h => h⟩)
          rw [Nat.sub_self] at hslz
          exact hslz
end Go.Proofs.YtenpkgdnlogfiaaDoor
