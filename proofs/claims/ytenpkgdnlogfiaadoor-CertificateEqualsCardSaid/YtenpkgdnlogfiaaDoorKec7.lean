/-
  What the writer's method String writes, and what keccak.Tagged returns (one part).
-/
import Derived.Test.YtenpkgdnlogfiaaDoorKec6
namespace Go.Proofs.YtenpkgdnlogfiaaDoor
open Go.RowKit
attribute [local go_sem ↓] Go.wp_at_zero Go.wp_at_succ
set_option maxRecDepth 20000

/-- the bytes of a string -/
def sb (s : ByteArray) : List Nat := s.data.toList.map (·.toNat)
theorem sb_len (s : ByteArray) : (sb s).length = s.size := by simp [sb]
theorem sb_bytes (s : ByteArray) : Bytes (sb s) := by
  intro x hx
  simp only [sb, List.mem_map] at hx
  obtain ⟨y, _, rfl⟩ := hx
  exact y.toNat_lt
theorem wstring_any (q : Nat) (s : ByteArray) (bs : List Nat) (w : World) (R : Nat → Prop) (hW : IsW w R q bs) (hlen : bs.length + s.size ≤ 10000000000) :
    Calls Tryd.prog 59 #[.pointer (some ⟨q, 0, none⟩), .string s] w (WRet R q (bs ++ (putN (sb s).length ++ sb s)) w) := by
  have hcv := run_bytes_of_string (P := Tryd.prog) w 9 47 5 s Tryd.underlying9 Tryd.underlying47 Tryd.underlying5
  have hg1 := grownCap_ge w s.size 0 5
  have hg2 := grownCap_le_maxLen w s.size 0 5 (by unfold maxLen; omega)
  generalize grownCap w s.size 0 5 = cap at *
  have hcell : ∀ j, j < s.size → (bytesRow s cap)[j]? = some (.int .u8 ((sb s).getD j 0 : Nat)) := fun j hj => by
    rw [bytesRow_at s cap j hj, sb, List.getD_eq_getElem?_getD, List.getElem?_map, List.getElem?_eq_getElem (by simpa using hj)]
    rfl
  generalize bytesRow s cap = C at *
  have hb : Below w.heap.size w (w.drew.alloc (.cells C 5 (C.size, C.size + 1))) := (Below.refl _ _).drew.alloc (Nat.le_refl _) _
  have hS : Sl (w.drew.alloc (.cells C 5 (C.size, C.size + 1))) (· = w.heap.size) 1 (.slice (some ⟨w.heap.size, 0, none⟩) s.size cap) s.size (u8s (sb s)) := by
    refine ⟨by simp [u8s, sb_len], _, _, rfl, hg1, hg2, fun _ => ⟨w.heap.size, 0, rfl, rfl, by simp, fun j x hj => ?_⟩⟩
    have hj' : j < s.size := by
      rcases Nat.lt_or_ge j s.size with h | h
      · exact h
      · rw [List.getElem?_eq_none (by rw [u8s_length, sb_len]; exact h)] at hj; cases hj
    rw [Nat.zero_add]
    refine (cell_of_row _ w.heap.size j C 5 _ (heap_alloc_new w.drew _)).trans ((hcell j hj').trans ?_)
    rw [← hj]
    exact (u8s_at _ _ (by rw [sb_len]; exact hj')).symm
  have hlt := hW.lt
  have hW1 := (hW.imp (R' := fun k => R k ∧ k < w.heap.size) fun k h1 h2 => ⟨h1, h2⟩).ext hb
  generalize w.drew.alloc (.cells C 5 (C.size, C.size + 1)) = W1 at *
  have hl := sb_len s
  have hs1 : Sl W1 (· = w.heap.size) 1 (.slice (some ⟨w.heap.size, 0, none⟩) s.size cap) (sb s).length (u8s (sb s)) := by rw [hl]; exact hS
  have HL := Lib.hid hl
  clear hcell hS hW
  go_enter Tryd.func59, Tryd.ntmps59
  go_wp2_with fail
  refine (wbytes_any q _ bs (sb s) W1 _ _ hW1 hs1 (fun b hb _ => ⟨by have : b = w.heap.size := hb; omega, fun h => by have : b = w.heap.size := hb; omega⟩) (by have := HL.out; omega)).mono ?_
  rintro e w2 ⟨rfl, hW2, hF⟩
  go_wp2_with fail
  refine bodyPost_end (results_none rfl _ _ _) rfl ⟨rfl, hW2.imp fun k hk _ => ?_, (WF.of_below hb).trans (hF.imp fun k hk _ => .inl hk.1)⟩
  rcases hk with hk | hk
  · exact .inl hk.1
  · exact .inr (by have := hb.size; omega)

/-- what is hashed of a tag and one part -/
def tagB (s : ByteArray) (l : List Nat) : List Nat := (putN (sb s).length ++ sb s) ++ (putN l.length ++ l)
theorem tagB_bytes (s : ByteArray) {l : List Nat} (h : Bytes l) : Bytes (tagB s l) := ((putN_byte _).append (sb_bytes s)).append ((putN_byte _).append h)
theorem tagged_any (s : ByteArray) (pv p : Value) (l : List Nat) (w : World) (D : Nat → Prop) (hT : Tab w) (hpv : Sl w D 1 pv 1 [p]) (hp : Sl w D 1 p l.length (u8s l)) (hby : Bytes l) (hs : s.size ≤ 1000000) (hll : l.length ≤ 1000000000) :
    Calls Tryd.prog 27 #[.string s, pv] w (Ret (fun x _ => x = .agg (u8s (sha3 (tagB s l))).toArray) w) := by
  obtain ⟨⟨_, ht1⟩, _, ht2⟩ := id hT
  have htl1 := ht1.lt
  have htl2 := ht2.lt
  obtain ⟨Av, cv, rfl, hcv1, hcv2⟩ := hpv.shape
  obtain ⟨A, c, rfl, _, _⟩ := hp.shape
  have hr0 := Box.new w 32 (u8s (List.replicate 32 0)).toArray
  have hB0 : Below w.heap.size w (w.alloc (.cells (u8s (List.replicate 32 0)).toArray 32)) := (Below.refl _ _).alloc (Nat.le_refl _) _
  have hp0 := (hp.imp (D' := fun b => D b ∧ b < w.heap.size) fun b h1 h2 => ⟨h1, h2⟩).ext hB0
  have hv0 := (hpv.imp (D' := fun b => D b ∧ b < w.heap.size) fun b h1 h2 => ⟨h1, h2⟩).ext hB0
  have hone : ∀ l, (u8s l).toArray.all (·.oneCell') = true := fun l => all_oneCell_toArray (u8s_one _)
  have hsl : ∀ l, (sha3 l).length = 32 := fun l => by simp [sha3, sumK]
  have hi32 : (Tryd.prog.info? 32).map (·.size) = some (u8s (sha3 (tagB s l))).toArray.size := by rw [List.size_toArray, u8s_length, hsl]; kernel_rfl
  have hold : (u8s (List.replicate 32 0)).toArray.size = (u8s (sha3 (tagB s l))).toArray.size := by rw [List.size_toArray, List.size_toArray, u8s_length, u8s_length, hsl, List.length_replicate]
  have HI := Lib.hid hi32
  have HON := Lib.hid (hone (sha3 (tagB s l)))
  have HOL := Lib.hid hold
  have hsz0 : (w.alloc (.cells (u8s (List.replicate 32 0)).toArray 32)).heap.size = w.heap.size + 1 := by simp
  clear hi32 hone hold ht1 ht2 hp hpv hsl
  go_enter Tryd.func27, Tryd.ntmps27
  go_wp2_with fail
  change Calls _ _ _ (w.alloc (.cells (u8s (List.replicate 32 0)).toArray 32)) _
  generalize w.alloc (.cells (u8s (List.replicate 32 0)).toArray 32) = W1 at *
  refine (newWriter_any _).mono ?_
  rintro e W2 ⟨rfl, rfl⟩
  have hW2 := IsW.new W1 (fun _ => False)
  rw [hsz0] at hW2
  have hr2 := hr0.alloc (.cells #[.slice none 0 0] 112)
  have hp2 := hp0.alloc (.cells #[.slice none 0 0] 112)
  have hv2 := hv0.alloc (.cells #[.slice none 0 0] 112)
  have hB2 := hB0.alloc (by omega) (.cells #[.slice none 0 0] 112)
  have hsz2 : (W1.alloc (.cells #[.slice none 0 0] 112)).heap.size = w.heap.size + 2 := by rw [World.size_alloc, hsz0]
  generalize W1.alloc (.cells #[.slice none 0 0] 112) = W2 at *
  clear hr0 hp0 hv0 hB0
  go_wp2_with fail
  refine (wstring_any (w.heap.size + 1) s [] W2 _ hW2 (by simp; omega)).mono ?_
  rintro e W3 ⟨rfl, hW3, hF3⟩
  have hr3 := hF3.box hr2 (by omega) (by decide)
  have hp3 := hp2.wf hF3 (fun b hb _ => ⟨by have := hb.2; omega, fun h => h⟩)
  have hv3 := hv2.wf hF3 (fun b hb _ => ⟨by have := hb.2; omega, fun h => h⟩)
  have hB3 := hB2.trans (hF3.below (by omega) (fun _ h => h.elim) (by omega))
  have hW3' := hW3
  have hsz3 := hF3.size
  obtain ⟨_, Av', cv', hve, _, _, hvc⟩ := id hv3
  obtain ⟨bv, ov, hve2, _, _, hvcell⟩ := hvc (by omega)
  have hc0 := hvcell 0 _ rfl
  rw [Nat.add_zero] at hc0
  injection hve with hve hve3
  subst hve hve2
  clear hvc hvcell hW3' hW2 hF3 hp2 hv2 hr2 hB2
  go_wp2_with fail
  have hsb := sb_len s
  have hpn := putN_len (sb s).length
  have hpl := putN_len l.length
  have hM3 : ([] ++ (putN (sb s).length ++ sb s) : List Nat).length ≤ 1000011 := by simp only [List.length_append, List.length_nil]; omega
  have hMl : ([] ++ (putN (sb s).length ++ sb s) ++ (putN l.length ++ l) : List Nat).length ≤ 2000000100 := by simp only [List.length_append, List.length_nil]; omega
  have HTB := Lib.hid (show tagB s l = [] ++ (putN (sb s).length ++ sb s) ++ (putN l.length ++ l) from rfl)
  have HTBB := Lib.hid (tagB_bytes s hby)
  generalize ([] ++ (putN (sb s).length ++ sb s) : List Nat) = M3 at *
  clear hsb hpn
  go_loopw [14] (fun i wr => (i = .int .i64 0 ∧ wr = W3) ∨ (i = .int .i64 1 ∧ IsW wr (fun k => w.heap.size + 2 ≤ k) (w.heap.size + 1) (M3 ++ (putN l.length ++ l)) ∧ Box wr w.heap.size 32 (u8s (List.replicate 32 0)).toArray ∧ Below w.heap.size w wr)) (fun i _ => 1 - (intOf i).toNat)
  case atStart => exact .inl ⟨rfl, rfl⟩
  case round =>
    rcases hrel with ⟨rfl, rfl⟩ | ⟨rfl, hW4, hr4, hB4⟩
    · go_wp2_with fail
      refine (wbytes_any (w.heap.size + 1) _ M3 l _ _ _ hW3 hp3 (fun b hb _ => ⟨by have := hb.2; omega, fun h => by rcases h with h | h; exact h; have := hb.2; omega⟩) (by omega)).mono ?_
      rintro e W4 ⟨rfl, hW4, hF4⟩
      have hr4 := hF4.box hr3 (by omega) (by decide)
      have hB4 := hB3.trans (hF4.below (by omega) (fun k h => by rcases h with h | h; exact h.elim; omega) (by omega))
      go_wp2_with fail
      refine ⟨.inr ⟨rfl, hW4.imp fun k hk _ => ?_, hr4, hB4⟩, by simp [intOf]⟩
      rcases hk with (hk | hk) | hk
      · exact hk.elim
      · omega
      · omega
    · clear hr3 hp3 hv3 hB3 hW3 hc0
      have hlt4 := hW4.lt
      have HR4 := Lib.hid hr4
      clear hr4
      go_wp2_with fail
      refine (wout_any (w.heap.size + 1) _ _ _ hW4 (by omega)).mono ?_
      rintro e W5 ⟨v5, rfl, hv5, hB5⟩
      rw [← HTB.out] at hv5
      have hT5 := hT.ext (hB4.trans (hB5.mono hB4.size))
      have hr5 := HR4.out.ext hB5
      have HR5 := Lib.hid hr5
      clear hr5
      go_wp2_with fail
      refine (ksum_any _ (tagB s l) W5 _ hT5 hv5 HTBB.out (by rw [HTB.out]; omega)).mono ?_
      rintro e W6 ⟨v6, rfl, rfl, hB6⟩
      have HR6 := Lib.hid (HR5.out.ext hB6)
      have hB7 := (hB4.trans (hB5.mono hB4.size)).trans (hB6.mono (hB4.trans (hB5.mono hB4.size)).size)
      go_wp2_with ((with_reducible show wpList _ _ _ (⟨none, .store 32 _ _, _, _, _, _⟩ :: _) _ _); refine wpList_store_row rfl 32 _ _ rfl w.heap.size (u8s (sha3 (tagB s l))).toArray rfl rfl 32 (u8s (List.replicate 32 0)).toArray HR6.out HI.out HOL.out HON.out ?_)
      refine bodyPost_ret (v := .agg (u8s (sha3 (tagB s l))).toArray) (by exact results_cell_row rfl _ _ w.heap.size 32 _ (0, 0) _ rfl (setRow_heap _ _ _ _ _ _ HR6.out) Tryd.underlying32 rfl HI.out) rfl ?_
      exact Ret.mk rfl (below_setRow hB7 (Nat.le_refl _) _)
end Go.Proofs.YtenpkgdnlogfiaaDoor
