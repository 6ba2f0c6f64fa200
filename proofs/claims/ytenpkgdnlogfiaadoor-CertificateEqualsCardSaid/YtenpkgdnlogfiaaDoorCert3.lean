/-
  What certificate.put, list and the method Bytes write.
-/
import Derived.Test.YtenpkgdnlogfiaaDoorWire4
import Derived.Test.YtenpkgdnlogfiaaDoorCert2
namespace Go.Proofs.YtenpkgdnlogfiaaDoor
open Go.RowKit
attribute [local go_sem ↓] Go.wp_at_zero Go.wp_at_succ
set_option maxRecDepth 20000

def putCube (y n : Nat) : List Nat := putSet y ++ putSet n
theorem putSet_len {N : Nat} (h : N < 2 ^ 4096) : (putSet N).length ≤ 523 := by
  have := setBytes_len h
  have := putN_len (setBytes N).length
  simp [putSet]; omega

theorem put_any (q : Nat) (y n : Value) (Y N : Nat) (bs : List Nat) (w : World) (R D : Nat → Prop) (hW : IsW w R q bs) (hy : IsSet w D (.agg #[y]) Y) (hn : IsSet w D (.agg #[n]) N)
    (hD : ∀ b, D b → b < w.heap.size → b ≠ q ∧ ¬ R b) (hlen : bs.length ≤ 9000000000) :
    Calls Tryd.prog 73 #[.pointer (some ⟨q, 0, none⟩), .agg #[y, n]] w (WRet R q (bs ++ putCube Y N) w) := by
  obtain ⟨A, l, c, rfl⟩ := hy.shape
  obtain ⟨A', l', c', rfl⟩ := hn.shape
  have hlq := hW.lt
  have hsl := putSet_len hy.bound
  have hbox := Box.new w 55 #[.slice A l c, .slice A' l' c']
  have hn1 := (hn.imp (D' := fun b => D b ∧ b < w.heap.size) fun b h1 h2 => ⟨h1, h2⟩).alloc (.cells #[.slice A l c, .slice A' l' c'] 55)
  have hW1 := (hW.imp (R' := fun k => R k ∧ k < w.heap.size) fun k h1 h2 => ⟨h1, h2⟩).alloc (.cells #[.slice A l c, .slice A' l' c'] 55)
  go_enter Tryd.func73, Tryd.ntmps73
  go_wp2_with fail
  refine (wset_any q _ Y bs _ _ D hW1 (hy.alloc _) (by omega)).mono ?_
  rintro e w1 ⟨rfl, hW2, hF⟩
  have hb1 := hF.box hbox (by omega) (by decide)
  have hc1 := hb1.cell 1
  simp at hc1
  have hn2 := hn1.wf hF (fun b hb _ => ⟨(hD b hb.1 hb.2).1, fun h => (hD b hb.1 hb.2).2 h.1⟩)
  go_wp2_with fail
  refine (wset_any q _ N _ _ _ _ hW2 hn2 (by simp; omega)).mono ?_
  rintro e w2 ⟨rfl, hW3, hF2⟩
  have hF3 := hF.trans hF2
  go_wp2_with fail
  refine bodyPost_end (results_none rfl _ _ _) rfl ⟨rfl, ?_, (WF.of_below ((Below.refl _ _).alloc (Nat.le_refl _) _)).trans (hF3.imp fun k hk _ => .inl hk.1)⟩
  rw [putCube, ← List.append_assoc]
  refine hW3.imp fun k hk _ => ?_
  rcases since_since hF.size k hk with h | h
  · exact .inl h.1
  · exact .inr (by simp at h; omega)

def putCubes (l : List (Nat × Nat)) : List Nat := putN l.length ++ l.flatMap fun z => putCube z.1 z.2
theorem flat_step (l : List (Nat × Nat)) (k : Nat) (h : k < l.length) : (l.take (k + 1)).flatMap (fun z => putCube z.1 z.2) = (l.take k).flatMap (fun z => putCube z.1 z.2) ++ putCube (l.getD k (0, 0)).1 (l.getD k (0, 0)).2 := by
  rw [List.take_succ_eq_append_getElem h, List.flatMap_append, List.getD_eq_getElem?_getD, List.getElem?_eq_getElem h]; simp
set_option exponentiation.threshold 5000 in
theorem flat_len (l : List (Nat × Nat)) (h : ∀ z ∈ l, z.1 < 2 ^ 4096 ∧ z.2 < 2 ^ 4096) : (l.flatMap fun z => putCube z.1 z.2).length ≤ 1046 * l.length := by
  induction l with
  | nil => simp
  | cons z r ih =>
    have h1 := h z (by simp)
    have h2 := ih fun x hx => h x (by simp [hx])
    have h3 := putSet_len h1.1
    have h4 := putSet_len h1.2
    simp [List.flatMap_cons, putCube] at *
    omega
theorem IsCubes.bound {w : World} {D : Nat → Prop} {v : Value} {l : List (Nat × Nat)} (h : IsCubes w D v l) : ∀ z ∈ l, z.1 < 2 ^ 4096 ∧ z.2 < 2 ^ 4096 := by
  intro z hz
  obtain ⟨i, hi, rfl⟩ := List.getElem_of_mem hz
  obtain ⟨xs, _, h2⟩ := h
  obtain ⟨a, b, _, _, h5, h6⟩ := h2 i l[i].1 l[i].2 (by simp [List.getElem?_eq_getElem hi])
  exact ⟨h5.bound, h6.bound⟩

theorem list_any (q : Nat) (v : Value) (l : List (Nat × Nat)) (bs : List Nat) (w : World) (R D : Nat → Prop) (hW : IsW w R q bs) (hv : IsCubes w D v l)
    (hD : ∀ b, D b → b < w.heap.size → b ≠ q ∧ ¬ R b) (hlen : bs.length ≤ 1000000000) (hll : l.length ≤ 2000) :
    Calls Tryd.prog 46 #[.pointer (some ⟨q, 0, none⟩), v] w (WRet R q (bs ++ putCubes l) w) := by
  obtain ⟨A, c, rfl, _, _⟩ := hv.shape
  have hlq := hW.lt
  have hbd := Lib.hid hv.bound
  have hpn := putN_len l.length
  have hv1 := hv.imp (D' := fun b => D b ∧ b < w.heap.size) fun b h1 h2 => ⟨h1, h2⟩
  have hW1 := hW.imp (R' := fun k => R k ∧ k < w.heap.size) fun k h1 h2 => ⟨h1, h2⟩
  have hD1 : ∀ b, (D b ∧ b < w.heap.size) → b ≠ q ∧ ¬ (R b ∧ b < w.heap.size) := fun b hb => ⟨(hD b hb.1 hb.2).1, fun h => (hD b hb.1 hb.2).2 h.1⟩
  have HD1 := Lib.hid hD1
  go_enter Tryd.func46, Tryd.ntmps46
  go_wp2_with fail
  refine (uint_any q l.length bs _ _ hW1 (by unfold T64; omega) (by omega)).mono ?_
  rintro e w1 ⟨rfl, hW2, hF⟩
  have hv2 := hv1.wf hF (fun b hb _ => HD1.out b hb)
  go_wp2_with fail
  go_loopw [13] (fun i wr => ∃ k : Nat, k ≤ l.length ∧ i = .int .i64 k ∧ IsW wr (Since (fun k => R k ∧ k < w.heap.size) w) q (bs ++ putN l.length ++ (l.take k).flatMap fun z => putCube z.1 z.2) ∧ WF (fun k => R k ∧ k < w.heap.size) q w wr ∧ IsCubes wr (fun b => D b ∧ b < w.heap.size) (.slice A l.length c) l) (fun i _ => l.length - (intOf i).toNat)
  case atStart => exact ⟨0, by omega, rfl, by simpa using hW2, hF, hv2⟩
  case round =>
    clear hW2 hF hv2 hv1 hW1 hv hW
    obtain ⟨k, hk, rfl, hWr, hFr, hvr⟩ := hrel
    by_cases hlt : k < l.length
    · obtain ⟨b, o, y, n, rfl, _, hb, hcy, hcn, hy, hn⟩ := hvr.at_ hlt
      obtain ⟨Ay, ny, cy, rfl⟩ := hy.shape
      obtain ⟨An, nn, cn, rfl⟩ := hn.shape
      have HS := Lib.hid (flat_step l k hlt)
      have hfl := flat_len (l.take k) (fun z hz => hbd.out z (List.mem_of_mem_take hz))
      have htk : (l.take k).length ≤ 2000 := by simp; omega
      have hlr := hWr.lt
      have hFs := hFr.size
      have hWb := hWr.alloc (.cells #[.slice Ay ny cy, .slice An nn cn] 55)
      have hyb := hy.alloc (.cells #[.slice Ay ny cy, .slice An nn cn] 55)
      have hnb := hn.alloc (.cells #[.slice Ay ny cy, .slice An nn cn] 55)
      have hvb := hvr.ext ((Below.refl _ wr).alloc (Nat.le_refl _) (.cells #[.slice Ay ny cy, .slice An nn cn] 55))
      go_wp2_with fail
      refine (put_any q _ _ _ _ _ _ _ _ hWb hyb hnb (fun b hb _ => ⟨(HD1.out b hb).1, fun h => by rcases h with h | h; exact (HD1.out b hb).2 h; omega⟩) (by rw [List.length_append, List.length_append]; omega)).mono ?_
      rintro e w2 ⟨rfl, hW3, hF3⟩
      have hv3 := hvb.wf hF3 (fun b hb _ => ⟨(HD1.out b hb).1, fun h => by rcases h with h | h; exact (HD1.out b hb).2 h; omega⟩)
      go_wp2_with fail
      refine ⟨⟨k + 1, hlt, by go_num, ?_, ?_, hv3⟩, by simp [intOf]; omega⟩
      · rw [HS.out, ← List.append_assoc]
        refine hW3.imp fun j hj _ => ?_
        rcases hj with hj | hj
        · exact hj
        · exact .inr (by simp at hj; omega)
      · exact hFr.trans ((WF.of_below ((Below.refl _ wr).alloc (Nat.le_refl _) _)).trans (hF3.imp fun j hj _ => .inl hj))
    · obtain rfl : k = l.length := by omega
      rw [List.take_length] at hWr
      go_wp2_with fail
      refine bodyPost_end (results_none rfl _ _ _) rfl ⟨rfl, ?_, hFr.imp fun k hk _ => hk.1⟩
      rw [putCubes, ← List.append_assoc]
      refine hWr.imp fun k hk _ => ?_
      rcases hk with h | h
      · exact .inl h.1
      · exact .inr h
end Go.Proofs.YtenpkgdnlogfiaaDoor
