/-
  What the method ID of a certificate returns.
-/
import Derived.Test.YtenpkgdnlogfiaaGreatDoorCert
import Derived.Test.YtenpkgdnlogfiaaGreatDoorKec
namespace Go.Proofs.YtenpkgdnlogfiaaGreatDoor
open Go.RowKit
attribute [local go_sem ↓] Go.wp_at_zero Go.wp_at_succ
set_option maxRecDepth 20000

theorem putFlag_bytes (b : Bool) : Bytes (putFlag b) := by
  intro x hx
  unfold putFlag at hx
  split at hx <;> simp at hx <;> omega
theorem putSet_bytes (N : Nat) : Bytes (putSet N) := (putN_byte _).append (setBytes_byte N)
theorem flatMap_bytes {α : Type} {f : α → List Nat} (h : ∀ z, Bytes (f z)) (l : List α) : Bytes (l.flatMap f) := by
  intro x hx
  obtain ⟨z, _, hz⟩ := List.mem_flatMap.1 hx
  exact h z x hz
theorem putCube_bytes (y n : Nat) : Bytes (putCube y n) := by
  unfold putCube
  exact (putSet_bytes y).append (putSet_bytes n)
theorem putCubes_bytes (l : List (Nat × Nat)) : Bytes (putCubes l) := by
  unfold putCubes
  exact (putN_byte _).append (flatMap_bytes (f := fun z : Nat × Nat => putCube z.1 z.2) (fun z => putCube_bytes z.1 z.2) l)
theorem bytesC_bytes {c : CertD} (h : Bytes c.prob) : Bytes (bytesC c) := by
  unfold bytesC
  split
  · exact h.append ((putFlag_bytes _).append ((putN_byte _).append ((flatMap_bytes (fun k => putN_byte _) _).append (putCubes_bytes _))))
  · intro x hx; simp at hx
theorem bytesC_len {c : CertD} (h : ∀ z ∈ c.cubes, z.1 < 2 ^ 4096 ∧ z.2 < 2 ^ 4096) (hp : c.prob.length = 32) : (bytesC c).length ≤ 4000000 := by
  unfold bytesC
  split
  · rename_i hc
    have h0 := plan_ok hc
    have h1 := flat_len c.cubes h
    have h2 := putN_len c.cubes.length
    have h3 := putN_len c.plan.length
    have h4 := plan_len c.plan
    have h5 : (putFlag c.reach).length = 1 := by unfold putFlag; split <;> rfl
    simp only [putCubes, List.length_append]
    omega
  · simp
def certTag : ByteArray := { data := #[99, 101, 114, 116, 105, 102, 105, 99, 97, 116, 101] }
def idC (c : CertD) : List Nat := if checkC c = 0 then sha3 (tagB certTag (bytesC c)) else List.replicate 32 0
theorem idC_len (c : CertD) : (idC c).length = 32 := by unfold idC; split <;> simp [sha3, sumK]

theorem cid_any (v : Value) (c : CertD) (w : World) (D : Nat → Prop) (hT : Tab w) (hv : IsCert w D v c) :
    Calls Tryz.prog 9 #[v] w (Ret (fun x _ => x = .agg (u8s (idC c)).toArray) w) := by
  obtain ⟨cs, pv, qv, rfl, hsz, hl32, hby, _, _, _, _, _, hq⟩ := id hv
  have hbl := bytesC_len hq.bound hl32
  have hbb := bytesC_bytes hby
  have hbox := (Box.new w 35 cs).alloc (.cells (u8s (List.replicate 32 0)).toArray 32)
  have hb0 : Below w.heap.size w ((w.alloc (.cells cs 35)).alloc (.cells (u8s (List.replicate 32 0)).toArray 32)) := ((Below.refl _ _).alloc (Nat.le_refl _) _).alloc (by simp) _
  have hr0 : Box ((w.alloc (.cells cs 35)).alloc (.cells (u8s (List.replicate 32 0)).toArray 32)) (w.heap.size + 1) 32 (u8s (List.replicate 32 0)).toArray := by
    have := Box.new (w.alloc (.cells cs 35)) 32 (u8s (List.replicate 32 0)).toArray
    rw [World.size_alloc] at this
    exact this
  have hv1 := (hv.imp (D' := (· < w.heap.size)) fun b _ h => h).ext hb0
  have hi35 : (Tryz.prog.info? 35).map (·.size) = some cs.size := by rw [hsz]; kernel_rfl
  have hi32 : (Tryz.prog.info? 32).map (·.size) = some (u8s (idC c)).toArray.size := by rw [List.size_toArray, u8s_length, idC_len]; kernel_rfl
  have hone : (u8s (idC c)).toArray.all (·.oneCell') = true := all_oneCell_toArray (u8s_one _)
  have hold : (u8s (List.replicate 32 0)).toArray.size = (u8s (idC c)).toArray.size := by rw [List.size_toArray, List.size_toArray, u8s_length, u8s_length, idC_len, List.length_replicate]
  have HI := Lib.hid hi35
  have HI2 := Lib.hid hi32
  have HON := Lib.hid hone
  have HOL := Lib.hid hold
  have HX := Lib.hid hbox
  clear hi35 hi32 hone hold hbox hsz hl32 hby hq hv
  go_enter Tryz.func9, Tryz.ntmps9
  go_wp2_with ((with_reducible show wpList _ _ _ (⟨some 3, _, _, _, _, _⟩ :: _) _ _); refine wpList_load_row rfl 35 _ rfl w.heap.size rfl 35 cs (0, 0) _ HX.out Tryz.underlying35 rfl HI.out ?_)
  change Calls _ _ _ ((w.alloc (.cells cs 35)).alloc (.cells (u8s (List.replicate 32 0)).toArray 32)) _
  generalize (w.alloc (.cells cs 35)).alloc (.cells (u8s (List.replicate 32 0)).toArray 32) = W1 at *
  refine (check_any _ c _ _ hv1).mono ?_
  rintro e w1 ⟨_, rfl, rfl, hb1⟩
  have hX1 := HX.out.ext hb1
  have hr1 := hr0.ext hb1
  have hv2 := hv1.ext hb1
  have hB1 := hb0.trans (hb1.mono hb0.size)
  have HX1 := Lib.hid hX1
  clear hX1 hr0 hv1 HX hb1 hb0
  by_cases hc : checkC c = 0
  · have heq : (checkC c != 0) = false := by simpa using hc
    have HE := Lib.hid (show idC c = sha3 (tagB certTag (bytesC c)) by rw [idC, if_pos hc])
    clear hc
    go_wp2_with ((with_reducible show wpList _ _ _ (⟨some 7, _, _, _, _, _⟩ :: _) _ _); refine wpList_load_row rfl 35 _ rfl w.heap.size rfl 35 cs (0, 0) _ HX1.out Tryz.underlying35 rfl HI.out ?_)
    refine (cbytes_any _ c _ _ hv2).mono ?_
    rintro e w2 ⟨v2, rfl, hs2, hb2⟩
    have hr2 := hr1.ext hb2
    have hB2 := hB1.trans (hb2.mono hB1.size)
    have hT2 := hT.ext hB2
    obtain ⟨A2, c2, rfl, _, _⟩ := hs2.shape
    have hB3 := hB2.alloc (by have := hB2.size; omega) (.cells #[.slice A2 (bytesC c).length c2] 37)
    have hpv := (Sl.new w2 37 [.slice A2 (bytesC c).length c2] (by simp)).imp (D' := fun _ => True) fun _ _ _ => trivial
    have hs3 := (hs2.alloc (.cells #[.slice A2 (bytesC c).length c2] 37)).imp (D' := fun _ => True) fun _ _ _ => trivial
    have hr3 := hr2.alloc (.cells #[.slice A2 (bytesC c).length c2] 37)
    have hT3 := hT.ext hB3
    have HPV := Lib.hid hpv
    have HS3 := Lib.hid hs3
    clear hpv hs3 hr2 hs2 hr1
    go_wp2_with fail
    refine (tagged_any certTag _ _ (bytesC c) _ _ hT3 HPV.out HS3.out hbb (by decide) (by omega)).mono ?_
    rintro e w4 ⟨v4, rfl, rfl, hb4⟩
    rw [← HE.out]
    have HR4 := Lib.hid (hr3.ext hb4)
    have hB5 := hB3.trans (hb4.mono hB3.size)
    clear hr3
    go_wp2_with ((with_reducible show wpList _ _ _ (⟨none, .store 32 _ _, _, _, _, _⟩ :: _) _ _); refine wpList_store_row rfl 32 _ _ rfl (w.heap.size + 1) (u8s (idC c)).toArray rfl rfl 32 (u8s (List.replicate 32 0)).toArray HR4.out HI2.out HOL.out HON.out ?_)
    refine bodyPost_ret (v := .agg (u8s (idC c)).toArray) (by exact results_cell_row rfl _ _ (w.heap.size + 1) 32 _ (0, 0) _ rfl (setRow_heap _ _ _ _ _ _ HR4.out) Tryz.underlying32 rfl HI2.out) rfl ?_
    exact Ret.mk rfl (below_setRow hB5 (by omega) _)
  · have hne : (checkC c != 0) = true := by simpa using hc
    have HE := Lib.hid (show idC c = List.replicate 32 0 by rw [idC, if_neg hc])
    have HI2' := HI2.out
    have HON' := HON.out
    rw [HE.out] at HI2' HON'
    have HIZ := Lib.hid HI2'
    have HOZ := Lib.hid HON'
    have HR1 := Lib.hid hr1
    clear hc HI2' HON' hr1
    go_wp2_with ((with_reducible show wpList _ _ _ (⟨none, .store 32 _ _, _, _, _, _⟩ :: _) _ _); refine wpList_store_row rfl 32 _ _ rfl (w.heap.size + 1) (u8s (List.replicate 32 0)).toArray rfl rfl 32 (u8s (List.replicate 32 0)).toArray HR1.out HIZ.out rfl HOZ.out ?_)
    refine bodyPost_ret (v := .agg (u8s (List.replicate 32 0)).toArray) (by exact results_cell_row rfl _ _ (w.heap.size + 1) 32 _ (0, 0) _ rfl (setRow_heap _ _ _ _ _ _ HR1.out) Tryz.underlying32 rfl HIZ.out) rfl ?_
    exact Ret.mk (by rw [HE.out]) (below_setRow hB1 (by omega) _)
end Go.Proofs.YtenpkgdnlogfiaaGreatDoor
