/-
  Chapter 36's awake: the two examples.
-/
import Derived.Test.YtenpkgdnlogfiaaGreatDoorCert5
import Derived.Lib.BufferRead
namespace Go.Proofs.YtenpkgdnlogfiaaGreatDoor
open Go.RowKit
attribute [local go_sem ↓] Go.wp_at_zero Go.wp_at_succ
set_option maxRecDepth 20000

/-- the string of some bytes -/
def strOf (l : List Nat) : ByteArray := ⟨(l.map UInt8.ofNat).toArray⟩
theorem strOf_size (l : List Nat) : (strOf l).size = l.length := by simp [strOf, ByteArray.size]
theorem conv_sl {w : World} {D : Nat → Prop} {v : Value} {l : List Nat} (h : Sl w D 1 v l.length (u8s l)) (hb : Bytes l) :
    (convert 37 9 v).run Tryz.prog w = .ok (.string (strOf l)) w := by
  obtain ⟨_, A, c, rfl, h1, h2, h3⟩ := h
  rcases Nat.eq_zero_or_pos l.length with h0 | h0
  · have hl : l = [] := List.eq_nil_of_length_eq_zero h0
    subst hl
    show (convert 37 9 (.slice A 0 c)).run Tryz.prog w = .ok (.string ⟨#[]⟩) w
    cases A with
    | none => exact Lib.run_convert_nil_bytes w _ _ 5 c Tryz.underlying37 Tryz.underlying5 Tryz.underlying9
    | some a => exact run_convert_bytes_back w _ _ 5 a c [] Tryz.underlying37 Tryz.underlying5 Tryz.underlying9 (fun j hj => absurd hj (by simp))
  · obtain ⟨b, o, rfl, _, _, hc⟩ := h3 h0
    have := run_convert_bytes_back (P := Tryz.prog) w 37 9 5 ⟨b, o, none⟩ c (l.map UInt8.ofNat) Tryz.underlying37 Tryz.underlying5 Tryz.underlying9 (fun j hj => by
      have hj' : j < l.length := by simpa using hj
      have hadd : (⟨b, o, none⟩ : Addr).add j = ⟨b, o + j, none⟩ := by unfold Addr.add; split <;> simp_all
      rw [hadd, hc j _ (u8s_at l j hj')]
      have h4 := hb (l[j]) (List.getElem_mem hj')
      simp [List.getD_eq_getElem?_getD, List.getElem?_eq_getElem hj']
      rw [Int.emod_eq_of_lt (by omega) (by omega)])
    rw [List.length_map] at this
    exact this

theorem IsCert.of {w : World} {D : Nat → Prop} {prob : List Nat} {r : Bool} {pv qv : Value} {plan : List Int} {cubes : List (Nat × Nat)} (h1 : prob.length = 32) (h2 : Bytes prob) (hp : Sl w D 1 pv plan.length (ints plan)) (hq : IsCubes w D qv cubes) :
    IsCert w D (.agg (u8s prob ++ [.bool r, pv, qv]).toArray) ⟨prob, r, plan, cubes⟩ := by
  have hl : (u8s prob).length = 32 := by rw [u8s_length, h1]
  refine ⟨_, pv, qv, rfl, by simp [hl], h1, h2, fun i hi => ?_, ?_, ?_, ?_, hp, hq⟩
  · rw [List.getElem?_toArray, List.getElem?_append_left (by omega)]; exact u8s_at _ _ (by omega)
  · rw [List.getElem?_toArray, List.getElem?_append_right (by omega), hl]; rfl
  · rw [List.getElem?_toArray, List.getElem?_append_right (by omega), hl]; rfl
  · rw [List.getElem?_toArray, List.getElem?_append_right (by omega), hl]; rfl

def exA : CertD := ⟨List.replicate 32 0, true, [2, 0], []⟩
def exB : CertD := ⟨List.replicate 32 0, false, [], [(2, 8)]⟩
theorem exA_bytes : strOf (bytesC exA) = strOf (List.replicate 32 0) ++ { data := #[1, 2, 2, 0, 0] } := by decide
theorem exB_bytes : strOf (bytesC exB) = strOf (List.replicate 32 0) ++ { data := #[0, 0, 1, 1, 2, 1, 8] } := by decide
theorem exA_id : idC exA = sha3 (tagB certTag (bytesC exA)) := by rw [idC, if_pos (by decide)]
theorem exA_len : (bytesC exA).length ≤ 100 := by decide
theorem zeros_bytes (n : Nat) : Bytes (List.replicate n 0) := by intro x hx; rw [List.eq_of_mem_replicate hx]; omega
theorem exA_by : Bytes (bytesC exA) := bytesC_bytes (zeros_bytes 32)
theorem exB_by : Bytes (bytesC exB) := bytesC_bytes (zeros_bytes 32)
end Go.Proofs.YtenpkgdnlogfiaaGreatDoor
