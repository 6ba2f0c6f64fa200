/-
  What the reversal of bytes, wire.groups and the writer's methods compute.
-/
import Derived.Test.YtenpkgdnlogfiaaDoorWire2
import Derived.BigRegion
namespace Go.Proofs.YtenpkgdnlogfiaaDoor
open Go.RowKit
set_option maxRecDepth 20000

/-- the list after k exchanges from both ends -/
def swp (l : List Nat) (k : Nat) : List Nat := (List.range l.length).map fun j => if j < k ∨ l.length - k ≤ j then l.getD (l.length - 1 - j) 0 else l.getD j 0
theorem swp_len (l : List Nat) (k : Nat) : (swp l k).length = l.length := by simp [swp]
theorem swp_zero (l : List Nat) : swp l 0 = l := by
  apply List.ext_getElem
  · simp [swp]
  · intro j h1 h2
    simp [swp, Nat.not_le.2 h2, h2]
theorem swp_at (l : List Nat) (k j : Nat) (h : j < l.length) : (swp l k).getD j 0 = if j < k ∨ l.length - k ≤ j then l.getD (l.length - 1 - j) 0 else l.getD j 0 := by
  rw [List.getD_eq_getElem?_getD]
  simp [swp, h]
theorem swp_step (l : List Nat) (k : Nat) (h : k < l.length - 1 - k) : ((swp l k).set k ((swp l k).getD (l.length - 1 - k) 0)).set (l.length - 1 - k) ((swp l k).getD k 0) = swp l (k + 1) := by
  rw [swp_at _ _ _ (by omega), swp_at _ _ _ (by omega), if_neg (by omega), if_neg (by omega)]
  apply List.ext_getElem
  · simp [swp]
  · intro j h1 h2
    simp only [swp_len, List.length_set] at h1 h2
    simp only [List.getElem_set, swp, List.getElem_map, List.getElem_range]
    by_cases h3 : l.length - 1 - k = j
    · subst h3
      rw [if_pos rfl, if_pos (by omega), show l.length - 1 - (l.length - 1 - k) = k by omega]
    · rw [if_neg h3]
      by_cases h4 : k = j
      · subst h4
        rw [if_pos rfl, if_pos (by omega)]
      · rw [if_neg h4]
        by_cases h5 : j < k ∨ l.length - k ≤ j
        · rw [if_pos h5, if_pos (by omega)]
        · rw [if_neg h5, if_neg (by omega)]
theorem swp_end (l : List Nat) (k : Nat) (h : l.length - 1 - k ≤ k) : swp l k = l.reverse := by
  apply List.ext_getElem
  · simp [swp]
  · intro j h1 h2
    simp only [swp_len] at h1
    simp only [swp, List.getElem_map, List.getElem_range, List.getElem_reverse]
    by_cases h5 : j < k ∨ l.length - k ≤ j
    · rw [if_pos h5, List.getD_eq_getElem?_getD, List.getElem?_eq_getElem (by omega)]; rfl
    · rw [if_neg h5, List.getD_eq_getElem?_getD, List.getElem?_eq_getElem (by omega)]
      simp only [Option.getD_some]
      congr 1
      omega

theorem reverse_any (g cap : Nat) (l : List Nat) (w : World) (base : Nat) (hown : w.ownsRow base 5 1 (.slice (some ⟨g, 0, none⟩) l.length cap) l.length (u8s l)) (hl : l.length ≤ 1000000000000) :
    Calls Tryd.prog 83 #[.slice (some ⟨g, 0, none⟩) l.length cap] w fun e w' => e = .returned (.tuple #[]) ∧ w'.ownsRow base 5 1 (.slice (some ⟨g, 0, none⟩) l.length cap) l.length (u8s l.reverse) ∧ w.grownBy w' (some g) := by
  go_enter Tryd.func83, Tryd.ntmps83
  go_wp2
  go_loopw [2, 3] (fun i j wr => ∃ k : Nat, i = .int .i64 k ∧ j = .int .i64 ((l.length : Int) - 1 - k) ∧ k ≤ l.length ∧ wr.ownsRow base 5 1 (.slice (some ⟨g, 0, none⟩) l.length cap) l.length (u8s (swp l k)) ∧ w.grownBy wr (some g)) (fun i _ _ => l.length - (intOf i).toNat)
  case atStart => exact ⟨0, rfl, by simp, by omega, by rw [swp_zero]; exact hown, World.grownBy.refl w _⟩
  case round =>
    clear hown
    obtain ⟨k, rfl, rfl, hk, hown, hg⟩ := hrel
    by_cases hlt : k < l.length - 1 - k
    · obtain ⟨m, hm⟩ : ∃ m, m = l.length - 1 - k := ⟨_, rfl⟩
      have hmi : (l.length : Int) - 1 - k = m := by omega
      have hml : m < l.length := by omega
      have hkm : k < m := by omega
      have HM := Lib.hid hm
      have c1 := hown.cellAt k (by omega)
      have c2 := hown.cellAt m (by omega)
      rw [u8s_at _ _ (by rw [swp_len]; omega)] at c1 c2
      have f1 := hown.frozenAt k
      have f2 := hown.frozenAt m
      have HS := Lib.hid (swp_step l k hlt)
      rw [← hm] at HS
      have H1 := own_set8 (k := k) (y := (swp l k).getD m 0) hown (Below.refl _ _)
      have H2 := Lib.hid (own_set8 (k := m) (y := (swp l k).getD k 0) H1 (Below.refl _ _))
      rw [HS.out] at H2
      have HG := Lib.hid hg
      rw [hmi]
      clear hown H1 hm hmi hg hlt
      generalize (swp l k).getD k 0 = x at *
      generalize (swp l k).getD m 0 = y at *
      go_wp2
      go_region
      all_goals
        go_wp2
        exact ⟨⟨k + 1, by go_num, by have := HM.out; congr 1; omega, by omega, H2.out, grown_drew (grown_set (grown_set HG.out _ _) _ _)⟩, by simp [intOf]; omega⟩
    · have HS := Lib.hid (swp_end l k (by omega))
      have HO := Lib.hid hown
      clear hown
      go_wp2
      refine bodyPost_end (results_none rfl _ _ _) rfl ⟨rfl, ?_, hg⟩
      rw [← HS.out]
      exact HO.out

/-- the groups of seven bits of a number, from the second on -/
def hi7 : Nat → Nat → List Nat
  | 0, _ => []
  | f + 1, x => if x = 0 then [] else (x % 128 + 128) :: hi7 f (x / 128)
/-- the encoding of a number -/
def putN (v : Nat) : List Nat := ((v % 128) :: hi7 10 (v / 128)).reverse
theorem hi7_len : ∀ f x, (hi7 f x).length ≤ f
  | 0, _ => by simp [hi7]
  | f + 1, x => by
    unfold hi7
    split
    · simp
    · have := hi7_len f (x / 128); simp; omega
theorem putN_len (v : Nat) : (putN v).length ≤ 11 := by have := hi7_len 10 (v / 128); simp [putN]; omega
theorem hi7_byte : ∀ f x, Bytes (hi7 f x)
  | 0, _ => by intro y hy; simp [hi7] at hy
  | f + 1, x => by
    unfold hi7
    split
    · intro y hy; simp at hy
    · intro y hy
      rcases List.mem_cons.1 hy with rfl | hy
      · have := Nat.mod_lt x (by decide : 0 < 128); omega
      · exact hi7_byte f _ y hy
theorem putN_byte (v : Nat) : Bytes (putN v) := by
  intro y hy
  simp only [putN, List.mem_reverse] at hy
  rcases List.mem_cons.1 hy with rfl | hy
  · have := Nat.mod_lt v (by decide : 0 < 128); omega
  · exact hi7_byte _ _ y hy
theorem and127 {x : Nat} (h : x < T64) : bits .and .u64 (x : Int) 127 = ((x % 128 : Nat) : Int) := by
  have := and64 h (b := 127) (by simp [T64])
  rw [show ((127 : Nat) : Int) = 127 from rfl] at this
  rw [this]
  congr 1
  exact Nat.and_two_pow_sub_one_eq_mod x 7
theorem or128 (x : Nat) (h : x < 128) : bits .or .u8 (x : Int) 128 = ((x + 128 : Nat) : Int) := by
  have := u8_or_nat x 128 (by omega) (by omega)
  rw [show ((128 : Nat) : Int) = 128 from rfl] at this
  rw [this]
  congr 1
  have h1 := nat_join 7 128 x (by decide) (by omega)
  rw [Nat.or_comm, h1, Nat.add_comm]

theorem groups_any (v : Nat) (w : World) (hv : v < T64) :
    Calls Tryd.prog 72 #[.int .u64 (v : Int)] w (Ret (fun x w' => Sl w' (w.heap.size ≤ ·) 1 x (putN v).length (u8s (putN v))) w) := by
  obtain ⟨i0, hi, hz0, hz1, hz2⟩ := info_parts info_u8
  have hA := and127 hv
  have hm : v % 128 < 128 := Nat.mod_lt _ (by decide)
  have HV := Lib.hid hv
  clear hv
  go_enter Tryd.func72, Tryd.ntmps72
  go_wp2
  have hx0 : v / 128 < 128 ^ 10 := by have := HV.out; unfold T64 at this; omega
  have hxT : v / 128 < T64 := Nat.lt_of_le_of_lt (Nat.div_le_self _ _) HV.out
  have hown0 : (w.alloc (Obj.cells #[Value.int .u8 ((v : Int) % 128)] 5)).ownsRow w.heap.size 5 1 (.slice (some ⟨w.heap.size, 0, none⟩) 1 1) 1 (u8s [v % 128]) := by
    have := World.ownsRow_lit (base := w.heap.size) (e := 5) (size := 1) w #[Value.int .u8 ((v : Int) % 128)] 1 (Nat.le_refl _) (by simp [maxLen]) (by simp)
    simpa [u8s] using this
  have hbw0 : Below w.heap.size w (w.alloc (Obj.cells #[Value.int .u8 ((v : Int) % 128)] 5)) := (Below.refl _ _).alloc (Nat.le_refl _) _
  generalize (w.alloc (Obj.cells #[Value.int .u8 ((v : Int) % 128)] 5)) = W at *
  have H0 := Lib.hid hx0
  have HT := Lib.hid hxT
  clear hA hm hx0 hxT
  go_loopw [0, 3] (fun t s wr => ∃ (x f : Nat) (pre : List Nat), t = .int .u64 x ∧ Hid (x < 128 ^ f ∧ x < T64 ∧ pre ++ hi7 f x = hi7 10 (v / 128)) ∧ pre.length + f = 10 ∧ wr.ownsRow w.heap.size 5 1 s (pre.length + 1) (u8s (v % 128 :: pre)) ∧ Below w.heap.size w wr) (fun t _ _ => (intOf t).toNat)
  case atStart => exact ⟨v / 128, 10, [], by congr 1, ⟨H0.out, HT.out, rfl⟩, rfl, hown0, hbw0⟩
  case round =>
    clear hown0 hbw0
    obtain ⟨x, f, pre, rfl, HX, hf, hown, hbw⟩ := hrel
    by_cases hx : x = 0
    · subst hx
      have HR := Lib.hid (show putN v = (v % 128 :: pre).reverse by
        have := HX.out.2.2
        have h0 : hi7 f 0 = [] := by cases f <;> simp [hi7]
        rw [h0, List.append_nil] at this
        rw [putN, this])
      obtain ⟨g, cap, rfl, hg1, hg2⟩ := hown.form (by omega)
      have HO := Lib.hid hown
      clear hown
      go_wp2_with fail
      refine (reverse_any g cap (v % 128 :: pre) _ w.heap.size HO.out (by simp; omega)).mono ?_
      rintro e w2 ⟨rfl, hown2, hgr⟩
      have HO2 := Lib.hid hown2
      clear hown2
      go_wp2_with fail
      go_ret
      rw [HR.out]
      have hs := Sl.of_own HO2.out
      exact Ret.mk (by simpa using hs) (hbw.grown hgr (by have := hbw.size; omega) (fun k hk => by injection hk with hk; omega))
    · have hx0 : 0 < x := by omega
      obtain ⟨f, rfl⟩ : ∃ f', f = f' + 1 := by
        cases f with
        | zero => have := HX.out.1; simp at this; omega
        | succ f => exact ⟨f, rfl⟩
      have hA := and127 HX.out.2.1
      have HB := Lib.hid (show Value.int .u8 (bits .or .u8 ((x : Int) % 128) 128) = .int .u8 ((x % 128 + 128 : Nat) : Int) by
        have := or128 (x % 128) (Nat.mod_lt _ (by decide))
        rw [← this]; simp)
      have HX' : Hid (x / 128 < 128 ^ f ∧ x / 128 < T64 ∧ (pre ++ [x % 128 + 128]) ++ hi7 f (x / 128) = hi7 10 (v / 128)) := by
        obtain ⟨h1, h2, h3⟩ := HX.out
        refine ⟨?_, Nat.lt_of_le_of_lt (Nat.div_le_self _ _) h2, ?_⟩
        · rw [Nat.pow_succ] at h1; exact Nat.div_lt_of_lt_mul (by omega)
        · rw [← h3, hi7, if_neg (by omega)]; simp
      have HO := Lib.hid hown
      have hsz := hbw.size
      clear hx hown HX
      go_wp2_with (at_builtin; refine wpList_append_sl _ rfl _ _ 47 rfl w.heap.size 5 i0 (.int .u8 0) 1 1 Tryd.underlying47 hi hz0 hz1 hz2 rfl (by decide) _ (pre.length + 1) (u8s (v % 128 :: pre)) rfl (HO.out.alloc _) _ _ 1 _ rfl (Sl.new wr 5 [.int .u8 (bits .or .u8 ((x : Int) % 128) 128)] (by simp)) (by intro u hu; simp at hu; subst hu; rfl) (by unfold maxLen; omega) (by omega) (by simp; omega) ?_; intro v' w2 hown2 hgrow2 _; have HO2 := Lib.hid hown2; have HG2 := Lib.hid hgrow2; clear hown2 hgrow2)
      have ho := HO2.out
      rw [HB.out] at ho
      refine ⟨⟨x / 128, f, pre ++ [x % 128 + 128], by congr 1, HX', by simp; omega, ?_, ?_⟩, ?_⟩
      · simpa [u8s] using ho
      · exact (hbw.alloc hsz _).grown HG2.out (by simp; omega) (fun k hk => ((HO.out.alloc (.cells #[.int .u8 (bits .or .u8 ((x : Int) % 128) 128)] 5)).lt k hk).1)
      · simp [intOf]; omega
end Go.Proofs.YtenpkgdnlogfiaaDoor
