/-
  What bits.Of computes: the set of some numbers.
-/
import Derived.Test.YtenpkgdnlogfiaaDoorBits4
namespace Go.Proofs.YtenpkgdnlogfiaaDoor
open Go.RowKit
attribute [local go_sem ↓] Go.wp_at_zero Go.wp_at_succ

/-- the set of some numbers: those from 0 to 4095 -/
def addM (N : Nat) (i : Int) : Nat := if 0 ≤ i ∧ i ≤ 4095 then N ||| 2 ^ i.toNat else N
def ofN (l : List Int) : Nat := l.foldl addM 0
def ints (l : List Int) : List Value := l.map (Value.int .i64)
theorem ints_length (l : List Int) : (ints l).length = l.length := by simp [ints]
theorem ints_at (l : List Int) (k : Nat) (h : k < l.length) : (ints l)[k]? = some (.int .i64 (l.getD k 0)) := by simp [ints, List.getElem?_eq_getElem h]
/-- the greatest of some numbers that is at most 4095; -1: there is none -/
def topM (t i : Int) : Int := if i ≤ 4095 then max t i else t
def topOf (l : List Int) : Int := l.foldl topM (-1)
theorem take_step {β : Type} (f : β → Int → β) (b : β) (l : List Int) (k : Nat) (h : k < l.length) : (l.take (k + 1)).foldl f b = f ((l.take k).foldl f b) (l.getD k 0) := by
  rw [List.take_succ_eq_append_getElem h, List.foldl_append, List.getD_eq_getElem?_getD, List.getElem?_eq_getElem h]; rfl
theorem topM_bd (l : List Int) : ∀ t : Int, -1 ≤ t → t ≤ 4095 → t ≤ l.foldl topM t ∧ l.foldl topM t ≤ 4095 ∧ ∀ x ∈ l, x ≤ 4095 → x ≤ l.foldl topM t := by
  induction l with
  | nil => intro t h1 h2; exact ⟨Int.le_refl _, h2, fun x hx => by simp at hx⟩
  | cons y r ih =>
    intro t h1 h2
    have h3 : t ≤ topM t y ∧ topM t y ≤ 4095 ∧ (y ≤ 4095 → y ≤ topM t y) := by unfold topM; split <;> omega
    obtain ⟨h4, h5, h6⟩ := ih (topM t y) (by omega) h3.2.1
    refine ⟨by simp only [List.foldl_cons]; omega, h5, fun x hx hx' => ?_⟩
    rcases List.mem_cons.1 hx with rfl | hx
    · have := h3.2.2 hx'; simp only [List.foldl_cons]; omega
    · exact h6 x hx hx'
theorem topOf_bd (l : List Int) : -1 ≤ topOf l ∧ topOf l ≤ 4095 := ⟨(topM_bd l (-1) (by omega) (by omega)).1, (topM_bd l (-1) (by omega) (by omega)).2.1⟩
theorem topOf_mem {l : List Int} {x : Int} (h : x ∈ l) (hx : x ≤ 4095) : x ≤ topOf l := (topM_bd l (-1) (by omega) (by omega)).2.2 x h hx
theorem ofN_empty {l : List Int} (h : topOf l < 0) : ofN l = 0 := by
  have : ∀ m : List Int, (∀ x ∈ m, x ∈ l) → m.foldl addM 0 = 0 := by
    intro m
    induction m with
    | nil => intro _; rfl
    | cons y r ih =>
      intro hm
      have hy : addM 0 y = 0 := by
        unfold addM
        rw [if_neg]
        intro hc
        have := topOf_mem (hm y (by simp)) hc.2
        omega
      rw [List.foldl_cons, hy]
      exact ih fun x hx => hm x (by simp [hx])
  exact this l fun _ h => h
theorem val_addM {L : List Nat} (h : Words L) {m : Nat} (hm : m / 64 < L.length) :
    Words (L.set (m / 64) (L.getD (m / 64) 0 ||| 2 ^ (m % 64))) ∧ val (L.set (m / 64) (L.getD (m / 64) 0 ||| 2 ^ (m % 64))) = val L ||| 2 ^ m := by
  have hp : 2 ^ (m % 64) < T64 := by rw [T64_eq]; exact Nat.pow_lt_pow_right (by decide) (Nat.mod_lt _ (by decide))
  have hw : Words (L.set (m / 64) (L.getD (m / 64) 0 ||| 2 ^ (m % 64))) := h.set (or_lt (h.getD _) hp)
  refine ⟨hw, Nat.eq_of_testBit_eq fun i => ?_⟩
  rw [testBit_val hw, set_getD _ _ _ _ hm, Nat.testBit_or, Nat.testBit_two_pow, testBit_val h]
  by_cases hi : i / 64 = m / 64
  · rw [if_pos hi, Nat.testBit_or, Nat.testBit_two_pow, hi]
    congr 1
    by_cases he : i % 64 = m % 64
    · have : m = i := by omega
      subst this; simp
    · have h1 : m ≠ i := by intro e; subst e; exact he rfl
      simp [h1, Ne.symm he]
  · have h1 : m ≠ i := by intro e; subst e; exact hi rfl
    rw [if_neg hi]; simp [h1]
/-- the cell of number k of a slice of ints -/
theorem Sl.int {w : World} {D : Nat → Prop} {A : Option Addr} {c : Nat} {l : List Int} (h : Sl w D 1 (.slice A l.length c) l.length (ints l)) {k : Nat} (hk : k < l.length) :
    ∃ b o, A = some ⟨b, o, none⟩ ∧ D b ∧ b < w.heap.size ∧ ∀ j, j < l.length → w.cell? ⟨b, o + j, none⟩ = some (.int .i64 (l.getD j 0)) := by
  obtain ⟨_, A', c', h1, _, _, h2⟩ := h
  obtain ⟨b, o, h3, h4, h6, h5⟩ := h2 (by omega)
  injection h1 with h1
  exact ⟨b, o, h1.trans h3, h4, h6, fun j hj => h5 j _ (ints_at l j hj)⟩

set_option maxRecDepth 20000 in
theorem of_any (v : Value) (l : List Int) (w : World) (D : Nat → Prop) (hs : Sl w D 1 v l.length (ints l)) :
    Calls Tryd.prog 25 #[v] w (Ret (fun x w' => IsSet w' (w.heap.size ≤ ·) x (ofN l)) w) := by
  have hs0 := hs
  obtain ⟨_, A, c, rfl, hc1, hc2, _⟩ := hs0
  obtain ⟨i0, hi, hz0, hz1, hz2⟩ := info_parts info_u64
  unfold maxLen at hc2
  go_enter Tryd.func25, Tryd.ntmps25
  go_wp2
  have hs' := hs.alloc (Obj.cells #[Value.slice none 0 0] 53)
  go_loop [3, 11] (fun t i => ∃ k : Nat, k ≤ l.length ∧ i = .int .i64 k ∧ t = .int .i64 (topOf (l.take k))) (fun _ i => l.length - (intOf i).toNat)
  case atStart => exact ⟨0, by omega, rfl, rfl⟩
  case round =>
    obtain ⟨k, hk, rfl, rfl⟩ := hrel
    by_cases hlt : k < l.length
    · obtain ⟨b, o, rfl, _, hb, hc⟩ := hs'.int hlt
      have hx := hc k hlt
      have HT := Lib.hid (show topOf (l.take (k + 1)) = topM (topOf (l.take k)) (l.getD k 0) from take_step topM (-1) l k hlt)
      have hbd := topOf_bd (l.take k)
      obtain ⟨hbd1, hbd2⟩ := hbd
      clear hc
      generalize l.getD k 0 = x at *
      generalize topOf (l.take k) = t at *
      by_cases h1 : x ≤ 4095
      · by_cases h2 : t < x
        · have HE := Lib.hid (show topM t x = x by unfold topM; rw [if_pos h1]; omega)
          go_wp2
          go_round
          case rel => exact ⟨k + 1, hlt, by go_num, by rw [HT.out, HE.out]⟩
          case measure => simp [intOf]; omega
        · have HE := Lib.hid (show topM t x = t by unfold topM; rw [if_pos h1]; omega)
          go_wp2
          go_round
          case rel => exact ⟨k + 1, hlt, by go_num, by rw [HT.out, HE.out]⟩
          case measure => simp [intOf]; omega
      · have HE := Lib.hid (show topM t x = t by unfold topM; rw [if_neg h1])
        go_wp2
        go_round
        case rel => exact ⟨k + 1, hlt, by go_num, by rw [HT.out, HE.out]⟩
        case measure => simp [intOf]; omega
    · obtain rfl : k = l.length := by omega
      rw [List.take_length]
      have hbd := topOf_bd l
      obtain ⟨hbd1, hbd2⟩ := hbd
      have HM := Lib.hid (fun x (hx : x ∈ l) => @topOf_mem l x hx)
      have HE := Lib.hid (@ofN_empty l)
      generalize topOf l = t at *
      by_cases ht : t < 0
      · have HE' := Lib.hid (HE.out ht)
        go_wp2
        refine bodyPost_ret (v := .agg #[.slice none 0 0]) (by simp [results, Tryd.results25, go_sem]) rfl ?_
        rw [HE'.out]
        exact Ret.mk IsSet.empty ((Below.refl _ _).alloc (Nat.le_refl _) _)
      · obtain ⟨t, rfl⟩ := Int.eq_ofNat_of_zero_le (by omega : 0 ≤ t)
        obtain ⟨n, hn⟩ : ∃ n, n = t / 64 + 1 := ⟨_, rfl⟩
        have hn64 : n ≤ 64 := by omega
        have hti : (t : Int) / 64 + 1 = n := by omega
        have HN := Lib.hid hn
        clear hn ht
        go_wp2_with (at_make; refine wpList_make_full _ rfl _ _ 51 rfl (w.heap.size + 1) 68 i0 (.int .u64 0) 1 Tryd.underlying51 hi hz0 hz1 _ _ _ _ n rfl rfl (by omega) (by omega) (by rw [hz2]; omega) (by unfold maxLen; omega) (by simp) ?_; intro w1 hown hgrow)
        have hbw := (((Below.refl w.heap.size w).alloc (Nat.le_refl _) (Obj.cells #[Value.slice none 0 0] 53))).grown hgrow (by simp) (by simp)
        have hc2 : w1.cell? ⟨w.heap.size, 0, none⟩ = some (.slice none 0 0) := hgrow.cell (by go_simp) (by simp)
        have hf2 : w1.frozen? ⟨w.heap.size, 0, none⟩ = false := (World.frozen?_of_block (hgrow.block _ (by simp) (by simp))).trans (by go_simp)
        rw [Nat.mul_one, show (Value.int .u64 0).cells = #[Value.int .u64 0] from rfl, madeCells_u64] at hown
        simp only [World.size_alloc] at hown
        clear hgrow hti
        go_loopw [30] (fun i wr => ∃ (k : Nat) (L : List Nat), k ≤ l.length ∧ i = .int .i64 k ∧ L.length = n ∧ Words L ∧ val L = ofN (l.take k) ∧ wr.ownsRow (w.heap.size + 1) 68 1 (.slice (some ⟨w.heap.size + 1, 0, none⟩) n n) n (u64s L) ∧
          wr.cell? ⟨w.heap.size, 0, none⟩ = some (.slice none 0 0) ∧ wr.frozen? ⟨w.heap.size, 0, none⟩ = false ∧ Below w.heap.size w wr) (fun i _ => l.length - (intOf i).toNat)
        case atStart =>
          refine ⟨0, List.replicate n 0, by omega, rfl, by simp, ?_, ?_, hown, hc2, hf2, hbw⟩
          · intro x hx; rw [List.mem_replicate] at hx; rw [hx.2]; simp [T64]
          · have : ∀ q, val (List.replicate q 0) = 0 := by intro q; induction q with
              | zero => rfl
              | succ q ih => simp [List.replicate_succ, val, ih]
            rw [this]; rfl
        case round =>
          clear hown hc2 hf2 hbw
          obtain ⟨k, L, hk, rfl, hL, hW, hV, hown, hc2, hf2, hbw⟩ := hrel
          by_cases hlt : k < l.length
          · obtain ⟨b, o, rfl, _, hb, hc⟩ := (hs.ext hbw).int hlt
            have hx := hc k hlt
            have hmem : l.getD k 0 ∈ l := by rw [List.getD_eq_getElem?_getD, List.getElem?_eq_getElem hlt]; exact List.getElem_mem hlt
            have hxt := HM.out _ hmem
            have HT := Lib.hid (show ofN (l.take (k + 1)) = addM (ofN (l.take k)) (l.getD k 0) from take_step addM 0 l k hlt)
            have HV := Lib.hid hV
            have HL := Lib.hid hL
            have HW := Lib.hid hW
            clear hc hmem hV hL hW
            generalize l.getD k 0 = x at *
            by_cases hx0 : 0 ≤ x
            · by_cases hx1 : x ≤ t
              · obtain ⟨m, rfl⟩ := Int.eq_ofNat_of_zero_le hx0
                have hmn : m / 64 < n := by have := HN.out; omega
                have HE := Lib.hid (show addM (ofN (l.take k)) m = ofN (l.take k) ||| 2 ^ m by unfold addM; rw [if_pos (by omega)]; rfl)
                have hstep := hown.cellAt (m / 64) (by omega)
                rw [u64s_at L _ (by have := HL.out; omega)] at hstep
                have hfz := hown.frozenAt (m / 64)
                have HA := Lib.hid (val_addM HW.out (m := m) (by have := HL.out; omega))
                have hA : bits .or .u64 ((L.getD (m / 64) 0 : Nat) : Int) (IntKind.u64.wrap ((2 : Int) ^ (m % 64))) = ((L.getD (m / 64) 0 ||| 2 ^ (m % 64) : Nat) : Int) := by
                  rw [shl64 (m % 64) (Nat.mod_lt _ (by decide))]
                  exact or64 (HW.out.getD _) (by rw [T64_eq]; exact Nat.pow_lt_pow_right (by decide) (Nat.mod_lt _ (by decide)))
                have HS : Hid _ := @own_set wr wr _ _ _ _ _ (m / 64) (L.getD (m / 64) 0 ||| 2 ^ (m % 64)) _ hown (Below.refl _ _)
                clear hown
                generalize (L.getD (m / 64) 0 ||| 2 ^ (m % 64)) = z at *
                generalize L.getD (m / 64) 0 = y at *
                go_wp2
                go_region
                all_goals
                  go_wp2
                  refine ⟨⟨k + 1, L.set (m / 64) z, hlt, by go_num, by rw [List.length_set]; exact HL.out, HA.out.1, by rw [HA.out.2, HV.out, HT.out, HE.out], HS.out, (World.cell?_setCell_other _ _ _ _ (by simp)).trans hc2, ?_, (hbw.setCell (by simp) _).drew⟩, by simp [intOf]; omega⟩
                  rw [World.frozen?_drew, World.frozen?_setCell]; exact hf2
              · have HE := Lib.hid (show addM (ofN (l.take k)) x = ofN (l.take k) by unfold addM; rw [if_neg (by intro h; have := hxt h.2; omega)])
                go_wp2
                exact ⟨⟨k + 1, L, hlt, by go_num, HL.out, HW.out, by rw [HV.out, HT.out, HE.out], hown, hc2, hf2, hbw⟩, by simp [intOf]; omega⟩
            · have HE := Lib.hid (show addM (ofN (l.take k)) x = ofN (l.take k) by unfold addM; rw [if_neg (by omega)])
              go_wp2
              exact ⟨⟨k + 1, L, hlt, by go_num, HL.out, HW.out, by rw [HV.out, HT.out, HE.out], hown, hc2, hf2, hbw⟩, by simp [intOf]; omega⟩
          · obtain rfl : k = l.length := by omega
            rw [List.take_length] at hV
            have HV := Lib.hid hV
            have hs2 := Sl.of_own hown
            have HL := Lib.hid hL
            clear hV hown hL
            go_wp2_with fail
            refine (trim_any _ L _ _ hW (by rw [HL.out]; exact hn64) (by rw [HL.out]; exact hs2)).mono ?_
            rintro e w3 ⟨u, rfl, hu, hb3⟩
            obtain ⟨A3, c3, l3, rfl, _, _, _, _, _⟩ := hu.parts
            have hsz := (World.block_lt_of_cell? _ _ hc2 : w.heap.size < wr.heap.size)
            have hk3 : w3.cell? ⟨w.heap.size, 0, none⟩ = some (.slice none 0 0) := (hb3.cell (p := ⟨w.heap.size, 0, none⟩) hsz).trans hc2
            have hf3 : w3.frozen? ⟨w.heap.size, 0, none⟩ = false := (hb3.frozen (p := ⟨w.heap.size, 0, none⟩) hsz).trans hf2
            have hbw3 : Below w.heap.size w w3 := hbw.trans (hb3.mono (Nat.le_of_lt hsz))
            go_wp2_with fail
            refine bodyPost_ret (v := .agg #[.slice A3 l3.length c3]) (by simp [results, Tryd.results25, go_sem, hk3]) rfl ?_
            rw [← HV.out]
            exact Ret.mk ((hu.setCell (by show ¬ _ ≤ w.heap.size; omega) _).imp fun b hb _ => by omega) (hbw3.setCell (by simp) _)
theorem IsSet.shape {w : World} {D : Nat → Prop} {v : Value} {N : Nat} (h : IsSet w D (.agg #[v]) N) : ∃ A n c, v = .slice A n c := by
  obtain ⟨A, c, l, e, _⟩ := h.parts
  injection e with e
  exact ⟨A, l.length, c, by simpa using e⟩
end Go.Proofs.YtenpkgdnlogfiaaDoor
