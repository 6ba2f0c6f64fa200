/-
  Lists of cubes that the laws make of masks (arbaclaw14.MakeAll).
-/
import Derived.Test.YtenpkgdnlogfiaaGreatDoorRef1
namespace Go.Proofs.YtenpkgdnlogfiaaGreatDoor
open Go.RowKit
attribute [local go_sem ↓] Go.wp_at_zero Go.wp_at_succ
set_option maxRecDepth 20000

/-- the cells of a list of cubes given by masks -/
def rcells (l : List (Nat × Nat)) : List Value := l.flatMap fun z => [.int .u64 (z.1 : Nat), .int .u64 (z.2 : Nat)]
theorem rcells_len (l : List (Nat × Nat)) : (rcells l).length = l.length * 2 := by
  induction l with
  | nil => rfl
  | cons z r ih => simp only [rcells, List.flatMap_cons, List.length_append, List.length_cons] at *; simp at *; omega
theorem rcells_at (l : List (Nat × Nat)) (k : Nat) (h : k < l.length) : (rcells l)[k * 2]? = some (.int .u64 ((l.getD k (0, 0)).1 : Nat)) ∧ (rcells l)[k * 2 + 1]? = some (.int .u64 ((l.getD k (0, 0)).2 : Nat)) := by
  induction l generalizing k with
  | nil => simp at h
  | cons z r ih =>
    cases k with
    | zero => simp [rcells]
    | succ k =>
      have := ih k (by simpa using h)
      rw [show (k + 1) * 2 = k * 2 + 2 by omega]
      simpa [rcells] using this
theorem rcells_one (l : List (Nat × Nat)) : ∀ u ∈ rcells l, u.oneCell' = true := by
  intro u hu; simp [rcells] at hu; obtain ⟨a, b, _, h⟩ := hu; rcases h with rfl | rfl <;> rfl
theorem rcells_append (a b : List (Nat × Nat)) : rcells (a ++ b) = rcells a ++ rcells b := by simp [rcells]
/-- v is a list of cubes as the references have it -/
def RCubes (w : World) (D : Nat → Prop) (v : Value) (l : List (Nat × Nat)) : Prop := Sl w D 2 v l.length (rcells l)
theorem RCubes.keep {w w' : World} {D : Nat → Prop} {v : Value} {l : List (Nat × Nat)} (h : RCubes w D v l) (hsz : w.heap.size ≤ w'.heap.size) (hk : ∀ p : Addr, D p.block → p.block < w.heap.size → w'.cell? p = w.cell? p) : RCubes w' D v l := Sl.keep h hsz hk
theorem RCubes.imp {w : World} {D D' : Nat → Prop} {v : Value} {l : List (Nat × Nat)} (h : RCubes w D v l) (hD : ∀ b, D b → b < w.heap.size → D' b) : RCubes w D' v l := Sl.imp h hD
theorem RCubes.ext {w w' : World} {D : Nat → Prop} {v : Value} {l : List (Nat × Nat)} (h : RCubes w D v l) (hb : Below w.heap.size w w') : RCubes w' D v l := h.keep hb.size fun _ _ hp => hb.cell hp
theorem RCubes.drew {w : World} {D : Nat → Prop} {v : Value} {l : List (Nat × Nat)} (h : RCubes w D v l) : RCubes w.drew D v l := h.keep (Nat.le_refl _) fun _ _ _ => rfl
theorem RCubes.alloc {w : World} {D : Nat → Prop} {v : Value} {l : List (Nat × Nat)} (h : RCubes w D v l) (o : Obj) : RCubes (w.alloc o) D v l := h.keep (by simp) fun p _ hp => World.cell?_alloc_lt w o p hp
theorem RCubes.upd {g : Nat} {w w' : World} {D : Nat → Prop} {v : Value} {l : List (Nat × Nat)} (h : RCubes w D v l) (hU : Upd g w w') (hD : ∀ b, D b → b < w.heap.size → b ≠ g) : RCubes w' D v l := h.keep (Nat.le_of_eq hU.size.symm) fun _ h1 h2 => hU.cell (hD _ h1 h2)
theorem RCubes.app {w w' : World} {base : Nat} {v0 v1 : Value} {v : Value} {l : List (Nat × Nat)} (h : RCubes w (notOwn base v0) v l) (hg : w.grownBy w' v0.ownBlock) (hat : ∀ k, v1.ownBlock = some k → v0.ownBlock = some k ∨ w.heap.size ≤ k) : RCubes w' (notOwn base v1) v l :=
  ((h.imp (D' := fun b => (base ≤ b ∧ v0.ownBlock ≠ some b) ∧ b < w.heap.size) fun _ h1 h2 => ⟨h1, h2⟩).keep hg.size fun _ h1 h2 => grown_cell hg h2 h1.1.2).imp fun b h1 _ => ⟨h1.1.1, fun e => by
    rcases hat b e with h | h
    · exact h1.1.2 h
    · have := h1.2; omega⟩
theorem RCubes.shape {w : World} {D : Nat → Prop} {v : Value} {l : List (Nat × Nat)} (h : RCubes w D v l) : ∃ A c, v = .slice A l.length c ∧ l.length ≤ c ∧ c ≤ 9223372036854775807 := Sl.shape h
theorem RCubes.at_ {w : World} {D : Nat → Prop} {A : Option Addr} {c : Nat} {l : List (Nat × Nat)} (h : RCubes w D (.slice A l.length c) l) {k : Nat} (hk : k < l.length) :
    ∃ b o, A = some ⟨b, o, none⟩ ∧ D b ∧ b < w.heap.size ∧ w.cell? ⟨b, o + k * 2, none⟩ = some (.int .u64 ((l.getD k (0, 0)).1 : Nat)) ∧ w.cell? ⟨b, o + k * 2 + 1, none⟩ = some (.int .u64 ((l.getD k (0, 0)).2 : Nat)) := by
  obtain ⟨_, A', c', h1, _, _, h2⟩ := h
  obtain ⟨b, o, h3, h4, h6, h5⟩ := h2 (by omega)
  injection h1 with h1
  obtain ⟨g1, g2⟩ := rcells_at l k hk
  exact ⟨b, o, h1.trans h3, h4, h6, h5 _ _ g1, by have := h5 _ _ g2; rw [← Nat.add_assoc] at this; exact this⟩

/-- the cells xs are the cubes l -/
def CubeCells (w : World) (D : Nat → Prop) (xs : List Value) (l : List (Nat × Nat)) : Prop :=
  ∀ i y n, l[i]? = some (y, n) → ∃ a b, xs[i * 2]? = some a ∧ xs[i * 2 + 1]? = some b ∧ IsSet w D (.agg #[a]) y ∧ IsSet w D (.agg #[b]) n
theorem CubeCells.keep {w w' : World} {D : Nat → Prop} {xs : List Value} {l : List (Nat × Nat)} (h : CubeCells w D xs l) (hsz : w.heap.size ≤ w'.heap.size) (hk : ∀ p : Addr, D p.block → p.block < w.heap.size → w'.cell? p = w.cell? p) : CubeCells w' D xs l := fun i y n hi => by
  obtain ⟨a, b, h1, h2, h3, h4⟩ := h i y n hi
  exact ⟨a, b, h1, h2, h3.keep hsz hk, h4.keep hsz hk⟩
theorem CubeCells.imp {w : World} {D D' : Nat → Prop} {xs : List Value} {l : List (Nat × Nat)} (h : CubeCells w D xs l) (hD : ∀ b, D b → b < w.heap.size → D' b) : CubeCells w D' xs l := fun i y n hi => by
  obtain ⟨a, b, h1, h2, h3, h4⟩ := h i y n hi
  exact ⟨a, b, h1, h2, h3.imp hD, h4.imp hD⟩
theorem CubeCells.ext {w w' : World} {D : Nat → Prop} {xs : List Value} {l : List (Nat × Nat)} (h : CubeCells w D xs l) (hb : Below w.heap.size w w') : CubeCells w' D xs l := h.keep hb.size fun _ _ hp => hb.cell hp
theorem CubeCells.drew {w : World} {D : Nat → Prop} {xs : List Value} {l : List (Nat × Nat)} (h : CubeCells w D xs l) : CubeCells w.drew D xs l := h.keep (Nat.le_refl _) fun _ _ _ => rfl
theorem CubeCells.alloc {w : World} {D : Nat → Prop} {xs : List Value} {l : List (Nat × Nat)} (h : CubeCells w D xs l) (o : Obj) : CubeCells (w.alloc o) D xs l := h.keep (by simp) fun p _ hp => World.cell?_alloc_lt w o p hp
theorem CubeCells.upd {g : Nat} {w w' : World} {D : Nat → Prop} {xs : List Value} {l : List (Nat × Nat)} (h : CubeCells w D xs l) (hU : Upd g w w') (hD : ∀ b, D b → b < w.heap.size → b ≠ g) : CubeCells w' D xs l := h.keep (Nat.le_of_eq hU.size.symm) fun _ h1 h2 => hU.cell (hD _ h1 h2)
theorem CubeCells.app {w w' : World} {base : Nat} {v0 v1 : Value} {xs : List Value} {l : List (Nat × Nat)} (h : CubeCells w (notOwn base v0) xs l) (hg : w.grownBy w' v0.ownBlock) (hat : ∀ k, v1.ownBlock = some k → v0.ownBlock = some k ∨ w.heap.size ≤ k) : CubeCells w' (notOwn base v1) xs l :=
  ((h.imp (D' := fun b => (base ≤ b ∧ v0.ownBlock ≠ some b) ∧ b < w.heap.size) fun _ h1 h2 => ⟨h1, h2⟩).keep hg.size fun _ h1 h2 => grown_cell hg h2 h1.1.2).imp fun b h1 _ => ⟨h1.1.1, fun e => by
    rcases hat b e with h | h
    · exact h1.1.2 h
    · have := h1.2; omega⟩
theorem CubeCells.nil {w : World} {D : Nat → Prop} : CubeCells w D [] [] := fun i y n h => by simp at h
theorem CubeCells.push {w : World} {D : Nat → Prop} {xs : List Value} {l : List (Nat × Nat)} {a b : Value} {y n : Nat} (h : CubeCells w D xs l) (hl : xs.length = l.length * 2) (ha : IsSet w D (.agg #[a]) y) (hb : IsSet w D (.agg #[b]) n) : CubeCells w D (xs ++ [a, b]) (l ++ [(y, n)]) := fun i y' n' hi => by
  rcases Nat.lt_or_ge i l.length with hlt | hge
  · rw [List.getElem?_append_left hlt] at hi
    obtain ⟨a', b', h1, h2, h3, h4⟩ := h i y' n' hi
    exact ⟨a', b', by rw [List.getElem?_append_left (by omega)]; exact h1, by rw [List.getElem?_append_left (by omega)]; exact h2, h3, h4⟩
  · have hi2 : i = l.length := by
      have := (List.getElem?_eq_some_iff.1 hi).1
      simp at this; omega
    subst hi2
    simp at hi
    obtain ⟨rfl, rfl⟩ := hi
    exact ⟨a, b, by rw [List.getElem?_append_right (by omega), hl]; simp, by rw [List.getElem?_append_right (by omega), show l.length * 2 + 1 - xs.length = 1 by omega]; rfl, ha, hb⟩
theorem CubeCells.cubes {w : World} {base : Nat} {v : Value} {xs : List Value} {l : List (Nat × Nat)} {e : TypeId} {D : Nat → Prop} (h : CubeCells w D xs l) (ho : w.ownsRow base e 2 v l.length xs) (hD : ∀ b, base ≤ b → D b) : IsCubes w D v l := ⟨xs, (Sl.of_own ho).imp fun b h1 _ => hD b h1, h⟩
theorem ty_cubes : SliceTy Tryz.prog 33 54 2 48 := ⟨Tryz.underlying33, by kernel_rfl⟩
theorem take_getD {α : Type} (l : List α) (k : Nat) (d : α) (h : k < l.length) : l.take (k + 1) = l.take k ++ [l.getD k d] := by
  rw [List.take_succ_eq_append_getElem h, List.getD_eq_getElem?_getD, List.getElem?_eq_getElem h]; rfl
def Small (l : List (Nat × Nat)) : Prop := ∀ z ∈ l, z.1 < T64 ∧ z.2 < T64
theorem Small.at_ {l : List (Nat × Nat)} (h : Small l) (k : Nat) (hk : k < l.length) : (l.getD k (0, 0)).1 < T64 ∧ (l.getD k (0, 0)).2 < T64 := h _ (by rw [List.getD_eq_getElem?_getD, List.getElem?_eq_getElem hk]; exact List.getElem_mem hk)

theorem makeall_any (v : Value) (l : List (Nat × Nat)) (w : World) (D : Nat → Prop) (hv : RCubes w D v l) (hl : Small l) (hn : l.length ≤ 1000000) :
    Calls Tryz.prog 18 #[v] w (Ret (fun x w' => IsCubes w' (w.heap.size ≤ ·) x l) w) := by
  obtain ⟨A, c, rfl, _, _⟩ := hv.shape
  have HL := Lib.hid hl
  clear hl
  go_enter Tryz.func18, Tryz.ntmps18
  go_wp2
  go_loopw [3, 8] (fun u i wr => ∃ k : Nat, k ≤ l.length ∧ i = .int .i64 k ∧ Below w.heap.size w wr ∧ ∃ xs, wr.ownsRow w.heap.size 54 2 u k xs ∧ CubeCells wr (notOwn w.heap.size u) xs (l.take k) ∧ ∀ b, u.ownBlock = some b → w.heap.size ≤ b) (fun _ i _ => l.length - (intOf i).toNat)
  case atStart => exact ⟨0, by omega, rfl, Below.refl _ _, [], World.ownsRow_nil _ _ _ _, CubeCells.nil, by simp [Value.ownBlock]⟩
  case round =>
    obtain ⟨k, hk, rfl, hB, xs, hown, hC, hge⟩ := hrel
    have HO := Lib.hid hown
    have HG := Lib.hid hge
    clear hown hge
    by_cases hlt : k < l.length
    · obtain ⟨b, o, rfl, _, hb, hc0, hc1⟩ := (hv.ext hB).at_ hlt
      have hs := HL.out.at_ k hlt
      have HT := Lib.hid (take_getD l k (0, 0) hlt)
      have hsz := hB.size
      generalize (l.getD k (0, 0)) = z at *
      obtain ⟨y, n⟩ := z
      go_wp2_with fail
      refine (lmake_any y n hs.1 hs.2 _).mono ?_
      rintro e w2 ⟨v2, rfl, ⟨a2, b2, rfl, ha, hb⟩, hb2⟩
      obtain ⟨A2, m2, c2, rfl⟩ := ha.shape
      obtain ⟨A3, m3, c3, rfl⟩ := hb.shape
      replace hb2 := bel_al hb2
      have hC2 := hC.ext hb2
      have HO2 := Lib.hid (own_ext HO.out hb2)
      have hB2 := bel_tr hB hb2
      have hsz2 := hB2.size
      have hs2 := hb2.size
      have ha2 := ha.imp (D' := notOwn w.heap.size u3) fun b h1 _ => ⟨by simp at h1; omega, fun e => by have := (own_lt HO.out b e); simp at h1; omega⟩
      have hb3 := hb.imp (D' := notOwn w.heap.size u3) fun b h1 _ => ⟨by simp at h1; omega, fun e => by have := (own_lt HO.out b e); simp at h1; omega⟩
      clear hb2 hC ha hb hB
      go_wp2_with ((with_reducible show wpList _ _ _ (⟨some 15, _, _, _, _, _⟩ :: _) _ _); refine wpList_push_op rfl rfl _ _ _ _ rfl rfl ty_cubes w.heap.size _ k xs (.agg #[.slice A2 m2 c2, .slice A3 m3 c3]) #[.slice A2 m2 c2, .slice A3 m3 c3] rfl (by kernel_rfl) rfl rfl rfl HO2.out (by intro u hu; simp at hu; rcases hu with rfl | rfl <;> rfl) (by omega) (by omega) hsz2 ?_; intro v' w3 ho hg hat; have HO3 := Lib.hid ho; have HG3 := Lib.hid hg; have HA := Lib.hid hat; clear ho hg hat)
      refine ⟨⟨k + 1, hlt, by go_num, grown_below HG3.out hB2 hsz2 HG.out, _, HO3.out, ?_, fun b h => by rcases HA.out b h with h | h; exact HG.out b h; omega⟩, by simp [intOf]; omega⟩
      rw [HT.out]
      exact (hC2.app HG3.out HA.out).push (by rw [HO2.out.1]; simp; omega) (ha2.app HG3.out HA.out) (hb3.app HG3.out HA.out)
    · obtain rfl : k = l.length := by omega
      rw [List.take_length] at hC
      go_wp2_with fail
      go_ret
      exact Ret.mk ((hC.imp fun b h1 _ => h1.1).cubes HO.out fun b h => h) hB
end Go.Proofs.YtenpkgdnlogfiaaGreatDoor
