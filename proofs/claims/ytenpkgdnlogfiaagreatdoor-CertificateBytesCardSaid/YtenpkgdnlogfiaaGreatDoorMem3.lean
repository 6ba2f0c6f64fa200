/-
  Plain words for cubes and certificates as the program has them.
-/
import Derived.Test.YtenpkgdnlogfiaaGreatDoorMem2
import Derived.Test.YtenpkgdnlogfiaaGreatDoorBits
namespace Go.Proofs.YtenpkgdnlogfiaaGreatDoor
open Go.RowKit

/-- v is a list of cubes (as the program has them), each given by two masks -/
def IsCubes (w : World) (D : Nat → Prop) (v : Value) (l : List (Nat × Nat)) : Prop :=
  ∃ xs : List Value, Sl w D 2 v l.length xs ∧ ∀ i y n, l[i]? = some (y, n) → ∃ a b, xs[i * 2]? = some a ∧ xs[i * 2 + 1]? = some b ∧ IsSet w D (.agg #[a]) y ∧ IsSet w D (.agg #[b]) n
/-- a certificate -/
structure CertD where
  prob : List Nat
  reach : Bool
  plan : List Int
  cubes : List (Nat × Nat)
/-- v is a certificate (as the program has it) -/
def IsCert (w : World) (D : Nat → Prop) (v : Value) (c : CertD) : Prop :=
  ∃ (cs : Array Value) (pv qv : Value), v = .agg cs ∧ cs.size = 35 ∧ c.prob.length = 32 ∧ Bytes c.prob ∧ (∀ i, i < 32 → cs[i]? = some (.int .u8 (c.prob.getD i 0 : Nat))) ∧ cs[32]? = some (.bool c.reach) ∧ cs[33]? = some pv ∧ cs[34]? = some qv ∧
    Sl w D 1 pv c.plan.length (ints c.plan) ∧ IsCubes w D qv c.cubes
section
variable {w w' : World} {D D' : Nat → Prop} {v : Value}
theorem IsCubes.keep {l : List (Nat × Nat)} (h : IsCubes w D v l) (hsz : w.heap.size ≤ w'.heap.size) (hk : ∀ p : Addr, D p.block → p.block < w.heap.size → w'.cell? p = w.cell? p) : IsCubes w' D v l := by
  obtain ⟨xs, h1, h2⟩ := h
  refine ⟨xs, h1.keep hsz hk, fun i y n hi => ?_⟩
  obtain ⟨a, b, h3, h4, h5, h6⟩ := h2 i y n hi
  exact ⟨a, b, h3, h4, h5.keep hsz hk, h6.keep hsz hk⟩
theorem IsCubes.ext {l : List (Nat × Nat)} (h : IsCubes w D v l) (hb : Below w.heap.size w w') : IsCubes w' D v l := h.keep hb.size fun _ _ hp => hb.cell hp
theorem IsCubes.imp {l : List (Nat × Nat)} (h : IsCubes w D v l) (hD : ∀ b, D b → b < w.heap.size → D' b) : IsCubes w D' v l := by
  obtain ⟨xs, h1, h2⟩ := h
  refine ⟨xs, h1.imp hD, fun i y n hi => ?_⟩
  obtain ⟨a, b, h3, h4, h5, h6⟩ := h2 i y n hi
  exact ⟨a, b, h3, h4, h5.imp hD, h6.imp hD⟩
theorem IsCubes.wf {l : List (Nat × Nat)} {R : Nat → Prop} {q : Nat} (h : IsCubes w D v l) (hw : WF R q w w') (hD : ∀ b, D b → b < w.heap.size → b ≠ q ∧ ¬ R b) : IsCubes w' D v l :=
  h.keep hw.size fun p hp hl => World.cell?_of_block (hw.other p.block hl (hD _ hp hl).1 (hD _ hp hl).2)
theorem IsCubes.setCell {l : List (Nat × Nat)} (h : IsCubes w D v l) {q : Addr} (hq : ¬ D q.block) (y : Value) : IsCubes (w.setCell q y) D v l :=
  h.keep (by simp) fun p hp _ => World.cell?_setCell_other _ _ _ _ (by rintro rfl; exact hq hp)
theorem IsCubes.nil : IsCubes w D (.slice none 0 0) [] := ⟨[], Sl.none_, fun i y n h => by simp at h⟩
/-- one cube of a list: its two cells -/
theorem IsCubes.at_ {l : List (Nat × Nat)} {A : Option Addr} {n c : Nat} (h : IsCubes w D (.slice A n c) l) {k : Nat} (hk : k < l.length) :
    ∃ b o y m, A = some ⟨b, o, none⟩ ∧ D b ∧ b < w.heap.size ∧ w.cell? ⟨b, o + k * 2, none⟩ = some y ∧ w.cell? ⟨b, o + k * 2 + 1, none⟩ = some m ∧ IsSet w D (.agg #[y]) (l.getD k (0, 0)).1 ∧ IsSet w D (.agg #[m]) (l.getD k (0, 0)).2 := by
  obtain ⟨xs, ⟨hl, A', c', h1, _, _, h2⟩, h3⟩ := h
  injection h1 with h1
  obtain ⟨b, o, h4, h5, h6, h7⟩ := h2 (by omega)
  have hg : l[k]? = some ((l.getD k (0, 0)).1, (l.getD k (0, 0)).2) := by simp [List.getD_eq_getElem?_getD, List.getElem?_eq_getElem hk]
  obtain ⟨y, m, h8, h9, h10, h11⟩ := h3 k _ _ hg
  exact ⟨b, o, y, m, h1.trans h4, h5, h6, h7 _ _ h8, by have := h7 _ _ h9; rw [← Nat.add_assoc] at this; exact this, h10, h11⟩
theorem IsCert.keep {c : CertD} (h : IsCert w D v c) (hsz : w.heap.size ≤ w'.heap.size) (hk : ∀ p : Addr, D p.block → p.block < w.heap.size → w'.cell? p = w.cell? p) : IsCert w' D v c := by
  obtain ⟨cs, pv, qv, h1, h2, h3, h4, h5, h6, h7, h8, h9, h10⟩ := h
  exact ⟨cs, pv, qv, h1, h2, h3, h4, h5, h6, h7, h8, h9.keep hsz hk, h10.keep hsz hk⟩
theorem IsCert.ext {c : CertD} (h : IsCert w D v c) (hb : Below w.heap.size w w') : IsCert w' D v c := h.keep hb.size fun _ _ hp => hb.cell hp
theorem IsCert.imp {c : CertD} (h : IsCert w D v c) (hD : ∀ b, D b → b < w.heap.size → D' b) : IsCert w D' v c := by
  obtain ⟨cs, pv, qv, h1, h2, h3, h4, h5, h6, h7, h8, h9, h10⟩ := h
  exact ⟨cs, pv, qv, h1, h2, h3, h4, h5, h6, h7, h8, h9.imp hD, h10.imp hD⟩
theorem IsCert.drew {c : CertD} (h : IsCert w D v c) : IsCert w.drew D v c := h
theorem IsCubes.drew {l : List (Nat × Nat)} (h : IsCubes w D v l) : IsCubes w.drew D v l := h
theorem Sl.shape {size n : Nat} {xs : List Value} (h : Sl w D size v n xs) : ∃ A c, v = .slice A n c ∧ n ≤ c ∧ c ≤ 9223372036854775807 := by
  obtain ⟨_, A, c, h1, h2, h3, _⟩ := h
  exact ⟨A, c, h1, h2, by unfold maxLen at h3; omega⟩
theorem IsCubes.shape {l : List (Nat × Nat)} (h : IsCubes w D v l) : ∃ A c, v = .slice A l.length c ∧ l.length ≤ c ∧ c ≤ 9223372036854775807 := by obtain ⟨xs, h1, _⟩ := h; exact h1.shape
end
end Go.Proofs.YtenpkgdnlogfiaaGreatDoor
