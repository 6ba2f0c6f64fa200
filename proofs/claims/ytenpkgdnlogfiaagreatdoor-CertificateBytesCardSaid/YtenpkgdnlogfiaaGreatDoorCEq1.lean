/-
  What CertificateEquals computes: true, on all raw certificates.
-/
import Derived.Test.YtenpkgdnlogfiaaGreatDoorRef8
import Derived.Test.YtenpkgdnlogfiaaGreatDoorTyp4
import Derived.Test.YtenpkgdnlogfiaaGreatDoorAwake2
namespace Go.Proofs.YtenpkgdnlogfiaaGreatDoor
open Go.RowKit
attribute [local go_sem ↓] Go.wp_at_zero Go.wp_at_succ
set_option maxRecDepth 20000

theorem IsRaw.keep {w w' : World} {D : Nat → Prop} {v : Value} {x : RawCert} (h : IsRaw w D v x) (hsz : w.heap.size ≤ w'.heap.size) (hk : ∀ p : Addr, D p.block → p.block < w.heap.size → w'.cell? p = w.cell? p) : IsRaw w' D v x := by
  obtain ⟨pv, qv, h1, h2, h3⟩ := h
  exact ⟨pv, qv, h1, h2.keep hsz hk, h3.keep hsz hk⟩
theorem IsRaw.imp {w : World} {D D' : Nat → Prop} {v : Value} {x : RawCert} (h : IsRaw w D v x) (hD : ∀ b, D b → b < w.heap.size → D' b) : IsRaw w D' v x := by
  obtain ⟨pv, qv, h1, h2, h3⟩ := h
  exact ⟨pv, qv, h1, h2.imp hD, h3.imp hD⟩
theorem IsRaw.ext {w w' : World} {D : Nat → Prop} {v : Value} {x : RawCert} (h : IsRaw w D v x) (hb : Below w.heap.size w w') : IsRaw w' D v x := h.keep hb.size fun _ _ hp => hb.cell hp
theorem IsRaw.drew {w : World} {D : Nat → Prop} {v : Value} {x : RawCert} (h : IsRaw w D v x) : IsRaw w.drew D v x := h.keep (Nat.le_refl _) fun _ _ _ => rfl
theorem IsRaw.alloc {w : World} {D : Nat → Prop} {v : Value} {x : RawCert} (h : IsRaw w D v x) (o : Obj) : IsRaw (w.alloc o) D v x := h.keep (by simp) fun p _ hp => World.cell?_alloc_lt w o p hp
theorem IsRaw.upd {g : Nat} {w w' : World} {D : Nat → Prop} {v : Value} {x : RawCert} (h : IsRaw w D v x) (hU : Upd g w w') (hD : ∀ b, D b → b < w.heap.size → b ≠ g) : IsRaw w' D v x := h.keep (Nat.le_of_eq hU.size.symm) fun _ h1 h2 => hU.cell (hD _ h1 h2)
theorem IsRaw.app {w w' : World} {base : Nat} {v0 v1 : Value} {v : Value} {x : RawCert} (h : IsRaw w (notOwn base v0) v x) (hg : w.grownBy w' v0.ownBlock) (hat : ∀ k, v1.ownBlock = some k → v0.ownBlock = some k ∨ w.heap.size ≤ k) : IsRaw w' (notOwn base v1) v x :=
  ((h.imp (D' := fun b => (base ≤ b ∧ v0.ownBlock ≠ some b) ∧ b < w.heap.size) fun _ h1 h2 => ⟨h1, h2⟩).keep hg.size fun _ h1 h2 => grown_cell hg h2 h1.1.2).imp fun b h1 _ => ⟨h1.1.1, fun e => by
    rcases hat b e with h | h
    · exact h1.1.2 h
    · have := h1.2; omega⟩
theorem makeC_small {x : RawCert} (hx : x.ok) : Small (makeC x).cubes := by
  have h0 : Small (cubesM x) := cubesM_small hx
  have hz : Small (List.replicate 2001 (0, 0)) := by
    intro z hz
    obtain ⟨_, rfl⟩ := List.mem_replicate.1 hz
    exact ⟨by decide, by decide⟩
  unfold makeC
  dsimp only
  generalize List.replicate 2001 ((0 : Nat), (0 : Nat)) = L at *
  split
  · intro z hz
    revert h0 hz
    have h1 : ∀ z ∈ cubesM x, z.1 < 256 := by
      intro z hz
      obtain ⟨c, hc, rfl⟩ := List.mem_map.1 hz
      exact (fit_small (c := ⟨c.a, c.b, c.odd && decide (0 < x.odd)⟩) (hx.2.2 c (List.mem_of_mem_take hc))).1
    revert h1
    cases cubesM x with
    | nil => intro _ _ h; simp [headOdd] at h
    | cons a r =>
      intro h1 h0 h
      obtain ⟨y, n⟩ := a
      rcases List.mem_cons.1 h with rfl | h
      · refine ⟨?_, (h0 _ List.mem_cons_self).2⟩
        have := h1 _ List.mem_cons_self
        have h2 : y ||| 1 < 2 ^ 8 := Nat.or_lt_two_pow (by simpa using this) (by decide)
        dsimp only
        unfold T64; omega
      · exact h0 _ (List.mem_cons_of_mem _ h)
  · split
    · exact hz
    · split
      · intro z hz; simp at hz
      · exact h0
theorem makeC_len (x : RawCert) : (makeC x).plan.length ≤ 1000000 ∧ (makeC x).cubes.length ≤ 1000000 := by
  have h1 : (planM x).length ≤ 12 := by simp [planM]; omega
  have h2 : (cubesM x).length ≤ 8 := by simp [cubesM]; omega
  have h3 : (headOdd (cubesM x)).length = (cubesM x).length := by cases cubesM x <;> rfl
  have h4 : (List.replicate 10001 (0 : Int)).length = 10001 := List.length_replicate
  have h5 : (List.replicate 2001 ((0 : Nat), (0 : Nat))).length = 2001 := List.length_replicate
  unfold makeC
  dsimp only
  generalize List.replicate 10001 (0 : Int) = M at *
  generalize List.replicate 2001 ((0 : Nat), (0 : Nat)) = L at *
  constructor
  · split
    · omega
    · split
      · simp
      · omega
  · split
    · omega
    · split
      · omega
      · split
        · simp
        · omega
theorem makeC_prob {x : RawCert} (hx : x.ok) : (makeC x).prob.length = 32 ∧ Bytes (makeC x).prob := by
  unfold makeC
  dsimp only
  refine ⟨by simp, fun z hz => ?_⟩
  rcases List.mem_or_eq_of_mem_set hz with h | rfl
  · simp at h; omega
  · exact hx.1
theorem rc_of {x : RawCert} (hx : x.ok) {w w' : World} {v : Value} (h : ∃ pv qv, v = .agg (cc (makeC x).prob (makeC x).reach pv qv) ∧ Sl w' (w.heap.size ≤ ·) 1 pv (makeC x).plan.length (ints (makeC x).plan) ∧ RCubes w' (w.heap.size ≤ ·) qv (makeC x).cubes) :
    IsRCert w' (fun b => w.heap.size ≤ b ∧ b < w'.heap.size) v (makeC x) := by
  obtain ⟨pv, qv, h1, h2, h3⟩ := h
  exact ⟨pv, qv, h1, (makeC_prob hx).1, (makeC_prob hx).2, h2.imp fun b h1 h2 => ⟨h1, h2⟩, h3.imp fun b h1 h2 => ⟨h1, h2⟩⟩
theorem IsRCert.row {w : World} {D : Nat → Prop} {v : Value} {c : CertD} (h : IsRCert w D v c) : ∃ cs : Array Value, v = .agg cs ∧ cs.size = 35 ∧ cs.all (·.oneCell') = true := by
  obtain ⟨pv, qv, rfl, h32, _, hp, hq⟩ := h
  obtain ⟨A, c1, rfl, _, _⟩ := hp.shape
  obtain ⟨B, c2, rfl, _, _⟩ := hq.shape
  exact ⟨_, rfl, cc_size _ _ _ _ h32, cc_one _ _ _ _ _ _ _ _⟩
theorem IsCert.upd {g : Nat} {w w' : World} {D : Nat → Prop} {v : Value} {c : CertD} (h : IsCert w D v c) (hU : Upd g w w') (hD : ∀ b, D b → b < w.heap.size → b ≠ g) : IsCert w' D v c := h.keep (Nat.le_of_eq hU.size.symm) fun _ h1 h2 => hU.cell (hD _ h1 h2)
theorem IsCert.row {w : World} {D : Nat → Prop} {v : Value} {c : CertD} (h : IsCert w D v c) : ∃ cs : Array Value, v = .agg cs ∧ cs.size = 35 ∧ cs.all (·.oneCell') = true := by
  obtain ⟨pv, qv, rfl, h32, _, hp, hq⟩ := h.cc
  obtain ⟨A, c1, rfl, _, _⟩ := hp.shape
  obtain ⟨B, c2, rfl, _, _⟩ := hq.shape
  exact ⟨_, rfl, cc_size _ _ _ _ h32, cc_one _ _ _ _ _ _ _ _⟩
theorem eqC_comm (a b : CertD) : eqC a b = eqC b a := by
  rw [Bool.eq_iff_iff]
  simp only [eqC, Bool.and_eq_true, beq_iff_eq]
  constructor <;> (rintro ⟨h1, h2, h3, h4⟩; exact ⟨h1.symm, h2.symm, h3.symm, h4.symm⟩)
theorem eqC_self (a : CertD) : eqC a a = true := by simp [eqC]
theorem beq_self_bool (b : Bool) : (b == b) = true := by cases b <;> rfl
theorem run_eqb (b : Bool) (w : World) : (binOp .eql 4 (.bool b) (.bool b)).run Tryz.prog w = .ok (.bool true) w := by cases b <;> go_simp

end Go.Proofs.YtenpkgdnlogfiaaGreatDoor
