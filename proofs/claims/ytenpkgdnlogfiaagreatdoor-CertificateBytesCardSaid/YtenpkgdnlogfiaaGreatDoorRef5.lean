/-
  The certificate that arbaclaw36.Certificate makes of the reference's.
-/
import Derived.Test.YtenpkgdnlogfiaaGreatDoorRef4
import Derived.Test.YtenpkgdnlogfiaaGreatDoorAwake1
namespace Go.Proofs.YtenpkgdnlogfiaaGreatDoor
open Go.RowKit
attribute [local go_sem ↓] Go.wp_at_zero Go.wp_at_succ
set_option maxRecDepth 20000

/-- v is a certificate as the references have it -/
def IsRCert (w : World) (D : Nat → Prop) (v : Value) (c : CertD) : Prop :=
  ∃ pv qv, v = .agg (cc c.prob c.reach pv qv) ∧ c.prob.length = 32 ∧ Bytes c.prob ∧ Sl w D 1 pv c.plan.length (ints c.plan) ∧ RCubes w D qv c.cubes
theorem IsRCert.keep {w w' : World} {D : Nat → Prop} {v : Value} {c : CertD} (h : IsRCert w D v c) (hsz : w.heap.size ≤ w'.heap.size) (hk : ∀ p : Addr, D p.block → p.block < w.heap.size → w'.cell? p = w.cell? p) : IsRCert w' D v c := by
  obtain ⟨pv, qv, h1, h2, h3, h4, h5⟩ := h
  exact ⟨pv, qv, h1, h2, h3, h4.keep hsz hk, h5.keep hsz hk⟩
theorem IsRCert.imp {w : World} {D D' : Nat → Prop} {v : Value} {c : CertD} (h : IsRCert w D v c) (hD : ∀ b, D b → b < w.heap.size → D' b) : IsRCert w D' v c := by
  obtain ⟨pv, qv, h1, h2, h3, h4, h5⟩ := h
  exact ⟨pv, qv, h1, h2, h3, h4.imp hD, h5.imp hD⟩
theorem IsRCert.ext {w w' : World} {D : Nat → Prop} {v : Value} {c : CertD} (h : IsRCert w D v c) (hb : Below w.heap.size w w') : IsRCert w' D v c := h.keep hb.size fun _ _ hp => hb.cell hp
theorem IsRCert.drew {w : World} {D : Nat → Prop} {v : Value} {c : CertD} (h : IsRCert w D v c) : IsRCert w.drew D v c := h.keep (Nat.le_refl _) fun _ _ _ => rfl
theorem IsRCert.alloc {w : World} {D : Nat → Prop} {v : Value} {c : CertD} (h : IsRCert w D v c) (o : Obj) : IsRCert (w.alloc o) D v c := h.keep (by simp) fun p _ hp => World.cell?_alloc_lt w o p hp
theorem IsRCert.upd {g : Nat} {w w' : World} {D : Nat → Prop} {v : Value} {c : CertD} (h : IsRCert w D v c) (hU : Upd g w w') (hD : ∀ b, D b → b < w.heap.size → b ≠ g) : IsRCert w' D v c := h.keep (Nat.le_of_eq hU.size.symm) fun _ h1 h2 => hU.cell (hD _ h1 h2)
theorem IsRCert.app {w w' : World} {base : Nat} {v0 v1 : Value} {v : Value} {c : CertD} (h : IsRCert w (notOwn base v0) v c) (hg : w.grownBy w' v0.ownBlock) (hat : ∀ k, v1.ownBlock = some k → v0.ownBlock = some k ∨ w.heap.size ≤ k) : IsRCert w' (notOwn base v1) v c :=
  ((h.imp (D' := fun b => (base ≤ b ∧ v0.ownBlock ≠ some b) ∧ b < w.heap.size) fun _ h1 h2 => ⟨h1, h2⟩).keep hg.size fun _ h1 h2 => grown_cell hg h2 h1.1.2).imp fun b h1 _ => ⟨h1.1.1, fun e => by
    rcases hat b e with h | h
    · exact h1.1.2 h
    · have := h1.2; omega⟩
theorem built_cert (prob : List Nat) (r : Bool) (A A' : Option Addr) (n c n' c' : Nat) (h : prob.length = 32) :
    Tryz.prog.built 35 [(0, .agg (u8s prob).toArray), (1, .bool r), (2, .slice A n c), (3, .slice A' n' c')] = some (cc prob r (.slice A n c) (.slice A' n' c')) := by
  match prob, h with
  | [a0, a1, a2, a3, a4, a5, a6, a7, a8, a9, a10, a11, a12, a13, a14, a15, a16, a17, a18, a19, a20, a21, a22, a23, a24, a25, a26, a27, a28, a29, a30, a31], _ =>
    show _ = _
    cases r <;> kernel_rfl
theorem cc_range {w : World} {b : Nat} {t : TypeId} {prob : List Nat} {r : Bool} {pv qv : Value} (h : Box w b t (cc prob r pv qv)) : w.rangeAt b 0 (u8s prob) := fun j v hj => by
  rw [Nat.zero_add, h.cell]
  have : j < (u8s prob).length := (List.getElem?_eq_some_iff.1 hj).1
  simp only [cc, List.getElem?_toArray]
  rw [List.getElem?_append_left this]; exact hj

theorem lcert_any (v : Value) (c : CertD) (w0 : World) (D : Nat → Prop) (hv : IsRCert w0 D v c) (hs : Small c.cubes) (hl1 : c.plan.length ≤ 1000000) (hl2 : c.cubes.length ≤ 1000000) :
    Calls Tryz.prog 6 #[v] w0 (Ret (fun x w' => IsCert w' (w0.heap.size ≤ ·) x c) w0) := by
  obtain ⟨pv, qv, rfl, h32, hby, hp, hq⟩ := hv
  obtain ⟨prob, r, plan, cubes⟩ := c
  dsimp only at *
  obtain ⟨Ap, cp, rfl, _, _⟩ := hp.shape
  obtain ⟨Aq, cq, rfl, _, _⟩ := hq.shape
  have HBY := Lib.hid hby
  have H32 := Lib.hid h32
  have HS := Lib.hid hs
  clear hby h32 hs
  go_enter Tryz.func6, Tryz.ntmps6
  go_wp2_with fail
  change Code.wp _ _ _ _ ((w0.alloc (.cells (cc prob r (.slice Ap plan.length cp) (.slice Aq cubes.length cq)) 30)).alloc (.cells (cc (List.replicate 32 0) false (.slice none 0 0) (.slice none 0 0)) 35))
  have hX := (Box.new w0 30 (cc prob r (.slice Ap plan.length cp) (.slice Aq cubes.length cq))).alloc (.cells (cc (List.replicate 32 0) false (.slice none 0 0) (.slice none 0 0)) 35)
  have hA := Box.new (w0.alloc (.cells (cc prob r (.slice Ap plan.length cp) (.slice Aq cubes.length cq)) 30)) 35 (cc (List.replicate 32 0) false (.slice none 0 0) (.slice none 0 0))
  have hB := ((Below.refl w0.heap.size w0).alloc (Nat.le_refl _) (.cells (cc prob r (.slice Ap plan.length cp) (.slice Aq cubes.length cq)) 30)).alloc (by simp) (.cells (cc (List.replicate 32 0) false (.slice none 0 0) (.slice none 0 0)) 35)
  rw [World.size_alloc] at hA
  have hl2 := hA.lt
  generalize ((w0.alloc (.cells (cc prob r (.slice Ap plan.length cp) (.slice Aq cubes.length cq)) 30)).alloc (.cells (cc (List.replicate 32 0) false (.slice none 0 0) (.slice none 0 0)) 35)) = w2 at *
  replace hp := hp.ext hB
  replace hq := hq.ext hB
  refine wp_region_last (fun i v w => match i with
    | 0 => v = .pointer (some ⟨w0.heap.size, 0, none⟩)
    | 1 => v = .agg (u8s prob).toArray
    | 2 => v = .pointer (some ⟨w0.heap.size, 32, none⟩)
    | 3 => v = .bool r
    | 4 => ∃ g, v = .slice (some ⟨g, 0, none⟩) 0 0
    | 5 => v = .pointer (some ⟨w0.heap.size, 33, none⟩)
    | 6 => v = .slice Ap plan.length cp
    | 7 => Sl w (w2.heap.size ≤ ·) 1 v plan.length (ints plan)
    | 8 => v = .pointer (some ⟨w0.heap.size, 34, none⟩)
    | 9 => v = .slice Aq cubes.length cq
    | 10 => IsCubes w (w2.heap.size ≤ ·) v cubes
    | 11 => ∃ x1 x2, v = .agg (cc prob r x1 x2) ∧ Sl w (w2.heap.size ≤ ·) 1 x1 plan.length (ints plan) ∧ IsCubes w (w2.heap.size ≤ ·) x2 cubes
    | _ => True) 12 _ (by kernel_rfl) rfl (by kernel_rfl) (by kernel_rfl) ?mono ⟨?r0, ?r1, ?r2, ?r3, ?r4, ?r5, ?r6, ?r7, ?r8, ?r9, ?r10, ?r11, trivial⟩ ?post
  case mono =>
    intro i v w w' h hb
    match i, h with
    | 0, h => exact h
    | 1, h => exact h
    | 2, h => exact h
    | 3, h => exact h
    | 4, h => exact h
    | 5, h => exact h
    | 6, h => exact h
    | 7, h => exact Sl.ext h hb
    | 8, h => exact h
    | 9, h => exact h
    | 10, h => exact IsCubes.ext h hb
    | 11, h => exact (let ⟨x1, x2, h1, h2, h3⟩ := h; ⟨x1, x2, h1, h2.ext hb, h3.ext hb⟩)
    | _ + 12, h => trivial
  case r0 =>
    refine trule fun b w hW hold hpre => ⟨fun hwant K hK => ?_, fun hwant => ?_⟩
    · clear hwant
      have e1 : b.eval (.tmp 1) = .pointer (some ⟨w0.heap.size, 0, none⟩) := (hold 1 (by kernel_rfl)).trans rfl
      exact opw_faddr rfl e1 (by kernel_rfl) (hK _ _ rfl (Below.refl _ _))
    · rw [want_none rfl] at hwant; cases hwant
  case r1 =>
    refine trule fun b w hW hold hpre => ⟨fun hwant K hK => ?_, fun hwant => ?_⟩
    · clear hwant
      have e3 : b.eval (.tmp 3) = .pointer (some ⟨w0.heap.size, 0, none⟩) := hpre ⟨0, _⟩ (Array.mem_of_getElem? (i := 0) rfl) rfl _ _ rfl rfl
      exact opw_mid rfl e3 (cc_range (hX.ext (undrew hW))) Tryz.underlying27 rfl (by rw [u8s_length, H32.out]; kernel_rfl) (hK _ _ rfl (Below.refl _ _))
    · rw [want_none rfl] at hwant; cases hwant
  case r2 =>
    refine trule fun b w hW hold hpre => ⟨fun hwant K hK => ?_, fun hwant => ?_⟩
    · clear hwant
      have e1 : b.eval (.tmp 1) = .pointer (some ⟨w0.heap.size, 0, none⟩) := (hold 1 (by kernel_rfl)).trans rfl
      exact opw_faddr rfl e1 (by kernel_rfl) (hK _ _ rfl (Below.refl _ _))
    · rw [want_none rfl] at hwant; cases hwant
  case r3 =>
    refine trule fun b w hW hold hpre => ⟨fun hwant K hK => ?_, fun hwant => ?_⟩
    · clear hwant
      have e5 : b.eval (.tmp 5) = .pointer (some ⟨w0.heap.size, 32, none⟩) := hpre ⟨2, _⟩ (Array.mem_of_getElem? (i := 0) rfl) rfl _ _ rfl rfl
      exact opw_cell rfl e5 (by kernel_rfl) (((hX.ext (undrew hW)).cell 32).trans (cc_at _ _ _ _ H32.out).1) (hK _ _ rfl (Below.refl _ _))
    · rw [want_none rfl] at hwant; cases hwant
  case r4 =>
    refine trule fun b w hW hold hpre => ⟨fun hwant K hK => ?_, fun hwant => ?_⟩
    · clear hwant
      exact opw_slice rfl Tryz.underlying22 (ps := []) (by simp) (cells := #[]) (by kernel_rfl) fun w' hX hb => hK _ _ ⟨_, rfl⟩ hb
    · rw [want_none rfl] at hwant; cases hwant
  case r5 =>
    refine trule fun b w hW hold hpre => ⟨fun hwant K hK => ?_, fun hwant => ?_⟩
    · clear hwant
      have e1 : b.eval (.tmp 1) = .pointer (some ⟨w0.heap.size, 0, none⟩) := (hold 1 (by kernel_rfl)).trans rfl
      exact opw_faddr rfl e1 (by kernel_rfl) (hK _ _ rfl (Below.refl _ _))
    · rw [want_none rfl] at hwant; cases hwant
  case r6 =>
    refine trule fun b w hW hold hpre => ⟨fun hwant K hK => ?_, fun hwant => ?_⟩
    · clear hwant
      have e8 : b.eval (.tmp 8) = .pointer (some ⟨w0.heap.size, 33, none⟩) := hpre ⟨5, _⟩ (Array.mem_of_getElem? (i := 0) rfl) rfl _ _ rfl rfl
      exact opw_cell rfl e8 (by kernel_rfl) (((hX.ext (undrew hW)).cell 33).trans (cc_at _ _ _ _ H32.out).2.1) (hK _ _ rfl (Below.refl _ _))
    · rw [want_none rfl] at hwant; cases hwant
  case r7 =>
    refine trule fun b w hW hold hpre => ⟨fun hwant K hK => ?_, fun hwant => ?_⟩
    · clear hwant
      have e7 : (fun (v : Value) (w : World) => ∃ g, v = .slice (some ⟨g, 0, none⟩) 0 0) (b.eval (.tmp 7)) w := hpre ⟨4, _⟩ (Array.mem_of_getElem? (i := 0) rfl) rfl _ _ rfl rfl
      have e9 : b.eval (.tmp 9) = .slice Ap plan.length cp := hpre ⟨6, _⟩ (Array.mem_of_getElem? (i := 1) rfl) rfl _ _ rfl rfl
      obtain ⟨g, e7⟩ := e7
      exact opw_fresh rfl ty_ints e7 e9 (hp.ext (undrew hW)) (by omega) (by omega) fun v' w' h hb => hK v' w' (h.imp fun b h1 _ => by have := (undrew hW).size; omega) hb
    · rw [want_none rfl] at hwant; cases hwant
  case r8 =>
    refine trule fun b w hW hold hpre => ⟨fun hwant K hK => ?_, fun hwant => ?_⟩
    · clear hwant
      have e1 : b.eval (.tmp 1) = .pointer (some ⟨w0.heap.size, 0, none⟩) := (hold 1 (by kernel_rfl)).trans rfl
      exact opw_faddr rfl e1 (by kernel_rfl) (hK _ _ rfl (Below.refl _ _))
    · rw [want_none rfl] at hwant; cases hwant
  case r9 =>
    refine trule fun b w hW hold hpre => ⟨fun hwant K hK => ?_, fun hwant => ?_⟩
    · clear hwant
      have e11 : b.eval (.tmp 11) = .pointer (some ⟨w0.heap.size, 34, none⟩) := hpre ⟨8, _⟩ (Array.mem_of_getElem? (i := 0) rfl) rfl _ _ rfl rfl
      exact opw_cell rfl e11 (by kernel_rfl) (((hX.ext (undrew hW)).cell 34).trans (cc_at _ _ _ _ H32.out).2.2) (hK _ _ rfl (Below.refl _ _))
    · rw [want_none rfl] at hwant; cases hwant
  case r10 =>
    refine trule fun b w hW hold hpre => ⟨fun hwant K hK => ?_, fun hwant => ?_⟩
    · clear hwant
      have e12 : b.eval (.tmp 12) = .slice Aq cubes.length cq := hpre ⟨9, _⟩ (Array.mem_of_getElem? (i := 0) rfl) rfl _ _ rfl rfl
      exact opw_call rfl (by kernel_rfl) (by simp [e12]) (makeall_any _ cubes w D (hq.ext (undrew hW)) HS.out (by omega)) fun v w' h hb => hK v w' (h.imp fun b h1 _ => by have := (undrew hW).size; omega) hb
    · rw [want_none rfl] at hwant; cases hwant
  case r11 =>
    refine trule fun b w hW hold hpre => ⟨fun hwant K hK => ?_, fun hwant => ?_⟩
    · clear hwant
      have e4 : b.eval (.tmp 4) = .agg (u8s prob).toArray := hpre ⟨1, _⟩ (Array.mem_of_getElem? (i := 0) rfl) rfl _ _ rfl rfl
      have e6 : b.eval (.tmp 6) = .bool r := hpre ⟨3, _⟩ (Array.mem_of_getElem? (i := 1) rfl) rfl _ _ rfl rfl
      have e10 : (fun (v : Value) (w : World) => Sl w (w2.heap.size ≤ ·) 1 v plan.length (ints plan)) (b.eval (.tmp 10)) w := hpre ⟨7, _⟩ (Array.mem_of_getElem? (i := 2) rfl) rfl _ _ rfl rfl
      have e13 : (fun (v : Value) (w : World) => IsCubes w (w2.heap.size ≤ ·) v cubes) (b.eval (.tmp 13)) w := hpre ⟨10, _⟩ (Array.mem_of_getElem? (i := 3) rfl) rfl _ _ rfl rfl
      obtain ⟨A, c, h1, _⟩ := Sl.shape e10
      obtain ⟨A', c', h2, _⟩ := IsCubes.shape e13
      exact opw_built rfl (ps := [(0, .agg (u8s prob).toArray), (1, .bool r), (2, .slice A plan.length c), (3, .slice A' cubes.length c')]) (by simp [e4, e6, h1, h2]) (built_cert prob r _ _ _ _ _ _ H32.out) (hK _ _ ⟨_, _, rfl, h1 ▸ e10, h2 ▸ e13⟩ (Below.refl _ _))
    · rw [want_none rfl] at hwant; cases hwant
  case post =>
    intro b wz hW hdf hsz hold hT
    have e2 : b.eval (.tmp 2) = .pointer (some ⟨w0.heap.size + 1, 0, none⟩) := (hold 2 (by kernel_rfl)).trans rfl
    have e14 : (fun (v : Value) (w : World) => ∃ x1 x2, v = .agg (cc prob r x1 x2) ∧ Sl w (w2.heap.size ≤ ·) 1 x1 plan.length (ints plan) ∧ IsCubes w (w2.heap.size ≤ ·) x2 cubes) (b.eval (.tmp 14)) wz := hT 11 _ 14 (by decide) rfl rfl
    obtain ⟨x1, x2, h1, h2, h3⟩ := e14
    obtain ⟨A, c, rfl, _⟩ := h2.shape
    obtain ⟨A', c', rfl, _⟩ := h3.shape
    refine opw_store rfl e2 h1 (hA.ext hW) (by rw [cc_size _ _ _ _ H32.out]; kernel_rfl) (by rw [cc_size _ _ _ _ H32.out, cc_size _ _ _ _ (by simp)]) (cc_one _ _ _ _ _ _ _ _) fun w4 hX4 hU => ?_
    go_wp2_with fail
    refine ret_cell rfl e2 hX4 Tryz.underlying35 rfl (by rw [cc_size _ _ _ _ H32.out]; kernel_rfl) hdf (Ret.mk ?_ (hU.below (bel_tr hB hW) (by omega)))
    have hsz2 := hB.size
    exact IsCert.of H32.out HBY.out ((h2.upd hU (fun b h hl => by omega)).imp fun b h _ => by omega) ((h3.upd hU (fun b h hl => by omega)).imp fun b h _ => by omega)
end Go.Proofs.YtenpkgdnlogfiaaGreatDoor
