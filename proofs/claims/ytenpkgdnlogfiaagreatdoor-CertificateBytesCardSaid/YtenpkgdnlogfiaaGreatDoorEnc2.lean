/-
  What CertificateEncodes computes: true, on all raw certificates.
-/
import Derived.Test.YtenpkgdnlogfiaaGreatDoorEnc1
import Derived.Test.YtenpkgdnlogfiaaGreatDoorTyp5
namespace Go.Proofs.YtenpkgdnlogfiaaGreatDoor
open Go.RowKit
attribute [local go_sem ↓] Go.wp_at_zero Go.wp_at_succ
set_option maxRecDepth 20000

theorem stable_rcertE {v : Value} {c : CertD} : Stable fun D w => IsRCert w D v c := fun D D' w w' h a b k => by
  obtain ⟨pv, qv, h1, h2, h3, h4, h5⟩ := h
  exact ⟨pv, qv, h1, h2, h3, stable_sl (by decide) D D' w w' h4 a b k, stable_sl (by decide) D D' w w' h5 a b k⟩
theorem run_arrayAt {P : Program} {arr e : TypeId} {n : Nat} (h : P.underlying arr = some (.array n e)) (w : World) (A : Option Addr) (len c : Nat) (hl : n ≤ len) : (Instr.arrayAt arr (.slice A len c)).run P w = .ok (.pointer A) w := by
  unfold Instr.arrayAt
  rw [Sem.run_bind, run_underlying h w]
  simp
  intro h'; omega
theorem opw_arr {P : Program} {o : Oper} {a : Act} {w : World} {K : Act → World → Prop} {Q : Exit → Act → World → Prop} {arr e : TypeId} {x : Operand} {n len c : Nat} {A : Option Addr} (ho : o.op = .sliceToArrayPointer arr x) (hx : a.eval x = .slice A len c) (h : P.underlying arr = some (.array n e)) (hl : n ≤ len) (hk : K (a.put o.dst (.pointer A)) w) : o.wp P a w K Q :=
  opw_val (by simp [execOp, ho, hx, run_arrayAt h w A len c hl]) hk
theorem opw_len {P : Program} {o : Oper} {a : Act} {w : World} {K : Act → World → Prop} {Q : Exit → Act → World → Prop} {t e : TypeId} {x : Operand} {n c : Nat} {A : Option Addr} (ho : o.op = .call { callee := .builtin .len, args := #[x], argTypes := #[t] }) (hx : a.eval x = .slice A n c) (h : P.underlying t = some (.slice e)) (hk : K (a.put o.dst (.int .i64 n)) w) : o.wp P a w K Q := by
  have hr : (Builtin.len_ #[t] o.type #[.slice A n c]).run P w = .ok (.int .i64 (n : Nat)) w := by
    simp [Builtin.len_, run_underlying h]; rfl
  unfold Oper.wp execOp
  simp only [ho, resolve, invoke, builtin, Sem.run_bind, Sem.run_pure, Result.andThen_ok, List.map_toArray, List.map_cons, List.map_nil, hx, hr]
  exact hk
theorem st_gstore {P : Program} {ops : Array Oper} {rest : List Oper} {o : Oper} {a : Act} {w0 w : World} {F : List Fact} {K : (Nat → Prop) → World → Prop} {Q : Exit → Act → World → Prop} (h : St w0 w F K) (i : Nat) (hg : o.guard = none) (ty : TypeId) (x y : Operand) (ho : o.op = .store ty x y) (g j : Nat) (u : Value) (hx : a.eval x = .pointer (some ⟨g, j, none⟩)) (hy : a.eval y = .agg #[u]) {t : TypeId} {cs : Array Value} (hb : F[i]? = some (.box g t cs)) (hi : j < cs.size)
    (h1 : u.oneCell' = true) (hs : (P.info? ty).map (·.size) = some 1) (hk : ∀ w', St w0 w' (F.set i (.box g t (cs.setIfInBounds j u))) K → wpList P ops Q rest (a.put o.dst undef) w') : wpList P ops Q (o :: rest) a w := by
  have hB := h.box i hb
  refine wpList_store_mid hg ty x y ho g j #[u] hx hy (fun k hk => ?_) hs (by simpa using h1) ?_
  · obtain rfl : k = 0 := by simpa using hk
    exact ⟨by rw [hB.cell]; simp [hi], hB.free _⟩
  · refine hk _ (h.upd i hb (.box g t (cs.setIfInBounds j u)) (upd_gb (upd_setCell w g j u)) ⟨(h.holds _ (List.mem_of_getElem? hb)).1, hB.setC u⟩ fun _ e => .inl e)
theorem Sl.range {w : World} {D : Nat → Prop} {v : Value} {n : Nat} {xs : List Value} (h : Sl w D 1 v n xs) (hn : 0 < n) : ∃ b o c, v = .slice (some ⟨b, o, none⟩) n c ∧ w.rangeAt b o xs := by
  obtain ⟨_, A, c, rfl, _, _, h⟩ := h
  obtain ⟨b, o, rfl, _, _, h⟩ := h hn
  exact ⟨b, o, c, rfl, fun j v hj => h j v hj⟩

theorem Sl.rangeAt {w : World} {D : Nat → Prop} {b o n c : Nat} {xs : List Value} (h : Sl w D 1 (.slice (some ⟨b, o, none⟩) n c) n xs) (hn : 0 < n) : w.rangeAt b o xs := by
  obtain ⟨b', o', c', e, h'⟩ := h.range hn
  injection e with e1 e2 e3
  injection e1 with e1
  injection e1 with e1 e2
  subst e1 e2; exact h'
theorem Rd.len {w0 w : World} {X X' : List Fact} {K K' : (Nat → Prop) → World → Prop} {q : Nat} {l l' : List Nat} {e e' : Int} (h : Rd w0 w X K q l e) (h' : Rd w0 w X' K' q l' e') : l.length = l'.length := by
  obtain ⟨_, A, c, _, _, hS⟩ := h
  obtain ⟨_, A', c', _, _, hS'⟩ := h'
  have h1 := hS.shut 0 rfl 0 rfl
  rw [hS'.shut 0 rfl 0 rfl] at h1
  simp at h1; exact h1.2.1.symm
theorem Rd.drew {w0 w : World} {X : List Fact} {K : (Nat → Prop) → World → Prop} {q : Nat} {l : List Nat} {e : Int} (h : Rd w0 w X K q l e) : Rd w0 w.drew X K q l e := by
  obtain ⟨hK, A, c, h1, h2, hS⟩ := h
  exact ⟨hK, A, c, h1, h2, hS.drew⟩

end Go.Proofs.YtenpkgdnlogfiaaGreatDoor
