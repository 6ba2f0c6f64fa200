/-
  What bits.Read computes: the set with these bytes.
  The reader's Set: the bytes of a set.
  What the writer writes the reader reads (plain).
-/
import Derived.Test.YtenpkgdnlogfiaaGreatDoorRd1
namespace Go.Proofs.YtenpkgdnlogfiaaGreatDoor
open Go.RowKit
attribute [local go_sem ↓] Go.wp_at_zero Go.wp_at_succ
set_option maxRecDepth 20000

/-- the number of a list of bytes, the least first -/
def valB : List Nat → Nat
  | [] => 0
  | x :: r => x + 256 * valB r
theorem valB_lt {l : List Nat} (h : Bytes l) : valB l < 2 ^ (8 * l.length) := by
  induction l with
  | nil => simp [valB]
  | cons x r ih =>
    have h1 := ih fun y hy => h y (by simp [hy])
    have h2 := h x (by simp)
    simp only [valB, List.length_cons]
    rw [show 8 * (r.length + 1) = 8 * r.length + 8 by omega, Nat.pow_add]
    generalize 2 ^ (8 * r.length) = P at *
    omega
theorem valB_take {l : List Nat} : ∀ {k : Nat}, k < l.length → valB (l.take (k + 1)) = valB (l.take k) + l.getD k 0 * 2 ^ (8 * k) := by
  induction l with
  | nil => intro k h; simp at h
  | cons x r ih =>
    intro k h
    cases k with
    | zero => simp [valB]
    | succ k =>
      have := ih (k := k) (by simpa using h)
      simp only [List.take_succ_cons, valB, List.getD_cons_succ] at this ⊢
      rw [this, show 8 * (k + 1) = 8 * k + 8 by omega, Nat.pow_add, Nat.mul_add]
      generalize 2 ^ (8 * k) = P
      rw [show (2 : Nat) ^ 8 = 256 from rfl, ← Nat.add_assoc]
      congr 1
      rw [Nat.mul_left_comm, Nat.mul_comm P 256]
theorem bytes_take {l : List Nat} (h : Bytes l) (k : Nat) : Bytes (l.take k) := fun x hx => h x (List.mem_of_mem_take hx)
/-- a word into which more is written by or -/
theorem val_orAt {L : List Nat} (hW : Words L) {i y : Nat} (hi : i < L.length) (hy : y < T64) : Words (L.set i (L.getD i 0 ||| y)) ∧ val (L.set i (L.getD i 0 ||| y)) = val L ||| (y <<< (64 * i)) := by
  have hz := or_lt (hW.getD i) hy
  have hw : Words (L.set i (L.getD i 0 ||| y)) := by
    intro x hx
    rcases List.mem_or_eq_of_mem_set hx with h | rfl
    · exact hW x h
    · exact hz
  refine ⟨hw, ?_⟩
  apply Nat.eq_of_testBit_eq
  intro j
  rw [testBit_val hw, Nat.testBit_or, testBit_val hW, Nat.testBit_shiftLeft]
  by_cases h : j / 64 = i
  · have e : (L.set i (L.getD i 0 ||| y)).getD (j / 64) 0 = L.getD i 0 ||| y := by
      rw [h, List.getD_eq_getElem?_getD, List.getElem?_set_self hi]; rfl
    rw [e, Nat.testBit_or, h, show decide (j ≥ 64 * i) = true by simp; omega, Bool.true_and, show j - 64 * i = j % 64 by omega]
  · have e : (L.set i (L.getD i 0 ||| y)).getD (j / 64) 0 = L.getD (j / 64) 0 := by
      rw [List.getD_eq_getElem?_getD, List.getElem?_set_ne (Ne.symm h), List.getD_eq_getElem?_getD]
    rw [e]
    by_cases h1 : j ≥ 64 * i
    · rw [tb_big hy (show 64 ≤ j - 64 * i by omega)]; simp
    · simp [h1]
theorem val_byte {L : List Nat} {ps : List Nat} {k x : Nat} (hW : Words L) (hk : k < ps.length) (hL : k / 8 < L.length) (hV : val L = valB (ps.take k)) (hx : ps.getD k 0 = x) (hx8 : x < 256) (hb : Bytes ps) :
    Words (L.set (k / 8) (L.getD (k / 8) 0 ||| x * 2 ^ (8 * (k % 8)))) ∧ val (L.set (k / 8) (L.getD (k / 8) 0 ||| x * 2 ^ (8 * (k % 8)))) = valB (ps.take (k + 1)) := by
  have hp : (2 : Nat) ^ (8 * (k % 8)) ≤ 2 ^ 56 := Nat.pow_le_pow_right (by decide) (by omega)
  have hy : x * 2 ^ (8 * (k % 8)) < T64 := by
    have : x * 2 ^ (8 * (k % 8)) ≤ 255 * 2 ^ 56 := Nat.mul_le_mul (by omega) hp
    unfold T64; omega
  obtain ⟨h1, h2⟩ := val_orAt hW hL hy
  refine ⟨h1, ?_⟩
  rw [h2, hV, valB_take hk, hx]
  have hlt := valB_lt (bytes_take hb k)
  rw [List.length_take, Nat.min_eq_left (by omega)] at hlt
  have e : (x * 2 ^ (8 * (k % 8))) <<< (64 * (k / 8)) = x * 2 ^ (8 * k) := by
    rw [Nat.shiftLeft_eq, Nat.mul_assoc, ← Nat.pow_add]; congr 2; omega
  have e2 := Nat.shiftLeft_add_eq_or_of_lt hlt x
  rw [e, Nat.or_comm, Nat.add_comm, ← Nat.shiftLeft_eq]
  exact e2.symm
/-- the error of bytes of a set -/
def readErr (ps : List Nat) : Int := if 512 < ps.length ∨ (0 < ps.length ∧ ps.getD (ps.length - 1) 0 = 0) then 6 else 0
theorem canon_bytes {L ps : List Nat} (hW : Words L) (hL : L.length = (ps.length + 7) / 8) (hV : val L = valB ps) (hb : Bytes ps) (h512 : ps.length ≤ 512) (hlast : 0 < ps.length → ps.getD (ps.length - 1) 0 ≠ 0) : Canon L := by
  refine ⟨hW, fun x hx => ?_, by omega⟩
  have h0 : 0 < L.length := by
    cases L with
    | nil => simp at hx
    | cons => simp
  have hx' : x = L.getD (L.length - 1) 0 := by
    rw [List.getLast?_eq_getElem?] at hx
    rw [List.getD_eq_getElem?_getD, hx]; rfl
  have hp : 0 < ps.length := by omega
  have hl := hlast hp
  have hv := valB_take (l := ps) (k := ps.length - 1) (by omega)
  rw [show ps.length - 1 + 1 = ps.length by omega, List.take_length] at hv
  have hlt := valB_lt hb
  rw [hx', ← wd_val hW, hV, wd, Nat.shiftRight_eq_div_pow]
  have hj : 64 * (L.length - 1) ≤ 8 * (ps.length - 1) := by omega
  have hj2 : 8 * ps.length ≤ 64 * (L.length - 1) + 64 := by omega
  have hpow : 2 ^ (64 * (L.length - 1)) ≤ 2 ^ (8 * (ps.length - 1)) := Nat.pow_le_pow_right (by decide) hj
  have hpow2 : 2 ^ (8 * ps.length) ≤ 2 ^ (64 * (L.length - 1) + 64) := Nat.pow_le_pow_right (by decide) hj2
  have hge : 2 ^ (8 * (ps.length - 1)) ≤ valB ps := by
    rw [hv]
    have : 1 * 2 ^ (8 * (ps.length - 1)) ≤ ps.getD (ps.length - 1) 0 * 2 ^ (8 * (ps.length - 1)) := Nat.mul_le_mul_right _ (by omega)
    omega
  have hdiv : valB ps / 2 ^ (64 * (L.length - 1)) < T64 := by
    rw [T64_eq]
    apply Nat.div_lt_of_lt_mul
    rw [← Nat.pow_add]; omega
  rw [Nat.mod_eq_of_lt hdiv]
  have hpos := Nat.two_pow_pos (64 * (L.length - 1))
  have : 0 < valB ps / 2 ^ (64 * (L.length - 1)) := Nat.div_pos (by omega) hpos
  omega

theorem ty_u64s : SliceTy Tryz.prog 49 58 1 8 := ⟨Tryz.underlying49, by kernel_rfl⟩
theorem words_rep (n : Nat) : Words (List.replicate n 0) := by
  intro x hx; rw [List.mem_replicate] at hx; rw [hx.2]; simp [T64]
theorem val_rep (q : Nat) : val (List.replicate q 0) = 0 := by
  induction q with
  | zero => rfl
  | succ q ih => simp [List.replicate_succ, val, ih]
theorem shl8 {x : Nat} (hx : x < 256) (r : Nat) (h : r < 8) : IntKind.u64.wrap ((x : Int) * 2 ^ (8 * r)) = ((x * 2 ^ (8 * r) : Nat) : Int) ∧ x * 2 ^ (8 * r) < T64 := by
  have hp : (2 : Nat) ^ (8 * r) ≤ 2 ^ 56 := Nat.pow_le_pow_right (by decide) (by omega)
  have hy : x * 2 ^ (8 * r) < T64 := by
    have : x * 2 ^ (8 * r) ≤ 255 * 2 ^ 56 := Nat.mul_le_mul (by omega) hp
    unfold T64; omega
  refine ⟨?_, hy⟩
  have e : ((x : Int) * 2 ^ (8 * r)) = ((x * 2 ^ (8 * r) : Nat) : Int) := by push_cast; rfl
  rw [e]
  exact wrap_u64_nat hy
theorem St.put64 {w0 w : World} {F : List Fact} {K : (Nat → Prop) → World → Prop} (h : St w0 w F K) (i : Nat) {g n cap : Nat} {e : TypeId} {L : List Nat} (hi : F[i]? = some (.own (.slice (some ⟨g, 0, none⟩) n cap) e 1 n (u64s L))) (k z : Nat) :
    St w0 (w.setCell ⟨g, k, none⟩ (.int .u64 (z : Nat))).drew (F.set i (.own (.slice (some ⟨g, 0, none⟩) n cap) e 1 n (u64s (L.set k z)))) K :=
  (h.upd i hi (.own (.slice (some ⟨g, 0, none⟩) n cap) e 1 n (u64s (L.set k z))) ((h.own i hi).stored k (.int .u64 (z : Nat))).2 (own_set (h.own i hi) (Below.refl _ _)) fun _ e => .inl e).drew
/-- a result in a cell, and one in a slot -/
theorem ret2_cell {P : Program} {fn : Func} {p t2 : Tmp} {ty : TypeId} {R : Ending → World → Prop} {a : Act} {w : World} {g : Nat} {t : TypeId} {cs : Array Value} {d : TypeDesc} {v : Value} (h : fn.results = #[.cell p ty, .tmp t2]) (hp : a.eval (.tmp p) = .pointer (some ⟨g, 0, none⟩)) (hb : Box w g t cs)
    (hu : P.underlying ty = some d) (hd : (match d with | .struct _ | .array _ _ => true | _ => false) = true) (hi : (P.info? ty).map (·.size) = some cs.size) (hv : a.eval (.tmp t2) = v) (hdf : a.defers = []) (hR : R (.returned (.tuple #[.agg cs, v])) w) : bodyPost P fn R .ret a w := by
  have hr : (results fn a.tmps).run P w = .ok (.tuple #[.agg cs, v]) w := by
    have hp' : a.tmps[p]?.getD undef = .pointer (some ⟨g, 0, none⟩) := by simpa [Act.eval] using hp
    have hv' : a.tmps[t2]?.getD undef = v := by simpa [Act.eval] using hv
    simp [results, h, hp', hv', asAddr, run_loadVar_row w g t ty cs (0, 0) d hb hu hd hi]
  exact bodyPost_ret hr hdf hR
theorem sread_any (p : Value) (ps : List Nat) (hb : Bytes ps) (w0 : World) (D : Nat → Prop) (hp : Sl w0 D 1 p ps.length (u8s ps)) (hl : ps.length ≤ 1000000000000) :
    Calls Tryz.prog 66 #[p] w0 (Ret (fun x w' => ∃ s, x = .tuple #[s, .int .i64 (readErr ps)] ∧ IsSet w' (w0.heap.size ≤ ·) s (if readErr ps = 0 then valB ps else 0)) w0) := by
  obtain ⟨A, c, rfl, _, _⟩ := hp.shape
  obtain ⟨K, k1, hS⟩ : ∃ K : (Nat → Prop) → World → Prop, (∀ D w, K D w → Sl w D 1 (.slice A ps.length c) ps.length (u8s ps)) ∧ St w0 w0 [] K := ⟨_, fun _ _ h => h, St.start stable_sl hp⟩
  clear hp
  have HB := Lib.hid hb
  have HE0 := Lib.hid (fun h1 : 512 < ps.length => show readErr ps = 6 by unfold readErr; rw [if_pos (.inl h1)])
  have HE1 := Lib.hid (fun h2 : 0 < ps.length ∧ ps.getD (ps.length - 1) 0 = 0 => show readErr ps = 6 by unfold readErr; rw [if_pos (.inr h2)])
  have HE2 := Lib.hid (fun (h1 : ¬ 512 < ps.length) (h2 : ¬ (0 < ps.length ∧ ps.getD (ps.length - 1) 0 = 0)) => show readErr ps = 0 by unfold readErr; rw [if_neg]; rintro (h | h); exact h1 h; exact h2 h)
  generalize readErr ps = RES at *
  go_enter Tryz.func66, Tryz.ntmps66
  by_cases h1 : 512 < ps.length
  · have hE := HE0.out h1
    subst hE
    clear HE0 HE1 HE2
    go_wp2_with (first
      | ((with_reducible show wpList _ _ _ (⟨some 2, _, _, _, _, _⟩ :: _) _ _); refine st_allocz hS rfl _ rfl (by kernel_rfl) #[.slice none 0 0] (by kernel_rfl) ?_; clear hS; intro g2 w_ hS; (try simp only [Act.put, Act.eval, List.set_cons_zero, List.set_cons_succ, List.setIfInBounds_toArray, Array.getD_eq_getD_getElem?, List.getElem?_toArray, List.getElem?_cons_succ, List.getElem?_cons_zero, Option.getD_some, Value.cells] at hS))
      | ((with_reducible show wpList _ _ _ (⟨_, .store _ _ _, _, _, _, _⟩ :: _) _ _); first | (refine st_store hS 0 rfl _ _ _ rfl _ _ rfl rfl _ _ rfl (by kernel_rfl) (by kernel_rfl) (by kernel_rfl) ?_; clear hS; intro w_ hS; (try simp only [Act.put, Act.eval, List.set_cons_zero, List.set_cons_succ, List.setIfInBounds_toArray, Array.getD_eq_getD_getElem?, List.getElem?_toArray, List.getElem?_cons_succ, List.getElem?_cons_zero, Option.getD_some, Value.cells] at hS)) | (refine st_store hS 1 rfl _ _ _ rfl _ _ rfl rfl _ _ rfl (by kernel_rfl) (by kernel_rfl) (by kernel_rfl) ?_; clear hS; intro w_ hS; (try simp only [Act.put, Act.eval, List.set_cons_zero, List.set_cons_succ, List.setIfInBounds_toArray, Array.getD_eq_getD_getElem?, List.getElem?_toArray, List.getElem?_cons_succ, List.getElem?_cons_zero, Option.getD_some, Value.cells] at hS)) | (refine st_store hS 2 rfl _ _ _ rfl _ _ rfl rfl _ _ rfl (by kernel_rfl) (by kernel_rfl) (by kernel_rfl) ?_; clear hS; intro w_ hS; (try simp only [Act.put, Act.eval, List.set_cons_zero, List.set_cons_succ, List.setIfInBounds_toArray, Array.getD_eq_getD_getElem?, List.getElem?_toArray, List.getElem?_cons_succ, List.getElem?_cons_zero, Option.getD_some, Value.cells] at hS)) | (refine st_store hS 3 rfl _ _ _ rfl _ _ rfl rfl _ _ rfl (by kernel_rfl) (by kernel_rfl) (by kernel_rfl) ?_; clear hS; intro w_ hS; (try simp only [Act.put, Act.eval, List.set_cons_zero, List.set_cons_succ, List.setIfInBounds_toArray, Array.getD_eq_getD_getElem?, List.getElem?_toArray, List.getElem?_cons_succ, List.getElem?_cons_zero, Option.getD_some, Value.cells] at hS)) | (refine st_cstore hS 0 rfl _ _ _ rfl _ _ _ rfl rfl rfl (by first | (simp; done) | (simp; omega) | exact of_decide_eq_true (by kernel_rfl)) rfl (by first | rfl | assumption) (by kernel_rfl) ?_; clear hS; intro w_ hS; (try simp only [Act.put, Act.eval, List.set_cons_zero, List.set_cons_succ, List.setIfInBounds_toArray, Array.getD_eq_getD_getElem?, List.getElem?_toArray, List.getElem?_cons_succ, List.getElem?_cons_zero, Option.getD_some, Value.cells] at hS)) | (refine st_cstore hS 1 rfl _ _ _ rfl _ _ _ rfl rfl rfl (by first | (simp; done) | (simp; omega) | exact of_decide_eq_true (by kernel_rfl)) rfl (by first | rfl | assumption) (by kernel_rfl) ?_; clear hS; intro w_ hS; (try simp only [Act.put, Act.eval, List.set_cons_zero, List.set_cons_succ, List.setIfInBounds_toArray, Array.getD_eq_getD_getElem?, List.getElem?_toArray, List.getElem?_cons_succ, List.getElem?_cons_zero, Option.getD_some, Value.cells] at hS)) | (refine st_cstore hS 2 rfl _ _ _ rfl _ _ _ rfl rfl rfl (by first | (simp; done) | (simp; omega) | exact of_decide_eq_true (by kernel_rfl)) rfl (by first | rfl | assumption) (by kernel_rfl) ?_; clear hS; intro w_ hS; (try simp only [Act.put, Act.eval, List.set_cons_zero, List.set_cons_succ, List.setIfInBounds_toArray, Array.getD_eq_getD_getElem?, List.getElem?_toArray, List.getElem?_cons_succ, List.getElem?_cons_zero, Option.getD_some, Value.cells] at hS)) | (refine st_cstore hS 3 rfl _ _ _ rfl _ _ _ rfl rfl rfl (by first | (simp; done) | (simp; omega) | exact of_decide_eq_true (by kernel_rfl)) rfl (by first | rfl | assumption) (by kernel_rfl) ?_; clear hS; intro w_ hS; (try simp only [Act.put, Act.eval, List.set_cons_zero, List.set_cons_succ, List.setIfInBounds_toArray, Array.getD_eq_getD_getElem?, List.getElem?_toArray, List.getElem?_cons_succ, List.getElem?_cons_zero, Option.getD_some, Value.cells] at hS)))
      | ((with_reducible show wpList _ _ _ (⟨_, .build _ _, _, _, _, _⟩ :: _) _ _); refine wpList_build_of rfl _ _ rfl #[.slice none 0 0] (by kernel_rfl) ?_))
    refine ret2_cell Tryz.results66 rfl (hS.box 0 rfl) Tryz.underlying51 rfl (by kernel_rfl) rfl rfl ?_
    exact Ret.mk ⟨_, rfl, IsSet.empty⟩ hS.below
  have HE1' := Lib.hid (fun h2 : 0 < ps.length ∧ ps.getD (ps.length - 1) 0 = 0 => HE1.out h2)
  obtain ⟨n8, hn8⟩ : ∃ n8, n8 = (ps.length + 7) / 8 := ⟨_, rfl⟩
  have hti : ((ps.length : Int) + 7) / 8 = n8 := by omega
  have hn64 : n8 ≤ 64 := by omega
  have HN := Lib.hid hn8
  clear hn8
  by_cases h0 : 0 < ps.length
  · have hidx : (Value.int .i64 ((ps.length : Int) - 1)) = .int .i64 ((ps.length - 1 : Nat) : Int) := by congr 1; omega
    have f1 : (u8s ps)[ps.length - 1]? = some (.int .u8 (ps.getD (ps.length - 1) 0 : Nat)) := u8s_at ps _ (by omega)
    have HL := Lib.hid (Eq.refl (ps.getD (ps.length - 1) 0))
    generalize hgx : ps.getD (ps.length - 1) 0 = x at *
    by_cases hx : x = 0
    · have hE := HE1.out ⟨h0, hx⟩
      subst hE; subst hx
      clear HE0 HE1 HE1' HE2 hti
      go_wp2_with (first
        | ((with_reducible show wpList _ _ _ (⟨some 2, _, _, _, _, _⟩ :: _) _ _); refine st_allocz hS rfl _ rfl (by kernel_rfl) #[.slice none 0 0] (by kernel_rfl) ?_; clear hS; intro g2 w_ hS; (try simp only [Act.put, Act.eval, List.set_cons_zero, List.set_cons_succ, List.setIfInBounds_toArray, Array.getD_eq_getD_getElem?, List.getElem?_toArray, List.getElem?_cons_succ, List.getElem?_cons_zero, Option.getD_some, Value.cells] at hS))
        | ((with_reducible show wpList _ _ _ (⟨_, .store _ _ _, _, _, _, _⟩ :: _) _ _); first | (refine st_store hS 0 rfl _ _ _ rfl _ _ rfl rfl _ _ rfl (by kernel_rfl) (by kernel_rfl) (by kernel_rfl) ?_; clear hS; intro w_ hS; (try simp only [Act.put, Act.eval, List.set_cons_zero, List.set_cons_succ, List.setIfInBounds_toArray, Array.getD_eq_getD_getElem?, List.getElem?_toArray, List.getElem?_cons_succ, List.getElem?_cons_zero, Option.getD_some, Value.cells] at hS)) | (refine st_store hS 1 rfl _ _ _ rfl _ _ rfl rfl _ _ rfl (by kernel_rfl) (by kernel_rfl) (by kernel_rfl) ?_; clear hS; intro w_ hS; (try simp only [Act.put, Act.eval, List.set_cons_zero, List.set_cons_succ, List.setIfInBounds_toArray, Array.getD_eq_getD_getElem?, List.getElem?_toArray, List.getElem?_cons_succ, List.getElem?_cons_zero, Option.getD_some, Value.cells] at hS)) | (refine st_store hS 2 rfl _ _ _ rfl _ _ rfl rfl _ _ rfl (by kernel_rfl) (by kernel_rfl) (by kernel_rfl) ?_; clear hS; intro w_ hS; (try simp only [Act.put, Act.eval, List.set_cons_zero, List.set_cons_succ, List.setIfInBounds_toArray, Array.getD_eq_getD_getElem?, List.getElem?_toArray, List.getElem?_cons_succ, List.getElem?_cons_zero, Option.getD_some, Value.cells] at hS)) | (refine st_store hS 3 rfl _ _ _ rfl _ _ rfl rfl _ _ rfl (by kernel_rfl) (by kernel_rfl) (by kernel_rfl) ?_; clear hS; intro w_ hS; (try simp only [Act.put, Act.eval, List.set_cons_zero, List.set_cons_succ, List.setIfInBounds_toArray, Array.getD_eq_getD_getElem?, List.getElem?_toArray, List.getElem?_cons_succ, List.getElem?_cons_zero, Option.getD_some, Value.cells] at hS)) | (refine st_cstore hS 0 rfl _ _ _ rfl _ _ _ rfl rfl rfl (by first | (simp; done) | (simp; omega) | exact of_decide_eq_true (by kernel_rfl)) rfl (by first | rfl | assumption) (by kernel_rfl) ?_; clear hS; intro w_ hS; (try simp only [Act.put, Act.eval, List.set_cons_zero, List.set_cons_succ, List.setIfInBounds_toArray, Array.getD_eq_getD_getElem?, List.getElem?_toArray, List.getElem?_cons_succ, List.getElem?_cons_zero, Option.getD_some, Value.cells] at hS)) | (refine st_cstore hS 1 rfl _ _ _ rfl _ _ _ rfl rfl rfl (by first | (simp; done) | (simp; omega) | exact of_decide_eq_true (by kernel_rfl)) rfl (by first | rfl | assumption) (by kernel_rfl) ?_; clear hS; intro w_ hS; (try simp only [Act.put, Act.eval, List.set_cons_zero, List.set_cons_succ, List.setIfInBounds_toArray, Array.getD_eq_getD_getElem?, List.getElem?_toArray, List.getElem?_cons_succ, List.getElem?_cons_zero, Option.getD_some, Value.cells] at hS)) | (refine st_cstore hS 2 rfl _ _ _ rfl _ _ _ rfl rfl rfl (by first | (simp; done) | (simp; omega) | exact of_decide_eq_true (by kernel_rfl)) rfl (by first | rfl | assumption) (by kernel_rfl) ?_; clear hS; intro w_ hS; (try simp only [Act.put, Act.eval, List.set_cons_zero, List.set_cons_succ, List.setIfInBounds_toArray, Array.getD_eq_getD_getElem?, List.getElem?_toArray, List.getElem?_cons_succ, List.getElem?_cons_zero, Option.getD_some, Value.cells] at hS)) | (refine st_cstore hS 3 rfl _ _ _ rfl _ _ _ rfl rfl rfl (by first | (simp; done) | (simp; omega) | exact of_decide_eq_true (by kernel_rfl)) rfl (by first | rfl | assumption) (by kernel_rfl) ?_; clear hS; intro w_ hS; (try simp only [Act.put, Act.eval, List.set_cons_zero, List.set_cons_succ, List.setIfInBounds_toArray, Array.getD_eq_getD_getElem?, List.getElem?_toArray, List.getElem?_cons_succ, List.getElem?_cons_zero, Option.getD_some, Value.cells] at hS)))
        | ((with_reducible show wpList _ _ _ (⟨_, .indexAddr _ _ _, _, _, _, _⟩ :: _) _ _); refine st_iaddr1 hS rfl _ _ _ rfl _ rfl hidx k1 Tryz.underlying37 (by kernel_rfl) (by omega) _ f1 ?_; intro p_ hc_)
        | ((with_reducible show wpList _ _ _ (⟨_, .build _ _, _, _, _, _⟩ :: _) _ _); refine wpList_build_of rfl _ _ rfl #[.slice none 0 0] (by kernel_rfl) ?_))
      refine ret2_cell Tryz.results66 rfl (hS.box 0 rfl) Tryz.underlying51 rfl (by kernel_rfl) rfl rfl ?_
      exact Ret.mk ⟨_, rfl, IsSet.empty⟩ hS.below
    · have hE := HE2.out h1 (fun h => hx h.2)
      subst hE
      clear HE0 HE1 HE1' HE2
      have HLast := Lib.hid (show 0 < ps.length → ps.getD (ps.length - 1) 0 ≠ 0 from fun _ => by rw [hgx]; exact hx)
      go_wp2_with (first
        | ((with_reducible show wpList _ _ _ (⟨some 2, _, _, _, _, _⟩ :: _) _ _); refine st_allocz hS rfl _ rfl (by kernel_rfl) #[.slice none 0 0] (by kernel_rfl) ?_; clear hS; intro g2 w_ hS; (try simp only [Act.put, Act.eval, List.set_cons_zero, List.set_cons_succ, List.setIfInBounds_toArray, Array.getD_eq_getD_getElem?, List.getElem?_toArray, List.getElem?_cons_succ, List.getElem?_cons_zero, Option.getD_some, Value.cells] at hS))
        | ((with_reducible show wpList _ _ _ (⟨_, .binOp _ _ _ _ _, _, _, _, _⟩ :: _) _ _); (first | ((with_reducible show wpList _ _ _ (⟨_, .binOp .lss _ _ _ _, _, _, _, _⟩ :: _) _ _); refine st_lss rfl _ _ _ _ rfl _ _ _ rfl rfl (fun h_ => ?_) (fun h_ => ?_)) | ((with_reducible show wpList _ _ _ (⟨_, .binOp .leq _ _ _ _, _, _, _, _⟩ :: _) _ _); refine st_leq rfl _ _ _ _ rfl _ _ _ rfl rfl (fun h_ => ?_) (fun h_ => ?_)) | ((with_reducible show wpList _ _ _ (⟨_, .binOp .gtr _ _ _ _, _, _, _, _⟩ :: _) _ _); refine st_gtr rfl _ _ _ _ rfl _ _ _ rfl rfl (fun h_ => ?_) (fun h_ => ?_)) | ((with_reducible show wpList _ _ _ (⟨_, .binOp .geq _ _ _ _, _, _, _, _⟩ :: _) _ _); refine st_geq rfl _ _ _ _ rfl _ _ _ rfl rfl (fun h_ => ?_) (fun h_ => ?_)) | ((with_reducible show wpList _ _ _ (⟨_, .binOp .eql _ _ _ _, _, _, _, _⟩ :: _) _ _); refine st_eql rfl _ _ _ _ rfl _ _ _ rfl rfl (fun h_ => ?_) (fun h_ => ?_)) | ((with_reducible show wpList _ _ _ (⟨_, .binOp .neq _ _ _ _, _, _, _, _⟩ :: _) _ _); refine st_neq rfl _ _ _ _ rfl _ _ _ rfl rfl (fun h_ => ?_) (fun h_ => ?_))) <;> go_prune)
        | ((with_reducible show wpList _ _ _ (⟨_, .indexAddr _ _ _, _, _, _, _⟩ :: _) _ _); refine st_iaddr1 hS rfl _ _ _ rfl _ rfl hidx k1 Tryz.underlying37 (by kernel_rfl) (by omega) _ f1 ?_; intro p_ hc_)
        | ((with_reducible show wpList _ _ _ (⟨_, .makeSlice _ _ _, _, _, _, _⟩ :: _) _ _); refine st_mk hS rfl _ _ _ rfl ty_u64s .i64 .i64 n8 #[.int .u64 0] (congrArg (Value.int .i64) hti) (congrArg (Value.int .i64) hti) (by kernel_rfl) (by omega) (by omega) ?_; clear hS; intro g4 w4 hS))
      have hzz : (madeCells #[Value.int .u64 0] (n8 * 1)).toList = u64s (List.replicate n8 0) := by rw [Nat.mul_one, madeCells_u64]
      rw [hzz] at hS
      clear hti hzz
      go_loopw [32] (fun i wr => ∃ (k : Nat) (L : List Nat), k ≤ ps.length ∧ i = .int .i64 k ∧ L.length = n8 ∧ Words L ∧ val L = valB (ps.take k) ∧ St w0 wr [.own (.slice (some ⟨g4, 0, none⟩) n8 n8) 58 1 n8 (u64s L), .box g2 51 #[.slice none 0 0]] K) (fun i _ => ps.length - (intOf i).toNat)
      case atStart => exact ⟨0, List.replicate n8 0, by omega, rfl, by simp, words_rep _, by rw [val_rep]; rfl, hS⟩
      case round =>
        clear hS
        obtain ⟨k, L, hk, rfl, hL, hW, hV, hS⟩ := hrel
        by_cases hlt : k < ps.length
        · have f1 : (u8s ps)[k]? = some (.int .u8 (ps.getD k 0 : Nat)) := u8s_at ps k hlt
          have hkn : k / 8 < n8 := by have := HN.out; omega
          have hx8 : ps.getD k 0 < 256 := HB.out _ (by rw [List.getD_eq_getElem?_getD, List.getElem?_eq_getElem hlt]; exact List.getElem_mem hlt)
          have HV := Lib.hid (val_byte hW hlt (by omega) hV rfl hx8 HB.out)
          have hown := hS.own 0 rfl
          have hstep := hown.cellAt (k / 8) (by omega)
          rw [u64s_at L _ (by omega)] at hstep
          have hfz := hown.frozenAt (k / 8)
          have HL := Lib.hid hL
          have hy := hW.getD (k / 8)
          have hs8 := shl8 hx8 (k % 8) (Nat.mod_lt _ (by decide))
          have hA : bits .or .u64 ((L.getD (k / 8) 0 : Nat) : Int) (IntKind.u64.wrap ((ps.getD k 0 : Nat) * 2 ^ (8 * (k % 8)))) = ((L.getD (k / 8) 0 ||| ps.getD k 0 * 2 ^ (8 * (k % 8)) : Nat) : Int) := by
            rw [hs8.1]; exact or64 hy hs8.2
          have HS := Lib.hid (hS.put64 0 rfl (k / 8) (L.getD (k / 8) 0 ||| ps.getD k 0 * 2 ^ (8 * (k % 8))))
          clear hown hL hW hV hs8 hy
          generalize (L.getD (k / 8) 0 ||| ps.getD k 0 * 2 ^ (8 * (k % 8))) = z at *
          generalize L.getD (k / 8) 0 = y at *
          generalize ps.getD k 0 = x at *
          go_wp2_with ((with_reducible show wpList _ _ _ (⟨_, .indexAddr _ _ _, _, _, _, _⟩ :: _) _ _); refine st_iaddr1 hS rfl _ _ _ rfl _ rfl rfl (by assumption) Tryz.underlying37 (by kernel_rfl) (by first | assumption | omega) _ (by assumption) ?_; intro p_ hc_)
          go_region
          all_goals
            go_wp2
            exact ⟨⟨k + 1, L.set (k / 8) z, hlt, by go_num, by rw [List.length_set]; exact HL.out, HV.out.1, HV.out.2, HS.out⟩, by simp [intOf]; omega⟩
        · obtain rfl : k = ps.length := by omega
          rw [List.take_length] at hV
          go_wp2_with (first
            | ((with_reducible show wpList _ _ _ (⟨_, .store _ _ _, _, _, _, _⟩ :: _) _ _); first | (refine st_store hS 0 rfl _ _ _ rfl _ _ rfl rfl _ _ rfl (by kernel_rfl) (by kernel_rfl) (by kernel_rfl) ?_; clear hS; intro w_ hS; (try simp only [Act.put, Act.eval, List.set_cons_zero, List.set_cons_succ, List.setIfInBounds_toArray, Array.getD_eq_getD_getElem?, List.getElem?_toArray, List.getElem?_cons_succ, List.getElem?_cons_zero, Option.getD_some, Value.cells] at hS)) | (refine st_store hS 1 rfl _ _ _ rfl _ _ rfl rfl _ _ rfl (by kernel_rfl) (by kernel_rfl) (by kernel_rfl) ?_; clear hS; intro w_ hS; (try simp only [Act.put, Act.eval, List.set_cons_zero, List.set_cons_succ, List.setIfInBounds_toArray, Array.getD_eq_getD_getElem?, List.getElem?_toArray, List.getElem?_cons_succ, List.getElem?_cons_zero, Option.getD_some, Value.cells] at hS)) | (refine st_store hS 2 rfl _ _ _ rfl _ _ rfl rfl _ _ rfl (by kernel_rfl) (by kernel_rfl) (by kernel_rfl) ?_; clear hS; intro w_ hS; (try simp only [Act.put, Act.eval, List.set_cons_zero, List.set_cons_succ, List.setIfInBounds_toArray, Array.getD_eq_getD_getElem?, List.getElem?_toArray, List.getElem?_cons_succ, List.getElem?_cons_zero, Option.getD_some, Value.cells] at hS)) | (refine st_store hS 3 rfl _ _ _ rfl _ _ rfl rfl _ _ rfl (by kernel_rfl) (by kernel_rfl) (by kernel_rfl) ?_; clear hS; intro w_ hS; (try simp only [Act.put, Act.eval, List.set_cons_zero, List.set_cons_succ, List.setIfInBounds_toArray, Array.getD_eq_getD_getElem?, List.getElem?_toArray, List.getElem?_cons_succ, List.getElem?_cons_zero, Option.getD_some, Value.cells] at hS)) | (refine st_cstore hS 0 rfl _ _ _ rfl _ _ _ rfl rfl rfl (by first | (simp; done) | (simp; omega) | exact of_decide_eq_true (by kernel_rfl)) rfl (by first | rfl | assumption) (by kernel_rfl) ?_; clear hS; intro w_ hS; (try simp only [Act.put, Act.eval, List.set_cons_zero, List.set_cons_succ, List.setIfInBounds_toArray, Array.getD_eq_getD_getElem?, List.getElem?_toArray, List.getElem?_cons_succ, List.getElem?_cons_zero, Option.getD_some, Value.cells] at hS)) | (refine st_cstore hS 1 rfl _ _ _ rfl _ _ _ rfl rfl rfl (by first | (simp; done) | (simp; omega) | exact of_decide_eq_true (by kernel_rfl)) rfl (by first | rfl | assumption) (by kernel_rfl) ?_; clear hS; intro w_ hS; (try simp only [Act.put, Act.eval, List.set_cons_zero, List.set_cons_succ, List.setIfInBounds_toArray, Array.getD_eq_getD_getElem?, List.getElem?_toArray, List.getElem?_cons_succ, List.getElem?_cons_zero, Option.getD_some, Value.cells] at hS)) | (refine st_cstore hS 2 rfl _ _ _ rfl _ _ _ rfl rfl rfl (by first | (simp; done) | (simp; omega) | exact of_decide_eq_true (by kernel_rfl)) rfl (by first | rfl | assumption) (by kernel_rfl) ?_; clear hS; intro w_ hS; (try simp only [Act.put, Act.eval, List.set_cons_zero, List.set_cons_succ, List.setIfInBounds_toArray, Array.getD_eq_getD_getElem?, List.getElem?_toArray, List.getElem?_cons_succ, List.getElem?_cons_zero, Option.getD_some, Value.cells] at hS)) | (refine st_cstore hS 3 rfl _ _ _ rfl _ _ _ rfl rfl rfl (by first | (simp; done) | (simp; omega) | exact of_decide_eq_true (by kernel_rfl)) rfl (by first | rfl | assumption) (by kernel_rfl) ?_; clear hS; intro w_ hS; (try simp only [Act.put, Act.eval, List.set_cons_zero, List.set_cons_succ, List.setIfInBounds_toArray, Array.getD_eq_getD_getElem?, List.getElem?_toArray, List.getElem?_cons_succ, List.getElem?_cons_zero, Option.getD_some, Value.cells] at hS)))
            | ((with_reducible show wpList _ _ _ (⟨_, .build _ _, _, _, _, _⟩ :: _) _ _); refine wpList_build_of rfl _ _ rfl #[.slice (some ⟨g4, 0, none⟩) n8 n8] (by kernel_rfl) ?_))
          refine ret2_cell Tryz.results66 rfl (hS.box 1 rfl) Tryz.underlying51 rfl (by kernel_rfl) rfl rfl ?_
          have h9 := hS.own 0 rfl
          rw [← hL] at h9
          exact Ret.mk ⟨_, rfl, hL ▸ IsSet.of_own ⟨canon_bytes hW (hL.trans HN.out) hV HB.out (by omega) HLast.out, hV⟩ h9⟩ hS.below
  · have hE := HE2.out h1 (fun h => h0 h.1)
    subst hE
    clear HE0 HE1 HE1' HE2
    have HLast := Lib.hid (show 0 < ps.length → ps.getD (ps.length - 1) 0 ≠ 0 from fun h => absurd h h0)
    go_wp2_with (first
      | ((with_reducible show wpList _ _ _ (⟨some 2, _, _, _, _, _⟩ :: _) _ _); refine st_allocz hS rfl _ rfl (by kernel_rfl) #[.slice none 0 0] (by kernel_rfl) ?_; clear hS; intro g2 w_ hS; (try simp only [Act.put, Act.eval, List.set_cons_zero, List.set_cons_succ, List.setIfInBounds_toArray, Array.getD_eq_getD_getElem?, List.getElem?_toArray, List.getElem?_cons_succ, List.getElem?_cons_zero, Option.getD_some, Value.cells] at hS))
      | ((with_reducible show wpList _ _ _ (⟨_, .binOp _ _ _ _ _, _, _, _, _⟩ :: _) _ _); (first | ((with_reducible show wpList _ _ _ (⟨_, .binOp .lss _ _ _ _, _, _, _, _⟩ :: _) _ _); refine st_lss rfl _ _ _ _ rfl _ _ _ rfl rfl (fun h_ => ?_) (fun h_ => ?_)) | ((with_reducible show wpList _ _ _ (⟨_, .binOp .leq _ _ _ _, _, _, _, _⟩ :: _) _ _); refine st_leq rfl _ _ _ _ rfl _ _ _ rfl rfl (fun h_ => ?_) (fun h_ => ?_)) | ((with_reducible show wpList _ _ _ (⟨_, .binOp .gtr _ _ _ _, _, _, _, _⟩ :: _) _ _); refine st_gtr rfl _ _ _ _ rfl _ _ _ rfl rfl (fun h_ => ?_) (fun h_ => ?_)) | ((with_reducible show wpList _ _ _ (⟨_, .binOp .geq _ _ _ _, _, _, _, _⟩ :: _) _ _); refine st_geq rfl _ _ _ _ rfl _ _ _ rfl rfl (fun h_ => ?_) (fun h_ => ?_)) | ((with_reducible show wpList _ _ _ (⟨_, .binOp .eql _ _ _ _, _, _, _, _⟩ :: _) _ _); refine st_eql rfl _ _ _ _ rfl _ _ _ rfl rfl (fun h_ => ?_) (fun h_ => ?_)) | ((with_reducible show wpList _ _ _ (⟨_, .binOp .neq _ _ _ _, _, _, _, _⟩ :: _) _ _); refine st_neq rfl _ _ _ _ rfl _ _ _ rfl rfl (fun h_ => ?_) (fun h_ => ?_))) <;> go_prune)
      | ((with_reducible show wpList _ _ _ (⟨_, .makeSlice _ _ _, _, _, _, _⟩ :: _) _ _); refine st_mk hS rfl _ _ _ rfl ty_u64s .i64 .i64 n8 #[.int .u64 0] (congrArg (Value.int .i64) hti) (congrArg (Value.int .i64) hti) (by kernel_rfl) (by omega) (by omega) ?_; clear hS; intro g4 w4 hS))
    clear h0 h_
    have hzz : (madeCells #[Value.int .u64 0] (n8 * 1)).toList = u64s (List.replicate n8 0) := by rw [Nat.mul_one, madeCells_u64]
    rw [hzz] at hS
    clear hti hzz
    go_loopw [32] (fun i wr => ∃ (k : Nat) (L : List Nat), k ≤ ps.length ∧ i = .int .i64 k ∧ L.length = n8 ∧ Words L ∧ val L = valB (ps.take k) ∧ St w0 wr [.own (.slice (some ⟨g4, 0, none⟩) n8 n8) 58 1 n8 (u64s L), .box g2 51 #[.slice none 0 0]] K) (fun i _ => ps.length - (intOf i).toNat)
    case atStart => exact ⟨0, List.replicate n8 0, by omega, rfl, by simp, words_rep _, by rw [val_rep]; rfl, hS⟩
    case round =>
      clear hS
      obtain ⟨k, L, hk, rfl, hL, hW, hV, hS⟩ := hrel
      by_cases hlt : k < ps.length
      · have f1 : (u8s ps)[k]? = some (.int .u8 (ps.getD k 0 : Nat)) := u8s_at ps k hlt
        have hkn : k / 8 < n8 := by have := HN.out; omega
        have hx8 : ps.getD k 0 < 256 := HB.out _ (by rw [List.getD_eq_getElem?_getD, List.getElem?_eq_getElem hlt]; exact List.getElem_mem hlt)
        have HV := Lib.hid (val_byte hW hlt (by omega) hV rfl hx8 HB.out)
        have hown := hS.own 0 rfl
        have hstep := hown.cellAt (k / 8) (by omega)
        rw [u64s_at L _ (by omega)] at hstep
        have hfz := hown.frozenAt (k / 8)
        have HL := Lib.hid hL
        have hy := hW.getD (k / 8)
        have hs8 := shl8 hx8 (k % 8) (Nat.mod_lt _ (by decide))
        have hA : bits .or .u64 ((L.getD (k / 8) 0 : Nat) : Int) (IntKind.u64.wrap ((ps.getD k 0 : Nat) * 2 ^ (8 * (k % 8)))) = ((L.getD (k / 8) 0 ||| ps.getD k 0 * 2 ^ (8 * (k % 8)) : Nat) : Int) := by
          rw [hs8.1]; exact or64 hy hs8.2
        have HS := Lib.hid (hS.put64 0 rfl (k / 8) (L.getD (k / 8) 0 ||| ps.getD k 0 * 2 ^ (8 * (k % 8))))
        clear hown hL hW hV hs8 hy
        generalize (L.getD (k / 8) 0 ||| ps.getD k 0 * 2 ^ (8 * (k % 8))) = z at *
        generalize L.getD (k / 8) 0 = y at *
        generalize ps.getD k 0 = x at *
        go_wp2_with ((with_reducible show wpList _ _ _ (⟨_, .indexAddr _ _ _, _, _, _, _⟩ :: _) _ _); refine st_iaddr1 hS rfl _ _ _ rfl _ rfl rfl (by assumption) Tryz.underlying37 (by kernel_rfl) (by first | assumption | omega) _ (by assumption) ?_; intro p_ hc_)
        go_region
        all_goals
          go_wp2
          exact ⟨⟨k + 1, L.set (k / 8) z, hlt, by go_num, by rw [List.length_set]; exact HL.out, HV.out.1, HV.out.2, HS.out⟩, by simp [intOf]; omega⟩
      · obtain rfl : k = ps.length := by omega
        rw [List.take_length] at hV
        go_wp2_with (first
          | ((with_reducible show wpList _ _ _ (⟨_, .store _ _ _, _, _, _, _⟩ :: _) _ _); first | (refine st_store hS 0 rfl _ _ _ rfl _ _ rfl rfl _ _ rfl (by kernel_rfl) (by kernel_rfl) (by kernel_rfl) ?_; clear hS; intro w_ hS; (try simp only [Act.put, Act.eval, List.set_cons_zero, List.set_cons_succ, List.setIfInBounds_toArray, Array.getD_eq_getD_getElem?, List.getElem?_toArray, List.getElem?_cons_succ, List.getElem?_cons_zero, Option.getD_some, Value.cells] at hS)) | (refine st_store hS 1 rfl _ _ _ rfl _ _ rfl rfl _ _ rfl (by kernel_rfl) (by kernel_rfl) (by kernel_rfl) ?_; clear hS; intro w_ hS; (try simp only [Act.put, Act.eval, List.set_cons_zero, List.set_cons_succ, List.setIfInBounds_toArray, Array.getD_eq_getD_getElem?, List.getElem?_toArray, List.getElem?_cons_succ, List.getElem?_cons_zero, Option.getD_some, Value.cells] at hS)) | (refine st_store hS 2 rfl _ _ _ rfl _ _ rfl rfl _ _ rfl (by kernel_rfl) (by kernel_rfl) (by kernel_rfl) ?_; clear hS; intro w_ hS; (try simp only [Act.put, Act.eval, List.set_cons_zero, List.set_cons_succ, List.setIfInBounds_toArray, Array.getD_eq_getD_getElem?, List.getElem?_toArray, List.getElem?_cons_succ, List.getElem?_cons_zero, Option.getD_some, Value.cells] at hS)) | (refine st_store hS 3 rfl _ _ _ rfl _ _ rfl rfl _ _ rfl (by kernel_rfl) (by kernel_rfl) (by kernel_rfl) ?_; clear hS; intro w_ hS; (try simp only [Act.put, Act.eval, List.set_cons_zero, List.set_cons_succ, List.setIfInBounds_toArray, Array.getD_eq_getD_getElem?, List.getElem?_toArray, List.getElem?_cons_succ, List.getElem?_cons_zero, Option.getD_some, Value.cells] at hS)) | (refine st_cstore hS 0 rfl _ _ _ rfl _ _ _ rfl rfl rfl (by first | (simp; done) | (simp; omega) | exact of_decide_eq_true (by kernel_rfl)) rfl (by first | rfl | assumption) (by kernel_rfl) ?_; clear hS; intro w_ hS; (try simp only [Act.put, Act.eval, List.set_cons_zero, List.set_cons_succ, List.setIfInBounds_toArray, Array.getD_eq_getD_getElem?, List.getElem?_toArray, List.getElem?_cons_succ, List.getElem?_cons_zero, Option.getD_some, Value.cells] at hS)) | (refine st_cstore hS 1 rfl _ _ _ rfl _ _ _ rfl rfl rfl (by first | (simp; done) | (simp; omega) | exact of_decide_eq_true (by kernel_rfl)) rfl (by first | rfl | assumption) (by kernel_rfl) ?_; clear hS; intro w_ hS; (try simp only [Act.put, Act.eval, List.set_cons_zero, List.set_cons_succ, List.setIfInBounds_toArray, Array.getD_eq_getD_getElem?, List.getElem?_toArray, List.getElem?_cons_succ, List.getElem?_cons_zero, Option.getD_some, Value.cells] at hS)) | (refine st_cstore hS 2 rfl _ _ _ rfl _ _ _ rfl rfl rfl (by first | (simp; done) | (simp; omega) | exact of_decide_eq_true (by kernel_rfl)) rfl (by first | rfl | assumption) (by kernel_rfl) ?_; clear hS; intro w_ hS; (try simp only [Act.put, Act.eval, List.set_cons_zero, List.set_cons_succ, List.setIfInBounds_toArray, Array.getD_eq_getD_getElem?, List.getElem?_toArray, List.getElem?_cons_succ, List.getElem?_cons_zero, Option.getD_some, Value.cells] at hS)) | (refine st_cstore hS 3 rfl _ _ _ rfl _ _ _ rfl rfl rfl (by first | (simp; done) | (simp; omega) | exact of_decide_eq_true (by kernel_rfl)) rfl (by first | rfl | assumption) (by kernel_rfl) ?_; clear hS; intro w_ hS; (try simp only [Act.put, Act.eval, List.set_cons_zero, List.set_cons_succ, List.setIfInBounds_toArray, Array.getD_eq_getD_getElem?, List.getElem?_toArray, List.getElem?_cons_succ, List.getElem?_cons_zero, Option.getD_some, Value.cells] at hS)))
          | ((with_reducible show wpList _ _ _ (⟨_, .build _ _, _, _, _, _⟩ :: _) _ _); refine wpList_build_of rfl _ _ rfl #[.slice (some ⟨g4, 0, none⟩) n8 n8] (by kernel_rfl) ?_))
        refine ret2_cell Tryz.results66 rfl (hS.box 1 rfl) Tryz.underlying51 rfl (by kernel_rfl) rfl rfl ?_
        have h9 := hS.own 0 rfl
        rw [← hL] at h9
        exact Ret.mk ⟨_, rfl, hL ▸ IsSet.of_own ⟨canon_bytes hW (hL.trans HN.out) hV HB.out (by omega) HLast.out, hV⟩ h9⟩ hS.below
end Go.Proofs.YtenpkgdnlogfiaaGreatDoor
namespace Go.Proofs.YtenpkgdnlogfiaaGreatDoor
open Go.RowKit
attribute [local go_sem ↓] Go.wp_at_zero Go.wp_at_succ
set_option maxRecDepth 20000

/-- what Set reads -/
def readSet (most : Nat) (left : List Nat) (err : Int) : Nat × List Nat × Int :=
  if err = 0 then
    if (readBytes 512 left 0).2.2 ≠ 0 then (0, (readBytes 512 left 0).2.1, (readBytes 512 left 0).2.2)
    else if readErr (readBytes 512 left 0).1 ≠ 0 then (0, left, 6)
    else if valB (readBytes 512 left 0).1 ≠ 0 ∧ most < (valB (readBytes 512 left 0).1).log2 then (0, left, 2)
    else (valB (readBytes 512 left 0).1, (readBytes 512 left 0).2.1, 0)
  else (0, left, err)
theorem readBytes_mem {most : Nat} {left : List Nat} (hb : Bytes left) : Bytes (readBytes most left 0).1 ∧ (readBytes most left 0).1.length ≤ left.length := by
  unfold readBytes
  rw [if_pos rfl]
  split
  · exact ⟨fun x hx => by simp at hx, by simp⟩
  split
  · exact ⟨fun x hx => by simp at hx, by simp⟩
  split
  · exact ⟨fun x hx => by simp at hx, by simp⟩
  · refine ⟨fun x hx => hb x (List.mem_of_mem_drop (List.mem_of_mem_take hx)), ?_⟩
    simp only [List.length_take, List.length_drop]; omega
theorem rset_any {w0 w : World} {X : List Fact} {K : (Nat → Prop) → World → Prop} {q : Nat} {left : List Nat} {err : Int} (most : Nat) (hm : most ≤ 1000000000000) (hl : left.length ≤ 1000000000000) (hb : Bytes left) (hR : Rd w0 w X K q left err) :
    Calls Tryz.prog 36 #[.pointer (some ⟨q, 0, none⟩), .int .i64 most] w fun r w' => ∃ v, r = .returned v ∧ Rd w0 w' X (fun D w => K D w ∧ IsSet w D v (readSet most left err).1) q (readSet most left err).2.1 (readSet most left err).2.2 := by
  obtain ⟨hK, A, c, l1, l2, hS⟩ := hR
  have HK := Lib.hid hK
  clear hK
  go_enter Tryz.func36, Tryz.ntmps36
  by_cases h0 : err = 0
  · subst h0
    have HE := Lib.hid (show readSet most left 0 = _ from if_pos rfl)
    generalize readSet most left 0 = RES at *
    have HM := Lib.hid (readBytes_mem (most := 512) hb)
    have HBY := Lib.hid fun (w : World) (X' : List Fact) (K' : (Nat → Prop) → World → Prop) (h : Rd w0 w X' K' q left 0) => rbytes_any 512 (by decide) hl hb h
    generalize readBytes 512 left 0 = V at *
    obtain ⟨ps, left2, err2⟩ := V
    dsimp only at HE HM HBY
    go_wp2_with (first
      | ((with_reducible show wpList _ _ _ (⟨some 4, _, _, _, _, _⟩ :: _) _ _); refine st_allocz hS rfl _ rfl (by kernel_rfl) #[.slice none 0 0] (by kernel_rfl) ?_; clear hS; intro g4 w_ hS; (try simp only [Act.put, Act.eval, List.set_cons_zero, List.set_cons_succ, List.setIfInBounds_toArray, Array.getD_eq_getD_getElem?, List.getElem?_toArray, List.getElem?_cons_succ, List.getElem?_cons_zero, Option.getD_some, Value.cells] at hS))
      | (go_at_call 61; refine (rok_any _ 0 _ (hS.shut 1 rfl 1 rfl)).mono ?_; rintro r_ w_ ⟨rfl, rfl⟩)
      | ((with_reducible show wpList _ _ _ (⟨_, .load _ _, _, _, _, _⟩ :: _) _ _); first | (refine st_cell hS 0 rfl _ _ rfl _ _ rfl _ _ rfl (by decide +kernel) _ (by first | assumption | rfl) ?_) | (refine st_cell hS 1 rfl _ _ rfl _ _ rfl _ _ rfl (by decide +kernel) _ (by first | assumption | rfl) ?_) | (refine st_cell hS 2 rfl _ _ rfl _ _ rfl _ _ rfl (by decide +kernel) _ (by first | assumption | rfl) ?_)))
    have hR1 : Rd w0 w_ (.box g4 51 #[.slice none 0 0] :: X) (fun D w => K D w ∧ Sl w D 1 (.slice A left.length c) left.length (u8s left)) q left 0 :=
      ⟨HK.out.and stable_sl, A, c, l1, l2, hS.swap.mono ((HK.out.and stable_sl).and stable_sl) fun D w h => ⟨h, h.2⟩⟩
    clear hS
    refine (HBY.out _ _ _ hR1).mono ?_
    rintro r w2 ⟨p, rfl, hR2⟩
    clear hR1 HBY
    obtain ⟨_, A2, c2, m1, m2, hS⟩ := hR2
    go_wp2_with fail
    refine (sread_any p ps HM.out.1 _ _ hS.ro.1.2 (by have := HM.out.2; omega)).mono ?_
    rintro r w3 ⟨_, rfl, ⟨s, rfl, hset⟩, hb3⟩
    replace hS := hS.ret hb3 stable_set hset
    have HN := Lib.hid (Eq.refl (if readErr ps = 0 then valB ps else 0))
    generalize hN : (if readErr ps = 0 then valB ps else 0) = N at *
    have HN := Lib.hid hN
    clear hN
    generalize readErr ps = e at *
    generalize valB ps = VB at *
    obtain ⟨A3, c3, l3, rfl, -⟩ := hset.parts
    clear hset hb3 HM
    by_cases h2 : err2 = 0
    · subst h2
      by_cases he : e = 0
      · have hVN : VB = N := by have := HN.out; rwa [if_pos he] at this
        subst hVN
        by_cases hN0 : VB = 0
        · have hE : RES = (VB, left2, 0) := by rw [HE.out, if_neg (by simp), if_neg (by simp [he]), if_neg (by simp [hN0])]
          subst hE
          have HG := Lib.hid (show gtst VB = .tuple #[.int .i64 0, .bool false] by rw [hN0]; rfl)
          clear HE HN hN0
          go_wp2_with (first
            | ((with_reducible show wpList _ _ _ (⟨some 6, _, _, _, _, _⟩ :: _) _ _); refine st_allocz hS rfl _ rfl (by kernel_rfl) #[.slice none 0 0] (by kernel_rfl) ?_; clear hS; intro g6 w_ hS; (try simp only [Act.put, Act.eval, List.set_cons_zero, List.set_cons_succ, List.setIfInBounds_toArray, Array.getD_eq_getD_getElem?, List.getElem?_toArray, List.getElem?_cons_succ, List.getElem?_cons_zero, Option.getD_some, Value.cells] at hS))
            | ((with_reducible show wpList _ _ _ (⟨_, .store _ _ _, _, _, _, _⟩ :: _) _ _); first | (refine st_store hS 0 rfl _ _ _ rfl _ _ rfl rfl _ _ rfl (by kernel_rfl) (by kernel_rfl) (by kernel_rfl) ?_; clear hS; intro w_ hS; (try simp only [Act.put, Act.eval, List.set_cons_zero, List.set_cons_succ, List.setIfInBounds_toArray, Array.getD_eq_getD_getElem?, List.getElem?_toArray, List.getElem?_cons_succ, List.getElem?_cons_zero, Option.getD_some, Value.cells] at hS)) | (refine st_store hS 1 rfl _ _ _ rfl _ _ rfl rfl _ _ rfl (by kernel_rfl) (by kernel_rfl) (by kernel_rfl) ?_; clear hS; intro w_ hS; (try simp only [Act.put, Act.eval, List.set_cons_zero, List.set_cons_succ, List.setIfInBounds_toArray, Array.getD_eq_getD_getElem?, List.getElem?_toArray, List.getElem?_cons_succ, List.getElem?_cons_zero, Option.getD_some, Value.cells] at hS)) | (refine st_store hS 2 rfl _ _ _ rfl _ _ rfl rfl _ _ rfl (by kernel_rfl) (by kernel_rfl) (by kernel_rfl) ?_; clear hS; intro w_ hS; (try simp only [Act.put, Act.eval, List.set_cons_zero, List.set_cons_succ, List.setIfInBounds_toArray, Array.getD_eq_getD_getElem?, List.getElem?_toArray, List.getElem?_cons_succ, List.getElem?_cons_zero, Option.getD_some, Value.cells] at hS)) | (refine st_store hS 3 rfl _ _ _ rfl _ _ rfl rfl _ _ rfl (by kernel_rfl) (by kernel_rfl) (by kernel_rfl) ?_; clear hS; intro w_ hS; (try simp only [Act.put, Act.eval, List.set_cons_zero, List.set_cons_succ, List.setIfInBounds_toArray, Array.getD_eq_getD_getElem?, List.getElem?_toArray, List.getElem?_cons_succ, List.getElem?_cons_zero, Option.getD_some, Value.cells] at hS)) | (refine st_cstore hS 0 rfl _ _ _ rfl _ _ _ rfl rfl rfl (by first | (simp; done) | (simp; omega) | exact of_decide_eq_true (by kernel_rfl)) rfl (by first | rfl | assumption) (by kernel_rfl) ?_; clear hS; intro w_ hS; (try simp only [Act.put, Act.eval, List.set_cons_zero, List.set_cons_succ, List.setIfInBounds_toArray, Array.getD_eq_getD_getElem?, List.getElem?_toArray, List.getElem?_cons_succ, List.getElem?_cons_zero, Option.getD_some, Value.cells] at hS)) | (refine st_cstore hS 1 rfl _ _ _ rfl _ _ _ rfl rfl rfl (by first | (simp; done) | (simp; omega) | exact of_decide_eq_true (by kernel_rfl)) rfl (by first | rfl | assumption) (by kernel_rfl) ?_; clear hS; intro w_ hS; (try simp only [Act.put, Act.eval, List.set_cons_zero, List.set_cons_succ, List.setIfInBounds_toArray, Array.getD_eq_getD_getElem?, List.getElem?_toArray, List.getElem?_cons_succ, List.getElem?_cons_zero, Option.getD_some, Value.cells] at hS)) | (refine st_cstore hS 2 rfl _ _ _ rfl _ _ _ rfl rfl rfl (by first | (simp; done) | (simp; omega) | exact of_decide_eq_true (by kernel_rfl)) rfl (by first | rfl | assumption) (by kernel_rfl) ?_; clear hS; intro w_ hS; (try simp only [Act.put, Act.eval, List.set_cons_zero, List.set_cons_succ, List.setIfInBounds_toArray, Array.getD_eq_getD_getElem?, List.getElem?_toArray, List.getElem?_cons_succ, List.getElem?_cons_zero, Option.getD_some, Value.cells] at hS)) | (refine st_cstore hS 3 rfl _ _ _ rfl _ _ _ rfl rfl rfl (by first | (simp; done) | (simp; omega) | exact of_decide_eq_true (by kernel_rfl)) rfl (by first | rfl | assumption) (by kernel_rfl) ?_; clear hS; intro w_ hS; (try simp only [Act.put, Act.eval, List.set_cons_zero, List.set_cons_succ, List.setIfInBounds_toArray, Array.getD_eq_getD_getElem?, List.getElem?_toArray, List.getElem?_cons_succ, List.getElem?_cons_zero, Option.getD_some, Value.cells] at hS)))
            | ((with_reducible show wpList _ _ _ (⟨_, .binOp _ _ _ _ _, _, _, _, _⟩ :: _) _ _); (first | ((with_reducible show wpList _ _ _ (⟨_, .binOp .lss _ _ _ _, _, _, _, _⟩ :: _) _ _); refine st_lss rfl _ _ _ _ rfl _ _ _ rfl rfl (fun h_ => ?_) (fun h_ => ?_)) | ((with_reducible show wpList _ _ _ (⟨_, .binOp .leq _ _ _ _, _, _, _, _⟩ :: _) _ _); refine st_leq rfl _ _ _ _ rfl _ _ _ rfl rfl (fun h_ => ?_) (fun h_ => ?_)) | ((with_reducible show wpList _ _ _ (⟨_, .binOp .gtr _ _ _ _, _, _, _, _⟩ :: _) _ _); refine st_gtr rfl _ _ _ _ rfl _ _ _ rfl rfl (fun h_ => ?_) (fun h_ => ?_)) | ((with_reducible show wpList _ _ _ (⟨_, .binOp .geq _ _ _ _, _, _, _, _⟩ :: _) _ _); refine st_geq rfl _ _ _ _ rfl _ _ _ rfl rfl (fun h_ => ?_) (fun h_ => ?_)) | ((with_reducible show wpList _ _ _ (⟨_, .binOp .eql _ _ _ _, _, _, _, _⟩ :: _) _ _); refine st_eql rfl _ _ _ _ rfl _ _ _ rfl rfl (fun h_ => ?_) (fun h_ => ?_)) | ((with_reducible show wpList _ _ _ (⟨_, .binOp .neq _ _ _ _, _, _, _, _⟩ :: _) _ _); refine st_neq rfl _ _ _ _ rfl _ _ _ rfl rfl (fun h_ => ?_) (fun h_ => ?_))) <;> go_prune)
            | (go_at_call 61; refine (rok_any _ 0 _ (hS.shut 1 rfl 1 rfl)).mono ?_; rintro r_ w_ ⟨rfl, rfl⟩)
            | (go_at_call 68; refine (greatest_any _ _ _ _ hS.ro.2).mono ?_; rw [HG.out]; rintro r_ w_ ⟨_, rfl, rfl, hb_⟩; replace hS := hS.ext hb_; clear hb_)
            | ((with_reducible show wpList _ _ _ (⟨_, .load _ _, _, _, _, _⟩ :: _) _ _); first | refine st_load hS 0 rfl _ _ rfl _ rfl _ _ rfl _ Tryz.underlying51 rfl (by kernel_rfl) ?_ | refine st_load hS 1 rfl _ _ rfl _ rfl _ _ rfl _ Tryz.underlying51 rfl (by kernel_rfl) ?_ | refine st_load hS 2 rfl _ _ rfl _ rfl _ _ rfl _ Tryz.underlying51 rfl (by kernel_rfl) ?_ | refine st_load hS 3 rfl _ _ rfl _ rfl _ _ rfl _ Tryz.underlying51 rfl (by kernel_rfl) ?_)
            | ((with_reducible show wpList _ _ _ (⟨_, .build _ _, _, _, _, _⟩ :: _) _ _); refine wpList_build_of rfl _ _ rfl #[.slice none 0 0] (by kernel_rfl) ?_))
          refine ret_cell Tryz.results36 rfl (hS.box 2 rfl) Tryz.underlying51 rfl (by kernel_rfl) rfl ?_
          exact ⟨_, rfl, HK.out.and stable_set, A2, c2, m1, m2, (hS.sub (.cons _ (.cons_cons _ (.cons _ (.refl _))))).mono ((HK.out.and stable_set).and stable_sl) fun D w h => ⟨⟨h.1.1.1.1, h.2⟩, h.1.2⟩⟩
        · have HG := Lib.hid (show gtst VB = .tuple #[.int .i64 (VB.log2 : Nat), .bool true] by simp [gtst, hN0])
          by_cases hg : most < VB.log2
          · have hE : RES = (0, left, 2) := by rw [HE.out, if_neg (by simp), if_neg (by simp [he]), if_pos ⟨hN0, hg⟩]
            subst hE
            clear HE HN hN0
            generalize VB.log2 = lg at *
            go_wp2_with (first
              | ((with_reducible show wpList _ _ _ (⟨some 6, _, _, _, _, _⟩ :: _) _ _); refine st_allocz hS rfl _ rfl (by kernel_rfl) #[.slice none 0 0] (by kernel_rfl) ?_; clear hS; intro g6 w_ hS; (try simp only [Act.put, Act.eval, List.set_cons_zero, List.set_cons_succ, List.setIfInBounds_toArray, Array.getD_eq_getD_getElem?, List.getElem?_toArray, List.getElem?_cons_succ, List.getElem?_cons_zero, Option.getD_some, Value.cells] at hS))
              | ((with_reducible show wpList _ _ _ (⟨_, .store _ _ _, _, _, _, _⟩ :: _) _ _); first | (refine st_store hS 0 rfl _ _ _ rfl _ _ rfl rfl _ _ rfl (by kernel_rfl) (by kernel_rfl) (by kernel_rfl) ?_; clear hS; intro w_ hS; (try simp only [Act.put, Act.eval, List.set_cons_zero, List.set_cons_succ, List.setIfInBounds_toArray, Array.getD_eq_getD_getElem?, List.getElem?_toArray, List.getElem?_cons_succ, List.getElem?_cons_zero, Option.getD_some, Value.cells] at hS)) | (refine st_store hS 1 rfl _ _ _ rfl _ _ rfl rfl _ _ rfl (by kernel_rfl) (by kernel_rfl) (by kernel_rfl) ?_; clear hS; intro w_ hS; (try simp only [Act.put, Act.eval, List.set_cons_zero, List.set_cons_succ, List.setIfInBounds_toArray, Array.getD_eq_getD_getElem?, List.getElem?_toArray, List.getElem?_cons_succ, List.getElem?_cons_zero, Option.getD_some, Value.cells] at hS)) | (refine st_store hS 2 rfl _ _ _ rfl _ _ rfl rfl _ _ rfl (by kernel_rfl) (by kernel_rfl) (by kernel_rfl) ?_; clear hS; intro w_ hS; (try simp only [Act.put, Act.eval, List.set_cons_zero, List.set_cons_succ, List.setIfInBounds_toArray, Array.getD_eq_getD_getElem?, List.getElem?_toArray, List.getElem?_cons_succ, List.getElem?_cons_zero, Option.getD_some, Value.cells] at hS)) | (refine st_store hS 3 rfl _ _ _ rfl _ _ rfl rfl _ _ rfl (by kernel_rfl) (by kernel_rfl) (by kernel_rfl) ?_; clear hS; intro w_ hS; (try simp only [Act.put, Act.eval, List.set_cons_zero, List.set_cons_succ, List.setIfInBounds_toArray, Array.getD_eq_getD_getElem?, List.getElem?_toArray, List.getElem?_cons_succ, List.getElem?_cons_zero, Option.getD_some, Value.cells] at hS)) | (refine st_cstore hS 0 rfl _ _ _ rfl _ _ _ rfl rfl rfl (by first | (simp; done) | (simp; omega) | exact of_decide_eq_true (by kernel_rfl)) rfl (by first | rfl | assumption) (by kernel_rfl) ?_; clear hS; intro w_ hS; (try simp only [Act.put, Act.eval, List.set_cons_zero, List.set_cons_succ, List.setIfInBounds_toArray, Array.getD_eq_getD_getElem?, List.getElem?_toArray, List.getElem?_cons_succ, List.getElem?_cons_zero, Option.getD_some, Value.cells] at hS)) | (refine st_cstore hS 1 rfl _ _ _ rfl _ _ _ rfl rfl rfl (by first | (simp; done) | (simp; omega) | exact of_decide_eq_true (by kernel_rfl)) rfl (by first | rfl | assumption) (by kernel_rfl) ?_; clear hS; intro w_ hS; (try simp only [Act.put, Act.eval, List.set_cons_zero, List.set_cons_succ, List.setIfInBounds_toArray, Array.getD_eq_getD_getElem?, List.getElem?_toArray, List.getElem?_cons_succ, List.getElem?_cons_zero, Option.getD_some, Value.cells] at hS)) | (refine st_cstore hS 2 rfl _ _ _ rfl _ _ _ rfl rfl rfl (by first | (simp; done) | (simp; omega) | exact of_decide_eq_true (by kernel_rfl)) rfl (by first | rfl | assumption) (by kernel_rfl) ?_; clear hS; intro w_ hS; (try simp only [Act.put, Act.eval, List.set_cons_zero, List.set_cons_succ, List.setIfInBounds_toArray, Array.getD_eq_getD_getElem?, List.getElem?_toArray, List.getElem?_cons_succ, List.getElem?_cons_zero, Option.getD_some, Value.cells] at hS)) | (refine st_cstore hS 3 rfl _ _ _ rfl _ _ _ rfl rfl rfl (by first | (simp; done) | (simp; omega) | exact of_decide_eq_true (by kernel_rfl)) rfl (by first | rfl | assumption) (by kernel_rfl) ?_; clear hS; intro w_ hS; (try simp only [Act.put, Act.eval, List.set_cons_zero, List.set_cons_succ, List.setIfInBounds_toArray, Array.getD_eq_getD_getElem?, List.getElem?_toArray, List.getElem?_cons_succ, List.getElem?_cons_zero, Option.getD_some, Value.cells] at hS)))
              | ((with_reducible show wpList _ _ _ (⟨_, .binOp _ _ _ _ _, _, _, _, _⟩ :: _) _ _); (first | ((with_reducible show wpList _ _ _ (⟨_, .binOp .lss _ _ _ _, _, _, _, _⟩ :: _) _ _); refine st_lss rfl _ _ _ _ rfl _ _ _ rfl rfl (fun h_ => ?_) (fun h_ => ?_)) | ((with_reducible show wpList _ _ _ (⟨_, .binOp .leq _ _ _ _, _, _, _, _⟩ :: _) _ _); refine st_leq rfl _ _ _ _ rfl _ _ _ rfl rfl (fun h_ => ?_) (fun h_ => ?_)) | ((with_reducible show wpList _ _ _ (⟨_, .binOp .gtr _ _ _ _, _, _, _, _⟩ :: _) _ _); refine st_gtr rfl _ _ _ _ rfl _ _ _ rfl rfl (fun h_ => ?_) (fun h_ => ?_)) | ((with_reducible show wpList _ _ _ (⟨_, .binOp .geq _ _ _ _, _, _, _, _⟩ :: _) _ _); refine st_geq rfl _ _ _ _ rfl _ _ _ rfl rfl (fun h_ => ?_) (fun h_ => ?_)) | ((with_reducible show wpList _ _ _ (⟨_, .binOp .eql _ _ _ _, _, _, _, _⟩ :: _) _ _); refine st_eql rfl _ _ _ _ rfl _ _ _ rfl rfl (fun h_ => ?_) (fun h_ => ?_)) | ((with_reducible show wpList _ _ _ (⟨_, .binOp .neq _ _ _ _, _, _, _, _⟩ :: _) _ _); refine st_neq rfl _ _ _ _ rfl _ _ _ rfl rfl (fun h_ => ?_) (fun h_ => ?_))) <;> go_prune)
              | (go_at_call 61; refine (rok_any _ 0 _ (hS.shut 1 rfl 1 rfl)).mono ?_; rintro r_ w_ ⟨rfl, rfl⟩)
              | (go_at_call 68; refine (greatest_any _ _ _ _ hS.ro.2).mono ?_; rw [HG.out]; rintro r_ w_ ⟨_, rfl, rfl, hb_⟩; replace hS := hS.ext hb_; clear hb_)
              | ((with_reducible show wpList _ _ _ (⟨_, .load _ _, _, _, _, _⟩ :: _) _ _); first | refine st_load hS 0 rfl _ _ rfl _ rfl _ _ rfl _ Tryz.underlying51 rfl (by kernel_rfl) ?_ | refine st_load hS 1 rfl _ _ rfl _ rfl _ _ rfl _ Tryz.underlying51 rfl (by kernel_rfl) ?_ | refine st_load hS 2 rfl _ _ rfl _ rfl _ _ rfl _ Tryz.underlying51 rfl (by kernel_rfl) ?_ | refine st_load hS 3 rfl _ _ rfl _ rfl _ _ rfl _ Tryz.underlying51 rfl (by kernel_rfl) ?_)
              | ((with_reducible show wpList _ _ _ (⟨_, .build _ _, _, _, _, _⟩ :: _) _ _); refine wpList_build_of rfl _ _ rfl #[.slice none 0 0] (by kernel_rfl) ?_))
            refine ret_cell Tryz.results36 rfl (hS.box 2 rfl) Tryz.underlying51 rfl (by kernel_rfl) rfl ?_
            exact ⟨_, rfl, HK.out.and stable_set, A, c, l1, l2, (hS.sub (.cons _ (.cons_cons _ (.cons _ (.refl _))))).mono ((HK.out.and stable_set).and stable_sl) fun D w h => ⟨⟨h.1.1.1.1, IsSet.empty⟩, h.1.1.1.2⟩⟩
          · have hE : RES = (VB, left2, 0) := by rw [HE.out, if_neg (by simp), if_neg (by simp [he]), if_neg (by simp [hg])]
            subst hE
            clear HE HN hN0
            generalize VB.log2 = lg at *
            go_wp2_with (first
              | ((with_reducible show wpList _ _ _ (⟨some 6, _, _, _, _, _⟩ :: _) _ _); refine st_allocz hS rfl _ rfl (by kernel_rfl) #[.slice none 0 0] (by kernel_rfl) ?_; clear hS; intro g6 w_ hS; (try simp only [Act.put, Act.eval, List.set_cons_zero, List.set_cons_succ, List.setIfInBounds_toArray, Array.getD_eq_getD_getElem?, List.getElem?_toArray, List.getElem?_cons_succ, List.getElem?_cons_zero, Option.getD_some, Value.cells] at hS))
              | ((with_reducible show wpList _ _ _ (⟨_, .store _ _ _, _, _, _, _⟩ :: _) _ _); first | (refine st_store hS 0 rfl _ _ _ rfl _ _ rfl rfl _ _ rfl (by kernel_rfl) (by kernel_rfl) (by kernel_rfl) ?_; clear hS; intro w_ hS; (try simp only [Act.put, Act.eval, List.set_cons_zero, List.set_cons_succ, List.setIfInBounds_toArray, Array.getD_eq_getD_getElem?, List.getElem?_toArray, List.getElem?_cons_succ, List.getElem?_cons_zero, Option.getD_some, Value.cells] at hS)) | (refine st_store hS 1 rfl _ _ _ rfl _ _ rfl rfl _ _ rfl (by kernel_rfl) (by kernel_rfl) (by kernel_rfl) ?_; clear hS; intro w_ hS; (try simp only [Act.put, Act.eval, List.set_cons_zero, List.set_cons_succ, List.setIfInBounds_toArray, Array.getD_eq_getD_getElem?, List.getElem?_toArray, List.getElem?_cons_succ, List.getElem?_cons_zero, Option.getD_some, Value.cells] at hS)) | (refine st_store hS 2 rfl _ _ _ rfl _ _ rfl rfl _ _ rfl (by kernel_rfl) (by kernel_rfl) (by kernel_rfl) ?_; clear hS; intro w_ hS; (try simp only [Act.put, Act.eval, List.set_cons_zero, List.set_cons_succ, List.setIfInBounds_toArray, Array.getD_eq_getD_getElem?, List.getElem?_toArray, List.getElem?_cons_succ, List.getElem?_cons_zero, Option.getD_some, Value.cells] at hS)) | (refine st_store hS 3 rfl _ _ _ rfl _ _ rfl rfl _ _ rfl (by kernel_rfl) (by kernel_rfl) (by kernel_rfl) ?_; clear hS; intro w_ hS; (try simp only [Act.put, Act.eval, List.set_cons_zero, List.set_cons_succ, List.setIfInBounds_toArray, Array.getD_eq_getD_getElem?, List.getElem?_toArray, List.getElem?_cons_succ, List.getElem?_cons_zero, Option.getD_some, Value.cells] at hS)) | (refine st_cstore hS 0 rfl _ _ _ rfl _ _ _ rfl rfl rfl (by first | (simp; done) | (simp; omega) | exact of_decide_eq_true (by kernel_rfl)) rfl (by first | rfl | assumption) (by kernel_rfl) ?_; clear hS; intro w_ hS; (try simp only [Act.put, Act.eval, List.set_cons_zero, List.set_cons_succ, List.setIfInBounds_toArray, Array.getD_eq_getD_getElem?, List.getElem?_toArray, List.getElem?_cons_succ, List.getElem?_cons_zero, Option.getD_some, Value.cells] at hS)) | (refine st_cstore hS 1 rfl _ _ _ rfl _ _ _ rfl rfl rfl (by first | (simp; done) | (simp; omega) | exact of_decide_eq_true (by kernel_rfl)) rfl (by first | rfl | assumption) (by kernel_rfl) ?_; clear hS; intro w_ hS; (try simp only [Act.put, Act.eval, List.set_cons_zero, List.set_cons_succ, List.setIfInBounds_toArray, Array.getD_eq_getD_getElem?, List.getElem?_toArray, List.getElem?_cons_succ, List.getElem?_cons_zero, Option.getD_some, Value.cells] at hS)) | (refine st_cstore hS 2 rfl _ _ _ rfl _ _ _ rfl rfl rfl (by first | (simp; done) | (simp; omega) | exact of_decide_eq_true (by kernel_rfl)) rfl (by first | rfl | assumption) (by kernel_rfl) ?_; clear hS; intro w_ hS; (try simp only [Act.put, Act.eval, List.set_cons_zero, List.set_cons_succ, List.setIfInBounds_toArray, Array.getD_eq_getD_getElem?, List.getElem?_toArray, List.getElem?_cons_succ, List.getElem?_cons_zero, Option.getD_some, Value.cells] at hS)) | (refine st_cstore hS 3 rfl _ _ _ rfl _ _ _ rfl rfl rfl (by first | (simp; done) | (simp; omega) | exact of_decide_eq_true (by kernel_rfl)) rfl (by first | rfl | assumption) (by kernel_rfl) ?_; clear hS; intro w_ hS; (try simp only [Act.put, Act.eval, List.set_cons_zero, List.set_cons_succ, List.setIfInBounds_toArray, Array.getD_eq_getD_getElem?, List.getElem?_toArray, List.getElem?_cons_succ, List.getElem?_cons_zero, Option.getD_some, Value.cells] at hS)))
              | ((with_reducible show wpList _ _ _ (⟨_, .binOp _ _ _ _ _, _, _, _, _⟩ :: _) _ _); (first | ((with_reducible show wpList _ _ _ (⟨_, .binOp .lss _ _ _ _, _, _, _, _⟩ :: _) _ _); refine st_lss rfl _ _ _ _ rfl _ _ _ rfl rfl (fun h_ => ?_) (fun h_ => ?_)) | ((with_reducible show wpList _ _ _ (⟨_, .binOp .leq _ _ _ _, _, _, _, _⟩ :: _) _ _); refine st_leq rfl _ _ _ _ rfl _ _ _ rfl rfl (fun h_ => ?_) (fun h_ => ?_)) | ((with_reducible show wpList _ _ _ (⟨_, .binOp .gtr _ _ _ _, _, _, _, _⟩ :: _) _ _); refine st_gtr rfl _ _ _ _ rfl _ _ _ rfl rfl (fun h_ => ?_) (fun h_ => ?_)) | ((with_reducible show wpList _ _ _ (⟨_, .binOp .geq _ _ _ _, _, _, _, _⟩ :: _) _ _); refine st_geq rfl _ _ _ _ rfl _ _ _ rfl rfl (fun h_ => ?_) (fun h_ => ?_)) | ((with_reducible show wpList _ _ _ (⟨_, .binOp .eql _ _ _ _, _, _, _, _⟩ :: _) _ _); refine st_eql rfl _ _ _ _ rfl _ _ _ rfl rfl (fun h_ => ?_) (fun h_ => ?_)) | ((with_reducible show wpList _ _ _ (⟨_, .binOp .neq _ _ _ _, _, _, _, _⟩ :: _) _ _); refine st_neq rfl _ _ _ _ rfl _ _ _ rfl rfl (fun h_ => ?_) (fun h_ => ?_))) <;> go_prune)
              | (go_at_call 61; refine (rok_any _ 0 _ (hS.shut 1 rfl 1 rfl)).mono ?_; rintro r_ w_ ⟨rfl, rfl⟩)
              | (go_at_call 68; refine (greatest_any _ _ _ _ hS.ro.2).mono ?_; rw [HG.out]; rintro r_ w_ ⟨_, rfl, rfl, hb_⟩; replace hS := hS.ext hb_; clear hb_)
              | ((with_reducible show wpList _ _ _ (⟨_, .load _ _, _, _, _, _⟩ :: _) _ _); first | refine st_load hS 0 rfl _ _ rfl _ rfl _ _ rfl _ Tryz.underlying51 rfl (by kernel_rfl) ?_ | refine st_load hS 1 rfl _ _ rfl _ rfl _ _ rfl _ Tryz.underlying51 rfl (by kernel_rfl) ?_ | refine st_load hS 2 rfl _ _ rfl _ rfl _ _ rfl _ Tryz.underlying51 rfl (by kernel_rfl) ?_ | refine st_load hS 3 rfl _ _ rfl _ rfl _ _ rfl _ Tryz.underlying51 rfl (by kernel_rfl) ?_)
              | ((with_reducible show wpList _ _ _ (⟨_, .build _ _, _, _, _, _⟩ :: _) _ _); refine wpList_build_of rfl _ _ rfl #[.slice none 0 0] (by kernel_rfl) ?_))
            refine ret_cell Tryz.results36 rfl (hS.box 2 rfl) Tryz.underlying51 rfl (by kernel_rfl) rfl ?_
            exact ⟨_, rfl, HK.out.and stable_set, A2, c2, m1, m2, (hS.sub (.cons _ (.cons_cons _ (.cons _ (.refl _))))).mono ((HK.out.and stable_set).and stable_sl) fun D w h => ⟨⟨h.1.1.1.1, h.2⟩, h.1.2⟩⟩
      · have hVN : 0 = N := by have := HN.out; rwa [if_neg he] at this
        subst hVN
        have hE : RES = (0, left, 6) := by rw [HE.out, if_neg (by simp), if_pos he]
        subst hE
        have HG := Lib.hid (show gtst 0 = .tuple #[.int .i64 0, .bool false] from rfl)
        clear HE HN
        go_wp2_with (first
          | ((with_reducible show wpList _ _ _ (⟨some 6, _, _, _, _, _⟩ :: _) _ _); refine st_allocz hS rfl _ rfl (by kernel_rfl) #[.slice none 0 0] (by kernel_rfl) ?_; clear hS; intro g6 w_ hS; (try simp only [Act.put, Act.eval, List.set_cons_zero, List.set_cons_succ, List.setIfInBounds_toArray, Array.getD_eq_getD_getElem?, List.getElem?_toArray, List.getElem?_cons_succ, List.getElem?_cons_zero, Option.getD_some, Value.cells] at hS))
          | ((with_reducible show wpList _ _ _ (⟨_, .store _ _ _, _, _, _, _⟩ :: _) _ _); first | (refine st_store hS 0 rfl _ _ _ rfl _ _ rfl rfl _ _ rfl (by kernel_rfl) (by kernel_rfl) (by kernel_rfl) ?_; clear hS; intro w_ hS; (try simp only [Act.put, Act.eval, List.set_cons_zero, List.set_cons_succ, List.setIfInBounds_toArray, Array.getD_eq_getD_getElem?, List.getElem?_toArray, List.getElem?_cons_succ, List.getElem?_cons_zero, Option.getD_some, Value.cells] at hS)) | (refine st_store hS 1 rfl _ _ _ rfl _ _ rfl rfl _ _ rfl (by kernel_rfl) (by kernel_rfl) (by kernel_rfl) ?_; clear hS; intro w_ hS; (try simp only [Act.put, Act.eval, List.set_cons_zero, List.set_cons_succ, List.setIfInBounds_toArray, Array.getD_eq_getD_getElem?, List.getElem?_toArray, List.getElem?_cons_succ, List.getElem?_cons_zero, Option.getD_some, Value.cells] at hS)) | (refine st_store hS 2 rfl _ _ _ rfl _ _ rfl rfl _ _ rfl (by kernel_rfl) (by kernel_rfl) (by kernel_rfl) ?_; clear hS; intro w_ hS; (try simp only [Act.put, Act.eval, List.set_cons_zero, List.set_cons_succ, List.setIfInBounds_toArray, Array.getD_eq_getD_getElem?, List.getElem?_toArray, List.getElem?_cons_succ, List.getElem?_cons_zero, Option.getD_some, Value.cells] at hS)) | (refine st_store hS 3 rfl _ _ _ rfl _ _ rfl rfl _ _ rfl (by kernel_rfl) (by kernel_rfl) (by kernel_rfl) ?_; clear hS; intro w_ hS; (try simp only [Act.put, Act.eval, List.set_cons_zero, List.set_cons_succ, List.setIfInBounds_toArray, Array.getD_eq_getD_getElem?, List.getElem?_toArray, List.getElem?_cons_succ, List.getElem?_cons_zero, Option.getD_some, Value.cells] at hS)) | (refine st_cstore hS 0 rfl _ _ _ rfl _ _ _ rfl rfl rfl (by first | (simp; done) | (simp; omega) | exact of_decide_eq_true (by kernel_rfl)) rfl (by first | rfl | assumption) (by kernel_rfl) ?_; clear hS; intro w_ hS; (try simp only [Act.put, Act.eval, List.set_cons_zero, List.set_cons_succ, List.setIfInBounds_toArray, Array.getD_eq_getD_getElem?, List.getElem?_toArray, List.getElem?_cons_succ, List.getElem?_cons_zero, Option.getD_some, Value.cells] at hS)) | (refine st_cstore hS 1 rfl _ _ _ rfl _ _ _ rfl rfl rfl (by first | (simp; done) | (simp; omega) | exact of_decide_eq_true (by kernel_rfl)) rfl (by first | rfl | assumption) (by kernel_rfl) ?_; clear hS; intro w_ hS; (try simp only [Act.put, Act.eval, List.set_cons_zero, List.set_cons_succ, List.setIfInBounds_toArray, Array.getD_eq_getD_getElem?, List.getElem?_toArray, List.getElem?_cons_succ, List.getElem?_cons_zero, Option.getD_some, Value.cells] at hS)) | (refine st_cstore hS 2 rfl _ _ _ rfl _ _ _ rfl rfl rfl (by first | (simp; done) | (simp; omega) | exact of_decide_eq_true (by kernel_rfl)) rfl (by first | rfl | assumption) (by kernel_rfl) ?_; clear hS; intro w_ hS; (try simp only [Act.put, Act.eval, List.set_cons_zero, List.set_cons_succ, List.setIfInBounds_toArray, Array.getD_eq_getD_getElem?, List.getElem?_toArray, List.getElem?_cons_succ, List.getElem?_cons_zero, Option.getD_some, Value.cells] at hS)) | (refine st_cstore hS 3 rfl _ _ _ rfl _ _ _ rfl rfl rfl (by first | (simp; done) | (simp; omega) | exact of_decide_eq_true (by kernel_rfl)) rfl (by first | rfl | assumption) (by kernel_rfl) ?_; clear hS; intro w_ hS; (try simp only [Act.put, Act.eval, List.set_cons_zero, List.set_cons_succ, List.setIfInBounds_toArray, Array.getD_eq_getD_getElem?, List.getElem?_toArray, List.getElem?_cons_succ, List.getElem?_cons_zero, Option.getD_some, Value.cells] at hS)))
          | ((with_reducible show wpList _ _ _ (⟨_, .binOp _ _ _ _ _, _, _, _, _⟩ :: _) _ _); (first | ((with_reducible show wpList _ _ _ (⟨_, .binOp .lss _ _ _ _, _, _, _, _⟩ :: _) _ _); refine st_lss rfl _ _ _ _ rfl _ _ _ rfl rfl (fun h_ => ?_) (fun h_ => ?_)) | ((with_reducible show wpList _ _ _ (⟨_, .binOp .leq _ _ _ _, _, _, _, _⟩ :: _) _ _); refine st_leq rfl _ _ _ _ rfl _ _ _ rfl rfl (fun h_ => ?_) (fun h_ => ?_)) | ((with_reducible show wpList _ _ _ (⟨_, .binOp .gtr _ _ _ _, _, _, _, _⟩ :: _) _ _); refine st_gtr rfl _ _ _ _ rfl _ _ _ rfl rfl (fun h_ => ?_) (fun h_ => ?_)) | ((with_reducible show wpList _ _ _ (⟨_, .binOp .geq _ _ _ _, _, _, _, _⟩ :: _) _ _); refine st_geq rfl _ _ _ _ rfl _ _ _ rfl rfl (fun h_ => ?_) (fun h_ => ?_)) | ((with_reducible show wpList _ _ _ (⟨_, .binOp .eql _ _ _ _, _, _, _, _⟩ :: _) _ _); refine st_eql rfl _ _ _ _ rfl _ _ _ rfl rfl (fun h_ => ?_) (fun h_ => ?_)) | ((with_reducible show wpList _ _ _ (⟨_, .binOp .neq _ _ _ _, _, _, _, _⟩ :: _) _ _); refine st_neq rfl _ _ _ _ rfl _ _ _ rfl rfl (fun h_ => ?_) (fun h_ => ?_))) <;> go_prune)
          | (go_at_call 61; refine (rok_any _ 0 _ (hS.shut 1 rfl 1 rfl)).mono ?_; rintro r_ w_ ⟨rfl, rfl⟩)
          | (go_at_call 68; refine (greatest_any _ _ _ _ hS.ro.2).mono ?_; rw [HG.out]; rintro r_ w_ ⟨_, rfl, rfl, hb_⟩; replace hS := hS.ext hb_; clear hb_)
          | ((with_reducible show wpList _ _ _ (⟨_, .load _ _, _, _, _, _⟩ :: _) _ _); first | refine st_load hS 0 rfl _ _ rfl _ rfl _ _ rfl _ Tryz.underlying51 rfl (by kernel_rfl) ?_ | refine st_load hS 1 rfl _ _ rfl _ rfl _ _ rfl _ Tryz.underlying51 rfl (by kernel_rfl) ?_ | refine st_load hS 2 rfl _ _ rfl _ rfl _ _ rfl _ Tryz.underlying51 rfl (by kernel_rfl) ?_ | refine st_load hS 3 rfl _ _ rfl _ rfl _ _ rfl _ Tryz.underlying51 rfl (by kernel_rfl) ?_)
          | ((with_reducible show wpList _ _ _ (⟨_, .build _ _, _, _, _, _⟩ :: _) _ _); refine wpList_build_of rfl _ _ rfl #[.slice none 0 0] (by kernel_rfl) ?_))
        refine ret_cell Tryz.results36 rfl (hS.box 2 rfl) Tryz.underlying51 rfl (by kernel_rfl) rfl ?_
        exact ⟨_, rfl, HK.out.and stable_set, A, c, l1, l2, (hS.sub (.cons _ (.cons_cons _ (.cons _ (.refl _))))).mono ((HK.out.and stable_set).and stable_sl) fun D w h => ⟨⟨h.1.1.1.1, IsSet.empty⟩, h.1.1.1.2⟩⟩
    · have hd : decide (err2 = 0) = false := by simpa using h2
      have hE : RES = (0, left2, err2) := by rw [HE.out, if_pos h2]
      subst hE
      clear HE
      go_wp2_with (first
        | ((with_reducible show wpList _ _ _ (⟨some 6, _, _, _, _, _⟩ :: _) _ _); refine st_allocz hS rfl _ rfl (by kernel_rfl) #[.slice none 0 0] (by kernel_rfl) ?_; clear hS; intro g6 w_ hS; (try simp only [Act.put, Act.eval, List.set_cons_zero, List.set_cons_succ, List.setIfInBounds_toArray, Array.getD_eq_getD_getElem?, List.getElem?_toArray, List.getElem?_cons_succ, List.getElem?_cons_zero, Option.getD_some, Value.cells] at hS))
        | ((with_reducible show wpList _ _ _ (⟨_, .store _ _ _, _, _, _, _⟩ :: _) _ _); first | (refine st_store hS 0 rfl _ _ _ rfl _ _ rfl rfl _ _ rfl (by kernel_rfl) (by kernel_rfl) (by kernel_rfl) ?_; clear hS; intro w_ hS; (try simp only [Act.put, Act.eval, List.set_cons_zero, List.set_cons_succ, List.setIfInBounds_toArray, Array.getD_eq_getD_getElem?, List.getElem?_toArray, List.getElem?_cons_succ, List.getElem?_cons_zero, Option.getD_some, Value.cells] at hS)) | (refine st_store hS 1 rfl _ _ _ rfl _ _ rfl rfl _ _ rfl (by kernel_rfl) (by kernel_rfl) (by kernel_rfl) ?_; clear hS; intro w_ hS; (try simp only [Act.put, Act.eval, List.set_cons_zero, List.set_cons_succ, List.setIfInBounds_toArray, Array.getD_eq_getD_getElem?, List.getElem?_toArray, List.getElem?_cons_succ, List.getElem?_cons_zero, Option.getD_some, Value.cells] at hS)) | (refine st_store hS 2 rfl _ _ _ rfl _ _ rfl rfl _ _ rfl (by kernel_rfl) (by kernel_rfl) (by kernel_rfl) ?_; clear hS; intro w_ hS; (try simp only [Act.put, Act.eval, List.set_cons_zero, List.set_cons_succ, List.setIfInBounds_toArray, Array.getD_eq_getD_getElem?, List.getElem?_toArray, List.getElem?_cons_succ, List.getElem?_cons_zero, Option.getD_some, Value.cells] at hS)) | (refine st_store hS 3 rfl _ _ _ rfl _ _ rfl rfl _ _ rfl (by kernel_rfl) (by kernel_rfl) (by kernel_rfl) ?_; clear hS; intro w_ hS; (try simp only [Act.put, Act.eval, List.set_cons_zero, List.set_cons_succ, List.setIfInBounds_toArray, Array.getD_eq_getD_getElem?, List.getElem?_toArray, List.getElem?_cons_succ, List.getElem?_cons_zero, Option.getD_some, Value.cells] at hS)) | (refine st_cstore hS 0 rfl _ _ _ rfl _ _ _ rfl rfl rfl (by first | (simp; done) | (simp; omega) | exact of_decide_eq_true (by kernel_rfl)) rfl (by first | rfl | assumption) (by kernel_rfl) ?_; clear hS; intro w_ hS; (try simp only [Act.put, Act.eval, List.set_cons_zero, List.set_cons_succ, List.setIfInBounds_toArray, Array.getD_eq_getD_getElem?, List.getElem?_toArray, List.getElem?_cons_succ, List.getElem?_cons_zero, Option.getD_some, Value.cells] at hS)) | (refine st_cstore hS 1 rfl _ _ _ rfl _ _ _ rfl rfl rfl (by first | (simp; done) | (simp; omega) | exact of_decide_eq_true (by kernel_rfl)) rfl (by first | rfl | assumption) (by kernel_rfl) ?_; clear hS; intro w_ hS; (try simp only [Act.put, Act.eval, List.set_cons_zero, List.set_cons_succ, List.setIfInBounds_toArray, Array.getD_eq_getD_getElem?, List.getElem?_toArray, List.getElem?_cons_succ, List.getElem?_cons_zero, Option.getD_some, Value.cells] at hS)) | (refine st_cstore hS 2 rfl _ _ _ rfl _ _ _ rfl rfl rfl (by first | (simp; done) | (simp; omega) | exact of_decide_eq_true (by kernel_rfl)) rfl (by first | rfl | assumption) (by kernel_rfl) ?_; clear hS; intro w_ hS; (try simp only [Act.put, Act.eval, List.set_cons_zero, List.set_cons_succ, List.setIfInBounds_toArray, Array.getD_eq_getD_getElem?, List.getElem?_toArray, List.getElem?_cons_succ, List.getElem?_cons_zero, Option.getD_some, Value.cells] at hS)) | (refine st_cstore hS 3 rfl _ _ _ rfl _ _ _ rfl rfl rfl (by first | (simp; done) | (simp; omega) | exact of_decide_eq_true (by kernel_rfl)) rfl (by first | rfl | assumption) (by kernel_rfl) ?_; clear hS; intro w_ hS; (try simp only [Act.put, Act.eval, List.set_cons_zero, List.set_cons_succ, List.setIfInBounds_toArray, Array.getD_eq_getD_getElem?, List.getElem?_toArray, List.getElem?_cons_succ, List.getElem?_cons_zero, Option.getD_some, Value.cells] at hS)))
        | (go_at_call 61; refine (rok_any _ err2 _ (hS.shut 1 rfl 1 rfl)).mono ?_; rw [hd]; rintro r_ w_ ⟨rfl, rfl⟩)
        | ((with_reducible show wpList _ _ _ (⟨_, .build _ _, _, _, _, _⟩ :: _) _ _); refine wpList_build_of rfl _ _ rfl #[.slice none 0 0] (by kernel_rfl) ?_))
      refine ret_cell Tryz.results36 rfl (hS.box 2 rfl) Tryz.underlying51 rfl (by kernel_rfl) rfl ?_
      exact ⟨_, rfl, HK.out.and stable_set, A2, c2, m1, m2, (hS.sub (.cons _ (.cons_cons _ (.cons _ (.refl _))))).mono ((HK.out.and stable_set).and stable_sl) fun D w h => ⟨⟨h.1.1.1.1, IsSet.empty⟩, h.1.2⟩⟩
  · have hd : decide (err = 0) = false := by simpa using h0
    have HE := Lib.hid (show readSet most left err = (0, left, err) by rw [readSet, if_neg h0])
    go_wp2_with (first
      | ((with_reducible show wpList _ _ _ (⟨some 4, _, _, _, _, _⟩ :: _) _ _); refine st_allocz hS rfl _ rfl (by kernel_rfl) #[.slice none 0 0] (by kernel_rfl) ?_; clear hS; intro g4 w_ hS; (try simp only [Act.put, Act.eval, List.set_cons_zero, List.set_cons_succ, List.setIfInBounds_toArray, Array.getD_eq_getD_getElem?, List.getElem?_toArray, List.getElem?_cons_succ, List.getElem?_cons_zero, Option.getD_some, Value.cells] at hS))
      | (go_at_call 61; refine (rok_any _ err _ (hS.shut 1 rfl 1 rfl)).mono ?_; rw [hd]; rintro r_ w_ ⟨rfl, rfl⟩)
      | ((with_reducible show wpList _ _ _ (⟨_, .store _ _ _, _, _, _, _⟩ :: _) _ _); first | (refine st_store hS 0 rfl _ _ _ rfl _ _ rfl rfl _ _ rfl (by kernel_rfl) (by kernel_rfl) (by kernel_rfl) ?_; clear hS; intro w_ hS; (try simp only [Act.put, Act.eval, List.set_cons_zero, List.set_cons_succ, List.setIfInBounds_toArray, Array.getD_eq_getD_getElem?, List.getElem?_toArray, List.getElem?_cons_succ, List.getElem?_cons_zero, Option.getD_some, Value.cells] at hS)) | (refine st_store hS 1 rfl _ _ _ rfl _ _ rfl rfl _ _ rfl (by kernel_rfl) (by kernel_rfl) (by kernel_rfl) ?_; clear hS; intro w_ hS; (try simp only [Act.put, Act.eval, List.set_cons_zero, List.set_cons_succ, List.setIfInBounds_toArray, Array.getD_eq_getD_getElem?, List.getElem?_toArray, List.getElem?_cons_succ, List.getElem?_cons_zero, Option.getD_some, Value.cells] at hS)) | (refine st_store hS 2 rfl _ _ _ rfl _ _ rfl rfl _ _ rfl (by kernel_rfl) (by kernel_rfl) (by kernel_rfl) ?_; clear hS; intro w_ hS; (try simp only [Act.put, Act.eval, List.set_cons_zero, List.set_cons_succ, List.setIfInBounds_toArray, Array.getD_eq_getD_getElem?, List.getElem?_toArray, List.getElem?_cons_succ, List.getElem?_cons_zero, Option.getD_some, Value.cells] at hS)) | (refine st_store hS 3 rfl _ _ _ rfl _ _ rfl rfl _ _ rfl (by kernel_rfl) (by kernel_rfl) (by kernel_rfl) ?_; clear hS; intro w_ hS; (try simp only [Act.put, Act.eval, List.set_cons_zero, List.set_cons_succ, List.setIfInBounds_toArray, Array.getD_eq_getD_getElem?, List.getElem?_toArray, List.getElem?_cons_succ, List.getElem?_cons_zero, Option.getD_some, Value.cells] at hS)) | (refine st_cstore hS 0 rfl _ _ _ rfl _ _ _ rfl rfl rfl (by first | (simp; done) | (simp; omega) | exact of_decide_eq_true (by kernel_rfl)) rfl (by first | rfl | assumption) (by kernel_rfl) ?_; clear hS; intro w_ hS; (try simp only [Act.put, Act.eval, List.set_cons_zero, List.set_cons_succ, List.setIfInBounds_toArray, Array.getD_eq_getD_getElem?, List.getElem?_toArray, List.getElem?_cons_succ, List.getElem?_cons_zero, Option.getD_some, Value.cells] at hS)) | (refine st_cstore hS 1 rfl _ _ _ rfl _ _ _ rfl rfl rfl (by first | (simp; done) | (simp; omega) | exact of_decide_eq_true (by kernel_rfl)) rfl (by first | rfl | assumption) (by kernel_rfl) ?_; clear hS; intro w_ hS; (try simp only [Act.put, Act.eval, List.set_cons_zero, List.set_cons_succ, List.setIfInBounds_toArray, Array.getD_eq_getD_getElem?, List.getElem?_toArray, List.getElem?_cons_succ, List.getElem?_cons_zero, Option.getD_some, Value.cells] at hS)) | (refine st_cstore hS 2 rfl _ _ _ rfl _ _ _ rfl rfl rfl (by first | (simp; done) | (simp; omega) | exact of_decide_eq_true (by kernel_rfl)) rfl (by first | rfl | assumption) (by kernel_rfl) ?_; clear hS; intro w_ hS; (try simp only [Act.put, Act.eval, List.set_cons_zero, List.set_cons_succ, List.setIfInBounds_toArray, Array.getD_eq_getD_getElem?, List.getElem?_toArray, List.getElem?_cons_succ, List.getElem?_cons_zero, Option.getD_some, Value.cells] at hS)) | (refine st_cstore hS 3 rfl _ _ _ rfl _ _ _ rfl rfl rfl (by first | (simp; done) | (simp; omega) | exact of_decide_eq_true (by kernel_rfl)) rfl (by first | rfl | assumption) (by kernel_rfl) ?_; clear hS; intro w_ hS; (try simp only [Act.put, Act.eval, List.set_cons_zero, List.set_cons_succ, List.setIfInBounds_toArray, Array.getD_eq_getD_getElem?, List.getElem?_toArray, List.getElem?_cons_succ, List.getElem?_cons_zero, Option.getD_some, Value.cells] at hS)))
      | ((with_reducible show wpList _ _ _ (⟨_, .build _ _, _, _, _, _⟩ :: _) _ _); refine wpList_build_of rfl _ _ rfl #[.slice none 0 0] (by kernel_rfl) ?_))
    rw [HE.out]
    refine ret_cell Tryz.results36 rfl (hS.box 0 rfl) Tryz.underlying51 rfl (by kernel_rfl) rfl ?_
    exact ⟨_, rfl, HK.out.and stable_set, A, c, l1, l2, (hS.sub (.cons _ (.refl _))).mono ((HK.out.and stable_set).and stable_sl) fun D w h => ⟨⟨h.1, IsSet.empty⟩, h.2⟩⟩
end Go.Proofs.YtenpkgdnlogfiaaGreatDoor
namespace Go.Proofs.YtenpkgdnlogfiaaGreatDoor
open Go.RowKit
set_option maxRecDepth 20000

theorem numR_hi7 : ∀ (f x : Nat) (s : List Nat), x < 128 ^ f → x ≤ 144115188075855871 → numR ((hi7 f x).reverse ++ s) 0 0 = if x = 0 then numR s 0 0 else numR s x (hi7 f x).length
  | 0, x, s, h, _ => by
    obtain rfl : x = 0 := by simpa using h
    simp [hi7]
  | f + 1, x, s, h, hb => by
    by_cases h0 : x = 0
    · simp [hi7, h0]
    · have h1 : x / 128 < 128 ^ f := Nat.div_lt_of_lt_mul (by rw [Nat.mul_comm, ← Nat.pow_succ]; exact h)
      have ih := numR_hi7 f (x / 128) ((x % 128 + 128) :: s) h1 (by omega)
      have e : (hi7 (f + 1) x).reverse ++ s = (hi7 f (x / 128)).reverse ++ ((x % 128 + 128) :: s) := by simp [hi7, h0]
      rw [e, ih, if_neg h0]
      have el : (hi7 (f + 1) x).length = (hi7 f (x / 128)).length + 1 := by simp [hi7, h0]
      rw [el]
      by_cases h2 : x / 128 = 0
      · have ez : hi7 f (x / 128) = [] := by rw [h2]; cases f <;> simp [hi7]
        rw [if_pos h2, ez, numR, if_neg (by omega), if_neg (by omega)]
        congr 1; omega
      · have hn : (hi7 f (x / 128)).length ≠ 0 := by
          cases f with
          | zero => simp at h1; omega
          | succ f => simp [hi7, h2]
        rw [if_neg h2, numR, if_neg (by omega), if_neg (by omega)]
        congr 1; omega
theorem numR_putN {v : Nat} (hv : v < T64) (r : List Nat) : numR (putN v ++ r) 0 0 = (v, (putN v).length) := by
  unfold T64 at hv
  have e : putN v ++ r = (hi7 10 (v / 128)).reverse ++ ((v % 128) :: r) := by simp [putN]
  have el : (putN v).length = (hi7 10 (v / 128)).length + 1 := by simp [putN]
  rw [e, el, numR_hi7 10 (v / 128) _ (by omega) (by omega)]
  by_cases h : v / 128 = 0
  · rw [if_pos h, h, numR, if_neg (by omega), if_pos (by omega)]
    simp [hi7]; omega
  · rw [if_neg h, numR, if_neg (by
      rintro (h1 | h1)
      · omega
      · omega), if_pos (by omega)]
    congr 1; omega
theorem putN_pos (v : Nat) : (putN v).length ≠ 0 := by simp [putN]
theorem readUint_putN {v most : Nat} (hv : v < T64) (hm : v ≤ most) (r : List Nat) : readUint most (putN v ++ r) 0 = (v, r, 0) := by
  have := putN_pos v
  rw [readUint, if_pos rfl, numR_putN hv, if_neg (by omega), if_neg (by omega)]
  simp
theorem readCount_putN {v most : Nat} (hv : v < T64) (hm : v ≤ most) (r : List Nat) : readCount most (putN v ++ r) 0 = (v, r, 0) := by
  have := putN_pos v
  rw [readCount, if_pos rfl, numR_putN hv, if_neg (by omega), if_neg (by omega)]
  simp
theorem readFlag_putFlag (b : Bool) (r : List Nat) : readFlag (putFlag b ++ r) 0 = (b, r, 0) := by cases b <;> simp [readFlag, putFlag]
theorem readRaw_append {n : Nat} {l : List Nat} (h : l.length = n) (r : List Nat) : readRaw n (l ++ r) 0 = (l, r, 0) := by
  subst h
  rw [readRaw, if_pos rfl, if_neg (by simp)]; simp
theorem readBytes_put {l : List Nat} {most : Nat} (h : l.length ≤ most) (hT : l.length < T64) (r : List Nat) : readBytes most (putN l.length ++ (l ++ r)) 0 = (l, r, 0) := by
  have := putN_pos l.length
  rw [readBytes, if_pos rfl, numR_putN hT]
  dsimp only
  rw [if_neg (by omega), if_neg (by omega), if_neg (by simp)]
  simp
theorem valB_append (l : List Nat) (x : Nat) : valB (l ++ [x]) = valB l + x * 2 ^ (8 * l.length) := by
  have h := valB_take (l := l ++ [x]) (k := l.length) (by simp)
  rw [List.take_of_length_le (by simp)] at h
  simpa using h
theorem valB_bytes (N : Nat) : ∀ m, valB ((List.range m).map fun k => (N >>> (8 * k)) % 256) = N % 2 ^ (8 * m)
  | 0 => by simp [valB, Nat.mod_one]
  | m + 1 => by
    rw [List.range_succ, List.map_append, List.map_cons, List.map_nil, valB_append, valB_bytes N m]
    rw [List.length_map, List.length_range, show 8 * (m + 1) = 8 * m + 8 by omega, Nat.pow_add, Nat.mod_mul, Nat.shiftRight_eq_div_pow]
    rw [Nat.mul_comm (2 ^ (8 * m))]
theorem setBytes_val (N : Nat) : valB (setBytes N) = N := by
  unfold setBytes
  split
  · rename_i h; rw [h]; rfl
  · rw [valB_bytes, Nat.mod_eq_of_lt]
    exact Nat.lt_of_lt_of_le Nat.lt_log2_self (Nat.pow_le_pow_right (by decide) (by omega))
theorem setBytes_err {N : Nat} (h : N < 2 ^ 4096) : readErr (setBytes N) = 0 := by
  have h5 := setBytes_len h
  unfold readErr
  rw [if_neg]
  rintro (h1 | ⟨h1, h2⟩)
  · omega
  · have hN : N ≠ 0 := by
      intro e; rw [e] at h1; simp [setBytes] at h1
    have el : (setBytes N).length = N.log2 / 8 + 1 := by simp [setBytes, hN]
    have eg : (setBytes N).getD ((setBytes N).length - 1) 0 = (N >>> (8 * (N.log2 / 8))) % 256 := by
      rw [el]; simp [setBytes, hN]
    rw [eg, Nat.shiftRight_eq_div_pow] at h2
    have hlo : 2 ^ (8 * (N.log2 / 8)) ≤ N := Nat.le_trans (Nat.pow_le_pow_right (by decide) (by omega)) (Nat.log2_self_le hN)
    have hhi : N < 2 ^ (8 * (N.log2 / 8) + 8) := Nat.lt_of_lt_of_le Nat.lt_log2_self (Nat.pow_le_pow_right (by decide) (by omega))
    rw [Nat.pow_add, show (2 : Nat) ^ 8 = 256 from rfl] at hhi
    have hp := Nat.two_pow_pos (8 * (N.log2 / 8))
    generalize 2 ^ (8 * (N.log2 / 8)) = P at *
    have h3 : N / P < 256 := Nat.div_lt_of_lt_mul hhi
    have h4 : 0 < N / P := Nat.div_pos hlo hp
    omega
theorem readSet_put {N most : Nat} (h : N < 2 ^ 4096) (hm : N ≠ 0 → N.log2 ≤ most) (r : List Nat) : readSet most (putSet N ++ r) 0 = (N, r, 0) := by
  have h5 := setBytes_len h
  have e : putSet N ++ r = putN (setBytes N).length ++ (setBytes N ++ r) := by simp [putSet]
  rw [readSet, if_pos rfl, e, readBytes_put h5 (by unfold T64; omega)]
  dsimp only
  rw [if_neg (by simp), setBytes_err h, setBytes_val, if_neg (by simp), if_neg]
  rintro ⟨h1, h2⟩
  have := hm h1
  omega
end Go.Proofs.YtenpkgdnlogfiaaGreatDoor
